/- The interpreter's tables fit the program. · The interpreter speaks of this program. · The first layer. -/
import Derived.Test.YtkenjojkpdeooaaGreatDoorM8
import Derived.Test.YtkenjojkpdeooaaGreatDoorM7
import Derived.Test.YtkenjojkpdeooaaGreatDoorM6
section
set_option linter.unusedVariables false
set_option linter.unusedSimpArgs false
set_option linter.constructorNameAsVariable false
namespace Go.Proofs.YtkenjojkpdeooaaGreatDoor
open AI

theorem eqCells_str {cks : List CK} {xs ys : List AV} {b : Bool} (h : eqCells (.str :: cks) xs ys = some b) : ∃ p r xs' ys' b', xs = .str p :: xs' ∧ ys = .str r :: ys' ∧ eqCells cks xs' ys' = some b' ∧ b = ((p == r) && b') := by
  cases xs with
  | nil => cases ys <;> simp [eqCells] at h
  | cons x xs =>
    cases ys with
    | nil => cases x <;> simp [eqCells] at h
    | cons y ys =>
      cases x <;> cases y <;> simp only [eqCells, reduceCtorEq] at h
      split at h
      · rename_i b' hb
        cases h
        exact ⟨_, _, _, _, b', rfl, rfl, hb, rfl⟩
      · cases h
theorem eqCells_bool {cks : List CK} {xs ys : List AV} {b : Bool} (h : eqCells (.bool :: cks) xs ys = some b) : ∃ p r xs' ys' b', xs = .bool p :: xs' ∧ ys = .bool r :: ys' ∧ eqCells cks xs' ys' = some b' ∧ b = ((p == r) && b') := by
  cases xs with
  | nil => cases ys <;> simp [eqCells] at h
  | cons x xs =>
    cases ys with
    | nil => cases x <;> simp [eqCells] at h
    | cons y ys =>
      cases x <;> cases y <;> simp only [eqCells, reduceCtorEq] at h
      split at h
      · rename_i b' hb
        cases h
        exact ⟨_, _, _, _, b', rfl, rfl, hb, rfl⟩
      · cases h
theorem eqCells_nil {xs ys : List AV} {b : Bool} (h : eqCells [] xs ys = some b) : xs = [] ∧ ys = [] ∧ b = true := by
  cases xs <;> cases ys <;> simp [eqCells] at h
  exact ⟨rfl, rfl, h⟩
theorem two_cells {TY : Ty} {S : RS} {a b : AV} {xs : Array Value} (h : VRs TY S [a, b] xs.toList) : ∃ u v, xs = #[u, v] ∧ VR TY S a u ∧ VR TY S b v := by
  obtain ⟨xs⟩ := xs
  match xs, h with
  | [u, v], ⟨h1, h2, _⟩ => exact ⟨u, v, rfl, h1, h2⟩
theorem eq71 (xs ys : Array Value) (cs ds : List AV) (b : Bool) (S : RS) (hx : VRs ty S cs xs.toList) (hy : VRs ty S ds ys.toList) (h : eqCells [.str, .bool] cs ds = some b) (op : BinOp) (x y : Operand) (w : World) :
    (eqGuard op 71 x y (.agg xs) (.agg ys)).run Tryz.prog w = .ok () w ∧ (Op.equal 71 (.agg xs) (.agg ys)).run Tryz.prog w = .ok b w := by
  obtain ⟨p, r, cs1, ds1, b1, rfl, rfl, h1, rfl⟩ := eqCells_str h
  obtain ⟨p2, r2, cs2, ds2, b2, rfl, rfl, h2, rfl⟩ := eqCells_bool h1
  obtain ⟨rfl, rfl, rfl⟩ := eqCells_nil h2
  obtain ⟨u, v, rfl, e1, e2⟩ := two_cells hx
  obtain ⟨u', v', rfl, e1', e2'⟩ := two_cells hy
  obtain rfl : u = .string p := e1
  obtain rfl : v = .bool p2 := e2
  obtain rfl : u' = .string r := e1'
  obtain rfl : v' = .bool r2 := e2'
  have hg : Tryz.prog.eqGuardType Tryz.prog.depth 71 = false := by kernel_rfl
  have hs : Tryz.prog.stoodInHeld 71 = false := by kernel_rfl
  constructor
  · cases op <;> simp [eqGuard, go_sem, hg]
  · have key : ∀ d, (Op.equalIn (d + 1 + 1) 71 (.agg #[.string p, .bool p2]) (.agg #[.string r, .bool r2])).run Tryz.prog w = .ok ((p == r) && ((p2 == r2) && true)) w := by
      intro d
      have hu := Tryz.underlying71
      have p1 : ∀ a b : Value, (part 9 #[a, b] 0).run Tryz.prog w = .ok a w := fun a b => by simp [part, go_sem]
      have p2' : ∀ a b : Value, (part 4 #[a, b] 1).run Tryz.prog w = .ok b w := fun a b => by simp [part, go_sem]
      have q1 : (Op.equalIn (d + 1) 9 (.string p) (.string r)).run Tryz.prog w = .ok (p == r) w := by
        rw [Op.equalIn]
        simp only [Sem.run_bind, run_underlying Tryz.underlying9, Result.andThen_ok, Sem.run_pure]
      have q2 : (Op.equalIn (d + 1) 4 (.bool p2) (.bool r2)).run Tryz.prog w = .ok (p2 == r2) w := by
        rw [Op.equalIn]
        simp only [Sem.run_bind, run_underlying Tryz.underlying4, Result.andThen_ok, Sem.run_pure]
      rw [Op.equalIn]
      simp only [Sem.run_bind, run_underlying hu, Result.andThen_ok, run_program, hs]
      cases e1 : (p == r) <;> cases e2 : (p2 == r2) <;> rw [e1] at q1 <;> rw [e2] at q2 <;> simp [Sem.run_bind, p1, p2', q1, q2]
    exact key 9998
theorem eq107 (xs ys : Array Value) (cs ds : List AV) (b : Bool) (S : RS) (hx : VRs ty S cs xs.toList) (hy : VRs ty S ds ys.toList) (h : eqCells [.str, .str] cs ds = some b) (op : BinOp) (x y : Operand) (w : World) :
    (eqGuard op 107 x y (.agg xs) (.agg ys)).run Tryz.prog w = .ok () w ∧ (Op.equal 107 (.agg xs) (.agg ys)).run Tryz.prog w = .ok b w := by
  obtain ⟨p, r, cs1, ds1, b1, rfl, rfl, h1, rfl⟩ := eqCells_str h
  obtain ⟨p2, r2, cs2, ds2, b2, rfl, rfl, h2, rfl⟩ := eqCells_str h1
  obtain ⟨rfl, rfl, rfl⟩ := eqCells_nil h2
  obtain ⟨u, v, rfl, e1, e2⟩ := two_cells hx
  obtain ⟨u', v', rfl, e1', e2'⟩ := two_cells hy
  obtain rfl : u = .string p := e1
  obtain rfl : v = .string p2 := e2
  obtain rfl : u' = .string r := e1'
  obtain rfl : v' = .string r2 := e2'
  have hg : Tryz.prog.eqGuardType Tryz.prog.depth 107 = false := by kernel_rfl
  have hs : Tryz.prog.stoodInHeld 107 = false := by kernel_rfl
  constructor
  · cases op <;> simp [eqGuard, go_sem, hg]
  · have key : ∀ d, (Op.equalIn (d + 1 + 1) 107 (.agg #[.string p, .string p2]) (.agg #[.string r, .string r2])).run Tryz.prog w = .ok ((p == r) && ((p2 == r2) && true)) w := by
      intro d
      have hu := Tryz.underlying107
      have p1 : ∀ a b : Value, (part 9 #[a, b] 0).run Tryz.prog w = .ok a w := fun a b => by simp [part, go_sem]
      have p2' : ∀ a b : Value, (part 9 #[a, b] 1).run Tryz.prog w = .ok b w := fun a b => by simp [part, go_sem]
      have q1 : (Op.equalIn (d + 1) 9 (.string p) (.string r)).run Tryz.prog w = .ok (p == r) w := by
        rw [Op.equalIn]
        simp only [Sem.run_bind, run_underlying Tryz.underlying9, Result.andThen_ok, Sem.run_pure]
      have q2 : (Op.equalIn (d + 1) 9 (.string p2) (.string r2)).run Tryz.prog w = .ok (p2 == r2) w := by
        rw [Op.equalIn]
        simp only [Sem.run_bind, run_underlying Tryz.underlying9, Result.andThen_ok, Sem.run_pure]
      rw [Op.equalIn]
      simp only [Sem.run_bind, run_underlying hu, Result.andThen_ok, run_program, hs]
      cases e1 : (p == r) <;> cases e2 : (p2 == r2) <;> rw [e1] at q1 <;> rw [e2] at q2 <;> simp [Sem.run_bind, p1, p2', q1, q2]
    exact key 9998
end Go.Proofs.YtkenjojkpdeooaaGreatDoor
end
section
set_option linter.unusedVariables false
set_option linter.unusedSimpArgs false
set_option linter.constructorNameAsVariable false
namespace Go.Proofs.YtkenjojkpdeooaaGreatDoor
open AI Units Go.RowKit

def Tree.allB {α : Type} (q : Nat → α → Bool) : Tree α → Bool
  | .leaf => true
  | .node k v l r => q k v && l.allB q && r.allB q
theorem Tree.allB_get {α : Type} {q : Nat → α → Bool} : ∀ (t : Tree α), t.allB q = true → ∀ x v, t.get x = some v → q x v = true := fun t h => by
  have key : ∀ t : Tree α, t.allB q = true → t.All (fun k v => q k v = true) := by
    intro t
    induction t with
    | leaf => intro _; trivial
    | node k v l r ihl ihr =>
      intro h
      simp only [Tree.allB, Bool.and_eq_true] at h
      exact ⟨h.1.1, ihl h.1.2, ihr h.2⟩
  exact fun x v hx => Tree.get_all t x v (key t h) hx
theorem eq_types (T : TypeId) (h : (ty T).eq = true) : T = 71 ∨ T = 107 := by
  have hq : tyt.allB (fun k v => !v.eq || Nat.beq k 71 || Nat.beq k 107) = true := by kernel_rfl
  unfold ty at h
  cases e : tyt.get T with
  | none => rw [e] at h; cases h
  | some d =>
    rw [e] at h
    have h : d.eq = true := h
    have := Tree.allB_get tyt hq T d e
    simp only [h, Bool.not_true, Bool.false_or, Bool.or_eq_true] at this
    rcases this with h | h
    · exact .inl (Nat.eq_of_beq_eq_true h)
    · exact .inr (Nat.eq_of_beq_eq_true h)
theorem tyOK : TyOK Tryz.prog ty where
  chk := ty_ok
  eqv T xs ys cs ds b S he hx hy hb op x y w := by
    rcases eq_types T he with rfl | rfl
    · exact eq71 xs ys cs ds b S hx hy hb op x y w
    · exact eq107 xs ys cs ds b S hx hy hb op x y w
theorem nat188 (F : List AV → Option AV) (args : List AV) (x : AV) (hF : nat 188 = some F) (h : F args = some x) : x.plain = true ∧ ∀ (S : RS) (us : Array Value) (w : World), VRs ty S args us.toList → ∃ v, (callFunc 188 us).run Tryz.prog w = .ok (.value v) w ∧ VR ty S x v := by
  have e : nat 188 = some fun a => match a with | [.str s, .int .u8 c] => some (.int .i64 (firstIdx s c.toNat.toUInt8)) | _ => none := rfl
  rw [e] at hF
  cases hF
  dsimp only at h
  split at h
  · rename_i s c
    cases h
    refine ⟨rfl, fun S us w hv => ?_⟩
    obtain ⟨us⟩ := us
    match us, hv with
    | [u, v], ⟨h1, h2, _⟩ =>
      obtain rfl : u = .string s := h1
      obtain rfl : v = .int .u8 c := h2
      refine ⟨_, ?_, rfl⟩
      rw [run_callFunc_extern Tryz.func188 rfl (by kernel_rfl) (by kernel_rfl) (e := Extern.BytealgIndexByte.indexByte) (by kernel_rfl), run_indexByte_string]
      rfl
  · cases h
theorem ctxOK : CtxOK Tryz.prog ctx where
  ty := tyOK
  mixed := mixed
  fn f fn h := by
    have := Tree.get_all ftt f fn ft_all h
    exact ⟨this.fn, this.name, this.body⟩
  nat g F args x hF h := by
    by_cases e : g = 188
    · subst e
      exact nat188 F args x hF h
    · exfalso
      have : nat g = none := by
        unfold nat
        split
        · exact absurd rfl e
        · rfl
      have h2 : ctx.nat g = nat g := rfl
      rw [h2, this] at hF
      cases hF

/-- A call that only makes new blocks. -/
theorem res_of_below {f : FuncId} {xs : List AV} {r : AV} (h : ∀ (S : RS) (us : Array Value), VRs ty S xs us.toList → ∃ v, (∀ S' : RS, VR ty S' r v) ∧ Calls Tryz.prog f us S.w (fun e w' => e = .returned v ∧ Below S.w.heap.size S.w w')) : CallRes Tryz.prog ty f xs [] r [] := by
  intro S us G hM hd hv
  obtain ⟨v, hr, hc⟩ := h S us hv
  refine hc.mono ?_
  rintro e w' ⟨rfl, hb⟩
  have hfr : Fr (fun _ => False) S.w w' := ⟨hb.os, hb.tape, hb.output, hb.size, fun b h _ => hb.block b h⟩
  refine ⟨v, { S with w := w' }, rfl, rfl, hM, ?_, hr _⟩
  exact mv_gen G _ (fun _ => False) (fun _ => False) hfr (fun _ h => h.elim) (fun _ h => h) (fun _ h => .inl h) (fun b hb => Nat.lt_of_lt_of_le (G.okb b hb) hfr.size) (fun _ h => h) (fun _ _ => rfl)
    (fun q y _ h => ⟨h, rfl, fun _ h => h⟩) (fun _ _ h => h.elim) (fun _ _ h => h.elim) G.inj G.sep
theorem small_le {s : ByteArray} (h : small s = true) : s.size ≤ 140737488355328 := Nat.le_of_ble_eq_true h
theorem atA_VR (S : RS) (o : Option (Nat × Nat × Nat)) : VR ty S (atA o) (atV o) := by
  cases o with
  | none => exact ⟨_, rfl, rfl, rfl, rfl, rfl, trivial⟩
  | some u => obtain ⟨r, p, q⟩ := u; exact ⟨_, rfl, rfl, rfl, rfl, rfl, trivial⟩
theorem ext_ok : ∀ f g, ext f = some g → ∀ xs m r m', g xs m = some (r, m') → CallRes Tryz.prog ctx.TY f xs m r m' := by
  intro f g hg xs m r m' h
  unfold ext at hg
  split at hg
  · cases hg
    dsimp only at h
    split at h
    · rename_i s i
      cases hc : (small s && Nat.blt i 9223372036854775808)
      · rw [hc] at h; cases h
      · rw [hc] at h
        cases h
        simp only [Bool.and_eq_true] at hc
        refine res_of_below fun S us hv => ?_
        obtain ⟨us⟩ := us
        match us, hv with
        | [u, v], ⟨h1, h2, _⟩ =>
          obtain rfl : u = .string s := h1
          obtain rfl : v = .int .i64 (i : Int) := h2
          exact ⟨_, fun S' => atA_VR S' _, callsIn_wide.1 (at50 s (small_le hc.1) i (blt_iff.1 hc.2) S.w)⟩
    · cases h
  · cases hg
    dsimp only at h
    split at h
    · rename_i s
      cases hc : small s
      · rw [hc] at h; cases h
      · rw [hc] at h
        cases h
        refine res_of_below fun S us hv => ?_
        obtain ⟨us⟩ := us
        match us, hv with
        | [u], ⟨h1, _⟩ =>
          obtain rfl : u = .string s := h1
          exact ⟨_, fun S' => rfl, callsIn_wide.1 (valid101 s (small_le hc) S.w)⟩
    · cases h
  · cases hg
def noLoops : Loops := fun _ _ => none
/-- What the interpreter answers, the program does. -/
theorem runs {n f : Nat} {xs : List AV} {m m' : Mem} {r : AV} (h : callN ctx noLoops ext n f xs m = some (r, m')) : CallRes Tryz.prog ty f xs m r m' :=
  callN_sound ctxOK (fun f fn h => (Tree.get_all ftt f fn ft_all h).ok) (fun f fn b0 _ _ b _ F hF => by cases hF) ext_ok n f xs m r m' h
end Go.Proofs.YtkenjojkpdeooaaGreatDoor
end
section
set_option linter.unusedVariables false
set_option linter.unusedSimpArgs false
set_option linter.constructorNameAsVariable false
namespace Go.Proofs.YtkenjojkpdeooaaGreatDoor
open AI

def cw0 : CallW := fun f xs m K => match ext f with | some F => optW (F xs m) fun p => K p.1 p.2 | none => False
def lw0 : LoopW := fun _ _ _ _ _ => False
theorem lay0 : Lay Tryz.prog ctx cw0 lw0 where
  ctx := ctxOK
  ok f fn h := (Tree.get_all ftt f fn ft_all h).ok
  calls := by
    refine ⟨fun f xs m => match ext f with | some F => F xs m | none => none, fun f xs m K h => ?_, fun f xs m r m' h => ?_⟩
    · unfold cw0 at h
      cases hf : ext f with
      | none => rw [hf] at h; exact h.elim
      | some F =>
        rw [hf] at h
        obtain ⟨p, hp, h⟩ := optW_iff h
        exact ⟨p.1, p.2, by simp only [hf]; exact hp, h⟩
    · cases hf : ext f with
      | none => simp only [hf] at h; cases h
      | some F =>
        simp only [hf] at h
        exact ext_ok f F hf xs m r m' h
  loops f fn b hf hb base b' hb' s K h := h.elim
/-- A branch. -/
theorem br {b : Bool} {P Q : Prop} (h1 : b = true → P) (h2 : b = false → Q) : brW b P Q := by
  cases b
  · exact h2 rfl
  · exact h1 rfl
theorem opt_ite {α : Type} {c : Prop} [Decidable c] {x : Option α} {K : α → Prop} (h : c) (hk : optW x K) : optW (if c then x else none) K := by
  rw [if_pos h]; exact hk
theorem opt_none {α : Type} {c : Prop} [Decidable c] {x : Option α} {K : α → Prop} (h : ¬ c) (hk : optW x K) : optW (if c then none else x) K := by
  rw [if_neg h]; exact hk
end Go.Proofs.YtkenjojkpdeooaaGreatDoor
end
