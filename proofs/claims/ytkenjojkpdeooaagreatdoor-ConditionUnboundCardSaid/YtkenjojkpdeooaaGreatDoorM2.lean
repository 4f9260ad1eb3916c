/- Operations that touch no memory. · Operations that make new objects. · Operations: structs, places, lengths, cuts. · Operations: slices and strings looked at. · Operations: conversions, strings ranged over, the greater of two. · append. -/
import Derived.Test.YtkenjojkpdeooaaGreatDoorM1
import Derived.Great.BuildSlice
import Derived.Laws.MakeOwn
import Derived.Laws.BytesString
import Derived.Laws.Slices
import Derived.Deep.AppendSrc
import Derived.Deep.Upon
section
set_option linter.unusedVariables false
set_option linter.unusedSimpArgs false
set_option linter.constructorNameAsVariable false
namespace Go.Proofs.YtkenjojkpdeooaaGreatDoor.AI

def OwnIn (S : RS) (W : List Nat) (b : Nat) : Prop := ∃ o ∈ W, ∃ x, S.M o = some x ∧ (S.μ o).nil = false ∧ (S.μ o).blk = b
/-- Of the old blocks only those of W are written, or change hands. -/
structure Calm (W : List Nat) (S S' : RS) : Prop where
  fr : Fr (OwnIn S W) S.w S'.w
  ok : ∀ b, S'.ok b → S.ok b ∨ OwnIn S W b ∨ S.w.heap.size ≤ b
  new : ∀ q y, S'.M q = some y → ¬ S.dom q → (S'.μ q).nil = false → OwnIn S W (S'.μ q).blk ∨ S.w.heap.size ≤ (S'.μ q).blk
theorem Calm.refl {TY : Ty} {S : RS} (G : Good TY S) (W : List Nat) : Calm W S S := ⟨Fr.refl _ _, fun _ h => .inl h, fun q y h hd => absurd (G.dom q y h) hd⟩

/-- What one operation leaves. -/
def OpRes (P : Program) (TY : Ty) (lo hi : Nat) (rd : Option (List Nat)) (S : RS) (m' : Mem) (x : AV) (s : Sem Next) : Prop :=
  ∃ v S' nx, s.run P S.w = .ok nx S'.w ∧ (nx = .value v ∨ nx = .skip ∧ v = undef) ∧ S'.M = m'.get ∧ Mv TY S S' ∧ Nw lo hi S S' ∧ VR TY S' x v ∧ (∀ W, rd = some W → Calm W S S')

section
variable {P : Program} {TY : Ty} {S : RS}
theorem OpRes.pure {lo hi : Nat} {rd : Option (List Nat)} {m : Mem} {x : AV} {v : Value} {s : Sem Next} (G : Good TY S) (hM : S.M = m.get) (hr : s.run P S.w = .ok (.value v) S.w) (hv : VR TY S x v) : OpRes P TY lo hi rd S m x s :=
  ⟨v, S, _, hr, .inl rfl, hM, Mv.refl G, fun _ h => .inl h, hv, fun W _ => Calm.refl G W⟩

theorem int_sound {α : Type} {op : BinOp} {k : IntKind} {a b : Int} {c : AV → Option α} {r : α} (T : TypeId) (w : World) (h : intK op k a b c = some r) :
    ∃ x v, c x = some r ∧ (binOp op T (.int k a) (.int k b)).run P w = .ok v w ∧ ∀ S : RS, VR TY S x v := by
  cases op <;> simp only [intK, bits, reduceCtorEq] at h
  case quo =>
    split at h
    · cases h
    · rename_i h0
      exact ⟨_, _, h, by simp [binOp, Op.intDiv, h0], fun S => rfl⟩
  case rem =>
    split at h
    · cases h
    · rename_i h0
      exact ⟨_, _, h, by simp [binOp, Op.intDiv, h0], fun S => rfl⟩
  all_goals exact ⟨_, _, h, by simp [binOp, Op.intArith, Op.intBits, Op.intCmp], fun S => rfl⟩
theorem str_sound {α : Type} {op : BinOp} {a b : ByteArray} {c : AV → Option α} {r : α} (T : TypeId) (w : World) (h : strK op a b c = some r) :
    ∃ x v, c x = some r ∧ (binOp op T (.string a) (.string b)).run P w = .ok v w ∧ ∀ S : RS, VR TY S x v := by
  cases op <;> simp only [strK, reduceCtorEq] at h
  case add =>
    split at h
    · rename_i h0
      refine ⟨_, _, h, ?_, fun S => rfl⟩
      have : ¬ ((a.size + b.size : Nat) : Int) > IntKind.i64.max := by
        have : IntKind.i64.max = 9223372036854775807 := by decide
        omega
      simp [binOp, Op.stringOp]
      omega
    · cases h
  all_goals exact ⟨_, _, h, by simp [binOp, Op.stringOp], fun S => rfl⟩
theorem bin_sound (T0 : TyOK P TY) {α : Type} {op : BinOp} {T : TypeId} {x y : AV} {u v : Value} {xo yo : Operand} {c : AV → Option α} {r : α} (hx : VR TY S x u) (hy : VR TY S y v) (w : World) (h : binK TY op T x y c = some r) :
    ∃ z t, c z = some r ∧ (do eqGuard op T xo yo u v; binOp op T u v : Sem Value).run P w = .ok t w ∧ VR TY S z t := by
  unfold binK at h
  split at h
  · rename_i k a k' b
    obtain rfl : u = .int k a := hx
    obtain rfl : v = .int k' b := hy
    have hg : ∀ op, (eqGuard op T xo yo (.int k a) (.int k' b)).run P w = .ok () w := by intro op; simp [eqGuard]
    split at h
    · split at h
      · cases h
      · rename_i h0
        exact ⟨_, _, h, by simp [hg, binOp, Op.shift, h0], rfl⟩
    · split at h
      · cases h
      · rename_i h0
        exact ⟨_, _, h, by simp [hg, binOp, Op.shift, h0], rfl⟩
    · replace h := ite_some h; obtain ⟨rfl, h⟩ := h
      obtain ⟨z, t, h1, h2, h3⟩ := int_sound (P := P) (TY := TY) T w h
      exact ⟨z, t, h1, by simp [hg, h2], h3 S⟩
  · rename_i a b
    obtain rfl : u = .string a := hx
    obtain rfl : v = .string b := hy
    obtain ⟨z, t, h1, h2, h3⟩ := str_sound (P := P) (TY := TY) T w h
    exact ⟨z, t, h1, by simp [eqGuard, h2], h3 S⟩
  · rename_i a b
    obtain rfl : u = .bool a := hx
    obtain rfl : v = .bool b := hy
    split at h
    · rename_i hk
      obtain ⟨i, z, I⟩ := T0.is (t := T) (by rw [hk]; rfl)
      have he : (Op.equal T (.bool a) (.bool b)).run P w = .ok (a == b) w := by
        have h1 : ∀ d, (Op.equalIn (d + 1) T (.bool a) (.bool b)).run P w = .ok (a == b) w := by
          intro d
          simp only [Op.equalIn, Sem.run_bind, run_underlying (I.under_bool hk), Result.andThen_ok, Sem.run_pure]
        exact h1 9999
      cases op <;> simp only [reduceCtorEq] at h
      · exact ⟨_, _, h, by simp [eqGuard, binOp, he], rfl⟩
      · exact ⟨_, _, h, by simp [eqGuard, binOp, he], rfl⟩
    · cases h
  · rename_i xs ys
    obtain ⟨us, rfl, hx⟩ := hx
    obtain ⟨vs, rfl, hy⟩ := hy
    split at h
    · rename_i he
      split at h
      · rename_i b hb
        have key := T0.eqv T us vs xs ys b S he hx hy hb
        cases op <;> simp only [reduceCtorEq] at h
        · exact ⟨_, _, h, by simp [(key .eql xo yo w).1, (key .eql xo yo w).2, binOp], rfl⟩
        · exact ⟨_, _, h, by simp [(key .neq xo yo w).1, (key .neq xo yo w).2, binOp], rfl⟩
      · cases h
    · cases h
  · cases h
theorem un_sound {α : Type} {op : UnOp} {x : AV} {u : Value} {c : AV → Option α} {r : α} (hx : VR TY S x u) (w : World) (h : unK op x c = some r) :
    ∃ z t, c z = some r ∧ (Op.unary op u).run P w = .ok t w ∧ VR TY S z t := by
  unfold unK at h
  split at h
  · rename_i b
    obtain rfl : u = .bool b := hx
    exact ⟨_, _, h, by simp [Op.unary], rfl⟩
  · rename_i k n
    obtain rfl : u = .int k n := hx
    exact ⟨_, _, h, by simp [Op.unary, Op.intArith], rfl⟩
  · cases h
end
end Go.Proofs.YtkenjojkpdeooaaGreatDoor.AI
end
section
set_option linter.unusedVariables false
set_option linter.unusedSimpArgs false
set_option linter.constructorNameAsVariable false
namespace Go.Proofs.YtkenjojkpdeooaaGreatDoor.AI

theorem fr_alloc (w : World) (o : Obj) : Fr (fun _ => False) w (w.alloc o) :=
  ⟨rfl, rfl, rfl, by simp, fun b hb _ => heap_alloc_old w o hb⟩
section
variable {P : Program} {TY : Ty} {S : RS}

theorem known_cells {x : AV} {u : Value} (h : x.known = true) (hv : VR TY S x u) : VRs TY S x.cells u.cells.toList := by
  cases x
  case undef => cases h
  case tup => cases h
  case agg cs =>
    obtain ⟨vs, rfl, h2⟩ := hv
    exact h2
  all_goals
    rw [one_cells (cellOk_one rfl hv)]
    exact ⟨hv, trivial⟩

/-- A new object in a new block. -/
theorem new_cells {lo hi : Nat} {rd : Option (List Nat)} (G : Good TY S) {m : Mem} (hM : S.M = m.get) {id : Nat} (hid : ¬ S.dom id) (hlo : lo ≤ id) (hhi : id < hi) (x : Ob) (o : Obj) (l : Loc) (hl : l.nil = false) (hlb : l.blk = S.w.heap.size)
    (hx : ∀ S' : RS, Ext TY S S' → S'.w = S.w.alloc o → S'.ok = S.ok → OR TY S' l x) (y : AV) (v : Value) (hy : ∀ S' : RS, S'.dom id → S'.μ id = l → VR TY S' y v) {s : Sem Next}
    (hs : s.run P S.w = .ok (.value v) (S.w.alloc o)) : OpRes P TY lo hi rd S (m.add id x) y s := by
  obtain ⟨S', e1, e2, e3, e4, e5, M, Nn⟩ := mv_new G hM hid x (S.w.alloc o) l (fun _ => by rw [hlb]; exact ⟨Nat.le_refl _, by simp⟩) (fr_alloc _ _) hx
  refine ⟨v, S', _, by rw [e1]; exact hs, .inl rfl, e2, M, Nn.wider hlo hhi, hy S' e4 e3, fun W _ => ⟨by rw [e1]; exact (fr_alloc _ _).mono (fun _ h => h.elim), fun b hb => by rw [e5] at hb; exact .inl hb, fun q y' hq hd hn => ?_⟩⟩
  rcases Nn q (M.good.dom q y' hq) with h | h
  · exact absurd h hd
  · obtain rfl : q = id := by omega
    rw [e3, hlb]
    exact .inr (Nat.le_refl _)

theorem alloc_sound (T0 : TyOK P TY) {lo hi : Nat} {rd : Option (List Nat)} (G : Good TY S) {m : Mem} (hM : S.M = m.get) {id : Nat} (hid : ¬ S.dom id) (hlo : lo ≤ id) (hhi : id < hi) {α : Type} {E : TypeId} {k : AV → Mem → Option α} {r : α}
    (h : tyd TY E (fun t => k (.adr id 0 0) (m.add id (.box (t.cks.map zeroCK)))) = some r) :
    ∃ x m', k x m' = some r ∧ OpRes P TY lo hi rd S m' x (do pure (.value (← Instr.alloc E true (.tuple #[])))) := by
  obtain ⟨ht, h⟩ := tyd_some h
  obtain ⟨i, z, I⟩ := T0.is ht
  refine ⟨_, _, h, new_cells G hM hid hlo hhi (.box ((TY E).cks.map zeroCK)) (.cells z.cells E) ⟨S.w.heap.size, 0, false, 0, 1⟩ rfl rfl (fun S' E' hw hok => ⟨rfl, rfl, rfl, z.cells, E, by rw [hw]; exact heap_alloc_new _ _, zeroAll_VRs I.zeros⟩)
    (.adr id 0 0) (.pointer (some ⟨S.w.heap.size, 0, none⟩)) (fun S' hd hm => ⟨hd, by rw [hm]; exact Nat.zero_lt_one, by rw [hm]; simp⟩) ?_⟩
  simp [Instr.alloc, I.run_zero, newVar, newRow]

theorem box_sound {lo hi : Nat} {rd : Option (List Nat)} (G : Good TY S) {m : Mem} (hM : S.M = m.get) {id : Nat} (hid : ¬ S.dom id) (hlo : lo ≤ id) (hhi : id < hi) {x : AV} {u : Value} (hx : VR TY S x u) (hk : x.known = true) (E : TypeId) :
    OpRes P TY lo hi rd S (m.add id (.box x.cells)) (.adr id 0 0) (do pure (.value (← Instr.box E u))) := by
  refine new_cells G hM hid hlo hhi (.box x.cells) (.cells u.cells E) ⟨S.w.heap.size, 0, false, 0, 1⟩ rfl rfl (fun S' E' hw hok => ⟨rfl, rfl, rfl, u.cells, E, by rw [hw]; exact heap_alloc_new _ _, VRs_ext E' _ _ (known_cells hk hx)⟩)
    (.adr id 0 0) (.pointer (some ⟨S.w.heap.size, 0, none⟩)) (fun S' hd hm => ⟨hd, by rw [hm]; exact Nat.zero_lt_one, by rw [hm]; simp⟩) ?_
  simp [Instr.box, newVar, newRow]

theorem range_sound {lo hi : Nat} {rd : Option (List Nat)} (T0 : TyOK P TY) (G : Good TY S) {m : Mem} (hM : S.M = m.get) {id : Nat} (hid : ¬ S.dom id) (hlo : lo ≤ id) (hhi : id < hi) {s : ByteArray} {T : TypeId} (hk : (TY T).k = .str) :
    OpRes P TY lo hi rd S (m.add id (.iter s 0)) (.adr id 0 0) (do pure (.value (← Instr.range T (.string s)))) := by
  obtain ⟨i, z, I⟩ := T0.is (t := T) (by rw [hk]; rfl)
  refine new_cells G hM hid hlo hhi (.iter s 0) (.stringIter s 0) ⟨S.w.heap.size, 0, false, 0, 1⟩ rfl rfl (fun S' E' hw hok => ⟨rfl, rfl, rfl, by rw [hw]; exact heap_alloc_new _ _⟩)
    (.adr id 0 0) (.pointer (some ⟨S.w.heap.size, 0, none⟩)) (fun S' hd hm => ⟨hd, by rw [hm]; exact Nat.zero_lt_one, by rw [hm]; simp⟩) ?_
  simp [Instr.range, run_underlying (I.under_str hk)]

theorem fill_sound (place : Nat → Option (Nat × Nat)) : ∀ (ps : List (Nat × Nat × AV)) (vs : List (Nat × Value)) (cs : List AV) (C : Array Value) (cs' : List AV), ps.length = vs.length →
    (∀ (j : Nat) (p : Nat × Nat × AV) (q : Nat × Value), ps[j]? = some p → vs[j]? = some q → (p.2.2.known = true → place q.1 = some (p.1, p.2.1)) ∧ VR TY S p.2.2 q.2) → VRs TY S cs C.toList → fillAV cs ps = some cs' →
    ∃ C', Instr.fill place C vs = some C' ∧ VRs TY S cs' C'.toList ∧ C'.size = C.size
  | [], [], cs, C, cs', _, _, hc, h => by
    simp only [fillAV, Option.some.injEq] at h
    subst h
    exact ⟨C, rfl, hc, rfl⟩
  | [], _ :: _, _, _, _, h, _, _, _ => by simp at h
  | _ :: _, [], _, _, _, h, _, _, _ => by simp at h
  | (off, n, x) :: ps, (i, u) :: vs, cs, C, cs', hl, hp, hc, h => by
    simp only [fillAV] at h
    replace h := ite_some h; obtain ⟨h0, h⟩ := h
    simp only [Bool.and_eq_true] at h0
    obtain ⟨⟨hk, hn⟩, ho⟩ := h0
    replace hn := nat_beq hn
    replace ho := ble_le ho
    obtain ⟨hpl, hx⟩ := hp 0 _ _ rfl rfl
    have hcx := known_cells hk hx
    have hul : u.cells.size = n := by
      have := VRs_length hcx
      simp only [Array.length_toList] at this
      omega
    have hcl : cs.length = C.size := by simpa using VRs_length hc
    obtain ⟨g1, g2⟩ := Great.foldl_set off u.cells.toList 0 C
    have hC : ((u.cells.toList.zipIdx 0).foldl (fun cs (x : Value × Nat) => cs.setIfInBounds (off + x.2) x.1) C).toList = C.toList.take off ++ u.cells.toList ++ C.toList.drop (off + u.cells.toList.length) := by
      apply List.ext_getElem?
      intro j
      rw [splice_get _ _ _ _ (by simp; omega)]
      have := g2 j
      rw [Array.getElem?_toList, this]
      simp only [Nat.add_zero, Array.length_toList]
      by_cases hj : off ≤ j ∧ j < off + u.cells.size
      · rw [if_pos (by omega), if_pos hj]
      · rw [if_neg (by omega), if_neg hj, Array.getElem?_toList]
    obtain ⟨C', h1, h2, h3⟩ := fill_sound place ps vs _ _ cs' (by simpa using hl) (fun j p q hj hq => hp (j + 1) p q (by simpa using hj) (by simpa using hq)) (by
      rw [hC]
      exact VRs_setRange hc hcx) h
    refine ⟨C', ?_, h2, by rw [h3, g1]⟩
    unfold Instr.fill
    simp only [hpl hk]
    rw [if_neg (by simp; omega), ← h1]
    congr 1
    rw [← Array.foldl_toList, Array.toList_zipIdx]
theorem zeroAll_len {cs : List CK} : ∀ {cs : List CK} {vs : List Value}, zeroAll cs vs = true → cs.length = vs.length
  | [], [], _ => rfl
  | [], _ :: _, h => by simp [zeroAll] at h
  | _ :: _, [], h => by simp [zeroAll] at h
  | c :: cs, v :: vs, h => by
    simp only [zeroAll, Bool.and_eq_true] at h
    simp [zeroAll_len (cs := cs) h.2]
theorem zeroAll_get : ∀ {cs : List CK} {vs : List Value}, zeroAll cs vs = true → ∀ (j : Nat) (c : CK) (v : Value), cs[j]? = some c → vs[j]? = some v → zeroIs c v = true
  | [], [], _, j, c, v, h, _ => by simp at h
  | [], _ :: _, h, _, _, _, _, _ => by simp [zeroAll] at h
  | _ :: _, [], h, _, _, _, _, _ => by simp [zeroAll] at h
  | c :: cs, v :: vs, h, j, c', v', hc, hv => by
    simp only [zeroAll, Bool.and_eq_true] at h
    cases j with
    | zero =>
      simp at hc hv
      subst hc; subst hv
      exact h.1
    | succ j => exact zeroAll_get h.2 j c' v' (by simpa using hc) (by simpa using hv)
/-- A row of zeros. -/
theorem zeros_VRs {t : TyD} {z : Value} (h : zeroAll t.cks z.cells.toList = true) (n : Nat) (S : RS) :
    VRs TY S ((List.range (n * t.cks.length)).map fun i => zeroCK (t.cks.getD (i % t.cks.length) .oth)) (madeCells z.cells (n * t.cks.length)).toList := by
  have hzl := zeroAll_len (cs := t.cks) h
  simp only [Array.length_toList] at hzl
  refine VRs_of (by simp [madeCells]) fun i x v hx hv => ?_
  have hi : i < n * t.cks.length := by simpa using (List.getElem?_eq_some_iff.1 hx).1
  have hL : 0 < t.cks.length := by
    rcases Nat.eq_zero_or_pos t.cks.length with e | e
    · rw [e] at hi; simp at hi
    · exact e
  have hm : i % t.cks.length < t.cks.length := Nat.mod_lt _ hL
  have hmz : i % t.cks.length < z.cells.size := by omega
  simp [hi, List.getD_eq_getElem?_getD, List.getElem?_eq_getElem hm] at hx
  simp [madeCells, hi, ← hzl] at hv
  rw [getElem!_pos z.cells _ hmz] at hv
  subst hx
  subst hv
  exact zeroIs_VR (zeroAll_get h (i % t.cks.length) _ _ (List.getElem?_eq_getElem hm) (by simp [hmz]))
theorem zeroIs_CR {w : World} {ok : Nat → Prop} {c : CK} {v : Value} (hp : pureCK c = true) (h : zeroIs c v = true) : CR TY w ok (zeroPV c) c v := by
  cases c <;> cases v <;> simp only [zeroIs, Bool.false_eq_true, Bool.and_eq_true, decide_eq_true_eq, Bool.not_eq_true'] at h <;> simp only [zeroPV, CR]
  case int.int => obtain ⟨rfl, rfl⟩ := h; rfl
  case bool.bool => subst h; rfl
  case str.string s =>
    have := nat_beq h
    show Value.string s = Value.string ⟨#[]⟩
    congr 1
    exact ByteArray.ext (Array.eq_empty_of_size_eq_zero this)
  case sl.slice a n c =>
    cases a <;> cases n <;> cases c <;> simp_all
  all_goals cases hp

theorem elemK_some {C : Ctx} {α : Type} {T : TypeId} {k : TypeId → TyD → Option α} {r : α} (h : elemK C T k = some r) :
    ∃ E, (C.TY T).k = .slice E ∧ (C.TY E).k.oth? = false ∧ k E (C.TY E) = some r := by
  unfold elemK at h
  split at h
  · rename_i E hk
    obtain ⟨h1, h2⟩ := tyd_some h
    exact ⟨E, hk, h1, h2⟩
  · cases h
theorem oth_slice {t : TyD} {E : TypeId} (h : t.k = .slice E) : t.k.oth? = false := by rw [h]; rfl

theorem makeSlice_sound (T0 : TyOK P TY) {lo hi : Nat} {rd : Option (List Nat)} (G : Good TY S) {m : Mem} (hM : S.M = m.get) {id : Nat} (hid : ¬ S.dom id) (hlo : lo ≤ id) (hhi : id < hi) {T E : TypeId} (hT : (TY T).k = .slice E) (hE : (TY E).k.oth? = false) {kx ky : IntKind} {x : Int} (h0 : 0 ≤ x) (h1 : x ≤ 140737488355328) (h2 : x * (TY E).bytes ≤ 140737488355328) (o : Ob)
    (ho : o = .prow E x.toNat (fun _ j => zeroPV ((TY E).cks.getD j .oth)) ∧ (TY E).cks.all pureCK = true ∨ o = .arow E x.toNat ((List.range (x.toNat * (TY E).cks.length)).map fun i => zeroCK ((TY E).cks.getD (i % (TY E).cks.length) .oth))) :
    OpRes P TY lo hi rd S (m.add id o) (.row id) (do pure (.value (← Instr.makeSlice T (.int kx x) (.int ky x)))) := by
  obtain ⟨ti, tz, IT⟩ := T0.is (oth_slice hT)
  obtain ⟨i, z, I⟩ := T0.is hE
  have hmax : x.toNat ≤ maxLen := by simp only [maxLen]; omega
  have hr := run_make (P := P) S.w T E i z (IT.under_slice hT) I.info I.zero kx ky x x h0 (Int.le_refl _) (by rw [I.bytes, Int.mul_comm]; omega) (by omega)
  rw [I.size] at hr
  have hms : (madeCells z.cells (x.toNat * (TY E).cks.length)).size = x.toNat * (TY E).cks.length := size_madeCells _ _
  have hzs := zeros_VRs (TY := TY) I.zeros x.toNat
  refine new_cells G hM hid hlo hhi o (.cells (madeCells z.cells (x.toNat * (TY E).cks.length)) E) ⟨S.w.heap.size, x.toNat, false, (TY E).cks.length, x.toNat⟩ rfl rfl (fun S' E' hw hok => ?_)
    (.row id) (.slice (some ⟨S.w.heap.size, 0, none⟩) x.toNat x.toNat) (fun S' hd hm => ⟨hd, by rw [hm]; simp [Loc.slice]⟩) (by simp [hr])
  have hheap : S'.w.heap[S.w.heap.size]? = some (.cells (madeCells z.cells (x.toNat * (TY E).cks.length)) E (0, 0)) := by rw [hw]; exact heap_alloc_new _ _
  rcases ho with ⟨rfl, hp⟩ | rfl
  · refine ⟨rfl, rfl, Nat.le_refl _, hmax, ?_⟩
    simp only [Bool.false_eq_true, if_false]
    refine ⟨_, hheap, hms, fun q hq j ck hj => ?_⟩
    have hjl : j < (TY E).cks.length := (List.getElem?_eq_some_iff.1 hj).1
    have hzl := zeroAll_len (cs := (TY E).cks) I.zeros
    simp only [Array.length_toList] at hzl
    have hlt : q * (TY E).cks.length + j < x.toNat * (TY E).cks.length := by
      have : (q + 1) * (TY E).cks.length ≤ x.toNat * (TY E).cks.length := Nat.mul_le_mul_right _ hq
      rw [Nat.add_mul, Nat.one_mul] at this
      omega
    have hmod : (q * (TY E).cks.length + j) % z.cells.size = j := by rw [← hzl, Nat.add_comm, Nat.add_mul_mod_self_right, Nat.mod_eq_of_lt hjl]
    have hjz : j < z.cells.size := by omega
    refine ⟨z.cells[j], ?_, ?_⟩
    · simp [madeCells, hlt, hmod, hjz]
    · have hck : (TY E).cks.getD j .oth = ck := by simp [List.getD_eq_getElem?_getD, hj]
      rw [hck]
      exact zeroIs_CR (List.all_eq_true.1 hp ck (List.mem_of_getElem? hj)) (zeroAll_get I.zeros j ck _ hj (by simp [hjz]))
  · refine ⟨rfl, rfl, Nat.le_refl _, hmax, by simp, ?_⟩
    simp only [Bool.false_eq_true, if_false]
    refine ⟨_, hheap, hms, ?_⟩
    rw [List.take_of_length_le (by rw [Array.length_toList, hms]; exact Nat.le_refl _)]
    exact hzs S'

theorem OpRes.after {lo hi : Nat} {rd : Option (List Nat)} {S1 : RS} {m m1 m' : Mem} {x : AV} {s : Sem Next} (F : Froze TY S S1 m m1) (h : OpRes P TY lo hi rd S1 m' x s) : OpRes P TY lo hi none S m' x s := by
  obtain ⟨v, S', nx, h1, h2, h3, h4, h5, h6, _⟩ := h
  rw [F.w] at h1
  exact ⟨v, S', nx, h1, h2, h3, F.mv.trans h4, fun q hq => by
    rcases h5 q hq with h | h
    · rw [F.dom] at h; exact .inl h
    · exact .inr h, h6, (fun W h => by cases h)⟩

theorem buildSlice_sound (T0 : TyOK P TY) {lo hi : Nat} {rd : Option (List Nat)} (G : Good TY S) {m : Mem} (hM : S.M = m.get) {id : Nat} (hid : ¬ S.dom id) (hlo : lo ≤ id) (hhi : id < hi) {T E : TypeId} (hT : (TY T).k = .slice E) (hE : (TY E).k.oth? = false) (n : Nat) (hmax : n ≤ 16777216) (hn : n * (TY E).cks.length ≤ 16777216)
    (ps : List (Nat × Nat × AV)) (vs : Array (Nat × Value)) (hl : ps.length = vs.toList.length) (hp : ∀ (j : Nat) (p : Nat × Nat × AV) (q : Nat × Value), ps[j]? = some p → vs.toList[j]? = some q → p.1 = q.1 * (TY E).cks.length ∧ p.2.1 = (TY E).cks.length ∧ VR TY S p.2.2 q.2) (cs : List AV)
    (hf : fillAV ((List.range (n * (TY E).cks.length)).map fun i => zeroCK ((TY E).cks.getD (i % (TY E).cks.length) .oth)) ps = some cs) :
    (∃ ps' m', frzs TY ((List.range (n * (TY E).cks.length)).map fun i => (TY E).cks.getD (i % (TY E).cks.length) .oth) m cs = some (ps', m') ∧
      OpRes P TY lo hi none S (m'.add id (.prow E n (fun i j => ps'.getD (i * (TY E).cks.length + j) .bad))) (.row id) (do pure (.value (← Instr.buildSlice T n vs)))) ∨
    (frzs TY ((List.range (n * (TY E).cks.length)).map fun i => (TY E).cks.getD (i % (TY E).cks.length) .oth) m cs = none ∧
      OpRes P TY lo hi rd S (m.add id (.arow E n cs)) (.row id) (do pure (.value (← Instr.buildSlice T n vs)))) := by
  obtain ⟨ti, tz, IT⟩ := T0.is (oth_slice hT)
  obtain ⟨i, z, I⟩ := T0.is hE
  have hzs := zeros_VRs (TY := TY) I.zeros n S
  have hms : (madeCells z.cells (n * (TY E).cks.length)).size = n * (TY E).cks.length := size_madeCells _ _
  obtain ⟨C', h1, h2, h3⟩ := fill_sound (S := S) (fun i => some (i * (TY E).cks.length, (TY E).cks.length)) ps vs.toList _ (madeCells z.cells (n * (TY E).cks.length)) cs hl (fun j p q hj hq => by
    obtain ⟨a, b, c⟩ := hp j p q hj hq
    exact ⟨fun _ => by rw [a, b], c⟩) hzs hf
  rw [hms] at h3
  have hrun : ∀ w : World, (Instr.buildSlice T n vs).run P w = .ok (.slice (some ⟨w.heap.size, 0, none⟩) n n) (w.alloc (.cells C' E)) := by
    intro w
    have hbig : ¬ n * (TY E).cks.length > 2 ^ 24 := by omega
    by_cases h0 : n * (TY E).cks.length = 0
    · have e : (Array.range (n * (TY E).cks.length)).map (fun x => (#[] : Array Value)[x % (#[] : Array Value).size]!) = madeCells z.cells (n * (TY E).cks.length) := by
        rw [h0]; simp [madeCells]
      simp only [Instr.buildSlice, Sem.run_bind, run_underlying (IT.under_slice hT), Result.andThen_ok, I.run_size, h0, if_true, if_neg (show ¬ 0 > 2 ^ 24 by decide), Sem.run_pure]
      rw [h0] at e h1
      simp only [e, h1, newRow, Sem.run_bind, run_newObj_alloc, Result.andThen_ok, Sem.run_pure]
    · simp only [Instr.buildSlice, Sem.run_bind, run_underlying (IT.under_slice hT), Result.andThen_ok, I.run_size, hbig, if_false, h0, Sem.run_pure, I.run_zero]
      have e : (Array.range (n * (TY E).cks.length)).map (fun x => z.cells[x % z.cells.size]!) = madeCells z.cells (n * (TY E).cks.length) := rfl
      simp only [e, h1, newRow, Sem.run_bind, run_newObj_alloc, Result.andThen_ok, Sem.run_pure]
  have hmax' : n ≤ maxLen := by simp only [maxLen]; omega
  have hcl : cs.length = n * (TY E).cks.length := by
    have := VRs_length h2
    simp only [Array.length_toList] at this
    omega
  cases hz : frzs TY ((List.range (n * (TY E).cks.length)).map fun i => (TY E).cks.getD (i % (TY E).cks.length) .oth) m cs with
  | some p =>
    obtain ⟨ps', m'⟩ := p
    obtain ⟨S1, F, hpl, hckl, hcr⟩ := frzs_sound _ cs C'.toList S m m' ps' G hM h2 hz
    refine .inl ⟨ps', m', rfl, OpRes.after (rd := none) F ?_⟩
    refine new_cells F.mv.good F.M (by rw [F.dom]; exact hid) hlo hhi _ (.cells C' E) ⟨S.w.heap.size, n, false, (TY E).cks.length, n⟩ rfl (by rw [F.w]) (fun S' E' hw hok => ?_)
      (.row id) (.slice (some ⟨S.w.heap.size, 0, none⟩) n n) (fun S' hd hm => ⟨hd, by rw [hm]; simp [Loc.slice]⟩) (by rw [F.w]; simp [hrun])
    refine ⟨rfl, rfl, Nat.le_refl _, hmax', ?_⟩
    simp only [Bool.false_eq_true, if_false]
    refine ⟨C', by rw [hw, F.w]; exact heap_alloc_new _ _, h3, fun q hq j ck hj => ?_⟩
    have hjl : j < (TY E).cks.length := (List.getElem?_eq_some_iff.1 hj).1
    have hlt : q * (TY E).cks.length + j < n * (TY E).cks.length := by
      have : (q + 1) * (TY E).cks.length ≤ n * (TY E).cks.length := Nat.mul_le_mul_right _ hq
      rw [Nat.add_mul, Nat.one_mul] at this
      omega
    have hCl : q * (TY E).cks.length + j < C'.size := by omega
    have hpl' : q * (TY E).cks.length + j < ps'.length := by rw [hpl]; simpa using hCl
    have hmod : (q * (TY E).cks.length + j) % (TY E).cks.length = j := by rw [Nat.add_comm, Nat.add_mul_mod_self_right, Nat.mod_eq_of_lt hjl]
    refine ⟨C'[q * (TY E).cks.length + j], by simp [hCl], ?_⟩
    have := hcr (q * (TY E).cks.length + j) ps'[q * (TY E).cks.length + j] ck C'[q * (TY E).cks.length + j] (List.getElem?_eq_getElem hpl') (by simp [hlt, hmod, hj]) (by simp [hCl])
    simp only [List.getD_eq_getElem?_getD, List.getElem?_eq_getElem hpl', Option.getD_some]
    exact CR_mono E'.ok E'.w _ _ _ this
  | none =>
    refine .inr ⟨rfl, ?_⟩
    refine new_cells G hM hid hlo hhi _ (.cells C' E) ⟨S.w.heap.size, n, false, (TY E).cks.length, n⟩ rfl rfl (fun S' E' hw hok => ?_)
      (.row id) (.slice (some ⟨S.w.heap.size, 0, none⟩) n n) (fun S' hd hm => ⟨hd, by rw [hm]; simp [Loc.slice]⟩) (by simp [hrun])
    refine ⟨rfl, rfl, Nat.le_refl _, hmax', hcl, ?_⟩
    simp only [Bool.false_eq_true, if_false]
    refine ⟨C', by rw [hw]; exact heap_alloc_new _ _, h3, ?_⟩
    rw [List.take_of_length_le (by rw [Array.length_toList, h3]; exact Nat.le_refl _)]
    exact VRs_ext E' _ _ h2
end
end Go.Proofs.YtkenjojkpdeooaaGreatDoor.AI
end
section
set_option linter.unusedVariables false
set_option linter.unusedSimpArgs false
set_option linter.constructorNameAsVariable false
namespace Go.Proofs.YtkenjojkpdeooaaGreatDoor.AI
section
variable {P : Program} {C : Ctx} {S : RS}

theorem fieldsAre_mapM {TY : Ty} : ∀ {fs : List (Nat × TypeId)} {l : List Field}, fieldsAre P TY fs l = true →
    l.mapM (fun f => (P.info? f.type).map fun i => (f.offset, i.size)) = some (fs.map fun q => (q.1, (TY q.2).cks.length))
  | [], [], _ => rfl
  | [], _ :: _, h => by simp [fieldsAre] at h
  | (_, _) :: _, [], h => by simp [fieldsAre] at h
  | (o, t) :: r, f :: fl, h => by
    simp only [fieldsAre, Bool.and_eq_true] at h
    obtain ⟨⟨⟨h1, h2⟩, h3⟩, h4⟩ := h
    replace h1 := nat_beq h1
    replace h2 := nat_beq h2
    subst h1
    subst h2
    cases hi : P.info? f.type with
    | none => simp [hi] at h3
    | some i =>
      simp only [hi, Bool.and_eq_true] at h3
      have h5 := nat_beq h3.1
      simp [List.mapM_cons, hi, fieldsAre_mapM h4, h5]

theorem partsOf_get {fs : List (Nat × TypeId)} {ev : Operand → AV} : ∀ {l : List (Nat × Operand)} {j : Nat} {p : Nat × Nat × AV} {q : Nat × Operand}, (partsOf C fs ev l)[j]? = some p → l[j]? = some q →
    p = (match fs[q.1]? with | some (o, t) => (o, (C.TY t).cks.length, ev q.2) | none => (0, 0, .undef))
  | [], j, p, q, h, _ => by simp [partsOf] at h
  | (i, x) :: r, j, p, q, h, hq => by
    cases j with
    | zero =>
      simp [partsOf] at h hq
      subst hq
      exact h.symm
    | succ j => exact partsOf_get (l := r) (j := j) (by simpa [partsOf] using h) (by simpa using hq)
theorem partsOf_len {fs : List (Nat × TypeId)} {ev : Operand → AV} : ∀ (l : List (Nat × Operand)), (partsOf C fs ev l).length = l.length
  | [] => rfl
  | (i, x) :: r => by simp [partsOf, partsOf_len r]

theorem build_sound (T0 : TyOK P C.TY) {ev : Operand → AV} {ρ : Operand → Value} (hev : ∀ x, VR C.TY S (ev x) (ρ x)) {T : TypeId} {fs : List (Nat × TypeId)} (hk : (C.TY T).k = .struct fs) (parts : Array (Nat × Operand)) (cs : List AV)
    (h : fillAV ((C.TY T).cks.map zeroCK) (partsOf C fs ev parts.toList) = some cs) :
    ∃ v, (Instr.build T (parts.map fun (i, x) => (i, ρ x))).run P S.w = .ok v S.w ∧ VR C.TY S (.agg cs) v := by
  obtain ⟨i, z, I⟩ := T0.is (t := T) (by rw [hk]; rfl)
  obtain ⟨fields, hu, hfa⟩ := I.under_struct hk
  obtain ⟨C', h1, h2, h3⟩ := fill_sound (TY := C.TY) (S := S) ((fs.map fun q => (q.1, (C.TY q.2).cks.length)).toArray[·]?) (partsOf C fs ev parts.toList) (parts.map fun (i, x) => (i, ρ x)).toList _ z.cells cs (by simp [partsOf_len]) (fun j p q hj hq => by
    simp only [Array.toList_map, List.getElem?_map, Option.map_eq_some_iff] at hq
    obtain ⟨⟨qi, qx⟩, hq, rfl⟩ := hq
    have := partsOf_get hj hq
    subst this
    simp only
    cases hf : fs[qi]? with
    | none => exact ⟨(fun h => by cases h), trivial⟩
    | some y => exact ⟨fun _ => by simp [hf], hev qx⟩) (zeroAll_VRs I.zeros) h
  refine ⟨.agg C', run_build S.w T _ C' ?_, ⟨C', rfl, h2⟩⟩
  unfold Program.built
  simp only [I.info, hu, I.zero, fieldsAre_mapM hfa]
  exact h1

/-! ### Places -/
theorem fieldAddr_sound (T0 : TyOK P C.TY) {T : TypeId} {fs : List (Nat × TypeId)} (hk : (C.TY T).k = .struct fs) {f fo ft : Nat} (hf : fs[f]? = some (fo, ft)) (w : World) (b a : Nat) :
    (Instr.fieldAt T (.pointer (some ⟨b, a, none⟩)) f).run P w = .ok (.pointer (some ⟨b, a + fo, none⟩)) w := by
  obtain ⟨i, z, I⟩ := T0.is (t := T) (by rw [hk]; rfl)
  obtain ⟨fields, hu, hfa⟩ := I.under_struct hk
  obtain ⟨fd, fi, h1, h2, h3, h4, h5, h6⟩ := fieldsAre_get hfa f fo ft hf
  have h1' : fields[f]? = some fd := by simpa using h1
  have hs : (sizeOf fd.type).run P w = .ok fi.size w := by simp [sizeOf, typeInfo, h3, h4]
  simp [Instr.fieldAt, run_underlying hu, h1', Instr.sureAddr, fieldPlace, hs, h6, add_lit, h2]

theorem idxK_some {α : Type} {n : Nat} {x : Int} {k : Nat → Option α} {r : α} (h : idxK n x k = some r) : 0 ≤ x ∧ x < (n : Int) ∧ k x.toNat = some r := by
  unfold idxK at h
  obtain ⟨h1, h⟩ := ite_some h
  obtain ⟨h2, h⟩ := ite_some h
  exact ⟨h1, h2, h⟩
theorem indexAt_run (T0 : TyOK P C.TY) {T E : TypeId} (hT : (C.TY T).k = .slice E) (hE : (C.TY E).k.oth? = false) (w : World) (b a n c : Nat) {kx : IntKind} {x : Int} (h0 : 0 ≤ x) (h1 : x < (n : Int)) :
    (Instr.indexAt T (.slice (some ⟨b, a, none⟩) n c) (.int kx x)).run P w = .ok (.pointer (some ⟨b, a + x.toNat * (C.TY E).cks.length, none⟩)) w := by
  obtain ⟨ti, tz, IT⟩ := T0.is (oth_slice hT)
  obtain ⟨i, z, I⟩ := T0.is hE
  simp [Instr.indexAt, asIntOf, run_underlying (IT.under_slice hT), h0, h1, I.run_size, add_lit]

/-! ### Cuts -/
def ORel (TY : Ty) (S : RS) : Option AV → Option Value → Prop
  | none, none => True
  | some x, some v => VR TY S x v
  | _, _ => False
def lowRun (lv : Option Value) (h : Nat) : Sem Nat := match lv with | some v => Instr.sliceBound v h .sliceB | none => pure 0
theorem lowK_some {α : Type} {lo : Option AV} {lv : Option Value} (hlo : ORel C.TY S lo lv) {h' : Nat} {k : Nat → Nat → Option α} {r : α} (h : lowK lo h' k = some r) (w : World) :
    ∃ l, l ≤ h' ∧ k l h' = some r ∧ (lowRun lv h').run P w = .ok l w := by
  cases lo with
  | none =>
    cases lv with
    | none => exact ⟨0, Nat.zero_le _, h, rfl⟩
    | some v => exact hlo.elim
  | some x =>
    cases lv with
    | none => exact hlo.elim
    | some v =>
      simp only [lowK] at h
      cases x <;> simp only [reduceCtorEq] at h
      rename_i kk l
      replace h := ite_some h; obtain ⟨h1, h⟩ := h
      replace h := ite_some h; obtain ⟨h2, h⟩ := h
      obtain rfl : v = .int kk l := hlo
      exact ⟨l.toNat, by omega, h, by simp [lowRun, Instr.sliceBound, asIntOf, h1, h2]⟩
theorem cutK_some {α : Type} {n : Nat} {lo hi : Option AV} {lv hv : Option Value} (hlo : ORel C.TY S lo lv) (hhi : ORel C.TY S hi hv) {k : Nat → Nat → Option α} {r : α} (h : cutK n lo hi k = some r) (w : World) (isS : Bool) (cap : Nat) (hc : n ≤ cap) :
    ∃ l h', l ≤ h' ∧ h' ≤ n ∧ k l h' = some r ∧ (Instr.sliceBounds isS n cap lv hv none).run P w = .ok (l, h', cap) w := by
  cases hi with
  | none =>
    cases hv with
    | some v => exact hhi.elim
    | none =>
      obtain ⟨l, h1, h2, h3⟩ := lowK_some (P := P) hlo h w
      refine ⟨l, n, h1, Nat.le_refl _, h2, ?_⟩
      simp only [Instr.sliceBounds, Sem.run_bind, Sem.run_pure, Result.andThen_ok]
      cases lv with
      | none =>
        have this : (pure 0 : Sem Nat).run P w = .ok l w := h3
        simp only [Sem.run_pure] at this ⊢
        injection this with e
        subst e
        rfl
      | some v =>
        have this := h3
        simp only [lowRun] at this
        simp only [Sem.run_bind, Option.isSome_none, Bool.false_eq_true, if_false, this, Result.andThen_ok, Sem.run_pure]
  | some x =>
    cases hv with
    | none => exact hhi.elim
    | some v =>
      simp only [cutK] at h
      cases x <;> simp only [reduceCtorEq] at h
      rename_i kk hx
      replace h := ite_some h; obtain ⟨h1, h⟩ := h
      replace h := ite_some h; obtain ⟨h2, h⟩ := h
      obtain rfl : v = .int kk hx := hhi
      obtain ⟨l, h4, h5, h6⟩ := lowK_some (P := P) hlo h w
      refine ⟨l, hx.toNat, h4, by omega, h5, ?_⟩
      have hb : ∀ code, (Instr.sliceBound (.int kk hx) cap code).run P w = .ok hx.toNat w := fun code => by
        have : 0 ≤ hx ∧ hx ≤ (cap : Int) := ⟨h1, by omega⟩
        simp only [Instr.sliceBound, asIntOf, Sem.run_bind, Sem.run_pure, Result.andThen_ok, this, and_self, if_true]
      simp only [Instr.sliceBounds, Sem.run_bind, Sem.run_pure, Result.andThen_ok, hb]
      cases lv with
      | none =>
        have this : (pure 0 : Sem Nat).run P w = .ok l w := h6
        simp only [Sem.run_pure] at this ⊢
        injection this with e
        subst e
        rfl
      | some v =>
        have this := h6
        simp only [lowRun] at this
        simp only [Sem.run_bind, Option.isSome_none, Bool.false_eq_true, if_false, this, Result.andThen_ok, Sem.run_pure]
end
end Go.Proofs.YtkenjojkpdeooaaGreatDoor.AI
end
section
set_option linter.unusedVariables false
set_option linter.unusedSimpArgs false
set_option linter.constructorNameAsVariable false
namespace Go.Proofs.YtkenjojkpdeooaaGreatDoor.AI
section
variable {P : Program} {C : Ctx} {S : RS}

theorem rowE_some {TY : Ty} {S : RS} (G : Good TY S) {m : Mem} (hM : S.M = m.get) {o : Nat} {E : TypeId} {n : Nat} (h : rowE m o = some (E, n)) :
    (S.μ o).len = n ∧ (S.μ o).esz = (TY E).cks.length ∧ n ≤ (S.μ o).cap ∧ ((S.μ o).nil = true → n = 0) := by
  unfold rowE at h
  split at h
  · rename_i E' n' g hg
    simp only [Option.some.injEq, Prod.mk.injEq] at h
    obtain ⟨rfl, rfl⟩ := h
    obtain ⟨h1, h2, h3, _, h4⟩ := G.obj o _ (by rw [hM]; exact hg)
    exact ⟨h1, h2, h3, fun e => by simpa [e] using h4⟩
  · rename_i E' n' cs hg
    simp only [Option.some.injEq, Prod.mk.injEq] at h
    obtain ⟨rfl, rfl⟩ := h
    obtain ⟨h1, h2, h3, _, _, h4⟩ := G.obj o _ (by rw [hM]; exact hg)
    exact ⟨h1, h2, h3, fun e => by simp only [e, if_true] at h4; exact h4⟩
  · cases h

/-- what a cut yields -/
theorem sliceAt_run (T0 : TyOK P C.TY) {T E : TypeId} (hT : (C.TY T).k = .slice E) (hE : (C.TY E).k.oth? = false) {A : Option Addr} {n c : Nat} {lv hv : Option Value} {w : World} {l h : Nat} (hb : (Instr.sliceBounds true n c lv hv none).run P w = .ok (l, h, c) w) :
    (Instr.sliceAt T (.slice A n c) lv hv none).run P w = .ok (.slice (if c = l then A else A.map (·.add (l * (C.TY E).cks.length))) (h - l) (c - l)) w := by
  obtain ⟨ti, tz, IT⟩ := T0.is (oth_slice hT)
  obtain ⟨i, z, I⟩ := T0.is hE
  simp [Instr.sliceAt, Instr.slice, run_underlying (IT.under_slice hT), hb, I.run_size]

theorem slice_sound (T0 : TyOK P C.TY) (G : Good C.TY S) {m : Mem} (hM : S.M = m.get) {α : Type} {T : TypeId} {x : AV} {lo hi : Option AV} {lv hv : Option Value} (hlo : ORel C.TY S lo lv) (hhi : ORel C.TY S hi hv) {k : AV → Mem → Option α} {r : α}
    (h : (match x with
    | .str s => (match (C.TY T).k with | .str => cutK s.size lo hi fun l h => k (.str (s.extract l h)) m | _ => none)
    | .psl E n g => elemK C T fun E' _ => if Nat.beq E E' then cutK n lo hi fun l h => k (.psl E (h - l) (fun i j => g (l + i) j)) m else none
    | .nils => elemK C T fun _ _ => cutK 0 lo hi fun l h => k .nils m
    | .row o => elemK C T fun E' _ => match rowE m o with
      | some (E, n) => if Nat.beq E E' then cutK n lo hi fun l h => k (.rowv o l h) m else none
      | none => none
    | _ => none) = some r) {u : Value} (hx : VR C.TY S x u) :
    ∃ y v, k y m = some r ∧ (Instr.sliceAt T u lv hv none).run P S.w = .ok v S.w ∧ VR C.TY S y v := by
  split at h
  · rename_i s
    obtain rfl : u = .string s := hx
    split at h
    · rename_i hk
      obtain ⟨i, z, I⟩ := T0.is (t := T) (by rw [hk]; rfl)
      obtain ⟨l, h', h1, h2, h3, h4⟩ := cutK_some (P := P) hlo hhi h S.w false s.size (Nat.le_refl _)
      refine ⟨_, _, h3, ?_, rfl⟩
      simp [Instr.sliceAt, Instr.slice, run_underlying (I.under_str hk), h4]
    · cases h
  · rename_i E n g
    obtain ⟨A, c, rfl, hc, hcell⟩ := hx
    obtain ⟨E', hT, hE, h⟩ := elemK_some h
    replace h := ite_some h; obtain ⟨he, h⟩ := h
    obtain rfl := nat_beq he
    obtain ⟨l, h', h1, h2, h3, h4⟩ := cutK_some (P := P) hlo hhi h S.w true c hc
    refine ⟨_, _, h3, sliceAt_run T0 hT hE h4, _, _, rfl, by omega, fun hlt => ?_⟩
    obtain ⟨b, off, rfl, hb, hx⟩ := hcell (by omega)
    have hne : ¬ c = l := by omega
    refine ⟨b, off + l * (C.TY E).cks.length, by simp [hne, add_lit], hb, fun i hi j ck hj => ?_⟩
    obtain ⟨v, hv, hr⟩ := hx (l + i) (by omega) j ck hj
    refine ⟨v, ?_, hr⟩
    rw [← hv]
    congr 2
    rw [Nat.add_mul]
    omega
  · obtain rfl : u = .slice none 0 0 := hx
    obtain ⟨E', hT, hE, h⟩ := elemK_some h
    obtain ⟨l, h', h1, h2, h3, h4⟩ := cutK_some (P := P) hlo hhi h S.w true 0 (Nat.le_refl _)
    refine ⟨_, _, h3, sliceAt_run T0 hT hE h4, ?_⟩
    obtain rfl : h' = 0 := by omega
    obtain rfl : l = 0 := by omega
    rfl
  · rename_i o
    obtain ⟨hd, rfl⟩ := hx
    obtain ⟨E', hT, hE, h⟩ := elemK_some h
    split at h
    · rename_i E n hg
      replace h := ite_some h; obtain ⟨he, h⟩ := h
      obtain rfl := nat_beq he
      obtain ⟨g1, g2, g3, g4⟩ := rowE_some G hM hg
      cases hn : (S.μ o).nil with
      | true =>
        obtain rfl := g4 hn
        obtain ⟨l, h', h1, h2, h3, h4⟩ := cutK_some (P := P) hlo hhi h S.w true 0 (Nat.le_refl _)
        obtain rfl : h' = 0 := by omega
        obtain rfl : l = 0 := by omega
        refine ⟨_, _, h3, by unfold Loc.slice; rw [hn, if_pos rfl]; exact sliceAt_run T0 hT hE h4, hd, Nat.le_refl _, Nat.zero_le _, _, _, rfl, Nat.le_refl _, fun h => absurd h (Nat.lt_irrefl _)⟩
      | false =>
        obtain ⟨l, h', h1, h2, h3, h4⟩ := cutK_some (P := P) hlo hhi h S.w true (S.μ o).cap g3
        refine ⟨_, _, h3, by unfold Loc.slice; rw [hn, g1]; exact sliceAt_run T0 hT hE h4, hd, h1, by omega, _, _, rfl, by omega, fun hlt => ?_⟩
        have hne : ¬ (S.μ o).cap = l := by omega
        simp [hne, add_lit, g2]
    · cases h
  · cases h

theorem lenOf_sound (G : Good C.TY S) {m : Mem} (hM : S.M = m.get) {x : AV} {u : Value} (hx : VR C.TY S x u) (hs : ∀ s, x ≠ .str s) {n : Nat} (h : lenOf m x = some n) : ∃ A c, u = .slice A n c := by
  cases x <;> simp only [lenOf, reduceCtorEq] at h
  case psl E n' g =>
    obtain ⟨A, c, rfl, _⟩ := hx
    cases h
    exact ⟨A, c, rfl⟩
  case nils =>
    cases h
    exact ⟨none, 0, hx⟩
  case str s => exact absurd rfl (hs s)
  case row o =>
    obtain ⟨hd, rfl⟩ := hx
    have : rowE m o = some ((match m.get o with | some (.prow E _ _) => E | some (.arow E _ _) => E | _ => 0), n) := by
      unfold rowE
      split at h <;> simp_all
    obtain ⟨g1, g2, g3, g4⟩ := rowE_some G hM this
    unfold Loc.slice
    cases hn : (S.μ o).nil with
    | true => rw [if_pos rfl, g4 hn]; exact ⟨_, _, rfl⟩
    | false => rw [if_neg (by simp), g1]; exact ⟨_, _, rfl⟩
  case rowv o lo hi =>
    obtain ⟨hd, h1, h2, A, c, rfl, h3, h4⟩ := hx
    split at h <;> cases h <;> exact ⟨_, _, rfl⟩
theorem len_sound (T0 : TyOK P C.TY) (G : Good C.TY S) {m : Mem} (hM : S.M = m.get) {α : Type} {T ty : TypeId} {x : AV} {u : Value} (hx : VR C.TY S x u) {k : Nat → Option α} {r : α} (h : lenK C T m x k = some r) :
    ∃ n, k n = some r ∧ (Builtin.len_ #[T] ty #[u]).run P S.w = .ok (.int .i64 (n : Int)) S.w := by
  have gen : (∀ s, x ≠ .str s) → (match (C.TY T).k with
    | .slice _ => (match lenOf m x with | some n => k n | none => none)
    | _ => none) = some r → ∃ n, k n = some r ∧ (Builtin.len_ #[T] ty #[u]).run P S.w = .ok (.int .i64 (n : Int)) S.w := by
    intro hs h
    split at h
    · rename_i E hk
      split at h
      · rename_i n hl
        obtain ⟨i, z, I⟩ := T0.is (oth_slice hk)
        obtain ⟨A, c, rfl⟩ := lenOf_sound G hM hx hs hl
        exact ⟨n, h, by simp [Builtin.len_, run_underlying (I.under_slice hk), goInt]⟩
      · cases h
    · cases h
  unfold lenK at h
  split at h
  · rename_i s
    obtain rfl : u = .string s := hx
    split at h
    · rename_i hk
      obtain ⟨i, z, I⟩ := T0.is (t := T) (by rw [hk]; rfl)
      exact ⟨_, h, by simp [Builtin.len_, run_underlying (I.under_str hk), goInt]⟩
    · cases h
  · rename_i hs
    exact gen hs h

theorem index_sound (T0 : TyOK P C.TY) {T : TypeId} (hk : (C.TY T).k = .str) {s : ByteArray} {kx : IntKind} {x : Int} (h0 : 0 ≤ x) (h1 : x < (s.size : Int)) (w : World) :
    (Instr.index T (.string s) (.int kx x)).run P w = .ok (.int .u8 ((s.get! x.toNat).toNat : Int)) w := by
  obtain ⟨i, z, I⟩ := T0.is (t := T) (by rw [hk]; rfl)
  have hlt : x.toNat < s.size := by omega
  have hg : s[x.toNat]? = some (s.get! x.toNat) := by
    rw [getElem?_pos s x.toNat hlt]
    congr 1
    simp only [ByteArray.get!]
    show s.data[x.toNat] = s.data[x.toNat]!
    rw [getElem!_pos s.data x.toNat hlt]
  simp [Instr.index, asIntOf, run_underlying (I.under_str hk), h0, hg]
end
end Go.Proofs.YtkenjojkpdeooaaGreatDoor.AI
end
section
set_option linter.unusedVariables false
set_option linter.unusedSimpArgs false
set_option linter.constructorNameAsVariable false
namespace Go.Proofs.YtkenjojkpdeooaaGreatDoor.AI

section
variable {P : Program} {C : Ctx} {S : RS}
/-- A new block that nothing will write. -/
theorem mv_fresh {TY : Ty} {S : RS} (G : Good TY S) (w' : World) (hf : Fr (fun _ => False) S.w w') (b : Nat) (hb : S.w.heap.size ≤ b) (hb' : b < w'.heap.size) :
    ∃ S' : RS, S'.w = w' ∧ S'.M = S.M ∧ S'.dom = S.dom ∧ S'.ok b ∧ Mv TY S S' ∧ ∀ W, Calm W S S' := by
  let S' : RS := ⟨w', fun x => S.ok x ∨ x = b, S.M, S.μ, S.dom⟩
  refine ⟨S', rfl, rfl, rfl, .inr rfl, mv_gen G S' (fun _ => False) (fun _ => False) hf (fun _ h => h.elim) (fun _ h => .inl h) ?_ ?_ (fun _ h => h) (fun _ _ => rfl) (fun q y _ h => ⟨h, rfl, fun _ h => h⟩) (fun _ _ h => h.elim) (fun _ _ h => h.elim) ?_ ?_, fun W => ⟨hf.mono (fun _ h => h.elim), ?_, ?_⟩⟩
  · rintro x (h | rfl)
    · exact .inl h
    · exact .inr (.inr hb)
  · rintro x (h | rfl)
    · exact Nat.lt_of_lt_of_le (G.okb x h) hf.size
    · exact hb'
  · intro q q' y y' h h' h1 h2 h3
    exact G.inj q q' y y' h h' h1 h2 h3
  · rintro q y h h1 (h2 | h2)
    · exact G.sep q y h h1 h2
    · have := OR_lt (G.obj q y h) h1
      have h3 : (S.μ q).blk = b := h2
      omega
  · rintro x (h | rfl)
    · exact .inl h
    · exact .inr (.inr hb)
  · intro q y h hd _
    exact absurd (G.dom q y h) hd

theorem fr_drew (w : World) : Fr (fun _ => False) w w.drew := ⟨rfl, rfl, rfl, Nat.le_refl _, fun _ _ _ => rfl⟩
theorem run_markStringish (w : World) (b : Nat) (C : Array Value) (E : TypeId) (fz : Nat × Nat) (h : w.heap[b]? = some (.cells C E fz)) : (markStringish ⟨b, 0, none⟩).run P w = .ok () (w.freeze ⟨b, C.size, none⟩ 1) := by
  have h1 : (shape b).run P w = .ok (some (E, C.size)) w := by simp [shape, Sem.run, World.shape?, h]
  simp only [markStringish, Sem.run_bind, h1, Result.andThen_ok]
  rfl
theorem freeze_other (w : World) (b n x : Nat) (h : x ≠ b) : (w.freeze ⟨b, n, none⟩ 1).heap[x]? = w.heap[x]? := by
  simp [World.freeze, Array.getElem?_modify, Ne.symm h]
theorem freeze_same (w : World) (b n : Nat) (C : Array Value) (E : TypeId) (fz : Nat × Nat) (h : w.heap[b]? = some (.cells C E fz)) : ∃ fz', (w.freeze ⟨b, n, none⟩ 1).heap[b]? = some (.cells C E fz') := by
  obtain ⟨lo, hi⟩ := fz
  simp [World.freeze, Array.getElem?_modify, h]
theorem toBytes_run (E : TypeId) (s : ByteArray) (w : World) :
    ∃ w' C fz c, (Conv.stringToBytes E s).run P w = .ok (.slice (some ⟨w.heap.size, 0, none⟩) s.size c) w' ∧ Fr (fun _ => False) w w' ∧ w'.heap[w.heap.size]? = some (.cells C E fz) ∧ s.size ≤ c ∧ w.heap.size < w'.heap.size ∧
      ∀ i, i < s.size → C[i]? = some (.int .u8 ((s.get! i).toNat : Int)) := by
  let C : Array Value := (s.data.map fun b => Value.int .u8 b.toNat) ++ Array.replicate (grownCap w s.size 0 E - s.size) (.int .u8 0)
  have hn : (w.drew.alloc (.cells C E)).heap[w.heap.size]? = some (.cells C E (0, 0)) := heap_alloc_new w.drew _
  obtain ⟨fz', hf⟩ := freeze_same (w.drew.alloc (.cells C E)) w.heap.size C.size C E (0, 0) hn
  have hsz : ((w.drew.alloc (.cells C E)).freeze ⟨w.heap.size, C.size, none⟩ 1).heap.size = w.heap.size + 1 := by simp [World.freeze]
  refine ⟨(w.drew.alloc (.cells C E)).freeze ⟨w.heap.size, C.size, none⟩ 1, C, fz', grownCap w s.size 0 E, ?_, ?_, hf, grownCap_ge _ _ _ _, by omega, fun i hi => ?_⟩
  · have hc : (choose (.appendCap s.size 0 E)).run P w = .ok (grownCap w s.size 0 E) w.drew := by
      rw [run_choose_drew]
      simp [Question.forced, grownCap]
    have hm := run_markStringish (P := P) (w.drew.alloc (.cells C E)) w.heap.size C E (0, 0) hn
    simp only [Conv.stringToBytes, Sem.run_bind, hc, Result.andThen_ok, newRow, run_newObj_alloc, Sem.run_pure]
    change ((markStringish ⟨w.heap.size, 0, none⟩).run P (w.drew.alloc (.cells C E))).andThen _ = _
    rw [hm]
    rfl
  · refine ⟨rfl, rfl, rfl, by omega, fun b hb _ => ?_⟩
    rw [freeze_other _ _ _ _ (by omega)]
    exact heap_alloc_old w.drew _ hb
  · have hi' : i < s.data.size := hi
    simp only [C]
    rw [Array.getElem?_append_left (by simpa using hi')]
    simp [ByteArray.get!]
    exact ⟨s.data[i], by simp [hi'], by rw [getElem!_pos s.data i hi']⟩
theorem runesFrom_ints (s : ByteArray) : ∀ (n i : Nat) (acc : Array Value), (∀ v ∈ acc.toList, ∃ x, v = .int .i32 x) → ∀ v ∈ (Conv.runesFrom s n i acc).toList, ∃ x, v = .int .i32 x
  | 0, i, acc, h => h
  | n + 1, i, acc, h => by
    unfold Conv.runesFrom
    split
    · refine runesFrom_ints s n _ _ fun v hv => ?_
      simp only [Array.toList_push, List.mem_append, List.mem_singleton] at hv
      rcases hv with hv | rfl
      · exact h v hv
      · exact ⟨_, rfl⟩
    · exact h
theorem toRunes_run (E : TypeId) (s : ByteArray) (w : World) :
    ∃ w' C fz c, (Conv.stringToRunes E s).run P w = .ok (.slice (some ⟨w.heap.size, 0, none⟩) (runeList s).length c) w' ∧ Fr (fun _ => False) w w' ∧ w'.heap[w.heap.size]? = some (.cells C E fz) ∧ (runeList s).length ≤ c ∧ w.heap.size < w'.heap.size ∧
      ∀ i, i < (runeList s).length → C[i]? = some (.int .i32 ((runeList s).getD i 0)) := by
  have hall := runesFrom_ints s s.size 0 #[] (fun v h => by simp at h)
  have hrl : (runeList s).length = (Conv.runesFrom s s.size 0 #[]).size := by simp [runeList]
  let D := Conv.runesFrom s s.size 0 #[]
  let C : Array Value := D ++ Array.replicate (grownCap w D.size 0 E - D.size) (.int .i32 0)
  refine ⟨w.drew.alloc (.cells C E), C, (0, 0), grownCap w D.size 0 E, ?_, ⟨rfl, rfl, rfl, by simp, fun b hb _ => heap_alloc_old w.drew _ hb⟩, heap_alloc_new w.drew _, by rw [hrl]; exact grownCap_ge _ _ _ _, by simp, fun i hi => ?_⟩
  · have hc : (choose (.appendCap D.size 0 E)).run P w = .ok (grownCap w D.size 0 E) w.drew := by
      rw [run_choose_drew]
      simp [Question.forced, grownCap]
    simp only [D] at hc
    simp only [Conv.stringToRunes, Sem.run_bind, hc, Result.andThen_ok, newRow, run_newObj_alloc, Sem.run_pure, hrl]
    rfl
  · rw [hrl] at hi
    have hi' : i < D.size := hi
    have hm : D[i] ∈ (Conv.runesFrom s s.size 0 #[]).toList := by simp [D]
    obtain ⟨x, hx⟩ := hall _ hm
    simp only [C]
    rw [Array.getElem?_append_left hi', Array.getElem?_eq_getElem hi', hx]
    have : (runeList s).getD i 0 = x := by
      have hx' : (Conv.runesFrom s s.size 0 #[])[i] = .int .i32 x := hx
      simp [runeList, List.getD_eq_getElem?_getD, hi, hx']
    rw [this]

theorem TyIs.cks_int {TY : Ty} {t : TypeId} {i : TypeInfo} {z : Value} (h : TyIs P TY t i z) {k : IntKind} (hk : (TY t).k = .int k) : (TY t).cks = [.int k] := by
  have := h.kind
  simp only [kindIs, hk] at this
  split at this <;> first | (cases this; done) | skip
  rename_i k' hu
  simp only [Bool.and_eq_true, decide_eq_true_eq] at this
  rw [this.2, this.1]

/-- What a slice that is looked at holds. -/
theorem seen_sound {TY : Ty} {S : RS} (G : Good TY S) {m : Mem} (hM : S.M = m.get) {E : TypeId} {x : AV} {u : Value} (hx : VR TY S x u) {n : Nat} {g : Nat → Nat → PV} (h : seen E m x = some (n, g)) :
    ∃ A c, u = .slice A n c ∧ n ≤ c ∧ (0 < n → ∃ b off, A = some ⟨b, off, none⟩ ∧ ∀ i, i < n → ∀ j ck, (TY E).cks[j]? = some ck → ∃ v, S.w.cell? ⟨b, off + (i * (TY E).cks.length + j), none⟩ = some v ∧ CR TY S.w S.ok (g i j) ck v) := by
  cases x <;> simp only [seen, reduceCtorEq] at h
  case nils =>
    cases h
    exact ⟨none, 0, hx, Nat.le_refl _, fun h => absurd h (Nat.lt_irrefl _)⟩
  case psl E' n' g' =>
    replace h := ite_some h; obtain ⟨he, h⟩ := h
    obtain rfl := nat_beq he
    cases h
    obtain ⟨A, c, e, hc, hcell⟩ := hx
    exact ⟨A, c, e, hc, fun h0 => by
      obtain ⟨b, off, e, _, hx⟩ := hcell h0
      exact ⟨b, off, e, hx⟩⟩
  case row o =>
    split at h
    · rename_i E' n' g' hg
      replace h := ite_some h; obtain ⟨he, h⟩ := h
      obtain rfl := nat_beq he
      cases h
      obtain ⟨hd, rfl⟩ := hx
      obtain ⟨h1, h2, h3, h4, h5⟩ := G.obj o _ (by rw [hM]; exact hg)
      unfold Loc.slice
      cases hn : (S.μ o).nil with
      | true =>
        simp only [hn, if_true] at h5 ⊢
        subst h5
        exact ⟨_, _, rfl, Nat.le_refl _, fun h => absurd h (Nat.lt_irrefl _)⟩
      | false =>
        simp only [hn, Bool.false_eq_true, if_false] at h5 ⊢
        obtain ⟨D, hD, hDs, hcell⟩ := h5
        refine ⟨_, _, by rw [h1], h3, fun _ => ⟨_, _, rfl, fun i hi j ck hj => ?_⟩⟩
        obtain ⟨v, hv, hr⟩ := hcell i hi j ck hj
        exact ⟨v, by rw [Nat.zero_add, cell_of_heap hD]; exact hv, hr⟩
    · cases h
  case rowv o lo hi =>
    split at h
    · rename_i E' n' g' hg
      replace h := ite_some h; obtain ⟨he, h⟩ := h
      obtain rfl := nat_beq he
      cases h
      obtain ⟨hd, hlo, hhi, A, c, rfl, hc, hA⟩ := hx
      obtain ⟨h1, h2, h3, h4, h5⟩ := G.obj o _ (by rw [hM]; exact hg)
      refine ⟨A, c, rfl, hc, fun h0 => ?_⟩
      have hn : (S.μ o).nil = false := by
        cases hn : (S.μ o).nil with
        | false => rfl
        | true => simp only [hn, if_true] at h5; omega
      simp only [hn, Bool.false_eq_true, if_false] at h5
      obtain ⟨D, hD, hDs, hcell⟩ := h5
      refine ⟨_, _, hA (by omega), fun i hi j ck hj => ?_⟩
      obtain ⟨v, hv, hr⟩ := hcell (lo + i) (by omega) j ck hj
      refine ⟨v, ?_, hr⟩
      rw [cell_of_heap hD, ← hv, h2]
      congr 1
      rw [Nat.add_mul]
      omega
    · cases h

theorem push_list : ∀ (l : List Int) (s : ByteArray), l.foldl (fun r n => r.push (UInt8.ofNat n.toNat)) s = ⟨s.data ++ (l.map fun n => UInt8.ofNat n.toNat).toArray⟩
  | [], s => by simp
  | n :: l, s => by
    rw [List.foldl_cons, push_list l]
    congr 1
    simp [ByteArray.push]

theorem conv_sound (T0 : TyOK P C.TY) (G : Good C.TY S) {m : Mem} (hM : S.M = m.get) {α : Type} {Ts Td : TypeId} {x : AV} {u : Value} (hx : VR C.TY S x u) {id lo hi : Nat} {rd : Option (List Nat)} {k : AV → Mem → Option α} {r : α} (h : convK C Ts Td x id m k = some r) :
    ∃ y, k y m = some r ∧ OpRes P C.TY lo hi rd S m y (do pure (.value (← convert Ts Td u))) := by
  unfold convK at h
  split at h
  · rename_i h1 h2
    obtain ⟨i1, z1, I1⟩ := T0.is (t := Ts) (by rw [h1]; rfl)
    obtain ⟨i2, z2, I2⟩ := T0.is (t := Td) (by rw [h2]; rfl)
    obtain rfl := hx
    exact ⟨_, h, OpRes.pure G hM (by simp [convert, run_underlying (I1.under_int h1), run_underlying (I2.under_int h2), Conv.intToInt]) rfl⟩
  · rename_i h1 h2
    obtain ⟨i1, z1, I1⟩ := T0.is (t := Ts) (by rw [h1]; rfl)
    obtain ⟨i2, z2, I2⟩ := T0.is (t := Td) (by rw [h2]; rfl)
    obtain rfl := hx
    exact ⟨_, h, OpRes.pure G hM (by simp [convert, run_underlying (I1.under_int h1), run_underlying (I2.under_str h2), Conv.intToString]) rfl⟩
  · rename_i h1 h2
    obtain ⟨i1, z1, I1⟩ := T0.is (t := Ts) (by rw [h1]; rfl)
    obtain ⟨i2, z2, I2⟩ := T0.is (t := Td) (by rw [h2]; rfl)
    obtain rfl := hx
    exact ⟨_, h, OpRes.pure G hM (by simp [convert, run_underlying (I1.under_str h1), run_underlying (I2.under_str h2)]) rfl⟩
  · rename_i E s h1 h2
    obtain ⟨i1, z1, I1⟩ := T0.is (t := Ts) (by rw [h1]; rfl)
    obtain ⟨i2, z2, I2⟩ := T0.is (t := Td) (by rw [h2]; rfl)
    obtain rfl := hx
    split at h
    · rename_i h3
      obtain ⟨i3, z3, I3⟩ := T0.is (t := E) (by rw [h3]; rfl)
      obtain ⟨w', D, fz, c, e1, e2, e3, e4, e5, e6⟩ := toBytes_run (P := P) E s S.w
      obtain ⟨S', f1, f2, f3, f4, M, K⟩ := mv_fresh G w' e2 S.w.heap.size (Nat.le_refl _) e5
      refine ⟨_, h, _, S', _, ?_, .inl rfl, by rw [f2]; exact hM, M, Nw.of f3, ⟨_, c, rfl, e4, fun _ => ⟨_, 0, rfl, f4, fun i hi j ck hj => ?_⟩⟩, fun W _ => K W⟩
      · simp [convert, run_underlying (I1.under_str h1), run_underlying (I2.under_slice h2), run_underlying (I3.under_int h3), e1, f1]
      · rw [I3.cks_int h3] at hj ⊢
        have hj0 : j = 0 := by
          have := (List.getElem?_eq_some_iff.1 hj).1
          simp at this
          exact this
        subst hj0
        simp at hj
        subst hj
        refine ⟨_, ?_, rfl⟩
        rw [f1, cell_of_heap e3]
        simpa [strGet, PV.i] using e6 i hi
    · rename_i h3
      obtain ⟨i3, z3, I3⟩ := T0.is (t := E) (by rw [h3]; rfl)
      obtain ⟨w', D, fz, c, e1, e2, e3, e4, e5, e6⟩ := toRunes_run (P := P) E s S.w
      obtain ⟨S', f1, f2, f3, f4, M, K⟩ := mv_fresh G w' e2 S.w.heap.size (Nat.le_refl _) e5
      refine ⟨_, h, _, S', _, ?_, .inl rfl, by rw [f2]; exact hM, M, Nw.of f3, ⟨_, c, rfl, e4, fun _ => ⟨_, 0, rfl, f4, fun i hi j ck hj => ?_⟩⟩, fun W _ => K W⟩
      · simp [convert, run_underlying (I1.under_str h1), run_underlying (I2.under_slice h2), run_underlying (I3.under_int h3), e1, f1]
      · rw [I3.cks_int h3] at hj ⊢
        have hj0 : j = 0 := by
          have := (List.getElem?_eq_some_iff.1 hj).1
          simp at this
          exact this
        subst hj0
        simp at hj
        subst hj
        refine ⟨_, ?_, rfl⟩
        rw [f1, cell_of_heap e3]
        simpa [PV.i] using e6 i hi
    · cases h
  · rename_i x' E h1 h2
    split at h
    · rename_i h3
      split at h
      · rename_i n g hs
        obtain ⟨i1, z1, I1⟩ := T0.is (t := Ts) (by rw [h1]; rfl)
        obtain ⟨i2, z2, I2⟩ := T0.is (t := Td) (by rw [h2]; rfl)
        obtain ⟨i3, z3, I3⟩ := T0.is (t := E) (by rw [h3]; rfl)
        obtain ⟨A, c, rfl, hc, hcell⟩ := seen_sound G hM hx hs
        refine ⟨_, h, OpRes.pure G hM (v := .string ⟨((List.range n).map fun i => UInt8.ofNat (g i 0).i.toNat).toArray⟩) ?_ rfl⟩
        have hcv := run_convert_bytes_string (P := P) S.w Ts Td E A n c (I1.under_slice h1) (I3.under_int h3) (I2.under_str h2)
        have hr : (Conv.bytesToString (.slice A n c)).run P S.w = .ok (.string ⟨((List.range n).map fun i => UInt8.ofNat (g i 0).i.toNat).toArray⟩) S.w := by
          cases A with
          | none =>
            have h0 : n = 0 := by
              rcases Nat.eq_zero_or_pos n with e | e
              · exact e
              · obtain ⟨b, off, e, _⟩ := hcell e
                cases e
            subst h0
            simp [Conv.bytesToString]
            rfl
          | some a =>
            have hl : (loadCells a n).run P S.w = .ok (((List.range n).map fun i => (g i 0).i).map (Value.int .u8)).toArray S.w := by
              have h2 := run_loadCells_list (P := P) (w := S.w) a (((List.range n).map fun i => (g i 0).i).map (Value.int .u8)) (fun j v hj => by
                have hjn : j < n := by simpa using (List.getElem?_eq_some_iff.1 hj).1
                obtain ⟨b, off, e, hy⟩ := hcell (by omega)
                simp only [Option.some.injEq] at e
                subst e
                have hck := I3.cks_int h3
                obtain ⟨v', hv', hr⟩ := hy j hjn 0 (.int .u8) (by rw [hck]; rfl)
                rw [hck] at hv'
                simp [hjn] at hj
                rw [add_lit]
                simp only [List.length_singleton, Nat.mul_one, Nat.add_zero] at hv'
                rw [hv', ← hj]
                congr 1
                revert hr
                cases g j 0 <;> intro hr <;> first | exact hr | exact hr.elim)
              simpa using h2
            rw [run_bytesToString S.w a n c _ hl, push_list]
            simp
        simp only [Sem.run_bind, hcv, hr, Result.andThen_ok, Sem.run_pure]
      · cases h
    · cases h
  · cases h
end
end Go.Proofs.YtkenjojkpdeooaaGreatDoor.AI
end
section
set_option linter.unusedVariables false
set_option linter.unusedSimpArgs false
set_option linter.constructorNameAsVariable false
namespace Go.Proofs.YtkenjojkpdeooaaGreatDoor.AI

/-- A row of the frame's own in its place: its cells that count are 'old'. -/
def Lies (L : Nat) (E : TypeId) (l : Loc) (n : Nat) (old : List Value) (w : World) : Prop :=
  l.len = n ∧ l.esz = L ∧ n ≤ l.cap ∧ l.cap ≤ maxLen ∧ old.length = n * L ∧ if l.nil then n = 0 else ∃ cur, w.heap[l.blk]? = some (.cells cur E (0, 0)) ∧ cur.size = l.cap * L ∧ cur.toList.take (n * L) = old

section
variable {P : Program} {C : Ctx} {S : RS}

theorem append_run {t tx ty e : TypeId} {i : TypeInfo} {z : Value} (ht : P.underlying t = some (.slice e)) (hi : P.info? e = some i) (hz : i.zero = some z) (hzs : z.cells.size = i.size) {l : Loc} {n : Nat} {old : List Value} {w : World} (hl : Lies i.size e l n old w)
    {x : Value} {m : Nat} {news : List Value} (hs : Src P i.size tx x m news w) (h63 : n + m ≤ maxLen) (hb : (n + m) * i.bytes ≤ 140737488355328) :
    ∃ l' w', (Builtin.append_ #[t, tx] ty #[l.slice, x]).run P w = .ok l'.slice w' ∧ Lies i.size e l' (n + m) (old ++ news) w' ∧ Fr (fun b => l.nil = false ∧ b = l.blk) w w' ∧ (l'.nil = false → (l.nil = false ∧ l'.blk = l.blk) ∨ (w.heap.size ≤ l'.blk)) := by
  obtain ⟨g1, g2, g3, g4, g5, g6⟩ := hl
  have hsmall : ((n + m : Nat) : Int) ≤ 9223372036854775807 := by simp only [maxLen] at h63; omega
  have hlen : (old ++ news).length = (n + m) * i.size := by rw [List.length_append, g5, hs.newsLen, Nat.add_mul]
  have grown : ∀ (base : Option Addr) (sCap : Nat), (Builtin.firstCells i.size n (.slice base n sCap)).run P w.drew = .ok old.toArray w.drew → sCap < n + m → 
      ∃ l' w', (Builtin.append_ #[t, tx] ty #[.slice base n sCap, x]).run P w = .ok l'.slice w' ∧ Lies i.size e l' (n + m) (old ++ news) w' ∧ Fr (fun b => l.nil = false ∧ b = l.blk) w w' ∧ (l'.nil = false → (l.nil = false ∧ l'.blk = l.blk) ∨ (w.heap.size ≤ l'.blk)) := by
    intro base sCap hold hg
    have hr := run_append_grow_src (P := P) w t tx ty e i z ht hi hz base n sCap old hold x m news hs hg hsmall (growslice_fits hg hb)
    have hge := grownCap_ge w (n + m) sCap e
    refine ⟨⟨w.heap.size, grownCap w (n + m) sCap e, false, i.size, n + m⟩, _, hr, ⟨rfl, rfl, hge, grownCap_le_maxLen w (n + m) sCap e h63, hlen, ?_⟩, ⟨rfl, rfl, rfl, by simp, fun b hb _ => heap_alloc_old w.drew _ hb⟩, fun _ => .inr (Nat.le_refl _)⟩
    simp only [Bool.false_eq_true, if_false]
    refine ⟨_, heap_alloc_new w.drew _, ?_, ?_⟩
    · rw [Array.size_append, size_zeroCells, hzs, List.size_toArray, hlen, ← Nat.add_mul]
      congr 1
      omega
    · rw [Array.toList_append, ← hlen]
      exact List.take_left
  cases hn : l.nil with
  | true =>
    simp only [hn, if_true] at g6
    subst g6
    have hold : old = [] := List.eq_nil_of_length_eq_zero (by simpa using g5)
    subst hold
    have hls : l.slice = .slice none 0 0 := by simp [Loc.slice, hn]
    rw [hls]
    by_cases hm : m = 0
    · subst hm
      have hnews : news = [] := List.eq_nil_of_length_eq_zero (by simpa using hs.newsLen)
      subst hnews
      have hr := run_append_nothing (P := P) w t tx ty e i ht hi none 0 0 (Nat.le_refl _) x hs
      refine ⟨l, w, by rw [hls]; exact hr, ⟨g1, g2, g3, g4, by simp, by simp only [hn, if_true]⟩, Fr.refl _ _, fun h => by rw [hn] at h; cases h⟩
    · obtain ⟨l', w', a1, a2, a3, a4⟩ := grown none 0 (run_firstCells_none _ _ _ _ _) (by omega)
      rw [hn] at a3 a4
      exact ⟨l', w', a1, a2, a3, a4⟩
  | false =>
    simp only [hn, Bool.false_eq_true, if_false] at g6
    obtain ⟨cur, hcur, hcs, htake⟩ := g6
    have hls : l.slice = .slice (some ⟨l.blk, 0, none⟩) n l.cap := by simp [Loc.slice, hn, g1]
    rw [hls]
    by_cases hroom : n + m ≤ l.cap
    · have hfit : 0 + n * i.size + news.length ≤ cur.size := by rw [hs.newsLen, hcs, Nat.zero_add, ← Nat.add_mul]; exact Nat.mul_le_mul_right _ hroom
      have hst := run_storeCells_at P l.blk (n * i.size) e news 0 cur w hcur (by omega) hs.one
      simp only [Nat.add_zero] at hst
      refine ⟨⟨l.blk, l.cap, false, i.size, n + m⟩, w.setRow l.blk (cur.toList.take (n * i.size) ++ news ++ cur.toList.drop (n * i.size + news.length)).toArray, ?_, ⟨rfl, rfl, hroom, g4, hlen, ?_⟩, ⟨rfl, rfl, rfl, by simp, fun b hb hne => setRow_other w l.blk b _ (fun e => hne ⟨rfl, e⟩)⟩, fun _ => .inl ⟨rfl, rfl⟩⟩
      · rcases hs.kind with ⟨e', hk⟩ | hk <;> simp [Builtin.append_, run_underlying ht, run_underlying hk, sizeOf, typeInfo, hi, hs.len, hroom, hs.cells, Addr.add_lit, hst, Loc.slice]
      · simp only [Bool.false_eq_true, if_false]
        refine ⟨_, setRow_heap w l.blk cur _ e _ hcur, ?_, ?_⟩
        · rw [List.size_toArray, splice_len _ _ _ (by simp; omega)]
          simpa using hcs
        · rw [htake, ← hlen]
          exact List.take_left
    · obtain ⟨l', w', a1, a2, a3, a4⟩ := grown (some ⟨l.blk, 0, none⟩) l.cap (run_firstCells_some _ _ _ _ _ _ old g5 (fun j v hj => by
        rw [add_lit, Nat.zero_add]
        have hj' : j < n * i.size := by rw [← g5]; exact (List.getElem?_eq_some_iff.1 hj).1
        rw [show (w.drew).cell? ⟨l.blk, j, none⟩ = w.cell? ⟨l.blk, j, none⟩ from rfl, cell_of_heap hcur, ← htake] at *
        rw [List.getElem?_take, if_pos hj'] at hj
        simpa using hj)) (by omega)
      rw [hn] at a3 a4
      exact ⟨l', w', a1, a2, a3, a4⟩

theorem CR_one {TY : Ty} {w : World} {ok : Nat → Prop} {p : PV} {ck : CK} {v : Value} (h : CR TY w ok p ck v) : v.oneCell' = true := by
  cases ck <;> cases p <;> first
    | (rw [show v = _ from h]; rfl)
    | (obtain ⟨A, c, rfl, _⟩ := h; rfl)
    | (obtain ⟨A, c, rfl⟩ := h; rfl)
    | exact h.elim
/-- The cells of n elements. -/
theorem cells_list {TY : Ty} {S : RS} {E : TypeId} {n b off : Nat} {g : Nat → Nat → PV} (hx : ∀ i, i < n → ∀ j ck, (TY E).cks[j]? = some ck → ∃ v, S.w.cell? ⟨b, off + (i * (TY E).cks.length + j), none⟩ = some v ∧ CR TY S.w S.ok (g i j) ck v) :
    ∃ news : List Value, news.length = n * (TY E).cks.length ∧ (∀ j u, news[j]? = some u → S.w.cell? ⟨b, off + j, none⟩ = some u) ∧ ∀ i, i < n → ∀ j ck, (TY E).cks[j]? = some ck → ∃ v, news[i * (TY E).cks.length + j]? = some v ∧ CR TY S.w S.ok (g i j) ck v := by
  have hsome : ∀ q, q < n * (TY E).cks.length → ∃ v, S.w.cell? ⟨b, off + q, none⟩ = some v := fun q hq => by
    have hL : 0 < (TY E).cks.length := by
      rcases Nat.eq_zero_or_pos (TY E).cks.length with e | e
      · rw [e] at hq; simp at hq
      · exact e
    have h1 : q / (TY E).cks.length < n := (Nat.div_lt_iff_lt_mul hL).2 hq
    have h2 : q % (TY E).cks.length < (TY E).cks.length := Nat.mod_lt _ hL
    obtain ⟨v, hv, _⟩ := hx _ h1 _ _ (List.getElem?_eq_getElem h2)
    have : q / (TY E).cks.length * (TY E).cks.length + q % (TY E).cks.length = q := by rw [Nat.mul_comm]; exact Nat.div_add_mod _ _
    rw [this] at hv
    exact ⟨v, hv⟩
  refine ⟨(List.range (n * (TY E).cks.length)).map fun q => (S.w.cell? ⟨b, off + q, none⟩).getD undef, by simp, fun j u hj => ?_, fun i hi j ck hj => ?_⟩
  · have hlt : j < n * (TY E).cks.length := by simpa using (List.getElem?_eq_some_iff.1 hj).1
    obtain ⟨v, hv⟩ := hsome j hlt
    simp [hlt, hv] at hj
    rw [hv, hj]
  · obtain ⟨v, hv, hr⟩ := hx i hi j ck hj
    have hjl : j < (TY E).cks.length := (List.getElem?_eq_some_iff.1 hj).1
    have hlt : i * (TY E).cks.length + j < n * (TY E).cks.length := by
      have : (i + 1) * (TY E).cks.length ≤ n * (TY E).cks.length := Nat.mul_le_mul_right _ hi
      rw [Nat.add_mul, Nat.one_mul] at this
      omega
    exact ⟨v, by simp [hlt, hv], hr⟩
theorem news_one {TY : Ty} {w : World} {ok : Nat → Prop} {E : TypeId} {n : Nat} {g : Nat → Nat → PV} {news : List Value} (hl : news.length = n * (TY E).cks.length) (h : ∀ i, i < n → ∀ j ck, (TY E).cks[j]? = some ck → ∃ v, news[i * (TY E).cks.length + j]? = some v ∧ CR TY w ok (g i j) ck v) : ∀ u ∈ news, u.oneCell' = true := by
  intro u hu
  obtain ⟨q, hq, rfl⟩ := List.getElem_of_mem hu
  have hq' : q < n * (TY E).cks.length := by rw [← hl]; exact hq
  have hL : 0 < (TY E).cks.length := by
    rcases Nat.eq_zero_or_pos (TY E).cks.length with e | e
    · rw [e] at hq'; simp at hq'
    · exact e
  have h1 : q / (TY E).cks.length < n := (Nat.div_lt_iff_lt_mul hL).2 hq'
  have h2 : q % (TY E).cks.length < (TY E).cks.length := Nat.mod_lt _ hL
  obtain ⟨v, hv, hr⟩ := h _ h1 _ _ (List.getElem?_eq_getElem h2)
  have : q / (TY E).cks.length * (TY E).cks.length + q % (TY E).cks.length = q := by rw [Nat.mul_comm]; exact Nat.div_add_mod _ _
  rw [this, List.getElem?_eq_getElem hq] at hv
  cases hv
  exact CR_one hr

/-- What is appended. -/
theorem src_sound (T0 : TyOK P C.TY) (G : Good C.TY S) {m : Mem} (hM : S.M = m.get) {E Ts : TypeId} (hE : (C.TY E).k.oth? = false) {x : AV} {u : Value} (hx : VR C.TY S x u) {n : Nat} {g : Nat → Nat → PV} (h : srcK C E Ts m x = some (n, g)) :
    ∃ news, Src P (C.TY E).cks.length Ts u n news S.w ∧ ∀ i, i < n → ∀ j ck, (C.TY E).cks[j]? = some ck → ∃ v, news[i * (C.TY E).cks.length + j]? = some v ∧ CR C.TY S.w S.ok (g i j) ck v := by
  obtain ⟨i, z, I⟩ := T0.is hE
  have gen : (match (C.TY Ts).k with
    | .slice _ => seen E m x
    | _ => none) = some (n, g) → ∃ news, Src P (C.TY E).cks.length Ts u n news S.w ∧ ∀ i, i < n → ∀ j ck, (C.TY E).cks[j]? = some ck → ∃ v, news[i * (C.TY E).cks.length + j]? = some v ∧ CR C.TY S.w S.ok (g i j) ck v := by
    intro h
    split at h
    · rename_i E' hk
      obtain ⟨ti, tz, IT⟩ := T0.is (oth_slice hk)
      have hu := IT.under_slice hk
      obtain ⟨A, c, rfl, hc, hcell⟩ := seen_sound G hM hx h
      rcases Nat.eq_zero_or_pos n with e | e
      · subst e
        refine ⟨[], ?_, fun i hi => absurd hi (Nat.not_lt_zero _)⟩
        cases A with
        | none => exact Src.ofNil S.w hu c
        | some a => exact Src.ofSlice S.w hu a 0 c [] (by simp) (fun j u h => by simp at h) (fun u h => by cases h)
      · obtain ⟨b, off, rfl, hy⟩ := hcell e
        obtain ⟨news, h1, h2, h3⟩ := cells_list hy
        exact ⟨news, Src.ofSlice S.w hu ⟨b, off, none⟩ n c news h1 (fun j u hj => by rw [add_lit]; exact h2 j u hj) (news_one h1 h3), h3⟩
    · cases h
  unfold srcK at h
  split at h
  · rename_i b
    obtain rfl : u = .string b := hx
    split at h
    · rename_i hk
      split at h
      · rename_i hk2
        cases h
        obtain ⟨ti, tz, IT⟩ := T0.is (t := Ts) (by rw [hk]; rfl)
        have hck := I.cks_int hk2
        have hL : (C.TY E).cks.length = 1 := by rw [hck]; rfl
        rw [hL]
        refine ⟨byteCells b, Src.ofString S.w (IT.under_str hk) b, fun i hi j ck hj => ?_⟩
        rw [hck] at hj
        have hj0 : j = 0 := by
          have := (List.getElem?_eq_some_iff.1 hj).1
          simp at this
          exact this
        subst hj0
        simp at hj
        subst hj
        have hi' : i < b.data.size := hi
        refine ⟨.int .u8 ((b.get! i).toNat : Int), ?_, rfl⟩
        simp [byteCells, ByteArray.get!]
        rw [getElem!_pos b.data i hi']
        exact ⟨b.data[i], by simp [hi'], rfl⟩
      · cases h
    · cases h
  · exact gen h

/-- A place for the longer row: in the stead of one, or new. -/
theorem place_new {TY : Ty} {S : RS} (G : Good TY S) {m : Mem} (hM : S.M = m.get) {id : Nat} (hid : ¬ S.dom id) {del : List Nat} {l l' : Loc} (hdel : (del = [] ∧ l.nil = true) ∨ ∃ o x, del = [o] ∧ S.M o = some x ∧ S.μ o = l) (x' : Ob) (w' : World)
    (hf : Fr (fun b => l.nil = false ∧ b = l.blk) S.w w') (hl : l'.nil = false → (l.nil = false ∧ l'.blk = l.blk) ∨ S.w.heap.size ≤ l'.blk) (hlt : l'.nil = false → l'.blk < w'.heap.size)
    (hx' : ∀ S' : RS, Ext TY S S' → S'.w = w' → S'.ok = S.ok → OR TY S' l' x') :
    ∃ S' : RS, S'.w = w' ∧ S'.M = ((m.dels del).add id x').get ∧ S'.μ id = l' ∧ S'.dom id ∧ S'.ok = S.ok ∧ Mv TY S S' ∧ Nw id (id + 1) S S' := by
  rcases hdel with ⟨rfl, hn⟩ | ⟨o, x, rfl, hx, rfl⟩
  · obtain ⟨S', e1, e2, e3, e4, e5, M, Nn⟩ := mv_new G hM hid x' w' l' (fun h => by
      rcases hl h with ⟨h1, _⟩ | h1
      · rw [hn] at h1; cases h1
      · exact ⟨h1, hlt h⟩) (hf.mono (fun b ⟨h1, _⟩ => by rw [hn] at h1; cases h1)) hx'
    exact ⟨S', e1, e2, e3, e4, e5, M, Nn⟩
  · obtain ⟨S', e1, e2, e3, e4, e5, M, Nn⟩ := mv_grow G hM hx hid x' w' l' hf hl hx'
    exact ⟨S', e1, e2, e3, e4, e5, M, Nn⟩

theorem lies_lt {L : Nat} {E : TypeId} {l : Loc} {n : Nat} {old : List Value} {w : World} (h : Lies L E l n old w) (hn : l.nil = false) : l.blk < w.heap.size := by
  obtain ⟨_, _, _, _, _, h⟩ := h
  simp only [hn, Bool.false_eq_true, if_false] at h
  obtain ⟨cur, hc, _⟩ := h
  exact (Array.getElem?_eq_some_iff.1 hc).1

theorem lies_prow {TY : Ty} {S : RS} {l : Loc} {E : TypeId} {n : Nat} {g : Nat → Nat → PV} (h : OR TY S l (.prow E n g)) :
    ∃ old, Lies (TY E).cks.length E l n old S.w ∧ ∀ i, i < n → ∀ j ck, (TY E).cks[j]? = some ck → ∃ v, old[i * (TY E).cks.length + j]? = some v ∧ CR TY S.w S.ok (g i j) ck v := by
  obtain ⟨h1, h2, h3, h4, h5⟩ := h
  cases hn : l.nil with
  | true =>
    simp only [hn, if_true] at h5
    subst h5
    exact ⟨[], ⟨h1, h2, h3, h4, by simp, by simp only [hn, if_true]⟩, fun i hi => absurd hi (Nat.not_lt_zero _)⟩
  | false =>
    simp only [hn, Bool.false_eq_true, if_false] at h5
    obtain ⟨D, hD, hDs, hcell⟩ := h5
    have hle : n * (TY E).cks.length ≤ D.size := by rw [hDs]; exact Nat.mul_le_mul_right _ h3
    refine ⟨D.toList.take (n * (TY E).cks.length), ⟨h1, h2, h3, h4, by simp; omega, by simp only [hn, Bool.false_eq_true, if_false]; exact ⟨D, hD, hDs, rfl⟩⟩, fun i hi j ck hj => ?_⟩
    obtain ⟨v, hv, hr⟩ := hcell i hi j ck hj
    have hjl : j < (TY E).cks.length := (List.getElem?_eq_some_iff.1 hj).1
    have hlt : i * (TY E).cks.length + j < n * (TY E).cks.length := by
      have : (i + 1) * (TY E).cks.length ≤ n * (TY E).cks.length := Nat.mul_le_mul_right _ hi
      rw [Nat.add_mul, Nat.one_mul] at this
      omega
    exact ⟨v, by rw [List.getElem?_take, if_pos hlt]; simpa using hv, hr⟩
theorem lies_arow {TY : Ty} {S : RS} {l : Loc} {E : TypeId} {n : Nat} {cs : List AV} (h : OR TY S l (.arow E n cs)) :
    ∃ old, Lies (TY E).cks.length E l n old S.w ∧ VRs TY S cs old := by
  obtain ⟨h1, h2, h3, h4, h5, h6⟩ := h
  cases hn : l.nil with
  | true =>
    simp only [hn, if_true] at h6
    subst h6
    obtain rfl : cs = [] := List.eq_nil_of_length_eq_zero (by simpa using h5)
    exact ⟨[], ⟨h1, h2, h3, h4, by simp, by simp only [hn, if_true]⟩, trivial⟩
  | false =>
    simp only [hn, Bool.false_eq_true, if_false] at h6
    obtain ⟨D, hD, hDs, hr⟩ := h6
    have hle : n * (TY E).cks.length ≤ D.size := by rw [hDs]; exact Nat.mul_le_mul_right _ h3
    exact ⟨D.toList.take (n * (TY E).cks.length), ⟨h1, h2, h3, h4, by simp; omega, by simp only [hn, Bool.false_eq_true, if_false]; exact ⟨D, hD, hDs, rfl⟩⟩, hr⟩
theorem lies_OR_prow {TY : Ty} {S' : RS} {l : Loc} {E : TypeId} {n : Nat} {old : List Value} {g : Nat → Nat → PV} (h : Lies (TY E).cks.length E l n old S'.w) (hc : ∀ i, i < n → ∀ j ck, (TY E).cks[j]? = some ck → ∃ v, old[i * (TY E).cks.length + j]? = some v ∧ CR TY S'.w S'.ok (g i j) ck v) : OR TY S' l (.prow E n g) := by
  obtain ⟨h1, h2, h3, h4, h5, h6⟩ := h
  refine ⟨h1, h2, h3, h4, ?_⟩
  cases hn : l.nil with
  | true => simp only [hn, if_true] at h6 ⊢; exact h6
  | false =>
    simp only [hn, Bool.false_eq_true, if_false] at h6 ⊢
    obtain ⟨D, hD, hDs, htake⟩ := h6
    refine ⟨D, hD, hDs, fun i hi j ck hj => ?_⟩
    obtain ⟨v, hv, hr⟩ := hc i hi j ck hj
    refine ⟨v, ?_, hr⟩
    rw [← htake, List.getElem?_take] at hv
    split at hv
    · simpa using hv
    · cases hv
theorem lies_OR_arow {TY : Ty} {S' : RS} {l : Loc} {E : TypeId} {n : Nat} {old : List Value} {cs : List AV} (h : Lies (TY E).cks.length E l n old S'.w) (hc : VRs TY S' cs old) : OR TY S' l (.arow E n cs) := by
  obtain ⟨h1, h2, h3, h4, h5, h6⟩ := h
  refine ⟨h1, h2, h3, h4, by rw [VRs_length hc, h5], ?_⟩
  cases hn : l.nil with
  | true => simp only [hn, if_true] at h6 ⊢; exact h6
  | false =>
    simp only [hn, Bool.false_eq_true, if_false] at h6 ⊢
    obtain ⟨D, hD, hDs, htake⟩ := h6
    exact ⟨D, hD, hDs, by rw [htake]; exact hc⟩

theorem room_of {n b : Nat} (h : n * (b + 1) ≤ 140737488355328) : n ≤ maxLen ∧ n * b ≤ 140737488355328 := by
  rw [Nat.mul_add, Nat.mul_one] at h
  constructor
  · simp only [maxLen]; omega
  · omega
theorem cat_cells {TY : Ty} {w : World} {ok : Nat → Prop} {E : TypeId} {n n2 : Nat} {g g2 : Nat → Nat → PV} {old news : List Value} (hol : old.length = n * (TY E).cks.length)
    (h1 : ∀ i, i < n → ∀ j ck, (TY E).cks[j]? = some ck → ∃ v, old[i * (TY E).cks.length + j]? = some v ∧ CR TY w ok (g i j) ck v)
    (h2 : ∀ i, i < n2 → ∀ j ck, (TY E).cks[j]? = some ck → ∃ v, news[i * (TY E).cks.length + j]? = some v ∧ CR TY w ok (g2 i j) ck v) :
    ∀ i, i < n + n2 → ∀ j ck, (TY E).cks[j]? = some ck → ∃ v, (old ++ news)[i * (TY E).cks.length + j]? = some v ∧ CR TY w ok (cat n g g2 i j) ck v := by
  intro i hi j ck hj
  have hjl : j < (TY E).cks.length := (List.getElem?_eq_some_iff.1 hj).1
  by_cases hin : i < n
  · obtain ⟨v, hv, hr⟩ := h1 i hin j ck hj
    have hlt : i * (TY E).cks.length + j < old.length := (List.getElem?_eq_some_iff.1 hv).1
    exact ⟨v, by rw [List.getElem?_append_left hlt]; exact hv, by unfold cat; rw [if_pos hin]; exact hr⟩
  · obtain ⟨v, hv, hr⟩ := h2 (i - n) (by omega) j ck hj
    have hge : n * (TY E).cks.length ≤ i * (TY E).cks.length := Nat.mul_le_mul_right _ (by omega)
    refine ⟨v, ?_, by unfold cat; rw [if_neg hin]; exact hr⟩
    rw [List.getElem?_append_right (by omega), hol, ← hv]
    congr 1
    rw [Nat.sub_mul]
    omega
theorem rowCells_VRs {TY : Ty} {S : RS} {E : TypeId} {n2 : Nat} {g2 : Nat → Nat → PV} {news : List Value} (hl : news.length = n2 * (TY E).cks.length)
    (h2 : ∀ i, i < n2 → ∀ j ck, (TY E).cks[j]? = some ck → ∃ v, news[i * (TY E).cks.length + j]? = some v ∧ CR TY S.w S.ok (g2 i j) ck v) : VRs TY S (rowCells (TY E).cks n2 g2) news := by
  refine VRs_of (by simp [rowCells, hl]) fun q x v hx hv => ?_
  have hq : q < n2 * (TY E).cks.length := by simpa [rowCells] using (List.getElem?_eq_some_iff.1 hx).1
  have hL : 0 < (TY E).cks.length := by
    rcases Nat.eq_zero_or_pos (TY E).cks.length with e | e
    · rw [e] at hq; simp at hq
    · exact e
  have h3 : q / (TY E).cks.length < n2 := (Nat.div_lt_iff_lt_mul hL).2 hq
  have h4 : q % (TY E).cks.length < (TY E).cks.length := Nat.mod_lt _ hL
  obtain ⟨v', hv', hr⟩ := h2 _ h3 _ _ (List.getElem?_eq_getElem h4)
  have : q / (TY E).cks.length * (TY E).cks.length + q % (TY E).cks.length = q := by rw [Nat.mul_comm]; exact Nat.div_add_mod _ _
  rw [this, hv] at hv'
  cases hv'
  simp [rowCells, hq, List.getD_eq_getElem?_getD, List.getElem?_eq_getElem h4] at hx
  rw [← hx]
  exact ofPV_VR hr

theorem VRs_one {TY : Ty} {S : RS} : ∀ {xs : List AV} {us : List Value}, xs.all AV.cellOk = true → VRs TY S xs us → ∀ v ∈ us, v.oneCell' = true
  | [], [], _, _, v, hv => by cases hv
  | [], _ :: _, _, h, _, _ => h.elim
  | _ :: _, [], _, h, _, _ => h.elim
  | x :: xs, u :: us, h1, h2, v, hv => by
    simp only [List.all_cons, Bool.and_eq_true] at h1
    rcases List.mem_cons.1 hv with rfl | hv
    · exact cellOk_one h1.1 h2.1
    · exact VRs_one h1.2 h2.2 v hv

/-- The source is a row of the frame's own, which ends. -/
theorem arow_src (T0 : TyOK P C.TY) (G : Good C.TY S) {m : Mem} (hM : S.M = m.get) {Ts : TypeId} (hTs : appP.slice? C Ts = true) {x : AV} {u : Value} (hx : VR C.TY S x u) {p : Nat} {E : TypeId} {n : Nat} {cs : List AV} (h : arowOf m x = some (p, E, n, cs)) :
    S.M p = some (.arow E n cs) ∧ ∃ news, Src P (C.TY E).cks.length Ts u n news S.w ∧ VRs C.TY S cs news := by
  unfold arowOf at h
  split at h
  · rename_i p'
    split at h
    · rename_i E' n' cs' hg
      replace h := ite_some h; obtain ⟨hall, h⟩ := h
      cases h
      have hone : ∀ old, VRs C.TY S cs old → ∀ v ∈ old, v.oneCell' = true := fun old ho => VRs_one hall ho
      have hSx : S.M p = some (.arow E n cs) := by rw [hM]; exact hg
      refine ⟨hSx, ?_⟩
      obtain ⟨hd, rfl⟩ := hx
      obtain ⟨old, hl, hr⟩ := lies_arow (G.obj p _ hSx)
      unfold appP.slice? at hTs
      split at hTs
      · rename_i E' hk
        obtain ⟨ti, tz, IT⟩ := T0.is (oth_slice hk)
        obtain ⟨h1, h2, h3, h4, h5, h6⟩ := hl
        refine ⟨old, ?_, hr⟩
        unfold Loc.slice
        cases hn : (S.μ p).nil with
        | true =>
          simp only [hn, if_true] at h6 ⊢
          subst h6
          obtain rfl : old = [] := List.eq_nil_of_length_eq_zero (by simpa using h5)
          exact Src.ofNil S.w (IT.under_slice hk) 0
        | false =>
          simp only [hn, Bool.false_eq_true, if_false] at h6 ⊢
          obtain ⟨D, hD, hDs, htake⟩ := h6
          rw [h1]
          exact Src.ofSlice S.w (IT.under_slice hk) ⟨(S.μ p).blk, 0, none⟩ n _ old h5 (fun j v hj => by
            rw [add_lit, Nat.zero_add, cell_of_heap hD]
            rw [← htake, List.getElem?_take] at hj
            split at hj
            · simpa using hj
            · cases hj) (hone old hr)
      · cases hTs
    · cases h
  · cases h

/-- The longer row is made: its cells 'cells', whatever they are called. -/
theorem app_finish (T0 : TyOK P C.TY) {E T Ts ty : TypeId} (hT : (C.TY T).k = .slice E) (hE : (C.TY E).k.oth? = false) {S0 S : RS} (hw : S.w = S0.w) (hmv : Mv C.TY S0 S) (hdom : S.dom = S0.dom) {m : Mem} (hM : S.M = m.get) {id lo hi : Nat} {rd : Option (List Nat)} (hid : ¬ S.dom id) (hlo : lo ≤ id) (hhi : id < hi)
    {del : List Nat} (hrd : ∀ W, rd = some W → W = del ∧ S0 = S) {l : Loc} (hdel : (del = [] ∧ l.nil = true) ∨ ∃ o x, del = [o] ∧ S.M o = some x ∧ S.μ o = l) {n : Nat} {old : List Value} (hl : Lies (C.TY E).cks.length E l n old S.w) {u : Value} {n2 : Nat} {news : List Value} (hs : Src P (C.TY E).cks.length Ts u n2 news S.w)
    (hr : (n + n2) * ((C.TY E).bytes + 1) ≤ 140737488355328) (x' : Ob) (hx' : ∀ (S' : RS) (l' : Loc), Ext C.TY S S' → Lies (C.TY E).cks.length E l' (n + n2) (old ++ news) S'.w → OR C.TY S' l' x') :
    OpRes P C.TY lo hi rd S0 ((m.dels del).add id x') (.row id) (do pure (.value (← Builtin.append_ #[T, Ts] ty #[l.slice, u]))) := by
  obtain ⟨ti, tz, IT⟩ := T0.is (oth_slice hT)
  obtain ⟨i, z, I⟩ := T0.is hE
  obtain ⟨r1, r2⟩ := room_of hr
  have hzl : z.cells.size = i.size := by
    have := zeroAll_len (cs := (C.TY E).cks) I.zeros
    simp only [Array.length_toList] at this
    rw [I.size, this]
  obtain ⟨l', w', a1, a2, a3, a4⟩ := append_run (P := P) (ty := ty) (IT.under_slice hT) I.info I.zero hzl (l := l) (n := n) (old := old) (w := S.w) (by rw [I.size]; exact hl) (x := u) (by rw [I.size]; exact hs) r1 (by rw [I.bytes]; exact r2)
  rw [I.size] at a2
  obtain ⟨S', e1, e2, e3, e4, e5, M, Nn⟩ := place_new hmv.good hM hid hdel x' w' a3 a4 (fun hn => lies_lt a2 hn) (fun S' E' hw' hok => hx' S' l' E' (by rw [hw']; exact a2))
  refine ⟨l'.slice, S', _, ?_, .inl rfl, e2, hmv.trans M, fun q hq => ?_, ⟨e4, by rw [e3]⟩, fun W hW => ?_⟩
  · rw [hw] at a1
    simp only [Sem.run_bind, a1, Result.andThen_ok, Sem.run_pure, e1]
  · rcases Nn q hq with h | h
    · rw [hdom] at h; exact .inl h
    · exact .inr ⟨by omega, by omega⟩
  · obtain ⟨rfl, rfl⟩ := hrd W hW
    have hown : ∀ b, (l.nil = false ∧ b = l.blk) → OwnIn S0 W b := by
      rintro b ⟨h1, rfl⟩
      rcases hdel with ⟨_, h2⟩ | ⟨o, x, rfl, hx, rfl⟩
      · rw [h1] at h2; cases h2
      · exact ⟨o, List.mem_singleton_self o, x, hx, h1, rfl⟩
    refine ⟨by rw [e1]; exact a3.mono hown, fun b hb => by rw [e5] at hb; exact .inl hb, fun q y hq hd hn => ?_⟩
    rcases Nn q (M.good.dom q y hq) with h | h
    · exact absurd h hd
    · obtain rfl : q = id := by omega
      rw [e3] at hn ⊢
      rcases a4 hn with h1 | h1
      · exact .inl (hown _ h1)
      · exact .inr h1

theorem appP_sound (T0 : TyOK P C.TY) (G : Good C.TY S) {m : Mem} (hM : S.M = m.get) {E T Ts ty : TypeId} (hT : (C.TY T).k = .slice E) (hE : (C.TY E).k.oth? = false) {id lo hi : Nat} {rd : Option (List Nat)} (hid : ¬ S.dom id) (hlo : lo ≤ id) (hhi : id < hi)
    {del : List Nat} {l : Loc} {n : Nat} {g : Nat → Nat → PV} (hdel : (del = [] ∧ l.nil = true) ∨ ∃ o, del = [o] ∧ S.M o = some (.prow E n g) ∧ S.μ o = l) {old : List Value} (hl : Lies (C.TY E).cks.length E l n old S.w)
    (hc : ∀ i, i < n → ∀ j ck, (C.TY E).cks[j]? = some ck → ∃ v, old[i * (C.TY E).cks.length + j]? = some v ∧ CR C.TY S.w S.ok (g i j) ck v)
    {x : AV} {u : Value} (hx : VR C.TY S x u) {α : Type} {k : AV → Mem → Option α} {r : α} (h : appP C E Ts (C.TY E) id m del n g x k = some r) (hrd : ∀ W, rd = some W → W = del ∧ arowOf m x = none) :
    ∃ y m', k y m' = some r ∧ OpRes P C.TY lo hi rd S m' y (do pure (.value (← Builtin.append_ #[T, Ts] ty #[l.slice, u]))) := by
  unfold appP at h
  split at h
  · rename_i p E2 n2 cs2 ha
    replace h := ite_some h; obtain ⟨h0, h⟩ := h
    simp only [Bool.and_eq_true] at h0
    obtain ⟨⟨⟨h1, h2⟩, h3⟩, h4⟩ := h0
    obtain rfl := nat_beq h1
    obtain rfl := nat_beq h2
    obtain ⟨hSp, news, hs, hr⟩ := arow_src T0 G hM h4 hx ha
    obtain ⟨S1, f1, f2, f3, f4, f5, M1⟩ := mv_end G hM hSp
    have hold : old = [] := List.eq_nil_of_length_eq_zero (by simpa using hl.2.2.2.2.1)
    subst hold
    refine ⟨_, _, h, app_finish T0 hT hE f1 M1 f5 f2 (by rw [f5]; exact hid) hlo hhi (fun W hW => by rw [(hrd W hW).2] at ha; cases ha) ?_ (old := []) (by rw [f1]; exact hl) (by rw [f1]; exact hs) (by simpa using ble_le h3) _ (fun S' l' E' hL => lies_OR_arow (by simpa using hL) (VRs_ext E' _ _ (VRs_ext M1.ext _ _ hr)))⟩
    rcases hdel with ⟨a, b⟩ | ⟨o, a, b, c⟩
    · exact .inl ⟨a, b⟩
    · refine .inr ⟨o, .prow E 0 g, a, ?_, by rw [f4]; exact c⟩
      have hne : p ≠ o := fun e => by rw [e, b] at hSp; cases hSp
      rw [f2, get_del, if_neg hne, ← hM]
      exact b
  · split at h
    · rename_i n2 g2 hsrc
      replace h := ite_some h; obtain ⟨h3, h⟩ := h
      obtain ⟨news, hs, hnc⟩ := src_sound T0 G hM hE hx hsrc
      refine ⟨_, _, h, app_finish T0 hT hE rfl (Mv.refl G) rfl hM hid hlo hhi (fun W hW => ⟨(hrd W hW).1, rfl⟩) ?_ hl hs h3 _ (fun S' l' E' hL => lies_OR_prow hL fun i hi j ck hj => ?_)⟩
      · rcases hdel with ⟨a, b⟩ | ⟨o, a, b, c⟩
        · exact .inl ⟨a, b⟩
        · exact .inr ⟨o, _, a, b, c⟩
      · obtain ⟨v, hv, hr⟩ := cat_cells hl.2.2.2.2.1 hc hnc i hi j ck hj
        exact ⟨v, hv, CR_mono E'.ok E'.w _ _ _ hr⟩
    · cases h

theorem append_sound (T0 : TyOK P C.TY) (G : Good C.TY S) {m : Mem} (hM : S.M = m.get) {T Ts ty : TypeId} {id lo hi : Nat} {rd : Option (List Nat)} (hid : ¬ S.dom id) (hlo : lo ≤ id) (hhi : id < hi)
    {d x : AV} {du u : Value} {α : Type} {k : AV → Mem → Option α} {r : α} (h : appendK C T Ts id m d x k = some r) (hd : VR C.TY S d du) (hx : VR C.TY S x u) (hrd : ∀ W, rd = some W → W = d.refs ∧ arowOf m x = none) :
    ∃ y m', k y m' = some r ∧ OpRes P C.TY lo hi rd S m' y (do pure (.value (← Builtin.append_ #[T, Ts] ty #[du, u]))) := by
  unfold appendK at h
  replace h := elemK_some h
  obtain ⟨E, hT, hE, h⟩ := h
  split at h
  · obtain rfl : du = .slice none 0 0 := hd
    have key := appP_sound (ty := ty) (del := []) (l := ⟨0, 0, true, (C.TY E).cks.length, 0⟩) (old := []) T0 G hM hT hE hid hlo hhi (.inl ⟨rfl, rfl⟩) ⟨rfl, rfl, Nat.le_refl _, Nat.zero_le _, by simp, by simp⟩ (fun i hi => absurd hi (Nat.not_lt_zero _)) hx h hrd
    simpa [Loc.slice] using key
  · rename_i o
    obtain ⟨hdo, rfl⟩ := hd
    split at h
    · rename_i E' n g hg
      replace h := ite_some h; obtain ⟨he, h⟩ := h
      obtain rfl := nat_beq he
      have hSo : S.M o = some (.prow E n g) := by rw [hM]; exact hg
      obtain ⟨old, hl, hc⟩ := lies_prow (G.obj o _ hSo)
      exact appP_sound T0 G hM hT hE hid hlo hhi (.inr ⟨o, rfl, hSo, rfl⟩) hl hc hx h hrd
    · rename_i E' n cs hg
      replace h := ite_some h; obtain ⟨he, h⟩ := h
      obtain rfl := nat_beq he
      have hSo : S.M o = some (.arow E n cs) := by rw [hM]; exact hg
      obtain ⟨old, hl, hc⟩ := lies_arow (G.obj o _ hSo)
      split at h
      · rename_i p E2 n2 cs2 ha
        replace h := ite_some h; obtain ⟨h0, h⟩ := h
        simp only [Bool.and_eq_true, Bool.not_eq_true'] at h0
        obtain ⟨⟨⟨h1, h2⟩, h4⟩, h3⟩ := h0
        obtain rfl := nat_beq h1
        obtain ⟨hSp, news, hs, hr⟩ := arow_src T0 G hM h4 hx ha
        obtain ⟨S1, f1, f2, f3, f4, f5, M1⟩ := mv_end G hM hSp
        have hne : p ≠ o := fun e => by rw [e, Nat.beq_refl] at h2; cases h2
        refine ⟨_, _, h, app_finish T0 hT hE f1 M1 f5 f2 (by rw [f5]; exact hid) hlo hhi (fun W hW => by rw [(hrd W hW).2] at ha; cases ha) (.inr ⟨o, _, rfl, by rw [f2, get_del, if_neg hne, ← hM]; exact hSo, by rw [f4]⟩) (by rw [f1]; exact hl) (by rw [f1]; exact hs) (ble_le h3) _ (fun S' l' E' hL => lies_OR_arow hL (VRs_append (VRs_ext E' _ _ (VRs_ext M1.ext _ _ hc)) (VRs_ext E' _ _ (VRs_ext M1.ext _ _ hr))))⟩
      · split at h
        · rename_i n2 g2 hsrc
          replace h := ite_some h; obtain ⟨h3, h⟩ := h
          obtain ⟨news, hs, hnc⟩ := src_sound T0 G hM hE hx hsrc
          refine ⟨_, _, h, app_finish T0 hT hE rfl (Mv.refl G) rfl hM hid hlo hhi (fun W hW => ⟨(hrd W hW).1, rfl⟩) (.inr ⟨o, _, rfl, hSo, rfl⟩) hl hs (ble_le h3) _ (fun S' l' E' hL => lies_OR_arow hL (VRs_append (VRs_ext E' _ _ hc) (VRs_ext E' _ _ (rowCells_VRs hs.newsLen hnc))))⟩
        · cases h
    · cases h
  · cases h
end
end Go.Proofs.YtkenjojkpdeooaaGreatDoor.AI
end
