/- The tape: Mod, Next. · Rounds of a loop, and what is told of all strings of the corpora that are made. · Small functions of the reference that look through lists. · Small functions of the reference that look through lists, whole. · Validate's parts: the loops. · Validate's parts: the loops of Nodes. -/
import Derived.Test.YtkenjojkpdeooaaGreatDoorM9
section
set_option linter.unusedVariables false
set_option maxRecDepth 100000
set_option linter.unusedSimpArgs false
set_option linter.constructorNameAsVariable false
namespace Go.Proofs.YtkenjojkpdeooaaGreatDoor
open AI

theorem wrap_id {x : Int} (h1 : -9223372036854775808 ≤ x) (h2 : x < 9223372036854775808) : IntKind.i64.wrap x = x := by
  have b : IntKind.i64.bits = 64 := rfl
  have g : IntKind.i64.signed = true := rfl
  simp only [IntKind.wrap, b, g, Bool.true_and, decide_eq_true_eq]
  split <;> omega
/-- Mod: a number below n. -/
def specMod : AI.Spec := fun xs m K => match xs, m with
  | [.int .i64 x, .int .i64 n], [] => (1 ≤ n ∧ n ≤ 4611686018427387904) ∧ ∀ r, 0 ≤ r → r < n → K (.int .i64 r) []
  | _, _ => False
theorem mod_eq (x n : Int) (Q : AV → Mem → Prop) : runW ctx cw0 lw0 13 [.int .i64 x, .int .i64 n] [] Q =
    brW (decide (n < 1)) (Q (.int .i64 0) []) (holds (if n = 0 then none else some (brW (decide (x.tmod n < 0)) (Q (.int .i64 (IntKind.i64.wrap (x.tmod n + n))) []) (Q (.int .i64 (x.tmod n)) [])))) := by kernel_rfl
theorem mod_run (x n : Int) (h1 : 1 ≤ n) (h2 : n ≤ 4611686018427387904) : runW ctx cw0 lw0 13 [.int .i64 x, .int .i64 n] [] (fun r m => ∃ y, 0 ≤ y ∧ y < n ∧ r = .int .i64 y ∧ m = []) := by
  have t1 := Int.tmod_lt_of_pos x (show 0 < n by omega)
  have t2 : -n < x.tmod n := Int.lt_tmod_of_pos x (show 0 < n by omega)
  rw [mod_eq]
  refine br (fun h => ?_) (fun h => ?_)
  · simp at h; omega
  rw [if_neg (by omega)]
  refine br (fun h => ?_) (fun h => ?_)
  · have h : x.tmod n < 0 := by simpa using h
    refine ⟨_, ?_, ?_, rfl, rfl⟩
    · rw [wrap_id (by omega) (by omega)]; omega
    · rw [wrap_id (by omega) (by omega)]; omega
  · have h : ¬ x.tmod n < 0 := by simpa using h
    exact ⟨x.tmod n, by omega, t1, rfl, rfl⟩
theorem specMod_ok (xs : List AV) (m : Mem) (K0 : AV → Mem → Prop) (h : specMod xs m K0) : ∃ r m', CallRes Tryz.prog ctx.TY 13 xs m r m' ∧ ∀ K, specMod xs m K → K r m' := by
  unfold specMod at h
  split at h
  · rename_i x n
    obtain ⟨r, m', h1, y, h2, h3, rfl, rfl⟩ := lay0.run (mod_run x n h.1.1 h.1.2)
    exact ⟨_, _, h1, fun K hK => hK.2 y h2 h3⟩
  · exact h.elim
def specs1 : FuncId → Option AI.Spec := fun f => match f with | 13 => some specMod | _ => none
def cw1 : CallW := addF specs1 cw0
theorem lay1 : Lay Tryz.prog ctx cw1 lw0 := lay0.addF fun f S hf xs m K0 h => by
  unfold specs1 at hf
  split at hf
  · cases hf; exact specMod_ok xs m K0 h
  · cases hf

/-- Next: a number below n; the tape goes on. -/
def specNext : AI.Spec := fun xs m K => match xs, m with
  | [.adr 0 0 0, .int .i64 n], [(0, .box [.psl 3 len g, .int .i64 (.ofNat a)])] => (1 ≤ n ∧ n ≤ 4611686018427387904 ∧ a ≤ len ∧ len ≤ 120) ∧ ∀ (r : Int) (a' : Nat), 0 ≤ r → r < n → a' ≤ len → K (.int .i64 r) [(0, .box [.psl 3 len g, .int .i64 (.ofNat a')])]
  | _, _ => False
theorem next_eq (n : Int) (len : Nat) (g : Nat → Nat → PV) (a : Nat) (Q : AV → Mem → Prop) : runW ctx cw1 lw0 35 [.adr 0 0 0, .int .i64 n] [(0, .box [.psl 3 len g, .int .i64 (.ofNat a)])] Q =
    brW (decide (Int.ofNat a ≥ Int.ofNat len)) (Q (.int .i64 0) [(0, .box [.psl 3 len g, .int .i64 (.ofNat a)])])
      (holds (if 0 ≤ IntKind.i64.wrap (IntKind.i64.wrap (Int.ofNat a + 1) - 1) then (if IntKind.i64.wrap (IntKind.i64.wrap (Int.ofNat a + 1) - 1) < (len : Int) then some
        ((1 ≤ n ∧ n ≤ 4611686018427387904) ∧ ∀ r, 0 ≤ r → r < n → Q (.int .i64 r) [(0, .box [.psl 3 len g, .int .i64 (IntKind.i64.wrap (Int.ofNat a + 1))])]) else none) else none)) := by kernel_rfl
theorem next_run (n : Int) (len : Nat) (g : Nat → Nat → PV) (a : Nat) (h1 : 1 ≤ n) (h2 : n ≤ 4611686018427387904) (h3 : a ≤ len) (h4 : len ≤ 120) : runW ctx cw1 lw0 35 [.adr 0 0 0, .int .i64 n] [(0, .box [.psl 3 len g, .int .i64 (.ofNat a)])]
    (fun r m => ∃ (y : Int) (a' : Nat), 0 ≤ y ∧ y < n ∧ a' ≤ len ∧ r = .int .i64 y ∧ m = [(0, .box [.psl 3 len g, .int .i64 (.ofNat a')])]) := by
  rw [next_eq]
  have e1 : IntKind.i64.wrap (Int.ofNat a + 1) = Int.ofNat (a + 1) := by rw [wrap_id]; rfl; all_goals (simp <;> omega)
  have e2 : IntKind.i64.wrap (Int.ofNat (a + 1) - 1) = Int.ofNat a := by rw [wrap_id]; all_goals (simp <;> omega)
  refine br (fun h => ?_) (fun h => ?_)
  · exact ⟨0, a, by omega, by omega, h3, rfl, rfl⟩
  · have h : ¬ (len ≤ a) := by simpa using h
    rw [e1, e2, if_pos (by simp), if_pos (by simp; omega)]
    exact ⟨⟨h1, h2⟩, fun r h5 h6 => ⟨r, a + 1, h5, h6, by omega, rfl, rfl⟩⟩
theorem specNext_ok (xs : List AV) (m : Mem) (K0 : AV → Mem → Prop) (h : specNext xs m K0) : ∃ r m', CallRes Tryz.prog ctx.TY 35 xs m r m' ∧ ∀ K, specNext xs m K → K r m' := by
  unfold specNext at h
  split at h
  · rename_i n len g a
    obtain ⟨r, m', h1, y, a', h2, h3, h4, rfl, rfl⟩ := lay1.run (next_run n len g a h.1.1 h.1.2.1 h.1.2.2.1 h.1.2.2.2)
    exact ⟨_, _, h1, fun K hK => hK.2 y a' h2 h3 h4⟩
  · exact h.elim

/-! Small tables. -/
def strL (l : List UInt8) : ByteArray := ⟨l.toArray⟩
def words : List ByteArray := [strL [97], strL [98], strL [99], strL [65], strL [97, 98], strL []]
def tags : List ByteArray := [strL [88], strL [89]]
def feats : List ByteArray := [strL [124], strL [124, 112, 124], strL [124, 112, 124, 113, 124], strL [124, 113, 124]]
def types : List ByteArray := [strL [115], strL [110, 112], strL [116]]
def specTab (l : List ByteArray) : AI.Spec := fun xs m K => match xs, m with
  | [.int .i64 x], [] => (0 ≤ x ∧ x < (l.length : Int)) ∧ ∀ s, s ∈ l → K (.str s) []
  | _, _ => False
def tabF (l : List ByteArray) : Nat → Nat → PV := fun i j => (l.map PV.str).getD (i * 1 + j) .bad
theorem word_eq (x : Int) (Q : AV → Mem → Prop) : runW ctx cw1 lw0 72 [.int .i64 x] [] Q =
    holds (if 0 ≤ x then (if x < ((6 : Nat) : Int) then some (Q (.str (tabF words x.toNat 0).s) []) else none) else none) := by kernel_rfl
theorem tag_eq (x : Int) (Q : AV → Mem → Prop) : runW ctx cw1 lw0 73 [.int .i64 x] [] Q =
    holds (if 0 ≤ x then (if x < ((2 : Nat) : Int) then some (Q (.str (tabF tags x.toNat 0).s) []) else none) else none) := by kernel_rfl
theorem feat_eq (x : Int) (Q : AV → Mem → Prop) : runW ctx cw1 lw0 74 [.int .i64 x] [] Q =
    holds (if 0 ≤ x then (if x < ((4 : Nat) : Int) then some (Q (.str (tabF feats x.toNat 0).s) []) else none) else none) := by kernel_rfl
theorem type_eq (x : Int) (Q : AV → Mem → Prop) : runW ctx cw1 lw0 63 [.int .i64 x] [] Q =
    ((1 ≤ (3 : Int) ∧ (3 : Int) ≤ 4611686018427387904) ∧ ∀ r, 0 ≤ r → r < (3 : Int) → holds (if 0 ≤ r then (if r < ((3 : Nat) : Int) then some (Q (.str (tabF types r.toNat 0).s) []) else none) else none)) := by kernel_rfl
theorem tab_mem (l : List ByteArray) (i : Nat) (h : i < l.length) : (tabF l i 0).s ∈ l := by
  unfold tabF
  rw [List.getD_eq_getElem?_getD, List.getElem?_map, show i * 1 + 0 = i by omega, List.getElem?_eq_getElem h]
  exact List.getElem_mem h
theorem tab_ok (f : FuncId) (l : List ByteArray) (heq : ∀ x Q, runW ctx cw1 lw0 f [.int .i64 x] [] Q = holds (if 0 ≤ x then (if x < (l.length : Int) then some (Q (.str (tabF l x.toNat 0).s) []) else none) else none))
    (xs : List AV) (m : Mem) (K0 : AV → Mem → Prop) (h : specTab l xs m K0) : ∃ r m', CallRes Tryz.prog ctx.TY f xs m r m' ∧ ∀ K, specTab l xs m K → K r m' := by
  unfold specTab at h
  split at h
  · rename_i x
    have hr : runW ctx cw1 lw0 f [.int .i64 x] [] (fun r m => ∃ s, s ∈ l ∧ r = .str s ∧ m = []) := by
      rw [heq, if_pos h.1.1, if_pos h.1.2]
      exact ⟨_, tab_mem l x.toNat (by have := h.1; omega), rfl, rfl⟩
    obtain ⟨r, m', h1, s, hs, rfl, rfl⟩ := lay1.run hr
    exact ⟨_, _, h1, fun K hK => hK.2 s hs⟩
  · exact h.elim
def specType : AI.Spec := fun xs m K => match xs, m with
  | [.int .i64 x], [] => ∀ s, s ∈ types → K (.str s) []
  | _, _ => False
theorem type_ok (xs : List AV) (m : Mem) (K0 : AV → Mem → Prop) (h : specType xs m K0) : ∃ r m', CallRes Tryz.prog ctx.TY 63 xs m r m' ∧ ∀ K, specType xs m K → K r m' := by
  unfold specType at h
  split at h
  · rename_i x
    have hr : runW ctx cw1 lw0 63 [.int .i64 x] [] (fun r m => ∃ s, s ∈ types ∧ r = .str s ∧ m = []) := by
      rw [type_eq]
      refine ⟨by decide, fun r h1 h2 => ?_⟩
      rw [if_pos h1, if_pos (show r < ((3 : Nat) : Int) by omega)]
      exact ⟨_, tab_mem types r.toNat (by show r.toNat < 3; omega), rfl, rfl⟩
    obtain ⟨r, m', h1, s, hs, rfl, rfl⟩ := lay1.run hr
    exact ⟨_, _, h1, fun K hK => hK s hs⟩
  · exact h.elim
/-- The attributes of all corpora that are made. -/
def attrN : Nat := 3
def attrG : Nat → Nat → PV := fun i j => ([PV.str (strL [119, 111, 114, 100]), .bool false, .str (strL [116, 97, 103]), .bool false, .str (strL [102, 101, 97, 116]), .bool true]).getD (i * 2 + j) .bad
theorem attr_eq (Q : AV → Mem → Prop) : runW ctx cw1 lw0 14 [] [] Q = Q (.psl 71 3 attrG) [] := by kernel_rfl
def specAttr : AI.Spec := fun xs m K => match xs, m with
  | [], [] => K (.psl 71 3 attrG) []
  | _, _ => False
theorem attr_ok (xs : List AV) (m : Mem) (K0 : AV → Mem → Prop) (h : specAttr xs m K0) : ∃ r m', CallRes Tryz.prog ctx.TY 14 xs m r m' ∧ ∀ K, specAttr xs m K → K r m' := by
  unfold specAttr at h
  split at h
  · have hr : runW ctx cw1 lw0 14 [] [] (fun r m => r = .psl 71 3 attrG ∧ m = []) := by
      rw [attr_eq]; exact ⟨rfl, rfl⟩
    obtain ⟨r, m', h1, rfl, rfl⟩ := lay1.run hr
    exact ⟨_, _, h1, fun K hK => hK⟩
  · exact h.elim
def specs2 : FuncId → Option AI.Spec := fun f => match f with
  | 35 => some specNext | 72 => some (specTab words) | 73 => some (specTab tags) | 74 => some (specTab feats) | 63 => some specType | 14 => some specAttr | _ => none
def cw2 : CallW := addF specs2 cw1
theorem lay2 : Lay Tryz.prog ctx cw2 lw0 := lay1.addF fun f S hf xs m K0 h => by
  unfold specs2 at hf
  split at hf
  · cases hf; exact specNext_ok xs m K0 h
  · cases hf; exact tab_ok 72 words word_eq xs m K0 h
  · cases hf; exact tab_ok 73 tags tag_eq xs m K0 h
  · cases hf; exact tab_ok 74 feats feat_eq xs m K0 h
  · cases hf; exact type_ok xs m K0 h
  · cases hf; exact attr_ok xs m K0 h
  · cases hf
end Go.Proofs.YtkenjojkpdeooaaGreatDoor
end
section
set_option linter.unusedVariables false
set_option maxRecDepth 100000
set_option linter.unusedSimpArgs false
set_option linter.constructorNameAsVariable false
namespace Go.Proofs.YtkenjojkpdeooaaGreatDoor
open AI

/-! Loops. -/
noncomputable def bodyOf (f : FuncId) : Code := match ctx.ft f with | some fn => (match fn.body with | some c => c | none => .skip) | none => .skip
noncomputable def loopB (f rid : Nat) : Code := ((loopsOf (bodyOf f)).find? fun b => Nat.beq (firstRegion b) rid).getD .skip
noncomputable def oneOf (f rid : Nat) : Bool := Nat.beq ((loopsOf (bodyOf f)).filter fun b => Nat.beq (firstRegion b) rid).length 1
theorem loop_is {f rid : Nat} {fn : Func} {c b : Code} (h : oneOf f rid = true) (h1 : ctx.ft f = some fn) (h2 : fn.body = some c) (h3 : b ∈ loopsOf c) (h4 : firstRegion b = rid) : b = loopB f rid := by
  have hb : bodyOf f = c := by unfold bodyOf; rw [h1]; dsimp only; rw [h2]
  have hm : b ∈ (loopsOf c).filter fun b => Nat.beq (firstRegion b) rid := List.mem_filter.2 ⟨h3, by simp only [h4]; exact Nat.beq_refl rid⟩
  unfold oneOf at h
  unfold loopB
  rw [hb] at h ⊢
  have hl : ((loopsOf c).filter fun b => Nat.beq (firstRegion b) rid).length = 1 := Nat.eq_of_beq_eq_true h
  obtain ⟨x, hx⟩ := List.length_eq_one_iff.1 hl
  rw [hx] at hm
  have : b = x := by simpa using hm
  subst this
  rw [← List.head?_filter, hx]
  rfl
/-- One round: 'Kn' of the state at the head of the next one, 'Ke' of an end. -/
def roundW (cw : CallW) (lw : LoopW) (f base : Nat) (hx : Hint) (b : Code) (s : FS) (Kn : FS → Prop) (Ke : Ex → FS → Prop) : Prop :=
  execW ctx cw lw f base b s.tmps s.mem s.nx fun x e m nx => match x with
    | .normal => Kn (headS ctx f base b ⟨e, m, nx⟩)
    | x => Ke x (norm hx base ⟨e, m, nx⟩)
theorem loop_rule {cw : CallW} {lw : LoopW} {f base : Nat} {hx : Hint} {b : Code} {K : Ex → FS → Prop} (I : Nat → FS → Prop) (hz : ∀ s, ¬ I 0 s)
    (h : ∀ (N : Nat) (Kn : FS → Prop), (∀ s, I N s → Kn s) → ∀ s, I (N + 1) s → roundW cw lw f base hx b s Kn K) : ∀ N s, I N s → roundsW ctx cw lw f base hx b N s K := by
  intro N
  induction N with
  | zero => intro s hs; exact (hz s hs).elim
  | succ N ih => intro s hs; exact h N (fun s' => roundsW ctx cw lw f base hx b N s' K) ih s hs

/-! The strings. -/
def names_ : List ByteArray := [strL [116, 48], strL [116, 49], strL [116, 50]]
def sig : List ByteArray := words ++ tags ++ feats ++ types ++ names_ ++ [strL [121, 101, 97, 114], strL [49], strL [50], strL [110], strL [83], strL [78, 80], strL [86, 80], strL [111, 98, 106], strL [100, 101, 116]]
def isInt : Option (AV × Mem) → Bool | some (.int .i64 _, []) => true | _ => false
def isBool : Option (AV × Mem) → Bool | some (.bool _, []) => true | _ => false
theorem isInt_iff {o : Option (AV × Mem)} (h : isInt o = true) : ∃ x, o = some (.int .i64 x, []) := by
  unfold isInt at h
  split at h
  · exact ⟨_, rfl⟩
  · cases h
theorem isBool_iff {o : Option (AV × Mem)} (h : isBool o = true) : ∃ x, o = some (.bool x, []) := by
  unfold isBool at h
  split at h
  · exact ⟨_, rfl⟩
  · cases h
theorem tab116 : (sig.all fun s => isBool (callN ctx noLoops ext 40 116 [.str s] [])) = true := by kernel_rfl
theorem tab117 : (sig.all fun s => isInt (callN ctx noLoops ext 40 117 [.str s] [])) = true := by kernel_rfl
theorem tab172 (nm : ByteArray) (b : Bool) : (sig.all fun s => isInt (callN ctx noLoops ext 40 172 [.agg [.str nm, .bool b], .str s] [])) = true := by cases b <;> kernel_rfl
theorem run147 : callN ctx noLoops ext 40 147 [.psl 71 3 attrG] [] = some (.tup [.int .i64 0, .int .i64 0], []) := by kernel_rfl
theorem run79 : callN ctx noLoops ext 40 79 [.psl 71 3 attrG, .psl 71 3 attrG] [] = some (.bool true, []) := by kernel_rfl
theorem tab_get {l : List ByteArray} {p : ByteArray → Bool} (h : l.all p = true) {s : ByteArray} (hs : s ∈ l) : p s = true := List.all_eq_true.1 h s hs

def specStrB : AI.Spec := fun xs m K => match xs, m with
  | [.str s], [] => s ∈ sig ∧ ∀ b, K (.bool b) []
  | _, _ => False
def specStrI : AI.Spec := fun xs m K => match xs, m with
  | [.str s], [] => s ∈ sig ∧ ∀ x, K (.int .i64 x) []
  | _, _ => False
def specVal : AI.Spec := fun xs m K => match xs, m with
  | [.agg [.str _, .bool _], .str s], [] => s ∈ sig ∧ ∀ x, K (.int .i64 x) []
  | _, _ => False
def spec147 : AI.Spec := fun xs m K => match xs, m with
  | [.psl 71 3 g], [] => g = attrG ∧ K (.tup [.int .i64 0, .int .i64 0]) []
  | _, _ => False
def spec79 : AI.Spec := fun xs m K => match xs, m with
  | [.psl 71 3 g, .psl 71 3 h], [] => (g = attrG ∧ h = attrG) ∧ K (.bool true) []
  | _, _ => False
def specs3 : FuncId → Option AI.Spec := fun f => match f with
  | 116 => some specStrB | 117 => some specStrI | 172 => some specVal | 147 => some spec147 | 79 => some spec79 | _ => none
def cw3 : CallW := addF specs3 cw2
theorem lay3 : Lay Tryz.prog ctx cw3 lw0 := lay2.addF fun f S hf xs m K0 h => by
  unfold specs3 at hf
  split at hf <;> cases hf
  · unfold specStrB at h
    split at h
    · obtain ⟨b, hb⟩ := isBool_iff (tab_get tab116 h.1)
      exact ⟨_, _, runs hb, fun K hK => hK.2 b⟩
    · exact h.elim
  · unfold specStrI at h
    split at h
    · obtain ⟨b, hb⟩ := isInt_iff (tab_get tab117 h.1)
      exact ⟨_, _, runs hb, fun K hK => hK.2 b⟩
    · exact h.elim
  · unfold specVal at h
    split at h
    · rename_i nm b s
      obtain ⟨x, hx⟩ := isInt_iff (tab_get (tab172 nm b) h.1)
      exact ⟨_, _, runs hx, fun K hK => hK.2 x⟩
    · exact h.elim
  · unfold spec147 at h
    split at h
    · obtain ⟨rfl, _⟩ := h
      exact ⟨_, _, runs run147, fun K hK => hK.2⟩
    · exact h.elim
  · unfold spec79 at h
    split at h
    · obtain ⟨⟨rfl, rfl⟩, _⟩ := h
      exact ⟨_, _, runs run79, fun K hK => hK.2⟩
    · exact h.elim
end Go.Proofs.YtkenjojkpdeooaaGreatDoor
end
section
set_option linter.unusedVariables false
set_option maxRecDepth 100000
set_option linter.unusedSimpArgs false
set_option linter.constructorNameAsVariable false
namespace Go.Proofs.YtkenjojkpdeooaaGreatDoor
open AI

theorem holds_if {c : Prop} {inst : Decidable c} {x : Option Prop} (h : c) (hx : holds x) : holds (if c then x else none) := by rw [if_pos h]; exact hx
theorem holds_ifn {c : Prop} {inst : Decidable c} {x : Option Prop} (h : ¬ c) (hx : holds x) : holds (if c then none else x) := by rw [if_neg h]; exact hx
theorem brd {p : Prop} {inst : Decidable p} {P Q : Prop} (h1 : p → P) (h2 : ¬ p → Q) : brW (decide p) P Q := by
  by_cases h : p
  · rw [decide_eq_true h]; exact h1 h
  · rw [decide_eq_false h]; exact h2 h
/-- A loop does what is told of it. -/
def LOK (cw : CallW) (lw : LoopW) (f rid : Nat) (hx : Hint) (S : LSpec) : Prop := ∀ base s K, S base s K → ∃ N, roundsW ctx cw lw f base hx (loopB f rid) N s K
theorem layL {cw : CallW} {lw : LoopW} (h : Lay Tryz.prog ctx cw lw) {specs : FuncId → Nat → Option (Hint × LSpec)} (hs : ∀ f rid p, specs f rid = some p → oneOf f rid = true ∧ LOK cw lw f rid p.1 p.2) : Lay Tryz.prog ctx cw (addL specs lw) :=
  h.addL fun f fn c b p h1 h2 h3 h4 base s K hK => by
    obtain ⟨h5, h6⟩ := hs f _ p h4
    rw [loop_is h5 h1 h2 h3 rfl]
    exact h6 base s K hK
/-- A function does what is told of it. -/
def FOK (cw : CallW) (lw : LoopW) (f : FuncId) (S : AI.Spec) : Prop := ∀ xs m K0, S xs m K0 → ∃ r m', CallRes Tryz.prog ctx.TY f xs m r m' ∧ ∀ K, S xs m K → K r m'
theorem layF {cw : CallW} {lw : LoopW} (h : Lay Tryz.prog ctx cw lw) {specs : FuncId → Option AI.Spec} (hs : ∀ f S, specs f = some S → FOK cw lw f S) : Lay Tryz.prog ctx (addF specs cw) lw :=
  h.addF fun f S hf xs m K0 h0 => hs f S hf xs m K0 h0

/-! sign, compare -/
def specI (ok : List AV → Prop) : AI.Spec := fun xs m K => match m with
  | [] => ok xs ∧ ∀ x, K (.int .i64 x) []
  | _ => False
def specB (ok : List AV → Prop) : AI.Spec := fun xs m K => match m with
  | [] => ok xs ∧ ∀ x, K (.bool x) []
  | _ => False
theorem specI_ok {cw : CallW} {lw : LoopW} (L : Lay Tryz.prog ctx cw lw) {f : FuncId} {ok : List AV → Prop} (h : ∀ xs, ok xs → runW ctx cw lw f xs [] fun r m => ∃ x, r = .int .i64 x ∧ m = []) : FOK cw lw f (specI ok) := by
  intro xs m K0 h0
  unfold specI at h0
  split at h0
  · obtain ⟨r, m', h1, x, rfl, rfl⟩ := L.run (h xs h0.1)
    exact ⟨_, _, h1, fun K hK => hK.2 x⟩
  · exact h0.elim
theorem specB_ok {cw : CallW} {lw : LoopW} (L : Lay Tryz.prog ctx cw lw) {f : FuncId} {ok : List AV → Prop} (h : ∀ xs, ok xs → runW ctx cw lw f xs [] fun r m => ∃ x, r = .bool x ∧ m = []) : FOK cw lw f (specB ok) := by
  intro xs m K0 h0
  unfold specB at h0
  split at h0
  · obtain ⟨r, m', h1, x, rfl, rfl⟩ := L.run (h xs h0.1)
    exact ⟨_, _, h1, fun K hK => hK.2 x⟩
  · exact h0.elim
def ok145 : List AV → Prop := fun xs => match xs with | [.bool _] => True | _ => False
def ok146 : List AV → Prop := fun xs => match xs with | [.str _, .str _] => True | _ => False
theorem e145 (b : Bool) (Q : AV → Mem → Prop) : runW ctx cw3 lw0 145 [.bool b] [] Q = (brW b (Q (AV.int IntKind.i64 (-1 : Int)) []) (Q (AV.int IntKind.i64 1) [])) := by kernel_rfl
theorem e146 (a b : ByteArray) (Q : AV → Mem → Prop) : runW ctx cw3 lw0 146 [.str a, .str b] [] Q = (brW (Op.bytesLess a.toList b.toList) (Q (AV.int IntKind.i64 (-1 : Int)) []) (brW (!(Op.bytesLess a.toList b.toList || a.toList == b.toList)) (Q (AV.int IntKind.i64 1) []) (Q (AV.int IntKind.i64 0) []))) := by kernel_rfl
theorem f145 : FOK cw3 lw0 145 (specI ok145) := specI_ok lay3 fun xs h => by
  unfold ok145 at h
  split at h
  · rw [e145]
    exact br (fun _ => ⟨_, rfl, rfl⟩) (fun _ => ⟨_, rfl, rfl⟩)
  · exact h.elim
theorem f146 : FOK cw3 lw0 146 (specI ok146) := specI_ok lay3 fun xs h => by
  unfold ok146 at h
  split at h
  · rw [e146]
    exact br (fun _ => ⟨_, rfl, rfl⟩) (fun _ => br (fun _ => ⟨_, rfl, rfl⟩) (fun _ => ⟨_, rfl, rfl⟩))
  · exact h.elim
def specs4 : FuncId → Option AI.Spec := fun f => match f with | 145 => some (specI ok145) | 146 => some (specI ok146) | _ => none
def cw4 : CallW := addF specs4 cw3
theorem lay4 : Lay Tryz.prog ctx cw4 lw0 := layF lay3 fun f S hf => by
  unfold specs4 at hf
  split at hf <;> cases hf
  · exact f145
  · exact f146

/-! The loops. -/
theorem wrap_succ {i : Int} (h0 : 0 ≤ i) (h : i ≤ 4611686018427387904) : IntKind.i64.wrap (i + 1) = i + 1 := wrap_id (by omega) (by omega)
theorem wrap_pred {i : Int} (h0 : 0 ≤ i) (h : i ≤ 4611686018427387904) : IntKind.i64.wrap (i - 1) = i - 1 := wrap_id (by omega) (by omega)
/-- Pairs of the known strings. -/
def PairsN (n : Nat) (g : Nat → Nat → PV) : Prop := ∀ j, j < n → (g j 0).s ∈ sig ∧ (g j 1).s ∈ sig
theorem holds_some {p : Prop} (h : p) : holds (some p) := h
def L174_2 : LSpec := fun base s K => match base, s with
  | 0, ⟨[(1, .int .i64 x), (2, .int .i64 y), (10, .psl 105 n g), (11, .int .i64 n'), (12, .int .i64 i)], [], 0⟩ => (n' = n ∧ 0 ≤ i ∧ i ≤ n ∧ n ≤ 1000) ∧ (K .ret ⟨[(6, .bool true)], [], 0⟩) ∧ (K (.exit 0) ⟨[(6, .undef)], [], 0⟩)
  | _, _ => False
theorem r174_2 (x y : Int) (n : Nat) (g : Nat → Nat → PV)  (i : Int) (Kn : FS → Prop) (Ke : Ex → FS → Prop) : roundW cw4 lw0 174 0 ⟨[6], []⟩ (loopB 174 2) ⟨[(1, .int .i64 x), (2, .int .i64 y), (10, .psl 105 n g), (11, .int .i64 n), (12, .int .i64 i)], [], 0⟩ Kn Ke = (brW (decide (i < (n : Int))) (holds (if (0 : Int) ≤ i then if i < (n : Int) then some (brW (decide ((g i.toNat 1).i ≤ x)) (brW (decide (x < y)) (brW (decide (y ≤ (g i.toNat 2).i)) (Ke Ex.ret { tmps := [(6, AV.bool true)], mem := [], nx := 0 }) (Kn { tmps := [(1, AV.int IntKind.i64 x), (2, AV.int IntKind.i64 y), (10, AV.psl 105 n g), (11, AV.int IntKind.i64 (n : Int)), (12, AV.int IntKind.i64 (IntKind.i64.wrap (i + (1 : Int))))], mem := [], nx := 0 })) (Kn { tmps := [(1, AV.int IntKind.i64 x), (2, AV.int IntKind.i64 y), (10, AV.psl 105 n g), (11, AV.int IntKind.i64 (n : Int)), (12, AV.int IntKind.i64 (IntKind.i64.wrap (i + (1 : Int))))], mem := [], nx := 0 })) (Kn { tmps := [(1, AV.int IntKind.i64 x), (2, AV.int IntKind.i64 y), (10, AV.psl 105 n g), (11, AV.int IntKind.i64 (n : Int)), (12, AV.int IntKind.i64 (IntKind.i64.wrap (i + (1 : Int))))], mem := [], nx := 0 })) else none else none)) (Ke (Ex.exit 0) { tmps := [(6, AV.undef)], mem := [], nx := 0 })) := by kernel_rfl
theorem l174_2 : LOK cw4 lw0 174 2 ⟨[6], []⟩ L174_2 := by
  intro base s K h
  unfold L174_2 at h
  split at h
  · rename_i x y n g n' i
    obtain ⟨⟨rfl, a0, a1, p0⟩, k1 , k2⟩ := h
    refine ⟨((n : Int) - i + 1).toNat, loop_rule (fun N s => ∃ (i : Int), s = (⟨[(1, .int .i64 x), (2, .int .i64 y), (10, .psl 105 n g), (11, .int .i64 n), (12, .int .i64 i)], [], 0⟩ : FS) ∧ 0 ≤ i ∧ i ≤ n ∧ (n : Int) - i + 1 ≤ (N : Int)) ?_ ?_ _ _ ⟨i, rfl, a0, a1, by omega⟩⟩
    · rintro s ⟨i, _, i0, i1, iN⟩; omega
    · rintro N Kn hKn s ⟨i, rfl, i0, i1, iN⟩
      rw [r174_2]
      try rw [wrap_succ i0 (by omega)]
      (repeat' (first | with_reducible refine brd (fun _ => ?_) (fun _ => ?_) | with_reducible refine holds_if ?_ ?_ | with_reducible refine holds_ifn ?_ ?_ | with_reducible refine holds_some ?_ | with_reducible refine br (fun _ => ?_) (fun _ => ?_) | with_reducible refine And.intro ?_ ?_ | with_reducible refine fun _ => ?_))
      all_goals first
        | omega
        | exact trivial
        | exact k1
        | exact k2
        | exact k1 _
        | exact k1 _ _
        | exact k1 _ _ _
        | exact k2 _
        | exact k2 _ _
        | exact k2 _ _ _
        | exact hKn _ ⟨i + 1, rfl, by omega, by omega, by omega⟩
  · exact h.elim
def L176_2 : LSpec := fun base s K => match base, s with
  | 0, ⟨[(1, .int .i64 x), (8, .psl 105 n g), (9, .int .i64 n'), (10, .int .i64 i)], [], 0⟩ => (n' = n ∧ 0 ≤ i ∧ i ≤ n ∧ n ≤ 1000) ∧ (∀ r, K .ret ⟨[(4, .int .i64 r)], [], 0⟩) ∧ (K (.exit 0) ⟨[(4, .undef)], [], 0⟩)
  | _, _ => False
theorem r176_2 (x : Int) (n : Nat) (g : Nat → Nat → PV)  (i : Int) (Kn : FS → Prop) (Ke : Ex → FS → Prop) : roundW cw4 lw0 176 0 ⟨[4], []⟩ (loopB 176 2) ⟨[(1, .int .i64 x), (8, .psl 105 n g), (9, .int .i64 n), (10, .int .i64 i)], [], 0⟩ Kn Ke = (brW (decide (i < (n : Int))) (holds (if (0 : Int) ≤ i then if i < (n : Int) then some (brW (decide ((g i.toNat 1).i ≤ x)) (brW (decide (x < (g i.toNat 2).i)) (Ke Ex.ret { tmps := [(4, AV.int IntKind.i64 i)], mem := [], nx := 0 }) (Kn { tmps := [(1, AV.int IntKind.i64 x), (8, AV.psl 105 n g), (9, AV.int IntKind.i64 (n : Int)), (10, AV.int IntKind.i64 (IntKind.i64.wrap (i + (1 : Int))))], mem := [], nx := 0 })) (Kn { tmps := [(1, AV.int IntKind.i64 x), (8, AV.psl 105 n g), (9, AV.int IntKind.i64 (n : Int)), (10, AV.int IntKind.i64 (IntKind.i64.wrap (i + (1 : Int))))], mem := [], nx := 0 })) else none else none)) (Ke (Ex.exit 0) { tmps := [(4, AV.undef)], mem := [], nx := 0 })) := by kernel_rfl
theorem l176_2 : LOK cw4 lw0 176 2 ⟨[4], []⟩ L176_2 := by
  intro base s K h
  unfold L176_2 at h
  split at h
  · rename_i x n g n' i
    obtain ⟨⟨rfl, a0, a1, p0⟩, k1 , k2⟩ := h
    refine ⟨((n : Int) - i + 1).toNat, loop_rule (fun N s => ∃ (i : Int), s = (⟨[(1, .int .i64 x), (8, .psl 105 n g), (9, .int .i64 n), (10, .int .i64 i)], [], 0⟩ : FS) ∧ 0 ≤ i ∧ i ≤ n ∧ (n : Int) - i + 1 ≤ (N : Int)) ?_ ?_ _ _ ⟨i, rfl, a0, a1, by omega⟩⟩
    · rintro s ⟨i, _, i0, i1, iN⟩; omega
    · rintro N Kn hKn s ⟨i, rfl, i0, i1, iN⟩
      rw [r176_2]
      try rw [wrap_succ i0 (by omega)]
      (repeat' (first | with_reducible refine brd (fun _ => ?_) (fun _ => ?_) | with_reducible refine holds_if ?_ ?_ | with_reducible refine holds_ifn ?_ ?_ | with_reducible refine holds_some ?_ | with_reducible refine br (fun _ => ?_) (fun _ => ?_) | with_reducible refine And.intro ?_ ?_ | with_reducible refine fun _ => ?_))
      all_goals first
        | omega
        | exact trivial
        | exact k1
        | exact k2
        | exact k1 _
        | exact k1 _ _
        | exact k1 _ _ _
        | exact k2 _
        | exact k2 _ _
        | exact k2 _ _ _
        | exact hKn _ ⟨i + 1, rfl, by omega, by omega, by omega⟩
  · exact h.elim
def L80_2 : LSpec := fun base s K => match base, s with
  | 0, ⟨[(1, .str x), (8, .psl 105 n g), (9, .int .i64 n'), (10, .int .i64 i)], [], 0⟩ => (n' = n ∧ 0 ≤ i ∧ i ≤ n ∧ n ≤ 1000) ∧ (∀ r, K .ret ⟨[(4, .int .i64 r)], [], 0⟩) ∧ (K (.exit 0) ⟨[(4, .undef)], [], 0⟩)
  | _, _ => False
theorem r80_2 (x : ByteArray) (n : Nat) (g : Nat → Nat → PV)  (i : Int) (Kn : FS → Prop) (Ke : Ex → FS → Prop) : roundW cw4 lw0 80 0 ⟨[4], []⟩ (loopB 80 2) ⟨[(1, .str x), (8, .psl 105 n g), (9, .int .i64 n), (10, .int .i64 i)], [], 0⟩ Kn Ke = (brW (decide (i < (n : Int))) (holds (if (0 : Int) ≤ i then if i < (n : Int) then some (brW ((g i.toNat 0).s.toList == x.toList) (Ke Ex.ret { tmps := [(4, AV.int IntKind.i64 i)], mem := [], nx := 0 }) (Kn { tmps := [(1, AV.str x), (8, AV.psl 105 n g), (9, AV.int IntKind.i64 (n : Int)), (10, AV.int IntKind.i64 (IntKind.i64.wrap (i + (1 : Int))))], mem := [], nx := 0 })) else none else none)) (Ke (Ex.exit 0) { tmps := [(4, AV.undef)], mem := [], nx := 0 })) := by kernel_rfl
theorem l80_2 : LOK cw4 lw0 80 2 ⟨[4], []⟩ L80_2 := by
  intro base s K h
  unfold L80_2 at h
  split at h
  · rename_i x n g n' i
    obtain ⟨⟨rfl, a0, a1, p0⟩, k1 , k2⟩ := h
    refine ⟨((n : Int) - i + 1).toNat, loop_rule (fun N s => ∃ (i : Int), s = (⟨[(1, .str x), (8, .psl 105 n g), (9, .int .i64 n), (10, .int .i64 i)], [], 0⟩ : FS) ∧ 0 ≤ i ∧ i ≤ n ∧ (n : Int) - i + 1 ≤ (N : Int)) ?_ ?_ _ _ ⟨i, rfl, a0, a1, by omega⟩⟩
    · rintro s ⟨i, _, i0, i1, iN⟩; omega
    · rintro N Kn hKn s ⟨i, rfl, i0, i1, iN⟩
      rw [r80_2]
      try rw [wrap_succ i0 (by omega)]
      (repeat' (first | with_reducible refine brd (fun _ => ?_) (fun _ => ?_) | with_reducible refine holds_if ?_ ?_ | with_reducible refine holds_ifn ?_ ?_ | with_reducible refine holds_some ?_ | with_reducible refine br (fun _ => ?_) (fun _ => ?_) | with_reducible refine And.intro ?_ ?_ | with_reducible refine fun _ => ?_))
      all_goals first
        | omega
        | exact trivial
        | exact k1
        | exact k2
        | exact k1 _
        | exact k1 _ _
        | exact k1 _ _ _
        | exact k2 _
        | exact k2 _ _
        | exact k2 _ _ _
        | exact hKn _ ⟨i + 1, rfl, by omega, by omega, by omega⟩
  · exact h.elim
def L175_2 : LSpec := fun base s K => match base, s with
  | 0, ⟨[(0, .psl 3 n g), (1, .psl 9 k h), (7, .int .i64 n'), (8, .int .i64 i)], [], 0⟩ => (n' = n ∧ 0 ≤ i ∧ i ≤ n ∧ n ≤ 1000 ∧ k = n) ∧ (K .ret ⟨[(4, .bool false)], [], 0⟩) ∧ (K (.exit 0) ⟨[(4, .undef)], [], 0⟩)
  | _, _ => False
theorem r175_2 (n k : Nat) (g h : Nat → Nat → PV)  (i : Int) (Kn : FS → Prop) (Ke : Ex → FS → Prop) : roundW cw4 lw0 175 0 ⟨[4], []⟩ (loopB 175 2) ⟨[(0, .psl 3 n g), (1, .psl 9 k h), (7, .int .i64 n), (8, .int .i64 i)], [], 0⟩ Kn Ke = (brW (decide (i < (n : Int))) (holds (if (0 : Int) ≤ i then if i < (n : Int) then some (brW (!(g i.toNat 0).i == (-1 : Int)) (Ke Ex.ret { tmps := [(4, AV.bool false)], mem := [], nx := 0 }) (holds (if (0 : Int) ≤ i then if i < (k : Int) then some (brW (!(h i.toNat 0).s.toList == (strL []).toList) (Ke Ex.ret { tmps := [(4, AV.bool false)], mem := [], nx := 0 }) (Kn { tmps := [(0, AV.psl 3 n g), (1, AV.psl 9 k h), (7, AV.int IntKind.i64 (n : Int)), (8, AV.int IntKind.i64 (IntKind.i64.wrap (i + (1 : Int))))], mem := [], nx := 0 })) else none else none))) else none else none)) (Ke (Ex.exit 0) { tmps := [(4, AV.undef)], mem := [], nx := 0 })) := by kernel_rfl
theorem l175_2 : LOK cw4 lw0 175 2 ⟨[4], []⟩ L175_2 := by
  intro base s K h
  unfold L175_2 at h
  split at h
  · rename_i n g k h n' i
    obtain ⟨⟨rfl, a0, a1, p0, p1⟩, k1 , k2⟩ := h
    refine ⟨((n : Int) - i + 1).toNat, loop_rule (fun N s => ∃ (i : Int), s = (⟨[(0, .psl 3 n g), (1, .psl 9 k h), (7, .int .i64 n), (8, .int .i64 i)], [], 0⟩ : FS) ∧ 0 ≤ i ∧ i ≤ n ∧ (n : Int) - i + 1 ≤ (N : Int)) ?_ ?_ _ _ ⟨i, rfl, a0, a1, by omega⟩⟩
    · rintro s ⟨i, _, i0, i1, iN⟩; omega
    · rintro N Kn hKn s ⟨i, rfl, i0, i1, iN⟩
      rw [r175_2]
      try rw [wrap_succ i0 (by omega)]
      (repeat' (first | with_reducible refine brd (fun _ => ?_) (fun _ => ?_) | with_reducible refine holds_if ?_ ?_ | with_reducible refine holds_ifn ?_ ?_ | with_reducible refine holds_some ?_ | with_reducible refine br (fun _ => ?_) (fun _ => ?_) | with_reducible refine And.intro ?_ ?_ | with_reducible refine fun _ => ?_))
      all_goals first
        | omega
        | exact trivial
        | exact k1
        | exact k2
        | exact k1 _
        | exact k1 _ _
        | exact k1 _ _ _
        | exact k2 _
        | exact k2 _ _
        | exact k2 _ _ _
        | exact hKn _ ⟨i + 1, rfl, by omega, by omega, by omega⟩
  · exact h.elim
def L177_3 : LSpec := fun base s K => match base, s with
  | 0, ⟨[(0, .psl 3 n g), (1, .int .i64 x), (5, .int .i64 a), (8, .int .i64 n'), (9, .int .i64 i)], [], 0⟩ => (n' = n ∧ 0 ≤ i ∧ i ≤ n ∧ n ≤ 1000 ∧ 0 ≤ a ∧ a < n) ∧ (∀ b, K .ret ⟨[(4, .bool b)], [], 0⟩) ∧ (K (.exit 0) ⟨[(4, .undef)], [], 0⟩)
  | _, _ => False
theorem r177_3 (n : Nat) (g : Nat → Nat → PV) (x : Int) (a : Int) (i : Int) (Kn : FS → Prop) (Ke : Ex → FS → Prop) : roundW cw4 lw0 177 0 ⟨[4], []⟩ (loopB 177 3) ⟨[(0, .psl 3 n g), (1, .int .i64 x), (5, .int .i64 a), (8, .int .i64 n), (9, .int .i64 i)], [], 0⟩ Kn Ke = (brW (decide (i < (n : Int))) (holds (if (0 : Int) ≤ a then if a < (n : Int) then some (brW (decide ((g a.toNat 0).i < (0 : Int))) (Ke Ex.ret { tmps := [(4, AV.bool false)], mem := [], nx := 0 }) (brW (decide ((g a.toNat 0).i ≥ (n : Int))) (Ke Ex.ret { tmps := [(4, AV.bool false)], mem := [], nx := 0 }) (brW ((g a.toNat 0).i == x) (Ke Ex.ret { tmps := [(4, AV.bool true)], mem := [], nx := 0 }) (Kn { tmps := [(0, AV.psl 3 n g), (1, AV.int IntKind.i64 x), (5, AV.int IntKind.i64 (g a.toNat 0).i), (8, AV.int IntKind.i64 (n : Int)), (9, AV.int IntKind.i64 (IntKind.i64.wrap (i + (1 : Int))))], mem := [], nx := 0 })))) else none else none)) (Ke (Ex.exit 0) { tmps := [(4, AV.undef)], mem := [], nx := 0 })) := by kernel_rfl
theorem l177_3 : LOK cw4 lw0 177 3 ⟨[4], []⟩ L177_3 := by
  intro base s K h
  unfold L177_3 at h
  split at h
  · rename_i n g x a n' i
    obtain ⟨⟨rfl, a0, a1, p0, v0, v1⟩, k1 , k2⟩ := h
    refine ⟨((n : Int) - i + 1).toNat, loop_rule (fun N s => ∃ (a : Int) (i : Int), s = (⟨[(0, .psl 3 n g), (1, .int .i64 x), (5, .int .i64 a), (8, .int .i64 n), (9, .int .i64 i)], [], 0⟩ : FS) ∧ 0 ≤ i ∧ i ≤ n ∧ 0 ≤ a ∧ a < n ∧ (n : Int) - i + 1 ≤ (N : Int)) ?_ ?_ _ _ ⟨a, i, rfl, a0, a1, v0, v1, by omega⟩⟩
    · rintro s ⟨a, i, _, i0, i1, i2, i3, iN⟩; omega
    · rintro N Kn hKn s ⟨a, i, rfl, i0, i1, i2, i3, iN⟩
      rw [r177_3]
      try rw [wrap_succ i0 (by omega)]
      (repeat' (first | with_reducible refine brd (fun _ => ?_) (fun _ => ?_) | with_reducible refine holds_if ?_ ?_ | with_reducible refine holds_ifn ?_ ?_ | with_reducible refine holds_some ?_ | with_reducible refine br (fun _ => ?_) (fun _ => ?_) | with_reducible refine And.intro ?_ ?_ | with_reducible refine fun _ => ?_))
      all_goals first
        | omega
        | exact trivial
        | exact k1
        | exact k2
        | exact k1 _
        | exact k1 _ _
        | exact k1 _ _ _
        | exact k2 _
        | exact k2 _ _
        | exact k2 _ _ _
        | exact hKn _ ⟨_, i + 1, rfl, by omega, by omega, i2, i3, by omega⟩
        | exact hKn _ ⟨_, i + 1, rfl, by omega, by omega, by omega, by omega, by omega⟩
  · exact h.elim
def L173_4 : LSpec := fun base s K => match base, s with
  | 0, ⟨[(0, .psl 107 n g), (9, .psl 107 n_1 g_1), (10, .int .i64 n'), (11, .int .i64 i)], [], 0⟩ => (n' = n ∧ n = n_1 ∧ g = g_1 ∧ 0 ≤ i ∧ i ≤ n ∧ n ≤ 1000 ∧ PairsN n g) ∧ (∀ r, K .ret ⟨[(2, .int .i64 r)], [], 0⟩) ∧ (K (.exit 0) ⟨[(2, .undef)], [], 0⟩)
  | _, _ => False
theorem r173_4 (n : Nat) (g : Nat → Nat → PV)  (i : Int) (Kn : FS → Prop) (Ke : Ex → FS → Prop) : roundW cw4 lw0 173 0 ⟨[2], []⟩ (loopB 173 4) ⟨[(0, .psl 107 n g), (9, .psl 107 n g), (10, .int .i64 n), (11, .int .i64 i)], [], 0⟩ Kn Ke = (brW (decide (i < (n : Int))) (holds (if (0 : Int) ≤ i then if i < (n : Int) then some ((g i.toNat 0).s ∈ sig ∧ ∀ (b : Bool), brW b (brW (decide (i > (0 : Int))) (holds (if (0 : Int) ≤ IntKind.i64.wrap (i - (1 : Int)) then if IntKind.i64.wrap (i - (1 : Int)) < (n : Int) then some (brW (!Op.bytesLess (g (IntKind.i64.wrap (i - (1 : Int))).toNat 0).s.toList (g i.toNat 0).s.toList) (Ke Ex.ret { tmps := [(2, AV.int IntKind.i64 6)], mem := [], nx := 0 }) ((g i.toNat 1).s ∈ sig ∧ ∀ (x : Int), brW (!x == (0 : Int)) (Ke Ex.ret { tmps := [(2, AV.int IntKind.i64 x)], mem := [], nx := 0 }) (Kn { tmps := [(0, AV.psl 107 n g), (9, AV.psl 107 n g), (10, AV.int IntKind.i64 (n : Int)), (11, AV.int IntKind.i64 (IntKind.i64.wrap (i + (1 : Int))))], mem := [], nx := 0 }))) else none else none)) ((g i.toNat 1).s ∈ sig ∧ ∀ (x : Int), brW (!x == (0 : Int)) (Ke Ex.ret { tmps := [(2, AV.int IntKind.i64 x)], mem := [], nx := 0 }) (Kn { tmps := [(0, AV.psl 107 n g), (9, AV.psl 107 n g), (10, AV.int IntKind.i64 (n : Int)), (11, AV.int IntKind.i64 (IntKind.i64.wrap (i + (1 : Int))))], mem := [], nx := 0 }))) (Ke Ex.ret { tmps := [(2, AV.int IntKind.i64 4)], mem := [], nx := 0 })) else none else none)) (Ke (Ex.exit 0) { tmps := [(2, AV.undef)], mem := [], nx := 0 })) := by kernel_rfl
theorem l173_4 : LOK cw4 lw0 173 4 ⟨[2], []⟩ L173_4 := by
  intro base s K h
  unfold L173_4 at h
  split at h
  · rename_i n g n_1 g_1 n' i
    obtain ⟨⟨rfl, rfl, rfl, a0, a1, p0, p1⟩, k1 , k2⟩ := h
    refine ⟨((n : Int) - i + 1).toNat, loop_rule (fun N s => ∃ (i : Int), s = (⟨[(0, .psl 107 n g), (9, .psl 107 n g), (10, .int .i64 n), (11, .int .i64 i)], [], 0⟩ : FS) ∧ 0 ≤ i ∧ i ≤ n ∧ (n : Int) - i + 1 ≤ (N : Int)) ?_ ?_ _ _ ⟨i, rfl, a0, a1, by omega⟩⟩
    · rintro s ⟨i, _, i0, i1, iN⟩; omega
    · rintro N Kn hKn s ⟨i, rfl, i0, i1, iN⟩
      rw [r173_4]
      try rw [wrap_succ i0 (by omega)]
      (repeat' (first | with_reducible refine brd (fun _ => ?_) (fun _ => ?_) | with_reducible refine holds_if ?_ ?_ | with_reducible refine holds_ifn ?_ ?_ | with_reducible refine holds_some ?_ | with_reducible refine br (fun _ => ?_) (fun _ => ?_) | with_reducible refine And.intro ?_ ?_ | with_reducible refine fun _ => ?_))
      all_goals first
        | omega
        | exact trivial
        | exact k1
        | exact k2
        | exact k1 _
        | exact k1 _ _
        | exact k1 _ _ _
        | exact k2 _
        | exact k2 _ _
        | exact k2 _ _ _
        | exact hKn _ ⟨i + 1, rfl, by omega, by omega, by omega⟩
        | exact (p1 i.toNat (by omega)).1
        | exact (p1 i.toNat (by omega)).2
        | (rw [wrap_pred i0 (by omega)]; omega)
  · exact h.elim
end Go.Proofs.YtkenjojkpdeooaaGreatDoor
end
section
set_option linter.unusedVariables false
set_option maxRecDepth 100000
set_option linter.unusedSimpArgs false
set_option linter.constructorNameAsVariable false
namespace Go.Proofs.YtkenjojkpdeooaaGreatDoor
open AI

def L118_8 : LSpec := fun base s K => match base, s with
  | 0, ⟨[(2, .adr 0 0 0), (3, .adr 1 0 0), (5, .int .i64 i)], [(0, .box [.str s1, .int .i64 x1, .int .i64 y1, .psl 107 n1 g1]), (1, .box [.str s2, .int .i64 x2, .int .i64 y2, .psl 107 n2 g2])], 2⟩ => (0 ≤ i ∧ i ≤ n1 ∧ n1 ≤ 1000) ∧ (∀ r, K .ret ⟨[(2, .adr 0 0 0), (3, .adr 1 0 0), (4, .int .i64 r)], [(0, .box [.str s1, .int .i64 x1, .int .i64 y1, .psl 107 n1 g1]), (1, .box [.str s2, .int .i64 x2, .int .i64 y2, .psl 107 n2 g2])], 2⟩) ∧ (K (.exit 1) ⟨[(2, .adr 0 0 0), (3, .adr 1 0 0), (4, .undef)], [(0, .box [.str s1, .int .i64 x1, .int .i64 y1, .psl 107 n1 g1]), (1, .box [.str s2, .int .i64 x2, .int .i64 y2, .psl 107 n2 g2])], 2⟩)
  | _, _ => False
theorem r118_8 (s1 s2 : ByteArray) (x1 y1 x2 y2 : Int) (n1 n2 : Nat) (g1 g2 : Nat → Nat → PV)  (i : Int) (Kn : FS → Prop) (Ke : Ex → FS → Prop) : roundW cw4 lw0 118 0 ⟨[2,3,4], []⟩ (loopB 118 8) ⟨[(2, .adr 0 0 0), (3, .adr 1 0 0), (5, .int .i64 i)], [(0, .box [.str s1, .int .i64 x1, .int .i64 y1, .psl 107 n1 g1]), (1, .box [.str s2, .int .i64 x2, .int .i64 y2, .psl 107 n2 g2])], 2⟩ Kn Ke = (brW (decide (i < (n1 : Int))) (brW (decide (i < (n2 : Int))) (holds (if (0 : Int) ≤ i then if i < (n1 : Int) then some (holds (if (0 : Int) ≤ i then if i < (n2 : Int) then some (brW (!(g1 i.toNat 0).s.toList == (g2 i.toNat 0).s.toList) (holds (if (0 : Int) ≤ i then if i < (n1 : Int) then some (holds (if (0 : Int) ≤ i then if i < (n2 : Int) then some (True ∧ ∀ (x : Int), Ke Ex.ret { tmps := [(2, AV.adr 0 0 0), (3, AV.adr 1 0 0), (4, AV.int IntKind.i64 x)], mem := [(0, Ob.box [AV.str s1, AV.int IntKind.i64 x1, AV.int IntKind.i64 y1, AV.psl 107 n1 g1]), (1, Ob.box [AV.str s2, AV.int IntKind.i64 x2, AV.int IntKind.i64 y2, AV.psl 107 n2 g2])], nx := 2 }) else none else none)) else none else none)) (holds (if (0 : Int) ≤ i then if i < (n1 : Int) then some (holds (if (0 : Int) ≤ i then if i < (n2 : Int) then some (brW (!(g1 i.toNat 1).s.toList == (g2 i.toNat 1).s.toList) (holds (if (0 : Int) ≤ i then if i < (n1 : Int) then some (holds (if (0 : Int) ≤ i then if i < (n2 : Int) then some (True ∧ ∀ (x : Int), Ke Ex.ret { tmps := [(2, AV.adr 0 0 0), (3, AV.adr 1 0 0), (4, AV.int IntKind.i64 x)], mem := [(0, Ob.box [AV.str s1, AV.int IntKind.i64 x1, AV.int IntKind.i64 y1, AV.psl 107 n1 g1]), (1, Ob.box [AV.str s2, AV.int IntKind.i64 x2, AV.int IntKind.i64 y2, AV.psl 107 n2 g2])], nx := 2 }) else none else none)) else none else none)) (Kn { tmps := [(2, AV.adr 0 0 0), (3, AV.adr 1 0 0), (5, AV.int IntKind.i64 (IntKind.i64.wrap (i + (1 : Int))))], mem := [(0, Ob.box [AV.str s1, AV.int IntKind.i64 x1, AV.int IntKind.i64 y1, AV.psl 107 n1 g1]), (1, Ob.box [AV.str s2, AV.int IntKind.i64 x2, AV.int IntKind.i64 y2, AV.psl 107 n2 g2])], nx := 2 })) else none else none)) else none else none))) else none else none)) else none else none)) (Ke (Ex.exit 1) { tmps := [(2, AV.adr 0 0 0), (3, AV.adr 1 0 0), (4, AV.undef)], mem := [(0, Ob.box [AV.str s1, AV.int IntKind.i64 x1, AV.int IntKind.i64 y1, AV.psl 107 n1 g1]), (1, Ob.box [AV.str s2, AV.int IntKind.i64 x2, AV.int IntKind.i64 y2, AV.psl 107 n2 g2])], nx := 2 })) (Ke (Ex.exit 1) { tmps := [(2, AV.adr 0 0 0), (3, AV.adr 1 0 0), (4, AV.undef)], mem := [(0, Ob.box [AV.str s1, AV.int IntKind.i64 x1, AV.int IntKind.i64 y1, AV.psl 107 n1 g1]), (1, Ob.box [AV.str s2, AV.int IntKind.i64 x2, AV.int IntKind.i64 y2, AV.psl 107 n2 g2])], nx := 2 })) := by kernel_rfl
theorem l118_8 : LOK cw4 lw0 118 8 ⟨[2,3,4], []⟩ L118_8 := by
  intro base s K h
  unfold L118_8 at h
  split at h
  · rename_i i s1 x1 y1 n1 g1 s2 x2 y2 n2 g2
    obtain ⟨⟨a0, a1, p0⟩, k1 , k2⟩ := h
    refine ⟨((n1 : Int) - i + 1).toNat, loop_rule (fun N s => ∃ (i : Int), s = (⟨[(2, .adr 0 0 0), (3, .adr 1 0 0), (5, .int .i64 i)], [(0, .box [.str s1, .int .i64 x1, .int .i64 y1, .psl 107 n1 g1]), (1, .box [.str s2, .int .i64 x2, .int .i64 y2, .psl 107 n2 g2])], 2⟩ : FS) ∧ 0 ≤ i ∧ i ≤ n1 ∧ (n1 : Int) - i + 1 ≤ (N : Int)) ?_ ?_ _ _ ⟨i, rfl, a0, a1, by omega⟩⟩
    · rintro s ⟨i, _, i0, i1, iN⟩; omega
    · rintro N Kn hKn s ⟨i, rfl, i0, i1, iN⟩
      rw [r118_8]
      try rw [wrap_succ i0 (by omega)]
      (repeat' (first | with_reducible refine brd (fun _ => ?_) (fun _ => ?_) | with_reducible refine holds_if ?_ ?_ | with_reducible refine holds_ifn ?_ ?_ | with_reducible refine holds_some ?_ | with_reducible refine br (fun _ => ?_) (fun _ => ?_) | with_reducible refine And.intro ?_ ?_ | with_reducible refine fun _ => ?_))
      all_goals first
        | omega
        | exact trivial
        | exact k1
        | exact k2
        | exact k1 _
        | exact k1 _ _
        | exact k1 _ _ _
        | exact k2 _
        | exact k2 _ _
        | exact k2 _ _ _
        | exact hKn _ ⟨i + 1, rfl, by omega, by omega, by omega⟩
  · exact h.elim
def lw1_ : FuncId → Nat → Option (Hint × LSpec) := fun f rid => match f, rid with
  | 174, 2 => some (⟨[6], []⟩, L174_2)
  | 176, 2 => some (⟨[4], []⟩, L176_2)
  | 80, 2 => some (⟨[4], []⟩, L80_2)
  | 175, 2 => some (⟨[4], []⟩, L175_2)
  | 177, 3 => some (⟨[4], []⟩, L177_3)
  | 173, 4 => some (⟨[2], []⟩, L173_4)
  | 118, 8 => some (⟨[2, 3, 4], []⟩, L118_8)
  | _, _ => none
def lw1 : LoopW := addL lw1_ lw0
theorem lay5 : Lay Tryz.prog ctx cw4 lw1 := layL lay4 fun f rid p h => by
  unfold lw1_ at h
  split at h <;> cases h
  · exact ⟨by kernel_rfl, l174_2⟩
  · exact ⟨by kernel_rfl, l176_2⟩
  · exact ⟨by kernel_rfl, l80_2⟩
  · exact ⟨by kernel_rfl, l175_2⟩
  · exact ⟨by kernel_rfl, l177_3⟩
  · exact ⟨by kernel_rfl, l173_4⟩
  · exact ⟨by kernel_rfl, l118_8⟩
def ok174 : List AV → Prop := fun xs => match xs with
  | [.agg [.psl 71 3 ga, .psl 29 nt gt, .psl 105 nx gx, .psl 109 nr gr, .psl 117 nn gn, .psl 3 nh gh, .psl 9 ns gs], .int .i64 x, .int .i64 y] => nx ≤ 1000
  | _ => False
theorem e174 (nt nx nr nn nh ns : Nat) (ga gt gx gr gn gh gs : Nat → Nat → PV) (x y : Int) (Q : AV → Mem → Prop) : runW ctx cw4 lw1 174 [.agg [.psl 71 3 ga, .psl 29 nt gt, .psl 105 nx gx, .psl 109 nr gr, .psl 117 nn gn, .psl 3 nh gh, .psl 9 ns gs], .int .i64 x, .int .i64 y] [] Q = (((nx : Int) = (nx : Int) ∧ (0 : Int) ≤ (0 : Int) ∧ (0 : Int) ≤ (nx : Int) ∧ nx ≤ 1000) ∧ Q (AV.bool true) [] ∧ Q (AV.bool false) []) := by kernel_rfl
theorem f174 : FOK cw4 lw1 174 (specB ok174) := specB_ok lay5 fun xs h => by
  unfold ok174 at h
  split at h
  · rename_i ga nt gt nx gx nr gr nn gn nh gh ns gs x y
    have p0 := h
    rw [e174]
    (repeat' (first | with_reducible refine brd (fun _ => ?_) (fun _ => ?_) | with_reducible refine holds_if ?_ ?_ | with_reducible refine holds_ifn ?_ ?_ | with_reducible refine holds_some ?_ | with_reducible refine br (fun _ => ?_) (fun _ => ?_) | with_reducible refine And.intro ?_ ?_ | with_reducible refine fun _ => ?_))
    all_goals first
      | omega
      | rfl
      | assumption
      | exact trivial
      | exact ⟨_, rfl, rfl⟩
  · exact h.elim
def ok176 : List AV → Prop := fun xs => match xs with
  | [.agg [.psl 71 3 ga, .psl 29 nt gt, .psl 105 nx gx, .psl 109 nr gr, .psl 117 nn gn, .psl 3 nh gh, .psl 9 ns gs], .int .i64 x] => nx ≤ 1000
  | _ => False
theorem e176 (nt nx nr nn nh ns : Nat) (ga gt gx gr gn gh gs : Nat → Nat → PV) (x : Int) (Q : AV → Mem → Prop) : runW ctx cw4 lw1 176 [.agg [.psl 71 3 ga, .psl 29 nt gt, .psl 105 nx gx, .psl 109 nr gr, .psl 117 nn gn, .psl 3 nh gh, .psl 9 ns gs], .int .i64 x] [] Q = (((nx : Int) = (nx : Int) ∧ (0 : Int) ≤ (0 : Int) ∧ (0 : Int) ≤ (nx : Int) ∧ nx ≤ 1000) ∧ (∀ (r : Int), Q (AV.int IntKind.i64 r) []) ∧ Q (AV.int IntKind.i64 (-1 : Int)) []) := by kernel_rfl
theorem f176 : FOK cw4 lw1 176 (specI ok176) := specI_ok lay5 fun xs h => by
  unfold ok176 at h
  split at h
  · rename_i ga nt gt nx gx nr gr nn gn nh gh ns gs x
    have p0 := h
    rw [e176]
    (repeat' (first | with_reducible refine brd (fun _ => ?_) (fun _ => ?_) | with_reducible refine holds_if ?_ ?_ | with_reducible refine holds_ifn ?_ ?_ | with_reducible refine holds_some ?_ | with_reducible refine br (fun _ => ?_) (fun _ => ?_) | with_reducible refine And.intro ?_ ?_ | with_reducible refine fun _ => ?_))
    all_goals first
      | omega
      | rfl
      | assumption
      | exact trivial
      | exact ⟨_, rfl, rfl⟩
  · exact h.elim
def ok80 : List AV → Prop := fun xs => match xs with
  | [.agg [.psl 71 3 ga, .psl 29 nt gt, .psl 105 nx gx, .psl 109 nr gr, .psl 117 nn gn, .psl 3 nh gh, .psl 9 ns gs], .str x] => nx ≤ 1000
  | _ => False
theorem e80 (nt nx nr nn nh ns : Nat) (ga gt gx gr gn gh gs : Nat → Nat → PV) (x : ByteArray) (Q : AV → Mem → Prop) : runW ctx cw4 lw1 80 [.agg [.psl 71 3 ga, .psl 29 nt gt, .psl 105 nx gx, .psl 109 nr gr, .psl 117 nn gn, .psl 3 nh gh, .psl 9 ns gs], .str x] [] Q = (((nx : Int) = (nx : Int) ∧ (0 : Int) ≤ (0 : Int) ∧ (0 : Int) ≤ (nx : Int) ∧ nx ≤ 1000) ∧ (∀ (r : Int), Q (AV.int IntKind.i64 r) []) ∧ Q (AV.int IntKind.i64 (-1 : Int)) []) := by kernel_rfl
theorem f80 : FOK cw4 lw1 80 (specI ok80) := specI_ok lay5 fun xs h => by
  unfold ok80 at h
  split at h
  · rename_i ga nt gt nx gx nr gr nn gn nh gh ns gs x
    have p0 := h
    rw [e80]
    (repeat' (first | with_reducible refine brd (fun _ => ?_) (fun _ => ?_) | with_reducible refine holds_if ?_ ?_ | with_reducible refine holds_ifn ?_ ?_ | with_reducible refine holds_some ?_ | with_reducible refine br (fun _ => ?_) (fun _ => ?_) | with_reducible refine And.intro ?_ ?_ | with_reducible refine fun _ => ?_))
    all_goals first
      | omega
      | rfl
      | assumption
      | exact trivial
      | exact ⟨_, rfl, rfl⟩
  · exact h.elim
def ok175 : List AV → Prop := fun xs => match xs with
  | [.psl 3 n g, .psl 9 k h_] => n ≤ 1000 ∧ k = n
  | _ => False
theorem e175 (n k : Nat) (g h_ : Nat → Nat → PV) (Q : AV → Mem → Prop) : runW ctx cw4 lw1 175 [.psl 3 n g, .psl 9 k h_] [] Q = (((n : Int) = (n : Int) ∧ (0 : Int) ≤ (0 : Int) ∧ (0 : Int) ≤ (n : Int) ∧ n ≤ 1000 ∧ k = n) ∧ Q (AV.bool false) [] ∧ Q (AV.bool true) []) := by kernel_rfl
theorem f175 : FOK cw4 lw1 175 (specB ok175) := specB_ok lay5 fun xs h => by
  unfold ok175 at h
  split at h
  · rename_i n g k h_
    obtain ⟨p0, p1⟩ := h
    rw [e175]
    (repeat' (first | with_reducible refine brd (fun _ => ?_) (fun _ => ?_) | with_reducible refine holds_if ?_ ?_ | with_reducible refine holds_ifn ?_ ?_ | with_reducible refine holds_some ?_ | with_reducible refine br (fun _ => ?_) (fun _ => ?_) | with_reducible refine And.intro ?_ ?_ | with_reducible refine fun _ => ?_))
    all_goals first
      | omega
      | rfl
      | assumption
      | exact trivial
      | exact ⟨_, rfl, rfl⟩
  · exact h.elim
def ok177 : List AV → Prop := fun xs => match xs with
  | [.psl 3 n g, .int .i64 x] => n ≤ 1000 ∧ 0 ≤ x ∧ x < n
  | _ => False
theorem e177 (n : Nat) (g : Nat → Nat → PV) (x : Int) (Q : AV → Mem → Prop) : runW ctx cw4 lw1 177 [.psl 3 n g, .int .i64 x] [] Q = (((n : Int) = (n : Int) ∧ (0 : Int) ≤ (0 : Int) ∧ (0 : Int) ≤ (n : Int) ∧ n ≤ 1000 ∧ (0 : Int) ≤ x ∧ x < (n : Int)) ∧ (∀ (b : Bool), Q (AV.bool b) []) ∧ Q (AV.bool false) []) := by kernel_rfl
theorem f177 : FOK cw4 lw1 177 (specB ok177) := specB_ok lay5 fun xs h => by
  unfold ok177 at h
  split at h
  · rename_i n g x
    obtain ⟨p0, p1, p2⟩ := h
    rw [e177]
    (repeat' (first | with_reducible refine brd (fun _ => ?_) (fun _ => ?_) | with_reducible refine holds_if ?_ ?_ | with_reducible refine holds_ifn ?_ ?_ | with_reducible refine holds_some ?_ | with_reducible refine br (fun _ => ?_) (fun _ => ?_) | with_reducible refine And.intro ?_ ?_ | with_reducible refine fun _ => ?_))
    all_goals first
      | omega
      | rfl
      | assumption
      | exact trivial
      | exact ⟨_, rfl, rfl⟩
  · exact h.elim
def ok173 : List AV → Prop := fun xs => match xs with
  | [.psl 107 n g] => n ≤ 1000 ∧ PairsN n g
  | _ => False
theorem e173 (n : Nat) (g : Nat → Nat → PV) (Q : AV → Mem → Prop) : runW ctx cw4 lw1 173 [.psl 107 n g] [] Q = (brW (decide ((n : Int) > (8 : Int))) (Q (AV.int IntKind.i64 2) []) (((n : Int) = (n : Int) ∧ n = n ∧ g = g ∧ (0 : Int) ≤ (0 : Int) ∧ (0 : Int) ≤ (n : Int) ∧ n ≤ 1000 ∧ PairsN n g) ∧ (∀ (r : Int), Q (AV.int IntKind.i64 r) []) ∧ Q (AV.int IntKind.i64 0) [])) := by kernel_rfl
theorem f173 : FOK cw4 lw1 173 (specI ok173) := specI_ok lay5 fun xs h => by
  unfold ok173 at h
  split at h
  · rename_i n g
    obtain ⟨p0, p1⟩ := h
    rw [e173]
    (repeat' (first | with_reducible refine brd (fun _ => ?_) (fun _ => ?_) | with_reducible refine holds_if ?_ ?_ | with_reducible refine holds_ifn ?_ ?_ | with_reducible refine holds_some ?_ | with_reducible refine br (fun _ => ?_) (fun _ => ?_) | with_reducible refine And.intro ?_ ?_ | with_reducible refine fun _ => ?_))
    all_goals first
      | omega
      | rfl
      | assumption
      | exact trivial
      | exact ⟨_, rfl, rfl⟩
  · exact h.elim
def ok118 : List AV → Prop := fun xs => match xs with
  | [.agg [.str s1, .int .i64 x1, .int .i64 y1, .psl 107 n1 g1], .agg [.str s2, .int .i64 x2, .int .i64 y2, .psl 107 n2 g2]] => n1 ≤ 1000
  | _ => False
theorem e118 (s1 s2 : ByteArray) (x1 y1 x2 y2 : Int) (n1 n2 : Nat) (g1 g2 : Nat → Nat → PV) (Q : AV → Mem → Prop) : runW ctx cw4 lw1 118 [.agg [.str s1, .int .i64 x1, .int .i64 y1, .psl 107 n1 g1], .agg [.str s2, .int .i64 x2, .int .i64 y2, .psl 107 n2 g2]] [] Q = (brW (!x1 == x2) (brW (decide (x1 < x2)) (True ∧ ∀ (x : Int), Q (AV.int IntKind.i64 x) []) (True ∧ ∀ (x : Int), Q (AV.int IntKind.i64 x) [])) (brW (!y1 == y2) (brW (decide (y1 > y2)) (True ∧ ∀ (x : Int), Q (AV.int IntKind.i64 x) []) (True ∧ ∀ (x : Int), Q (AV.int IntKind.i64 x) [])) (brW (!s1.toList == s2.toList) (True ∧ ∀ (x : Int), Q (AV.int IntKind.i64 x) []) (((0 : Int) ≤ (0 : Int) ∧ (0 : Int) ≤ (n1 : Int) ∧ n1 ≤ 1000) ∧ (∀ (r : Int), Q (AV.int IntKind.i64 r) []) ∧ brW (!(n1 : Int) == (n2 : Int)) (brW (decide ((n1 : Int) < (n2 : Int))) (True ∧ ∀ (x : Int), Q (AV.int IntKind.i64 x) []) (True ∧ ∀ (x : Int), Q (AV.int IntKind.i64 x) [])) (Q (AV.int IntKind.i64 0) []))))) := by kernel_rfl
theorem f118 : FOK cw4 lw1 118 (specI ok118) := specI_ok lay5 fun xs h => by
  unfold ok118 at h
  split at h
  · rename_i s1 x1 y1 n1 g1 s2 x2 y2 n2 g2
    have p0 := h
    rw [e118]
    (repeat' (first | with_reducible refine brd (fun _ => ?_) (fun _ => ?_) | with_reducible refine holds_if ?_ ?_ | with_reducible refine holds_ifn ?_ ?_ | with_reducible refine holds_some ?_ | with_reducible refine br (fun _ => ?_) (fun _ => ?_) | with_reducible refine And.intro ?_ ?_ | with_reducible refine fun _ => ?_))
    all_goals first
      | omega
      | rfl
      | assumption
      | exact trivial
      | exact ⟨_, rfl, rfl⟩
      | trivial
  · exact h.elim
def cw5_ : FuncId → Option AI.Spec := fun f => match f with
  | 174 => some (specB ok174)
  | 176 => some (specI ok176)
  | 80 => some (specI ok80)
  | 175 => some (specB ok175)
  | 177 => some (specB ok177)
  | 173 => some (specI ok173)
  | 118 => some (specI ok118)
  | _ => none
def cw5 : CallW := addF cw5_ cw4
theorem lay6 : Lay Tryz.prog ctx cw5 lw1 := layF lay5 fun f S h => by
  unfold cw5_ at h
  split at h <;> cases h
  · exact f174
  · exact f176
  · exact f80
  · exact f175
  · exact f177
  · exact f173
  · exact f118
end Go.Proofs.YtkenjojkpdeooaaGreatDoor
end
section
set_option linter.unusedVariables false
set_option maxRecDepth 100000
set_option linter.unusedSimpArgs false
set_option linter.constructorNameAsVariable false
namespace Go.Proofs.YtkenjojkpdeooaaGreatDoor
open AI

/-- What is asked of a corpus so that nothing is looked up outside. -/
def StrsN (n : Nat) (g : Nat → Nat → PV) : Prop := ∀ j, j < n → (g j 0).s ∈ sig
/-- A token's values. -/
structure RowOK (p : PV) : Prop where
  n : p.n = 3
  w : (p.get 0 0).s ∈ words
  t : (p.get 1 0).s ∈ tags
  f : (p.get 2 0).s ∈ feats
theorem RowOK.strs {p : PV} (h : RowOK p) : StrsN 3 p.get := fun j hj => by
  unfold sig
  match j, hj with
  | 0, _ => exact List.mem_append_left _ (List.mem_append_left _ (List.mem_append_left _ (List.mem_append_left _ (List.mem_append_left _ h.w))))
  | 1, _ => exact List.mem_append_left _ (List.mem_append_left _ (List.mem_append_left _ (List.mem_append_left _ (List.mem_append_right _ h.t))))
  | 2, _ => exact List.mem_append_left _ (List.mem_append_left _ (List.mem_append_left _ (List.mem_append_right _ h.f)))
def ToksN (n : Nat) (g : Nat → Nat → PV) : Prop := ∀ j, j < n → RowOK (g j 0)
def RegsN (n : Nat) (g : Nat → Nat → PV) : Prop := ∀ j, j < n → (g j 0).s ∈ sig ∧ (g j 3).n ≤ 1000 ∧ PairsN (g j 3).n (g j 3).get
def NodesN (n : Nat) (g : Nat → Nat → PV) : Prop := ∀ j : Nat, j < n → (g j 0).s ∈ sig ∧ -1 ≤ (g j 3).i ∧ (g j 3).i < j
def L148_9 : LSpec := fun base s K => match base, s with
  | 0, ⟨[(1, .adr 0 0 0), (4, .int .i64 n5), (14, .psl 29 n7 g7), (15, .int .i64 n7'), (16, .int .i64 n6), (28, .psl 9 k r), (29, .int .i64 k'), (30, .int .i64 i)], [(0, .box [.psl 71 3 ga, .psl 29 nt gt, .psl 105 nx gx, .psl 109 nr gr, .psl 117 nn gn, .psl 3 nh gh, .psl 9 ns gs])], 1⟩ => (n7' = n7 ∧ k' = k ∧ 0 ≤ i ∧ i ≤ k ∧ k = 3 ∧ StrsN k r) ∧ (∀ x e, K .ret ⟨[(1, .adr 0 0 0), (2, .int .i64 x), (3, .int .i64 e), (14, .psl 29 n7 g7), (15, .int .i64 n7), (16, .int .i64 n6)], [(0, .box [.psl 71 3 ga, .psl 29 nt gt, .psl 105 nx gx, .psl 109 nr gr, .psl 117 nn gn, .psl 3 nh gh, .psl 9 ns gs])], 1⟩) ∧ (K (.exit 2) ⟨[(1, .adr 0 0 0), (2, .undef), (3, .undef), (14, .psl 29 n7 g7), (15, .int .i64 n7), (16, .int .i64 n6)], [(0, .box [.psl 71 3 ga, .psl 29 nt gt, .psl 105 nx gx, .psl 109 nr gr, .psl 117 nn gn, .psl 3 nh gh, .psl 9 ns gs])], 1⟩)
  | _, _ => False
theorem r148_9 (nt nx nr nn nh ns : Nat) (ga gt gx gr gn gh gs : Nat → Nat → PV) (n5 n6 : Int) (n7 : Nat) (g7 : Nat → Nat → PV) (k : Nat) (r : Nat → Nat → PV)  (i : Int) (Kn : FS → Prop) (Ke : Ex → FS → Prop) : roundW cw5 lw1 148 0 ⟨[1,2,3,14,15,16], []⟩ (loopB 148 9) ⟨[(1, .adr 0 0 0), (4, .int .i64 n5), (14, .psl 29 n7 g7), (15, .int .i64 n7), (16, .int .i64 n6), (28, .psl 9 k r), (29, .int .i64 k), (30, .int .i64 i)], [(0, .box [.psl 71 3 ga, .psl 29 nt gt, .psl 105 nx gx, .psl 109 nr gr, .psl 117 nn gn, .psl 3 nh gh, .psl 9 ns gs])], 1⟩ Kn Ke = (brW (decide (i < (k : Int))) (holds (if (0 : Int) ≤ i then if i < (k : Int) then some (holds (if (0 : Int) ≤ i then if i < (3 : Int) then some ((r i.toNat 0).s ∈ sig ∧ ∀ (x : Int), brW (!x == (0 : Int)) (Ke Ex.ret { tmps := [(1, AV.adr 0 0 0), (2, AV.int IntKind.i64 n5), (3, AV.int IntKind.i64 x), (14, AV.psl 29 n7 g7), (15, AV.int IntKind.i64 (n7 : Int)), (16, AV.int IntKind.i64 n6)], mem := [(0, Ob.box [AV.psl 71 3 ga, AV.psl 29 nt gt, AV.psl 105 nx gx, AV.psl 109 nr gr, AV.psl 117 nn gn, AV.psl 3 nh gh, AV.psl 9 ns gs])], nx := 1 }) (Kn { tmps := [(1, AV.adr 0 0 0), (4, AV.int IntKind.i64 n5), (14, AV.psl 29 n7 g7), (15, AV.int IntKind.i64 (n7 : Int)), (16, AV.int IntKind.i64 n6), (28, AV.psl 9 k r), (29, AV.int IntKind.i64 (k : Int)), (30, AV.int IntKind.i64 (IntKind.i64.wrap (i + (1 : Int))))], mem := [(0, Ob.box [AV.psl 71 3 ga, AV.psl 29 nt gt, AV.psl 105 nx gx, AV.psl 109 nr gr, AV.psl 117 nn gn, AV.psl 3 nh gh, AV.psl 9 ns gs])], nx := 1 })) else none else none)) else none else none)) (Ke (Ex.exit 2) { tmps := [(1, AV.adr 0 0 0), (2, AV.undef), (3, AV.undef), (14, AV.psl 29 n7 g7), (15, AV.int IntKind.i64 (n7 : Int)), (16, AV.int IntKind.i64 n6)], mem := [(0, Ob.box [AV.psl 71 3 ga, AV.psl 29 nt gt, AV.psl 105 nx gx, AV.psl 109 nr gr, AV.psl 117 nn gn, AV.psl 3 nh gh, AV.psl 9 ns gs])], nx := 1 })) := by kernel_rfl
theorem l148_9 : LOK cw5 lw1 148 9 ⟨[1,2,3,14,15,16], []⟩ L148_9 := by
  intro base s K h
  unfold L148_9 at h
  split at h
  · rename_i n5 n7 g7 n7' n6 k r k' i ga nt gt nx gx nr gr nn gn nh gh ns gs
    obtain ⟨⟨rfl, rfl, a0, a1, p0, p1⟩, k1 , k2⟩ := h
    refine ⟨((k : Int) - i + 1).toNat, loop_rule (fun N s => ∃ (i : Int), s = (⟨[(1, .adr 0 0 0), (4, .int .i64 n5), (14, .psl 29 n7 g7), (15, .int .i64 n7), (16, .int .i64 n6), (28, .psl 9 k r), (29, .int .i64 k), (30, .int .i64 i)], [(0, .box [.psl 71 3 ga, .psl 29 nt gt, .psl 105 nx gx, .psl 109 nr gr, .psl 117 nn gn, .psl 3 nh gh, .psl 9 ns gs])], 1⟩ : FS) ∧ 0 ≤ i ∧ i ≤ k ∧ (k : Int) - i + 1 ≤ (N : Int)) ?_ ?_ _ _ ⟨i, rfl, a0, a1, by omega⟩⟩
    · rintro s ⟨i, _, i0, i1, iN⟩; omega
    · rintro N Kn hKn s ⟨i, rfl, i0, i1, iN⟩
      rw [r148_9]
      try rw [wrap_succ i0 (by omega)]
      (repeat' (first | with_reducible refine brd (fun _ => ?_) (fun _ => ?_) | with_reducible refine holds_if ?_ ?_ | with_reducible refine holds_ifn ?_ ?_ | with_reducible refine holds_some ?_ | with_reducible refine br (fun _ => ?_) (fun _ => ?_) | with_reducible refine And.intro ?_ ?_ | with_reducible refine fun _ => ?_))
      all_goals first
        | omega
        | exact trivial
        | exact k1
        | exact k2
        | exact k1 _
        | exact k1 _ _
        | exact k1 _ _ _
        | exact k2 _
        | exact k2 _ _
        | exact k2 _ _ _
        | exact hKn _ ⟨i + 1, rfl, by omega, by omega, by omega⟩
        | exact p1 i.toNat (by omega)
  · exact h.elim
def L149_13 : LSpec := fun base s K => match base, s with
  | 0, ⟨[(1, .adr 0 0 0), (4, .int .i64 x4), (5, .int .i64 x5), (6, .int .i64 x6), (7, .adr 1 0 0), (26, .psl 105 n7 g7), (27, .int .i64 n7'), (28, .int .i64 x28), (41, .psl 105 m g), (42, .int .i64 m'), (43, .int .i64 i)], [(0, .box [.psl 71 3 ga, .psl 29 nt gt, .psl 105 nx gx, .psl 109 nr gr, .psl 117 nn gn, .psl 3 nh gh, .psl 9 ns gs]), (1, .box [.str tn, .int .i64 tb, .int .i64 te, .psl 107 tp tg])], 2⟩ => (n7' = n7 ∧ m' = m ∧ 0 ≤ i ∧ i ≤ m ∧ m ≤ 1000) ∧ (∀ x e, K .ret ⟨[(1, .adr 0 0 0), (2, .int .i64 x), (3, .int .i64 e), (4, .int .i64 x4), (5, .int .i64 x5), (6, .int .i64 x6), (7, .adr 1 0 0), (26, .psl 105 n7 g7), (27, .int .i64 n7), (28, .int .i64 x28)], [(0, .box [.psl 71 3 ga, .psl 29 nt gt, .psl 105 nx gx, .psl 109 nr gr, .psl 117 nn gn, .psl 3 nh gh, .psl 9 ns gs]), (1, .box [.str tn, .int .i64 tb, .int .i64 te, .psl 107 tp tg])], 2⟩) ∧ (K (.exit 2) ⟨[(1, .adr 0 0 0), (2, .undef), (3, .undef), (4, .int .i64 x4), (5, .int .i64 x5), (6, .int .i64 x6), (7, .adr 1 0 0), (26, .psl 105 n7 g7), (27, .int .i64 n7), (28, .int .i64 x28)], [(0, .box [.psl 71 3 ga, .psl 29 nt gt, .psl 105 nx gx, .psl 109 nr gr, .psl 117 nn gn, .psl 3 nh gh, .psl 9 ns gs]), (1, .box [.str tn, .int .i64 tb, .int .i64 te, .psl 107 tp tg])], 2⟩)
  | _, _ => False
theorem r149_13 (nt nx nr nn nh ns : Nat) (ga gt gx gr gn gh gs : Nat → Nat → PV) (x4 x5 x6 x28 : Int) (tn : ByteArray) (tb te : Int) (tp : Nat) (tg : Nat → Nat → PV) (n7 : Nat) (g7 : Nat → Nat → PV) (m : Nat) (g : Nat → Nat → PV)  (i : Int) (Kn : FS → Prop) (Ke : Ex → FS → Prop) : roundW cw5 lw1 149 0 ⟨[1,2,3,4,5,6,7,26,27,28], []⟩ (loopB 149 13) ⟨[(1, .adr 0 0 0), (4, .int .i64 x4), (5, .int .i64 x5), (6, .int .i64 x6), (7, .adr 1 0 0), (26, .psl 105 n7 g7), (27, .int .i64 n7), (28, .int .i64 x28), (41, .psl 105 m g), (42, .int .i64 m), (43, .int .i64 i)], [(0, .box [.psl 71 3 ga, .psl 29 nt gt, .psl 105 nx gx, .psl 109 nr gr, .psl 117 nn gn, .psl 3 nh gh, .psl 9 ns gs]), (1, .box [.str tn, .int .i64 tb, .int .i64 te, .psl 107 tp tg])], 2⟩ Kn Ke = (brW (decide (i < (m : Int))) (holds (if (0 : Int) ≤ i then if i < (m : Int) then some (brW ((g i.toNat 0).s.toList == tn.toList) (Ke Ex.ret { tmps := [(1, AV.adr 0 0 0), (2, AV.int IntKind.i64 x6), (3, AV.int IntKind.i64 5), (4, AV.int IntKind.i64 x4), (5, AV.int IntKind.i64 x5), (6, AV.int IntKind.i64 x6), (7, AV.adr 1 0 0), (26, AV.psl 105 n7 g7), (27, AV.int IntKind.i64 (n7 : Int)), (28, AV.int IntKind.i64 x28)], mem := [(0, Ob.box [AV.psl 71 3 ga, AV.psl 29 nt gt, AV.psl 105 nx gx, AV.psl 109 nr gr, AV.psl 117 nn gn, AV.psl 3 nh gh, AV.psl 9 ns gs]), (1, Ob.box [AV.str tn, AV.int IntKind.i64 tb, AV.int IntKind.i64 te, AV.psl 107 tp tg])], nx := 2 }) (Kn { tmps := [(1, AV.adr 0 0 0), (4, AV.int IntKind.i64 x4), (5, AV.int IntKind.i64 x5), (6, AV.int IntKind.i64 x6), (7, AV.adr 1 0 0), (26, AV.psl 105 n7 g7), (27, AV.int IntKind.i64 (n7 : Int)), (28, AV.int IntKind.i64 x28), (41, AV.psl 105 m g), (42, AV.int IntKind.i64 (m : Int)), (43, AV.int IntKind.i64 (IntKind.i64.wrap (i + (1 : Int))))], mem := [(0, Ob.box [AV.psl 71 3 ga, AV.psl 29 nt gt, AV.psl 105 nx gx, AV.psl 109 nr gr, AV.psl 117 nn gn, AV.psl 3 nh gh, AV.psl 9 ns gs]), (1, Ob.box [AV.str tn, AV.int IntKind.i64 tb, AV.int IntKind.i64 te, AV.psl 107 tp tg])], nx := 2 })) else none else none)) (Ke (Ex.exit 2) { tmps := [(1, AV.adr 0 0 0), (2, AV.undef), (3, AV.undef), (4, AV.int IntKind.i64 x4), (5, AV.int IntKind.i64 x5), (6, AV.int IntKind.i64 x6), (7, AV.adr 1 0 0), (26, AV.psl 105 n7 g7), (27, AV.int IntKind.i64 (n7 : Int)), (28, AV.int IntKind.i64 x28)], mem := [(0, Ob.box [AV.psl 71 3 ga, AV.psl 29 nt gt, AV.psl 105 nx gx, AV.psl 109 nr gr, AV.psl 117 nn gn, AV.psl 3 nh gh, AV.psl 9 ns gs]), (1, Ob.box [AV.str tn, AV.int IntKind.i64 tb, AV.int IntKind.i64 te, AV.psl 107 tp tg])], nx := 2 })) := by kernel_rfl
theorem l149_13 : LOK cw5 lw1 149 13 ⟨[1,2,3,4,5,6,7,26,27,28], []⟩ L149_13 := by
  intro base s K h
  unfold L149_13 at h
  split at h
  · rename_i x4 x5 x6 n7 g7 n7' x28 m g m' i ga nt gt nx gx nr gr nn gn nh gh ns gs tn tb te tp tg
    obtain ⟨⟨rfl, rfl, a0, a1, p0⟩, k1 , k2⟩ := h
    refine ⟨((m : Int) - i + 1).toNat, loop_rule (fun N s => ∃ (i : Int), s = (⟨[(1, .adr 0 0 0), (4, .int .i64 x4), (5, .int .i64 x5), (6, .int .i64 x6), (7, .adr 1 0 0), (26, .psl 105 n7 g7), (27, .int .i64 n7), (28, .int .i64 x28), (41, .psl 105 m g), (42, .int .i64 m), (43, .int .i64 i)], [(0, .box [.psl 71 3 ga, .psl 29 nt gt, .psl 105 nx gx, .psl 109 nr gr, .psl 117 nn gn, .psl 3 nh gh, .psl 9 ns gs]), (1, .box [.str tn, .int .i64 tb, .int .i64 te, .psl 107 tp tg])], 2⟩ : FS) ∧ 0 ≤ i ∧ i ≤ m ∧ (m : Int) - i + 1 ≤ (N : Int)) ?_ ?_ _ _ ⟨i, rfl, a0, a1, by omega⟩⟩
    · rintro s ⟨i, _, i0, i1, iN⟩; omega
    · rintro N Kn hKn s ⟨i, rfl, i0, i1, iN⟩
      rw [r149_13]
      try rw [wrap_succ i0 (by omega)]
      (repeat' (first | with_reducible refine brd (fun _ => ?_) (fun _ => ?_) | with_reducible refine holds_if ?_ ?_ | with_reducible refine holds_ifn ?_ ?_ | with_reducible refine holds_some ?_ | with_reducible refine br (fun _ => ?_) (fun _ => ?_) | with_reducible refine And.intro ?_ ?_ | with_reducible refine fun _ => ?_))
      all_goals first
        | omega
        | exact trivial
        | exact k1
        | exact k2
        | exact k1 _
        | exact k1 _ _
        | exact k1 _ _ _
        | exact k2 _
        | exact k2 _ _
        | exact k2 _ _ _
        | exact hKn _ ⟨i + 1, rfl, by omega, by omega, by omega⟩
  · exact h.elim
def L150_17 : LSpec := fun base s K => match base, s with
  | 0, ⟨[(1, .adr 0 0 0), (4, .int .i64 x4), (5, .adr 1 0 0), (7, .int .i64 x7), (15, .psl 109 n7 g7), (16, .int .i64 n7'), (17, .int .i64 x17), (62, .psl 109 m g), (63, .int .i64 m'), (64, .int .i64 i)], [(0, .box [.psl 71 3 ga, .psl 29 nt gt, .psl 105 nx gx, .psl 109 nr gr, .psl 117 nn gn, .psl 3 nh gh, .psl 9 ns gs]), (1, .box [.str tn, .int .i64 tb, .int .i64 te, .psl 107 tp tg])], 2⟩ => (n7' = n7 ∧ m' = m ∧ 0 ≤ i ∧ i ≤ m ∧ m ≤ 1000) ∧ (∀ x e y, K .ret ⟨[(1, .adr 0 0 0), (2, .int .i64 x), (3, .int .i64 e), (4, .int .i64 x4), (7, .int .i64 y), (15, .psl 109 n7 g7), (16, .int .i64 n7), (17, .int .i64 x17)], [(0, .box [.psl 71 3 ga, .psl 29 nt gt, .psl 105 nx gx, .psl 109 nr gr, .psl 117 nn gn, .psl 3 nh gh, .psl 9 ns gs])], 1⟩) ∧ (∀ y, K (.exit 3) ⟨[(1, .adr 0 0 0), (2, .undef), (3, .undef), (4, .int .i64 x4), (7, .int .i64 y), (15, .psl 109 n7 g7), (16, .int .i64 n7), (17, .int .i64 x17)], [(0, .box [.psl 71 3 ga, .psl 29 nt gt, .psl 105 nx gx, .psl 109 nr gr, .psl 117 nn gn, .psl 3 nh gh, .psl 9 ns gs])], 1⟩)
  | _, _ => False
theorem r150_17 (nt nx nr nn nh ns : Nat) (ga gt gx gr gn gh gs : Nat → Nat → PV) (x4 x17 : Int) (tn : ByteArray) (tb te : Int) (tp : Nat) (tg : Nat → Nat → PV) (n7 : Nat) (g7 : Nat → Nat → PV) (m : Nat) (g : Nat → Nat → PV) (x7 : Int) (i : Int) (Kn : FS → Prop) (Ke : Ex → FS → Prop) : roundW cw5 lw1 150 0 ⟨[1,2,3,4,7,15,16,17], []⟩ (loopB 150 17) ⟨[(1, .adr 0 0 0), (4, .int .i64 x4), (5, .adr 1 0 0), (7, .int .i64 x7), (15, .psl 109 n7 g7), (16, .int .i64 n7), (17, .int .i64 x17), (62, .psl 109 m g), (63, .int .i64 m), (64, .int .i64 i)], [(0, .box [.psl 71 3 ga, .psl 29 nt gt, .psl 105 nx gx, .psl 109 nr gr, .psl 117 nn gn, .psl 3 nh gh, .psl 9 ns gs]), (1, .box [.str tn, .int .i64 tb, .int .i64 te, .psl 107 tp tg])], 2⟩ Kn Ke = (brW (decide (i < (m : Int))) (holds (if (0 : Int) ≤ i then if i < (m : Int) then some (brW (decide ((g i.toNat 1).i ≤ tb)) (brW (decide (tb < (g i.toNat 2).i)) (brW (decide (i < x4)) (brW ((g i.toNat 0).s.toList == tn.toList) (brW (decide ((g i.toNat 1).i < te)) (brW (decide (tb < (g i.toNat 2).i)) (brW (decide ((g i.toNat 1).i ≤ tb)) (brW (decide (te ≤ (g i.toNat 2).i)) (Kn { tmps := [(1, AV.adr 0 0 0), (4, AV.int IntKind.i64 x4), (5, AV.adr 1 0 0), (7, AV.int IntKind.i64 (IntKind.i64.wrap (x7 + (1 : Int)))), (15, AV.psl 109 n7 g7), (16, AV.int IntKind.i64 (n7 : Int)), (17, AV.int IntKind.i64 x17), (62, AV.psl 109 m g), (63, AV.int IntKind.i64 (m : Int)), (64, AV.int IntKind.i64 (IntKind.i64.wrap (i + (1 : Int))))], mem := [(0, Ob.box [AV.psl 71 3 ga, AV.psl 29 nt gt, AV.psl 105 nx gx, AV.psl 109 nr gr, AV.psl 117 nn gn, AV.psl 3 nh gh, AV.psl 9 ns gs]), (1, Ob.box [AV.str tn, AV.int IntKind.i64 tb, AV.int IntKind.i64 te, AV.psl 107 tp tg])], nx := 2 }) (brW (decide (tb ≤ (g i.toNat 1).i)) (brW (decide ((g i.toNat 2).i ≤ te)) (Kn { tmps := [(1, AV.adr 0 0 0), (4, AV.int IntKind.i64 x4), (5, AV.adr 1 0 0), (7, AV.int IntKind.i64 (IntKind.i64.wrap (x7 + (1 : Int)))), (15, AV.psl 109 n7 g7), (16, AV.int IntKind.i64 (n7 : Int)), (17, AV.int IntKind.i64 x17), (62, AV.psl 109 m g), (63, AV.int IntKind.i64 (m : Int)), (64, AV.int IntKind.i64 (IntKind.i64.wrap (i + (1 : Int))))], mem := [(0, Ob.box [AV.psl 71 3 ga, AV.psl 29 nt gt, AV.psl 105 nx gx, AV.psl 109 nr gr, AV.psl 117 nn gn, AV.psl 3 nh gh, AV.psl 9 ns gs]), (1, Ob.box [AV.str tn, AV.int IntKind.i64 tb, AV.int IntKind.i64 te, AV.psl 107 tp tg])], nx := 2 }) (Ke Ex.ret { tmps := [(1, AV.adr 0 0 0), (2, AV.int IntKind.i64 x4), (3, AV.int IntKind.i64 13), (4, AV.int IntKind.i64 x4), (7, AV.int IntKind.i64 (IntKind.i64.wrap (x7 + (1 : Int)))), (15, AV.psl 109 n7 g7), (16, AV.int IntKind.i64 (n7 : Int)), (17, AV.int IntKind.i64 x17)], mem := [(0, Ob.box [AV.psl 71 3 ga, AV.psl 29 nt gt, AV.psl 105 nx gx, AV.psl 109 nr gr, AV.psl 117 nn gn, AV.psl 3 nh gh, AV.psl 9 ns gs])], nx := 1 })) (Ke Ex.ret { tmps := [(1, AV.adr 0 0 0), (2, AV.int IntKind.i64 x4), (3, AV.int IntKind.i64 13), (4, AV.int IntKind.i64 x4), (7, AV.int IntKind.i64 (IntKind.i64.wrap (x7 + (1 : Int)))), (15, AV.psl 109 n7 g7), (16, AV.int IntKind.i64 (n7 : Int)), (17, AV.int IntKind.i64 x17)], mem := [(0, Ob.box [AV.psl 71 3 ga, AV.psl 29 nt gt, AV.psl 105 nx gx, AV.psl 109 nr gr, AV.psl 117 nn gn, AV.psl 3 nh gh, AV.psl 9 ns gs])], nx := 1 }))) (brW (decide (tb ≤ (g i.toNat 1).i)) (brW (decide ((g i.toNat 2).i ≤ te)) (Kn { tmps := [(1, AV.adr 0 0 0), (4, AV.int IntKind.i64 x4), (5, AV.adr 1 0 0), (7, AV.int IntKind.i64 (IntKind.i64.wrap (x7 + (1 : Int)))), (15, AV.psl 109 n7 g7), (16, AV.int IntKind.i64 (n7 : Int)), (17, AV.int IntKind.i64 x17), (62, AV.psl 109 m g), (63, AV.int IntKind.i64 (m : Int)), (64, AV.int IntKind.i64 (IntKind.i64.wrap (i + (1 : Int))))], mem := [(0, Ob.box [AV.psl 71 3 ga, AV.psl 29 nt gt, AV.psl 105 nx gx, AV.psl 109 nr gr, AV.psl 117 nn gn, AV.psl 3 nh gh, AV.psl 9 ns gs]), (1, Ob.box [AV.str tn, AV.int IntKind.i64 tb, AV.int IntKind.i64 te, AV.psl 107 tp tg])], nx := 2 }) (Ke Ex.ret { tmps := [(1, AV.adr 0 0 0), (2, AV.int IntKind.i64 x4), (3, AV.int IntKind.i64 13), (4, AV.int IntKind.i64 x4), (7, AV.int IntKind.i64 (IntKind.i64.wrap (x7 + (1 : Int)))), (15, AV.psl 109 n7 g7), (16, AV.int IntKind.i64 (n7 : Int)), (17, AV.int IntKind.i64 x17)], mem := [(0, Ob.box [AV.psl 71 3 ga, AV.psl 29 nt gt, AV.psl 105 nx gx, AV.psl 109 nr gr, AV.psl 117 nn gn, AV.psl 3 nh gh, AV.psl 9 ns gs])], nx := 1 })) (Ke Ex.ret { tmps := [(1, AV.adr 0 0 0), (2, AV.int IntKind.i64 x4), (3, AV.int IntKind.i64 13), (4, AV.int IntKind.i64 x4), (7, AV.int IntKind.i64 (IntKind.i64.wrap (x7 + (1 : Int)))), (15, AV.psl 109 n7 g7), (16, AV.int IntKind.i64 (n7 : Int)), (17, AV.int IntKind.i64 x17)], mem := [(0, Ob.box [AV.psl 71 3 ga, AV.psl 29 nt gt, AV.psl 105 nx gx, AV.psl 109 nr gr, AV.psl 117 nn gn, AV.psl 3 nh gh, AV.psl 9 ns gs])], nx := 1 }))) (Kn { tmps := [(1, AV.adr 0 0 0), (4, AV.int IntKind.i64 x4), (5, AV.adr 1 0 0), (7, AV.int IntKind.i64 (IntKind.i64.wrap (x7 + (1 : Int)))), (15, AV.psl 109 n7 g7), (16, AV.int IntKind.i64 (n7 : Int)), (17, AV.int IntKind.i64 x17), (62, AV.psl 109 m g), (63, AV.int IntKind.i64 (m : Int)), (64, AV.int IntKind.i64 (IntKind.i64.wrap (i + (1 : Int))))], mem := [(0, Ob.box [AV.psl 71 3 ga, AV.psl 29 nt gt, AV.psl 105 nx gx, AV.psl 109 nr gr, AV.psl 117 nn gn, AV.psl 3 nh gh, AV.psl 9 ns gs]), (1, Ob.box [AV.str tn, AV.int IntKind.i64 tb, AV.int IntKind.i64 te, AV.psl 107 tp tg])], nx := 2 })) (Kn { tmps := [(1, AV.adr 0 0 0), (4, AV.int IntKind.i64 x4), (5, AV.adr 1 0 0), (7, AV.int IntKind.i64 (IntKind.i64.wrap (x7 + (1 : Int)))), (15, AV.psl 109 n7 g7), (16, AV.int IntKind.i64 (n7 : Int)), (17, AV.int IntKind.i64 x17), (62, AV.psl 109 m g), (63, AV.int IntKind.i64 (m : Int)), (64, AV.int IntKind.i64 (IntKind.i64.wrap (i + (1 : Int))))], mem := [(0, Ob.box [AV.psl 71 3 ga, AV.psl 29 nt gt, AV.psl 105 nx gx, AV.psl 109 nr gr, AV.psl 117 nn gn, AV.psl 3 nh gh, AV.psl 9 ns gs]), (1, Ob.box [AV.str tn, AV.int IntKind.i64 tb, AV.int IntKind.i64 te, AV.psl 107 tp tg])], nx := 2 })) (Kn { tmps := [(1, AV.adr 0 0 0), (4, AV.int IntKind.i64 x4), (5, AV.adr 1 0 0), (7, AV.int IntKind.i64 (IntKind.i64.wrap (x7 + (1 : Int)))), (15, AV.psl 109 n7 g7), (16, AV.int IntKind.i64 (n7 : Int)), (17, AV.int IntKind.i64 x17), (62, AV.psl 109 m g), (63, AV.int IntKind.i64 (m : Int)), (64, AV.int IntKind.i64 (IntKind.i64.wrap (i + (1 : Int))))], mem := [(0, Ob.box [AV.psl 71 3 ga, AV.psl 29 nt gt, AV.psl 105 nx gx, AV.psl 109 nr gr, AV.psl 117 nn gn, AV.psl 3 nh gh, AV.psl 9 ns gs]), (1, Ob.box [AV.str tn, AV.int IntKind.i64 tb, AV.int IntKind.i64 te, AV.psl 107 tp tg])], nx := 2 })) (Kn { tmps := [(1, AV.adr 0 0 0), (4, AV.int IntKind.i64 x4), (5, AV.adr 1 0 0), (7, AV.int IntKind.i64 (IntKind.i64.wrap (x7 + (1 : Int)))), (15, AV.psl 109 n7 g7), (16, AV.int IntKind.i64 (n7 : Int)), (17, AV.int IntKind.i64 x17), (62, AV.psl 109 m g), (63, AV.int IntKind.i64 (m : Int)), (64, AV.int IntKind.i64 (IntKind.i64.wrap (i + (1 : Int))))], mem := [(0, Ob.box [AV.psl 71 3 ga, AV.psl 29 nt gt, AV.psl 105 nx gx, AV.psl 109 nr gr, AV.psl 117 nn gn, AV.psl 3 nh gh, AV.psl 9 ns gs]), (1, Ob.box [AV.str tn, AV.int IntKind.i64 tb, AV.int IntKind.i64 te, AV.psl 107 tp tg])], nx := 2 })) (brW (decide (i < x4)) (brW ((g i.toNat 0).s.toList == tn.toList) (brW (decide ((g i.toNat 1).i < te)) (brW (decide (tb < (g i.toNat 2).i)) (brW (decide ((g i.toNat 1).i ≤ tb)) (brW (decide (te ≤ (g i.toNat 2).i)) (Kn { tmps := [(1, AV.adr 0 0 0), (4, AV.int IntKind.i64 x4), (5, AV.adr 1 0 0), (7, AV.int IntKind.i64 x7), (15, AV.psl 109 n7 g7), (16, AV.int IntKind.i64 (n7 : Int)), (17, AV.int IntKind.i64 x17), (62, AV.psl 109 m g), (63, AV.int IntKind.i64 (m : Int)), (64, AV.int IntKind.i64 (IntKind.i64.wrap (i + (1 : Int))))], mem := [(0, Ob.box [AV.psl 71 3 ga, AV.psl 29 nt gt, AV.psl 105 nx gx, AV.psl 109 nr gr, AV.psl 117 nn gn, AV.psl 3 nh gh, AV.psl 9 ns gs]), (1, Ob.box [AV.str tn, AV.int IntKind.i64 tb, AV.int IntKind.i64 te, AV.psl 107 tp tg])], nx := 2 }) (brW (decide (tb ≤ (g i.toNat 1).i)) (brW (decide ((g i.toNat 2).i ≤ te)) (Kn { tmps := [(1, AV.adr 0 0 0), (4, AV.int IntKind.i64 x4), (5, AV.adr 1 0 0), (7, AV.int IntKind.i64 x7), (15, AV.psl 109 n7 g7), (16, AV.int IntKind.i64 (n7 : Int)), (17, AV.int IntKind.i64 x17), (62, AV.psl 109 m g), (63, AV.int IntKind.i64 (m : Int)), (64, AV.int IntKind.i64 (IntKind.i64.wrap (i + (1 : Int))))], mem := [(0, Ob.box [AV.psl 71 3 ga, AV.psl 29 nt gt, AV.psl 105 nx gx, AV.psl 109 nr gr, AV.psl 117 nn gn, AV.psl 3 nh gh, AV.psl 9 ns gs]), (1, Ob.box [AV.str tn, AV.int IntKind.i64 tb, AV.int IntKind.i64 te, AV.psl 107 tp tg])], nx := 2 }) (Ke Ex.ret { tmps := [(1, AV.adr 0 0 0), (2, AV.int IntKind.i64 x4), (3, AV.int IntKind.i64 13), (4, AV.int IntKind.i64 x4), (7, AV.int IntKind.i64 x7), (15, AV.psl 109 n7 g7), (16, AV.int IntKind.i64 (n7 : Int)), (17, AV.int IntKind.i64 x17)], mem := [(0, Ob.box [AV.psl 71 3 ga, AV.psl 29 nt gt, AV.psl 105 nx gx, AV.psl 109 nr gr, AV.psl 117 nn gn, AV.psl 3 nh gh, AV.psl 9 ns gs])], nx := 1 })) (Ke Ex.ret { tmps := [(1, AV.adr 0 0 0), (2, AV.int IntKind.i64 x4), (3, AV.int IntKind.i64 13), (4, AV.int IntKind.i64 x4), (7, AV.int IntKind.i64 x7), (15, AV.psl 109 n7 g7), (16, AV.int IntKind.i64 (n7 : Int)), (17, AV.int IntKind.i64 x17)], mem := [(0, Ob.box [AV.psl 71 3 ga, AV.psl 29 nt gt, AV.psl 105 nx gx, AV.psl 109 nr gr, AV.psl 117 nn gn, AV.psl 3 nh gh, AV.psl 9 ns gs])], nx := 1 }))) (brW (decide (tb ≤ (g i.toNat 1).i)) (brW (decide ((g i.toNat 2).i ≤ te)) (Kn { tmps := [(1, AV.adr 0 0 0), (4, AV.int IntKind.i64 x4), (5, AV.adr 1 0 0), (7, AV.int IntKind.i64 x7), (15, AV.psl 109 n7 g7), (16, AV.int IntKind.i64 (n7 : Int)), (17, AV.int IntKind.i64 x17), (62, AV.psl 109 m g), (63, AV.int IntKind.i64 (m : Int)), (64, AV.int IntKind.i64 (IntKind.i64.wrap (i + (1 : Int))))], mem := [(0, Ob.box [AV.psl 71 3 ga, AV.psl 29 nt gt, AV.psl 105 nx gx, AV.psl 109 nr gr, AV.psl 117 nn gn, AV.psl 3 nh gh, AV.psl 9 ns gs]), (1, Ob.box [AV.str tn, AV.int IntKind.i64 tb, AV.int IntKind.i64 te, AV.psl 107 tp tg])], nx := 2 }) (Ke Ex.ret { tmps := [(1, AV.adr 0 0 0), (2, AV.int IntKind.i64 x4), (3, AV.int IntKind.i64 13), (4, AV.int IntKind.i64 x4), (7, AV.int IntKind.i64 x7), (15, AV.psl 109 n7 g7), (16, AV.int IntKind.i64 (n7 : Int)), (17, AV.int IntKind.i64 x17)], mem := [(0, Ob.box [AV.psl 71 3 ga, AV.psl 29 nt gt, AV.psl 105 nx gx, AV.psl 109 nr gr, AV.psl 117 nn gn, AV.psl 3 nh gh, AV.psl 9 ns gs])], nx := 1 })) (Ke Ex.ret { tmps := [(1, AV.adr 0 0 0), (2, AV.int IntKind.i64 x4), (3, AV.int IntKind.i64 13), (4, AV.int IntKind.i64 x4), (7, AV.int IntKind.i64 x7), (15, AV.psl 109 n7 g7), (16, AV.int IntKind.i64 (n7 : Int)), (17, AV.int IntKind.i64 x17)], mem := [(0, Ob.box [AV.psl 71 3 ga, AV.psl 29 nt gt, AV.psl 105 nx gx, AV.psl 109 nr gr, AV.psl 117 nn gn, AV.psl 3 nh gh, AV.psl 9 ns gs])], nx := 1 }))) (Kn { tmps := [(1, AV.adr 0 0 0), (4, AV.int IntKind.i64 x4), (5, AV.adr 1 0 0), (7, AV.int IntKind.i64 x7), (15, AV.psl 109 n7 g7), (16, AV.int IntKind.i64 (n7 : Int)), (17, AV.int IntKind.i64 x17), (62, AV.psl 109 m g), (63, AV.int IntKind.i64 (m : Int)), (64, AV.int IntKind.i64 (IntKind.i64.wrap (i + (1 : Int))))], mem := [(0, Ob.box [AV.psl 71 3 ga, AV.psl 29 nt gt, AV.psl 105 nx gx, AV.psl 109 nr gr, AV.psl 117 nn gn, AV.psl 3 nh gh, AV.psl 9 ns gs]), (1, Ob.box [AV.str tn, AV.int IntKind.i64 tb, AV.int IntKind.i64 te, AV.psl 107 tp tg])], nx := 2 })) (Kn { tmps := [(1, AV.adr 0 0 0), (4, AV.int IntKind.i64 x4), (5, AV.adr 1 0 0), (7, AV.int IntKind.i64 x7), (15, AV.psl 109 n7 g7), (16, AV.int IntKind.i64 (n7 : Int)), (17, AV.int IntKind.i64 x17), (62, AV.psl 109 m g), (63, AV.int IntKind.i64 (m : Int)), (64, AV.int IntKind.i64 (IntKind.i64.wrap (i + (1 : Int))))], mem := [(0, Ob.box [AV.psl 71 3 ga, AV.psl 29 nt gt, AV.psl 105 nx gx, AV.psl 109 nr gr, AV.psl 117 nn gn, AV.psl 3 nh gh, AV.psl 9 ns gs]), (1, Ob.box [AV.str tn, AV.int IntKind.i64 tb, AV.int IntKind.i64 te, AV.psl 107 tp tg])], nx := 2 })) (Kn { tmps := [(1, AV.adr 0 0 0), (4, AV.int IntKind.i64 x4), (5, AV.adr 1 0 0), (7, AV.int IntKind.i64 x7), (15, AV.psl 109 n7 g7), (16, AV.int IntKind.i64 (n7 : Int)), (17, AV.int IntKind.i64 x17), (62, AV.psl 109 m g), (63, AV.int IntKind.i64 (m : Int)), (64, AV.int IntKind.i64 (IntKind.i64.wrap (i + (1 : Int))))], mem := [(0, Ob.box [AV.psl 71 3 ga, AV.psl 29 nt gt, AV.psl 105 nx gx, AV.psl 109 nr gr, AV.psl 117 nn gn, AV.psl 3 nh gh, AV.psl 9 ns gs]), (1, Ob.box [AV.str tn, AV.int IntKind.i64 tb, AV.int IntKind.i64 te, AV.psl 107 tp tg])], nx := 2 })) (Kn { tmps := [(1, AV.adr 0 0 0), (4, AV.int IntKind.i64 x4), (5, AV.adr 1 0 0), (7, AV.int IntKind.i64 x7), (15, AV.psl 109 n7 g7), (16, AV.int IntKind.i64 (n7 : Int)), (17, AV.int IntKind.i64 x17), (62, AV.psl 109 m g), (63, AV.int IntKind.i64 (m : Int)), (64, AV.int IntKind.i64 (IntKind.i64.wrap (i + (1 : Int))))], mem := [(0, Ob.box [AV.psl 71 3 ga, AV.psl 29 nt gt, AV.psl 105 nx gx, AV.psl 109 nr gr, AV.psl 117 nn gn, AV.psl 3 nh gh, AV.psl 9 ns gs]), (1, Ob.box [AV.str tn, AV.int IntKind.i64 tb, AV.int IntKind.i64 te, AV.psl 107 tp tg])], nx := 2 }))) (brW (decide (i < x4)) (brW ((g i.toNat 0).s.toList == tn.toList) (brW (decide ((g i.toNat 1).i < te)) (brW (decide (tb < (g i.toNat 2).i)) (brW (decide ((g i.toNat 1).i ≤ tb)) (brW (decide (te ≤ (g i.toNat 2).i)) (Kn { tmps := [(1, AV.adr 0 0 0), (4, AV.int IntKind.i64 x4), (5, AV.adr 1 0 0), (7, AV.int IntKind.i64 x7), (15, AV.psl 109 n7 g7), (16, AV.int IntKind.i64 (n7 : Int)), (17, AV.int IntKind.i64 x17), (62, AV.psl 109 m g), (63, AV.int IntKind.i64 (m : Int)), (64, AV.int IntKind.i64 (IntKind.i64.wrap (i + (1 : Int))))], mem := [(0, Ob.box [AV.psl 71 3 ga, AV.psl 29 nt gt, AV.psl 105 nx gx, AV.psl 109 nr gr, AV.psl 117 nn gn, AV.psl 3 nh gh, AV.psl 9 ns gs]), (1, Ob.box [AV.str tn, AV.int IntKind.i64 tb, AV.int IntKind.i64 te, AV.psl 107 tp tg])], nx := 2 }) (brW (decide (tb ≤ (g i.toNat 1).i)) (brW (decide ((g i.toNat 2).i ≤ te)) (Kn { tmps := [(1, AV.adr 0 0 0), (4, AV.int IntKind.i64 x4), (5, AV.adr 1 0 0), (7, AV.int IntKind.i64 x7), (15, AV.psl 109 n7 g7), (16, AV.int IntKind.i64 (n7 : Int)), (17, AV.int IntKind.i64 x17), (62, AV.psl 109 m g), (63, AV.int IntKind.i64 (m : Int)), (64, AV.int IntKind.i64 (IntKind.i64.wrap (i + (1 : Int))))], mem := [(0, Ob.box [AV.psl 71 3 ga, AV.psl 29 nt gt, AV.psl 105 nx gx, AV.psl 109 nr gr, AV.psl 117 nn gn, AV.psl 3 nh gh, AV.psl 9 ns gs]), (1, Ob.box [AV.str tn, AV.int IntKind.i64 tb, AV.int IntKind.i64 te, AV.psl 107 tp tg])], nx := 2 }) (Ke Ex.ret { tmps := [(1, AV.adr 0 0 0), (2, AV.int IntKind.i64 x4), (3, AV.int IntKind.i64 13), (4, AV.int IntKind.i64 x4), (7, AV.int IntKind.i64 x7), (15, AV.psl 109 n7 g7), (16, AV.int IntKind.i64 (n7 : Int)), (17, AV.int IntKind.i64 x17)], mem := [(0, Ob.box [AV.psl 71 3 ga, AV.psl 29 nt gt, AV.psl 105 nx gx, AV.psl 109 nr gr, AV.psl 117 nn gn, AV.psl 3 nh gh, AV.psl 9 ns gs])], nx := 1 })) (Ke Ex.ret { tmps := [(1, AV.adr 0 0 0), (2, AV.int IntKind.i64 x4), (3, AV.int IntKind.i64 13), (4, AV.int IntKind.i64 x4), (7, AV.int IntKind.i64 x7), (15, AV.psl 109 n7 g7), (16, AV.int IntKind.i64 (n7 : Int)), (17, AV.int IntKind.i64 x17)], mem := [(0, Ob.box [AV.psl 71 3 ga, AV.psl 29 nt gt, AV.psl 105 nx gx, AV.psl 109 nr gr, AV.psl 117 nn gn, AV.psl 3 nh gh, AV.psl 9 ns gs])], nx := 1 }))) (brW (decide (tb ≤ (g i.toNat 1).i)) (brW (decide ((g i.toNat 2).i ≤ te)) (Kn { tmps := [(1, AV.adr 0 0 0), (4, AV.int IntKind.i64 x4), (5, AV.adr 1 0 0), (7, AV.int IntKind.i64 x7), (15, AV.psl 109 n7 g7), (16, AV.int IntKind.i64 (n7 : Int)), (17, AV.int IntKind.i64 x17), (62, AV.psl 109 m g), (63, AV.int IntKind.i64 (m : Int)), (64, AV.int IntKind.i64 (IntKind.i64.wrap (i + (1 : Int))))], mem := [(0, Ob.box [AV.psl 71 3 ga, AV.psl 29 nt gt, AV.psl 105 nx gx, AV.psl 109 nr gr, AV.psl 117 nn gn, AV.psl 3 nh gh, AV.psl 9 ns gs]), (1, Ob.box [AV.str tn, AV.int IntKind.i64 tb, AV.int IntKind.i64 te, AV.psl 107 tp tg])], nx := 2 }) (Ke Ex.ret { tmps := [(1, AV.adr 0 0 0), (2, AV.int IntKind.i64 x4), (3, AV.int IntKind.i64 13), (4, AV.int IntKind.i64 x4), (7, AV.int IntKind.i64 x7), (15, AV.psl 109 n7 g7), (16, AV.int IntKind.i64 (n7 : Int)), (17, AV.int IntKind.i64 x17)], mem := [(0, Ob.box [AV.psl 71 3 ga, AV.psl 29 nt gt, AV.psl 105 nx gx, AV.psl 109 nr gr, AV.psl 117 nn gn, AV.psl 3 nh gh, AV.psl 9 ns gs])], nx := 1 })) (Ke Ex.ret { tmps := [(1, AV.adr 0 0 0), (2, AV.int IntKind.i64 x4), (3, AV.int IntKind.i64 13), (4, AV.int IntKind.i64 x4), (7, AV.int IntKind.i64 x7), (15, AV.psl 109 n7 g7), (16, AV.int IntKind.i64 (n7 : Int)), (17, AV.int IntKind.i64 x17)], mem := [(0, Ob.box [AV.psl 71 3 ga, AV.psl 29 nt gt, AV.psl 105 nx gx, AV.psl 109 nr gr, AV.psl 117 nn gn, AV.psl 3 nh gh, AV.psl 9 ns gs])], nx := 1 }))) (Kn { tmps := [(1, AV.adr 0 0 0), (4, AV.int IntKind.i64 x4), (5, AV.adr 1 0 0), (7, AV.int IntKind.i64 x7), (15, AV.psl 109 n7 g7), (16, AV.int IntKind.i64 (n7 : Int)), (17, AV.int IntKind.i64 x17), (62, AV.psl 109 m g), (63, AV.int IntKind.i64 (m : Int)), (64, AV.int IntKind.i64 (IntKind.i64.wrap (i + (1 : Int))))], mem := [(0, Ob.box [AV.psl 71 3 ga, AV.psl 29 nt gt, AV.psl 105 nx gx, AV.psl 109 nr gr, AV.psl 117 nn gn, AV.psl 3 nh gh, AV.psl 9 ns gs]), (1, Ob.box [AV.str tn, AV.int IntKind.i64 tb, AV.int IntKind.i64 te, AV.psl 107 tp tg])], nx := 2 })) (Kn { tmps := [(1, AV.adr 0 0 0), (4, AV.int IntKind.i64 x4), (5, AV.adr 1 0 0), (7, AV.int IntKind.i64 x7), (15, AV.psl 109 n7 g7), (16, AV.int IntKind.i64 (n7 : Int)), (17, AV.int IntKind.i64 x17), (62, AV.psl 109 m g), (63, AV.int IntKind.i64 (m : Int)), (64, AV.int IntKind.i64 (IntKind.i64.wrap (i + (1 : Int))))], mem := [(0, Ob.box [AV.psl 71 3 ga, AV.psl 29 nt gt, AV.psl 105 nx gx, AV.psl 109 nr gr, AV.psl 117 nn gn, AV.psl 3 nh gh, AV.psl 9 ns gs]), (1, Ob.box [AV.str tn, AV.int IntKind.i64 tb, AV.int IntKind.i64 te, AV.psl 107 tp tg])], nx := 2 })) (Kn { tmps := [(1, AV.adr 0 0 0), (4, AV.int IntKind.i64 x4), (5, AV.adr 1 0 0), (7, AV.int IntKind.i64 x7), (15, AV.psl 109 n7 g7), (16, AV.int IntKind.i64 (n7 : Int)), (17, AV.int IntKind.i64 x17), (62, AV.psl 109 m g), (63, AV.int IntKind.i64 (m : Int)), (64, AV.int IntKind.i64 (IntKind.i64.wrap (i + (1 : Int))))], mem := [(0, Ob.box [AV.psl 71 3 ga, AV.psl 29 nt gt, AV.psl 105 nx gx, AV.psl 109 nr gr, AV.psl 117 nn gn, AV.psl 3 nh gh, AV.psl 9 ns gs]), (1, Ob.box [AV.str tn, AV.int IntKind.i64 tb, AV.int IntKind.i64 te, AV.psl 107 tp tg])], nx := 2 })) (Kn { tmps := [(1, AV.adr 0 0 0), (4, AV.int IntKind.i64 x4), (5, AV.adr 1 0 0), (7, AV.int IntKind.i64 x7), (15, AV.psl 109 n7 g7), (16, AV.int IntKind.i64 (n7 : Int)), (17, AV.int IntKind.i64 x17), (62, AV.psl 109 m g), (63, AV.int IntKind.i64 (m : Int)), (64, AV.int IntKind.i64 (IntKind.i64.wrap (i + (1 : Int))))], mem := [(0, Ob.box [AV.psl 71 3 ga, AV.psl 29 nt gt, AV.psl 105 nx gx, AV.psl 109 nr gr, AV.psl 117 nn gn, AV.psl 3 nh gh, AV.psl 9 ns gs]), (1, Ob.box [AV.str tn, AV.int IntKind.i64 tb, AV.int IntKind.i64 te, AV.psl 107 tp tg])], nx := 2 }))) else none else none)) (Ke (Ex.exit 3) { tmps := [(1, AV.adr 0 0 0), (2, AV.undef), (3, AV.undef), (4, AV.int IntKind.i64 x4), (7, AV.int IntKind.i64 x7), (15, AV.psl 109 n7 g7), (16, AV.int IntKind.i64 (n7 : Int)), (17, AV.int IntKind.i64 x17)], mem := [(0, Ob.box [AV.psl 71 3 ga, AV.psl 29 nt gt, AV.psl 105 nx gx, AV.psl 109 nr gr, AV.psl 117 nn gn, AV.psl 3 nh gh, AV.psl 9 ns gs])], nx := 1 })) := by kernel_rfl
theorem l150_17 : LOK cw5 lw1 150 17 ⟨[1,2,3,4,7,15,16,17], []⟩ L150_17 := by
  intro base s K h
  unfold L150_17 at h
  split at h
  · rename_i x4 x7 n7 g7 n7' x17 m g m' i ga nt gt nx gx nr gr nn gn nh gh ns gs tn tb te tp tg
    obtain ⟨⟨rfl, rfl, a0, a1, p0⟩, k1 , k2⟩ := h
    refine ⟨((m : Int) - i + 1).toNat, loop_rule (fun N s => ∃ (x7 : Int) (i : Int), s = (⟨[(1, .adr 0 0 0), (4, .int .i64 x4), (5, .adr 1 0 0), (7, .int .i64 x7), (15, .psl 109 n7 g7), (16, .int .i64 n7), (17, .int .i64 x17), (62, .psl 109 m g), (63, .int .i64 m), (64, .int .i64 i)], [(0, .box [.psl 71 3 ga, .psl 29 nt gt, .psl 105 nx gx, .psl 109 nr gr, .psl 117 nn gn, .psl 3 nh gh, .psl 9 ns gs]), (1, .box [.str tn, .int .i64 tb, .int .i64 te, .psl 107 tp tg])], 2⟩ : FS) ∧ 0 ≤ i ∧ i ≤ m ∧ (m : Int) - i + 1 ≤ (N : Int)) ?_ ?_ _ _ ⟨x7, i, rfl, a0, a1, by omega⟩⟩
    · rintro s ⟨x7, i, _, i0, i1, iN⟩; omega
    · rintro N Kn hKn s ⟨x7, i, rfl, i0, i1, iN⟩
      rw [r150_17]
      try rw [wrap_succ i0 (by omega)]
      (repeat' (first | with_reducible refine brd (fun _ => ?_) (fun _ => ?_) | with_reducible refine holds_if ?_ ?_ | with_reducible refine holds_ifn ?_ ?_ | with_reducible refine holds_some ?_ | with_reducible refine br (fun _ => ?_) (fun _ => ?_) | with_reducible refine And.intro ?_ ?_ | with_reducible refine fun _ => ?_))
      all_goals first
        | omega
        | exact trivial
        | exact k1
        | exact k2
        | exact k1 _
        | exact k1 _ _
        | exact k1 _ _ _
        | exact k2 _
        | exact k2 _ _
        | exact k2 _ _ _
        | exact hKn _ ⟨_, i + 1, rfl, by omega, by omega, by omega⟩
  · exact h.elim
end Go.Proofs.YtkenjojkpdeooaaGreatDoor
end
section
set_option linter.unusedVariables false
set_option maxRecDepth 100000
set_option linter.unusedSimpArgs false
set_option linter.constructorNameAsVariable false
namespace Go.Proofs.YtkenjojkpdeooaaGreatDoor
open AI

def L151_12 : LSpec := fun base s K => match base, s with
  | 0, ⟨[(0, .psl 117 n_1 gn_1), (3, .adr 0 0 0), (6, .row 1), (7, .int .i64 x7), (8, .adr 2 0 0), (9, .int .i64 k), (18, .psl 117 n gn), (19, .int .i64 n'), (20, .int .i64 x20)], [(0, .box [.psl 71 3 ga, .psl 29 nt gt, .psl 105 nx gx, .psl 109 nr gr, .psl 117 nn gn_, .psl 3 nh gh, .psl 9 ns gs]), (1, .prow 3 n_2 dg), (2, .box [.str tn, .int .i64 tb, .int .i64 te, .int .i64 tp])], 3⟩ => (n' = n ∧ n = n_1 ∧ gn = gn_1 ∧ n = n_2 ∧ n ≤ 1000 ∧ NodesN n gn ∧ -1 ≤ k ∧ k < n) ∧ (∀ (y : Int), -1 ≤ y → y < n → (y < 0 ∨ y = tp) → K (.exit 3) ⟨[(0, .psl 117 n gn), (3, .adr 0 0 0), (6, .row 1), (7, .int .i64 x7), (8, .adr 2 0 0), (9, .int .i64 y), (18, .psl 117 n gn), (19, .int .i64 n), (20, .int .i64 x20)], [(0, .box [.psl 71 3 ga, .psl 29 nt gt, .psl 105 nx gx, .psl 109 nr gr, .psl 117 nn gn_, .psl 3 nh gh, .psl 9 ns gs]), (1, .prow 3 n dg), (2, .box [.str tn, .int .i64 tb, .int .i64 te, .int .i64 tp])], 3⟩)
  | _, _ => False
theorem r151_12 (n : Nat) (gn : Nat → Nat → PV) (nt nx nr nn nh ns : Nat) (ga gt gx gr gn_ gh gs : Nat → Nat → PV) (x7 x20 : Int) (tn : ByteArray) (tb te tp : Int) (dg : Nat → Nat → PV) (k : Int)  (Kn : FS → Prop) (Ke : Ex → FS → Prop) : roundW cw5 lw1 151 0 ⟨[0,3,6,7,8,9,18,19,20], []⟩ (loopB 151 12) ⟨[(0, .psl 117 n gn), (3, .adr 0 0 0), (6, .row 1), (7, .int .i64 x7), (8, .adr 2 0 0), (9, .int .i64 k), (18, .psl 117 n gn), (19, .int .i64 n), (20, .int .i64 x20)], [(0, .box [.psl 71 3 ga, .psl 29 nt gt, .psl 105 nx gx, .psl 109 nr gr, .psl 117 nn gn_, .psl 3 nh gh, .psl 9 ns gs]), (1, .prow 3 n dg), (2, .box [.str tn, .int .i64 tb, .int .i64 te, .int .i64 tp])], 3⟩ Kn Ke = (brW (decide (k ≥ (0 : Int))) (brW (!k == tp) (holds (if (0 : Int) ≤ k then if k < (n : Int) then some (Kn { tmps := [(0, AV.psl 117 n gn), (3, AV.adr 0 0 0), (6, AV.row 1), (7, AV.int IntKind.i64 x7), (8, AV.adr 2 0 0), (9, AV.int IntKind.i64 (gn k.toNat 3).i), (18, AV.psl 117 n gn), (19, AV.int IntKind.i64 (n : Int)), (20, AV.int IntKind.i64 x20)], mem := [(0, Ob.box [AV.psl 71 3 ga, AV.psl 29 nt gt, AV.psl 105 nx gx, AV.psl 109 nr gr, AV.psl 117 nn gn_, AV.psl 3 nh gh, AV.psl 9 ns gs]), (1, Ob.prow 3 n dg), (2, Ob.box [AV.str tn, AV.int IntKind.i64 tb, AV.int IntKind.i64 te, AV.int IntKind.i64 tp])], nx := 3 }) else none else none)) (Ke (Ex.exit 3) { tmps := [(0, AV.psl 117 n gn), (3, AV.adr 0 0 0), (6, AV.row 1), (7, AV.int IntKind.i64 x7), (8, AV.adr 2 0 0), (9, AV.int IntKind.i64 k), (18, AV.psl 117 n gn), (19, AV.int IntKind.i64 (n : Int)), (20, AV.int IntKind.i64 x20)], mem := [(0, Ob.box [AV.psl 71 3 ga, AV.psl 29 nt gt, AV.psl 105 nx gx, AV.psl 109 nr gr, AV.psl 117 nn gn_, AV.psl 3 nh gh, AV.psl 9 ns gs]), (1, Ob.prow 3 n dg), (2, Ob.box [AV.str tn, AV.int IntKind.i64 tb, AV.int IntKind.i64 te, AV.int IntKind.i64 tp])], nx := 3 })) (Ke (Ex.exit 3) { tmps := [(0, AV.psl 117 n gn), (3, AV.adr 0 0 0), (6, AV.row 1), (7, AV.int IntKind.i64 x7), (8, AV.adr 2 0 0), (9, AV.int IntKind.i64 k), (18, AV.psl 117 n gn), (19, AV.int IntKind.i64 (n : Int)), (20, AV.int IntKind.i64 x20)], mem := [(0, Ob.box [AV.psl 71 3 ga, AV.psl 29 nt gt, AV.psl 105 nx gx, AV.psl 109 nr gr, AV.psl 117 nn gn_, AV.psl 3 nh gh, AV.psl 9 ns gs]), (1, Ob.prow 3 n dg), (2, Ob.box [AV.str tn, AV.int IntKind.i64 tb, AV.int IntKind.i64 te, AV.int IntKind.i64 tp])], nx := 3 })) := by kernel_rfl
theorem l151_12 : LOK cw5 lw1 151 12 ⟨[0,3,6,7,8,9,18,19,20], []⟩ L151_12 := by
  intro base s K h
  unfold L151_12 at h
  split at h
  · rename_i n_1 gn_1 x7 k n gn n' x20 ga nt gt nx gx nr gr nn gn_ nh gh ns gs n_2 dg tn tb te tp
    obtain ⟨⟨rfl, rfl, rfl, rfl, p0, p1, v0, v1⟩, k1⟩ := h
    refine ⟨(k + 2).toNat, loop_rule (fun N s => ∃ (k : Int), s = (⟨[(0, .psl 117 n gn), (3, .adr 0 0 0), (6, .row 1), (7, .int .i64 x7), (8, .adr 2 0 0), (9, .int .i64 k), (18, .psl 117 n gn), (19, .int .i64 n), (20, .int .i64 x20)], [(0, .box [.psl 71 3 ga, .psl 29 nt gt, .psl 105 nx gx, .psl 109 nr gr, .psl 117 nn gn_, .psl 3 nh gh, .psl 9 ns gs]), (1, .prow 3 n dg), (2, .box [.str tn, .int .i64 tb, .int .i64 te, .int .i64 tp])], 3⟩ : FS) ∧ -1 ≤ k ∧ k < n ∧ k + 2 ≤ (N : Int)) ?_ ?_ _ _ ⟨k, rfl, v0, v1, by omega⟩⟩
    · rintro s ⟨k, _, i0, i1, iN⟩; omega
    · rintro N Kn hKn s ⟨k, rfl, i0, i1, iN⟩
      rw [r151_12]
      (repeat' (first | with_reducible refine brd (fun _ => ?_) (fun _ => ?_) | with_reducible refine holds_if ?_ ?_ | with_reducible refine holds_ifn ?_ ?_ | with_reducible refine holds_some ?_ | with_reducible refine br (fun _ => ?_) (fun _ => ?_) | with_reducible refine And.intro ?_ ?_ | with_reducible refine fun _ => ?_))
      all_goals first
        | omega
        | exact trivial
        | exact k1
        | exact k1 _
        | exact k1 _ _
        | exact k1 _ _ _
        | exact hKn _ ⟨_, rfl, i0, i1, by omega⟩
        | exact k1 _ i0 i1 (by first | (left; omega) | (right; simp_all; done))
        | (have h := p1 k.toNat (by omega); exact hKn _ ⟨_, rfl, h.2.1, by omega, by omega⟩)
  · exact h.elim
def L151_22 : LSpec := fun base s K => match base, s with
  | 0, ⟨[(0, .psl 117 n_1 gn_1), (3, .adr 0 0 0), (6, .row 1), (7, .int .i64 x7), (8, .adr 2 0 0), (11, .int .i64 k), (18, .psl 117 n gn), (19, .int .i64 n'), (20, .int .i64 x20)], [(0, .box [.psl 71 3 ga, .psl 29 nt gt, .psl 105 nx gx, .psl 109 nr gr, .psl 117 nn gn_, .psl 3 nh gh, .psl 9 ns gs]), (1, .prow 3 n_2 dg), (2, .box [.str tn, .int .i64 tb, .int .i64 te, .int .i64 tp])], 3⟩ => (n' = n ∧ n = n_1 ∧ gn = gn_1 ∧ n = n_2 ∧ n ≤ 1000 ∧ -1 ≤ k ∧ k < n) ∧ (∀ x e, K .ret ⟨[(0, .psl 117 n gn), (3, .adr 0 0 0), (4, .int .i64 x), (5, .int .i64 e), (6, .row 1), (7, .int .i64 x7), (18, .psl 117 n gn), (19, .int .i64 n), (20, .int .i64 x20)], [(0, .box [.psl 71 3 ga, .psl 29 nt gt, .psl 105 nx gx, .psl 109 nr gr, .psl 117 nn gn_, .psl 3 nh gh, .psl 9 ns gs]), (1, .prow 3 n dg)], 2⟩) ∧ (K (.exit 5) ⟨[(0, .psl 117 n gn), (3, .adr 0 0 0), (4, .undef), (5, .undef), (6, .row 1), (7, .int .i64 x7), (18, .psl 117 n gn), (19, .int .i64 n), (20, .int .i64 x20)], [(0, .box [.psl 71 3 ga, .psl 29 nt gt, .psl 105 nx gx, .psl 109 nr gr, .psl 117 nn gn_, .psl 3 nh gh, .psl 9 ns gs]), (1, .prow 3 n dg)], 2⟩)
  | _, _ => False
theorem r151_22 (n : Nat) (gn : Nat → Nat → PV) (nt nx nr nn nh ns : Nat) (ga gt gx gr gn_ gh gs : Nat → Nat → PV) (x7 x20 : Int) (tn : ByteArray) (tb te tp : Int) (dg : Nat → Nat → PV) (k : Int)  (Kn : FS → Prop) (Ke : Ex → FS → Prop) : roundW cw5 lw1 151 0 ⟨[0,3,4,5,6,7,18,19,20], []⟩ (loopB 151 22) ⟨[(0, .psl 117 n gn), (3, .adr 0 0 0), (6, .row 1), (7, .int .i64 x7), (8, .adr 2 0 0), (11, .int .i64 k), (18, .psl 117 n gn), (19, .int .i64 n), (20, .int .i64 x20)], [(0, .box [.psl 71 3 ga, .psl 29 nt gt, .psl 105 nx gx, .psl 109 nr gr, .psl 117 nn gn_, .psl 3 nh gh, .psl 9 ns gs]), (1, .prow 3 n dg), (2, .box [.str tn, .int .i64 tb, .int .i64 te, .int .i64 tp])], 3⟩ Kn Ke = (brW (decide (k ≥ (0 : Int))) (holds (if (0 : Int) ≤ k then if k < (n : Int) then some (brW ((gn k.toNat 3).i == tp) (holds (if (0 : Int) ≤ k then if k < (n : Int) then some (brW (decide (tb < (gn k.toNat 2).i)) (Ke Ex.ret { tmps := [(0, AV.psl 117 n gn), (3, AV.adr 0 0 0), (4, AV.int IntKind.i64 x7), (5, AV.int IntKind.i64 8), (6, AV.row 1), (7, AV.int IntKind.i64 x7), (18, AV.psl 117 n gn), (19, AV.int IntKind.i64 (n : Int)), (20, AV.int IntKind.i64 x20)], mem := [(0, Ob.box [AV.psl 71 3 ga, AV.psl 29 nt gt, AV.psl 105 nx gx, AV.psl 109 nr gr, AV.psl 117 nn gn_, AV.psl 3 nh gh, AV.psl 9 ns gs]), (1, Ob.prow 3 n dg)], nx := 2 }) (Ke (Ex.exit 5) { tmps := [(0, AV.psl 117 n gn), (3, AV.adr 0 0 0), (4, AV.undef), (5, AV.undef), (6, AV.row 1), (7, AV.int IntKind.i64 x7), (18, AV.psl 117 n gn), (19, AV.int IntKind.i64 (n : Int)), (20, AV.int IntKind.i64 x20)], mem := [(0, Ob.box [AV.psl 71 3 ga, AV.psl 29 nt gt, AV.psl 105 nx gx, AV.psl 109 nr gr, AV.psl 117 nn gn_, AV.psl 3 nh gh, AV.psl 9 ns gs]), (1, Ob.prow 3 n dg)], nx := 2 })) else none else none)) (Kn { tmps := [(0, AV.psl 117 n gn), (3, AV.adr 0 0 0), (6, AV.row 1), (7, AV.int IntKind.i64 x7), (8, AV.adr 2 0 0), (11, AV.int IntKind.i64 (IntKind.i64.wrap (k - (1 : Int)))), (18, AV.psl 117 n gn), (19, AV.int IntKind.i64 (n : Int)), (20, AV.int IntKind.i64 x20)], mem := [(0, Ob.box [AV.psl 71 3 ga, AV.psl 29 nt gt, AV.psl 105 nx gx, AV.psl 109 nr gr, AV.psl 117 nn gn_, AV.psl 3 nh gh, AV.psl 9 ns gs]), (1, Ob.prow 3 n dg), (2, Ob.box [AV.str tn, AV.int IntKind.i64 tb, AV.int IntKind.i64 te, AV.int IntKind.i64 tp])], nx := 3 })) else none else none)) (Ke (Ex.exit 5) { tmps := [(0, AV.psl 117 n gn), (3, AV.adr 0 0 0), (4, AV.undef), (5, AV.undef), (6, AV.row 1), (7, AV.int IntKind.i64 x7), (18, AV.psl 117 n gn), (19, AV.int IntKind.i64 (n : Int)), (20, AV.int IntKind.i64 x20)], mem := [(0, Ob.box [AV.psl 71 3 ga, AV.psl 29 nt gt, AV.psl 105 nx gx, AV.psl 109 nr gr, AV.psl 117 nn gn_, AV.psl 3 nh gh, AV.psl 9 ns gs]), (1, Ob.prow 3 n dg)], nx := 2 })) := by kernel_rfl
theorem l151_22 : LOK cw5 lw1 151 22 ⟨[0,3,4,5,6,7,18,19,20], []⟩ L151_22 := by
  intro base s K h
  unfold L151_22 at h
  split at h
  · rename_i n_1 gn_1 x7 k n gn n' x20 ga nt gt nx gx nr gr nn gn_ nh gh ns gs n_2 dg tn tb te tp
    obtain ⟨⟨rfl, rfl, rfl, rfl, p0, v0, v1⟩, k1 , k2⟩ := h
    refine ⟨(k + 2).toNat, loop_rule (fun N s => ∃ (k : Int), s = (⟨[(0, .psl 117 n gn), (3, .adr 0 0 0), (6, .row 1), (7, .int .i64 x7), (8, .adr 2 0 0), (11, .int .i64 k), (18, .psl 117 n gn), (19, .int .i64 n), (20, .int .i64 x20)], [(0, .box [.psl 71 3 ga, .psl 29 nt gt, .psl 105 nx gx, .psl 109 nr gr, .psl 117 nn gn_, .psl 3 nh gh, .psl 9 ns gs]), (1, .prow 3 n dg), (2, .box [.str tn, .int .i64 tb, .int .i64 te, .int .i64 tp])], 3⟩ : FS) ∧ -1 ≤ k ∧ k < n ∧ k + 2 ≤ (N : Int)) ?_ ?_ _ _ ⟨k, rfl, v0, v1, by omega⟩⟩
    · rintro s ⟨k, _, i0, i1, iN⟩; omega
    · rintro N Kn hKn s ⟨k, rfl, i0, i1, iN⟩
      rw [r151_22]
      try rw [show IntKind.i64.wrap (k - 1) = k - 1 from wrap_id (by omega) (by omega)]
      (repeat' (first | with_reducible refine brd (fun _ => ?_) (fun _ => ?_) | with_reducible refine holds_if ?_ ?_ | with_reducible refine holds_ifn ?_ ?_ | with_reducible refine holds_some ?_ | with_reducible refine br (fun _ => ?_) (fun _ => ?_) | with_reducible refine And.intro ?_ ?_ | with_reducible refine fun _ => ?_))
      all_goals first
        | omega
        | exact trivial
        | exact k1
        | exact k2
        | exact k1 _
        | exact k1 _ _
        | exact k1 _ _ _
        | exact k2 _
        | exact k2 _ _
        | exact k2 _ _ _
        | exact hKn _ ⟨_, rfl, i0, i1, by omega⟩
        | exact hKn _ ⟨_, rfl, by omega, by omega, by omega⟩
  · exact h.elim
end Go.Proofs.YtkenjojkpdeooaaGreatDoor
end
