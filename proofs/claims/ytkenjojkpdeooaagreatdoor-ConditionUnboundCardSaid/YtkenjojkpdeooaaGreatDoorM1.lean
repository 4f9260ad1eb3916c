/- What the abstract interpreter's values and objects say of the machine's memory. · What the type table says of the program's types. · How the relation moves: new objects, ended objects, written objects. · Operations: memory is read. · What is frozen; what is stored. · What is stored. -/
import Derived.Test.YtkenjojkpdeooaaGreatDoorM0
import Derived.Laws.Sem
import Derived.Maps.AppendAt
import Derived.Laws.CopyRow
import Derived.Laws.Cells
import Derived.Laws.Entries
import Derived.WalkKit
section
set_option linter.unusedVariables false
set_option linter.unusedSimpArgs false
set_option linter.constructorNameAsVariable false
namespace Go.Proofs.YtkenjojkpdeooaaGreatDoor.AI

/-- Where an object lies, and its shape: the size of an element, how many there are. Neither changes while its name stands. -/
structure Loc where
  blk : Nat
  cap : Nat
  nil : Bool
  esz : Nat
  len : Nat
def Loc.slice (l : Loc) : Value := if l.nil then .slice none 0 0 else .slice (some ⟨l.blk, 0, none⟩) l.len l.cap

/-- A cell that doesn't change; what it leads to lies in blocks that are 'ok'. -/
def CR (TY : Ty) (w : World) (ok : Nat → Prop) : PV → CK → Value → Prop
  | .sl n g, ck, v =>
    match ck with
    | .int k => v = .int k 0
    | .bool => v = .bool false
    | .str => v = .string ⟨#[]⟩
    | .sl E => ∃ A c, v = .slice A n c ∧ n ≤ c ∧ (0 < n → ∃ b off, A = some ⟨b, off, none⟩ ∧ ok b ∧
        ∀ i, i < n → ∀ j ck', (TY E).cks[j]? = some ck' → ∃ u, w.cell? ⟨b, off + (i * (TY E).cks.length + j), none⟩ = some u ∧ CR TY w ok (g i j) ck' u)
    | _ => False
  | p, ck, v =>
    match ck with
    | .int k => v = .int k p.i
    | .bool => v = .bool p.b
    | .str => v = .string p.s
    | .sl E => ∃ A c, v = .slice A 0 c
    | _ => False

structure RS where
  w : World
  ok : Nat → Prop
  M : Nat → Option Ob
  μ : Nat → Loc
  dom : Nat → Prop

mutual
def VR (TY : Ty) (S : RS) : AV → Value → Prop
  | .undef, _ => True
  | .int k x, v => v = .int k x
  | .bool b, v => v = .bool b
  | .str s, v => v = .string s
  | .nils, v => v = .slice none 0 0
  | .psl E n g, v => CR TY S.w S.ok (.sl n g) (.sl E) v
  | .agg cs, v => ∃ vs, v = .agg vs ∧ VRs TY S cs vs.toList
  | .tup cs, v => ∃ vs, v = .tuple vs ∧ VRs TY S cs vs.toList
  | .adr o i off, v => S.dom o ∧ i < (S.μ o).len ∧ v = .pointer (some ⟨(S.μ o).blk, i * (S.μ o).esz + off, none⟩)
  | .padr E off cell, v => ∃ b a, v = .pointer (some ⟨b, a + off, none⟩) ∧ S.ok b ∧
      ∀ j ck, (TY E).cks[j]? = some ck → ∃ u, S.w.cell? ⟨b, a + j, none⟩ = some u ∧ CR TY S.w S.ok (cell j) ck u
  | .row o, v => S.dom o ∧ v = (S.μ o).slice
  | .rowv o lo hi, v => S.dom o ∧ lo ≤ hi ∧ hi ≤ (S.μ o).len ∧
      ∃ A c, v = .slice A (hi - lo) c ∧ hi - lo ≤ c ∧ (lo < hi → A = some ⟨(S.μ o).blk, lo * (S.μ o).esz, none⟩)
  | .fn f cap, v => ∃ vs, v = .func (.func f) #[] vs ∧ VRs TY S cap vs.toList
  | .nilp, v => v = .pointer none
  | .nilf, v => v = .nilFunc
def VRs (TY : Ty) (S : RS) : List AV → List Value → Prop
  | [], [] => True
  | x :: xs, v :: vs => VR TY S x v ∧ VRs TY S xs vs
  | _, _ => False
end

/-- An object in its place. -/
def OR (TY : Ty) (S : RS) (l : Loc) : Ob → Prop
  | .box cs => l.nil = false ∧ l.len = 1 ∧ l.esz = 0 ∧ ∃ C T, S.w.heap[l.blk]? = some (.cells C T (0, 0)) ∧ VRs TY S cs C.toList
  | .prow E n g => l.len = n ∧ l.esz = (TY E).cks.length ∧ n ≤ l.cap ∧ l.cap ≤ maxLen ∧ if l.nil then n = 0 else ∃ C, S.w.heap[l.blk]? = some (.cells C E (0, 0)) ∧ C.size = l.cap * (TY E).cks.length ∧
      ∀ i, i < n → ∀ j ck, (TY E).cks[j]? = some ck → ∃ u, C[i * (TY E).cks.length + j]? = some u ∧ CR TY S.w S.ok (g i j) ck u
  | .arow E n cs => l.len = n ∧ l.esz = (TY E).cks.length ∧ n ≤ l.cap ∧ l.cap ≤ maxLen ∧ cs.length = n * (TY E).cks.length ∧ if l.nil then n = 0 else
      ∃ C, S.w.heap[l.blk]? = some (.cells C E (0, 0)) ∧ C.size = l.cap * (TY E).cks.length ∧ VRs TY S cs (C.toList.take (n * (TY E).cks.length))
  | .iter s pos => l.nil = false ∧ l.len = 1 ∧ l.esz = 0 ∧ S.w.heap[l.blk]? = some (.stringIter s pos)

structure Good (TY : Ty) (S : RS) : Prop where
  dom : ∀ o x, S.M o = some x → S.dom o
  obj : ∀ o x, S.M o = some x → OR TY S (S.μ o) x
  inj : ∀ o o' x x', S.M o = some x → S.M o' = some x' → (S.μ o).nil = false → (S.μ o').nil = false → (S.μ o).blk = (S.μ o').blk → o = o'
  sep : ∀ o x, S.M o = some x → (S.μ o).nil = false → ¬ S.ok (S.μ o).blk
  okb : ∀ b, S.ok b → b < S.w.heap.size

/-! ### What doesn't change stays -/
theorem CR_mono {TY : Ty} {w w' : World} {ok ok' : Nat → Prop} (hok : ∀ b, ok b → ok' b) (hw : ∀ b, ok b → w'.heap[b]? = w.heap[b]?) :
    ∀ (p : PV) (ck : CK) (v : Value), CR TY w ok p ck v → CR TY w' ok' p ck v
  | .int _, ck, v, h => by cases ck <;> exact h
  | .bool _, ck, v, h => by cases ck <;> exact h
  | .str _, ck, v, h => by cases ck <;> exact h
  | .bad, ck, v, h => by cases ck <;> exact h
  | .sl n g, ck, v, h => by
    cases ck with
    | sl E =>
      obtain ⟨A, c, rfl, hc, hcell⟩ := h
      refine ⟨A, c, rfl, hc, fun hn => ?_⟩
      obtain ⟨b, off, rfl, hb, hx⟩ := hcell hn
      refine ⟨b, off, rfl, hok b hb, fun i hi j ck' hj => ?_⟩
      obtain ⟨u, hu, hr⟩ := hx i hi j ck' hj
      refine ⟨u, ?_, CR_mono hok hw (g i j) ck' u hr⟩
      simpa [World.cell?, hw b hb] using hu
    | _ => exact h

/-- S' says at least what S says, of what S knows. -/
structure Ext (TY : Ty) (S S' : RS) : Prop where
  ok : ∀ b, S.ok b → S'.ok b
  w : ∀ b, S.ok b → S'.w.heap[b]? = S.w.heap[b]?
  dom : ∀ o, S.dom o → S'.dom o
  μ : ∀ o, S.dom o → S'.μ o = S.μ o

mutual
theorem VR_ext {TY : Ty} {S S' : RS} (E : Ext TY S S') : ∀ (x : AV) (v : Value), VR TY S x v → VR TY S' x v
  | .undef, v, h => trivial
  | .int _ _, v, h => h
  | .bool _, v, h => h
  | .str _, v, h => h
  | .nils, v, h => h
  | .nilp, v, h => h
  | .nilf, v, h => h
  | .psl _ _ _, v, h => CR_mono E.ok E.w _ _ _ h
  | .agg cs, v, ⟨vs, e, h⟩ => ⟨vs, e, VRs_ext E cs _ h⟩
  | .tup cs, v, ⟨vs, e, h⟩ => ⟨vs, e, VRs_ext E cs _ h⟩
  | .fn f cs, v, ⟨vs, e, h⟩ => ⟨vs, e, VRs_ext E cs _ h⟩
  | .adr o i off, v, ⟨hd, h1, h⟩ => ⟨E.dom o hd, by rw [E.μ o hd]; exact h1, by rw [E.μ o hd]; exact h⟩
  | .padr T off cell, v, ⟨b, a, e, hb, h⟩ => ⟨b, a, e, E.ok b hb, fun j ck hj => by
      obtain ⟨u, hu, hr⟩ := h j ck hj
      exact ⟨u, by simpa [World.cell?, E.w b hb] using hu, CR_mono E.ok E.w _ _ _ hr⟩⟩
  | .row o, v, ⟨hd, h⟩ => ⟨E.dom o hd, by rw [E.μ o hd]; exact h⟩
  | .rowv o lo hi, v, ⟨hd, h⟩ => ⟨E.dom o hd, by rw [E.μ o hd]; exact h⟩
theorem VRs_ext {TY : Ty} {S S' : RS} (E : Ext TY S S') : ∀ (xs : List AV) (vs : List Value), VRs TY S xs vs → VRs TY S' xs vs
  | [], [], h => trivial
  | [], _ :: _, h => h.elim
  | _ :: _, [], h => h.elim
  | x :: xs, v :: vs, ⟨h1, h2⟩ => ⟨VR_ext E x v h1, VRs_ext E xs vs h2⟩
end
theorem Ext.refl (TY : Ty) (S : RS) : Ext TY S S := ⟨fun _ h => h, fun _ _ => rfl, fun _ h => h, fun _ _ => rfl⟩

theorem VRs_length {TY : Ty} {S : RS} : ∀ {xs : List AV} {vs : List Value}, VRs TY S xs vs → xs.length = vs.length
  | [], [], _ => rfl
  | [], _ :: _, h => h.elim
  | _ :: _, [], h => h.elim
  | x :: xs, v :: vs, h => by simp [VRs_length h.2]
theorem VRs_get {TY : Ty} {S : RS} : ∀ {xs : List AV} {vs : List Value}, VRs TY S xs vs → ∀ (i : Nat) (x : AV), xs[i]? = some x → ∃ v, vs[i]? = some v ∧ VR TY S x v
  | [], [], _, i, x, h => by simp at h
  | [], _ :: _, h, _, _, _ => h.elim
  | _ :: _, [], h, _, _, _ => h.elim
  | x :: xs, v :: vs, ⟨h1, h2⟩, i, y, hy => by
    cases i with
    | zero => simp at hy; subst hy; exact ⟨v, rfl, h1⟩
    | succ i => simpa using VRs_get h2 i y (by simpa using hy)
theorem VRs_of {TY : Ty} {S : RS} : ∀ {xs : List AV} {vs : List Value}, xs.length = vs.length → (∀ (i : Nat) (x : AV) (v : Value), xs[i]? = some x → vs[i]? = some v → VR TY S x v) → VRs TY S xs vs
  | [], [], _, _ => trivial
  | [], _ :: _, h, _ => by simp at h
  | _ :: _, [], h, _ => by simp at h
  | x :: xs, v :: vs, hl, h => ⟨h 0 x v rfl rfl, VRs_of (by simpa using hl) fun i x' v' h1 h2 => h (i + 1) x' v' (by simpa using h1) (by simpa using h2)⟩
theorem VRs_append {TY : Ty} {S : RS} : ∀ {xs ys : List AV} {us vs : List Value}, VRs TY S xs us → VRs TY S ys vs → VRs TY S (xs ++ ys) (us ++ vs)
  | [], ys, [], vs, _, h => h
  | [], _, _ :: _, _, h, _ => h.elim
  | _ :: _, _, [], _, h, _ => h.elim
  | x :: xs, ys, v :: vs, _, ⟨h1, h2⟩, h => ⟨h1, VRs_append h2 h⟩
theorem VRs_take {TY : Ty} {S : RS} : ∀ {xs : List AV} {vs : List Value} (n : Nat), VRs TY S xs vs → VRs TY S (xs.take n) (vs.take n)
  | [], [], n, _ => by simp [VRs]
  | [], _ :: _, _, h => h.elim
  | _ :: _, [], _, h => h.elim
  | x :: xs, v :: vs, n, ⟨h1, h2⟩ => by
    cases n with
    | zero => simp [VRs]
    | succ n => exact ⟨h1, VRs_take n h2⟩
theorem VRs_drop {TY : Ty} {S : RS} : ∀ {xs : List AV} {vs : List Value} (n : Nat), VRs TY S xs vs → VRs TY S (xs.drop n) (vs.drop n)
  | [], [], n, _ => by simp [VRs]
  | [], _ :: _, _, h => h.elim
  | _ :: _, [], _, h => h.elim
  | x :: xs, v :: vs, n, h => by
    cases n with
    | zero => exact h
    | succ n => exact VRs_drop n h.2
theorem VRs_set {TY : Ty} {S : RS} : ∀ {xs : List AV} {vs : List Value} (n : Nat) {x : AV} {v : Value}, VRs TY S xs vs → VR TY S x v → VRs TY S (xs.set n x) (vs.set n v)
  | [], [], n, _, _, _, _ => by simp [VRs]
  | [], _ :: _, _, _, _, h, _ => h.elim
  | _ :: _, [], _, _, _, h, _ => h.elim
  | y :: xs, u :: vs, n, x, v, ⟨h1, h2⟩, h => by
    cases n with
    | zero => exact ⟨h, h2⟩
    | succ n => exact ⟨h1, VRs_set n h2 h⟩
end Go.Proofs.YtkenjojkpdeooaaGreatDoor.AI
end
section
set_option linter.unusedVariables false
set_option linter.unusedSimpArgs false
set_option linter.constructorNameAsVariable false
namespace Go.Proofs.YtkenjojkpdeooaaGreatDoor.AI

def zeroIs : CK → Value → Bool
  | .int k, .int k' x => decide (k = k') && decide (x = 0)
  | .bool, .bool b => !b
  | .str, .string s => Nat.beq s.size 0
  | .sl _, .slice none 0 0 => true
  | .ptr, .pointer none => true
  | .func, .nilFunc => true
  | _, _ => false
def zeroAll : List CK → List Value → Bool
  | [], [] => true
  | c :: cs, v :: vs => zeroIs c v && zeroAll cs vs
  | _, _ => false
def fieldsAre (P : Program) (TY : Ty) : List (Nat × TypeId) → List Field → Bool
  | [], [] => true
  | (o, t) :: r, f :: fs => Nat.beq o f.offset && Nat.beq t f.type && (match P.info? t with | some i => Nat.beq i.size (TY t).cks.length && !Nat.beq i.size 0 | none => false) && fieldsAre P TY r fs
  | _, _ => false
def kindIs (P : Program) (TY : Ty) (t : TypeId) (d : TyD) : Bool :=
  match P.underlying t with
  | some (.int k) => (match d.k with | .int k' => decide (k = k') && decide (d.cks = [.int k]) | _ => false)
  | some .bool => (match d.k with | .bool => decide (d.cks = [.bool]) | _ => false)
  | some .string => (match d.k with | .str => decide (d.cks = [.str]) | _ => false)
  | some (.slice E) => (match d.k with | .slice E' => Nat.beq E E' && decide (d.cks = [.sl E]) | _ => false)
  | some (.pointer E) => (match d.k with | .ptr _ => decide (d.cks = [.ptr]) | _ => false)
  | some (.func ..) => (match d.k with | .func => decide (d.cks = [.func]) | _ => false)
  | some (.struct fields) => (match d.k with | .struct fs => fieldsAre P TY fs fields.toList | _ => false)
  | _ => false
def tyCheck (P : Program) (TY : Ty) (t : TypeId) : Bool :=
  match (TY t).k with
  | .oth => true
  | _ =>
    match P.info? t with
    | none => false
    | some i => Nat.beq i.size (TY t).cks.length && Nat.beq i.bytes (TY t).bytes && (match i.zero with | some z => zeroAll (TY t).cks z.cells.toList | none => false) && kindIs P TY t (TY t)
structure TyOK (P : Program) (TY : Ty) : Prop where
  chk : ∀ t, tyCheck P TY t = true
  eqv : ∀ (T : TypeId) (xs ys : Array Value) (cs ds : List AV) (b : Bool) (S : RS), (TY T).eq = true → VRs TY S cs xs.toList → VRs TY S ds ys.toList → eqCells (TY T).cks cs ds = some b →
    ∀ op x y w, (eqGuard op T x y (.agg xs) (.agg ys)).run P w = .ok () w ∧ (Op.equal T (.agg xs) (.agg ys)).run P w = .ok b w

theorem nat_beq {a b : Nat} (h : Nat.beq a b = true) : a = b := Nat.eq_of_beq_eq_true h

structure TyIs (P : Program) (TY : Ty) (t : TypeId) (i : TypeInfo) (z : Value) : Prop where
  info : P.info? t = some i
  size : i.size = (TY t).cks.length
  bytes : i.bytes = (TY t).bytes
  zero : i.zero = some z
  zeros : zeroAll (TY t).cks z.cells.toList = true
  kind : kindIs P TY t (TY t) = true

theorem TyOK.is {P : Program} {TY : Ty} (h : TyOK P TY) {t : TypeId} (ht : (TY t).k.oth? = false) : ∃ i z, TyIs P TY t i z := by
  have := h.chk t
  unfold tyCheck at this
  cases hk : (TY t).k <;> simp only [hk] at this
  case oth => simp [hk, TK.oth?] at ht
  all_goals
    split at this
    · cases this
    · rename_i i hi
      simp only [Bool.and_eq_true] at this
      obtain ⟨⟨⟨h1, h2⟩, h3⟩, h4⟩ := this
      cases hz : i.zero with
      | none => simp [hz] at h3
      | some z => exact ⟨i, z, hi, nat_beq h1, nat_beq h2, hz, by simpa [hz] using h3, h4⟩

section
variable {P : Program} {TY : Ty} {t : TypeId} {i : TypeInfo} {z : Value} {w : World}
theorem TyIs.run_info (h : TyIs P TY t i z) : (typeInfo t).run P w = .ok i w := by simp [typeInfo, h.info]
theorem TyIs.run_size (h : TyIs P TY t i z) : (sizeOf t).run P w = .ok (TY t).cks.length w := by simp [sizeOf, h.run_info, h.size]
theorem TyIs.run_zero (h : TyIs P TY t i z) : (zeroValue t).run P w = .ok z w := by simp [zeroValue, h.run_info, h.zero]
theorem TyIs.under_slice (h : TyIs P TY t i z) {E : TypeId} (hk : (TY t).k = .slice E) : P.underlying t = some (.slice E) := by
  have := h.kind
  simp only [kindIs, hk] at this
  split at this <;> first | (cases this; done) | skip
  rename_i E' hu
  simp only [Bool.and_eq_true] at this
  rw [hu, nat_beq this.1]
theorem TyIs.cks_slice (h : TyIs P TY t i z) {E : TypeId} (hk : (TY t).k = .slice E) : (TY t).cks = [.sl E] := by
  have := h.kind
  simp only [kindIs, hk] at this
  split at this <;> first | (cases this; done) | skip
  rename_i E' hu
  simp only [Bool.and_eq_true, decide_eq_true_eq] at this
  rw [this.2, nat_beq this.1]
theorem TyIs.under_int (h : TyIs P TY t i z) {k : IntKind} (hk : (TY t).k = .int k) : P.underlying t = some (.int k) := by
  have := h.kind
  simp only [kindIs, hk] at this
  split at this <;> first | (cases this; done) | skip
  rename_i k' hu
  simp only [Bool.and_eq_true, decide_eq_true_eq] at this
  rw [hu, this.1]
theorem TyIs.under_str (h : TyIs P TY t i z) (hk : (TY t).k = .str) : P.underlying t = some .string := by
  have := h.kind
  simp only [kindIs, hk] at this
  split at this <;> first | (cases this; done) | assumption
theorem TyIs.under_bool (h : TyIs P TY t i z) (hk : (TY t).k = .bool) : P.underlying t = some .bool := by
  have := h.kind
  simp only [kindIs, hk] at this
  split at this <;> first | (cases this; done) | assumption
theorem TyIs.under_struct (h : TyIs P TY t i z) {fs : List (Nat × TypeId)} (hk : (TY t).k = .struct fs) : ∃ fields, P.underlying t = some (.struct fields) ∧ fieldsAre P TY fs fields.toList = true := by
  have := h.kind
  simp only [kindIs, hk] at this
  split at this <;> first | (cases this; done) | skip
  rename_i fields hu
  exact ⟨fields, hu, this⟩
theorem TyIs.run_agg (h : TyIs P TY t i z) : (isAgg t).run P w = .ok (isAggK (TY t).k) w := by
  have := h.kind
  cases hk : (TY t).k <;> simp only [kindIs, hk] at this <;> split at this <;> first
    | (cases this; done)
    | (rename_i hu; simp [isAgg, run_underlying hu, isAggK])
theorem fieldsAre_get {fs : List (Nat × TypeId)} {l : List Field} (h : fieldsAre P TY fs l = true) : ∀ (j o : Nat) (ft : TypeId), fs[j]? = some (o, ft) →
    ∃ f fi, l[j]? = some f ∧ f.offset = o ∧ f.type = ft ∧ P.info? ft = some fi ∧ fi.size = (TY ft).cks.length ∧ fi.size ≠ 0 := by
  induction fs generalizing l with
  | nil => intro j o ft hj; simp at hj
  | cons x r ih =>
    intro j o ft hj
    obtain ⟨xo, xt⟩ := x
    cases l with
    | nil => simp [fieldsAre] at h
    | cons f fl =>
      simp only [fieldsAre, Bool.and_eq_true] at h
      obtain ⟨⟨⟨h1, h2⟩, h3⟩, h4⟩ := h
      cases j with
      | zero =>
        simp at hj
        obtain ⟨rfl, rfl⟩ := hj
        cases hi : P.info? xt with
        | none => simp [hi] at h3
        | some fi =>
          simp only [hi, Bool.and_eq_true, Bool.not_eq_true'] at h3
          exact ⟨f, fi, rfl, (nat_beq h1).symm, (nat_beq h2).symm, rfl, nat_beq h3.1, fun e => by have := h3.2; simp [e] at this⟩
      | succ j => simpa using ih h4 j o ft (by simpa using hj)
end

/-! ### Zero values -/
theorem zeroIs_VR {TY : Ty} {S : RS} {c : CK} {v : Value} (h : zeroIs c v = true) : VR TY S (zeroCK c) v := by
  cases c <;> cases v <;> simp only [zeroIs, Bool.false_eq_true, Bool.and_eq_true, decide_eq_true_eq, Bool.not_eq_true'] at h <;> simp only [zeroCK, VR]
  case int.int => obtain ⟨rfl, rfl⟩ := h; rfl
  case bool.bool => subst h; rfl
  case str.string s =>
    have := nat_beq h
    congr 1
    exact ByteArray.ext (Array.eq_empty_of_size_eq_zero this)
  case sl.slice a n c => cases a <;> cases n <;> cases c <;> simp_all
  case ptr.pointer a => cases a <;> simp_all
theorem zeroAll_VRs {TY : Ty} {S : RS} : ∀ {cs : List CK} {vs : List Value}, zeroAll cs vs = true → VRs TY S (cs.map zeroCK) vs
  | [], [], _ => trivial
  | [], _ :: _, h => by simp [zeroAll] at h
  | _ :: _, [], h => by simp [zeroAll] at h
  | c :: cs, v :: vs, h => by
    simp only [zeroAll, Bool.and_eq_true] at h
    exact ⟨zeroIs_VR h.1, zeroAll_VRs h.2⟩
end Go.Proofs.YtkenjojkpdeooaaGreatDoor.AI
end
section
set_option linter.unusedVariables false
set_option linter.unusedSimpArgs false
set_option linter.constructorNameAsVariable false
namespace Go.Proofs.YtkenjojkpdeooaaGreatDoor.AI

def Blks (S : RS) (b : Nat) : Prop := ∃ o x, S.M o = some x ∧ (S.μ o).nil = false ∧ (S.μ o).blk = b
/-- Only blocks of B, and new ones, are written. -/
structure Fr (B : Nat → Prop) (w w' : World) : Prop where
  os : w'.os = w.os
  tape : w'.tape = w.tape
  output : w'.output = w.output
  size : w.heap.size ≤ w'.heap.size
  block : ∀ b, b < w.heap.size → ¬ B b → w'.heap[b]? = w.heap[b]?
theorem Fr.refl (B : Nat → Prop) (w : World) : Fr B w w := ⟨rfl, rfl, rfl, Nat.le_refl _, fun _ _ _ => rfl⟩
theorem Fr.trans {B B' B'' : Nat → Prop} {a b c : World} (h : Fr B a b) (k : Fr B' b c) (h1 : ∀ x, B x → B'' x) (h2 : ∀ x, x < a.heap.size → B' x → B'' x) : Fr B'' a c :=
  ⟨k.os.trans h.os, k.tape.trans h.tape, k.output.trans h.output, Nat.le_trans h.size k.size,
   fun x hx hn => (k.block x (Nat.lt_of_lt_of_le hx h.size) (fun hb => hn (h2 x hx hb))).trans (h.block x hx (fun hb => hn (h1 x hb)))⟩
theorem Fr.mono {B B' : Nat → Prop} {a b : World} (h : Fr B a b) (h1 : ∀ x, B x → B' x) : Fr B' a b :=
  ⟨h.os, h.tape, h.output, h.size, fun x hx hn => h.block x hx (fun hb => hn (h1 x hb))⟩

structure Mv (TY : Ty) (S S' : RS) : Prop where
  ext : Ext TY S S'
  good : Good TY S'
  fr : Fr (Blks S) S.w S'.w
  ok' : ∀ b, S'.ok b → S.ok b ∨ Blks S b ∨ S.w.heap.size ≤ b
  blk' : ∀ b, Blks S' b → Blks S b ∨ S.w.heap.size ≤ b
  old : ∀ q y, S.dom q → S'.M q = some y → ∃ x, S.M q = some x
/-- New names are of a stretch. -/
def Nw (lo hi : Nat) (S S' : RS) : Prop := ∀ q, S'.dom q → S.dom q ∨ (lo ≤ q ∧ q < hi)
theorem Nw.of {lo hi : Nat} {S S' : RS} (h : S'.dom = S.dom) : Nw lo hi S S' := fun q hq => .inl (h ▸ hq)
theorem Nw.trans {lo hi : Nat} {A B C : RS} (h : Nw lo hi A B) (k : Nw lo hi B C) : Nw lo hi A C := fun q hq => (k q hq).elim (h q) .inr
theorem Nw.wider {lo hi lo' hi' : Nat} {A B : RS} (h : Nw lo hi A B) (h1 : lo' ≤ lo) (h2 : hi ≤ hi') : Nw lo' hi' A B := fun q hq => (h q hq).imp id fun ⟨a, b⟩ => ⟨Nat.le_trans h1 a, Nat.lt_of_lt_of_le b h2⟩

theorem Ext.trans {TY : Ty} {A B C : RS} (h : Ext TY A B) (k : Ext TY B C) : Ext TY A C where
  ok b hb := k.ok b (h.ok b hb)
  w b hb := (k.w b (h.ok b hb)).trans (h.w b hb)
  dom o ho := k.dom o (h.dom o ho)
  μ o ho := (k.μ o (h.dom o ho)).trans (h.μ o ho)
theorem Mv.refl {TY : Ty} {S : RS} (h : Good TY S) : Mv TY S S :=
  ⟨Ext.refl TY S, h, Fr.refl _ _, fun b hb => .inl hb, fun b hb => .inl hb, fun q y _ hy => ⟨y, hy⟩⟩
theorem Mv.trans {TY : Ty} {A B C : RS} (h : Mv TY A B) (k : Mv TY B C) : Mv TY A C where
  ext := h.ext.trans k.ext
  good := k.good
  fr := h.fr.trans k.fr (fun _ hx => hx) (fun x hx hb => (h.blk' x hb).resolve_right (by omega))
  ok' b hb := by
    rcases k.ok' b hb with h1 | h1 | h1
    · exact h.ok' b h1
    · rcases h.blk' b h1 with h2 | h2
      · exact .inr (.inl h2)
      · exact .inr (.inr h2)
    · exact .inr (.inr (Nat.le_trans h.fr.size h1))
  blk' b hb := by
    rcases k.blk' b hb with h1 | h1
    · exact h.blk' b h1
    · exact .inr (Nat.le_trans h.fr.size h1)
  old q y hq hy := by
    obtain ⟨x, hx⟩ := k.old q y (h.ext.dom q hq) hy
    exact h.old q x hq hx

theorem OR_ext {TY : Ty} {S S' : RS} (E : Ext TY S S') {l : Loc} {x : Ob} (hl : l.nil = false → S'.w.heap[l.blk]? = S.w.heap[l.blk]?) (h : OR TY S l x) : OR TY S' l x := by
  cases x with
  | box cs =>
    obtain ⟨hn, h1, h2, C, T, hc, hr⟩ := h
    exact ⟨hn, h1, h2, C, T, (hl hn).trans hc, VRs_ext E _ _ hr⟩
  | prow T n g =>
    obtain ⟨h1, h2, h3, h4, h⟩ := h
    refine ⟨h1, h2, h3, h4, ?_⟩
    cases hn : l.nil <;> simp only [hn, if_true, Bool.false_eq_true, if_false] at h ⊢
    · obtain ⟨C, hc, hs, hx⟩ := h
      refine ⟨C, (hl hn).trans hc, hs, fun i hi j ck hj => ?_⟩
      obtain ⟨u, hu, hr⟩ := hx i hi j ck hj
      exact ⟨u, hu, CR_mono E.ok E.w _ _ _ hr⟩
    · exact h
  | arow T n cs =>
    obtain ⟨h1, h2, h3, h4, h5, h⟩ := h
    refine ⟨h1, h2, h3, h4, h5, ?_⟩
    cases hn : l.nil <;> simp only [hn, if_true, Bool.false_eq_true, if_false] at h ⊢
    · obtain ⟨C, hc, hs, hx⟩ := h
      exact ⟨C, (hl hn).trans hc, hs, VRs_ext E _ _ hx⟩
    · exact h
  | iter s p => exact ⟨h.1, h.2.1, h.2.2.1, (hl h.1).trans h.2.2.2⟩

/-- An object's block is a block. -/
theorem OR_lt {TY : Ty} {S : RS} {l : Loc} {x : Ob} (h : OR TY S l x) (hn : l.nil = false) : l.blk < S.w.heap.size := by
  have key : ∀ {b : Nat} {o : Obj}, S.w.heap[b]? = some o → b < S.w.heap.size := fun h => (Array.getElem?_eq_some_iff.1 h).1
  cases x with
  | box cs => obtain ⟨_, _, _, C, T, hc, _⟩ := h; exact key hc
  | prow T n g => obtain ⟨_, _, _, _, h⟩ := h; simp only [hn, Bool.false_eq_true, if_false] at h; obtain ⟨C, hc, _⟩ := h; exact key hc
  | arow T n cs => obtain ⟨_, _, _, _, _, h⟩ := h; simp only [hn, Bool.false_eq_true, if_false] at h; obtain ⟨C, hc, _⟩ := h; exact key hc
  | iter s p => exact key h.2.2.2

/-! ### Memory as a function -/
theorem beq_ite {α : Type} (a b : Nat) (x y : α) : (if Nat.beq a b = true then x else y) = if a = b then x else y := by
  by_cases h : a = b
  · subst h; rw [if_pos rfl, if_pos (Nat.beq_refl a)]
  · rw [if_neg h, if_neg (fun e => h (Nat.eq_of_beq_eq_true e))]
theorem beq_cond {α : Type} (a b : Nat) (x y : α) : (bif Nat.beq a b then x else y) = if a = b then x else y := by
  by_cases h : a = b
  · subst h; rw [if_pos rfl, Nat.beq_refl a]; rfl
  · rw [if_neg h]
    have : Nat.beq a b = false := by
      cases e : Nat.beq a b with
      | false => rfl
      | true => exact absurd (Nat.eq_of_beq_eq_true e) h
    rw [this]; rfl
theorem get_cons (a : Nat) (x : Ob) (r : Mem) (q : Nat) : Mem.get ((a, x) :: r) q = if a = q then some x else Mem.get r q := by
  simp only [Mem.get, beq_cond]
theorem get_add (m : Mem) (o : Nat) (x : Ob) (q : Nat) : (m.add o x).get q = if o = q then some x else m.get q := get_cons o x m q
theorem get_del (m : Mem) (o q : Nat) : (m.del o).get q = if o = q then none else m.get q := by
  induction m with
  | nil => simp [Mem.del, Mem.get]
  | cons p r ih =>
    obtain ⟨a, x⟩ := p
    simp only [Mem.del, beq_cond]
    by_cases h : a = o
    · subst h
      rw [if_pos rfl, ih, get_cons]
      by_cases h2 : a = q
      · rw [if_pos h2, if_pos h2]
      · rw [if_neg h2, if_neg h2, if_neg h2]
    · rw [if_neg h, get_cons, get_cons, ih]
      by_cases h2 : a = q
      · subst h2
        rw [if_pos rfl, if_neg (fun e => h e.symm), if_pos rfl]
      · rw [if_neg h2, if_neg h2]
theorem get_set (m : Mem) (o : Nat) (y : Ob) (q : Nat) (h : (m.get o).isSome = true) : (m.set o y).get q = if o = q then some y else m.get q := by
  induction m with
  | nil => simp [Mem.get] at h
  | cons p r ih =>
    obtain ⟨a, x⟩ := p
    simp only [Mem.set, beq_cond]
    by_cases h1 : a = o
    · subst h1
      rw [if_pos rfl, get_cons, get_cons]
      by_cases h2 : a = q
      · rw [if_pos h2, if_pos h2]
      · rw [if_neg h2, if_neg h2, if_neg h2]
    · rw [if_neg h1, get_cons, get_cons]
      have h3 : (Mem.get r o).isSome = true := by
        rw [get_cons, if_neg h1] at h
        exact h
      rw [ih h3]
      by_cases h2 : a = q
      · subst h2
        rw [if_pos rfl, if_neg (fun e => h1 e.symm), if_pos rfl]
      · rw [if_neg h2, if_neg h2]

/-! ### The three moves -/
theorem blks_ok {TY : Ty} {S : RS} (G : Good TY S) {b : Nat} (h : Blks S b) : ¬ S.ok b := by
  obtain ⟨o, x, hx, hn, rfl⟩ := h
  exact G.sep o x hx hn
/-- Any move, by its parts: what is kept, what is new or written. -/
theorem mv_gen {TY : Ty} {S : RS} (G : Good TY S) (S' : RS) (W N : Nat → Prop) (hf : Fr W S.w S'.w) (hW : ∀ b, W b → Blks S b)
    (hok : ∀ b, S.ok b → S'.ok b) (hok' : ∀ b, S'.ok b → S.ok b ∨ Blks S b ∨ S.w.heap.size ≤ b) (hokb : ∀ b, S'.ok b → b < S'.w.heap.size)
    (hdom : ∀ q, S.dom q → S'.dom q) (hμ : ∀ q, S.dom q → S'.μ q = S.μ q)
    (hold : ∀ q y, ¬ N q → S'.M q = some y → S.M q = some y ∧ S'.μ q = S.μ q ∧ ((S.μ q).nil = false → ¬ W (S.μ q).blk))
    (hnew : ∀ q y, N q → S'.M q = some y → S'.dom q ∧ (Ext TY S S' → OR TY S' (S'.μ q) y) ∧ ((S'.μ q).nil = false → Blks S (S'.μ q).blk ∨ S.w.heap.size ≤ (S'.μ q).blk))
    (hsame : ∀ q y, N q → S.dom q → S'.M q = some y → ∃ x, S.M q = some x)
    (hinj : ∀ q q' y y', S'.M q = some y → S'.M q' = some y' → (S'.μ q).nil = false → (S'.μ q').nil = false → (S'.μ q).blk = (S'.μ q').blk → q = q')
    (hsep : ∀ q y, S'.M q = some y → (S'.μ q).nil = false → ¬ S'.ok (S'.μ q).blk) : Mv TY S S' := by
  classical
  have hE : Ext TY S S' := ⟨hok, fun b hb => hf.block b (G.okb b hb) (fun h => blks_ok G (hW b h) hb), hdom, hμ⟩
  refine ⟨hE, ⟨?_, ?_, hinj, hsep, hokb⟩, hf.mono hW, hok', ?_, ?_⟩
  · intro o y h
    by_cases e : N o
    · exact (hnew o y e h).1
    · exact hdom o (G.dom o y (hold o y e h).1)
  · intro o y h
    by_cases e : N o
    · exact (hnew o y e h).2.1 hE
    · obtain ⟨h1, h2, h3⟩ := hold o y e h
      rw [h2]
      have h0 := G.obj o y h1
      exact OR_ext hE (fun hn => hf.block _ (OR_lt h0 hn) (h3 hn)) h0
  · rintro b ⟨o, y, h, hn, rfl⟩
    by_cases e : N o
    · exact (hnew o y e h).2.2 hn
    · obtain ⟨h1, h2, _⟩ := hold o y e h
      rw [h2] at hn ⊢
      exact .inl ⟨o, y, h1, hn, rfl⟩
  · intro q y hq h
    by_cases e : N q
    · exact hsame q y e hq h
    · exact ⟨y, (hold q y e h).1⟩

/-- A new object in a new block. -/
theorem mv_new {TY : Ty} {S : RS} (G : Good TY S) {m : Mem} (hM : S.M = m.get) {id : Nat} (hid : ¬ S.dom id) (x : Ob) (w' : World) (l : Loc) (hlb : l.nil = false → S.w.heap.size ≤ l.blk ∧ l.blk < w'.heap.size)
    (hf : Fr (fun _ => False) S.w w')
    (hx : ∀ S' : RS, Ext TY S S' → S'.w = w' → S'.ok = S.ok → OR TY S' l x) :
    ∃ S' : RS, S'.w = w' ∧ S'.M = (m.add id x).get ∧ S'.μ id = l ∧ S'.dom id ∧ S'.ok = S.ok ∧ Mv TY S S' ∧ Nw id (id + 1) S S' := by
  let S' : RS := ⟨w', S.ok, (m.add id x).get, fun q => if q = id then l else S.μ q, fun q => S.dom q ∨ q = id⟩
  have hne : ∀ q, S.dom q → q ≠ id := fun q hq e => hid (e ▸ hq)
  have hold : ∀ q y, q ≠ id → S'.M q = some y → S.M q = some y := fun q y hq h => by
    have : (m.add id x).get q = some y := h
    rw [get_add, if_neg (fun e => hq e.symm)] at this
    rw [hM]; exact this
  have hmu : ∀ q, q ≠ id → S'.μ q = S.μ q := fun q hq => by show (if q = id then _ else _) = _; rw [if_neg hq]
  have hmid : S'.μ id = l := by show (if id = id then _ else _) = _; rw [if_pos rfl]
  have hMid : ∀ y, S'.M id = some y → y = x := fun y h => by
    have : (m.add id x).get id = some y := h
    rw [get_add, if_pos rfl] at this
    exact (Option.some.inj this).symm
  refine ⟨S', rfl, rfl, hmid, .inr rfl, rfl, mv_gen G S' (fun _ => False) (fun q => q = id) hf (fun _ h => h.elim) (fun _ h => h) (fun _ h => .inl h)
    (fun b hb => Nat.lt_of_lt_of_le (G.okb b hb) hf.size) (fun _ h => .inl h) (fun q hq => hmu q (hne q hq)) ?_ ?_ ?_ ?_ ?_, ?_⟩
  · intro q y hq h
    exact ⟨hold q y hq h, hmu q hq, fun _ h => h⟩
  · rintro q y rfl h
    rw [hmid, hMid y h]
    exact ⟨.inr rfl, fun hE => hx S' hE rfl rfl, fun hn => .inr (hlb hn).1⟩
  · rintro q y rfl hd h
    exact absurd hd hid
  · intro o o' y y' h h' hn hn' hb
    by_cases e : o = id <;> by_cases e' : o' = id
    · rw [e, e']
    · subst e
      rw [hmid] at hn hb
      rw [hmu o' e'] at hn' hb
      have := OR_lt (G.obj o' y' (hold o' y' e' h')) hn'
      have := (hlb hn).1
      omega
    · subst e'
      rw [hmid] at hn' hb
      rw [hmu o e] at hn hb
      have := OR_lt (G.obj o y (hold o y e h)) hn
      have := (hlb hn').1
      omega
    · rw [hmu o e] at hn hb
      rw [hmu o' e'] at hn' hb
      exact G.inj o o' y y' (hold o y e h) (hold o' y' e' h') hn hn' hb
  · intro o y h hn
    by_cases e : o = id
    · subst e
      rw [hmid] at hn ⊢
      intro hk
      have := G.okb _ hk
      have := (hlb hn).1
      omega
    · rw [hmu o e] at hn ⊢
      exact G.sep o y (hold o y e h) hn
  · rintro q (hq | rfl)
    · exact .inl hq
    · exact .inr ⟨Nat.le_refl _, Nat.lt_succ_self _⟩

/-- An object is written in its place. -/
theorem mv_write {TY : Ty} {S : RS} (G : Good TY S) {m : Mem} (hM : S.M = m.get) {o : Nat} {x x' : Ob} (hx : S.M o = some x) (hn : (S.μ o).nil = false) (w' : World)
    (hf : Fr (fun b => b = (S.μ o).blk) S.w w')
    (hx' : ∀ S' : RS, Ext TY S S' → S'.w = w' → S'.ok = S.ok → OR TY S' (S.μ o) x') :
    ∃ S' : RS, S'.w = w' ∧ S'.M = (m.set o x').get ∧ S'.ok = S.ok ∧ S'.μ = S.μ ∧ S'.dom = S.dom ∧ Mv TY S S' := by
  have hso : (m.get o).isSome = true := by rw [← hM, hx]; rfl
  let S' : RS := ⟨w', S.ok, (m.set o x').get, S.μ, S.dom⟩
  have hM' : ∀ q, S'.M q = if o = q then some x' else S.M q := fun q => by rw [hM]; exact get_set m o x' q hso
  have hback : ∀ q y, S'.M q = some y → ∃ y', S.M q = some y' := fun q y h => by
    rw [hM'] at h
    by_cases e : o = q
    · subst e; exact ⟨x, hx⟩
    · rw [if_neg e] at h; exact ⟨y, h⟩
  refine ⟨S', rfl, rfl, rfl, rfl, rfl, mv_gen G S' (fun b => b = (S.μ o).blk) (fun q => q = o) hf (fun b hb => ⟨o, x, hx, hn, hb.symm⟩) (fun _ h => h) (fun _ h => .inl h)
    (fun b hb => Nat.lt_of_lt_of_le (G.okb b hb) hf.size) (fun _ h => h) (fun _ _ => rfl) ?_ ?_ ?_ ?_ ?_⟩
  · intro q y hq h
    rw [hM', if_neg (fun e => hq e.symm)] at h
    exact ⟨h, rfl, fun hnq e => hq (G.inj q o y x h hx hnq hn e)⟩
  · rintro q y rfl h
    rw [hM', if_pos rfl] at h
    obtain rfl := Option.some.inj h
    exact ⟨G.dom _ _ hx, fun hE => hx' S' hE rfl rfl, fun _ => .inl ⟨_, x, hx, hn, rfl⟩⟩
  · rintro q y rfl hd h
    rw [hM', if_pos rfl] at h
    obtain rfl := Option.some.inj h
    exact ⟨x, hx⟩
  · intro q q' y y' h h' h1 h2 h3
    obtain ⟨z, hz⟩ := hback q y h
    obtain ⟨z', hz'⟩ := hback q' y' h'
    exact G.inj q q' z z' hz hz' h1 h2 h3
  · intro q y h h1
    obtain ⟨z, hz⟩ := hback q y h
    exact G.sep q z hz h1

/-- A row is no longer the frame's own: what lay in it may be led to from what doesn't change. -/
theorem mv_end {TY : Ty} {S : RS} (G : Good TY S) {m : Mem} (hM : S.M = m.get) {o : Nat} {x : Ob} (hx : S.M o = some x) :
    ∃ S' : RS, S'.w = S.w ∧ S'.M = (m.del o).get ∧ ((S.μ o).nil = false → S'.ok (S.μ o).blk) ∧ S'.μ = S.μ ∧ S'.dom = S.dom ∧ Mv TY S S' := by
  let S' : RS := ⟨S.w, fun b => S.ok b ∨ ((S.μ o).nil = false ∧ b = (S.μ o).blk), (m.del o).get, S.μ, S.dom⟩
  have hM' : ∀ q, S'.M q = if o = q then none else S.M q := fun q => by rw [hM]; exact get_del m o q
  have hback : ∀ q y, S'.M q = some y → q ≠ o ∧ S.M q = some y := fun q y h => by
    rw [hM'] at h
    by_cases e : o = q
    · rw [if_pos e] at h; cases h
    · rw [if_neg e] at h; exact ⟨fun h => e h.symm, h⟩
  refine ⟨S', rfl, rfl, fun h => .inr ⟨h, rfl⟩, rfl, rfl, mv_gen G S' (fun _ => False) (fun _ => False) (Fr.refl _ _) (fun _ h => h.elim) (fun _ h => .inl h) ?_ ?_ (fun _ h => h) (fun _ _ => rfl) ?_ (fun _ _ h => h.elim) (fun _ _ h => h.elim) ?_ ?_⟩
  · rintro b (hb | ⟨h1, rfl⟩)
    · exact .inl hb
    · exact .inr (.inl ⟨o, x, hx, h1, rfl⟩)
  · rintro b (hb | ⟨h1, rfl⟩)
    · exact G.okb b hb
    · exact OR_lt (S := S) (G.obj o x hx) h1
  · intro q y _ h
    exact ⟨(hback q y h).2, rfl, fun _ h => h⟩
  · intro q q' y y' h h' h1 h2 h3
    exact G.inj q q' y y' (hback q y h).2 (hback q' y' h').2 h1 h2 h3
  · rintro q y h h1 (hb | ⟨h2, h3⟩)
    · exact G.sep q y (hback q y h).2 h1 hb
    · exact (hback q y h).1 (G.inj q o y x (hback q y h).2 hx h1 h2 h3)

/-- A row ends and a longer one begins, in its place or in a new one. -/
theorem mv_grow {TY : Ty} {S : RS} (G : Good TY S) {m : Mem} (hM : S.M = m.get) {o id : Nat} {x : Ob} (hx : S.M o = some x) (hid : ¬ S.dom id) (x' : Ob) (w' : World) (l : Loc)
    (hf : Fr (fun b => (S.μ o).nil = false ∧ b = (S.μ o).blk) S.w w')
    (hl : l.nil = false → ((S.μ o).nil = false ∧ l.blk = (S.μ o).blk) ∨ S.w.heap.size ≤ l.blk)
    (hx' : ∀ S' : RS, Ext TY S S' → S'.w = w' → S'.ok = S.ok → OR TY S' l x') :
    ∃ S' : RS, S'.w = w' ∧ S'.M = ((m.del o).add id x').get ∧ S'.μ id = l ∧ S'.dom id ∧ S'.ok = S.ok ∧ Mv TY S S' ∧ Nw id (id + 1) S S' := by
  have hoid : o ≠ id := fun e => hid (e ▸ G.dom o x hx)
  let S' : RS := ⟨w', S.ok, ((m.del o).add id x').get, fun q => if q = id then l else S.μ q, fun q => S.dom q ∨ q = id⟩
  have hM' : ∀ q, S'.M q = if id = q then some x' else if o = q then none else S.M q := fun q => by
    show ((m.del o).add id x').get q = _
    rw [get_add, get_del, hM]
  have hmid : S'.μ id = l := by show (if id = id then _ else _) = _; rw [if_pos rfl]
  have hmu : ∀ q, q ≠ id → S'.μ q = S.μ q := fun q hq => by show (if q = id then _ else _) = _; rw [if_neg hq]
  have hback : ∀ q y, q ≠ id → S'.M q = some y → q ≠ o ∧ S.M q = some y := fun q y hq h => by
    rw [hM', if_neg (fun e => hq e.symm)] at h
    by_cases e : o = q
    · rw [if_pos e] at h; cases h
    · rw [if_neg e] at h; exact ⟨fun h => e h.symm, h⟩
  have hMid : ∀ y, S'.M id = some y → y = x' := fun y h => by
    rw [hM', if_pos rfl] at h
    exact (Option.some.inj h).symm
  have apart : ∀ q y, q ≠ id → S'.M q = some y → (S.μ q).nil = false → l.nil = false → l.blk ≠ (S.μ q).blk := fun q y hq h h1 h2 e => by
    obtain ⟨h3, h4⟩ := hback q y hq h
    rcases hl h2 with ⟨h5, h6⟩ | h5
    · exact h3 (G.inj q o y x h4 hx h1 h5 (by rw [← e, h6]))
    · have := OR_lt (G.obj q y h4) h1
      omega
  refine ⟨S', rfl, rfl, hmid, .inr rfl, rfl, mv_gen G S' (fun b => (S.μ o).nil = false ∧ b = (S.μ o).blk) (fun q => q = id) hf (fun b hb => ⟨o, x, hx, hb.1, hb.2.symm⟩) (fun _ h => h) (fun _ h => .inl h)
    (fun b hb => Nat.lt_of_lt_of_le (G.okb b hb) hf.size) (fun _ h => .inl h) (fun q hq => hmu q (fun e => hid (e ▸ hq))) ?_ ?_ ?_ ?_ ?_, ?_⟩
  rotate_right
  · rintro q (hq | rfl)
    · exact .inl hq
    · exact .inr ⟨Nat.le_refl _, Nat.lt_succ_self _⟩
  · intro q y hq h
    obtain ⟨h1, h2⟩ := hback q y hq h
    exact ⟨h2, hmu q hq, fun hn hb => h1 (G.inj q o y x h2 hx hn hb.1 hb.2)⟩
  · rintro q y rfl h
    rw [hmid, hMid y h]
    refine ⟨.inr rfl, fun hE => hx' S' hE rfl rfl, fun hn => ?_⟩
    rcases hl hn with ⟨h5, h6⟩ | h5
    · exact .inl ⟨o, x, hx, h5, h6.symm⟩
    · exact .inr h5
  · rintro q y rfl hd h
    exact absurd hd hid
  · intro q q' y y' h h' h1 h2 h3
    by_cases e : q = id <;> by_cases e' : q' = id
    · rw [e, e']
    · subst e
      rw [hmid] at h1 h3
      rw [hmu q' e'] at h2 h3
      exact absurd h3 (apart q' y' e' h' h2 h1)
    · subst e'
      rw [hmid] at h2 h3
      rw [hmu q e] at h1 h3
      exact absurd h3.symm (apart q y e h h1 h2)
    · rw [hmu q e] at h1 h3
      rw [hmu q' e'] at h2 h3
      exact G.inj q q' y y' (hback q y e h).2 (hback q' y' e' h').2 h1 h2 h3
  · intro q y h h1
    by_cases e : q = id
    · subst e
      rw [hmid] at h1 ⊢
      intro hk
      rcases hl h1 with ⟨h5, h6⟩ | h5
      · rw [h6] at hk; exact G.sep o x hx h5 hk
      · have := G.okb _ hk; omega
    · rw [hmu q e] at h1 ⊢
      exact G.sep q y (hback q y e h).2 h1

end Go.Proofs.YtkenjojkpdeooaaGreatDoor.AI
end
section
set_option linter.unusedVariables false
set_option linter.unusedSimpArgs false
set_option linter.constructorNameAsVariable false
namespace Go.Proofs.YtkenjojkpdeooaaGreatDoor.AI

theorem tyd_some {α : Type} {TY : Ty} {T : TypeId} {k : TyD → Option α} {r : α} (h : tyd TY T k = some r) : (TY T).k.oth? = false ∧ k (TY T) = some r := by
  unfold tyd at h
  cases hk : (TY T).k.oth? <;> simp only [hk] at h
  · exact ⟨rfl, h⟩
  · cases h
theorem add_lit (b o j : Nat) : (⟨b, o, none⟩ : Addr).add j = ⟨b, o + j, none⟩ := by unfold Addr.add; split <;> simp_all
theorem ite_some {α : Type} {c : Prop} [Decidable c] {x : Option α} {r : α} (h : (if c then x else none) = some r) : c ∧ x = some r := by
  by_cases e : c
  · exact ⟨e, by rwa [if_pos e] at h⟩
  · rw [if_neg e] at h; cases h
theorem ble_le {a b : Nat} (h : Nat.ble a b = true) : a ≤ b := Nat.le_of_ble_eq_true h

section
variable {P : Program} {TY : Ty} {S : RS}

theorem TyIs.single {t : TypeId} {i : TypeInfo} {z : Value} (h : TyIs P TY t i z) (ha : isAggK (TY t).k = false) : (TY t).cks.length = 1 := by
  have := h.kind
  cases hk : (TY t).k <;> simp only [kindIs, hk] at this <;> split at this <;> first
    | (cases this; done)
    | (simp only [Bool.and_eq_true, decide_eq_true_eq] at this; rw [this.2]; rfl)
    | (rw [of_decide_eq_true this]; rfl)
    | (rw [hk] at ha; cases ha)

theorem run_loadVar_cells {t : TypeId} {i : TypeInfo} {z : Value} (h : TyIs P TY t i z) (w : World) (b o : Nat) (us : List Value) (hl : us.length = (TY t).cks.length)
    (hc : ∀ j u, us[j]? = some u → w.cell? ⟨b, o + j, none⟩ = some u) :
    ∃ v, (Instr.loadAt t (.pointer (some ⟨b, o, none⟩))).run P w = .ok v w ∧ (isAggK (TY t).k = true → v = .agg us.toArray) ∧ (isAggK (TY t).k = false → us = [v]) := by
  cases ha : isAggK (TY t).k with
  | true =>
    refine ⟨.agg us.toArray, ?_, fun _ => rfl, (fun h => by cases h)⟩
    have h1 := run_loadCells_list (P := P) (w := w) ⟨b, o, none⟩ us (fun j u hj => by rw [add_lit]; exact hc j u hj)
    simp only [Instr.loadAt, Instr.sureAddr, loadVar, Sem.run_bind, Sem.run_pure, Result.andThen_ok, h.run_agg, ha, if_true, h.run_size]
    rw [← hl, h1]
    rfl
  | false =>
    have h1 := h.single ha
    rw [h1] at hl
    obtain ⟨u, rfl⟩ : ∃ u, us = [u] := by
      match us, hl with
      | [u], _ => exact ⟨u, rfl⟩
    refine ⟨u, ?_, (fun h => by cases h), fun _ => rfl⟩
    have h2 := hc 0 u rfl
    simp only [Instr.loadAt, Instr.sureAddr, loadVar, Sem.run_bind, Sem.run_pure, Result.andThen_ok, h.run_agg, ha]
    rw [Nat.add_zero] at h2
    simp [h2]

theorem pack_VR {t : TyD} {cs : List AV} {us : List Value} {v : Value} (h : VRs TY S cs us) (h1 : isAggK t.k = true → v = .agg us.toArray) (h2 : isAggK t.k = false → us = [v]) : VR TY S (pack t cs) v := by
  unfold pack
  cases ha : isAggK t.k with
  | true =>
    rw [h1 ha]
    exact ⟨us.toArray, rfl, by simpa using h⟩
  | false =>
    rw [h2 ha] at h
    match cs, h with
    | [c], h => exact h.1
    | _ :: _ :: _, h => exact h.2.elim

/-- A cell that doesn't change, as a frame's value. -/
theorem ofPV_VR {p : PV} {ck : CK} {v : Value} (h : CR TY S.w S.ok p ck v) : VR TY S (ofPV ck p) v := by
  cases ck <;> cases p <;> first | exact h | exact h.elim | skip
  all_goals
    obtain ⟨A, c, rfl⟩ := h
    exact ⟨A, c, rfl, Nat.zero_le _, fun h => absurd h (Nat.lt_irrefl _)⟩

theorem pcells_VRs {cell : Nat → PV} {us : List Value} : ∀ {cks : List CK} {off : Nat} (us : List Value), us.length = cks.length →
    (∀ j ck u, cks[j]? = some ck → us[j]? = some u → CR TY S.w S.ok (cell (off + j)) ck u) → VRs TY S (pcells cks cell off) us
  | [], off, [], _, _ => trivial
  | [], _, _ :: _, h, _ => by simp at h
  | _ :: _, _, [], h, _ => by simp at h
  | c :: cks, off, u :: us, hl, h => ⟨ofPV_VR (h 0 c u rfl rfl), pcells_VRs (us := us) us (by simpa using hl) (fun j ck u' h1 h2 => by
      have := h (j + 1) ck u' (by simpa using h1) (by simpa using h2)
      rwa [show off + (j + 1) = off + 1 + j by omega] at this)⟩

theorem sub_get {l cks : List CK} {off : Nat} (h : sub l off cks.length = cks) (j : Nat) (ck : CK) (hj : cks[j]? = some ck) : l[off + j]? = some ck := by
  have hlt : j < cks.length := (List.getElem?_eq_some_iff.1 hj).1
  rw [← h] at hj
  unfold sub at hj
  rw [List.getElem?_take] at hj
  rw [if_pos hlt, List.getElem?_drop] at hj
  exact hj

/-- cells of an element that doesn't change, or of a row: what stands there -/
theorem elem_cells {w : World} {ok : Nat → Prop} {cell : Nat → PV} {E : TypeId} {b o off : Nat} {cks : List CK} (hs : sub (TY E).cks off cks.length = cks)
    (h : ∀ j ck, (TY E).cks[j]? = some ck → ∃ u, w.cell? ⟨b, o + j, none⟩ = some u ∧ CR TY w ok (cell j) ck u) :
    ∃ us : List Value, us.length = cks.length ∧ (∀ j u, us[j]? = some u → w.cell? ⟨b, o + off + j, none⟩ = some u) ∧ (∀ j ck u, cks[j]? = some ck → us[j]? = some u → CR TY w ok (cell (off + j)) ck u) := by
  refine ⟨(List.range cks.length).map fun j => (w.cell? ⟨b, o + off + j, none⟩).getD undef, by simp, ?_, ?_⟩
  · intro j u hj
    have hlt : j < cks.length := by simpa using (List.getElem?_eq_some_iff.1 hj).1
    obtain ⟨u', hu, hr⟩ := h (off + j) cks[j] (sub_get hs j _ (List.getElem?_eq_getElem hlt))
    rw [show o + (off + j) = o + off + j by omega] at hu
    simp [hlt, hu] at hj
    rw [hu, hj]
  · intro j ck u hck hj
    have hlt : j < cks.length := (List.getElem?_eq_some_iff.1 hck).1
    obtain ⟨u', hu, hr⟩ := h (off + j) ck (sub_get hs j _ hck)
    rw [show o + (off + j) = o + off + j by omega] at hu
    simp [hlt, hu] at hj
    rw [← hj]
    exact hr

theorem cell_of_heap {w : World} {b : Nat} {C : Array Value} {T : TypeId} {fr : Nat × Nat} (h : w.heap[b]? = some (.cells C T fr)) (j : Nat) : w.cell? ⟨b, j, none⟩ = C[j]? := by
  simp [World.cell?, h]

theorem load_sound (T0 : TyOK P TY) (G : Good TY S) {m : Mem} (hM : S.M = m.get) {α : Type} {T : TypeId} {a : AV} {va : Value} (hv : VR TY S a va) {k : AV → Option α} {r : α} (h0 : loadK TY T m a k = some r) :
    ∃ x v, k x = some r ∧ (Instr.loadAt T va).run P S.w = .ok v S.w ∧ VR TY S x v := by
  obtain ⟨ht, h⟩ := tyd_some h0
  clear h0
  obtain ⟨i, z, I⟩ := T0.is ht
  cases a <;> simp only [reduceCtorEq] at h
  case adr o i' off =>
    obtain ⟨hd, hi, rfl⟩ := hv
    cases hg : m.get o with
    | none => simp [hg] at h
    | some x =>
      have hSx : S.M o = some x := by rw [hM]; exact hg
      have hO := G.obj o x hSx
      cases x with
      | box cs =>
        simp only [hg] at h
        obtain ⟨hc, h⟩ := ite_some h
        have hc := ble_le hc
        obtain ⟨hn, _, he0, C, Tc, hC, hr⟩ := hO
        have hcl := VRs_length hr
        obtain ⟨v, h1, h2, h3⟩ := run_loadVar_cells I S.w (S.μ o).blk off ((C.toList.drop off).take (TY T).cks.length) (by simp at hcl ⊢; omega) (fun j u hj => by
          rw [cell_of_heap hC]
          rw [List.getElem?_take] at hj
          split at hj
          · rw [List.getElem?_drop] at hj; simpa using hj
          · cases hj)
        refine ⟨_, v, h, by rw [he0, Nat.mul_zero, Nat.zero_add]; exact h1, pack_VR (VRs_take _ (VRs_drop _ hr)) h2 h3⟩
      | prow E n g =>
        simp only [hg] at h
        obtain ⟨hs, h⟩ := ite_some h
        obtain ⟨hl, he, h0, _, hO⟩ := hO
        have hn : (S.μ o).nil = false := by
          cases hn : (S.μ o).nil with
          | false => rfl
          | true => simp only [hn, if_true] at hO; omega
        simp only [hn, Bool.false_eq_true, if_false] at hO
        obtain ⟨C, hC, hCs, hcell⟩ := hO
        rw [hl] at hi
        rw [he]
        obtain ⟨us, hl, h1, h2⟩ := elem_cells (TY := TY) (w := S.w) (ok := S.ok) (cell := g i') (b := (S.μ o).blk) (o := i' * (TY E).cks.length) hs (fun j ck hj => by
          obtain ⟨u, hu, hr⟩ := hcell i' hi j ck hj
          exact ⟨u, by rw [cell_of_heap hC]; exact hu, hr⟩)
        obtain ⟨v, h3, h4, h5⟩ := run_loadVar_cells I S.w (S.μ o).blk (i' * (TY E).cks.length + off) us hl h1
        exact ⟨_, v, h, h3, pack_VR (pcells_VRs (us := us) us hl h2) h4 h5⟩
      | arow E n cs =>
        simp only [hg] at h
        obtain ⟨hc, h⟩ := ite_some h
        have hc := ble_le hc
        obtain ⟨hl, he, h0, _, hcs, hO⟩ := hO
        have hn : (S.μ o).nil = false := by
          cases hn : (S.μ o).nil with
          | false => rfl
          | true => simp only [hn, if_true] at hO; omega
        simp only [hn, Bool.false_eq_true, if_false] at hO
        obtain ⟨C, hC, hCs, hr⟩ := hO
        rw [hl] at hi
        rw [he]
        have hcl := VRs_length hr
        obtain ⟨v, h1, h2, h3⟩ := run_loadVar_cells I S.w (S.μ o).blk (i' * (TY E).cks.length + off) (((C.toList.take (n * (TY E).cks.length)).drop (i' * (TY E).cks.length + off)).take (TY T).cks.length) (by simp at hcl ⊢; omega) (fun j u hj => by
          rw [cell_of_heap hC]
          rw [List.getElem?_take] at hj
          split at hj
          · rw [List.getElem?_drop, List.getElem?_take] at hj
            split at hj
            · simpa using hj
            · cases hj
          · cases hj)
        exact ⟨_, v, h, h1, pack_VR (VRs_take _ (VRs_drop _ hr)) h2 h3⟩
      | iter s p => simp [hg] at h
  case padr E off cell =>
    obtain ⟨hs, h⟩ := ite_some h
    obtain ⟨b, a, rfl, hb, hx⟩ := hv
    obtain ⟨us, hl, h1, h2⟩ := elem_cells (TY := TY) (w := S.w) (ok := S.ok) (cell := cell) (b := b) (o := a) hs hx
    obtain ⟨v, h3, h4, h5⟩ := run_loadVar_cells I S.w b (a + off) us hl h1
    exact ⟨_, v, h, h3, pack_VR (pcells_VRs (us := us) us hl h2) h4 h5⟩
end
end Go.Proofs.YtkenjojkpdeooaaGreatDoor.AI
end
section
set_option linter.unusedVariables false
set_option linter.unusedSimpArgs false
set_option linter.constructorNameAsVariable false
namespace Go.Proofs.YtkenjojkpdeooaaGreatDoor.AI

/-- S' is S, some rows having ended. -/
structure Froze (TY : Ty) (S S' : RS) (m m' : Mem) : Prop where
  w : S'.w = S.w
  M : S'.M = m'.get
  μ : S'.μ = S.μ
  dom : S'.dom = S.dom
  mv : Mv TY S S'
  old : ∀ q y, m'.get q = some y → m.get q = some y
theorem Froze.refl {TY : Ty} {S : RS} {m : Mem} (G : Good TY S) (hM : S.M = m.get) : Froze TY S S m m := ⟨rfl, hM, rfl, rfl, Mv.refl G, fun _ _ h => h⟩
theorem Froze.trans {TY : Ty} {A B C : RS} {m m' m'' : Mem} (h : Froze TY A B m m') (k : Froze TY B C m' m'') : Froze TY A C m m'' :=
  ⟨k.w.trans h.w, k.M, k.μ.trans h.μ, k.dom.trans h.dom, h.mv.trans k.mv, fun q y hq => h.old q y (k.old q y hq)⟩

def FrzOK (TY : Ty) (go : CK → Mem → AV → Option (PV × Mem)) : Prop :=
  ∀ (S : RS) (m m' : Mem) (c : CK) (x : AV) (u : Value) (p : PV), Good TY S → S.M = m.get → VR TY S x u → go c m x = some (p, m') →
    ∃ S', Froze TY S S' m m' ∧ CR TY S'.w S'.ok p c u

theorem frzList_sound {TY : Ty} {go : CK → Mem → AV → Option (PV × Mem)} (hgo : FrzOK TY go) (ck : Nat → CK) :
    ∀ (xs : List AV) (us : List Value) (i : Nat) (S : RS) (m m' : Mem) (ps : List PV), Good TY S → S.M = m.get → VRs TY S xs us → frzList go ck xs i m = some (ps, m') →
    ∃ S', Froze TY S S' m m' ∧ ps.length = us.length ∧ ∀ j p u, ps[j]? = some p → us[j]? = some u → CR TY S'.w S'.ok p (ck (i + j)) u
  | [], [], i, S, m, m', ps, G, hM, _, h => by
    simp only [frzList, Option.some.injEq, Prod.mk.injEq] at h
    obtain ⟨rfl, rfl⟩ := h
    exact ⟨S, .refl G hM, rfl, fun j p u h => by simp at h⟩
  | [], _ :: _, _, _, _, _, _, _, _, h, _ => h.elim
  | _ :: _, [], _, _, _, _, _, _, _, h, _ => h.elim
  | x :: xs, u :: us, i, S, m, m', ps, G, hM, ⟨h1, h2⟩, h => by
    simp only [frzList] at h
    split at h
    · rename_i p m1 hp
      split at h
      · rename_i ps' m2 hps
        simp only [Option.some.injEq, Prod.mk.injEq] at h
        obtain ⟨rfl, rfl⟩ := h
        obtain ⟨S1, F1, c1⟩ := hgo S m m1 _ x u p G hM h1 hp
        have M1 := F1.mv
        obtain ⟨S2, F2, hl, c2⟩ := frzList_sound hgo ck xs us (i + 1) S1 m1 m2 ps' M1.good F1.M (VRs_ext M1.ext _ _ h2) hps
        have M2 := F2.mv
        refine ⟨S2, F1.trans F2, by simp [hl], fun j p' u' hj hu => ?_⟩
        cases j with
        | zero =>
          simp at hj hu
          subst hj; subst hu
          exact CR_mono M2.ext.ok M2.ext.w _ _ _ c1
        | succ j =>
          have := c2 j p' u' (by simpa using hj) (by simpa using hu)
          rwa [show i + 1 + j = i + (j + 1) by omega] at this
      · cases h
    · cases h

theorem frz_sound {TY : Ty} : ∀ d, FrzOK TY (frz TY d)
  | 0 => fun S m m' c x u p _ _ _ h => by simp [frz] at h
  | d + 1 => fun S m m' c x u p G hM hv h => by
    have ih := frz_sound (TY := TY) d
    cases x <;> simp only [frz, reduceCtorEq] at h
    case int k x =>
      cases c <;> simp only [reduceCtorEq] at h
      replace h := ite_some h; obtain ⟨rfl, h⟩ := h
      simp only [Option.some.injEq, Prod.mk.injEq] at h
      obtain ⟨rfl, rfl⟩ := h
      exact ⟨S, .refl G hM, hv⟩
    case bool b =>
      cases c <;> simp only [reduceCtorEq, Option.some.injEq, Prod.mk.injEq] at h
      obtain ⟨rfl, rfl⟩ := h
      exact ⟨S, .refl G hM, hv⟩
    case str s =>
      cases c <;> simp only [reduceCtorEq, Option.some.injEq, Prod.mk.injEq] at h
      obtain ⟨rfl, rfl⟩ := h
      exact ⟨S, .refl G hM, hv⟩
    case nils =>
      cases c <;> simp only [reduceCtorEq, Option.some.injEq, Prod.mk.injEq] at h
      obtain ⟨rfl, rfl⟩ := h
      exact ⟨S, .refl G hM, ⟨none, 0, hv, Nat.le_refl _, fun h => absurd h (Nat.lt_irrefl _)⟩⟩
    case psl E n g =>
      cases c <;> simp only [reduceCtorEq] at h
      replace h := ite_some h; obtain ⟨he, h⟩ := h
      obtain rfl := nat_beq he
      simp only [Option.some.injEq, Prod.mk.injEq] at h
      obtain ⟨rfl, rfl⟩ := h
      exact ⟨S, .refl G hM, hv⟩
    case row o =>
      cases c <;> simp only [reduceCtorEq] at h
      rename_i E'
      obtain ⟨hd, hu⟩ := hv
      split at h
      · rename_i E n g hg
        replace h := ite_some h; obtain ⟨he, h⟩ := h
        obtain rfl := nat_beq he
        simp only [Option.some.injEq, Prod.mk.injEq] at h
        obtain ⟨rfl, rfl⟩ := h
        have hSx : S.M o = some (.prow E n g) := by rw [hM]; exact hg
        obtain ⟨hl, he, h0, _, hO⟩ := G.obj o _ hSx
        obtain ⟨S', e1, e2, e3, e4, e5, M0⟩ := mv_end G hM hSx
        refine ⟨S', ⟨e1, e2, e4, e5, M0, fun q y hq => ?_⟩, ?_⟩
        · rw [get_del] at hq
          split at hq
          · cases hq
          · exact hq
        · cases hn : (S.μ o).nil with
          | true =>
            simp only [hn, if_true] at hO
            subst hO
            refine ⟨none, 0, ?_, Nat.le_refl _, fun h => absurd h (Nat.lt_irrefl _)⟩
            rw [hu]; simp [Loc.slice, hn]
          | false =>
            simp only [hn, Bool.false_eq_true, if_false] at hO
            obtain ⟨C, hC, hCs, hcell⟩ := hO
            refine ⟨some ⟨(S.μ o).blk, 0, none⟩, (S.μ o).cap, by rw [hu]; simp [Loc.slice, hn, hl], h0, fun _ => ⟨_, 0, rfl, e3 hn, fun i hi j ck hj => ?_⟩⟩
            obtain ⟨u', hu', hr⟩ := hcell i hi j ck hj
            refine ⟨u', ?_, CR_mono M0.ext.ok M0.ext.w _ _ _ hr⟩
            rw [e1, Nat.zero_add, cell_of_heap hC]
            exact hu'
      · rename_i E n cs hg
        replace h := ite_some h; obtain ⟨he, h⟩ := h
        obtain rfl := nat_beq he
        split at h
        · rename_i ps m2 hps
          simp only [Option.some.injEq, Prod.mk.injEq] at h
          obtain ⟨rfl, rfl⟩ := h
          have hSx : S.M o = some (.arow E n cs) := by rw [hM]; exact hg
          obtain ⟨hl0, he, h0, _, hcs, hO⟩ := G.obj o _ hSx
          obtain ⟨S', e1, e2, e3, e4, e5, M0⟩ := mv_end G hM hSx
          have F1 : Froze TY S S' m (m.del o) := ⟨e1, e2, e4, e5, M0, fun q y hq => by
            rw [get_del] at hq
            split at hq
            · cases hq
            · exact hq⟩
          cases hn : (S.μ o).nil with
          | true =>
            simp only [hn, if_true] at hO
            subst hO
            obtain rfl : cs = [] := List.eq_nil_of_length_eq_zero (by simpa using hcs)
            obtain ⟨S2, F2, _, _⟩ := frzList_sound ih _ [] [] 0 S' _ _ _ M0.good e2 trivial hps
            refine ⟨S2, F1.trans F2, none, 0, ?_, Nat.le_refl _, fun h => absurd h (Nat.lt_irrefl _)⟩
            rw [hu]; simp [Loc.slice, hn]
          | false =>
            simp only [hn, Bool.false_eq_true, if_false] at hO
            obtain ⟨C, hC, hCs, hr⟩ := hO
            obtain ⟨S2, F2, hl, hcell⟩ := frzList_sound ih _ cs _ 0 S' _ _ _ M0.good e2 (VRs_ext M0.ext _ _ hr) hps
            have M2 := F2.mv
            refine ⟨S2, F1.trans F2, some ⟨(S.μ o).blk, 0, none⟩, (S.μ o).cap, by rw [hu]; simp [Loc.slice, hn, hl0], h0, fun _ => ⟨_, 0, rfl, M2.ext.ok _ (e3 hn), fun i hi j ck hj => ?_⟩⟩
            have hjl : j < (TY E).cks.length := (List.getElem?_eq_some_iff.1 hj).1
            have hq : i * (TY E).cks.length + j < n * (TY E).cks.length := by
              have : (i + 1) * (TY E).cks.length ≤ n * (TY E).cks.length := Nat.mul_le_mul_right _ hi
              rw [Nat.add_mul, Nat.one_mul] at this
              omega
            have hCq : i * (TY E).cks.length + j < C.size := by
              rw [hCs]
              exact Nat.lt_of_lt_of_le hq (Nat.mul_le_mul_right _ h0)
            have hul : (C.toList.take (n * (TY E).cks.length)).length = n * (TY E).cks.length := by
              rw [← VRs_length hr, hcs]
            have hpl : i * (TY E).cks.length + j < ps.length := by rw [hl, hul]; exact hq
            have hmod : (0 + (i * (TY E).cks.length + j)) % (TY E).cks.length = j := by
              rw [Nat.zero_add, Nat.add_comm, Nat.add_mul_mod_self_right, Nat.mod_eq_of_lt hjl]
            have := hcell (i * (TY E).cks.length + j) ps[i * (TY E).cks.length + j] C[i * (TY E).cks.length + j] (List.getElem?_eq_getElem hpl) (by
              rw [List.getElem?_take, if_pos hq]
              simp [hCq])
            rw [hmod] at this
            refine ⟨C[i * (TY E).cks.length + j], ?_, ?_⟩
            · rw [F2.w, e1, Nat.zero_add, cell_of_heap hC]
              simp [hCq]
            · simp only [List.getD_eq_getElem?_getD, List.getElem?_eq_getElem hpl, hj, Option.getD_some] at this ⊢
              exact this
        · cases h
      · cases h

theorem frzs_sound {TY : Ty} : ∀ (cks : List CK) (xs : List AV) (us : List Value) (S : RS) (m m' : Mem) (ps : List PV), Good TY S → S.M = m.get → VRs TY S xs us → frzs TY cks m xs = some (ps, m') →
    ∃ S', Froze TY S S' m m' ∧ ps.length = us.length ∧ cks.length = us.length ∧ ∀ (j : Nat) (p : PV) (ck : CK) (u : Value), ps[j]? = some p → cks[j]? = some ck → us[j]? = some u → CR TY S'.w S'.ok p ck u
  | [], [], [], S, m, m', ps, G, hM, _, h => by
    simp only [frzs, Option.some.injEq, Prod.mk.injEq] at h
    obtain ⟨rfl, rfl⟩ := h
    exact ⟨S, .refl G hM, rfl, rfl, fun j p ck u h => by simp at h⟩
  | _, [], _ :: _, _, _, _, _, _, _, h, _ => h.elim
  | _, _ :: _, [], _, _, _, _, _, _, h, _ => h.elim
  | [], _ :: _, _, _, _, _, _, _, _, _, h => by simp [frzs] at h
  | _ :: _, [], [], _, _, _, _, _, _, _, h => by simp [frzs] at h
  | c :: cks, x :: xs, u :: us, S, m, m', ps, G, hM, ⟨h1, h2⟩, h => by
    simp only [frzs] at h
    split at h
    · rename_i p m1 hp
      split at h
      · rename_i ps' m2 hps
        simp only [Option.some.injEq, Prod.mk.injEq] at h
        obtain ⟨rfl, rfl⟩ := h
        obtain ⟨S1, F1, c1⟩ := frz_sound depth S m m1 _ x u p G hM h1 hp
        have M1 := F1.mv
        obtain ⟨S2, F2, hl, hl2, c2⟩ := frzs_sound cks xs us S1 m1 m2 ps' M1.good F1.M (VRs_ext M1.ext _ _ h2) hps
        have M2 := F2.mv
        refine ⟨S2, F1.trans F2, by simp [hl], by simp [hl2], fun j p' ck u' hj hck hu => ?_⟩
        cases j with
        | zero =>
          simp at hj hu hck
          subst hj; subst hu; subst hck
          exact CR_mono M2.ext.ok M2.ext.w _ _ _ c1
        | succ j => exact c2 j p' ck u' (by simpa using hj) (by simpa using hck) (by simpa using hu)
      · cases h
    · cases h
end Go.Proofs.YtkenjojkpdeooaaGreatDoor.AI
end
section
set_option linter.unusedVariables false
set_option linter.unusedSimpArgs false
set_option linter.constructorNameAsVariable false
namespace Go.Proofs.YtkenjojkpdeooaaGreatDoor.AI
section
variable {P : Program} {TY : Ty} {S : RS}

theorem cellOk_one {x : AV} {u : Value} (h : x.cellOk = true) (hv : VR TY S x u) : u.oneCell' = true := by
  cases x <;> simp only [AV.cellOk, Bool.false_eq_true] at h
  case int => rw [show u = _ from hv]; rfl
  case bool => rw [show u = _ from hv]; rfl
  case str => rw [show u = _ from hv]; rfl
  case nils => rw [show u = _ from hv]; rfl
  case nilp => rw [show u = _ from hv]; rfl
  case nilf => rw [show u = _ from hv]; rfl
  case psl => obtain ⟨A, c, rfl, _⟩ := hv; rfl
  case adr => obtain ⟨_, _, rfl⟩ := hv; rfl
  case row => obtain ⟨_, rfl⟩ := hv; unfold Loc.slice; split <;> rfl
  case rowv => obtain ⟨_, _, _, A, c, rfl, _⟩ := hv; rfl
  case padr => obtain ⟨b, a, rfl, _⟩ := hv; rfl
  case fn => obtain ⟨vs, rfl, _⟩ := hv; rfl
theorem one_cells {u : Value} (h : u.oneCell' = true) : u.cells = #[u] := by cases u <;> first | rfl | (simp [Value.oneCell'] at h)
theorem cells_VR {x : AV} {u : Value} (h : x.cells.all AV.cellOk = true) (hv : VR TY S x u) : VRs TY S x.cells u.cells.toList ∧ ∀ v ∈ u.cells.toList, v.oneCell' = true := by
  have key : ∀ (xs : List AV) (us : List Value), xs.all AV.cellOk = true → VRs TY S xs us → ∀ v ∈ us, v.oneCell' = true := by
    intro xs
    induction xs with
    | nil => intro us _ h2 v hv; cases us with
      | nil => cases hv
      | cons a b => exact h2.elim
    | cons x xs ih => intro us h1 h2 v hv; cases us with
      | nil => exact h2.elim
      | cons u us =>
        simp only [List.all_cons, Bool.and_eq_true] at h1
        rcases List.mem_cons.1 hv with rfl | hv
        · exact cellOk_one h1.1 h2.1
        · exact ih us h1.2 h2.2 v hv
  cases x
  case agg cs =>
    obtain ⟨vs, rfl, h2⟩ := hv
    exact ⟨h2, key _ _ h h2⟩
  case undef => simp [AV.cells, AV.cellOk] at h
  case tup => simp [AV.cells, AV.cellOk] at h
  all_goals
    have h1 := h
    simp only [AV.cells, List.all_cons, List.all_nil, Bool.and_true] at h1
    have h2 := one_cells (cellOk_one h1 hv)
    rw [h2]
    exact ⟨⟨hv, trivial⟩, fun v hv' => by
      obtain rfl := List.mem_singleton.1 hv'
      exact cellOk_one h1 hv⟩

theorem VRs_setRange {xs ys : List AV} {us vs : List Value} {off : Nat} (h : VRs TY S xs us) (h2 : VRs TY S ys vs) :
    VRs TY S (setRange xs off ys) (us.take off ++ vs ++ us.drop (off + vs.length)) := by
  unfold setRange
  rw [VRs_length h2]
  exact VRs_append (VRs_append (VRs_take _ h) h2) (VRs_drop _ h)

theorem run_storeAt {t : TypeId} {i : TypeInfo} {z : Value} (I : TyIs P TY t i z) {w : World} {b o : Nat} {C : Array Value} {Tc : TypeId} (hC : w.heap[b]? = some (.cells C Tc (0, 0))) {u : Value}
    (hl : u.cells.size = (TY t).cks.length) (h1 : ∀ v ∈ u.cells.toList, v.oneCell' = true) (hr : o + (TY t).cks.length ≤ C.size) :
    (Instr.storeAt t (.pointer (some ⟨b, o, none⟩)) u).run P w = .ok () (w.setRow b (C.toList.take o ++ u.cells.toList ++ C.toList.drop (o + u.cells.toList.length)).toArray) := by
  have h2 := run_storeCells_at (P := P) b o Tc u.cells.toList 0 C w hC (by simp; omega) h1
  simp only [Nat.add_zero] at h2
  simp only [Instr.storeAt, Instr.sureAddr, storeVar, Sem.run_bind, Sem.run_pure, Result.andThen_ok, I.run_size, hl]
  simp [h2]
theorem fr_setRow (w : World) (b : Nat) (C : Array Value) : Fr (fun x => x = b) w (w.setRow b C) :=
  ⟨rfl, rfl, rfl, by simp, fun x _ hx => setRow_other w b x C hx⟩

theorem splice_len {α : Type} (l m : List α) (o : Nat) (h : o + m.length ≤ l.length) : (l.take o ++ m ++ l.drop (o + m.length)).length = l.length := by
  simp
  omega
theorem splice_get {α : Type} (l m : List α) (o j : Nat) (h : o + m.length ≤ l.length) : (l.take o ++ m ++ l.drop (o + m.length))[j]? = if o ≤ j ∧ j < o + m.length then m[j - o]? else l[j]? := by
  have hto : (l.take o).length = o := by simp; omega
  rw [List.append_assoc]
  by_cases h1 : j < o
  · rw [if_neg (by omega), List.getElem?_append_left (by omega), List.getElem?_take, if_pos h1]
  · rw [List.getElem?_append_right (by omega), hto]
    by_cases h2 : j < o + m.length
    · rw [if_pos ⟨by omega, h2⟩, List.getElem?_append_left (by omega)]
    · rw [if_neg (by omega), List.getElem?_append_right (by omega), List.getElem?_drop]
      congr 1
      omega

theorem store_sound (T0 : TyOK P TY) (G : Good TY S) {m : Mem} (hM : S.M = m.get) {α : Type} {T : TypeId} {a x : AV} {va u : Value} (hva : VR TY S a va) (hu : VR TY S x u) {k : Mem → Option α} {r : α}
    (h0 : storeK TY T m a x k = some r) :
    ∃ m' S', k m' = some r ∧ (Instr.storeAt T va u).run P S.w = .ok () S'.w ∧ S'.M = m'.get ∧ S'.dom = S.dom ∧ Mv TY S S' := by
  obtain ⟨ht, h⟩ := tyd_some h0
  clear h0
  obtain ⟨ti, z, I⟩ := T0.is ht
  replace h := ite_some h
  obtain ⟨hc, h⟩ := h
  simp only [Bool.and_eq_true] at hc
  obtain ⟨hall, hlen⟩ := hc
  replace hlen := nat_beq hlen
  obtain ⟨hcs, hone⟩ := cells_VR hall hu
  have hul : u.cells.toList.length = (TY T).cks.length := by rw [← VRs_length hcs, hlen]
  have hul' : u.cells.size = (TY T).cks.length := by simpa using hul
  cases a <;> simp only [reduceCtorEq] at h
  case adr o i' off =>
    obtain ⟨hd, hi, rfl⟩ := hva
    cases hg : m.get o with
    | none => simp [hg] at h
    | some y =>
      have hSx : S.M o = some y := by rw [hM]; exact hg
      have hO := G.obj o y hSx
      cases y with
      | box cs =>
        simp only [hg] at h
        replace h := ite_some h
        obtain ⟨hb, h⟩ := h
        replace hb := ble_le hb
        obtain ⟨hn, hl1, he0, C, Tc, hC, hr⟩ := hO
        have hcl := VRs_length hr
        simp only [Array.length_toList] at hcl
        have hrun := run_storeAt I hC hul' hone (o := i' * (S.μ o).esz + off) (by rw [he0, Nat.mul_zero, Nat.zero_add]; omega)
        rw [he0, Nat.mul_zero, Nat.zero_add] at hrun ⊢
        obtain ⟨S', e1, e2, e3, _, e5, M0⟩ := mv_write (x' := .box (setRange cs off x.cells)) G hM hSx hn _ (fr_setRow S.w (S.μ o).blk (C.toList.take off ++ u.cells.toList ++ C.toList.drop (off + u.cells.toList.length)).toArray) (fun S' E hw _ => ⟨hn, hl1, he0, _, Tc, by rw [hw]; exact setRow_heap _ _ _ _ _ _ hC, by
            rw [List.toList_toArray]
            exact VRs_setRange (VRs_ext E _ _ hr) (VRs_ext E _ _ hcs)⟩)
        exact ⟨_, S', h, by rw [e1]; exact hrun, e2, e5, M0⟩
      | prow E n g =>
        simp only [hg] at h
        replace h := ite_some h
        obtain ⟨hb, h⟩ := h
        replace hb := ble_le hb
        replace h := ite_some h
        obtain ⟨hs, h⟩ := h
        split at h
        · rename_i ps m' hfr
          split at h
          · rename_i y' hy'
            obtain ⟨S1, F, hpl, hckl, hcr⟩ := frzs_sound (TY T).cks x.cells u.cells.toList S m m' ps G hM hcs hfr
            have M1 := F.mv
            have hgo : m'.get o = some (.prow E n g) := by rw [hy', ← hg, F.old o y' hy']
            have hS1 : S1.M o = some (.prow E n g) := by rw [F.M]; exact hgo
            have hO1 := M1.good.obj o _ hS1
            rw [F.μ] at hO1
            obtain ⟨hl1, he, h0, hm1, hO1⟩ := hO1
            have hn : (S.μ o).nil = false := by
              cases hn : (S.μ o).nil with
              | false => rfl
              | true => simp only [hn, if_true] at hO1; omega
            simp only [hn, Bool.false_eq_true, if_false] at hO1
            obtain ⟨C, hC, hCs, hcell⟩ := hO1
            rw [F.w] at hC
            rw [hl1] at hi
            rw [he]
            have hil : i' * (TY E).cks.length + (TY E).cks.length ≤ C.size := by
              have : (i' + 1) * (TY E).cks.length ≤ (S.μ o).cap * (TY E).cks.length := Nat.mul_le_mul_right _ (by omega)
              rw [Nat.add_mul, Nat.one_mul] at this
              omega
            have hrun := run_storeAt I hC hul' hone (o := i' * (TY E).cks.length + off) (by omega)
            have hspl : i' * (TY E).cks.length + off + u.cells.toList.length ≤ C.toList.length := by rw [hul]; simp; omega
            obtain ⟨S', e1, e2, e3, _, e5, M2⟩ := mv_write (x' := .prow E n (setRow g i' off ps)) M1.good F.M hS1 (by rw [F.μ]; exact hn) _ (by rw [F.μ, F.w]; exact fr_setRow S.w (S.μ o).blk (C.toList.take (i' * (TY E).cks.length + off) ++ u.cells.toList ++ C.toList.drop (i' * (TY E).cks.length + off + u.cells.toList.length)).toArray) (fun S' E' hw hok => by
              rw [F.μ]
              refine ⟨hl1, he, h0, hm1, ?_⟩
              simp only [hn, Bool.false_eq_true, if_false]
              refine ⟨_, by rw [hw]; exact setRow_heap _ _ _ _ _ _ hC, by
                rw [List.size_toArray, splice_len _ _ _ hspl]; simpa using hCs, fun q hq j ck hj => ?_⟩
              have hjl : j < (TY E).cks.length := (List.getElem?_eq_some_iff.1 hj).1
              rw [List.getElem?_toArray, splice_get _ _ _ _ hspl]
              obtain ⟨u0, hu0, hr0⟩ := hcell q hq j ck hj
              have hEx : ∀ p c v, CR TY S1.w S1.ok p c v → CR TY S'.w S'.ok p c v := fun p c v h => CR_mono E'.ok E'.w p c v h
              by_cases hqi : q = i'
              · subst hqi
                by_cases hin : off ≤ j ∧ j < off + (TY T).cks.length
                · rw [if_pos (by rw [hul]; omega)]
                  have hjo : j - off < u.cells.toList.length := by rw [hul]; omega
                  have hpo : j - off < ps.length := by rw [hpl]; exact hjo
                  have hck : (TY T).cks[j - off]? = some ck := by
                    have := sub_get hs (j - off) _ (List.getElem?_eq_getElem (by omega))
                    rw [show off + (j - off) = j by omega, hj] at this
                    rw [this]
                    exact List.getElem?_eq_getElem (by omega)
                  refine ⟨u.cells.toList[j - off], ?_, ?_⟩
                  · rw [show q * (TY E).cks.length + j - (q * (TY E).cks.length + off) = j - off by omega]
                    exact List.getElem?_eq_getElem hjo
                  · have := hcr (j - off) _ ck _ (List.getElem?_eq_getElem hpo) hck (List.getElem?_eq_getElem hjo)
                    have e : setRow g q off ps q j = ps[j - off] := by
                      unfold setRow
                      rw [if_pos rfl, if_pos (by simp [Nat.blt, hpl, hul]; omega)]
                      simp [List.getD_eq_getElem?_getD, List.getElem?_eq_getElem hpo]
                    rw [e]
                    exact hEx _ _ _ this
                · rw [if_neg (by rw [hul]; omega)]
                  refine ⟨u0, by simpa using hu0, ?_⟩
                  have e : setRow g q off ps q j = g q j := by
                    unfold setRow
                    rw [if_pos rfl, if_neg (by simp [Nat.blt, hpl, hul]; omega)]
                  rw [e]
                  exact hEx _ _ _ hr0
              · have hne : ¬ (i' * (TY E).cks.length + off ≤ q * (TY E).cks.length + j ∧ q * (TY E).cks.length + j < i' * (TY E).cks.length + off + u.cells.toList.length) := by
                  rw [hul]
                  rintro ⟨a1, a2⟩
                  rcases Nat.lt_or_gt_of_ne hqi with hlt | hlt
                  · have : (q + 1) * (TY E).cks.length ≤ i' * (TY E).cks.length := Nat.mul_le_mul_right _ hlt
                    rw [Nat.add_mul, Nat.one_mul] at this
                    omega
                  · have : (i' + 1) * (TY E).cks.length ≤ q * (TY E).cks.length := Nat.mul_le_mul_right _ hlt
                    rw [Nat.add_mul, Nat.one_mul] at this
                    omega
                rw [if_neg hne]
                refine ⟨u0, by simpa using hu0, ?_⟩
                have e : setRow g i' off ps q j = g q j := by
                  unfold setRow
                  rw [if_neg hqi]
                rw [e]
                exact hEx _ _ _ hr0)
            exact ⟨_, S', h, by rw [e1]; exact hrun, e2, e5.trans F.dom, M1.trans M2⟩
          · cases h
        · cases h
      | arow E n cs =>
        simp only [hg] at h
        replace h := ite_some h
        obtain ⟨hb, h⟩ := h
        replace hb := ble_le hb
        obtain ⟨hl1, he, h0', hm1, hcl, hO⟩ := hO
        have hn : (S.μ o).nil = false := by
          cases hn : (S.μ o).nil with
          | false => rfl
          | true => simp only [hn, if_true] at hO; omega
        simp only [hn, Bool.false_eq_true, if_false] at hO
        obtain ⟨C, hC, hCs, hr⟩ := hO
        rw [hl1] at hi
        rw [he]
        have hnc : n * (TY E).cks.length ≤ C.size := by rw [hCs]; exact Nat.mul_le_mul_right _ h0'
        have hrun := run_storeAt I hC hul' hone (o := i' * (TY E).cks.length + off) (by omega)
        have hspl : i' * (TY E).cks.length + off + u.cells.toList.length ≤ C.toList.length := by rw [hul]; simp; omega
        obtain ⟨S', e1, e2, e3, _, e5, M2⟩ := mv_write (x' := .arow E n (setRange cs (i' * (TY E).cks.length + off) x.cells)) G hM hSx hn _ (fr_setRow S.w (S.μ o).blk (C.toList.take (i' * (TY E).cks.length + off) ++ u.cells.toList ++ C.toList.drop (i' * (TY E).cks.length + off + u.cells.toList.length)).toArray) (fun S' E' hw hok => by
          have h3 := VRs_setRange (off := i' * (TY E).cks.length + off) (VRs_ext E' _ _ hr) (VRs_ext E' _ _ hcs)
          have hlen2 : ((C.toList.take (n * (TY E).cks.length)).take (i' * (TY E).cks.length + off) ++ u.cells.toList ++ (C.toList.take (n * (TY E).cks.length)).drop (i' * (TY E).cks.length + off + u.cells.toList.length)) = (C.toList.take (i' * (TY E).cks.length + off) ++ u.cells.toList ++ C.toList.drop (i' * (TY E).cks.length + off + u.cells.toList.length)).take (n * (TY E).cks.length) := by
            apply List.ext_getElem?
            intro j
            rw [splice_get _ _ _ _ (by rw [List.length_take]; simp only [Array.length_toList]; omega), List.getElem?_take, List.getElem?_take, splice_get _ _ _ _ hspl]
            by_cases hj : j < n * (TY E).cks.length
            · simp only [if_pos hj]
            · rw [if_neg (by omega), if_neg hj, if_neg hj]
          rw [hlen2] at h3
          refine ⟨hl1, he, h0', hm1, ?_, ?_⟩
          rotate_left
          · simp only [hn, Bool.false_eq_true, if_false]
            exact ⟨_, by rw [hw]; exact setRow_heap _ _ _ _ _ _ hC, by
              rw [List.size_toArray, splice_len _ _ _ hspl]; simpa using hCs, by simpa using h3⟩
          have := VRs_length h3
          rw [this, List.length_take, splice_len _ _ _ hspl]
          simp only [Array.length_toList]
          omega)
        exact ⟨_, S', h, by rw [e1]; exact hrun, e2, e5, M2⟩
      | iter s p => simp [hg] at h
end
end Go.Proofs.YtkenjojkpdeooaaGreatDoor.AI
end
