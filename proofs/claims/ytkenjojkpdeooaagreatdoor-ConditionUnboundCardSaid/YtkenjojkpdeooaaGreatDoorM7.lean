/- The units of a string, and what is said of them. · A range over an iterator that keeps cells of its own: the iterator's contract, and the loop's law. · The iterator over the units of a string. · A region that draws its order, by what holds whatever has been done. · Functions that range over the units of a string. · Valid: every unit of a string is valid. -/
import GoSem.Core.Utf8
import Derived.RangeFuncNested
import Derived.RangeFuncCalls
import Derived.RangeFuncLeaves
import Derived.Shelf.Abstract
import Derived.WalkKit
import Derived.OwnWalkIn
import Derived.TacticsInMore
import Derived.LoopNIn
import Derived.LoopIn
import Derived.Lib.OthersKept
import Derived.Test.YtkenjojkpdeooaaGreatDoorProg
import Derived.OrdersIn
section
set_option linter.unusedVariables false
set_option linter.unusedSimpArgs false
set_option linter.constructorNameAsVariable false
namespace Go.Proofs.YtkenjojkpdeooaaGreatDoor.Units
/-- the units of a string from a place on: rune, place, size -/
def unitsF (s : ByteArray) : Nat → Nat → List (Nat × Nat × Nat)
  | 0, _ => []
  | d + 1, p => if p < s.size then (let q := Go.Utf8.decode s p; (q.1, p, q.2) :: unitsF s d (p + q.2)) else []
/-- a unit is valid -/
def okU (u : Nat × Nat × Nat) : Bool := !(Nat.beq u.1 65533) || Nat.beq u.2.2 3
/-- the lower-case letter -/
def lowerU (r : Nat) : Nat :=
  if (65 ≤ r ∧ r ≤ 90) ∨ (192 ≤ r ∧ r ≤ 222 ∧ r ≠ 215) ∨ (913 ≤ r ∧ r ≤ 937 ∧ r ≠ 930) ∨ (1040 ≤ r ∧ r ≤ 1071) then r + 32
  else if 1024 ≤ r ∧ r ≤ 1039 then r + 80 else r
/-- a unit, folded -/
def foldU (s : ByteArray) (u : Nat × Nat × Nat) : ByteArray := if lowerU u.1 = u.1 then s.extract u.2.1 (u.2.1 + u.2.2) else Go.Utf8.encode (lowerU u.1)
def foldAll (s : ByteArray) (us : List (Nat × Nat × Nat)) : ByteArray := us.foldl (fun acc u => acc ++ foldU s u) ⟨#[]⟩
end Go.Proofs.YtkenjojkpdeooaaGreatDoor.Units
end
section
set_option linter.unusedVariables false
set_option linter.unusedSimpArgs false
set_option linter.constructorNameAsVariable false
namespace Go.Proofs.YtkenjojkpdeooaaGreatDoor.Units
open Go.RowKit

/-- What was there from n on, and block B, lies as it lay. -/
structure Hi (n B : Nat) (A W : World) : Prop where
  size : A.heap.size ≤ W.heap.size
  same : ∀ k, n ≤ k → k < A.heap.size → W.heap[k]? = A.heap[k]?
  box : W.heap[B]? = A.heap[B]?
theorem Hi.trans {n B : Nat} {A W V : World} (h : Hi n B A W) (k : Hi n B W V) : Hi n B A V :=
  ⟨Nat.le_trans h.size k.size, fun i hi hl => (k.same i hi (Nat.lt_of_lt_of_le hl h.size)).trans (h.same i hi hl), k.box.trans h.box⟩
theorem Hi.mono {n m B : Nat} {A W : World} (h : Hi n B A W) (hn : n ≤ m) : Hi m B A W := ⟨h.size, fun i hi hl => h.same i (Nat.le_trans hn hi) hl, h.box⟩
theorem putObj_size (W : World) (r : Nat) (o : Obj) : (W.putObj r o).heap.size = W.heap.size := by simp
theorem Hi.putObj {n B : Nat} (W : World) (r : Nat) (o : Obj) (hr : r < n) (hB : B ≠ r) : Hi n B W (W.putObj r o) :=
  ⟨by simp, fun k hk _ => World.putObj_heap_other (by omega), World.putObj_heap_other hB⟩
/-- An iterator over xs; its own cells lie above the caller's. -/
def IterOK {α : Type} (P : Program) (g : Nat) (lb : Array Value) (enc : α → Value) (xs : List α) (B : Nat) (w : World) : Prop :=
  ∀ (l : Nat) (J Jx : List α → World → Prop) (W : World), w.heap.size ≤ W.heap.size → W.heap[B]? = w.heap[B]? →
    (∀ s A A', J s A → Below W.heap.size A A' → J s A') → (∀ s A A', Jx s A → Below W.heap.size A A' → Jx s A') →
    (∀ pre x W1, J pre W1 → pre ++ [x] <+: xs → YieldAt Fence.wide 0 P l #[enc x] W1 fun e W' =>
      (e = .returned (.bool true) ∧ J (pre ++ [x]) W' ∧ Hi W.heap.size B W1 W') ∨ (e = .returned (.bool false) ∧ Jx (pre ++ [x]) W')) →
    J [] W → CallsIn Fence.wide 0 P g (#[.func (.yield l) #[] #[]] ++ lb) W fun e W' => (∃ v, e = .returned v) ∧ (J xs W' ∨ ∃ pre, pre <+: xs ∧ Jx pre W')

/-- How a round may be left: it goes on, or the function returns. -/
def roundEnd {α : Type} (n B : Nat) (I Ix : List α → World → Prop) (xs : List α) (W : World) : Exit → Act → World → Prop
  | .normal, _, W' => I xs W' ∧ Hi n B W W'
  | .ret, _, W' => Ix xs W' ∧ Hi n B W W'
  | _, _, _ => False
variable {P : Program}
theorem wpIn_iter {α : Type} {g : Operand} {p : Tmp} {assign body : Code} {Q : Exit → Act → World → Prop} {a : Act} {w : World} {gf : Nat} {lb : Array Value}
    (hg : a.eval g = .func (.func gf) #[] lb) (eg : ∀ args w, (callFunc gf args).run P w = .ok (.enter gf args) w) {enc : α → Value} {xs : List α} {B : Nat} (hseq : IterOK P gf lb enc xs B w) (hB : B < w.heap.size)
    (I Ix : List α → World → Prop) (hI : ∀ s A A', I s A → Below w.heap.size A A' → I s A') (hIx : ∀ s A A', Ix s A → Below w.heap.size A A' → Ix s A') (h0 : I [] w)
    (Ax : α → Act → World → Prop) (hAx : ∀ l x a' A o, w.heap.size ≤ l → Ax x a' A → (∃ r, A.heap[l]? = some (.loop r)) → Ax x a' (A.putObj l o))
    (hassign : ∀ (l : Nat) (pre : List α) (x : α) (W : World) (K : Act → World → Prop), I pre W → w.heap.size ≤ W.heap.size → (∀ a' W', Hi w.heap.size B W W' → I pre W' → Ax x a' W' → K a' W') →
      assign.wpIn (Fence.wide.inRound l) 0 P (Exit.then K (fun _ _ _ => False)) { tmps := a.tmps.setIfInBounds p (enc x), defers := [] } W)
    (hbody : ∀ (l : Nat) (pre : List α) (x : α) (a' : Act) (W : World), I pre W → w.heap.size ≤ W.heap.size → Ax x a' W → pre ++ [x] <+: xs → body.wpIn (Fence.wide.inRound l) 0 P (roundEnd w.heap.size B I Ix (pre ++ [x]) W) a' W)
    (hdone : ∀ (D : Nat) (W : World), w.heap.size ≤ D → I xs W → W.heap[D]? = some (.deferred (some [])) → Q .normal { a with defers := { target := .collected D, args := #[] } :: a.defers } W)
    (hstop : ∀ (D : Nat) (pre : List α) (W : World), w.heap.size ≤ D → pre <+: xs → Ix pre W → W.heap[D]? = some (.deferred (some [])) → Q .ret { a with defers := { target := .collected D, args := #[] } :: a.defers } W) :
    (Code.rangeFunc g #[p] assign body).wpIn Fence.wide 0 P Q a w := by
  refine wpIn_rangeFunc ?_
  intro fn hfn
  obtain ⟨rec, hrec⟩ : ∃ rec : LoopState → Option Code → Loop, rec = fun st pe => { state := st, pending := pe, fn, tmps := a.tmps, params := #[p], assign, body, defers := w.heap.size } := ⟨_, rfl⟩
  obtain ⟨W1, hW1⟩ : ∃ W1, (w.alloc (.deferred (some []))).alloc (.loop (rec .ready none)) = W1 := ⟨_, rfl⟩
  have hs1 : W1.heap.size = w.heap.size + 2 := by rw [← hW1]; simp
  have hL1 : W1.heap[w.heap.size + 1]? = some (.loop (rec .ready none)) := by
    rw [← hW1]; have := World.alloc_heap_new (w.alloc (.deferred (some []))) (.loop (rec .ready none)); rwa [World.size_alloc] at this
  have hK1 : W1.heap[w.heap.size]? = some (.deferred (some [])) := by
    rw [← hW1]; exact (Below.heap_alloc _ _ _ (by simp)).trans (World.alloc_heap_new w _)
  have hb1 : Below w.heap.size w W1 := by
    rw [← hW1]; exact ((Below.refl _ w).alloc (Nat.le_refl _) _).alloc (by simp) _
  have put : ∀ (W : World) (o : Obj), w.heap.size + 1 < W.heap.size → Below w.heap.size W (W.putObj (w.heap.size + 1) o) := fun W o h =>
    ⟨rfl, rfl, rfl, by simp, fun k hk => World.putObj_heap_other (by omega)⟩
  refine ⟨w.heap.size + 1, [{ target := .collected w.heap.size, args := #[] }], W1, { target := .fn (.func gf) lb, args := #[.func (.yield (w.heap.size + 1)) #[] #[]] }, W1, gf,
    #[.func (.yield (w.heap.size + 1)) #[] #[]] ++ lb, W1, ?_, ?_, fun _ _ => trivial, ?_, fun h => (by cases h), ?_⟩
  · rw [← hW1, hrec]; exact run_enterLoop_outer _ _ _ _ _
  · simp only [resolve, hg]
    simp [go_sem]
  · simp [invoke, go_sem, eg]
  · refine (hseq (w.heap.size + 1)
      (fun pre W => I pre W ∧ W.heap[w.heap.size + 1]? = some (.loop (rec .ready none)) ∧ W.heap[w.heap.size]? = some (.deferred (some [])))
      (fun pre W => Ix pre W ∧ W.heap[w.heap.size + 1]? = some (.loop (rec .done (some .ret))) ∧ W.heap[w.heap.size]? = some (.deferred (some [])))
      W1 hb1.size (hb1.block B hB) ?_ ?_ ?_ ⟨hI _ _ _ h0 hb1, hL1, hK1⟩).mono ?_
    · rintro s A A' ⟨h1, h2, h3⟩ hb
      rw [hs1] at hb
      exact ⟨hI _ _ _ h1 (hb.mono (by omega)), (hb.block _ (by omega)).trans h2, (hb.block _ (by omega)).trans h3⟩
    · rintro s A A' ⟨h1, h2, h3⟩ hb
      rw [hs1] at hb
      exact ⟨hIx _ _ _ h1 (hb.mono (by omega)), (hb.block _ (by omega)).trans h2, (hb.block _ (by omega)).trans h3⟩
    · rintro pre x W ⟨hi, hl, hk⟩ hpre
      have hlt : w.heap.size + 1 < W.heap.size := (Array.getElem?_eq_some_iff.1 hl).1
      have hy := run_yield (P := P) (args := #[enc x]) hl (by rw [hrec]; rfl)
      rw [hrec] at hy
      refine ⟨fn, _, assign, body, hy, roundIn_of_wpIn trivial ?_⟩
      have hassign' := hassign (w.heap.size + 1) pre x W (fun a₁ w₁ => ∃ w₂, (Instr.beginRound (w.heap.size + 1)).run P w₁ = .ok () w₂ ∧ body.wpIn (Fence.wide.inRound (w.heap.size + 1)) 0 P (roundPost P (w.heap.size + 1) fun e W' =>
        (e = .returned (.bool true) ∧ (I (pre ++ [x]) W' ∧ W'.heap[w.heap.size + 1]? = some (.loop (rec .ready none)) ∧ W'.heap[w.heap.size]? = some (.deferred (some []))) ∧ Hi W1.heap.size B W W') ∨
        (e = .returned (.bool false) ∧ (Ix (pre ++ [x]) W' ∧ W'.heap[w.heap.size + 1]? = some (.loop (rec .done (some .ret))) ∧ W'.heap[w.heap.size]? = some (.deferred (some []))))) a₁ w₂) hi (by omega) ?_
      · simpa using hassign'
      · intro a' W' hh hi' hax
        have hl' : W'.heap[w.heap.size + 1]? = some (.loop (rec .ready none)) := (hh.same _ (by omega) hlt).trans hl
        have hk' : W'.heap[w.heap.size]? = some (.deferred (some [])) := (hh.same _ (by omega) (by omega)).trans hk
        have hlt' : w.heap.size + 1 < W'.heap.size := (Array.getElem?_eq_some_iff.1 hl').1
        refine ⟨_, run_beginRound hl' (by rw [hrec]), ?_⟩
        obtain ⟨W2, hW2⟩ : ∃ W2, W'.putObj (w.heap.size + 1) (.loop { rec .ready none with state := .busy }) = W2 := ⟨_, rfl⟩
        rw [hW2]
        have hl2 : W2.heap[w.heap.size + 1]? = some (.loop { rec .ready none with state := .busy }) := by rw [← hW2]; exact World.putObj_heap_same hlt'
        have hk2 : W2.heap[w.heap.size]? = some (.deferred (some [])) := by rw [← hW2]; exact (World.putObj_heap_other (by omega)).trans hk'
        have hi2 : I pre W2 := by rw [← hW2]; exact hI _ _ _ hi' (put W' _ hlt')
        have hax2 : Ax x a' W2 := by rw [← hW2]; exact hAx _ _ _ _ _ (by omega) hax ⟨_, hl'⟩
        have hh2 : Hi W1.heap.size B W W2 := by
          rw [← hW2]
          exact (hh.mono (by omega)).trans (Hi.putObj W' _ _ (by omega) (by omega))
        have hs2 : W2.heap.size = W'.heap.size := by rw [← hW2]; simp
        refine wpIn_mono (hbody _ pre x a' W2 hi2 (by omega) hax2 hpre) ?_
        have fin : ∀ (jump : Option Code) (W3 : World), Hi w.heap.size B W2 W3 →
            (Instr.endRound (w.heap.size + 1) jump).run P W3 = .ok (.bool jump.isNone) (W3.putObj (w.heap.size + 1) (.loop (rec (if jump.isNone then .ready else .done) jump))) ∧
            (W3.putObj (w.heap.size + 1) (.loop (rec (if jump.isNone then .ready else .done) jump))).heap[w.heap.size + 1]? = some (.loop (rec (if jump.isNone then .ready else .done) jump)) ∧
            (W3.putObj (w.heap.size + 1) (.loop (rec (if jump.isNone then .ready else .done) jump))).heap[w.heap.size]? = some (.deferred (some [])) ∧
            Below w.heap.size W3 (W3.putObj (w.heap.size + 1) (.loop (rec (if jump.isNone then .ready else .done) jump))) ∧
            Hi W1.heap.size B W (W3.putObj (w.heap.size + 1) (.loop (rec (if jump.isNone then .ready else .done) jump))) := fun jump W3 hh3 => by
          have hl3 : W3.heap[w.heap.size + 1]? = some (.loop { rec .ready none with state := .busy }) := (hh3.same _ (by omega) (by omega)).trans hl2
          have hk3 : W3.heap[w.heap.size]? = some (.deferred (some [])) := (hh3.same _ (by omega) (by omega)).trans hk2
          have hlt3 := (Array.getElem?_eq_some_iff.1 hl3).1
          have := run_endRound (P := P) jump hl3
          rw [hrec] at this ⊢
          exact ⟨this, World.putObj_heap_same hlt3, (World.putObj_heap_other (by omega)).trans hk3, put W3 _ hlt3, hh2.trans ((hh3.mono (by omega)).trans (Hi.putObj W3 _ _ (by omega) (by omega)))⟩
        rintro e a3 W3 hp
        cases e with
        | normal =>
          obtain ⟨hi3, hh3⟩ := hp
          obtain ⟨hr, hl4, hk4, hb4, hh4⟩ := fin none W3 hh3
          exact ⟨_, _, hr, .inl ⟨rfl, ⟨hI _ _ _ hi3 hb4, hl4, hk4⟩, hh4⟩⟩
        | ret =>
          obtain ⟨hi3, hh3⟩ := hp
          obtain ⟨hr, hl4, hk4, hb4, hh4⟩ := fin (some .ret) W3 hh3
          exact ⟨_, _, hr, .inr ⟨rfl, hIx _ _ _ hi3 hb4, hl4, hk4⟩⟩
        | exit id => exact hp.elim
        | goto t => exact hp.elim
        | panic ch => exact hp.elim
        | outgrown => exact hp.elim
    · rintro e W2 ⟨⟨v, rfl⟩, (⟨hi, hl, hk⟩ | ⟨pre, hpre, hi, hl, hk⟩)⟩
      · refine ⟨none, _, by have := run_endLoop (P := P) hl (by rw [hrec]; simp); rw [hrec] at this; exact this, ?_⟩
        exact hdone _ _ (Nat.le_refl _) (hI _ _ _ hi (put W2 _ (Array.getElem?_eq_some_iff.1 hl).1)) ((World.putObj_heap_other (by omega)).trans hk)
      · refine ⟨some .ret, _, by have := run_endLoop (P := P) hl (by rw [hrec]; simp); rw [hrec] at this; exact this, ?_⟩
        exact wpIn_ret (hstop _ pre _ (Nat.le_refl _) hpre (hIx _ _ _ hi (put W2 _ (Array.getElem?_eq_some_iff.1 hl).1)) ((World.putObj_heap_other (by omega)).trans hk))
end Go.Proofs.YtkenjojkpdeooaaGreatDoor.Units
end
section
set_option linter.unusedVariables false
set_option linter.unusedSimpArgs false
set_option linter.constructorNameAsVariable false
namespace Go.Proofs.YtkenjojkpdeooaaGreatDoor.Units
open Go.RowKit Go.Shelf Go.Proofs
attribute [local go_sem] Oper.semAt_some

def enc (x : Nat × Nat × Nat) : Value := .agg #[.int .i32 (x.1 : Int), .int .i64 (x.2.1 : Int), .int .i64 (x.2.2 : Int)]

structure At (n B : Nat) (s : ByteArray) (r a z : Int) (pos : Nat) (wr : World) : Prop where
  box : wr.heap[B]? = some (.cells #[.string s] 9 (0, 0))
  blk : wr.heap[n]? = some (.cells #[.int .i32 r, .int .i64 a, .int .i64 z] 129 (0, 0))
  it : wr.heap[n + 1]? = some (.stringIter s pos)
section
variable {n B : Nat} {s : ByteArray} {r a z : Int} {pos : Nat} {wr : World}
theorem At.neB (h : At n B s r a z pos wr) : B ≠ n ∧ B ≠ n + 1 := by
  constructor
  · intro e
    have h1 := h.box
    rw [e, h.blk] at h1
    simp at h1
  · intro e
    have h1 := h.box
    rw [e, h.it] at h1
    simp at h1
theorem At.turn (h : At n B s r a z pos wr) (pos' : Nat) : At n B s r a z pos' (wr.iterAt (n + 1) s pos') := by
  have hh : ∀ k, k ≠ n + 1 → (wr.iterAt (n + 1) s pos').heap[k]? = wr.heap[k]? := fun k hk => by simp only [World.iterAt]; exact Array.getElem?_setIfInBounds_ne (fun e => hk e.symm)
  exact ⟨(hh B h.neB.2).trans h.box, (hh n (by omega)).trans h.blk, Lib.iterAt_heap wr (n + 1) s pos pos' h.it⟩
theorem set_blk {W : World} {xs : Array Value} {t : TypeId} (h : W.heap[n]? = some (.cells xs t (0, 0))) (i : Nat) (v : Value) : (W.setCell ⟨n, i, none⟩ v).heap[n]? = some (.cells (xs.setIfInBounds i v) t (0, 0)) := by
  obtain ⟨hlt, hk⟩ := Array.getElem?_eq_some_iff.1 h
  show (W.heap.modify n _)[n]? = _
  rw [Array.getElem?_eq_getElem (by rw [Array.size_modify]; exact hlt), Array.getElem_modify_self, hk]
  rfl
theorem At.set0 (h : At n B s r a z pos wr) (v : Int) : At n B s v a z pos (wr.setCell ⟨n, 0, none⟩ (.int .i32 v)) :=
  ⟨(Below.heap_setCell _ _ _ _ h.neB.1).trans h.box, (set_blk h.blk 0 _).trans (by simp), (Below.heap_setCell _ _ _ _ (by simp)).trans h.it⟩
theorem At.set1 (h : At n B s r a z pos wr) (v : Int) : At n B s r v z pos (wr.setCell ⟨n, 1, none⟩ (.int .i64 v)) :=
  ⟨(Below.heap_setCell _ _ _ _ h.neB.1).trans h.box, (set_blk h.blk 1 _).trans (by simp), (Below.heap_setCell _ _ _ _ (by simp)).trans h.it⟩
theorem At.set2 (h : At n B s r a z pos wr) (v : Int) : At n B s r a v pos (wr.setCell ⟨n, 2, none⟩ (.int .i64 v)) :=
  ⟨(Below.heap_setCell _ _ _ _ h.neB.1).trans h.box, (set_blk h.blk 2 _).trans (by simp), (Below.heap_setCell _ _ _ _ (by simp)).trans h.it⟩
theorem At.facts (h : At n B s r a z pos wr) : wr.cell? ⟨B, 0, none⟩ = some (.string s) ∧ wr.cell? ⟨n, 0, none⟩ = some (.int .i32 r) ∧ wr.cell? ⟨n, 1, none⟩ = some (.int .i64 a) ∧ wr.cell? ⟨n, 2, none⟩ = some (.int .i64 z) ∧
    wr.frozen? ⟨n, 0, none⟩ = false ∧ wr.frozen? ⟨n, 1, none⟩ = false ∧ wr.frozen? ⟨n, 2, none⟩ = false := by
  simp [World.cell?, World.frozen?, h.box, h.blk]
theorem At.place (h : At n B s r a z pos wr) : wr.iterPos (n + 1) = pos := by simp [World.iterPos, h.it]
theorem At.hi {W' : World} (h : At n B s r a z pos wr) (k : Hi n B wr W') : At n B s r a z pos W' := by
  have h1 := (Array.getElem?_eq_some_iff.1 h.it).1
  exact ⟨k.box.trans h.box, (k.same n (Nat.le_refl _) (by omega)).trans h.blk, (k.same (n + 1) (by omega) h1).trans h.it⟩
end
theorem decode_size (s : ByteArray) (pos : Nat) (h : pos < s.size) : 0 < (Utf8.decode s pos).2 ∧ pos + (Utf8.decode s pos).2 ≤ s.size := by
  unfold Utf8.decode
  dsimp only
  (repeat' split) <;> simp_all <;> omega
def Inv (n B : Nat) (s : ByteArray) (J : List (Nat × Nat × Nat) → World → Prop) (wr : World) : Prop :=
  ∃ pre r a pos d, At n B s r a 0 pos wr ∧ J pre wr ∧ s.size ≤ pos + d ∧ pos ≤ s.size ∧
    ((a = -1 ∧ pre = [] ∧ unitsF s s.size 0 = unitsF s d pos) ∨ (∃ rn p q : Nat, r = rn ∧ a = p ∧ pos = p + q ∧ unitsF s s.size 0 = pre ++ (rn, p, q) :: unitsF s d pos))

set_option maxRecDepth 100000 in
set_option maxHeartbeats 2000000 in
theorem iter128 (B : Nat) (s : ByteArray) (hs : s.size ≤ 140737488355328) (w : World) (hB : w.heap[B]? = some (.cells #[.string s] 9 (0, 0))) :
    IterOK Tryz.prog 128 #[.pointer (some ⟨B, 0, none⟩)] enc (unitsF s s.size 0) B w := by
  intro l J Jx W hW hWB hJ hJx hY h0
  have hBW : W.heap[B]? = some (.cells #[.string s] 9 (0, 0)) := hWB.trans hB
  have hlt : B < W.heap.size := (Array.getElem?_eq_some_iff.1 hBW).1
  have hcB : W.cell? ⟨B, 0, none⟩ = some (.string s) := by simp [World.cell?, hBW]
  refine callsIn_of_wp Tryz.func128 rfl trivial ?_ rfl
  simp only [Tryz.ntmps128, List.size_toArray, List.length_cons, List.length_nil, Nat.reduceAdd, Nat.reduceSub, Array.replicate_succ, Array.replicate_zero, List.push_toArray, List.append_toArray, List.nil_append, List.cons_append]
  gi_wp2
  gi_loopw [4] (fun _ wr => Inv W.heap.size B s J wr) (fun _ wr => s.size - wr.iterPos (W.heap.size + 1))
  case atStart =>
    have hh : ((W.alloc (Obj.cells #[Value.int IntKind.i32 0, Value.int IntKind.i64 (-1), Value.int IntKind.i64 0] 129)).iter s 0).heap = (W.heap.push (Obj.cells #[Value.int IntKind.i32 0, Value.int IntKind.i64 (-1), Value.int IntKind.i64 0] 129)).push (.stringIter s 0) := rfl
    have hb : Below W.heap.size W ((W.alloc (Obj.cells #[Value.int IntKind.i32 0, Value.int IntKind.i64 (-1), Value.int IntKind.i64 0] 129)).iter s 0) := ((Below.refl _ W).alloc (Nat.le_refl _) _).alloc (by simp) _
    refine ⟨[], 0, -1, 0, s.size, ⟨(hb.block B hlt).trans hBW, ?_, ?_⟩, hJ _ _ _ h0 hb, by omega, by omega, .inl ⟨rfl, rfl, rfl⟩⟩
    all_goals simp [hh, Array.getElem?_push, Array.getElem_push]
  case round =>
    obtain ⟨pre, r, a, pos, d, hA, hJr, hd, hps, hc⟩ := hrel
    have hmu : wr.iterPos (W.heap.size + 1) = pos := by simp [World.iterPos, hA.it]
    by_cases hp : pos < s.size
    · obtain ⟨d, rfl⟩ : ∃ e, d = e + 1 := ⟨d - 1, by omega⟩
      have hu : unitsF s (d + 1) pos = ((Utf8.decode s pos).1, pos, (Utf8.decode s pos).2) :: unitsF s d (pos + (Utf8.decode s pos).2) := by simp [unitsF, hp]
      have hdec := decode_size s pos hp
      have hnext : ∀ ty, (Instr.next (.pointer (some ⟨W.heap.size + 1, 0, none⟩)) true ty).run Tryz.prog wr = _ := fun ty => Lib.run_next_any_at wr (W.heap.size + 1) s pos ty hA.it hp
      have hA1 := hA.turn (pos + (Utf8.decode s pos).2)
      have hb1 : Below W.heap.size wr (wr.iterAt (W.heap.size + 1) s (pos + (Utf8.decode s pos).2)) := Lib.below_iterAt (Below.refl _ wr) (by omega) s _
      have hs1 : (wr.iterAt (W.heap.size + 1) s (pos + (Utf8.decode s pos).2)).heap.size = wr.heap.size := by simp [World.iterAt]
      generalize wr.iterAt (W.heap.size + 1) s (pos + (Utf8.decode s pos).2) = W1 at hnext hA1 hb1 hs1
      obtain ⟨g, k0, k1, k2, f0, f1, f2⟩ := hA1.facts
      rcases hc with ⟨rfl, rfl, hx⟩ | ⟨rn, p, q, rfl, rfl, rfl, hx⟩
      · gi_wp2
        refine ⟨fun _ h => (by cases h), ?_⟩
        gi_wp2
        have hA2 := (((hA1.set2 ((pos : Int) + 1)).set0 ((Utf8.decode s pos).1 : Int)).set1 (pos : Int)).set2 0
        have hb2 := ((((hb1.setCell (p := ⟨W.heap.size, 2, none⟩) (Nat.le_refl _) (.int .i64 ((pos : Int) + 1))).setCell (p := ⟨W.heap.size, 0, none⟩) (Nat.le_refl _) (.int .i32 ((Utf8.decode s pos).1 : Int))).setCell (p := ⟨W.heap.size, 1, none⟩) (Nat.le_refl _) (.int .i64 (pos : Int))).setCell (p := ⟨W.heap.size, 2, none⟩) (Nat.le_refl _) (.int .i64 0))
        refine ⟨⟨[], _, _, _, d, hA2, hJ _ _ _ hJr hb2, by omega, by omega, .inr ⟨_, pos, _, rfl, rfl, rfl, by rw [hx, hu]; rfl⟩⟩, ?_⟩
        rw [hmu, hA2.place]
        omega
      · have hbY := hb1.setCell (p := ⟨W.heap.size, 2, none⟩) (Nat.le_refl _) (.int .i64 ((p : Int) + q - p))
        have hAY := hA1.set2 ((p : Int) + q - p)
        obtain ⟨fn, tmps, assign, body, hy, hR⟩ := hY pre (rn, p, q) _ (hJ _ _ _ hJr hbY) (by rw [hx]; simp)
        have e : enc (rn, p, q) = .agg #[.int .i32 (rn : Int), .int .i64 (p : Int), .int .i64 ((p : Int) + q - p)] := by
          have : (p : Int) + q - p = q := by omega
          rw [this]; rfl
        rw [e] at hy
        gi_wp2
        refine ⟨rfl, hR.mono ?_⟩
        rintro e W3 (⟨rfl, hJ3, hk3⟩ | ⟨rfl, hJx3⟩)
        · have hA3 := hAY.hi hk3
          obtain ⟨g3, k03, k13, k23, f03, f13, f23⟩ := hA3.facts
          gi_wp2
          have hA4 := ((hA3.set0 ((Utf8.decode s (p + q)).1 : Int)).set1 ((p + q : Nat) : Int)).set2 0
          have hb4 := (((Below.refl W.heap.size W3).setCell (p := ⟨W.heap.size, 0, none⟩) (Nat.le_refl _) (.int .i32 ((Utf8.decode s (p + q)).1 : Int))).setCell (p := ⟨W.heap.size, 1, none⟩) (Nat.le_refl _) (.int .i64 ((p + q : Nat) : Int))).setCell (p := ⟨W.heap.size, 2, none⟩) (Nat.le_refl _) (.int .i64 0)
          have hpq : ((p + q : Nat) : Int) = (p : Int) + q := by omega
          rw [hpq] at hA4 hb4
          refine ⟨⟨pre ++ [(rn, p, q)], _, _, _, d, hA4, hJ _ _ _ hJ3 hb4, by omega, by omega, .inr ⟨_, p + q, _, rfl, by omega, rfl, by rw [hx, hu]; simp⟩⟩, ?_⟩
          rw [hmu, hA4.place]
          omega
        · gi_wp2
          refine bodyPost_ret (results_none rfl _ _ _) rfl ?_
          exact ⟨⟨_, rfl⟩, .inr ⟨pre ++ [(rn, p, q)], by rw [hx]; simp, hJx3⟩⟩
    · have hnext : ∀ ty, (Instr.next (.pointer (some ⟨W.heap.size + 1, 0, none⟩)) true ty).run Tryz.prog wr = _ := fun ty => Lib.run_next_end_at wr (W.heap.size + 1) s pos ty hA.it hp
      obtain ⟨g, k0, k1, k2, f0, f1, f2⟩ := hA.facts
      have hnil : unitsF s d pos = [] := by cases d <;> simp [unitsF, hp]
      rcases hc with ⟨rfl, rfl, hx⟩ | ⟨rn, p, q, rfl, rfl, rfl, hx⟩
      · gi_wp2
        go_end0
        refine ⟨⟨_, rfl⟩, .inl ?_⟩
        rw [hx, hnil]
        exact hJ _ _ _ hJr ((Below.refl W.heap.size wr).setCell (p := ⟨W.heap.size, 2, none⟩) (Nat.le_refl _) _)
      · have hbY := (Below.refl W.heap.size wr).setCell (p := ⟨W.heap.size, 2, none⟩) (Nat.le_refl _) (.int .i64 ((s.size : Int) - p))
        obtain ⟨fn, tmps, assign, body, hy, hR⟩ := hY pre (rn, p, q) _ (hJ _ _ _ hJr hbY) (by rw [hx]; simp)
        have e : enc (rn, p, q) = .agg #[.int .i32 (rn : Int), .int .i64 (p : Int), .int .i64 ((s.size : Int) - p)] := by
          have : (s.size : Int) - p = q := by omega
          rw [this]; rfl
        rw [e] at hy
        gi_wp2
        refine ⟨rfl, hR.mono ?_⟩
        rintro e W3 (⟨rfl, hJ3, hk3⟩ | ⟨rfl, hJx3⟩)
        · gi_wp2
          go_end0
          refine ⟨⟨_, rfl⟩, .inl ?_⟩
          rw [hx, hnil]
          exact hJ3
        · gi_wp2
          go_end0
          exact ⟨⟨_, rfl⟩, .inr ⟨pre ++ [(rn, p, q)], by rw [hx]; simp, hJx3⟩⟩
end Go.Proofs.YtkenjojkpdeooaaGreatDoor.Units
end
section
set_option linter.unusedVariables false
set_option linter.unusedSimpArgs false
set_option linter.constructorNameAsVariable false
namespace Go.Proofs.YtkenjojkpdeooaaGreatDoor.Units
open Go.RowKit Go.Shelf Go.Proofs

def edgesLow (ops : Array Oper) : Bool := (List.range ops.size).all fun i => match ops[i]? with
  | some o => o.after.toList.all fun e => !Region.binds .any e || Nat.blt e.on i
  | none => false
theorem edgesLow_spec {ops : Array Oper} (h : edgesLow ops = true) {i : Nat} {o : Oper} (hi : ops[i]? = some o) {e : Edge} (he : e ∈ o.after) (hb : Region.binds .any e = true) : e.on < i := by
  have h1 := List.all_eq_true.1 h i (List.mem_range.2 (Array.getElem?_eq_some_iff.1 hi).1)
  rw [hi] at h1
  have h2 := List.all_eq_true.1 h1 e (Array.mem_toList_iff.2 he)
  rw [hb] at h2
  have h2' : Nat.blt e.on i = true := by simpa only [Bool.not_true, Bool.false_or] using h2
  have h3 : Nat.ble (e.on + 1) i = true := h2'
  have := Nat.le_of_ble_eq_true h3
  omega
theorem not_listed {listed : Array Bool} {i : Nat} (h : listed.getD i true = false) : listed.getD i false = false ∧ i < listed.size := by
  by_cases hl : i < listed.size
  · refine ⟨?_, hl⟩
    simp only [Array.getD_eq_getD_getElem?, Array.getElem?_eq_getElem hl, Option.getD_some] at h ⊢
    exact h
  · rw [Array.getD_eq_getD_getElem?, Array.getElem?_eq_none (by omega)] at h
    cases h
theorem is_listed {listed : Array Bool} {n i : Nat} (hs : listed.size = n) (hi : i < n) (h : listed.getD i true ≠ false) : listed.getD i false = true := by
  have hl : i < listed.size := by omega
  simp only [Array.getD_eq_getD_getElem?, Array.getElem?_eq_getElem hl, Option.getD_some] at h ⊢
  cases hb : listed[i]
  · exact absurd hb h
  · rfl
theorem wpAnyIn_inv {F : Fence} {n : Nat} {P : Program} {ops : Array Oper} {Q : Exit → Act → World → Prop} (hedge : edgesLow ops = true) (I : Array Bool → Act → World → Prop)
    (hstep : ∀ (i : Nat) (o : Oper) (listed : Array Bool) (a : Act) (w : World), ops[i]? = some o → listed.getD i false = false → i < listed.size → (∀ e ∈ o.after, Region.binds .any e = true → listed.getD e.on false = true) → I listed a w → wpOpIn F n P ops Q i (I (listed.setIfInBounds i true)) a w)
    (hend : ∀ (listed : Array Bool) (a : Act) (w : World), (∀ i, i < ops.size → listed.getD i false = true) → I listed a w → Q .normal a w) :
    ∀ (fuel : Nat) (T : List Nat) (listed : Array Bool) (a : Act) (w : World), T.length = fuel → T.Pairwise (· < ·) → listed.size = ops.size → (∀ i, i < ops.size → (listed.getD i true = false ↔ i ∈ T)) → (∀ i ∈ T, i < ops.size) → I listed a w → wpAnyIn F n P .any ops Q fuel listed a w
  | 0, T, listed, a, w, hT, hinc, hs, hun, hlt, hI => by
    obtain rfl : T = [] := List.length_eq_zero_iff.1 hT
    refine ⟨?_, hend listed a w (fun i hi => is_listed hs hi (fun h => by simpa using (hun i hi).1 h)) hI⟩
    cases hr : Region.ready .any ops listed with
    | nil => rfl
    | cons j js =>
      have hj : j ∈ Region.ready .any ops listed := by rw [hr]; simp
      obtain ⟨h1, o, h2, _⟩ := mem_ready.1 hj
      simpa using (hun j (Array.getElem?_eq_some_iff.1 h2).1).1 h1
  | fuel + 1, T, listed, a, w, hT, hinc, hs, hun, hlt, hI => by
    obtain ⟨t0, T', rfl⟩ : ∃ t0 T', T = t0 :: T' := by
      cases T with
      | nil => simp at hT
      | cons t0 T' => exact ⟨t0, T', rfl⟩
    refine ⟨fun hr => ?_, fun i hi => ?_⟩
    · exfalso
      have h0 := hlt t0 (by simp)
      obtain ⟨o, ho⟩ : ∃ o, ops[t0]? = some o := ⟨_, Array.getElem?_eq_getElem h0⟩
      have : t0 ∈ Region.ready .any ops listed := by
        rw [mem_ready]
        refine ⟨(hun t0 h0).2 (by simp), o, ho, fun e he hb => ?_⟩
        have hl := edgesLow_spec hedge ho he hb
        refine is_listed hs (by omega) (fun hne => ?_)
        rcases List.mem_cons.1 ((hun e.on (by omega)).1 hne) with h | h
        · omega
        · have := (List.pairwise_cons.1 hinc).1 _ h
          omega
      rw [hr] at this
      cases this
    · obtain ⟨h1, o, h2, h3⟩ := mem_ready.1 hi
      have hisz := (Array.getElem?_eq_some_iff.1 h2).1
      have hmem := (hun i hisz).1 h1
      obtain ⟨A, B, hAB⟩ := List.append_of_mem hmem
      obtain ⟨h4, h5⟩ := not_listed h1
      refine wpOpIn_mono (fun a' w' hI' => ?_) (hstep i o listed a w h2 h4 h5 h3 hI)
      rw [hAB] at hT hinc hlt
      rw [List.pairwise_append] at hinc
      have notin : i ∉ A ++ B := fun h => by
        rcases List.mem_append.1 h with h | h
        · have := hinc.2.2 i h i (by simp); omega
        · have := (List.pairwise_cons.1 hinc.2.1).1 i h; omega
      refine wpAnyIn_inv hedge I hstep hend fuel (A ++ B) _ a' w' ?_ ?_ (by simp [hs]) ?_ ?_ hI'
      · rw [List.length_append] at hT ⊢
        simp only [List.length_cons] at hT
        omega
      · rw [List.pairwise_append]
        exact ⟨hinc.1, (List.pairwise_cons.1 hinc.2.1).2, fun u hu v hv => hinc.2.2 u hu v (by simp [hv])⟩
      · intro j hj
        by_cases e : i = j
        · subst e
          constructor
          · intro h
            have := (not_listed h).1
            simp [Array.getD_eq_getD_getElem?, h5] at this
          · intro h
            exact absurd h notin
        · rw [getD_set_ne true e, hun j hj, hAB]
          constructor
          · intro h
            rcases List.mem_append.1 h with h | h
            · exact List.mem_append_left _ h
            · rcases List.mem_cons.1 h with rfl | h
              · exact absurd rfl e
              · exact List.mem_append_right _ h
          · intro h
            rcases List.mem_append.1 h with h | h
            · exact List.mem_append_left _ h
            · exact List.mem_append_right _ (by simp [h])
      · intro j hj
        refine hlt j ?_
        rcases List.mem_append.1 hj with h | h
        · exact List.mem_append_left _ h
        · exact List.mem_append_right _ (by simp [h])
theorem region_inv {F : Fence} {n : Nat} {P : Program} {id : Nat} {ops : Array Oper} {Q : Exit → Act → World → Prop} {a : Act} {w : World} (hm : P.follows .mixedOrders = true) (hedge : edgesLow ops = true) (I : Array Bool → Act → World → Prop)
    (hstep : ∀ (i : Nat) (o : Oper) (listed : Array Bool) (a : Act) (w : World), ops[i]? = some o → listed.getD i false = false → i < listed.size → (∀ e ∈ o.after, Region.binds .any e = true → listed.getD e.on false = true) → I listed a w → wpOpIn F n P ops Q i (I (listed.setIfInBounds i true)) a w)
    (hend : ∀ (listed : Array Bool) (a : Act) (w : World), (∀ i, i < ops.size → listed.getD i false = true) → I listed a w → Q .normal a w)
    (h0 : I (Array.replicate ops.size false) a { w with drawn := w.drawn + 1 }) : (Code.region id ops true).wpIn F n P Q a w := by
  refine wpIn_region_any hm (wpAnyIn_inv hedge I hstep hend ops.size (List.range ops.size) _ a _ (by simp) List.pairwise_lt_range (by simp) (fun i hi => ?_) (fun i hi => List.mem_range.1 hi) h0)
  simp [Array.getD_eq_getD_getElem?, hi]
theorem wpOpIn_value {F : Fence} {n : Nat} {P : Program} {ops : Array Oper} {Q : Exit → Act → World → Prop} {K : Act → World → Prop} {a : Act} {w : World} {i : Nat} {o : Oper} {v : Value} (hi : ops[i]? = some o) (hg : o.guard = none) (hc : o.about P w a.eval = none)
    (hr : (o.semAt F.round a.eval).run P w = .ok (.value v) w) (h : K (a.put o.dst v) w) : wpOpIn F n P ops Q i K a w := by
  have hw : Region.wanted o (yielded ops a.tmps) = true := by unfold Region.wanted; rw [hg]
  unfold wpOpIn
  rw [hi]
  dsimp only
  rw [if_pos hw]
  refine ⟨fun f hf => (by rw [hc] at hf; cases hf), ?_⟩
  rw [hr]
  exact h
theorem wpOpIn_skip {F : Fence} {n : Nat} {P : Program} {ops : Array Oper} {Q : Exit → Act → World → Prop} {K : Act → World → Prop} {a : Act} {w w' : World} {i : Nat} {o : Oper} (hi : ops[i]? = some o) (hg : o.guard = none) (hc : o.about P w a.eval = none)
    (hr : (o.semAt F.round a.eval).run P w = .ok .skip w') (h : K (a.put o.dst undef) w') : wpOpIn F n P ops Q i K a w := by
  have hw : Region.wanted o (yielded ops a.tmps) = true := by unfold Region.wanted; rw [hg]
  unfold wpOpIn
  rw [hi]
  dsimp only
  rw [if_pos hw]
  refine ⟨fun f hf => (by rw [hc] at hf; cases hf), ?_⟩
  rw [hr]
  exact h
theorem field0 (b : Nat) (w : World) (f : Nat) (hf : f < 3) : (Instr.fieldAt 129 (.pointer (some ⟨b, 0, none⟩)) f).run Tryz.prog w = .ok (.pointer (some ⟨b, f, none⟩)) w := by
  match f, hf with
  | 0, _ => simp [Instr.fieldAt, Instr.sureAddr, go_sem]
  | 1, _ => simp [Instr.fieldAt, Instr.sureAddr, go_sem]
  | 2, _ => simp [Instr.fieldAt, Instr.sureAddr, go_sem]
theorem load21 (b o : Nat) (w : World) (v : Value) (h : w.cell? ⟨b, o, none⟩ = some v) : (Instr.loadAt 21 (.pointer (some ⟨b, o, none⟩))).run Tryz.prog w = .ok v w := by
  simp [Instr.loadAt, Instr.sureAddr, loadVar, go_sem, h]
theorem load3 (b o : Nat) (w : World) (v : Value) (h : w.cell? ⟨b, o, none⟩ = some v) : (Instr.loadAt 3 (.pointer (some ⟨b, o, none⟩))).run Tryz.prog w = .ok v w := by
  simp [Instr.loadAt, Instr.sureAddr, loadVar, go_sem, h]
theorem store21 (b o : Nat) (w : World) (k : IntKind) (x : Int) (v : Value) (h : w.cell? ⟨b, o, none⟩ = some v) (hf : w.frozen? ⟨b, o, none⟩ = false) : (Instr.storeAt 21 (.pointer (some ⟨b, o, none⟩)) (.int k x)).run Tryz.prog w = .ok () (w.setCell ⟨b, o, none⟩ (.int k x)) := by
  simp [Instr.storeAt, Instr.sureAddr, storeVar, go_sem, h, hf]
theorem store3 (b o : Nat) (w : World) (k : IntKind) (x : Int) (v : Value) (h : w.cell? ⟨b, o, none⟩ = some v) (hf : w.frozen? ⟨b, o, none⟩ = false) : (Instr.storeAt 3 (.pointer (some ⟨b, o, none⟩)) (.int k x)).run Tryz.prog w = .ok () (w.setCell ⟨b, o, none⟩ (.int k x)) := by
  simp [Instr.storeAt, Instr.sureAddr, storeVar, go_sem, h, hf]
theorem store4 (b o : Nat) (w : World) (x : Bool) (v : Value) (h : w.cell? ⟨b, o, none⟩ = some v) (hf : w.frozen? ⟨b, o, none⟩ = false) : (Instr.storeAt 4 (.pointer (some ⟨b, o, none⟩)) (.bool x)).run Tryz.prog w = .ok () (w.setCell ⟨b, o, none⟩ (.bool x)) := by
  simp [Instr.storeAt, Instr.sureAddr, storeVar, go_sem, h, hf]
end Go.Proofs.YtkenjojkpdeooaaGreatDoor.Units
end
section
set_option linter.unusedVariables false
set_option linter.unusedSimpArgs false
set_option linter.constructorNameAsVariable false
namespace Go.Proofs.YtkenjojkpdeooaaGreatDoor.Units
open Go.RowKit Go.Shelf Go.Proofs
attribute [local go_sem] Oper.semAt_some

theorem units95 (s : ByteArray) (w : World) : CallsIn Fence.wide 0 Tryz.prog 95 #[.string s] w fun e w' => e = .returned (.func (.func 128) #[] #[.pointer (some ⟨w.heap.size, 0, none⟩)]) ∧ w' = w.alloc (.cells #[.string s] 9) := by
  refine callsIn_of_wp Tryz.func95 rfl trivial ?_ rfl
  simp only [Tryz.ntmps95, List.size_toArray, List.length_cons, List.length_nil, Nat.reduceAdd, Nat.reduceSub, Array.replicate_succ, Array.replicate_zero, List.push_toArray, List.append_toArray, List.nil_append, List.cons_append]
  gi_wp2
  go_ret
  exact ⟨rfl, rfl⟩

structure AtI (n : Nat) (i : Int) (s : ByteArray) (k : Int) (r p q : Int) (ok : Bool) (W : World) : Prop where
  b0 : W.heap[n]? = some (.cells #[.int .i64 k] 3 (0, 0))
  b1 : W.heap[n + 1]? = some (.cells #[.int .i32 r] 21 (0, 0))
  b2 : W.heap[n + 1 + 1]? = some (.cells #[.int .i64 p] 3 (0, 0))
  b3 : W.heap[n + 1 + 1 + 1]? = some (.cells #[.int .i64 q] 3 (0, 0))
  b4 : W.heap[n + 1 + 1 + 1 + 1]? = some (.cells #[.bool ok] 4 (0, 0))
theorem AtI.below {n : Nat} {i : Int} {s : ByteArray} {k : Int} {r p q : Int} {ok : Bool} {m : Nat} {A W : World} (h : AtI n i s k r p q ok A) (hb : Below m A W) (hm : n + 5 ≤ m) : AtI n i s k r p q ok W :=
  ⟨(hb.block _ (by omega)).trans h.b0, (hb.block _ (by omega)).trans h.b1, (hb.block _ (by omega)).trans h.b2, (hb.block _ (by omega)).trans h.b3, (hb.block _ (by omega)).trans h.b4⟩
theorem AtI.facts {n : Nat} {i : Int} {s : ByteArray} {k : Int} {r p q : Int} {ok : Bool} {A : World} (h : AtI n i s k r p q ok A) :
    A.cell? ⟨n, 0, none⟩ = some (.int .i64 k) ∧ A.cell? ⟨n + 1, 0, none⟩ = some (.int .i32 r) ∧ A.cell? ⟨n + 1 + 1, 0, none⟩ = some (.int .i64 p) ∧ A.cell? ⟨n + 1 + 1 + 1, 0, none⟩ = some (.int .i64 q) ∧ A.cell? ⟨n + 1 + 1 + 1 + 1, 0, none⟩ = some (.bool ok) ∧
    A.frozen? ⟨n, 0, none⟩ = false ∧ A.frozen? ⟨n + 1, 0, none⟩ = false ∧ A.frozen? ⟨n + 1 + 1, 0, none⟩ = false ∧ A.frozen? ⟨n + 1 + 1 + 1, 0, none⟩ = false ∧ A.frozen? ⟨n + 1 + 1 + 1 + 1, 0, none⟩ = false := by
  simp [World.cell?, World.frozen?, h.b0, h.b1, h.b2, h.b3, h.b4]

theorem AtI.set0 {n : Nat} {i : Int} {s : ByteArray} {k : Int} {r p q : Int} {ok : Bool} {A : World} (h : AtI n i s k r p q ok A) (v : Int) : AtI n i s v r p q ok (A.setCell ⟨n, 0, none⟩ (.int .i64 v)) :=
  ⟨(set_blk h.b0 0 _).trans (by simp), (Below.heap_setCell _ _ _ _ (by simp)).trans h.b1, (Below.heap_setCell _ _ _ _ (by simp <;> omega)).trans h.b2, (Below.heap_setCell _ _ _ _ (by simp <;> omega)).trans h.b3, (Below.heap_setCell _ _ _ _ (by simp <;> omega)).trans h.b4⟩
theorem AtI.set1 {n : Nat} {i : Int} {s : ByteArray} {k : Int} {r p q : Int} {ok : Bool} {A : World} (h : AtI n i s k r p q ok A) (v : Int) : AtI n i s k v p q ok (A.setCell ⟨n + 1, 0, none⟩ (.int .i32 v)) :=
  ⟨(Below.heap_setCell _ _ _ _ (by simp)).trans h.b0, (set_blk h.b1 0 _).trans (by simp), (Below.heap_setCell _ _ _ _ (by simp)).trans h.b2, (Below.heap_setCell _ _ _ _ (by simp <;> omega)).trans h.b3, (Below.heap_setCell _ _ _ _ (by simp <;> omega)).trans h.b4⟩
theorem AtI.set2 {n : Nat} {i : Int} {s : ByteArray} {k : Int} {r p q : Int} {ok : Bool} {A : World} (h : AtI n i s k r p q ok A) (v : Int) : AtI n i s k r v q ok (A.setCell ⟨n + 1 + 1, 0, none⟩ (.int .i64 v)) :=
  ⟨(Below.heap_setCell _ _ _ _ (by simp <;> omega)).trans h.b0, (Below.heap_setCell _ _ _ _ (by simp)).trans h.b1, (set_blk h.b2 0 _).trans (by simp), (Below.heap_setCell _ _ _ _ (by simp)).trans h.b3, (Below.heap_setCell _ _ _ _ (by simp <;> omega)).trans h.b4⟩
theorem AtI.set3 {n : Nat} {i : Int} {s : ByteArray} {k : Int} {r p q : Int} {ok : Bool} {A : World} (h : AtI n i s k r p q ok A) (v : Int) : AtI n i s k r p v ok (A.setCell ⟨n + 1 + 1 + 1, 0, none⟩ (.int .i64 v)) :=
  ⟨(Below.heap_setCell _ _ _ _ (by simp <;> omega)).trans h.b0, (Below.heap_setCell _ _ _ _ (by simp <;> omega)).trans h.b1, (Below.heap_setCell _ _ _ _ (by simp)).trans h.b2, (set_blk h.b3 0 _).trans (by simp), (Below.heap_setCell _ _ _ _ (by simp)).trans h.b4⟩
theorem AtI.set4 {n : Nat} {i : Int} {s : ByteArray} {k : Int} {r p q : Int} {ok : Bool} {A : World} (h : AtI n i s k r p q ok A) (v : Bool) : AtI n i s k r p q v (A.setCell ⟨n + 1 + 1 + 1 + 1, 0, none⟩ (.bool v)) :=
  ⟨(Below.heap_setCell _ _ _ _ (by simp <;> omega)).trans h.b0, (Below.heap_setCell _ _ _ _ (by simp <;> omega)).trans h.b1, (Below.heap_setCell _ _ _ _ (by simp <;> omega)).trans h.b2, (Below.heap_setCell _ _ _ _ (by simp)).trans h.b3, (set_blk h.b4 0 _).trans (by simp)⟩
theorem Hi.alloc {n B : Nat} (W : World) (o : Obj) (hB : B < W.heap.size) : Hi n B W (W.alloc o) := ⟨by simp, fun k _ hk => Below.heap_alloc _ _ _ hk, Below.heap_alloc _ _ _ hB⟩
theorem Hi.setCell {n B : Nat} (W : World) (a : Addr) (v : Value) (ha : a.block < n) (hB : B ≠ a.block) : Hi n B W (W.setCell a v) :=
  ⟨by simp [World.setCell], fun k hk _ => Below.heap_setCell _ _ _ _ (by omega), Below.heap_setCell _ _ _ _ hB⟩
theorem allocs_old : ∀ (os : List Obj) (w : World) (k : Nat), k < w.heap.size → (os.foldl World.alloc w).heap[k]? = w.heap[k]?
  | [], w, k, _ => rfl
  | o :: r, w, k, h => (allocs_old r (w.alloc o) k (by simp; omega)).trans (Below.heap_alloc w o k h)
theorem allocs_get : ∀ (os : List Obj) (w : World) (j : Nat) (o : Obj), os[j]? = some o → (os.foldl World.alloc w).heap[w.heap.size + j]? = some o
  | [], w, j, o, h => by simp at h
  | x :: r, w, 0, o, h => by
    simp at h
    subst h
    exact (allocs_old r (w.alloc x) _ (by simp)).trans (World.alloc_heap_new w x)
  | x :: r, w, j + 1, o, h => by
    have := allocs_get r (w.alloc x) j o (by simpa using h)
    rw [World.size_alloc] at this
    rw [show w.heap.size + (j + 1) = w.heap.size + 1 + j by omega]
    exact this
theorem allocs_below : ∀ (os : List Obj) (w : World) (n : Nat), n ≤ w.heap.size → Below n w (os.foldl World.alloc w)
  | [], w, n, _ => Below.refl _ _
  | o :: r, w, n, h => ((Below.refl n w).alloc h o).trans (allocs_below r (w.alloc o) n (by simp; omega))
theorem allocs_size : ∀ (os : List Obj) (w : World), (os.foldl World.alloc w).heap.size = w.heap.size + os.length
  | [], w => rfl
  | o :: r, w => by rw [List.foldl_cons, allocs_size r]; simp; omega

def atV : Option (Nat × Nat × Nat) → Value
  | some (r, p, q) => .tuple #[.int .i32 (r : Int), .int .i64 (p : Int), .int .i64 (q : Int), .bool true]
  | none => .tuple #[.int .i32 0, .int .i64 0, .int .i64 0, .bool false]
/-- What the round's last region has read. -/
def rval (b : Nat) (r p q : Int) : Nat → Value
  | 0 => .pointer (some ⟨b, 0, none⟩) | 1 => .int .i32 r | 2 => .pointer (some ⟨b, 1, none⟩) | 3 => .int .i64 p | 4 => .pointer (some ⟨b, 2, none⟩) | _ => .int .i64 q
/-- What it has done so far. -/
structure Rg (n b : Nat) (i : Int) (s : ByteArray) (z r p q : Int) (W0 : World) (L : Array Bool) (a : Act) (w : World) : Prop where
  size : a.tmps.size = 22
  p4 : a.tmps.getD 4 undef = .pointer (some ⟨n + 1, 0, none⟩)
  p5 : a.tmps.getD 5 undef = .pointer (some ⟨n + 1 + 1, 0, none⟩)
  p6 : a.tmps.getD 6 undef = .pointer (some ⟨n + 1 + 1 + 1, 0, none⟩)
  p7 : a.tmps.getD 7 undef = .pointer (some ⟨n + 1 + 1 + 1 + 1, 0, none⟩)
  p8 : a.tmps.getD 8 undef = .pointer (some ⟨b, 0, none⟩)
  rd : ∀ j, j < 6 → L.getD j false = true → a.tmps.getD (14 + j) undef = rval b r p q j
  blk : w.heap[b]? = some (.cells #[.int .i32 r, .int .i64 p, .int .i64 q] 129 (0, 0))
  hi : Hi (n + 6) (n + 1 + 1 + 1 + 1 + 1) W0 w
  bel : Below n W0 w
  at' : ∃ r' p' q' ok, AtI n i s z r' p' q' ok w ∧ (L.getD 6 false = true → r' = r) ∧ (L.getD 7 false = true → p' = p) ∧ (L.getD 8 false = true → q' = q) ∧ (L.getD 9 false = true → ok = true)
theorem getD_set {L : Array Bool} {j m : Nat} (hj : j < L.size) : (L.setIfInBounds j true).getD m false = true → m = j ∨ L.getD m false = true := fun h => by
  by_cases e : j = m
  · exact .inl e.symm
  · exact .inr (by rw [getD_set_ne false e] at h; exact h)
theorem tmps_put {a : Act} {d m : Nat} {v : Value} (h : d ≠ m) : (a.put (some d) v).tmps.getD m undef = a.tmps.getD m undef := by
  simp [Act.put, Array.getD_eq_getD_getElem?, Array.getElem?_setIfInBounds_ne h]
theorem tmps_put_self {a : Act} {d : Nat} {v : Value} (h : d < a.tmps.size) : (a.put (some d) v).tmps.getD d undef = v := by
  simp [Act.put, Array.getD_eq_getD_getElem?, h]

section
variable {n b : Nat} {i : Int} {s : ByteArray} {z r p q : Int} {W0 : World} {L : Array Bool} {a : Act} {w : World}
theorem Rg.read (h : Rg n b i s z r p q W0 L a w) (j : Nat) (hj : j < 6) (hl : j < L.size) : Rg n b i s z r p q W0 (L.setIfInBounds j true) (a.put (some (14 + j)) (rval b r p q j)) w := by
  refine ⟨by rw [show (a.put (some (14 + j)) (rval b r p q j)).tmps.size = a.tmps.size by simp [Act.put]]; exact h.size, ?_, ?_, ?_, ?_, ?_, fun m hm hL => ?_, h.blk, h.hi, h.bel, ?_⟩
  · rw [tmps_put (by omega)]; exact h.p4
  · rw [tmps_put (by omega)]; exact h.p5
  · rw [tmps_put (by omega)]; exact h.p6
  · rw [tmps_put (by omega)]; exact h.p7
  · rw [tmps_put (by omega)]; exact h.p8
  · by_cases e : j = m
    · subst e
      exact tmps_put_self (by rw [h.size]; omega)
    · rw [tmps_put (by omega)]
      exact h.rd m hm ((getD_set hl hL).resolve_left (fun e' => e e'.symm))
  · obtain ⟨r', p', q', ok, k1, k2, k3, k4, k5⟩ := h.at'
    exact ⟨r', p', q', ok, k1, fun x => k2 ((getD_set hl x).resolve_left (by omega)), fun x => k3 ((getD_set hl x).resolve_left (by omega)), fun x => k4 ((getD_set hl x).resolve_left (by omega)), fun x => k5 ((getD_set hl x).resolve_left (by omega))⟩
theorem Rg.write (h : Rg n b i s z r p q W0 L a w) (hb : n + 6 ≤ b) (j : Nat) (hj : 6 ≤ j) (hl : j < L.size) (c : Nat) (hc : n + 1 ≤ c ∧ c ≤ n + 4) (v u : Value)
    (hat : ∃ r' p' q' ok, AtI n i s z r' p' q' ok (w.setCell ⟨c, 0, none⟩ v) ∧ ((L.setIfInBounds j true).getD 6 false = true → r' = r) ∧ ((L.setIfInBounds j true).getD 7 false = true → p' = p) ∧ ((L.setIfInBounds j true).getD 8 false = true → q' = q) ∧ ((L.setIfInBounds j true).getD 9 false = true → ok = true)) :
    Rg n b i s z r p q W0 (L.setIfInBounds j true) (a.put none u) (w.setCell ⟨c, 0, none⟩ v) :=
  ⟨h.size, h.p4, h.p5, h.p6, h.p7, h.p8, fun m hm hL => h.rd m hm ((getD_set hl hL).resolve_left (by omega)), (Below.heap_setCell _ _ _ _ (by show b ≠ c; omega)).trans h.blk, h.hi.trans (Hi.setCell _ _ _ (by show c < _; omega) (by show _ ≠ c; omega)), h.bel.setCell (p := ⟨c, 0, none⟩) (by show n ≤ c; omega) _, hat⟩
end
theorem run_val {s : Sem Value} {v : Value} {w w' : World} {P : Program} (h : s.run P w = .ok v w') : (do pure (Next.value (← s)) : Sem Next).run P w = .ok (.value v) w' := by
  simp only [Sem.run_bind, h, Result.andThen_ok, Sem.run_pure]
theorem run_unit {s : Sem Unit} {w w' : World} {P : Program} (h : s.run P w = .ok () w') : (do s; pure Next.skip : Sem Next).run P w = .ok .skip w' := by
  simp only [Sem.run_bind, h, Result.andThen_ok, Sem.run_pure]

theorem leave50 {n : Nat} {i : Int} {s : ByteArray} {k r p q : Int} {ok : Bool} {w W : World} {D : Nat} {tmps : Array Value} (h : AtI n i s k r p q ok W) (hb : Below n w W) (hK : W.heap[D]? = some (.deferred (some []))) (hD : n + 5 ≤ D)
    (p4 : tmps.getD 4 undef = .pointer (some ⟨n + 1, 0, none⟩)) (p5 : tmps.getD 5 undef = .pointer (some ⟨n + 1 + 1, 0, none⟩)) (p6 : tmps.getD 6 undef = .pointer (some ⟨n + 1 + 1 + 1, 0, none⟩)) (p7 : tmps.getD 7 undef = .pointer (some ⟨n + 1 + 1 + 1 + 1, 0, none⟩)) :
    bodyPostM Fence.wide 0 Tryz.prog Tryz.f50 (fun e w' => e = .returned (.tuple #[.int .i32 r, .int .i64 p, .int .i64 q, .bool ok]) ∧ Below n w w') .ret { tmps, defers := [{ target := .collected D, args := #[] }] } W := by
  refine ⟨by simp, .inl ⟨_, _, rfl, run_takeDeferred hK, ?_⟩⟩
  have hb2 : Below n W (W.putObj D (.deferred none)) := ⟨rfl, rfl, rfl, by simp, fun k hk => World.putObj_heap_other (by omega)⟩
  have h2 := h.below (m := n + 5) (W := W.putObj D (.deferred none)) ⟨rfl, rfl, rfl, by simp, fun k hk => World.putObj_heap_other (by omega)⟩ (Nat.le_refl _)
  obtain ⟨c0, c1, c2, c3, c4, _⟩ := h2.facts
  refine ⟨.tuple #[.int .i32 r, .int .i64 p, .int .i64 q, .bool ok], ?_, rfl, hb.trans hb2⟩
  have e : Tryz.f50.results = #[.cell 4 21, .cell 5 3, .cell 6 3, .cell 7 4] := rfl
  unfold results
  rw [e]
  rw [Array.getD_eq_getD_getElem?] at p4 p5 p6 p7
  simp [p4, p5, p6, p7, loadVar, asAddr, go_sem, c1, c2, c3, c4]

set_option maxRecDepth 100000 in
set_option maxHeartbeats 2000000 in
theorem at50 (s : ByteArray) (hs : s.size ≤ 140737488355328) (i : Nat) (hi63 : i < 9223372036854775808) (w : World) :
    CallsIn Fence.wide 0 Tryz.prog 50 #[.string s, .int .i64 (i : Int)] w fun e w' => e = .returned (atV (unitsF s s.size 0)[i]?) ∧ Below w.heap.size w w' := by
  refine callsIn_of_wp_marks Tryz.func50 rfl trivial ?_ rfl
  simp only [Tryz.ntmps50, List.size_toArray, List.length_cons, List.length_nil, Nat.reduceAdd, Nat.reduceSub, Array.replicate_succ, Array.replicate_zero, List.push_toArray, List.append_toArray, List.nil_append, List.cons_append]
  gi_wp2
  refine ⟨trivial, rfl, (units95 s _).mono ?_⟩
  rintro e w' ⟨rfl, rfl⟩
  gi_wp2
  have hsz := allocs_size [.cells #[.int .i64 (i : Int)] 3 (0, 0), .cells #[.int .i32 0] 21 (0, 0), .cells #[.int .i64 0] 3 (0, 0), .cells #[.int .i64 0] 3 (0, 0), .cells #[.bool false] 4 (0, 0), .cells #[.string s] 9 (0, 0)] w
  have hbw := allocs_below [.cells #[.int .i64 (i : Int)] 3 (0, 0), .cells #[.int .i32 0] 21 (0, 0), .cells #[.int .i64 0] 3 (0, 0), .cells #[.int .i64 0] 3 (0, 0), .cells #[.bool false] 4 (0, 0), .cells #[.string s] 9 (0, 0)] w _ (Nat.le_refl _)
  have hget := allocs_get [.cells #[.int .i64 (i : Int)] 3 (0, 0), .cells #[.int .i32 0] 21 (0, 0), .cells #[.int .i64 0] 3 (0, 0), .cells #[.int .i64 0] 3 (0, 0), .cells #[.bool false] 4 (0, 0), .cells #[.string s] 9 (0, 0)] w
  simp only [List.foldl_cons, List.foldl_nil, List.length_cons, List.length_nil] at hsz hbw hget
  generalize (((((w.alloc (Obj.cells #[Value.int IntKind.i64 (i : Int)] 3)).alloc (Obj.cells #[Value.int IntKind.i32 0] 21)).alloc (Obj.cells #[Value.int IntKind.i64 0] 3)).alloc (Obj.cells #[Value.int IntKind.i64 0] 3)).alloc (Obj.cells #[Value.bool false] 4)).alloc (Obj.cells #[Value.string s] 9) = W0 at hsz hbw hget
  have hA0 : AtI w.heap.size i s i 0 0 0 false W0 := ⟨hget 0 _ rfl, hget 1 _ rfl, hget 2 _ rfl, hget 3 _ rfl, hget 4 _ rfl⟩
  have hbox := hget 5 _ rfl
  refine wpIn_iter (p := 11) (gf := 128) (lb := #[.pointer (some ⟨w.heap.size + 1 + 1 + 1 + 1 + 1, 0, none⟩)]) rfl (enters_of Tryz.func128 (by kernel_rfl) rfl) (iter128 (w.heap.size + 1 + 1 + 1 + 1 + 1) s hs W0 hbox) (by omega)
    (fun pre W => AtI w.heap.size i s ((i : Int) - pre.length) 0 0 0 false W ∧ pre.length ≤ i ∧ Below w.heap.size w W)
    (fun pre W => ∃ r p q : Nat, (unitsF s s.size 0)[i]? = some (r, p, q) ∧ (∃ k, AtI w.heap.size i s k r p q true W) ∧ Below w.heap.size w W)
    ?_ ?_ ⟨by simpa using hA0, by simp, hbw⟩
    (fun x a' W => ∃ b, w.heap.size + 6 ≤ b ∧ W.heap[b]? = some (.cells #[.int .i32 (x.1 : Int), .int .i64 (x.2.1 : Int), .int .i64 (x.2.2 : Int)] 129 (0, 0)) ∧ a' = { tmps := #[Value.string s, Value.int IntKind.i64 (i : Int), undef, Value.pointer (some { block := w.heap.size, off := 0 }),
      Value.pointer (some { block := w.heap.size + 1, off := 0 }), Value.pointer (some { block := w.heap.size + 1 + 1, off := 0 }), Value.pointer (some { block := w.heap.size + 1 + 1 + 1, off := 0 }), Value.pointer (some { block := w.heap.size + 1 + 1 + 1 + 1, off := 0 }),
      .pointer (some ⟨b, 0, none⟩), Value.string s, .func (.func 128) #[] #[.pointer (some ⟨w.heap.size + 1 + 1 + 1 + 1 + 1, 0, none⟩)], enc x, undef, undef, undef, undef, undef, undef, undef, undef, undef, undef], defers := [] }) ?_ ?assign ?body ?done ?stop
  · rintro pre A A' ⟨h1, h2, h3⟩ hb
    exact ⟨h1.below hb (by omega), h2, h3.trans (hb.mono (by omega))⟩
  · rintro pre A A' ⟨r, p, q, h1, ⟨k, h2⟩, h3⟩ hb
    exact ⟨r, p, q, h1, ⟨k, h2.below hb (by omega)⟩, h3.trans (hb.mono (by omega))⟩
  · rintro l x a' A o hl ⟨b, h1, h2, h3⟩ ⟨r, hr⟩
    refine ⟨b, h1, ?_, h3⟩
    rw [World.putObj_heap_other]
    · exact h2
    · intro e
      rw [e, hr] at h2
      cases h2
  case assign =>
    rintro l pre ⟨rn, pn, qn⟩ W K ⟨h1, h2, h3⟩ hW hK
    have hl := allocs_get [.cells #[.int .i32 0, .int .i64 0, .int .i64 0] 129 (0, 0)] W 0 _ rfl
    dsimp only [enc]
    gi_wp2
    refine hK _ _ (Hi.alloc W _ (by omega)) ⟨h1.below ((Below.refl W.heap.size W).alloc (Nat.le_refl _) _) (by omega), h2, h3.trans ((Below.refl _ W).alloc (by omega) _)⟩ ⟨W.heap.size, by omega, World.alloc_heap_new _ _, rfl⟩
  case body =>
    rintro l pre ⟨rn, pn, qn⟩ a' W ⟨h1, h2, h3⟩ hW ⟨b, k0, k2, rfl⟩ hpre
    obtain ⟨c0, c1, c2, c3, c4, f0, f1, f2, f3, f4⟩ := h1.facts
    have d0 : W.cell? ⟨b, 0, none⟩ = some (.int .i32 (rn : Int)) := by simp [World.cell?, k2]
    have d1 : W.cell? ⟨b, 1, none⟩ = some (.int .i64 (pn : Int)) := by simp [World.cell?, k2]
    have d2 : W.cell? ⟨b, 2, none⟩ = some (.int .i64 (qn : Int)) := by simp [World.cell?, k2]
    dsimp only [enc]
    by_cases hi : pre.length = i
    · have hz : ((i : Int) - (pre.length : Int)) = 0 := by omega
      rw [hz] at c0
      gi_wp2
      refine region_inv (by kernel_rfl) (by kernel_rfl) (Rg w.heap.size b i s 0 rn pn qn W) ?step ?last ?init
      case init =>
        refine ⟨rfl, rfl, rfl, rfl, rfl, rfl, fun m hm hL => ?_, k2, ⟨Nat.le_refl _, fun _ _ _ => rfl, rfl⟩, ⟨rfl, rfl, rfl, Nat.le_refl _, fun _ _ => rfl⟩, 0, 0, 0, false, ?_, ?_⟩
        · simp [Array.getD_eq_getD_getElem?, Array.getElem?_replicate] at hL
          split at hL <;> simp at hL
        · exact ⟨by have := h1.b0; rw [hz] at this; exact this, h1.b1, h1.b2, h1.b3, h1.b4⟩
        · simp
      case last =>
        intro listed a' w' hall hR
        obtain ⟨r', p', q', ok, k1, e1, e2, e3, e4⟩ := hR.at'
        obtain rfl := e1 (hall 6 (by decide))
        obtain rfl := e2 (hall 7 (by decide))
        obtain rfl := e3 (hall 8 (by decide))
        obtain rfl := e4 (hall 9 (by decide))
        gi_wp2
        refine ⟨⟨rn, pn, qn, ?_, ⟨_, k1⟩, h3.trans hR.bel⟩, hR.hi⟩
        obtain ⟨t, ht⟩ := hpre
        rw [← ht, ← hi]
        simp
      case step =>
        intro j o listed a' w' ho hun hlt haft hR
        have hj : j < 10 := (Array.getElem?_eq_some_iff.1 ho).1
        have hcase : j = 0 ∨ j = 1 ∨ j = 2 ∨ j = 3 ∨ j = 4 ∨ j = 5 ∨ j = 6 ∨ j = 7 ∨ j = 8 ∨ j = 9 := by omega
        have b0 : w'.cell? ⟨b, 0, none⟩ = some (.int .i32 (rn : Int)) := by simp [World.cell?, hR.blk]
        have b1 : w'.cell? ⟨b, 1, none⟩ = some (.int .i64 (pn : Int)) := by simp [World.cell?, hR.blk]
        have b2 : w'.cell? ⟨b, 2, none⟩ = some (.int .i64 (qn : Int)) := by simp [World.cell?, hR.blk]
        obtain ⟨r', p', q', ok, k1, k2, k3, k4, k5⟩ := hR.at'
        obtain ⟨e0, e1, e2, e3, e4, g0, g1, g2, g3, g4⟩ := k1.facts
        rcases hcase with rfl | rfl | rfl | rfl | rfl | rfl | rfl | rfl | rfl | rfl
        · obtain rfl := Option.some.inj ho
          exact wpOpIn_value ho rfl rfl (run_val (by rw [show a'.eval (.tmp 8) = _ from hR.p8]; exact field0 b w' 0 (by decide))) (hR.read 0 (by decide) hlt)
        · obtain rfl := Option.some.inj ho
          have t := hR.rd 0 (by decide) (haft ⟨0, .data⟩ (by simp) rfl)
          exact wpOpIn_value ho rfl rfl (run_val (by rw [show a'.eval (.tmp 14) = _ from t]; exact load21 b 0 w' _ b0)) (hR.read 1 (by decide) hlt)
        · obtain rfl := Option.some.inj ho
          exact wpOpIn_value ho rfl rfl (run_val (by rw [show a'.eval (.tmp 8) = _ from hR.p8]; exact field0 b w' 1 (by decide))) (hR.read 2 (by decide) hlt)
        · obtain rfl := Option.some.inj ho
          have t := hR.rd 2 (by decide) (haft ⟨2, .data⟩ (by simp) rfl)
          exact wpOpIn_value ho rfl rfl (run_val (by rw [show a'.eval (.tmp 16) = _ from t]; exact load3 b 1 w' _ b1)) (hR.read 3 (by decide) hlt)
        · obtain rfl := Option.some.inj ho
          exact wpOpIn_value ho rfl rfl (run_val (by rw [show a'.eval (.tmp 8) = _ from hR.p8]; exact field0 b w' 2 (by decide))) (hR.read 4 (by decide) hlt)
        · obtain rfl := Option.some.inj ho
          have t := hR.rd 4 (by decide) (haft ⟨4, .data⟩ (by simp) rfl)
          exact wpOpIn_value ho rfl rfl (run_val (by rw [show a'.eval (.tmp 18) = _ from t]; exact load3 b 2 w' _ b2)) (hR.read 5 (by decide) hlt)
        · obtain rfl := Option.some.inj ho
          have t := hR.rd 1 (by decide) (haft ⟨1, .data⟩ (by simp) rfl)
          refine wpOpIn_skip ho rfl rfl (run_unit (by rw [show a'.eval (.tmp 4) = _ from hR.p4, show a'.eval (.tmp 15) = _ from t]; exact store21 _ 0 w' _ _ _ e1 g1)) (hR.write k0 6 (by decide) hlt _ (by omega) _ _ ⟨rn, p', q', ok, k1.set1 _, fun _ => rfl, fun x => k3 ((getD_set hlt x).resolve_left (by decide)), fun x => k4 ((getD_set hlt x).resolve_left (by decide)), fun x => k5 ((getD_set hlt x).resolve_left (by decide))⟩)
        · obtain rfl := Option.some.inj ho
          have t := hR.rd 3 (by decide) (haft ⟨3, .data⟩ (by simp) rfl)
          refine wpOpIn_skip ho rfl rfl (run_unit (by rw [show a'.eval (.tmp 5) = _ from hR.p5, show a'.eval (.tmp 17) = _ from t]; exact store3 _ 0 w' _ _ _ e2 g2)) (hR.write k0 7 (by decide) hlt _ (by omega) _ _ ⟨r', pn, q', ok, k1.set2 _, fun x => k2 ((getD_set hlt x).resolve_left (by decide)), fun _ => rfl, fun x => k4 ((getD_set hlt x).resolve_left (by decide)), fun x => k5 ((getD_set hlt x).resolve_left (by decide))⟩)
        · obtain rfl := Option.some.inj ho
          have t := hR.rd 5 (by decide) (haft ⟨5, .data⟩ (by simp) rfl)
          refine wpOpIn_skip ho rfl rfl (run_unit (by rw [show a'.eval (.tmp 6) = _ from hR.p6, show a'.eval (.tmp 19) = _ from t]; exact store3 _ 0 w' _ _ _ e3 g3)) (hR.write k0 8 (by decide) hlt _ (by omega) _ _ ⟨r', p', qn, ok, k1.set3 _, fun x => k2 ((getD_set hlt x).resolve_left (by decide)), fun x => k3 ((getD_set hlt x).resolve_left (by decide)), fun _ => rfl, fun x => k5 ((getD_set hlt x).resolve_left (by decide))⟩)
        · obtain rfl := Option.some.inj ho
          refine wpOpIn_skip ho rfl rfl (run_unit (by rw [show a'.eval (.tmp 7) = _ from hR.p7]; exact store4 _ 0 w' true _ e4 g4)) (hR.write k0 9 (by decide) hlt _ (by omega) _ _ ⟨r', p', q', true, k1.set4 _, fun x => k2 ((getD_set hlt x).resolve_left (by decide)), fun x => k3 ((getD_set hlt x).resolve_left (by decide)), fun x => k4 ((getD_set hlt x).resolve_left (by decide)), fun _ => rfl⟩)
    · have hz : ((i : Int) - (pre.length : Int)) ≠ 0 := by omega
      gi_wp2
      have hw : (i : Int) - (pre.length : Int) - 1 = (i : Int) - ((pre ++ [(rn, pn, qn)]).length : Int) := by
        rw [List.length_append, List.length_singleton]
        omega
      rw [hw]
      refine ⟨⟨h1.set0 _, by rw [List.length_append, List.length_singleton]; omega, h3.setCell (p := ⟨w.heap.size, 0, none⟩) (Nat.le_refl _) _⟩, ?_⟩
      exact Hi.setCell W _ _ (by show w.heap.size < _; omega) (by show _ ≠ w.heap.size; omega)
  case done =>
    rintro D W hD ⟨h1, h2, h3⟩ hK
    obtain ⟨c0, c1, c2, c3, c4, f0, f1, f2, f3, f4⟩ := h1.facts
    have hnone : (unitsF s s.size 0)[i]? = none := List.getElem?_eq_none h2
    gi_wp2
    rw [hnone]
    have hA := (((h1.set1 0).set2 0).set3 0).set4 false
    have hB := (((h3.setCell (p := ⟨w.heap.size + 1, 0, none⟩) (by simp) (.int .i32 0)).setCell (p := ⟨w.heap.size + 1 + 1, 0, none⟩) (by simp; omega) (.int .i64 0)).setCell (p := ⟨w.heap.size + 1 + 1 + 1, 0, none⟩) (by simp; omega) (.int .i64 0)).setCell (p := ⟨w.heap.size + 1 + 1 + 1 + 1, 0, none⟩) (by simp; omega) (.bool false)
    have hK2 := (Below.heap_setCell _ ⟨w.heap.size + 1 + 1 + 1 + 1, 0, none⟩ (.bool false) D (by simp; omega)).trans ((Below.heap_setCell _ ⟨w.heap.size + 1 + 1 + 1, 0, none⟩ (.int .i64 0) D (by simp; omega)).trans ((Below.heap_setCell _ ⟨w.heap.size + 1 + 1, 0, none⟩ (.int .i64 0) D (by simp; omega)).trans ((Below.heap_setCell W ⟨w.heap.size + 1, 0, none⟩ (.int .i32 0) D (by simp; omega)).trans hK)))
    exact leave50 hA hB hK2 (by omega) rfl rfl rfl rfl
  case stop =>
    rintro D pre W hD hpre ⟨r, p, q, h1, ⟨k, h2⟩, h3⟩ hK
    gi_wp2
    rw [h1]
    exact leave50 h2 h3 hK (by omega) rfl rfl rfl rfl
end Go.Proofs.YtkenjojkpdeooaaGreatDoor.Units
end
section
set_option linter.unusedVariables false
set_option linter.unusedSimpArgs false
set_option linter.constructorNameAsVariable false
namespace Go.Proofs.YtkenjojkpdeooaaGreatDoor.Units
open Go.RowKit Go.Shelf Go.Proofs
attribute [local go_sem] Oper.semAt_some

theorem okU_eq (r p q : Nat) : okU (r, p, q) = (decide ((r : Int) ≠ 65533) || decide ((q : Int) = 3)) := by
  unfold okU
  have h1 : Nat.beq r 65533 = decide ((r : Int) = 65533) := by
    cases h : Nat.beq r 65533
    · have : r ≠ 65533 := fun e => by subst e; simp at h
      simp; omega
    · have := Nat.eq_of_beq_eq_true h
      simp; omega
  have h2 : Nat.beq q 3 = decide ((q : Int) = 3) := by
    cases h : Nat.beq q 3
    · have : q ≠ 3 := fun e => by subst e; simp at h
      simp; omega
    · have := Nat.eq_of_beq_eq_true h
      simp; omega
  rw [h1, h2]
  simp

set_option maxRecDepth 100000 in
set_option maxHeartbeats 2000000 in
theorem valid132 (r p q : Nat) (w : World) : CallsIn Fence.wide 0 Tryz.prog 132 #[enc (r, p, q)] w fun e w' => e = .returned (.bool (okU (r, p, q))) ∧ w' = w.alloc (.cells #[.int .i32 (r : Int), .int .i64 (p : Int), .int .i64 (q : Int)] 129) := by
  refine callsIn_of_wp Tryz.func132 rfl trivial ?_ rfl
  simp only [Tryz.ntmps132, List.size_toArray, List.length_cons, List.length_nil, Nat.reduceAdd, Nat.reduceSub, Array.replicate_succ, Array.replicate_zero, List.push_toArray, List.append_toArray, List.nil_append, List.cons_append]
  rw [okU_eq]
  dsimp only [enc]
  by_cases h1 : (r : Int) = 65533
  · by_cases h2 : (q : Int) = 3
    · gi_wp2
      go_ret
      rw [h1, h2]
      exact ⟨rfl, rfl⟩
    · gi_wp2
      go_ret
      rw [h1]
      refine ⟨?_, rfl⟩
      have : decide ((q : Int) = 3) = ((q : Int) == 3) := rfl
      rw [this]
      rfl
  · gi_wp2
    go_ret
    refine ⟨?_, rfl⟩
    have : decide ((r : Int) ≠ 65533) = true := decide_eq_true h1
    rw [this]
    rfl

theorem leave101 {n : Nat} {ok : Bool} {w W : World} {D : Nat} {tmps : Array Value} (h : W.heap[n]? = some (.cells #[.bool ok] 4 (0, 0))) (hb : Below n w W) (hK : W.heap[D]? = some (.deferred (some []))) (hD : n + 1 ≤ D)
    (p2 : tmps.getD 2 undef = .pointer (some ⟨n, 0, none⟩)) :
    bodyPostM Fence.wide 0 Tryz.prog Tryz.f101 (fun e w' => e = .returned (.bool ok) ∧ Below n w w') .ret { tmps, defers := [{ target := .collected D, args := #[] }] } W := by
  refine ⟨by simp, .inl ⟨_, _, rfl, run_takeDeferred hK, ?_⟩⟩
  have hb2 : Below n W (W.putObj D (.deferred none)) := ⟨rfl, rfl, rfl, by simp, fun k hk => World.putObj_heap_other (by omega)⟩
  have h2 : (W.putObj D (.deferred none)).heap[n]? = some (.cells #[.bool ok] 4 (0, 0)) := (World.putObj_heap_other (by omega)).trans h
  have c0 : (W.putObj D (.deferred none)).cell? ⟨n, 0, none⟩ = some (.bool ok) := by simp only [World.cell?, h2]; rfl
  refine ⟨.bool ok, ?_, rfl, hb.trans hb2⟩
  have e : Tryz.f101.results = #[.cell 2 4] := rfl
  unfold results
  rw [e]
  rw [Array.getD_eq_getD_getElem?] at p2
  simp [p2, loadVar, asAddr, go_sem, c0]

set_option maxRecDepth 100000 in
set_option maxHeartbeats 2000000 in
theorem valid101 (s : ByteArray) (hs : s.size ≤ 140737488355328) (w : World) :
    CallsIn Fence.wide 0 Tryz.prog 101 #[.string s] w fun e w' => e = .returned (.bool ((unitsF s s.size 0).all okU)) ∧ Below w.heap.size w w' := by
  refine callsIn_of_wp_marks Tryz.func101 rfl trivial ?_ rfl
  simp only [Tryz.ntmps101, List.size_toArray, List.length_cons, List.length_nil, Nat.reduceAdd, Nat.reduceSub, Array.replicate_succ, Array.replicate_zero, List.push_toArray, List.append_toArray, List.nil_append, List.cons_append]
  gi_wp2
  refine ⟨trivial, rfl, (units95 s _).mono ?_⟩
  rintro e w' ⟨rfl, rfl⟩
  gi_wp2
  have hsz := allocs_size [.cells #[.bool false] 4 (0, 0), .cells #[.string s] 9 (0, 0)] w
  have hbw := allocs_below [.cells #[.bool false] 4 (0, 0), .cells #[.string s] 9 (0, 0)] w _ (Nat.le_refl _)
  have hget := allocs_get [.cells #[.bool false] 4 (0, 0), .cells #[.string s] 9 (0, 0)] w
  simp only [List.foldl_cons, List.foldl_nil, List.length_cons, List.length_nil] at hsz hbw hget
  generalize (w.alloc (Obj.cells #[Value.bool false] 4)).alloc (Obj.cells #[Value.string s] 9) = W0 at hsz hbw hget
  have hA0 := hget 0 _ rfl
  have hbox := hget 1 _ rfl
  refine wpIn_iter (p := 6) (gf := 128) (lb := #[.pointer (some ⟨w.heap.size + 1, 0, none⟩)]) rfl (enters_of Tryz.func128 (by kernel_rfl) rfl) (iter128 (w.heap.size + 1) s hs W0 hbox) (by omega)
    (fun pre W => W.heap[w.heap.size]? = some (.cells #[.bool false] 4 (0, 0)) ∧ pre.all okU = true ∧ Below w.heap.size w W)
    (fun pre W => W.heap[w.heap.size]? = some (.cells #[.bool false] 4 (0, 0)) ∧ (unitsF s s.size 0).all okU = false ∧ Below w.heap.size w W)
    ?_ ?_ ⟨hA0, rfl, hbw⟩
    (fun x a' W => ∃ b, w.heap.size + 2 ≤ b ∧ W.heap[b]? = some (.cells #[.int .i32 (x.1 : Int), .int .i64 (x.2.1 : Int), .int .i64 (x.2.2 : Int)] 129 (0, 0)) ∧ a' = (⟨#[Value.string s, undef, Value.pointer (some ⟨w.heap.size, 0, Option.none⟩), Value.pointer (some ⟨b, 0, Option.none⟩), Value.string s, Value.func (.func 128) #[] #[Value.pointer (some ⟨w.heap.size + 1, 0, Option.none⟩)], enc x, undef, undef, undef], []⟩ : Act)) ?_ ?assign ?body ?done ?stop
  · rintro pre A A' ⟨h1, h2, h3⟩ hb
    exact ⟨(hb.block _ (by omega)).trans h1, h2, h3.trans (hb.mono (by omega))⟩
  · rintro pre A A' ⟨h1, h2, h3⟩ hb
    exact ⟨(hb.block _ (by omega)).trans h1, h2, h3.trans (hb.mono (by omega))⟩
  · rintro l x a' A o hl ⟨b, h1, h2, h3⟩ ⟨r, hr⟩
    refine ⟨b, h1, ?_, h3⟩
    rw [World.putObj_heap_other]
    · exact h2
    · intro e
      rw [e, hr] at h2
      cases h2
  case assign =>
    rintro l pre ⟨rn, pn, qn⟩ W K ⟨h1, h2, h3⟩ hW hK
    have hl := allocs_get [.cells #[.int .i32 0, .int .i64 0, .int .i64 0] 129 (0, 0)] W 0 _ rfl
    dsimp only [enc]
    gi_wp2
    refine hK _ _ (Hi.alloc W _ (by omega)) ⟨(Below.heap_alloc _ _ _ (by omega)).trans h1, h2, h3.trans ((Below.refl _ W).alloc (by omega) _)⟩ ⟨W.heap.size, by omega, World.alloc_heap_new _ _, rfl⟩
  case body =>
    rintro l pre ⟨rn, pn, qn⟩ a' W ⟨h1, h2, h3⟩ hW ⟨b, k0, k2, rfl⟩ hpre
    have c0 : W.cell? ⟨w.heap.size, 0, none⟩ = some (.bool false) := by simp [World.cell?, h1]
    have d0 : W.cell? ⟨b, 0, none⟩ = some (.int .i32 (rn : Int)) := by simp [World.cell?, k2]
    have d1 : W.cell? ⟨b, 1, none⟩ = some (.int .i64 (pn : Int)) := by simp [World.cell?, k2]
    have d2 : W.cell? ⟨b, 2, none⟩ = some (.int .i64 (qn : Int)) := by simp [World.cell?, k2]
    dsimp only [enc]
    gi_wp2
    refine ⟨trivial, rfl, (CallsIn.inRound l (valid132 rn pn qn W)).mono ?_⟩
    rintro e W' ⟨rfl, rfl⟩
    have hbw' : Below w.heap.size W (W.alloc (.cells #[.int .i32 (rn : Int), .int .i64 (pn : Int), .int .i64 (qn : Int)] 129)) := (Below.refl _ W).alloc (by omega) _
    have hhi : Hi W0.heap.size (w.heap.size + 1) W (W.alloc (.cells #[.int .i32 (rn : Int), .int .i64 (pn : Int), .int .i64 (qn : Int)] 129)) := Hi.alloc W _ (by omega)
    have h1' : (W.alloc (.cells #[.int .i32 (rn : Int), .int .i64 (pn : Int), .int .i64 (qn : Int)] 129)).heap[w.heap.size]? = some (.cells #[.bool false] 4 (0, 0)) := (Below.heap_alloc _ _ _ (by omega)).trans h1
    have hs1 : W0.heap.size = w.heap.size + 2 := hsz
    generalize W.alloc (.cells #[.int .i32 (rn : Int), .int .i64 (pn : Int), .int .i64 (qn : Int)] 129) = W1 at hbw' hhi h1'
    have c1 : W1.cell? ⟨w.heap.size, 0, none⟩ = some (.bool false) := by simp [World.cell?, h1']
    have f1 : W1.frozen? ⟨w.heap.size, 0, none⟩ = false := by simp [World.frozen?, h1']
    cases hok : okU (rn, pn, qn) with
    | true =>
      gi_wp2
      refine ⟨⟨h1', by rw [List.all_append, h2]; simp [hok], h3.trans hbw'⟩, hhi⟩
    | false =>
      gi_wp2
      refine ⟨⟨(set_blk h1' 0 _).trans (by simp), ?_, (h3.trans hbw').setCell (p := ⟨w.heap.size, 0, none⟩) (Nat.le_refl _) _⟩, hhi.trans (Hi.setCell W1 ⟨w.heap.size, 0, none⟩ _ (by show w.heap.size < _; omega) (by show _ ≠ w.heap.size; omega))⟩
      obtain ⟨t, ht⟩ := hpre
      rw [← ht]
      simp [hok]
  case done =>
    rintro D W hD ⟨h1, h2, h3⟩ hK
    have c0 : W.cell? ⟨w.heap.size, 0, none⟩ = some (.bool false) := by simp [World.cell?, h1]
    have f0 : W.frozen? ⟨w.heap.size, 0, none⟩ = false := by simp [World.frozen?, h1]
    gi_wp2
    rw [h2]
    exact leave101 (set_blk h1 0 _) (h3.setCell (p := ⟨w.heap.size, 0, none⟩) (Nat.le_refl _) _) ((Below.heap_setCell _ _ _ _ (by simp; omega)).trans hK) (by omega) rfl
  case stop =>
    rintro D pre W hD hpre ⟨h1, h2, h3⟩ hK
    gi_wp2
    rw [h2]
    exact leave101 h1 h3 hK (by omega) rfl
end Go.Proofs.YtkenjojkpdeooaaGreatDoor.Units
end
