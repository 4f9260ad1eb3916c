/- Calls: what a call leaves. · An operation's end is not looked at by the operation. · One operation of a region, and the machine's. · A region in its order. -/
import Derived.Test.YtkenjojkpdeooaaGreatDoorM3
import Derived.Calls
import Derived.Test.YtkenjojkpdeooaaGreatDoorM0
import Derived.Orders
section
set_option linter.unusedVariables false
set_option linter.unusedSimpArgs false
set_option linter.constructorNameAsVariable false
namespace Go.Proofs.YtkenjojkpdeooaaGreatDoor.AI

/-- What a function does, from what comes in to what goes out. -/
def CallRes (P : Program) (TY : Ty) (f : FuncId) (xs : List AV) (m : Mem) (r : AV) (m' : Mem) : Prop :=
  ∀ (S : RS) (us : Array Value), Good TY S → S.M = m.get → (∀ q, S.dom q ↔ q < m.length) → VRs TY S xs us.toList →
    Calls P f us S.w (fun e w' => ∃ v S', e = .returned v ∧ S'.w = w' ∧ S'.M = m'.get ∧ Mv TY S S' ∧ VR TY S' r v)
def CallOK (P : Program) (TY : Ty) (call : FuncId → List AV → Mem → Option (AV × Mem)) : Prop :=
  ∀ f xs m r m', call f xs m = some (r, m') → CallRes P TY f xs m r m'

theorem ite_none {α : Type} {c : Prop} [Decidable c] {x : Option α} {r : α} (h : (if c then none else x) = some r) : ¬ c ∧ x = some r := by
  by_cases hc : c
  · rw [if_pos hc] at h; cases h
  · rw [if_neg hc] at h; exact ⟨hc, h⟩
theorem pick_length (f : Nat → Option Nat) (m : Mem) : ∀ (l : List Nat), (pick_ f m l).length ≤ l.length
  | [] => Nat.le_refl _
  | o :: r => by
    simp only [pick_]
    split
    · simpa using pick_length f m r
    · have := pick_length f m r; simp only [List.length_cons]; omega
theorem pick_all (f : Nat → Option Nat) (m : Mem) : ∀ (l : List Nat), (pick_ f m l).length = l.length → ∀ o, o ∈ l → ∃ x, m.get o = some x
  | [], _, o, h => by simp at h
  | a :: r, hl, o, h => by
    simp only [pick_] at hl
    split at hl
    · rename_i p x h1 h2
      rcases List.mem_cons.1 h with rfl | h
      · exact ⟨x, h2⟩
      · exact pick_all f m r (by simpa using hl) o h
    · have := pick_length f m r
      simp only [List.length_cons] at hl
      omega
theorem plain1_VR {TY : Ty} {S S' : RS} {x : AV} {v : Value} (hp : x.plain1 = true) (h : VR TY S x v) : VR TY S' x v := by
  cases x <;> simp only [AV.plain1, Bool.false_eq_true] at hp <;> exact h
theorem plain1_VRs {TY : Ty} {S S' : RS} : ∀ {xs : List AV} {vs : List Value}, xs.all AV.plain1 = true → VRs TY S xs vs → VRs TY S' xs vs
  | [], [], _, _ => trivial
  | [], _ :: _, _, h => h.elim
  | _ :: _, [], _, h => h.elim
  | x :: xs, v :: vs, hp, ⟨h1, h2⟩ => by
    simp only [List.all_cons, Bool.and_eq_true] at hp
    exact ⟨plain1_VR hp.1 h1, plain1_VRs hp.2 h2⟩
theorem plain_VR {TY : Ty} {S S' : RS} {x : AV} {v : Value} (hp : x.plain = true) (h : VR TY S x v) : VR TY S' x v := by
  cases x
  case agg cs => obtain ⟨vs, e, h⟩ := h; exact ⟨vs, e, plain1_VRs hp h⟩
  case tup cs => obtain ⟨vs, e, h⟩ := h; exact ⟨vs, e, plain1_VRs hp h⟩
  all_goals exact plain1_VR hp h

/-- What the callee sees of the caller's memory. -/
def callee (S1 : RS) (lent ids : List Nat) (mc : Mem) : RS := ⟨S1.w, (lend S1 lent).ok, mc.get, fun p => S1.μ (ids.getD p 0), fun p => p < ids.length⟩
section
variable {TY : Ty} {S1 : RS} {lent ids : List Nat} {m1 : Mem}
theorem getD_of {l : List Nat} {j o d : Nat} (h : l[j]? = some o) : l.getD j d = o := by simp [List.getD, h]
theorem lt_of_get {α : Type} {l : List α} {j : Nat} {o : α} (h : l[j]? = some o) : j < l.length := (List.getElem?_eq_some_iff.1 h).1
theorem callee_ren (mc : Mem) : Ren TY (fun o => idx o ids 0) (lend S1 lent) (callee S1 lent ids mc) := by
  refine ⟨rfl, fun _ h => h, fun o p h hd => ?_⟩
  obtain ⟨j, rfl, hj⟩ := idx_get o ids 0 p h
  rw [Nat.zero_add]
  exact ⟨lt_of_get hj, by show S1.μ _ = _; rw [getD_of hj]; rfl⟩
theorem lend_good (G : Good TY S1) {o : Nat} {x : Ob} (h : S1.M o = some x) : OR TY (lend S1 lent) (S1.μ o) x :=
  OR_ext (S := S1) (S' := lend S1 lent) ⟨fun _ h => .inl h, fun _ _ => rfl, fun _ h => h, fun _ _ => rfl⟩ (fun _ => rfl) (G.obj o x h)
theorem callee_get (hM : S1.M = m1.get) {p : Nat} {y : Ob} (h : (callee S1 lent ids (pick_ (fun o => idx o ids 0) m1 ids)).M p = some y) :
    ∃ o x, o ∈ ids ∧ ids[p]? = some o ∧ S1.M o = some x ∧ y = x.ren (fun o => idx o ids 0) ∧ (callee S1 lent ids (pick_ (fun o => idx o ids 0) m1 ids)).μ p = S1.μ o := by
  obtain ⟨o, x, h1, h2, h3, h4⟩ := pick_get _ _ _ _ _ h
  obtain ⟨j, rfl, hj⟩ := idx_get o ids 0 p h2
  rw [Nat.zero_add]
  exact ⟨o, x, h1, hj, by rw [hM]; exact h3, h4, by show S1.μ _ = _; rw [getD_of hj]⟩
theorem callee_good (G : Good TY S1) (hM : S1.M = m1.get) (hml : meets ids lent = false) : Good TY (callee S1 lent ids (pick_ (fun o => idx o ids 0) m1 ids)) := by
  refine ⟨?_, ?_, ?_, ?_, ?_⟩
  · intro p y h
    obtain ⟨o, x, h1, h2, h3, h4, h5⟩ := callee_get hM h
    exact lt_of_get h2
  · intro p y h
    obtain ⟨o, x, h1, h2, h3, rfl, h5⟩ := callee_get hM h
    rw [h5]
    exact OR_ren (callee_ren _) (lend_good G h3)
  · intro p p' y y' h h' n1 n2 hb
    obtain ⟨o, x, h1, h2, h3, h4, h5⟩ := callee_get hM h
    obtain ⟨o', x', h1', h2', h3', h4', h5'⟩ := callee_get hM h'
    rw [h5] at n1 hb
    rw [h5'] at n2 hb
    obtain rfl := G.inj o o' x x' h3 h3' n1 n2 hb
    obtain ⟨o2, x2, k1, k2, k3, _⟩ := pick_get _ _ _ _ _ h
    obtain ⟨o3, x3, k1', k2', k3', _⟩ := pick_get _ _ _ _ _ h'
    obtain ⟨j, e, hj⟩ := idx_get o2 ids 0 p k2
    obtain ⟨j', e', hj'⟩ := idx_get o3 ids 0 p' k2'
    rw [Nat.zero_add] at e e'
    subst e e'
    rw [h2] at hj
    rw [h2'] at hj'
    cases hj
    cases hj'
    rw [k2] at k2'
    exact Option.some.inj k2'
  · intro p y h n1
    obtain ⟨o, x, h1, h2, h3, h4, h5⟩ := callee_get hM h
    rw [h5] at n1 ⊢
    rintro (hk | ⟨o', h6, x', h7, h8, h9⟩)
    · exact G.sep o x h3 n1 hk
    · obtain rfl := G.inj o' o x' x h7 h3 h8 n1 h9
      exact meets_false hml _ h1 h6
  · rintro b (hk | ⟨o', h6, x', h7, h8, rfl⟩)
    · exact G.okb b hk
    · exact OR_lt (S := S1) (G.obj o' x' h7) h8
theorem callee_blks (hM : S1.M = m1.get) {b : Nat} (h : Blks (callee S1 lent ids (pick_ (fun o => idx o ids 0) m1 ids)) b) : ∃ o x, o ∈ ids ∧ S1.M o = some x ∧ (S1.μ o).nil = false ∧ (S1.μ o).blk = b := by
  obtain ⟨p, y, h, n1, rfl⟩ := h
  obtain ⟨o, x, h1, h2, h3, h4, h5⟩ := callee_get hM h
  rw [h5] at n1 ⊢
  exact ⟨o, x, h1, h3, n1, rfl⟩

/-- What the callee left, put back. -/
theorem back_sound (G : Good TY S1) (hM : S1.M = m1.get) (hml : meets ids lent = false) {id : Nat} (hid : ∀ q, id < q → q < id + 8 → ¬ S1.dom q)
    (hlen : (pick_ (fun o => idx o ids 0) m1 ids).length = ids.length) {m' : Mem} {S2 : RS} (hM2 : S2.M = m'.get) (mv : Mv TY (callee S1 lent ids (pick_ (fun o => idx o ids 0) m1 ids)) S2) {r : AV} {v : Value} (hr : VR TY S2 r v) :
    ∃ S', S'.w = S2.w ∧ S'.M = (pick_ (fun o => if Nat.blt o ids.length then ids[o]? else (if Nat.blt (o - ids.length) 7 then some (id + 1 + (o - ids.length)) else none)) m' (m'.map (·.1)) ++ (m1.dels ids).dels lent).get ∧ Mv TY S1 S' ∧ Nw id (id + 8) S1 S' ∧
      VR TY S' (r.ren (fun o => if Nat.blt o ids.length then ids[o]? else (if Nat.blt (o - ids.length) 7 then some (id + 1 + (o - ids.length)) else none))) v := by
  have hall := pick_all _ _ _ hlen
  generalize hfo : (fun o => if Nat.blt o ids.length then ids[o]? else (if Nat.blt (o - ids.length) 7 then some (id + 1 + (o - ids.length)) else none)) = fout
  have blt : ∀ a b : Nat, Nat.blt a b = true ↔ a < b := fun a b => by simp [Nat.blt]; omega
  have fout_lt : ∀ o q, o < ids.length → fout o = some q → ids[o]? = some q := fun o q ho h => by
    rw [← hfo] at h
    simpa [(blt o ids.length).2 ho] using h
  have fout_ge : ∀ o q, ¬ o < ids.length → fout o = some q → o - ids.length < 7 ∧ q = id + 1 + (o - ids.length) := fun o q ho h => by
    have hb : ¬ Nat.blt o ids.length = true := fun e => ho ((blt _ _).1 e)
    rw [← hfo] at h
    simp only [if_neg hb] at h
    replace h := ite_some h
    obtain ⟨h1, h2⟩ := h
    exact ⟨(blt _ _).1 h1, by cases h2; rfl⟩
  generalize hSc : callee S1 lent ids (pick_ (fun o => idx o ids 0) m1 ids) = Sc at mv
  have hScM : ∀ {p y}, Sc.M p = some y → ∃ o x, o ∈ ids ∧ ids[p]? = some o ∧ S1.M o = some x := fun {p y} h => by
    rw [← hSc] at h
    obtain ⟨o, x, h1, h2, h3, _⟩ := callee_get hM h
    exact ⟨o, x, h1, h2, h3⟩
  have hScB : ∀ {b}, Blks Sc b → ∃ o x, o ∈ ids ∧ S1.M o = some x ∧ (S1.μ o).nil = false ∧ (S1.μ o).blk = b := fun {b} h => by
    rw [← hSc] at h
    exact callee_blks hM h
  have hScok : ∀ {b}, Sc.ok b ↔ S1.ok b ∨ OwnIn S1 lent b := fun {b} => by rw [← hSc]; exact Iff.rfl
  have hScw : Sc.w = S1.w := by rw [← hSc]; rfl
  have hScμ : ∀ p o, ids[p]? = some o → Sc.μ p = S1.μ o := fun p o h => by rw [← hSc]; show S1.μ _ = _; rw [getD_of h]
  have hScd : ∀ p, Sc.dom p ↔ p < ids.length := fun p => by rw [← hSc]; exact Iff.rfl
  have idsd : ∀ q, q ∈ ids → S1.dom q := fun q hq => by
    obtain ⟨x, hx⟩ := hall q hq
    exact G.dom q x (by rw [hM]; exact hx)
  let S' : RS := ⟨S2.w, S2.ok, (pick_ fout m' (m'.map (·.1)) ++ (m1.dels ids).dels lent).get, fun q => if id < q ∧ q < id + 8 then S2.μ (ids.length + (q - (id + 1))) else S1.μ q, fun q => S1.dom q ∨ (id < q ∧ q < id + 8)⟩
  have hμ1 : ∀ q, S1.dom q → S'.μ q = S1.μ q := fun q hq => by
    show (if id < q ∧ q < id + 8 then _ else _) = _
    rw [if_neg (fun e => hid q e.1 e.2 hq)]
  have R : Ren TY fout S2 S' := by
    refine ⟨rfl, fun _ h => h, fun o q h hd => ?_⟩
    by_cases ho : o < ids.length
    · have h1 := fout_lt o q ho h
      have hq : q ∈ ids := List.mem_of_getElem? h1
      refine ⟨.inl (idsd q hq), ?_⟩
      rw [hμ1 q (idsd q hq), mv.ext.μ o ((hScd o).2 ho), hScμ o q h1]
    · obtain ⟨h1, rfl⟩ := fout_ge o q ho h
      refine ⟨.inr (by omega), ?_⟩
      show (if id < _ ∧ _ < id + 8 then _ else _) = _
      rw [if_pos (by omega)]
      congr 1
      omega
  have hget : ∀ q y, S'.M q = some y → (∃ p y0, S2.M p = some y0 ∧ fout p = some q ∧ y = y0.ren fout ∧ (q ∈ ids ∨ (id < q ∧ q < id + 8)) ∧ S'.μ q = S2.μ p ∧ S'.dom q) ∨ (S1.M q = some y ∧ q ∉ ids ∧ q ∉ lent ∧ ¬ (id < q ∧ q < id + 8) ∧ S'.μ q = S1.μ q) := by
    intro q y h
    have h : (pick_ fout m' (m'.map (·.1)) ++ (m1.dels ids).dels lent).get q = some y := h
    rw [get_append] at h
    split at h
    · rename_i y' hy
      cases h
      obtain ⟨p, y0, h1, h2, h3, h4⟩ := pick_get _ _ _ _ _ hy
      have h3' : S2.M p = some y0 := by rw [hM2]; exact h3
      obtain ⟨k1, k2⟩ := R.to p q h2 (mv.good.dom p y0 h3')
      refine .inl ⟨p, y0, h3', h2, h4, ?_, k2, k1⟩
      by_cases ho : p < ids.length
      · exact .inl (List.mem_of_getElem? (fout_lt p q ho h2))
      · obtain ⟨h1, rfl⟩ := fout_ge p q ho h2
        exact .inr (by omega)
    · rw [get_dels] at h
      replace h := ite_none h
      obtain ⟨h1, h⟩ := h
      rw [get_dels] at h
      replace h := ite_none h
      obtain ⟨h2, h⟩ := h
      have h' : S1.M q = some y := by rw [hM]; exact h
      exact .inr ⟨h', h2, h1, fun e => hid q e.1 e.2 (G.dom q y h'), hμ1 q (G.dom q y h')⟩
  have scb : ∀ q y, S1.M q = some y → q ∉ ids → (S1.μ q).nil = false → ¬ Blks Sc (S1.μ q).blk := fun q y h h1 h2 h3 => by
    obtain ⟨o, x, k1, k2, k3, k4⟩ := hScB h3
    exact h1 (G.inj q o y x h k2 h2 k3 k4.symm ▸ k1)
  have lt1 : ∀ q y, S1.M q = some y → (S1.μ q).nil = false → (S1.μ q).blk < S1.w.heap.size := fun q y h h2 => OR_lt (G.obj q y h) h2
  have blk2 : ∀ p y0, S2.M p = some y0 → (S2.μ p).nil = false → Blks Sc (S2.μ p).blk ∨ S1.w.heap.size ≤ (S2.μ p).blk := fun p y0 h h1 => by
    have := mv.blk' _ ⟨p, y0, h, h1, rfl⟩
    rw [hScw] at this
    exact this
  refine ⟨S', rfl, rfl, mv_gen G S' (Blks Sc) (fun q => q ∈ ids ∨ (id < q ∧ q < id + 8)) (by have := mv.fr; rw [hScw] at this; exact this) ?_ ?_ ?_ mv.good.okb (fun _ h => .inl h) hμ1 ?_ ?_ ?_ ?_ ?_, ?_, VR_ren R _ _ hr⟩
  · intro b hb
    obtain ⟨o, x, k1, k2, k3, k4⟩ := hScB hb
    exact ⟨o, x, k2, k3, k4⟩
  · exact fun b hb => mv.ext.ok b (hScok.2 (.inl hb))
  · intro b hb
    rcases mv.ok' b hb with h | h | h
    · rcases hScok.1 h with h | ⟨o, _, x, h1, h2, h3⟩
      · exact .inl h
      · exact .inr (.inl ⟨o, x, h1, h2, h3⟩)
    · obtain ⟨o, x, k1, k2, k3, k4⟩ := hScB h
      exact .inr (.inl ⟨o, x, k2, k3, k4⟩)
    · rw [hScw] at h
      exact .inr (.inr h)
  · intro q y hq h
    rcases hget q y h with ⟨p, y0, h1, h2, h3, h4, h5⟩ | ⟨h1, h2, h3, h4, h5⟩
    · exact absurd h4 hq
    · exact ⟨h1, h5, fun hn => scb q y h1 h2 hn⟩
  · intro q y hq h
    rcases hget q y h with ⟨p, y0, h1, h2, rfl, h4, h5, h6⟩ | ⟨h1, h2, h3, h4, h5⟩
    · refine ⟨h6, fun _ => ?_, fun hn => ?_⟩
      · rw [h5]
        exact OR_ren R (mv.good.obj p y0 h1)
      · rw [h5] at hn ⊢
        rcases blk2 p y0 h1 hn with h | h
        · obtain ⟨o, x, k1, k2, k3, k4⟩ := hScB h
          exact .inl ⟨o, x, k2, k3, k4⟩
        · exact .inr h
    · exact absurd hq (fun e => e.elim h2 h4)
  · intro q y hq hd h
    rcases hq with hq | hq
    · obtain ⟨x, hx⟩ := hall q hq
      exact ⟨x, by rw [hM]; exact hx⟩
    · exact absurd hd (hid q hq.1 hq.2)
  · have mixed : ∀ q q' y y', (∃ p y0, S2.M p = some y0 ∧ fout p = some q ∧ y = y0.ren fout ∧ (q ∈ ids ∨ (id < q ∧ q < id + 8)) ∧ S'.μ q = S2.μ p ∧ S'.dom q) → (S1.M q' = some y' ∧ q' ∉ ids ∧ q' ∉ lent ∧ ¬ (id < q' ∧ q' < id + 8) ∧ S'.μ q' = S1.μ q') →
        (S'.μ q).nil = false → (S'.μ q').nil = false → (S'.μ q).blk = (S'.μ q').blk → False := by
      rintro q q' y y' ⟨p, y0, h1, h2, h3, h4, h5, h6⟩ ⟨k1, k2, k3, k4, k5⟩ n1 n2 hb
      rw [h5] at n1 hb
      rw [k5] at n2 hb
      have := lt1 q' y' k1 n2
      rcases blk2 p y0 h1 n1 with h | h
      · rw [hb] at h
        exact scb q' y' k1 k2 n2 h
      · omega
    intro q q' y y' h h' n1 n2 hb
    rcases hget q y h with h | h <;> rcases hget q' y' h' with h' | h'
    · obtain ⟨p, y0, h1, h2, h3, h4, h5, h6⟩ := h
      obtain ⟨p', y0', h1', h2', h3', h4', h5', h6'⟩ := h'
      rw [h5] at n1 hb
      rw [h5'] at n2 hb
      obtain rfl := mv.good.inj p p' y0 y0' h1 h1' n1 n2 hb
      rw [h2] at h2'
      exact Option.some.inj h2'
    · exact (mixed q q' y y' h h' n1 n2 hb).elim
    · exact (mixed q' q y' y h' h n2 n1 hb.symm).elim
    · rw [h.2.2.2.2] at n1 hb
      rw [h'.2.2.2.2] at n2 hb
      exact G.inj q q' y y' h.1 h'.1 n1 n2 hb
  · intro q y h n1
    rcases hget q y h with ⟨p, y0, h1, h2, h3, h4, h5, h6⟩ | ⟨h1, h2, h3, h4, h5⟩
    · rw [h5] at n1 ⊢
      exact mv.good.sep p y0 h1 n1
    · rw [h5] at n1 ⊢
      intro hk
      rcases mv.ok' _ hk with h | h | h
      · rcases hScok.1 h with h | ⟨o, k1, x, k2, k3, k4⟩
        · exact G.sep q y h1 n1 h
        · exact h3 (G.inj q o y x h1 k2 n1 k3 k4.symm ▸ k1)
      · exact scb q y h1 h2 n1 h
      · rw [hScw] at h
        have := lt1 q y h1 n1
        omega
  · rintro q (h | h)
    · exact .inl h
    · exact .inr (by omega)
end

/-- What a call leaves, seen from the caller. -/
def CallsTo (P : Program) (TY : Ty) (id : Nat) (ro : Option (List Nat)) (f : FuncId) (us : Array Value) (S : RS) (x : AV) (m' : Mem) : Prop :=
  Calls P f us S.w (fun e w' => ∃ v S', e = .returned v ∧ S'.w = w' ∧ S'.M = m'.get ∧ Mv TY S S' ∧ Nw id (id + 16) S S' ∧ VR TY S' x v ∧ (ro.isSome = true → Calm [] S S'))
theorem callK_sound {P : Program} {C : Ctx} {call : FuncId → List AV → Mem → Option (AV × Mem)} (hcall : CallOK P C.TY call) {α : Type} {ro : Option (List Nat)} {f : FuncId} {args : List AV} {id : Nat} {m : Mem} {k : AV → Mem → Option α} {r : α}
    (h : callK C call ro f args id m k = some r) {S : RS} (G : Good C.TY S) (hM : S.M = m.get) (hid : ∀ q, id ≤ q → q < id + 16 → ¬ S.dom q) {us : Array Value} (hv : VRs C.TY S args us.toList) :
    ∃ x m', k x m' = some r ∧ CallsTo P C.TY id ro f us S x m' := by
  unfold callK at h
  split at h
  · cases h
  · rename_i fn hfn
    split at h
    · cases h
    · rename_i xs lent m1 hsnap
      obtain ⟨S1, M1, hM1, hvs⟩ := snapArgs_sound (C.own f).params id fn.params.toList 0 args us.toList m m1 xs lent S G hM (fun q a b => hid q (by omega) b) hv hsnap
      have G1 := M1.mv.good
      simp only at h
      generalize hids : reach m1 reachFuel (refsL xs) [] = ids at h
      replace h := ite_some h
      obtain ⟨hc, h⟩ := h
      simp only [Bool.and_eq_true, Bool.not_eq_true'] at hc
      obtain ⟨hlen, hml⟩ := hc
      have hlen := nat_beq hlen
      split at h
      · cases h
      · rename_i r' m' hres
        have hcr := hcall f _ _ _ _ hres (callee S1 lent ids (pick_ (fun o => idx o ids 0) m1 ids)) us (callee_good G1 hM1 hml) rfl (fun q => by rw [hlen]; exact Iff.rfl) (VRs_ren (callee_ren _) _ _ hvs)
        have hw : (callee S1 lent ids (pick_ (fun o => idx o ids 0) m1 ids)).w = S.w := M1.w
        rw [hw] at hcr
        split at h
        · rename_i hpl
          simp only [Bool.and_eq_true, List.isEmpty_iff] at hpl
          obtain ⟨hpl, rfl⟩ := hpl
          refine ⟨_, _, h, hcr.mono ?_⟩
          rintro e w' ⟨v, S2, rfl, rfl, hM2, mv, hr⟩
          have hfr : Fr (fun _ => False) S1.w S2.w := by
            have h1 := mv.fr
            have h2 : (callee S1 lent [] (pick_ (fun o => idx o [] 0) m1 [])).w = S1.w := rfl
            rw [h2] at h1
            exact h1.mono (fun b hb => by obtain ⟨o, x, h3, _⟩ := callee_blks hM1 hb; simp at h3)
          have mvb : Mv C.TY S1 ({ S1 with w := S2.w } : RS) := by
            refine mv_gen G1 _ (fun _ => False) (fun _ => False) hfr (fun _ h => h.elim) (fun _ h => h) (fun _ h => .inl h) (fun b hb => Nat.lt_of_lt_of_le (G1.okb b hb) hfr.size) (fun _ h => h) (fun _ _ => rfl)
              (fun q y _ h => ⟨h, rfl, fun _ h => h⟩) (fun _ _ h => h.elim) (fun _ _ h => h.elim) G1.inj G1.sep
          refine ⟨v, { S1 with w := S2.w }, rfl, rfl, hM1, M1.mv.trans mvb, ?_, plain_VR hpl hr, fun _ => ?_⟩
          · exact M1.nw.wider (lo' := id) (hi' := id + 16) (by omega) (by omega)
          · refine ⟨?_, fun b hb => .inl (by have : S1.ok b := hb; rw [M1.ok] at this; exact this), fun q y h hd hn => ?_⟩
            · rw [← M1.w]
              exact hfr.mono (fun _ h => h.elim)
            · have := M1.nil q y h hd
              have hn : (S1.μ q).nil = false := hn
              rw [this] at hn
              cases hn
        · replace h := ite_none h
          obtain ⟨hro, h⟩ := h
          refine ⟨_, _, h, hcr.mono ?_⟩
          rintro e w' ⟨v, S2, rfl, rfl, hM2, mv, hr⟩
          obtain ⟨S', k1, k2, k3, k4, k5⟩ := back_sound G1 hM1 hml (id := id) (fun q a b hd => by
            rcases M1.nw q hd with h | h
            · exact hid q (by omega) (by omega) h
            · omega) hlen hM2 mv hr
          exact ⟨v, S', rfl, k1, k2, M1.mv.trans k3, (M1.nw.wider (lo' := id) (hi' := id + 16) (by omega) (by omega)).trans (k4.wider (lo' := id) (hi' := id + 16) (by omega) (by omega)), k5, fun h => absurd h hro⟩
      
end Go.Proofs.YtkenjojkpdeooaaGreatDoor.AI
end
section
set_option linter.unusedVariables false
set_option linter.unusedSimpArgs false
set_option linter.constructorNameAsVariable false
namespace Go.Proofs.YtkenjojkpdeooaaGreatDoor.AI

section
variable {α : Type} (C : Ctx) (TY : Ty)

def tydO (T : TypeId) : Option TyD := tyd TY T some
theorem tyd_nat (T : TypeId) (k : TyD → Option α) : tyd TY T k = (tydO TY T).bind k := by
  unfold tydO tyd
  cases (TY T).k.oth? <;> rfl
def elemO (S : TypeId) : Option (TypeId × TyD) := elemK C S fun E t => some (E, t)
theorem elem_nat (S : TypeId) (k : TypeId → TyD → Option α) : elemK C S k = (elemO C S).bind fun p => k p.1 p.2 := by
  unfold elemO elemK
  cases (C.TY S).k <;> first | rfl | (simp only [tyd_nat, Option.bind_assoc]; rfl)
def loadO (T : TypeId) (m : Mem) (a : AV) : Option AV := loadK TY T m a some
theorem load_nat (T : TypeId) (m : Mem) (a : AV) (k : AV → Option α) : loadK TY T m a k = (loadO TY T m a).bind k := by
  unfold loadO loadK
  simp only [tyd_nat, Option.bind_assoc]
  congr 1
  funext t
  cases a <;> first | rfl | skip
  case adr o i off =>
    dsimp only
    cases m.get o with
    | none => rfl
    | some x => cases x <;> first | rfl | (dsimp only; split <;> rfl)
  case padr E off cell => dsimp only; split <;> rfl
def storeO (T : TypeId) (m : Mem) (a v : AV) : Option Mem := storeK TY T m a v some
theorem store_nat (T : TypeId) (m : Mem) (a v : AV) (k : Mem → Option α) : storeK TY T m a v k = (storeO TY T m a v).bind k := by
  unfold storeO storeK
  simp only [tyd_nat, Option.bind_assoc]
  congr 1
  funext t
  by_cases hc : (v.cells.all AV.cellOk && Nat.beq v.cells.length t.cks.length) = true
  · simp only [hc, if_true]
    cases a <;> first | rfl | skip
    case adr o i off =>
      dsimp only
      cases m.get o with
      | none => rfl
      | some x =>
        cases x <;> first | rfl | skip
        · dsimp only; split <;> rfl
        · dsimp only
          split
          · split
            · cases frzs TY t.cks m v.cells with
              | none => rfl
              | some p =>
                obtain ⟨ps, m'⟩ := p
                dsimp only
                cases m'.get o <;> rfl
            · rfl
          · rfl
        · dsimp only; split <;> rfl
  · simp only [hc, if_false, Bool.false_eq_true]
    rfl
def intO (op : BinOp) (k : IntKind) (x y : Int) : Option AV := intK op k x y some
theorem int_nat (op : BinOp) (k : IntKind) (x y : Int) (c : AV → Option α) : intK op k x y c = (intO op k x y).bind c := by
  unfold intO intK
  cases op <;> first | rfl | (dsimp only; split <;> rfl)
def strO (op : BinOp) (x y : ByteArray) : Option AV := strK op x y some
theorem str_nat (op : BinOp) (x y : ByteArray) (c : AV → Option α) : strK op x y c = (strO op x y).bind c := by
  unfold strO strK
  cases op <;> first | rfl | (dsimp only; split <;> rfl)
def binO (op : BinOp) (T : TypeId) (x y : AV) : Option AV := binK TY op T x y some
theorem bin_nat (op : BinOp) (T : TypeId) (x y : AV) (c : AV → Option α) : binK TY op T x y c = (binO TY op T x y).bind c := by
  unfold binO binK
  cases x <;> first | rfl | (cases y <;> first | rfl | skip)
  case int.int k a k' b =>
    simp only [int_nat]
    split
    · split <;> rfl
    · split <;> rfl
    · split
      · cases intO op k a b <;> rfl
      · rfl
  case bool.bool a b =>
    dsimp only
    cases (TY T).k <;> first | rfl | (cases op <;> rfl)
  case str.str a b =>
    simp only [str_nat]
    cases strO op a b <;> rfl
  case agg.agg xs ys =>
    dsimp only
    cases (TY T).eq with
    | false => rfl
    | true => cases eqCells (TY T).cks xs ys with
      | none => rfl
      | some b => cases op <;> rfl
def unO (op : UnOp) (x : AV) : Option AV := unK op x some
theorem un_nat (op : UnOp) (x : AV) (c : AV → Option α) : unK op x c = (unO op x).bind c := by
  unfold unO unK
  cases op <;> cases x <;> rfl
def idxO (n : Nat) (x : Int) : Option Nat := idxK n x some
theorem idx_nat (n : Nat) (x : Int) (k : Nat → Option α) : idxK n x k = (idxO n x).bind k := by
  unfold idxO idxK
  split
  · split <;> rfl
  · rfl
def lowO (lo : Option AV) (h : Nat) : Option (Nat × Nat) := lowK lo h fun a b => some (a, b)
theorem low_nat (lo : Option AV) (h : Nat) (k : Nat → Nat → Option α) : lowK lo h k = (lowO lo h).bind fun p => k p.1 p.2 := by
  unfold lowO lowK
  cases lo with
  | none => rfl
  | some v =>
    cases v <;> first | rfl | skip
    dsimp only
    split
    · split <;> rfl
    · rfl
def cutO (n : Nat) (lo hi : Option AV) : Option (Nat × Nat) := cutK n lo hi fun a b => some (a, b)
theorem cut_nat (n : Nat) (lo hi : Option AV) (k : Nat → Nat → Option α) : cutK n lo hi k = (cutO n lo hi).bind fun p => k p.1 p.2 := by
  unfold cutO cutK
  cases hi with
  | none => simp only [low_nat, Option.bind_assoc]; rfl
  | some v =>
    cases v <;> first | rfl | skip
    dsimp only
    split
    · split
      · simp only [low_nat, Option.bind_assoc]; rfl
      · rfl
    · rfl
def maxO (big : Bool) (r : List AV) (v : AV) : Option AV := maxInts big r v some
theorem max_nat (big : Bool) : ∀ (r : List AV) (v : AV) (k : AV → Option α), maxInts big r v k = (maxO big r v).bind k
  | [], v, k => rfl
  | x :: r, v, k => by
    unfold maxO
    cases x <;> first | rfl | skip
    cases v <;> first | rfl | skip
    simp only [maxInts]
    split
    · rw [max_nat big r _ k]; rfl
    · rfl
def lenO (T : TypeId) (m : Mem) (v : AV) : Option Nat := lenK C T m v some
theorem len_nat (T : TypeId) (m : Mem) (v : AV) (k : Nat → Option α) : lenK C T m v k = (lenO C T m v).bind k := by
  unfold lenO lenK
  cases v <;> dsimp only <;> cases (C.TY T).k <;> first | rfl | (dsimp only; split <;> rfl)
abbrev Out := Option (AV × Mem)
abbrev outK : AV → Mem → Out := fun v m => some (v, m)
def convO (S D : TypeId) (x : AV) (id : Nat) (m : Mem) : Out := convK C S D x id m outK
theorem conv_nat (S D : TypeId) (x : AV) (id : Nat) (m : Mem) (k : AV → Mem → Option α) : convK C S D x id m k = (convO C S D x id m).bind fun p => k p.1 p.2 := by
  unfold convO convK
  cases (C.TY S).k <;> cases (C.TY D).k <;> first | rfl | (cases x <;> first | rfl | skip)
  all_goals
    dsimp only
    split <;> first | rfl | (split <;> rfl)
def appPO (E Ts : TypeId) (t : TyD) (id : Nat) (m : Mem) (del : List Nat) (n : Nat) (g : Nat → Nat → PV) (s : AV) : Out := appP C E Ts t id m del n g s outK
theorem appP_nat (E Ts : TypeId) (t : TyD) (id : Nat) (m : Mem) (del : List Nat) (n : Nat) (g : Nat → Nat → PV) (s : AV) (k : AV → Mem → Option α) : appP C E Ts t id m del n g s k = (appPO C E Ts t id m del n g s).bind fun p => k p.1 p.2 := by
  unfold appPO appP
  cases arowOf m s with
  | some p => dsimp only; split <;> rfl
  | none =>
    dsimp only
    cases srcK C E Ts m s with
    | none => rfl
    | some q => dsimp only; split <;> rfl
def appO (T Ts : TypeId) (id : Nat) (m : Mem) (d s : AV) : Out := appendK C T Ts id m d s outK
theorem app_nat (T Ts : TypeId) (id : Nat) (m : Mem) (d s : AV) (k : AV → Mem → Option α) : appendK C T Ts id m d s k = (appO C T Ts id m d s).bind fun p => k p.1 p.2 := by
  unfold appO appendK
  simp only [elem_nat, Option.bind_assoc, appP_nat]
  congr 1
  funext p
  cases d <;> first | rfl | skip
  · simp only [Option.bind_assoc]; rfl
  case row o =>
    dsimp only
    cases m.get o with
    | none => rfl
    | some x =>
      cases x <;> first | rfl | skip
      · dsimp only
        split
        · simp only [Option.bind_assoc]; rfl
        · rfl
      · dsimp only
        split
        · cases arowOf m s with
          | some p => dsimp only; split <;> rfl
          | none =>
            dsimp only
            cases srcK C p.1 Ts m s with
            | none => rfl
            | some q => dsimp only; split <;> rfl
        · rfl
def copyToO (E : TypeId) (m : Mem) (o lo len : Nat) (s : AV) : Out := copyTo E m o lo len s outK
theorem copyTo_nat (E : TypeId) (m : Mem) (o lo len : Nat) (s : AV) (k : AV → Mem → Option α) : copyTo E m o lo len s k = (copyToO E m o lo len s).bind fun p => k p.1 p.2 := by
  unfold copyToO copyTo
  cases m.get o with
  | none => rfl
  | some x =>
    cases x <;> first | rfl | skip
    dsimp only
    split
    · cases seen E m s <;> rfl
    · rfl
def copyO (T Ts : TypeId) (m : Mem) (d s : AV) : Out := copyK C T Ts m d s outK
theorem copy_nat (T Ts : TypeId) (m : Mem) (d s : AV) (k : AV → Mem → Option α) : copyK C T Ts m d s k = (copyO C T Ts m d s).bind fun p => k p.1 p.2 := by
  unfold copyO copyK
  simp only [elem_nat, Option.bind_assoc, copyTo_nat]
  congr 1
  funext p
  cases d <;> first | rfl | skip
  · dsimp only
    cases lenOf m (.row _) with
    | none => rfl
    | some n => simp only [Option.bind_assoc]; rfl
  · simp only [Option.bind_assoc]; rfl

def opO (T : TypeId) (op : Op) (id : Nat) (ev : Operand → AV) (m : Mem) : Out := opK C T op id ev m outK
theorem op_nat (T : TypeId) (op : Op) (id : Nat) (ev : Operand → AV) (m : Mem) (k : AV → Mem → Option α) : opK C T op id ev m k = (opO C T op id ev m).bind fun p => k p.1 p.2 := by
  unfold opO
  cases op <;> first | rfl | skip
  case alloc => simp only [opK, tyd_nat, Option.bind_assoc]; rfl
  case box => simp only [opK]; split <;> rfl
  case build S ps =>
    simp only [opK]
    cases (C.TY S).k <;> first | rfl | skip
    dsimp only
    cases fillAV ((C.TY S).cks.map zeroCK) (partsOf C _ ev ps.toList) <;> rfl
  case buildSlice S n ps =>
    simp only [opK, elem_nat, Option.bind_assoc]
    congr 1
    funext p
    split
    · split
      · split <;> rfl
      · rfl
    · rfl
  case load => simp only [opK, load_nat, Option.bind_assoc]; rfl
  case store => simp only [opK, store_nat, Option.bind_assoc]; rfl
  case nilCheck x => simp only [opK]; cases ev x <;> rfl
  case binOp => simp only [opK, bin_nat, Option.bind_assoc]; rfl
  case unOp => simp only [opK, un_nat, Option.bind_assoc]; rfl
  case convert => simp only [opK, conv_nat, Option.bind_assoc]; rfl
  case makeFunc f first cap =>
    cases f <;> first | rfl | skip
    simp only [opK]
    split <;> rfl
  case makeSlice S l c =>
    simp only [opK]
    cases ev l <;> first | rfl | skip
    cases ev c <;> first | rfl | skip
    simp only [elem_nat, Option.bind_assoc]
    congr 1
    funext p
    repeat' (split <;> first | rfl | skip)
  case slice S x lo hi mx =>
    cases mx <;> first | rfl | skip
    simp only [opK]
    cases ev x <;> first | rfl | skip
    all_goals simp only [elem_nat, cut_nat, Option.bind_assoc]
    case none.str => cases (C.TY S).k <;> first | rfl | (dsimp only; simp only [Option.bind_assoc]; rfl)
    case none.nils => rfl
    case none.psl =>
      congr 1
      funext p
      split
      · simp only [Option.bind_assoc]; rfl
      · rfl
    case none.row =>
      congr 1
      funext p
      split
      · split
        · simp only [Option.bind_assoc]; rfl
        · rfl
      · rfl
  case fieldAddr S x f =>
    simp only [opK]
    cases (C.TY S).k <;> first | rfl | skip
    dsimp only
    split
    · cases ev x <;> rfl
    · rfl
  case indexAddr S x i =>
    simp only [opK]
    cases ev i <;> first | rfl | skip
    simp only [elem_nat, idx_nat, Option.bind_assoc]
    congr 1
    funext p
    cases ev x <;> first | rfl | skip
    · dsimp only
      split
      · simp only [Option.bind_assoc]; rfl
      · rfl
    · dsimp only
      split
      · split
        · simp only [Option.bind_assoc]; rfl
        · rfl
      · rfl
    · dsimp only
      split
      · split
        · simp only [Option.bind_assoc]; rfl
        · rfl
      · rfl
  case index S x i =>
    simp only [opK]
    cases ev x <;> first | rfl | skip
    cases ev i <;> first | rfl | skip
    simp only [idx_nat]
    cases (C.TY S).k <;> first | rfl | (simp only [Option.bind_assoc]; rfl)
  case range S x =>
    simp only [opK]
    cases ev x <;> first | rfl | skip
    dsimp only
    cases (C.TY S).k <;> rfl
  case next it b =>
    cases b <;> first | rfl | skip
    simp only [opK]
    split
    · split
      · split <;> rfl
      · rfl
    · rfl
  case extract t i =>
    simp only [opK]
    cases ev t <;> first | rfl | skip
    dsimp only
    split <;> rfl
  case call c =>
    simp only [opK]
    split
    · split
      · simp only [len_nat, Option.bind_assoc]; rfl
      · rfl
    · split
      · simp only [app_nat, Option.bind_assoc]; rfl
      · rfl
    · split
      · simp only [copy_nat, Option.bind_assoc]; rfl
      · rfl
    · split
      · simp only [max_nat, Option.bind_assoc]; rfl
      · rfl
    · split
      · simp only [max_nat, Option.bind_assoc]; rfl
      · rfl
    · rfl
end

section
variable (C : Ctx) {α : Type} (call : FuncId → List AV → Mem → Option (AV × Mem))
def callO (ro : Option (List Nat)) (f : FuncId) (args : List AV) (id : Nat) (m : Mem) : Out := callK C call ro f args id m outK
theorem call_nat (ro : Option (List Nat)) (f : FuncId) (args : List AV) (id : Nat) (m : Mem) (k : AV → Mem → Option α) : callK C call ro f args id m k = (callO C call ro f args id m).bind fun p => k p.1 p.2 := by
  unfold callO callK
  split
  · rfl
  · split
    · rfl
    · dsimp only
      split
      · split
        · rfl
        · split
          · rfl
          · split <;> rfl
      · rfl

/-- One operation: its value, and what stands after it. -/
def stepO (ro : Option (List Nat)) (o : Oper) (id : Nat) (tmps : Env) (m : Mem) : Out :=
  match o.op with
  | .pick c a b => (match eval tmps c with
     | .bool t => some (if t then eval tmps a else eval tmps b, m)
     | _ => none)
  | .call c =>
    (match c.callee with
     | .value f => (match eval tmps f with
       | .fn g cap =>
         (match C.nat g with
          | some F => (match F (c.args.toList.map (eval tmps) ++ cap) with | some v => some (v, m) | none => none)
          | none => callO C call ro g (c.args.toList.map (eval tmps) ++ cap) id m)
       | _ => none)
     | _ => if mayRun ro o.op (eval tmps) m then opO C o.type o.op id (eval tmps) m else none)
  | op => if mayRun ro op (eval tmps) m then opO C o.type op id (eval tmps) m else none
theorem step_nat (ro : Option (List Nat)) (o : Oper) (id : Nat) (s : FS) (k : FS → Option α) : stepK C call ro o id s k = (stepO C call ro o id s.tmps s.mem).bind fun p => k (s.put o.dst p.1 p.2) := by
  obtain ⟨dst, op, type, pos, after, guard⟩ := o
  unfold stepO stepK
  cases op
  case pick c a b =>
    dsimp only
    cases eval s.tmps c <;> first | rfl | skip
    rename_i t
    cases t <;> rfl
  case call c =>
    obtain ⟨callee, args, argTypes⟩ := c
    cases callee
    case value f =>
      dsimp only
      cases eval s.tmps f <;> first | rfl | skip
      rename_i g cap
      dsimp only
      cases C.nat g with
      | none => simp only [call_nat]
      | some F =>
        dsimp only
        cases F (args.toList.map (eval s.tmps) ++ cap) <;> rfl
    all_goals
      dsimp only
      simp only [op_nat]
      split <;> rfl
  all_goals
    dsimp only
    simp only [op_nat]
    split <;> rfl
/-- One operation under its guard. -/
def guardO (ro : Option (List Nat)) (ops : Array Oper) (o : Oper) (id : Nat) (tmps : Env) (m : Mem) : Out :=
  match o.guard with
  | none => stepO C call ro o id tmps m
  | some (g, want) =>
    match (ops[g]?).bind (·.dst) with
    | none => none
    | some t =>
      match tmps.get t with
      | .bool b => if b = want then stepO C call ro o id tmps m else some (.tup [], m)
      | .tup [] => some (.tup [], m)
      | _ => none
theorem guard_nat (ro : Option (List Nat)) (ops : Array Oper) (o : Oper) (id : Nat) (s : FS) (k : FS → Option α) : guardK C call ro ops o id s k = (guardO C call ro ops o id s.tmps s.mem).bind fun p => k (s.put o.dst p.1 p.2) := by
  unfold guardO guardK
  cases o.guard with
  | none => exact step_nat C call ro o id s k
  | some p =>
    obtain ⟨g, want⟩ := p
    dsimp only
    cases (ops[g]?).bind (·.dst) with
    | none => rfl
    | some t =>
      dsimp only
      cases s.tmps.get t <;> first | rfl | skip
      case bool b => cases b <;> cases want <;> simp only [step_nat, if_true, reduceCtorEq, if_false] <;> rfl
      case tup cs => cases cs <;> rfl
end
end Go.Proofs.YtkenjojkpdeooaaGreatDoor.AI
end
section
set_option linter.unusedVariables false
set_option linter.unusedSimpArgs false
set_option linter.constructorNameAsVariable false
namespace Go.Proofs.YtkenjojkpdeooaaGreatDoor.AI

structure CtxOK (P : Program) (C : Ctx) : Prop where
  ty : TyOK P C.TY
  mixed : P.follows .mixedOrders = true
  fn : ∀ f fn, C.ft f = some fn → P.funcs[f]? = some fn ∧ (fn.name == "runtime.NumGoroutine") = false ∧ fn.body.isSome = true
  nat : ∀ g F args x, C.nat g = some F → F args = some x → x.plain = true ∧ ∀ (S : RS) (us : Array Value) (w : World), VRs C.TY S args us.toList → ∃ v, (callFunc g us).run P w = .ok (.value v) w ∧ VR C.TY S x v

theorem ofConst_VR {TY : Ty} {S : RS} (v : Value) : VR TY S (ofConst v) v := by
  unfold ofConst
  split <;> first | rfl | trivial
/-- What the places hold. -/
def ER (TY : Ty) (S : RS) (e : Env) (a : Act) : Prop := ∀ t, VR TY S (e.get t) (a.tmps.getD t undef)
theorem ER_ext {TY : Ty} {S S' : RS} (E : Ext TY S S') {e : Env} {a : Act} (h : ER TY S e a) : ER TY S' e a := fun t => VR_ext E _ _ (h t)
theorem eval_VR {TY : Ty} {S : RS} {tmps : Env} {a : Act} (h : ER TY S tmps a) (x : Operand) : VR TY S (eval tmps x) (a.eval x) := by
  cases x with
  | tmp t => exact h t
  | const v => exact ofConst_VR v
  | global g => trivial
  | func f => exact ⟨#[], rfl, trivial⟩

section
variable {P : Program} {C : Ctx} {call : FuncId → List AV → Mem → Option (AV × Mem)}
theorem run_enter {f : FuncId} {fn : Func} (H : CtxOK P C) (hf : C.ft f = some fn) (args : Array Value) (w : World) : (callFunc f args).run P w = .ok (.enter f args) w := by
  obtain ⟨h1, h2, h3⟩ := H.fn f fn hf
  cases hb : fn.body with
  | none => simp [hb] at h3
  | some b =>
    have h4 : ¬ fn.name = "runtime.NumGoroutine" := by simpa using h2
    simp [callFunc, Sem.run_bind, h1, h4, hb]

/-- What one step does, as the machine's operation. -/
def StepRes (P : Program) (TY : Ty) (id : Nat) (ro : Option (List Nat)) (S : RS) (x : AV) (m' : Mem) (o : Oper) (a : Act) : Prop :=
  ∀ (next : Act → World → Prop) (Q : Exit → Act → World → Prop), (∀ v S', S'.M = m'.get → Mv TY S S' → Nw id (id + 16) S S' → VR TY S' x v → (∀ W, ro = some W → Calm W S S') → next (a.put o.dst v) S'.w) → o.wp P a S.w next Q
theorem OwnIn.weaker {S : RS} {W W' : List Nat} (h : ∀ x, x ∈ W → x ∈ W') {b : Nat} (hb : OwnIn S W b) : OwnIn S W' b := hb.mono h
theorem Calm.mono {W W' : List Nat} {S S' : RS} (h : ∀ x, x ∈ W → x ∈ W') (hc : Calm W S S') : Calm W' S S' :=
  ⟨hc.fr.mono fun _ hb => hb.mono h, fun b hb => (hc.ok b hb).imp id (Or.imp (fun hb => hb.mono h) id), fun q y hq hd hn => (hc.new q y hq hd hn).imp (fun hb => hb.mono h) id⟩
theorem mayRun_sub {ro : Option (List Nat)} {op : Op} {ev : Operand → AV} {m : Mem} (h : mayRun ro op ev m = true) : ∀ W, ro = some W → ∃ W', writesOf op ev m = some W' ∧ ∀ x, x ∈ W' → x ∈ W := by
  rintro W rfl
  unfold mayRun at h
  dsimp only at h
  split at h
  · rename_i W' hW
    refine ⟨W', hW, fun x hx => ?_⟩
    have h1 := List.all_eq_true.1 h x hx
    obtain ⟨y, hy, e⟩ := List.any_eq_true.1 h1
    rw [nat_beq e]
    exact hy
  · cases h
theorem opO_step (H : CtxOK P C) {ro : Option (List Nat)} {o : Oper} {id : Nat} {tmps : Env} {m m' : Mem} {x : AV} (h : (if mayRun ro o.op (eval tmps) m then opO C o.type o.op id (eval tmps) m else none) = some (x, m'))
    {S : RS} (G : Good C.TY S) (hM : S.M = m.get) (hid : ∀ q, id ≤ q → q < id + 16 → ¬ S.dom q) {a : Act} (hv : ER C.TY S tmps a) : StepRes P C.TY id ro S x m' o a := by
  replace h := ite_some h
  obtain ⟨hmay, h⟩ := h
  obtain ⟨y, m2, h1, v, S', nx, hrun, hnx, e1, e2, e3, e4, e5⟩ := opK_sound H.ty G hM hid (ev := eval tmps) (ρ := a.eval) (eval_VR hv) (k := outK) o h
  cases h1
  intro next Q hk
  have key := hk v S' e1 e2 e3 e4 (fun W hW => by
    obtain ⟨W', h1, h2⟩ := mayRun_sub hmay W hW
    exact (e5 W' h1).mono h2)
  unfold Oper.wp
  rw [hrun]
  rcases hnx with rfl | ⟨rfl, rfl⟩
  · exact key
  · exact key
theorem stepO_sound (H : CtxOK P C) (hcall : CallOK P C.TY call) {ro : Option (List Nat)} {o : Oper} {id : Nat} {tmps : Env} {m m' : Mem} {x : AV} (h : stepO C call ro o id tmps m = some (x, m'))
    {S : RS} (G : Good C.TY S) (hM : S.M = m.get) (hid : ∀ q, id ≤ q → q < id + 16 → ¬ S.dom q) {a : Act} (hv : ER C.TY S tmps a) : StepRes P C.TY id ro S x m' o a := by
  have general : (if mayRun ro o.op (eval tmps) m then opO C o.type o.op id (eval tmps) m else none) = some (x, m') → StepRes P C.TY id ro S x m' o a := fun h => opO_step H h G hM hid hv
  obtain ⟨dst, op, type, pos, after, guard⟩ := o
  unfold stepO at h
  cases op
  case pick c t e =>
    dsimp only at h
    have hc := eval_VR hv c
    have ht := eval_VR hv t
    have he := eval_VR hv e
    cases hb : eval tmps c <;> rw [hb] at h hc <;> first | (cases h; done) | skip
    rename_i b
    dsimp only at h
    cases h
    have hc : a.eval c = .bool b := hc
    intro next Q hk
    unfold Oper.wp
    have : (execOp a.eval { dst, op := .pick c t e, type, pos, after, guard }).run P S.w = .ok (.value (if b then a.eval t else a.eval e)) S.w := by
      simp [execOp, hc, asBool, Sem.run_bind]
    rw [this]
    refine hk _ S hM (Mv.refl G) (fun _ h => .inl h) ?_ (fun W _ => Calm.refl G W)
    cases b
    · exact he
    · exact ht
  case call c =>
    obtain ⟨callee, args, argTypes⟩ := c
    cases callee
    case value f =>
      dsimp only at h
      have hf := eval_VR hv f
      cases hb : eval tmps f <;> rw [hb] at h hf <;> first | (cases h; done) | skip
      rename_i g cap
      dsimp only at h
      obtain ⟨vs, hfv, hcap⟩ := hf
      have hus : VRs C.TY S (args.toList.map (eval tmps) ++ cap) (args.map a.eval ++ vs).toList := by
        rw [Array.toList_append, Array.toList_map]
        exact VRs_append (evs_VRs (eval_VR hv) args.toList) hcap
      cases hn : C.nat g with
      | some F =>
        rw [hn] at h
        dsimp only at h
        cases hF : F (args.toList.map (eval tmps) ++ cap) with
        | none => rw [hF] at h; cases h
        | some y =>
          rw [hF] at h
          cases h
          obtain ⟨v, hrun, hr⟩ := (H.nat g F _ _ hn hF).2 S _ S.w hus
          intro next Q hk
          unfold Oper.wp
          have : (execOp a.eval { dst, op := .call { callee := .value f, args, argTypes }, type, pos, after, guard }).run P S.w = .ok (.value v) S.w := by
            simp [execOp, resolve, Deferred.ofValue, hfv, invoke, Sem.run_bind, hrun]
          rw [this]
          exact hk _ S hM (Mv.refl G) (fun _ h => .inl h) hr (fun W _ => Calm.refl G W)
      | none =>
      rw [hn] at h
      dsimp only at h
      obtain ⟨x', m2, h1, h2⟩ := callK_sound (P := P) hcall (k := outK) h G hM hid hus
      cases h1
      intro next Q hk
      unfold Oper.wp
      have hft : ∃ fn, C.ft g = some fn := by
        unfold callO callK at h
        cases hf : C.ft g with
        | none => rw [hf] at h; cases h
        | some fn => exact ⟨fn, rfl⟩
      obtain ⟨fn, hft⟩ := hft
      have : (execOp a.eval { dst, op := .call { callee := .value f, args, argTypes }, type, pos, after, guard }).run P S.w = .ok (.enter g (args.map a.eval ++ vs)) S.w := by
        simp [execOp, resolve, Deferred.ofValue, hfv, invoke, Sem.run_bind, run_enter H hft]
      rw [this, Oper.upon_enter]
      refine Calls.mono h2 ?_
      rintro e w' ⟨v, S', rfl, rfl, k1, k2, k3, k4, k5⟩
      refine hk v S' k1 k2 k3 k4 (fun W hW => ?_)
      exact (k5 (by rw [hW]; rfl)).mono (fun x hx => by cases hx)
    all_goals exact general h
  all_goals exact general h

/-- The same under its guard. -/
def GuardRes (P : Program) (TY : Ty) (id : Nat) (ro : Option (List Nat)) (ops : Array Oper) (i : Nat) (S : RS) (x : AV) (m' : Mem) (o : Oper) (a : Act) : Prop :=
  ∀ (next : Act → World → Prop) (Q : Exit → Act → World → Prop), (∀ v S', S'.M = m'.get → Mv TY S S' → Nw id (id + 16) S S' → VR TY S' x v → (∀ W, ro = some W → Calm W S S') → next (a.put o.dst v) S'.w) → wpOp P ops Q i next a S.w
theorem guardO_sound (H : CtxOK P C) (hcall : CallOK P C.TY call) {ro : Option (List Nat)} {ops : Array Oper} {i : Nat} {o : Oper} (hi : ops[i]? = some o) {id : Nat} {tmps : Env} {m m' : Mem} {x : AV} (h : guardO C call ro ops o id tmps m = some (x, m'))
    {S : RS} (G : Good C.TY S) (hM : S.M = m.get) (hid : ∀ q, id ≤ q → q < id + 16 → ¬ S.dom q) {a : Act} (hv : ER C.TY S tmps a) : GuardRes P C.TY id ro ops i S x m' o a := by
  intro next Q hk
  unfold wpOp
  rw [hi]
  dsimp only
  unfold guardO at h
  cases hg : o.guard with
  | none =>
    rw [hg] at h
    have hw : Region.wanted o (yielded ops a.tmps) = true := by unfold Region.wanted; rw [hg]
    rw [if_pos hw]
    exact .inl (stepO_sound H hcall h G hM hid hv next Q hk)
  | some p =>
    obtain ⟨g, want⟩ := p
    rw [hg] at h
    dsimp only at h
    cases ht : (ops[g]?).bind (·.dst) with
    | none => rw [ht] at h; cases h
    | some t =>
      rw [ht] at h
      dsimp only at h
      have hwant : Region.wanted o (yielded ops a.tmps) = ((match a.tmps[t]? with | some (.bool b) => some b | _ => none) == some want) := by
        unfold Region.wanted yielded
        rw [hg]
        dsimp only
        rw [ht]
        rfl
      have ev := eval_VR hv (.tmp t)
      have key : ∀ v, a.tmps.getD t undef = v → (∀ b, v ≠ .bool b) → (a.tmps[t]?) = none ∨ a.tmps[t]? = some v := fun v e _ => by
        cases hq : a.tmps[t]? with
        | none => exact .inl rfl
        | some u =>
          rw [Array.getD_eq_getD_getElem?, hq] at e
          right; rw [← e]; rfl
      have ev : VR C.TY S (tmps.get t) (a.tmps.getD t undef) := ev
      have unw : Region.wanted o (yielded ops a.tmps) = false → x = .tup [] → m' = m → (if Region.wanted o (yielded ops a.tmps) = true then o.wp P a S.w next Q ∨ (o.asks P a S.w ∧ LetsOut Q) else next (a.put o.dst undef) S.w) := fun h1 h2 h3 => by
        subst h2 h3
        rw [h1]
        exact hk undef S hM (Mv.refl G) (fun _ h => .inl h) ⟨#[], rfl, trivial⟩ (fun W _ => Calm.refl G W)
      cases hb : tmps.get t <;> rw [hb] at h ev <;> first | (cases h; done) | skip
      case bool b =>
        dsimp only at h
        have e : a.tmps.getD t undef = .bool b := ev
        have hq : a.tmps[t]? = some (.bool b) := by
          cases hq : a.tmps[t]? with
          | none => rw [Array.getD_eq_getD_getElem?, hq] at e; cases e
          | some u => rw [Array.getD_eq_getD_getElem?, hq] at e; rw [← e]; rfl
        have hwant : Region.wanted o (yielded ops a.tmps) = (some b == some want) := by rw [hwant, hq]
        by_cases hbw : b = want
        · rw [if_pos hbw] at h
          subst hbw
          have hw : Region.wanted o (yielded ops a.tmps) = true := by rw [hwant]; simp
          rw [if_pos hw]
          exact .inl (stepO_sound H hcall h G hM hid hv next Q hk)
        · rw [if_neg hbw] at h
          cases h
          exact unw (by rw [hwant]; simpa using hbw) rfl rfl
      case tup cs =>
        cases cs <;> first | (cases h; done) | skip
        cases h
        refine unw ?_ rfl rfl
        obtain ⟨vs, e, _⟩ := ev
        rw [hwant]
        rcases key _ e (fun b h => by cases h) with h | h <;> rw [h] <;> rfl
end
end Go.Proofs.YtkenjojkpdeooaaGreatDoor.AI
end
section
set_option linter.unusedVariables false
set_option linter.unusedSimpArgs false
set_option linter.constructorNameAsVariable false
namespace Go.Proofs.YtkenjojkpdeooaaGreatDoor.AI

/-- Where the interpreter stands and where the machine does. S0: as the function began. -/
structure At (TY : Ty) (S0 S : RS) (n : Nat) (D : Nat → Prop) (tmps : Env) (mem : Mem) (a : Act) (w : World) : Prop where
  size : a.tmps.size = n
  w : S.w = w
  M : S.M = mem.get
  mv : Mv TY S0 S
  dom : ∀ q, S.dom q → D q
  tmps : ER TY S tmps a
  defers : a.defers = []

def putT (dst : Option Nat) (v : AV) (tmps : Env) : Env := match dst with | some d => (d, v) :: tmps | none => tmps
theorem put_tmps (s : FS) (dst : Option Nat) (v : AV) (m : Mem) : (s.put dst v m).tmps = putT dst v s.tmps := by cases dst <;> rfl
theorem put_mem (s : FS) (dst : Option Nat) (v : AV) (m : Mem) : (s.put dst v m).mem = m := by cases dst <;> rfl
theorem put_nx (s : FS) (dst : Option Nat) (v : AV) (m : Mem) : (s.put dst v m).nx = s.nx := by cases dst <;> rfl
theorem get_put (e : Env) (d : Nat) (x : AV) (t : Nat) : Env.get ((d, x) :: e) t = if d = t then x else e.get t := by
  simp only [Env.get, beq_cond]
def dstOk (n : Nat) (o : Oper) : Bool := match o.dst with | some d => Nat.blt d n | none => true
theorem blt_iff {a b : Nat} : Nat.blt a b = true ↔ a < b := by
  constructor
  · intro h
    have : Nat.ble (a + 1) b = true := h
    have := Nat.le_of_ble_eq_true this
    omega
  · intro h
    exact Nat.ble_eq_true_of_le (by omega)
theorem put_ER {TY : Ty} {S : RS} {tmps : Env} {a : Act} (h : ER TY S tmps a) {x : AV} {v : Value} (hx : VR TY S x v) {o : Oper} (hd : dstOk a.tmps.size o = true) : ER TY S (putT o.dst x tmps) (a.put o.dst v) := by
  unfold dstOk at hd
  cases e : o.dst with
  | none => exact h
  | some d =>
    rw [e] at hd
    have hd := blt_iff.1 hd
    intro t
    show VR TY S (Env.get ((d, x) :: tmps) t) ((a.tmps.setIfInBounds d v).getD t undef)
    rw [get_put]
    by_cases ht : d = t
    · subst ht
      rw [if_pos rfl]
      simpa [Array.getD_eq_getD_getElem?, hd] using hx
    · rw [if_neg ht]
      have := h t
      rwa [Array.getD_eq_getD_getElem?, Array.getElem?_setIfInBounds_ne ht, ← Array.getD_eq_getD_getElem?]
theorem put_size (a : Act) (dst : Option Nat) (v : Value) : (a.put dst v).tmps.size = a.tmps.size := by cases dst <;> simp [Act.put]
theorem put_defers (a : Act) (dst : Option Nat) (v : Value) : (a.put dst v).defers = a.defers := by cases dst <;> rfl

section
variable {P : Program} {C : Ctx} {call : FuncId → List AV → Mem → Option (AV × Mem)} {S0 : RS} {n : Nat}
theorem opsK_sound (H : CtxOK P C) (hcall : CallOK P C.TY call) {ops : Array Oper} {Q : Exit → Act → World → Prop} (nx0 : Nat) {α : Type} {k : FS → Option α} {r : α} :
    ∀ (l : List Oper) (i : Nat) (s : FS) (S : RS) (a : Act) (w : World), ops.toList.drop i = l → l.all (dstOk n) = true → opsK C call ops l (nx0 + 16 * i) s k = some r → At C.TY S0 S n (fun q => q < nx0 + 16 * i) s.tmps s.mem a w →
      (∀ s' S' a' w', k s' = some r → At C.TY S0 S' n (fun q => q < nx0 + 16 * (i + l.length)) s'.tmps s'.mem a' w' → Q .normal a' w') → wpOps P ops Q (List.range' i l.length) a w
  | [], i, s, S, a, w, hl, hn, h, A, hk => hk s S a w h A
  | o :: l, i, s, S, a, w, hl, hn, h, A, hk => by
    simp only [List.all_cons, Bool.and_eq_true] at hn
    have hi : ops[i]? = some o := by
      rw [← Array.getElem?_toList]
      have := congrArg (fun l => l[0]?) hl
      simpa using this
    have hl' : ops.toList.drop (i + 1) = l := by
      have := congrArg List.tail hl
      simpa using this
    simp only [opsK, guard_nat] at h
    rw [Option.bind_eq_some_iff] at h
    obtain ⟨⟨x, m'⟩, h1, h2⟩ := h
    have G := A.mv.good
    obtain rfl := A.w
    show wpOps P ops Q (List.range' i (l.length + 1)) a S.w
    rw [List.range'_succ, wpOps_cons]
    refine guardO_sound H hcall hi h1 G A.M (fun q a b hd => ?_) A.tmps _ Q (fun v S' e1 e2 e3 e4 e5 => ?_)
    · have := A.dom q hd; omega
    · have e : nx0 + 16 * i + 16 = nx0 + 16 * (i + 1) := by omega
      rw [e] at h2
      refine opsK_sound H hcall nx0 l (i + 1) _ S' _ _ hl' hn.2 h2 ⟨by rw [put_size]; exact A.size, rfl, ?_, A.mv.trans e2, ?_, ?_, ?_⟩ ?_
      · rw [put_mem]; exact e1
      · intro q hd
        rcases e3 q hd with h | h
        · have := A.dom q h; omega
        · omega
      · rw [put_tmps]
        exact put_ER (ER_ext e2.ext A.tmps) e4 (by rw [A.size]; exact hn.1)
      · rw [put_defers]; exact A.defers
      · intro s' S'' a' w' k1 k2
        refine hk s' S'' a' w' k1 ?_
        have : i + 1 + l.length = i + (o :: l).length := by simp only [List.length_cons]; omega
        rw [this] at k2
        exact k2

/-! A part of the memory. -/
theorem any_mem {W : List Nat} {q : Nat} : W.any (Nat.beq q) = true ↔ q ∈ W := by
  rw [List.any_eq_true]
  constructor
  · rintro ⟨x, hx, e⟩
    rw [nat_beq e]; exact hx
  · exact fun h => ⟨q, h, Nat.beq_refl q⟩
theorem inNew_iff {id q : Nat} : inNew id q = true ↔ id ≤ q ∧ q < id + 16 := by
  unfold inNew
  rw [Bool.and_eq_true]
  constructor
  · rintro ⟨h1, h2⟩
    have := Nat.le_of_ble_eq_true h1
    have : Nat.ble (q + 1) (id + 16) = true := h2
    have := Nat.le_of_ble_eq_true this
    omega
  · rintro ⟨h1, h2⟩
    exact ⟨Nat.ble_eq_true_of_le h1, Nat.ble_eq_true_of_le h2⟩
theorem touched_iff {W : List Nat} {id q : Nat} : touched W id q = true ↔ q ∈ W ∨ (id ≤ q ∧ q < id + 16) := by
  unfold touched
  rw [Bool.or_eq_true, any_mem, inNew_iff]
theorem get_filter (f : Nat → Bool) (m : Mem) (q : Nat) : Mem.get (m.filter fun p => f p.1) q = if f q = true then m.get q else none := by
  induction m with
  | nil => simp [Mem.get]
  | cons p r ih =>
    obtain ⟨a, x⟩ := p
    rw [List.filter_cons]
    by_cases h : f a = true
    · rw [if_pos h, get_cons, get_cons, ih]
      by_cases e : a = q
      · subst e; simp [h]
      · rw [if_neg e, if_neg e]
    · rw [if_neg h, ih, get_cons]
      by_cases e : a = q
      · subst e; simp [h]
      · rw [if_neg e]
theorem get_merge (fo : List Nat × List Nat) (id : Nat) (m m' : Mem) (q : Nat) : (merge fo id m m').get q = if touched fo.2 id q = true then m'.get q else m.get q := by
  unfold merge
  rw [get_append, get_filter (fun q => touched fo.2 id q), get_filter (fun q => !touched fo.2 id q)]
  cases touched fo.2 id q
  · simp
  · simp only [if_true, Bool.not_true, Bool.false_eq_true, if_false]
    cases m'.get q <;> rfl

/-- A step on a part of the memory, seen from the whole. -/
theorem partO_sound (H : CtxOK P C) (hcall : CallOK P C.TY call) {ops : Array Oper} {i : Nat} {o : Oper} (hi : ops[i]? = some o) {id : Nat} {fo : List Nat × List Nat} {tmps : Env} {m mi : Mem} {x : AV}
    (h : guardO C call (roOf fo) ops o id tmps (only m (fo.1 ++ fo.2)) = some (x, mi))
    {S : RS} (G : Good C.TY S) (hM : S.M = m.get) (hid : ∀ q, id ≤ q → q < id + 16 → ¬ S.dom q) {a : Act} (hv : ER C.TY S tmps a)
    {next : Act → World → Prop} {Q : Exit → Act → World → Prop}
    (hk : ∀ v S', S'.M = (merge fo id m mi).get → Mv C.TY S S' → Nw id (id + 16) S S' → VR C.TY S' x v → next (a.put o.dst v) S'.w) : wpOp P ops Q i next a S.w := by
  have hpart : ∀ q y, (only m (fo.1 ++ fo.2)).get q = some y → S.M q = some y ∧ (q ∈ fo.1 ∨ q ∈ fo.2) := fun q y h => by
    rw [get_only] at h
    replace h := ite_some h
    rw [hM]
    exact ⟨h.2, List.mem_append.1 h.1⟩
  have hsub : ∀ q y, (only m (fo.1 ++ fo.2)).get q = some y → S.M q = some y := fun q y h => (hpart q y h).1
  have G' := G.part hsub
  have hv' : ER C.TY (S.part (only m (fo.1 ++ fo.2)).get) tmps a :=
    ER_ext (S := S) (S' := S.part (only m (fo.1 ++ fo.2)).get) ⟨fun _ h => h, fun _ _ => rfl, fun _ h => h, fun _ _ => rfl⟩ hv
  refine guardO_sound H hcall hi h (S := S.part (only m (fo.1 ++ fo.2)).get) G' rfl hid hv' next Q (fun v S1 e1 e2 e3 e4 e5 => ?_)
  refine hk v (S1.part (merge fo id m mi).get) rfl ?_ (fun q hd => e3 q hd) (VR_part e4)
  refine frame G hsub e2 _ (fun q y hq => ?_)
  rw [get_merge] at hq
  by_cases ht : touched fo.2 id q = true
  · rw [if_pos ht] at hq
    exact .inl (by rw [e1]; exact hq)
  · rw [if_neg ht] at hq
    have hSq : S.M q = some y := by rw [hM]; exact hq
    have hdq := G.dom q y hSq
    rw [touched_iff] at ht
    have hqW : q ∉ fo.2 := fun e => ht (.inl e)
    refine .inr ⟨hdq, hSq, fun hn => ?_⟩
    have hlt := OR_lt (G.obj q y hSq) hn
    by_cases hqR : q ∈ fo.1
    · have hro : roOf fo = some fo.2 := by
        unfold roOf
        cases hf : fo.1 with
        | nil => rw [hf] at hqR; cases hqR
        | cons _ _ => rfl
      have hc := e5 _ hro
      have own : ∀ b, OwnIn (S.part (only m (fo.1 ++ fo.2)).get) fo.2 b → b ≠ (S.μ q).blk := by
        rintro b ⟨o', h1, x', h2, h3, h4⟩ e
        have h4 : (S.μ o').blk = b := h4
        obtain rfl := G.inj o' q x' y (hsub _ _ h2) hSq h3 hn (by rw [h4, e])
        exact hqW h1
      refine ⟨?_, ?_, ?_⟩
      · exact hc.fr.block _ hlt (fun hb => own _ hb rfl)
      · intro hk
        rcases hc.ok _ hk with h | h | h
        · exact G.sep q y hSq hn h
        · exact own _ h rfl
        · have : S.w.heap.size ≤ (S.μ q).blk := h
          omega
      · intro q' y' h1 h2 h3 e
        rcases hc.new q' y' h1 h2 h3 with h | h
        · exact own _ h e
        · have : S.w.heap.size ≤ (S1.μ q').blk := h
          omega
    · have own : ∀ b, Blks (S.part (only m (fo.1 ++ fo.2)).get) b → b ≠ (S.μ q).blk := by
        rintro b ⟨o', x', h2, h3, h4⟩ e
        have h4 : (S.μ o').blk = b := h4
        obtain ⟨h5, h6⟩ := hpart _ _ h2
        obtain rfl := G.inj o' q x' y h5 hSq h3 hn (by rw [h4, e])
        exact h6.elim hqR hqW
      refine ⟨?_, ?_, ?_⟩
      · exact e2.fr.block _ hlt (fun hb => own _ hb rfl)
      · intro hk
        rcases e2.ok' _ hk with h | h | h
        · exact G.sep q y hSq hn h
        · exact own _ h rfl
        · have : S.w.heap.size ≤ (S.μ q).blk := h
          omega
      · intro q' y' h1 h2 h3 e
        rcases e2.blk' _ ⟨q', y', h1, h3, rfl⟩ with h | h
        · exact own _ h e
        · have : S.w.heap.size ≤ (S1.μ q').blk := h
          omega
end
end Go.Proofs.YtkenjojkpdeooaaGreatDoor.AI
end
