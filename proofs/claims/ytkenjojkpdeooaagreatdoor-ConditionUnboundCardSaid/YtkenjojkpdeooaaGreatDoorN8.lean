/- ConditionUnbound. -/
import Derived.Test.YtkenjojkpdeooaaGreatDoorN7
section
set_option linter.unusedVariables false
set_option linter.constructorNameAsVariable false
set_option maxRecDepth 100000
set_option maxHeartbeats 2000000
set_option linter.unusedSimpArgs false
namespace Go.Proofs.YtkenjojkpdeooaaGreatDoor
open AI

theorem f17x : FOK cw27 lw17 17 spec17 := f17
noncomputable def cw28_ : FuncId → Option AI.Spec := fun f => match f with
  | 20 => some (spec20u)
  | 17 => some (spec17)
  | 18 => some (spec18)
  | _ => none
noncomputable def cw28 : CallW := addF cw28_ cw27
theorem lay45 : Lay Tryz.prog ctx cw28 lw17 := layF lay44 fun f S h => by
  unfold cw28_ at h
  split at h <;> cases h
  · exact fok_any f20u
  · exact fok_any f17x
  · exact fok_any f18
theorem labX : Pure.at' 2 labG (strL [120]) = 0 := by kernel_rfl
theorem labY : Pure.at' 2 labG (strL [121]) = 1 := by kernel_rfl
theorem condX : Cond (fun s => 0 ≤ Pure.at' 2 labG s) 4 sWord sWord sE (strL [120]) false 0 (fun _ _ => .bad) := by
  refine ⟨.mk 4 sWord sWord sE (strL [120]) false [], ?_, ?_, ?_, ?_⟩
  · unfold Pure.IsC Pure.IsL; exact ⟨rfl, rfl, rfl, rfl, rfl, rfl, rfl, trivial⟩
  · unfold Good Goods
    exact ⟨.same _ _ _ (.inl rfl) (.inl rfl) (by rw [labX]; decide), trivial⟩
  · unfold Cnd.dep Cnd.deps; decide
  · unfold Cnd.size Cnd.sizes; decide
theorem out_no {nt : Nat} {b : Int} (h0 : -1 ≤ b) (h1 : b < nt) : Pure.outB nt b = false := by
  unfold Pure.outB
  rw [decide_eq_false (by omega), decide_eq_false (by omega)]; rfl
theorem ix_two {p : Nat → Bool} (h0 : p 0 = false) (h1 : p 1 = false) : Pure.ix p 2 = -1 := by
  unfold Pure.ix Pure.ixGo
  rw [h0]
  unfold Pure.ixGo
  dsimp only
  rw [h1]
  rfl
theorem ix_pair {nt : Nat} {x y : Int} (h0 : -1 ≤ x) (h1 : x < nt) (h2 : -1 ≤ y) (h3 : y < nt) : Pure.ix (fun j => Pure.outB nt ([PV.int x, PV.int y].getD (j * 1 + 0) .bad).i) 2 = -1 :=
  ix_two (out_no (b := x) h0 h1) (out_no (b := y) h2 h3)
/-- A law: true. -/
noncomputable def spec6 : AI.Spec := fun xs m K => match xs, m with
  | [.psl 3 n g, .int .i64 i], [] => K (.bool true) []
  | _, _ => False
theorem e6 (n : Nat) (g : Nat → Nat → PV) (i : Int) (Q : AV → Mem → Prop) : runW ctx cw28 lw17 6 [.psl 3 n g, .int .i64 i] [] Q = (∀ (len' : Nat) (g' : Nat → Nat → PV), len' ≤ 120 → ((1 : Int) ≤ (5 : Int) ∧ (5 : Int) ≤ (100 : Int) ∧ 0 ≤ len' ∧ len' ≤ 120) ∧ ∀ (a' mt mx mr mn mh ms : Nat) (ft fx fr fn_ fh fs : Nat → Nat → PV), a' ≤ len' → 1 ≤ mt → CorOK 300 mt mx mr mn mh ms ft fx fr fn_ fs → ((1 : Int) ≤ (mt : Int) ∧ (mt : Int) ≤ (4611686018427387904 : Int)) ∧ ∀ (r : Int), (0 : Int) ≤ r → r < (mt : Int) → True ∧ (attrG = attrG ∧ 2 ≤ 1000 ∧ (0 : Int) ≤ Pure.at' 2 labG (strL [120]) ∧ 2 = 2 ∧ (Cond (fun s => (0 : Int) ≤ Pure.at' 2 labG s) (4 : Int) (strL [119, 111, 114, 100]) (strL [119, 111, 114, 100]) (strL []) (strL [120]) false 0 fun x x_1 => PV.bad) ∧ (0 : Int) ≤ r ∧ r < (mt : Int) ∧ Pure.ix (fun j => Pure.outB mt ([PV.int (-1 : Int), PV.int r].getD (j * 1 + 0) PV.bad).i) 2 = (-1 : Int)) ∧ brW (Pure.same mt ft r ([PV.int (-1 : Int), PV.int r].getD ((Pure.at' 2 labG (strL [120])).toNat * 1 + 0) PV.bad).i (Pure.at 3 attrG (strL [119, 111, 114, 100])) (Pure.at 3 attrG (strL [119, 111, 114, 100]))) (Q (AV.bool false) []) (True ∧ (attrG = attrG ∧ 2 ≤ 1000 ∧ (0 : Int) ≤ Pure.at' 2 labG (strL [120]) ∧ 2 = 2 ∧ (Cond (fun s => (0 : Int) ≤ Pure.at' 2 labG s) (4 : Int) (strL [119, 111, 114, 100]) (strL [119, 111, 114, 100]) (strL []) (strL [120]) false 0 fun x x_1 => PV.bad) ∧ (0 : Int) ≤ r ∧ r < (mt : Int) ∧ Pure.ix (fun j => Pure.outB mt ([PV.int r, PV.int (-1 : Int)].getD (j * 1 + 0) PV.bad).i) 2 = (-1 : Int)) ∧ brW (Pure.same mt ft r ([PV.int r, PV.int (-1 : Int)].getD ((Pure.at' 2 labG (strL [120])).toNat * 1 + 0) PV.bad).i (Pure.at 3 attrG (strL [119, 111, 114, 100])) (Pure.at 3 attrG (strL [119, 111, 114, 100]))) (Q (AV.bool true) []) (Q (AV.bool false) []))) := by kernel_rfl
theorem same_self (nt : Nat) (gt : Nat → Nat → PV) (i a : Int) (h : 0 ≤ i) : Pure.same nt gt i i a a = true := by
  unfold Pure.same
  rw [decide_eq_true h, beq_self_eq_true]; rfl
theorem same_none (nt : Nat) (gt : Nat → Nat → PV) (i a b : Int) : Pure.same nt gt i (-1) a b = false := by
  unfold Pure.same
  rw [decide_eq_false (by decide)]; rfl
theorem f6 : FOK cw28 lw17 6 spec6 := by
  intro xs m K0 h
  unfold spec6 at h
  split at h
  · rename_i n g i
    have hr : runW ctx cw28 lw17 6 [.psl 3 n g, .int .i64 i] [] (fun r mm => r = .bool true ∧ mm = []) := by
      rw [e6, labX]
      (repeat' (first | with_reducible refine brd (fun _ => ?_) (fun _ => ?_) | with_reducible refine holds_if ?_ ?_ | with_reducible refine holds_ifn ?_ ?_ | with_reducible refine holds_some ?_ | with_reducible refine br (fun _ => ?_) (fun _ => ?_) | with_reducible refine And.intro ?_ ?_ | with_reducible refine fun _ => ?_))
      all_goals first
        | omega
        | rfl
        | exact condX
        | (rename_i c _ _ _; have := c.bt; omega)
        | (rename_i c; have := c.bt; omega)
        | exact ix_pair (by omega) (by omega) (by omega) (by omega)
        | (rename_i c; exact absurd ((same_none _ _ _ _ _).symm.trans c) (by decide))
        | (rename_i c; exact absurd ((same_self _ _ _ _ (by assumption)).symm.trans c) (by decide))
        | exact trivial
        | decide
    obtain ⟨r, m', h1, rfl, rfl⟩ := lay45.run hr
    exact ⟨_, _, h1, fun K hK => hK⟩
  · exact h.elim
end Go.Proofs.YtkenjojkpdeooaaGreatDoor
end
