/- Looking up: attributes, labels, values. · Bindings in their bounds. · Conditions; one node is as it should be. · One node is as it should be, for attributes and labels. -/
import Derived.Test.YtkenjojkpdeooaaGreatDoorN4
section
set_option linter.unusedVariables false
set_option linter.constructorNameAsVariable false
set_option maxRecDepth 100000
set_option maxHeartbeats 2000000
set_option linter.unusedSimpArgs false
namespace Go.Proofs.YtkenjojkpdeooaaGreatDoor
open AI

/-- The first number from i on, of k ones, of which p holds. -/
def Pure.ixGo (p : Nat → Bool) : Nat → Nat → Int
  | 0, _ => -1
  | k + 1, i => match p i with
    | true => (i : Int)
    | false => Pure.ixGo p k (i + 1)
def Pure.ix (p : Nat → Bool) (n : Nat) : Int := Pure.ixGo p n 0
theorem ix_here {p : Nat → Bool} {n : Nat} {i : Int} (h0 : 0 ≤ i) (h1 : i < n) (hp : p i.toNat = true) : Pure.ixGo p (n - i.toNat) i.toNat = i := by
  obtain ⟨k, hk⟩ : ∃ k, n - i.toNat = k + 1 := ⟨n - i.toNat - 1, by omega⟩
  rw [hk]
  unfold Pure.ixGo
  rw [hp]
  dsimp only
  omega
theorem ix_next {p : Nat → Bool} {n : Nat} {i : Int} (h0 : 0 ≤ i) (h1 : i < n) (hp : p i.toNat = false) : Pure.ixGo p (n - (i + 1).toNat) (i + 1).toNat = Pure.ixGo p (n - i.toNat) i.toNat := by
  obtain ⟨k, hk⟩ : ∃ k, n - i.toNat = k + 1 := ⟨n - i.toNat - 1, by omega⟩
  have e : n - (i + 1).toNat = k := by omega
  have e2 : (i + 1).toNat = i.toNat + 1 := by omega
  rw [e, e2]
  rw [hk]
  conv => rhs; unfold Pure.ixGo
  rw [hp]
theorem ix_end {p : Nat → Bool} {n : Nat} {i : Int} (h1 : ¬ i < n) : Pure.ixGo p (n - i.toNat) i.toNat = -1 := by
  have : n - i.toNat = 0 := by omega
  rw [this]; rfl
theorem ixGo_lt {p : Nat → Bool} : ∀ (k i : Nat), -1 ≤ Pure.ixGo p k i ∧ Pure.ixGo p k i < ((i + k : Nat) : Int)
  | 0, i => by unfold Pure.ixGo; omega
  | k + 1, i => by
    unfold Pure.ixGo
    have := ixGo_lt (p := p) k (i + 1)
    cases p i
    · dsimp only; omega
    · dsimp only; omega
theorem ix_lt (p : Nat → Bool) (n : Nat) : -1 ≤ Pure.ix p n ∧ Pure.ix p n < (n : Int) := by
  have := ixGo_lt (p := p) n 0
  unfold Pure.ix
  omega
/-- The place of a string in a list of rows. -/
def Pure.at (n : Nat) (g : Nat → Nat → PV) (nm : ByteArray) : Int := Pure.ix (fun j => (g j 0).s.toList == nm.toList) n
def Pure.at' (n : Nat) (g : Nat → Nat → PV) (nm : ByteArray) : Int := Pure.ix (fun j => nm.toList == (g j 0).s.toList) n
/-- The value of an attribute of a token. -/
def Pure.val (nt : Nat) (gt : Nat → Nat → PV) (i a : Int) : ByteArray :=
  if i < 0 ∨ i ≥ nt ∨ a < 0 ∨ a ≥ ((gt i.toNat 0).n : Int) then strL [] else ((gt i.toNat 0).get a.toNat 0).s
def labG : Nat → Nat → PV := fun i j => [PV.str (strL [120]), PV.str (strL [121])].getD (i * 1 + j) .bad
noncomputable def spec12 : AI.Spec := fun xs m K => match xs, m with
  | [], [] => (True) ∧ K (.psl 9 2 labG) []
  | _, _ => False
theorem e12 (Q : AV → Mem → Prop) : runW ctx cw13 lw15 12 [] [] Q = (Q (AV.psl 9 2 fun i j => [PV.str (strL [120]), PV.str (strL [121])].getD (i * 1 + j) PV.bad) []) := by kernel_rfl
theorem f12 : FOK cw13 lw15 12 spec12 := by
  intro xs m K0 h
  unfold spec12 at h
  split at h
  · skip
    obtain ⟨_, _⟩ := h
    have hr : runW ctx cw13 lw15 12 [] [] (fun r mm => r = (.psl 9 2 labG) ∧ mm = []) := by
      rw [e12]
      (repeat' (first | with_reducible refine brd (fun _ => ?_) (fun _ => ?_) | with_reducible refine holds_if ?_ ?_ | with_reducible refine holds_ifn ?_ ?_ | with_reducible refine holds_some ?_ | with_reducible refine br (fun _ => ?_) (fun _ => ?_) | with_reducible refine And.intro ?_ ?_ | with_reducible refine fun _ => ?_))
      all_goals first
        | omega
        | rfl
        | assumption
        | exact trivial
        | (simp_all; done)
    obtain ⟨r, m', h1, rfl, rfl⟩ := lay28.run hr
    exact ⟨_, _, h1, fun K hK => hK.2⟩
  · exact h.elim
noncomputable def spec111 : AI.Spec := fun xs m K => match xs, m with
  | [.agg [.str nm, .bool b], .adr 0 0 0], [(0, .box [.str x])] => (True) ∧ K (.bool (nm.toList == x.toList)) [(0, .box [.str x])]
  | _, _ => False
theorem e111 (nm x : ByteArray) (b : Bool) (Q : AV → Mem → Prop) : runW ctx cw13 lw15 111 [.agg [.str nm, .bool b], .adr 0 0 0] [(0, .box [.str x])] Q = (brW (nm.toList == x.toList) (Q (AV.bool true) [(0, Ob.box [AV.str x])]) (Q (AV.bool false) [(0, Ob.box [AV.str x])])) := by kernel_rfl
theorem f111 : FOK cw13 lw15 111 spec111 := by
  intro xs m K0 h
  unfold spec111 at h
  split at h
  · rename_i nm b x
    obtain ⟨_, _⟩ := h
    have hr : runW ctx cw13 lw15 111 [.agg [.str nm, .bool b], .adr 0 0 0] [(0, .box [.str x])] (fun r mm => r = (.bool (nm.toList == x.toList)) ∧ mm = [(0, .box [.str x])]) := by
      rw [e111]
      (repeat' (first | with_reducible refine brd (fun _ => ?_) (fun _ => ?_) | with_reducible refine holds_if ?_ ?_ | with_reducible refine holds_ifn ?_ ?_ | with_reducible refine holds_some ?_ | with_reducible refine br (fun _ => ?_) (fun _ => ?_) | with_reducible refine And.intro ?_ ?_ | with_reducible refine fun _ => ?_))
      all_goals first
        | omega
        | rfl
        | assumption
        | exact trivial
        | (simp_all; done)
    obtain ⟨r, m', h1, rfl, rfl⟩ := lay28.run hr
    exact ⟨_, _, h1, fun K hK => hK.2⟩
  · exact h.elim
noncomputable def spec85 : AI.Spec := fun xs m K => match xs, m with
  | [.agg [.psl 71 3 ga, .psl 29 nt gt, .psl 105 nx gx, .psl 109 nr gr, .psl 117 nn gn, .psl 3 nh gh, .psl 9 ns gs], .int .i64 i, .int .i64 at_], [] => (True) ∧ K (.str (Pure.val nt gt i at_)) []
  | _, _ => False
theorem e85 (nt nx nr nn nh ns : Nat) (ga gt gx gr gn gh gs : Nat → Nat → PV) (i at_ : Int) (Q : AV → Mem → Prop) : runW ctx cw13 lw15 85 [.agg [.psl 71 3 ga, .psl 29 nt gt, .psl 105 nx gx, .psl 109 nr gr, .psl 117 nn gn, .psl 3 nh gh, .psl 9 ns gs], .int .i64 i, .int .i64 at_] [] Q = (brW (decide (i < (0 : Int))) (Q (AV.str (strL [])) []) (brW (decide (i ≥ (nt : Int))) (Q (AV.str (strL [])) []) (brW (decide (at_ < (0 : Int))) (Q (AV.str (strL [])) []) (holds (if (0 : Int) ≤ i then if i < (nt : Int) then some (brW (decide (at_ ≥ (↑(gt i.toNat 0).n : Int))) (Q (AV.str (strL [])) []) (holds (if (0 : Int) ≤ i then if i < (nt : Int) then some (holds (if (0 : Int) ≤ at_ then if at_ < (↑(gt i.toNat 0).n : Int) then some (Q (AV.str ((gt i.toNat 0).get at_.toNat 0).s) []) else none else none)) else none else none))) else none else none))))) := by kernel_rfl
theorem f85 : FOK cw13 lw15 85 spec85 := by
  intro xs m K0 h
  unfold spec85 at h
  split at h
  · rename_i ga nt gt nx gx nr gr nn gn nh gh ns gs i at_
    obtain ⟨_, _⟩ := h
    have hr : runW ctx cw13 lw15 85 [.agg [.psl 71 3 ga, .psl 29 nt gt, .psl 105 nx gx, .psl 109 nr gr, .psl 117 nn gn, .psl 3 nh gh, .psl 9 ns gs], .int .i64 i, .int .i64 at_] [] (fun r mm => r = (.str (Pure.val nt gt i at_)) ∧ mm = []) := by
      rw [e85]
      (repeat' (first | with_reducible refine brd (fun _ => ?_) (fun _ => ?_) | with_reducible refine holds_if ?_ ?_ | with_reducible refine holds_ifn ?_ ?_ | with_reducible refine holds_some ?_ | with_reducible refine br (fun _ => ?_) (fun _ => ?_) | with_reducible refine And.intro ?_ ?_ | with_reducible refine fun _ => ?_))
      all_goals first
        | omega
        | rfl
        | assumption
        | exact trivial
        | (unfold Pure.val; rw [if_pos (by omega)])
        | (unfold Pure.val; rw [if_neg (by omega)])
        | (simp_all; done)
    obtain ⟨r, m', h1, rfl, rfl⟩ := lay28.run hr
    exact ⟨_, _, h1, fun K hK => hK.2⟩
  · exact h.elim
/-- New: a tape of at most 120 numbers. -/
noncomputable def spec10 : AI.Spec := fun xs m K => match xs, m with
  | [.psl 3 n g], [] => ∀ len' g', len' ≤ 120 → K (.adr 0 0 0) [(0, .box [.psl 3 len' g', .int .i64 0])]
  | _, _ => False
theorem e10 (n : Nat) (g : Nat → Nat → PV) (Q : AV → Mem → Prop) : runW ctx cw13 lw15 10 [.psl 3 n g] [] Q = (brW (decide ((n : Int) > (120 : Int))) (holds (if (120 : Int) ≤ (n : Int) then some (Q (AV.adr 0 0 0) [(0, Ob.box [AV.psl 3 120 fun i j => g (0 + i) j, AV.int IntKind.i64 0])]) else none)) (Q (AV.adr 0 0 0) [(0, Ob.box [AV.psl 3 n g, AV.int IntKind.i64 0])])) := by kernel_rfl
theorem f10 : FOK cw13 lw15 10 spec10 := by
  intro xs m K0 h
  unfold spec10 at h
  split at h
  · rename_i n g
    have hr : runW ctx cw13 lw15 10 [.psl 3 n g] [] (fun r mm => ∃ (len' : Nat) (g' : Nat → Nat → PV), len' ≤ 120 ∧ r = .adr 0 0 0 ∧ mm = [(0, .box [.psl 3 len' g', .int .i64 0])]) := by
      rw [e10]
      (repeat' (first | with_reducible refine brd (fun _ => ?_) (fun _ => ?_) | with_reducible refine holds_if ?_ ?_ | with_reducible refine holds_ifn ?_ ?_ | with_reducible refine holds_some ?_ | with_reducible refine br (fun _ => ?_) (fun _ => ?_) | with_reducible refine And.intro ?_ ?_ | with_reducible refine fun _ => ?_))
      all_goals first
        | omega
        | exact ⟨_, _, by omega, rfl, rfl⟩
        | (simp_all; done)
    obtain ⟨r, m', h1, len', g', h2, rfl, rfl⟩ := lay28.run hr
    exact ⟨_, _, h1, fun K hK => hK len' g' h2⟩
  · exact h.elim
noncomputable def cw14_ : FuncId → Option AI.Spec := fun f => match f with
  | 12 => some (spec12)
  | 111 => some (spec111)
  | 85 => some (spec85)
  | 10 => some (spec10)
  | _ => none
noncomputable def cw14 : CallW := addF cw14_ cw13
theorem lay29 : Lay Tryz.prog ctx cw14 lw15 := layF lay28 fun f S h => by
  unfold cw14_ at h
  split at h <;> cases h
  · exact f12
  · exact f111
  · exact f85
  · exact f10
noncomputable def L110_2 : LSpec := fun base s K => match base, s with
  | 1, ⟨[(0, .psl 71 n g), (1, .fn 111 [.adr 0 0 0]), (7, .int .i64 n'), (8, .int .i64 i)], [(0, .box [.str nm])], 2⟩ => (n' = n ∧ 0 ≤ i ∧ i ≤ n ∧ n ≤ 1000) ∧ (∀ r : Int, r ≠ -1 → Pure.ixGo (fun j => (g j 0).s.toList == nm.toList) (n - i.toNat) i.toNat = r → K .ret ⟨[(4, .int .i64 r)], [(0, .box [.str nm])], 2⟩) ∧ (Pure.ixGo (fun j => (g j 0).s.toList == nm.toList) (n - i.toNat) i.toNat = -1 → K (.exit 0) ⟨[(4, .undef)], [(0, .box [.str nm])], 2⟩)
  | _, _ => False
theorem r110_2 (n : Nat) (g : Nat → Nat → PV) (nm : ByteArray)  (i : Int) (Kn : FS → Prop) (Ke : Ex → FS → Prop) : roundW cw14 lw15 110 1 ⟨[4], []⟩ (loopB 110 2) ⟨[(0, .psl 71 n g), (1, .fn 111 [.adr 0 0 0]), (7, .int .i64 n), (8, .int .i64 i)], [(0, .box [.str nm])], 2⟩ Kn Ke = (brW (decide (i < (n : Int))) (holds (if (0 : Int) ≤ i then if i < (n : Int) then some (True ∧ brW ((g i.toNat 0).s.toList == nm.toList) (Ke Ex.ret { tmps := [(4, AV.int IntKind.i64 i)], mem := [(0, Ob.box [AV.str nm])], nx := 2 }) (Kn { tmps := [(0, AV.psl 71 n g), (1, AV.fn 111 [AV.adr 0 0 0]), (7, AV.int IntKind.i64 (n : Int)), (8, AV.int IntKind.i64 (IntKind.i64.wrap (i + (1 : Int))))], mem := [(0, Ob.box [AV.str nm])], nx := 2 })) else none else none)) (Ke (Ex.exit 0) { tmps := [(4, AV.undef)], mem := [(0, Ob.box [AV.str nm])], nx := 2 })) := by kernel_rfl
theorem l110_2 : LOK cw14 lw15 110 2 ⟨[4], []⟩ L110_2 := by
  intro base s K h
  unfold L110_2 at h
  split at h
  · rename_i n g n' iz nm
    obtain ⟨⟨rfl, a0, a1, p0⟩, k1 , k2⟩ := h
    refine ⟨((n : Int) - iz + 1).toNat, loop_rule (fun N s => ∃ (i : Int), s = (⟨[(0, .psl 71 n g), (1, .fn 111 [.adr 0 0 0]), (7, .int .i64 n), (8, .int .i64 i)], [(0, .box [.str nm])], 2⟩ : FS) ∧ 0 ≤ i ∧ i ≤ n ∧ Pure.ixGo (fun j => (g j 0).s.toList == nm.toList) (n - i.toNat) i.toNat = Pure.ixGo (fun j => (g j 0).s.toList == nm.toList) (n - iz.toNat) iz.toNat ∧ (n : Int) - i + 1 ≤ (N : Int)) ?_ ?_ _ _ ⟨iz, rfl, a0, a1, rfl, by omega⟩⟩
    · rintro s ⟨i, _, i0, i1, i2, iN⟩; omega
    · rintro N Kn hKn s ⟨i, rfl, i0, i1, i2, iN⟩
      rw [r110_2]
      try rw [wrap_succ i0 (by omega)]
      (repeat' (first | with_reducible refine brd (fun _ => ?_) (fun _ => ?_) | with_reducible refine holds_if ?_ ?_ | with_reducible refine holds_ifn ?_ ?_ | with_reducible refine holds_some ?_ | with_reducible refine br (fun _ => ?_) (fun _ => ?_) | with_reducible refine And.intro ?_ ?_ | with_reducible refine fun _ => ?_))
      all_goals first
        | omega
        | exact trivial
        | exact k1
        | exact k2
        | exact k1 _
        | exact k1 _ _
        | exact k1 _ _ _
        | exact k2 _
        | exact k2 _ _
        | exact k2 _ _ _
        | exact hKn _ ⟨i + 1, rfl, by omega, by omega, (by assumption), by omega⟩
        | exact k1 _ (by omega) (i2.symm.trans (ix_here i0 (by assumption) (by assumption)))
        | exact k2 (i2.symm.trans (ix_end (by omega)))
        | exact hKn _ ⟨i + 1, rfl, by omega, by omega, (ix_next i0 (by assumption) (by assumption)).trans i2, by omega⟩
  · exact h.elim
noncomputable def L88_2 : LSpec := fun base s K => match base, s with
  | 0, ⟨[(0, .psl 9 n g), (1, .str nm), (7, .int .i64 n'), (8, .int .i64 i)], [], 0⟩ => (n' = n ∧ 0 ≤ i ∧ i ≤ n ∧ n ≤ 1000) ∧ (∀ r : Int, r ≠ -1 → Pure.ixGo (fun j => nm.toList == (g j 0).s.toList) (n - i.toNat) i.toNat = r → K .ret ⟨[(4, .int .i64 r)], [], 0⟩) ∧ (Pure.ixGo (fun j => nm.toList == (g j 0).s.toList) (n - i.toNat) i.toNat = -1 → K (.exit 0) ⟨[(4, .undef)], [], 0⟩)
  | _, _ => False
theorem r88_2 (n : Nat) (g : Nat → Nat → PV) (nm : ByteArray)  (i : Int) (Kn : FS → Prop) (Ke : Ex → FS → Prop) : roundW cw14 lw15 88 0 ⟨[4], []⟩ (loopB 88 2) ⟨[(0, .psl 9 n g), (1, .str nm), (7, .int .i64 n), (8, .int .i64 i)], [], 0⟩ Kn Ke = (brW (decide (i < (n : Int))) (holds (if (0 : Int) ≤ i then if i < (n : Int) then some (brW (nm.toList == (g i.toNat 0).s.toList) (Ke Ex.ret { tmps := [(4, AV.int IntKind.i64 i)], mem := [], nx := 0 }) (Kn { tmps := [(0, AV.psl 9 n g), (1, AV.str nm), (7, AV.int IntKind.i64 (n : Int)), (8, AV.int IntKind.i64 (IntKind.i64.wrap (i + (1 : Int))))], mem := [], nx := 0 })) else none else none)) (Ke (Ex.exit 0) { tmps := [(4, AV.undef)], mem := [], nx := 0 })) := by kernel_rfl
theorem l88_2 : LOK cw14 lw15 88 2 ⟨[4], []⟩ L88_2 := by
  intro base s K h
  unfold L88_2 at h
  split at h
  · rename_i n g nm n' iz
    obtain ⟨⟨rfl, a0, a1, p0⟩, k1 , k2⟩ := h
    refine ⟨((n : Int) - iz + 1).toNat, loop_rule (fun N s => ∃ (i : Int), s = (⟨[(0, .psl 9 n g), (1, .str nm), (7, .int .i64 n), (8, .int .i64 i)], [], 0⟩ : FS) ∧ 0 ≤ i ∧ i ≤ n ∧ Pure.ixGo (fun j => nm.toList == (g j 0).s.toList) (n - i.toNat) i.toNat = Pure.ixGo (fun j => nm.toList == (g j 0).s.toList) (n - iz.toNat) iz.toNat ∧ (n : Int) - i + 1 ≤ (N : Int)) ?_ ?_ _ _ ⟨iz, rfl, a0, a1, rfl, by omega⟩⟩
    · rintro s ⟨i, _, i0, i1, i2, iN⟩; omega
    · rintro N Kn hKn s ⟨i, rfl, i0, i1, i2, iN⟩
      rw [r88_2]
      try rw [wrap_succ i0 (by omega)]
      (repeat' (first | with_reducible refine brd (fun _ => ?_) (fun _ => ?_) | with_reducible refine holds_if ?_ ?_ | with_reducible refine holds_ifn ?_ ?_ | with_reducible refine holds_some ?_ | with_reducible refine br (fun _ => ?_) (fun _ => ?_) | with_reducible refine And.intro ?_ ?_ | with_reducible refine fun _ => ?_))
      all_goals first
        | omega
        | exact trivial
        | exact k1
        | exact k2
        | exact k1 _
        | exact k1 _ _
        | exact k1 _ _ _
        | exact k2 _
        | exact k2 _ _
        | exact k2 _ _ _
        | exact hKn _ ⟨i + 1, rfl, by omega, by omega, (by assumption), by omega⟩
        | exact k1 _ (by omega) (i2.symm.trans (ix_here i0 (by assumption) (by assumption)))
        | exact k2 (i2.symm.trans (ix_end (by omega)))
        | exact hKn _ ⟨i + 1, rfl, by omega, by omega, (ix_next i0 (by assumption) (by assumption)).trans i2, by omega⟩
  · exact h.elim
noncomputable def lw16_ : FuncId → Nat → Option (Hint × LSpec) := fun f rid => match f, rid with
  | 110, 2 => some (⟨[4], []⟩, L110_2)
  | 88, 2 => some (⟨[4], []⟩, L88_2)
  | _, _ => none
noncomputable def lw16 : LoopW := addL lw16_ lw15
theorem lay30 : Lay Tryz.prog ctx cw14 lw16 := layL lay29 fun f rid p h => by
  unfold lw16_ at h
  split at h <;> cases h
  · exact ⟨by kernel_rfl, l110_2⟩
  · exact ⟨by kernel_rfl, l88_2⟩
noncomputable def spec110 : AI.Spec := fun xs m K => match xs, m with
  | [.psl 71 n g, .fn 111 [.adr 0 0 0]], [(0, .box [.str nm])] => (n ≤ 1000) ∧ K (.int .i64 (Pure.at n g nm)) [(0, .box [.str nm])]
  | _, _ => False
theorem e110 (n : Nat) (g : Nat → Nat → PV) (nm : ByteArray) (Q : AV → Mem → Prop) : runW ctx cw14 lw16 110 [.psl 71 n g, .fn 111 [.adr 0 0 0]] [(0, .box [.str nm])] Q = (((n : Int) = (n : Int) ∧ (0 : Int) ≤ (0 : Int) ∧ (0 : Int) ≤ (n : Int) ∧ n ≤ 1000) ∧ (∀ (r : Int), r ≠ (-1 : Int) → Pure.ixGo (fun j => (g j 0).s.toList == nm.toList) (n - 0) 0 = r → Q (AV.int IntKind.i64 r) [(0, Ob.box [AV.str nm])]) ∧ (Pure.ixGo (fun j => (g j 0).s.toList == nm.toList) (n - 0) 0 = (-1 : Int) → Q (AV.int IntKind.i64 (-1 : Int)) [(0, Ob.box [AV.str nm])])) := by kernel_rfl
theorem f110 : FOK cw14 lw16 110 spec110 := by
  intro xs m K0 h
  unfold spec110 at h
  split at h
  · rename_i n g nm
    obtain ⟨p0, _⟩ := h
    have hr : runW ctx cw14 lw16 110 [.psl 71 n g, .fn 111 [.adr 0 0 0]] [(0, .box [.str nm])] (fun r mm => r = (.int .i64 (Pure.at n g nm)) ∧ mm = [(0, .box [.str nm])]) := by
      rw [e110]
      (repeat' (first | with_reducible refine brd (fun _ => ?_) (fun _ => ?_) | with_reducible refine holds_if ?_ ?_ | with_reducible refine holds_ifn ?_ ?_ | with_reducible refine holds_some ?_ | with_reducible refine br (fun _ => ?_) (fun _ => ?_) | with_reducible refine And.intro ?_ ?_ | with_reducible refine fun _ => ?_))
      all_goals first
        | omega
        | rfl
        | assumption
        | exact trivial
        | exact congrArg (AV.int IntKind.i64) (Eq.symm (by assumption))
        | (simp_all; done)
    obtain ⟨r, m', h1, rfl, rfl⟩ := lay30.run hr
    exact ⟨_, _, h1, fun K hK => hK.2⟩
  · exact h.elim
noncomputable def spec88 : AI.Spec := fun xs m K => match xs, m with
  | [.psl 9 n g, .str nm], [] => (n ≤ 1000) ∧ K (.int .i64 (Pure.at' n g nm)) []
  | _, _ => False
theorem e88 (n : Nat) (g : Nat → Nat → PV) (nm : ByteArray) (Q : AV → Mem → Prop) : runW ctx cw14 lw16 88 [.psl 9 n g, .str nm] [] Q = (((n : Int) = (n : Int) ∧ (0 : Int) ≤ (0 : Int) ∧ (0 : Int) ≤ (n : Int) ∧ n ≤ 1000) ∧ (∀ (r : Int), r ≠ (-1 : Int) → Pure.ixGo (fun j => nm.toList == (g j 0).s.toList) (n - 0) 0 = r → Q (AV.int IntKind.i64 r) []) ∧ (Pure.ixGo (fun j => nm.toList == (g j 0).s.toList) (n - 0) 0 = (-1 : Int) → Q (AV.int IntKind.i64 (-1 : Int)) [])) := by kernel_rfl
theorem f88 : FOK cw14 lw16 88 spec88 := by
  intro xs m K0 h
  unfold spec88 at h
  split at h
  · rename_i n g nm
    obtain ⟨p0, _⟩ := h
    have hr : runW ctx cw14 lw16 88 [.psl 9 n g, .str nm] [] (fun r mm => r = (.int .i64 (Pure.at' n g nm)) ∧ mm = []) := by
      rw [e88]
      (repeat' (first | with_reducible refine brd (fun _ => ?_) (fun _ => ?_) | with_reducible refine holds_if ?_ ?_ | with_reducible refine holds_ifn ?_ ?_ | with_reducible refine holds_some ?_ | with_reducible refine br (fun _ => ?_) (fun _ => ?_) | with_reducible refine And.intro ?_ ?_ | with_reducible refine fun _ => ?_))
      all_goals first
        | omega
        | rfl
        | assumption
        | exact trivial
        | exact congrArg (AV.int IntKind.i64) (Eq.symm (by assumption))
        | (simp_all; done)
    obtain ⟨r, m', h1, rfl, rfl⟩ := lay30.run hr
    exact ⟨_, _, h1, fun K hK => hK.2⟩
  · exact h.elim
noncomputable def cw15_ : FuncId → Option AI.Spec := fun f => match f with
  | 110 => some (spec110)
  | 88 => some (spec88)
  | _ => none
noncomputable def cw15 : CallW := addF cw15_ cw14
theorem lay31 : Lay Tryz.prog ctx cw15 lw16 := layF lay30 fun f S h => by
  unfold cw15_ at h
  split at h <;> cases h
  · exact f110
  · exact f88
noncomputable def spec67 : AI.Spec := fun xs m K => match xs, m with
  | [.psl 71 n g, .str nm], [] => (n ≤ 1000) ∧ K (.int .i64 (Pure.at n g nm)) []
  | _, _ => False
theorem e67 (n : Nat) (g : Nat → Nat → PV) (nm : ByteArray) (Q : AV → Mem → Prop) : runW ctx cw15 lw16 67 [.psl 71 n g, .str nm] [] Q = (n ≤ 1000 ∧ Q (AV.int IntKind.i64 (Pure.at n g nm)) []) := by kernel_rfl
theorem f67 : FOK cw15 lw16 67 spec67 := by
  intro xs m K0 h
  unfold spec67 at h
  split at h
  · rename_i n g nm
    obtain ⟨p0, _⟩ := h
    have hr : runW ctx cw15 lw16 67 [.psl 71 n g, .str nm] [] (fun r mm => r = (.int .i64 (Pure.at n g nm)) ∧ mm = []) := by
      rw [e67]
      (repeat' (first | with_reducible refine brd (fun _ => ?_) (fun _ => ?_) | with_reducible refine holds_if ?_ ?_ | with_reducible refine holds_ifn ?_ ?_ | with_reducible refine holds_some ?_ | with_reducible refine br (fun _ => ?_) (fun _ => ?_) | with_reducible refine And.intro ?_ ?_ | with_reducible refine fun _ => ?_))
      all_goals first
        | omega
        | rfl
        | assumption
        | exact trivial
        | (simp_all; done)
    obtain ⟨r, m', h1, rfl, rfl⟩ := lay31.run hr
    exact ⟨_, _, h1, fun K hK => hK.2⟩
  · exact h.elim
noncomputable def spec61 : AI.Spec := fun xs m K => match xs, m with
  | [.psl 9 n g, .str nm], [] => (n ≤ 1000) ∧ K (.bool (decide (Pure.at' n g nm ≥ 0))) []
  | _, _ => False
theorem e61 (n : Nat) (g : Nat → Nat → PV) (nm : ByteArray) (Q : AV → Mem → Prop) : runW ctx cw15 lw16 61 [.psl 9 n g, .str nm] [] Q = (n ≤ 1000 ∧ brW (decide (Pure.at' n g nm ≥ (0 : Int))) (Q (AV.bool true) []) (Q (AV.bool false) [])) := by kernel_rfl
theorem f61 : FOK cw15 lw16 61 spec61 := by
  intro xs m K0 h
  unfold spec61 at h
  split at h
  · rename_i n g nm
    obtain ⟨p0, _⟩ := h
    have hr : runW ctx cw15 lw16 61 [.psl 9 n g, .str nm] [] (fun r mm => r = (.bool (decide (Pure.at' n g nm ≥ 0))) ∧ mm = []) := by
      rw [e61]
      (repeat' (first | with_reducible refine brd (fun _ => ?_) (fun _ => ?_) | with_reducible refine holds_if ?_ ?_ | with_reducible refine holds_ifn ?_ ?_ | with_reducible refine holds_some ?_ | with_reducible refine br (fun _ => ?_) (fun _ => ?_) | with_reducible refine And.intro ?_ ?_ | with_reducible refine fun _ => ?_))
      all_goals first
        | omega
        | rfl
        | assumption
        | exact trivial
        | (simp_all; done)
    obtain ⟨r, m', h1, rfl, rfl⟩ := lay31.run hr
    exact ⟨_, _, h1, fun K hK => hK.2⟩
  · exact h.elim
noncomputable def cw16_ : FuncId → Option AI.Spec := fun f => match f with
  | 67 => some (spec67)
  | 61 => some (spec61)
  | _ => none
noncomputable def cw16 : CallW := addF cw16_ cw15
theorem lay32 : Lay Tryz.prog ctx cw16 lw16 := layF lay31 fun f S h => by
  unfold cw16_ at h
  split at h <;> cases h
  · exact f67
  · exact f61
/-- The first attribute, or the one of a name. -/
def Pure.first (n : Nat) (g : Nat → Nat → PV) (nm : ByteArray) : Int := match nm.toList == (strL []).toList with
  | true => 0
  | false => Pure.at n g nm
noncomputable def spec86 : AI.Spec := fun xs m K => match xs, m with
  | [.psl 71 n g, .str nm], [] => (1 ≤ n ∧ n ≤ 1000) ∧ K (.int .i64 (Pure.first n g nm)) []
  | _, _ => False
theorem e86 (n : Nat) (g : Nat → Nat → PV) (nm : ByteArray) (Q : AV → Mem → Prop) : runW ctx cw16 lw16 86 [.psl 71 n g, .str nm] [] Q = (brW (nm.toList == (strL []).toList) (Q (AV.int IntKind.i64 (if IntKind.i64.wrap ((n : Int) - (1 : Int)) < (0 : Int) then IntKind.i64.wrap ((n : Int) - (1 : Int)) else (0 : Int))) []) (n ≤ 1000 ∧ Q (AV.int IntKind.i64 (Pure.at n g nm)) [])) := by kernel_rfl
theorem f86 : FOK cw16 lw16 86 spec86 := by
  intro xs m K0 h
  unfold spec86 at h
  split at h
  · rename_i n g nm
    obtain ⟨⟨p0, p1⟩, _⟩ := h
    have hr : runW ctx cw16 lw16 86 [.psl 71 n g, .str nm] [] (fun r mm => r = (.int .i64 (Pure.first n g nm)) ∧ mm = []) := by
      rw [e86]
      (repeat' (first | with_reducible refine brd (fun _ => ?_) (fun _ => ?_) | with_reducible refine holds_if ?_ ?_ | with_reducible refine holds_ifn ?_ ?_ | with_reducible refine holds_some ?_ | with_reducible refine br (fun _ => ?_) (fun _ => ?_) | with_reducible refine And.intro ?_ ?_ | with_reducible refine fun _ => ?_))
      all_goals first
        | omega
        | rfl
        | assumption
        | exact trivial
        | (have h : (nm.toList == (strL []).toList) = true := (by assumption); rw [if_neg (by (first | omega | (simp only [wrap_eq] at *; omega)))]; unfold Pure.first; rw [h])
        | (have h : (nm.toList == (strL []).toList) = false := (by assumption); unfold Pure.first; rw [h])
        | (simp_all; done)
    obtain ⟨r, m', h1, rfl, rfl⟩ := lay32.run hr
    exact ⟨_, _, h1, fun K hK => hK.2⟩
  · exact h.elim
noncomputable def cw17_ : FuncId → Option AI.Spec := fun f => match f with
  | 86 => some (spec86)
  | _ => none
noncomputable def cw17 : CallW := addF cw17_ cw16
theorem lay33 : Lay Tryz.prog ctx cw17 lw16 := layF lay32 fun f S h => by
  unfold cw17_ at h
  split at h <;> cases h
  · exact f86
end Go.Proofs.YtkenjojkpdeooaaGreatDoor
end
section
set_option linter.unusedVariables false
set_option linter.constructorNameAsVariable false
set_option maxRecDepth 100000
set_option maxHeartbeats 2000000
set_option linter.unusedSimpArgs false
namespace Go.Proofs.YtkenjojkpdeooaaGreatDoor
open AI

/-- Whether a binding is none. -/
def Pure.outB (nt : Nat) (b : Int) : Bool := decide (b < -1) || decide (b ≥ (nt : Int))
noncomputable def spec47 : AI.Spec := fun xs m K => match xs, m with
  | [.int .i64 b, .adr 0 0 0], [(0, .box [.psl 71 3 ga, .psl 29 nt gt, .psl 105 nx gx, .psl 109 nr gr, .psl 117 nn gn, .psl 3 nh gh, .psl 9 ns gs])] => (True) ∧ K (.bool (Pure.outB nt b)) [(0, .box [.psl 71 3 ga, .psl 29 nt gt, .psl 105 nx gx, .psl 109 nr gr, .psl 117 nn gn, .psl 3 nh gh, .psl 9 ns gs])]
  | _, _ => False
theorem e47 (b : Int) (nt nx nr nn nh ns : Nat) (ga gt gx gr gn gh gs : Nat → Nat → PV) (Q : AV → Mem → Prop) : runW ctx cw17 lw16 47 [.int .i64 b, .adr 0 0 0] [(0, .box [.psl 71 3 ga, .psl 29 nt gt, .psl 105 nx gx, .psl 109 nr gr, .psl 117 nn gn, .psl 3 nh gh, .psl 9 ns gs])] Q = (brW (decide (b < (-1 : Int))) (Q (AV.bool true) [(0, Ob.box [AV.psl 71 3 ga, AV.psl 29 nt gt, AV.psl 105 nx gx, AV.psl 109 nr gr, AV.psl 117 nn gn, AV.psl 3 nh gh, AV.psl 9 ns gs])]) (brW (decide (b ≥ (nt : Int))) (Q (AV.bool true) [(0, Ob.box [AV.psl 71 3 ga, AV.psl 29 nt gt, AV.psl 105 nx gx, AV.psl 109 nr gr, AV.psl 117 nn gn, AV.psl 3 nh gh, AV.psl 9 ns gs])]) (Q (AV.bool false) [(0, Ob.box [AV.psl 71 3 ga, AV.psl 29 nt gt, AV.psl 105 nx gx, AV.psl 109 nr gr, AV.psl 117 nn gn, AV.psl 3 nh gh, AV.psl 9 ns gs])]))) := by kernel_rfl
theorem f47 : FOK cw17 lw16 47 spec47 := by
  intro xs m K0 h
  unfold spec47 at h
  split at h
  · rename_i b ga nt gt nx gx nr gr nn gn nh gh ns gs
    obtain ⟨_, _⟩ := h
    have hr : runW ctx cw17 lw16 47 [.int .i64 b, .adr 0 0 0] [(0, .box [.psl 71 3 ga, .psl 29 nt gt, .psl 105 nx gx, .psl 109 nr gr, .psl 117 nn gn, .psl 3 nh gh, .psl 9 ns gs])] (fun r mm => r = (.bool (Pure.outB nt b)) ∧ mm = [(0, .box [.psl 71 3 ga, .psl 29 nt gt, .psl 105 nx gx, .psl 109 nr gr, .psl 117 nn gn, .psl 3 nh gh, .psl 9 ns gs])]) := by
      rw [e47]
      (repeat' (first | with_reducible refine brd (fun _ => ?_) (fun _ => ?_) | with_reducible refine holds_if ?_ ?_ | with_reducible refine holds_ifn ?_ ?_ | with_reducible refine holds_some ?_ | with_reducible refine br (fun _ => ?_) (fun _ => ?_) | with_reducible refine And.intro ?_ ?_ | with_reducible refine fun _ => ?_))
      all_goals first
        | omega
        | rfl
        | assumption
        | exact trivial
        | (unfold Pure.outB; simp only [*, decide_true, decide_false, Bool.true_or, Bool.false_or]; done)
        | (simp_all; done)
    obtain ⟨r, m', h1, rfl, rfl⟩ := lay33.run hr
    exact ⟨_, _, h1, fun K hK => hK.2⟩
  · exact h.elim
noncomputable def cw18_ : FuncId → Option AI.Spec := fun f => match f with
  | 47 => some (spec47)
  | _ => none
noncomputable def cw18 : CallW := addF cw18_ cw17
theorem lay34 : Lay Tryz.prog ctx cw18 lw16 := layF lay33 fun f S h => by
  unfold cw18_ at h
  split at h <;> cases h
  · exact f47
noncomputable def L82_2 : LSpec := fun base s K => match base, s with
  | 1, ⟨[(0, .psl 3 n g), (1, .fn 47 [.adr 0 0 0]), (7, .int .i64 n'), (8, .int .i64 i)], [(0, .box [.psl 71 3 ga, .psl 29 nt gt, .psl 105 nx gx, .psl 109 nr gr, .psl 117 nn gn, .psl 3 nh gh, .psl 9 ns gs])], 2⟩ => (n' = n ∧ 0 ≤ i ∧ i ≤ n ∧ n ≤ 1000) ∧ (∀ r : Int, r ≠ -1 → Pure.ixGo (fun j => Pure.outB nt (g j 0).i) (n - i.toNat) i.toNat = r → K .ret ⟨[(4, .int .i64 r)], [(0, .box [.psl 71 3 ga, .psl 29 nt gt, .psl 105 nx gx, .psl 109 nr gr, .psl 117 nn gn, .psl 3 nh gh, .psl 9 ns gs])], 2⟩) ∧ (Pure.ixGo (fun j => Pure.outB nt (g j 0).i) (n - i.toNat) i.toNat = -1 → K (.exit 0) ⟨[(4, .undef)], [(0, .box [.psl 71 3 ga, .psl 29 nt gt, .psl 105 nx gx, .psl 109 nr gr, .psl 117 nn gn, .psl 3 nh gh, .psl 9 ns gs])], 2⟩)
  | _, _ => False
theorem r82_2 (n : Nat) (g : Nat → Nat → PV) (nt nx nr nn nh ns : Nat) (ga gt gx gr gn gh gs : Nat → Nat → PV)  (i : Int) (Kn : FS → Prop) (Ke : Ex → FS → Prop) : roundW cw18 lw16 82 1 ⟨[4], []⟩ (loopB 82 2) ⟨[(0, .psl 3 n g), (1, .fn 47 [.adr 0 0 0]), (7, .int .i64 n), (8, .int .i64 i)], [(0, .box [.psl 71 3 ga, .psl 29 nt gt, .psl 105 nx gx, .psl 109 nr gr, .psl 117 nn gn, .psl 3 nh gh, .psl 9 ns gs])], 2⟩ Kn Ke = (brW (decide (i < (n : Int))) (holds (if (0 : Int) ≤ i then if i < (n : Int) then some (True ∧ brW (Pure.outB nt (g i.toNat 0).i) (Ke Ex.ret { tmps := [(4, AV.int IntKind.i64 i)], mem := [(0, Ob.box [AV.psl 71 3 ga, AV.psl 29 nt gt, AV.psl 105 nx gx, AV.psl 109 nr gr, AV.psl 117 nn gn, AV.psl 3 nh gh, AV.psl 9 ns gs])], nx := 2 }) (Kn { tmps := [(0, AV.psl 3 n g), (1, AV.fn 47 [AV.adr 0 0 0]), (7, AV.int IntKind.i64 (n : Int)), (8, AV.int IntKind.i64 (IntKind.i64.wrap (i + (1 : Int))))], mem := [(0, Ob.box [AV.psl 71 3 ga, AV.psl 29 nt gt, AV.psl 105 nx gx, AV.psl 109 nr gr, AV.psl 117 nn gn, AV.psl 3 nh gh, AV.psl 9 ns gs])], nx := 2 })) else none else none)) (Ke (Ex.exit 0) { tmps := [(4, AV.undef)], mem := [(0, Ob.box [AV.psl 71 3 ga, AV.psl 29 nt gt, AV.psl 105 nx gx, AV.psl 109 nr gr, AV.psl 117 nn gn, AV.psl 3 nh gh, AV.psl 9 ns gs])], nx := 2 })) := by kernel_rfl
theorem l82_2 : LOK cw18 lw16 82 2 ⟨[4], []⟩ L82_2 := by
  intro base s K h
  unfold L82_2 at h
  split at h
  · rename_i n g n' iz ga nt gt nx gx nr gr nn gn nh gh ns gs
    obtain ⟨⟨rfl, a0, a1, p0⟩, k1 , k2⟩ := h
    refine ⟨((n : Int) - iz + 1).toNat, loop_rule (fun N s => ∃ (i : Int), s = (⟨[(0, .psl 3 n g), (1, .fn 47 [.adr 0 0 0]), (7, .int .i64 n), (8, .int .i64 i)], [(0, .box [.psl 71 3 ga, .psl 29 nt gt, .psl 105 nx gx, .psl 109 nr gr, .psl 117 nn gn, .psl 3 nh gh, .psl 9 ns gs])], 2⟩ : FS) ∧ 0 ≤ i ∧ i ≤ n ∧ Pure.ixGo (fun j => Pure.outB nt (g j 0).i) (n - i.toNat) i.toNat = Pure.ixGo (fun j => Pure.outB nt (g j 0).i) (n - iz.toNat) iz.toNat ∧ (n : Int) - i + 1 ≤ (N : Int)) ?_ ?_ _ _ ⟨iz, rfl, a0, a1, rfl, by omega⟩⟩
    · rintro s ⟨i, _, i0, i1, i2, iN⟩; omega
    · rintro N Kn hKn s ⟨i, rfl, i0, i1, i2, iN⟩
      rw [r82_2]
      try rw [wrap_succ i0 (by omega)]
      (repeat' (first | with_reducible refine brd (fun _ => ?_) (fun _ => ?_) | with_reducible refine holds_if ?_ ?_ | with_reducible refine holds_ifn ?_ ?_ | with_reducible refine holds_some ?_ | with_reducible refine br (fun _ => ?_) (fun _ => ?_) | with_reducible refine And.intro ?_ ?_ | with_reducible refine fun _ => ?_))
      all_goals first
        | omega
        | exact trivial
        | exact k1
        | exact k2
        | exact k1 _
        | exact k1 _ _
        | exact k1 _ _ _
        | exact k2 _
        | exact k2 _ _
        | exact k2 _ _ _
        | exact hKn _ ⟨i + 1, rfl, by omega, by omega, (by assumption), by omega⟩
        | exact k1 _ (by omega) (i2.symm.trans (ix_here i0 (by assumption) (by assumption)))
        | exact k2 (i2.symm.trans (ix_end (by omega)))
        | exact hKn _ ⟨i + 1, rfl, by omega, by omega, (ix_next i0 (by assumption) (by assumption)).trans i2, by omega⟩
  · exact h.elim
noncomputable def lw17_ : FuncId → Nat → Option (Hint × LSpec) := fun f rid => match f, rid with
  | 82, 2 => some (⟨[4], []⟩, L82_2)
  | _, _ => none
noncomputable def lw17 : LoopW := addL lw17_ lw16
theorem lay35 : Lay Tryz.prog ctx cw18 lw17 := layL lay34 fun f rid p h => by
  unfold lw17_ at h
  split at h <;> cases h
  · exact ⟨by kernel_rfl, l82_2⟩
noncomputable def spec82 : AI.Spec := fun xs m K => match xs, m with
  | [.psl 3 n g, .fn 47 [.adr 0 0 0]], [(0, .box [.psl 71 3 ga, .psl 29 nt gt, .psl 105 nx gx, .psl 109 nr gr, .psl 117 nn gn, .psl 3 nh gh, .psl 9 ns gs])] => (n ≤ 1000) ∧ K (.int .i64 (Pure.ix (fun j => Pure.outB nt (g j 0).i) n)) [(0, .box [.psl 71 3 ga, .psl 29 nt gt, .psl 105 nx gx, .psl 109 nr gr, .psl 117 nn gn, .psl 3 nh gh, .psl 9 ns gs])]
  | _, _ => False
theorem e82 (n : Nat) (g : Nat → Nat → PV) (nt nx nr nn nh ns : Nat) (ga gt gx gr gn gh gs : Nat → Nat → PV) (Q : AV → Mem → Prop) : runW ctx cw18 lw17 82 [.psl 3 n g, .fn 47 [.adr 0 0 0]] [(0, .box [.psl 71 3 ga, .psl 29 nt gt, .psl 105 nx gx, .psl 109 nr gr, .psl 117 nn gn, .psl 3 nh gh, .psl 9 ns gs])] Q = (((n : Int) = (n : Int) ∧ (0 : Int) ≤ (0 : Int) ∧ (0 : Int) ≤ (n : Int) ∧ n ≤ 1000) ∧ (∀ (r : Int), r ≠ (-1 : Int) → Pure.ixGo (fun j => Pure.outB nt (g j 0).i) (n - 0) 0 = r → Q (AV.int IntKind.i64 r) [(0, Ob.box [AV.psl 71 3 ga, AV.psl 29 nt gt, AV.psl 105 nx gx, AV.psl 109 nr gr, AV.psl 117 nn gn, AV.psl 3 nh gh, AV.psl 9 ns gs])]) ∧ (Pure.ixGo (fun j => Pure.outB nt (g j 0).i) (n - 0) 0 = (-1 : Int) → Q (AV.int IntKind.i64 (-1 : Int)) [(0, Ob.box [AV.psl 71 3 ga, AV.psl 29 nt gt, AV.psl 105 nx gx, AV.psl 109 nr gr, AV.psl 117 nn gn, AV.psl 3 nh gh, AV.psl 9 ns gs])])) := by kernel_rfl
theorem f82 : FOK cw18 lw17 82 spec82 := by
  intro xs m K0 h
  unfold spec82 at h
  split at h
  · rename_i n g ga nt gt nx gx nr gr nn gn nh gh ns gs
    obtain ⟨p0, _⟩ := h
    have hr : runW ctx cw18 lw17 82 [.psl 3 n g, .fn 47 [.adr 0 0 0]] [(0, .box [.psl 71 3 ga, .psl 29 nt gt, .psl 105 nx gx, .psl 109 nr gr, .psl 117 nn gn, .psl 3 nh gh, .psl 9 ns gs])] (fun r mm => r = (.int .i64 (Pure.ix (fun j => Pure.outB nt (g j 0).i) n)) ∧ mm = [(0, .box [.psl 71 3 ga, .psl 29 nt gt, .psl 105 nx gx, .psl 109 nr gr, .psl 117 nn gn, .psl 3 nh gh, .psl 9 ns gs])]) := by
      rw [e82]
      (repeat' (first | with_reducible refine brd (fun _ => ?_) (fun _ => ?_) | with_reducible refine holds_if ?_ ?_ | with_reducible refine holds_ifn ?_ ?_ | with_reducible refine holds_some ?_ | with_reducible refine br (fun _ => ?_) (fun _ => ?_) | with_reducible refine And.intro ?_ ?_ | with_reducible refine fun _ => ?_))
      all_goals first
        | omega
        | rfl
        | assumption
        | exact trivial
        | exact congrArg (AV.int IntKind.i64) (Eq.symm (by assumption))
        | (simp_all; done)
    obtain ⟨r, m', h1, rfl, rfl⟩ := lay35.run hr
    exact ⟨_, _, h1, fun K hK => hK.2⟩
  · exact h.elim
noncomputable def cw19_ : FuncId → Option AI.Spec := fun f => match f with
  | 82 => some (spec82)
  | _ => none
noncomputable def cw19 : CallW := addF cw19_ cw18
theorem lay36 : Lay Tryz.prog ctx cw19 lw17 := layF lay35 fun f S h => by
  unfold cw19_ at h
  split at h <;> cases h
  · exact f82
noncomputable def spec46 : AI.Spec := fun xs m K => match xs, m with
  | [.psl 3 n g, .fn 47 [.adr 0 0 0]], [(0, .box [.psl 71 3 ga, .psl 29 nt gt, .psl 105 nx gx, .psl 109 nr gr, .psl 117 nn gn, .psl 3 nh gh, .psl 9 ns gs])] => (n ≤ 1000) ∧ K (.bool (decide (Pure.ix (fun j => Pure.outB nt (g j 0).i) n ≥ 0))) [(0, .box [.psl 71 3 ga, .psl 29 nt gt, .psl 105 nx gx, .psl 109 nr gr, .psl 117 nn gn, .psl 3 nh gh, .psl 9 ns gs])]
  | _, _ => False
theorem e46 (n : Nat) (g : Nat → Nat → PV) (nt nx nr nn nh ns : Nat) (ga gt gx gr gn gh gs : Nat → Nat → PV) (Q : AV → Mem → Prop) : runW ctx cw19 lw17 46 [.psl 3 n g, .fn 47 [.adr 0 0 0]] [(0, .box [.psl 71 3 ga, .psl 29 nt gt, .psl 105 nx gx, .psl 109 nr gr, .psl 117 nn gn, .psl 3 nh gh, .psl 9 ns gs])] Q = (n ≤ 1000 ∧ brW (decide (Pure.ix (fun j => Pure.outB nt (g j 0).i) n ≥ (0 : Int))) (Q (AV.bool true) [(0, Ob.box [AV.psl 71 3 ga, AV.psl 29 nt gt, AV.psl 105 nx gx, AV.psl 109 nr gr, AV.psl 117 nn gn, AV.psl 3 nh gh, AV.psl 9 ns gs])]) (Q (AV.bool false) [(0, Ob.box [AV.psl 71 3 ga, AV.psl 29 nt gt, AV.psl 105 nx gx, AV.psl 109 nr gr, AV.psl 117 nn gn, AV.psl 3 nh gh, AV.psl 9 ns gs])])) := by kernel_rfl
theorem f46 : FOK cw19 lw17 46 spec46 := by
  intro xs m K0 h
  unfold spec46 at h
  split at h
  · rename_i n g ga nt gt nx gx nr gr nn gn nh gh ns gs
    obtain ⟨p0, _⟩ := h
    have hr : runW ctx cw19 lw17 46 [.psl 3 n g, .fn 47 [.adr 0 0 0]] [(0, .box [.psl 71 3 ga, .psl 29 nt gt, .psl 105 nx gx, .psl 109 nr gr, .psl 117 nn gn, .psl 3 nh gh, .psl 9 ns gs])] (fun r mm => r = (.bool (decide (Pure.ix (fun j => Pure.outB nt (g j 0).i) n ≥ 0))) ∧ mm = [(0, .box [.psl 71 3 ga, .psl 29 nt gt, .psl 105 nx gx, .psl 109 nr gr, .psl 117 nn gn, .psl 3 nh gh, .psl 9 ns gs])]) := by
      rw [e46]
      (repeat' (first | with_reducible refine brd (fun _ => ?_) (fun _ => ?_) | with_reducible refine holds_if ?_ ?_ | with_reducible refine holds_ifn ?_ ?_ | with_reducible refine holds_some ?_ | with_reducible refine br (fun _ => ?_) (fun _ => ?_) | with_reducible refine And.intro ?_ ?_ | with_reducible refine fun _ => ?_))
      all_goals first
        | omega
        | rfl
        | assumption
        | exact trivial
        | (simp_all; done)
    obtain ⟨r, m', h1, rfl, rfl⟩ := lay36.run hr
    exact ⟨_, _, h1, fun K hK => hK.2⟩
  · exact h.elim
noncomputable def cw20_ : FuncId → Option AI.Spec := fun f => match f with
  | 46 => some (spec46)
  | _ => none
noncomputable def cw20 : CallW := addF cw20_ cw19
theorem lay37 : Lay Tryz.prog ctx cw20 lw17 := layF lay36 fun f S h => by
  unfold cw20_ at h
  split at h <;> cases h
  · exact f46
end Go.Proofs.YtkenjojkpdeooaaGreatDoor
end
section
set_option linter.unusedVariables false
set_option linter.constructorNameAsVariable false
set_option maxRecDepth 100000
set_option maxHeartbeats 2000000
set_option linter.unusedSimpArgs false
namespace Go.Proofs.YtkenjojkpdeooaaGreatDoor
open AI

/-- A condition. -/
inductive Cnd where
  | mk (op : Int) (nm ar va la : ByteArray) (fo : Bool) (ks : List Cnd)
mutual
/-- What lies in a condition's cells. -/
def Pure.IsC : Cnd → Int → ByteArray → ByteArray → ByteArray → ByteArray → Bool → Nat → (Nat → Nat → PV) → Prop
  | .mk op nm ar va la fo ks, op', nm', ar', va', la', fo', n, g => op' = op ∧ nm' = nm ∧ ar' = ar ∧ va' = va ∧ la' = la ∧ fo' = fo ∧ n = ks.length ∧ Pure.IsL ks g 0
def Pure.IsL : List Cnd → (Nat → Nat → PV) → Nat → Prop
  | [], _, _ => True
  | k :: ks, g, i => Pure.IsC k (g i 0).i (g i 1).s (g i 2).s (g i 3).s (g i 4).s (g i 5).b (g i 6).n (g i 6).get ∧ Pure.IsL ks g (i + 1)
end
mutual
def Cnd.size : Cnd → Nat
  | .mk _ _ _ _ _ _ ks => 1 + Cnd.sizes ks
def Cnd.sizes : List Cnd → Nat
  | [] => 0
  | k :: ks => k.size + Cnd.sizes ks
end
mutual
def Cnd.dep : Cnd → Nat
  | .mk _ _ _ _ _ _ ks => 1 + Cnd.deps ks
def Cnd.deps : List Cnd → Nat
  | [] => 0
  | k :: ks => max k.dep (Cnd.deps ks)
end
theorem isL_at {ks : List Cnd} {g : Nat → Nat → PV} : ∀ {i : Nat}, Pure.IsL ks g i → ∀ (j : Nat) (h : j < ks.length), Pure.IsC ks[j] (g (i + j) 0).i (g (i + j) 1).s (g (i + j) 2).s (g (i + j) 3).s (g (i + j) 4).s (g (i + j) 5).b (g (i + j) 6).n (g (i + j) 6).get := by
  induction ks with
  | nil => intro i h j hj; simp at hj
  | cons k ks ih =>
    intro i h j hj
    unfold Pure.IsL at h
    cases j with
    | zero => exact h.1
    | succ j =>
      have := ih h.2 j (by simpa using hj)
      rw [show i + 1 + j = i + (j + 1) by omega] at this
      exact this
/-- The expressions of the conditions that are made. -/
def exprs_ : List ByteArray := [strL [97], strL [98], strL [97, 46, 42], strL [91, 97, 98, 93], strL [88], strL [], strL [99, 63], strL [97, 124, 98], strL [89], strL [97, 124, 88]]
def sE : ByteArray := strL []
def sWord : ByteArray := strL [119, 111, 114, 100]
def sTag : ByteArray := strL [116, 97, 103]
def sFeat : ByteArray := strL [102, 101, 97, 116]
def sN : ByteArray := strL [110]
def sP : ByteArray := strL [112]
def sQ : ByteArray := strL [113]
def s1 : ByteArray := strL [49]
def s2 : ByteArray := strL [50]
/-- A node that is made. -/
inductive NodeOK (L : ByteArray → Prop) : Int → ByteArray → ByteArray → ByteArray → ByteArray → Bool → Nat → Prop where
  | any : NodeOK L 1 sE sE sE sE false 0
  | value (nm va : ByteArray) (fo : Bool) (h1 : nm = sE ∨ nm = sWord ∨ nm = sTag) (h2 : va ∈ exprs_) : NodeOK L 2 nm sE va sE fo 0
  | feature (va : ByteArray) (h : va = sP ∨ va = sQ) : NodeOK L 3 sFeat sE va sE false 0
  | same (nm ar la : ByteArray) (h1 : nm = sWord ∨ nm = sTag) (h2 : ar = sWord ∨ ar = sTag) (h3 : L la) : NodeOK L 4 nm ar sE la false 0
  | region (nm : ByteArray) (h : nm ∈ types) : NodeOK L 5 nm sE sE sE false 0
  | keyed (nm va : ByteArray) (h : nm ∈ types) (h2 : va = s1 ∨ va = s2) : NodeOK L 5 nm sN va sE false 0
  | not : NodeOK L 6 sE sE sE sE false 1
  | and : NodeOK L 7 sE sE sE sE false 2
  | or : NodeOK L 8 sE sE sE sE false 2
mutual
def Good (L : ByteArray → Prop) : Cnd → Prop
  | .mk op nm ar va la fo ks => NodeOK L op nm ar va la fo ks.length ∧ Goods L ks
def Goods (L : ByteArray → Prop) : List Cnd → Prop
  | [] => True
  | k :: ks => Good L k ∧ Goods L ks
end
theorem goods_at {L : ByteArray → Prop} : ∀ {ks : List Cnd}, Goods L ks → ∀ (j : Nat) (h : j < ks.length), Good L ks[j]
  | [], _, j, h => by simp at h
  | k :: ks, hg, 0, h => by unfold Goods at hg; exact hg.1
  | k :: ks, hg, j + 1, h => by unfold Goods at hg; exact goods_at hg.2 j (by simpa using h)
theorem neN : (sN.toList == (strL []).toList) = false := by kernel_rfl
theorem ne1 : (s1.toList == (strL []).toList) = false := by kernel_rfl
theorem ne2 : (s2.toList == (strL []).toList) = false := by kernel_rfl
theorem eqE : (sE.toList == (strL []).toList) = true := by kernel_rfl
theorem beq_t {a : List UInt8} : (a == a) = true := beq_self_eq_true a
theorem brW_t {P Q : Prop} : brW true P Q = P := rfl
theorem brW_f {P Q : Prop} : brW false P Q = Q := rfl
theorem nat_i (n : Nat) : Int.ofNat n = (n : Int) := rfl
noncomputable def spec64 : AI.Spec := fun xs m K => match xs, m with
  | [.agg [.int .i64 op, .str nm, .str ar, .str va, .str la, .bool fo, .psl 25 n g]], [] => (∃ L, NodeOK L op nm ar va la fo n) ∧ K (.bool true) []
  | _, _ => False
theorem e64 (op : Int) (nm ar va la : ByteArray) (fo : Bool) (n : Nat) (g : Nat → Nat → PV) (Q : AV → Mem → Prop) : runW ctx cw20 lw17 64 [.agg [.int .i64 op, .str nm, .str ar, .str va, .str la, .bool fo, .psl 25 n g]] [] Q = (brW (op == (1 : Int)) (brW (decide ((n : Int) ≥ (0 : Int))) (brW (decide ((n : Int) ≤ (0 : Int))) (brW (nm.toList == (strL []).toList) (brW (ar.toList == (strL []).toList) (brW (va.toList == (strL []).toList) (brW (la.toList == (strL []).toList) (brW fo (Q (AV.bool false) []) (Q (AV.bool true) [])) (Q (AV.bool false) [])) (Q (AV.bool false) [])) (Q (AV.bool false) [])) (Q (AV.bool false) [])) (Q (AV.bool false) [])) (Q (AV.bool false) [])) (brW (op == (2 : Int)) (brW fo (brW (decide ((n : Int) ≥ (0 : Int))) (brW (decide ((n : Int) ≤ (0 : Int))) (brW (nm.toList == nm.toList) (brW (ar.toList == (strL []).toList) (brW (va.toList == va.toList) (brW (la.toList == (strL []).toList) (brW fo (Q (AV.bool true) []) (Q (AV.bool false) [])) (Q (AV.bool false) [])) (Q (AV.bool false) [])) (Q (AV.bool false) [])) (Q (AV.bool false) [])) (Q (AV.bool false) [])) (Q (AV.bool false) [])) (brW (decide ((n : Int) ≥ (0 : Int))) (brW (decide ((n : Int) ≤ (0 : Int))) (brW (nm.toList == nm.toList) (brW (ar.toList == (strL []).toList) (brW (va.toList == va.toList) (brW (la.toList == (strL []).toList) (brW fo (Q (AV.bool false) []) (Q (AV.bool true) [])) (Q (AV.bool false) [])) (Q (AV.bool false) [])) (Q (AV.bool false) [])) (Q (AV.bool false) [])) (Q (AV.bool false) [])) (Q (AV.bool false) []))) (brW (op == (3 : Int)) (brW (decide ((n : Int) ≥ (0 : Int))) (brW (decide ((n : Int) ≤ (0 : Int))) (brW (nm.toList == nm.toList) (brW (ar.toList == (strL []).toList) (brW (va.toList == va.toList) (brW (la.toList == (strL []).toList) (brW fo (Q (AV.bool false) []) (Q (AV.bool true) [])) (Q (AV.bool false) [])) (Q (AV.bool false) [])) (Q (AV.bool false) [])) (Q (AV.bool false) [])) (Q (AV.bool false) [])) (Q (AV.bool false) [])) (brW (op == (4 : Int)) (brW (decide ((n : Int) ≥ (0 : Int))) (brW (decide ((n : Int) ≤ (0 : Int))) (brW (nm.toList == nm.toList) (brW (ar.toList == ar.toList) (brW (va.toList == (strL []).toList) (brW (la.toList == la.toList) (brW fo (Q (AV.bool false) []) (Q (AV.bool true) [])) (Q (AV.bool false) [])) (Q (AV.bool false) [])) (Q (AV.bool false) [])) (Q (AV.bool false) [])) (Q (AV.bool false) [])) (Q (AV.bool false) [])) (brW (op == (5 : Int)) (brW (ar.toList == (strL []).toList) (brW (!va.toList == (strL []).toList) (Q (AV.bool false) []) (brW (decide ((n : Int) ≥ (0 : Int))) (brW (decide ((n : Int) ≤ (0 : Int))) (brW (nm.toList == nm.toList) (brW (ar.toList == ar.toList) (brW (va.toList == va.toList) (brW (la.toList == (strL []).toList) (brW fo (Q (AV.bool false) []) (Q (AV.bool true) [])) (Q (AV.bool false) [])) (Q (AV.bool false) [])) (Q (AV.bool false) [])) (Q (AV.bool false) [])) (Q (AV.bool false) [])) (Q (AV.bool false) []))) (brW (decide ((n : Int) ≥ (0 : Int))) (brW (decide ((n : Int) ≤ (0 : Int))) (brW (nm.toList == nm.toList) (brW (ar.toList == ar.toList) (brW (va.toList == va.toList) (brW (la.toList == (strL []).toList) (brW fo (Q (AV.bool false) []) (Q (AV.bool true) [])) (Q (AV.bool false) [])) (Q (AV.bool false) [])) (Q (AV.bool false) [])) (Q (AV.bool false) [])) (Q (AV.bool false) [])) (Q (AV.bool false) []))) (brW (op == (6 : Int)) (brW (decide ((n : Int) ≥ (1 : Int))) (brW (decide ((n : Int) ≤ (1 : Int))) (brW (nm.toList == (strL []).toList) (brW (ar.toList == (strL []).toList) (brW (va.toList == (strL []).toList) (brW (la.toList == (strL []).toList) (brW fo (Q (AV.bool false) []) (Q (AV.bool true) [])) (Q (AV.bool false) [])) (Q (AV.bool false) [])) (Q (AV.bool false) [])) (Q (AV.bool false) [])) (Q (AV.bool false) [])) (Q (AV.bool false) [])) (brW (op == (7 : Int)) (brW (decide ((n : Int) ≥ (2 : Int))) (brW (decide ((n : Int) ≤ (60 : Int))) (brW (nm.toList == (strL []).toList) (brW (ar.toList == (strL []).toList) (brW (va.toList == (strL []).toList) (brW (la.toList == (strL []).toList) (brW fo (Q (AV.bool false) []) (Q (AV.bool true) [])) (Q (AV.bool false) [])) (Q (AV.bool false) [])) (Q (AV.bool false) [])) (Q (AV.bool false) [])) (Q (AV.bool false) [])) (Q (AV.bool false) [])) (brW (op == (8 : Int)) (brW (decide ((n : Int) ≥ (2 : Int))) (brW (decide ((n : Int) ≤ (60 : Int))) (brW (nm.toList == (strL []).toList) (brW (ar.toList == (strL []).toList) (brW (va.toList == (strL []).toList) (brW (la.toList == (strL []).toList) (brW fo (Q (AV.bool false) []) (Q (AV.bool true) [])) (Q (AV.bool false) [])) (Q (AV.bool false) [])) (Q (AV.bool false) [])) (Q (AV.bool false) [])) (Q (AV.bool false) [])) (Q (AV.bool false) [])) (Q (AV.bool false) []))))))))) := by kernel_rfl
theorem f64 : FOK cw20 lw17 64 spec64 := by
  intro xs m K0 h
  unfold spec64 at h
  split at h
  · rename_i op nm ar va la fo n g
    obtain ⟨p0, _⟩ := h
    have hr : runW ctx cw20 lw17 64 [.agg [.int .i64 op, .str nm, .str ar, .str va, .str la, .bool fo, .psl 25 n g]] [] (fun r mm => r = (.bool true) ∧ mm = []) := by
      rw [e64]
      obtain ⟨L, p0⟩ := p0
      cases p0
      case region h => simp only [eqE, beq_t, Bool.not_true, Bool.not_false, brW_t, brW_f]; exact (⟨trivial, trivial⟩ : True ∧ True)
      case keyed va h h2 => rcases h2 with rfl | rfl <;> simp only [neN, ne1, ne2, eqE, beq_t, Bool.not_true, Bool.not_false, brW_t, brW_f] <;> exact (⟨trivial, trivial⟩ : True ∧ True)
      case value va h1 h2 => cases fo <;> simp only [eqE, beq_t, brW_t, brW_f] <;> exact (⟨trivial, trivial⟩ : True ∧ True)
      all_goals (simp only [eqE, beq_t, brW_t, brW_f]; exact (⟨trivial, trivial⟩ : True ∧ True))
    obtain ⟨r, m', h1, rfl, rfl⟩ := lay37.run hr
    exact ⟨_, _, h1, fun K hK => hK.2⟩
  · exact h.elim
end Go.Proofs.YtkenjojkpdeooaaGreatDoor
end
section
set_option linter.unusedVariables false
set_option linter.constructorNameAsVariable false
set_option maxRecDepth 100000
set_option maxHeartbeats 2000000
set_option linter.unusedSimpArgs false
namespace Go.Proofs.YtkenjojkpdeooaaGreatDoor
open AI

def isZero : Option (AV × Mem) → Bool | some (.int .i64 0, []) => true | _ => false
def isB (b : Bool) : Option (AV × Mem) → Bool | some (.bool c, []) => b == c | _ => false
theorem isZero_iff {o : Option (AV × Mem)} (h : isZero o = true) : o = some (.int .i64 0, []) := by
  unfold isZero at h
  split at h
  · rfl
  · cases h
theorem isB_iff {b : Bool} {o : Option (AV × Mem)} (h : isB b o = true) : o = some (.bool b, []) := by
  unfold isB at h
  split at h
  · rename_i c
    have : b = c := by simpa using h
    rw [this]
  · cases h
def validNames : List ByteArray := types ++ [sN]
def vals_ : List ByteArray := [sE, sP, sQ, s1, s2]
theorem tab66 : (exprs_.all fun s => isZero (callN ctx noLoops ext 40 66 [.str s] [])) = true := by kernel_rfl
theorem tab109 : (validNames.all fun s => isB true (callN ctx noLoops ext 40 109 [.str s] [])) = true := by kernel_rfl
theorem tab69 : (vals_.all fun s => isZero (callN ctx noLoops ext 40 69 [.str s] [])) = true := by kernel_rfl
theorem tab68 : ([sP, sQ].all fun s => isB false (callN ctx noLoops ext 40 68 [.str s, .str (strL [124])] [])) = true := by kernel_rfl
def specZ (l : List ByteArray) : AI.Spec := fun xs m K => match xs, m with
  | [.str s], [] => s ∈ l ∧ K (.int .i64 0) []
  | _, _ => False
def specT (l : List ByteArray) (b : Bool) : AI.Spec := fun xs m K => match xs, m with
  | [.str s], [] => s ∈ l ∧ K (.bool b) []
  | _, _ => False
def spec68 : AI.Spec := fun xs m K => match xs, m with
  | [.str s, .str t], [] => ((s = sP ∨ s = sQ) ∧ t = strL [124]) ∧ K (.bool false) []
  | _, _ => False
theorem fokZ {cw : CallW} {lw : LoopW} {f : FuncId} {l : List ByteArray} (h : (l.all fun s => isZero (callN ctx noLoops ext 40 f [.str s] [])) = true) : FOK cw lw f (specZ l) := by
  intro xs m K0 h0
  unfold specZ at h0
  split at h0
  · exact ⟨_, _, runs (isZero_iff (List.all_eq_true.1 h _ h0.1)), fun K hK => hK.2⟩
  · exact h0.elim
theorem fokT {cw : CallW} {lw : LoopW} {f : FuncId} {l : List ByteArray} {b : Bool} (h : (l.all fun s => isB b (callN ctx noLoops ext 40 f [.str s] [])) = true) : FOK cw lw f (specT l b) := by
  intro xs m K0 h0
  unfold specT at h0
  split at h0
  · exact ⟨_, _, runs (isB_iff (List.all_eq_true.1 h _ h0.1)), fun K hK => hK.2⟩
  · exact h0.elim
theorem f66 : FOK cw20 lw17 66 (specZ exprs_) := fokZ tab66
theorem f109 : FOK cw20 lw17 109 (specT validNames true) := fokT tab109
theorem f69 : FOK cw20 lw17 69 (specZ vals_) := fokZ tab69
theorem f68 : FOK cw20 lw17 68 spec68 := by
  intro xs m K0 h0
  unfold spec68 at h0
  split at h0
  · rename_i s t
    obtain ⟨⟨h1, rfl⟩, _⟩ := h0
    have := List.all_eq_true.1 tab68 s (by rcases h1 with rfl | rfl <;> simp)
    exact ⟨_, _, runs (isB_iff this), fun K hK => hK.2⟩
  · exact h0.elim
noncomputable def cw21_ : FuncId → Option AI.Spec := fun f => match f with
  | 64 => some (spec64)
  | 66 => some (specZ exprs_)
  | 109 => some (specT validNames true)
  | 69 => some (specZ vals_)
  | 68 => some (spec68)
  | _ => none
noncomputable def cw21 : CallW := addF cw21_ cw20
theorem lay38 : Lay Tryz.prog ctx cw21 lw17 := layF lay37 fun f S h => by
  unfold cw21_ at h
  split at h <;> cases h
  · exact f64
  · exact f66
  · exact f109
  · exact f69
  · exact f68
theorem atWord : Pure.at 3 attrG sWord = 0 := by kernel_rfl
theorem atTag : Pure.at 3 attrG sTag = 1 := by kernel_rfl
theorem atFeat : Pure.at 3 attrG sFeat = 2 := by kernel_rfl
theorem firstE : Pure.first 3 attrG sE = 0 := by kernel_rfl
theorem firstWord : Pure.first 3 attrG sWord = 0 := by kernel_rfl
theorem firstTag : Pure.first 3 attrG sTag = 1 := by kernel_rfl
abbrev RT : Prop := AV.bool true = AV.bool true ∧ ([] : Mem) = []
theorem rt : RT := ⟨rfl, rfl⟩
abbrev R0 : Prop := AV.int IntKind.i64 0 = AV.int IntKind.i64 0 ∧ ([] : Mem) = []
theorem r0 : R0 := ⟨rfl, rfl⟩
noncomputable def spec65 : AI.Spec := fun xs m K => match xs, m with
  | [.agg [.int .i64 op, .str nm, .str ar, .str va, .str la, .bool fo, .psl 25 n g], .psl 71 3 ga], [] => ((∃ L, NodeOK L op nm ar va la fo n) ∧ ga = attrG) ∧ K (.bool true) []
  | _, _ => False
theorem e65 (op : Int) (nm ar va la : ByteArray) (fo : Bool) (n : Nat) (g ga : Nat → Nat → PV) (Q : AV → Mem → Prop) : runW ctx cw21 lw17 65 [.agg [.int .i64 op, .str nm, .str ar, .str va, .str la, .bool fo, .psl 25 n g], .psl 71 3 ga] [] Q = (brW (op == (2 : Int)) ((1 ≤ 3 ∧ 3 ≤ 1000) ∧ brW (decide (Pure.first 3 ga nm ≥ (0 : Int))) (Q (AV.bool true) []) (Q (AV.bool false) [])) (brW (op == (3 : Int)) (3 ≤ 1000 ∧ brW (decide (Pure.at 3 ga nm ≥ (0 : Int))) (Q (AV.bool true) []) (Q (AV.bool false) [])) (brW (op == (4 : Int)) (3 ≤ 1000 ∧ brW (decide (Pure.at 3 ga nm ≥ (0 : Int))) (3 ≤ 1000 ∧ brW (decide (Pure.at 3 ga ar ≥ (0 : Int))) (Q (AV.bool true) []) (Q (AV.bool false) [])) (Q (AV.bool false) [])) (brW (op == (5 : Int)) (nm ∈ validNames ∧ brW (ar.toList == (strL []).toList) (Q (AV.bool true) []) (ar ∈ validNames ∧ Q (AV.bool true) [])) (Q (AV.bool true) []))))) := by kernel_rfl
theorem f65 : FOK cw21 lw17 65 spec65 := by
  intro xs m K0 h
  unfold spec65 at h
  split at h
  · rename_i op nm ar va la fo n g ga
    obtain ⟨⟨p0, p1⟩, -⟩ := h
    have hr : runW ctx cw21 lw17 65 [.agg [.int .i64 op, .str nm, .str ar, .str va, .str la, .bool fo, .psl 25 n g], .psl 71 3 ga] [] (fun r mm => r = (.bool true) ∧ mm = []) := by
      rw [e65]
      subst p1
      obtain ⟨L, p0⟩ := p0
      cases p0
      case value va h1 h2 => rcases h1 with rfl | rfl | rfl <;> (try rw [firstE]) <;> (try rw [firstWord]) <;> (try rw [firstTag]) <;> exact (⟨⟨by decide, by decide⟩, rt⟩ : (1 ≤ 3 ∧ 3 ≤ 1000) ∧ RT)
      case feature h => rw [atFeat]; exact (⟨by decide, rt⟩ : 3 ≤ 1000 ∧ RT)
      case same h1 h2 h3 => rcases h1 with rfl | rfl <;> rcases h2 with rfl | rfl <;> (try rw [atWord]) <;> (try rw [atTag]) <;> exact (⟨by decide, by decide, rt⟩ : 3 ≤ 1000 ∧ 3 ≤ 1000 ∧ RT)
      case region h => rw [eqE]; exact (⟨List.mem_append_left _ h, rt⟩ : nm ∈ validNames ∧ RT)
      case keyed h h2 => rw [neN]; exact (⟨List.mem_append_left _ h, List.mem_append_right _ (List.mem_singleton.2 rfl), rt⟩ : nm ∈ validNames ∧ sN ∈ validNames ∧ RT)
      all_goals exact (rt : RT)
    obtain ⟨r, m', h1, rfl, rfl⟩ := lay38.run hr
    exact ⟨_, _, h1, fun K hK => hK.2⟩
  · exact h.elim
noncomputable def cw22_ : FuncId → Option AI.Spec := fun f => match f with
  | 65 => some (spec65)
  | _ => none
noncomputable def cw22 : CallW := addF cw22_ cw21
theorem lay39 : Lay Tryz.prog ctx cw22 lw17 := layF lay38 fun f S h => by
  unfold cw22_ at h
  split at h <;> cases h
  · exact f65
theorem neP : (sP.toList == (strL []).toList) = false := by kernel_rfl
theorem neQ : (sQ.toList == (strL []).toList) = false := by kernel_rfl
noncomputable def spec40 : AI.Spec := fun xs m K => match xs, m with
  | [.agg [.int .i64 op, .str nm, .str ar, .str va, .str la, .bool fo, .psl 25 n g], .psl 71 3 ga, .psl 9 nl lg], [] => (NodeOK (fun s => 0 ≤ Pure.at' nl lg s) op nm ar va la fo n ∧ ga = attrG ∧ nl ≤ 1000) ∧ K (.int .i64 0) []
  | _, _ => False
theorem e40 (op : Int) (nm ar va la : ByteArray) (fo : Bool) (n : Nat) (g ga : Nat → Nat → PV) (nl : Nat) (lg : Nat → Nat → PV) (Q : AV → Mem → Prop) : runW ctx cw22 lw17 40 [.agg [.int .i64 op, .str nm, .str ar, .str va, .str la, .bool fo, .psl 25 n g], .psl 71 3 ga, .psl 9 nl lg] [] Q = ((∃ L, NodeOK L op nm ar va la fo n) ∧ ((∃ L, NodeOK L op nm ar va la fo n) ∧ ga = attrG) ∧ brW (op == (2 : Int)) (va ∈ exprs_ ∧ Q (AV.int IntKind.i64 0) []) (brW (op == (3 : Int)) (3 ≤ 1000 ∧ holds (if (0 : Int) ≤ Pure.at 3 ga nm then if Pure.at 3 ga nm < (3 : Int) then some (brW (ga (Pure.at 3 ga nm).toNat 1).b (brW (va.toList == (strL []).toList) (Q (AV.int IntKind.i64 14) []) (((va = strL [112] ∨ va = strL [113]) ∧ strL [124] = strL [124]) ∧ va ∈ vals_ ∧ Q (AV.int IntKind.i64 0) [])) (Q (AV.int IntKind.i64 17) [])) else none else none)) (brW (op == (5 : Int)) (va ∈ vals_ ∧ Q (AV.int IntKind.i64 0) []) (brW (op == (4 : Int)) (nl ≤ 1000 ∧ brW (decide (Pure.at' nl lg la ≥ (0 : Int))) (Q (AV.int IntKind.i64 0) []) (Q (AV.int IntKind.i64 16) [])) (Q (AV.int IntKind.i64 0) []))))) := by kernel_rfl
theorem f40 : FOK cw22 lw17 40 spec40 := by
  intro xs m K0 h
  unfold spec40 at h
  split at h
  · rename_i op nm ar va la fo n g ga nl lg
    obtain ⟨⟨p0, p1, p2⟩, -⟩ := h
    have hr : runW ctx cw22 lw17 40 [.agg [.int .i64 op, .str nm, .str ar, .str va, .str la, .bool fo, .psl 25 n g], .psl 71 3 ga, .psl 9 nl lg] [] (fun r mm => r = (.int .i64 0) ∧ mm = []) := by
      rw [e40]
      subst p1
      have q : ∃ L, NodeOK L op nm ar va la fo n := ⟨_, p0⟩
      cases p0
      case value va h1 h2 => exact (⟨q, ⟨q, rfl⟩, h2, r0⟩ : _ ∧ (_ ∧ attrG = attrG) ∧ va ∈ exprs_ ∧ R0)
      case feature h => rw [atFeat]; rcases h with rfl | rfl <;> first | (rw [neP]; exact (⟨q, ⟨q, rfl⟩, by decide, ⟨.inl rfl, rfl⟩, by simp [vals_], r0⟩ : _ ∧ (_ ∧ attrG = attrG) ∧ 3 ≤ 1000 ∧ ((sP = strL [112] ∨ sP = strL [113]) ∧ strL [124] = strL [124]) ∧ sP ∈ vals_ ∧ R0)) | (rw [neQ]; exact (⟨q, ⟨q, rfl⟩, by decide, ⟨.inr rfl, rfl⟩, by simp [vals_], r0⟩ : _ ∧ (_ ∧ attrG = attrG) ∧ 3 ≤ 1000 ∧ ((sQ = strL [112] ∨ sQ = strL [113]) ∧ strL [124] = strL [124]) ∧ sQ ∈ vals_ ∧ R0))
      case same h1 h2 h3 => rw [show decide (Pure.at' nl lg la ≥ 0) = true from decide_eq_true h3]; exact (⟨q, ⟨q, rfl⟩, p2, r0⟩ : _ ∧ (_ ∧ attrG = attrG) ∧ nl ≤ 1000 ∧ R0)
      case region h => exact (⟨q, ⟨q, rfl⟩, by simp [vals_], r0⟩ : _ ∧ (_ ∧ attrG = attrG) ∧ sE ∈ vals_ ∧ R0)
      case keyed h h2 => exact (⟨q, ⟨q, rfl⟩, by rcases h2 with rfl | rfl <;> simp [vals_], r0⟩ : _ ∧ (_ ∧ attrG = attrG) ∧ va ∈ vals_ ∧ R0)
      all_goals exact (⟨q, ⟨q, rfl⟩, r0⟩ : _ ∧ (_ ∧ attrG = attrG) ∧ R0)
    obtain ⟨r, m', h1, rfl, rfl⟩ := lay39.run hr
    exact ⟨_, _, h1, fun K hK => hK.2⟩
  · exact h.elim
end Go.Proofs.YtkenjojkpdeooaaGreatDoor
end
