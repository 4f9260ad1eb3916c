/- Validate's parts: the outer loops. · Validate. · allHeads, and Concat's loops. · Concat's loops that move what is appended. · Concat. · SortRegions. -/
import Derived.Test.YtkenjojkpdeooaaGreatDoorN1
section
set_option linter.unusedVariables false
set_option maxRecDepth 100000
set_option linter.unusedSimpArgs false
set_option linter.constructorNameAsVariable false
namespace Go.Proofs.YtkenjojkpdeooaaGreatDoor
open AI

def lw2_ : FuncId → Nat → Option (Hint × LSpec) := fun f rid => match f, rid with
  | 148, 9 => some (⟨[1,2,3,14,15,16], []⟩, L148_9)
  | 149, 13 => some (⟨[1,2,3,4,5,6,7,26,27,28], []⟩, L149_13)
  | 150, 17 => some (⟨[1,2,3,4,7,15,16,17], []⟩, L150_17)
  | 151, 12 => some (⟨[0,3,6,7,8,9,18,19,20], []⟩, L151_12)
  | 151, 22 => some (⟨[0,3,4,5,6,7,18,19,20], []⟩, L151_22)
  | _, _ => none
def lw2 : LoopW := addL lw2_ lw1
theorem lay7 : Lay Tryz.prog ctx cw5 lw2 := layL lay6 fun f rid p h => by
  unfold lw2_ at h
  split at h <;> cases h
  · exact ⟨by kernel_rfl, l148_9⟩
  · exact ⟨by kernel_rfl, l149_13⟩
  · exact ⟨by kernel_rfl, l150_17⟩
  · exact ⟨by kernel_rfl, l151_12⟩
  · exact ⟨by kernel_rfl, l151_22⟩
def L148_4 : LSpec := fun base s K => match base, s with
  | 0, ⟨[(1, .adr 0 0 0), (14, .psl 29 n7 g7), (15, .int .i64 n7'), (16, .int .i64 i)], [(0, .box [.psl 71 3 ga, .psl 29 nt gt, .psl 105 nx gx, .psl 109 nr gr, .psl 117 nn gn, .psl 3 nh gh, .psl 9 ns gs])], 1⟩ => (n7' = n7 ∧ 0 ≤ i ∧ i ≤ n7 ∧ n7 ≤ 1000 ∧ ToksN n7 g7) ∧ (∀ x e, K .ret ⟨[(2, .int .i64 x), (3, .int .i64 e)], [], 0⟩) ∧ (K (.exit 0) ⟨[(2, .undef), (3, .undef)], [], 0⟩)
  | _, _ => False
theorem r148_4 (nt nx nr nn nh ns : Nat) (ga gt gx gr gn gh gs : Nat → Nat → PV) (n7 : Nat) (g7 : Nat → Nat → PV)  (i : Int) (Kn : FS → Prop) (Ke : Ex → FS → Prop) : roundW cw5 lw2 148 0 ⟨[2,3], []⟩ (loopB 148 4) ⟨[(1, .adr 0 0 0), (14, .psl 29 n7 g7), (15, .int .i64 n7), (16, .int .i64 i)], [(0, .box [.psl 71 3 ga, .psl 29 nt gt, .psl 105 nx gx, .psl 109 nr gr, .psl 117 nn gn, .psl 3 nh gh, .psl 9 ns gs])], 1⟩ Kn Ke = (brW (decide (i < (n7 : Int))) (holds (if (0 : Int) ≤ i then if i < (n7 : Int) then some (brW (!(↑(g7 i.toNat 0).n : Int) == (3 : Int)) (Ke Ex.ret { tmps := [(2, AV.int IntKind.i64 i), (3, AV.int IntKind.i64 15)], mem := [], nx := 0 }) (((n7 : Int) = (n7 : Int) ∧ (↑(g7 i.toNat 0).n : Int) = (↑(g7 i.toNat 0).n : Int) ∧ (0 : Int) ≤ (0 : Int) ∧ (0 : Int) ≤ (↑(g7 i.toNat 0).n : Int) ∧ (g7 i.toNat 0).n = 3 ∧ StrsN (g7 i.toNat 0).n (g7 i.toNat 0).get) ∧ (∀ (x e : Int), Ke Ex.ret { tmps := [(2, AV.int IntKind.i64 x), (3, AV.int IntKind.i64 e)], mem := [], nx := 0 }) ∧ Kn { tmps := [(1, AV.adr 0 0 0), (14, AV.psl 29 n7 g7), (15, AV.int IntKind.i64 (n7 : Int)), (16, AV.int IntKind.i64 (IntKind.i64.wrap (i + (1 : Int))))], mem := [(0, Ob.box [AV.psl 71 3 ga, AV.psl 29 nt gt, AV.psl 105 nx gx, AV.psl 109 nr gr, AV.psl 117 nn gn, AV.psl 3 nh gh, AV.psl 9 ns gs])], nx := 1 })) else none else none)) (Ke (Ex.exit 0) { tmps := [(2, AV.undef), (3, AV.undef)], mem := [], nx := 0 })) := by kernel_rfl
theorem l148_4 : LOK cw5 lw2 148 4 ⟨[2,3], []⟩ L148_4 := by
  intro base s K h
  unfold L148_4 at h
  split at h
  · rename_i n7 g7 n7' i ga nt gt nx gx nr gr nn gn nh gh ns gs
    obtain ⟨⟨rfl, a0, a1, p0, p1⟩, k1 , k2⟩ := h
    refine ⟨((n7 : Int) - i + 1).toNat, loop_rule (fun N s => ∃ (i : Int), s = (⟨[(1, .adr 0 0 0), (14, .psl 29 n7 g7), (15, .int .i64 n7), (16, .int .i64 i)], [(0, .box [.psl 71 3 ga, .psl 29 nt gt, .psl 105 nx gx, .psl 109 nr gr, .psl 117 nn gn, .psl 3 nh gh, .psl 9 ns gs])], 1⟩ : FS) ∧ 0 ≤ i ∧ i ≤ n7 ∧ (n7 : Int) - i + 1 ≤ (N : Int)) ?_ ?_ _ _ ⟨i, rfl, a0, a1, by omega⟩⟩
    · rintro s ⟨i, _, i0, i1, iN⟩; omega
    · rintro N Kn hKn s ⟨i, rfl, i0, i1, iN⟩
      rw [r148_4]
      try rw [wrap_succ i0 (by omega)]
      (repeat' (first | with_reducible refine brd (fun _ => ?_) (fun _ => ?_) | with_reducible refine holds_if ?_ ?_ | with_reducible refine holds_ifn ?_ ?_ | with_reducible refine holds_some ?_ | with_reducible refine br (fun _ => ?_) (fun _ => ?_) | with_reducible refine And.intro ?_ ?_ | with_reducible refine fun _ => ?_))
      all_goals first
        | omega
        | exact trivial
        | exact k1
        | exact k2
        | exact k1 _
        | exact k1 _ _
        | exact k1 _ _ _
        | exact k2 _
        | exact k2 _ _
        | exact k2 _ _ _
        | exact hKn _ ⟨i + 1, rfl, by omega, by omega, by omega⟩
        | exact (p1 i.toNat (by omega)).n
        | exact (p1 i.toNat (by omega)).n ▸ (p1 i.toNat (by omega)).strs
        | rfl
  · exact h.elim
def L149_8 : LSpec := fun base s K => match base, s with
  | 0, ⟨[(1, .adr 0 0 0), (4, .int .i64 x4), (5, .int .i64 x5), (26, .psl 105 n7 g7), (27, .int .i64 n7'), (28, .int .i64 i)], [(0, .box [.psl 71 3 ga, .psl 29 nt gt, .psl 105 n7_1 g7_1, .psl 109 nr gr, .psl 117 nn gn, .psl 3 nh gh, .psl 9 ns gs])], 1⟩ => (n7' = n7 ∧ n7 = n7_1 ∧ g7 = g7_1 ∧ 0 ≤ i ∧ i ≤ n7 ∧ n7 ≤ 1000 ∧ RegsN n7 g7) ∧ (∀ x e, K .ret ⟨[(2, .int .i64 x), (3, .int .i64 e)], [], 0⟩) ∧ (K (.exit 0) ⟨[(2, .undef), (3, .undef)], [], 0⟩)
  | _, _ => False
theorem r149_8 (nt nr nn nh ns : Nat) (ga gt gr gn gh gs : Nat → Nat → PV) (x4 : Int) (n7 : Nat) (g7 : Nat → Nat → PV) (x5 : Int) (i : Int) (Kn : FS → Prop) (Ke : Ex → FS → Prop) : roundW cw5 lw2 149 0 ⟨[2,3], []⟩ (loopB 149 8) ⟨[(1, .adr 0 0 0), (4, .int .i64 x4), (5, .int .i64 x5), (26, .psl 105 n7 g7), (27, .int .i64 n7), (28, .int .i64 i)], [(0, .box [.psl 71 3 ga, .psl 29 nt gt, .psl 105 n7 g7, .psl 109 nr gr, .psl 117 nn gn, .psl 3 nh gh, .psl 9 ns gs])], 1⟩ Kn Ke = (brW (decide (i < (n7 : Int))) (holds (if (0 : Int) ≤ i then if i < (n7 : Int) then some ((g7 i.toNat 0).s ∈ sig ∧ ∀ (b : Bool), brW b (holds (if (0 : Int) ≤ i then if i ≤ (n7 : Int) then some (((n7 : Int) = (n7 : Int) ∧ (↑(i.toNat - 0) : Int) = (↑(i.toNat - 0) : Int) ∧ (0 : Int) ≤ (0 : Int) ∧ (0 : Int) ≤ (↑(i.toNat - 0) : Int) ∧ i.toNat - 0 ≤ 1000) ∧ (∀ (x e : Int), Ke Ex.ret { tmps := [(2, AV.int IntKind.i64 x), (3, AV.int IntKind.i64 e)], mem := [], nx := 0 }) ∧ brW (!(g7 i.toNat 1).i == x5) (Ke Ex.ret { tmps := [(2, AV.int IntKind.i64 i), (3, AV.int IntKind.i64 8)], mem := [], nx := 0 }) (brW (decide ((g7 i.toNat 2).i ≤ (g7 i.toNat 1).i)) (Ke Ex.ret { tmps := [(2, AV.int IntKind.i64 i), (3, AV.int IntKind.i64 8)], mem := [], nx := 0 }) (brW (decide ((g7 i.toNat 2).i > x4)) (Ke Ex.ret { tmps := [(2, AV.int IntKind.i64 i), (3, AV.int IntKind.i64 8)], mem := [], nx := 0 }) (brW (i == IntKind.i64.wrap ((n7 : Int) - (1 : Int))) (brW (!(g7 i.toNat 2).i == x4) (Ke Ex.ret { tmps := [(2, AV.int IntKind.i64 i), (3, AV.int IntKind.i64 8)], mem := [], nx := 0 }) (((g7 i.toNat 3).n ≤ 1000 ∧ PairsN (g7 i.toNat 3).n (g7 i.toNat 3).get) ∧ ∀ (x : Int), brW (!x == (0 : Int)) (Ke Ex.ret { tmps := [(2, AV.int IntKind.i64 i), (3, AV.int IntKind.i64 x)], mem := [], nx := 0 }) (Kn { tmps := [(1, AV.adr 0 0 0), (4, AV.int IntKind.i64 x4), (5, AV.int IntKind.i64 (g7 i.toNat 2).i), (26, AV.psl 105 n7 g7), (27, AV.int IntKind.i64 (n7 : Int)), (28, AV.int IntKind.i64 (IntKind.i64.wrap (i + (1 : Int))))], mem := [(0, Ob.box [AV.psl 71 3 ga, AV.psl 29 nt gt, AV.psl 105 n7 g7, AV.psl 109 nr gr, AV.psl 117 nn gn, AV.psl 3 nh gh, AV.psl 9 ns gs])], nx := 1 }))) (((g7 i.toNat 3).n ≤ 1000 ∧ PairsN (g7 i.toNat 3).n (g7 i.toNat 3).get) ∧ ∀ (x : Int), brW (!x == (0 : Int)) (Ke Ex.ret { tmps := [(2, AV.int IntKind.i64 i), (3, AV.int IntKind.i64 x)], mem := [], nx := 0 }) (Kn { tmps := [(1, AV.adr 0 0 0), (4, AV.int IntKind.i64 x4), (5, AV.int IntKind.i64 (g7 i.toNat 2).i), (26, AV.psl 105 n7 g7), (27, AV.int IntKind.i64 (n7 : Int)), (28, AV.int IntKind.i64 (IntKind.i64.wrap (i + (1 : Int))))], mem := [(0, Ob.box [AV.psl 71 3 ga, AV.psl 29 nt gt, AV.psl 105 n7 g7, AV.psl 109 nr gr, AV.psl 117 nn gn, AV.psl 3 nh gh, AV.psl 9 ns gs])], nx := 1 })))))) else none else none)) (Ke Ex.ret { tmps := [(2, AV.int IntKind.i64 i), (3, AV.int IntKind.i64 4)], mem := [], nx := 0 })) else none else none)) (Ke (Ex.exit 0) { tmps := [(2, AV.undef), (3, AV.undef)], mem := [], nx := 0 })) := by kernel_rfl
theorem l149_8 : LOK cw5 lw2 149 8 ⟨[2,3], []⟩ L149_8 := by
  intro base s K h
  unfold L149_8 at h
  split at h
  · rename_i x4 x5 n7 g7 n7' i ga nt gt n7_1 g7_1 nr gr nn gn nh gh ns gs
    obtain ⟨⟨rfl, rfl, rfl, a0, a1, p0, p1⟩, k1 , k2⟩ := h
    refine ⟨((n7 : Int) - i + 1).toNat, loop_rule (fun N s => ∃ (x5 : Int) (i : Int), s = (⟨[(1, .adr 0 0 0), (4, .int .i64 x4), (5, .int .i64 x5), (26, .psl 105 n7 g7), (27, .int .i64 n7), (28, .int .i64 i)], [(0, .box [.psl 71 3 ga, .psl 29 nt gt, .psl 105 n7 g7, .psl 109 nr gr, .psl 117 nn gn, .psl 3 nh gh, .psl 9 ns gs])], 1⟩ : FS) ∧ 0 ≤ i ∧ i ≤ n7 ∧ (n7 : Int) - i + 1 ≤ (N : Int)) ?_ ?_ _ _ ⟨x5, i, rfl, a0, a1, by omega⟩⟩
    · rintro s ⟨x5, i, _, i0, i1, iN⟩; omega
    · rintro N Kn hKn s ⟨x5, i, rfl, i0, i1, iN⟩
      rw [r149_8]
      try rw [wrap_succ i0 (by omega)]
      (repeat' (first | with_reducible refine brd (fun _ => ?_) (fun _ => ?_) | with_reducible refine holds_if ?_ ?_ | with_reducible refine holds_ifn ?_ ?_ | with_reducible refine holds_some ?_ | with_reducible refine br (fun _ => ?_) (fun _ => ?_) | with_reducible refine And.intro ?_ ?_ | with_reducible refine fun _ => ?_))
      all_goals first
        | omega
        | exact trivial
        | exact k1
        | exact k2
        | exact k1 _
        | exact k1 _ _
        | exact k1 _ _ _
        | exact k2 _
        | exact k2 _ _
        | exact k2 _ _ _
        | exact hKn _ ⟨_, i + 1, rfl, by omega, by omega, by omega⟩
        | exact (p1 i.toNat (by omega)).1
        | exact (p1 i.toNat (by omega)).2.1
        | exact (p1 i.toNat (by omega)).2.2
        | rfl
  · exact h.elim
def L150_4 : LSpec := fun base s K => match base, s with
  | 0, ⟨[(1, .adr 0 0 0), (15, .psl 109 n7 g7), (16, .int .i64 n7'), (17, .int .i64 i)], [(0, .box [.psl 71 3 ga, .psl 29 nt gt, .psl 105 nx gx, .psl 109 n7_1 g7_1, .psl 117 nn gn, .psl 3 nh gh, .psl 9 ns gs])], 1⟩ => (n7' = n7 ∧ n7 = n7_1 ∧ g7 = g7_1 ∧ 0 ≤ i ∧ i ≤ n7 ∧ n7 ≤ 1000 ∧ nx ≤ 1000 ∧ RegsN n7 g7) ∧ (∀ x e, K .ret ⟨[(2, .int .i64 x), (3, .int .i64 e)], [], 0⟩) ∧ (K (.exit 0) ⟨[(2, .undef), (3, .undef)], [], 0⟩)
  | _, _ => False
theorem r150_4 (nt nx nn nh ns : Nat) (ga gt gx gn gh gs : Nat → Nat → PV) (n7 : Nat) (g7 : Nat → Nat → PV)  (i : Int) (Kn : FS → Prop) (Ke : Ex → FS → Prop) : roundW cw5 lw2 150 0 ⟨[2,3], []⟩ (loopB 150 4) ⟨[(1, .adr 0 0 0), (15, .psl 109 n7 g7), (16, .int .i64 n7), (17, .int .i64 i)], [(0, .box [.psl 71 3 ga, .psl 29 nt gt, .psl 105 nx gx, .psl 109 n7 g7, .psl 117 nn gn, .psl 3 nh gh, .psl 9 ns gs])], 1⟩ Kn Ke = (brW (decide (i < (n7 : Int))) (holds (if (0 : Int) ≤ i then if i < (n7 : Int) then some ((g7 i.toNat 0).s ∈ sig ∧ ∀ (b : Bool), brW b (nx ≤ 1000 ∧ ∀ (x : Bool), brW x (((g7 i.toNat 3).n ≤ 1000 ∧ PairsN (g7 i.toNat 3).n (g7 i.toNat 3).get) ∧ ∀ (x_1 : Int), brW (!x_1 == (0 : Int)) (Ke Ex.ret { tmps := [(2, AV.int IntKind.i64 i), (3, AV.int IntKind.i64 x_1)], mem := [], nx := 0 }) (brW (decide (i > (0 : Int))) (holds (if (0 : Int) ≤ IntKind.i64.wrap (i - (1 : Int)) then if IntKind.i64.wrap (i - (1 : Int)) < (n7 : Int) then some ((g7 (IntKind.i64.wrap (i - (1 : Int))).toNat 3).n ≤ 1000 ∧ ∀ (x_2 : Int), brW (decide (x_2 > (0 : Int))) (Ke Ex.ret { tmps := [(2, AV.int IntKind.i64 i), (3, AV.int IntKind.i64 6)], mem := [], nx := 0 }) (holds (if (0 : Int) ≤ IntKind.i64.wrap (i + (1 : Int)) then if IntKind.i64.wrap (i + (1 : Int)) ≤ (n7 : Int) then some (((n7 : Int) = (n7 : Int) ∧ (↑((IntKind.i64.wrap (i + (1 : Int))).toNat - 0) : Int) = (↑((IntKind.i64.wrap (i + (1 : Int))).toNat - 0) : Int) ∧ (0 : Int) ≤ (0 : Int) ∧ (0 : Int) ≤ (↑((IntKind.i64.wrap (i + (1 : Int))).toNat - 0) : Int) ∧ (IntKind.i64.wrap (i + (1 : Int))).toNat - 0 ≤ 1000) ∧ (∀ (x_3 e y : Int), Ke Ex.ret { tmps := [(2, AV.int IntKind.i64 x_3), (3, AV.int IntKind.i64 e)], mem := [], nx := 0 }) ∧ ∀ (y : Int), brW (decide (y > (40 : Int))) (Ke Ex.ret { tmps := [(2, AV.int IntKind.i64 i), (3, AV.int IntKind.i64 2)], mem := [], nx := 0 }) (Kn { tmps := [(1, AV.adr 0 0 0), (15, AV.psl 109 n7 g7), (16, AV.int IntKind.i64 (n7 : Int)), (17, AV.int IntKind.i64 (IntKind.i64.wrap (i + (1 : Int))))], mem := [(0, Ob.box [AV.psl 71 3 ga, AV.psl 29 nt gt, AV.psl 105 nx gx, AV.psl 109 n7 g7, AV.psl 117 nn gn, AV.psl 3 nh gh, AV.psl 9 ns gs])], nx := 1 })) else none else none))) else none else none)) (holds (if (0 : Int) ≤ IntKind.i64.wrap (i + (1 : Int)) then if IntKind.i64.wrap (i + (1 : Int)) ≤ (n7 : Int) then some (((n7 : Int) = (n7 : Int) ∧ (↑((IntKind.i64.wrap (i + (1 : Int))).toNat - 0) : Int) = (↑((IntKind.i64.wrap (i + (1 : Int))).toNat - 0) : Int) ∧ (0 : Int) ≤ (0 : Int) ∧ (0 : Int) ≤ (↑((IntKind.i64.wrap (i + (1 : Int))).toNat - 0) : Int) ∧ (IntKind.i64.wrap (i + (1 : Int))).toNat - 0 ≤ 1000) ∧ (∀ (x_2 e y : Int), Ke Ex.ret { tmps := [(2, AV.int IntKind.i64 x_2), (3, AV.int IntKind.i64 e)], mem := [], nx := 0 }) ∧ ∀ (y : Int), brW (decide (y > (40 : Int))) (Ke Ex.ret { tmps := [(2, AV.int IntKind.i64 i), (3, AV.int IntKind.i64 2)], mem := [], nx := 0 }) (Kn { tmps := [(1, AV.adr 0 0 0), (15, AV.psl 109 n7 g7), (16, AV.int IntKind.i64 (n7 : Int)), (17, AV.int IntKind.i64 (IntKind.i64.wrap (i + (1 : Int))))], mem := [(0, Ob.box [AV.psl 71 3 ga, AV.psl 29 nt gt, AV.psl 105 nx gx, AV.psl 109 n7 g7, AV.psl 117 nn gn, AV.psl 3 nh gh, AV.psl 9 ns gs])], nx := 1 })) else none else none)))) (Ke Ex.ret { tmps := [(2, AV.int IntKind.i64 i), (3, AV.int IntKind.i64 8)], mem := [], nx := 0 })) (Ke Ex.ret { tmps := [(2, AV.int IntKind.i64 i), (3, AV.int IntKind.i64 4)], mem := [], nx := 0 })) else none else none)) (Ke (Ex.exit 0) { tmps := [(2, AV.undef), (3, AV.undef)], mem := [], nx := 0 })) := by kernel_rfl
theorem l150_4 : LOK cw5 lw2 150 4 ⟨[2,3], []⟩ L150_4 := by
  intro base s K h
  unfold L150_4 at h
  split at h
  · rename_i n7 g7 n7' i ga nt gt nx gx n7_1 g7_1 nn gn nh gh ns gs
    obtain ⟨⟨rfl, rfl, rfl, a0, a1, p0, p1, p2⟩, k1 , k2⟩ := h
    refine ⟨((n7 : Int) - i + 1).toNat, loop_rule (fun N s => ∃ (i : Int), s = (⟨[(1, .adr 0 0 0), (15, .psl 109 n7 g7), (16, .int .i64 n7), (17, .int .i64 i)], [(0, .box [.psl 71 3 ga, .psl 29 nt gt, .psl 105 nx gx, .psl 109 n7 g7, .psl 117 nn gn, .psl 3 nh gh, .psl 9 ns gs])], 1⟩ : FS) ∧ 0 ≤ i ∧ i ≤ n7 ∧ (n7 : Int) - i + 1 ≤ (N : Int)) ?_ ?_ _ _ ⟨i, rfl, a0, a1, by omega⟩⟩
    · rintro s ⟨i, _, i0, i1, iN⟩; omega
    · rintro N Kn hKn s ⟨i, rfl, i0, i1, iN⟩
      rw [r150_4]
      try rw [wrap_succ i0 (by omega)]
      (repeat' (first | with_reducible refine brd (fun _ => ?_) (fun _ => ?_) | with_reducible refine holds_if ?_ ?_ | with_reducible refine holds_ifn ?_ ?_ | with_reducible refine holds_some ?_ | with_reducible refine br (fun _ => ?_) (fun _ => ?_) | with_reducible refine And.intro ?_ ?_ | with_reducible refine fun _ => ?_))
      all_goals first
        | omega
        | exact trivial
        | exact k1
        | exact k2
        | exact k1 _
        | exact k1 _ _
        | exact k1 _ _ _
        | exact k2 _
        | exact k2 _ _
        | exact k2 _ _ _
        | exact hKn _ ⟨i + 1, rfl, by omega, by omega, by omega⟩
        | exact (p2 i.toNat (by omega)).1
        | exact (p2 i.toNat (by omega)).2.1
        | exact (p2 i.toNat (by omega)).2.2
        | (rw [wrap_pred i0 (by omega)]; omega)
        | (rw [wrap_pred i0 (by omega)]; exact (p2 (i - 1).toNat (by omega)).2.1)
        | rfl
  · exact h.elim
def L151_5 : LSpec := fun base s K => match base, s with
  | 0, ⟨[(0, .psl 117 n_1 gn_1), (3, .adr 0 0 0), (6, .row 1), (18, .psl 117 n gn), (19, .int .i64 n'), (20, .int .i64 i)], [(0, .box [.psl 71 3 ga, .psl 29 nt gt, .psl 105 nx gx, .psl 109 nr gr, .psl 117 nn gn_, .psl 3 nh gh, .psl 9 ns gs]), (1, .prow 3 n_2 dg)], 2⟩ => (n' = n ∧ n = n_1 ∧ gn = gn_1 ∧ n = n_2 ∧ 0 ≤ i ∧ i ≤ n ∧ n ≤ 1000 ∧ nx ≤ 1000 ∧ NodesN n gn) ∧ (∀ x e, K .ret ⟨[(4, .int .i64 x), (5, .int .i64 e)], [], 0⟩) ∧ (K (.exit 0) ⟨[(4, .undef), (5, .undef)], [], 0⟩)
  | _, _ => False
theorem r151_5 (n : Nat) (gn : Nat → Nat → PV) (nt nx nr nn nh ns : Nat) (ga gt gx gr gn_ gh gs : Nat → Nat → PV) (dg : Nat → Nat → PV) (i : Int) (Kn : FS → Prop) (Ke : Ex → FS → Prop) : roundW cw5 lw2 151 0 ⟨[4,5], []⟩ (loopB 151 5) ⟨[(0, .psl 117 n gn), (3, .adr 0 0 0), (6, .row 1), (18, .psl 117 n gn), (19, .int .i64 n), (20, .int .i64 i)], [(0, .box [.psl 71 3 ga, .psl 29 nt gt, .psl 105 nx gx, .psl 109 nr gr, .psl 117 nn gn_, .psl 3 nh gh, .psl 9 ns gs]), (1, .prow 3 n dg)], 2⟩ Kn Ke = (brW (decide (i < (n : Int))) (holds (if (0 : Int) ≤ i then if i < (n : Int) then some ((gn i.toNat 0).s ∈ sig ∧ ∀ (b : Bool), brW b (nx ≤ 1000 ∧ ∀ (x : Bool), brW x (((n : Int) = (n : Int) ∧ n = n ∧ gn = gn ∧ n = n ∧ n ≤ 1000 ∧ NodesN n gn ∧ (-1 : Int) ≤ IntKind.i64.wrap (i - (1 : Int)) ∧ IntKind.i64.wrap (i - (1 : Int)) < (n : Int)) ∧ ∀ (y : Int), (-1 : Int) ≤ y → y < (n : Int) → y < (0 : Int) ∨ y = (gn i.toNat 3).i → brW (decide (y < (0 : Int))) (brW (!(gn i.toNat 3).i == (-1 : Int)) (Ke Ex.ret { tmps := [(4, AV.int IntKind.i64 i), (5, AV.int IntKind.i64 6)], mem := [], nx := 0 }) (brW (decide ((gn i.toNat 3).i ≥ (0 : Int))) (holds (if (0 : Int) ≤ (gn i.toNat 3).i then if (gn i.toNat 3).i < (n : Int) then some (brW (decide ((gn i.toNat 1).i < (gn (gn i.toNat 3).i.toNat 1).i)) (Ke Ex.ret { tmps := [(4, AV.int IntKind.i64 i), (5, AV.int IntKind.i64 8)], mem := [], nx := 0 }) (brW (decide ((gn i.toNat 2).i > (gn (gn i.toNat 3).i.toNat 2).i)) (Ke Ex.ret { tmps := [(4, AV.int IntKind.i64 i), (5, AV.int IntKind.i64 8)], mem := [], nx := 0 }) (holds (if (0 : Int) ≤ (gn i.toNat 3).i then if (gn i.toNat 3).i < (n : Int) then some (holds (if (0 : Int) ≤ i then if i < (n : Int) then some (((n : Int) = (n : Int) ∧ n = n ∧ gn = gn ∧ n = n ∧ n ≤ 1000 ∧ (-1 : Int) ≤ IntKind.i64.wrap (i - (1 : Int)) ∧ IntKind.i64.wrap (i - (1 : Int)) < (n : Int)) ∧ (∀ (x_1 e : Int), Ke Ex.ret { tmps := [(4, AV.int IntKind.i64 x_1), (5, AV.int IntKind.i64 e)], mem := [], nx := 0 }) ∧ holds (if (0 : Int) ≤ i then if i < (n : Int) then some (holds (if (0 : Int) ≤ i then if i < (n : Int) then some (holds (if (0 : Int) ≤ i then if i < (n : Int) then some (brW (decide ((setRow (setRow dg i.toNat 0 [PV.int (dg (gn i.toNat 3).i.toNat 0).i]) i.toNat 0 [PV.int (IntKind.i64.wrap ((setRow dg i.toNat 0 [PV.int (dg (gn i.toNat 3).i.toNat 0).i] i.toNat 0).i + (1 : Int)))] i.toNat 0).i > (40 : Int))) (Ke Ex.ret { tmps := [(4, AV.int IntKind.i64 i), (5, AV.int IntKind.i64 2)], mem := [], nx := 0 }) (Kn { tmps := [(0, AV.psl 117 n gn), (3, AV.adr 0 0 0), (6, AV.row 1), (18, AV.psl 117 n gn), (19, AV.int IntKind.i64 (n : Int)), (20, AV.int IntKind.i64 (IntKind.i64.wrap (i + (1 : Int))))], mem := [(0, Ob.box [AV.psl 71 3 ga, AV.psl 29 nt gt, AV.psl 105 nx gx, AV.psl 109 nr gr, AV.psl 117 nn gn_, AV.psl 3 nh gh, AV.psl 9 ns gs]), (1, Ob.prow 3 n (setRow (setRow dg i.toNat 0 [PV.int (dg (gn i.toNat 3).i.toNat 0).i]) i.toNat 0 [PV.int (IntKind.i64.wrap ((setRow dg i.toNat 0 [PV.int (dg (gn i.toNat 3).i.toNat 0).i] i.toNat 0).i + (1 : Int)))]))], nx := 2 })) else none else none)) else none else none)) else none else none)) else none else none)) else none else none)))) else none else none)) (((n : Int) = (n : Int) ∧ n = n ∧ gn = gn ∧ n = n ∧ n ≤ 1000 ∧ (-1 : Int) ≤ IntKind.i64.wrap (i - (1 : Int)) ∧ IntKind.i64.wrap (i - (1 : Int)) < (n : Int)) ∧ (∀ (x_1 e : Int), Ke Ex.ret { tmps := [(4, AV.int IntKind.i64 x_1), (5, AV.int IntKind.i64 e)], mem := [], nx := 0 }) ∧ holds (if (0 : Int) ≤ i then if i < (n : Int) then some (holds (if (0 : Int) ≤ i then if i < (n : Int) then some (holds (if (0 : Int) ≤ i then if i < (n : Int) then some (brW (decide ((setRow dg i.toNat 0 [PV.int (IntKind.i64.wrap ((dg i.toNat 0).i + (1 : Int)))] i.toNat 0).i > (40 : Int))) (Ke Ex.ret { tmps := [(4, AV.int IntKind.i64 i), (5, AV.int IntKind.i64 2)], mem := [], nx := 0 }) (Kn { tmps := [(0, AV.psl 117 n gn), (3, AV.adr 0 0 0), (6, AV.row 1), (18, AV.psl 117 n gn), (19, AV.int IntKind.i64 (n : Int)), (20, AV.int IntKind.i64 (IntKind.i64.wrap (i + (1 : Int))))], mem := [(0, Ob.box [AV.psl 71 3 ga, AV.psl 29 nt gt, AV.psl 105 nx gx, AV.psl 109 nr gr, AV.psl 117 nn gn_, AV.psl 3 nh gh, AV.psl 9 ns gs]), (1, Ob.prow 3 n (setRow dg i.toNat 0 [PV.int (IntKind.i64.wrap ((dg i.toNat 0).i + (1 : Int)))]))], nx := 2 })) else none else none)) else none else none)) else none else none)))) (brW (decide ((gn i.toNat 3).i ≥ (0 : Int))) (holds (if (0 : Int) ≤ (gn i.toNat 3).i then if (gn i.toNat 3).i < (n : Int) then some (brW (decide ((gn i.toNat 1).i < (gn (gn i.toNat 3).i.toNat 1).i)) (Ke Ex.ret { tmps := [(4, AV.int IntKind.i64 i), (5, AV.int IntKind.i64 8)], mem := [], nx := 0 }) (brW (decide ((gn i.toNat 2).i > (gn (gn i.toNat 3).i.toNat 2).i)) (Ke Ex.ret { tmps := [(4, AV.int IntKind.i64 i), (5, AV.int IntKind.i64 8)], mem := [], nx := 0 }) (holds (if (0 : Int) ≤ (gn i.toNat 3).i then if (gn i.toNat 3).i < (n : Int) then some (holds (if (0 : Int) ≤ i then if i < (n : Int) then some (((n : Int) = (n : Int) ∧ n = n ∧ gn = gn ∧ n = n ∧ n ≤ 1000 ∧ (-1 : Int) ≤ IntKind.i64.wrap (i - (1 : Int)) ∧ IntKind.i64.wrap (i - (1 : Int)) < (n : Int)) ∧ (∀ (x_1 e : Int), Ke Ex.ret { tmps := [(4, AV.int IntKind.i64 x_1), (5, AV.int IntKind.i64 e)], mem := [], nx := 0 }) ∧ holds (if (0 : Int) ≤ i then if i < (n : Int) then some (holds (if (0 : Int) ≤ i then if i < (n : Int) then some (holds (if (0 : Int) ≤ i then if i < (n : Int) then some (brW (decide ((setRow (setRow dg i.toNat 0 [PV.int (dg (gn i.toNat 3).i.toNat 0).i]) i.toNat 0 [PV.int (IntKind.i64.wrap ((setRow dg i.toNat 0 [PV.int (dg (gn i.toNat 3).i.toNat 0).i] i.toNat 0).i + (1 : Int)))] i.toNat 0).i > (40 : Int))) (Ke Ex.ret { tmps := [(4, AV.int IntKind.i64 i), (5, AV.int IntKind.i64 2)], mem := [], nx := 0 }) (Kn { tmps := [(0, AV.psl 117 n gn), (3, AV.adr 0 0 0), (6, AV.row 1), (18, AV.psl 117 n gn), (19, AV.int IntKind.i64 (n : Int)), (20, AV.int IntKind.i64 (IntKind.i64.wrap (i + (1 : Int))))], mem := [(0, Ob.box [AV.psl 71 3 ga, AV.psl 29 nt gt, AV.psl 105 nx gx, AV.psl 109 nr gr, AV.psl 117 nn gn_, AV.psl 3 nh gh, AV.psl 9 ns gs]), (1, Ob.prow 3 n (setRow (setRow dg i.toNat 0 [PV.int (dg (gn i.toNat 3).i.toNat 0).i]) i.toNat 0 [PV.int (IntKind.i64.wrap ((setRow dg i.toNat 0 [PV.int (dg (gn i.toNat 3).i.toNat 0).i] i.toNat 0).i + (1 : Int)))]))], nx := 2 })) else none else none)) else none else none)) else none else none)) else none else none)) else none else none)))) else none else none)) (((n : Int) = (n : Int) ∧ n = n ∧ gn = gn ∧ n = n ∧ n ≤ 1000 ∧ (-1 : Int) ≤ IntKind.i64.wrap (i - (1 : Int)) ∧ IntKind.i64.wrap (i - (1 : Int)) < (n : Int)) ∧ (∀ (x_1 e : Int), Ke Ex.ret { tmps := [(4, AV.int IntKind.i64 x_1), (5, AV.int IntKind.i64 e)], mem := [], nx := 0 }) ∧ holds (if (0 : Int) ≤ i then if i < (n : Int) then some (holds (if (0 : Int) ≤ i then if i < (n : Int) then some (holds (if (0 : Int) ≤ i then if i < (n : Int) then some (brW (decide ((setRow dg i.toNat 0 [PV.int (IntKind.i64.wrap ((dg i.toNat 0).i + (1 : Int)))] i.toNat 0).i > (40 : Int))) (Ke Ex.ret { tmps := [(4, AV.int IntKind.i64 i), (5, AV.int IntKind.i64 2)], mem := [], nx := 0 }) (Kn { tmps := [(0, AV.psl 117 n gn), (3, AV.adr 0 0 0), (6, AV.row 1), (18, AV.psl 117 n gn), (19, AV.int IntKind.i64 (n : Int)), (20, AV.int IntKind.i64 (IntKind.i64.wrap (i + (1 : Int))))], mem := [(0, Ob.box [AV.psl 71 3 ga, AV.psl 29 nt gt, AV.psl 105 nx gx, AV.psl 109 nr gr, AV.psl 117 nn gn_, AV.psl 3 nh gh, AV.psl 9 ns gs]), (1, Ob.prow 3 n (setRow dg i.toNat 0 [PV.int (IntKind.i64.wrap ((dg i.toNat 0).i + (1 : Int)))]))], nx := 2 })) else none else none)) else none else none)) else none else none)))) (Ke Ex.ret { tmps := [(4, AV.int IntKind.i64 i), (5, AV.int IntKind.i64 8)], mem := [], nx := 0 })) (Ke Ex.ret { tmps := [(4, AV.int IntKind.i64 i), (5, AV.int IntKind.i64 4)], mem := [], nx := 0 })) else none else none)) (Ke (Ex.exit 0) { tmps := [(4, AV.undef), (5, AV.undef)], mem := [], nx := 0 })) := by kernel_rfl
theorem l151_5 : LOK cw5 lw2 151 5 ⟨[4,5], []⟩ L151_5 := by
  intro base s K h
  unfold L151_5 at h
  split at h
  · rename_i n_1 gn_1 n gn n' i ga nt gt nx gx nr gr nn gn_ nh gh ns gs n_2 dg
    obtain ⟨⟨rfl, rfl, rfl, rfl, a0, a1, p0, p1, p2⟩, k1 , k2⟩ := h
    refine ⟨((n : Int) - i + 1).toNat, loop_rule (fun N s => ∃ (dg : Nat → Nat → PV) (i : Int), s = (⟨[(0, .psl 117 n gn), (3, .adr 0 0 0), (6, .row 1), (18, .psl 117 n gn), (19, .int .i64 n), (20, .int .i64 i)], [(0, .box [.psl 71 3 ga, .psl 29 nt gt, .psl 105 nx gx, .psl 109 nr gr, .psl 117 nn gn_, .psl 3 nh gh, .psl 9 ns gs]), (1, .prow 3 n dg)], 2⟩ : FS) ∧ 0 ≤ i ∧ i ≤ n ∧ (n : Int) - i + 1 ≤ (N : Int)) ?_ ?_ _ _ ⟨dg, i, rfl, a0, a1, by omega⟩⟩
    · rintro s ⟨dg, i, _, i0, i1, iN⟩; omega
    · rintro N Kn hKn s ⟨dg, i, rfl, i0, i1, iN⟩
      have q : i < n → _ := fun hi => p2 i.toNat (by omega)
      rw [r151_5]
      try rw [wrap_succ i0 (by omega)]
      (repeat' (first | with_reducible refine brd (fun _ => ?_) (fun _ => ?_) | with_reducible refine holds_if ?_ ?_ | with_reducible refine holds_ifn ?_ ?_ | with_reducible refine holds_some ?_ | with_reducible refine br (fun _ => ?_) (fun _ => ?_) | with_reducible refine And.intro ?_ ?_ | with_reducible refine fun _ => ?_))
      all_goals first
        | omega
        | exact trivial
        | exact k1
        | exact k2
        | exact k1 _
        | exact k1 _ _
        | exact k1 _ _ _
        | exact k2 _
        | exact k2 _ _
        | exact k2 _ _ _
        | exact hKn _ ⟨_, i + 1, rfl, by omega, by omega, by omega⟩
        | exact (p2 i.toNat (by omega)).1
        | (rw [wrap_pred i0 (by omega)]; omega)
        | (have q := q (by omega); omega)
        | rfl
  · exact h.elim
def L152_7 : LSpec := fun base s K => match base, s with
  | 0, ⟨[(1, .adr 0 0 0), (4, .int .i64 x4), (36, .psl 3 n7 g7), (37, .int .i64 n7'), (38, .int .i64 i)], [(0, .box [.psl 71 3 ga, .psl 29 nt gt, .psl 105 nx gx, .psl 109 nr gr, .psl 117 nn gn, .psl 3 n7_1 g7_1, .psl 9 ns gs])], 1⟩ => (n7' = n7 ∧ n7 = n7_1 ∧ g7 = g7_1 ∧ 0 ≤ i ∧ i ≤ n7 ∧ n7 ≤ 1000 ∧ nx ≤ 1000 ∧ ns = n7 ∧ StrsN ns gs) ∧ (∀ x e, K .ret ⟨[(2, .int .i64 x), (3, .int .i64 e)], [], 0⟩) ∧ (K (.exit 0) ⟨[(2, .undef), (3, .undef)], [], 0⟩)
  | _, _ => False
theorem r152_7 (nt nx nr nn ns : Nat) (ga gt gx gr gn gs : Nat → Nat → PV) (x4 : Int) (n7 : Nat) (g7 : Nat → Nat → PV)  (i : Int) (Kn : FS → Prop) (Ke : Ex → FS → Prop) : roundW cw5 lw2 152 0 ⟨[2,3], []⟩ (loopB 152 7) ⟨[(1, .adr 0 0 0), (4, .int .i64 x4), (36, .psl 3 n7 g7), (37, .int .i64 n7), (38, .int .i64 i)], [(0, .box [.psl 71 3 ga, .psl 29 nt gt, .psl 105 nx gx, .psl 109 nr gr, .psl 117 nn gn, .psl 3 n7 g7, .psl 9 ns gs])], 1⟩ Kn Ke = (brW (decide (i < (n7 : Int))) (holds (if (0 : Int) ≤ i then if i < (n7 : Int) then some (brW (!(g7 i.toNat 0).i == (-1 : Int)) (brW (decide ((g7 i.toNat 0).i < (0 : Int))) (Ke Ex.ret { tmps := [(2, AV.int IntKind.i64 i), (3, AV.int IntKind.i64 8)], mem := [], nx := 0 }) (brW (decide ((g7 i.toNat 0).i ≥ x4)) (Ke Ex.ret { tmps := [(2, AV.int IntKind.i64 i), (3, AV.int IntKind.i64 8)], mem := [], nx := 0 }) (nx ≤ 1000 ∧ ∀ (x : Int), nx ≤ 1000 ∧ ∀ (x_1 : Int), brW (!x == x_1) (Ke Ex.ret { tmps := [(2, AV.int IntKind.i64 i), (3, AV.int IntKind.i64 8)], mem := [], nx := 0 }) (holds (if (0 : Int) ≤ i then if i < (ns : Int) then some (brW (!(gs i.toNat 0).s.toList == (strL []).toList) (holds (if (0 : Int) ≤ i then if i < (ns : Int) then some ((gs i.toNat 0).s ∈ sig ∧ ∀ (b : Bool), brW b ((n7 ≤ 1000 ∧ (0 : Int) ≤ i ∧ i < (n7 : Int)) ∧ ∀ (x_2 : Bool), brW x_2 (Ke Ex.ret { tmps := [(2, AV.int IntKind.i64 i), (3, AV.int IntKind.i64 12)], mem := [], nx := 0 }) (Kn { tmps := [(1, AV.adr 0 0 0), (4, AV.int IntKind.i64 x4), (36, AV.psl 3 n7 g7), (37, AV.int IntKind.i64 (n7 : Int)), (38, AV.int IntKind.i64 (IntKind.i64.wrap (i + (1 : Int))))], mem := [(0, Ob.box [AV.psl 71 3 ga, AV.psl 29 nt gt, AV.psl 105 nx gx, AV.psl 109 nr gr, AV.psl 117 nn gn, AV.psl 3 n7 g7, AV.psl 9 ns gs])], nx := 1 })) (Ke Ex.ret { tmps := [(2, AV.int IntKind.i64 i), (3, AV.int IntKind.i64 4)], mem := [], nx := 0 })) else none else none)) ((n7 ≤ 1000 ∧ (0 : Int) ≤ i ∧ i < (n7 : Int)) ∧ ∀ (x_2 : Bool), brW x_2 (Ke Ex.ret { tmps := [(2, AV.int IntKind.i64 i), (3, AV.int IntKind.i64 12)], mem := [], nx := 0 }) (Kn { tmps := [(1, AV.adr 0 0 0), (4, AV.int IntKind.i64 x4), (36, AV.psl 3 n7 g7), (37, AV.int IntKind.i64 (n7 : Int)), (38, AV.int IntKind.i64 (IntKind.i64.wrap (i + (1 : Int))))], mem := [(0, Ob.box [AV.psl 71 3 ga, AV.psl 29 nt gt, AV.psl 105 nx gx, AV.psl 109 nr gr, AV.psl 117 nn gn, AV.psl 3 n7 g7, AV.psl 9 ns gs])], nx := 1 }))) else none else none))))) (holds (if (0 : Int) ≤ i then if i < (ns : Int) then some (brW (!(gs i.toNat 0).s.toList == (strL []).toList) (holds (if (0 : Int) ≤ i then if i < (ns : Int) then some ((gs i.toNat 0).s ∈ sig ∧ ∀ (b : Bool), brW b ((n7 ≤ 1000 ∧ (0 : Int) ≤ i ∧ i < (n7 : Int)) ∧ ∀ (x : Bool), brW x (Ke Ex.ret { tmps := [(2, AV.int IntKind.i64 i), (3, AV.int IntKind.i64 12)], mem := [], nx := 0 }) (Kn { tmps := [(1, AV.adr 0 0 0), (4, AV.int IntKind.i64 x4), (36, AV.psl 3 n7 g7), (37, AV.int IntKind.i64 (n7 : Int)), (38, AV.int IntKind.i64 (IntKind.i64.wrap (i + (1 : Int))))], mem := [(0, Ob.box [AV.psl 71 3 ga, AV.psl 29 nt gt, AV.psl 105 nx gx, AV.psl 109 nr gr, AV.psl 117 nn gn, AV.psl 3 n7 g7, AV.psl 9 ns gs])], nx := 1 })) (Ke Ex.ret { tmps := [(2, AV.int IntKind.i64 i), (3, AV.int IntKind.i64 4)], mem := [], nx := 0 })) else none else none)) ((n7 ≤ 1000 ∧ (0 : Int) ≤ i ∧ i < (n7 : Int)) ∧ ∀ (x : Bool), brW x (Ke Ex.ret { tmps := [(2, AV.int IntKind.i64 i), (3, AV.int IntKind.i64 12)], mem := [], nx := 0 }) (Kn { tmps := [(1, AV.adr 0 0 0), (4, AV.int IntKind.i64 x4), (36, AV.psl 3 n7 g7), (37, AV.int IntKind.i64 (n7 : Int)), (38, AV.int IntKind.i64 (IntKind.i64.wrap (i + (1 : Int))))], mem := [(0, Ob.box [AV.psl 71 3 ga, AV.psl 29 nt gt, AV.psl 105 nx gx, AV.psl 109 nr gr, AV.psl 117 nn gn, AV.psl 3 n7 g7, AV.psl 9 ns gs])], nx := 1 }))) else none else none))) else none else none)) (Ke (Ex.exit 0) { tmps := [(2, AV.undef), (3, AV.undef)], mem := [], nx := 0 })) := by kernel_rfl
theorem l152_7 : LOK cw5 lw2 152 7 ⟨[2,3], []⟩ L152_7 := by
  intro base s K h
  unfold L152_7 at h
  split at h
  · rename_i x4 n7 g7 n7' i ga nt gt nx gx nr gr nn gn n7_1 g7_1 ns gs
    obtain ⟨⟨rfl, rfl, rfl, a0, a1, p0, p1, p2, p3⟩, k1 , k2⟩ := h
    refine ⟨((n7 : Int) - i + 1).toNat, loop_rule (fun N s => ∃ (i : Int), s = (⟨[(1, .adr 0 0 0), (4, .int .i64 x4), (36, .psl 3 n7 g7), (37, .int .i64 n7), (38, .int .i64 i)], [(0, .box [.psl 71 3 ga, .psl 29 nt gt, .psl 105 nx gx, .psl 109 nr gr, .psl 117 nn gn, .psl 3 n7 g7, .psl 9 ns gs])], 1⟩ : FS) ∧ 0 ≤ i ∧ i ≤ n7 ∧ (n7 : Int) - i + 1 ≤ (N : Int)) ?_ ?_ _ _ ⟨i, rfl, a0, a1, by omega⟩⟩
    · rintro s ⟨i, _, i0, i1, iN⟩; omega
    · rintro N Kn hKn s ⟨i, rfl, i0, i1, iN⟩
      rw [r152_7]
      try rw [wrap_succ i0 (by omega)]
      (repeat' (first | with_reducible refine brd (fun _ => ?_) (fun _ => ?_) | with_reducible refine holds_if ?_ ?_ | with_reducible refine holds_ifn ?_ ?_ | with_reducible refine holds_some ?_ | with_reducible refine br (fun _ => ?_) (fun _ => ?_) | with_reducible refine And.intro ?_ ?_ | with_reducible refine fun _ => ?_))
      all_goals first
        | omega
        | exact trivial
        | exact k1
        | exact k2
        | exact k1 _
        | exact k1 _ _
        | exact k1 _ _ _
        | exact k2 _
        | exact k2 _ _
        | exact k2 _ _ _
        | exact hKn _ ⟨i + 1, rfl, by omega, by omega, by omega⟩
        | exact p3 i.toNat (by omega)
        | rfl
  · exact h.elim
end Go.Proofs.YtkenjojkpdeooaaGreatDoor
end
section
set_option linter.unusedVariables false
set_option maxRecDepth 100000
set_option linter.unusedSimpArgs false
set_option linter.constructorNameAsVariable false
namespace Go.Proofs.YtkenjojkpdeooaaGreatDoor
open AI

def specII (ok : List AV → Prop) : AI.Spec := fun xs m K => match m with
  | [] => ok xs ∧ ∀ x y, K (.tup [.int .i64 x, .int .i64 y]) []
  | _ => False
def specIII (ok : List AV → Prop) : AI.Spec := fun xs m K => match m with
  | [] => ok xs ∧ ∀ x y z, K (.tup [.int .i64 x, .int .i64 y, .int .i64 z]) []
  | _ => False
theorem specII_ok {cw : CallW} {lw : LoopW} (L : Lay Tryz.prog ctx cw lw) {f : FuncId} {ok : List AV → Prop} (h : ∀ xs, ok xs → runW ctx cw lw f xs [] fun r m => ∃ x y, r = .tup [.int .i64 x, .int .i64 y] ∧ m = []) : FOK cw lw f (specII ok) := by
  intro xs m K0 h0
  unfold specII at h0
  split at h0
  · obtain ⟨r, m', h1, x, y, rfl, rfl⟩ := L.run (h xs h0.1)
    exact ⟨_, _, h1, fun K hK => hK.2 x y⟩
  · exact h0.elim
theorem specIII_ok {cw : CallW} {lw : LoopW} (L : Lay Tryz.prog ctx cw lw) {f : FuncId} {ok : List AV → Prop} (h : ∀ xs, ok xs → runW ctx cw lw f xs [] fun r m => ∃ x y z, r = .tup [.int .i64 x, .int .i64 y, .int .i64 z] ∧ m = []) : FOK cw lw f (specIII ok) := by
  intro xs m K0 h0
  unfold specIII at h0
  split at h0
  · obtain ⟨r, m', h1, x, y, z, rfl, rfl⟩ := L.run (h xs h0.1)
    exact ⟨_, _, h1, fun K hK => hK.2 x y z⟩
  · exact h0.elim
/-- A corpus of which nothing is looked up outside. -/
structure CorOK (B nt nx nr nn nh ns : Nat) (gt gx gr gn gs : Nat → Nat → PV) : Prop where
  bt : nt ≤ B
  bx : nx ≤ B
  br : nr ≤ B
  bn : nn ≤ B
  bh : nh ≤ B
  bs : ns ≤ B
  t : ToksN nt gt
  x : RegsN nx gx
  r : RegsN nr gr
  n : NodesN nn gn
  s : StrsN ns gs
def lw3_ : FuncId → Nat → Option (Hint × LSpec) := fun f rid => match f, rid with
  | 148, 4 => some (⟨[2,3], []⟩, L148_4)
  | 149, 8 => some (⟨[2,3], []⟩, L149_8)
  | 150, 4 => some (⟨[2,3], []⟩, L150_4)
  | 151, 5 => some (⟨[4,5], []⟩, L151_5)
  | 152, 7 => some (⟨[2,3], []⟩, L152_7)
  | _, _ => none
def lw3 : LoopW := addL lw3_ lw2
theorem lay8 : Lay Tryz.prog ctx cw5 lw3 := layL lay7 fun f rid p h => by
  unfold lw3_ at h
  split at h <;> cases h
  · exact ⟨by kernel_rfl, l148_4⟩
  · exact ⟨by kernel_rfl, l149_8⟩
  · exact ⟨by kernel_rfl, l150_4⟩
  · exact ⟨by kernel_rfl, l151_5⟩
  · exact ⟨by kernel_rfl, l152_7⟩
def ok148 : List AV → Prop := fun xs => match xs with
  | [.agg [.psl 71 3 ga, .psl 29 nt gt, .psl 105 nx gx, .psl 109 nr gr, .psl 117 nn gn, .psl 3 nh gh, .psl 9 ns gs]] => nt ≤ 1000 ∧ ToksN nt gt
  | _ => False
theorem e148 (nt nx nr nn nh ns : Nat) (ga gt gx gr gn gh gs : Nat → Nat → PV) (Q : AV → Mem → Prop) : runW ctx cw5 lw3 148 [.agg [.psl 71 3 ga, .psl 29 nt gt, .psl 105 nx gx, .psl 109 nr gr, .psl 117 nn gn, .psl 3 nh gh, .psl 9 ns gs]] [] Q = (brW (decide ((nt : Int) > (4096 : Int))) (Q (AV.tup [AV.int IntKind.i64 0, AV.int IntKind.i64 2]) []) (((nt : Int) = (nt : Int) ∧ (0 : Int) ≤ (0 : Int) ∧ (0 : Int) ≤ (nt : Int) ∧ nt ≤ 1000 ∧ ToksN nt gt) ∧ (∀ (x e : Int), Q (AV.tup [AV.int IntKind.i64 x, AV.int IntKind.i64 e]) []) ∧ Q (AV.tup [AV.int IntKind.i64 0, AV.int IntKind.i64 0]) [])) := by kernel_rfl
theorem f148 : FOK cw5 lw3 148 (specII ok148) := specII_ok lay8 fun xs h => by
  unfold ok148 at h
  split at h
  · rename_i ga nt gt nx gx nr gr nn gn nh gh ns gs
    obtain ⟨p0, p1⟩ := h
    rw [e148]
    (repeat' (first | with_reducible refine brd (fun _ => ?_) (fun _ => ?_) | with_reducible refine holds_if ?_ ?_ | with_reducible refine holds_ifn ?_ ?_ | with_reducible refine holds_some ?_ | with_reducible refine br (fun _ => ?_) (fun _ => ?_) | with_reducible refine And.intro ?_ ?_ | with_reducible refine fun _ => ?_))
    all_goals first
      | omega
      | rfl
      | assumption
      | exact trivial
      | exact ⟨_, _, rfl, rfl⟩
  · exact h.elim
def ok149 : List AV → Prop := fun xs => match xs with
  | [.agg [.psl 71 3 ga, .psl 29 nt gt, .psl 105 nx gx, .psl 109 nr gr, .psl 117 nn gn, .psl 3 nh gh, .psl 9 ns gs]] => nx ≤ 1000 ∧ RegsN nx gx
  | _ => False
theorem e149 (nt nx nr nn nh ns : Nat) (ga gt gx gr gn gh gs : Nat → Nat → PV) (Q : AV → Mem → Prop) : runW ctx cw5 lw3 149 [.agg [.psl 71 3 ga, .psl 29 nt gt, .psl 105 nx gx, .psl 109 nr gr, .psl 117 nn gn, .psl 3 nh gh, .psl 9 ns gs]] [] Q = (brW (decide ((nx : Int) > (64 : Int))) (Q (AV.tup [AV.int IntKind.i64 0, AV.int IntKind.i64 2]) []) (brW ((nx : Int) == (0 : Int)) (brW ((nt : Int) == (0 : Int)) (((nx : Int) = (nx : Int) ∧ nx = nx ∧ gx = gx ∧ (0 : Int) ≤ (0 : Int) ∧ (0 : Int) ≤ (nx : Int) ∧ nx ≤ 1000 ∧ RegsN nx gx) ∧ (∀ (x e : Int), Q (AV.tup [AV.int IntKind.i64 x, AV.int IntKind.i64 e]) []) ∧ Q (AV.tup [AV.int IntKind.i64 0, AV.int IntKind.i64 0]) []) (Q (AV.tup [AV.int IntKind.i64 0, AV.int IntKind.i64 15]) [])) (brW ((nt : Int) == (0 : Int)) (Q (AV.tup [AV.int IntKind.i64 0, AV.int IntKind.i64 15]) []) (((nx : Int) = (nx : Int) ∧ nx = nx ∧ gx = gx ∧ (0 : Int) ≤ (0 : Int) ∧ (0 : Int) ≤ (nx : Int) ∧ nx ≤ 1000 ∧ RegsN nx gx) ∧ (∀ (x e : Int), Q (AV.tup [AV.int IntKind.i64 x, AV.int IntKind.i64 e]) []) ∧ Q (AV.tup [AV.int IntKind.i64 0, AV.int IntKind.i64 0]) [])))) := by kernel_rfl
theorem f149 : FOK cw5 lw3 149 (specII ok149) := specII_ok lay8 fun xs h => by
  unfold ok149 at h
  split at h
  · rename_i ga nt gt nx gx nr gr nn gn nh gh ns gs
    obtain ⟨p0, p1⟩ := h
    rw [e149]
    (repeat' (first | with_reducible refine brd (fun _ => ?_) (fun _ => ?_) | with_reducible refine holds_if ?_ ?_ | with_reducible refine holds_ifn ?_ ?_ | with_reducible refine holds_some ?_ | with_reducible refine br (fun _ => ?_) (fun _ => ?_) | with_reducible refine And.intro ?_ ?_ | with_reducible refine fun _ => ?_))
    all_goals first
      | omega
      | rfl
      | assumption
      | exact trivial
      | exact ⟨_, _, rfl, rfl⟩
  · exact h.elim
def ok150 : List AV → Prop := fun xs => match xs with
  | [.agg [.psl 71 3 ga, .psl 29 nt gt, .psl 105 nx gx, .psl 109 nr gr, .psl 117 nn gn, .psl 3 nh gh, .psl 9 ns gs]] => nr ≤ 1000 ∧ nx ≤ 1000 ∧ RegsN nr gr
  | _ => False
theorem e150 (nt nx nr nn nh ns : Nat) (ga gt gx gr gn gh gs : Nat → Nat → PV) (Q : AV → Mem → Prop) : runW ctx cw5 lw3 150 [.agg [.psl 71 3 ga, .psl 29 nt gt, .psl 105 nx gx, .psl 109 nr gr, .psl 117 nn gn, .psl 3 nh gh, .psl 9 ns gs]] [] Q = (brW (decide ((nr : Int) > (1024 : Int))) (Q (AV.tup [AV.int IntKind.i64 0, AV.int IntKind.i64 2]) []) (((nr : Int) = (nr : Int) ∧ nr = nr ∧ gr = gr ∧ (0 : Int) ≤ (0 : Int) ∧ (0 : Int) ≤ (nr : Int) ∧ nr ≤ 1000 ∧ nx ≤ 1000 ∧ RegsN nr gr) ∧ (∀ (x e : Int), Q (AV.tup [AV.int IntKind.i64 x, AV.int IntKind.i64 e]) []) ∧ Q (AV.tup [AV.int IntKind.i64 0, AV.int IntKind.i64 0]) [])) := by kernel_rfl
theorem f150 : FOK cw5 lw3 150 (specII ok150) := specII_ok lay8 fun xs h => by
  unfold ok150 at h
  split at h
  · rename_i ga nt gt nx gx nr gr nn gn nh gh ns gs
    obtain ⟨p0, p1, p2⟩ := h
    rw [e150]
    (repeat' (first | with_reducible refine brd (fun _ => ?_) (fun _ => ?_) | with_reducible refine holds_if ?_ ?_ | with_reducible refine holds_ifn ?_ ?_ | with_reducible refine holds_some ?_ | with_reducible refine br (fun _ => ?_) (fun _ => ?_) | with_reducible refine And.intro ?_ ?_ | with_reducible refine fun _ => ?_))
    all_goals first
      | omega
      | rfl
      | assumption
      | exact trivial
      | exact ⟨_, _, rfl, rfl⟩
  · exact h.elim
def ok151 : List AV → Prop := fun xs => match xs with
  | [.psl 117 n gn, .agg [.psl 71 3 ga, .psl 29 nt gt, .psl 105 nx gx, .psl 109 nr gr, .psl 117 nn gn_, .psl 3 nh gh, .psl 9 ns gs]] => n ≤ 1000 ∧ nx ≤ 1000 ∧ NodesN n gn
  | _ => False
theorem e151 (nt nx nr nn nh ns : Nat) (ga gt gx gr gn_ gh gs : Nat → Nat → PV) (n : Nat) (gn : Nat → Nat → PV) (Q : AV → Mem → Prop) : runW ctx cw5 lw3 151 [.psl 117 n gn, .agg [.psl 71 3 ga, .psl 29 nt gt, .psl 105 nx gx, .psl 109 nr gr, .psl 117 nn gn_, .psl 3 nh gh, .psl 9 ns gs]] [] Q = (brW (decide ((n : Int) > (2048 : Int))) (Q (AV.tup [AV.int IntKind.i64 0, AV.int IntKind.i64 2]) []) (holds (if (0 : Int) ≤ (n : Int) then if (n : Int) = (n : Int) then if (n : Int) ≤ (140737488355328 : Int) then if (n : Int) * (8 : Int) ≤ (140737488355328 : Int) then some (((n : Int) = (n : Int) ∧ n = n ∧ gn = gn ∧ n = n ∧ (0 : Int) ≤ (0 : Int) ∧ (0 : Int) ≤ (n : Int) ∧ n ≤ 1000 ∧ nx ≤ 1000 ∧ NodesN n gn) ∧ (∀ (x e : Int), Q (AV.tup [AV.int IntKind.i64 x, AV.int IntKind.i64 e]) []) ∧ Q (AV.tup [AV.int IntKind.i64 0, AV.int IntKind.i64 0]) []) else none else none else none else none))) := by kernel_rfl
theorem f151 : FOK cw5 lw3 151 (specII ok151) := specII_ok lay8 fun xs h => by
  unfold ok151 at h
  split at h
  · rename_i n gn ga nt gt nx gx nr gr nn gn_ nh gh ns gs
    obtain ⟨p0, p1, p2⟩ := h
    rw [e151]
    (repeat' (first | with_reducible refine brd (fun _ => ?_) (fun _ => ?_) | with_reducible refine holds_if ?_ ?_ | with_reducible refine holds_ifn ?_ ?_ | with_reducible refine holds_some ?_ | with_reducible refine br (fun _ => ?_) (fun _ => ?_) | with_reducible refine And.intro ?_ ?_ | with_reducible refine fun _ => ?_))
    all_goals first
      | omega
      | rfl
      | assumption
      | exact trivial
      | exact ⟨_, _, rfl, rfl⟩
  · exact h.elim
def ok152 : List AV → Prop := fun xs => match xs with
  | [.agg [.psl 71 3 ga, .psl 29 nt gt, .psl 105 nx gx, .psl 109 nr gr, .psl 117 nn gn, .psl 3 nh gh, .psl 9 ns gs]] => nh ≤ 1000 ∧ nx ≤ 1000 ∧ StrsN ns gs
  | _ => False
theorem e152 (nt nx nr nn nh ns : Nat) (ga gt gx gr gn gh gs : Nat → Nat → PV) (Q : AV → Mem → Prop) : runW ctx cw5 lw3 152 [.agg [.psl 71 3 ga, .psl 29 nt gt, .psl 105 nx gx, .psl 109 nr gr, .psl 117 nn gn, .psl 3 nh gh, .psl 9 ns gs]] [] Q = (brW (!(nh : Int) == (ns : Int)) (Q (AV.tup [AV.int IntKind.i64 0, AV.int IntKind.i64 15]) []) (brW (!(nh : Int) == (0 : Int)) (brW (!(nh : Int) == (nt : Int)) (Q (AV.tup [AV.int IntKind.i64 0, AV.int IntKind.i64 15]) []) (brW (decide ((nh : Int) > (0 : Int))) ((nh ≤ 1000 ∧ ns = nh) ∧ ∀ (x : Bool), brW x (Q (AV.tup [AV.int IntKind.i64 0, AV.int IntKind.i64 14]) []) (((nh : Int) = (nh : Int) ∧ nh = nh ∧ gh = gh ∧ (0 : Int) ≤ (0 : Int) ∧ (0 : Int) ≤ (nh : Int) ∧ nh ≤ 1000 ∧ nx ≤ 1000 ∧ ns = nh ∧ StrsN ns gs) ∧ (∀ (x_1 e : Int), Q (AV.tup [AV.int IntKind.i64 x_1, AV.int IntKind.i64 e]) []) ∧ Q (AV.tup [AV.int IntKind.i64 0, AV.int IntKind.i64 0]) [])) (((nh : Int) = (nh : Int) ∧ nh = nh ∧ gh = gh ∧ (0 : Int) ≤ (0 : Int) ∧ (0 : Int) ≤ (nh : Int) ∧ nh ≤ 1000 ∧ nx ≤ 1000 ∧ ns = nh ∧ StrsN ns gs) ∧ (∀ (x e : Int), Q (AV.tup [AV.int IntKind.i64 x, AV.int IntKind.i64 e]) []) ∧ Q (AV.tup [AV.int IntKind.i64 0, AV.int IntKind.i64 0]) []))) (brW (decide ((nh : Int) > (0 : Int))) ((nh ≤ 1000 ∧ ns = nh) ∧ ∀ (x : Bool), brW x (Q (AV.tup [AV.int IntKind.i64 0, AV.int IntKind.i64 14]) []) (((nh : Int) = (nh : Int) ∧ nh = nh ∧ gh = gh ∧ (0 : Int) ≤ (0 : Int) ∧ (0 : Int) ≤ (nh : Int) ∧ nh ≤ 1000 ∧ nx ≤ 1000 ∧ ns = nh ∧ StrsN ns gs) ∧ (∀ (x_1 e : Int), Q (AV.tup [AV.int IntKind.i64 x_1, AV.int IntKind.i64 e]) []) ∧ Q (AV.tup [AV.int IntKind.i64 0, AV.int IntKind.i64 0]) [])) (((nh : Int) = (nh : Int) ∧ nh = nh ∧ gh = gh ∧ (0 : Int) ≤ (0 : Int) ∧ (0 : Int) ≤ (nh : Int) ∧ nh ≤ 1000 ∧ nx ≤ 1000 ∧ ns = nh ∧ StrsN ns gs) ∧ (∀ (x e : Int), Q (AV.tup [AV.int IntKind.i64 x, AV.int IntKind.i64 e]) []) ∧ Q (AV.tup [AV.int IntKind.i64 0, AV.int IntKind.i64 0]) [])))) := by kernel_rfl
theorem f152 : FOK cw5 lw3 152 (specII ok152) := specII_ok lay8 fun xs h => by
  unfold ok152 at h
  split at h
  · rename_i ga nt gt nx gx nr gr nn gn nh gh ns gs
    obtain ⟨p0, p1, p2⟩ := h
    rw [e152]
    (repeat' (first | with_reducible refine brd (fun _ => ?_) (fun _ => ?_) | with_reducible refine holds_if ?_ ?_ | with_reducible refine holds_ifn ?_ ?_ | with_reducible refine holds_some ?_ | with_reducible refine br (fun _ => ?_) (fun _ => ?_) | with_reducible refine And.intro ?_ ?_ | with_reducible refine fun _ => ?_))
    all_goals first
      | omega
      | rfl
      | assumption
      | exact trivial
      | exact ⟨_, _, rfl, rfl⟩
      | (simp at *; omega)
  · exact h.elim
def cw6_ : FuncId → Option AI.Spec := fun f => match f with
  | 148 => some (specII ok148)
  | 149 => some (specII ok149)
  | 150 => some (specII ok150)
  | 151 => some (specII ok151)
  | 152 => some (specII ok152)
  | _ => none
def cw6 : CallW := addF cw6_ cw5
theorem lay9 : Lay Tryz.prog ctx cw6 lw3 := layF lay8 fun f S h => by
  unfold cw6_ at h
  split at h <;> cases h
  · exact f148
  · exact f149
  · exact f150
  · exact f151
  · exact f152
def ok119 : List AV → Prop := fun xs => match xs with
  | [.agg [.psl 71 3 ga, .psl 29 nt gt, .psl 105 nx gx, .psl 109 nr gr, .psl 117 nn gn, .psl 3 nh gh, .psl 9 ns gs]] => ga = attrG ∧ CorOK 1000 nt nx nr nn nh ns gt gx gr gn gs
  | _ => False
theorem e119 (nt nx nr nn nh ns : Nat) (ga gt gx gr gn gh gs : Nat → Nat → PV) (Q : AV → Mem → Prop) : runW ctx cw6 lw3 119 [.agg [.psl 71 3 ga, .psl 29 nt gt, .psl 105 nx gx, .psl 109 nr gr, .psl 117 nn gn, .psl 3 nh gh, .psl 9 ns gs]] [] Q = (ga = attrG ∧ (nt ≤ 1000 ∧ ToksN nt gt) ∧ ∀ (x y : Int), brW (!y == (0 : Int)) (Q (AV.tup [AV.int IntKind.i64 2, AV.int IntKind.i64 x, AV.int IntKind.i64 y]) []) ((nx ≤ 1000 ∧ RegsN nx gx) ∧ ∀ (x_1 y_1 : Int), brW (!y_1 == (0 : Int)) (Q (AV.tup [AV.int IntKind.i64 3, AV.int IntKind.i64 x_1, AV.int IntKind.i64 y_1]) []) ((nr ≤ 1000 ∧ nx ≤ 1000 ∧ RegsN nr gr) ∧ ∀ (x_2 y_2 : Int), brW (!y_2 == (0 : Int)) (Q (AV.tup [AV.int IntKind.i64 4, AV.int IntKind.i64 x_2, AV.int IntKind.i64 y_2]) []) ((nn ≤ 1000 ∧ nx ≤ 1000 ∧ NodesN nn gn) ∧ ∀ (x_3 y_3 : Int), brW (!y_3 == (0 : Int)) (Q (AV.tup [AV.int IntKind.i64 5, AV.int IntKind.i64 x_3, AV.int IntKind.i64 y_3]) []) ((nh ≤ 1000 ∧ nx ≤ 1000 ∧ StrsN ns gs) ∧ ∀ (x_4 y_4 : Int), brW (!y_4 == (0 : Int)) (Q (AV.tup [AV.int IntKind.i64 6, AV.int IntKind.i64 x_4, AV.int IntKind.i64 y_4]) []) (Q (AV.tup [AV.int IntKind.i64 0, AV.int IntKind.i64 0, AV.int IntKind.i64 0]) [])))))) := by kernel_rfl
theorem f119 : FOK cw6 lw3 119 (specIII ok119) := specIII_ok lay9 fun xs h => by
  unfold ok119 at h
  split at h
  · rename_i ga nt gt nx gx nr gr nn gn nh gh ns gs
    obtain ⟨p0, p1⟩ := h
    rw [e119]
    (repeat' (first | with_reducible refine brd (fun _ => ?_) (fun _ => ?_) | with_reducible refine holds_if ?_ ?_ | with_reducible refine holds_ifn ?_ ?_ | with_reducible refine holds_some ?_ | with_reducible refine br (fun _ => ?_) (fun _ => ?_) | with_reducible refine And.intro ?_ ?_ | with_reducible refine fun _ => ?_))
    all_goals first
      | omega
      | rfl
      | assumption
      | exact trivial
      | exact ⟨_, _, _, rfl, rfl⟩
      | exact p1.bt
      | exact p1.bx
      | exact p1.br
      | exact p1.bn
      | exact p1.bh
      | exact p1.t
      | exact p1.x
      | exact p1.r
      | exact p1.n
      | exact p1.s
  · exact h.elim
def cw7_ : FuncId → Option AI.Spec := fun f => match f with
  | 119 => some (specIII ok119)
  | _ => none
def cw7 : CallW := addF cw7_ cw6
theorem lay10 : Lay Tryz.prog ctx cw7 lw3 := layF lay9 fun f S h => by
  unfold cw7_ at h
  split at h <;> cases h
  · exact f119
def ok78 : List AV → Prop := fun xs => match xs with
  | [.agg [.psl 71 3 ga, .psl 29 nt gt, .psl 105 nx gx, .psl 109 nr gr, .psl 117 nn gn, .psl 3 nh gh, .psl 9 ns gs]] => ga = attrG ∧ CorOK 1000 nt nx nr nn nh ns gt gx gr gn gs
  | _ => False
theorem e78 (nt nx nr nn nh ns : Nat) (ga gt gx gr gn gh gs : Nat → Nat → PV) (Q : AV → Mem → Prop) : runW ctx cw7 lw3 78 [.agg [.psl 71 3 ga, .psl 29 nt gt, .psl 105 nx gx, .psl 109 nr gr, .psl 117 nn gn, .psl 3 nh gh, .psl 9 ns gs]] [] Q = ((ga = attrG ∧ CorOK 1000 nt nx nr nn nh ns gt gx gr gn gs) ∧ ∀ (x y z : Int), brW (z == (0 : Int)) (Q (AV.bool true) []) (Q (AV.bool false) [])) := by kernel_rfl
theorem f78 : FOK cw7 lw3 78 (specB ok78) := specB_ok lay10 fun xs h => by
  unfold ok78 at h
  split at h
  · rename_i ga nt gt nx gx nr gr nn gn nh gh ns gs
    obtain ⟨p0, p1⟩ := h
    rw [e78]
    (repeat' (first | with_reducible refine brd (fun _ => ?_) (fun _ => ?_) | with_reducible refine holds_if ?_ ?_ | with_reducible refine holds_ifn ?_ ?_ | with_reducible refine holds_some ?_ | with_reducible refine br (fun _ => ?_) (fun _ => ?_) | with_reducible refine And.intro ?_ ?_ | with_reducible refine fun _ => ?_))
    all_goals first
      | omega
      | rfl
      | assumption
      | exact trivial
      | exact ⟨_, rfl, rfl⟩
  · exact h.elim
def cw8_ : FuncId → Option AI.Spec := fun f => match f with
  | 78 => some (specB ok78)
  | _ => none
def cw8 : CallW := addF cw8_ cw7
theorem lay11 : Lay Tryz.prog ctx cw8 lw3 := layF lay10 fun f S h => by
  unfold cw8_ at h
  split at h <;> cases h
  · exact f78
end Go.Proofs.YtkenjojkpdeooaaGreatDoor
end
section
set_option linter.unusedVariables false
set_option maxRecDepth 100000
set_option linter.unusedSimpArgs false
set_option linter.constructorNameAsVariable false
namespace Go.Proofs.YtkenjojkpdeooaaGreatDoor
open AI

theorem nil_sig : (⟨#[]⟩ : ByteArray) ∈ sig := by
  have : strL [] ∈ sig := by unfold sig words; simp
  exact this
def L81_5 : LSpec := fun base s K => match base, s with
  | 0, ⟨[(1, .adr 0 0 0), (4, .row 1), (19, .int .i64 nt'), (20, .int .i64 i)], [(0, .box [.psl 71 3 ga, .psl 29 nt gt, .psl 105 nx gx, .psl 109 nr gr, .psl 117 nn gn, .psl 3 nh gh, .psl 9 ns gs]), (1, .prow 3 nt_1 dg)], 2⟩ => (nt' = nt ∧ nt = nt_1 ∧ 0 ≤ i ∧ i ≤ nt ∧ nt ≤ 1000) ∧ (∀ g, K (.exit 0) ⟨[(1, .adr 0 0 0), (4, .row 1)], [(0, .box [.psl 71 3 ga, .psl 29 nt gt, .psl 105 nx gx, .psl 109 nr gr, .psl 117 nn gn, .psl 3 nh gh, .psl 9 ns gs]), (1, .prow 3 nt g)], 2⟩)
  | _, _ => False
theorem r81_5 (nt nx nr nn nh ns : Nat) (ga gt gx gr gn gh gs : Nat → Nat → PV) (dg : Nat → Nat → PV) (i : Int) (Kn : FS → Prop) (Ke : Ex → FS → Prop) : roundW cw8 lw3 81 0 ⟨[1,4], []⟩ (loopB 81 5) ⟨[(1, .adr 0 0 0), (4, .row 1), (19, .int .i64 nt), (20, .int .i64 i)], [(0, .box [.psl 71 3 ga, .psl 29 nt gt, .psl 105 nx gx, .psl 109 nr gr, .psl 117 nn gn, .psl 3 nh gh, .psl 9 ns gs]), (1, .prow 3 nt dg)], 2⟩ Kn Ke = (brW (decide (i < (nt : Int))) (holds (if (0 : Int) ≤ i then if i < (nt : Int) then some (Kn { tmps := [(1, AV.adr 0 0 0), (4, AV.row 1), (19, AV.int IntKind.i64 (nt : Int)), (20, AV.int IntKind.i64 (IntKind.i64.wrap (i + (1 : Int))))], mem := [(0, Ob.box [AV.psl 71 3 ga, AV.psl 29 nt gt, AV.psl 105 nx gx, AV.psl 109 nr gr, AV.psl 117 nn gn, AV.psl 3 nh gh, AV.psl 9 ns gs]), (1, Ob.prow 3 nt (setRow dg i.toNat 0 [PV.int (-1 : Int)]))], nx := 2 }) else none else none)) (Ke (Ex.exit 0) { tmps := [(1, AV.adr 0 0 0), (4, AV.row 1)], mem := [(0, Ob.box [AV.psl 71 3 ga, AV.psl 29 nt gt, AV.psl 105 nx gx, AV.psl 109 nr gr, AV.psl 117 nn gn, AV.psl 3 nh gh, AV.psl 9 ns gs]), (1, Ob.prow 3 nt dg)], nx := 2 })) := by kernel_rfl
theorem l81_5 : LOK cw8 lw3 81 5 ⟨[1,4], []⟩ L81_5 := by
  intro base s K h
  unfold L81_5 at h
  split at h
  · rename_i nt' i ga nt gt nx gx nr gr nn gn nh gh ns gs nt_1 dg
    obtain ⟨⟨rfl, rfl, a0, a1, p0⟩, k1⟩ := h
    refine ⟨((nt : Int) - i + 1).toNat, loop_rule (fun N s => ∃ (dg : Nat → Nat → PV) (i : Int), s = (⟨[(1, .adr 0 0 0), (4, .row 1), (19, .int .i64 nt), (20, .int .i64 i)], [(0, .box [.psl 71 3 ga, .psl 29 nt gt, .psl 105 nx gx, .psl 109 nr gr, .psl 117 nn gn, .psl 3 nh gh, .psl 9 ns gs]), (1, .prow 3 nt dg)], 2⟩ : FS) ∧ 0 ≤ i ∧ i ≤ nt ∧ (nt : Int) - i + 1 ≤ (N : Int)) ?_ ?_ _ _ ⟨dg, i, rfl, a0, a1, by omega⟩⟩
    · rintro s ⟨dg, i, _, i0, i1, iN⟩; omega
    · rintro N Kn hKn s ⟨dg, i, rfl, i0, i1, iN⟩
      rw [r81_5]
      try rw [wrap_succ i0 (by omega)]
      (repeat' (first | with_reducible refine brd (fun _ => ?_) (fun _ => ?_) | with_reducible refine holds_if ?_ ?_ | with_reducible refine holds_ifn ?_ ?_ | with_reducible refine holds_some ?_ | with_reducible refine br (fun _ => ?_) (fun _ => ?_) | with_reducible refine And.intro ?_ ?_ | with_reducible refine fun _ => ?_))
      all_goals first
        | omega
        | exact trivial
        | exact k1
        | exact k1 _
        | exact k1 _ _
        | exact k1 _ _ _
        | exact hKn _ ⟨_, i + 1, rfl, by omega, by omega, by omega⟩
  · exact h.elim
def L45_6 : LSpec := fun base s K => match base, s with
  | 0, ⟨[(2, .adr 0 0 0), (3, .adr 1 0 0), (4, .adr 2 0 0), (37, .psl 105 n7 g7), (38, .int .i64 n7'), (39, .int .i64 i)], [(0, .box [.psl 71 3 ga, .psl 29 nt gt, .psl 105 nx gx, .psl 109 nr gr, .psl 117 nn gn, .psl 3 nh gh, .psl 9 ns gs]), (1, .box [.psl 71 3 fa, .psl 29 mt ft, .psl 105 mx fx, .psl 109 mr fr, .psl 117 mn fn_, .psl 3 mh fh, .psl 9 ms fs]), (2, .box [.nils, .nils, .nils, .nils, .nils, .nils, .nils])], 3⟩ => (n7' = n7 ∧ 0 ≤ i ∧ i ≤ n7 ∧ n7 ≤ 1000 ∧ nx ≤ 1000) ∧ (K .ret ⟨[(2, .adr 0 0 0), (3, .adr 1 0 0), (4, .adr 2 0 0), (5, .int .i64 5)], [(0, .box [.psl 71 3 ga, .psl 29 nt gt, .psl 105 nx gx, .psl 109 nr gr, .psl 117 nn gn, .psl 3 nh gh, .psl 9 ns gs]), (1, .box [.psl 71 3 fa, .psl 29 mt ft, .psl 105 mx fx, .psl 109 mr fr, .psl 117 mn fn_, .psl 3 mh fh, .psl 9 ms fs]), (2, .box [.nils, .nils, .nils, .nils, .nils, .nils, .nils])], 3⟩) ∧ (K (.exit 0) ⟨[(2, .adr 0 0 0), (3, .adr 1 0 0), (4, .adr 2 0 0), (5, .undef)], [(0, .box [.psl 71 3 ga, .psl 29 nt gt, .psl 105 nx gx, .psl 109 nr gr, .psl 117 nn gn, .psl 3 nh gh, .psl 9 ns gs]), (1, .box [.psl 71 3 fa, .psl 29 mt ft, .psl 105 mx fx, .psl 109 mr fr, .psl 117 mn fn_, .psl 3 mh fh, .psl 9 ms fs]), (2, .box [.nils, .nils, .nils, .nils, .nils, .nils, .nils])], 3⟩)
  | _, _ => False
theorem r45_6 (nt nx nr nn nh ns : Nat) (ga gt gx gr gn gh gs : Nat → Nat → PV) (mt mx mr mn mh ms : Nat) (fa ft fx fr fn_ fh fs : Nat → Nat → PV) (n7 : Nat) (g7 : Nat → Nat → PV)  (i : Int) (Kn : FS → Prop) (Ke : Ex → FS → Prop) : roundW cw8 lw3 45 0 ⟨[2,3,4,5], []⟩ (loopB 45 6) ⟨[(2, .adr 0 0 0), (3, .adr 1 0 0), (4, .adr 2 0 0), (37, .psl 105 n7 g7), (38, .int .i64 n7), (39, .int .i64 i)], [(0, .box [.psl 71 3 ga, .psl 29 nt gt, .psl 105 nx gx, .psl 109 nr gr, .psl 117 nn gn, .psl 3 nh gh, .psl 9 ns gs]), (1, .box [.psl 71 3 fa, .psl 29 mt ft, .psl 105 mx fx, .psl 109 mr fr, .psl 117 mn fn_, .psl 3 mh fh, .psl 9 ms fs]), (2, .box [.nils, .nils, .nils, .nils, .nils, .nils, .nils])], 3⟩ Kn Ke = (brW (decide (i < (n7 : Int))) (holds (if (0 : Int) ≤ i then if i < (n7 : Int) then some (nx ≤ 1000 ∧ ∀ (x : Int), brW (decide (x ≥ (0 : Int))) (Ke Ex.ret { tmps := [(2, AV.adr 0 0 0), (3, AV.adr 1 0 0), (4, AV.adr 2 0 0), (5, AV.int IntKind.i64 5)], mem := [(0, Ob.box [AV.psl 71 3 ga, AV.psl 29 nt gt, AV.psl 105 nx gx, AV.psl 109 nr gr, AV.psl 117 nn gn, AV.psl 3 nh gh, AV.psl 9 ns gs]), (1, Ob.box [AV.psl 71 3 fa, AV.psl 29 mt ft, AV.psl 105 mx fx, AV.psl 109 mr fr, AV.psl 117 mn fn_, AV.psl 3 mh fh, AV.psl 9 ms fs]), (2, Ob.box [AV.nils, AV.nils, AV.nils, AV.nils, AV.nils, AV.nils, AV.nils])], nx := 3 }) (Kn { tmps := [(2, AV.adr 0 0 0), (3, AV.adr 1 0 0), (4, AV.adr 2 0 0), (37, AV.psl 105 n7 g7), (38, AV.int IntKind.i64 (n7 : Int)), (39, AV.int IntKind.i64 (IntKind.i64.wrap (i + (1 : Int))))], mem := [(0, Ob.box [AV.psl 71 3 ga, AV.psl 29 nt gt, AV.psl 105 nx gx, AV.psl 109 nr gr, AV.psl 117 nn gn, AV.psl 3 nh gh, AV.psl 9 ns gs]), (1, Ob.box [AV.psl 71 3 fa, AV.psl 29 mt ft, AV.psl 105 mx fx, AV.psl 109 mr fr, AV.psl 117 mn fn_, AV.psl 3 mh fh, AV.psl 9 ms fs]), (2, Ob.box [AV.nils, AV.nils, AV.nils, AV.nils, AV.nils, AV.nils, AV.nils])], nx := 3 })) else none else none)) (Ke (Ex.exit 0) { tmps := [(2, AV.adr 0 0 0), (3, AV.adr 1 0 0), (4, AV.adr 2 0 0), (5, AV.undef)], mem := [(0, Ob.box [AV.psl 71 3 ga, AV.psl 29 nt gt, AV.psl 105 nx gx, AV.psl 109 nr gr, AV.psl 117 nn gn, AV.psl 3 nh gh, AV.psl 9 ns gs]), (1, Ob.box [AV.psl 71 3 fa, AV.psl 29 mt ft, AV.psl 105 mx fx, AV.psl 109 mr fr, AV.psl 117 mn fn_, AV.psl 3 mh fh, AV.psl 9 ms fs]), (2, Ob.box [AV.nils, AV.nils, AV.nils, AV.nils, AV.nils, AV.nils, AV.nils])], nx := 3 })) := by kernel_rfl
theorem l45_6 : LOK cw8 lw3 45 6 ⟨[2,3,4,5], []⟩ L45_6 := by
  intro base s K h
  unfold L45_6 at h
  split at h
  · rename_i n7 g7 n7' i ga nt gt nx gx nr gr nn gn nh gh ns gs fa mt ft mx fx mr fr mn fn_ mh fh ms fs
    obtain ⟨⟨rfl, a0, a1, p0, p1⟩, k1 , k2⟩ := h
    refine ⟨((n7 : Int) - i + 1).toNat, loop_rule (fun N s => ∃ (i : Int), s = (⟨[(2, .adr 0 0 0), (3, .adr 1 0 0), (4, .adr 2 0 0), (37, .psl 105 n7 g7), (38, .int .i64 n7), (39, .int .i64 i)], [(0, .box [.psl 71 3 ga, .psl 29 nt gt, .psl 105 nx gx, .psl 109 nr gr, .psl 117 nn gn, .psl 3 nh gh, .psl 9 ns gs]), (1, .box [.psl 71 3 fa, .psl 29 mt ft, .psl 105 mx fx, .psl 109 mr fr, .psl 117 mn fn_, .psl 3 mh fh, .psl 9 ms fs]), (2, .box [.nils, .nils, .nils, .nils, .nils, .nils, .nils])], 3⟩ : FS) ∧ 0 ≤ i ∧ i ≤ n7 ∧ (n7 : Int) - i + 1 ≤ (N : Int)) ?_ ?_ _ _ ⟨i, rfl, a0, a1, by omega⟩⟩
    · rintro s ⟨i, _, i0, i1, iN⟩; omega
    · rintro N Kn hKn s ⟨i, rfl, i0, i1, iN⟩
      rw [r45_6]
      try rw [wrap_succ i0 (by omega)]
      (repeat' (first | with_reducible refine brd (fun _ => ?_) (fun _ => ?_) | with_reducible refine holds_if ?_ ?_ | with_reducible refine holds_ifn ?_ ?_ | with_reducible refine holds_some ?_ | with_reducible refine br (fun _ => ?_) (fun _ => ?_) | with_reducible refine And.intro ?_ ?_ | with_reducible refine fun _ => ?_))
      all_goals first
        | omega
        | exact trivial
        | exact k1
        | exact k2
        | exact k1 _
        | exact k1 _ _
        | exact k1 _ _ _
        | exact k2 _
        | exact k2 _ _
        | exact k2 _ _ _
        | exact hKn _ ⟨i + 1, rfl, by omega, by omega, by omega⟩
  · exact h.elim
def lw4_ : FuncId → Nat → Option (Hint × LSpec) := fun f rid => match f, rid with
  | 81, 5 => some (⟨[1,4], []⟩, L81_5)
  | 45, 6 => some (⟨[2,3,4,5], []⟩, L45_6)
  | _, _ => none
def lw4 : LoopW := addL lw4_ lw3
theorem lay12 : Lay Tryz.prog ctx cw8 lw4 := layL lay11 fun f rid p h => by
  unfold lw4_ at h
  split at h <;> cases h
  · exact ⟨by kernel_rfl, l81_5⟩
  · exact ⟨by kernel_rfl, l45_6⟩
/-- allHeads. -/
def spec81 : AI.Spec := fun xs m K => match xs, m with
  | [.agg [.psl 71 3 ga, .psl 29 nt gt, .psl 105 nx gx, .psl 109 nr gr, .psl 117 nn gn, .psl 3 nh gh, .psl 9 ns gs]], [] => (CorOK 1000 nt nx nr nn nh ns gt gx gr gn gs) ∧ ∀ (n k : Nat) (g h : Nat → Nat → PV), (n ≤ nh ∨ n ≤ nt) → (k ≤ ns ∨ k ≤ nt) → StrsN k h → K (.tup [.psl 3 n g, .psl 9 k h]) []
  | _, _ => False
theorem e81 (nt nx nr nn nh ns : Nat) (ga gt gx gr gn gh gs : Nat → Nat → PV) (Q : AV → Mem → Prop) : runW ctx cw8 lw4 81 [.agg [.psl 71 3 ga, .psl 29 nt gt, .psl 105 nx gx, .psl 109 nr gr, .psl 117 nn gn, .psl 3 nh gh, .psl 9 ns gs]] [] Q = (brW (decide ((nh : Int) > (0 : Int))) (Q (AV.tup [AV.psl 3 nh gh, AV.psl 9 ns gs]) []) (holds (if (0 : Int) ≤ (nt : Int) then if (nt : Int) = (nt : Int) then if (nt : Int) ≤ (140737488355328 : Int) then if (nt : Int) * (8 : Int) ≤ (140737488355328 : Int) then some (((nt : Int) = (nt : Int) ∧ nt = nt ∧ (0 : Int) ≤ (0 : Int) ∧ (0 : Int) ≤ (nt : Int) ∧ nt ≤ 1000) ∧ ∀ (g : Nat → Nat → PV), holds (if (0 : Int) ≤ (nt : Int) then if (nt : Int) = (nt : Int) then if (nt : Int) ≤ (140737488355328 : Int) then if (nt : Int) * (16 : Int) ≤ (140737488355328 : Int) then some (Q (AV.tup [AV.psl 3 nt g, AV.psl 9 nt fun x j => zeroPV ([CK.str].getD j CK.oth)]) []) else none else none else none else none)) else none else none else none else none))) := by kernel_rfl
theorem f81 : FOK cw8 lw4 81 spec81 := by
  intro xs m K0 h
  unfold spec81 at h
  split at h
  · rename_i ga nt gt nx gx nr gr nn gn nh gh ns gs
    have c := h.1
    have b := c.bt
    have hr : runW ctx cw8 lw4 81 [.agg [.psl 71 3 ga, .psl 29 nt gt, .psl 105 nx gx, .psl 109 nr gr, .psl 117 nn gn, .psl 3 nh gh, .psl 9 ns gs]] [] (fun r m => ∃ (n k : Nat) (g h : Nat → Nat → PV), (n ≤ nh ∨ n ≤ nt) ∧ (k ≤ ns ∨ k ≤ nt) ∧ StrsN k h ∧ r = .tup [.psl 3 n g, .psl 9 k h] ∧ m = []) := by
      rw [e81]
      (repeat' (first | with_reducible refine brd (fun _ => ?_) (fun _ => ?_) | with_reducible refine holds_if ?_ ?_ | with_reducible refine holds_ifn ?_ ?_ | with_reducible refine holds_some ?_ | with_reducible refine br (fun _ => ?_) (fun _ => ?_) | with_reducible refine And.intro ?_ ?_ | with_reducible refine fun _ => ?_))
      all_goals first
        | omega
        | rfl
        | exact ⟨nh, ns, gh, gs, .inl (Nat.le_refl _), .inl (Nat.le_refl _), c.s, rfl, rfl⟩
        | (refine ⟨nt, nt, _, _, .inr (Nat.le_refl _), .inr (Nat.le_refl _), ?_, rfl, rfl⟩; exact fun j hj => nil_sig)
    obtain ⟨r, m', h1, n, k, g, h2, h3, h4, h5, rfl, rfl⟩ := lay12.run hr
    exact ⟨_, _, h1, fun K hK => hK.2 n k g h2 h3 h4 h5⟩
  · exact h.elim
def cw9_ : FuncId → Option AI.Spec := fun f => match f with
  | 81 => some (spec81)
  | _ => none
def cw9 : CallW := addF cw9_ cw8
theorem lay13 : Lay Tryz.prog ctx cw9 lw4 := layF lay12 fun f S h => by
  unfold cw9_ at h
  split at h <;> cases h
  · exact f81
end Go.Proofs.YtkenjojkpdeooaaGreatDoor
end
section
set_option linter.unusedVariables false
set_option maxRecDepth 100000
set_option maxHeartbeats 2000000
set_option linter.unusedSimpArgs false
set_option linter.constructorNameAsVariable false
namespace Go.Proofs.YtkenjojkpdeooaaGreatDoor
open AI

theorem cat_row (n : Nat) (g h : Nat → Nat → PV) (j : Nat) : cat n g h j = if j < n then g j else h (j - n) := by
  funext k
  unfold cat
  by_cases hj : j < n
  · rw [if_pos hj, if_pos hj]
  · rw [if_neg hj, if_neg hj]
theorem all_cat {P : (Nat → PV) → Prop} {a b : Nat} {g h : Nat → Nat → PV} (h1 : ∀ j, j < a → P (g j)) (h2 : ∀ j, j < b → P (h j)) : ∀ j, j < a + b → P (cat a g h j) := by
  intro j hj
  rw [cat_row]
  by_cases hl : j < a
  · rw [if_pos hl]; exact h1 j hl
  · rw [if_neg hl]; exact h2 _ (by omega)
theorem regs_cat {a b : Nat} {g h : Nat → Nat → PV} (h1 : RegsN a g) (h2 : RegsN b h) : RegsN (a + b) (cat a g h) :=
  all_cat (P := fun r => (r 0).s ∈ sig ∧ (r 3).n ≤ 1000 ∧ PairsN (r 3).n (r 3).get) h1 h2
theorem strs_cat {a b : Nat} {g h : Nat → Nat → PV} (h1 : StrsN a g) (h2 : StrsN b h) : StrsN (a + b) (cat a g h) := all_cat (P := fun r => (r 0).s ∈ sig) h1 h2
theorem toks_cat {a b : Nat} {g h : Nat → Nat → PV} (h1 : ToksN a g) (h2 : ToksN b h) : ToksN (a + b) (cat a g h) := all_cat (P := fun r => RowOK (r 0)) h1 h2
theorem regs_nil {g : Nat → Nat → PV} : RegsN 0 g := fun j hj => absurd hj (Nat.not_lt_zero j)
theorem strs_nil {g : Nat → Nat → PV} : StrsN 0 g := fun j hj => absurd hj (Nat.not_lt_zero j)
theorem toks_nil {g : Nat → Nat → PV} : ToksN 0 g := fun j hj => absurd hj (Nat.not_lt_zero j)
theorem nodes_nil {g : Nat → Nat → PV} : NodesN 0 g := fun j hj => absurd hj (Nat.not_lt_zero j)
theorem setRow_ne (g : Nat → Nat → PV) (i off : Nat) (p : PV) (j k : Nat) (h : k ≠ off) : setRow g i off [p] j k = g j k := by
  unfold setRow
  by_cases hj : j = i
  · rw [if_pos hj]
    have : (Nat.ble off k && Nat.blt k (off + [p].length)) = false := by
      cases h1 : Nat.ble off k
      · rfl
      · have h1 := Nat.le_of_ble_eq_true h1
        have : Nat.blt k (off + 1) = false := by
          cases h2 : Nat.blt k (off + 1)
          · rfl
          · have := Nat.le_of_ble_eq_true h2; omega
        simp only [List.length_singleton, this, Bool.and_false]
    rw [this]; rfl
  · rw [if_neg hj]
theorem setRow_eq (g : Nat → Nat → PV) (i off : Nat) (p : PV) (j : Nat) : setRow g i off [p] j off = if j = i then p else g j off := by
  unfold setRow
  by_cases hj : j = i
  · rw [if_pos hj, if_pos hj]
    have : (Nat.ble off off && Nat.blt off (off + [p].length)) = true := by
      simp only [List.length_singleton, Bool.and_eq_true]
      exact ⟨Nat.ble_eq_true_of_le (Nat.le_refl _), Nat.ble_eq_true_of_le (Nat.le_refl _)⟩
    rw [this, Nat.sub_self]; rfl
  · rw [if_neg hj, if_neg hj]
theorem regs_set {n : Nat} {g : Nat → Nat → PV} {i off : Nat} {p : PV} (h : RegsN n g) (h0 : off ≠ 0) (h3 : off ≠ 3) : RegsN n (setRow g i off [p]) := by
  intro j hj
  rw [setRow_ne g i off p j 0 (Ne.symm h0), setRow_ne g i off p j 3 (Ne.symm h3)]
  exact h j hj
/-- Nodes in the middle of being moved: those from i on are as they were. -/
def NodesM (n m : Nat) (i : Int) (g : Nat → Nat → PV) : Prop := ∀ j : Nat, j < n → (g j 0).s ∈ sig ∧ -1 ≤ (g j 3).i ∧ (g j 3).i < j ∧ (i ≤ j → (g j 3).i < j - m)
theorem nodesM_cat {a b : Nat} {g h : Nat → Nat → PV} (h1 : NodesN a g) (h2 : NodesN b h) : NodesM (a + b) a a (cat a g h) := by
  intro j hj
  rw [cat_row]
  by_cases hl : j < a
  · rw [if_pos hl]
    exact ⟨(h1 j hl).1, (h1 j hl).2.1, (h1 j hl).2.2, fun hh => by omega⟩
  · rw [if_neg hl]
    have := h2 (j - a) (by omega)
    exact ⟨this.1, this.2.1, by omega, fun hh => by omega⟩
theorem nodesM_end {n m : Nat} {i : Int} {g : Nat → Nat → PV} (h : NodesM n m i g) : NodesN n g := fun j hj => ⟨(h j hj).1, (h j hj).2.1, (h j hj).2.2.1⟩
theorem nodesM_set {n m : Nat} {i : Int} {g : Nat → Nat → PV} {k off : Nat} {p : PV} (h : NodesM n m i g) (h0 : off ≠ 0) (h3 : off ≠ 3) : NodesM n m i (setRow g k off [p]) := by
  intro j hj
  rw [setRow_ne g k off p j 0 (Ne.symm h0), setRow_ne g k off p j 3 (Ne.symm h3)]
  exact h j hj
theorem nodesM_step {n m : Nat} {i : Int} {g : Nat → Nat → PV} (h : NodesM n m i g) (h0 : 0 ≤ i) : NodesM n m (i + 1) g := fun j hj => ⟨(h j hj).1, (h j hj).2.1, (h j hj).2.2.1, fun hh => (h j hj).2.2.2 (by omega)⟩
theorem nodesM_move {n m : Nat} {i : Int} {g : Nat → Nat → PV} {x : Int} (h : NodesM n m i g) (h0 : 0 ≤ i) (h1 : i < n) (hx : x = (g i.toNat 3).i + m) (hp : 0 ≤ (g i.toNat 3).i) : NodesM n m (i + 1) (setRow g i.toNat 3 [.int x]) := by
  intro j hj
  rw [setRow_ne g i.toNat 3 (.int x) j 0 (by decide), setRow_eq]
  by_cases e : j = i.toNat
  · rw [if_pos e]
    subst e
    have q := h i.toNat hj
    have q4 := q.2.2.2 (by omega)
    refine ⟨q.1, ?_, ?_, fun hh => by omega⟩
    · show -1 ≤ x; omega
    · show x < _; omega
  · rw [if_neg e]
    exact ⟨(h j hj).1, (h j hj).2.1, (h j hj).2.2.1, fun hh => (h j hj).2.2.2 (by omega)⟩
noncomputable def L45_18 : LSpec := fun base s K => match base, s with
  | 0, ⟨[(2, .adr 0 0 0), (3, .adr 1 0 0), (4, .adr 2 0 0), (8, .int .i64 x8), (9, .int .i64 x9), (10, .adr 3 0 0), (11, .int .i64 i)], [(0, .box [.psl 71 3 ga, .psl 29 nt gt, .psl 105 nx gx, .psl 109 nr gr, .psl 117 nn gn, .psl 3 nh gh, .psl 9 ns gs]), (1, .box [.psl 71 3 fa, .psl 29 mt ft, .psl 105 mx fx, .psl 109 mr fr, .psl 117 mn fn_, .psl 3 mh fh, .psl 9 ms fs]), (2, .box [.nils, .nils, .nils, .nils, .nils, .nils, .nils]), (3, .box [.row 4, .row 5, .row 6, .nils, .nils, .nils, .nils]), (4, .prow 71 n4 g4), (5, .prow 29 n5 g5), (6, .prow 105 n6 g6)], 7⟩ => (0 ≤ i ∧ i ≤ n6 ∧ n6 ≤ 1000 ∧ RegsN n6 g6) ∧ (∀ g, RegsN n6 g → K (.exit 2) ⟨[(2, .adr 0 0 0), (3, .adr 1 0 0), (4, .adr 2 0 0), (8, .int .i64 x8), (9, .int .i64 x9), (10, .adr 3 0 0)], [(0, .box [.psl 71 3 ga, .psl 29 nt gt, .psl 105 nx gx, .psl 109 nr gr, .psl 117 nn gn, .psl 3 nh gh, .psl 9 ns gs]), (1, .box [.psl 71 3 fa, .psl 29 mt ft, .psl 105 mx fx, .psl 109 mr fr, .psl 117 mn fn_, .psl 3 mh fh, .psl 9 ms fs]), (2, .box [.nils, .nils, .nils, .nils, .nils, .nils, .nils]), (3, .box [.row 4, .row 5, .row 6, .nils, .nils, .nils, .nils]), (4, .prow 71 n4 g4), (5, .prow 29 n5 g5), (6, .prow 105 n6 g)], 7⟩)
  | _, _ => False
theorem r45_18 (nt nx nr nn nh ns : Nat) (ga gt gx gr gn gh gs : Nat → Nat → PV) (mt mx mr mn mh ms : Nat) (fa ft fx fr fn_ fh fs : Nat → Nat → PV) (x8 x9 : Int) (n4 n5 n6 : Nat) (g4 g5 : Nat → Nat → PV) (g6 : Nat → Nat → PV) (i : Int) (Kn : FS → Prop) (Ke : Ex → FS → Prop) : roundW cw9 lw4 45 0 ⟨[2,3,4,8,9,10], []⟩ (loopB 45 18) ⟨[(2, .adr 0 0 0), (3, .adr 1 0 0), (4, .adr 2 0 0), (8, .int .i64 x8), (9, .int .i64 x9), (10, .adr 3 0 0), (11, .int .i64 i)], [(0, .box [.psl 71 3 ga, .psl 29 nt gt, .psl 105 nx gx, .psl 109 nr gr, .psl 117 nn gn, .psl 3 nh gh, .psl 9 ns gs]), (1, .box [.psl 71 3 fa, .psl 29 mt ft, .psl 105 mx fx, .psl 109 mr fr, .psl 117 mn fn_, .psl 3 mh fh, .psl 9 ms fs]), (2, .box [.nils, .nils, .nils, .nils, .nils, .nils, .nils]), (3, .box [.row 4, .row 5, .row 6, .nils, .nils, .nils, .nils]), (4, .prow 71 n4 g4), (5, .prow 29 n5 g5), (6, .prow 105 n6 g6)], 7⟩ Kn Ke = (brW (decide (i < (n6 : Int))) (holds (if (0 : Int) ≤ i then if i < (n6 : Int) then some (holds (if (0 : Int) ≤ i then if i < (n6 : Int) then some (holds (if (0 : Int) ≤ i then if i < (n6 : Int) then some (holds (if (0 : Int) ≤ i then if i < (n6 : Int) then some (Kn { tmps := [(2, AV.adr 0 0 0), (3, AV.adr 1 0 0), (4, AV.adr 2 0 0), (8, AV.int IntKind.i64 x8), (9, AV.int IntKind.i64 x9), (10, AV.adr 3 0 0), (11, AV.int IntKind.i64 (IntKind.i64.wrap (i + (1 : Int))))], mem := [(0, Ob.box [AV.psl 71 3 ga, AV.psl 29 nt gt, AV.psl 105 nx gx, AV.psl 109 nr gr, AV.psl 117 nn gn, AV.psl 3 nh gh, AV.psl 9 ns gs]), (1, Ob.box [AV.psl 71 3 fa, AV.psl 29 mt ft, AV.psl 105 mx fx, AV.psl 109 mr fr, AV.psl 117 mn fn_, AV.psl 3 mh fh, AV.psl 9 ms fs]), (2, Ob.box [AV.nils, AV.nils, AV.nils, AV.nils, AV.nils, AV.nils, AV.nils]), (3, Ob.box [AV.row 4, AV.row 5, AV.row 6, AV.nils, AV.nils, AV.nils, AV.nils]), (4, Ob.prow 71 n4 g4), (5, Ob.prow 29 n5 g5), (6, Ob.prow 105 n6 (setRow (setRow g6 i.toNat 1 [PV.int (IntKind.i64.wrap ((g6 i.toNat 1).i + x8))]) i.toNat 2 [PV.int (IntKind.i64.wrap ((setRow g6 i.toNat 1 [PV.int (IntKind.i64.wrap ((g6 i.toNat 1).i + x8))] i.toNat 2).i + x8))]))], nx := 7 }) else none else none)) else none else none)) else none else none)) else none else none)) (Ke (Ex.exit 2) { tmps := [(2, AV.adr 0 0 0), (3, AV.adr 1 0 0), (4, AV.adr 2 0 0), (8, AV.int IntKind.i64 x8), (9, AV.int IntKind.i64 x9), (10, AV.adr 3 0 0)], mem := [(0, Ob.box [AV.psl 71 3 ga, AV.psl 29 nt gt, AV.psl 105 nx gx, AV.psl 109 nr gr, AV.psl 117 nn gn, AV.psl 3 nh gh, AV.psl 9 ns gs]), (1, Ob.box [AV.psl 71 3 fa, AV.psl 29 mt ft, AV.psl 105 mx fx, AV.psl 109 mr fr, AV.psl 117 mn fn_, AV.psl 3 mh fh, AV.psl 9 ms fs]), (2, Ob.box [AV.nils, AV.nils, AV.nils, AV.nils, AV.nils, AV.nils, AV.nils]), (3, Ob.box [AV.row 4, AV.row 5, AV.row 6, AV.nils, AV.nils, AV.nils, AV.nils]), (4, Ob.prow 71 n4 g4), (5, Ob.prow 29 n5 g5), (6, Ob.prow 105 n6 g6)], nx := 7 })) := by kernel_rfl
theorem l45_18 : LOK cw9 lw4 45 18 ⟨[2,3,4,8,9,10], []⟩ L45_18 := by
  intro base s K h
  unfold L45_18 at h
  split at h
  · rename_i x8 x9 i ga nt gt nx gx nr gr nn gn nh gh ns gs fa mt ft mx fx mr fr mn fn_ mh fh ms fs n4 g4 n5 g5 n6 g6
    obtain ⟨⟨a0, a1, p0, v0⟩, k1⟩ := h
    refine ⟨((n6 : Int) - i + 1).toNat, loop_rule (fun N s => ∃ (g6 : Nat → Nat → PV) (i : Int), s = (⟨[(2, .adr 0 0 0), (3, .adr 1 0 0), (4, .adr 2 0 0), (8, .int .i64 x8), (9, .int .i64 x9), (10, .adr 3 0 0), (11, .int .i64 i)], [(0, .box [.psl 71 3 ga, .psl 29 nt gt, .psl 105 nx gx, .psl 109 nr gr, .psl 117 nn gn, .psl 3 nh gh, .psl 9 ns gs]), (1, .box [.psl 71 3 fa, .psl 29 mt ft, .psl 105 mx fx, .psl 109 mr fr, .psl 117 mn fn_, .psl 3 mh fh, .psl 9 ms fs]), (2, .box [.nils, .nils, .nils, .nils, .nils, .nils, .nils]), (3, .box [.row 4, .row 5, .row 6, .nils, .nils, .nils, .nils]), (4, .prow 71 n4 g4), (5, .prow 29 n5 g5), (6, .prow 105 n6 g6)], 7⟩ : FS) ∧ 0 ≤ i ∧ i ≤ n6 ∧ RegsN n6 g6 ∧ (n6 : Int) - i + 1 ≤ (N : Int)) ?_ ?_ _ _ ⟨g6, i, rfl, a0, a1, v0, by omega⟩⟩
    · rintro s ⟨g6, i, _, i0, i1, i2, iN⟩; omega
    · rintro N Kn hKn s ⟨g6, i, rfl, i0, i1, i2, iN⟩
      rw [r45_18]
      try rw [wrap_succ i0 (by omega)]
      (repeat' (first | with_reducible refine brd (fun _ => ?_) (fun _ => ?_) | with_reducible refine holds_if ?_ ?_ | with_reducible refine holds_ifn ?_ ?_ | with_reducible refine holds_some ?_ | with_reducible refine br (fun _ => ?_) (fun _ => ?_) | with_reducible refine And.intro ?_ ?_ | with_reducible refine fun _ => ?_))
      all_goals first
        | omega
        | exact trivial
        | exact k1
        | exact k1 _
        | exact k1 _ _
        | exact k1 _ _ _
        | exact hKn _ ⟨_, i + 1, rfl, by omega, by omega, i2, by omega⟩
        | exact k1 _ i2
        | exact hKn _ ⟨_, i + 1, rfl, by omega, by omega, regs_set (regs_set i2 (by decide) (by decide)) (by decide) (by decide), by omega⟩
  · exact h.elim
noncomputable def L45_24 : LSpec := fun base s K => match base, s with
  | 0, ⟨[(2, .adr 0 0 0), (3, .adr 1 0 0), (4, .adr 2 0 0), (8, .int .i64 x8), (9, .int .i64 x9), (10, .adr 3 0 0), (12, .int .i64 i)], [(0, .box [.psl 71 3 ga, .psl 29 nt gt, .psl 105 nx gx, .psl 109 nr gr, .psl 117 nn gn, .psl 3 nh gh, .psl 9 ns gs]), (1, .box [.psl 71 3 fa, .psl 29 mt ft, .psl 105 mx fx, .psl 109 mr fr, .psl 117 mn fn_, .psl 3 mh fh, .psl 9 ms fs]), (2, .box [.nils, .nils, .nils, .nils, .nils, .nils, .nils]), (3, .box [.row 4, .row 5, .row 6, .row 7, .nils, .nils, .nils]), (4, .prow 71 n4 g4), (5, .prow 29 n5 g5), (6, .prow 105 n6 g6), (7, .prow 109 n7 g7)], 8⟩ => (0 ≤ i ∧ i ≤ n7 ∧ n7 ≤ 1000 ∧ RegsN n7 g7) ∧ (∀ g, RegsN n7 g → K (.exit 4) ⟨[(2, .adr 0 0 0), (3, .adr 1 0 0), (4, .adr 2 0 0), (8, .int .i64 x8), (9, .int .i64 x9), (10, .adr 3 0 0)], [(0, .box [.psl 71 3 ga, .psl 29 nt gt, .psl 105 nx gx, .psl 109 nr gr, .psl 117 nn gn, .psl 3 nh gh, .psl 9 ns gs]), (1, .box [.psl 71 3 fa, .psl 29 mt ft, .psl 105 mx fx, .psl 109 mr fr, .psl 117 mn fn_, .psl 3 mh fh, .psl 9 ms fs]), (2, .box [.nils, .nils, .nils, .nils, .nils, .nils, .nils]), (3, .box [.row 4, .row 5, .row 6, .row 7, .nils, .nils, .nils]), (4, .prow 71 n4 g4), (5, .prow 29 n5 g5), (6, .prow 105 n6 g6), (7, .prow 109 n7 g)], 8⟩)
  | _, _ => False
theorem r45_24 (nt nx nr nn nh ns : Nat) (ga gt gx gr gn gh gs : Nat → Nat → PV) (mt mx mr mn mh ms : Nat) (fa ft fx fr fn_ fh fs : Nat → Nat → PV) (x8 x9 : Int) (n4 n5 n6 n7 : Nat) (g4 g5 g6 : Nat → Nat → PV) (g7 : Nat → Nat → PV) (i : Int) (Kn : FS → Prop) (Ke : Ex → FS → Prop) : roundW cw9 lw4 45 0 ⟨[2,3,4,8,9,10], []⟩ (loopB 45 24) ⟨[(2, .adr 0 0 0), (3, .adr 1 0 0), (4, .adr 2 0 0), (8, .int .i64 x8), (9, .int .i64 x9), (10, .adr 3 0 0), (12, .int .i64 i)], [(0, .box [.psl 71 3 ga, .psl 29 nt gt, .psl 105 nx gx, .psl 109 nr gr, .psl 117 nn gn, .psl 3 nh gh, .psl 9 ns gs]), (1, .box [.psl 71 3 fa, .psl 29 mt ft, .psl 105 mx fx, .psl 109 mr fr, .psl 117 mn fn_, .psl 3 mh fh, .psl 9 ms fs]), (2, .box [.nils, .nils, .nils, .nils, .nils, .nils, .nils]), (3, .box [.row 4, .row 5, .row 6, .row 7, .nils, .nils, .nils]), (4, .prow 71 n4 g4), (5, .prow 29 n5 g5), (6, .prow 105 n6 g6), (7, .prow 109 n7 g7)], 8⟩ Kn Ke = (brW (decide (i < (n7 : Int))) (holds (if (0 : Int) ≤ i then if i < (n7 : Int) then some (holds (if (0 : Int) ≤ i then if i < (n7 : Int) then some (holds (if (0 : Int) ≤ i then if i < (n7 : Int) then some (holds (if (0 : Int) ≤ i then if i < (n7 : Int) then some (Kn { tmps := [(2, AV.adr 0 0 0), (3, AV.adr 1 0 0), (4, AV.adr 2 0 0), (8, AV.int IntKind.i64 x8), (9, AV.int IntKind.i64 x9), (10, AV.adr 3 0 0), (12, AV.int IntKind.i64 (IntKind.i64.wrap (i + (1 : Int))))], mem := [(0, Ob.box [AV.psl 71 3 ga, AV.psl 29 nt gt, AV.psl 105 nx gx, AV.psl 109 nr gr, AV.psl 117 nn gn, AV.psl 3 nh gh, AV.psl 9 ns gs]), (1, Ob.box [AV.psl 71 3 fa, AV.psl 29 mt ft, AV.psl 105 mx fx, AV.psl 109 mr fr, AV.psl 117 mn fn_, AV.psl 3 mh fh, AV.psl 9 ms fs]), (2, Ob.box [AV.nils, AV.nils, AV.nils, AV.nils, AV.nils, AV.nils, AV.nils]), (3, Ob.box [AV.row 4, AV.row 5, AV.row 6, AV.row 7, AV.nils, AV.nils, AV.nils]), (4, Ob.prow 71 n4 g4), (5, Ob.prow 29 n5 g5), (6, Ob.prow 105 n6 g6), (7, Ob.prow 109 n7 (setRow (setRow g7 i.toNat 1 [PV.int (IntKind.i64.wrap ((g7 i.toNat 1).i + x8))]) i.toNat 2 [PV.int (IntKind.i64.wrap ((setRow g7 i.toNat 1 [PV.int (IntKind.i64.wrap ((g7 i.toNat 1).i + x8))] i.toNat 2).i + x8))]))], nx := 8 }) else none else none)) else none else none)) else none else none)) else none else none)) (Ke (Ex.exit 4) { tmps := [(2, AV.adr 0 0 0), (3, AV.adr 1 0 0), (4, AV.adr 2 0 0), (8, AV.int IntKind.i64 x8), (9, AV.int IntKind.i64 x9), (10, AV.adr 3 0 0)], mem := [(0, Ob.box [AV.psl 71 3 ga, AV.psl 29 nt gt, AV.psl 105 nx gx, AV.psl 109 nr gr, AV.psl 117 nn gn, AV.psl 3 nh gh, AV.psl 9 ns gs]), (1, Ob.box [AV.psl 71 3 fa, AV.psl 29 mt ft, AV.psl 105 mx fx, AV.psl 109 mr fr, AV.psl 117 mn fn_, AV.psl 3 mh fh, AV.psl 9 ms fs]), (2, Ob.box [AV.nils, AV.nils, AV.nils, AV.nils, AV.nils, AV.nils, AV.nils]), (3, Ob.box [AV.row 4, AV.row 5, AV.row 6, AV.row 7, AV.nils, AV.nils, AV.nils]), (4, Ob.prow 71 n4 g4), (5, Ob.prow 29 n5 g5), (6, Ob.prow 105 n6 g6), (7, Ob.prow 109 n7 g7)], nx := 8 })) := by kernel_rfl
theorem l45_24 : LOK cw9 lw4 45 24 ⟨[2,3,4,8,9,10], []⟩ L45_24 := by
  intro base s K h
  unfold L45_24 at h
  split at h
  · rename_i x8 x9 i ga nt gt nx gx nr gr nn gn nh gh ns gs fa mt ft mx fx mr fr mn fn_ mh fh ms fs n4 g4 n5 g5 n6 g6 n7 g7
    obtain ⟨⟨a0, a1, p0, v0⟩, k1⟩ := h
    refine ⟨((n7 : Int) - i + 1).toNat, loop_rule (fun N s => ∃ (g7 : Nat → Nat → PV) (i : Int), s = (⟨[(2, .adr 0 0 0), (3, .adr 1 0 0), (4, .adr 2 0 0), (8, .int .i64 x8), (9, .int .i64 x9), (10, .adr 3 0 0), (12, .int .i64 i)], [(0, .box [.psl 71 3 ga, .psl 29 nt gt, .psl 105 nx gx, .psl 109 nr gr, .psl 117 nn gn, .psl 3 nh gh, .psl 9 ns gs]), (1, .box [.psl 71 3 fa, .psl 29 mt ft, .psl 105 mx fx, .psl 109 mr fr, .psl 117 mn fn_, .psl 3 mh fh, .psl 9 ms fs]), (2, .box [.nils, .nils, .nils, .nils, .nils, .nils, .nils]), (3, .box [.row 4, .row 5, .row 6, .row 7, .nils, .nils, .nils]), (4, .prow 71 n4 g4), (5, .prow 29 n5 g5), (6, .prow 105 n6 g6), (7, .prow 109 n7 g7)], 8⟩ : FS) ∧ 0 ≤ i ∧ i ≤ n7 ∧ RegsN n7 g7 ∧ (n7 : Int) - i + 1 ≤ (N : Int)) ?_ ?_ _ _ ⟨g7, i, rfl, a0, a1, v0, by omega⟩⟩
    · rintro s ⟨g7, i, _, i0, i1, i2, iN⟩; omega
    · rintro N Kn hKn s ⟨g7, i, rfl, i0, i1, i2, iN⟩
      rw [r45_24]
      try rw [wrap_succ i0 (by omega)]
      (repeat' (first | with_reducible refine brd (fun _ => ?_) (fun _ => ?_) | with_reducible refine holds_if ?_ ?_ | with_reducible refine holds_ifn ?_ ?_ | with_reducible refine holds_some ?_ | with_reducible refine br (fun _ => ?_) (fun _ => ?_) | with_reducible refine And.intro ?_ ?_ | with_reducible refine fun _ => ?_))
      all_goals first
        | omega
        | exact trivial
        | exact k1
        | exact k1 _
        | exact k1 _ _
        | exact k1 _ _ _
        | exact hKn _ ⟨_, i + 1, rfl, by omega, by omega, i2, by omega⟩
        | exact k1 _ i2
        | exact hKn _ ⟨_, i + 1, rfl, by omega, by omega, regs_set (regs_set i2 (by decide) (by decide)) (by decide) (by decide), by omega⟩
  · exact h.elim
noncomputable def L45_30 : LSpec := fun base s K => match base, s with
  | 0, ⟨[(2, .adr 0 0 0), (3, .adr 1 0 0), (4, .adr 2 0 0), (8, .int .i64 x8), (9, .int .i64 (.ofNat m9)), (10, .adr 3 0 0), (13, .int .i64 i)], [(0, .box [.psl 71 3 ga, .psl 29 nt gt, .psl 105 nx gx, .psl 109 nr gr, .psl 117 nn gn, .psl 3 nh gh, .psl 9 ns gs]), (1, .box [.psl 71 3 fa, .psl 29 mt ft, .psl 105 mx fx, .psl 109 mr fr, .psl 117 mn fn_, .psl 3 mh fh, .psl 9 ms fs]), (2, .box [.nils, .nils, .nils, .nils, .nils, .nils, .nils]), (3, .box [.row 4, .row 5, .row 6, .row 7, .row 8, .nils, .nils]), (4, .prow 71 n4 g4), (5, .prow 29 n5 g5), (6, .prow 105 n6 g6), (7, .prow 109 n7 g7), (8, .prow 117 n8 g8)], 9⟩ => (0 ≤ i ∧ i ≤ n8 ∧ n8 ≤ 1000 ∧ m9 ≤ 1000 ∧ NodesM n8 m9 i g8) ∧ (∀ g, NodesN n8 g → K (.exit 6) ⟨[(2, .adr 0 0 0), (3, .adr 1 0 0), (4, .adr 2 0 0), (8, .int .i64 x8), (9, .int .i64 m9), (10, .adr 3 0 0)], [(0, .box [.psl 71 3 ga, .psl 29 nt gt, .psl 105 nx gx, .psl 109 nr gr, .psl 117 nn gn, .psl 3 nh gh, .psl 9 ns gs]), (1, .box [.psl 71 3 fa, .psl 29 mt ft, .psl 105 mx fx, .psl 109 mr fr, .psl 117 mn fn_, .psl 3 mh fh, .psl 9 ms fs]), (2, .box [.nils, .nils, .nils, .nils, .nils, .nils, .nils]), (3, .box [.row 4, .row 5, .row 6, .row 7, .row 8, .nils, .nils]), (4, .prow 71 n4 g4), (5, .prow 29 n5 g5), (6, .prow 105 n6 g6), (7, .prow 109 n7 g7), (8, .prow 117 n8 g)], 9⟩)
  | _, _ => False
theorem r45_30 (nt nx nr nn nh ns : Nat) (ga gt gx gr gn gh gs : Nat → Nat → PV) (mt mx mr mn mh ms : Nat) (fa ft fx fr fn_ fh fs : Nat → Nat → PV) (x8 : Int) (n4 n5 n6 n7 n8 m9 : Nat) (g4 g5 g6 g7 : Nat → Nat → PV) (g8 : Nat → Nat → PV) (i : Int) (Kn : FS → Prop) (Ke : Ex → FS → Prop) : roundW cw9 lw4 45 0 ⟨[2,3,4,8,9,10], []⟩ (loopB 45 30) ⟨[(2, .adr 0 0 0), (3, .adr 1 0 0), (4, .adr 2 0 0), (8, .int .i64 x8), (9, .int .i64 (.ofNat m9)), (10, .adr 3 0 0), (13, .int .i64 i)], [(0, .box [.psl 71 3 ga, .psl 29 nt gt, .psl 105 nx gx, .psl 109 nr gr, .psl 117 nn gn, .psl 3 nh gh, .psl 9 ns gs]), (1, .box [.psl 71 3 fa, .psl 29 mt ft, .psl 105 mx fx, .psl 109 mr fr, .psl 117 mn fn_, .psl 3 mh fh, .psl 9 ms fs]), (2, .box [.nils, .nils, .nils, .nils, .nils, .nils, .nils]), (3, .box [.row 4, .row 5, .row 6, .row 7, .row 8, .nils, .nils]), (4, .prow 71 n4 g4), (5, .prow 29 n5 g5), (6, .prow 105 n6 g6), (7, .prow 109 n7 g7), (8, .prow 117 n8 g8)], 9⟩ Kn Ke = (brW (decide (i < (n8 : Int))) (holds (if (0 : Int) ≤ i then if i < (n8 : Int) then some (holds (if (0 : Int) ≤ i then if i < (n8 : Int) then some (holds (if (0 : Int) ≤ i then if i < (n8 : Int) then some (holds (if (0 : Int) ≤ i then if i < (n8 : Int) then some (holds (if (0 : Int) ≤ i then if i < (n8 : Int) then some (brW (decide ((setRow (setRow g8 i.toNat 1 [PV.int (IntKind.i64.wrap ((g8 i.toNat 1).i + x8))]) i.toNat 2 [PV.int (IntKind.i64.wrap ((setRow g8 i.toNat 1 [PV.int (IntKind.i64.wrap ((g8 i.toNat 1).i + x8))] i.toNat 2).i + x8))] i.toNat 3).i ≥ (0 : Int))) (holds (if (0 : Int) ≤ i then if i < (n8 : Int) then some (holds (if (0 : Int) ≤ i then if i < (n8 : Int) then some (Kn { tmps := [(2, AV.adr 0 0 0), (3, AV.adr 1 0 0), (4, AV.adr 2 0 0), (8, AV.int IntKind.i64 x8), (9, AV.int IntKind.i64 (m9 : Int)), (10, AV.adr 3 0 0), (13, AV.int IntKind.i64 (IntKind.i64.wrap (i + (1 : Int))))], mem := [(0, Ob.box [AV.psl 71 3 ga, AV.psl 29 nt gt, AV.psl 105 nx gx, AV.psl 109 nr gr, AV.psl 117 nn gn, AV.psl 3 nh gh, AV.psl 9 ns gs]), (1, Ob.box [AV.psl 71 3 fa, AV.psl 29 mt ft, AV.psl 105 mx fx, AV.psl 109 mr fr, AV.psl 117 mn fn_, AV.psl 3 mh fh, AV.psl 9 ms fs]), (2, Ob.box [AV.nils, AV.nils, AV.nils, AV.nils, AV.nils, AV.nils, AV.nils]), (3, Ob.box [AV.row 4, AV.row 5, AV.row 6, AV.row 7, AV.row 8, AV.nils, AV.nils]), (4, Ob.prow 71 n4 g4), (5, Ob.prow 29 n5 g5), (6, Ob.prow 105 n6 g6), (7, Ob.prow 109 n7 g7), (8, Ob.prow 117 n8 (setRow (setRow (setRow g8 i.toNat 1 [PV.int (IntKind.i64.wrap ((g8 i.toNat 1).i + x8))]) i.toNat 2 [PV.int (IntKind.i64.wrap ((setRow g8 i.toNat 1 [PV.int (IntKind.i64.wrap ((g8 i.toNat 1).i + x8))] i.toNat 2).i + x8))]) i.toNat 3 [PV.int (IntKind.i64.wrap ((setRow (setRow g8 i.toNat 1 [PV.int (IntKind.i64.wrap ((g8 i.toNat 1).i + x8))]) i.toNat 2 [PV.int (IntKind.i64.wrap ((setRow g8 i.toNat 1 [PV.int (IntKind.i64.wrap ((g8 i.toNat 1).i + x8))] i.toNat 2).i + x8))] i.toNat 3).i + (m9 : Int)))]))], nx := 9 }) else none else none)) else none else none)) (Kn { tmps := [(2, AV.adr 0 0 0), (3, AV.adr 1 0 0), (4, AV.adr 2 0 0), (8, AV.int IntKind.i64 x8), (9, AV.int IntKind.i64 (m9 : Int)), (10, AV.adr 3 0 0), (13, AV.int IntKind.i64 (IntKind.i64.wrap (i + (1 : Int))))], mem := [(0, Ob.box [AV.psl 71 3 ga, AV.psl 29 nt gt, AV.psl 105 nx gx, AV.psl 109 nr gr, AV.psl 117 nn gn, AV.psl 3 nh gh, AV.psl 9 ns gs]), (1, Ob.box [AV.psl 71 3 fa, AV.psl 29 mt ft, AV.psl 105 mx fx, AV.psl 109 mr fr, AV.psl 117 mn fn_, AV.psl 3 mh fh, AV.psl 9 ms fs]), (2, Ob.box [AV.nils, AV.nils, AV.nils, AV.nils, AV.nils, AV.nils, AV.nils]), (3, Ob.box [AV.row 4, AV.row 5, AV.row 6, AV.row 7, AV.row 8, AV.nils, AV.nils]), (4, Ob.prow 71 n4 g4), (5, Ob.prow 29 n5 g5), (6, Ob.prow 105 n6 g6), (7, Ob.prow 109 n7 g7), (8, Ob.prow 117 n8 (setRow (setRow g8 i.toNat 1 [PV.int (IntKind.i64.wrap ((g8 i.toNat 1).i + x8))]) i.toNat 2 [PV.int (IntKind.i64.wrap ((setRow g8 i.toNat 1 [PV.int (IntKind.i64.wrap ((g8 i.toNat 1).i + x8))] i.toNat 2).i + x8))]))], nx := 9 })) else none else none)) else none else none)) else none else none)) else none else none)) else none else none)) (Ke (Ex.exit 6) { tmps := [(2, AV.adr 0 0 0), (3, AV.adr 1 0 0), (4, AV.adr 2 0 0), (8, AV.int IntKind.i64 x8), (9, AV.int IntKind.i64 (m9 : Int)), (10, AV.adr 3 0 0)], mem := [(0, Ob.box [AV.psl 71 3 ga, AV.psl 29 nt gt, AV.psl 105 nx gx, AV.psl 109 nr gr, AV.psl 117 nn gn, AV.psl 3 nh gh, AV.psl 9 ns gs]), (1, Ob.box [AV.psl 71 3 fa, AV.psl 29 mt ft, AV.psl 105 mx fx, AV.psl 109 mr fr, AV.psl 117 mn fn_, AV.psl 3 mh fh, AV.psl 9 ms fs]), (2, Ob.box [AV.nils, AV.nils, AV.nils, AV.nils, AV.nils, AV.nils, AV.nils]), (3, Ob.box [AV.row 4, AV.row 5, AV.row 6, AV.row 7, AV.row 8, AV.nils, AV.nils]), (4, Ob.prow 71 n4 g4), (5, Ob.prow 29 n5 g5), (6, Ob.prow 105 n6 g6), (7, Ob.prow 109 n7 g7), (8, Ob.prow 117 n8 g8)], nx := 9 })) := by kernel_rfl
theorem l45_30 : LOK cw9 lw4 45 30 ⟨[2,3,4,8,9,10], []⟩ L45_30 := by
  intro base s K h
  unfold L45_30 at h
  split at h
  · rename_i x8 m9 i ga nt gt nx gx nr gr nn gn nh gh ns gs fa mt ft mx fx mr fr mn fn_ mh fh ms fs n4 g4 n5 g5 n6 g6 n7 g7 n8 g8
    obtain ⟨⟨a0, a1, p0, p1, v0⟩, k1⟩ := h
    refine ⟨((n8 : Int) - i + 1).toNat, loop_rule (fun N s => ∃ (g8 : Nat → Nat → PV) (i : Int), s = (⟨[(2, .adr 0 0 0), (3, .adr 1 0 0), (4, .adr 2 0 0), (8, .int .i64 x8), (9, .int .i64 (.ofNat m9)), (10, .adr 3 0 0), (13, .int .i64 i)], [(0, .box [.psl 71 3 ga, .psl 29 nt gt, .psl 105 nx gx, .psl 109 nr gr, .psl 117 nn gn, .psl 3 nh gh, .psl 9 ns gs]), (1, .box [.psl 71 3 fa, .psl 29 mt ft, .psl 105 mx fx, .psl 109 mr fr, .psl 117 mn fn_, .psl 3 mh fh, .psl 9 ms fs]), (2, .box [.nils, .nils, .nils, .nils, .nils, .nils, .nils]), (3, .box [.row 4, .row 5, .row 6, .row 7, .row 8, .nils, .nils]), (4, .prow 71 n4 g4), (5, .prow 29 n5 g5), (6, .prow 105 n6 g6), (7, .prow 109 n7 g7), (8, .prow 117 n8 g8)], 9⟩ : FS) ∧ 0 ≤ i ∧ i ≤ n8 ∧ NodesM n8 m9 i g8 ∧ (n8 : Int) - i + 1 ≤ (N : Int)) ?_ ?_ _ _ ⟨g8, i, rfl, a0, a1, v0, by omega⟩⟩
    · rintro s ⟨g8, i, _, i0, i1, i2, iN⟩; omega
    · rintro N Kn hKn s ⟨g8, i, rfl, i0, i1, i2, iN⟩
      rw [r45_30]
      try rw [wrap_succ i0 (by omega)]
      simp only [setRow_ne _ _ 1 _ _ 2 (show (2 : Nat) ≠ 1 by decide), setRow_ne _ _ 1 _ _ 3 (show (3 : Nat) ≠ 1 by decide), setRow_ne _ _ 2 _ _ 3 (show (3 : Nat) ≠ 2 by decide)]
      (repeat' (first | with_reducible refine brd (fun _ => ?_) (fun _ => ?_) | with_reducible refine holds_if ?_ ?_ | with_reducible refine holds_ifn ?_ ?_ | with_reducible refine holds_some ?_ | with_reducible refine br (fun _ => ?_) (fun _ => ?_) | with_reducible refine And.intro ?_ ?_ | with_reducible refine fun _ => ?_))
      all_goals first
        | omega
        | exact trivial
        | exact k1
        | exact k1 _
        | exact k1 _ _
        | exact k1 _ _ _
        | exact hKn _ ⟨_, i + 1, rfl, by omega, by omega, i2, by omega⟩
        | exact k1 _ (nodesM_end i2)
        | exact hKn _ ⟨_, i + 1, rfl, by omega, by omega, nodesM_step (nodesM_set (nodesM_set i2 (by decide) (by decide)) (by decide) (by decide)) i0, by omega⟩
        | (have q := i2 i.toNat (by omega); refine hKn _ ⟨_, i + 1, rfl, by omega, by omega, nodesM_move (nodesM_set (nodesM_set i2 (by decide) (by decide)) (by decide) (by decide)) i0 (by omega) ?_ ?_, by omega⟩ <;> rw [setRow_ne _ _ 2 _ _ 3 (by decide), setRow_ne _ _ 1 _ _ 3 (by decide)] <;> first | assumption | exact wrap_id (by omega) (by omega))
  · exact h.elim
end Go.Proofs.YtkenjojkpdeooaaGreatDoor
end
section
set_option linter.unusedVariables false
set_option maxRecDepth 100000
set_option maxHeartbeats 2000000
set_option linter.unusedSimpArgs false
set_option linter.constructorNameAsVariable false
namespace Go.Proofs.YtkenjojkpdeooaaGreatDoor
open AI

noncomputable def lw5_ : FuncId → Nat → Option (Hint × LSpec) := fun f rid => match f, rid with
  | 45, 18 => some (⟨[2,3,4,8,9,10], []⟩, L45_18)
  | 45, 24 => some (⟨[2,3,4,8,9,10], []⟩, L45_24)
  | 45, 30 => some (⟨[2,3,4,8,9,10], []⟩, L45_30)
  | _, _ => none
noncomputable def lw5 : LoopW := addL lw5_ lw4
theorem lay14 : Lay Tryz.prog ctx cw9 lw5 := layL lay13 fun f rid p h => by
  unfold lw5_ at h
  split at h <;> cases h
  · exact ⟨by kernel_rfl, l45_18⟩
  · exact ⟨by kernel_rfl, l45_24⟩
  · exact ⟨by kernel_rfl, l45_30⟩
noncomputable def L45_41 : LSpec := fun base s K => match base, s with
  | 0, ⟨[(4, .adr 0 0 0), (8, .int .i64 x8), (10, .adr 1 0 0), (254, .psl 3 n g), (255, .int .i64 n'), (256, .int .i64 i)], [(0, .box [.nils, .nils, .nils, .nils, .nils, .nils, .nils]), (1, .box [.row 2, .row 3, .row 4, .row 5, .row 6, .row 7, .row 8]), (2, .prow 71 n2 g2), (3, .prow 29 n3 g3), (4, .prow 105 n4 g4), (5, .prow 109 n5 g5), (6, .prow 117 n6 g6), (7, .prow 3 n7 g7), (8, .prow 9 n8 g8)], 9⟩ => (n' = n ∧ 0 ≤ i ∧ i ≤ n ∧ n ≤ 1000 ∧ (n7 : Int) ≤ 1000 + i) ∧ (∀ (n' : Nat) g, (n' : Int) ≤ n7 + (n - i) → K (.exit 8) ⟨[(4, .adr 0 0 0), (5, .undef), (10, .adr 1 0 0)], [(0, .box [.nils, .nils, .nils, .nils, .nils, .nils, .nils]), (1, .box [.row 2, .row 3, .row 4, .row 5, .row 6, .row 7, .row 8]), (2, .prow 71 n2 g2), (3, .prow 29 n3 g3), (4, .prow 105 n4 g4), (5, .prow 109 n5 g5), (6, .prow 117 n6 g6), (7, .prow 3 n' g), (8, .prow 9 n8 g8)], 9⟩)
  | _, _ => False
theorem r45_41 (x8 : Int) (n2 n3 n4 n5 n6 n8 n : Nat) (g2 g3 g4 g5 g6 g8 g : Nat → Nat → PV) (n7 : Nat) (g7 : Nat → Nat → PV) (i : Int) (Kn : FS → Prop) (Ke : Ex → FS → Prop) : roundW cw9 lw5 45 0 ⟨[4,5,10], [(10, 6, 3)]⟩ (loopB 45 41) ⟨[(4, .adr 0 0 0), (8, .int .i64 x8), (10, .adr 1 0 0), (254, .psl 3 n g), (255, .int .i64 n), (256, .int .i64 i)], [(0, .box [.nils, .nils, .nils, .nils, .nils, .nils, .nils]), (1, .box [.row 2, .row 3, .row 4, .row 5, .row 6, .row 7, .row 8]), (2, .prow 71 n2 g2), (3, .prow 29 n3 g3), (4, .prow 105 n4 g4), (5, .prow 109 n5 g5), (6, .prow 117 n6 g6), (7, .prow 3 n7 g7), (8, .prow 9 n8 g8)], 9⟩ Kn Ke = (brW (decide (i < (n : Int))) (holds (if (0 : Int) ≤ i then if i < (n : Int) then some (brW (decide ((g i.toNat 0).i ≥ (0 : Int))) (holds (if (n7 + 1) * 9 ≤ 140737488355328 then some (Kn { tmps := [(4, AV.adr 0 0 0), (8, AV.int IntKind.i64 x8), (10, AV.adr 1 0 0), (254, AV.psl 3 n g), (255, AV.int IntKind.i64 (n : Int)), (256, AV.int IntKind.i64 (IntKind.i64.wrap (i + (1 : Int))))], mem := [(0, Ob.box [AV.nils, AV.nils, AV.nils, AV.nils, AV.nils, AV.nils, AV.nils]), (1, Ob.box [AV.row 2, AV.row 3, AV.row 4, AV.row 5, AV.row 6, AV.row 7, AV.row 8]), (2, Ob.prow 71 n2 g2), (3, Ob.prow 29 n3 g3), (4, Ob.prow 105 n4 g4), (5, Ob.prow 109 n5 g5), (6, Ob.prow 117 n6 g6), (7, Ob.prow 3 (n7 + 1) (cat n7 g7 fun i_1 j => [PV.int (IntKind.i64.wrap ((g i.toNat 0).i + x8))].getD (i_1 * 1 + j) PV.bad)), (8, Ob.prow 9 n8 g8)], nx := 9 }) else none)) (holds (if (n7 + 1) * 9 ≤ 140737488355328 then some (Kn { tmps := [(4, AV.adr 0 0 0), (8, AV.int IntKind.i64 x8), (10, AV.adr 1 0 0), (254, AV.psl 3 n g), (255, AV.int IntKind.i64 (n : Int)), (256, AV.int IntKind.i64 (IntKind.i64.wrap (i + (1 : Int))))], mem := [(0, Ob.box [AV.nils, AV.nils, AV.nils, AV.nils, AV.nils, AV.nils, AV.nils]), (1, Ob.box [AV.row 2, AV.row 3, AV.row 4, AV.row 5, AV.row 6, AV.row 7, AV.row 8]), (2, Ob.prow 71 n2 g2), (3, Ob.prow 29 n3 g3), (4, Ob.prow 105 n4 g4), (5, Ob.prow 109 n5 g5), (6, Ob.prow 117 n6 g6), (7, Ob.prow 3 (n7 + 1) (cat n7 g7 fun i_1 j => [PV.int (g i.toNat 0).i].getD (i_1 * 1 + j) PV.bad)), (8, Ob.prow 9 n8 g8)], nx := 9 }) else none))) else none else none)) (Ke (Ex.exit 8) { tmps := [(4, AV.adr 0 0 0), (5, AV.undef), (10, AV.adr 1 0 0)], mem := [(0, Ob.box [AV.nils, AV.nils, AV.nils, AV.nils, AV.nils, AV.nils, AV.nils]), (1, Ob.box [AV.row 2, AV.row 3, AV.row 4, AV.row 5, AV.row 6, AV.row 7, AV.row 8]), (2, Ob.prow 71 n2 g2), (3, Ob.prow 29 n3 g3), (4, Ob.prow 105 n4 g4), (5, Ob.prow 109 n5 g5), (6, Ob.prow 117 n6 g6), (7, Ob.prow 3 n7 g7), (8, Ob.prow 9 n8 g8)], nx := 9 })) := by kernel_rfl
theorem l45_41 : LOK cw9 lw5 45 41 ⟨[4,5,10], [(10, 6, 3)]⟩ L45_41 := by
  intro base s K h
  unfold L45_41 at h
  split at h
  · rename_i x8 n g n' iz n2 g2 n3 g3 n4 g4 n5 g5 n6 g6 n7z g7z n8 g8
    obtain ⟨⟨rfl, a0, a1, p0, v0⟩, k1⟩ := h
    refine ⟨((n : Int) - iz + 1).toNat, loop_rule (fun N s => ∃ (n7 : Nat) (g7 : Nat → Nat → PV) (i : Int), s = (⟨[(4, .adr 0 0 0), (8, .int .i64 x8), (10, .adr 1 0 0), (254, .psl 3 n g), (255, .int .i64 n), (256, .int .i64 i)], [(0, .box [.nils, .nils, .nils, .nils, .nils, .nils, .nils]), (1, .box [.row 2, .row 3, .row 4, .row 5, .row 6, .row 7, .row 8]), (2, .prow 71 n2 g2), (3, .prow 29 n3 g3), (4, .prow 105 n4 g4), (5, .prow 109 n5 g5), (6, .prow 117 n6 g6), (7, .prow 3 n7 g7), (8, .prow 9 n8 g8)], 9⟩ : FS) ∧ 0 ≤ i ∧ i ≤ n ∧ (n7 : Int) ≤ 1000 + i ∧ (n7 : Int) ≤ n7z + (i - iz) ∧ (n : Int) - i + 1 ≤ (N : Int)) ?_ ?_ _ _ ⟨n7z, g7z, iz, rfl, a0, a1, v0, by omega, by omega⟩⟩
    · rintro s ⟨n7, g7, i, _, i0, i1, i2, i3, iN⟩; omega
    · rintro N Kn hKn s ⟨n7, g7, i, rfl, i0, i1, i2, i3, iN⟩
      rw [r45_41]
      try rw [wrap_succ i0 (by omega)]
      (repeat' (first | with_reducible refine brd (fun _ => ?_) (fun _ => ?_) | with_reducible refine holds_if ?_ ?_ | with_reducible refine holds_ifn ?_ ?_ | with_reducible refine holds_some ?_ | with_reducible refine br (fun _ => ?_) (fun _ => ?_) | with_reducible refine And.intro ?_ ?_ | with_reducible refine fun _ => ?_))
      all_goals first
        | omega
        | exact trivial
        | exact k1
        | exact k1 _
        | exact k1 _ _
        | exact k1 _ _ _
        | exact hKn _ ⟨_, _, i + 1, rfl, by omega, by omega, i2, by omega, by omega⟩
        | exact k1 _ _ (by omega)
        | exact hKn _ ⟨_, _, i + 1, rfl, by omega, by omega, by omega, by omega, by omega⟩
  · exact h.elim
noncomputable def lw6_ : FuncId → Nat → Option (Hint × LSpec) := fun f rid => match f, rid with
  | 45, 41 => some (⟨[4,5,10], [(10, 6, 3)]⟩, L45_41)
  | _, _ => none
noncomputable def lw6 : LoopW := addL lw6_ lw5
theorem lay15 : Lay Tryz.prog ctx cw9 lw6 := layL lay14 fun f rid p h => by
  unfold lw6_ at h
  split at h <;> cases h
  · exact ⟨by kernel_rfl, l45_41⟩
def noCor : AV := .agg [.psl 71 0 fun _ _ => .bad, .psl 29 0 fun _ _ => .bad, .psl 105 0 fun _ _ => .bad, .psl 109 0 fun _ _ => .bad, .psl 117 0 fun _ _ => .bad, .psl 3 0 fun _ _ => .bad, .psl 9 0 fun _ _ => .bad]
/-- Concat: a corpus of both, or an error. -/
noncomputable def spec45 : AI.Spec := fun xs m K => match xs, m with
  | [.agg [.psl 71 3 ga, .psl 29 nt gt, .psl 105 nx gx, .psl 109 nr gr, .psl 117 nn gn, .psl 3 nh gh, .psl 9 ns gs], .agg [.psl 71 3 fa, .psl 29 mt ft, .psl 105 mx fx, .psl 109 mr fr, .psl 117 mn fn_, .psl 3 mh fh, .psl 9 ms fs]], [] => ((ga = attrG ∧ CorOK 1000 nt nx nr nn nh ns gt gx gr gn gs) ∧ (fa = attrG ∧ CorOK 1000 mt mx mr mn mh ms ft fx fr fn_ fs) ∧ nx + mx ≤ 1000 ∧ nr + mr ≤ 1000 ∧ nn + mn ≤ 1000) ∧
    (∀ e, e ≠ 0 → K (.tup [noCor, .int .i64 e]) []) ∧ ∀ (kt kx kr kn kh ks : Nat) (ht hx hr hn hh hs : Nat → Nat → PV), kt = nt + mt → (∀ B C, CorOK B nt nx nr nn nh ns gt gx gr gn gs → CorOK C mt mx mr mn mh ms ft fx fr fn_ fs → CorOK (B + C) kt kx kr kn kh ks ht hx hr hn hs) →
      K (.tup [.agg [.psl 71 3 attrG, .psl 29 kt ht, .psl 105 kx hx, .psl 109 kr hr, .psl 117 kn hn, .psl 3 kh hh, .psl 9 ks hs], .int .i64 0]) []
  | _, _ => False
theorem cat_zero (g h : Nat → Nat → PV) : cat 0 g h = h := by
  funext j k
  unfold cat
  rw [if_neg (Nat.not_lt_zero j), Nat.sub_zero]
def Q45 (B1 : Nat → Prop) (B2 : Nat → Prop) (t : Nat) (r : AV) (m : Mem) : Prop := m = [] ∧ ((∃ e, e ≠ 0 ∧ r = .tup [noCor, .int .i64 e]) ∨ ∃ (kt kx kr kn kh ks : Nat) (ht hx hr hn hh hs : Nat → Nat → PV), kt = t ∧ (∀ B C, B1 B → B2 C → CorOK (B + C) kt kx kr kn kh ks ht hx hr hn hs) ∧
  r = .tup [.agg [.psl 71 3 attrG, .psl 29 kt ht, .psl 105 kx hx, .psl 109 kr hr, .psl 117 kn hn, .psl 3 kh hh, .psl 9 ks hs], .int .i64 0])
theorem Q45_err {B1 B2 : Nat → Prop} {t : Nat} {e : Int} (h : e ≠ 0) : Q45 B1 B2 t (.tup [noCor, .int .i64 e]) [] := ⟨rfl, .inl ⟨e, h, rfl⟩⟩
theorem Q45_ok {nt nx nr nn nh ns mt mx mr mn mh ms kh ks : Nat} {gt gx gr gn gs ft fx fr fn_ fs g1 g2 g3 g4 g5 : Nat → Nat → PV} (h1 : RegsN (0 + nx + mx) g1) (h2 : RegsN (0 + nr + mr) g2) (h3 : NodesN (0 + nn + mn) g3)
    (h4 : kh ≤ max nh nt + max mh mt) (h5 : ks ≤ max ns nt + max ms mt) (h6 : StrsN ks g5) :
    Q45 (fun B => CorOK B nt nx nr nn nh ns gt gx gr gn gs) (fun C => CorOK C mt mx mr mn mh ms ft fx fr fn_ fs) (nt + mt)
      (.tup [.agg [.psl 71 3 (cat 0 (fun _ _ => .bad) attrG), .psl 29 (0 + nt + mt) (cat (0 + nt) (cat 0 (fun _ _ => .bad) gt) ft), .psl 105 (0 + nx + mx) g1, .psl 109 (0 + nr + mr) g2, .psl 117 (0 + nn + mn) g3, .psl 3 kh g4, .psl 9 ks g5], .int .i64 0]) [] := by
  rw [cat_zero _ attrG]
  refine ⟨rfl, .inr ⟨_, _, _, _, _, _, _, _, _, _, _, _, by omega, fun B C c d => ?_, rfl⟩⟩
  have ct := c.bt
  have cx := c.bx
  have cr := c.br
  have cn := c.bn
  have ch := c.bh
  have cs := c.bs
  have dt := d.bt
  have dx := d.bx
  have dr := d.br
  have dn := d.bn
  have dh := d.bh
  have ds := d.bs
  exact ⟨by omega, by omega, by omega, by omega, by omega, by omega, toks_cat (toks_cat toks_nil c.t) d.t, h1, h2, h3, h6⟩
theorem e45 (nt nx nr nn nh ns : Nat) (ga gt gx gr gn gh gs : Nat → Nat → PV) (mt mx mr mn mh ms : Nat) (fa ft fx fr fn_ fh fs : Nat → Nat → PV) (Q : AV → Mem → Prop) : runW ctx cw9 lw6 45 [.agg [.psl 71 3 ga, .psl 29 nt gt, .psl 105 nx gx, .psl 109 nr gr, .psl 117 nn gn, .psl 3 nh gh, .psl 9 ns gs], .agg [.psl 71 3 fa, .psl 29 mt ft, .psl 105 mx fx, .psl 109 mr fr, .psl 117 mn fn_, .psl 3 mh fh, .psl 9 ms fs]] [] Q = ((ga = attrG ∧ CorOK 1000 nt nx nr nn nh ns gt gx gr gn gs) ∧ ∀ (x : Bool), brW x ((fa = attrG ∧ CorOK 1000 mt mx mr mn mh ms ft fx fr fn_ fs) ∧ ∀ (x_1 : Bool), brW x_1 ((ga = attrG ∧ fa = attrG) ∧ ((mx : Int) = (mx : Int) ∧ (0 : Int) ≤ (0 : Int) ∧ (0 : Int) ≤ (mx : Int) ∧ mx ≤ 1000 ∧ nx ≤ 1000) ∧ Q (AV.tup [AV.agg [AV.psl 71 0 fun x_2 x_3 => PV.bad, AV.psl 29 0 fun x_2 x_3 => PV.bad, AV.psl 105 0 fun x_2 x_3 => PV.bad, AV.psl 109 0 fun x_2 x_3 => PV.bad, AV.psl 117 0 fun x_2 x_3 => PV.bad, AV.psl 3 0 fun x_2 x_3 => PV.bad, AV.psl 9 0 fun x_2 x_3 => PV.bad], AV.int IntKind.i64 5]) [] ∧ brW (decide (IntKind.i64.wrap ((nt : Int) + (mt : Int)) > (4096 : Int))) (Q (AV.tup [AV.agg [AV.psl 71 0 fun x_2 x_3 => PV.bad, AV.psl 29 0 fun x_2 x_3 => PV.bad, AV.psl 105 0 fun x_2 x_3 => PV.bad, AV.psl 109 0 fun x_2 x_3 => PV.bad, AV.psl 117 0 fun x_2 x_3 => PV.bad, AV.psl 3 0 fun x_2 x_3 => PV.bad, AV.psl 9 0 fun x_2 x_3 => PV.bad], AV.int IntKind.i64 2]) []) (brW (decide (IntKind.i64.wrap ((nx : Int) + (mx : Int)) > (64 : Int))) (Q (AV.tup [AV.agg [AV.psl 71 0 fun x_2 x_3 => PV.bad, AV.psl 29 0 fun x_2 x_3 => PV.bad, AV.psl 105 0 fun x_2 x_3 => PV.bad, AV.psl 109 0 fun x_2 x_3 => PV.bad, AV.psl 117 0 fun x_2 x_3 => PV.bad, AV.psl 3 0 fun x_2 x_3 => PV.bad, AV.psl 9 0 fun x_2 x_3 => PV.bad], AV.int IntKind.i64 2]) []) (brW (decide (IntKind.i64.wrap ((nr : Int) + (mr : Int)) > (1024 : Int))) (Q (AV.tup [AV.agg [AV.psl 71 0 fun x_2 x_3 => PV.bad, AV.psl 29 0 fun x_2 x_3 => PV.bad, AV.psl 105 0 fun x_2 x_3 => PV.bad, AV.psl 109 0 fun x_2 x_3 => PV.bad, AV.psl 117 0 fun x_2 x_3 => PV.bad, AV.psl 3 0 fun x_2 x_3 => PV.bad, AV.psl 9 0 fun x_2 x_3 => PV.bad], AV.int IntKind.i64 2]) []) (brW (decide (IntKind.i64.wrap ((nn : Int) + (mn : Int)) > (2048 : Int))) (Q (AV.tup [AV.agg [AV.psl 71 0 fun x_2 x_3 => PV.bad, AV.psl 29 0 fun x_2 x_3 => PV.bad, AV.psl 105 0 fun x_2 x_3 => PV.bad, AV.psl 109 0 fun x_2 x_3 => PV.bad, AV.psl 117 0 fun x_2 x_3 => PV.bad, AV.psl 3 0 fun x_2 x_3 => PV.bad, AV.psl 9 0 fun x_2 x_3 => PV.bad], AV.int IntKind.i64 2]) []) (holds (if (0 + nt) * 25 ≤ 140737488355328 then some (holds (if (0 + nt + mt) * 25 ≤ 140737488355328 then some (holds (if (0 + nx) * 57 ≤ 140737488355328 then some (holds (if (0 + nx + mx) * 57 ≤ 140737488355328 then some (((0 : Int) ≤ (nx : Int) ∧ (nx : Int) ≤ (↑(0 + nx + mx) : Int) ∧ 0 + nx + mx ≤ 1000 ∧ RegsN (0 + nx + mx) (cat (0 + nx) (cat 0 (fun x_2 x_3 => PV.bad) gx) fx)) ∧ ∀ (g : Nat → Nat → PV), RegsN (0 + nx + mx) g → holds (if (0 + nr) * 57 ≤ 140737488355328 then some (holds (if (0 + nr + mr) * 57 ≤ 140737488355328 then some (((0 : Int) ≤ (nr : Int) ∧ (nr : Int) ≤ (↑(0 + nr + mr) : Int) ∧ 0 + nr + mr ≤ 1000 ∧ RegsN (0 + nr + mr) (cat (0 + nr) (cat 0 (fun x_2 x_3 => PV.bad) gr) fr)) ∧ ∀ (g_1 : Nat → Nat → PV), RegsN (0 + nr + mr) g_1 → holds (if (0 + nn) * 41 ≤ 140737488355328 then some (holds (if (0 + nn + mn) * 41 ≤ 140737488355328 then some (((0 : Int) ≤ (nn : Int) ∧ (nn : Int) ≤ (↑(0 + nn + mn) : Int) ∧ 0 + nn + mn ≤ 1000 ∧ nn ≤ 1000 ∧ NodesM (0 + nn + mn) nn (nn : Int) (cat (0 + nn) (cat 0 (fun x_2 x_3 => PV.bad) gn) fn_)) ∧ ∀ (g_2 : Nat → Nat → PV), NodesN (0 + nn + mn) g_2 → brW (decide (IntKind.i64.wrap ((nh : Int) + (mh : Int)) > (0 : Int))) (CorOK 1000 nt nx nr nn nh ns gt gx gr gn gs ∧ ∀ (n k : Nat) (g_3 h : Nat → Nat → PV), n ≤ nh ∨ n ≤ nt → k ≤ ns ∨ k ≤ nt → StrsN k h → CorOK 1000 mt mx mr mn mh ms ft fx fr fn_ fs ∧ ∀ (n_1 k_1 : Nat) (g_4 h_1 : Nat → Nat → PV), n_1 ≤ mh ∨ n_1 ≤ mt → k_1 ≤ ms ∨ k_1 ≤ mt → StrsN k_1 h_1 → holds (if (0 + n) * 9 ≤ 140737488355328 then some (holds (if (0 + k) * 17 ≤ 140737488355328 then some (holds (if (0 + k + k_1) * 17 ≤ 140737488355328 then some (((n_1 : Int) = (n_1 : Int) ∧ (0 : Int) ≤ (0 : Int) ∧ (0 : Int) ≤ (n_1 : Int) ∧ n_1 ≤ 1000 ∧ (↑(0 + n) : Int) ≤ (1000 : Int)) ∧ ∀ (n' : Nat) (g_5 : Nat → Nat → PV), (↑n' : Int) ≤ (↑(0 + n) : Int) + ((n_1 : Int) - (0 : Int)) → Q (AV.tup [AV.agg [AV.psl 71 3 (cat 0 (fun x_2 x_3 => PV.bad) ga), AV.psl 29 (0 + nt + mt) (cat (0 + nt) (cat 0 (fun x_2 x_3 => PV.bad) gt) ft), AV.psl 105 (0 + nx + mx) g, AV.psl 109 (0 + nr + mr) g_1, AV.psl 117 (0 + nn + mn) g_2, AV.psl 3 n' g_5, AV.psl 9 (0 + k + k_1) (cat (0 + k) (cat 0 (fun x_2 x_3 => PV.bad) h) h_1)], AV.int IntKind.i64 0]) []) else none)) else none)) else none)) (Q (AV.tup [AV.agg [AV.psl 71 3 (cat 0 (fun x_2 x_3 => PV.bad) ga), AV.psl 29 (0 + nt + mt) (cat (0 + nt) (cat 0 (fun x_2 x_3 => PV.bad) gt) ft), AV.psl 105 (0 + nx + mx) g, AV.psl 109 (0 + nr + mr) g_1, AV.psl 117 (0 + nn + mn) g_2, AV.psl 3 0 fun x_2 x_3 => PV.bad, AV.psl 9 0 fun x_2 x_3 => PV.bad], AV.int IntKind.i64 0]) [])) else none)) else none)) else none)) else none)) else none)) else none)) else none)) else none)))))) (Q (AV.tup [AV.agg [AV.psl 71 0 fun x_2 x_3 => PV.bad, AV.psl 29 0 fun x_2 x_3 => PV.bad, AV.psl 105 0 fun x_2 x_3 => PV.bad, AV.psl 109 0 fun x_2 x_3 => PV.bad, AV.psl 117 0 fun x_2 x_3 => PV.bad, AV.psl 3 0 fun x_2 x_3 => PV.bad, AV.psl 9 0 fun x_2 x_3 => PV.bad], AV.int IntKind.i64 1]) [])) (Q (AV.tup [AV.agg [AV.psl 71 0 fun x_1 x_2 => PV.bad, AV.psl 29 0 fun x_1 x_2 => PV.bad, AV.psl 105 0 fun x_1 x_2 => PV.bad, AV.psl 109 0 fun x_1 x_2 => PV.bad, AV.psl 117 0 fun x_1 x_2 => PV.bad, AV.psl 3 0 fun x_1 x_2 => PV.bad, AV.psl 9 0 fun x_1 x_2 => PV.bad], AV.int IntKind.i64 1]) [])) := by kernel_rfl
theorem f45 : FOK cw9 lw6 45 spec45 := by
  intro xs m K0 h
  unfold spec45 at h
  split at h
  · rename_i ga nt gt nx gx nr gr nn gn nh gh ns gs fa mt ft mx fx mr fr mn fn_ mh fh ms fs
    obtain ⟨⟨⟨rfl, c⟩, ⟨rfl, d⟩, b1, b2, b3⟩, _, _⟩ := h
    have ct := c.bt
    have cx := c.bx
    have cr := c.br
    have cn := c.bn
    have ch := c.bh
    have cs := c.bs
    have dt := d.bt
    have dx := d.bx
    have dr := d.br
    have dn := d.bn
    have dh := d.bh
    have ds := d.bs
    have hr : runW ctx cw9 lw6 45 [.agg [.psl 71 3 attrG, .psl 29 nt gt, .psl 105 nx gx, .psl 109 nr gr, .psl 117 nn gn, .psl 3 nh gh, .psl 9 ns gs], .agg [.psl 71 3 attrG, .psl 29 mt ft, .psl 105 mx fx, .psl 109 mr fr, .psl 117 mn fn_, .psl 3 mh fh, .psl 9 ms fs]] []
        (Q45 (fun B => CorOK B nt nx nr nn nh ns gt gx gr gn gs) (fun C => CorOK C mt mx mr mn mh ms ft fx fr fn_ fs) (nt + mt)) := by
      rw [e45]
      (repeat' (first | with_reducible refine brd (fun _ => ?_) (fun _ => ?_) | with_reducible refine holds_if ?_ ?_ | with_reducible refine holds_ifn ?_ ?_ | with_reducible refine holds_some ?_ | with_reducible refine br (fun _ => ?_) (fun _ => ?_) | with_reducible refine And.intro ?_ ?_ | with_reducible refine fun _ => ?_))
      all_goals first
        | omega
        | exact c
        | exact d
        | rfl
        | exact regs_cat (regs_cat regs_nil c.x) d.x
        | exact regs_cat (regs_cat regs_nil c.r) d.r
        | exact Q45_err (by decide)
        | (rw [Nat.zero_add, cat_zero]; exact nodesM_cat c.n d.n)
        | exact Q45_ok (by assumption) (by assumption) (by assumption) (by omega) (by omega) (strs_cat (strs_cat strs_nil (by assumption)) (by assumption))
        | exact Q45_ok (by assumption) (by assumption) (by assumption) (by omega) (by omega) strs_nil
    obtain ⟨r, m', h1, rfl, h2⟩ := lay15.run hr
    rcases h2 with ⟨e, h3, rfl⟩ | ⟨kt, kx, kr, kn, kh, ks, ht, hx, hr, hn, hh, hs, h3, h4, rfl⟩
    · exact ⟨_, _, h1, fun K hK => hK.2.1 e h3⟩
    · exact ⟨_, _, h1, fun K hK => hK.2.2 kt kx kr kn kh ks ht hx hr hn hh hs h3 h4⟩
  · exact h.elim
end Go.Proofs.YtkenjojkpdeooaaGreatDoor
end
section
set_option linter.unusedVariables false
set_option maxRecDepth 100000
set_option maxHeartbeats 2000000
set_option linter.unusedSimpArgs false
set_option linter.constructorNameAsVariable false
namespace Go.Proofs.YtkenjojkpdeooaaGreatDoor
open AI

noncomputable def cw10_ : FuncId → Option AI.Spec := fun f => match f with
  | 45 => some (spec45)
  | _ => none
noncomputable def cw10 : CallW := addF cw10_ cw9
theorem lay16 : Lay Tryz.prog ctx cw10 lw6 := layF lay15 fun f S h => by
  unfold cw10_ at h
  split at h <;> cases h
  · exact f45
theorem regs_at {n : Nat} {g : Nat → Nat → PV} (h : RegsN n g) (i : Int) (h0 : 0 ≤ i) (h1 : i < n) : (g i.toNat 0).s ∈ sig ∧ (g i.toNat 3).n ≤ 1000 ∧ PairsN (g i.toNat 3).n (g i.toNat 3).get := h i.toNat (by omega)
noncomputable def L75_6 : LSpec := fun base s K => match base, s with
  | 0, ⟨[(3, .row 0), (5, .adr 1 0 0), (6, .int .i64 k), (7, .psl 109 n g), (8, .int .i64 n'), (9, .int .i64 x9)], [(0, .prow 109 m gm), (1, .box [.str tn, .int .i64 tb, .int .i64 te, .psl 107 tp tg])], 2⟩ => (n' = n ∧ m ≤ 1000 ∧ RegsN m gm ∧ 0 ≤ k ∧ k ≤ m) ∧ (∀ (y : Int), 0 ≤ y → y ≤ m → K (.exit 2) ⟨[(3, .row 0), (5, .adr 1 0 0), (6, .int .i64 y), (7, .psl 109 n g), (8, .int .i64 n), (9, .int .i64 x9)], [(0, .prow 109 m gm), (1, .box [.str tn, .int .i64 tb, .int .i64 te, .psl 107 tp tg])], 2⟩)
  | _, _ => False
theorem r75_6 (m : Nat) (gm : Nat → Nat → PV) (tn : ByteArray) (tb te : Int) (tp : Nat) (tg : Nat → Nat → PV) (n : Nat) (g : Nat → Nat → PV) (x9 : Int) (k : Int)  (Kn : FS → Prop) (Ke : Ex → FS → Prop) : roundW cw10 lw6 75 0 ⟨[3,5,6,7,8,9], []⟩ (loopB 75 6) ⟨[(3, .row 0), (5, .adr 1 0 0), (6, .int .i64 k), (7, .psl 109 n g), (8, .int .i64 n), (9, .int .i64 x9)], [(0, .prow 109 m gm), (1, .box [.str tn, .int .i64 tb, .int .i64 te, .psl 107 tp tg])], 2⟩ Kn Ke = (brW (decide (k > (0 : Int))) (holds (if (0 : Int) ≤ IntKind.i64.wrap (k - (1 : Int)) then if IntKind.i64.wrap (k - (1 : Int)) < (m : Int) then some ((gm (IntKind.i64.wrap (k - (1 : Int))).toNat 3).n ≤ 1000 ∧ ∀ (x : Int), brW (decide (x > (0 : Int))) (Kn { tmps := [(3, AV.row 0), (5, AV.adr 1 0 0), (6, AV.int IntKind.i64 (IntKind.i64.wrap (k - (1 : Int)))), (7, AV.psl 109 n g), (8, AV.int IntKind.i64 (n : Int)), (9, AV.int IntKind.i64 x9)], mem := [(0, Ob.prow 109 m gm), (1, Ob.box [AV.str tn, AV.int IntKind.i64 tb, AV.int IntKind.i64 te, AV.psl 107 tp tg])], nx := 2 }) (Ke (Ex.exit 2) { tmps := [(3, AV.row 0), (5, AV.adr 1 0 0), (6, AV.int IntKind.i64 k), (7, AV.psl 109 n g), (8, AV.int IntKind.i64 (n : Int)), (9, AV.int IntKind.i64 x9)], mem := [(0, Ob.prow 109 m gm), (1, Ob.box [AV.str tn, AV.int IntKind.i64 tb, AV.int IntKind.i64 te, AV.psl 107 tp tg])], nx := 2 })) else none else none)) (Ke (Ex.exit 2) { tmps := [(3, AV.row 0), (5, AV.adr 1 0 0), (6, AV.int IntKind.i64 k), (7, AV.psl 109 n g), (8, AV.int IntKind.i64 (n : Int)), (9, AV.int IntKind.i64 x9)], mem := [(0, Ob.prow 109 m gm), (1, Ob.box [AV.str tn, AV.int IntKind.i64 tb, AV.int IntKind.i64 te, AV.psl 107 tp tg])], nx := 2 })) := by kernel_rfl
theorem l75_6 : LOK cw10 lw6 75 6 ⟨[3,5,6,7,8,9], []⟩ L75_6 := by
  intro base s K h
  unfold L75_6 at h
  split at h
  · rename_i kz n g n' x9 m gm tn tb te tp tg
    obtain ⟨⟨rfl, p0, p1, v0, v1⟩, k1⟩ := h
    refine ⟨(kz + 1).toNat, loop_rule (fun N s => ∃ (k : Int), s = (⟨[(3, .row 0), (5, .adr 1 0 0), (6, .int .i64 k), (7, .psl 109 n g), (8, .int .i64 n), (9, .int .i64 x9)], [(0, .prow 109 m gm), (1, .box [.str tn, .int .i64 tb, .int .i64 te, .psl 107 tp tg])], 2⟩ : FS) ∧ 0 ≤ k ∧ k ≤ m ∧ k + 1 ≤ (N : Int)) ?_ ?_ _ _ ⟨kz, rfl, v0, v1, by omega⟩⟩
    · rintro s ⟨k, _, i0, i1, iN⟩; omega
    · rintro N Kn hKn s ⟨k, rfl, i0, i1, iN⟩
      rw [r75_6]
      try rw [show IntKind.i64.wrap (k - 1) = k - 1 from wrap_id (by omega) (by omega)]
      (repeat' (first | with_reducible refine brd (fun _ => ?_) (fun _ => ?_) | with_reducible refine holds_if ?_ ?_ | with_reducible refine holds_ifn ?_ ?_ | with_reducible refine holds_some ?_ | with_reducible refine br (fun _ => ?_) (fun _ => ?_) | with_reducible refine And.intro ?_ ?_ | with_reducible refine fun _ => ?_))
      all_goals first
        | omega
        | exact trivial
        | exact k1
        | exact k1 _
        | exact k1 _ _
        | exact k1 _ _ _
        | exact hKn _ ⟨_, rfl, i0, i1, by omega⟩
        | exact k1 _ i0 i1
        | exact (regs_at p1 (k - 1) (by omega) (by omega)).2.1
        | exact hKn _ ⟨_, rfl, by omega, by omega, by omega⟩
  · exact h.elim
def RegP (r : Nat → PV) : Prop := (r 0).s ∈ sig ∧ (r 3).n ≤ 1000 ∧ PairsN (r 3).n (r 3).get
theorem copy_row (n : Nat) (g : Nat → Nat → PV) (lo len : Nat) (g2 : Nat → Nat → PV) (j : Nat) : copyRow n g lo len g2 j = if lo ≤ j ∧ j < lo + len then g2 (j - lo) else g j := by
  funext k
  unfold copyRow
  by_cases hj : lo ≤ j ∧ j < lo + len
  · rw [if_pos hj, if_pos hj]
  · rw [if_neg hj, if_neg hj]
theorem all_copy {P : (Nat → PV) → Prop} {n lo len : Nat} {g g2 : Nat → Nat → PV} (h1 : ∀ j, j < n → P (g j)) (h2 : ∀ j, j < len → P (g2 j)) : ∀ j, j < n → P (copyRow n g lo len g2 j) := by
  intro j hj
  rw [copy_row]
  by_cases hl : lo ≤ j ∧ j < lo + len
  · rw [if_pos hl]; exact h2 _ (by omega)
  · rw [if_neg hl]; exact h1 j hj
def zero4 : Nat → Nat → PV := fun i j => [PV.str (strL []), PV.int 0, PV.int 0, PV.sl 0 fun _ _ => PV.bad].getD (i * 4 + j) PV.bad
theorem zero4_ok : RegsN 1 zero4 := by
  intro j hj
  obtain rfl : j = 0 := by omega
  exact ⟨nil_sig, Nat.zero_le _, fun k hk => absurd hk (Nat.not_lt_zero k)⟩
theorem set4 (g : Nat → Nat → PV) (i : Nat) (a b c d : PV) (j : Nat) : setRow g i 0 [a, b, c, d] j 0 = (if j = i then a else g j 0) ∧ setRow g i 0 [a, b, c, d] j 3 = (if j = i then d else g j 3) := by
  unfold setRow
  by_cases hj : j = i
  · rw [if_pos hj, if_pos hj, if_pos hj, if_pos hj]; exact ⟨rfl, rfl⟩
  · rw [if_neg hj, if_neg hj, if_neg hj, if_neg hj]; exact ⟨rfl, rfl⟩
theorem regs_set4 {n : Nat} {g : Nat → Nat → PV} {i : Nat} {a b c d : PV} (h : RegsN n g) (ha : a.s ∈ sig) (hd : d.n ≤ 1000) (hp : PairsN d.n d.get) : RegsN n (setRow g i 0 [a, b, c, d]) := by
  intro j hj
  rw [(set4 g i a b c d j).1, (set4 g i a b c d j).2]
  by_cases e : j = i
  · rw [if_pos e, if_pos e]; exact ⟨ha, hd, hp⟩
  · rw [if_neg e, if_neg e]; exact h j hj
theorem regs_ins {m n : Nat} {gm g : Nat → Nat → PV} {y i : Int} {b c : PV} (h : RegsN m gm) (h0 : 0 ≤ y) (h1 : y ≤ m) (hm : m ≤ 1000) (hg : RegsN n g) (hi : 0 ≤ i) (hn : i < n) :
    RegsN (m + 1) (setRow (copyRow (m + 1) (cat m gm zero4) (IntKind.i64.wrap (y + 1)).toNat (min (m + 1 - y.toNat) (m + 1 - (IntKind.i64.wrap (y + 1)).toNat)) fun i_1 j => cat m gm zero4 (y.toNat + i_1) j) y.toNat 0
      [PV.str (g i.toNat 0).s, b, c, PV.sl (g i.toNat 3).n (g i.toNat 3).get]) := by
  have hz : RegsN (m + 1) (cat m gm zero4) := regs_cat h zero4_ok
  refine regs_set4 ?_ (regs_at hg i hi hn).1 (regs_at hg i hi hn).2.1 (regs_at hg i hi hn).2.2
  exact all_copy (P := RegP) hz fun j hj => hz (y.toNat + j) (by omega)
noncomputable def lw7_ : FuncId → Nat → Option (Hint × LSpec) := fun f rid => match f, rid with
  | 75, 6 => some (⟨[3,5,6,7,8,9], []⟩, L75_6)
  | _, _ => none
noncomputable def lw7 : LoopW := addL lw7_ lw6
theorem lay17 : Lay Tryz.prog ctx cw10 lw7 := layL lay16 fun f rid p h => by
  unfold lw7_ at h
  split at h <;> cases h
  · exact ⟨by kernel_rfl, l75_6⟩
noncomputable def L75_3 : LSpec := fun base s K => match base, s with
  | 0, ⟨[(3, .row 0), (7, .psl 109 n g), (8, .int .i64 n'), (9, .int .i64 i)], [(0, .prow 109 m gm)], 1⟩ => (n' = n ∧ 0 ≤ i ∧ i ≤ n ∧ n ≤ 999 ∧ RegsN n g ∧ RegsN m gm ∧ (m : Int) ≤ i) ∧ (∀ (m' : Nat) g, m' ≤ n → RegsN m' g → K (.exit 0) ⟨[(3, .row 0)], [(0, .prow 109 m' g)], 1⟩)
  | _, _ => False
theorem r75_3 (n : Nat) (g : Nat → Nat → PV) (m : Nat) (gm : Nat → Nat → PV) (i : Int) (Kn : FS → Prop) (Ke : Ex → FS → Prop) : roundW cw10 lw7 75 0 ⟨[3], []⟩ (loopB 75 3) ⟨[(3, .row 0), (7, .psl 109 n g), (8, .int .i64 n), (9, .int .i64 i)], [(0, .prow 109 m gm)], 1⟩ Kn Ke = (brW (decide (i < (n : Int))) (holds (if (0 : Int) ≤ i then if i < (n : Int) then some (((n : Int) = (n : Int) ∧ m ≤ 1000 ∧ RegsN m gm ∧ (0 : Int) ≤ (m : Int) ∧ (m : Int) ≤ (m : Int)) ∧ ∀ (y : Int), (0 : Int) ≤ y → y ≤ (m : Int) → holds (if (m + 1) * 57 ≤ 140737488355328 then some (holds (if (0 : Int) ≤ IntKind.i64.wrap (y + (1 : Int)) then if IntKind.i64.wrap (y + (1 : Int)) ≤ (↑(m + 1) : Int) then some (holds (if (0 : Int) ≤ y then if y ≤ (↑(m + 1) : Int) then some (holds (if (0 : Int) ≤ y then if y < (↑(m + 1) : Int) then some (Kn { tmps := [(3, AV.row 0), (7, AV.psl 109 n g), (8, AV.int IntKind.i64 (n : Int)), (9, AV.int IntKind.i64 (IntKind.i64.wrap (i + (1 : Int))))], mem := [(0, Ob.prow 109 (m + 1) (setRow (copyRow (m + 1) (cat m gm fun i_1 j => [PV.str (strL []), PV.int 0, PV.int 0, PV.sl 0 fun x x_1 => PV.bad].getD (i_1 * 4 + j) PV.bad) (IntKind.i64.wrap (y + (1 : Int))).toNat (min (m + 1 - y.toNat) (m + 1 - (IntKind.i64.wrap (y + (1 : Int))).toNat)) fun i_1 j => cat m gm (fun i_2 j_1 => [PV.str (strL []), PV.int 0, PV.int 0, PV.sl 0 fun x x_1 => PV.bad].getD (i_2 * 4 + j_1) PV.bad) (y.toNat + i_1) j) y.toNat 0 [PV.str (g i.toNat 0).s, PV.int (g i.toNat 1).i, PV.int (g i.toNat 2).i, PV.sl (g i.toNat 3).n (g i.toNat 3).get]))], nx := 1 }) else none else none)) else none else none)) else none else none)) else none)) else none else none)) (Ke (Ex.exit 0) { tmps := [(3, AV.row 0)], mem := [(0, Ob.prow 109 m gm)], nx := 1 })) := by kernel_rfl
theorem l75_3 : LOK cw10 lw7 75 3 ⟨[3], []⟩ L75_3 := by
  intro base s K h
  unfold L75_3 at h
  split at h
  · rename_i n g n' iz mz gmz
    obtain ⟨⟨rfl, a0, a1, p0, p1, v0, v1⟩, k1⟩ := h
    refine ⟨((n : Int) - iz + 1).toNat, loop_rule (fun N s => ∃ (m : Nat) (gm : Nat → Nat → PV) (i : Int), s = (⟨[(3, .row 0), (7, .psl 109 n g), (8, .int .i64 n), (9, .int .i64 i)], [(0, .prow 109 m gm)], 1⟩ : FS) ∧ 0 ≤ i ∧ i ≤ n ∧ RegsN m gm ∧ (m : Int) ≤ i ∧ (n : Int) - i + 1 ≤ (N : Int)) ?_ ?_ _ _ ⟨mz, gmz, iz, rfl, a0, a1, v0, v1, by omega⟩⟩
    · rintro s ⟨m, gm, i, _, i0, i1, i2, i3, iN⟩; omega
    · rintro N Kn hKn s ⟨m, gm, i, rfl, i0, i1, i2, i3, iN⟩
      rw [r75_3]
      try rw [wrap_succ i0 (by omega)]
      (repeat' (first | with_reducible refine brd (fun _ => ?_) (fun _ => ?_) | with_reducible refine holds_if ?_ ?_ | with_reducible refine holds_ifn ?_ ?_ | with_reducible refine holds_some ?_ | with_reducible refine br (fun _ => ?_) (fun _ => ?_) | with_reducible refine And.intro ?_ ?_ | with_reducible refine fun _ => ?_))
      all_goals first
        | omega
        | exact trivial
        | exact k1
        | exact k1 _
        | exact k1 _ _
        | exact k1 _ _ _
        | exact hKn _ ⟨_, _, i + 1, rfl, by omega, by omega, i2, i3, by omega⟩
        | exact k1 _ _ (by omega) i2
        | exact i2
        | (rw [wrap_succ (by assumption) (by omega)]; omega)
        | exact hKn _ ⟨_, _, i + 1, rfl, by omega, by omega, regs_ins i2 (by assumption) (by assumption) (by omega) p1 i0 (by omega), by omega, by omega⟩
  · exact h.elim
noncomputable def lw8_ : FuncId → Nat → Option (Hint × LSpec) := fun f rid => match f, rid with
  | 75, 3 => some (⟨[3], []⟩, L75_3)
  | _, _ => none
noncomputable def lw8 : LoopW := addL lw8_ lw7
theorem lay18 : Lay Tryz.prog ctx cw10 lw8 := layL lay17 fun f rid p h => by
  unfold lw8_ at h
  split at h <;> cases h
  · exact ⟨by kernel_rfl, l75_3⟩
/-- SortRegions. -/
noncomputable def spec75 : AI.Spec := fun xs m K => match xs, m with
  | [.psl 109 n g], [] => (n ≤ 999 ∧ RegsN n g) ∧ ∀ (m' : Nat) g', m' ≤ n → RegsN m' g' → K (.psl 109 m' g') []
  | _, _ => False
theorem e75 (n : Nat) (g : Nat → Nat → PV) (Q : AV → Mem → Prop) : runW ctx cw10 lw8 75 [.psl 109 n g] [] Q = (((n : Int) = (n : Int) ∧ (0 : Int) ≤ (0 : Int) ∧ (0 : Int) ≤ (n : Int) ∧ n ≤ 999 ∧ RegsN n g ∧ (RegsN 0 fun x x_1 => PV.bad) ∧ (0 : Int) ≤ (0 : Int)) ∧ ∀ (m' : Nat) (g_1 : Nat → Nat → PV), m' ≤ n → RegsN m' g_1 → Q (AV.psl 109 m' g_1) []) := by kernel_rfl
theorem f75 : FOK cw10 lw8 75 spec75 := by
  intro xs m K0 h
  unfold spec75 at h
  split at h
  · rename_i n g
    obtain ⟨⟨b1, b2⟩, _⟩ := h
    have hr : runW ctx cw10 lw8 75 [.psl 109 n g] [] (fun r m => ∃ (m' : Nat) (g' : Nat → Nat → PV), m' ≤ n ∧ RegsN m' g' ∧ r = .psl 109 m' g' ∧ m = []) := by
      rw [e75]
      (repeat' (first | with_reducible refine brd (fun _ => ?_) (fun _ => ?_) | with_reducible refine holds_if ?_ ?_ | with_reducible refine holds_ifn ?_ ?_ | with_reducible refine holds_some ?_ | with_reducible refine br (fun _ => ?_) (fun _ => ?_) | with_reducible refine And.intro ?_ ?_ | with_reducible refine fun _ => ?_))
      all_goals first
        | omega
        | assumption
        | rfl
        | exact regs_nil
        | exact ⟨_, _, by assumption, by assumption, rfl, rfl⟩
    obtain ⟨r, m', h1, m2, g2, h2, h3, rfl, rfl⟩ := lay18.run hr
    exact ⟨_, _, h1, fun K hK => hK.2 m2 g2 h2 h3⟩
  · exact h.elim
noncomputable def cw11_ : FuncId → Option AI.Spec := fun f => match f with
  | 75 => some (spec75)
  | _ => none
noncomputable def cw11 : CallW := addF cw11_ cw10
theorem lay19 : Lay Tryz.prog ctx cw11 lw8 := layF lay18 fun f S h => by
  unfold cw11_ at h
  split at h <;> cases h
  · exact f75
end Go.Proofs.YtkenjojkpdeooaaGreatDoor
end
