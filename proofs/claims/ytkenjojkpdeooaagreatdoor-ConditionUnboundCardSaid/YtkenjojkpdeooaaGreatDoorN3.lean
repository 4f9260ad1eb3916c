/- Document: its loops. · Document: the regions' loops. · Document: the regions. · nodes, heads: their loops. · heads: its loops. -/
import Derived.Test.YtkenjojkpdeooaaGreatDoorN2
section
set_option linter.unusedVariables false
set_option maxRecDepth 100000
set_option maxHeartbeats 2000000
set_option linter.unusedSimpArgs false
set_option linter.constructorNameAsVariable false
namespace Go.Proofs.YtkenjojkpdeooaaGreatDoor
open AI

theorem row_ok {x y z : ByteArray} (hx : x ∈ words) (hy : y ∈ tags) (hz : z ∈ feats) {g : Nat → Nat → PV} (h : g = fun i j => [PV.str x, PV.str y, PV.str z].getD (i * 1 + j) .bad) : RowOK (.sl 3 g) := by
  subst h
  exact ⟨rfl, hx, hy, hz⟩
theorem toks_one {p : PV} (h : RowOK p) : ToksN 1 (fun i j => [p].getD (i * 1 + j) .bad) := by
  intro j hj
  obtain rfl : j = 0 := by omega
  exact h
theorem tmod_lt {x y : Int} (h : 0 ≤ x) (hy : 0 < y) : 0 ≤ x.tmod y ∧ x.tmod y < y := ⟨Int.tmod_nonneg _ h, Int.tmod_lt_of_pos _ hy⟩
theorem tdiv_lt {x y z : Int} (h : 0 ≤ x) (hy : 0 < y) (hx : x < z * y) : 0 ≤ x.tdiv y ∧ x.tdiv y < z := by
  rw [Int.tdiv_eq_ediv_of_nonneg h]
  exact ⟨Int.ediv_nonneg h (by omega), Int.ediv_lt_of_lt_mul hy hx⟩
theorem tab8 (r : Nat) (h : r < 8) : 0 ≤ ([PV.int 0, PV.int 1, PV.int 0, PV.int 2, PV.int 3, PV.int 4, PV.int 1, PV.int 5].getD (r * 1 + 0) PV.bad).i ∧ ([PV.int 0, PV.int 1, PV.int 0, PV.int 2, PV.int 3, PV.int 4, PV.int 1, PV.int 5].getD (r * 1 + 0) PV.bad).i < ((words.length : Nat) : Int) := by
  match r, h with
  | 0, _ => decide
  | 1, _ => decide
  | 2, _ => decide
  | 3, _ => decide
  | 4, _ => decide
  | 5, _ => decide
  | 6, _ => decide
  | 7, _ => decide
theorem word_ix {r : Int} (h : 0 ≤ r) : 0 ≤ ([PV.int 0, PV.int 1, PV.int 0, PV.int 2, PV.int 3, PV.int 4, PV.int 1, PV.int 5].getD ((r.tmod 8).toNat * 1 + 0) PV.bad).i ∧ ([PV.int 0, PV.int 1, PV.int 0, PV.int 2, PV.int 3, PV.int 4, PV.int 1, PV.int 5].getD ((r.tmod 8).toNat * 1 + 0) PV.bad).i < ((words.length : Nat) : Int) :=
  tab8 _ (by have := tmod_lt (y := 8) h (by decide); omega)
theorem tag_ix {r : Int} (h : 0 ≤ r) (h1 : r < 48) : 0 ≤ (IntKind.i64.wrap (r.tdiv 8)).tmod 2 ∧ (IntKind.i64.wrap (r.tdiv 8)).tmod 2 < ((tags.length : Nat) : Int) := by
  have q := tdiv_lt (y := 8) (z := 6) h (by decide) (by omega)
  rw [wrap_id (by omega) (by omega)]
  exact tmod_lt q.1 (by decide)
theorem feat_ix {r : Int} (h : 0 ≤ r) (h1 : r < 48) : 0 ≤ IntKind.i64.wrap (r.tdiv 12) ∧ IntKind.i64.wrap (r.tdiv 12) < ((feats.length : Nat) : Int) := by
  have q := tdiv_lt (y := 12) (z := 4) h (by decide) (by omega)
  rw [wrap_id (by omega) (by omega)]
  exact q
noncomputable def L44_6 : LSpec := fun base s K => match base, s with
  | 1, ⟨[(0, .adr 0 0 0), (6, .adr 1 0 0), (7, .int .i64 n), (8, .adr 2 0 0), (9, .int .i64 i)], [(0, .box [.psl 3 len g, .int .i64 (.ofNat a)]), (1, .box [.nils, .nils, .nils, .nils, .nils, .nils, .nils]), (2, .box [.psl 71 3 ga, .row 3, .row 4, .nils, .nils, .nils, .nils]), (3, .prow 29 m gm), (4, .prow 105 1 gx)], 6⟩ => (0 ≤ i ∧ i ≤ n ∧ n ≤ 1000 ∧ len ≤ 120 ∧ a ≤ len ∧ (m : Int) = i ∧ ToksN m gm) ∧ (∀ (a' m' : Nat) g', a' ≤ len → (m' : Int) = n → ToksN m' g' → K (.exit 0) ⟨[(0, .adr 0 0 0), (6, .adr 1 0 0), (7, .int .i64 n), (8, .adr 2 0 0)], [(0, .box [.psl 3 len g, .int .i64 (.ofNat a')]), (1, .box [.nils, .nils, .nils, .nils, .nils, .nils, .nils]), (2, .box [.psl 71 3 ga, .row 3, .row 4, .nils, .nils, .nils, .nils]), (3, .prow 29 m' g'), (4, .prow 105 1 gx)], 6⟩)
  | _, _ => False
theorem r44_6 (n : Int) (len : Nat) (g : Nat → Nat → PV) (ga gx : Nat → Nat → PV) (a m : Nat) (gm : Nat → Nat → PV) (i : Int) (Kn : FS → Prop) (Ke : Ex → FS → Prop) : roundW cw11 lw8 44 1 ⟨[0,6,7,8], [(8, 2, 29)]⟩ (loopB 44 6) ⟨[(0, .adr 0 0 0), (6, .adr 1 0 0), (7, .int .i64 n), (8, .adr 2 0 0), (9, .int .i64 i)], [(0, .box [.psl 3 len g, .int .i64 (.ofNat a)]), (1, .box [.nils, .nils, .nils, .nils, .nils, .nils, .nils]), (2, .box [.psl 71 3 ga, .row 3, .row 4, .nils, .nils, .nils, .nils]), (3, .prow 29 m gm), (4, .prow 105 1 gx)], 6⟩ Kn Ke = (brW (decide (i < n)) (((1 : Int) ≤ (48 : Int) ∧ (48 : Int) ≤ (4611686018427387904 : Int) ∧ a ≤ len ∧ len ≤ 120) ∧ ∀ (r : Int) (a' : Nat), (0 : Int) ≤ r → r < (48 : Int) → a' ≤ len → holds (if (0 : Int) ≤ r.tmod (8 : Int) then if r.tmod (8 : Int) < (8 : Int) then some (((0 : Int) ≤ ([PV.int 0, PV.int 1, PV.int 0, PV.int 2, PV.int 3, PV.int 4, PV.int 1, PV.int 5].getD ((r.tmod (8 : Int)).toNat * 1 + 0) PV.bad).i ∧ ([PV.int 0, PV.int 1, PV.int 0, PV.int 2, PV.int 3, PV.int 4, PV.int 1, PV.int 5].getD ((r.tmod (8 : Int)).toNat * 1 + 0) PV.bad).i < (↑words.length : Int)) ∧ ∀ (s : ByteArray), s ∈ words → ((0 : Int) ≤ (IntKind.i64.wrap (r.tdiv (8 : Int))).tmod (2 : Int) ∧ (IntKind.i64.wrap (r.tdiv (8 : Int))).tmod (2 : Int) < (↑tags.length : Int)) ∧ ∀ (s_1 : ByteArray), s_1 ∈ tags → ((0 : Int) ≤ IntKind.i64.wrap (r.tdiv (12 : Int)) ∧ IntKind.i64.wrap (r.tdiv (12 : Int)) < (↑feats.length : Int)) ∧ ∀ (s_2 : ByteArray), s_2 ∈ feats → holds (if (m + 1) * 25 ≤ 140737488355328 then some (Kn { tmps := [(0, AV.adr 0 0 0), (6, AV.adr 1 0 0), (7, AV.int IntKind.i64 n), (8, AV.adr 2 0 0), (9, AV.int IntKind.i64 (IntKind.i64.wrap (i + (1 : Int))))], mem := [(0, Ob.box [AV.psl 3 len g, AV.int IntKind.i64 (↑a' : Int)]), (1, Ob.box [AV.nils, AV.nils, AV.nils, AV.nils, AV.nils, AV.nils, AV.nils]), (2, Ob.box [AV.psl 71 3 ga, AV.row 3, AV.row 4, AV.nils, AV.nils, AV.nils, AV.nils]), (3, Ob.prow 29 (m + 1) (cat m gm fun i_1 j => [PV.sl 3 fun i_2 j_1 => [PV.str s, PV.str s_1, PV.str s_2].getD (i_2 * 1 + j_1) PV.bad].getD (i_1 * 1 + j) PV.bad)), (4, Ob.prow 105 1 gx)], nx := 6 }) else none)) else none else none)) (Ke (Ex.exit 0) { tmps := [(0, AV.adr 0 0 0), (6, AV.adr 1 0 0), (7, AV.int IntKind.i64 n), (8, AV.adr 2 0 0)], mem := [(0, Ob.box [AV.psl 3 len g, AV.int IntKind.i64 (a : Int)]), (1, Ob.box [AV.nils, AV.nils, AV.nils, AV.nils, AV.nils, AV.nils, AV.nils]), (2, Ob.box [AV.psl 71 3 ga, AV.row 3, AV.row 4, AV.nils, AV.nils, AV.nils, AV.nils]), (3, Ob.prow 29 m gm), (4, Ob.prow 105 1 gx)], nx := 6 })) := by kernel_rfl
theorem l44_6 : LOK cw11 lw8 44 6 ⟨[0,6,7,8], [(8, 2, 29)]⟩ L44_6 := by
  intro base s K h
  unfold L44_6 at h
  split at h
  · rename_i n iz len g az ga mz gmz gx
    obtain ⟨⟨a0, a1, p0, p1, v0, v1, v2⟩, k1⟩ := h
    refine ⟨((n : Int) - iz + 1).toNat, loop_rule (fun N s => ∃ (a m : Nat) (gm : Nat → Nat → PV) (i : Int), s = (⟨[(0, .adr 0 0 0), (6, .adr 1 0 0), (7, .int .i64 n), (8, .adr 2 0 0), (9, .int .i64 i)], [(0, .box [.psl 3 len g, .int .i64 (.ofNat a)]), (1, .box [.nils, .nils, .nils, .nils, .nils, .nils, .nils]), (2, .box [.psl 71 3 ga, .row 3, .row 4, .nils, .nils, .nils, .nils]), (3, .prow 29 m gm), (4, .prow 105 1 gx)], 6⟩ : FS) ∧ 0 ≤ i ∧ i ≤ n ∧ a ≤ len ∧ (m : Int) = i ∧ ToksN m gm ∧ (n : Int) - i + 1 ≤ (N : Int)) ?_ ?_ _ _ ⟨az, mz, gmz, iz, rfl, a0, a1, v0, v1, v2, by omega⟩⟩
    · rintro s ⟨a, m, gm, i, _, i0, i1, i2, i3, i4, iN⟩; omega
    · rintro N Kn hKn s ⟨a, m, gm, i, rfl, i0, i1, i2, i3, i4, iN⟩
      rw [r44_6]
      try rw [wrap_succ i0 (by omega)]
      (repeat' (first | with_reducible refine brd (fun _ => ?_) (fun _ => ?_) | with_reducible refine holds_if ?_ ?_ | with_reducible refine holds_ifn ?_ ?_ | with_reducible refine holds_some ?_ | with_reducible refine br (fun _ => ?_) (fun _ => ?_) | with_reducible refine And.intro ?_ ?_ | with_reducible refine fun _ => ?_))
      all_goals first
        | omega
        | exact trivial
        | exact k1
        | exact k1 _
        | exact k1 _ _
        | exact k1 _ _ _
        | exact hKn _ ⟨_, _, _, i + 1, rfl, by omega, by omega, i2, i3, i4, by omega⟩
        | exact k1 _ _ _ (by omega) (by omega) (by assumption)
        | exact (tmod_lt (by assumption) (by decide)).1
        | exact (tmod_lt (by assumption) (by decide)).2
        | exact (word_ix (by assumption)).1
        | exact (word_ix (by assumption)).2
        | exact (tag_ix (by assumption) (by assumption)).1
        | exact (tag_ix (by assumption) (by assumption)).2
        | exact (feat_ix (by assumption) (by assumption)).1
        | exact (feat_ix (by assumption) (by assumption)).2
        | exact hKn _ ⟨_, _, _, i + 1, rfl, by omega, by omega, by omega, by omega, toks_cat (by assumption) (toks_one (row_ok (by assumption) (by assumption) (by assumption) rfl)), by omega⟩
  · exact h.elim
noncomputable def lw9_ : FuncId → Nat → Option (Hint × LSpec) := fun f rid => match f, rid with
  | 44, 6 => some (⟨[0,6,7,8], [(8, 2, 29)]⟩, L44_6)
  | _, _ => none
noncomputable def lw9 : LoopW := addL lw9_ lw8
theorem lay20 : Lay Tryz.prog ctx cw11 lw9 := layL lay19 fun f rid p h => by
  unfold lw9_ at h
  split at h <;> cases h
  · exact ⟨by kernel_rfl, l44_6⟩
end Go.Proofs.YtkenjojkpdeooaaGreatDoor
end
section
set_option linter.unusedVariables false
set_option maxRecDepth 100000
set_option maxHeartbeats 2000000
set_option linter.unusedSimpArgs false
set_option linter.constructorNameAsVariable false
namespace Go.Proofs.YtkenjojkpdeooaaGreatDoor
open AI

/-- A loop whose head has one of two forms. -/
def twoL (n1 : Nat) (S1 : LSpec) (n2 : Nat) (S2 : LSpec) : LSpec := fun base s K => match Nat.beq s.nx n1 with
  | true => S1 base s K
  | false => match Nat.beq s.nx n2 with
    | true => S2 base s K
    | false => False
theorem lok_two {cw : CallW} {lw : LoopW} {f rid : Nat} {hx : Hint} {n1 n2 : Nat} {S1 S2 : LSpec} (h1 : LOK cw lw f rid hx S1) (h2 : LOK cw lw f rid hx S2) : LOK cw lw f rid hx (twoL n1 S1 n2 S2) := by
  intro base s K h
  unfold twoL at h
  split at h
  · exact h1 base s K h
  · split at h
    · exact h2 base s K h
    · exact h.elim
noncomputable def L44_20a : LSpec := fun base s K => match base, s with
  | 1, ⟨[(0, .adr 0 0 0), (6, .adr 1 0 0), (7, .int .i64 n), (8, .adr 2 0 0), (11, .row 3), (12, .int .i64 k), (14, .adr 4 0 0), (15, .bool b), (101, .row 3), (102, .int .i64 mr'), (103, .int .i64 i)], [(0, .box [.psl 3 len g, .int .i64 (.ofNat a)]), (1, .box [.nils, .nils, .nils, .nils, .nils, .nils, .nils]), (2, .box [.psl 71 3 ga, .row 5, .row 6, .nils, .nils, .nils, .nils]), (3, .prow 109 mr gr), (4, .box [.str st, .int .i64 r, .int .i64 e, .nils]), (5, .prow 29 m gm), (6, .prow 105 1 gx)], 8⟩ => (mr' = mr ∧ 0 ≤ i ∧ i ≤ mr ∧ mr ≤ 1000) ∧ (∀ b', K (.exit 4) ⟨[(0, .adr 0 0 0), (6, .adr 1 0 0), (7, .int .i64 n), (8, .adr 2 0 0), (11, .row 3), (12, .int .i64 k), (14, .adr 4 0 0), (15, .bool b')], [(0, .box [.psl 3 len g, .int .i64 (.ofNat a)]), (1, .box [.nils, .nils, .nils, .nils, .nils, .nils, .nils]), (2, .box [.psl 71 3 ga, .row 5, .row 6, .nils, .nils, .nils, .nils]), (3, .prow 109 mr gr), (4, .box [.str st, .int .i64 r, .int .i64 e, .nils]), (5, .prow 29 m gm), (6, .prow 105 1 gx)], 8⟩)
  | _, _ => False
theorem r44_20a (n k r e : Int) (st : ByteArray) (len mr m a : Nat) (g ga gr gm gx : Nat → Nat → PV) (b : Bool) (i : Int) (Kn : FS → Prop) (Ke : Ex → FS → Prop) : roundW cw11 lw9 44 1 ⟨[0,6,7,8,11,12,14,15], []⟩ (loopB 44 20) ⟨[(0, .adr 0 0 0), (6, .adr 1 0 0), (7, .int .i64 n), (8, .adr 2 0 0), (11, .row 3), (12, .int .i64 k), (14, .adr 4 0 0), (15, .bool b), (101, .row 3), (102, .int .i64 mr), (103, .int .i64 i)], [(0, .box [.psl 3 len g, .int .i64 (.ofNat a)]), (1, .box [.nils, .nils, .nils, .nils, .nils, .nils, .nils]), (2, .box [.psl 71 3 ga, .row 5, .row 6, .nils, .nils, .nils, .nils]), (3, .prow 109 mr gr), (4, .box [.str st, .int .i64 r, .int .i64 e, .nils]), (5, .prow 29 m gm), (6, .prow 105 1 gx)], 8⟩ Kn Ke = (brW (decide (i < (mr : Int))) (holds (if (0 : Int) ≤ i then if i < (mr : Int) then some (brW b (Kn { tmps := [(0, AV.adr 0 0 0), (6, AV.adr 1 0 0), (7, AV.int IntKind.i64 n), (8, AV.adr 2 0 0), (11, AV.row 3), (12, AV.int IntKind.i64 k), (14, AV.adr 4 0 0), (15, AV.bool true), (101, AV.row 3), (102, AV.int IntKind.i64 (mr : Int)), (103, AV.int IntKind.i64 (IntKind.i64.wrap (i + (1 : Int))))], mem := [(0, Ob.box [AV.psl 3 len g, AV.int IntKind.i64 (a : Int)]), (1, Ob.box [AV.nils, AV.nils, AV.nils, AV.nils, AV.nils, AV.nils, AV.nils]), (2, Ob.box [AV.psl 71 3 ga, AV.row 5, AV.row 6, AV.nils, AV.nils, AV.nils, AV.nils]), (3, Ob.prow 109 mr gr), (4, Ob.box [AV.str st, AV.int IntKind.i64 r, AV.int IntKind.i64 e, AV.nils]), (5, Ob.prow 29 m gm), (6, Ob.prow 105 1 gx)], nx := 8 }) (brW ((gr i.toNat 0).s.toList == st.toList) (brW (decide ((gr i.toNat 1).i < e)) (brW (decide (r < (gr i.toNat 2).i)) (brW (decide ((gr i.toNat 1).i ≤ r)) (brW (decide (e ≤ (gr i.toNat 2).i)) (Kn { tmps := [(0, AV.adr 0 0 0), (6, AV.adr 1 0 0), (7, AV.int IntKind.i64 n), (8, AV.adr 2 0 0), (11, AV.row 3), (12, AV.int IntKind.i64 k), (14, AV.adr 4 0 0), (15, AV.bool false), (101, AV.row 3), (102, AV.int IntKind.i64 (mr : Int)), (103, AV.int IntKind.i64 (IntKind.i64.wrap (i + (1 : Int))))], mem := [(0, Ob.box [AV.psl 3 len g, AV.int IntKind.i64 (a : Int)]), (1, Ob.box [AV.nils, AV.nils, AV.nils, AV.nils, AV.nils, AV.nils, AV.nils]), (2, Ob.box [AV.psl 71 3 ga, AV.row 5, AV.row 6, AV.nils, AV.nils, AV.nils, AV.nils]), (3, Ob.prow 109 mr gr), (4, Ob.box [AV.str st, AV.int IntKind.i64 r, AV.int IntKind.i64 e, AV.nils]), (5, Ob.prow 29 m gm), (6, Ob.prow 105 1 gx)], nx := 8 }) (brW (decide (r ≤ (gr i.toNat 1).i)) (brW (decide ((gr i.toNat 2).i ≤ e)) (Kn { tmps := [(0, AV.adr 0 0 0), (6, AV.adr 1 0 0), (7, AV.int IntKind.i64 n), (8, AV.adr 2 0 0), (11, AV.row 3), (12, AV.int IntKind.i64 k), (14, AV.adr 4 0 0), (15, AV.bool false), (101, AV.row 3), (102, AV.int IntKind.i64 (mr : Int)), (103, AV.int IntKind.i64 (IntKind.i64.wrap (i + (1 : Int))))], mem := [(0, Ob.box [AV.psl 3 len g, AV.int IntKind.i64 (a : Int)]), (1, Ob.box [AV.nils, AV.nils, AV.nils, AV.nils, AV.nils, AV.nils, AV.nils]), (2, Ob.box [AV.psl 71 3 ga, AV.row 5, AV.row 6, AV.nils, AV.nils, AV.nils, AV.nils]), (3, Ob.prow 109 mr gr), (4, Ob.box [AV.str st, AV.int IntKind.i64 r, AV.int IntKind.i64 e, AV.nils]), (5, Ob.prow 29 m gm), (6, Ob.prow 105 1 gx)], nx := 8 }) (Kn { tmps := [(0, AV.adr 0 0 0), (6, AV.adr 1 0 0), (7, AV.int IntKind.i64 n), (8, AV.adr 2 0 0), (11, AV.row 3), (12, AV.int IntKind.i64 k), (14, AV.adr 4 0 0), (15, AV.bool true), (101, AV.row 3), (102, AV.int IntKind.i64 (mr : Int)), (103, AV.int IntKind.i64 (IntKind.i64.wrap (i + (1 : Int))))], mem := [(0, Ob.box [AV.psl 3 len g, AV.int IntKind.i64 (a : Int)]), (1, Ob.box [AV.nils, AV.nils, AV.nils, AV.nils, AV.nils, AV.nils, AV.nils]), (2, Ob.box [AV.psl 71 3 ga, AV.row 5, AV.row 6, AV.nils, AV.nils, AV.nils, AV.nils]), (3, Ob.prow 109 mr gr), (4, Ob.box [AV.str st, AV.int IntKind.i64 r, AV.int IntKind.i64 e, AV.nils]), (5, Ob.prow 29 m gm), (6, Ob.prow 105 1 gx)], nx := 8 })) (Kn { tmps := [(0, AV.adr 0 0 0), (6, AV.adr 1 0 0), (7, AV.int IntKind.i64 n), (8, AV.adr 2 0 0), (11, AV.row 3), (12, AV.int IntKind.i64 k), (14, AV.adr 4 0 0), (15, AV.bool true), (101, AV.row 3), (102, AV.int IntKind.i64 (mr : Int)), (103, AV.int IntKind.i64 (IntKind.i64.wrap (i + (1 : Int))))], mem := [(0, Ob.box [AV.psl 3 len g, AV.int IntKind.i64 (a : Int)]), (1, Ob.box [AV.nils, AV.nils, AV.nils, AV.nils, AV.nils, AV.nils, AV.nils]), (2, Ob.box [AV.psl 71 3 ga, AV.row 5, AV.row 6, AV.nils, AV.nils, AV.nils, AV.nils]), (3, Ob.prow 109 mr gr), (4, Ob.box [AV.str st, AV.int IntKind.i64 r, AV.int IntKind.i64 e, AV.nils]), (5, Ob.prow 29 m gm), (6, Ob.prow 105 1 gx)], nx := 8 }))) (brW (decide (r ≤ (gr i.toNat 1).i)) (brW (decide ((gr i.toNat 2).i ≤ e)) (Kn { tmps := [(0, AV.adr 0 0 0), (6, AV.adr 1 0 0), (7, AV.int IntKind.i64 n), (8, AV.adr 2 0 0), (11, AV.row 3), (12, AV.int IntKind.i64 k), (14, AV.adr 4 0 0), (15, AV.bool false), (101, AV.row 3), (102, AV.int IntKind.i64 (mr : Int)), (103, AV.int IntKind.i64 (IntKind.i64.wrap (i + (1 : Int))))], mem := [(0, Ob.box [AV.psl 3 len g, AV.int IntKind.i64 (a : Int)]), (1, Ob.box [AV.nils, AV.nils, AV.nils, AV.nils, AV.nils, AV.nils, AV.nils]), (2, Ob.box [AV.psl 71 3 ga, AV.row 5, AV.row 6, AV.nils, AV.nils, AV.nils, AV.nils]), (3, Ob.prow 109 mr gr), (4, Ob.box [AV.str st, AV.int IntKind.i64 r, AV.int IntKind.i64 e, AV.nils]), (5, Ob.prow 29 m gm), (6, Ob.prow 105 1 gx)], nx := 8 }) (Kn { tmps := [(0, AV.adr 0 0 0), (6, AV.adr 1 0 0), (7, AV.int IntKind.i64 n), (8, AV.adr 2 0 0), (11, AV.row 3), (12, AV.int IntKind.i64 k), (14, AV.adr 4 0 0), (15, AV.bool true), (101, AV.row 3), (102, AV.int IntKind.i64 (mr : Int)), (103, AV.int IntKind.i64 (IntKind.i64.wrap (i + (1 : Int))))], mem := [(0, Ob.box [AV.psl 3 len g, AV.int IntKind.i64 (a : Int)]), (1, Ob.box [AV.nils, AV.nils, AV.nils, AV.nils, AV.nils, AV.nils, AV.nils]), (2, Ob.box [AV.psl 71 3 ga, AV.row 5, AV.row 6, AV.nils, AV.nils, AV.nils, AV.nils]), (3, Ob.prow 109 mr gr), (4, Ob.box [AV.str st, AV.int IntKind.i64 r, AV.int IntKind.i64 e, AV.nils]), (5, Ob.prow 29 m gm), (6, Ob.prow 105 1 gx)], nx := 8 })) (Kn { tmps := [(0, AV.adr 0 0 0), (6, AV.adr 1 0 0), (7, AV.int IntKind.i64 n), (8, AV.adr 2 0 0), (11, AV.row 3), (12, AV.int IntKind.i64 k), (14, AV.adr 4 0 0), (15, AV.bool true), (101, AV.row 3), (102, AV.int IntKind.i64 (mr : Int)), (103, AV.int IntKind.i64 (IntKind.i64.wrap (i + (1 : Int))))], mem := [(0, Ob.box [AV.psl 3 len g, AV.int IntKind.i64 (a : Int)]), (1, Ob.box [AV.nils, AV.nils, AV.nils, AV.nils, AV.nils, AV.nils, AV.nils]), (2, Ob.box [AV.psl 71 3 ga, AV.row 5, AV.row 6, AV.nils, AV.nils, AV.nils, AV.nils]), (3, Ob.prow 109 mr gr), (4, Ob.box [AV.str st, AV.int IntKind.i64 r, AV.int IntKind.i64 e, AV.nils]), (5, Ob.prow 29 m gm), (6, Ob.prow 105 1 gx)], nx := 8 }))) (Kn { tmps := [(0, AV.adr 0 0 0), (6, AV.adr 1 0 0), (7, AV.int IntKind.i64 n), (8, AV.adr 2 0 0), (11, AV.row 3), (12, AV.int IntKind.i64 k), (14, AV.adr 4 0 0), (15, AV.bool false), (101, AV.row 3), (102, AV.int IntKind.i64 (mr : Int)), (103, AV.int IntKind.i64 (IntKind.i64.wrap (i + (1 : Int))))], mem := [(0, Ob.box [AV.psl 3 len g, AV.int IntKind.i64 (a : Int)]), (1, Ob.box [AV.nils, AV.nils, AV.nils, AV.nils, AV.nils, AV.nils, AV.nils]), (2, Ob.box [AV.psl 71 3 ga, AV.row 5, AV.row 6, AV.nils, AV.nils, AV.nils, AV.nils]), (3, Ob.prow 109 mr gr), (4, Ob.box [AV.str st, AV.int IntKind.i64 r, AV.int IntKind.i64 e, AV.nils]), (5, Ob.prow 29 m gm), (6, Ob.prow 105 1 gx)], nx := 8 })) (Kn { tmps := [(0, AV.adr 0 0 0), (6, AV.adr 1 0 0), (7, AV.int IntKind.i64 n), (8, AV.adr 2 0 0), (11, AV.row 3), (12, AV.int IntKind.i64 k), (14, AV.adr 4 0 0), (15, AV.bool false), (101, AV.row 3), (102, AV.int IntKind.i64 (mr : Int)), (103, AV.int IntKind.i64 (IntKind.i64.wrap (i + (1 : Int))))], mem := [(0, Ob.box [AV.psl 3 len g, AV.int IntKind.i64 (a : Int)]), (1, Ob.box [AV.nils, AV.nils, AV.nils, AV.nils, AV.nils, AV.nils, AV.nils]), (2, Ob.box [AV.psl 71 3 ga, AV.row 5, AV.row 6, AV.nils, AV.nils, AV.nils, AV.nils]), (3, Ob.prow 109 mr gr), (4, Ob.box [AV.str st, AV.int IntKind.i64 r, AV.int IntKind.i64 e, AV.nils]), (5, Ob.prow 29 m gm), (6, Ob.prow 105 1 gx)], nx := 8 })) (Kn { tmps := [(0, AV.adr 0 0 0), (6, AV.adr 1 0 0), (7, AV.int IntKind.i64 n), (8, AV.adr 2 0 0), (11, AV.row 3), (12, AV.int IntKind.i64 k), (14, AV.adr 4 0 0), (15, AV.bool false), (101, AV.row 3), (102, AV.int IntKind.i64 (mr : Int)), (103, AV.int IntKind.i64 (IntKind.i64.wrap (i + (1 : Int))))], mem := [(0, Ob.box [AV.psl 3 len g, AV.int IntKind.i64 (a : Int)]), (1, Ob.box [AV.nils, AV.nils, AV.nils, AV.nils, AV.nils, AV.nils, AV.nils]), (2, Ob.box [AV.psl 71 3 ga, AV.row 5, AV.row 6, AV.nils, AV.nils, AV.nils, AV.nils]), (3, Ob.prow 109 mr gr), (4, Ob.box [AV.str st, AV.int IntKind.i64 r, AV.int IntKind.i64 e, AV.nils]), (5, Ob.prow 29 m gm), (6, Ob.prow 105 1 gx)], nx := 8 }))) else none else none)) (Ke (Ex.exit 4) { tmps := [(0, AV.adr 0 0 0), (6, AV.adr 1 0 0), (7, AV.int IntKind.i64 n), (8, AV.adr 2 0 0), (11, AV.row 3), (12, AV.int IntKind.i64 k), (14, AV.adr 4 0 0), (15, AV.bool b)], mem := [(0, Ob.box [AV.psl 3 len g, AV.int IntKind.i64 (a : Int)]), (1, Ob.box [AV.nils, AV.nils, AV.nils, AV.nils, AV.nils, AV.nils, AV.nils]), (2, Ob.box [AV.psl 71 3 ga, AV.row 5, AV.row 6, AV.nils, AV.nils, AV.nils, AV.nils]), (3, Ob.prow 109 mr gr), (4, Ob.box [AV.str st, AV.int IntKind.i64 r, AV.int IntKind.i64 e, AV.nils]), (5, Ob.prow 29 m gm), (6, Ob.prow 105 1 gx)], nx := 8 })) := by kernel_rfl
theorem l44_20a : LOK cw11 lw9 44 20 ⟨[0,6,7,8,11,12,14,15], []⟩ L44_20a := by
  intro base s K h
  unfold L44_20a at h
  split at h
  · rename_i n k bz mr' iz len g a ga mr gr st r e m gm gx
    obtain ⟨⟨rfl, a0, a1, p0⟩, k1⟩ := h
    refine ⟨((mr : Int) - iz + 1).toNat, loop_rule (fun N s => ∃ (b : Bool) (i : Int), s = (⟨[(0, .adr 0 0 0), (6, .adr 1 0 0), (7, .int .i64 n), (8, .adr 2 0 0), (11, .row 3), (12, .int .i64 k), (14, .adr 4 0 0), (15, .bool b), (101, .row 3), (102, .int .i64 mr), (103, .int .i64 i)], [(0, .box [.psl 3 len g, .int .i64 (.ofNat a)]), (1, .box [.nils, .nils, .nils, .nils, .nils, .nils, .nils]), (2, .box [.psl 71 3 ga, .row 5, .row 6, .nils, .nils, .nils, .nils]), (3, .prow 109 mr gr), (4, .box [.str st, .int .i64 r, .int .i64 e, .nils]), (5, .prow 29 m gm), (6, .prow 105 1 gx)], 8⟩ : FS) ∧ 0 ≤ i ∧ i ≤ mr ∧ (mr : Int) - i + 1 ≤ (N : Int)) ?_ ?_ _ _ ⟨bz, iz, rfl, a0, a1, by omega⟩⟩
    · rintro s ⟨b, i, _, i0, i1, iN⟩; omega
    · rintro N Kn hKn s ⟨b, i, rfl, i0, i1, iN⟩
      rw [r44_20a]
      try rw [wrap_succ i0 (by omega)]
      (repeat' (first | with_reducible refine brd (fun _ => ?_) (fun _ => ?_) | with_reducible refine holds_if ?_ ?_ | with_reducible refine holds_ifn ?_ ?_ | with_reducible refine holds_some ?_ | with_reducible refine br (fun _ => ?_) (fun _ => ?_) | with_reducible refine And.intro ?_ ?_ | with_reducible refine fun _ => ?_))
      all_goals first
        | omega
        | exact trivial
        | exact k1
        | exact k1 _
        | exact k1 _ _
        | exact k1 _ _ _
        | exact hKn _ ⟨_, i + 1, rfl, by omega, by omega, by omega⟩
        | exact hKn _ ⟨_, i + 1, rfl, by omega, by omega, by omega⟩
  · exact h.elim
noncomputable def L44_20b : LSpec := fun base s K => match base, s with
  | 1, ⟨[(0, .adr 0 0 0), (6, .adr 1 0 0), (7, .int .i64 n), (8, .adr 2 0 0), (11, .row 3), (12, .int .i64 k), (14, .adr 4 0 0), (15, .bool b), (101, .row 3), (102, .int .i64 mr'), (103, .int .i64 i)], [(0, .box [.psl 3 len g, .int .i64 (.ofNat a)]), (1, .box [.nils, .nils, .nils, .nils, .nils, .nils, .nils]), (2, .box [.psl 71 3 ga, .row 5, .row 6, .nils, .nils, .nils, .nils]), (3, .prow 109 mr gr), (4, .box [.str st, .int .i64 r, .int .i64 e, .row 7]), (5, .prow 29 m gm), (6, .prow 105 1 gx), (7, .prow 107 mk gk)], 9⟩ => (mr' = mr ∧ 0 ≤ i ∧ i ≤ mr ∧ mr ≤ 1000) ∧ (∀ b', K (.exit 4) ⟨[(0, .adr 0 0 0), (6, .adr 1 0 0), (7, .int .i64 n), (8, .adr 2 0 0), (11, .row 3), (12, .int .i64 k), (14, .adr 4 0 0), (15, .bool b')], [(0, .box [.psl 3 len g, .int .i64 (.ofNat a)]), (1, .box [.nils, .nils, .nils, .nils, .nils, .nils, .nils]), (2, .box [.psl 71 3 ga, .row 5, .row 6, .nils, .nils, .nils, .nils]), (3, .prow 109 mr gr), (4, .box [.str st, .int .i64 r, .int .i64 e, .row 7]), (5, .prow 29 m gm), (6, .prow 105 1 gx), (7, .prow 107 mk gk)], 9⟩)
  | _, _ => False
theorem r44_20b (n k r e : Int) (st : ByteArray) (len mr m a mk : Nat) (g ga gr gm gx gk : Nat → Nat → PV) (b : Bool) (i : Int) (Kn : FS → Prop) (Ke : Ex → FS → Prop) : roundW cw11 lw9 44 1 ⟨[0,6,7,8,11,12,14,15], []⟩ (loopB 44 20) ⟨[(0, .adr 0 0 0), (6, .adr 1 0 0), (7, .int .i64 n), (8, .adr 2 0 0), (11, .row 3), (12, .int .i64 k), (14, .adr 4 0 0), (15, .bool b), (101, .row 3), (102, .int .i64 mr), (103, .int .i64 i)], [(0, .box [.psl 3 len g, .int .i64 (.ofNat a)]), (1, .box [.nils, .nils, .nils, .nils, .nils, .nils, .nils]), (2, .box [.psl 71 3 ga, .row 5, .row 6, .nils, .nils, .nils, .nils]), (3, .prow 109 mr gr), (4, .box [.str st, .int .i64 r, .int .i64 e, .row 7]), (5, .prow 29 m gm), (6, .prow 105 1 gx), (7, .prow 107 mk gk)], 9⟩ Kn Ke = (brW (decide (i < (mr : Int))) (holds (if (0 : Int) ≤ i then if i < (mr : Int) then some (brW b (Kn { tmps := [(0, AV.adr 0 0 0), (6, AV.adr 1 0 0), (7, AV.int IntKind.i64 n), (8, AV.adr 2 0 0), (11, AV.row 3), (12, AV.int IntKind.i64 k), (14, AV.adr 4 0 0), (15, AV.bool true), (101, AV.row 3), (102, AV.int IntKind.i64 (mr : Int)), (103, AV.int IntKind.i64 (IntKind.i64.wrap (i + (1 : Int))))], mem := [(0, Ob.box [AV.psl 3 len g, AV.int IntKind.i64 (a : Int)]), (1, Ob.box [AV.nils, AV.nils, AV.nils, AV.nils, AV.nils, AV.nils, AV.nils]), (2, Ob.box [AV.psl 71 3 ga, AV.row 5, AV.row 6, AV.nils, AV.nils, AV.nils, AV.nils]), (3, Ob.prow 109 mr gr), (4, Ob.box [AV.str st, AV.int IntKind.i64 r, AV.int IntKind.i64 e, AV.row 7]), (5, Ob.prow 29 m gm), (6, Ob.prow 105 1 gx), (7, Ob.prow 107 mk gk)], nx := 9 }) (brW ((gr i.toNat 0).s.toList == st.toList) (brW (decide ((gr i.toNat 1).i < e)) (brW (decide (r < (gr i.toNat 2).i)) (brW (decide ((gr i.toNat 1).i ≤ r)) (brW (decide (e ≤ (gr i.toNat 2).i)) (Kn { tmps := [(0, AV.adr 0 0 0), (6, AV.adr 1 0 0), (7, AV.int IntKind.i64 n), (8, AV.adr 2 0 0), (11, AV.row 3), (12, AV.int IntKind.i64 k), (14, AV.adr 4 0 0), (15, AV.bool false), (101, AV.row 3), (102, AV.int IntKind.i64 (mr : Int)), (103, AV.int IntKind.i64 (IntKind.i64.wrap (i + (1 : Int))))], mem := [(0, Ob.box [AV.psl 3 len g, AV.int IntKind.i64 (a : Int)]), (1, Ob.box [AV.nils, AV.nils, AV.nils, AV.nils, AV.nils, AV.nils, AV.nils]), (2, Ob.box [AV.psl 71 3 ga, AV.row 5, AV.row 6, AV.nils, AV.nils, AV.nils, AV.nils]), (3, Ob.prow 109 mr gr), (4, Ob.box [AV.str st, AV.int IntKind.i64 r, AV.int IntKind.i64 e, AV.row 7]), (5, Ob.prow 29 m gm), (6, Ob.prow 105 1 gx), (7, Ob.prow 107 mk gk)], nx := 9 }) (brW (decide (r ≤ (gr i.toNat 1).i)) (brW (decide ((gr i.toNat 2).i ≤ e)) (Kn { tmps := [(0, AV.adr 0 0 0), (6, AV.adr 1 0 0), (7, AV.int IntKind.i64 n), (8, AV.adr 2 0 0), (11, AV.row 3), (12, AV.int IntKind.i64 k), (14, AV.adr 4 0 0), (15, AV.bool false), (101, AV.row 3), (102, AV.int IntKind.i64 (mr : Int)), (103, AV.int IntKind.i64 (IntKind.i64.wrap (i + (1 : Int))))], mem := [(0, Ob.box [AV.psl 3 len g, AV.int IntKind.i64 (a : Int)]), (1, Ob.box [AV.nils, AV.nils, AV.nils, AV.nils, AV.nils, AV.nils, AV.nils]), (2, Ob.box [AV.psl 71 3 ga, AV.row 5, AV.row 6, AV.nils, AV.nils, AV.nils, AV.nils]), (3, Ob.prow 109 mr gr), (4, Ob.box [AV.str st, AV.int IntKind.i64 r, AV.int IntKind.i64 e, AV.row 7]), (5, Ob.prow 29 m gm), (6, Ob.prow 105 1 gx), (7, Ob.prow 107 mk gk)], nx := 9 }) (Kn { tmps := [(0, AV.adr 0 0 0), (6, AV.adr 1 0 0), (7, AV.int IntKind.i64 n), (8, AV.adr 2 0 0), (11, AV.row 3), (12, AV.int IntKind.i64 k), (14, AV.adr 4 0 0), (15, AV.bool true), (101, AV.row 3), (102, AV.int IntKind.i64 (mr : Int)), (103, AV.int IntKind.i64 (IntKind.i64.wrap (i + (1 : Int))))], mem := [(0, Ob.box [AV.psl 3 len g, AV.int IntKind.i64 (a : Int)]), (1, Ob.box [AV.nils, AV.nils, AV.nils, AV.nils, AV.nils, AV.nils, AV.nils]), (2, Ob.box [AV.psl 71 3 ga, AV.row 5, AV.row 6, AV.nils, AV.nils, AV.nils, AV.nils]), (3, Ob.prow 109 mr gr), (4, Ob.box [AV.str st, AV.int IntKind.i64 r, AV.int IntKind.i64 e, AV.row 7]), (5, Ob.prow 29 m gm), (6, Ob.prow 105 1 gx), (7, Ob.prow 107 mk gk)], nx := 9 })) (Kn { tmps := [(0, AV.adr 0 0 0), (6, AV.adr 1 0 0), (7, AV.int IntKind.i64 n), (8, AV.adr 2 0 0), (11, AV.row 3), (12, AV.int IntKind.i64 k), (14, AV.adr 4 0 0), (15, AV.bool true), (101, AV.row 3), (102, AV.int IntKind.i64 (mr : Int)), (103, AV.int IntKind.i64 (IntKind.i64.wrap (i + (1 : Int))))], mem := [(0, Ob.box [AV.psl 3 len g, AV.int IntKind.i64 (a : Int)]), (1, Ob.box [AV.nils, AV.nils, AV.nils, AV.nils, AV.nils, AV.nils, AV.nils]), (2, Ob.box [AV.psl 71 3 ga, AV.row 5, AV.row 6, AV.nils, AV.nils, AV.nils, AV.nils]), (3, Ob.prow 109 mr gr), (4, Ob.box [AV.str st, AV.int IntKind.i64 r, AV.int IntKind.i64 e, AV.row 7]), (5, Ob.prow 29 m gm), (6, Ob.prow 105 1 gx), (7, Ob.prow 107 mk gk)], nx := 9 }))) (brW (decide (r ≤ (gr i.toNat 1).i)) (brW (decide ((gr i.toNat 2).i ≤ e)) (Kn { tmps := [(0, AV.adr 0 0 0), (6, AV.adr 1 0 0), (7, AV.int IntKind.i64 n), (8, AV.adr 2 0 0), (11, AV.row 3), (12, AV.int IntKind.i64 k), (14, AV.adr 4 0 0), (15, AV.bool false), (101, AV.row 3), (102, AV.int IntKind.i64 (mr : Int)), (103, AV.int IntKind.i64 (IntKind.i64.wrap (i + (1 : Int))))], mem := [(0, Ob.box [AV.psl 3 len g, AV.int IntKind.i64 (a : Int)]), (1, Ob.box [AV.nils, AV.nils, AV.nils, AV.nils, AV.nils, AV.nils, AV.nils]), (2, Ob.box [AV.psl 71 3 ga, AV.row 5, AV.row 6, AV.nils, AV.nils, AV.nils, AV.nils]), (3, Ob.prow 109 mr gr), (4, Ob.box [AV.str st, AV.int IntKind.i64 r, AV.int IntKind.i64 e, AV.row 7]), (5, Ob.prow 29 m gm), (6, Ob.prow 105 1 gx), (7, Ob.prow 107 mk gk)], nx := 9 }) (Kn { tmps := [(0, AV.adr 0 0 0), (6, AV.adr 1 0 0), (7, AV.int IntKind.i64 n), (8, AV.adr 2 0 0), (11, AV.row 3), (12, AV.int IntKind.i64 k), (14, AV.adr 4 0 0), (15, AV.bool true), (101, AV.row 3), (102, AV.int IntKind.i64 (mr : Int)), (103, AV.int IntKind.i64 (IntKind.i64.wrap (i + (1 : Int))))], mem := [(0, Ob.box [AV.psl 3 len g, AV.int IntKind.i64 (a : Int)]), (1, Ob.box [AV.nils, AV.nils, AV.nils, AV.nils, AV.nils, AV.nils, AV.nils]), (2, Ob.box [AV.psl 71 3 ga, AV.row 5, AV.row 6, AV.nils, AV.nils, AV.nils, AV.nils]), (3, Ob.prow 109 mr gr), (4, Ob.box [AV.str st, AV.int IntKind.i64 r, AV.int IntKind.i64 e, AV.row 7]), (5, Ob.prow 29 m gm), (6, Ob.prow 105 1 gx), (7, Ob.prow 107 mk gk)], nx := 9 })) (Kn { tmps := [(0, AV.adr 0 0 0), (6, AV.adr 1 0 0), (7, AV.int IntKind.i64 n), (8, AV.adr 2 0 0), (11, AV.row 3), (12, AV.int IntKind.i64 k), (14, AV.adr 4 0 0), (15, AV.bool true), (101, AV.row 3), (102, AV.int IntKind.i64 (mr : Int)), (103, AV.int IntKind.i64 (IntKind.i64.wrap (i + (1 : Int))))], mem := [(0, Ob.box [AV.psl 3 len g, AV.int IntKind.i64 (a : Int)]), (1, Ob.box [AV.nils, AV.nils, AV.nils, AV.nils, AV.nils, AV.nils, AV.nils]), (2, Ob.box [AV.psl 71 3 ga, AV.row 5, AV.row 6, AV.nils, AV.nils, AV.nils, AV.nils]), (3, Ob.prow 109 mr gr), (4, Ob.box [AV.str st, AV.int IntKind.i64 r, AV.int IntKind.i64 e, AV.row 7]), (5, Ob.prow 29 m gm), (6, Ob.prow 105 1 gx), (7, Ob.prow 107 mk gk)], nx := 9 }))) (Kn { tmps := [(0, AV.adr 0 0 0), (6, AV.adr 1 0 0), (7, AV.int IntKind.i64 n), (8, AV.adr 2 0 0), (11, AV.row 3), (12, AV.int IntKind.i64 k), (14, AV.adr 4 0 0), (15, AV.bool false), (101, AV.row 3), (102, AV.int IntKind.i64 (mr : Int)), (103, AV.int IntKind.i64 (IntKind.i64.wrap (i + (1 : Int))))], mem := [(0, Ob.box [AV.psl 3 len g, AV.int IntKind.i64 (a : Int)]), (1, Ob.box [AV.nils, AV.nils, AV.nils, AV.nils, AV.nils, AV.nils, AV.nils]), (2, Ob.box [AV.psl 71 3 ga, AV.row 5, AV.row 6, AV.nils, AV.nils, AV.nils, AV.nils]), (3, Ob.prow 109 mr gr), (4, Ob.box [AV.str st, AV.int IntKind.i64 r, AV.int IntKind.i64 e, AV.row 7]), (5, Ob.prow 29 m gm), (6, Ob.prow 105 1 gx), (7, Ob.prow 107 mk gk)], nx := 9 })) (Kn { tmps := [(0, AV.adr 0 0 0), (6, AV.adr 1 0 0), (7, AV.int IntKind.i64 n), (8, AV.adr 2 0 0), (11, AV.row 3), (12, AV.int IntKind.i64 k), (14, AV.adr 4 0 0), (15, AV.bool false), (101, AV.row 3), (102, AV.int IntKind.i64 (mr : Int)), (103, AV.int IntKind.i64 (IntKind.i64.wrap (i + (1 : Int))))], mem := [(0, Ob.box [AV.psl 3 len g, AV.int IntKind.i64 (a : Int)]), (1, Ob.box [AV.nils, AV.nils, AV.nils, AV.nils, AV.nils, AV.nils, AV.nils]), (2, Ob.box [AV.psl 71 3 ga, AV.row 5, AV.row 6, AV.nils, AV.nils, AV.nils, AV.nils]), (3, Ob.prow 109 mr gr), (4, Ob.box [AV.str st, AV.int IntKind.i64 r, AV.int IntKind.i64 e, AV.row 7]), (5, Ob.prow 29 m gm), (6, Ob.prow 105 1 gx), (7, Ob.prow 107 mk gk)], nx := 9 })) (Kn { tmps := [(0, AV.adr 0 0 0), (6, AV.adr 1 0 0), (7, AV.int IntKind.i64 n), (8, AV.adr 2 0 0), (11, AV.row 3), (12, AV.int IntKind.i64 k), (14, AV.adr 4 0 0), (15, AV.bool false), (101, AV.row 3), (102, AV.int IntKind.i64 (mr : Int)), (103, AV.int IntKind.i64 (IntKind.i64.wrap (i + (1 : Int))))], mem := [(0, Ob.box [AV.psl 3 len g, AV.int IntKind.i64 (a : Int)]), (1, Ob.box [AV.nils, AV.nils, AV.nils, AV.nils, AV.nils, AV.nils, AV.nils]), (2, Ob.box [AV.psl 71 3 ga, AV.row 5, AV.row 6, AV.nils, AV.nils, AV.nils, AV.nils]), (3, Ob.prow 109 mr gr), (4, Ob.box [AV.str st, AV.int IntKind.i64 r, AV.int IntKind.i64 e, AV.row 7]), (5, Ob.prow 29 m gm), (6, Ob.prow 105 1 gx), (7, Ob.prow 107 mk gk)], nx := 9 }))) else none else none)) (Ke (Ex.exit 4) { tmps := [(0, AV.adr 0 0 0), (6, AV.adr 1 0 0), (7, AV.int IntKind.i64 n), (8, AV.adr 2 0 0), (11, AV.row 3), (12, AV.int IntKind.i64 k), (14, AV.adr 4 0 0), (15, AV.bool b)], mem := [(0, Ob.box [AV.psl 3 len g, AV.int IntKind.i64 (a : Int)]), (1, Ob.box [AV.nils, AV.nils, AV.nils, AV.nils, AV.nils, AV.nils, AV.nils]), (2, Ob.box [AV.psl 71 3 ga, AV.row 5, AV.row 6, AV.nils, AV.nils, AV.nils, AV.nils]), (3, Ob.prow 109 mr gr), (4, Ob.box [AV.str st, AV.int IntKind.i64 r, AV.int IntKind.i64 e, AV.row 7]), (5, Ob.prow 29 m gm), (6, Ob.prow 105 1 gx), (7, Ob.prow 107 mk gk)], nx := 9 })) := by kernel_rfl
theorem l44_20b : LOK cw11 lw9 44 20 ⟨[0,6,7,8,11,12,14,15], []⟩ L44_20b := by
  intro base s K h
  unfold L44_20b at h
  split at h
  · rename_i n k bz mr' iz len g a ga mr gr st r e m gm gx mk gk
    obtain ⟨⟨rfl, a0, a1, p0⟩, k1⟩ := h
    refine ⟨((mr : Int) - iz + 1).toNat, loop_rule (fun N s => ∃ (b : Bool) (i : Int), s = (⟨[(0, .adr 0 0 0), (6, .adr 1 0 0), (7, .int .i64 n), (8, .adr 2 0 0), (11, .row 3), (12, .int .i64 k), (14, .adr 4 0 0), (15, .bool b), (101, .row 3), (102, .int .i64 mr), (103, .int .i64 i)], [(0, .box [.psl 3 len g, .int .i64 (.ofNat a)]), (1, .box [.nils, .nils, .nils, .nils, .nils, .nils, .nils]), (2, .box [.psl 71 3 ga, .row 5, .row 6, .nils, .nils, .nils, .nils]), (3, .prow 109 mr gr), (4, .box [.str st, .int .i64 r, .int .i64 e, .row 7]), (5, .prow 29 m gm), (6, .prow 105 1 gx), (7, .prow 107 mk gk)], 9⟩ : FS) ∧ 0 ≤ i ∧ i ≤ mr ∧ (mr : Int) - i + 1 ≤ (N : Int)) ?_ ?_ _ _ ⟨bz, iz, rfl, a0, a1, by omega⟩⟩
    · rintro s ⟨b, i, _, i0, i1, iN⟩; omega
    · rintro N Kn hKn s ⟨b, i, rfl, i0, i1, iN⟩
      rw [r44_20b]
      try rw [wrap_succ i0 (by omega)]
      (repeat' (first | with_reducible refine brd (fun _ => ?_) (fun _ => ?_) | with_reducible refine holds_if ?_ ?_ | with_reducible refine holds_ifn ?_ ?_ | with_reducible refine holds_some ?_ | with_reducible refine br (fun _ => ?_) (fun _ => ?_) | with_reducible refine And.intro ?_ ?_ | with_reducible refine fun _ => ?_))
      all_goals first
        | omega
        | exact trivial
        | exact k1
        | exact k1 _
        | exact k1 _ _
        | exact k1 _ _ _
        | exact hKn _ ⟨_, i + 1, rfl, by omega, by omega, by omega⟩
        | exact hKn _ ⟨_, i + 1, rfl, by omega, by omega, by omega⟩
  · exact h.elim
noncomputable def L44_20 : LSpec := twoL 8 L44_20a 9 L44_20b
theorem l44_20 : LOK cw11 lw9 44 20 ⟨[0,6,7,8,11,12,14,15], []⟩ L44_20 := lok_two l44_20a l44_20b
noncomputable def lw10_ : FuncId → Nat → Option (Hint × LSpec) := fun f rid => match f, rid with
  | 44, 20 => some (⟨[0,6,7,8,11,12,14,15], []⟩, L44_20)
  | _, _ => none
noncomputable def lw10 : LoopW := addL lw10_ lw9
theorem lay21 : Lay Tryz.prog ctx cw11 lw10 := layL lay20 fun f rid p h => by
  unfold lw10_ at h
  split at h <;> cases h
  · exact ⟨by kernel_rfl, l44_20⟩
end Go.Proofs.YtkenjojkpdeooaaGreatDoor
end
section
set_option linter.unusedVariables false
set_option maxRecDepth 100000
set_option maxHeartbeats 2000000
set_option linter.unusedSimpArgs false
set_option linter.constructorNameAsVariable false
namespace Go.Proofs.YtkenjojkpdeooaaGreatDoor
open AI

theorem types_sig {s : ByteArray} (h : s ∈ types) : s ∈ sig := by
  unfold sig
  exact List.mem_append_left _ (List.mem_append_left _ (List.mem_append_right _ h))
theorem pairs_nil {g : Nat → Nat → PV} : PairsN 0 g := fun j hj => absurd hj (Nat.not_lt_zero j)
theorem regs_one {s : ByteArray} {b e : PV} {n : Nat} {k : Nat → Nat → PV} (h : s ∈ types) (hn : n ≤ 1000) (hk : PairsN n k) : RegsN 1 (fun i j => [PV.str s, b, e, PV.sl n k].getD (i * 4 + j) .bad) := by
  intro j hj
  obtain rfl : j = 0 := by omega
  exact ⟨types_sig h, hn, hk⟩
theorem key_sig (i : Nat) : ([PV.str (strL [49]), PV.str (strL [50])].getD (i * 1 + 0) .bad).s ∈ sig := by
  match i with
  | 0 => show strL [49] ∈ sig; unfold sig; exact List.mem_append_right _ (by simp)
  | 1 => show strL [50] ∈ sig; unfold sig; exact List.mem_append_right _ (by simp)
  | n + 2 => exact nil_sig
theorem pairs_key (i : Nat) : PairsN 1 (fun a b => [PV.str (strL [110]), PV.str ([PV.str (strL [49]), PV.str (strL [50])].getD (i * 1 + 0) .bad).s].getD (a * 2 + b) .bad) := by
  intro j hj
  obtain rfl : j = 0 := by omega
  exact ⟨show strL [110] ∈ sig by unfold sig; exact List.mem_append_right _ (by simp), key_sig i⟩
noncomputable def L44_12 : LSpec := fun base s K => match base, s with
  | 1, ⟨[(0, .adr 0 0 0), (6, .adr 1 0 0), (7, .int .i64 n), (8, .adr 2 0 0), (11, .row 3), (12, .int .i64 k)], [(0, .box [.psl 3 len g, .int .i64 (.ofNat a)]), (1, .box [.nils, .nils, .nils, .nils, .nils, .nils, .nils]), (2, .box [.psl 71 3 ga, .row 4, .row 5, .nils, .nils, .nils, .nils]), (3, .prow 109 mr gr), (4, .prow 29 m gm), (5, .prow 105 1 gx)], 7⟩ => (1 ≤ n ∧ n ≤ 1000 ∧ len ≤ 120 ∧ a ≤ len ∧ 0 ≤ k ∧ (mr : Int) + k ≤ 4 ∧ RegsN mr gr) ∧ (∀ (a' m' : Nat) g', a' ≤ len → m' ≤ 4 → RegsN m' g' → K (.exit 2) ⟨[(0, .adr 0 0 0), (6, .adr 1 0 0), (7, .int .i64 n), (8, .adr 2 0 0), (11, .row 3)], [(0, .box [.psl 3 len g, .int .i64 (.ofNat a')]), (1, .box [.nils, .nils, .nils, .nils, .nils, .nils, .nils]), (2, .box [.psl 71 3 ga, .row 4, .row 5, .nils, .nils, .nils, .nils]), (3, .prow 109 m' g'), (4, .prow 29 m gm), (5, .prow 105 1 gx)], 7⟩)
  | _, _ => False
theorem r44_12 (n : Int) (len m : Nat) (g ga gm gx : Nat → Nat → PV) (a mr : Nat) (gr : Nat → Nat → PV) (k : Int)  (Kn : FS → Prop) (Ke : Ex → FS → Prop) : roundW cw11 lw10 44 1 ⟨[0,6,7,8,11], [(11, 0, 109)]⟩ (loopB 44 12) ⟨[(0, .adr 0 0 0), (6, .adr 1 0 0), (7, .int .i64 n), (8, .adr 2 0 0), (11, .row 3), (12, .int .i64 k)], [(0, .box [.psl 3 len g, .int .i64 (.ofNat a)]), (1, .box [.nils, .nils, .nils, .nils, .nils, .nils, .nils]), (2, .box [.psl 71 3 ga, .row 4, .row 5, .nils, .nils, .nils, .nils]), (3, .prow 109 mr gr), (4, .prow 29 m gm), (5, .prow 105 1 gx)], 7⟩ Kn Ke = (brW (decide (k > (0 : Int))) (((1 : Int) ≤ n ∧ n ≤ (4611686018427387904 : Int) ∧ a ≤ len ∧ len ≤ 120) ∧ ∀ (r : Int) (a' : Nat), (0 : Int) ≤ r → r < n → a' ≤ len → ((1 : Int) ≤ (2 : Int) ∧ (2 : Int) ≤ (4611686018427387904 : Int) ∧ a' ≤ len ∧ len ≤ 120) ∧ ∀ (r_1 : Int) (a'_1 : Nat), (0 : Int) ≤ r_1 → r_1 < (2 : Int) → a'_1 ≤ len → ∀ (s : ByteArray), s ∈ types → ((1 : Int) ≤ IntKind.i64.wrap (n - r) ∧ IntKind.i64.wrap (n - r) ≤ (4611686018427387904 : Int) ∧ a'_1 ≤ len ∧ len ≤ 120) ∧ ∀ (r_2 : Int) (a'_2 : Nat), (0 : Int) ≤ r_2 → r_2 < IntKind.i64.wrap (n - r) → a'_2 ≤ len → ((1 : Int) ≤ (2 : Int) ∧ (2 : Int) ≤ (4611686018427387904 : Int) ∧ a'_2 ≤ len ∧ len ≤ 120) ∧ ∀ (r_3 : Int) (a'_3 : Nat), (0 : Int) ≤ r_3 → r_3 < (2 : Int) → a'_3 ≤ len → brW (r_3 == (1 : Int)) (((1 : Int) ≤ (2 : Int) ∧ (2 : Int) ≤ (4611686018427387904 : Int) ∧ a'_3 ≤ len ∧ len ≤ 120) ∧ ∀ (r_4 : Int) (a'_4 : Nat), (0 : Int) ≤ r_4 → r_4 < (2 : Int) → a'_4 ≤ len → holds (if (0 : Int) ≤ r_4 then if r_4 < (2 : Int) then some (((mr : Int) = (mr : Int) ∧ (0 : Int) ≤ (0 : Int) ∧ (0 : Int) ≤ (mr : Int) ∧ mr ≤ 1000) ∧ ∀ (b' : Bool), brW b' (Kn { tmps := [(0, AV.adr 0 0 0), (6, AV.adr 1 0 0), (7, AV.int IntKind.i64 n), (8, AV.adr 2 0 0), (11, AV.row 3), (12, AV.int IntKind.i64 (IntKind.i64.wrap (k - (1 : Int))))], mem := [(0, Ob.box [AV.psl 3 len g, AV.int IntKind.i64 (↑a'_4 : Int)]), (1, Ob.box [AV.nils, AV.nils, AV.nils, AV.nils, AV.nils, AV.nils, AV.nils]), (2, Ob.box [AV.psl 71 3 ga, AV.row 4, AV.row 5, AV.nils, AV.nils, AV.nils, AV.nils]), (3, Ob.prow 109 mr gr), (4, Ob.prow 29 m gm), (5, Ob.prow 105 1 gx)], nx := 7 }) (holds (if (mr + 1) * 57 ≤ 140737488355328 then some (Kn { tmps := [(0, AV.adr 0 0 0), (6, AV.adr 1 0 0), (7, AV.int IntKind.i64 n), (8, AV.adr 2 0 0), (11, AV.row 3), (12, AV.int IntKind.i64 (IntKind.i64.wrap (k - (1 : Int))))], mem := [(0, Ob.box [AV.psl 3 len g, AV.int IntKind.i64 (↑a'_4 : Int)]), (1, Ob.box [AV.nils, AV.nils, AV.nils, AV.nils, AV.nils, AV.nils, AV.nils]), (2, Ob.box [AV.psl 71 3 ga, AV.row 4, AV.row 5, AV.nils, AV.nils, AV.nils, AV.nils]), (3, Ob.prow 109 (mr + 1) (cat mr gr fun i j => [PV.str s, PV.int r, PV.int (IntKind.i64.wrap (IntKind.i64.wrap (r + (1 : Int)) + r_2)), PV.sl 1 fun i_1 j_1 => [PV.str (strL [110]), PV.str ([PV.str (strL [49]), PV.str (strL [50])].getD (r_4.toNat * 1 + 0) PV.bad).s].getD (i_1 * 2 + j_1) PV.bad].getD (i * 4 + j) PV.bad)), (4, Ob.prow 29 m gm), (5, Ob.prow 105 1 gx)], nx := 7 }) else none))) else none else none)) (((mr : Int) = (mr : Int) ∧ (0 : Int) ≤ (0 : Int) ∧ (0 : Int) ≤ (mr : Int) ∧ mr ≤ 1000) ∧ ∀ (b' : Bool), brW b' (Kn { tmps := [(0, AV.adr 0 0 0), (6, AV.adr 1 0 0), (7, AV.int IntKind.i64 n), (8, AV.adr 2 0 0), (11, AV.row 3), (12, AV.int IntKind.i64 (IntKind.i64.wrap (k - (1 : Int))))], mem := [(0, Ob.box [AV.psl 3 len g, AV.int IntKind.i64 (↑a'_3 : Int)]), (1, Ob.box [AV.nils, AV.nils, AV.nils, AV.nils, AV.nils, AV.nils, AV.nils]), (2, Ob.box [AV.psl 71 3 ga, AV.row 4, AV.row 5, AV.nils, AV.nils, AV.nils, AV.nils]), (3, Ob.prow 109 mr gr), (4, Ob.prow 29 m gm), (5, Ob.prow 105 1 gx)], nx := 7 }) (holds (if (mr + 1) * 57 ≤ 140737488355328 then some (Kn { tmps := [(0, AV.adr 0 0 0), (6, AV.adr 1 0 0), (7, AV.int IntKind.i64 n), (8, AV.adr 2 0 0), (11, AV.row 3), (12, AV.int IntKind.i64 (IntKind.i64.wrap (k - (1 : Int))))], mem := [(0, Ob.box [AV.psl 3 len g, AV.int IntKind.i64 (↑a'_3 : Int)]), (1, Ob.box [AV.nils, AV.nils, AV.nils, AV.nils, AV.nils, AV.nils, AV.nils]), (2, Ob.box [AV.psl 71 3 ga, AV.row 4, AV.row 5, AV.nils, AV.nils, AV.nils, AV.nils]), (3, Ob.prow 109 (mr + 1) (cat mr gr fun i j => [PV.str s, PV.int r, PV.int (IntKind.i64.wrap (IntKind.i64.wrap (r + (1 : Int)) + r_2)), PV.sl 0 fun x x_1 => PV.bad].getD (i * 4 + j) PV.bad)), (4, Ob.prow 29 m gm), (5, Ob.prow 105 1 gx)], nx := 7 }) else none)))) (Ke (Ex.exit 2) { tmps := [(0, AV.adr 0 0 0), (6, AV.adr 1 0 0), (7, AV.int IntKind.i64 n), (8, AV.adr 2 0 0), (11, AV.row 3)], mem := [(0, Ob.box [AV.psl 3 len g, AV.int IntKind.i64 (a : Int)]), (1, Ob.box [AV.nils, AV.nils, AV.nils, AV.nils, AV.nils, AV.nils, AV.nils]), (2, Ob.box [AV.psl 71 3 ga, AV.row 4, AV.row 5, AV.nils, AV.nils, AV.nils, AV.nils]), (3, Ob.prow 109 mr gr), (4, Ob.prow 29 m gm), (5, Ob.prow 105 1 gx)], nx := 7 })) := by kernel_rfl
theorem l44_12 : LOK cw11 lw10 44 12 ⟨[0,6,7,8,11], [(11, 0, 109)]⟩ L44_12 := by
  intro base s K h
  unfold L44_12 at h
  split at h
  · rename_i n kz len g az ga mrz grz m gm gx
    obtain ⟨⟨p0, p1, p2, v0, v1, v2, v3⟩, k1⟩ := h
    refine ⟨(kz + 1).toNat, loop_rule (fun N s => ∃ (a mr : Nat) (gr : Nat → Nat → PV) (k : Int), s = (⟨[(0, .adr 0 0 0), (6, .adr 1 0 0), (7, .int .i64 n), (8, .adr 2 0 0), (11, .row 3), (12, .int .i64 k)], [(0, .box [.psl 3 len g, .int .i64 (.ofNat a)]), (1, .box [.nils, .nils, .nils, .nils, .nils, .nils, .nils]), (2, .box [.psl 71 3 ga, .row 4, .row 5, .nils, .nils, .nils, .nils]), (3, .prow 109 mr gr), (4, .prow 29 m gm), (5, .prow 105 1 gx)], 7⟩ : FS) ∧ a ≤ len ∧ 0 ≤ k ∧ (mr : Int) + k ≤ 4 ∧ RegsN mr gr ∧ k + 1 ≤ (N : Int)) ?_ ?_ _ _ ⟨az, mrz, grz, kz, rfl, v0, v1, v2, v3, by omega⟩⟩
    · rintro s ⟨a, mr, gr, k, _, i0, i1, i2, i3, iN⟩; omega
    · rintro N Kn hKn s ⟨a, mr, gr, k, rfl, i0, i1, i2, i3, iN⟩
      rw [r44_12]
      try rw [show IntKind.i64.wrap (k - 1) = k - 1 from wrap_id (by omega) (by omega)]
      (repeat' (first | with_reducible refine brd (fun _ => ?_) (fun _ => ?_) | with_reducible refine holds_if ?_ ?_ | with_reducible refine holds_ifn ?_ ?_ | with_reducible refine holds_some ?_ | with_reducible refine br (fun _ => ?_) (fun _ => ?_) | with_reducible refine And.intro ?_ ?_ | with_reducible refine fun _ => ?_))
      all_goals first
        | omega
        | exact trivial
        | exact k1
        | exact k1 _
        | exact k1 _ _
        | exact k1 _ _ _
        | exact hKn _ ⟨_, _, _, _, rfl, i0, i1, i2, i3, by omega⟩
        | exact k1 _ _ _ (by omega) (by omega) (by assumption)
        | exact hKn _ ⟨_, _, _, _, rfl, by omega, by omega, by omega, by assumption, by omega⟩
        | exact hKn _ ⟨_, _, _, _, rfl, by omega, by omega, by omega, regs_cat (by assumption) (regs_one (by assumption) (by omega) (pairs_key _)), by omega⟩
        | exact hKn _ ⟨_, _, _, _, rfl, by omega, by omega, by omega, regs_cat (by assumption) (regs_one (by assumption) (by omega) pairs_nil), by omega⟩
        | (rw [wrap_id (by omega) (by omega)]; omega)
  · exact h.elim
noncomputable def lw11_ : FuncId → Nat → Option (Hint × LSpec) := fun f rid => match f, rid with
  | 44, 12 => some (⟨[0,6,7,8,11], [(11, 0, 109)]⟩, L44_12)
  | _, _ => none
noncomputable def lw11 : LoopW := addL lw11_ lw10
theorem lay22 : Lay Tryz.prog ctx cw11 lw11 := layL lay21 fun f rid p h => by
  unfold lw11_ at h
  split at h <;> cases h
  · exact ⟨by kernel_rfl, l44_12⟩
end Go.Proofs.YtkenjojkpdeooaaGreatDoor
end
section
set_option linter.unusedVariables false
set_option maxRecDepth 100000
set_option maxHeartbeats 2000000
set_option linter.unusedSimpArgs false
set_option linter.constructorNameAsVariable false
namespace Go.Proofs.YtkenjojkpdeooaaGreatDoor
open AI

theorem wrap_eq (x : Int) : IntKind.i64.wrap x = (x + 9223372036854775808) % 18446744073709551616 - 9223372036854775808 := by
  have b : IntKind.i64.bits = 64 := rfl
  have g : IntKind.i64.signed = true := rfl
  simp only [IntKind.wrap, b, g, Bool.true_and, decide_eq_true_eq]
  split <;> omega
theorem nodes_push {n : Nat} {g : Nat → Nat → PV} {s : ByteArray} {b e : PV} {p : Int} (h : NodesN n g) (hs : s ∈ sig) (h0 : -1 ≤ p) (h1 : p < n) : NodesN (n + 1) (cat n g (fun i j => [PV.str s, b, e, PV.int p].getD (i * 4 + j) .bad)) := by
  intro j hj
  rw [cat_row]
  by_cases hl : j < n
  · rw [if_pos hl]; exact h j hl
  · rw [if_neg hl]
    obtain rfl : j = n := by omega
    rw [Nat.sub_self]
    exact ⟨hs, h0, h1⟩
theorem lab1_sig (i : Nat) : ([PV.str (strL [83]), PV.str (strL [78, 80])].getD (i * 1 + 0) .bad).s ∈ sig := by
  match i with
  | 0 => show strL [83] ∈ sig; unfold sig; exact List.mem_append_right _ (by simp)
  | 1 => show strL [78, 80] ∈ sig; unfold sig; exact List.mem_append_right _ (by simp)
  | n + 2 => exact nil_sig
theorem lab2_sig (i : Nat) : ([PV.str (strL [78, 80]), PV.str (strL [86, 80])].getD (i * 1 + 0) .bad).s ∈ sig := by
  match i with
  | 0 => show strL [78, 80] ∈ sig; unfold sig; exact List.mem_append_right _ (by simp)
  | 1 => show strL [86, 80] ∈ sig; unfold sig; exact List.mem_append_right _ (by simp)
  | n + 2 => exact nil_sig
theorem rel_sig (i : Nat) : ([PV.str (strL [111, 98, 106]), PV.str (strL [100, 101, 116]), PV.str (strL [])].getD (i * 1 + 0) .bad).s ∈ sig := by
  match i with
  | 0 => show strL [111, 98, 106] ∈ sig; unfold sig; exact List.mem_append_right _ (by simp)
  | 1 => show strL [100, 101, 116] ∈ sig; unfold sig; exact List.mem_append_right _ (by simp)
  | 2 => exact nil_sig
  | n + 3 => exact nil_sig
noncomputable def L76_3 : LSpec := fun base s K => match base, s with
  | 4, ⟨[(0, .adr 0 0 0), (1, .adr 1 0 0), (4, .int .i64 m'), (5, .int .i64 at_), (6, .int .i64 k)], [(0, .box [.psl 3 len g, .int .i64 (.ofNat a)]), (1, .box [.psl 71 3 ga, .row 2, .row 3, .psl 109 nr gr, .row 4, .nils, .nils]), (2, .prow 29 m gm), (3, .prow 105 1 gx), (4, .prow 117 nn gn)], 9⟩ => (m' = m ∧ m ≤ 1000 ∧ len ≤ 120 ∧ a ≤ len ∧ 0 ≤ at_ ∧ at_ ≤ m ∧ 0 ≤ k ∧ (nn : Int) + 2 * k ≤ 6 ∧ NodesN nn gn) ∧ (∀ (a' m' : Nat) g', a' ≤ len → m' ≤ 6 → NodesN m' g' → K (.exit 0) ⟨[], [(0, .box [.psl 3 len g, .int .i64 (.ofNat a')]), (1, .box [.psl 71 3 ga, .row 2, .row 3, .psl 109 nr gr, .row 4, .nils, .nils]), (2, .prow 29 m gm), (3, .prow 105 1 gx), (4, .prow 117 m' g')], 9⟩)
  | _, _ => False
theorem r76_3 (len nr m : Nat) (g ga gr gm gx : Nat → Nat → PV) (a nn : Nat) (gn : Nat → Nat → PV) (at_ k : Int)  (Kn : FS → Prop) (Ke : Ex → FS → Prop) : roundW cw11 lw11 76 4 ⟨[], [(1, 5, 117)]⟩ (loopB 76 3) ⟨[(0, .adr 0 0 0), (1, .adr 1 0 0), (4, .int .i64 m), (5, .int .i64 at_), (6, .int .i64 k)], [(0, .box [.psl 3 len g, .int .i64 (.ofNat a)]), (1, .box [.psl 71 3 ga, .row 2, .row 3, .psl 109 nr gr, .row 4, .nils, .nils]), (2, .prow 29 m gm), (3, .prow 105 1 gx), (4, .prow 117 nn gn)], 9⟩ Kn Ke = (brW (decide (k > (0 : Int))) (brW (decide (at_ < (m : Int))) (((1 : Int) ≤ (2 : Int) ∧ (2 : Int) ≤ (4611686018427387904 : Int) ∧ a ≤ len ∧ len ≤ 120) ∧ ∀ (r : Int) (a' : Nat), (0 : Int) ≤ r → r < (2 : Int) → a' ≤ len → brW (decide (IntKind.i64.wrap (at_ + r) ≥ (m : Int))) (Ke (Ex.exit 0) { tmps := [], mem := [(0, Ob.box [AV.psl 3 len g, AV.int IntKind.i64 (↑a' : Int)]), (1, Ob.box [AV.psl 71 3 ga, AV.row 2, AV.row 3, AV.psl 109 nr gr, AV.row 4, AV.nils, AV.nils]), (2, Ob.prow 29 m gm), (3, Ob.prow 105 1 gx), (4, Ob.prow 117 nn gn)], nx := 9 }) (((1 : Int) ≤ IntKind.i64.wrap ((m : Int) - IntKind.i64.wrap (at_ + r)) ∧ IntKind.i64.wrap ((m : Int) - IntKind.i64.wrap (at_ + r)) ≤ (4611686018427387904 : Int) ∧ a' ≤ len ∧ len ≤ 120) ∧ ∀ (r_1 : Int) (a'_1 : Nat), (0 : Int) ≤ r_1 → r_1 < IntKind.i64.wrap ((m : Int) - IntKind.i64.wrap (at_ + r)) → a'_1 ≤ len → ((1 : Int) ≤ (2 : Int) ∧ (2 : Int) ≤ (4611686018427387904 : Int) ∧ a'_1 ≤ len ∧ len ≤ 120) ∧ ∀ (r_2 : Int) (a'_2 : Nat), (0 : Int) ≤ r_2 → r_2 < (2 : Int) → a'_2 ≤ len → holds (if (0 : Int) ≤ r_2 then if r_2 < (2 : Int) then some (holds (if (nn + 1) * 41 ≤ 140737488355328 then some (((1 : Int) ≤ (2 : Int) ∧ (2 : Int) ≤ (4611686018427387904 : Int) ∧ a'_2 ≤ len ∧ len ≤ 120) ∧ ∀ (r_3 : Int) (a'_3 : Nat), (0 : Int) ≤ r_3 → r_3 < (2 : Int) → a'_3 ≤ len → brW (r_3 == (1 : Int)) (((1 : Int) ≤ IntKind.i64.wrap (IntKind.i64.wrap (IntKind.i64.wrap (IntKind.i64.wrap (at_ + r) + (1 : Int)) + r_1) - IntKind.i64.wrap (at_ + r)) ∧ IntKind.i64.wrap (IntKind.i64.wrap (IntKind.i64.wrap (IntKind.i64.wrap (at_ + r) + (1 : Int)) + r_1) - IntKind.i64.wrap (at_ + r)) ≤ (4611686018427387904 : Int) ∧ a'_3 ≤ len ∧ len ≤ 120) ∧ ∀ (r_4 : Int) (a'_4 : Nat), (0 : Int) ≤ r_4 → r_4 < IntKind.i64.wrap (IntKind.i64.wrap (IntKind.i64.wrap (IntKind.i64.wrap (at_ + r) + (1 : Int)) + r_1) - IntKind.i64.wrap (at_ + r)) → a'_4 ≤ len → ((1 : Int) ≤ (2 : Int) ∧ (2 : Int) ≤ (4611686018427387904 : Int) ∧ a'_4 ≤ len ∧ len ≤ 120) ∧ ∀ (r_5 : Int) (a'_5 : Nat), (0 : Int) ≤ r_5 → r_5 < (2 : Int) → a'_5 ≤ len → holds (if (0 : Int) ≤ r_5 then if r_5 < (2 : Int) then some (((1 : Int) ≤ IntKind.i64.wrap (IntKind.i64.wrap (IntKind.i64.wrap (IntKind.i64.wrap (at_ + r) + (1 : Int)) + r_1) - IntKind.i64.wrap (IntKind.i64.wrap (at_ + r) + r_4)) ∧ IntKind.i64.wrap (IntKind.i64.wrap (IntKind.i64.wrap (IntKind.i64.wrap (at_ + r) + (1 : Int)) + r_1) - IntKind.i64.wrap (IntKind.i64.wrap (at_ + r) + r_4)) ≤ (4611686018427387904 : Int) ∧ a'_5 ≤ len ∧ len ≤ 120) ∧ ∀ (r_6 : Int) (a'_6 : Nat), (0 : Int) ≤ r_6 → r_6 < IntKind.i64.wrap (IntKind.i64.wrap (IntKind.i64.wrap (IntKind.i64.wrap (at_ + r) + (1 : Int)) + r_1) - IntKind.i64.wrap (IntKind.i64.wrap (at_ + r) + r_4)) → a'_6 ≤ len → holds (if (nn + 1 + 1) * 41 ≤ 140737488355328 then some (Kn { tmps := [(0, AV.adr 0 0 0), (1, AV.adr 1 0 0), (4, AV.int IntKind.i64 (m : Int)), (5, AV.int IntKind.i64 (IntKind.i64.wrap (IntKind.i64.wrap (IntKind.i64.wrap (at_ + r) + (1 : Int)) + r_1))), (6, AV.int IntKind.i64 (IntKind.i64.wrap (k - (1 : Int))))], mem := [(0, Ob.box [AV.psl 3 len g, AV.int IntKind.i64 (↑a'_6 : Int)]), (1, Ob.box [AV.psl 71 3 ga, AV.row 2, AV.row 3, AV.psl 109 nr gr, AV.row 4, AV.nils, AV.nils]), (2, Ob.prow 29 m gm), (3, Ob.prow 105 1 gx), (4, Ob.prow 117 (nn + 1 + 1) (cat (nn + 1) (cat nn gn fun i j => [PV.str ([PV.str (strL [83]), PV.str (strL [78, 80])].getD (r_2.toNat * 1 + 0) PV.bad).s, PV.int (IntKind.i64.wrap (at_ + r)), PV.int (IntKind.i64.wrap (IntKind.i64.wrap (IntKind.i64.wrap (at_ + r) + (1 : Int)) + r_1)), PV.int (-1 : Int)].getD (i * 4 + j) PV.bad) fun i j => [PV.str ([PV.str (strL [78, 80]), PV.str (strL [86, 80])].getD (r_5.toNat * 1 + 0) PV.bad).s, PV.int (IntKind.i64.wrap (IntKind.i64.wrap (at_ + r) + r_4)), PV.int (IntKind.i64.wrap (IntKind.i64.wrap (IntKind.i64.wrap (IntKind.i64.wrap (at_ + r) + r_4) + (1 : Int)) + r_6)), PV.int (nn : Int)].getD (i * 4 + j) PV.bad))], nx := 9 }) else none)) else none else none)) (Kn { tmps := [(0, AV.adr 0 0 0), (1, AV.adr 1 0 0), (4, AV.int IntKind.i64 (m : Int)), (5, AV.int IntKind.i64 (IntKind.i64.wrap (IntKind.i64.wrap (IntKind.i64.wrap (at_ + r) + (1 : Int)) + r_1))), (6, AV.int IntKind.i64 (IntKind.i64.wrap (k - (1 : Int))))], mem := [(0, Ob.box [AV.psl 3 len g, AV.int IntKind.i64 (↑a'_3 : Int)]), (1, Ob.box [AV.psl 71 3 ga, AV.row 2, AV.row 3, AV.psl 109 nr gr, AV.row 4, AV.nils, AV.nils]), (2, Ob.prow 29 m gm), (3, Ob.prow 105 1 gx), (4, Ob.prow 117 (nn + 1) (cat nn gn fun i j => [PV.str ([PV.str (strL [83]), PV.str (strL [78, 80])].getD (r_2.toNat * 1 + 0) PV.bad).s, PV.int (IntKind.i64.wrap (at_ + r)), PV.int (IntKind.i64.wrap (IntKind.i64.wrap (IntKind.i64.wrap (at_ + r) + (1 : Int)) + r_1)), PV.int (-1 : Int)].getD (i * 4 + j) PV.bad))], nx := 9 })) else none)) else none else none))) (Ke (Ex.exit 0) { tmps := [], mem := [(0, Ob.box [AV.psl 3 len g, AV.int IntKind.i64 (a : Int)]), (1, Ob.box [AV.psl 71 3 ga, AV.row 2, AV.row 3, AV.psl 109 nr gr, AV.row 4, AV.nils, AV.nils]), (2, Ob.prow 29 m gm), (3, Ob.prow 105 1 gx), (4, Ob.prow 117 nn gn)], nx := 9 })) (Ke (Ex.exit 0) { tmps := [], mem := [(0, Ob.box [AV.psl 3 len g, AV.int IntKind.i64 (a : Int)]), (1, Ob.box [AV.psl 71 3 ga, AV.row 2, AV.row 3, AV.psl 109 nr gr, AV.row 4, AV.nils, AV.nils]), (2, Ob.prow 29 m gm), (3, Ob.prow 105 1 gx), (4, Ob.prow 117 nn gn)], nx := 9 })) := by kernel_rfl
theorem l76_3 : LOK cw11 lw11 76 3 ⟨[], [(1, 5, 117)]⟩ L76_3 := by
  intro base s K h
  unfold L76_3 at h
  split at h
  · rename_i m' at_z kz len g az ga nr gr m gm gx nnz gnz
    obtain ⟨⟨rfl, p0, p1, v0, v1, v2, v3, v4, v5⟩, k1⟩ := h
    refine ⟨(kz + 1).toNat, loop_rule (fun N s => ∃ (a nn : Nat) (gn : Nat → Nat → PV) (at_ k : Int), s = (⟨[(0, .adr 0 0 0), (1, .adr 1 0 0), (4, .int .i64 m), (5, .int .i64 at_), (6, .int .i64 k)], [(0, .box [.psl 3 len g, .int .i64 (.ofNat a)]), (1, .box [.psl 71 3 ga, .row 2, .row 3, .psl 109 nr gr, .row 4, .nils, .nils]), (2, .prow 29 m gm), (3, .prow 105 1 gx), (4, .prow 117 nn gn)], 9⟩ : FS) ∧ a ≤ len ∧ 0 ≤ at_ ∧ at_ ≤ m ∧ 0 ≤ k ∧ (nn : Int) + 2 * k ≤ 6 ∧ NodesN nn gn ∧ k + 1 ≤ (N : Int)) ?_ ?_ _ _ ⟨az, nnz, gnz, at_z, kz, rfl, v0, v1, v2, v3, v4, v5, by omega⟩⟩
    · rintro s ⟨a, nn, gn, at_, k, _, i0, i1, i2, i3, i4, i5, iN⟩; omega
    · rintro N Kn hKn s ⟨a, nn, gn, at_, k, rfl, i0, i1, i2, i3, i4, i5, iN⟩
      rw [r76_3]
      try rw [show IntKind.i64.wrap (k - 1) = k - 1 from wrap_id (by omega) (by omega)]
      (repeat' (first | with_reducible refine brd (fun _ => ?_) (fun _ => ?_) | with_reducible refine holds_if ?_ ?_ | with_reducible refine holds_ifn ?_ ?_ | with_reducible refine holds_some ?_ | with_reducible refine br (fun _ => ?_) (fun _ => ?_) | with_reducible refine And.intro ?_ ?_ | with_reducible refine fun _ => ?_))
      all_goals first
        | omega
        | exact trivial
        | exact k1
        | exact k1 _
        | exact k1 _ _
        | exact k1 _ _ _
        | exact hKn _ ⟨_, _, _, _, _, rfl, i0, i1, i2, i3, i4, i5, by omega⟩
        | exact k1 _ _ _ (by omega) (by omega) (by assumption)
        | (first | omega | (simp only [wrap_eq] at *; omega))
        | exact hKn _ ⟨_, _, _, _, _, rfl, by omega, by (first | omega | (simp only [wrap_eq] at *; omega)), by (first | omega | (simp only [wrap_eq] at *; omega)), by omega, by omega, nodes_push (nodes_push (by assumption) (lab1_sig _) (by omega) (by omega)) (lab2_sig _) (by omega) (by omega), by omega⟩
        | exact hKn _ ⟨_, _, _, _, _, rfl, by omega, by (first | omega | (simp only [wrap_eq] at *; omega)), by (first | omega | (simp only [wrap_eq] at *; omega)), by omega, by omega, nodes_push (by assumption) (lab1_sig _) (by omega) (by omega), by omega⟩
  · exact h.elim
noncomputable def lw12_ : FuncId → Nat → Option (Hint × LSpec) := fun f rid => match f, rid with
  | 76, 3 => some (⟨[], [(1, 5, 117)]⟩, L76_3)
  | _, _ => none
noncomputable def lw12 : LoopW := addL lw12_ lw11
theorem lay23 : Lay Tryz.prog ctx cw11 lw12 := layL lay22 fun f rid p h => by
  unfold lw12_ at h
  split at h <;> cases h
  · exact ⟨by kernel_rfl, l76_3⟩
end Go.Proofs.YtkenjojkpdeooaaGreatDoor
end
section
set_option linter.unusedVariables false
set_option maxRecDepth 100000
set_option maxHeartbeats 2000000
set_option linter.unusedSimpArgs false
set_option linter.constructorNameAsVariable false
namespace Go.Proofs.YtkenjojkpdeooaaGreatDoor
open AI

/-- Numbers below m. -/
def IxN (n m : Nat) (g : Nat → Nat → PV) : Prop := ∀ j, j < n → 0 ≤ (g j 0).i ∧ (g j 0).i < (m : Int)
theorem ix_ins {k m r : Nat} {i : Int} {go : Nat → Nat → PV} (h : IxN k m go) (hr : r ≤ k) (h0 : 0 ≤ i) (h1 : i < m) : IxN (0 + (r - 0) + 1 + (k - r)) m
    (cat (0 + (r - 0) + 1) (cat (0 + (r - 0)) (cat 0 (fun i_1 j => [].getD (i_1 * 1 + j) PV.bad) fun i_1 j => go (0 + i_1) j) fun i_1 j => [PV.int i].getD (i_1 * 1 + j) PV.bad) fun i_1 j => go (r + i_1) j) := by
  refine all_cat (P := fun p => 0 ≤ (p 0).i ∧ (p 0).i < (m : Int)) (all_cat (P := fun p => 0 ≤ (p 0).i ∧ (p 0).i < (m : Int)) (all_cat (P := fun p => 0 ≤ (p 0).i ∧ (p 0).i < (m : Int)) (fun j hj => absurd hj (Nat.not_lt_zero j)) fun j hj => h (0 + j) (by omega)) fun j hj => ?_) fun j hj => h (r + j) (by omega)
  obtain rfl : j = 0 := by omega
  exact ⟨h0, h1⟩
noncomputable def L77_3 : LSpec := fun base s K => match base, s with
  | 5, ⟨[(0, .adr 0 0 0), (1, .adr 1 0 0), (4, .int .i64 m'), (5, .row 5), (6, .int .i64 i)], [(0, .box [.psl 3 len g, .int .i64 (.ofNat a)]), (1, .box [.psl 71 3 ga, .row 2, .row 3, .psl 109 nr gr, .row 4, .nils, .nils]), (2, .prow 29 m gm), (3, .prow 105 1 gx), (4, .prow 117 nn gn), (5, .prow 3 k go)], 11⟩ => (m' = m ∧ 0 ≤ i ∧ i ≤ m ∧ m ≤ 1000 ∧ len ≤ 120 ∧ a ≤ len ∧ (k : Int) = i ∧ IxN k m go) ∧ (∀ (a' k' : Nat) g', a' ≤ len → k' = m → IxN k' m g' → K (.exit 0) ⟨[(0, .adr 0 0 0), (1, .adr 1 0 0), (4, .int .i64 m), (5, .row 5)], [(0, .box [.psl 3 len g, .int .i64 (.ofNat a')]), (1, .box [.psl 71 3 ga, .row 2, .row 3, .psl 109 nr gr, .row 4, .nils, .nils]), (2, .prow 29 m gm), (3, .prow 105 1 gx), (4, .prow 117 nn gn), (5, .prow 3 k' g')], 11⟩)
  | _, _ => False
theorem r77_3 (len nr m nn : Nat) (g ga gr gm gx gn : Nat → Nat → PV) (a : Nat) (go : Nat → Nat → PV) (k : Nat) (i : Int) (Kn : FS → Prop) (Ke : Ex → FS → Prop) : roundW cw11 lw12 77 5 ⟨[0,1,4,5], [(5, 0, 3)]⟩ (loopB 77 3) ⟨[(0, .adr 0 0 0), (1, .adr 1 0 0), (4, .int .i64 m), (5, .row 5), (6, .int .i64 i)], [(0, .box [.psl 3 len g, .int .i64 (.ofNat a)]), (1, .box [.psl 71 3 ga, .row 2, .row 3, .psl 109 nr gr, .row 4, .nils, .nils]), (2, .prow 29 m gm), (3, .prow 105 1 gx), (4, .prow 117 nn gn), (5, .prow 3 k go)], 11⟩ Kn Ke = (brW (decide (i < (m : Int))) (((1 : Int) ≤ IntKind.i64.wrap (i + (1 : Int)) ∧ IntKind.i64.wrap (i + (1 : Int)) ≤ (4611686018427387904 : Int) ∧ a ≤ len ∧ len ≤ 120) ∧ ∀ (r : Int) (a' : Nat), (0 : Int) ≤ r → r < IntKind.i64.wrap (i + (1 : Int)) → a' ≤ len → holds (if (0 : Int) ≤ r then if r ≤ (k : Int) then some (holds (if (0 + (r.toNat - 0)) * 9 ≤ 140737488355328 then some (holds (if (0 + (r.toNat - 0) + 1) * 9 ≤ 140737488355328 then some (holds (if (0 : Int) ≤ r then if r ≤ (k : Int) then some (holds (if (0 + (r.toNat - 0) + 1 + (k - r.toNat)) * 9 ≤ 140737488355328 then some (Kn { tmps := [(0, AV.adr 0 0 0), (1, AV.adr 1 0 0), (4, AV.int IntKind.i64 (m : Int)), (5, AV.row 5), (6, AV.int IntKind.i64 (IntKind.i64.wrap (i + (1 : Int))))], mem := [(0, Ob.box [AV.psl 3 len g, AV.int IntKind.i64 (↑a' : Int)]), (1, Ob.box [AV.psl 71 3 ga, AV.row 2, AV.row 3, AV.psl 109 nr gr, AV.row 4, AV.nils, AV.nils]), (2, Ob.prow 29 m gm), (3, Ob.prow 105 1 gx), (4, Ob.prow 117 nn gn), (5, Ob.prow 3 (0 + (r.toNat - 0) + 1 + (k - r.toNat)) (cat (0 + (r.toNat - 0) + 1) (cat (0 + (r.toNat - 0)) (cat 0 (fun i_1 j => [].getD (i_1 * 1 + j) PV.bad) fun i_1 j => go (0 + i_1) j) fun i_1 j => [PV.int i].getD (i_1 * 1 + j) PV.bad) fun i_1 j => go (r.toNat + i_1) j))], nx := 11 }) else none)) else none else none)) else none)) else none)) else none else none)) (Ke (Ex.exit 0) { tmps := [(0, AV.adr 0 0 0), (1, AV.adr 1 0 0), (4, AV.int IntKind.i64 (m : Int)), (5, AV.row 5)], mem := [(0, Ob.box [AV.psl 3 len g, AV.int IntKind.i64 (a : Int)]), (1, Ob.box [AV.psl 71 3 ga, AV.row 2, AV.row 3, AV.psl 109 nr gr, AV.row 4, AV.nils, AV.nils]), (2, Ob.prow 29 m gm), (3, Ob.prow 105 1 gx), (4, Ob.prow 117 nn gn), (5, Ob.prow 3 k go)], nx := 11 })) := by kernel_rfl
theorem l77_3 : LOK cw11 lw12 77 3 ⟨[0,1,4,5], [(5, 0, 3)]⟩ L77_3 := by
  intro base s K h
  unfold L77_3 at h
  split at h
  · rename_i m' iz len g az ga nr gr m gm gx nn gn kz goz
    obtain ⟨⟨rfl, a0, a1, p0, p1, v0, v1, v2⟩, k1⟩ := h
    refine ⟨((m : Int) - iz + 1).toNat, loop_rule (fun N s => ∃ (a : Nat) (go : Nat → Nat → PV) (k : Nat) (i : Int), s = (⟨[(0, .adr 0 0 0), (1, .adr 1 0 0), (4, .int .i64 m), (5, .row 5), (6, .int .i64 i)], [(0, .box [.psl 3 len g, .int .i64 (.ofNat a)]), (1, .box [.psl 71 3 ga, .row 2, .row 3, .psl 109 nr gr, .row 4, .nils, .nils]), (2, .prow 29 m gm), (3, .prow 105 1 gx), (4, .prow 117 nn gn), (5, .prow 3 k go)], 11⟩ : FS) ∧ 0 ≤ i ∧ i ≤ m ∧ a ≤ len ∧ (k : Int) = i ∧ IxN k m go ∧ (m : Int) - i + 1 ≤ (N : Int)) ?_ ?_ _ _ ⟨az, goz, kz, iz, rfl, a0, a1, v0, v1, v2, by omega⟩⟩
    · rintro s ⟨a, go, k, i, _, i0, i1, i2, i3, i4, iN⟩; omega
    · rintro N Kn hKn s ⟨a, go, k, i, rfl, i0, i1, i2, i3, i4, iN⟩
      rw [r77_3]
      try rw [wrap_succ i0 (by omega)]
      (repeat' (first | with_reducible refine brd (fun _ => ?_) (fun _ => ?_) | with_reducible refine holds_if ?_ ?_ | with_reducible refine holds_ifn ?_ ?_ | with_reducible refine holds_some ?_ | with_reducible refine br (fun _ => ?_) (fun _ => ?_) | with_reducible refine And.intro ?_ ?_ | with_reducible refine fun _ => ?_))
      all_goals first
        | omega
        | exact trivial
        | exact k1
        | exact k1 _
        | exact k1 _ _
        | exact k1 _ _ _
        | exact hKn _ ⟨_, _, _, i + 1, rfl, by omega, by omega, i2, i3, i4, by omega⟩
        | exact k1 _ _ _ (by omega) (by omega) (by assumption)
        | (first | omega | (simp only [wrap_eq] at *; omega))
        | exact hKn _ ⟨_, _, _, i + 1, rfl, by omega, by omega, by omega, by omega, ix_ins (by assumption) (by omega) (by omega) (by omega), by omega⟩
  · exact h.elim
noncomputable def lw13_ : FuncId → Nat → Option (Hint × LSpec) := fun f rid => match f, rid with
  | 77, 3 => some (⟨[0,1,4,5], [(5, 0, 3)]⟩, L77_3)
  | _, _ => none
noncomputable def lw13 : LoopW := addL lw13_ lw12
theorem lay24 : Lay Tryz.prog ctx cw11 lw13 := layL lay23 fun f rid p h => by
  unfold lw13_ at h
  split at h <;> cases h
  · exact ⟨by kernel_rfl, l77_3⟩
theorem strs_set {n : Nat} {g : Nat → Nat → PV} {i : Nat} {p : PV} (h : StrsN n g) (hp : p.s ∈ sig) : StrsN n (setRow g i 0 [p]) := by
  intro j hj
  rw [setRow_eq]
  by_cases e : j = i
  · rw [if_pos e]; exact hp
  · rw [if_neg e]; exact h j hj
noncomputable def L77_10 : LSpec := fun base s K => match base, s with
  | 5, ⟨[(0, .adr 0 0 0), (1, .adr 1 0 0), (5, .row 5), (8, .row 6), (9, .row 7), (10, .bool b), (43, .row 5), (44, .int .i64 m'), (45, .int .i64 i)], [(0, .box [.psl 3 len g, .int .i64 (.ofNat a)]), (1, .box [.psl 71 3 ga, .row 2, .row 3, .psl 109 nr gr, .row 4, .nils, .nils]), (2, .prow 29 m gm), (3, .prow 105 1 gx), (4, .prow 117 nn gn), (5, .prow 3 m_1 go), (6, .prow 3 m_2 gh), (7, .prow 9 m_3 gs)], 13⟩ => (m' = m ∧ m = m_1 ∧ m = m_2 ∧ m = m_3 ∧ 0 ≤ i ∧ i ≤ m ∧ m ≤ 1000 ∧ len ≤ 120 ∧ IxN m m go ∧ a ≤ len ∧ StrsN m gs) ∧ (∀ (a' : Nat) (b' : Bool) gh' gs', a' ≤ len → StrsN m gs' → K (.exit 2) ⟨[(1, .adr 1 0 0), (8, .row 5), (9, .row 6), (10, .bool b')], [(0, .box [.psl 3 len g, .int .i64 (.ofNat a')]), (1, .box [.psl 71 3 ga, .row 2, .row 3, .psl 109 nr gr, .row 4, .nils, .nils]), (2, .prow 29 m gm), (3, .prow 105 1 gx), (4, .prow 117 nn gn), (5, .prow 3 m gh'), (6, .prow 9 m gs')], 12⟩)
  | _, _ => False
theorem r77_10 (len nr m nn : Nat) (g ga gr gm gx gn go : Nat → Nat → PV) (a : Nat) (b : Bool) (gh gs : Nat → Nat → PV) (i : Int) (Kn : FS → Prop) (Ke : Ex → FS → Prop) : roundW cw11 lw13 77 5 ⟨[1,8,9,10], []⟩ (loopB 77 10) ⟨[(0, .adr 0 0 0), (1, .adr 1 0 0), (5, .row 5), (8, .row 6), (9, .row 7), (10, .bool b), (43, .row 5), (44, .int .i64 m), (45, .int .i64 i)], [(0, .box [.psl 3 len g, .int .i64 (.ofNat a)]), (1, .box [.psl 71 3 ga, .row 2, .row 3, .psl 109 nr gr, .row 4, .nils, .nils]), (2, .prow 29 m gm), (3, .prow 105 1 gx), (4, .prow 117 nn gn), (5, .prow 3 m go), (6, .prow 3 m gh), (7, .prow 9 m gs)], 13⟩ Kn Ke = (brW (decide (i < (m : Int))) (holds (if (0 : Int) ≤ i then if i < (m : Int) then some (holds (if (0 : Int) ≤ (go i.toNat 0).i then if (go i.toNat 0).i < (m : Int) then some (brW (decide (i > (0 : Int))) (((1 : Int) ≤ (4 : Int) ∧ (4 : Int) ≤ (4611686018427387904 : Int) ∧ a ≤ len ∧ len ≤ 120) ∧ ∀ (r : Int) (a' : Nat), (0 : Int) ≤ r → r < (4 : Int) → a' ≤ len → brW (decide (r > (0 : Int))) (((1 : Int) ≤ i ∧ i ≤ (4611686018427387904 : Int) ∧ a' ≤ len ∧ len ≤ 120) ∧ ∀ (r_1 : Int) (a'_1 : Nat), (0 : Int) ≤ r_1 → r_1 < i → a'_1 ≤ len → holds (if (0 : Int) ≤ r_1 then if r_1 < (m : Int) then some (((1 : Int) ≤ (3 : Int) ∧ (3 : Int) ≤ (4611686018427387904 : Int) ∧ a'_1 ≤ len ∧ len ≤ 120) ∧ ∀ (r_2 : Int) (a'_2 : Nat), (0 : Int) ≤ r_2 → r_2 < (3 : Int) → a'_2 ≤ len → holds (if (0 : Int) ≤ r_2 then if r_2 < (3 : Int) then some (holds (if (0 : Int) ≤ (go i.toNat 0).i then if (go i.toNat 0).i < (m : Int) then some (holds (if (0 : Int) ≤ (go i.toNat 0).i then if (go i.toNat 0).i < (m : Int) then some (brW b (Kn { tmps := [(0, AV.adr 0 0 0), (1, AV.adr 1 0 0), (5, AV.row 5), (8, AV.row 6), (9, AV.row 7), (10, AV.bool true), (43, AV.row 5), (44, AV.int IntKind.i64 (m : Int)), (45, AV.int IntKind.i64 (IntKind.i64.wrap (i + (1 : Int))))], mem := [(0, Ob.box [AV.psl 3 len g, AV.int IntKind.i64 (↑a'_2 : Int)]), (1, Ob.box [AV.psl 71 3 ga, AV.row 2, AV.row 3, AV.psl 109 nr gr, AV.row 4, AV.nils, AV.nils]), (2, Ob.prow 29 m gm), (3, Ob.prow 105 1 gx), (4, Ob.prow 117 nn gn), (5, Ob.prow 3 m go), (6, Ob.prow 3 m (setRow (setRow gh (go i.toNat 0).i.toNat 0 [PV.int (-1 : Int)]) (go i.toNat 0).i.toNat 0 [PV.int (go r_1.toNat 0).i])), (7, Ob.prow 9 m (setRow gs (go i.toNat 0).i.toNat 0 [PV.str ([PV.str (strL [111, 98, 106]), PV.str (strL [100, 101, 116]), PV.str (strL [])].getD (r_2.toNat * 1 + 0) PV.bad).s]))], nx := 13 }) (holds (if (0 : Int) ≤ (go i.toNat 0).i then if (go i.toNat 0).i < (m : Int) then some (brW (!(setRow (setRow gh (go i.toNat 0).i.toNat 0 [PV.int (-1 : Int)]) (go i.toNat 0).i.toNat 0 [PV.int (go r_1.toNat 0).i] (go i.toNat 0).i.toNat 0).i == (-1 : Int)) (Kn { tmps := [(0, AV.adr 0 0 0), (1, AV.adr 1 0 0), (5, AV.row 5), (8, AV.row 6), (9, AV.row 7), (10, AV.bool true), (43, AV.row 5), (44, AV.int IntKind.i64 (m : Int)), (45, AV.int IntKind.i64 (IntKind.i64.wrap (i + (1 : Int))))], mem := [(0, Ob.box [AV.psl 3 len g, AV.int IntKind.i64 (↑a'_2 : Int)]), (1, Ob.box [AV.psl 71 3 ga, AV.row 2, AV.row 3, AV.psl 109 nr gr, AV.row 4, AV.nils, AV.nils]), (2, Ob.prow 29 m gm), (3, Ob.prow 105 1 gx), (4, Ob.prow 117 nn gn), (5, Ob.prow 3 m go), (6, Ob.prow 3 m (setRow (setRow gh (go i.toNat 0).i.toNat 0 [PV.int (-1 : Int)]) (go i.toNat 0).i.toNat 0 [PV.int (go r_1.toNat 0).i])), (7, Ob.prow 9 m (setRow gs (go i.toNat 0).i.toNat 0 [PV.str ([PV.str (strL [111, 98, 106]), PV.str (strL [100, 101, 116]), PV.str (strL [])].getD (r_2.toNat * 1 + 0) PV.bad).s]))], nx := 13 }) (holds (if (0 : Int) ≤ (go i.toNat 0).i then if (go i.toNat 0).i < (m : Int) then some (brW (!(setRow gs (go i.toNat 0).i.toNat 0 [PV.str ([PV.str (strL [111, 98, 106]), PV.str (strL [100, 101, 116]), PV.str (strL [])].getD (r_2.toNat * 1 + 0) PV.bad).s] (go i.toNat 0).i.toNat 0).s.toList == (strL []).toList) (Kn { tmps := [(0, AV.adr 0 0 0), (1, AV.adr 1 0 0), (5, AV.row 5), (8, AV.row 6), (9, AV.row 7), (10, AV.bool true), (43, AV.row 5), (44, AV.int IntKind.i64 (m : Int)), (45, AV.int IntKind.i64 (IntKind.i64.wrap (i + (1 : Int))))], mem := [(0, Ob.box [AV.psl 3 len g, AV.int IntKind.i64 (↑a'_2 : Int)]), (1, Ob.box [AV.psl 71 3 ga, AV.row 2, AV.row 3, AV.psl 109 nr gr, AV.row 4, AV.nils, AV.nils]), (2, Ob.prow 29 m gm), (3, Ob.prow 105 1 gx), (4, Ob.prow 117 nn gn), (5, Ob.prow 3 m go), (6, Ob.prow 3 m (setRow (setRow gh (go i.toNat 0).i.toNat 0 [PV.int (-1 : Int)]) (go i.toNat 0).i.toNat 0 [PV.int (go r_1.toNat 0).i])), (7, Ob.prow 9 m (setRow gs (go i.toNat 0).i.toNat 0 [PV.str ([PV.str (strL [111, 98, 106]), PV.str (strL [100, 101, 116]), PV.str (strL [])].getD (r_2.toNat * 1 + 0) PV.bad).s]))], nx := 13 }) (Kn { tmps := [(0, AV.adr 0 0 0), (1, AV.adr 1 0 0), (5, AV.row 5), (8, AV.row 6), (9, AV.row 7), (10, AV.bool false), (43, AV.row 5), (44, AV.int IntKind.i64 (m : Int)), (45, AV.int IntKind.i64 (IntKind.i64.wrap (i + (1 : Int))))], mem := [(0, Ob.box [AV.psl 3 len g, AV.int IntKind.i64 (↑a'_2 : Int)]), (1, Ob.box [AV.psl 71 3 ga, AV.row 2, AV.row 3, AV.psl 109 nr gr, AV.row 4, AV.nils, AV.nils]), (2, Ob.prow 29 m gm), (3, Ob.prow 105 1 gx), (4, Ob.prow 117 nn gn), (5, Ob.prow 3 m go), (6, Ob.prow 3 m (setRow (setRow gh (go i.toNat 0).i.toNat 0 [PV.int (-1 : Int)]) (go i.toNat 0).i.toNat 0 [PV.int (go r_1.toNat 0).i])), (7, Ob.prow 9 m (setRow gs (go i.toNat 0).i.toNat 0 [PV.str ([PV.str (strL [111, 98, 106]), PV.str (strL [100, 101, 116]), PV.str (strL [])].getD (r_2.toNat * 1 + 0) PV.bad).s]))], nx := 13 })) else none else none))) else none else none))) else none else none)) else none else none)) else none else none)) else none else none)) (brW b (Kn { tmps := [(0, AV.adr 0 0 0), (1, AV.adr 1 0 0), (5, AV.row 5), (8, AV.row 6), (9, AV.row 7), (10, AV.bool true), (43, AV.row 5), (44, AV.int IntKind.i64 (m : Int)), (45, AV.int IntKind.i64 (IntKind.i64.wrap (i + (1 : Int))))], mem := [(0, Ob.box [AV.psl 3 len g, AV.int IntKind.i64 (↑a' : Int)]), (1, Ob.box [AV.psl 71 3 ga, AV.row 2, AV.row 3, AV.psl 109 nr gr, AV.row 4, AV.nils, AV.nils]), (2, Ob.prow 29 m gm), (3, Ob.prow 105 1 gx), (4, Ob.prow 117 nn gn), (5, Ob.prow 3 m go), (6, Ob.prow 3 m (setRow gh (go i.toNat 0).i.toNat 0 [PV.int (-1 : Int)])), (7, Ob.prow 9 m gs)], nx := 13 }) (holds (if (0 : Int) ≤ (go i.toNat 0).i then if (go i.toNat 0).i < (m : Int) then some (brW (!(setRow gh (go i.toNat 0).i.toNat 0 [PV.int (-1 : Int)] (go i.toNat 0).i.toNat 0).i == (-1 : Int)) (Kn { tmps := [(0, AV.adr 0 0 0), (1, AV.adr 1 0 0), (5, AV.row 5), (8, AV.row 6), (9, AV.row 7), (10, AV.bool true), (43, AV.row 5), (44, AV.int IntKind.i64 (m : Int)), (45, AV.int IntKind.i64 (IntKind.i64.wrap (i + (1 : Int))))], mem := [(0, Ob.box [AV.psl 3 len g, AV.int IntKind.i64 (↑a' : Int)]), (1, Ob.box [AV.psl 71 3 ga, AV.row 2, AV.row 3, AV.psl 109 nr gr, AV.row 4, AV.nils, AV.nils]), (2, Ob.prow 29 m gm), (3, Ob.prow 105 1 gx), (4, Ob.prow 117 nn gn), (5, Ob.prow 3 m go), (6, Ob.prow 3 m (setRow gh (go i.toNat 0).i.toNat 0 [PV.int (-1 : Int)])), (7, Ob.prow 9 m gs)], nx := 13 }) (holds (if (0 : Int) ≤ (go i.toNat 0).i then if (go i.toNat 0).i < (m : Int) then some (brW (!(gs (go i.toNat 0).i.toNat 0).s.toList == (strL []).toList) (Kn { tmps := [(0, AV.adr 0 0 0), (1, AV.adr 1 0 0), (5, AV.row 5), (8, AV.row 6), (9, AV.row 7), (10, AV.bool true), (43, AV.row 5), (44, AV.int IntKind.i64 (m : Int)), (45, AV.int IntKind.i64 (IntKind.i64.wrap (i + (1 : Int))))], mem := [(0, Ob.box [AV.psl 3 len g, AV.int IntKind.i64 (↑a' : Int)]), (1, Ob.box [AV.psl 71 3 ga, AV.row 2, AV.row 3, AV.psl 109 nr gr, AV.row 4, AV.nils, AV.nils]), (2, Ob.prow 29 m gm), (3, Ob.prow 105 1 gx), (4, Ob.prow 117 nn gn), (5, Ob.prow 3 m go), (6, Ob.prow 3 m (setRow gh (go i.toNat 0).i.toNat 0 [PV.int (-1 : Int)])), (7, Ob.prow 9 m gs)], nx := 13 }) (Kn { tmps := [(0, AV.adr 0 0 0), (1, AV.adr 1 0 0), (5, AV.row 5), (8, AV.row 6), (9, AV.row 7), (10, AV.bool false), (43, AV.row 5), (44, AV.int IntKind.i64 (m : Int)), (45, AV.int IntKind.i64 (IntKind.i64.wrap (i + (1 : Int))))], mem := [(0, Ob.box [AV.psl 3 len g, AV.int IntKind.i64 (↑a' : Int)]), (1, Ob.box [AV.psl 71 3 ga, AV.row 2, AV.row 3, AV.psl 109 nr gr, AV.row 4, AV.nils, AV.nils]), (2, Ob.prow 29 m gm), (3, Ob.prow 105 1 gx), (4, Ob.prow 117 nn gn), (5, Ob.prow 3 m go), (6, Ob.prow 3 m (setRow gh (go i.toNat 0).i.toNat 0 [PV.int (-1 : Int)])), (7, Ob.prow 9 m gs)], nx := 13 })) else none else none))) else none else none)))) (brW b (Kn { tmps := [(0, AV.adr 0 0 0), (1, AV.adr 1 0 0), (5, AV.row 5), (8, AV.row 6), (9, AV.row 7), (10, AV.bool true), (43, AV.row 5), (44, AV.int IntKind.i64 (m : Int)), (45, AV.int IntKind.i64 (IntKind.i64.wrap (i + (1 : Int))))], mem := [(0, Ob.box [AV.psl 3 len g, AV.int IntKind.i64 (a : Int)]), (1, Ob.box [AV.psl 71 3 ga, AV.row 2, AV.row 3, AV.psl 109 nr gr, AV.row 4, AV.nils, AV.nils]), (2, Ob.prow 29 m gm), (3, Ob.prow 105 1 gx), (4, Ob.prow 117 nn gn), (5, Ob.prow 3 m go), (6, Ob.prow 3 m (setRow gh (go i.toNat 0).i.toNat 0 [PV.int (-1 : Int)])), (7, Ob.prow 9 m gs)], nx := 13 }) (holds (if (0 : Int) ≤ (go i.toNat 0).i then if (go i.toNat 0).i < (m : Int) then some (brW (!(setRow gh (go i.toNat 0).i.toNat 0 [PV.int (-1 : Int)] (go i.toNat 0).i.toNat 0).i == (-1 : Int)) (Kn { tmps := [(0, AV.adr 0 0 0), (1, AV.adr 1 0 0), (5, AV.row 5), (8, AV.row 6), (9, AV.row 7), (10, AV.bool true), (43, AV.row 5), (44, AV.int IntKind.i64 (m : Int)), (45, AV.int IntKind.i64 (IntKind.i64.wrap (i + (1 : Int))))], mem := [(0, Ob.box [AV.psl 3 len g, AV.int IntKind.i64 (a : Int)]), (1, Ob.box [AV.psl 71 3 ga, AV.row 2, AV.row 3, AV.psl 109 nr gr, AV.row 4, AV.nils, AV.nils]), (2, Ob.prow 29 m gm), (3, Ob.prow 105 1 gx), (4, Ob.prow 117 nn gn), (5, Ob.prow 3 m go), (6, Ob.prow 3 m (setRow gh (go i.toNat 0).i.toNat 0 [PV.int (-1 : Int)])), (7, Ob.prow 9 m gs)], nx := 13 }) (holds (if (0 : Int) ≤ (go i.toNat 0).i then if (go i.toNat 0).i < (m : Int) then some (brW (!(gs (go i.toNat 0).i.toNat 0).s.toList == (strL []).toList) (Kn { tmps := [(0, AV.adr 0 0 0), (1, AV.adr 1 0 0), (5, AV.row 5), (8, AV.row 6), (9, AV.row 7), (10, AV.bool true), (43, AV.row 5), (44, AV.int IntKind.i64 (m : Int)), (45, AV.int IntKind.i64 (IntKind.i64.wrap (i + (1 : Int))))], mem := [(0, Ob.box [AV.psl 3 len g, AV.int IntKind.i64 (a : Int)]), (1, Ob.box [AV.psl 71 3 ga, AV.row 2, AV.row 3, AV.psl 109 nr gr, AV.row 4, AV.nils, AV.nils]), (2, Ob.prow 29 m gm), (3, Ob.prow 105 1 gx), (4, Ob.prow 117 nn gn), (5, Ob.prow 3 m go), (6, Ob.prow 3 m (setRow gh (go i.toNat 0).i.toNat 0 [PV.int (-1 : Int)])), (7, Ob.prow 9 m gs)], nx := 13 }) (Kn { tmps := [(0, AV.adr 0 0 0), (1, AV.adr 1 0 0), (5, AV.row 5), (8, AV.row 6), (9, AV.row 7), (10, AV.bool false), (43, AV.row 5), (44, AV.int IntKind.i64 (m : Int)), (45, AV.int IntKind.i64 (IntKind.i64.wrap (i + (1 : Int))))], mem := [(0, Ob.box [AV.psl 3 len g, AV.int IntKind.i64 (a : Int)]), (1, Ob.box [AV.psl 71 3 ga, AV.row 2, AV.row 3, AV.psl 109 nr gr, AV.row 4, AV.nils, AV.nils]), (2, Ob.prow 29 m gm), (3, Ob.prow 105 1 gx), (4, Ob.prow 117 nn gn), (5, Ob.prow 3 m go), (6, Ob.prow 3 m (setRow gh (go i.toNat 0).i.toNat 0 [PV.int (-1 : Int)])), (7, Ob.prow 9 m gs)], nx := 13 })) else none else none))) else none else none)))) else none else none)) else none else none)) (Ke (Ex.exit 2) { tmps := [(1, AV.adr 1 0 0), (8, AV.row 5), (9, AV.row 6), (10, AV.bool b)], mem := [(0, Ob.box [AV.psl 3 len g, AV.int IntKind.i64 (a : Int)]), (1, Ob.box [AV.psl 71 3 ga, AV.row 2, AV.row 3, AV.psl 109 nr gr, AV.row 4, AV.nils, AV.nils]), (2, Ob.prow 29 m gm), (3, Ob.prow 105 1 gx), (4, Ob.prow 117 nn gn), (5, Ob.prow 3 m gh), (6, Ob.prow 9 m gs)], nx := 12 })) := by kernel_rfl
theorem l77_10 : LOK cw11 lw13 77 10 ⟨[1,8,9,10], []⟩ L77_10 := by
  intro base s K h
  unfold L77_10 at h
  split at h
  · rename_i bz m' iz len g az ga nr gr m gm gx nn gn m_1 go m_2 ghz m_3 gsz
    obtain ⟨⟨rfl, rfl, rfl, rfl, a0, a1, p0, p1, p2, v0, v1⟩, k1⟩ := h
    refine ⟨((m : Int) - iz + 1).toNat, loop_rule (fun N s => ∃ (a : Nat) (b : Bool) (gh gs : Nat → Nat → PV) (i : Int), s = (⟨[(0, .adr 0 0 0), (1, .adr 1 0 0), (5, .row 5), (8, .row 6), (9, .row 7), (10, .bool b), (43, .row 5), (44, .int .i64 m), (45, .int .i64 i)], [(0, .box [.psl 3 len g, .int .i64 (.ofNat a)]), (1, .box [.psl 71 3 ga, .row 2, .row 3, .psl 109 nr gr, .row 4, .nils, .nils]), (2, .prow 29 m gm), (3, .prow 105 1 gx), (4, .prow 117 nn gn), (5, .prow 3 m go), (6, .prow 3 m gh), (7, .prow 9 m gs)], 13⟩ : FS) ∧ 0 ≤ i ∧ i ≤ m ∧ a ≤ len ∧ StrsN m gs ∧ (m : Int) - i + 1 ≤ (N : Int)) ?_ ?_ _ _ ⟨az, bz, ghz, gsz, iz, rfl, a0, a1, v0, v1, by omega⟩⟩
    · rintro s ⟨a, b, gh, gs, i, _, i0, i1, i2, i3, iN⟩; omega
    · rintro N Kn hKn s ⟨a, b, gh, gs, i, rfl, i0, i1, i2, i3, iN⟩
      rw [r77_10]
      try rw [wrap_succ i0 (by omega)]
      (repeat' (first | with_reducible refine brd (fun _ => ?_) (fun _ => ?_) | with_reducible refine holds_if ?_ ?_ | with_reducible refine holds_ifn ?_ ?_ | with_reducible refine holds_some ?_ | with_reducible refine br (fun _ => ?_) (fun _ => ?_) | with_reducible refine And.intro ?_ ?_ | with_reducible refine fun _ => ?_))
      all_goals first
        | omega
        | exact trivial
        | exact k1
        | exact k1 _
        | exact k1 _ _
        | exact k1 _ _ _
        | exact hKn _ ⟨_, _, _, _, i + 1, rfl, by omega, by omega, i2, i3, by omega⟩
        | exact (p2 i.toNat (by omega)).1
        | exact (p2 i.toNat (by omega)).2
        | exact k1 _ _ _ _ (by omega) (by assumption)
        | exact hKn _ ⟨_, _, _, _, i + 1, rfl, by omega, by omega, by omega, by assumption, by omega⟩
        | exact hKn _ ⟨_, _, _, _, i + 1, rfl, by omega, by omega, by omega, strs_set (by assumption) (rel_sig _), by omega⟩
  · exact h.elim
noncomputable def lw14_ : FuncId → Nat → Option (Hint × LSpec) := fun f rid => match f, rid with
  | 77, 10 => some (⟨[1,8,9,10], []⟩, L77_10)
  | _, _ => none
noncomputable def lw14 : LoopW := addL lw14_ lw13
theorem lay25 : Lay Tryz.prog ctx cw11 lw14 := layL lay24 fun f rid p h => by
  unfold lw14_ at h
  split at h <;> cases h
  · exact ⟨by kernel_rfl, l77_10⟩
end Go.Proofs.YtkenjojkpdeooaaGreatDoor
end
