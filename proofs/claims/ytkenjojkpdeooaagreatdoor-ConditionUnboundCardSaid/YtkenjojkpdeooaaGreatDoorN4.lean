/- nodes, heads, Document. · Document. · Corpus. -/
import Derived.Test.YtkenjojkpdeooaaGreatDoorN3
section
set_option linter.unusedVariables false
set_option maxRecDepth 100000
set_option maxHeartbeats 2000000
set_option linter.constructorNameAsVariable false
set_option linter.unusedSimpArgs false
namespace Go.Proofs.YtkenjojkpdeooaaGreatDoor
open AI

/-- nodes. -/
noncomputable def spec76 : AI.Spec := fun xs mem K => match xs, mem with
  | [.adr 0 0 0, .adr 1 0 0], [(0, .box [.psl 3 len g, .int .i64 (.ofNat a)]), (1, .box [.psl 71 3 ga, .row 2, .row 3, .psl 109 nr gr, .nils, .nils, .nils]), (2, .prow 29 m gm), (3, .prow 105 1 gx)] => (a ≤ len ∧ len ≤ 120 ∧ m ≤ 1000) ∧
    ∀ (a' m' : Nat) g', a' ≤ len → m' ≤ 6 → NodesN m' g' → K (.tup []) [(0, .box [.psl 3 len g, .int .i64 (.ofNat a')]), (1, .box [.psl 71 3 ga, .row 2, .row 3, .psl 109 nr gr, .row 4, .nils, .nils]), (2, .prow 29 m gm), (3, .prow 105 1 gx), (4, .prow 117 m' g')]
  | _, _ => False
theorem e76 (len nr m a : Nat) (g ga gr gm gx : Nat → Nat → PV) (Q : AV → Mem → Prop) : runW ctx cw11 lw14 76 [.adr 0 0 0, .adr 1 0 0] [(0, .box [.psl 3 len g, .int .i64 (.ofNat a)]), (1, .box [.psl 71 3 ga, .row 2, .row 3, .psl 109 nr gr, .nils, .nils, .nils]), (2, .prow 29 m gm), (3, .prow 105 1 gx)] Q = (((1 : Int) ≤ (4 : Int) ∧ (4 : Int) ≤ (4611686018427387904 : Int) ∧ a ≤ len ∧ len ≤ 120) ∧ ∀ (r : Int) (a' : Nat), (0 : Int) ≤ r → r < (4 : Int) → a' ≤ len → ((m : Int) = (m : Int) ∧ m ≤ 1000 ∧ len ≤ 120 ∧ a' ≤ len ∧ (0 : Int) ≤ (0 : Int) ∧ (0 : Int) ≤ (m : Int) ∧ (0 : Int) ≤ r ∧ (0 : Int) + (2 : Int) * r ≤ (6 : Int) ∧ NodesN 0 fun x x_1 => PV.bad) ∧ ∀ (a'_1 m' : Nat) (g' : Nat → Nat → PV), a'_1 ≤ len → m' ≤ 6 → NodesN m' g' → Q (AV.tup []) [(0, Ob.box [AV.psl 3 len g, AV.int IntKind.i64 (↑a'_1 : Int)]), (1, Ob.box [AV.psl 71 3 ga, AV.row 2, AV.row 3, AV.psl 109 nr gr, AV.row 4, AV.nils, AV.nils]), (2, Ob.prow 29 m gm), (3, Ob.prow 105 1 gx), (4, Ob.prow 117 m' g')]) := by kernel_rfl
theorem f76 : FOK cw11 lw14 76 spec76 := by
  intro xs mem K0 h
  unfold spec76 at h
  split at h
  · rename_i len g a ga nr gr m gm gx
    obtain ⟨⟨b1, b2, b3⟩, _⟩ := h
    have hr : runW ctx cw11 lw14 76 [.adr 0 0 0, .adr 1 0 0] [(0, .box [.psl 3 len g, .int .i64 (.ofNat a)]), (1, .box [.psl 71 3 ga, .row 2, .row 3, .psl 109 nr gr, .nils, .nils, .nils]), (2, .prow 29 m gm), (3, .prow 105 1 gx)]
        (fun r mm => ∃ (a' m' : Nat) (g' : Nat → Nat → PV), a' ≤ len ∧ m' ≤ 6 ∧ NodesN m' g' ∧ r = .tup [] ∧ mm = [(0, .box [.psl 3 len g, .int .i64 (.ofNat a')]), (1, .box [.psl 71 3 ga, .row 2, .row 3, .psl 109 nr gr, .row 4, .nils, .nils]), (2, .prow 29 m gm), (3, .prow 105 1 gx), (4, .prow 117 m' g')]) := by
      rw [e76]
      (repeat' (first | with_reducible refine brd (fun _ => ?_) (fun _ => ?_) | with_reducible refine holds_if ?_ ?_ | with_reducible refine holds_ifn ?_ ?_ | with_reducible refine holds_some ?_ | with_reducible refine br (fun _ => ?_) (fun _ => ?_) | with_reducible refine And.intro ?_ ?_ | with_reducible refine fun _ => ?_))
      all_goals first
        | omega
        | assumption
        | rfl
        | exact nodes_nil
        | exact ⟨_, _, _, by assumption, by assumption, by assumption, rfl, rfl⟩
    obtain ⟨r, mm, h1, a', m2, g2, h2, h3, h4, rfl, rfl⟩ := lay25.run hr
    exact ⟨_, _, h1, fun K hK => hK.2 a' m2 g2 h2 h3 h4⟩
  · exact h.elim
/-- heads. -/
noncomputable def spec77 : AI.Spec := fun xs mem K => match xs, mem with
  | [.adr 0 0 0, .adr 1 0 0], [(0, .box [.psl 3 len g, .int .i64 (.ofNat a)]), (1, .box [.psl 71 3 ga, .row 2, .row 3, .psl 109 nr gr, .row 4, .nils, .nils]), (2, .prow 29 m gm), (3, .prow 105 1 gx), (4, .prow 117 nn gn)] => (a ≤ len ∧ len ≤ 120 ∧ m ≤ 1000) ∧
    (∀ a' : Nat, a' ≤ len → K (.tup []) [(0, .box [.psl 3 len g, .int .i64 (.ofNat a')]), (1, .box [.psl 71 3 ga, .row 2, .row 3, .psl 109 nr gr, .row 4, .nils, .nils]), (2, .prow 29 m gm), (3, .prow 105 1 gx), (4, .prow 117 nn gn)]) ∧
    ∀ (a' : Nat) gh gs, a' ≤ len → StrsN m gs → K (.tup []) [(0, .box [.psl 3 len g, .int .i64 (.ofNat a')]), (1, .box [.psl 71 3 ga, .row 2, .row 3, .psl 109 nr gr, .row 4, .row 5, .row 6]), (2, .prow 29 m gm), (3, .prow 105 1 gx), (4, .prow 117 nn gn), (5, .prow 3 m gh), (6, .prow 9 m gs)]
  | _, _ => False
theorem e77 (len nr m a nn : Nat) (g ga gr gm gx gn : Nat → Nat → PV) (Q : AV → Mem → Prop) : runW ctx cw11 lw14 77 [.adr 0 0 0, .adr 1 0 0] [(0, .box [.psl 3 len g, .int .i64 (.ofNat a)]), (1, .box [.psl 71 3 ga, .row 2, .row 3, .psl 109 nr gr, .row 4, .nils, .nils]), (2, .prow 29 m gm), (3, .prow 105 1 gx), (4, .prow 117 nn gn)] Q = (((m : Int) = (m : Int) ∧ (0 : Int) ≤ (0 : Int) ∧ (0 : Int) ≤ (m : Int) ∧ m ≤ 1000 ∧ len ≤ 120 ∧ a ≤ len ∧ (0 : Int) = (0 : Int) ∧ IxN 0 m fun x x_1 => PV.bad) ∧ ∀ (a' k' : Nat) (g' : Nat → Nat → PV), a' ≤ len → k' = m → IxN k' m g' → holds (if (0 : Int) ≤ (m : Int) then if (m : Int) = (m : Int) then if (m : Int) ≤ (140737488355328 : Int) then if (m : Int) * (8 : Int) ≤ (140737488355328 : Int) then some (holds (if (0 : Int) ≤ (m : Int) then if (m : Int) = (m : Int) then if (m : Int) ≤ (140737488355328 : Int) then if (m : Int) * (16 : Int) ≤ (140737488355328 : Int) then some (((↑k' : Int) = (m : Int) ∧ m = k' ∧ m = m ∧ m = m ∧ (0 : Int) ≤ (0 : Int) ∧ (0 : Int) ≤ (m : Int) ∧ m ≤ 1000 ∧ len ≤ 120 ∧ IxN m m g' ∧ a' ≤ len ∧ StrsN m fun x j => zeroPV ([CK.str].getD j CK.oth)) ∧ ∀ (a'_1 : Nat) (b' : Bool) (gh' gs' : Nat → Nat → PV), a'_1 ≤ len → StrsN m gs' → brW b' (Q (AV.tup []) [(0, Ob.box [AV.psl 3 len g, AV.int IntKind.i64 (↑a'_1 : Int)]), (1, Ob.box [AV.psl 71 3 ga, AV.row 2, AV.row 3, AV.psl 109 nr gr, AV.row 4, AV.row 5, AV.row 6]), (2, Ob.prow 29 m gm), (3, Ob.prow 105 1 gx), (4, Ob.prow 117 nn gn), (5, Ob.prow 3 m gh'), (6, Ob.prow 9 m gs')]) (Q (AV.tup []) [(0, Ob.box [AV.psl 3 len g, AV.int IntKind.i64 (↑a'_1 : Int)]), (1, Ob.box [AV.psl 71 3 ga, AV.row 2, AV.row 3, AV.psl 109 nr gr, AV.row 4, AV.nils, AV.nils]), (2, Ob.prow 29 m gm), (3, Ob.prow 105 1 gx), (4, Ob.prow 117 nn gn)])) else none else none else none else none)) else none else none else none else none)) := by kernel_rfl
theorem f77 : FOK cw11 lw14 77 spec77 := by
  intro xs mem K0 h
  unfold spec77 at h
  split at h
  · rename_i len g a ga nr gr m gm gx nn gn
    obtain ⟨⟨b1, b2, b3⟩, _⟩ := h
    have hr : runW ctx cw11 lw14 77 [.adr 0 0 0, .adr 1 0 0] [(0, .box [.psl 3 len g, .int .i64 (.ofNat a)]), (1, .box [.psl 71 3 ga, .row 2, .row 3, .psl 109 nr gr, .row 4, .nils, .nils]), (2, .prow 29 m gm), (3, .prow 105 1 gx), (4, .prow 117 nn gn)]
        (fun r mm => r = .tup [] ∧ ((∃ a' : Nat, a' ≤ len ∧ mm = [(0, .box [.psl 3 len g, .int .i64 (.ofNat a')]), (1, .box [.psl 71 3 ga, .row 2, .row 3, .psl 109 nr gr, .row 4, .nils, .nils]), (2, .prow 29 m gm), (3, .prow 105 1 gx), (4, .prow 117 nn gn)]) ∨
          ∃ (a' : Nat) (gh gs : Nat → Nat → PV), a' ≤ len ∧ StrsN m gs ∧ mm = [(0, .box [.psl 3 len g, .int .i64 (.ofNat a')]), (1, .box [.psl 71 3 ga, .row 2, .row 3, .psl 109 nr gr, .row 4, .row 5, .row 6]), (2, .prow 29 m gm), (3, .prow 105 1 gx), (4, .prow 117 nn gn), (5, .prow 3 m gh), (6, .prow 9 m gs)])) := by
      rw [e77]
      (repeat' (first | with_reducible refine brd (fun _ => ?_) (fun _ => ?_) | with_reducible refine holds_if ?_ ?_ | with_reducible refine holds_ifn ?_ ?_ | with_reducible refine holds_some ?_ | with_reducible refine br (fun _ => ?_) (fun _ => ?_) | with_reducible refine And.intro ?_ ?_ | with_reducible refine fun _ => ?_))
      all_goals first
        | omega
        | assumption
        | (subst_vars; assumption)
        | exact Or.inl ⟨_, by assumption, rfl⟩
        | exact Or.inr ⟨_, _, _, by assumption, by assumption, rfl⟩
        | exact fun j hj => nil_sig
        | exact fun j hj => absurd hj (Nat.not_lt_zero j)
        | rfl
    obtain ⟨r, mm, h1, rfl, h2⟩ := lay25.run hr
    rcases h2 with ⟨a', h3, rfl⟩ | ⟨a', gh, gs, h3, h4, rfl⟩
    · exact ⟨_, _, h1, fun K hK => hK.2.1 a' h3⟩
    · exact ⟨_, _, h1, fun K hK => hK.2.2 a' gh gs h3 h4⟩
  · exact h.elim
noncomputable def cw12_ : FuncId → Option AI.Spec := fun f => match f with
  | 76 => some (spec76)
  | 77 => some (spec77)
  | _ => none
noncomputable def cw12 : CallW := addF cw12_ cw11
theorem lay26 : Lay Tryz.prog ctx cw12 lw14 := layF lay25 fun f S h => by
  unfold cw12_ at h
  split at h <;> cases h
  · exact f76
  · exact f77
end Go.Proofs.YtkenjojkpdeooaaGreatDoor
end
section
set_option linter.unusedVariables false
set_option linter.constructorNameAsVariable false
set_option maxRecDepth 100000
set_option maxHeartbeats 2000000
set_option linter.unusedSimpArgs false
namespace Go.Proofs.YtkenjojkpdeooaaGreatDoor
open AI

theorem year_sig (i : Nat) : ([PV.str (strL [49]), PV.str (strL [50]), PV.str (strL [])].getD (i * 1 + 0) .bad).s ∈ sig := by
  match i with
  | 0 => show strL [49] ∈ sig; unfold sig; exact List.mem_append_right _ (by simp)
  | 1 => show strL [50] ∈ sig; unfold sig; exact List.mem_append_right _ (by simp)
  | 2 => exact nil_sig
  | n + 3 => exact nil_sig
theorem name_sig {s : ByteArray} (h : s ∈ names_) : s ∈ sig := by
  unfold sig
  exact List.mem_append_left _ (List.mem_append_right _ h)
theorem text_one {nm : ByteArray} (h : nm ∈ names_) (n : Int) : RegsN 1 (fun i j => [PV.str nm, PV.int 0, PV.int n, PV.sl 0 fun x x_1 => PV.bad].getD (i * 4 + j) PV.bad) := by
  intro j hj
  obtain rfl : j = 0 := by omega
  exact ⟨name_sig h, Nat.zero_le _, pairs_nil⟩
theorem pairs_year (i : Nat) : PairsN 1 (fun a b => [PV.str (strL [121, 101, 97, 114]), PV.str ([PV.str (strL [49]), PV.str (strL [50]), PV.str (strL [])].getD (i * 1 + 0) .bad).s].getD (a * 2 + b) .bad) := by
  intro j hj
  obtain rfl : j = 0 := by omega
  exact ⟨show strL [121, 101, 97, 114] ∈ sig by unfold sig; exact List.mem_append_right _ (by simp), year_sig i⟩
theorem text_two {nm : ByteArray} (h : nm ∈ names_) (n : Int) (i : Nat) : RegsN 1 (setRow (fun i j => [PV.str nm, PV.int 0, PV.int n, PV.sl 0 fun x x_1 => PV.bad].getD (i * 4 + j) PV.bad) 0 3
    [PV.sl 1 fun a b => [PV.str (strL [121, 101, 97, 114]), PV.str ([PV.str (strL [49]), PV.str (strL [50]), PV.str (strL [])].getD (i * 1 + 0) .bad).s].getD (a * 2 + b) .bad]) := by
  intro j hj
  obtain rfl : j = 0 := by omega
  rw [setRow_ne _ _ 3 _ _ 0 (by decide), setRow_eq, if_pos rfl]
  exact ⟨name_sig h, (by decide : (1 : Nat) ≤ 1000), pairs_year i⟩
def DocQ (len : Nat) (most : Int) (r : AV) (mm : Mem) (g : Nat → Nat → PV) : Prop := ∃ (a' nt nx nr nn nh ns : Nat) (gt gx gr gn gh gs : Nat → Nat → PV), a' ≤ len ∧ (1 ≤ nt ∧ (nt : Int) ≤ most) ∧ CorOK 100 nt nx nr nn nh ns gt gx gr gn gs ∧
  r = .agg [.psl 71 3 attrG, .psl 29 nt gt, .psl 105 nx gx, .psl 109 nr gr, .psl 117 nn gn, .psl 3 nh gh, .psl 9 ns gs] ∧ mm = [(0, .box [.psl 3 len g, .int .i64 (.ofNat a')])]
theorem docQ {len : Nat} {most n : Int} {a' nt nx nr nn nh ns : Nat} {g gt gx gr gn gh gs : Nat → Nat → PV} (h0 : a' ≤ len) (h1 : (nt : Int) = n) (h2 : 1 ≤ n) (h3 : n ≤ most) (h4 : most ≤ 100) (ht : ToksN nt gt) (hx : nx ≤ 100) (hxx : RegsN nx gx) (hr : nr ≤ 4) (hrr : RegsN nr gr) (hn : nn ≤ 6) (hnn : NodesN nn gn) (hh : nh ≤ nt) (hs : ns ≤ nt) (hss : StrsN ns gs) :
    DocQ len most (.agg [.psl 71 3 attrG, .psl 29 nt gt, .psl 105 nx gx, .psl 109 nr gr, .psl 117 nn gn, .psl 3 nh gh, .psl 9 ns gs]) [(0, .box [.psl 3 len g, .int .i64 (.ofNat a')])] g :=
  ⟨_, _, _, _, _, _, _, _, _, _, _, _, _, h0, ⟨by omega, by omega⟩, ⟨by omega, hx, by omega, by omega, by omega, by omega, ht, hxx, hrr, hnn, hss⟩, rfl, rfl⟩
noncomputable def spec44 : AI.Spec := fun xs mem K => match xs, mem with
  | [.adr 0 0 0, .str nm, .int .i64 most], [(0, .box [.psl 3 len g, .int .i64 (.ofNat a)])] => (nm ∈ names_ ∧ 1 ≤ most ∧ most ≤ 100 ∧ a ≤ len ∧ len ≤ 120) ∧ ∀ (a' nt nx nr nn nh ns : Nat) (gt gx gr gn gh gs : Nat → Nat → PV), a' ≤ len → (1 ≤ nt ∧ (nt : Int) ≤ most) → CorOK 100 nt nx nr nn nh ns gt gx gr gn gs → K (.agg [.psl 71 3 attrG, .psl 29 nt gt, .psl 105 nx gx, .psl 109 nr gr, .psl 117 nn gn, .psl 3 nh gh, .psl 9 ns gs]) [(0, .box [.psl 3 len g, .int .i64 (.ofNat a')])]
  | _, _ => False
theorem e44 (len a : Nat) (g : Nat → Nat → PV) (nm : ByteArray) (most : Int) (Q : AV → Mem → Prop) : runW ctx cw12 lw14 44 [.adr 0 0 0, .str nm, .int .i64 most] [(0, .box [.psl 3 len g, .int .i64 (.ofNat a)])] Q = (((1 : Int) ≤ most ∧ most ≤ (4611686018427387904 : Int) ∧ a ≤ len ∧ len ≤ 120) ∧ ∀ (r : Int) (a' : Nat), (0 : Int) ≤ r → r < most → a' ≤ len → ((1 : Int) ≤ (3 : Int) ∧ (3 : Int) ≤ (4611686018427387904 : Int) ∧ a' ≤ len ∧ len ≤ 120) ∧ ∀ (r_1 : Int) (a'_1 : Nat), (0 : Int) ≤ r_1 → r_1 < (3 : Int) → a'_1 ≤ len → brW (r_1 == (2 : Int)) (((1 : Int) ≤ (3 : Int) ∧ (3 : Int) ≤ (4611686018427387904 : Int) ∧ a'_1 ≤ len ∧ len ≤ 120) ∧ ∀ (r_2 : Int) (a'_2 : Nat), (0 : Int) ≤ r_2 → r_2 < (3 : Int) → a'_2 ≤ len → holds (if (0 : Int) ≤ r_2 then if r_2 < (3 : Int) then some (((0 : Int) ≤ (0 : Int) ∧ (0 : Int) ≤ IntKind.i64.wrap ((1 : Int) + r) ∧ IntKind.i64.wrap ((1 : Int) + r) ≤ (1000 : Int) ∧ len ≤ 120 ∧ a'_2 ≤ len ∧ (0 : Int) = (0 : Int) ∧ ToksN 0 fun x x_1 => PV.bad) ∧ ∀ (a'_3 m' : Nat) (g' : Nat → Nat → PV), a'_3 ≤ len → (↑m' : Int) = IntKind.i64.wrap ((1 : Int) + r) → ToksN m' g' → ((1 : Int) ≤ (5 : Int) ∧ (5 : Int) ≤ (4611686018427387904 : Int) ∧ a'_3 ≤ len ∧ len ≤ 120) ∧ ∀ (r_3 : Int) (a'_4 : Nat), (0 : Int) ≤ r_3 → r_3 < (5 : Int) → a'_4 ≤ len → ((1 : Int) ≤ IntKind.i64.wrap ((1 : Int) + r) ∧ IntKind.i64.wrap ((1 : Int) + r) ≤ (1000 : Int) ∧ len ≤ 120 ∧ a'_4 ≤ len ∧ (0 : Int) ≤ r_3 ∧ (0 : Int) + r_3 ≤ (4 : Int) ∧ RegsN 0 fun x x_1 => PV.bad) ∧ ∀ (a'_5 m'_1 : Nat) (g'_1 : Nat → Nat → PV), a'_5 ≤ len → m'_1 ≤ 4 → RegsN m'_1 g'_1 → (m'_1 ≤ 999 ∧ RegsN m'_1 g'_1) ∧ ∀ (m'_2 : Nat) (g'_2 : Nat → Nat → PV), m'_2 ≤ m'_1 → RegsN m'_2 g'_2 → (a'_5 ≤ len ∧ len ≤ 120 ∧ m' ≤ 1000) ∧ ∀ (a'_6 m'_3 : Nat) (g'_3 : Nat → Nat → PV), a'_6 ≤ len → m'_3 ≤ 6 → NodesN m'_3 g'_3 → ((1 : Int) ≤ (2 : Int) ∧ (2 : Int) ≤ (4611686018427387904 : Int) ∧ a'_6 ≤ len ∧ len ≤ 120) ∧ ∀ (r_4 : Int) (a'_7 : Nat), (0 : Int) ≤ r_4 → r_4 < (2 : Int) → a'_7 ≤ len → brW (r_4 == (1 : Int)) ((a'_7 ≤ len ∧ len ≤ 120 ∧ m' ≤ 1000) ∧ (∀ (a'_8 : Nat), a'_8 ≤ len → Q (AV.agg [AV.psl 71 3 attrG, AV.psl 29 m' g', AV.psl 105 1 (setRow (fun i j => [PV.str nm, PV.int 0, PV.int (IntKind.i64.wrap ((1 : Int) + r)), PV.sl 0 fun x x_1 => PV.bad].getD (i * 4 + j) PV.bad) 0 3 [PV.sl 1 fun i j => [PV.str (strL [121, 101, 97, 114]), PV.str ([PV.str (strL [49]), PV.str (strL [50]), PV.str (strL [])].getD (r_2.toNat * 1 + 0) PV.bad).s].getD (i * 2 + j) PV.bad]), AV.psl 109 m'_2 g'_2, AV.psl 117 m'_3 g'_3, AV.psl 3 0 fun x x_1 => PV.bad, AV.psl 9 0 fun x x_1 => PV.bad]) [(0, Ob.box [AV.psl 3 len g, AV.int IntKind.i64 (↑a'_8 : Int)])]) ∧ ∀ (a'_8 : Nat) (gh gs : Nat → Nat → PV), a'_8 ≤ len → StrsN m' gs → Q (AV.agg [AV.psl 71 3 attrG, AV.psl 29 m' g', AV.psl 105 1 (setRow (fun i j => [PV.str nm, PV.int 0, PV.int (IntKind.i64.wrap ((1 : Int) + r)), PV.sl 0 fun x x_1 => PV.bad].getD (i * 4 + j) PV.bad) 0 3 [PV.sl 1 fun i j => [PV.str (strL [121, 101, 97, 114]), PV.str ([PV.str (strL [49]), PV.str (strL [50]), PV.str (strL [])].getD (r_2.toNat * 1 + 0) PV.bad).s].getD (i * 2 + j) PV.bad]), AV.psl 109 m'_2 g'_2, AV.psl 117 m'_3 g'_3, AV.psl 3 m' gh, AV.psl 9 m' gs]) [(0, Ob.box [AV.psl 3 len g, AV.int IntKind.i64 (↑a'_8 : Int)])]) (Q (AV.agg [AV.psl 71 3 attrG, AV.psl 29 m' g', AV.psl 105 1 (setRow (fun i j => [PV.str nm, PV.int 0, PV.int (IntKind.i64.wrap ((1 : Int) + r)), PV.sl 0 fun x x_1 => PV.bad].getD (i * 4 + j) PV.bad) 0 3 [PV.sl 1 fun i j => [PV.str (strL [121, 101, 97, 114]), PV.str ([PV.str (strL [49]), PV.str (strL [50]), PV.str (strL [])].getD (r_2.toNat * 1 + 0) PV.bad).s].getD (i * 2 + j) PV.bad]), AV.psl 109 m'_2 g'_2, AV.psl 117 m'_3 g'_3, AV.psl 3 0 fun x x_1 => PV.bad, AV.psl 9 0 fun x x_1 => PV.bad]) [(0, Ob.box [AV.psl 3 len g, AV.int IntKind.i64 (↑a'_7 : Int)])])) else none else none)) (((0 : Int) ≤ (0 : Int) ∧ (0 : Int) ≤ IntKind.i64.wrap ((1 : Int) + r) ∧ IntKind.i64.wrap ((1 : Int) + r) ≤ (1000 : Int) ∧ len ≤ 120 ∧ a'_1 ≤ len ∧ (0 : Int) = (0 : Int) ∧ ToksN 0 fun x x_1 => PV.bad) ∧ ∀ (a'_2 m' : Nat) (g' : Nat → Nat → PV), a'_2 ≤ len → (↑m' : Int) = IntKind.i64.wrap ((1 : Int) + r) → ToksN m' g' → ((1 : Int) ≤ (5 : Int) ∧ (5 : Int) ≤ (4611686018427387904 : Int) ∧ a'_2 ≤ len ∧ len ≤ 120) ∧ ∀ (r_2 : Int) (a'_3 : Nat), (0 : Int) ≤ r_2 → r_2 < (5 : Int) → a'_3 ≤ len → ((1 : Int) ≤ IntKind.i64.wrap ((1 : Int) + r) ∧ IntKind.i64.wrap ((1 : Int) + r) ≤ (1000 : Int) ∧ len ≤ 120 ∧ a'_3 ≤ len ∧ (0 : Int) ≤ r_2 ∧ (0 : Int) + r_2 ≤ (4 : Int) ∧ RegsN 0 fun x x_1 => PV.bad) ∧ ∀ (a'_4 m'_1 : Nat) (g'_1 : Nat → Nat → PV), a'_4 ≤ len → m'_1 ≤ 4 → RegsN m'_1 g'_1 → (m'_1 ≤ 999 ∧ RegsN m'_1 g'_1) ∧ ∀ (m'_2 : Nat) (g'_2 : Nat → Nat → PV), m'_2 ≤ m'_1 → RegsN m'_2 g'_2 → (a'_4 ≤ len ∧ len ≤ 120 ∧ m' ≤ 1000) ∧ ∀ (a'_5 m'_3 : Nat) (g'_3 : Nat → Nat → PV), a'_5 ≤ len → m'_3 ≤ 6 → NodesN m'_3 g'_3 → ((1 : Int) ≤ (2 : Int) ∧ (2 : Int) ≤ (4611686018427387904 : Int) ∧ a'_5 ≤ len ∧ len ≤ 120) ∧ ∀ (r_3 : Int) (a'_6 : Nat), (0 : Int) ≤ r_3 → r_3 < (2 : Int) → a'_6 ≤ len → brW (r_3 == (1 : Int)) ((a'_6 ≤ len ∧ len ≤ 120 ∧ m' ≤ 1000) ∧ (∀ (a'_7 : Nat), a'_7 ≤ len → Q (AV.agg [AV.psl 71 3 attrG, AV.psl 29 m' g', AV.psl 105 1 fun i j => [PV.str nm, PV.int 0, PV.int (IntKind.i64.wrap ((1 : Int) + r)), PV.sl 0 fun x x_1 => PV.bad].getD (i * 4 + j) PV.bad, AV.psl 109 m'_2 g'_2, AV.psl 117 m'_3 g'_3, AV.psl 3 0 fun x x_1 => PV.bad, AV.psl 9 0 fun x x_1 => PV.bad]) [(0, Ob.box [AV.psl 3 len g, AV.int IntKind.i64 (↑a'_7 : Int)])]) ∧ ∀ (a'_7 : Nat) (gh gs : Nat → Nat → PV), a'_7 ≤ len → StrsN m' gs → Q (AV.agg [AV.psl 71 3 attrG, AV.psl 29 m' g', AV.psl 105 1 fun i j => [PV.str nm, PV.int 0, PV.int (IntKind.i64.wrap ((1 : Int) + r)), PV.sl 0 fun x x_1 => PV.bad].getD (i * 4 + j) PV.bad, AV.psl 109 m'_2 g'_2, AV.psl 117 m'_3 g'_3, AV.psl 3 m' gh, AV.psl 9 m' gs]) [(0, Ob.box [AV.psl 3 len g, AV.int IntKind.i64 (↑a'_7 : Int)])]) (Q (AV.agg [AV.psl 71 3 attrG, AV.psl 29 m' g', AV.psl 105 1 fun i j => [PV.str nm, PV.int 0, PV.int (IntKind.i64.wrap ((1 : Int) + r)), PV.sl 0 fun x x_1 => PV.bad].getD (i * 4 + j) PV.bad, AV.psl 109 m'_2 g'_2, AV.psl 117 m'_3 g'_3, AV.psl 3 0 fun x x_1 => PV.bad, AV.psl 9 0 fun x x_1 => PV.bad]) [(0, Ob.box [AV.psl 3 len g, AV.int IntKind.i64 (↑a'_6 : Int)])]))) := by kernel_rfl
theorem f44 : FOK cw12 lw14 44 spec44 := by
  intro xs mem K0 h
  unfold spec44 at h
  split at h
  · rename_i nm most len g a
    obtain ⟨⟨b1, b2, b3, b4, b5⟩, _⟩ := h
    have hr : runW ctx cw12 lw14 44 [.adr 0 0 0, .str nm, .int .i64 most] [(0, .box [.psl 3 len g, .int .i64 (.ofNat a)])] (fun r mm => DocQ len most r mm g) := by
      rw [e44]
      (repeat' (first | with_reducible refine brd (fun _ => ?_) (fun _ => ?_) | with_reducible refine holds_if ?_ ?_ | with_reducible refine holds_ifn ?_ ?_ | with_reducible refine holds_some ?_ | with_reducible refine br (fun _ => ?_) (fun _ => ?_) | with_reducible refine And.intro ?_ ?_ | with_reducible refine fun _ => ?_))
      all_goals first
        | omega
        | assumption
        | (first | omega | (simp only [wrap_eq] at *; omega))
        | exact docQ (by omega) (by assumption) (by (first | omega | (simp only [wrap_eq] at *; omega))) (by (first | omega | (simp only [wrap_eq] at *; omega))) (by omega) (by assumption) (by decide) (text_one b1 _) (by omega) (by assumption) (by omega) (by assumption) (Nat.zero_le _) (Nat.zero_le _) strs_nil
        | exact docQ (by omega) (by assumption) (by (first | omega | (simp only [wrap_eq] at *; omega))) (by (first | omega | (simp only [wrap_eq] at *; omega))) (by omega) (by assumption) (by decide) (text_one b1 _) (by omega) (by assumption) (by omega) (by assumption) (Nat.le_refl _) (Nat.le_refl _) (by assumption)
        | exact docQ (by omega) (by assumption) (by (first | omega | (simp only [wrap_eq] at *; omega))) (by (first | omega | (simp only [wrap_eq] at *; omega))) (by omega) (by assumption) (by decide) (text_two b1 _ _) (by omega) (by assumption) (by omega) (by assumption) (Nat.zero_le _) (Nat.zero_le _) strs_nil
        | exact docQ (by omega) (by assumption) (by (first | omega | (simp only [wrap_eq] at *; omega))) (by (first | omega | (simp only [wrap_eq] at *; omega))) (by omega) (by assumption) (by decide) (text_two b1 _ _) (by omega) (by assumption) (by omega) (by assumption) (Nat.le_refl _) (Nat.le_refl _) (by assumption)
        | exact toks_nil
        | exact regs_nil
        | rfl
    obtain ⟨r, mm, h1, a', nt, nx, nr, nn, nh, ns, gt, gx, gr, gn, gh, gs, h2, h3, h4, rfl, rfl⟩ := lay26.run hr
    exact ⟨_, _, h1, fun K hK => hK.2 a' nt nx nr nn nh ns gt gx gr gn gh gs h2 h3 h4⟩
  · exact h.elim
noncomputable def cw13_ : FuncId → Option AI.Spec := fun f => match f with
  | 44 => some (spec44)
  | _ => none
noncomputable def cw13 : CallW := addF cw13_ cw12
theorem lay27 : Lay Tryz.prog ctx cw13 lw14 := layF lay26 fun f S h => by
  unfold cw13_ at h
  split at h <;> cases h
  · exact f44
end Go.Proofs.YtkenjojkpdeooaaGreatDoor
end
section
set_option linter.unusedVariables false
set_option linter.constructorNameAsVariable false
set_option maxRecDepth 100000
set_option maxHeartbeats 2000000
set_option linter.unusedSimpArgs false
namespace Go.Proofs.YtkenjojkpdeooaaGreatDoor
open AI

theorem corOK_mono {B C nt nx nr nn nh ns : Nat} {gt gx gr gn gs : Nat → Nat → PV} (h : CorOK B nt nx nr nn nh ns gt gx gr gn gs) (hB : B ≤ C) : CorOK C nt nx nr nn nh ns gt gx gr gn gs :=
  ⟨Nat.le_trans h.bt hB, Nat.le_trans h.bx hB, Nat.le_trans h.br hB, Nat.le_trans h.bn hB, Nat.le_trans h.bh hB, Nat.le_trans h.bs hB, h.t, h.x, h.r, h.n, h.s⟩
theorem cor_add {B nt nx nr nn nh ns mt mx mr mn mh ms : Nat} {gt gx gr gn gs ft fx fr fn_ fs : Nat → Nat → PV} (h : CorOK B nt nx nr nn nh ns gt gx gr gn gs) (d : CorOK 100 mt mx mr mn mh ms ft fx fr fn_ fs) (hB : B ≤ 300) : nx + mx ≤ 1000 ∧ nr + mr ≤ 1000 ∧ nn + mn ≤ 1000 := by
  have := h.bx
  have := h.br
  have := h.bn
  have := d.bx
  have := d.br
  have := d.bn
  exact ⟨by omega, by omega, by omega⟩
theorem t_names (k : Nat) : ([PV.str (strL [116, 48]), PV.str (strL [116, 49]), PV.str (strL [116, 50])].getD (k * 1 + 0) .bad).s ∈ names_ ∨ 3 ≤ k := by
  match k with
  | 0 => left; unfold names_; simp [PV.s]
  | 1 => left; unfold names_; simp [PV.s]
  | 2 => left; unfold names_; simp [PV.s]
  | n + 3 => right; omega
theorem t_name {k : Int} (h0 : 0 ≤ k) (h : k < 3) : ([PV.str (strL [116, 48]), PV.str (strL [116, 49]), PV.str (strL [116, 50])].getD (k.toNat * 1 + 0) .bad).s ∈ names_ := (t_names k.toNat).resolve_right (by omega)
noncomputable def L18_3 : LSpec := fun base s K => match base, s with
  | 1, ⟨[(0, .adr 0 0 0), (1, .int .i64 most), (4, .adr 1 0 0), (5, .adr 2 0 0), (6, .int .i64 k)], [(0, .box [.psl 3 len g, .int .i64 (.ofNat a)]), (1, .box [.nils, .nils, .nils, .nils, .nils, .nils, .nils]), (2, .box [.psl 71 3 ga, .psl 29 nt gt, .psl 105 nx gx, .psl 109 nr gr, .psl 117 nn gn, .psl 3 nh gh, .psl 9 ns gs])], 4⟩ => (1 ≤ most ∧ most ≤ 100 ∧ len ≤ 120 ∧ a ≤ len ∧ ga = attrG ∧ 0 ≤ k ∧ k ≤ 2 ∧ 1 ≤ nt ∧ CorOK (300 - 100 * k.toNat) nt nx nr nn nh ns gt gx gr gn gs) ∧ (∀ (a' mt mx mr mn mh ms : Nat) (ft fx fr fn_ fh fs : Nat → Nat → PV), a' ≤ len → 1 ≤ mt → CorOK 300 mt mx mr mn mh ms ft fx fr fn_ fs → K (.exit 0) ⟨[(4, .adr 1 0 0), (5, .adr 2 0 0)], [(0, .box [.psl 3 len g, .int .i64 (.ofNat a')]), (1, .box [.nils, .nils, .nils, .nils, .nils, .nils, .nils]), (2, .box [.psl 71 3 attrG, .psl 29 mt ft, .psl 105 mx fx, .psl 109 mr fr, .psl 117 mn fn_, .psl 3 mh fh, .psl 9 ms fs])], 4⟩)
  | _, _ => False
theorem r18_3 (most : Int) (len : Nat) (g : Nat → Nat → PV) (a : Nat) (ga : Nat → Nat → PV) (nt nx nr nn nh ns : Nat) (gt gx gr gn gh gs : Nat → Nat → PV) (k : Int)  (Kn : FS → Prop) (Ke : Ex → FS → Prop) : roundW cw13 lw14 18 1 ⟨[4,5], []⟩ (loopB 18 3) ⟨[(0, .adr 0 0 0), (1, .int .i64 most), (4, .adr 1 0 0), (5, .adr 2 0 0), (6, .int .i64 k)], [(0, .box [.psl 3 len g, .int .i64 (.ofNat a)]), (1, .box [.nils, .nils, .nils, .nils, .nils, .nils, .nils]), (2, .box [.psl 71 3 ga, .psl 29 nt gt, .psl 105 nx gx, .psl 109 nr gr, .psl 117 nn gn, .psl 3 nh gh, .psl 9 ns gs])], 4⟩ Kn Ke = (brW (decide (k > (0 : Int))) (holds (if (0 : Int) ≤ k then if k < (3 : Int) then some ((([PV.str (strL [116, 48]), PV.str (strL [116, 49]), PV.str (strL [116, 50])].getD (k.toNat * 1 + 0) PV.bad).s ∈ [strL [116, 48], strL [116, 49], strL [116, 50]] ∧ (1 : Int) ≤ most ∧ most ≤ (100 : Int) ∧ a ≤ len ∧ len ≤ 120) ∧ ∀ (a' nt_1 nx_1 nr_1 nn_1 nh_1 ns_1 : Nat) (gt_1 gx_1 gr_1 gn_1 gh_1 gs_1 : Nat → Nat → PV), a' ≤ len → 1 ≤ nt_1 ∧ (nt_1 : Int) ≤ most → CorOK 100 nt_1 nx_1 nr_1 nn_1 nh_1 ns_1 gt_1 gx_1 gr_1 gn_1 gs_1 → ((ga = attrG ∧ CorOK 1000 nt nx nr nn nh ns gt gx gr gn gs) ∧ (attrG = attrG ∧ CorOK 1000 nt_1 nx_1 nr_1 nn_1 nh_1 ns_1 gt_1 gx_1 gr_1 gn_1 gs_1) ∧ nx + nx_1 ≤ 1000 ∧ nr + nr_1 ≤ 1000 ∧ nn + nn_1 ≤ 1000) ∧ (∀ (e : Int), e ≠ (0 : Int) → brW (e == (0 : Int)) (Kn { tmps := [(0, AV.adr 0 0 0), (1, AV.int IntKind.i64 most), (4, AV.adr 1 0 0), (5, AV.adr 2 0 0), (6, AV.int IntKind.i64 (IntKind.i64.wrap (k - (1 : Int))))], mem := [(0, Ob.box [AV.psl 3 len g, AV.int IntKind.i64 (↑a' : Int)]), (1, Ob.box [AV.nils, AV.nils, AV.nils, AV.nils, AV.nils, AV.nils, AV.nils]), (2, Ob.box [AV.psl 71 0 fun x x_1 => PV.bad, AV.psl 29 0 fun x x_1 => PV.bad, AV.psl 105 0 fun x x_1 => PV.bad, AV.psl 109 0 fun x x_1 => PV.bad, AV.psl 117 0 fun x x_1 => PV.bad, AV.psl 3 0 fun x x_1 => PV.bad, AV.psl 9 0 fun x x_1 => PV.bad])], nx := 4 }) (Kn { tmps := [(0, AV.adr 0 0 0), (1, AV.int IntKind.i64 most), (4, AV.adr 1 0 0), (5, AV.adr 2 0 0), (6, AV.int IntKind.i64 (IntKind.i64.wrap (k - (1 : Int))))], mem := [(0, Ob.box [AV.psl 3 len g, AV.int IntKind.i64 (↑a' : Int)]), (1, Ob.box [AV.nils, AV.nils, AV.nils, AV.nils, AV.nils, AV.nils, AV.nils]), (2, Ob.box [AV.psl 71 3 ga, AV.psl 29 nt gt, AV.psl 105 nx gx, AV.psl 109 nr gr, AV.psl 117 nn gn, AV.psl 3 nh gh, AV.psl 9 ns gs])], nx := 4 })) ∧ ∀ (kt kx kr kn kh ks : Nat) (ht hx hr hn hh hs : Nat → Nat → PV), kt = nt + nt_1 → (∀ (B C : Nat), CorOK B nt nx nr nn nh ns gt gx gr gn gs → CorOK C nt_1 nx_1 nr_1 nn_1 nh_1 ns_1 gt_1 gx_1 gr_1 gn_1 gs_1 → CorOK (B + C) kt kx kr kn kh ks ht hx hr hn hs) → Kn { tmps := [(0, AV.adr 0 0 0), (1, AV.int IntKind.i64 most), (4, AV.adr 1 0 0), (5, AV.adr 2 0 0), (6, AV.int IntKind.i64 (IntKind.i64.wrap (k - (1 : Int))))], mem := [(0, Ob.box [AV.psl 3 len g, AV.int IntKind.i64 (↑a' : Int)]), (1, Ob.box [AV.nils, AV.nils, AV.nils, AV.nils, AV.nils, AV.nils, AV.nils]), (2, Ob.box [AV.psl 71 3 attrG, AV.psl 29 kt ht, AV.psl 105 kx hx, AV.psl 109 kr hr, AV.psl 117 kn hn, AV.psl 3 kh hh, AV.psl 9 ks hs])], nx := 4 }) else none else none)) (Ke (Ex.exit 0) { tmps := [(4, AV.adr 1 0 0), (5, AV.adr 2 0 0)], mem := [(0, Ob.box [AV.psl 3 len g, AV.int IntKind.i64 (a : Int)]), (1, Ob.box [AV.nils, AV.nils, AV.nils, AV.nils, AV.nils, AV.nils, AV.nils]), (2, Ob.box [AV.psl 71 3 ga, AV.psl 29 nt gt, AV.psl 105 nx gx, AV.psl 109 nr gr, AV.psl 117 nn gn, AV.psl 3 nh gh, AV.psl 9 ns gs])], nx := 4 })) := by kernel_rfl
theorem l18_3 : LOK cw13 lw14 18 3 ⟨[4,5], []⟩ L18_3 := by
  intro base s K h
  unfold L18_3 at h
  split at h
  · rename_i most kz len g az gaz ntz gtz nxz gxz nrz grz nnz gnz nhz ghz nsz gsz
    obtain ⟨⟨p0, p1, p2, v0, v1, v2, v3, v4, v5⟩, k1⟩ := h
    refine ⟨(kz + 1).toNat, loop_rule (fun N s => ∃ (a : Nat) (ga : Nat → Nat → PV) (nt nx nr nn nh ns : Nat) (gt gx gr gn gh gs : Nat → Nat → PV) (k : Int), s = (⟨[(0, .adr 0 0 0), (1, .int .i64 most), (4, .adr 1 0 0), (5, .adr 2 0 0), (6, .int .i64 k)], [(0, .box [.psl 3 len g, .int .i64 (.ofNat a)]), (1, .box [.nils, .nils, .nils, .nils, .nils, .nils, .nils]), (2, .box [.psl 71 3 ga, .psl 29 nt gt, .psl 105 nx gx, .psl 109 nr gr, .psl 117 nn gn, .psl 3 nh gh, .psl 9 ns gs])], 4⟩ : FS) ∧ a ≤ len ∧ ga = attrG ∧ 0 ≤ k ∧ k ≤ 2 ∧ 1 ≤ nt ∧ CorOK (300 - 100 * k.toNat) nt nx nr nn nh ns gt gx gr gn gs ∧ k + 1 ≤ (N : Int)) ?_ ?_ _ _ ⟨az, gaz, ntz, nxz, nrz, nnz, nhz, nsz, gtz, gxz, grz, gnz, ghz, gsz, kz, rfl, v0, v1, v2, v3, v4, v5, by omega⟩⟩
    · rintro s ⟨a, ga, nt, nx, nr, nn, nh, ns, gt, gx, gr, gn, gh, gs, k, _, i0, i1, i2, i3, i4, i5, iN⟩; omega
    · rintro N Kn hKn s ⟨a, ga, nt, nx, nr, nn, nh, ns, gt, gx, gr, gn, gh, gs, k, rfl, i0, i1, i2, i3, i4, i5, iN⟩
      rw [r18_3]
      try rw [show IntKind.i64.wrap (k - 1) = k - 1 from wrap_id (by omega) (by omega)]
      (repeat' (first | with_reducible refine brd (fun _ => ?_) (fun _ => ?_) | with_reducible refine holds_if ?_ ?_ | with_reducible refine holds_ifn ?_ ?_ | with_reducible refine holds_some ?_ | with_reducible refine br (fun _ => ?_) (fun _ => ?_) | with_reducible refine And.intro ?_ ?_ | with_reducible refine fun _ => ?_))
      all_goals first
        | omega
        | exact trivial
        | exact k1
        | exact k1 _
        | exact k1 _ _
        | exact k1 _ _ _
        | exact hKn _ ⟨_, _, _, _, _, _, _, _, _, _, _, _, _, _, _, rfl, i0, i1, i2, i3, i4, i5, by omega⟩
        | exact i1
        | exact t_name (by omega) (by omega)
        | rfl
        | exact corOK_mono (by assumption) (by omega)
        | exact (cor_add (by assumption) (by assumption) (by omega)).1
        | exact (cor_add (by assumption) (by assumption) (by omega)).2.1
        | exact (cor_add (by assumption) (by assumption) (by omega)).2.2
        | (exfalso; simp_all; done)
        | (subst i1; exact k1 _ _ _ _ _ _ _ _ _ _ _ _ _ (by omega) (by omega) (corOK_mono (by assumption) (by omega)))
        | exact hKn _ ⟨_, _, _, _, _, _, _, _, _, _, _, _, _, _, _, rfl, by omega, i1, by omega, by omega, by omega, corOK_mono (by assumption) (by omega), by omega⟩
        | (rename_i hq; exact hKn _ ⟨_, _, _, _, _, _, _, _, _, _, _, _, _, _, _, rfl, by omega, rfl, by omega, by omega, by omega, corOK_mono (hq _ _ (by assumption) (by assumption)) (by omega), by omega⟩)
  · exact h.elim
noncomputable def lw15_ : FuncId → Nat → Option (Hint × LSpec) := fun f rid => match f, rid with
  | 18, 3 => some (⟨[4,5], []⟩, L18_3)
  | _, _ => none
noncomputable def lw15 : LoopW := addL lw15_ lw14
theorem lay28 : Lay Tryz.prog ctx cw13 lw15 := layL lay27 fun f rid p h => by
  unfold lw15_ at h
  split at h <;> cases h
  · exact ⟨by kernel_rfl, l18_3⟩
/-- Corpus: at least one token, all values known. -/
noncomputable def spec18 : AI.Spec := fun xs mem K => match xs, mem with
  | [.adr 0 0 0, .int .i64 most], [(0, .box [.psl 3 len g, .int .i64 (.ofNat a)])] => (1 ≤ most ∧ most ≤ 100 ∧ a ≤ len ∧ len ≤ 120) ∧ ∀ (a' mt mx mr mn mh ms : Nat) (ft fx fr fn_ fh fs : Nat → Nat → PV), a' ≤ len → 1 ≤ mt → CorOK 300 mt mx mr mn mh ms ft fx fr fn_ fs →
    K (.agg [.psl 71 3 attrG, .psl 29 mt ft, .psl 105 mx fx, .psl 109 mr fr, .psl 117 mn fn_, .psl 3 mh fh, .psl 9 ms fs]) [(0, .box [.psl 3 len g, .int .i64 (.ofNat a')])]
  | _, _ => False
theorem e18 (len a : Nat) (g : Nat → Nat → PV) (most : Int) (Q : AV → Mem → Prop) : runW ctx cw13 lw15 18 [.adr 0 0 0, .int .i64 most] [(0, .box [.psl 3 len g, .int .i64 (.ofNat a)])] Q = ((strL [116, 48] ∈ [strL [116, 48], strL [116, 49], strL [116, 50]] ∧ (1 : Int) ≤ most ∧ most ≤ (100 : Int) ∧ a ≤ len ∧ len ≤ 120) ∧ ∀ (a' nt nx nr nn nh ns : Nat) (gt gx gr gn gh gs : Nat → Nat → PV), a' ≤ len → 1 ≤ nt ∧ (nt : Int) ≤ most → CorOK 100 nt nx nr nn nh ns gt gx gr gn gs → ((1 : Int) ≤ (3 : Int) ∧ (3 : Int) ≤ (4611686018427387904 : Int) ∧ a' ≤ len ∧ len ≤ 120) ∧ ∀ (r : Int) (a'_1 : Nat), (0 : Int) ≤ r → r < (3 : Int) → a'_1 ≤ len → ((1 : Int) ≤ most ∧ most ≤ (100 : Int) ∧ len ≤ 120 ∧ a'_1 ≤ len ∧ attrG = attrG ∧ (0 : Int) ≤ r ∧ r ≤ (2 : Int) ∧ 1 ≤ nt ∧ CorOK (300 - 100 * r.toNat) nt nx nr nn nh ns gt gx gr gn gs) ∧ ∀ (a'_2 mt mx mr mn mh ms : Nat) (ft fx fr fn_ fh fs : Nat → Nat → PV), a'_2 ≤ len → 1 ≤ mt → CorOK 300 mt mx mr mn mh ms ft fx fr fn_ fs → Q (AV.agg [AV.psl 71 3 attrG, AV.psl 29 mt ft, AV.psl 105 mx fx, AV.psl 109 mr fr, AV.psl 117 mn fn_, AV.psl 3 mh fh, AV.psl 9 ms fs]) [(0, Ob.box [AV.psl 3 len g, AV.int IntKind.i64 (↑a'_2 : Int)])]) := by kernel_rfl
theorem f18 : FOK cw13 lw15 18 spec18 := by
  intro xs mem K0 h
  unfold spec18 at h
  split at h
  · rename_i most len g a
    obtain ⟨⟨b1, b2, b3, b4⟩, _⟩ := h
    have hr : runW ctx cw13 lw15 18 [.adr 0 0 0, .int .i64 most] [(0, .box [.psl 3 len g, .int .i64 (.ofNat a)])] (fun r mm => ∃ (a' mt mx mr mn mh ms : Nat) (ft fx fr fn_ fh fs : Nat → Nat → PV), a' ≤ len ∧ 1 ≤ mt ∧ CorOK 300 mt mx mr mn mh ms ft fx fr fn_ fs ∧
        r = .agg [.psl 71 3 attrG, .psl 29 mt ft, .psl 105 mx fx, .psl 109 mr fr, .psl 117 mn fn_, .psl 3 mh fh, .psl 9 ms fs] ∧ mm = [(0, .box [.psl 3 len g, .int .i64 (.ofNat a')])]) := by
      rw [e18]
      (repeat' (first | with_reducible refine brd (fun _ => ?_) (fun _ => ?_) | with_reducible refine holds_if ?_ ?_ | with_reducible refine holds_ifn ?_ ?_ | with_reducible refine holds_some ?_ | with_reducible refine br (fun _ => ?_) (fun _ => ?_) | with_reducible refine And.intro ?_ ?_ | with_reducible refine fun _ => ?_))
      all_goals first
        | omega
        | assumption
        | exact t_name (k := 0) (by decide) (by decide)
        | exact corOK_mono (by assumption) (by omega)
        | exact ⟨_, _, _, _, _, _, _, _, _, _, _, _, _, by assumption, by assumption, by assumption, rfl, rfl⟩
        | rfl
    obtain ⟨r, mm, h1, a', mt, mx, mr, mn, mh, ms, ft, fx, fr, fn_, fh, fs, h2, h3, h4, rfl, rfl⟩ := lay28.run hr
    exact ⟨_, _, h1, fun K hK => hK.2 a' mt mx mr mn mh ms ft fx fr fn_ fh fs h2 h3 h4⟩
  · exact h.elim
end Go.Proofs.YtkenjojkpdeooaaGreatDoor
end
