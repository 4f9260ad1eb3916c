/- Validate of conditions that are made. · The size and the depth of a condition. · Validate of conditions that are made, whole. · Holds of a comparison with a label. -/
import Derived.Test.YtkenjojkpdeooaaGreatDoorN5
section
set_option linter.unusedVariables false
set_option linter.constructorNameAsVariable false
set_option maxRecDepth 100000
set_option maxHeartbeats 2000000
set_option linter.unusedSimpArgs false
namespace Go.Proofs.YtkenjojkpdeooaaGreatDoor
open AI

/-- What a function does has no need of a layer. -/
theorem fok_any {cw cw' : CallW} {lw lw' : LoopW} {f : FuncId} {S : AI.Spec} (h : FOK cw lw f S) : FOK cw' lw' f S := fun xs m K0 h0 => h xs m K0 h0
/-- A second answer of the same functions hides the first. -/
theorem addF_twice {s t : FuncId → Option AI.Spec} {cw : CallW} (h : ∀ f, s f = none → t f = none) : addF s (addF t cw) = addF s cw := by
  funext f xs m K
  unfold addF
  cases hs : s f with
  | none => simp only [h f hs]
  | some S => rfl
def one (f0 : FuncId) (S : AI.Spec) : FuncId → Option AI.Spec := fun f => bif Nat.beq f f0 then some S else none
theorem one_none {f0 f : FuncId} {S T : AI.Spec} (h : one f0 S f = none) : one f0 T f = none := by
  unfold one at h ⊢
  cases hb : Nat.beq f f0
  · rfl
  · rw [hb] at h; cases h
theorem lay_one {cw : CallW} {lw : LoopW} {f0 : FuncId} {S : AI.Spec} (h : Lay Tryz.prog ctx cw lw) (hs : FOK cw lw f0 S) : Lay Tryz.prog ctx (addF (one f0 S) cw) lw := layF h fun f T hT => by
  unfold one at hT
  cases hb : Nat.beq f f0
  · rw [hb] at hT; cases hT
  · rw [hb] at hT
    obtain rfl := Nat.eq_of_beq_eq_true hb
    cases hT
    exact hs
theorem lay_again {cw cw' : CallW} {lw lw' : LoopW} {f0 : FuncId} {S T : AI.Spec} (h : Lay Tryz.prog ctx (addF (one f0 S) cw) lw) (hs : FOK cw' lw' f0 T) : Lay Tryz.prog ctx (addF (one f0 T) cw) lw := by
  have h2 : Lay Tryz.prog ctx (addF (one f0 T) (addF (one f0 S) cw)) lw := lay_one h hs
  rwa [addF_twice fun f hf => one_none hf] at h2
def oneL (f0 r0 : Nat) (p : Hint × LSpec) : FuncId → Nat → Option (Hint × LSpec) := fun f r => bif Nat.beq f f0 && Nat.beq r r0 then some p else none
theorem lay_oneL {cw : CallW} {lw : LoopW} {f0 r0 : Nat} {p : Hint × LSpec} (h : Lay Tryz.prog ctx cw lw) (h1 : oneOf f0 r0 = true) (hs : LOK cw lw f0 r0 p.1 p.2) : Lay Tryz.prog ctx cw (addL (oneL f0 r0 p) lw) := layL h fun f r q hq => by
  unfold oneL at hq
  cases hb : (Nat.beq f f0 && Nat.beq r r0)
  · rw [hb] at hq; cases hq
  · rw [hb] at hq
    cases hq
    simp only [Bool.and_eq_true] at hb
    obtain rfl := Nat.eq_of_beq_eq_true hb.1
    obtain rfl := Nat.eq_of_beq_eq_true hb.2
    exact ⟨h1, hs⟩
noncomputable def cw23_ : FuncId → Option AI.Spec := fun f => match f with
  | 40 => some (spec40)
  | _ => none
noncomputable def cw23 : CallW := addF cw23_ cw22
theorem lay40 : Lay Tryz.prog ctx cw23 lw17 := layF lay39 fun f S h => by
  unfold cw23_ at h
  split at h <;> cases h
  · exact f40
noncomputable def spec39 : AI.Spec := fun xs m K => match xs, m with
  | [.agg [.int .i64 op, .str nm, .str ar, .str va, .str la, .bool fo, .psl 25 n g], .adr 0 0 0, .adr 1 0 0], [(0, .box [.psl 71 3 ga]), (1, .box [.psl 9 nl lg])] => (NodeOK (fun s => 0 ≤ Pure.at' nl lg s) op nm ar va la fo n ∧ ga = attrG ∧ nl ≤ 1000) ∧ K (.int .i64 0) [(0, .box [.psl 71 3 ga]), (1, .box [.psl 9 nl lg])]
  | _, _ => False
theorem e39 (op : Int) (nm ar va la : ByteArray) (fo : Bool) (n : Nat) (g ga : Nat → Nat → PV) (nl : Nat) (lg : Nat → Nat → PV) (Q : AV → Mem → Prop) : runW ctx cw23 lw17 39 [.agg [.int .i64 op, .str nm, .str ar, .str va, .str la, .bool fo, .psl 25 n g], .adr 0 0 0, .adr 1 0 0] [(0, .box [.psl 71 3 ga]), (1, .box [.psl 9 nl lg])] Q = ((NodeOK (fun s => (0 : Int) ≤ Pure.at' nl lg s) op nm ar va la fo n ∧ ga = attrG ∧ nl ≤ 1000) ∧ Q (AV.int IntKind.i64 0) [(0, Ob.box [AV.psl 71 3 ga]), (1, Ob.box [AV.psl 9 nl lg])]) := by kernel_rfl
theorem f39 : FOK cw23 lw17 39 (spec39) := by
  intro xs m K0 h
  unfold spec39 at h
  split at h
  · rename_i op nm ar va la fo n g ga nl lg
    obtain ⟨⟨p0, p1, p2⟩, -⟩ := h
    have hr : runW ctx cw23 lw17 39 [.agg [.int .i64 op, .str nm, .str ar, .str va, .str la, .bool fo, .psl 25 n g], .adr 0 0 0, .adr 1 0 0] [(0, .box [.psl 71 3 ga]), (1, .box [.psl 9 nl lg])] (fun r mm => r = (.int .i64 0) ∧ mm = [(0, .box [.psl 71 3 ga]), (1, .box [.psl 9 nl lg])]) := by
      rw [e39]
      exact ⟨⟨p0, p1, p2⟩, rfl, rfl⟩
    obtain ⟨r, m', h1, rfl, rfl⟩ := lay40.run hr
    exact ⟨_, _, h1, fun K hK => hK.2⟩
  · exact h.elim
noncomputable def cw24_ : FuncId → Option AI.Spec := fun f => match f with
  | 39 => some (spec39)
  | _ => none
noncomputable def cw24 : CallW := addF cw24_ cw23
theorem lay41 : Lay Tryz.prog ctx cw24 lw17 := layF lay40 fun f S h => by
  unfold cw24_ at h
  split at h <;> cases h
  · exact f39
/-- A list of conditions that are made. -/
def Kids (L : ByteArray → Prop) (d n : Nat) (g : Nat → Nat → PV) : Prop := ∃ ks, n = ks.length ∧ Pure.IsL ks g 0 ∧ Goods L ks ∧ Cnd.deps ks ≤ d
def Kid (L : ByteArray → Prop) (d : Nat) (op : Int) (nm ar va la : ByteArray) (fo : Bool) (n : Nat) (g : Nat → Nat → PV) : Prop := ∃ c, Pure.IsC c op nm ar va la fo n g ∧ Good L c ∧ c.dep ≤ d
theorem deps_at : ∀ {ks : List Cnd} (j : Nat) (h : j < ks.length), (ks[j]).dep ≤ Cnd.deps ks
  | k :: ks, 0, h => by unfold Cnd.deps; exact Nat.le_max_left _ _
  | k :: ks, j + 1, h => by
    have := deps_at (ks := ks) j (by simpa using h)
    unfold Cnd.deps
    exact Nat.le_trans this (Nat.le_max_right _ _)
theorem kid_at {L : ByteArray → Prop} {d n : Nat} {g : Nat → Nat → PV} (h : Kids L d n g) {i : Int} (h0 : 0 ≤ i) (h1 : i < n) : Kid L d (g i.toNat 0).i (g i.toNat 1).s (g i.toNat 2).s (g i.toNat 3).s (g i.toNat 4).s (g i.toNat 5).b (g i.toNat 6).n (g i.toNat 6).get := by
  obtain ⟨ks, rfl, h2, h3, h4⟩ := h
  have hl : i.toNat < ks.length := by omega
  have e := isL_at h2 i.toNat hl
  rw [Nat.zero_add] at e
  exact ⟨_, e, goods_at h3 _ hl, Nat.le_trans (deps_at _ hl) h4⟩
theorem node_len {L : ByteArray → Prop} {op : Int} {nm ar va la : ByteArray} {fo : Bool} {n : Nat} (h : NodeOK L op nm ar va la fo n) : n ≤ 2 := by cases h <;> decide
theorem kid_open {L : ByteArray → Prop} {d n : Nat} {op : Int} {nm ar va la : ByteArray} {fo : Bool} {g : Nat → Nat → PV} (h : Kid L (d + 1) op nm ar va la fo n g) : NodeOK L op nm ar va la fo n ∧ Kids L d n g ∧ n ≤ 1000 := by
  obtain ⟨c, h1, h2, h3⟩ := h
  cases c with
  | mk op' nm' ar' va' la' fo' ks =>
    unfold Pure.IsC at h1
    obtain ⟨rfl, rfl, rfl, rfl, rfl, rfl, rfl, h4⟩ := h1
    unfold Good at h2
    unfold Cnd.dep at h3
    exact ⟨h2.1, ⟨ks, rfl, h4, h2.2, by omega⟩, Nat.le_trans (node_len h2.1) (by decide)⟩
theorem kid_zero {L : ByteArray → Prop} {n : Nat} {op : Int} {nm ar va la : ByteArray} {fo : Bool} {g : Nat → Nat → PV} (h : Kid L 0 op nm ar va la fo n g) : False := by
  obtain ⟨c, h1, h2, h3⟩ := h
  cases c with
  | mk op' nm' ar' va' la' fo' ks => unfold Cnd.dep at h3; omega
/-- The nodes of a condition are checked: depth at most d. -/
noncomputable def spec38 (d : Nat) : AI.Spec := fun xs m K => match xs, m with
  | [.agg [.int .i64 op, .str nm, .str ar, .str va, .str la, .bool fo, .psl 25 n g], .fn 39 [.adr 0 0 0, .adr 1 0 0]], [(0, .box [.psl 71 3 ga]), (1, .box [.psl 9 nl lg])] =>
    (Kid (fun s => 0 ≤ Pure.at' nl lg s) d op nm ar va la fo n g ∧ ga = attrG ∧ nl ≤ 1000) ∧ K (.int .i64 0) [(0, .box [.psl 71 3 ga]), (1, .box [.psl 9 nl lg])]
  | _, _ => False
noncomputable def cwW (d : Nat) : CallW := addF (one 38 (spec38 d)) cw24
noncomputable def L38_5 (d : Nat) : LSpec := fun base s K => match base, s with
  | 2, ⟨[(1, .fn 39 [.adr 0 0 0, .adr 1 0 0]), (16, .psl 25 n g), (17, .int .i64 n'), (18, .int .i64 i)], [(0, .box [.psl 71 3 ga]), (1, .box [.psl 9 nl lg])], 4⟩ => (n' = n ∧ 0 ≤ i ∧ i ≤ n ∧ n ≤ 1000 ∧ Kids (fun s => 0 ≤ Pure.at' nl lg s) d n g ∧ ga = attrG ∧ nl ≤ 1000) ∧ (K (.exit 0) ⟨[(4, .undef)], [(0, .box [.psl 71 3 ga]), (1, .box [.psl 9 nl lg])], 4⟩)
  | _, _ => False
theorem r38_5 (d : Nat) (n : Nat) (g ga : Nat → Nat → PV) (nl : Nat) (lg : Nat → Nat → PV)  (i : Int) (Kn : FS → Prop) (Ke : Ex → FS → Prop) : roundW (cwW d) lw17 38 2 ⟨[4], []⟩ (loopB 38 5) ⟨[(1, .fn 39 [.adr 0 0 0, .adr 1 0 0]), (16, .psl 25 n g), (17, .int .i64 n), (18, .int .i64 i)], [(0, .box [.psl 71 3 ga]), (1, .box [.psl 9 nl lg])], 4⟩ Kn Ke = (brW (decide (i < (n : Int))) (holds (if (0 : Int) ≤ i then if i < (n : Int) then some ((Kid (fun s => (0 : Int) ≤ Pure.at' nl lg s) d (g i.toNat 0).i (g i.toNat 1).s (g i.toNat 2).s (g i.toNat 3).s (g i.toNat 4).s (g i.toNat 5).b (g i.toNat 6).n (g i.toNat 6).get ∧ ga = attrG ∧ nl ≤ 1000) ∧ Kn { tmps := [(1, AV.fn 39 [AV.adr 0 0 0, AV.adr 1 0 0]), (16, AV.psl 25 n g), (17, AV.int IntKind.i64 (n : Int)), (18, AV.int IntKind.i64 (IntKind.i64.wrap (i + (1 : Int))))], mem := [(0, Ob.box [AV.psl 71 3 ga]), (1, Ob.box [AV.psl 9 nl lg])], nx := 4 }) else none else none)) (Ke (Ex.exit 0) { tmps := [(4, AV.undef)], mem := [(0, Ob.box [AV.psl 71 3 ga]), (1, Ob.box [AV.psl 9 nl lg])], nx := 4 })) := by kernel_rfl
theorem l38_5 (d : Nat) : LOK (cwW d) lw17 38 5 ⟨[4], []⟩ (L38_5 d) := by
  intro base s K h
  unfold L38_5 at h
  split at h
  · rename_i n g n' iz ga nl lg
    obtain ⟨⟨rfl, a0, a1, p0, p1, p2, p3⟩, k1⟩ := h
    refine ⟨((n : Int) - iz + 1).toNat, loop_rule (fun N s => ∃ (i : Int), s = (⟨[(1, .fn 39 [.adr 0 0 0, .adr 1 0 0]), (16, .psl 25 n g), (17, .int .i64 n), (18, .int .i64 i)], [(0, .box [.psl 71 3 ga]), (1, .box [.psl 9 nl lg])], 4⟩ : FS) ∧ 0 ≤ i ∧ i ≤ n ∧ (n : Int) - i + 1 ≤ (N : Int)) ?_ ?_ _ _ ⟨iz, rfl, a0, a1, by omega⟩⟩
    · rintro s ⟨i, _, i0, i1, iN⟩; omega
    · rintro N Kn hKn s ⟨i, rfl, i0, i1, iN⟩
      rw [r38_5]
      try rw [wrap_succ i0 (by omega)]
      (repeat' (first | with_reducible refine brd (fun _ => ?_) (fun _ => ?_) | with_reducible refine holds_if ?_ ?_ | with_reducible refine holds_ifn ?_ ?_ | with_reducible refine holds_some ?_ | with_reducible refine br (fun _ => ?_) (fun _ => ?_) | with_reducible refine And.intro ?_ ?_ | with_reducible refine fun _ => ?_))
      all_goals first
        | omega
        | exact trivial
        | exact k1
        | exact k1 _
        | exact k1 _ _
        | exact k1 _ _ _
        | exact hKn _ ⟨i + 1, rfl, by omega, by omega, by omega⟩
        | exact kid_at p1 i0 (by assumption)
        | (exfalso; simp_all; done)
  · exact h.elim
noncomputable def lwW (d : Nat) : LoopW := addL (oneL 38 5 (⟨[4], []⟩, L38_5 d)) lw17
theorem e38 (d : Nat) {hl : Lay Tryz.prog ctx (cwW d) (lwW d)} (op : Int) (nm ar va la : ByteArray) (fo : Bool) (n : Nat) (g ga : Nat → Nat → PV) (nl : Nat) (lg : Nat → Nat → PV) (Q : AV → Mem → Prop) : runW ctx (cwW d) (lwW d) 38 [.agg [.int .i64 op, .str nm, .str ar, .str va, .str la, .bool fo, .psl 25 n g], .fn 39 [.adr 0 0 0, .adr 1 0 0]] [(0, .box [.psl 71 3 ga]), (1, .box [.psl 9 nl lg])] Q = ((NodeOK (fun s => (0 : Int) ≤ Pure.at' nl lg s) op nm ar va la fo n ∧ ga = attrG ∧ nl ≤ 1000) ∧ ((n : Int) = (n : Int) ∧ (0 : Int) ≤ (0 : Int) ∧ (0 : Int) ≤ (n : Int) ∧ n ≤ 1000 ∧ Kids (fun s => (0 : Int) ≤ Pure.at' nl lg s) d n g ∧ ga = attrG ∧ nl ≤ 1000) ∧ Q (AV.int IntKind.i64 0) [(0, Ob.box [AV.psl 71 3 ga]), (1, Ob.box [AV.psl 9 nl lg])]) := by kernel_rfl
theorem f38 (d : Nat) {hl : Lay Tryz.prog ctx (cwW d) (lwW d)} : FOK (cwW d) (lwW d) 38 (spec38 (d + 1)) := by
  intro xs m K0 h
  unfold spec38 at h
  split at h
  · rename_i op nm ar va la fo n g ga nl lg
    obtain ⟨⟨p0, p1, p2⟩, -⟩ := h
    have hr : runW ctx (cwW d) (lwW d) 38 [.agg [.int .i64 op, .str nm, .str ar, .str va, .str la, .bool fo, .psl 25 n g], .fn 39 [.adr 0 0 0, .adr 1 0 0]] [(0, .box [.psl 71 3 ga]), (1, .box [.psl 9 nl lg])] (fun r mm => r = (.int .i64 0) ∧ mm = [(0, .box [.psl 71 3 ga]), (1, .box [.psl 9 nl lg])]) := by
      rw [e38]
      obtain ⟨q1, q2, q3⟩ := kid_open p0
      (repeat' (first | with_reducible refine brd (fun _ => ?_) (fun _ => ?_) | with_reducible refine holds_if ?_ ?_ | with_reducible refine holds_ifn ?_ ?_ | with_reducible refine holds_some ?_ | with_reducible refine br (fun _ => ?_) (fun _ => ?_) | with_reducible refine And.intro ?_ ?_ | with_reducible refine fun _ => ?_))
      all_goals first
        | omega
        | rfl
        | assumption
        | exact trivial
        | (exfalso; simp_all; done)
        | (simp_all; done)
    obtain ⟨r, m', h1, rfl, rfl⟩ := hl.run hr
    exact ⟨_, _, h1, fun K hK => hK.2⟩
  · exact h.elim
theorem layWs (d : Nat) : Lay Tryz.prog ctx (cwW d) lw17 := by
  induction d with
  | zero => exact lay_one (S := spec38 0) lay41 (fun xs m K0 h => by
      unfold spec38 at h
      split at h
      · exact (kid_zero h.1.1).elim
      · exact h.elim)
  | succ d ih => exact lay_again ih (f38 d (hl := lay_oneL ih (by kernel_rfl) (l38_5 d)))
end Go.Proofs.YtkenjojkpdeooaaGreatDoor
end
section
set_option linter.unusedVariables false
set_option linter.constructorNameAsVariable false
set_option maxRecDepth 100000
set_option maxHeartbeats 2000000
set_option linter.unusedSimpArgs false
namespace Go.Proofs.YtkenjojkpdeooaaGreatDoor
open AI

mutual
theorem isC_inj : ∀ (c c' : Cnd) {op : Int} {nm ar va la : ByteArray} {fo : Bool} {n : Nat} {g : Nat → Nat → PV}, Pure.IsC c op nm ar va la fo n g → Pure.IsC c' op nm ar va la fo n g → c = c'
  | .mk _ _ _ _ _ _ ks, .mk _ _ _ _ _ _ ks', op, nm, ar, va, la, fo, n, g, h, h' => by
    unfold Pure.IsC at h h'
    obtain ⟨rfl, rfl, rfl, rfl, rfl, rfl, h1, h2⟩ := h
    obtain ⟨rfl, rfl, rfl, rfl, rfl, rfl, h3, h4⟩ := h'
    rw [isL_inj ks ks' (h1.symm.trans h3) h2 h4]
theorem isL_inj : ∀ (ks ks' : List Cnd) {g : Nat → Nat → PV} {i : Nat}, ks.length = ks'.length → Pure.IsL ks g i → Pure.IsL ks' g i → ks = ks'
  | [], [], _, _, _, _, _ => rfl
  | [], _ :: _, _, _, h, _, _ => by simp at h
  | _ :: _, [], _, _, h, _, _ => by simp at h
  | k :: ks, k' :: ks', g, i, hl, h, h' => by
    unfold Pure.IsL at h h'
    rw [isC_inj k k' h.1 h'.1, isL_inj ks ks' (by simpa using hl) h.2 h'.2]
end
theorem drop_at {ks : List Cnd} {i : Nat} (h : i < ks.length) : ks.drop i = ks[i] :: ks.drop (i + 1) := by rw [List.drop_eq_getElem_cons h]
theorem sizes_at {ks : List Cnd} {i : Int} (h0 : 0 ≤ i) (h : i.toNat < ks.length) : Cnd.sizes (ks.drop i.toNat) = (ks[i.toNat]).size + Cnd.sizes (ks.drop (i + 1).toNat) := by
  rw [drop_at h, show (i + 1).toNat = i.toNat + 1 by omega]
  conv => lhs; unfold Cnd.sizes
theorem deps_drop {ks : List Cnd} {i : Int} (h0 : 0 ≤ i) (h : i.toNat < ks.length) : Cnd.deps (ks.drop i.toNat) = max (ks[i.toNat]).dep (Cnd.deps (ks.drop (i + 1).toNat)) := by
  rw [drop_at h, show (i + 1).toNat = i.toNat + 1 by omega]
  conv => lhs; unfold Cnd.deps
theorem isL_kid {ks : List Cnd} {g : Nat → Nat → PV} (h : Pure.IsL ks g 0) {i : Int} (hl : i.toNat < ks.length) : Pure.IsC ks[i.toNat] (g i.toNat 0).i (g i.toNat 1).s (g i.toNat 2).s (g i.toNat 3).s (g i.toNat 4).s (g i.toNat 5).b (g i.toNat 6).n (g i.toNat 6).get := by
  have e := isL_at h i.toNat hl
  rw [Nat.zero_add] at e
  exact e
mutual
theorem dep_size : ∀ c : Cnd, 1 ≤ c.dep ∧ c.dep ≤ c.size
  | .mk _ _ _ _ _ _ ks => by
    have := deps_sizes ks
    unfold Cnd.dep Cnd.size
    omega
theorem deps_sizes : ∀ ks : List Cnd, Cnd.deps ks ≤ Cnd.sizes ks
  | [] => by unfold Cnd.deps Cnd.sizes; omega
  | k :: ks => by
    have := dep_size k
    have := deps_sizes ks
    unfold Cnd.deps Cnd.sizes
    omega
end
theorem len_sizes : ∀ ks : List Cnd, ks.length ≤ Cnd.sizes ks
  | [] => by simp
  | k :: ks => by
    have := dep_size k
    have := len_sizes ks
    unfold Cnd.sizes
    simp only [List.length_cons]
    omega
noncomputable def spec37 (d : Nat) : AI.Spec := fun xs m K => match xs, m with
  | [.agg [.int .i64 op, .str nm, .str ar, .str va, .str la, .bool fo, .psl 25 n g], .int .i64 x, .int .i64 y], [] =>
    ∃ (c : Cnd), (Pure.IsC c op nm ar va la fo n g ∧ c.dep ≤ d ∧ 0 ≤ x ∧ x + c.size ≤ 60 ∧ 0 ≤ y ∧ y + d ≤ 1000) ∧ K (.tup [.int .i64 (x + (c.size : Int)), .int .i64 (y + (c.dep : Int) - 1)]) []
  | _, _ => False
noncomputable def cwM (d : Nat) : CallW := addF (one 37 (spec37 d)) cw24
noncomputable def L37_4 (d : Nat) : LSpec := fun base s K => match base, s with
  | 0, ⟨[(1, .int .i64 x), (2, .int .i64 y), (8, .int .i64 z), (17, .psl 25 n g), (18, .int .i64 n'), (19, .int .i64 i)], [], 0⟩ => ∃ (ks : List Cnd), (n' = n ∧ 0 ≤ i ∧ i ≤ n ∧ n = ks.length ∧ n ≤ 1000 ∧ Pure.IsL ks g 0 ∧ Cnd.deps ks ≤ d ∧ 0 ≤ y ∧ y + 1 + d ≤ 1000 ∧ 0 ≤ x ∧ x + Cnd.sizes (ks.drop i.toNat) ≤ 60 ∧ y ≤ z ∧ z ≤ 2000) ∧ (∀ (r1 r2 : Int), r1 = x + Cnd.sizes (ks.drop i.toNat) → r2 = max z (y + Cnd.deps (ks.drop i.toNat)) → K (.exit 0) ⟨[(1, .int .i64 r1), (8, .int .i64 r2)], [], 0⟩)
  | _, _ => False
theorem r37_4 (d : Nat) (n : Nat) (g : Nat → Nat → PV) (y : Int) (x z : Int) (i : Int) (Kn : FS → Prop) (Ke : Ex → FS → Prop) : roundW (cwM d) lw17 37 0 ⟨[1,8], []⟩ (loopB 37 4) ⟨[(1, .int .i64 x), (2, .int .i64 y), (8, .int .i64 z), (17, .psl 25 n g), (18, .int .i64 n), (19, .int .i64 i)], [], 0⟩ Kn Ke = (brW (decide (i < (n : Int))) (holds (if (0 : Int) ≤ i then if i < (n : Int) then some (brW (decide (x > (60 : Int))) (Ke (Ex.exit 0) { tmps := [(1, AV.int IntKind.i64 x), (8, AV.int IntKind.i64 z)], mem := [], nx := 0 }) (∃ c, (Pure.IsC c (g i.toNat 0).i (g i.toNat 1).s (g i.toNat 2).s (g i.toNat 3).s (g i.toNat 4).s (g i.toNat 5).b (g i.toNat 6).n (g i.toNat 6).get ∧ c.dep ≤ d ∧ (0 : Int) ≤ x ∧ x + (↑c.size : Int) ≤ (60 : Int) ∧ (0 : Int) ≤ IntKind.i64.wrap (y + (1 : Int)) ∧ IntKind.i64.wrap (y + (1 : Int)) + (d : Int) ≤ (1000 : Int)) ∧ Kn { tmps := [(1, AV.int IntKind.i64 (x + (↑c.size : Int))), (2, AV.int IntKind.i64 y), (8, AV.int IntKind.i64 (if IntKind.i64.wrap (y + (1 : Int)) + (↑c.dep : Int) - (1 : Int) > z then IntKind.i64.wrap (y + (1 : Int)) + (↑c.dep : Int) - (1 : Int) else z)), (17, AV.psl 25 n g), (18, AV.int IntKind.i64 (n : Int)), (19, AV.int IntKind.i64 (IntKind.i64.wrap (i + (1 : Int))))], mem := [], nx := 0 })) else none else none)) (Ke (Ex.exit 0) { tmps := [(1, AV.int IntKind.i64 x), (8, AV.int IntKind.i64 z)], mem := [], nx := 0 })) := by kernel_rfl
theorem l37_4 (d : Nat) : LOK (cwM d) lw17 37 4 ⟨[1,8], []⟩ (L37_4 d) := by
  intro base s K h
  unfold L37_4 at h
  split at h
  · rename_i xz y zz n g n' iz
    obtain ⟨ks, ⟨rfl, a0, a1, p0, p1, p2, p3, p4, p5, v0, v1, v2, v3⟩, k1⟩ := h
    refine ⟨((n : Int) - iz + 1).toNat, loop_rule (fun N s => ∃ (x z : Int) (i : Int), s = (⟨[(1, .int .i64 x), (2, .int .i64 y), (8, .int .i64 z), (17, .psl 25 n g), (18, .int .i64 n), (19, .int .i64 i)], [], 0⟩ : FS) ∧ 0 ≤ i ∧ i ≤ n ∧ 0 ≤ x ∧ x + Cnd.sizes (ks.drop i.toNat) ≤ 60 ∧ y ≤ z ∧ z ≤ 2000 ∧ x + Cnd.sizes (ks.drop i.toNat) = xz + Cnd.sizes (ks.drop iz.toNat) ∧ max z (y + Cnd.deps (ks.drop i.toNat)) = max zz (y + Cnd.deps (ks.drop iz.toNat)) ∧ (n : Int) - i + 1 ≤ (N : Int)) ?_ ?_ _ _ ⟨xz, zz, iz, rfl, a0, a1, v0, v1, v2, v3, rfl, rfl, by omega⟩⟩
    · rintro s ⟨x, z, i, _, i0, i1, i2, i3, i4, i5, i6, i7, iN⟩; omega
    · rintro N Kn hKn s ⟨x, z, i, rfl, i0, i1, i2, i3, i4, i5, i6, i7, iN⟩
      rw [r37_4]
      try rw [wrap_succ i0 (by omega)]
      try rw [show IntKind.i64.wrap (y + 1) = y + 1 from wrap_id (by omega) (by omega)]
      (repeat' (first | with_reducible refine brd (fun _ => ?_) (fun _ => ?_) | with_reducible refine holds_if ?_ ?_ | with_reducible refine holds_ifn ?_ ?_ | with_reducible refine holds_some ?_ | with_reducible refine br (fun _ => ?_) (fun _ => ?_) | with_reducible refine And.intro ?_ ?_ | with_reducible refine fun _ => ?_))
      all_goals try first
        | (have hl : i.toNat < ks.length := (by omega); have q1 := sizes_at i0 hl; have q2 := deps_drop i0 hl; have q3 := deps_at i.toNat hl; have q4 := dep_size ks[i.toNat]; refine ⟨ks[i.toNat], ⟨isL_kid p2 hl, ?_⟩, ?_⟩)
      all_goals (repeat' (first | with_reducible refine brd (fun _ => ?_) (fun _ => ?_) | with_reducible refine holds_if ?_ ?_ | with_reducible refine holds_ifn ?_ ?_ | with_reducible refine holds_some ?_ | with_reducible refine br (fun _ => ?_) (fun _ => ?_) | with_reducible refine And.intro ?_ ?_ | with_reducible refine fun _ => ?_))
      all_goals first
        | omega
        | exact trivial
        | exact k1
        | exact k1 _
        | exact k1 _ _
        | exact k1 _ _ _
        | exact hKn _ ⟨_, _, i + 1, rfl, by omega, by omega, i2, i3, i4, i5, (by assumption), (by assumption), by omega⟩
        | exact k1 _ _ (by have e : ks.drop i.toNat = [] := List.drop_eq_nil_of_le (by omega); rw [e] at i6; simp only [Cnd.sizes] at i6; omega) (by have e : ks.drop i.toNat = [] := List.drop_eq_nil_of_le (by omega); rw [e] at i7; simp only [Cnd.deps] at i7; omega)
        | exact hKn _ ⟨_, _, i + 1, rfl, by omega, by omega, by omega, by omega, by omega, by omega, by omega, by omega, by omega⟩
  · exact h.elim
noncomputable def lwM (d : Nat) : LoopW := addL (oneL 37 4 (⟨[1, 8], []⟩, L37_4 d)) lw17
theorem e37 (d : Nat) {hl : Lay Tryz.prog ctx (cwM d) (lwM d)} (op : Int) (nm ar va la : ByteArray) (fo : Bool) (n : Nat) (g : Nat → Nat → PV) (x y : Int) (Q : AV → Mem → Prop) : runW ctx (cwM d) (lwM d) 37 [.agg [.int .i64 op, .str nm, .str ar, .str va, .str la, .bool fo, .psl 25 n g], .int .i64 x, .int .i64 y] [] Q = (∃ ks, ((n : Int) = (n : Int) ∧ (0 : Int) ≤ (0 : Int) ∧ (0 : Int) ≤ (n : Int) ∧ n = ks.length ∧ n ≤ 1000 ∧ Pure.IsL ks g 0 ∧ Cnd.deps ks ≤ d ∧ (0 : Int) ≤ y ∧ y + (1 : Int) + (d : Int) ≤ (1000 : Int) ∧ (0 : Int) ≤ IntKind.i64.wrap (x + (1 : Int)) ∧ IntKind.i64.wrap (x + (1 : Int)) + (↑(Cnd.sizes ks) : Int) ≤ (60 : Int) ∧ y ≤ y ∧ y ≤ (2000 : Int)) ∧ ∀ (r1 r2 : Int), r1 = IntKind.i64.wrap (x + (1 : Int)) + (↑(Cnd.sizes ks) : Int) → r2 = max y (y + (↑(Cnd.deps ks) : Int)) → Q (AV.tup [AV.int IntKind.i64 r1, AV.int IntKind.i64 r2]) []) := by kernel_rfl
theorem f37 (d : Nat) {hl : Lay Tryz.prog ctx (cwM d) (lwM d)} : FOK (cwM d) (lwM d) 37 (spec37 (d + 1)) := by
  intro xs m K0 h
  unfold spec37 at h
  split at h
  · rename_i op nm ar va la fo n g x y
    obtain ⟨c, ⟨p0, p1, p2, p3, p4, p5⟩, -⟩ := h
    have hr : runW ctx (cwM d) (lwM d) 37 [.agg [.int .i64 op, .str nm, .str ar, .str va, .str la, .bool fo, .psl 25 n g], .int .i64 x, .int .i64 y] [] (fun r mm => r = (.tup [.int .i64 (x + (c.size : Int)), .int .i64 (y + (c.dep : Int) - 1)]) ∧ mm = []) := by
      rw [e37]
      try rw [show IntKind.i64.wrap (x + 1) = x + 1 from wrap_id (by omega) (by omega)]
      obtain ⟨op', nm', ar', va', la', fo', ks⟩ := c
      have q1 := p0
      unfold Pure.IsC at q1
      obtain ⟨-, -, -, -, -, -, q2, q3⟩ := q1
      have q4 := len_sizes ks
      unfold Cnd.size at p3
      unfold Cnd.dep at p1
      refine ⟨ks, ?_⟩
      (repeat' (first | with_reducible refine brd (fun _ => ?_) (fun _ => ?_) | with_reducible refine holds_if ?_ ?_ | with_reducible refine holds_ifn ?_ ?_ | with_reducible refine holds_some ?_ | with_reducible refine br (fun _ => ?_) (fun _ => ?_) | with_reducible refine And.intro ?_ ?_ | with_reducible refine fun _ => ?_))
      all_goals first
        | omega
        | rfl
        | assumption
        | exact trivial
        | (unfold Cnd.size Cnd.dep; subst_vars; rw [show max y (y + (Cnd.deps ks : Int)) = y + ((1 + Cnd.deps ks : Nat) : Int) - 1 by omega, show x + 1 + (Cnd.sizes ks : Int) = x + ((1 + Cnd.sizes ks : Nat) : Int) by omega])
        | (simp_all; done)
    obtain ⟨r, m', h1, rfl, rfl⟩ := hl.run hr
    refine ⟨_, _, h1, fun K hK => ?_⟩
    obtain ⟨c', hp, hk⟩ := hK
    obtain rfl := isC_inj _ _ p0 hp.1
    exact hk
  · exact h.elim
theorem layMs (d : Nat) : Lay Tryz.prog ctx (cwM d) lw17 := by
  induction d with
  | zero => exact lay_one (S := spec37 0) lay41 (fun xs m K0 h => by
      unfold spec37 at h
      split at h
      · obtain ⟨c, h, -⟩ := h
        have := dep_size c
        omega
      · exact h.elim)
  | succ d ih => exact lay_again ih (f37 d (hl := lay_oneL ih (by kernel_rfl) (l37_4 d)))
end Go.Proofs.YtkenjojkpdeooaaGreatDoor
end
section
set_option linter.unusedVariables false
set_option linter.constructorNameAsVariable false
set_option maxRecDepth 100000
set_option maxHeartbeats 2000000
set_option linter.unusedSimpArgs false
namespace Go.Proofs.YtkenjojkpdeooaaGreatDoor
open AI

theorem f37' : FOK cw24 lw17 37 (spec37 20) := fok_any (f37 19 (hl := lay_oneL (layMs 19) (by kernel_rfl) (l37_4 19)))
theorem f38' : FOK cw24 lw17 38 (spec38 20) := fok_any (f38 19 (hl := lay_oneL (layWs 19) (by kernel_rfl) (l38_5 19)))
noncomputable def cw25 : CallW := addF (one 38 (spec38 20)) (addF (one 37 (spec37 20)) cw24)
theorem lay42 : Lay Tryz.prog ctx cw25 lw17 := lay_one (lay_one lay41 f37') (fok_any f38')
/-- A condition that is made, and is not too large. -/
def Cond (L : ByteArray → Prop) (op : Int) (nm ar va la : ByteArray) (fo : Bool) (n : Nat) (g : Nat → Nat → PV) : Prop := ∃ c, Pure.IsC c op nm ar va la fo n g ∧ Good L c ∧ c.dep ≤ 20 ∧ c.size ≤ 60
noncomputable def spec15 : AI.Spec := fun xs m K => match xs, m with
  | [.agg [.int .i64 op, .str nm, .str ar, .str va, .str la, .bool fo, .psl 25 n g], .psl 71 3 ga, .psl 9 nl lg], [] => (Cond (fun s => 0 ≤ Pure.at' nl lg s) op nm ar va la fo n g ∧ ga = attrG ∧ nl ≤ 1000) ∧ K (.int .i64 0) []
  | _, _ => False
theorem e15 (op : Int) (nm ar va la : ByteArray) (fo : Bool) (n : Nat) (g ga : Nat → Nat → PV) (nl : Nat) (lg : Nat → Nat → PV) (Q : AV → Mem → Prop) : runW ctx cw25 lw17 15 [.agg [.int .i64 op, .str nm, .str ar, .str va, .str la, .bool fo, .psl 25 n g], .psl 71 3 ga, .psl 9 nl lg] [] Q = (∃ c, (Pure.IsC c op nm ar va la fo n g ∧ c.dep ≤ 20 ∧ (0 : Int) ≤ (0 : Int) ∧ (0 : Int) + (↑c.size : Int) ≤ (60 : Int) ∧ (0 : Int) ≤ (1 : Int) ∧ (21 : Int) ≤ (1000 : Int)) ∧ brW (decide ((0 : Int) + (↑c.size : Int) > (60 : Int))) (Q (AV.int IntKind.i64 2) []) (brW (decide ((1 : Int) + (↑c.dep : Int) - (1 : Int) > (20 : Int))) (Q (AV.int IntKind.i64 2) []) ((Kid (fun s => (0 : Int) ≤ Pure.at' nl lg s) 20 op nm ar va la fo n g ∧ ga = attrG ∧ nl ≤ 1000) ∧ Q (AV.int IntKind.i64 0) []))) := by kernel_rfl
theorem f15 : FOK cw25 lw17 15 (spec15) := by
  intro xs m K0 h
  unfold spec15 at h
  split at h
  · rename_i op nm ar va la fo n g ga nl lg
    obtain ⟨⟨p0, p1, p2⟩, -⟩ := h
    have hr : runW ctx cw25 lw17 15 [.agg [.int .i64 op, .str nm, .str ar, .str va, .str la, .bool fo, .psl 25 n g], .psl 71 3 ga, .psl 9 nl lg] [] (fun r mm => r = (.int .i64 0) ∧ mm = []) := by
      rw [e15]
      obtain ⟨c, h1, h2, h3, h4⟩ := p0
      refine ⟨c, ⟨h1, by omega, by omega, by omega, by omega, by omega⟩, ?_⟩
      (repeat' (first | with_reducible refine brd (fun _ => ?_) (fun _ => ?_) | with_reducible refine holds_if ?_ ?_ | with_reducible refine holds_ifn ?_ ?_ | with_reducible refine holds_some ?_ | with_reducible refine br (fun _ => ?_) (fun _ => ?_) | with_reducible refine And.intro ?_ ?_ | with_reducible refine fun _ => ?_))
      all_goals first
        | omega
        | rfl
        | assumption
        | exact trivial
        | exact ⟨c, h1, h2, h3⟩
        | (exfalso; omega)
        | (simp_all; done)
    obtain ⟨r, m', h1, rfl, rfl⟩ := lay42.run hr
    exact ⟨_, _, h1, fun K hK => hK.2⟩
  · exact h.elim
noncomputable def cw26_ : FuncId → Option AI.Spec := fun f => match f with
  | 15 => some (spec15)
  | _ => none
noncomputable def cw26 : CallW := addF cw26_ cw25
theorem lay43 : Lay Tryz.prog ctx cw26 lw17 := layF lay42 fun f S h => by
  unfold cw26_ at h
  split at h <;> cases h
  · exact f15
end Go.Proofs.YtkenjojkpdeooaaGreatDoor
end
section
set_option linter.unusedVariables false
set_option linter.constructorNameAsVariable false
set_option maxRecDepth 100000
set_option maxHeartbeats 2000000
set_option linter.unusedSimpArgs false
namespace Go.Proofs.YtkenjojkpdeooaaGreatDoor
open AI

/-- A comparison of a token with a bound one. -/
def Pure.same (nt : Nat) (gt : Nat → Nat → PV) (i o a b : Int) : Bool := decide (o ≥ 0) && ((Pure.val nt gt i a).toList == (Pure.val nt gt o b).toList)
theorem at'_lt (n : Nat) (g : Nat → Nat → PV) (s : ByteArray) : Pure.at' n g s < (n : Int) := (ix_lt _ n).2
noncomputable def spec48u : AI.Spec := fun xs m K => match xs, m with
  | [.agg [.psl 71 3 ga, .psl 29 nt gt, .psl 105 nx gx, .psl 109 nr gr, .psl 117 nn gn, .psl 3 nh gh, .psl 9 ns gs], .agg [.int .i64 (.ofNat 4), .str nm, .str ar, .str va, .str la, .bool fo, .psl 25 n g], .int .i64 i, .psl 9 nl lg, .psl 3 nb bg], [] => (ga = attrG ∧ nl ≤ 1000 ∧ 0 ≤ Pure.at' nl lg la ∧ nb = nl) ∧ K (.bool (Pure.same nt gt i (bg (Pure.at' nl lg la).toNat 0).i (Pure.at 3 attrG nm) (Pure.at 3 attrG ar))) []
  | _, _ => False
theorem e48u (nt nx nr nn nh ns : Nat) (ga gt gx gr gn gh gs : Nat → Nat → PV) (nm ar va la : ByteArray) (fo : Bool) (n : Nat) (g : Nat → Nat → PV) (i : Int) (nl nb : Nat) (lg bg : Nat → Nat → PV) (Q : AV → Mem → Prop) : runW ctx cw26 lw17 48 [.agg [.psl 71 3 ga, .psl 29 nt gt, .psl 105 nx gx, .psl 109 nr gr, .psl 117 nn gn, .psl 3 nh gh, .psl 9 ns gs], .agg [.int .i64 (.ofNat 4), .str nm, .str ar, .str va, .str la, .bool fo, .psl 25 n g], .int .i64 i, .psl 9 nl lg, .psl 3 nb bg] [] Q = (nl ≤ 1000 ∧ holds (if (0 : Int) ≤ Pure.at' nl lg la then if Pure.at' nl lg la < (nb : Int) then some (brW (decide ((bg (Pure.at' nl lg la).toNat 0).i ≥ (0 : Int))) (3 ≤ 1000 ∧ True ∧ 3 ≤ 1000 ∧ True ∧ brW ((Pure.val nt gt i (Pure.at 3 ga nm)).toList == (Pure.val nt gt (bg (Pure.at' nl lg la).toNat 0).i (Pure.at 3 ga ar)).toList) (Q (AV.bool true) []) (Q (AV.bool false) [])) (Q (AV.bool false) [])) else none else none)) := by kernel_rfl
theorem f48u : FOK cw26 lw17 48 (spec48u) := by
  intro xs m K0 h
  unfold spec48u at h
  split at h
  · rename_i ga nt gt nx gx nr gr nn gn nh gh ns gs nm ar va la fo n g i nl lg nb bg
    obtain ⟨⟨p0, p1, p2, p3⟩, -⟩ := h
    have hr : runW ctx cw26 lw17 48 [.agg [.psl 71 3 ga, .psl 29 nt gt, .psl 105 nx gx, .psl 109 nr gr, .psl 117 nn gn, .psl 3 nh gh, .psl 9 ns gs], .agg [.int .i64 (.ofNat 4), .str nm, .str ar, .str va, .str la, .bool fo, .psl 25 n g], .int .i64 i, .psl 9 nl lg, .psl 3 nb bg] [] (fun r mm => r = (.bool (Pure.same nt gt i (bg (Pure.at' nl lg la).toNat 0).i (Pure.at 3 attrG nm) (Pure.at 3 attrG ar))) ∧ mm = []) := by
      rw [e48u]
      subst p0 p3
      (repeat' (first | with_reducible refine brd (fun _ => ?_) (fun _ => ?_) | with_reducible refine holds_if ?_ ?_ | with_reducible refine holds_ifn ?_ ?_ | with_reducible refine holds_some ?_ | with_reducible refine br (fun _ => ?_) (fun _ => ?_) | with_reducible refine And.intro ?_ ?_ | with_reducible refine fun _ => ?_))
      all_goals first
        | omega
        | rfl
        | assumption
        | exact trivial
        | exact at'_lt _ _ _
        | (unfold Pure.same; simp only [*, decide_true, decide_false, Bool.true_and, Bool.false_and]; done)
        | (simp_all; done)
    obtain ⟨r, m', h1, rfl, rfl⟩ := lay43.run hr
    exact ⟨_, _, h1, fun K hK => hK.2⟩
  · exact h.elim
noncomputable def cw27_ : FuncId → Option AI.Spec := fun f => match f with
  | 48 => some (spec48u)
  | _ => none
noncomputable def cw27 : CallW := addF cw27_ cw26
theorem lay44 : Lay Tryz.prog ctx cw27 lw17 := layF lay43 fun f S h => by
  unfold cw27_ at h
  split at h <;> cases h
  · exact fok_any f48u
noncomputable def spec20u : AI.Spec := fun xs m K => match xs, m with
  | [.agg [.psl 71 3 ga, .psl 29 nt gt, .psl 105 nx gx, .psl 109 nr gr, .psl 117 nn gn, .psl 3 nh gh, .psl 9 ns gs], .agg [.int .i64 (.ofNat 4), .str nm, .str ar, .str va, .str la, .bool fo, .psl 25 n g], .int .i64 i, .psl 9 nl lg, .psl 3 nb bg], [] => (ga = attrG ∧ nl ≤ 1000 ∧ 0 ≤ Pure.at' nl lg la ∧ nb = nl ∧ Cond (fun s => 0 ≤ Pure.at' nl lg s) 4 nm ar va la fo n g ∧ 0 ≤ i ∧ i < nt ∧ Pure.ix (fun j => Pure.outB nt (bg j 0).i) nb = -1) ∧ K (.bool (Pure.same nt gt i (bg (Pure.at' nl lg la).toNat 0).i (Pure.at 3 attrG nm) (Pure.at 3 attrG ar))) []
  | _, _ => False
theorem e20u (nt nx nr nn nh ns : Nat) (ga gt gx gr gn gh gs : Nat → Nat → PV) (nm ar va la : ByteArray) (fo : Bool) (n : Nat) (g : Nat → Nat → PV) (i : Int) (nl nb : Nat) (lg bg : Nat → Nat → PV) (Q : AV → Mem → Prop) : runW ctx cw27 lw17 20 [.agg [.psl 71 3 ga, .psl 29 nt gt, .psl 105 nx gx, .psl 109 nr gr, .psl 117 nn gn, .psl 3 nh gh, .psl 9 ns gs], .agg [.int .i64 (.ofNat 4), .str nm, .str ar, .str va, .str la, .bool fo, .psl 25 n g], .int .i64 i, .psl 9 nl lg, .psl 3 nb bg] [] Q = ((Cond (fun s => (0 : Int) ≤ Pure.at' nl lg s) (4 : Int) nm ar va la fo n g ∧ ga = attrG ∧ nl ≤ 1000) ∧ brW (decide (i < (0 : Int))) (Q (AV.bool false) []) (brW (decide (i ≥ (nt : Int))) (Q (AV.bool false) []) (brW (!(nb : Int) == (nl : Int)) (Q (AV.bool false) []) (nb ≤ 1000 ∧ brW (decide (Pure.ix (fun j => Pure.outB nt (bg j 0).i) nb ≥ (0 : Int))) (Q (AV.bool false) []) ((ga = attrG ∧ nl ≤ 1000 ∧ (0 : Int) ≤ Pure.at' nl lg la ∧ nb = nl) ∧ brW (Pure.same nt gt i (bg (Pure.at' nl lg la).toNat 0).i (Pure.at 3 attrG nm) (Pure.at 3 attrG ar)) (Q (AV.bool true) []) (Q (AV.bool false) [])))))) := by kernel_rfl
theorem f20u : FOK cw27 lw17 20 (spec20u) := by
  intro xs m K0 h
  unfold spec20u at h
  split at h
  · rename_i ga nt gt nx gx nr gr nn gn nh gh ns gs nm ar va la fo n g i nl lg nb bg
    obtain ⟨⟨p0, p1, p2, p3, p4, p5, p6, p7⟩, -⟩ := h
    have hr : runW ctx cw27 lw17 20 [.agg [.psl 71 3 ga, .psl 29 nt gt, .psl 105 nx gx, .psl 109 nr gr, .psl 117 nn gn, .psl 3 nh gh, .psl 9 ns gs], .agg [.int .i64 (.ofNat 4), .str nm, .str ar, .str va, .str la, .bool fo, .psl 25 n g], .int .i64 i, .psl 9 nl lg, .psl 3 nb bg] [] (fun r mm => r = (.bool (Pure.same nt gt i (bg (Pure.at' nl lg la).toNat 0).i (Pure.at 3 attrG nm) (Pure.at 3 attrG ar))) ∧ mm = []) := by
      rw [e20u]
      (repeat' (first | with_reducible refine brd (fun _ => ?_) (fun _ => ?_) | with_reducible refine holds_if ?_ ?_ | with_reducible refine holds_ifn ?_ ?_ | with_reducible refine holds_some ?_ | with_reducible refine br (fun _ => ?_) (fun _ => ?_) | with_reducible refine And.intro ?_ ?_ | with_reducible refine fun _ => ?_))
      all_goals first
        | omega
        | rfl
        | assumption
        | exact trivial
        | (exfalso; simp_all; done)
        | (exfalso; simp_all; omega)
        | (exfalso; omega)
        | (simp_all; done)
    obtain ⟨r, m', h1, rfl, rfl⟩ := lay44.run hr
    exact ⟨_, _, h1, fun K hK => hK.2⟩
  · exact h.elim
end Go.Proofs.YtkenjojkpdeooaaGreatDoor
end
