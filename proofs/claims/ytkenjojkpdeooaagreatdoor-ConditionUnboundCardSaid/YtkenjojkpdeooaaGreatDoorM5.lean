/- Operations that leave each other alone may change places. · A region whose order is drawn. · A loop's head: what isn't kept is forgotten, what is kept gets fixed names. · Code, and functions. -/
import Derived.Test.YtkenjojkpdeooaaGreatDoorM4
import Derived.LoopN
section
set_option linter.unusedVariables false
set_option linter.unusedSimpArgs false
set_option linter.constructorNameAsVariable false
namespace Go.Proofs.YtkenjojkpdeooaaGreatDoor.AI

section
variable (C : Ctx) {ev ev' : Operand → AV}
theorem parts_congr (fs : List (Nat × TypeId)) : ∀ (l : List (Nat × Operand)), (∀ x ∈ l.map (·.2), ev x = ev' x) → partsOf C fs ev l = partsOf C fs ev' l
  | [], _ => rfl
  | (i, x) :: r, h => by
    have hx : ev x = ev' x := h x (by simp)
    simp only [partsOf, hx, parts_congr fs r (fun y hy => h y (by simp only [List.map_cons, List.mem_cons]; exact .inr hy))]
theorem map_congr' {l : List Operand} (h : ∀ x ∈ l, ev x = ev' x) : l.map ev = l.map ev' := List.map_congr_left h
theorem op_congr (T : TypeId) (op : Op) (id : Nat) (m : Mem) (h : ∀ x ∈ op.operands, ev x = ev' x) : opO C T op id ev m = opO C T op id ev' m := by
  unfold opO
  cases op <;> simp only [Op.operands] at h <;> first | rfl | try simp only [opK]
  case build S ps =>
    have e : ∀ fs, partsOf C fs ev ps.toList = partsOf C fs ev' ps.toList := fun fs => parts_congr C fs _ (fun x hx => h x (by simpa using hx))
    simp only [e]
  case buildSlice S n ps =>
    have e : ∀ (f : Nat × Operand → Nat) (c : Nat), (ps.toList.map fun p => (f p, c, ev p.2)) = (ps.toList.map fun p => (f p, c, ev' p.2)) := fun f c =>
      List.map_congr_left fun p hp => by rw [h p.2 (by rw [List.mem_toArray]; exact List.mem_map.2 ⟨p, hp, rfl⟩)]
    simp only [e]
  case makeFunc f first cap =>
    have e : cap.toList.map ev = cap.toList.map ev' := map_congr' fun x hx => h x (by rw [Array.mem_append]; exact .inr (Array.mem_toList_iff.1 hx))
    cases f <;> first | rfl | simp only [opK, e]
  case slice S x lo hi mx =>
    have hx : ev x = ev' x := h x (by simp)
    have hlo : lo.map ev = lo.map ev' := by
      cases lo with
      | none => rfl
      | some y => exact congrArg some (h y (by simp))
    have hhi : hi.map ev = hi.map ev' := by
      cases hi with
      | none => rfl
      | some y => exact congrArg some (h y (by simp))
    cases mx <;> first | rfl | simp only [opK, hx, hlo, hhi]
  case call c =>
    have e : c.args.toList.map ev = c.args.toList.map ev' := map_congr' fun x hx => h x (by
      unfold Call.operands
      rw [Array.mem_append]
      exact .inr (Array.mem_toList_iff.1 hx))
    simp only [e]
  case next it b =>
    have hx : ev it = ev' it := h it (by simp)
    cases b <;> first | rfl | simp only [opK, hx]
  all_goals (simp_all; done)
theorem writes_congr (op : Op) (m : Mem) (h : ∀ x ∈ op.operands, ev x = ev' x) : writesOf op ev m = writesOf op ev' m := by
  unfold writesOf
  split
  · rfl
  · cases op <;> first | rfl | skip
    rename_i c _
    obtain ⟨callee, args, argTypes⟩ := c
    cases callee <;> first | rfl | skip
    rename_i b _
    cases b <;> first | rfl | skip
    dsimp only
    split <;> first | rfl | skip
    rename_i d s _ e
    have hd : ev d = ev' d := h d (by
      simp only [Op.operands, Call.operands]
      rw [Array.mem_append]
      exact .inr (by rw [← Array.mem_toList_iff, e]; simp))
    have hs : ev s = ev' s := h s (by
      simp only [Op.operands, Call.operands]
      rw [Array.mem_append]
      exact .inr (by rw [← Array.mem_toList_iff, e]; simp))
    rw [hd, hs]
theorem mayRun_congr (ro : Option (List Nat)) (op : Op) (m : Mem) (h : ∀ x ∈ op.operands, ev x = ev' x) : mayRun ro op ev m = mayRun ro op ev' m := by
  unfold mayRun
  rw [writes_congr op m h]
variable (call : FuncId → List AV → Mem → Option (AV × Mem))
theorem step_congr (ro : Option (List Nat)) (o : Oper) (id : Nat) {tmps tmps' : Env} (m : Mem) (h : ∀ x ∈ o.op.operands, eval tmps x = eval tmps' x) : stepO C call ro o id tmps m = stepO C call ro o id tmps' m := by
  have gen : (if mayRun ro o.op (eval tmps) m then opO C o.type o.op id (eval tmps) m else none) = (if mayRun ro o.op (eval tmps') m then opO C o.type o.op id (eval tmps') m else none) := by
    rw [mayRun_congr ro o.op m h, op_congr C o.type o.op id m h]
  obtain ⟨dst, op, type, pos, after, guard⟩ := o
  unfold stepO
  cases op
  case pick c a b =>
    dsimp only
    have h1 : eval tmps c = eval tmps' c := h c (by simp [Op.operands])
    have h2 : eval tmps a = eval tmps' a := h a (by simp [Op.operands])
    have h3 : eval tmps b = eval tmps' b := h b (by simp [Op.operands])
    rw [h1, h2, h3]
  case call c =>
    obtain ⟨callee, args, argTypes⟩ := c
    cases callee
    case value f =>
      dsimp only
      have h1 : eval tmps f = eval tmps' f := h f (by simp [Op.operands, Call.operands])
      have h2 : args.toList.map (eval tmps) = args.toList.map (eval tmps') := map_congr' fun x hx => h x (by
        simp only [Op.operands, Call.operands]
        rw [Array.mem_append]
        exact .inr (Array.mem_toList_iff.1 hx))
      rw [h1, h2]
    all_goals exact gen
  all_goals exact gen
theorem guard_congr (ro : Option (List Nat)) (ops : Array Oper) (o : Oper) (id : Nat) {tmps tmps' : Env} (m : Mem) (h : ∀ t ∈ o.looksAt ops, tmps.get t = tmps'.get t) : guardO C call ro ops o id tmps m = guardO C call ro ops o id tmps' m := by
  have hs : stepO C call ro o id tmps m = stepO C call ro o id tmps' m := step_congr C call ro o id m fun x hx => by
    cases x <;> first | rfl | skip
    rename_i t
    exact h t (List.mem_append_left _ (List.mem_filterMap.2 ⟨.tmp t, by simpa using hx, rfl⟩))
  unfold guardO
  rw [hs]
  cases hg : o.guard with
  | none => rfl
  | some p =>
    obtain ⟨g, want⟩ := p
    dsimp only
    cases ht : (ops[g]?).bind (·.dst) with
    | none => rfl
    | some t =>
      dsimp only
      rw [h t (List.mem_append_right _ (by rw [hg]; simp [ht]))]

structure It where
  i : Nat
  o : Oper
  fo : List Nat × List Nat
abbrev St := Env × Mem
def run1 (ops : Array Oper) (nx : Nat) (t : It) (s : St) : Option St :=
  match guardO C call (roOf t.fo) ops t.o (nx + 16 * t.i) s.1 (only s.2 (t.fo.1 ++ t.fo.2)) with
  | some p => some (putT t.o.dst p.1 s.1, merge t.fo (nx + 16 * t.i) s.2 p.2)
  | none => none
def runL (ops : Array Oper) (nx : Nat) : List It → St → Option St
  | [], s => some s
  | t :: r, s => match run1 C call ops nx t s with | some s => runL ops nx r s | none => none
def Eqv (s s' : St) : Prop := (∀ t, s.1.get t = s'.1.get t) ∧ s.2.get = s'.2.get
theorem only_congr {m m' : Mem} : ∀ (l : List Nat), (∀ q ∈ l, m.get q = m'.get q) → only m l = only m' l
  | [], _ => rfl
  | o :: r, h => by
    simp only [only]
    rw [h o (by simp), only_congr r (fun q hq => h q (by simp [hq]))]
variable {ops : Array Oper} {nx : Nat} {C call}
theorem run1_eqv {t : It} {s s' s1 : St} (h : run1 C call ops nx t s = some s1) (e : Eqv s s') : ∃ s1', run1 C call ops nx t s' = some s1' ∧ Eqv s1 s1' := by
  unfold run1 at h ⊢
  obtain ⟨e1, e2⟩ := e
  rw [← guard_congr C call (roOf t.fo) ops t.o (nx + 16 * t.i) _ (fun x _ => e1 x), only_congr _ (fun q _ => (congrFun e2 q).symm)]
  split at h
  · rename_i p hp
    cases h
    refine ⟨_, rfl, fun x => ?_, ?_⟩
    · show Env.get (putT _ _ _) x = Env.get (putT _ _ _) x
      cases t.o.dst with
      | none => exact e1 x
      | some d => simp only [putT, get_put, e1 x]
    · funext q
      show (merge _ _ _ _).get q = (merge _ _ _ _).get q
      rw [get_merge, get_merge, congrFun e2 q]
  · cases h
theorem runL_eqv : ∀ {l : List It} {s s' s1 : St}, runL C call ops nx l s = some s1 → Eqv s s' → ∃ s1', runL C call ops nx l s' = some s1' ∧ Eqv s1 s1'
  | [], s, s', s1, h, e => by cases h; exact ⟨s', rfl, e⟩
  | t :: r, s, s', s1, h, e => by
    simp only [runL] at h ⊢
    split at h
    · rename_i s2 h2
      obtain ⟨s2', h3, e'⟩ := run1_eqv h2 e
      rw [h3]
      exact runL_eqv h e'
    · cases h
theorem Eqv.trans {a b c : St} (h : Eqv a b) (k : Eqv b c) : Eqv a c := ⟨fun t => (h.1 t).trans (k.1 t), h.2.trans k.2⟩

/-- What two operations must be to change places. -/
structure Pair (ops : Array Oper) (nx : Nat) (t u : It) : Prop where
  ap : t.o.apart ops u.o = true
  ne : t.i ≠ u.i
  ww : ∀ q, q ∈ t.fo.2 → q ∉ u.fo.2
  wr : ∀ q, q ∈ t.fo.2 → q ∉ u.fo.1
  rw : ∀ q, q ∈ t.fo.1 → q ∉ u.fo.2
  nu : ∀ q, q ∈ u.fo.1 ++ u.fo.2 → ¬ (nx + 16 * t.i ≤ q ∧ q < nx + 16 * t.i + 16)
  nt : ∀ q, q ∈ t.fo.1 ++ t.fo.2 → ¬ (nx + 16 * u.i ≤ q ∧ q < nx + 16 * u.i + 16)
theorem getD_put {tmps : Env} {dst : Option Nat} {v : AV} {t : Nat} (h : ∀ d, dst = some d → t ≠ d) : Env.get (putT dst v tmps) t = tmps.get t := by
  cases dst with
  | none => rfl
  | some d =>
    have hne : d ≠ t := fun e => h d rfl e.symm
    simp only [putT, get_put, if_neg hne]
theorem putT_comm {tmps : Env} {x y : Option Nat} {v u : AV} (h : ∀ d, x = some d → y ≠ some d) (t : Nat) : Env.get (putT y u (putT x v tmps)) t = Env.get (putT x v (putT y u tmps)) t := by
  cases x with
  | none => rfl
  | some d =>
    cases y with
    | none => rfl
    | some e =>
      have hne : d ≠ e := fun he => h d rfl (he ▸ rfl)
      simp only [putT, get_put]
      by_cases h1 : e = t
      · rw [if_pos h1, if_neg (fun h2 => hne (h2.trans h1.symm)), if_pos h1]
      · rw [if_neg h1, if_neg h1]
/-- t, then u: the same as u, then t. -/
theorem swap {t u : It} (hp : Pair ops nx t u) {s s1 s2 : St} (h1 : run1 C call ops nx t s = some s1) (h2 : run1 C call ops nx u s1 = some s2) :
    ∃ s3 s4, run1 C call ops nx u s = some s3 ∧ run1 C call ops nx t s3 = some s4 ∧ Eqv s2 s4 := by
  obtain ⟨a1, a2, a3⟩ := Oper.apart_spec hp.ap
  unfold run1 at h1
  split at h1
  · rename_i p hpt
    cases h1
    unfold run1 at h2
    dsimp only at h2
    have hu : guardO C call (roOf u.fo) ops u.o (nx + 16 * u.i) (putT t.o.dst p.1 s.1) (only (merge t.fo (nx + 16 * t.i) s.2 p.2) (u.fo.1 ++ u.fo.2)) = guardO C call (roOf u.fo) ops u.o (nx + 16 * u.i) s.1 (only s.2 (u.fo.1 ++ u.fo.2)) := by
      rw [only_congr (m := merge t.fo (nx + 16 * t.i) s.2 p.2) (m' := s.2) (u.fo.1 ++ u.fo.2) (fun q hq => by
        rw [get_merge, if_neg]
        rw [touched_iff]
        rintro (h | h)
        · rcases List.mem_append.1 hq with h' | h'
          · exact hp.wr q h h'
          · exact hp.ww q h h'
        · exact hp.nu q hq h)]
      exact guard_congr C call _ ops u.o _ _ (fun x hx => getD_put fun d hd e => a1 d hd (e ▸ hx))
    rw [hu] at h2
    split at h2
    · rename_i p' hpu
      cases h2
      refine ⟨(putT u.o.dst p'.1 s.1, merge u.fo (nx + 16 * u.i) s.2 p'.2), (putT t.o.dst p.1 (putT u.o.dst p'.1 s.1), merge t.fo (nx + 16 * t.i) (merge u.fo (nx + 16 * u.i) s.2 p'.2) p.2), by unfold run1; rw [hpu], ?_, ?_, ?_⟩
      · unfold run1
        dsimp only
        have ht : guardO C call (roOf t.fo) ops t.o (nx + 16 * t.i) (putT u.o.dst p'.1 s.1) (only (merge u.fo (nx + 16 * u.i) s.2 p'.2) (t.fo.1 ++ t.fo.2)) = guardO C call (roOf t.fo) ops t.o (nx + 16 * t.i) s.1 (only s.2 (t.fo.1 ++ t.fo.2)) := by
          rw [only_congr (m := merge u.fo (nx + 16 * u.i) s.2 p'.2) (m' := s.2) (t.fo.1 ++ t.fo.2) (fun q hq => by
            rw [get_merge, if_neg]
            rw [touched_iff]
            rintro (h | h)
            · rcases List.mem_append.1 hq with h' | h'
              · exact hp.rw q h' h
              · exact hp.ww q h' h
            · exact hp.nt q hq h)]
          exact guard_congr C call _ ops t.o _ _ (fun x hx => getD_put fun d hd e => a3 d hd (e ▸ hx))
        rw [ht, hpt]
      · exact putT_comm a2
      · funext q
        show (merge _ _ (merge _ _ _ _) _).get q = (merge _ _ (merge _ _ _ _) _).get q
        simp only [get_merge]
        by_cases k1 : touched t.fo.2 (nx + 16 * t.i) q = true
        · have k2 : ¬ touched u.fo.2 (nx + 16 * u.i) q = true := by
            rw [touched_iff] at k1 ⊢
            have := hp.ne
            rintro (h | h) <;> rcases k1 with h' | h'
            · exact hp.ww q h' h
            · exact hp.nu q (List.mem_append_right _ h) h'
            · exact hp.nt q (List.mem_append_right _ h') h
            · omega
          rw [if_neg k2, if_pos k1, if_pos k1]
        · rw [if_neg k1, if_neg k1]
    · cases h2
  · cases h1
/-- What leaves those before it alone may go first. -/
theorem front : ∀ (A : List It) (t : It) (B : List It) (s e : St), (∀ u ∈ A, Pair ops nx u t) → runL C call ops nx (A ++ t :: B) s = some e → ∃ s1 e', run1 C call ops nx t s = some s1 ∧ runL C call ops nx (A ++ B) s1 = some e' ∧ Eqv e e'
  | [], t, B, s, e, _, h => by
    simp only [List.nil_append, runL] at h
    split at h
    · rename_i s1 h1
      exact ⟨s1, e, h1, h, fun _ => rfl, rfl⟩
    · cases h
  | u :: A, t, B, s, e, hp, h => by
    simp only [List.cons_append, runL] at h
    split at h
    · rename_i s1 h1
      obtain ⟨s2, e', h2, h3, h4⟩ := front A t B s1 e (fun x hx => hp x (by simp [hx])) h
      obtain ⟨s3, s4, k1, k2, k3⟩ := swap (hp u (by simp)) h1 h2
      obtain ⟨e'', k4, k5⟩ := runL_eqv h3 k3
      refine ⟨s3, e'', k1, ?_, h4.trans k5⟩
      simp only [List.cons_append, runL, k2]
      exact k4
    · cases h
end
end Go.Proofs.YtkenjojkpdeooaaGreatDoor.AI
end
section
set_option linter.unusedVariables false
set_option linter.unusedSimpArgs false
set_option linter.constructorNameAsVariable false
namespace Go.Proofs.YtkenjojkpdeooaaGreatDoor.AI

/-! What stands before an operation. -/
def befOf (acc : List (List Nat)) (o : Oper) : List Nat := o.after.toList.foldl (fun s e => if Region.binds .any e then e.on :: ((acc.getD e.on []) ++ s) else s) []
theorem befOf_mem {acc : List (List Nat)} {o : Oper} {x : Nat} (h : x ∈ befOf acc o) : ∃ e ∈ o.after, Region.binds .any e = true ∧ (x = e.on ∨ x ∈ acc.getD e.on []) := by
  unfold befOf at h
  have key : ∀ (l : List Edge) (s : List Nat), x ∈ l.foldl (fun s e => if Region.binds .any e then e.on :: ((acc.getD e.on []) ++ s) else s) s → x ∈ s ∨ ∃ e ∈ l, Region.binds .any e = true ∧ (x = e.on ∨ x ∈ acc.getD e.on []) := by
    intro l
    induction l with
    | nil => intro s h; exact .inl h
    | cons e l ih =>
      intro s h
      rw [List.foldl_cons] at h
      rcases ih _ h with h | ⟨e', h1, h2⟩
      · by_cases hb : Region.binds .any e = true
        · rw [if_pos hb] at h
          rcases List.mem_cons.1 h with h | h
          · exact .inr ⟨e, by simp, hb, .inl h⟩
          · rcases List.mem_append.1 h with h | h
            · exact .inr ⟨e, by simp, hb, .inr h⟩
            · exact .inl h
        · rw [if_neg hb] at h
          exact .inl h
      · exact .inr ⟨e', by simp [h1], h2⟩
  rcases key _ _ h with h | ⟨e, h1, h2⟩
  · cases h
  · exact ⟨e, Array.mem_toList_iff.1 h1, h2⟩
theorem before_eq (ops : List Oper) : before ops = ops.foldl (fun acc o => acc ++ [befOf acc o]) [] := rfl
theorem foldl_bef : ∀ (l : List Oper) (acc : List (List Nat)), (∀ j, j < acc.length → (l.foldl (fun acc o => acc ++ [befOf acc o]) acc).getD j [] = acc.getD j []) ∧
    ∀ i o, l[i]? = some o → ∃ acc', acc'.length = acc.length + i ∧ (∀ j, j < acc'.length → (l.foldl (fun acc o => acc ++ [befOf acc o]) acc).getD j [] = acc'.getD j []) ∧ (l.foldl (fun acc o => acc ++ [befOf acc o]) acc).getD (acc.length + i) [] = befOf acc' o
  | [], acc => ⟨fun _ _ => rfl, fun i o h => by simp at h⟩
  | p :: l, acc => by
    obtain ⟨h1, h2⟩ := foldl_bef l (acc ++ [befOf acc p])
    have hlen : (acc ++ [befOf acc p]).length = acc.length + 1 := by simp
    have keep : ∀ j, j < acc.length → ((p :: l).foldl (fun acc o => acc ++ [befOf acc o]) acc).getD j [] = acc.getD j [] := fun j hj => by
      rw [List.foldl_cons, h1 j (by omega)]
      simp only [List.getD_eq_getElem?_getD, List.getElem?_append_left hj]
    refine ⟨keep, fun i o h => ?_⟩
    cases i with
    | zero =>
      simp at h
      subst h
      refine ⟨acc, rfl, keep, ?_⟩
      rw [List.foldl_cons, Nat.add_zero, h1 acc.length (by omega)]
      simp [List.getD_eq_getElem?_getD]
    | succ i =>
      obtain ⟨acc', k1, k2, k3⟩ := h2 i o (by simpa using h)
      refine ⟨acc', by omega, fun j hj => by rw [List.foldl_cons]; exact k2 j hj, ?_⟩
      rw [List.foldl_cons, ← k3, hlen]
      congr 1
      omega
theorem before_mem {ops : List Oper} {i x : Nat} {o : Oper} (hi : ops[i]? = some o) (h : x ∈ (before ops).getD i []) : ∃ e ∈ o.after, Region.binds .any e = true ∧ (x = e.on ∨ x ∈ (before ops).getD e.on []) := by
  rw [before_eq] at h ⊢
  obtain ⟨acc', k1, k2, k3⟩ := (foldl_bef ops []).2 i o hi
  rw [List.length_nil, Nat.zero_add] at k1 k3
  rw [k3] at h
  obtain ⟨e, h1, h2, h3⟩ := befOf_mem h
  refine ⟨e, h1, h2, h3.imp id fun h => ?_⟩
  by_cases he : e.on < acc'.length
  · rw [k2 _ he]; exact h
  · rw [List.getD_eq_getElem?_getD, List.getElem?_eq_none (by omega)] at h
    cases h

section
variable {P : Program} {C : Ctx} {call : FuncId → List AV → Mem → Option (AV × Mem)} {S0 : RS} {ops : Array Oper} {n : Nat}
theorem opsLogK_run (nx : Nat) {α : Type} {k : FS → List (List Nat × List Nat) → Option α} {r : α} : ∀ (l : List Oper) (i : Nat) (s : FS) (log : List (List Nat × List Nat)),
    opsLogK C call ops l (nx + 16 * i) s log k = some r → ∃ (its : List It) (e : St), its.map (·.o) = l ∧ its.map (·.i) = List.range' i l.length ∧ runL C call ops nx its (s.tmps, s.mem) = some e ∧ k ⟨e.1, e.2, s.nx⟩ (log ++ its.map (·.fo)) = some r
  | [], i, s, log, h => ⟨[], (s.tmps, s.mem), rfl, rfl, rfl, by simpa [opsLogK] using h⟩
  | o :: l, i, s, log, h => by
    simp only [opsLogK, guard_nat] at h
    generalize hfo : foot C o (eval s.tmps) s.mem = fo at h
    rw [Option.bind_eq_some_iff] at h
    obtain ⟨⟨x, m'⟩, h1, h2⟩ := h
    have e : nx + 16 * i + 16 = nx + 16 * (i + 1) := by omega
    rw [e] at h2
    obtain ⟨its, e, k1, k2, k3, k4⟩ := opsLogK_run nx l (i + 1) _ _ h2
    dsimp only at h1 k3 k4
    rw [put_tmps, put_mem] at k3
    rw [put_nx] at k4
    refine ⟨⟨i, o, fo⟩ :: its, e, by simp [k1], ?_, ?_, ?_⟩
    · rw [List.map_cons, k2, List.length_cons, List.range'_succ]
    · simp only [runL]
      unfold run1
      dsimp only
      rw [h1]
      exact k3
    · simpa using k4

def Dr (nx : Nat) (listed : Array Bool) (q : Nat) : Prop := q < nx ∨ ∃ j, listed.getD j false = true ∧ nx + 16 * j ≤ q ∧ q < nx + 16 * j + 16
/-- What is still to be done. -/
structure Todo (ops : Array Oper) (n nx : Nat) (T : List It) (listed : Array Bool) : Prop where
  size : listed.size = ops.size
  op : ∀ t ∈ T, ops[t.i]? = some t.o
  inc : T.Pairwise (fun t u => t.i < u.i)
  un : ∀ i, i < ops.size → (listed.getD i true = false ↔ ∃ t ∈ T, t.i = i)
  pair : ∀ t ∈ T, ∀ u ∈ T, t.i < u.i → t.i ∈ (before ops.toList).getD u.i [] ∨ Pair ops nx t u
  edge : ∀ t ∈ T, edgesOk t.i t.o = true
  dst : ∀ t ∈ T, dstOk n t.o = true
  clo : ∀ j, listed.getD j false = true → ∀ x ∈ (before ops.toList).getD j [], listed.getD x false = true
theorem listed_or {listed : Array Bool} {n i : Nat} (hs : listed.size = n) (hi : i < n) : listed.getD i true = false ∨ listed.getD i false = true := by
  have hl : i < listed.size := by omega
  simp only [Array.getD_eq_getD_getElem?, Array.getElem?_eq_getElem hl, Option.getD_some]
  cases listed[i]
  · exact .inl rfl
  · exact .inr rfl
theorem listed_not {listed : Array Bool} {i : Nat} (h : listed.getD i true = false) : listed.getD i false = false ∧ i < listed.size := by
  by_cases hl : i < listed.size
  · refine ⟨?_, hl⟩
    simp only [Array.getD_eq_getD_getElem?, Array.getElem?_eq_getElem hl, Option.getD_some] at h ⊢
    exact h
  · rw [Array.getD_eq_getD_getElem?, Array.getElem?_eq_none (by omega)] at h
    cases h
theorem edge_lt {i : Nat} {o : Oper} (h : edgesOk i o = true) {e : Edge} (he : e ∈ o.after) (hb : Region.binds .any e = true) : e.on < i := by
  unfold edgesOk at h
  have := List.all_eq_true.1 h e (Array.mem_toList_iff.2 he)
  rw [hb] at this
  have : Nat.blt e.on i = true := by simpa only [Bool.not_true, Bool.false_or] using this
  have : Nat.ble (e.on + 1) i = true := this
  have := Nat.le_of_ble_eq_true this
  omega
theorem anyK_sound (H : CtxOK P C) (hcall : CallOK P C.TY call) {Q : Exit → Act → World → Prop} (nx : Nat) : ∀ (fuel : Nat) (T : List It) (listed : Array Bool) (s e : St) (S : RS) (a : Act) (w : World),
    T.length = fuel → Todo ops n nx T listed → At C.TY S0 S n (Dr nx listed) s.1 s.2 a w → runL C call ops nx T s = some e →
      (∀ S' a' w', At C.TY S0 S' n (fun q => q < nx + 16 * ops.size) e.1 e.2 a' w' → Q .normal a' w') → wpAny P .any ops Q fuel listed a w
  | 0, T, listed, s, e, S, a, w, hT, I, A, h, hk => by
    obtain rfl : T = [] := List.length_eq_zero_iff.1 hT
    cases h
    refine ⟨?_, hk S a w ⟨A.size, A.w, A.M, A.mv, fun q hq => ?_, A.tmps, A.defers⟩⟩
    · cases hr : Region.ready .any ops listed with
      | nil => rfl
      | cons j js =>
        have hj : j ∈ Region.ready .any ops listed := by rw [hr]; simp
        obtain ⟨h1, o, h2, _⟩ := mem_ready.1 hj
        obtain ⟨t, ht, _⟩ := (I.un j (Array.getElem?_eq_some_iff.1 h2).1).1 h1
        cases ht
    · rcases A.dom q hq with h | ⟨j, h1, h2, h3⟩
      · omega
      · have : j < listed.size := by
          by_cases hl : j < listed.size
          · exact hl
          · rw [Array.getD_eq_getD_getElem?, Array.getElem?_eq_none (by omega)] at h1
            cases h1
        have := I.size
        omega
  | fuel + 1, T, listed, s, e, S, a, w, hT, I, A, h, hk => by
    obtain ⟨t0, T', rfl⟩ : ∃ t0 T', T = t0 :: T' := by
      cases T with
      | nil => simp at hT
      | cons t0 T' => exact ⟨t0, T', rfl⟩
    have isz : ∀ t ∈ t0 :: T', t.i < ops.size := fun t ht => (Array.getElem?_eq_some_iff.1 (I.op t ht)).1
    refine ⟨fun hr => ?_, fun i hi => ?_⟩
    · exfalso
      have : t0.i ∈ Region.ready .any ops listed := by
        rw [mem_ready]
        refine ⟨(I.un t0.i (isz t0 (by simp))).2 ⟨t0, by simp, rfl⟩, t0.o, I.op t0 (by simp), fun e he hb => ?_⟩
        have hlt := edge_lt (I.edge t0 (by simp)) he hb
        have hsz : e.on < ops.size := Nat.lt_trans hlt (isz t0 (by simp))
        rcases listed_or I.size hsz with h1 | h1
        · obtain ⟨u, hu, hui⟩ := (I.un _ hsz).1 h1
          rcases List.mem_cons.1 hu with rfl | hu
          · omega
          · have := (List.pairwise_cons.1 I.inc).1 u hu
            omega
        · exact h1
      rw [hr] at this
      cases this
    · obtain ⟨h1, o, h2, h3⟩ := mem_ready.1 hi
      have hisz := (Array.getElem?_eq_some_iff.1 h2).1
      obtain ⟨t, ht, rfl⟩ := (I.un i hisz).1 h1
      obtain rfl : o = t.o := by
        have := I.op t ht
        rw [h2] at this
        exact Option.some.inj this
      have hbef : ∀ x, x ∈ (before ops.toList).getD t.i [] → listed.getD x false = true := fun x hx => by
        obtain ⟨e, k1, k2, k3⟩ := before_mem (by rw [Array.getElem?_toList]; exact h2) hx
        rcases k3 with rfl | k3
        · exact h3 e k1 k2
        · exact I.clo _ (h3 e k1 k2) x k3
      obtain ⟨A', B', hAB⟩ := List.append_of_mem ht
      rw [hAB] at h I hT
      have hpair : ∀ u ∈ A', Pair ops nx u t := fun u hu => by
        have hlt : u.i < t.i := by
          have := I.inc
          rw [List.pairwise_append] at this
          exact this.2.2 u hu t (by simp)
        rcases I.pair u (by simp [hu]) t (by simp) hlt with h | h
        · have h4 := hbef _ h
          have h5 : listed.getD u.i true = false := (I.un _ (isz u (by rw [hAB]; simp [hu]))).2 ⟨u, by simp [hu], rfl⟩
          have := (listed_not h5).1
          rw [h4] at this
          cases this
        · exact h
      obtain ⟨s1, e', k1, k2, k3⟩ := front A' t B' s e hpair h
      unfold run1 at k1
      split at k1
      · rename_i p hp
        cases k1
        have G := A.mv.good
        obtain rfl := A.w
        refine partO_sound H hcall h2 (id := nx + 16 * t.i) (x := p.1) (mi := p.2) hp G A.M (fun q h4 h5 hd => ?_) A.tmps (fun v S' e1 e2 e3 e4 => ?_)
        · rcases A.dom q hd with h | ⟨j, h6, h7, h8⟩
          · omega
          · obtain rfl : j = t.i := by omega
            have := (listed_not h1).1
            rw [h6] at this
            cases this
        · have mono : ∀ j, listed.getD j false = true → (listed.setIfInBounds t.i true).getD j false = true := fun j hj => getD_set_true hj
          have self : (listed.setIfInBounds t.i true).getD t.i false = true := by
            have := (listed_not h1).2
            simp [Array.getD_eq_getD_getElem?, this]
          have notin : ∀ u ∈ A' ++ B', u.i ≠ t.i := fun u hu => by
            have hp := I.inc
            rw [List.pairwise_append] at hp
            rcases List.mem_append.1 hu with hu | hu
            · have := hp.2.2 u hu t (by simp); omega
            · have := (List.pairwise_cons.1 hp.2.1).1 u hu; omega
          have sub : ∀ u, u ∈ A' ++ B' → u ∈ A' ++ t :: B' := fun u hu => by
            rcases List.mem_append.1 hu with hu | hu
            · simp [hu]
            · simp [hu]
          refine anyK_sound H hcall nx fuel (A' ++ B') _ (putT t.o.dst p.1 s.1, merge t.fo (nx + 16 * t.i) s.2 p.2) e' S' _ _ ?_ ?_ ?_ k2 ?_
          · rw [List.length_append] at hT ⊢
            simp only [List.length_cons] at hT
            omega
          · refine ⟨by simp [I.size], fun u hu => I.op u (sub u hu), ?_, ?_, fun u hu v hv => I.pair u (sub u hu) v (sub v hv), fun u hu => I.edge u (sub u hu), fun u hu => I.dst u (sub u hu), ?_⟩
            · have hp := I.inc
              rw [List.pairwise_append] at hp ⊢
              exact ⟨hp.1, (List.pairwise_cons.1 hp.2.1).2, fun u hu v hv => hp.2.2 u hu v (by simp [hv])⟩
            · intro i hi
              by_cases e : t.i = i
              · subst e
                constructor
                · intro h
                  have := (listed_not h).1
                  rw [self] at this
                  cases this
                · rintro ⟨u, hu, e⟩
                  exact absurd e (notin u hu)
              · rw [getD_set_ne true e, I.un i hi]
                constructor
                · rintro ⟨u, hu, rfl⟩
                  rcases List.mem_append.1 hu with hu | hu
                  · exact ⟨u, by simp [hu], rfl⟩
                  · rcases List.mem_cons.1 hu with rfl | hu
                    · exact absurd rfl e
                    · exact ⟨u, by simp [hu], rfl⟩
                · rintro ⟨u, hu, rfl⟩
                  exact ⟨u, sub u hu, rfl⟩
            · intro j hj x hx
              by_cases e : t.i = j
              · subst e
                exact mono _ (hbef x hx)
              · rw [getD_set_ne false e] at hj
                exact mono _ (I.clo j hj x hx)
          · refine ⟨by rw [put_size]; exact A.size, rfl, e1, A.mv.trans e2, fun q hq => ?_, put_ER (ER_ext e2.ext A.tmps) e4 (by rw [A.size]; exact I.dst t (by simp)), by rw [put_defers]; exact A.defers⟩
            rcases e3 q hq with h | h
            · rcases A.dom q h with h | ⟨j, h6, h7⟩
              · exact .inl h
              · exact .inr ⟨j, mono j h6, h7⟩
            · exact .inr ⟨t.i, self, h⟩
          · intro S'' a' w' A''
            refine hk S'' a' w' ⟨A''.size, A''.w, ?_, A''.mv, A''.dom, fun x => ?_, A''.defers⟩
            · rw [A''.M, k3.2]
            · rw [k3.1]; exact A''.tmps x
      · cases k1

/-- The number of draws is nothing that values look at. -/
theorem At_drawn {D : Nat → Prop} {tmps : Env} {mem : Mem} {a : Act} {w : World} {S : RS} (A : At C.TY S0 S n D tmps mem a w) (d : Nat) : ∃ S', At C.TY S0 S' n D tmps mem a { w with drawn := d } := by
  have G := A.mv.good
  have E : Ext C.TY S ({ S with w := { w with drawn := d } } : RS) := ⟨fun _ h => h, fun b _ => by rw [← A.w], fun _ h => h, fun _ _ => rfl⟩
  refine ⟨{ S with w := { w with drawn := d } }, A.size, rfl, A.M, A.mv.trans ?_, A.dom, ER_ext E A.tmps, A.defers⟩
  obtain rfl := A.w
  exact mv_gen G _ (fun _ => False) (fun _ => False) ⟨rfl, rfl, rfl, Nat.le_refl _, fun _ _ _ => rfl⟩ (fun _ h => h.elim) (fun _ h => h) (fun _ h => .inl h) G.okb (fun _ h => h) (fun _ _ => rfl)
    (fun q y _ h => ⟨h, rfl, fun _ h => h⟩) (fun _ _ h => h.elim) (fun _ _ h => h.elim) G.inj G.sep
theorem has_iff {l : List Nat} {x : Nat} : has l x = true ↔ x ∈ l := any_mem
theorem busy_mem : ∀ (log : List (List Nat × List Nat)) (i0 j : Nat) (fo : List Nat × List Nat), log[j]? = some fo → fo ≠ ([], []) → (i0 + j, fo) ∈ busy i0 log
  | [], i0, j, fo, h, _ => by simp at h
  | x :: r, i0, 0, fo, h, hne => by
    simp at h
    subst h
    obtain ⟨a, b⟩ := x
    cases a <;> cases b <;> first | exact absurd rfl hne | simp [busy]
  | x :: r, i0, j + 1, fo, h, hne => by
    have ih := busy_mem r (i0 + 1) j fo (by simpa using h) hne
    have e : i0 + 1 + j = i0 + (j + 1) := by omega
    rw [e] at ih
    obtain ⟨a, b⟩ := x
    cases a <;> cases b <;> first | exact ih | exact List.mem_cons_of_mem _ ih
theorem clash_nil1 (fo : List Nat × List Nat) : clash ([], []) fo = false := by simp [clash, meets]
theorem clash_nil2 (fo : List Nat × List Nat) : clash fo ([], []) = false := by simp [clash, meets]
theorem dynPairs_spec {b : List (List Nat)} : ∀ (log : List (List Nat × List Nat)) (i0 : Nat), dynPairs b (busy i0 log) = true → ∀ (j i : Nat) (fy fx : List Nat × List Nat), j < i → log[j]? = some fy → log[i]? = some fx → clash fy fx = false ∨ i0 + j ∈ b.getD (i0 + i) []
  | [], i0, h, j, i, fy, fx, hlt, h1, h2 => by simp at h1
  | x :: r, i0, h, j, i, fy, fx, hlt, h1, h2 => by
    cases i with
    | zero => omega
    | succ i =>
      have rest : dynPairs b (busy (i0 + 1) r) = true := by
        obtain ⟨u, v⟩ := x
        cases u <;> cases v <;> simp only [busy, dynPairs, Bool.and_eq_true] at h <;> first | exact h | exact h.2
      cases j with
      | zero =>
        simp at h1
        subst h1
        by_cases e1 : x = ([], [])
        · exact .inl (by rw [e1]; exact clash_nil1 fx)
        by_cases e2 : fx = ([], [])
        · exact .inl (by rw [e2]; exact clash_nil2 x)
        have hm := busy_mem r (i0 + 1) i fx (by simpa using h2) e2
        have : ((busy (i0 + 1) r).all fun p => !clash x p.2 || has (b.getD p.1 []) i0) = true := by
          obtain ⟨u, v⟩ := x
          cases u <;> cases v <;> simp only [busy, dynPairs, Bool.and_eq_true] at h <;> first | exact absurd rfl e1 | exact h.1
        have := List.all_eq_true.1 this _ hm
        simp only [Bool.or_eq_true, Bool.not_eq_true', has_iff] at this
        have e : i0 + 1 + i = i0 + (i + 1) := by omega
        rw [e] at this
        exact this
      | succ j =>
        have := dynPairs_spec r (i0 + 1) rest j i fy fx (by omega) (by simpa using h1) (by simpa using h2)
        have e : i0 + 1 + i = i0 + (i + 1) := by omega
        have e' : i0 + 1 + j = i0 + (j + 1) := by omega
        rw [e, e'] at this
        exact this
theorem okLog_spec {nx : Nat} {its : List It} (hn : ops.toList.all (dstOk n) = true) (ho : its.map (·.o) = ops.toList) (hi : its.map (·.i) = List.range' 0 ops.toList.length) (hs : staticOk ops = true) (h : okLog ops nx (its.map (·.fo)) = true) : Todo ops n nx its (Array.replicate ops.size false) := by
  have hlen : its.length = ops.size := by
    have := congrArg List.length ho
    simpa using this
  have hget : ∀ (j : Nat) (t : It), its[j]? = some t → t.i = j ∧ ops[j]? = some t.o := fun j t hj => by
    constructor
    · have h1 : (its.map (·.i))[j]? = some t.i := by rw [List.getElem?_map, hj]; rfl
      rw [hi] at h1
      have hlt := lt_of_get hj
      rw [List.getElem?_range' (by rw [Array.length_toList]; omega)] at h1
      have := Option.some.inj h1
      omega
    · have h1 : (its.map (·.o))[j]? = some t.o := by rw [List.getElem?_map, hj]; rfl
      rw [ho, Array.getElem?_toList] at h1
      exact h1
  have hmem : ∀ t ∈ its, its[t.i]? = some t ∧ t.i < ops.size := fun t ht => by
    obtain ⟨j, hj⟩ := List.mem_iff_getElem?.1 ht
    have := (hget j t hj).1
    rw [this]
    have := lt_of_get hj
    exact ⟨hj, by omega⟩
  have hfo : ∀ t ∈ its, (its.map (fun t : It => t.fo))[t.i]? = some t.fo := fun t ht => by rw [List.getElem?_map, (hmem t ht).1]; rfl
  unfold staticOk at hs
  unfold okLog at h
  simp only [Bool.and_eq_true] at h
  have edge : ∀ i o, ops[i]? = some o → edgesOk i o = true := fun i o hio => by
    have h3 := List.all_eq_true.1 hs i (List.mem_range.2 (Array.getElem?_eq_some_iff.1 hio).1)
    rw [hio] at h3
    simp only [Bool.and_eq_true] at h3
    exact h3.1
  have blt : ∀ i, i < ops.size → ∀ x ∈ (before ops.toList).getD i [], x < i := fun i => by
    induction i using Nat.strongRecOn with
    | _ i ih =>
      intro hi' x hx
      obtain ⟨o, hio⟩ : ∃ o, ops[i]? = some o := ⟨_, Array.getElem?_eq_getElem hi'⟩
      obtain ⟨e, k1, k2, k3⟩ := before_mem (by rw [Array.getElem?_toList]; exact hio) hx
      have hlt := edge_lt (edge i o hio) k1 k2
      rcases k3 with rfl | k3
      · exact hlt
      · exact Nat.lt_trans (ih _ hlt (by omega) x k3) hlt
  have stat : ∀ t ∈ its, ∀ u ∈ its, u.i < t.i → u.i ∈ (before ops.toList).getD t.i [] ∨ u.o.apart ops t.o = true := fun t ht u hu hlt => by
    obtain ⟨h1, h2⟩ := hmem t ht
    obtain ⟨h4, h5⟩ := hmem u hu
    have h3 := List.all_eq_true.1 hs t.i (List.mem_range.2 h2)
    rw [(hget _ t h1).2] at h3
    simp only [Bool.and_eq_true] at h3
    have h6 := List.all_eq_true.1 h3.2 u.i (List.mem_range.2 hlt)
    rw [(hget _ u h4).2, Bool.or_eq_true, has_iff] at h6
    exact h6
  have ids : ∀ t ∈ its, ∀ q ∈ t.fo.1 ++ t.fo.2, q < nx ∨ (q - nx) / 16 = t.i ∨ (q - nx) / 16 ∈ (before ops.toList).getD t.i [] := fun t ht q hq => by
    have hne : t.fo ≠ ([], []) := fun e => by rw [e] at hq; cases hq
    have hb := busy_mem _ 0 t.i t.fo (hfo t ht) hne
    rw [Nat.zero_add] at hb
    have h1 := List.all_eq_true.1 h.2 _ hb
    simp only [Bool.and_eq_true] at h1
    have h2 : idOk nx ((before ops.toList).getD t.i []) t.i q = true := by
      rcases List.mem_append.1 hq with hq | hq
      · exact List.all_eq_true.1 h1.1 q hq
      · exact List.all_eq_true.1 h1.2 q hq
    unfold idOk at h2
    simp only [Bool.or_eq_true] at h2
    rcases h2 with h2 | h2 | h2
    · exact .inl (blt_iff.1 h2)
    · exact .inr (.inl (nat_beq h2))
    · exact .inr (.inr (has_iff.1 h2))
  refine ⟨by simp, fun t ht => (hget _ t (hmem t ht).1).2, ?_, ?_, ?_, fun t ht => edge _ _ (hget _ t (hmem t ht).1).2, fun t ht => ?_, ?_⟩
  · rw [List.pairwise_iff_getElem]
    intro i j h1 h2 hlt
    have e1 := (hget i _ (List.getElem?_eq_getElem h1)).1
    have e2 := (hget j _ (List.getElem?_eq_getElem h2)).1
    omega
  · intro i hi'
    constructor
    · intro _
      have hl : i < its.length := by omega
      exact ⟨its[i], List.getElem_mem hl, (hget i _ (List.getElem?_eq_getElem hl)).1⟩
    · intro _
      simp [Array.getD_eq_getD_getElem?, hi']
  · intro t ht u hu hlt
    by_cases hbef : t.i ∈ (before ops.toList).getD u.i []
    · exact .inl hbef
    · right
      have hc : clash t.fo u.fo = false := by
        have := dynPairs_spec _ 0 h.1 t.i u.i t.fo u.fo hlt (hfo t ht) (hfo u hu)
        rw [Nat.zero_add, Nat.zero_add] at this
        exact this.resolve_right hbef
      unfold clash at hc
      simp only [Bool.or_eq_false_iff] at hc
      obtain ⟨⟨c1, c2⟩, c3⟩ := hc
      refine ⟨(stat u hu t ht hlt).resolve_left hbef, by omega, meets_false c1, meets_false c2, meets_false c3, fun q hq hr => ?_, fun q hq hr => ?_⟩
      · rcases ids u hu q hq with h1 | h1 | h1
        · omega
        · omega
        · have : (q - nx) / 16 = t.i := by omega
          rw [this] at h1
          exact hbef h1
      · rcases ids t ht q hq with h1 | h1 | h1
        · omega
        · omega
        · have : (q - nx) / 16 = u.i := by omega
          rw [this] at h1
          have := blt t.i (hmem t ht).2 _ h1
          omega
  · refine List.all_eq_true.1 hn t.o ?_
    rw [← ho]
    exact List.mem_map.2 ⟨t, ht, rfl⟩
  · intro j hj
    exfalso
    by_cases hl : j < ops.size
    · simp [Array.getD_eq_getD_getElem?, hl] at hj
    · rw [Array.getD_eq_getD_getElem?, Array.getElem?_eq_none (by simpa using hl)] at hj
      cases hj
/-- What is looked at once for all, of a region. -/
def regionOk (n : Nat) (ops : Array Oper) (draw : Bool) : Bool := ops.toList.all (dstOk n) && (match draw with | true => staticOk ops | false => true)
/-- A region. -/
theorem regionK_sound (H : CtxOK P C) (hcall : CallOK P C.TY call) {rid : Nat} {draw : Bool} (hreg : regionOk n ops draw = true) {Q : Exit → Act → World → Prop} {α : Type} {k : FS → Option α} {r : α} {s : FS} (h : regionK C call ops draw s k = some r)
    {S : RS} {a : Act} {w : World} (A : At C.TY S0 S n (fun q => q < s.nx) s.tmps s.mem a w)
    (hk : ∀ s' S' a' w', k s' = some r → At C.TY S0 S' n (fun q => q < s'.nx) s'.tmps s'.mem a' w' → Q .normal a' w') : (Code.region rid ops draw).wp P Q a w := by
  unfold regionK at h
  unfold regionOk at hreg
  rw [Bool.and_eq_true] at hreg
  cases draw with
  | false =>
    dsimp only at h
    refine wp_region ?_
    rw [List.range_eq_range', ← Array.length_toList]
    refine opsK_sound H hcall s.nx ops.toList 0 s S a w rfl hreg.1 (by simpa using h) (by simpa using A) (fun s' S' a' w' h1 A' => hk _ S' a' w' h1 ?_)
    simpa using A'
  | true =>
    dsimp only at h
    refine wp_region_any H.mixed ?_
    obtain ⟨its, e, k1, k2, k3, k4⟩ := opsLogK_run s.nx ops.toList 0 s [] (by simpa using h)
    split at k4
    · rename_i hlog
      rw [List.nil_append] at hlog
      obtain ⟨S1, A1⟩ := At_drawn A (w.drawn + 1)
      refine anyK_sound (S0 := S0) H hcall s.nx ops.size its _ (s.tmps, s.mem) e S1 a _ ?_ (okLog_spec hreg.1 k1 k2 hreg.2 hlog) ?_ k3 ?_
      · have := congrArg List.length k1
        simpa using this
      · exact ⟨A1.size, A1.w, A1.M, A1.mv, fun q hq => .inl (A1.dom q hq), A1.tmps, A1.defers⟩
      · intro S' a' w' A'
        exact hk _ S' a' w' k4 A'
    · cases k4
end
end Go.Proofs.YtkenjojkpdeooaaGreatDoor.AI
end
section
set_option linter.unusedVariables false
set_option linter.unusedSimpArgs false
set_option linter.constructorNameAsVariable false
namespace Go.Proofs.YtkenjojkpdeooaaGreatDoor.AI

theorem names_lt {base : Nat} {ids : List Nat} {o p : Nat} (ho : o < base) (h : names base ids o = some p) : p = o := by
  unfold names at h
  rw [if_pos (blt_iff.2 ho)] at h
  exact (Option.some.inj (ite_some h).2).symm
theorem names_ge {base : Nat} {ids : List Nat} {o p : Nat} (ho : ¬ o < base) (h : names base ids o = some p) : ∃ j, p = base + j ∧ (ids.filter fun a => !Nat.blt a base)[j]? = some o := by
  unfold names at h
  rw [if_neg (fun e => ho (blt_iff.1 e))] at h
  exact idx_get _ _ _ _ h
section
variable {TY : Ty} {S0 S : RS}
/-- New names. -/
theorem rename_sound {base : Nat} (hb : ∀ q, S0.dom q → q < base) (m : Mv TY S0 S) {mem : Mem} (hM : S.M = mem.get) (ids : List Nat) :
    ∃ S', S'.w = S.w ∧ S'.M = (pick_ (names base ids) mem ids).get ∧ Mv TY S0 S' ∧ Ren TY (names base ids) S S' ∧ ∀ q, S'.dom q → q < base + ids.length := by
  have G := m.good
  generalize hfl : (ids.filter fun a => !Nat.blt a base) = fl
  have hfll : fl.length ≤ ids.length := by rw [← hfl]; exact List.length_filter_le _ _
  let S' : RS := ⟨S.w, S.ok, (pick_ (names base ids) mem ids).get, fun p => if p < base then S.μ p else S.μ (fl.getD (p - base) 0), fun p => if p < base then S.dom p else p - base < fl.length ∧ S.dom (fl.getD (p - base) 0)⟩
  have to : ∀ o p, names base ids o = some p → S'.μ p = S.μ o ∧ (S.dom o → S'.dom p) ∧ (p < base → p = o) := by
    intro o p h
    by_cases ho : o < base
    · obtain rfl := names_lt ho h
      refine ⟨?_, fun hd => ?_, fun _ => rfl⟩
      · show (if p < base then _ else _) = _; rw [if_pos ho]
      · show (if p < base then _ else _); rw [if_pos ho]; exact hd
    · obtain ⟨j, rfl, hj⟩ := names_ge ho h
      rw [hfl] at hj
      have e : base + j - base = j := by omega
      refine ⟨?_, fun hd => ?_, fun h => by omega⟩
      · show (if base + j < base then _ else _) = _; rw [if_neg (by omega), e, getD_of hj]
      · show (if base + j < base then _ else _); rw [if_neg (by omega), e, getD_of hj]; exact ⟨lt_of_get hj, hd⟩
  have inj : ∀ o p p', names base ids o = some p → names base ids o = some p' → p = p' := fun o p p' h h' => by rw [h] at h'; exact Option.some.inj h'
  have R : Ren TY (names base ids) S S' := ⟨rfl, fun _ h => h, fun o p h hd => ⟨(to o p h).2.1 hd, (to o p h).1⟩⟩
  have hget : ∀ p y, S'.M p = some y → ∃ o x, names base ids o = some p ∧ S.M o = some x ∧ y = x.ren (names base ids) ∧ S'.μ p = S.μ o := fun p y h => by
    obtain ⟨o, x, h1, h2, h3, h4⟩ := pick_get _ _ _ _ _ h
    exact ⟨o, x, h2, by rw [hM]; exact h3, h4, (to o p h2).1⟩
  refine ⟨S', rfl, rfl, ⟨⟨m.ext.ok, m.ext.w, fun q hq => ?_, fun q hq => ?_⟩, ⟨?_, ?_, ?_, ?_, G.okb⟩, m.fr, m.ok', ?_, ?_⟩, R, ?_⟩
  · show (if q < base then _ else _); rw [if_pos (hb q hq)]; exact m.ext.dom q hq
  · show (if q < base then _ else _) = _; rw [if_pos (hb q hq)]; exact m.ext.μ q hq
  · intro p y h
    obtain ⟨o, x, h1, h2, h3, h4⟩ := hget p y h
    exact (to o p h1).2.1 (G.dom o x h2)
  · intro p y h
    obtain ⟨o, x, h1, h2, rfl, h4⟩ := hget p y h
    rw [h4]
    exact OR_ren R (G.obj o x h2)
  · intro p p' y y' h h' n1 n2 hb
    obtain ⟨o, x, h1, h2, h3, h4⟩ := hget p y h
    obtain ⟨o', x', h1', h2', h3', h4'⟩ := hget p' y' h'
    rw [h4] at n1 hb
    rw [h4'] at n2 hb
    obtain rfl := G.inj o o' x x' h2 h2' n1 n2 hb
    exact inj o p p' h1 h1'
  · intro p y h n1
    obtain ⟨o, x, h1, h2, h3, h4⟩ := hget p y h
    rw [h4] at n1 ⊢
    exact G.sep o x h2 n1
  · rintro b ⟨p, y, h, n1, rfl⟩
    obtain ⟨o, x, h1, h2, h3, h4⟩ := hget p y h
    rw [h4] at n1 ⊢
    exact m.blk' _ ⟨o, x, h2, n1, rfl⟩
  · intro q y hq h
    obtain ⟨o, x, h1, h2, h3, h4⟩ := hget q y h
    obtain rfl := (to o q h1).2.2 (hb q hq)
    exact m.old q x hq h2
  · intro q hq
    have hq : (if q < base then S.dom q else q - base < fl.length ∧ S.dom (fl.getD (q - base) 0)) := hq
    by_cases h : q < base
    · omega
    · rw [if_neg h] at hq
      omega

theorem get_map (f : AV → AV) (hf : f .undef = .undef) : ∀ (e : Env) (t : Nat), Env.get (e.map fun p => (p.1, f p.2)) t = f (e.get t)
  | [], t => hf.symm
  | (a, x) :: r, t => by
    rw [List.map_cons, get_put, get_put, get_map f hf r t]
    by_cases h : a = t
    · rw [if_pos h, if_pos h]
    · rw [if_neg h, if_neg h]
theorem ren_ER {f : Nat → Option Nat} {S S' : RS} (R : Ren TY f S S') {e : Env} {a : Act} (h : ER TY S e a) : ER TY S' (renE f e) a := fun t => by
  unfold renE
  rw [get_map (AV.ren f) rfl]
  exact VR_ren R _ _ (h t)
theorem keep_get (e : Env) : ∀ (keep : List Nat) (t : Nat), Env.get (keepOnly keep e) t = if t ∈ keep then e.get t else .undef
  | [], t => by simp [keepOnly, Env.get]
  | k :: r, t => by
    have ih := keep_get e r t
    unfold keepOnly at ih ⊢
    rw [List.map_cons, get_put, ih]
    by_cases h : k = t
    · subst h; simp
    · have h' : t ≠ k := fun e => h e.symm
      rw [if_neg h]
      simp [h']
theorem keep_ER {keep : List Nat} {S : RS} {e : Env} {a : Act} (h : ER TY S e a) : ER TY S (keepOnly keep e) a := fun t => by
  rw [keep_get]
  split
  · exact h t
  · trivial
theorem nil_row {TY : Ty} {S : RS} {E : TypeId} : OR TY S ⟨0, 0, true, (TY E).cks.length, 0⟩ (.prow E 0 (fun _ _ => .bad)) := ⟨rfl, rfl, Nat.le_refl _, Nat.zero_le _, by simp⟩
theorem ownNils_sound {S0 : RS} {n : Nat} : ∀ (own : List (Nat × Nat × TypeId)) (s : FS) (S : RS) (a : Act) (w : World), At TY S0 S n (fun q => q < s.nx) s.tmps s.mem a w →
    ∃ S', At TY S0 S' n (fun q => q < (ownNils own s).nx) (ownNils own s).tmps (ownNils own s).mem a w
  | [], s, S, a, w, A => ⟨S, A⟩
  | (t, c, E) :: r, s, S, a, w, A => by
    unfold ownNils
    have G := A.mv.good
    have hnx : ¬ S.dom s.nx := fun h => Nat.lt_irrefl _ (A.dom _ h)
    obtain ⟨S1, e1, e2, e3, e4, e5, M, Nn⟩ := mv_new (id := s.nx) G A.M hnx (.prow E 0 (fun _ _ => .bad)) S.w ⟨0, 0, true, (TY E).cks.length, 0⟩ (fun h => by cases h) (Fr.refl _ _) (fun S' E' hw hok => nil_row)
    have hrow : VR TY S1 (.row s.nx) (.slice none 0 0) := ⟨e4, by rw [e3]; rfl⟩
    have hdom : ∀ q, S1.dom q → q < s.nx + 1 := fun q hq => by
      rcases Nn q hq with h | h
      · have := A.dom q h; omega
      · omega
    cases c with
    | zero =>
      dsimp only
      split
      · rename_i hn
        refine ownNils_sound r _ S1 a w ⟨A.size, e1.trans A.w, e2, A.mv.trans M, hdom, fun t' => ?_, A.defers⟩
        have h1 := ER_ext M.ext A.tmps
        rw [get_put]
        by_cases e' : t = t'
        · subst e'
          rw [if_pos rfl]
          have ev := h1 t
          rw [hn] at ev
          have e : a.tmps.getD t undef = .slice none 0 0 := ev
          rw [e]
          exact hrow
        · rw [if_neg e']
          exact h1 t'
      · exact ownNils_sound r s S a w A
    | succ c =>
      dsimp only
      split
      · rename_i o hn
        split
        · rename_i cs hg
          split
          · rename_i hc
            have hSo : S.M o = some (.box cs) := by rw [A.M]; exact hg
            have hS1 : S1.M o = some (.box cs) := by
              rw [e2, get_add, if_neg (fun e => by subst e; exact hnx (G.dom _ _ hSo))]
              exact hg
            obtain ⟨n1, n2, n3, D, T, hD, hcs⟩ := M.good.obj o _ hS1
            have hcell : cs[c]? = some .nils := by
              rw [List.getD_eq_getElem?_getD] at hc
              cases h : cs[c]? with
              | none => rw [h] at hc; cases hc
              | some v => rw [h] at hc; exact congrArg some hc
            obtain ⟨u, hu, hr⟩ := VRs_get hcs c _ hcell
            have hr : u = .slice none 0 0 := hr
            subst hr
            have same : D.toList.set c (.slice none 0 0) = D.toList := by
              apply List.ext_getElem?
              intro i
              rw [List.getElem?_set]
              by_cases e' : c = i
              · subst e'
                rw [if_pos rfl, if_pos (lt_of_get hu), hu]
              · rw [if_neg e']
            obtain ⟨S2, k1, k2, k3, k4, k5, k6⟩ := mv_write (x' := .box (cs.set c (.row s.nx))) M.good e2 hS1 n1 S1.w (Fr.refl _ _) (fun S' E' hw hok => by
              refine ⟨n1, n2, n3, D, T, by rw [hw]; exact hD, ?_⟩
              have h2 := VRs_set c (VRs_ext E' _ _ hcs) (VR_ext E' _ _ hrow)
              rw [same] at h2
              exact h2)
            refine ownNils_sound r _ S2 a w ⟨A.size, k1.trans (e1.trans A.w), ?_, (A.mv.trans M).trans k6, fun q hq => hdom q (by rw [k5] at hq; exact hq), ER_ext (M.ext.trans k6.ext) A.tmps, A.defers⟩
            rw [k2]
            funext q
            have hne : s.nx ≠ o := fun e => by subst e; exact hnx (G.dom _ _ hSo)
            rw [get_set _ _ _ _ (by rw [get_add, if_neg hne, hg]; rfl), get_add, get_add, get_set _ _ _ _ (by rw [hg]; rfl)]
            by_cases h1 : o = q
            · subst h1
              rw [if_pos rfl, if_neg hne, if_pos rfl]
            · rw [if_neg h1, if_neg h1]
          · exact ownNils_sound r s S a w A
        · exact ownNils_sound r s S a w A
      · exact ownNils_sound r s S a w A
theorem norm_sound {S0 : RS} {n base : Nat} (hb : ∀ q, S0.dom q → q < base) (h : Hint) {s : FS} {S : RS} {a : Act} {w : World} (A : At TY S0 S n (fun q => q < s.nx) s.tmps s.mem a w) :
    ∃ S', At TY S0 S' n (fun q => q < (norm h base s).nx) (norm h base s).tmps (norm h base s).mem a w := by
  obtain ⟨S1, A1⟩ := ownNils_sound h.own s S a w A
  unfold norm
  dsimp only
  obtain ⟨S2, k1, k2, k3, k4, k5⟩ := rename_sound hb A1.mv A1.M (reach (ownNils h.own s).mem reachFuel (List.range base ++ refsL ((keepOnly h.keep (ownNils h.own s).tmps).map (·.2))) [])
  exact ⟨S2, A1.size, k1.trans A1.w, k2, k3, k5, ren_ER k4 (keep_ER A1.tmps), A1.defers⟩
end
end Go.Proofs.YtkenjojkpdeooaaGreatDoor.AI
end
section
set_option linter.unusedVariables false
set_option linter.unusedSimpArgs false
set_option linter.constructorNameAsVariable false
namespace Go.Proofs.YtkenjojkpdeooaaGreatDoor.AI

/-- What is looked at once for all, of code. -/
def codeOk (n : Nat) : Code → Bool
  | .region _ ops draw => regionOk n ops draw
  | .seq a b => codeOk n a && codeOk n b
  | .cond _ a b => codeOk n a && codeOk n b
  | .block _ b => codeOk n b
  | .loop b => codeOk n b
  | _ => true
def exOf : Ex → Exit
  | .normal => .normal | .exit id => .exit id | .goto l => .goto l | .ret => .ret
section
variable {P : Program} {C : Ctx} {call : FuncId → List AV → Mem → Option (AV × Mem)} {S0 : RS} {n : Nat} {L : Loops}
/-- What follows is met. -/
def Kont (TY : Ty) (S0 : RS) (n : Nat) {α : Type} (k : Ex → FS → Option α) (r : α) (Q : Exit → Act → World → Prop) : Prop :=
  ∀ e s S a w, k e s = some r → At TY S0 S n (fun q => q < s.nx) s.tmps s.mem a w → Q (exOf e) a w
/-- The loops of some code. -/
def loopsOf : Code → List Code
  | .seq a b => loopsOf a ++ loopsOf b
  | .cond _ a b => loopsOf a ++ loopsOf b
  | .block _ b => loopsOf b
  | .loop b => b :: loopsOf b
  | _ => []
/-- A loop of which it is told what the whole of it does. -/
def SumOK (P : Program) (C : Ctx) (L : Loops) (S0 : RS) (n base : Nat) (f : FuncId) {α : Type} (r : α) (b : Code) : Prop :=
  ∀ F, L f (firstRegion b) = some F → ∀ s e s2 k S a w Q, F.2 base s = some (e, s2) → k e s2 = some r → At C.TY S0 S n (fun q => q < s.nx) s.tmps s.mem a w → Kont C.TY S0 n k r Q → (Code.loop b).wp P Q a w
def LoopOK (P : Program) (C : Ctx) (L : Loops) (S0 : RS) (n base : Nat) (f : FuncId) {α : Type} (r : α) (loopR : Code → FS → (Ex → FS → Option α) → Option α) : Prop :=
  ∀ b s k S a w Q, codeOk n b = true → (∀ b' ∈ loopsOf b, SumOK P C L S0 n base f r b') → loopR b s k = some r → At C.TY S0 S n (fun q => q < s.nx) s.tmps s.mem a w → Kont C.TY S0 n k r Q → (Code.loop b).wp P Q a w
theorem execK_sound (H : CtxOK P C) (hcall : CallOK P C.TY call) {f : FuncId} {base : Nat} (hb : ∀ q, S0.dom q → q < base) {α : Type} {r : α} {loopR : Code → FS → (Ex → FS → Option α) → Option α} (hl : LoopOK P C L S0 n base f r loopR) :
    ∀ (c : Code) (hsum : ∀ b ∈ loopsOf c, SumOK P C L S0 n base f r b) (s : FS) (k : Ex → FS → Option α) (S : RS) (a : Act) (w : World) (Q : Exit → Act → World → Prop), codeOk n c = true → execK C call L f base loopR c s k = some r → At C.TY S0 S n (fun q => q < s.nx) s.tmps s.mem a w → Kont C.TY S0 n k r Q → c.wp P Q a w := by
  intro c
  induction c with
  | skip => intro hsum s k S a w Q hc h A K; exact wp_skip (K .normal s S a w h A)
  | label l => intro hsum s k S a w Q hc h A K; exact wp_label (K .normal s S a w h A)
  | region id ops draw =>
    intro hsum s k S a w Q hc h A K
    exact regionK_sound H hcall hc h A (fun s' S' a' w' h1 A' => K .normal s' S' a' w' h1 A')
  | seq x y ihx ihy =>
    intro hsum s k S a w Q hc h A K
    simp only [codeOk, Bool.and_eq_true] at hc
    refine wp_seq (ihx (fun b hb => hsum b (List.mem_append_left _ hb)) s _ S a w _ hc.1 h A (fun e s' S' a' w' h1 A' => ?_))
    cases e with
    | normal => exact ihy (fun b hb => hsum b (List.mem_append_right _ hb)) s' k S' a' w' Q hc.2 h1 A' K
    | exit id => exact K (.exit id) s' S' a' w' h1 A'
    | goto l => exact K (.goto l) s' S' a' w' h1 A'
    | ret => exact K .ret s' S' a' w' h1 A'
  | cond c x y ihx ihy =>
    intro hsum s k S a w Q hk h A K
    simp only [codeOk, Bool.and_eq_true] at hk
    simp only [execK] at h
    have ev := eval_VR (TY := C.TY) (S := S) A.tmps c
    cases hc : eval s.tmps c <;> rw [hc] at h ev <;> first | (cases h; done) | skip
    rename_i t
    have ev : a.eval c = .bool t := ev
    cases t
    · exact wp_cond_false ev (ihy (fun b hb => hsum b (List.mem_append_right _ hb)) s k S a w Q hk.2 h A K)
    · exact wp_cond_true ev (ihx (fun b hb => hsum b (List.mem_append_left _ hb)) s k S a w Q hk.1 h A K)
  | block id b ih =>
    intro hsum s k S a w Q hc h A K
    refine wp_block (ih hsum s _ S a w _ hc h A (fun e s' S' a' w' h1 A' => ?_))
    cases e with
    | normal => exact K .normal s' S' a' w' h1 A'
    | exit i =>
      dsimp only at h1
      show (if i = id then Q .normal a' w' else Q (.exit i) a' w')
      rw [beq_ite] at h1
      by_cases e : i = id
      · rw [if_pos e] at h1 ⊢
        exact K .normal s' S' a' w' h1 A'
      · rw [if_neg e] at h1 ⊢
        exact K (.exit i) s' S' a' w' h1 A'
    | goto l => exact K (.goto l) s' S' a' w' h1 A'
    | ret => exact K .ret s' S' a' w' h1 A'
  | loop b ih =>
    intro hsum s k S a w Q hc h A K
    simp only [execK] at h
    have hn : ∃ S', At C.TY S0 S' n (fun q => q < (match C.hint f (firstRegion b) with | some h => norm h base s | none => s).nx) (match C.hint f (firstRegion b) with | some h => norm h base s | none => s).tmps (match C.hint f (firstRegion b) with | some h => norm h base s | none => s).mem a w := by
      split
      · rename_i hh _
        exact norm_sound hb hh A
      · exact ⟨S, A⟩
    obtain ⟨S', A'⟩ := hn
    split at h
    · rename_i F hF
      split at h
      · rename_i e s2 hs2
        exact hsum b (by simp [loopsOf]) F hF _ e s2 k S' a w Q hs2 h A' K
      · cases h
    · exact hl b _ k S' a w Q hc (fun b' hb' => hsum b' (by simp [loopsOf, hb'])) h A' K
  | exit id => intro hsum s k S a w Q hc h A K; exact wp_exit (K (.exit id) s S a w h A)
  | ret => intro hsum s k S a w Q hc h A K; exact wp_ret (K .ret s S a w h A)
  | _ => intro hsum s k S a w Q hc h A K; simp [execK] at h
theorem rounds_sound (H : CtxOK P C) (hcall : CallOK P C.TY call) {f : FuncId} {base : Nat} (hb : ∀ q, S0.dom q → q < base) {α : Type} {r : α} :
    ∀ (m : Nat) (b : Code) (s : FS) (k : Ex → FS → Option α) (S : RS) (a : Act) (w : World) (Q : Exit → Act → World → Prop), codeOk n b = true → (∀ b' ∈ loopsOf b, SumOK P C L S0 n base f r b') → rounds C call L f base m b s k = some r → At C.TY S0 S n (fun q => q < s.nx) s.tmps s.mem a w → Kont C.TY S0 n k r Q → Code.rounds P b Q m a w
  | 0, b, s, k, S, a, w, Q, hc, hsum, h, A, K => by simp [rounds] at h
  | m + 1, b, s, k, S, a, w, Q, hc, hsum, h, A, K => by
    rw [rounds_succ]
    simp only [rounds] at h
    refine execK_sound (n := n) H hcall hb (loopR := rounds C call L f base m) (fun b s k S a w Q hc hs h A K => wp_loop_rounds m (rounds_sound H hcall hb m b s k S a w Q hc hs h A K)) b hsum s _ S a w _ hc h A (fun e s' S' a' w' h1 A' => ?_)
    cases e with
    | normal =>
      dsimp only at h1
      show Code.rounds P b Q m a' w'
      split at h1
      · rename_i hh _
        obtain ⟨S'', A''⟩ := norm_sound hb hh A'
        exact rounds_sound H hcall hb m b _ k S'' a' w' Q hc hsum h1 A'' K
      · exact rounds_sound H hcall hb m b _ k S' a' w' Q hc hsum h1 A' K
    | exit id => exact K (.exit id) s' S' a' w' h1 A'
    | goto l => exact K (.goto l) s' S' a' w' h1 A'
    | ret => exact K .ret s' S' a' w' h1 A'

/-! A function's end. -/
theorem outCells_sound {TY : Ty} : ∀ (cks : List CK) (m m' : Mem) (xs ys : List AV) (us : List Value) (S : RS), Good TY S → S.M = m.get → VRs TY S xs us → outCells TY cks m xs = some (ys, m') → ∃ S', Froze TY S S' m m' ∧ VRs TY S' ys us
  | [], m, m', [], ys, [], S, G, hM, hv, h => by
    simp only [outCells, Option.some.injEq, Prod.mk.injEq] at h
    obtain ⟨rfl, rfl⟩ := h
    exact ⟨S, .refl G hM, trivial⟩
  | _, _, _, [], _, _ :: _, _, _, _, h, _ => h.elim
  | _, _, _, _ :: _, _, [], _, _, _, h, _ => h.elim
  | [], m, m', _ :: _, ys, _ :: _, S, G, hM, hv, h => by simp [outCells] at h
  | _ :: _, m, m', [], ys, [], S, G, hM, hv, h => by simp [outCells] at h
  | c :: cks, m, m', x :: xs, ys, u :: us, S, G, hM, ⟨hv, hvs⟩, h => by
    simp only [outCells] at h
    have rest : ∀ (y : AV) (m1 : Mem) (S1 : RS), Froze TY S S1 m m1 → VR TY S1 y u → (match outCells TY cks m1 xs with | some (ys, m) => some (y :: ys, m) | none => none) = some (ys, m') → ∃ S', Froze TY S S' m m' ∧ VRs TY S' ys (u :: us) := by
      intro y m1 S1 F hy h
      split at h
      · rename_i zs m2 hz
        simp only [Option.some.injEq, Prod.mk.injEq] at h
        obtain ⟨rfl, rfl⟩ := h
        obtain ⟨S2, F2, hr⟩ := outCells_sound cks m1 m2 xs zs us S1 F.mv.good F.M (VRs_ext F.mv.ext _ _ hvs) hz
        exact ⟨S2, F.trans F2, VR_ext F2.mv.ext _ _ hy, hr⟩
      · cases h
    cases c
    case sl E =>
      dsimp only at h
      cases hf : frz TY depth (.sl E) m x with
      | none => rw [hf] at h; cases h
      | some p =>
        obtain ⟨p, m1⟩ := p
        rw [hf] at h
        obtain ⟨S1, F, hr⟩ := frz_sound depth S m m1 _ _ u p G hM hv hf
        exact rest _ m1 S1 F (ofPV_VR (ck := .sl E) hr) h
    all_goals exact rest x m S (.refl G hM) hv h
theorem outVal_sound {TY : Ty} {T : TypeId} {m m' : Mem} {x y : AV} {u : Value} {S : RS} (G : Good TY S) (hM : S.M = m.get) (hv : VR TY S x u) (h : outVal TY T m x = some (y, m')) : ∃ S', Froze TY S S' m m' ∧ VR TY S' y u := by
  have one : (match outCells TY [(TY T).cks.getD 0 .oth] m [x] with | some (x :: _, m) => some (x, m) | _ => none) = some (y, m') → ∃ S', Froze TY S S' m m' ∧ VR TY S' y u := by
    intro h
    split at h
    · rename_i z zs m1 hz
      cases h
      obtain ⟨S1, F, hr⟩ := outCells_sound _ m m' [x] _ [u] S G hM ⟨hv, trivial⟩ hz
      exact ⟨S1, F, hr.1⟩
    · cases h
  unfold outVal at h
  cases x
  case agg cs =>
    dsimp only at h
    obtain ⟨vs, rfl, hr⟩ := hv
    split at h
    · rename_i xs m1 hz
      cases h
      obtain ⟨S1, F, hr⟩ := outCells_sound _ m m' cs _ vs.toList S G hM hr hz
      exact ⟨S1, F, vs, rfl, hr⟩
    · cases h
  all_goals exact one h
theorem run_cell {T : TypeId} {u v : Value} {w : World} (h : (Instr.loadAt T u).run P w = .ok v w) : (do loadVar T (← asAddr u) : Sem Value).run P w = .ok v w := by
  unfold Instr.loadAt at h
  cases u with
  | pointer a =>
    cases a with
    | none => simp [Instr.sureAddr, Sem.run_bind, stuck] at h
    | some a => simpa [Instr.sureAddr, asAddr, Sem.run_bind] using h
  | _ => simp [Instr.sureAddr, Sem.run_bind, stuck] at h
def oneResult (tmps : Array Value) : ResultVar → Sem Value
  | .tmp t => pure (tmps.getD t undef)
  | .cell a t => do loadVar t (← asAddr (tmps.getD a undef))
theorem outVals_sound (T0 : TyOK P C.TY) {own : List Nat} {s : FS} {a : Act} {w : World} : ∀ (Ts : List TypeId) (rs : List ResultVar) (i : Nat) (m m' : Mem) (ys : List AV) (S : RS), S.w = w → Good C.TY S → S.M = m.get → ER C.TY S s.tmps a → outVals C own i Ts rs s m = some (ys, m') →
    ∃ S' us, Froze C.TY S S' m m' ∧ VRs C.TY S' ys us ∧ (rs.mapM (oneResult a.tmps)).run P w = .ok us w
  | [], [], i, m, m', ys, S, hw, G, hM, hv, h => by
    simp only [outVals, Option.some.injEq, Prod.mk.injEq] at h
    obtain ⟨rfl, rfl⟩ := h
    exact ⟨S, [], .refl G hM, trivial, by simp⟩
  | T :: Ts, [], i, m, m', ys, S, hw, G, hM, hv, h => by simp [outVals] at h
  | [], r :: rs, i, m, m', ys, S, hw, G, hM, hv, h => by simp [outVals] at h
  | T :: Ts, r :: rs, i, m, m', ys, S, hw, G, hM, hv, h => by
    simp only [outVals] at h
    split at h
    · cases h
    · rename_i x hx
      have hone : ∃ u, (oneResult a.tmps r).run P w = .ok u w ∧ VR C.TY S x u := by
        cases r with
        | tmp t =>
          dsimp only at hx
          cases hx
          exact ⟨a.eval (.tmp t), rfl, eval_VR hv (.tmp t)⟩
        | cell b T' =>
          dsimp only at hx
          obtain ⟨y, v, h1, h2, h3⟩ := load_sound T0 G hM (eval_VR hv (.tmp b)) hx
          cases h1
          rw [hw] at h2
          exact ⟨v, run_cell h2, h3⟩
      obtain ⟨u, hu, hr⟩ := hone
      have rest : ∀ (y : AV) (m1 : Mem) (S1 : RS), Froze C.TY S S1 m m1 → VR C.TY S1 y u → (match outVals C own (i + 1) Ts rs s m1 with | some (xs, m) => some (y :: xs, m) | none => none) = some (ys, m') →
          ∃ S' us, Froze C.TY S S' m m' ∧ VRs C.TY S' ys us ∧ ((r :: rs).mapM (oneResult a.tmps)).run P w = .ok us w := by
        intro y m1 S1 F hy h
        split at h
        · rename_i zs m2 hz
          simp only [Option.some.injEq, Prod.mk.injEq] at h
          obtain ⟨rfl, rfl⟩ := h
          obtain ⟨S2, us, F2, hr2, hrun⟩ := outVals_sound T0 Ts rs (i + 1) m1 m2 zs S1 (F.w.trans hw) F.mv.good F.M (ER_ext F.mv.ext hv) hz
          refine ⟨S2, u :: us, F.trans F2, ⟨VR_ext F2.mv.ext _ _ hy, hr2⟩, ?_⟩
          simp only [List.mapM_cons, Sem.run_bind, hu, Result.andThen_ok, hrun, Sem.run_pure]
        · cases h
      by_cases ho : own.any (Nat.beq i) = true
      · simp only [ho, if_true] at h
        exact rest x m S (.refl G hM) hr h
      · simp only [ho, if_false, Bool.false_eq_true] at h
        cases hf : outVal C.TY T m x with
        | none => rw [hf] at h; cases h
        | some p =>
          obtain ⟨y, m1⟩ := p
          rw [hf] at h
          obtain ⟨S1, F, hy⟩ := outVal_sound G hM hr hf
          exact rest y m1 S1 F hy h
theorem results_run {fn : Func} {tmps : Array Value} {w : World} {us : List Value} (h : (fn.results.toList.mapM (oneResult tmps)).run P w = .ok us w) :
    (results fn tmps).run P w = .ok (if h : us.length = 1 then us[0] else .tuple us.toArray) w := by
  have e : (fn.results.mapM (oneResult tmps)).run P w = .ok us.toArray w := by
    rw [Array.mapM_eq_mapM_toList]
    simp [h]
  have e2 : results fn tmps = (do let vs ← fn.results.mapM (oneResult tmps); pure (if h : vs.size = 1 then vs[0] else .tuple vs)) := rfl
  rw [e2, Sem.run_bind, e, Result.andThen_ok, Sem.run_pure]
  congr 1
theorem finish_sound (T0 : TyOK P C.TY) {f : FuncId} {fn : Func} {base : Nat} {s : FS} {r : AV} {m' : Mem} (h : finish C f fn base s = some (r, m')) (hb : ∀ q, S0.dom q → q < base) {S : RS} {a : Act} {w : World}
    (A : At C.TY S0 S n (fun q => q < s.nx) s.tmps s.mem a w) : ∃ v S', (results fn a.tmps).run P w = .ok v w ∧ S'.w = w ∧ S'.M = m'.get ∧ Mv C.TY S0 S' ∧ VR C.TY S' r v := by
  unfold finish at h
  split at h
  · cases h
  · rename_i vs m hv
    obtain ⟨S1, us, F, hr, hrun⟩ := outVals_sound T0 _ _ _ _ _ _ S A.w A.mv.good A.M A.tmps hv
    dsimp only at h
    cases h
    obtain ⟨S2, k1, k2, k3, k4, k5⟩ := rename_sound hb (A.mv.trans F.mv) F.M (reach m reachFuel (List.range base ++ (match vs with | [v] => v | vs => AV.tup vs).refs) [])
    refine ⟨_, S2, results_run hrun, k1.trans (F.w.trans A.w), k2, k3, VR_ren k4 _ _ ?_⟩
    have hlen := VRs_length hr
    match vs, us, hr, hlen with
    | [x], [u], hr, _ => exact hr.1
    | [], [], hr, _ => exact ⟨#[], rfl, trivial⟩
    | x :: y :: vs, u :: v :: us, hr, _ => exact ⟨(u :: v :: us).toArray, rfl, hr⟩
theorem number_ER {TY : Ty} {S : RS} : ∀ (xs : List AV) (us : List Value) (i : Nat), VRs TY S xs us → ∀ t v, (∀ j, i + j = t → us[j]? = some v ∨ us[j]? = none) → VR TY S (Env.get (number i xs) t) v
  | [], [], i, _, t, v, _ => trivial
  | [], _ :: _, _, h, _, _, _ => h.elim
  | _ :: _, [], _, h, _, _, _ => h.elim
  | x :: xs, u :: us, i, ⟨h1, h2⟩, t, v, h => by
    simp only [number, get_put]
    by_cases e : i = t
    · rw [if_pos e]
      have := h 0 (by omega)
      simp at this
      subst this
      exact h1
    · rw [if_neg e]
      exact number_ER xs us (i + 1) h2 t v (fun j hj => by simpa using h (j + 1) (by omega))
def funcOk (fn : Func) : Bool := match fn.body with | some b => codeOk fn.ntmps b | none => false
/-- What is told of a loop: that a run of rounds with callees that are right shows it. -/
def LoopSum (P : Program) (C : Ctx) (L : Loops) (f : FuncId) (b : Code) : Prop :=
  ∀ F, L f (firstRegion b) = some F → ∀ base s e s2, F.2 base s = some (e, s2) → ∃ call N, CallOK P C.TY call ∧ ∀ {α : Type} (k : Ex → FS → Option α) (r : α), k e s2 = some r → rounds C call L f base N b s (fun e s => k e (norm F.1 base s)) = some r
theorem sums (H : CtxOK P C) {f : FuncId} {base : Nat} (hb : ∀ q, S0.dom q → q < base) {α : Type} {r : α} {c : Code} (hc : codeOk n c = true) (hs : ∀ b ∈ loopsOf c, LoopSum P C L f b) : ∀ b ∈ loopsOf c, SumOK P C L S0 n base f r b := by
  induction c with
  | seq x y ihx ihy =>
    simp only [codeOk, Bool.and_eq_true] at hc
    intro b hb'
    rcases List.mem_append.1 hb' with h | h
    · exact ihx hc.1 (fun b hb => hs b (List.mem_append_left _ hb)) b h
    · exact ihy hc.2 (fun b hb => hs b (List.mem_append_right _ hb)) b h
  | cond _ x y ihx ihy =>
    simp only [codeOk, Bool.and_eq_true] at hc
    intro b hb'
    rcases List.mem_append.1 hb' with h | h
    · exact ihx hc.1 (fun b hb => hs b (List.mem_append_left _ hb)) b h
    · exact ihy hc.2 (fun b hb => hs b (List.mem_append_right _ hb)) b h
  | block _ x ih => exact ih hc hs
  | loop x ih =>
    have inner := ih hc (fun b hb => hs b (by simp [loopsOf, hb]))
    intro b hb'
    rcases List.mem_cons.1 hb' with rfl | h
    · intro F hF s e s2 k S a w Q h1 h2 A K
      obtain ⟨call, N, hcall, hr⟩ := hs b (by simp [loopsOf]) F hF base s e s2 h1
      refine wp_loop_rounds N (rounds_sound H hcall hb N b s _ S a w Q hc inner (hr k r h2) A (fun e' s' S' a' w' h3 A' => ?_))
      obtain ⟨S'', A''⟩ := norm_sound hb F.1 A'
      exact K e' _ S'' a' w' h3 A''
    · exact inner b h
  | _ => intro b hb'; cases hb'
theorem runF_sound (H : CtxOK P C) (hcall : CallOK P C.TY call) (hok : ∀ f fn, C.ft f = some fn → funcOk fn = true) (hls : ∀ f fn b0, C.ft f = some fn → fn.body = some b0 → ∀ b ∈ loopsOf b0, LoopSum P C L f b) {m0 : Nat} {f : FuncId} {xs : List AV} {m : Mem} {r : AV} {m' : Mem} (h : runF C call L m0 f xs m = some (r, m')) : CallRes P C.TY f xs m r m' := by
  intro S us G hM hd hv
  unfold runF at h
  split at h
  · rename_i fn hfn
    obtain ⟨hP, _, _⟩ := H.fn f fn hfn
    have hok := hok f fn hfn
    unfold funcOk at hok
    split at h
    · rename_i b hbody
      rw [hbody] at hok

      replace h := ite_some h
      obtain ⟨hlen, h⟩ := h
      refine calls_of_wp hP hbody ?_
      have hb : ∀ q, S.dom q → q < m.length := fun q hq => (hd q).1 hq
      have hlen' := VRs_length hv
      have hsz : us.size ≤ fn.ntmps := by
        have h1 := Nat.le_of_ble_eq_true hlen
        rw [← Array.length_toList, ← hlen']
        exact h1
      have A0 : At C.TY S S fn.ntmps (fun q => q < m.length) (number 0 xs) m { tmps := us ++ Array.replicate (fn.ntmps - us.size) undef, defers := [] } S.w := by
        refine ⟨?_, rfl, hM, Mv.refl G, hb, fun t => ?_, rfl⟩
        · simp only [Array.size_append, Array.size_replicate]; omega
        · refine number_ER xs us.toList 0 hv t _ (fun j hj => ?_)
          rw [Nat.zero_add] at hj
          subst hj
          show us.toList[j]? = some ((us ++ Array.replicate (fn.ntmps - us.size) undef).getD j undef) ∨ _
          rw [Array.getElem?_toList]
          by_cases hl : j < us.size
          · left
            rw [Array.getD_eq_getD_getElem?, Array.getElem?_append_left hl, Array.getElem?_eq_getElem hl]
            rfl
          · right
            exact Array.getElem?_eq_none (by omega)
      refine execK_sound H hcall hb (loopR := rounds C call L f m.length m0) (fun b s k S a w Q hc hs h A K => wp_loop_rounds m0 (rounds_sound H hcall hb m0 b s k S a w Q hc hs h A K)) b (sums H hb hok (hls f fn b hfn hbody)) _ _ S _ _ _ hok h A0 (fun e s' S' a' w' h1 A' => ?_)
      have fin : finish C f fn m.length s' = some (r, m') → a'.defers = [] ∧ ∃ v, (results fn a'.tmps).run P w' = .ok v w' ∧ ∃ v' S', Ending.returned v = Ending.returned v' ∧ S'.w = w' ∧ S'.M = m'.get ∧ Mv C.TY S S' ∧ VR C.TY S' r v' := fun h1 => by
        obtain ⟨v, S2, k1, k2, k3, k4, k5⟩ := finish_sound H.ty h1 hb A'
        exact ⟨A'.defers, v, k1, v, S2, rfl, k2, k3, k4, k5⟩
      cases e with
      | normal => exact fin h1
      | ret => exact fin h1
      | exit id => cases h1
      | goto l => cases h1
    · cases h
  · cases h
theorem callN_sound (H : CtxOK P C) (hok : ∀ f fn, C.ft f = some fn → funcOk fn = true) (hls : ∀ f fn b0, C.ft f = some fn → fn.body = some b0 → ∀ b ∈ loopsOf b0, LoopSum P C L f b) {ext : FuncId → Option (List AV → Mem → Option (AV × Mem))} (hext : ∀ f g, ext f = some g → ∀ xs m r m', g xs m = some (r, m') → CallRes P C.TY f xs m r m') : ∀ n, CallOK P C.TY (callN C L ext n)
  | 0 => fun f xs m r m' h => by simp [callN] at h
  | n + 1 => fun f xs m r m' h => by
    simp only [callN] at h
    split at h
    · rename_i g hg
      exact hext f g hg xs m r m' h
    · exact runF_sound H (callN_sound H hok hls hext n) hok hls h
end
end Go.Proofs.YtkenjojkpdeooaaGreatDoor.AI
end
