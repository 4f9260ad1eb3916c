/- copy, next, max, min. · One operation, whichever. · New names; a part of the memory. · What an operation does to a part of the memory, it does to the whole. · Calls: what the callee is given. · Calls: the arguments. -/
import Derived.Test.YtkenjojkpdeooaaGreatDoorM2
section
set_option linter.unusedVariables false
set_option linter.unusedSimpArgs false
set_option linter.constructorNameAsVariable false
namespace Go.Proofs.YtkenjojkpdeooaaGreatDoor.AI
section
variable {P : Program} {C : Ctx} {S : RS}

/-- An object is called anew; the world is as it was. -/
theorem mv_set {TY : Ty} {S : RS} (G : Good TY S) {m : Mem} (hM : S.M = m.get) {o : Nat} {x x' : Ob} (hx : S.M o = some x) (hx' : ∀ S' : RS, Ext TY S S' → S'.w = S.w → S'.ok = S.ok → OR TY S' (S.μ o) x') :
    ∃ S' : RS, S'.w = S.w ∧ S'.M = (m.set o x').get ∧ S'.dom = S.dom ∧ Mv TY S S' := by
  have hso : (m.get o).isSome = true := by rw [← hM, hx]; rfl
  let S' : RS := ⟨S.w, S.ok, (m.set o x').get, S.μ, S.dom⟩
  have hM' : ∀ q, S'.M q = if o = q then some x' else S.M q := fun q => by rw [hM]; exact get_set m o x' q hso
  have hback : ∀ q y, S'.M q = some y → ∃ y', S.M q = some y' := fun q y h => by
    rw [hM'] at h
    by_cases e : o = q
    · subst e; exact ⟨x, hx⟩
    · rw [if_neg e] at h; exact ⟨y, h⟩
  refine ⟨S', rfl, rfl, rfl, mv_gen G S' (fun _ => False) (fun q => q = o) (Fr.refl _ _) (fun _ h => h.elim) (fun _ h => h) (fun _ h => .inl h) (fun b hb => G.okb b hb) (fun _ h => h) (fun _ _ => rfl) ?_ ?_ ?_ ?_ ?_⟩
  · intro q y hq h
    rw [hM', if_neg (fun e => hq e.symm)] at h
    exact ⟨h, rfl, fun _ h => h⟩
  · rintro q y rfl h
    rw [hM', if_pos rfl] at h
    obtain rfl := Option.some.inj h
    exact ⟨G.dom _ _ hx, fun hE => hx' S' hE rfl rfl, fun hn => .inl ⟨_, x, hx, hn, rfl⟩⟩
  · rintro q y rfl hd h
    exact ⟨x, hx⟩
  · intro q q' y y' h h' h1 h2 h3
    obtain ⟨z, hz⟩ := hback q y h
    obtain ⟨z', hz'⟩ := hback q' y' h'
    exact G.inj q q' z z' hz hz' h1 h2 h3
  · intro q y h h1
    obtain ⟨z, hz⟩ := hback q y h
    exact G.sep q z hz h1

theorem copyTo_sound (T0 : TyOK P C.TY) (G : Good C.TY S) {m : Mem} (hM : S.M = m.get) {T Ts ty E : TypeId} (hT : (C.TY T).k = .slice E) (hE : (C.TY E).k.oth? = false) {lo' hi' : Nat} {o lo len c : Nat} {A : Option Addr} (hlen : lo + len ≤ (S.μ o).len) (hA : 0 < len → A = some ⟨(S.μ o).blk, lo * (S.μ o).esz, none⟩)
    {x : AV} {u : Value} (hx : VR C.TY S x u) {α : Type} {k : AV → Mem → Option α} {r : α} (h : copyTo E m o lo len x k = some r) :
    ∃ y m', k y m' = some r ∧ OpRes P C.TY lo' hi' none S m' y (do pure (.value (← Builtin.copy_ #[T, Ts] ty #[.slice A len c, u]))) := by
  obtain ⟨ti, tz, IT⟩ := T0.is (oth_slice hT)
  obtain ⟨i, z, I⟩ := T0.is hE
  unfold copyTo at h
  split at h
  · rename_i E' n g hg
    replace h := ite_some h; obtain ⟨he, h⟩ := h
    obtain rfl := nat_beq he
    split at h
    · rename_i n1 g2 hsrc
      obtain ⟨A2, c2, rfl, hc2, hcell2⟩ := seen_sound G hM hx hsrc
      have hmin : Nat.min n1 len = min n1 len := rfl
      have hle : min n1 len ≤ len := Nat.min_le_right _ _
      have hle1 : min n1 len ≤ n1 := Nat.min_le_left _ _
      revert h hmin hle hle1
      generalize min n1 len = n2
      intro h hmin hle hle1
      have hSo : S.M o = some (.prow E n g) := by rw [hM]; exact hg
      have hO := G.obj o _ hSo
      obtain ⟨h1, h2, h3, h4, h5⟩ := hO
      rw [h1] at hlen
      refine ⟨_, _, h, ?_⟩
      rcases Nat.eq_zero_or_pos n2 with e | e
      · subst e
        obtain ⟨S', e1, e2, e3, M⟩ := mv_set G hM hSo (x' := .prow E n (copyRow n g lo 0 g2)) (fun S' E' hw hok => by
          refine ⟨h1, h2, h3, h4, ?_⟩
          cases hn : (S.μ o).nil with
          | true => simpa [hn] using h5
          | false =>
            simp only [hn, Bool.false_eq_true, if_false] at h5 ⊢
            obtain ⟨D, hD, hDs, hcell⟩ := h5
            refine ⟨D, by rw [hw]; exact hD, hDs, fun i hi j ck hj => ?_⟩
            obtain ⟨v, hv, hr⟩ := hcell i hi j ck hj
            refine ⟨v, hv, ?_⟩
            unfold copyRow
            rw [if_neg (by omega)]
            exact CR_mono E'.ok E'.w _ _ _ hr)
        refine ⟨.int .i64 (0 : Nat), S', _, ?_, .inl rfl, e2, M, Nw.of e3, rfl, (fun W h => by cases h)⟩
        rw [e1]
        have hc : (Builtin.firstCells (C.TY E).cks.length 0 (.slice A2 n1 c2)).run P S.w = .ok #[] S.w := by
          cases A2 with
          | none => exact run_firstCells_none _ _ _ _ _
          | some a => exact run_firstCells_some _ _ _ _ _ _ [] (by simp) (fun j v h => by simp at h)
        cases A <;> simp [Builtin.copy_, run_underlying (IT.under_slice hT), Builtin.lenOf, hmin, I.run_size, hc, storeCells, goInt]
      · have hn : (S.μ o).nil = false := by
          cases hn : (S.μ o).nil with
          | false => rfl
          | true => simp only [hn, if_true] at h5; omega
        simp only [hn, Bool.false_eq_true, if_false] at h5
        obtain ⟨D, hD, hDs, hcell⟩ := h5
        obtain rfl := hA (by omega)
        obtain ⟨b2, off2, rfl, hy⟩ := hcell2 (by omega)
        obtain ⟨news, hnl, hnr, hnc⟩ := cells_list (n := n2) (fun i hi j ck hj => hy i (by omega) j ck hj)
        have hone := news_one hnl hnc
        have hc : (Builtin.firstCells (C.TY E).cks.length n2 (.slice (some ⟨b2, off2, none⟩) n1 c2)).run P S.w = .ok news.toArray S.w := run_firstCells_some _ _ _ _ _ _ news hnl (fun j v hj => by rw [add_lit]; exact hnr j v hj)
        rw [h2]
        have hfit : lo * (C.TY E).cks.length + 0 + news.length ≤ D.size := by
          rw [hnl, hDs, Nat.add_zero, ← Nat.add_mul]
          exact Nat.mul_le_mul_right _ (by omega)
        have hst := run_storeCells_at P (S.μ o).blk (lo * (C.TY E).cks.length) E news 0 D S.w hD hfit hone
        simp only [Nat.add_zero] at hst hfit
        have hspl : lo * (C.TY E).cks.length + news.length ≤ D.toList.length := by simpa using hfit
        obtain ⟨S', e1, e2, e3, e4, e5, M⟩ := mv_write (x' := .prow E n (copyRow n g lo n2 g2)) G hM hSo hn _ (fr_setRow S.w (S.μ o).blk (D.toList.take (lo * (C.TY E).cks.length) ++ news ++ D.toList.drop (lo * (C.TY E).cks.length + news.length)).toArray) (fun S' E' hw hok => by
          refine ⟨h1, h2, h3, h4, ?_⟩
          simp only [hn, Bool.false_eq_true, if_false]
          refine ⟨_, by rw [hw]; exact setRow_heap _ _ _ _ _ _ hD, by rw [List.size_toArray, splice_len _ _ _ hspl]; simpa using hDs, fun q hq j ck hj => ?_⟩
          have hjl : j < (C.TY E).cks.length := (List.getElem?_eq_some_iff.1 hj).1
          rw [List.getElem?_toArray, splice_get _ _ _ _ hspl, hnl]
          by_cases hin : lo ≤ q ∧ q < lo + n2
          · obtain ⟨v, hv, hr⟩ := hnc (q - lo) (by omega) j ck hj
            have ha : lo * (C.TY E).cks.length ≤ q * (C.TY E).cks.length := Nat.mul_le_mul_right _ hin.1
            have hb : (q + 1) * (C.TY E).cks.length ≤ (lo + n2) * (C.TY E).cks.length := Nat.mul_le_mul_right _ hin.2
            rw [Nat.add_mul, Nat.one_mul, Nat.add_mul] at hb
            rw [if_pos (by omega)]
            refine ⟨v, ?_, ?_⟩
            · rw [← hv]
              congr 1
              rw [Nat.sub_mul]
              omega
            · unfold copyRow
              rw [if_pos hin]
              exact CR_mono E'.ok E'.w _ _ _ hr
          · obtain ⟨v, hv, hr⟩ := hcell q hq j ck hj
            have hout : ¬ (lo * (C.TY E).cks.length ≤ q * (C.TY E).cks.length + j ∧ q * (C.TY E).cks.length + j < lo * (C.TY E).cks.length + n2 * (C.TY E).cks.length) := by
              rintro ⟨a1, a2⟩
              rcases Nat.lt_or_ge q lo with hq1 | hq1
              · have : (q + 1) * (C.TY E).cks.length ≤ lo * (C.TY E).cks.length := Nat.mul_le_mul_right _ hq1
                rw [Nat.add_mul, Nat.one_mul] at this
                omega
              · have : (lo + n2) * (C.TY E).cks.length ≤ q * (C.TY E).cks.length := Nat.mul_le_mul_right _ (by omega)
                rw [Nat.add_mul] at this
                omega
            rw [if_neg hout]
            refine ⟨v, by simpa using hv, ?_⟩
            unfold copyRow
            rw [if_neg hin]
            exact CR_mono E'.ok E'.w _ _ _ hr)
        refine ⟨.int .i64 (n2 : Nat), S', _, ?_, .inl rfl, e2, M, Nw.of e5, rfl, (fun W h => by cases h)⟩
        rw [e1]
        simp [Builtin.copy_, run_underlying (IT.under_slice hT), Builtin.lenOf, hmin, I.run_size, hc, hst, goInt]
    · cases h
  · cases h

theorem copy_sound (T0 : TyOK P C.TY) (G : Good C.TY S) {m : Mem} (hM : S.M = m.get) {T Ts ty : TypeId} {lo hi : Nat}
    {d x : AV} {du u : Value} {α : Type} {k : AV → Mem → Option α} {r : α} (h : copyK C T Ts m d x k = some r) (hd : VR C.TY S d du) (hx : VR C.TY S x u) :
    ∃ y m', k y m' = some r ∧ OpRes P C.TY lo hi none S m' y (do pure (.value (← Builtin.copy_ #[T, Ts] ty #[du, u]))) := by
  unfold copyK at h
  replace h := elemK_some h
  obtain ⟨E, hT, hE, h⟩ := h
  split at h
  · rename_i o
    split at h
    · rename_i n hl
      obtain ⟨A, c, hu⟩ := lenOf_sound G hM hd (by intro s e; cases e) hl
      have hrow : rowE m o = some ((match m.get o with | some (.prow E _ _) => E | some (.arow E _ _) => E | _ => 0), n) := by
        simp only [lenOf] at hl
        unfold rowE
        split at hl <;> simp_all
      obtain ⟨g1, g2, g3, g4⟩ := rowE_some G hM hrow
      subst hu
      refine copyTo_sound T0 G hM hT hE (by omega) (fun h0 => ?_) hx h
      obtain ⟨_, e⟩ := hd
      unfold Loc.slice at e
      cases hn : (S.μ o).nil with
      | true => have := g4 hn; omega
      | false =>
        rw [hn, if_neg (by simp)] at e
        simp only [Value.slice.injEq] at e
        rw [e.1, Nat.zero_mul]
    · cases h
  · rename_i o lo' hi'
    obtain ⟨_, h1, h2, A, c, rfl, h3, h4⟩ := hd
    exact copyTo_sound T0 G hM hT hE (by omega) (fun h0 => h4 (by omega)) hx h
  · cases h

theorem next_sound (G : Good C.TY S) {m : Mem} (hM : S.M = m.get) {lo hi : Nat}  {ty : TypeId} {x : AV} {u : Value} {α : Type} {k : AV → Mem → Option α} {r : α}
    (h : (match x with
    | .adr o 0 0 => (match m.get o with
      | some (.iter s pos) =>
        if pos < s.size then k (.tup [.bool true, .int .i64 (pos : Int), .int .i32 ((Utf8.decode s pos).1 : Int)]) (m.set o (.iter s (pos + (Utf8.decode s pos).2)))
        else k (.tup [.bool false]) m
      | _ => none)
    | _ => none) = some r) (hx : VR C.TY S x u) :
    ∃ y m', k y m' = some r ∧ OpRes P C.TY lo hi none S m' y (do pure (.value (← Instr.next u true ty))) := by
  split at h
  · rename_i o
    obtain ⟨hd, hi, rfl⟩ := hx
    split at h
    · rename_i s pos hg
      have hSo : S.M o = some (.iter s pos) := by rw [hM]; exact hg
      obtain ⟨h1, h2, h3, h4⟩ := G.obj o _ hSo
      have hget : (getObj (S.μ o).blk).run P S.w = .ok (.stringIter s pos) S.w := by simp [getObj, Sem.run, h4]
      rw [h3]
      split at h
      · rename_i hlt
        have hset : (setObj (S.μ o).blk (.stringIter s (pos + (Utf8.decode s pos).2))).run P S.w = .ok () { S.w with heap := S.w.heap.setIfInBounds (S.μ o).blk (.stringIter s (pos + (Utf8.decode s pos).2)) } := by simp [setObj, Sem.run, h4]
        obtain ⟨S', e1, e2, e3, e4, e5, M⟩ := mv_write (x' := .iter s (pos + (Utf8.decode s pos).2)) G hM hSo h1 { S.w with heap := S.w.heap.setIfInBounds (S.μ o).blk (.stringIter s (pos + (Utf8.decode s pos).2)) } ⟨rfl, rfl, rfl, by simp, fun b _ hb => by simp [Array.getElem?_setIfInBounds_ne (Ne.symm hb)]⟩ (fun S' E' hw hok => ⟨h1, h2, h3, by
          rw [hw]
          have hlt := (Array.getElem?_eq_some_iff.1 h4).1
          simp [hlt]⟩)
        refine ⟨_, _, h, .tuple #[.bool true, goInt pos, .int .i32 (Utf8.decode s pos).1], S', _, ?_, .inl rfl, e2, M, Nw.of e5, ⟨_, rfl, rfl, rfl, rfl, trivial⟩, (fun W h => by cases h)⟩
        rw [e1]
        simp only [Instr.next, Sem.run_bind, hget, Result.andThen_ok, hlt, if_true, hset, Sem.run_pure, Nat.zero_mul, Nat.mul_zero, Nat.add_zero]
      · rename_i hlt
        refine ⟨_, _, h, OpRes.pure G hM (v := .tuple #[.bool false]) ?_ ⟨_, rfl, rfl, trivial⟩⟩
        simp only [Instr.next, Sem.run_bind, hget, Result.andThen_ok, hlt, if_false, Sem.run_pure, Nat.zero_mul, Nat.mul_zero, Nat.add_zero]
    · cases h
  · cases h

theorem max_sound : ∀ (l : List AV) (us : List Value) (x : AV) (u : Value) {α : Type} {k : AV → Option α} {r : α}, VRs C.TY S l us → VR C.TY S x u → maxInts true l x k = some r → ∀ w : World,
    ∃ y v, k y = some r ∧ (us.foldlM Builtin.max2 u).run P w = .ok v w ∧ VR C.TY S y v
  | [], [], x, u, α, k, r, _, hx, h, w => ⟨x, u, h, by simp, hx⟩
  | [], _ :: _, _, _, _, _, _, h, _, _, _ => h.elim
  | _ :: _, [], _, _, _, _, _, h, _, _, _ => h.elim
  | y :: l, v :: us, x, u, α, k, r, ⟨hy, hl⟩, hx, h, w => by
    cases y <;> cases x <;> simp only [maxInts, reduceCtorEq] at h
    rename_i k1 a k2 b
    replace h := ite_some h; obtain ⟨rfl, h⟩ := h
    obtain rfl : v = .int k2 a := hy
    obtain rfl : u = .int k2 b := hx
    obtain ⟨z, t, h1, h2, h3⟩ := max_sound l us _ (.int k2 (if a > b then a else b)) hl (by simp [VR]) h w
    exact ⟨z, t, h1, by simp [List.foldlM_cons, Builtin.max2, h2], h3⟩
theorem min_sound : ∀ (l : List AV) (us : List Value) (x : AV) (u : Value) {α : Type} {k : AV → Option α} {r : α}, VRs C.TY S l us → VR C.TY S x u → maxInts false l x k = some r → ∀ w : World,
    ∃ y v, k y = some r ∧ (us.foldlM Builtin.min2 u).run P w = .ok v w ∧ VR C.TY S y v
  | [], [], x, u, α, k, r, _, hx, h, w => ⟨x, u, h, by simp, hx⟩
  | [], _ :: _, _, _, _, _, _, h, _, _, _ => h.elim
  | _ :: _, [], _, _, _, _, _, h, _, _, _ => h.elim
  | y :: l, v :: us, x, u, α, k, r, ⟨hy, hl⟩, hx, h, w => by
    cases y <;> cases x <;> simp only [maxInts, reduceCtorEq] at h
    rename_i k1 a k2 b
    replace h := ite_some h; obtain ⟨rfl, h⟩ := h
    obtain rfl : v = .int k2 a := hy
    obtain rfl : u = .int k2 b := hx
    obtain ⟨z, t, h1, h2, h3⟩ := min_sound l us _ (.int k2 (if a < b then a else b)) hl (by simp [VR]) h w
    exact ⟨z, t, h1, by simp [List.foldlM_cons, Builtin.min2, h2], h3⟩
end
end Go.Proofs.YtkenjojkpdeooaaGreatDoor.AI
end
section
set_option linter.unusedVariables false
set_option linter.unusedSimpArgs false
set_option linter.constructorNameAsVariable false
namespace Go.Proofs.YtkenjojkpdeooaaGreatDoor.AI

section
variable {P : Program} {C : Ctx} {S : RS}

theorem run_value {s : Sem Value} {v : Value} {w w' : World} (h : s.run P w = .ok v w') : (do pure (Next.value (← s)) : Sem Next).run P w = .ok (.value v) w' := by
  simp only [Sem.run_bind, h, Result.andThen_ok, Sem.run_pure]
theorem ORel_map {TY : Ty} {ev : Operand → AV} {ρ : Operand → Value} (hev : ∀ x, VR TY S (ev x) (ρ x)) (lo : Option Operand) : ORel TY S (lo.map ev) (lo.map ρ) := by
  cases lo with
  | none => trivial
  | some x => exact hev x
theorem evs_VRs {TY : Ty} {ev : Operand → AV} {ρ : Operand → Value} (hev : ∀ x, VR TY S (ev x) (ρ x)) : ∀ l : List Operand, VRs TY S (l.map ev) (l.map ρ)
  | [] => trivial
  | x :: l => ⟨hev x, evs_VRs hev l⟩

theorem opK_sound (T0 : TyOK P C.TY) (G : Good C.TY S) {m : Mem} (hM : S.M = m.get) {id : Nat} (hid : ∀ q, id ≤ q → q < id + 16 → ¬ S.dom q) {ev : Operand → AV} {ρ : Operand → Value} (hev : ∀ x, VR C.TY S (ev x) (ρ x))
    {α : Type} {k : AV → Mem → Option α} {r : α} (o : Oper) (h : opK C o.type o.op id ev m k = some r) :
    ∃ y m', k y m' = some r ∧ OpRes P C.TY id (id + 16) (writesOf o.op ev m) S m' y (execOp ρ o) := by
  obtain ⟨dst, op, type, pos, after, guard⟩ := o
  have hid0 := hid id (Nat.le_refl _) (by omega)
  have hhi : id < id + 16 := by omega
  cases op <;> simp only [opK, reduceCtorEq] at h <;> simp only [execOp]
  case move x => exact ⟨_, _, h, OpRes.pure G hM (by simp) (hev x)⟩
  case assign x => exact ⟨_, _, h, OpRes.pure G hM (by simp) (hev x)⟩
  case alloc E => exact alloc_sound T0 G hM hid0 (Nat.le_refl _) hhi h
  case box E x =>
    replace h := ite_some h; obtain ⟨hk, h⟩ := h
    exact ⟨_, _, h, box_sound G hM hid0 (Nat.le_refl _) hhi (hev x) hk E⟩
  case build T parts =>
    split at h
    · rename_i fs hk
      split at h
      · rename_i cs hf
        obtain ⟨v, h1, h2⟩ := build_sound T0 hev hk parts cs hf
        exact ⟨_, _, h, OpRes.pure G hM (run_value h1) h2⟩
      · cases h
    · cases h
  case buildSlice T n parts =>
    replace h := elemK_some h
    obtain ⟨E, hT, hE, h⟩ := h
    replace h := ite_some h; obtain ⟨h0, h⟩ := h
    simp only [Bool.and_eq_true] at h0
    split at h
    · rename_i cs hf
      have key := buildSlice_sound (rd := writesOf (.buildSlice T n parts) ev m) (vs := parts.map fun (i, x) => (i, ρ x)) T0 G hM hid0 (Nat.le_refl _) hhi hT hE n (ble_le h0.1) (ble_le h0.2) _ (by simp) (fun j p q hj hq => by
        simp only [List.getElem?_map, Option.map_eq_some_iff] at hj
        obtain ⟨⟨a, b⟩, hj, rfl⟩ := hj
        simp only [Array.toList_map, List.getElem?_map, Option.map_eq_some_iff, hj] at hq
        obtain ⟨⟨a', b'⟩, e, rfl⟩ := hq
        cases e
        exact ⟨rfl, rfl, hev _⟩) cs hf
      rcases key with ⟨ps', m', hz, key⟩ | ⟨hz, key⟩
      · rw [hz] at h
        exact ⟨_, _, h, key⟩
      · rw [hz] at h
        exact ⟨_, _, h, key⟩
    · cases h
  case load T a =>
    obtain ⟨x, v, h1, h2, h3⟩ := load_sound T0 G hM (hev a) h
    exact ⟨_, _, h1, OpRes.pure G hM (run_value h2) h3⟩
  case store T a x =>
    obtain ⟨m', S', h1, h2, h3, h4, h5⟩ := store_sound T0 G hM (hev a) (hev x) h
    exact ⟨_, _, h1, undef, S', .skip, by simp only [Sem.run_bind, h2, Result.andThen_ok, Sem.run_pure], .inr ⟨rfl, rfl⟩, h3, h5, Nw.of h4, trivial, (fun W h => by cases h)⟩
  case nilCheck x =>
    have hx := hev x
    split at h
    · rename_i o i off he
      rw [he] at hx
      obtain ⟨h1, h2, h3⟩ := hx
      refine ⟨_, _, h, OpRes.pure G hM (v := ρ x) ?_ ⟨h1, h2, h3⟩⟩
      rw [h3]; simp
    · rename_i E off c he
      rw [he] at hx
      obtain ⟨b, a, h3, h4⟩ := hx
      refine ⟨_, _, h, OpRes.pure G hM (v := ρ x) ?_ ⟨b, a, h3, h4⟩⟩
      rw [h3]; simp
    · cases h
  case binOp op T x y yt =>
    obtain ⟨z, t, h1, h2, h3⟩ := bin_sound (xo := x) (yo := y) T0 (hev x) (hev y) S.w h
    exact ⟨_, _, h1, OpRes.pure G hM (run_value h2) h3⟩
  case unOp op T x =>
    obtain ⟨z, t, h1, h2, h3⟩ := un_sound (P := P) (hev x) S.w h
    exact ⟨_, _, h1, OpRes.pure G hM (run_value h2) h3⟩
  case convert Ts Td x =>
    obtain ⟨y, h1, h2⟩ := conv_sound (lo := id) (hi := id + 16) T0 G hM (hev x) h
    exact ⟨_, _, h1, h2⟩
  case makeFunc fn first cap =>
    cases fn <;> simp only [reduceCtorEq] at h
    rename_i f
    replace h := ite_some h; obtain ⟨h0, h⟩ := h
    have hf : first = #[] := by simpa using h0
    subst hf
    refine ⟨_, _, h, OpRes.pure G hM (v := .func (.func f) #[] (cap.map ρ)) (by simp [Instr.makeFunc]) ⟨cap.map ρ, rfl, by simpa using evs_VRs hev cap.toList⟩⟩
  case makeSlice T l c =>
    have hl := hev l
    have hc := hev c
    split at h
    · rename_i kx x ky y e1 e2
      rw [e1] at hl
      rw [e2] at hc
      replace h := elemK_some h
      obtain ⟨E, hT, hE, h⟩ := h
      replace h := ite_some h; obtain ⟨h0, h⟩ := h
      replace h := ite_some h; obtain ⟨rfl, h⟩ := h
      replace h := ite_some h; obtain ⟨h1, h⟩ := h
      replace h := ite_some h; obtain ⟨h2, h⟩ := h
      rw [show ρ l = _ from hl, show ρ c = _ from hc]
      split at h
      · rename_i hp
        simp only [Bool.and_eq_true] at hp
        exact ⟨_, _, h, makeSlice_sound T0 G hM hid0 (Nat.le_refl _) hhi hT hE h0 h1 h2 _ (.inl ⟨rfl, hp.1⟩)⟩
      · exact ⟨_, _, h, makeSlice_sound T0 G hM hid0 (Nat.le_refl _) hhi hT hE h0 h1 h2 _ (.inr rfl)⟩
    · cases h
  case slice T x lo hi mx =>
    cases mx <;> simp only [opK, reduceCtorEq] at h
    obtain ⟨y, v, h1, h2, h3⟩ := slice_sound T0 G hM (ORel_map hev lo) (ORel_map hev hi) h (hev x)
    exact ⟨_, _, h1, OpRes.pure G hM (run_value h2) h3⟩
  case fieldAddr T x f =>
    have hx := hev x
    split at h
    · rename_i fs hk
      split at h
      · rename_i fo ft hf
        split at h
        · rename_i o i off he
          rw [he] at hx
          obtain ⟨h1, h2, h3⟩ := hx
          refine ⟨_, _, h, OpRes.pure G hM (v := .pointer (some ⟨(S.μ o).blk, i * (S.μ o).esz + off + fo, none⟩)) ?_ ⟨h1, h2, by rw [Nat.add_assoc]⟩⟩
          rw [h3]
          exact run_value (fieldAddr_sound T0 hk hf S.w _ _)
        · rename_i E off c he
          rw [he] at hx
          obtain ⟨b, a, h3, h4⟩ := hx
          refine ⟨_, _, h, OpRes.pure G hM (v := .pointer (some ⟨b, a + off + fo, none⟩)) ?_ ⟨b, a, by rw [Nat.add_assoc], h4⟩⟩
          rw [h3]
          exact run_value (fieldAddr_sound T0 hk hf S.w _ _)
        · cases h
      · cases h
    · cases h
  case indexAddr T x i =>
    have hx := hev x
    have hi := hev i
    split at h
    · rename_i kj j hj
      rw [hj] at hi
      replace h := elemK_some h
      obtain ⟨E, hT, hE, h⟩ := h
      rw [show ρ i = _ from hi]
      split at h
      · rename_i E' n g he
        rw [he] at hx
        replace h := ite_some h; obtain ⟨he', h⟩ := h
        obtain rfl := nat_beq he'
        obtain ⟨h0, h1, h⟩ := idxK_some h
        obtain ⟨A, c, hu, hc, hcell⟩ := hx
        obtain ⟨b, off, rfl, hb, hy⟩ := hcell (by omega)
        rw [hu]
        refine ⟨_, _, h, OpRes.pure G hM (run_value (indexAt_run T0 hT hE S.w b off n c h0 h1)) ⟨b, off + j.toNat * (C.TY E').cks.length, rfl, hb, fun q ck hq => ?_⟩⟩
        obtain ⟨v, hv, hr⟩ := hy j.toNat (by omega) q ck hq
        exact ⟨v, by rw [Nat.add_assoc]; exact hv, hr⟩
      · rename_i o he
        rw [he] at hx
        split at h
        · rename_i E' n hg
          replace h := ite_some h; obtain ⟨he', h⟩ := h
          obtain rfl := nat_beq he'
          obtain ⟨h0, h1, h⟩ := idxK_some h
          obtain ⟨g1, g2, g3, g4⟩ := rowE_some G hM hg
          obtain ⟨hd, hu⟩ := hx
          have hn : (S.μ o).nil = false := by
            cases hn : (S.μ o).nil with
            | false => rfl
            | true => have := g4 hn; omega
          have hu' : ρ x = .slice (some ⟨(S.μ o).blk, 0, none⟩) n (S.μ o).cap := by rw [hu]; simp [Loc.slice, hn, g1]
          rw [hu']
          exact ⟨_, _, h, OpRes.pure G hM (run_value (indexAt_run T0 hT hE S.w _ 0 n _ h0 h1)) ⟨hd, by omega, by rw [g2, Nat.zero_add, Nat.add_zero]⟩⟩
        · cases h
      · rename_i o lo hi' he
        rw [he] at hx
        split at h
        · rename_i E' n hg
          replace h := ite_some h; obtain ⟨he', h⟩ := h
          obtain rfl := nat_beq he'
          obtain ⟨h0, h1, h⟩ := idxK_some h
          obtain ⟨g1, g2, g3, g4⟩ := rowE_some G hM hg
          obtain ⟨hd, k1, k2, A, c, hu, k3, k4⟩ := hx
          rw [k4 (by omega)] at hu
          rw [hu]
          refine ⟨_, _, h, OpRes.pure G hM (run_value (indexAt_run T0 hT hE S.w _ _ (hi' - lo) c h0 (by omega))) ⟨hd, by omega, by rw [g2, Nat.add_zero, Nat.add_mul]⟩⟩
        · cases h
      · cases h
    · cases h
  case index T x i =>
    have hx := hev x
    have hi := hev i
    split at h
    · rename_i s kj j e1 e2
      rw [e1] at hx
      rw [e2] at hi
      split at h
      · rename_i hk
        obtain ⟨h0, h1, h⟩ := idxK_some h
        rw [show ρ x = _ from hx, show ρ i = _ from hi]
        exact ⟨_, _, h, OpRes.pure G hM (run_value (index_sound T0 hk h0 h1 S.w)) rfl⟩
      · cases h
    · cases h
  case range T x =>
    have hx := hev x
    split at h
    · rename_i s e1
      rw [e1] at hx
      split at h
      · rename_i hk
        rw [show ρ x = _ from hx]
        exact ⟨_, _, h, range_sound T0 G hM hid0 (Nat.le_refl _) hhi hk⟩
      · cases h
    · cases h
  case next it isS =>
    cases isS <;> simp only [opK, reduceCtorEq] at h
    exact next_sound G hM h (hev it)
  case extract t i =>
    have hx := hev t
    split at h
    · rename_i cs e1
      rw [e1] at hx
      split at h
      · rename_i v hv
        obtain ⟨vs, hu, hr⟩ := hx
        obtain ⟨u, h1, h2⟩ := VRs_get hr i v hv
        rw [hu]
        have h1' : vs[i]? = some u := by simpa using h1
        exact ⟨_, _, h, OpRes.pure G hM (v := u) (by simp [Instr.extract, h1']) h2⟩
      · cases h
    · cases h
  case call c =>
    obtain ⟨callee, args, argTypes⟩ := c
    cases callee <;> simp only [reduceCtorEq] at h
    rename_i b
    cases b <;> simp only [reduceCtorEq] at h
    case append =>
      split at h
      · rename_i d s T Ts e1 e2
        obtain ⟨args⟩ := args
        obtain ⟨argTypes⟩ := argTypes
        simp only at e1 e2
        subst e2
        match args, e1 with
        | [a, b], e1 =>
          simp only [List.map_cons, List.map_nil, List.cons.injEq, and_true] at e1
          obtain ⟨rfl, rfl⟩ := e1
          obtain ⟨y, m', h1, h2⟩ := append_sound (ty := type) (lo := id) (hi := id + 16) (rd := writesOf (.call { callee := .builtin .append, args := ⟨[a, b]⟩, argTypes := ⟨[T, Ts]⟩ }) ev m) T0 G hM hid0 (Nat.le_refl _) hhi h (hev a) (hev b) (fun W hW => by
            simp only [writesOf, readsOnly, Bool.false_eq_true, if_false] at hW
            split at hW
            · rename_i e
              cases hW
              exact ⟨rfl, e⟩
            · cases hW)
          exact ⟨y, m', h1, by simpa [resolve, invoke, builtin, Sem.run_bind] using h2⟩
      · cases h
    case copy =>
      split at h
      · rename_i d s T Ts e1 e2
        obtain ⟨args⟩ := args
        obtain ⟨argTypes⟩ := argTypes
        simp only at e1 e2
        subst e2
        match args, e1 with
        | [a, b], e1 =>
          simp only [List.map_cons, List.map_nil, List.cons.injEq, and_true] at e1
          obtain ⟨rfl, rfl⟩ := e1
          obtain ⟨y, m', h1, h2⟩ := copy_sound (ty := type) (lo := id) (hi := id + 16) T0 G hM h (hev a) (hev b)
          have hw : writesOf (.call { callee := .builtin .copy, args := ⟨[a, b]⟩, argTypes := ⟨[T, Ts]⟩ }) ev m = none := by simp [writesOf, readsOnly]
          rw [hw]
          exact ⟨y, m', h1, by simpa [resolve, invoke, builtin, Sem.run_bind] using h2⟩
      · cases h
    case len =>
      split at h
      · rename_i d T e1 e2
        obtain ⟨args⟩ := args
        obtain ⟨argTypes⟩ := argTypes
        simp only at e1 e2
        subst e2
        match args, e1 with
        | [a], e1 =>
          simp only [List.map_cons, List.map_nil, List.cons.injEq, and_true] at e1
          subst e1
          obtain ⟨n, h1, h2⟩ := len_sound (ty := type) T0 G hM (hev a) h
          exact ⟨_, _, h1, OpRes.pure G hM (v := .int .i64 (n : Int)) (by simp [resolve, invoke, builtin, Sem.run_bind, h2]) rfl⟩
      · cases h
    case max =>
      split at h
      · rename_i v l e1
        obtain ⟨args⟩ := args
        simp only at e1
        match args, e1 with
        | a :: as, e1 =>
          simp only [List.map_cons, List.cons.injEq] at e1
          obtain ⟨rfl, rfl⟩ := e1
          obtain ⟨y, v, h1, h2, h3⟩ := max_sound (P := P) _ _ _ _ (evs_VRs hev as) (hev a) h S.w
          exact ⟨_, _, h1, OpRes.pure G hM (v := v) (by simp [resolve, invoke, builtin, Builtin.max_, Sem.run_bind, h2]) h3⟩
      · cases h
    case min =>
      split at h
      · rename_i v l e1
        obtain ⟨args⟩ := args
        simp only at e1
        match args, e1 with
        | a :: as, e1 =>
          simp only [List.map_cons, List.cons.injEq] at e1
          obtain ⟨rfl, rfl⟩ := e1
          obtain ⟨y, v, h1, h2, h3⟩ := min_sound (P := P) _ _ _ _ (evs_VRs hev as) (hev a) h S.w
          exact ⟨_, _, h1, OpRes.pure G hM (v := v) (by simp [resolve, invoke, builtin, Builtin.min_, Sem.run_bind, h2]) h3⟩
      · cases h
end
end Go.Proofs.YtkenjojkpdeooaaGreatDoor.AI
end
section
set_option linter.unusedVariables false
set_option linter.unusedSimpArgs false
set_option linter.constructorNameAsVariable false
namespace Go.Proofs.YtkenjojkpdeooaaGreatDoor.AI

/-- S' says of f's images what S says. -/
structure Ren (TY : Ty) (f : Nat → Option Nat) (S S' : RS) : Prop where
  w : S'.w = S.w
  ok : ∀ b, S.ok b → S'.ok b
  to : ∀ o p, f o = some p → S.dom o → S'.dom p ∧ S'.μ p = S.μ o
theorem CR_ok {TY : Ty} {w : World} {ok ok' : Nat → Prop} (h : ∀ b, ok b → ok' b) {p : PV} {ck : CK} {v : Value} (hr : CR TY w ok p ck v) : CR TY w ok' p ck v := CR_mono h (fun _ _ => rfl) p ck v hr

mutual
theorem VR_ren {TY : Ty} {f : Nat → Option Nat} {S S' : RS} (R : Ren TY f S S') : ∀ (x : AV) (v : Value), VR TY S x v → VR TY S' (x.ren f) v
  | .undef, v, h => trivial
  | .int _ _, v, h => h
  | .bool _, v, h => h
  | .str _, v, h => h
  | .nils, v, h => h
  | .nilp, v, h => h
  | .nilf, v, h => h
  | .psl _ _ _, v, h => by
    have h' : CR TY S.w S.ok _ _ v := h
    rw [← R.w] at h'
    exact CR_ok R.ok h'
  | .agg cs, v, ⟨vs, e, h⟩ => ⟨vs, e, VRs_ren R cs _ h⟩
  | .tup cs, v, ⟨vs, e, h⟩ => ⟨vs, e, VRs_ren R cs _ h⟩
  | .fn g cs, v, ⟨vs, e, h⟩ => ⟨vs, e, VRs_ren R cs _ h⟩
  | .adr o i off, v, ⟨hd, h1, h⟩ => by
    simp only [AV.ren]
    cases hf : f o with
    | none => trivial
    | some p =>
      obtain ⟨h2, h3⟩ := R.to o p hf hd
      exact ⟨h2, by rw [h3]; exact h1, by rw [h3]; exact h⟩
  | .padr T off cell, v, ⟨b, a, e, hb, h⟩ => ⟨b, a, e, R.ok b hb, fun j ck hj => by
      obtain ⟨u, hu, hr⟩ := h j ck hj
      rw [← R.w] at hu hr
      exact ⟨u, hu, CR_ok R.ok hr⟩⟩
  | .row o, v, ⟨hd, h⟩ => by
    simp only [AV.ren]
    cases hf : f o with
    | none => trivial
    | some p =>
      obtain ⟨h2, h3⟩ := R.to o p hf hd
      exact ⟨h2, by rw [h3]; exact h⟩
  | .rowv o lo hi, v, ⟨hd, h⟩ => by
    simp only [AV.ren]
    cases hf : f o with
    | none => trivial
    | some p =>
      obtain ⟨h2, h3⟩ := R.to o p hf hd
      exact ⟨h2, by rw [h3]; exact h⟩
theorem VRs_ren {TY : Ty} {f : Nat → Option Nat} {S S' : RS} (R : Ren TY f S S') : ∀ (xs : List AV) (vs : List Value), VRs TY S xs vs → VRs TY S' (renL f xs) vs
  | [], [], h => trivial
  | [], _ :: _, h => h.elim
  | _ :: _, [], h => h.elim
  | x :: xs, v :: vs, ⟨h1, h2⟩ => ⟨VR_ren R x v h1, VRs_ren R xs vs h2⟩
end
theorem OR_ren {TY : Ty} {f : Nat → Option Nat} {S S' : RS} (R : Ren TY f S S') {l : Loc} {x : Ob} (h : OR TY S l x) : OR TY S' l (x.ren f) := by
  cases x with
  | box cs =>
    obtain ⟨hn, h1, h2, C, T, hc, hr⟩ := h
    exact ⟨hn, h1, h2, C, T, by rw [R.w]; exact hc, VRs_ren R _ _ hr⟩
  | prow T n g =>
    obtain ⟨h1, h2, h3, h4, h⟩ := h
    refine ⟨h1, h2, h3, h4, ?_⟩
    cases hn : l.nil <;> simp only [hn, if_true, Bool.false_eq_true, if_false] at h ⊢
    · obtain ⟨C, hc, hs, hx⟩ := h
      refine ⟨C, by rw [R.w]; exact hc, hs, fun i hi j ck hj => ?_⟩
      obtain ⟨u, hu, hr⟩ := hx i hi j ck hj
      rw [← R.w] at hr
      exact ⟨u, hu, CR_ok R.ok hr⟩
    · exact h
  | arow T n cs =>
    obtain ⟨h1, h2, h3, h4, h5, h⟩ := h
    have hlen : (renL f cs).length = cs.length := by
      clear h h5
      induction cs with
      | nil => rfl
      | cons c cs ih => simp [renL, ih]
    refine ⟨h1, h2, h3, h4, by rw [hlen]; exact h5, ?_⟩
    cases hn : l.nil <;> simp only [hn, if_true, Bool.false_eq_true, if_false] at h ⊢
    · obtain ⟨C, hc, hs, hx⟩ := h
      exact ⟨C, by rw [R.w]; exact hc, hs, VRs_ren R _ _ hx⟩
    · exact h
  | iter s p => exact ⟨h.1, h.2.1, h.2.2.1, by rw [R.w]; exact h.2.2.2⟩

/-! ### Names -/
theorem idx_get (o : Nat) : ∀ (l : List Nat) (i p : Nat), idx o l i = some p → ∃ j, p = i + j ∧ l[j]? = some o
  | [], i, p, h => by simp [idx] at h
  | a :: r, i, p, h => by
    simp only [idx, beq_cond] at h
    by_cases e : a = o
    · rw [if_pos e] at h
      cases h
      exact ⟨0, rfl, by simp [e]⟩
    · rw [if_neg e] at h
      obtain ⟨j, h1, h2⟩ := idx_get o r (i + 1) p h
      exact ⟨j + 1, by omega, by simpa using h2⟩
theorem pick_get (f : Nat → Option Nat) (m : Mem) : ∀ (l : List Nat) (p : Nat) (y : Ob), (pick_ f m l).get p = some y → ∃ o x, o ∈ l ∧ f o = some p ∧ m.get o = some x ∧ y = x.ren f
  | [], p, y, h => by simp [pick_, Mem.get] at h
  | o :: r, p, y, h => by
    simp only [pick_] at h
    split at h
    · rename_i q x h1 h2
      rw [get_cons] at h
      by_cases e : q = p
      · rw [if_pos e] at h
        cases h
        exact ⟨o, x, List.mem_cons_self, by rw [h1, e], h2, rfl⟩
      · rw [if_neg e] at h
        obtain ⟨o', x', h3, h4⟩ := pick_get f m r p y h
        exact ⟨o', x', List.mem_cons_of_mem _ h3, h4⟩
    · obtain ⟨o', x', h3, h4⟩ := pick_get f m r p y h
      exact ⟨o', x', List.mem_cons_of_mem _ h3, h4⟩
theorem get_append (a b : Mem) (q : Nat) : Mem.get (a ++ b) q = (match Mem.get a q with | some x => some x | none => Mem.get b q) := by
  induction a with
  | nil => simp [Mem.get]
  | cons p r ih =>
    obtain ⟨o, x⟩ := p
    rw [List.cons_append, get_cons, get_cons, ih]
    by_cases e : o = q
    · rw [if_pos e, if_pos e]
    · rw [if_neg e, if_neg e]
theorem get_dels (l : List Nat) : ∀ (m : Mem) (q : Nat), (m.dels l).get q = if q ∈ l then none else m.get q := by
  induction l with
  | nil => intro m q; simp [Mem.dels]
  | cons o r ih =>
    intro m q
    simp only [Mem.dels, ih, get_del, List.mem_cons]
    by_cases h1 : q ∈ r
    · simp [h1]
    · by_cases h2 : o = q
      · simp [h2]
      · have : q ≠ o := fun e => h2 e.symm
        simp [h1, h2, this]
theorem get_only (m : Mem) : ∀ (l : List Nat) (q : Nat), (only m l).get q = if q ∈ l then m.get q else none
  | [], q => by simp [only, Mem.get]
  | o :: r, q => by
    simp only [only]
    split
    · rename_i x hx
      rw [get_cons, get_only m r q]
      by_cases e : o = q
      · subst e; simp [hx]
      · have : q ≠ o := fun e' => e e'.symm
        simp [e, this]
    · rename_i hx
      rw [get_only m r q]
      by_cases e : q = o
      · subst e
        by_cases h : q ∈ r
        · simp [h]
        · simp [h, hx]
      · simp [e]
theorem meets_false {a b : List Nat} (h : meets a b = false) : ∀ x, x ∈ a → x ∉ b := by
  intro x ha hb
  have : meets a b = true := List.any_eq_true.2 ⟨x, ha, List.any_eq_true.2 ⟨x, hb, Nat.beq_refl x⟩⟩
  rw [h] at this
  cases this
end Go.Proofs.YtkenjojkpdeooaaGreatDoor.AI
end
section
set_option linter.unusedVariables false
set_option linter.unusedSimpArgs false
set_option linter.constructorNameAsVariable false
namespace Go.Proofs.YtkenjojkpdeooaaGreatDoor.AI

/-- S, of which only a part of the memory is looked at. -/
def RS.part (S : RS) (M : Nat → Option Ob) : RS := { S with M := M }
theorem Good.part {TY : Ty} {S : RS} (G : Good TY S) {M : Nat → Option Ob} (h : ∀ q y, M q = some y → S.M q = some y) : Good TY (S.part M) where
  dom o x hx := G.dom o x (h o x hx)
  obj o x hx := OR_ext (S := S) (S' := S.part M) ⟨fun _ h => h, fun _ _ => rfl, fun _ h => h, fun _ _ => rfl⟩ (fun _ => rfl) (G.obj o x (h o x hx))
  inj o o' x x' hx hx' := G.inj o o' x x' (h o x hx) (h o' x' hx')
  sep o x hx := G.sep o x (h o x hx)
  okb := G.okb
theorem VR_part {TY : Ty} {S : RS} {M : Nat → Option Ob} {x : AV} {v : Value} (h : VR TY S x v) : VR TY (S.part M) x v :=
  VR_ext (S := S) (S' := S.part M) ⟨fun _ h => h, fun _ _ => rfl, fun _ h => h, fun _ _ => rfl⟩ x v h
theorem VR_whole {TY : Ty} {S : RS} {M : Nat → Option Ob} {x : AV} {v : Value} (h : VR TY (S.part M) x v) : VR TY S x v :=
  VR_ext (S := S.part M) (S' := S) ⟨fun _ h => h, fun _ _ => rfl, fun _ h => h, fun _ _ => rfl⟩ x v h

/-- The part moved; what lies beside it is as it was. 'W': of the part only this was written. -/
theorem frame {TY : Ty} {S S1 : RS} (G : Good TY S) {M : Nat → Option Ob} (hM : ∀ q y, M q = some y → S.M q = some y) (m1 : Mv TY (S.part M) S1) (N : Nat → Option Ob)
    (hN : ∀ q y, N q = some y → (S1.M q = some y) ∨ (S.dom q ∧ S.M q = some y ∧ ((S.μ q).nil = false → S1.w.heap[(S.μ q).blk]? = S.w.heap[(S.μ q).blk]? ∧ ¬ S1.ok (S.μ q).blk ∧ ∀ q' y', S1.M q' = some y' → ¬ S.dom q' → (S1.μ q').nil = false → (S1.μ q').blk ≠ (S.μ q).blk))) :
    Mv TY S (S1.part N) := by
  have hE : Ext TY S (S1.part N) := ⟨m1.ext.ok, m1.ext.w, m1.ext.dom, m1.ext.μ⟩
  have hE1 : Ext TY S1 (S1.part N) := ⟨fun _ h => h, fun _ _ => rfl, fun _ h => h, fun _ _ => rfl⟩
  have hB : ∀ b, Blks (S.part M) b → Blks S b := fun b ⟨o, x, hx, h1, h2⟩ => ⟨o, x, hM o x hx, h1, h2⟩
  have hμ : ∀ q, S.dom q → S1.μ q = S.μ q := m1.ext.μ
  have old1 : ∀ q y, S1.M q = some y → S.dom q → ∃ x, S.M q = some x := fun q y h hd => by
    obtain ⟨x, hx⟩ := m1.old q y hd h
    exact ⟨x, hM q x hx⟩
  have apart : ∀ q y q' y', S1.M q = some y → S.dom q' → S.M q' = some y' → (S1.μ q).nil = false → (S.μ q').nil = false → (∀ q2 y2, S1.M q2 = some y2 → ¬ S.dom q2 → (S1.μ q2).nil = false → (S1.μ q2).blk ≠ (S.μ q').blk) → (S1.μ q).blk = (S.μ q').blk → q = q' := by
    intro q y q' y' h hd' h' h1 h2 h3 h4
    by_cases hd : S.dom q
    · obtain ⟨x, hx⟩ := old1 q y h hd
      rw [hμ q hd] at h1 h4
      exact G.inj q q' x y' hx h' h1 h2 h4
    · exact absurd h4 (h3 q y h hd h1)
  refine ⟨hE, ⟨?_, ?_, ?_, ?_, m1.good.okb⟩, m1.fr.mono hB, fun b hb => ?_, ?_, ?_⟩
  · intro q y h
    rcases hN q y h with h | ⟨hd, h, _⟩
    · exact m1.good.dom q y h
    · exact m1.ext.dom q hd
  · intro q y h
    rcases hN q y h with h | ⟨hd, h, hw⟩
    · exact OR_ext hE1 (fun _ => rfl) (m1.good.obj q y h)
    · show OR TY (S1.part N) (S1.μ q) y
      rw [hμ q hd]
      exact OR_ext hE (fun hn => (hw hn).1) (G.obj q y h)
  · intro q q' y y' h h' h1 h2 h3
    rcases hN q y h with h | ⟨hd, h, hw⟩ <;> rcases hN q' y' h' with h' | ⟨hd', h', hw'⟩
    · exact m1.good.inj q q' y y' h h' h1 h2 h3
    · have h2' : (S1.μ q').nil = false := h2
      have h3' : (S1.μ q).blk = (S1.μ q').blk := h3
      rw [hμ q' hd'] at h2' h3'
      exact apart q y q' y' h hd' h' h1 h2' (hw' h2').2.2 h3'
    · have h1' : (S1.μ q).nil = false := h1
      have h3' : (S1.μ q).blk = (S1.μ q').blk := h3
      rw [hμ q hd] at h1' h3'
      exact (apart q' y' q y h' hd h h2 h1' (hw h1').2.2 h3'.symm).symm
    · have h1' : (S1.μ q).nil = false := h1
      have h2' : (S1.μ q').nil = false := h2
      have h3' : (S1.μ q).blk = (S1.μ q').blk := h3
      rw [hμ q hd] at h1' h3'
      rw [hμ q' hd'] at h2' h3'
      exact G.inj q q' y y' h h' h1' h2' h3'
  · intro q y h h1
    rcases hN q y h with h | ⟨hd, h, hw⟩
    · exact m1.good.sep q y h h1
    · have h1' : (S1.μ q).nil = false := h1
      show ¬ S1.ok (S1.μ q).blk
      rw [hμ q hd] at h1' ⊢
      exact (hw h1').2.1
  · rcases m1.ok' b hb with h | h | h
    · exact .inl h
    · exact .inr (.inl (hB b h))
    · exact .inr (.inr h)
  · rintro b ⟨q, y, h, h1, rfl⟩
    rcases hN q y h with h | ⟨hd, h, hw⟩
    · rcases m1.blk' _ ⟨q, y, h, h1, rfl⟩ with h2 | h2
      · exact .inl (hB _ h2)
      · exact .inr h2
    · left
      have h1' : (S1.μ q).nil = false := h1
      rw [hμ q hd] at h1'
      exact ⟨q, y, h, h1', by show (S.μ q).blk = (S1.μ q).blk; rw [hμ q hd]⟩
  · intro q y hd h
    rcases hN q y h with h | ⟨_, h, _⟩
    · exact old1 q y h hd
    · exact ⟨y, h⟩
end Go.Proofs.YtkenjojkpdeooaaGreatDoor.AI
end
section
set_option linter.unusedVariables false
set_option linter.unusedSimpArgs false
set_option linter.constructorNameAsVariable false
namespace Go.Proofs.YtkenjojkpdeooaaGreatDoor.AI

theorem get_mem : ∀ {m : Mem} {o : Nat} {x : Ob}, m.get o = some x → o ∈ m.map (·.1)
  | [], o, x, h => by simp [Mem.get] at h
  | (a, y) :: r, o, x, h => by
    rw [get_cons] at h
    by_cases e : a = o
    · simp [e]
    · rw [if_neg e] at h
      exact List.mem_cons_of_mem _ (get_mem h)
theorem gone_ok {TY : Ty} {S S' : RS} {m m' : Mem} (G : Good TY S) (hM : S.M = m.get) (F : Froze TY S S' m m') : ∀ b, S'.ok b → S.ok b ∨ OwnIn S (gone m m') b := by
  intro b hb
  rcases F.mv.ok' b hb with h | ⟨o, x, hx, hn, rfl⟩ | h
  · exact .inl h
  · refine .inr ⟨o, ?_, x, hx, hn, rfl⟩
    unfold gone
    rw [List.mem_filter]
    refine ⟨get_mem (by rw [← hM]; exact hx), ?_⟩
    cases hg : m'.get o with
    | none => rfl
    | some y =>
      have h1 := F.mv.good.sep o y (by rw [F.M]; exact hg) (by rw [F.μ]; exact hn)
      rw [F.μ] at h1
      exact absurd hb h1
  · have := F.mv.good.okb b hb
    rw [F.w] at this
    omega

/-- S, some of whose rows may be looked at by what is called. -/
def lend (S : RS) (l : List Nat) : RS := { S with ok := fun b => S.ok b ∨ OwnIn S l b }
theorem OwnIn.mono {S : RS} {l l' : List Nat} (h : ∀ o, o ∈ l → o ∈ l') {b : Nat} : OwnIn S l b → OwnIn S l' b := fun ⟨o, h1, h2⟩ => ⟨o, h o h1, h2⟩
theorem VR_lend {TY : Ty} {S : RS} {l : List Nat} {x : AV} {v : Value} (h : VR TY S x v) : VR TY (lend S l) x v :=
  VR_ext (S := S) (S' := lend S l) ⟨fun _ h => .inl h, fun _ _ => rfl, fun _ h => h, fun _ _ => rfl⟩ x v h
theorem VR_lends {TY : Ty} {S : RS} {l l' : List Nat} (hl : ∀ o, o ∈ l → o ∈ l') {x : AV} {v : Value} (h : VR TY (lend S l) x v) : VR TY (lend S l') x v :=
  VR_ext (S := lend S l) (S' := lend S l') ⟨fun _ h => h.imp id (OwnIn.mono hl), fun _ _ => rfl, fun _ h => h, fun _ _ => rfl⟩ x v h
theorem VRs_lends {TY : Ty} {S : RS} {l l' : List Nat} (hl : ∀ o, o ∈ l → o ∈ l') {x : List AV} {v : List Value} (h : VRs TY (lend S l) x v) : VRs TY (lend S l') x v :=
  VRs_ext (S := lend S l) (S' := lend S l') ⟨fun _ h => h.imp id (OwnIn.mono hl), fun _ _ => rfl, fun _ h => h, fun _ _ => rfl⟩ x v h
section
variable {C : Ctx} {S : RS}
theorem snapCell_sound (G : Good C.TY S) {m : Mem} (hM : S.M = m.get) {c : CK} {v x : AV} {u : Value} {l : List Nat} (h : snapCell C m c v = some (x, l)) (hv : VR C.TY S v u) : VR C.TY (lend S l) x u := by
  unfold snapCell at h
  split at h
  · rename_i E
    split at h
    · cases h
      exact ⟨none, 0, hv, Nat.le_refl _, fun h => absurd h (Nat.lt_irrefl _)⟩
    · rename_i E' n g
      cases h
      exact VR_lend hv
    · rename_i o
      split at h
      · rename_i p m' hf
        cases h
        obtain ⟨S', F, hr⟩ := frz_sound depth S m m' _ _ u p G hM hv hf
        have : CR C.TY (lend S (gone m m')).w (lend S (gone m m')).ok p (.sl E) u := by
          rw [F.w] at hr
          exact CR_ok (gone_ok G hM F) hr
        exact ofPV_VR this
      · cases h
    · rename_i o lo hi
      split at h
      · rename_i E' n g hg
        replace h := ite_some h; obtain ⟨he, h⟩ := h
        obtain rfl := nat_beq he
        cases h
        obtain ⟨hd, k1, k2, A, cc, rfl, k3, k4⟩ := hv
        have hSo : S.M o = some (.prow E n g) := by rw [hM]; exact hg
        obtain ⟨h1, h2, h3, h4, h5⟩ := G.obj o _ hSo
        refine ⟨A, cc, rfl, k3, fun h0 => ?_⟩
        have hn : (S.μ o).nil = false := by
          cases hn : (S.μ o).nil with
          | false => rfl
          | true => simp only [hn, if_true] at h5; omega
        simp only [hn, Bool.false_eq_true, if_false] at h5
        obtain ⟨D, hD, hDs, hcell⟩ := h5
        refine ⟨_, _, k4 (by omega), .inr ⟨o, List.mem_singleton_self o, _, hSo, hn, rfl⟩, fun i hi j ck hj => ?_⟩
        obtain ⟨w, hw, hr⟩ := hcell (lo + i) (by omega) j ck hj
        refine ⟨w, ?_, CR_ok (ok' := (lend S [o]).ok) (fun _ h => .inl h) hr⟩
        show S.w.cell? _ = _
        rw [cell_of_heap hD, ← hw, h2]
        congr 1
        rw [Nat.add_mul]
        omega
      · cases h
    · cases h
  · cases h
    exact VR_lend hv
theorem snapCells_sound (G : Good C.TY S) {m : Mem} (hM : S.M = m.get) : ∀ {cs : List CK} {vs xs : List AV} {us : List Value} {l : List Nat}, snapCells C m cs vs = some (xs, l) → VRs C.TY S vs us → VRs C.TY (lend S l) xs us
  | [], [], xs, [], l, h, _ => by
    simp only [snapCells, Option.some.injEq, Prod.mk.injEq] at h
    obtain ⟨rfl, rfl⟩ := h
    trivial
  | _, [], _, _ :: _, _, _, h => h.elim
  | _, _ :: _, _, [], _, _, h => h.elim
  | [], _ :: _, _, _, _, h, _ => by simp [snapCells] at h
  | _ :: _, [], _, [], _, h, _ => by simp [snapCells] at h
  | c :: cs, v :: vs, xs, u :: us, l, h, ⟨h1, h2⟩ => by
    simp only [snapCells] at h
    split at h
    · rename_i x l1 hx
      split at h
      · rename_i xs' ls hxs
        simp only [Option.some.injEq, Prod.mk.injEq] at h
        obtain ⟨rfl, rfl⟩ := h
        exact ⟨VR_lends (fun o h => List.mem_append_left _ h) (snapCell_sound G hM hx h1), VRs_lends (fun o h => List.mem_append_right _ h) (snapCells_sound G hM hxs h2)⟩
      · cases h
    · cases h
theorem snapArg_sound (G : Good C.TY S) {m : Mem} (hM : S.M = m.get) {T : TypeId} {v x : AV} {u : Value} {l : List Nat} (h : snapArg C m T v = some (x, l)) (hv : VR C.TY S v u) : VR C.TY (lend S l) x u := by
  unfold snapArg at h
  split at h
  · split at h
    · rename_i cs xs l' hx
      cases h
      obtain ⟨vs, rfl, hr⟩ := hv
      exact ⟨vs, rfl, snapCells_sound G hM hx hr⟩
    · cases h
  · exact snapCell_sound G hM h hv
end
end Go.Proofs.YtkenjojkpdeooaaGreatDoor.AI
end
section
set_option linter.unusedVariables false
set_option linter.unusedSimpArgs false
set_option linter.constructorNameAsVariable false
namespace Go.Proofs.YtkenjojkpdeooaaGreatDoor.AI
section
variable {C : Ctx}
/-- S1 is S and some new empty rows. -/
structure More (TY : Ty) (lo hi : Nat) (S S1 : RS) : Prop where
  w : S1.w = S.w
  ok : S1.ok = S.ok
  mv : Mv TY S S1
  nw : Nw lo hi S S1
  keep : ∀ q x, S.M q = some x → S1.M q = some x
  nil : ∀ q y, S1.M q = some y → ¬ S.dom q → (S1.μ q).nil = true
theorem More.refl {TY : Ty} {lo hi : Nat} {S : RS} (G : Good TY S) : More TY lo hi S S := ⟨rfl, rfl, Mv.refl G, fun _ h => .inl h, fun _ _ h => h, fun q y h hd => absurd (G.dom q y h) hd⟩
theorem More.trans {TY : Ty} {lo hi : Nat} {A B D : RS} (h : More TY lo hi A B) (k : More TY lo hi B D) : More TY lo hi A D :=
  ⟨k.w.trans h.w, k.ok.trans h.ok, h.mv.trans k.mv, h.nw.trans k.nw, fun q x hx => k.keep q x (h.keep q x hx), fun q y hq hd => by
    by_cases e : B.dom q
    · obtain ⟨x, hx⟩ := k.mv.old q y e hq
      rw [k.mv.ext.μ q e]
      exact h.nil q x hx hd
    · exact k.nil q y hq e⟩
theorem More.lend {TY : Ty} {lo hi : Nat} {S S1 : RS} (G : Good TY S) (h : More TY lo hi S S1) (l : List Nat) : Ext TY (lend S l) (lend S1 l) where
  ok b hb := by
    rcases hb with hb | ⟨o, h1, x, hx, hn, e⟩
    · exact .inl (by rw [h.ok]; exact hb)
    · have hd := G.dom o x hx
      exact .inr ⟨o, h1, x, h.keep o x hx, by rw [h.mv.ext.μ o hd]; exact hn, by rw [h.mv.ext.μ o hd]; exact e⟩
  w b _ := by show S1.w.heap[b]? = S.w.heap[b]?; rw [h.w]
  dom := h.mv.ext.dom
  μ := h.mv.ext.μ
theorem snapArgs_sound (own : List Nat) (id : Nat) : ∀ (Ts : List TypeId) (i : Nat) (vs : List AV) (us : List Value) (m m1 : Mem) (xs : List AV) (l : List Nat) (S : RS), Good C.TY S → S.M = m.get → (∀ q, id + 8 + i ≤ q → q < id + 16 → ¬ S.dom q) → VRs C.TY S vs us →
    snapArgs C own id i Ts vs m = some (xs, l, m1) → ∃ S1, More C.TY (id + 8) (id + 16) S S1 ∧ S1.M = m1.get ∧ VRs C.TY (lend S1 l) xs us
  | [], i, vs, us, m, m1, xs, l, S, G, hM, hid, hv, h => by
    cases vs <;> simp only [snapArgs, Option.some.injEq, Prod.mk.injEq] at h <;> obtain ⟨rfl, rfl, rfl⟩ := h <;>
      exact ⟨S, More.refl G, hM, VRs_ext (S := S) (S' := lend S []) ⟨fun _ h => .inl h, fun _ _ => rfl, fun _ h => h, fun _ _ => rfl⟩ _ _ hv⟩
  | T :: Ts, i, [], us, m, m1, xs, l, S, G, hM, hid, hv, h => by simp [snapArgs] at h
  | T :: Ts, i, v :: vs, [], m, m1, xs, l, S, G, hM, hid, hv, h => hv.elim
  | T :: Ts, i, v :: vs, u :: us, m, m1, xs, l, S, G, hM, hid, ⟨hv, hvs⟩, h => by
    have rest : ∀ {m1 : Mem} {xs : List AV} {l : List Nat}, snapArgs C own id (i + 1) Ts vs m = some (xs, l, m1) → ∃ S1, More C.TY (id + 8) (id + 16) S S1 ∧ S1.M = m1.get ∧ VRs C.TY (lend S1 l) xs us := fun h =>
      snapArgs_sound own id Ts (i + 1) vs us m _ _ _ S G hM (fun q a b => hid q (by omega) b) hvs h
    unfold snapArgs at h
    split at h
    · rename_i ho
      simp only [Bool.and_eq_true] at ho
      have hi : i < 8 := by
        have := ho.2
        simp only [Nat.blt] at this
        have := Nat.le_of_ble_eq_true this
        omega
      split at h
      · split at h
        · rename_i xs' l' m' hr
          simp only [Option.some.injEq, Prod.mk.injEq] at h
          obtain ⟨rfl, rfl, rfl⟩ := h
          obtain rfl : u = .slice none 0 0 := hv
          obtain ⟨S', e1, e2, e3, e4, e5, M, Nn⟩ := mv_new (id := id + 8 + i) G hM (hid _ (Nat.le_refl _) (by omega)) (.prow (match (C.TY T).k with | .slice E => E | _ => 0) 0 (fun _ _ => .bad)) S.w
            ⟨0, 0, true, (C.TY (match (C.TY T).k with | .slice E => E | _ => 0)).cks.length, 0⟩ (fun h => by cases h) (Fr.refl _ _) (fun S' E' hw hok => ⟨rfl, rfl, Nat.le_refl _, Nat.zero_le _, by simp⟩)
          have hmore : More C.TY (id + 8) (id + 16) S S' := ⟨e1, e5, M, Nn.wider (by omega) (by omega), fun q x hx => by
            rw [e2, get_add, if_neg (fun e => by subst e; exact hid _ (Nat.le_refl _) (by omega) (G.dom _ _ hx)), ← hM]
            exact hx, fun q y hq hd => by
            rcases Nn q (M.good.dom q y hq) with h | h
            · exact absurd h hd
            · obtain rfl : q = id + 8 + i := by omega
              rw [e3]⟩
          obtain ⟨S1, k1, k2, k3⟩ := snapArgs_sound own id Ts (i + 1) vs us _ m' xs' l' S' M.good e2 (fun q a b hd => by
            rcases Nn q hd with h | h
            · exact hid q (by omega) b h
            · omega) (VRs_ext M.ext _ _ hvs) hr
          refine ⟨S1, hmore.trans k1, k2, ⟨?_, k3⟩⟩
          have hd : S1.dom (id + 8 + i) := k1.mv.ext.dom _ e4
          refine ⟨hd, ?_⟩
          show _ = (S1.μ (id + 8 + i)).slice
          rw [k1.mv.ext.μ _ e4, e3]
          rfl
        · cases h
      · split at h
        · rename_i xs' l' m' hr
          simp only [Option.some.injEq, Prod.mk.injEq] at h
          obtain ⟨rfl, rfl, rfl⟩ := h
          obtain ⟨S1, k1, k2, k3⟩ := rest hr
          exact ⟨S1, k1, k2, ⟨VR_lend (VR_ext k1.mv.ext _ _ hv), k3⟩⟩
        · cases h
    · split at h
      · rename_i x l1 hx
        split at h
        · rename_i xs' l' m' hr
          simp only [Option.some.injEq, Prod.mk.injEq] at h
          obtain ⟨rfl, rfl, rfl⟩ := h
          obtain ⟨S1, k1, k2, k3⟩ := rest hr
          refine ⟨S1, k1, k2, ⟨VR_lends (fun o h => List.mem_append_left _ h) (VR_ext (k1.lend G l1) _ _ (snapArg_sound G hM hx hv)), VRs_lends (fun o h => List.mem_append_right _ h) k3⟩⟩
        · cases h
      · cases h
end
end Go.Proofs.YtkenjojkpdeooaaGreatDoor.AI
end
