/- The interpreter as a maker of conditions: callees and whole loops by what is asked and what is told of them. · What is made of conditions is a run. · What is made of conditions is what the machine does: layers of callees and loops. -/
import Derived.Test.YtkenjojkpdeooaaGreatDoorM5
section
set_option linter.unusedVariables false
set_option linter.unusedSimpArgs false
set_option linter.constructorNameAsVariable false
namespace Go.Proofs.YtkenjojkpdeooaaGreatDoor.AI

def optW {α : Type} (o : Option α) (K : α → Prop) : Prop := match o with | some a => K a | none => False
def brW (b : Bool) (P Q : Prop) : Prop := match b with | true => P | false => Q
theorem optW_iff {α : Type} {o : Option α} {K : α → Prop} (h : optW o K) : ∃ a, o = some a ∧ K a := by
  cases o with
  | none => exact h.elim
  | some a => exact ⟨a, rfl, h⟩
/-- What holds, where there is anything. -/
def holds (o : Option Prop) : Prop := match o with | some p => p | none => False
theorem holds_iff {o : Option Prop} (h : holds o) : ∃ p, o = some p ∧ p := by
  cases o with
  | none => exact h.elim
  | some p => exact ⟨p, rfl, h⟩
/-- A truth value is looked at where it is made. -/
def splitV (v : AV) (K : AV → Prop) : Prop := match v with | .bool b => brW b (K (.bool true)) (K (.bool false)) | v => K v
theorem splitV_iff {v : AV} {K : AV → Prop} (h : splitV v K) : K v := by
  cases v with
  | bool b => cases b <;> exact h
  | _ => exact h
abbrev CallW := FuncId → List AV → Mem → (AV → Mem → Prop) → Prop
abbrev LoopW := FuncId → Nat → Nat → FS → (Ex → FS → Prop) → Prop

section
variable (C : Ctx) (cw : CallW) (lw : LoopW)
def callW (ro : Option (List Nat)) (f : FuncId) (args : List AV) (id : Nat) (m : Mem) (K : AV → Mem → Prop) : Prop :=
  optW (C.ft f) fun fn => optW (snapArgs C (C.own f).params id 0 fn.params.toList args m) fun p =>
    let ids := reach p.2.2 reachFuel (refsL p.1) []
    let fin := fun o => idx o ids 0
    brW (Nat.beq (pick_ fin p.2.2 ids).length ids.length && !meets ids p.2.1)
      (cw f (renL fin p.1) (pick_ fin p.2.2 ids) fun r m' =>
        brW (r.plain && ids.isEmpty) (K r p.2.2)
          (brW ro.isSome False
            (K (r.ren fun o => if Nat.blt o ids.length then ids[o]? else (if Nat.blt (o - ids.length) 7 then some (id + 1 + (o - ids.length)) else none))
              (pick_ (fun o => if Nat.blt o ids.length then ids[o]? else (if Nat.blt (o - ids.length) 7 then some (id + 1 + (o - ids.length)) else none)) m' (m'.map (·.1)) ++ (p.2.2.dels ids).dels p.2.1))))
      False
def stepW (ro : Option (List Nat)) (o : Oper) (id : Nat) (e : Env) (m : Mem) (K : AV → Mem → Prop) : Prop :=
  match o.op with
  | .pick c a b => (match eval e c with
     | .bool t => (match t with | true => K (eval e a) m | false => K (eval e b) m)
     | _ => False)
  | .call c =>
    (match c.callee with
     | .value f => (match eval e f with
       | .fn g cap =>
         (match C.nat g with
          | some F => optW (F (c.args.toList.map (eval e) ++ cap)) fun v => K v m
          | none => callW C cw ro g (c.args.toList.map (eval e) ++ cap) id m K)
       | _ => False)
     | _ => brW (mayRun ro o.op (eval e) m) (holds (opK C o.type o.op id (eval e) m fun v m => some (K v m))) False)
  | _ => brW (mayRun ro o.op (eval e) m) (holds (opK C o.type o.op id (eval e) m fun v m => some (K v m))) False
def guardW (ro : Option (List Nat)) (ops : Array Oper) (o : Oper) (id : Nat) (e : Env) (m : Mem) (K : AV → Mem → Prop) : Prop :=
  match o.guard with
  | none => stepW C cw ro o id e m K
  | some (g, want) =>
    match (ops[g]?).bind (·.dst) with
    | none => False
    | some t =>
      match e.get t with
      | .bool b => brW b (match want with | true => stepW C cw ro o id e m K | false => K (.tup []) m) (match want with | false => stepW C cw ro o id e m K | true => K (.tup []) m)
      | .tup [] => K (.tup []) m
      | _ => False
def opsW (ops : Array Oper) : List Oper → Nat → Env → Mem → (Env → Mem → Prop) → Prop
  | [], _, e, m, K => K e m
  | o :: r, id, e, m, K => guardW C cw none ops o id e m fun v m' => splitV v fun v => opsW ops r (id + 16) (putT o.dst v e) m' K
def opsLogW (ops : Array Oper) : List Oper → Nat → Env → Mem → List (List Nat × List Nat) → (Env → Mem → List (List Nat × List Nat) → Prop) → Prop
  | [], _, e, m, log, K => K e m log
  | o :: r, id, e, m, log, K =>
    let fo := foot C o (eval e) m
    guardW C cw (roOf fo) ops o id e (only m (fo.1 ++ fo.2)) fun v m' => splitV v fun v => opsLogW ops r (id + 16) (putT o.dst v e) (merge fo id m m') (log ++ [fo]) K
def regionW (ops : Array Oper) (draw : Bool) (e : Env) (m : Mem) (nx : Nat) (K : Env → Mem → Prop) : Prop :=
  match draw with
  | false => opsW C cw ops ops.toList nx e m K
  | true => opsLogW C cw ops ops.toList nx e m [] fun e' m' log => brW (okLog ops nx log) (K e' m') False
def execW (f : FuncId) (base : Nat) : Code → Env → Mem → Nat → (Ex → Env → Mem → Nat → Prop) → Prop
  | .skip, e, m, nx, K => K .normal e m nx
  | .label _, e, m, nx, K => K .normal e m nx
  | .region _ ops draw, e, m, nx, K => regionW C cw ops draw e m nx fun e' m' => K .normal e' m' (nx + 16 * ops.size)
  | .seq a b, e, m, nx, K => execW f base a e m nx fun x e m nx => match x with | .normal => execW f base b e m nx K | x => K x e m nx
  | .cond c a b, e, m, nx, K =>
    (match eval e c with
     | .bool t => brW t (execW f base a e m nx K) (execW f base b e m nx K)
     | _ => False)
  | .block id b, e, m, nx, K => execW f base b e m nx fun x e m nx => match x with | .exit i => (match Nat.beq i id with | true => K .normal e m nx | false => K (.exit i) e m nx) | x => K x e m nx
  | .loop b, e, m, nx, K =>
    lw f (firstRegion b) base (match C.hint f (firstRegion b) with | some h => norm h base ⟨e, m, nx⟩ | none => ⟨e, m, nx⟩) fun x s => K x s.tmps s.mem s.nx
  | .exit id, e, m, nx, K => K (.exit id) e m nx
  | .ret, e, m, nx, K => K .ret e m nx
  | _, _, _, _, _ => False
def runW (f : FuncId) (args : List AV) (m : Mem) (Q : AV → Mem → Prop) : Prop :=
  optW (C.ft f) fun fn => optW fn.body fun b =>
    brW (Nat.ble args.length fn.ntmps)
      (execW C cw lw f m.length b (number 0 args) m m.length fun x e m' nx =>
        match x with
        | .normal => optW (finish C f fn m.length ⟨e, m', nx⟩) fun p => Q p.1 p.2
        | .ret => optW (finish C f fn m.length ⟨e, m', nx⟩) fun p => Q p.1 p.2
        | _ => False) False
end
end Go.Proofs.YtkenjojkpdeooaaGreatDoor.AI
end
section
set_option linter.unusedVariables false
set_option linter.unusedSimpArgs false
set_option linter.constructorNameAsVariable false
namespace Go.Proofs.YtkenjojkpdeooaaGreatDoor.AI

section
variable {C : Ctx} {cw : CallW} {lw : LoopW} {L : Loops} {call : FuncId → List AV → Mem → Option (AV × Mem)}
/-- The callees answer as is told. -/
def CallFit (cw : CallW) (call : FuncId → List AV → Mem → Option (AV × Mem)) : Prop := ∀ f xs m K, cw f xs m K → ∃ r m', call f xs m = some (r, m') ∧ K r m'
theorem callW_run (hc : CallFit cw call) {ro : Option (List Nat)} {f : FuncId} {args : List AV} {id : Nat} {m : Mem} {K : AV → Mem → Prop} (h : callW C cw ro f args id m K) : ∃ p, callO C call ro f args id m = some p ∧ K p.1 p.2 := by
  unfold callW at h
  obtain ⟨fn, hfn, h⟩ := optW_iff h
  obtain ⟨⟨xs, lent, m1⟩, hs, h⟩ := optW_iff h
  dsimp only at h
  generalize hids : reach m1 reachFuel (refsL xs) [] = ids at h
  cases hb : (Nat.beq (pick_ (fun o => idx o ids 0) m1 ids).length ids.length && !meets ids lent)
  · rw [hb] at h; exact h.elim
  · rw [hb] at h
    obtain ⟨r, m', hr, h⟩ := hc _ _ _ _ h
    unfold callO callK
    rw [hfn]
    dsimp only
    rw [hs]
    dsimp only
    rw [hids, if_pos hb, hr]
    dsimp only
    cases hp : (r.plain && ids.isEmpty)
    · rw [hp] at h
      rw [if_neg (by simp)]
      cases hro : ro.isSome
      · rw [hro] at h
        rw [if_neg (by simp)]
        exact ⟨_, rfl, h⟩
      · rw [hro] at h; exact h.elim
    · rw [hp] at h
      rw [if_pos rfl]
      exact ⟨_, rfl, h⟩
theorem opW_run {ro : Option (List Nat)} {o : Oper} {id : Nat} {e : Env} {m : Mem} {K : AV → Mem → Prop} (h : brW (mayRun ro o.op (eval e) m) (holds (opK C o.type o.op id (eval e) m fun v m => some (K v m))) False) :
    ∃ p, (if mayRun ro o.op (eval e) m then opO C o.type o.op id (eval e) m else none) = some p ∧ K p.1 p.2 := by
  cases hm : mayRun ro o.op (eval e) m
  · rw [hm] at h; exact h.elim
  · rw [hm] at h
    obtain ⟨q, hq, h⟩ := holds_iff h
    rw [op_nat, Option.bind_eq_some_iff] at hq
    obtain ⟨p, hp, hq⟩ := hq
    cases hq
    rw [if_pos rfl]
    exact ⟨p, hp, h⟩
theorem stepW_run (hc : CallFit cw call) {ro : Option (List Nat)} {o : Oper} {id : Nat} {e : Env} {m : Mem} {K : AV → Mem → Prop} (h : stepW C cw ro o id e m K) : ∃ p, stepO C call ro o id e m = some p ∧ K p.1 p.2 := by
  obtain ⟨dst, op, type, pos, after, guard⟩ := o
  unfold stepW at h
  unfold stepO
  cases op
  case pick c a b =>
    dsimp only at h ⊢
    cases hv : eval e c <;> rw [hv] at h <;> first | exact h.elim | skip
    rename_i t
    cases t
    · exact ⟨_, rfl, h⟩
    · exact ⟨_, rfl, h⟩
  case call c =>
    obtain ⟨callee, args, argTypes⟩ := c
    cases callee
    case value f =>
      dsimp only at h ⊢
      cases hf : eval e f <;> rw [hf] at h <;> first | exact h.elim | skip
      rename_i g cap
      dsimp only at h ⊢
      cases hn : C.nat g with
      | some F =>
        rw [hn] at h
        dsimp only at h ⊢
        obtain ⟨v, hv, h⟩ := optW_iff h
        rw [hv]
        exact ⟨_, rfl, h⟩
      | none =>
        rw [hn] at h
        exact callW_run hc h
    all_goals exact opW_run h
  all_goals exact opW_run h
theorem guardW_run (hc : CallFit cw call) {ro : Option (List Nat)} {ops : Array Oper} {o : Oper} {id : Nat} {e : Env} {m : Mem} {K : AV → Mem → Prop} (h : guardW C cw ro ops o id e m K) : ∃ p, guardO C call ro ops o id e m = some p ∧ K p.1 p.2 := by
  unfold guardW at h
  unfold guardO
  cases hg : o.guard with
  | none => rw [hg] at h; exact stepW_run hc h
  | some q =>
    obtain ⟨g, want⟩ := q
    rw [hg] at h
    dsimp only at h ⊢
    cases ht : (ops[g]?).bind (·.dst) with
    | none => rw [ht] at h; exact h.elim
    | some t =>
      rw [ht] at h
      dsimp only at h ⊢
      cases hv : e.get t <;> rw [hv] at h <;> first | exact h.elim | skip
      case bool b =>
        dsimp only at h ⊢
        cases b <;> cases want <;> simp only [brW] at h <;> first
          | (rw [if_pos rfl]; exact stepW_run hc h)
          | (rw [if_neg (by decide)]; exact ⟨_, rfl, h⟩)
      case tup cs =>
        cases cs <;> first | exact h.elim | exact ⟨_, rfl, h⟩
theorem opsW_run (hc : CallFit cw call) {ops : Array Oper} : ∀ (l : List Oper) (id : Nat) (s : FS) (K : Env → Mem → Prop), opsW C cw ops l id s.tmps s.mem K → ∃ e m, (∀ {α : Type} (k : FS → Option α), opsK C call ops l id s k = k ⟨e, m, s.nx⟩) ∧ K e m
  | [], id, s, K, h => ⟨s.tmps, s.mem, fun k => rfl, h⟩
  | o :: l, id, s, K, h => by
    obtain ⟨p, hp, h⟩ := guardW_run hc h
    have h := splitV_iff h
    obtain ⟨e, m, h1, h2⟩ := opsW_run hc l (id + 16) (s.put o.dst p.1 p.2) K (by rw [put_tmps, put_mem]; exact h)
    refine ⟨e, m, fun k => ?_, h2⟩
    simp only [opsK, guard_nat, hp, Option.bind_some]
    rw [h1, put_nx]
theorem opsLogW_run (hc : CallFit cw call) {ops : Array Oper} : ∀ (l : List Oper) (id : Nat) (s : FS) (log : List (List Nat × List Nat)) (K : Env → Mem → List (List Nat × List Nat) → Prop), opsLogW C cw ops l id s.tmps s.mem log K → ∃ e m lg, (∀ {α : Type} (k : FS → List (List Nat × List Nat) → Option α), opsLogK C call ops l id s log k = k ⟨e, m, s.nx⟩ lg) ∧ K e m lg
  | [], id, s, log, K, h => ⟨s.tmps, s.mem, log, fun k => rfl, h⟩
  | o :: l, id, s, log, K, h => by
    simp only [opsLogW] at h
    obtain ⟨p, hp, h⟩ := guardW_run hc h
    have h := splitV_iff h
    obtain ⟨e, m, lg, h1, h2⟩ := opsLogW_run hc l (id + 16) ⟨putT o.dst p.1 s.tmps, merge (foot C o (eval s.tmps) s.mem) id s.mem p.2, s.nx⟩ _ K h
    refine ⟨e, m, lg, fun k => ?_, h2⟩
    simp only [opsLogK, guard_nat, hp, Option.bind_some, put_tmps, put_mem, put_nx]
    exact h1 k
theorem regionW_run (hc : CallFit cw call) {ops : Array Oper} {draw : Bool} {s : FS} {K : Env → Mem → Prop} (h : regionW C cw ops draw s.tmps s.mem s.nx K) : ∃ e m, (∀ {α : Type} (k : FS → Option α), regionK C call ops draw s k = k ⟨e, m, s.nx + 16 * ops.size⟩) ∧ K e m := by
  unfold regionW at h
  cases draw with
  | false =>
    obtain ⟨e, m, h1, h2⟩ := opsW_run hc _ _ s K h
    exact ⟨e, m, fun k => by unfold regionK; exact h1 _, h2⟩
  | true =>
    obtain ⟨e, m, lg, h1, h2⟩ := opsLogW_run hc _ _ s _ _ h
    cases hl : okLog ops s.nx lg
    · rw [hl] at h2; exact h2.elim
    · rw [hl] at h2
      refine ⟨e, m, fun k => ?_, h2⟩
      unfold regionK
      dsimp only
      rw [h1]
      dsimp only
      rw [hl]
end
end Go.Proofs.YtkenjojkpdeooaaGreatDoor.AI
end
section
set_option linter.unusedVariables false
set_option linter.unusedSimpArgs false
set_option linter.constructorNameAsVariable false
namespace Go.Proofs.YtkenjojkpdeooaaGreatDoor.AI

section
variable {P : Program} {C : Ctx} {cw : CallW} {lw : LoopW} {call : FuncId → List AV → Mem → Option (AV × Mem)}
/-- From a state to a state, the machine along with it. -/
def Runs (P : Program) (C : Ctx) (base n : Nat) (c : Code) (s : FS) (x : Ex) (s' : FS) : Prop :=
  ∀ S0 : RS, (∀ q, S0.dom q → q < base) → ∀ S a w Q, At C.TY S0 S n (fun q => q < s.nx) s.tmps s.mem a w → (∀ S' a' w', At C.TY S0 S' n (fun q => q < s'.nx) s'.tmps s'.mem a' w' → Q (exOf x) a' w') → c.wp P Q a w
/-- Whole loops do what is told of them. -/
def LoopsIn (P : Program) (C : Ctx) (lw : LoopW) (f : FuncId) (base n : Nat) (c : Code) : Prop :=
  ∀ b ∈ loopsOf c, ∀ s K, lw f (firstRegion b) base s K → ∃ x s', K x s' ∧ Runs P C base n (.loop b) s x s'
def headS (C : Ctx) (f : FuncId) (base : Nat) (b : Code) (s : FS) : FS := match C.hint f (firstRegion b) with | some h => norm h base s | none => s
theorem headS_At {S0 S : RS} {n base : Nat} (hb : ∀ q, S0.dom q → q < base) {f : FuncId} {b : Code} {s : FS} {a : Act} {w : World} (A : At C.TY S0 S n (fun q => q < s.nx) s.tmps s.mem a w) :
    ∃ S', At C.TY S0 S' n (fun q => q < (headS C f base b s).nx) (headS C f base b s).tmps (headS C f base b s).mem a w := by
  unfold headS
  cases C.hint f (firstRegion b) with
  | none => exact ⟨S, A⟩
  | some h => exact norm_sound hb h A
theorem execW_good (H : CtxOK P C) (hcall : CallOK P C.TY call) (hc : CallFit cw call) {f : FuncId} {base n : Nat} : ∀ (c : Code), LoopsIn P C lw f base n c → codeOk n c = true → ∀ (s : FS) (K : Ex → Env → Mem → Nat → Prop), execW C cw lw f base c s.tmps s.mem s.nx K →
    ∃ x s', K x s'.tmps s'.mem s'.nx ∧ Runs P C base n c s x s' := by
  intro c
  induction c with
  | skip => intro hl hk s K h; exact ⟨.normal, s, h, fun S0 hb S a w Q A k => wp_skip (k S a w A)⟩
  | label l => intro hl hk s K h; exact ⟨.normal, s, h, fun S0 hb S a w Q A k => wp_label (k S a w A)⟩
  | region id ops draw =>
    intro hl hk s K h
    obtain ⟨e, m, h1, h2⟩ := regionW_run hc (s := s) h
    refine ⟨.normal, ⟨e, m, s.nx + 16 * ops.size⟩, h2, fun S0 hb S a w Q A k => ?_⟩
    exact regionK_sound H hcall hk (k := some) (h1 some) A (fun s' S' a' w' e1 A' => by cases e1; exact k S' a' w' A')
  | seq x y ihx ihy =>
    intro hl hk s K h
    simp only [codeOk, Bool.and_eq_true] at hk
    obtain ⟨e, s1, h1, h2⟩ := ihx (fun b hb => hl b (List.mem_append_left _ hb)) hk.1 s _ h
    cases e with
    | normal =>
      obtain ⟨e2, s2, h3, h4⟩ := ihy (fun b hb => hl b (List.mem_append_right _ hb)) hk.2 s1 K h1
      exact ⟨e2, s2, h3, fun S0 hb S a w Q A k => wp_seq (h2 S0 hb S a w _ A fun S' a' w' A' => h4 S0 hb S' a' w' Q A' k)⟩
    | exit i => exact ⟨_, s1, h1, fun S0 hb S a w Q A k => wp_seq (h2 S0 hb S a w _ A fun S' a' w' A' => k S' a' w' A')⟩
    | goto i => exact ⟨_, s1, h1, fun S0 hb S a w Q A k => wp_seq (h2 S0 hb S a w _ A fun S' a' w' A' => k S' a' w' A')⟩
    | ret => exact ⟨_, s1, h1, fun S0 hb S a w Q A k => wp_seq (h2 S0 hb S a w _ A fun S' a' w' A' => k S' a' w' A')⟩
  | cond c x y ihx ihy =>
    intro hl hk s K h
    simp only [codeOk, Bool.and_eq_true] at hk
    simp only [execW] at h
    cases hv : eval s.tmps c <;> rw [hv] at h <;> first | exact h.elim | skip
    rename_i t
    cases t
    · obtain ⟨e2, s2, h3, h4⟩ := ihy (fun b hb => hl b (List.mem_append_right _ hb)) hk.2 s K h
      refine ⟨e2, s2, h3, fun S0 hb S a w Q A k => ?_⟩
      have ev := eval_VR (TY := C.TY) (S := S) A.tmps c
      rw [hv] at ev
      exact wp_cond_false ev (h4 S0 hb S a w Q A k)
    · obtain ⟨e2, s2, h3, h4⟩ := ihx (fun b hb => hl b (List.mem_append_left _ hb)) hk.1 s K h
      refine ⟨e2, s2, h3, fun S0 hb S a w Q A k => ?_⟩
      have ev := eval_VR (TY := C.TY) (S := S) A.tmps c
      rw [hv] at ev
      exact wp_cond_true ev (h4 S0 hb S a w Q A k)
  | block id b ih =>
    intro hl hk s K h
    obtain ⟨e, s1, h1, h2⟩ := ih hl hk s _ h
    cases e with
    | normal => exact ⟨_, s1, h1, fun S0 hb S a w Q A k => wp_block (h2 S0 hb S a w _ A fun S' a' w' A' => k S' a' w' A')⟩
    | exit i =>
      cases hbq : Nat.beq i id
      · simp only [hbq] at h1
        refine ⟨.exit i, s1, h1, fun S0 hb S a w Q A k => wp_block (h2 S0 hb S a w _ A fun S' a' w' A' => ?_)⟩
        show (if i = id then Q .normal a' w' else Q (.exit i) a' w')
        rw [if_neg (fun e => by rw [e, Nat.beq_refl] at hbq; cases hbq)]
        exact k S' a' w' A'
      · simp only [hbq] at h1
        refine ⟨.normal, s1, h1, fun S0 hb S a w Q A k => wp_block (h2 S0 hb S a w _ A fun S' a' w' A' => ?_)⟩
        show (if i = id then Q .normal a' w' else Q (.exit i) a' w')
        rw [if_pos (Nat.eq_of_beq_eq_true hbq)]
        exact k S' a' w' A'
    | goto i => exact ⟨_, s1, h1, fun S0 hb S a w Q A k => wp_block (h2 S0 hb S a w _ A fun S' a' w' A' => k S' a' w' A')⟩
    | ret => exact ⟨_, s1, h1, fun S0 hb S a w Q A k => wp_block (h2 S0 hb S a w _ A fun S' a' w' A' => k S' a' w' A')⟩
  | loop b ih =>
    intro hl hk s K h
    have h' : lw f (firstRegion b) base (headS C f base b s) (fun x s => K x s.tmps s.mem s.nx) := h
    obtain ⟨x, s', h1, h2⟩ := hl b (by simp [loopsOf]) _ _ h'
    refine ⟨x, s', h1, fun S0 hb S a w Q A k => ?_⟩
    obtain ⟨S1, A1⟩ := headS_At (f := f) (b := b) hb A
    exact h2 S0 hb S1 a w Q A1 k
  | exit id => intro hl hk s K h; exact ⟨.exit id, s, h, fun S0 hb S a w Q A k => wp_exit (k S a w A)⟩
  | ret => intro hl hk s K h; exact ⟨.ret, s, h, fun S0 hb S a w Q A k => wp_ret (k S a w A)⟩
  | _ => intro hl hk s K h; simp [execW] at h

/-- So many rounds of a loop, as conditions. -/
def roundsW (C : Ctx) (cw : CallW) (lw : LoopW) (f : FuncId) (base : Nat) (hx : Hint) (b : Code) : Nat → FS → (Ex → FS → Prop) → Prop
  | 0, _, _ => False
  | n + 1, s, K => execW C cw lw f base b s.tmps s.mem s.nx fun x e m nx => match x with
    | .normal => roundsW C cw lw f base hx b n (headS C f base b ⟨e, m, nx⟩) K
    | x => K x (norm hx base ⟨e, m, nx⟩)
theorem roundsW_good (H : CtxOK P C) (hcall : CallOK P C.TY call) (hc : CallFit cw call) {f : FuncId} {base n : Nat} {hx : Hint} {b : Code} (hl : LoopsIn P C lw f base n b) (hk : codeOk n b = true) :
    ∀ (N : Nat) (s : FS) (K : Ex → FS → Prop), roundsW C cw lw f base hx b N s K → ∃ x s', K x s' ∧ ∀ S0 : RS, (∀ q, S0.dom q → q < base) → ∀ S a w Q, At C.TY S0 S n (fun q => q < s.nx) s.tmps s.mem a w → (∀ S' a' w', At C.TY S0 S' n (fun q => q < s'.nx) s'.tmps s'.mem a' w' → Q (exOf x) a' w') → Code.rounds P b Q N a w
  | 0, s, K, h => h.elim
  | N + 1, s, K, h => by
    obtain ⟨x, s1, h1, h2⟩ := execW_good H hcall hc b hl hk s _ h
    have fin : K x (norm hx base s1) → x ≠ .normal → ∃ x s', K x s' ∧ ∀ S0 : RS, (∀ q, S0.dom q → q < base) → ∀ S a w Q, At C.TY S0 S n (fun q => q < s.nx) s.tmps s.mem a w → (∀ S' a' w', At C.TY S0 S' n (fun q => q < s'.nx) s'.tmps s'.mem a' w' → Q (exOf x) a' w') → Code.rounds P b Q (N + 1) a w := by
      intro hK hne
      refine ⟨x, _, hK, fun S0 hb S a w Q A k => ?_⟩
      rw [rounds_succ]
      refine h2 S0 hb S a w _ A fun S' a' w' A' => ?_
      obtain ⟨S2, A2⟩ := norm_sound hb hx A'
      have := k S2 a' w' A2
      cases x with
      | normal => exact absurd rfl hne
      | exit i => exact this
      | goto i => exact this
      | ret => exact this
    cases x with
    | normal =>
      obtain ⟨x2, s2, h3, h4⟩ := roundsW_good H hcall hc hl hk N _ K h1
      refine ⟨x2, s2, h3, fun S0 hb S a w Q A k => ?_⟩
      rw [rounds_succ]
      refine h2 S0 hb S a w _ A fun S' a' w' A' => ?_
      obtain ⟨S3, A3⟩ := headS_At (f := f) (b := b) hb A'
      exact h4 S0 hb S3 a' w' Q A3 k
    | exit i => exact fin h1 (by intro e; cases e)
    | goto i => exact fin h1 (by intro e; cases e)
    | ret => exact fin h1 (by intro e; cases e)

/-- A layer: what is told of callees and of loops is so. -/
structure Lay (P : Program) (C : Ctx) (cw : CallW) (lw : LoopW) : Prop where
  ctx : CtxOK P C
  ok : ∀ f fn, C.ft f = some fn → funcOk fn = true
  calls : ∃ call, CallFit cw call ∧ CallOK P C.TY call
  loops : ∀ f fn b, C.ft f = some fn → fn.body = some b → ∀ base, LoopsIn P C lw f base fn.ntmps b
/-- What is made of conditions for a function, it does. -/
theorem Lay.run (h : Lay P C cw lw) {f : FuncId} {args : List AV} {m : Mem} {Q : AV → Mem → Prop} (hr : runW C cw lw f args m Q) : ∃ r m', CallRes P C.TY f args m r m' ∧ Q r m' := by
  obtain ⟨call, hc, hcall⟩ := h.calls
  unfold runW at hr
  obtain ⟨fn, hfn, hr⟩ := optW_iff hr
  obtain ⟨b, hb, hr⟩ := optW_iff hr
  have hok := h.ok f fn hfn
  unfold funcOk at hok
  rw [hb] at hok
  cases hle : Nat.ble args.length fn.ntmps
  · rw [hle] at hr; exact hr.elim
  · rw [hle] at hr
    obtain ⟨x, s', h1, h2⟩ := execW_good h.ctx hcall hc b (h.loops f fn b hfn hb m.length) hok ⟨number 0 args, m, m.length⟩ _ hr
    have fin : ∀ r m', finish C f fn m.length s' = some (r, m') → (x = .normal ∨ x = .ret) → CallRes P C.TY f args m r m' := by
      intro r m' hf hx S us G hM hd hv
      obtain ⟨hP, _, _⟩ := h.ctx.fn f fn hfn
      refine calls_of_wp hP hb ?_
      have hbase : ∀ q, S.dom q → q < m.length := fun q hq => (hd q).1 hq
      have hlen' := VRs_length hv
      have hsz : us.size ≤ fn.ntmps := by
        have h1 := Nat.le_of_ble_eq_true hle
        rw [← Array.length_toList, ← hlen']
        exact h1
      have A0 : At C.TY S S fn.ntmps (fun q => q < m.length) (number 0 args) m { tmps := us ++ Array.replicate (fn.ntmps - us.size) undef, defers := [] } S.w := by
        refine ⟨?_, rfl, hM, Mv.refl G, hbase, fun t => ?_, rfl⟩
        · simp only [Array.size_append, Array.size_replicate]; omega
        · refine number_ER args us.toList 0 hv t _ (fun j hj => ?_)
          rw [Nat.zero_add] at hj
          subst hj
          show us.toList[j]? = some ((us ++ Array.replicate (fn.ntmps - us.size) undef).getD j undef) ∨ _
          rw [Array.getElem?_toList]
          by_cases hl : j < us.size
          · left
            rw [Array.getD_eq_getD_getElem?, Array.getElem?_append_left hl, Array.getElem?_eq_getElem hl]
            rfl
          · right
            exact Array.getElem?_eq_none (by omega)
      refine h2 S hbase S _ _ _ A0 fun S' a' w' A' => ?_
      obtain ⟨v, S2, k1, k2, k3, k4, k5⟩ := finish_sound h.ctx.ty hf hbase A'
      have post : a'.defers = [] ∧ ∃ v, (results fn a'.tmps).run P w' = .ok v w' ∧ ∃ v' S', Ending.returned v = Ending.returned v' ∧ S'.w = w' ∧ S'.M = m'.get ∧ Mv C.TY S S' ∧ VR C.TY S' r v' := ⟨A'.defers, v, k1, v, S2, rfl, k2, k3, k4, k5⟩
      rcases hx with rfl | rfl
      · exact post
      · exact post
    cases x with
    | normal =>
      obtain ⟨p, hp, h3⟩ := optW_iff h1
      exact ⟨p.1, p.2, fin _ _ hp (.inl rfl), h3⟩
    | ret =>
      obtain ⟨p, hp, h3⟩ := optW_iff h1
      exact ⟨p.1, p.2, fin _ _ hp (.inr rfl), h3⟩
    | exit i => exact h1.elim
    | goto i => exact h1.elim

/-! Layers grow. -/
abbrev Spec := List AV → Mem → (AV → Mem → Prop) → Prop
def addF (specs : FuncId → Option Spec) (cw : CallW) : CallW := fun f xs m K => match specs f with | some S => S xs m K | none => cw f xs m K
theorem Lay.addF (h : Lay P C cw lw) {specs : FuncId → Option Spec} (hs : ∀ f S, specs f = some S → ∀ xs m K0, S xs m K0 → ∃ r m', CallRes P C.TY f xs m r m' ∧ ∀ K, S xs m K → K r m') : Lay P C (addF specs cw) lw := by
  classical
  obtain ⟨call, hc, hcall⟩ := h.calls
  have key : ∀ f xs m, ∃ o : Option (AV × Mem), (∀ K, AI.addF specs cw f xs m K → ∃ r m', o = some (r, m') ∧ K r m') ∧ ∀ r m', o = some (r, m') → CallRes P C.TY f xs m r m' := by
    intro f xs m
    unfold AI.addF
    cases hf : specs f with
    | none => exact ⟨call f xs m, fun K hK => hc f xs m K hK, fun r m' hr => hcall f xs m r m' hr⟩
    | some S =>
      dsimp only
      by_cases hk : ∃ K0, S xs m K0
      · obtain ⟨K0, h0⟩ := hk
        obtain ⟨r, m', h1, h2⟩ := hs f S hf xs m K0 h0
        exact ⟨some (r, m'), fun K hK => ⟨r, m', rfl, h2 K hK⟩, fun r' m'' e => by cases e; exact h1⟩
      · exact ⟨none, fun K hK => absurd ⟨K, hK⟩ hk, fun r' m'' e => by cases e⟩
  exact ⟨h.ctx, h.ok, ⟨fun f xs m => Classical.choose (key f xs m), fun f xs m K hK => (Classical.choose_spec (key f xs m)).1 K hK, fun f xs m r m' hr => (Classical.choose_spec (key f xs m)).2 r m' hr⟩, h.loops⟩
abbrev LSpec := Nat → FS → (Ex → FS → Prop) → Prop
def addL (specs : FuncId → Nat → Option (Hint × LSpec)) (lw : LoopW) : LoopW := fun f rid base s K => match specs f rid with | some p => p.2 base s K | none => lw f rid base s K
theorem loops_sub {b : Code} : ∀ {c : Code}, b ∈ loopsOf c → ∀ b', b' ∈ loopsOf b → b' ∈ loopsOf c := by
  intro c
  induction c with
  | seq x y ihx ihy =>
    intro h b' hb'
    rcases List.mem_append.1 h with h | h
    · exact List.mem_append_left _ (ihx h b' hb')
    · exact List.mem_append_right _ (ihy h b' hb')
  | cond _ x y ihx ihy =>
    intro h b' hb'
    rcases List.mem_append.1 h with h | h
    · exact List.mem_append_left _ (ihx h b' hb')
    · exact List.mem_append_right _ (ihy h b' hb')
  | block _ x ih => exact ih
  | loop x ih =>
    intro h b' hb'
    rcases List.mem_cons.1 h with rfl | h
    · exact List.mem_cons_of_mem _ hb'
    · exact List.mem_cons_of_mem _ (ih h b' hb')
  | _ => intro h; cases h
theorem codeOk_loop {n : Nat} {b : Code} : ∀ {c : Code}, codeOk n c = true → b ∈ loopsOf c → codeOk n b = true := by
  intro c
  induction c with
  | seq x y ihx ihy =>
    intro hk h
    simp only [codeOk, Bool.and_eq_true] at hk
    rcases List.mem_append.1 h with h | h
    · exact ihx hk.1 h
    · exact ihy hk.2 h
  | cond _ x y ihx ihy =>
    intro hk h
    simp only [codeOk, Bool.and_eq_true] at hk
    rcases List.mem_append.1 h with h | h
    · exact ihx hk.1 h
    · exact ihy hk.2 h
  | block _ x ih => exact ih
  | loop x ih =>
    intro hk h
    rcases List.mem_cons.1 h with rfl | h
    · exact hk
    · exact ih hk h
  | _ => intro _ h; cases h
theorem Lay.addL (h : Lay P C cw lw) {specs : FuncId → Nat → Option (Hint × LSpec)}
    (hs : ∀ f fn c b p, C.ft f = some fn → fn.body = some c → b ∈ loopsOf c → specs f (firstRegion b) = some p → ∀ base s K, p.2 base s K → ∃ N, roundsW C cw lw f base p.1 b N s K) : Lay P C cw (addL specs lw) := by
  obtain ⟨call, hc, hcall⟩ := h.calls
  refine ⟨h.ctx, h.ok, ⟨call, hc, hcall⟩, fun f fn c hf hb base b hbl s K hK => ?_⟩
  unfold AI.addL at hK
  split at hK
  · rename_i p hp
    obtain ⟨N, hN⟩ := hs f fn c b p hf hb hbl hp base s K hK
    have hok := h.ok f fn hf
    unfold funcOk at hok
    rw [hb] at hok
    obtain ⟨x, s', h1, h2⟩ := roundsW_good h.ctx hcall hc (fun b' hb' => h.loops f fn c hf hb base b' (loops_sub hbl b' hb')) (codeOk_loop hok hbl) N s K hN
    exact ⟨x, s', h1, fun S0 hb0 S a w Q A k => wp_loop_rounds N (h2 S0 hb0 S a w Q A k)⟩
  · exact h.loops f fn c hf hb base b hbl s K hK
end
end Go.Proofs.YtkenjojkpdeooaaGreatDoor.AI
end
