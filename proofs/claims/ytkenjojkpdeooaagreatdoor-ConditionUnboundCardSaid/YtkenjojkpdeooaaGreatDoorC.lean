/- From what a law's run answers to the row: arguments, memory, a witness. · A world for the witness, and a law's card. -/
import Derived.Test.YtkenjojkpdeooaaGreatDoorCards
import Derived.Test.YtkenjojkpdeooaaGreatDoorTie
import Derived.Test.YtkenjojkpdeooaaGreatDoorM9
import Derived.WalkKit
import Derived.ProofKit
import Derived.OpenShut
import Derived.Below
import Derived.ChangeSame
import Derived.ChangeSlices
import Derived.Carry
import Derived.ChangeMaps5
import Derived.Deep.DeepHandedRow
import Derived.SevenTiedAt
section
set_option linter.unusedVariables false
set_option maxRecDepth 100000
set_option linter.unusedSimpArgs false
set_option linter.constructorNameAsVariable false
namespace Go.Proofs.YtkenjojkpdeooaaGreatDoor
open AI Go.ChangeShapes Go.WideShapes Go.ChangeAt Go.RowKit

/-- Memory as a call finds it: nothing is its own, all that there is doesn't change. -/
def startRS (W : World) : RS := ⟨W, fun b => b < W.heap.size, fun _ => none, fun _ => ⟨0, 0, true, 0, 0⟩, fun _ => False⟩
theorem start_good (W : World) : AI.Good ty (startRS W) where
  dom o x h := by cases h
  obj o x h := by cases h
  inj o o' x x' h := by cases h
  sep o x h := by cases h
  okb b h := h
/-- A law that answers true: what it leaves. -/
theorem law_calls {f : FuncId} {xs : List AV} {us : Array Value} {W : World} (h : CallRes Tryz.prog ty f xs [] (.bool true) []) (hv : VRs ty (startRS W) xs us.toList) :
    Calls Tryz.prog f us W (fun e w' => e = .returned (.bool true) ∧ Below W.heap.size W w') := by
  refine (h (startRS W) us (start_good W) rfl (fun q => ⟨fun h => h.elim, fun h => absurd h (Nat.not_lt_zero q)⟩) hv).mono ?_
  rintro e w' ⟨v, S', rfl, rfl, _, mv, hr⟩
  obtain rfl : v = .bool true := hr
  refine ⟨rfl, mv.fr.os, mv.fr.tape, mv.fr.output, mv.fr.size, fun k hk => mv.ext.w k hk⟩

section
variable {H : Type} {enc : TypeId × Value → H} {W : World}
theorem arg_int {v : Value} {d : DataW H} {p : List MemPlace} (hval : Value.okWide Tryz.prog W .any 0 3 v) (h : DataW.Trod enc Tryz.prog W 0 (fun _ => true) true 3 v d p) : ∃ n, VR ty (startRS W) (.int .i64 n) v := by
  obtain ⟨n, rfl, rfl, rfl, hw⟩ := open_int Tryz.underlying3 hval h
  exact ⟨n, rfl⟩
theorem arg_str {v : Value} {d : DataW H} {p : List MemPlace} (hval : Value.okWide Tryz.prog W .any 0 9 v) (h : DataW.Trod enc Tryz.prog W 0 (fun _ => true) true 9 v d p) : ∃ s, VR ty (startRS W) (.str s) v := by
  obtain ⟨s, rfl, _⟩ := ChangeMaps.open_string Tryz.underlying9 hval h
  exact ⟨s, rfl⟩
theorem add_block (a : Addr) (i : Nat) : (a.add i).block = a.block := by unfold Addr.add; split <;> rfl
theorem add_zero (a : Addr) : a.add 0 = a := by unfold Addr.add; rw [if_pos rfl]
theorem cell_at {a : Addr} {u : Value} (h : W.cell? (a.add 0) = some u) : a.spot = none ∧ a.block < W.heap.size := by
  unfold World.cell? at h
  rw [add_zero] at h
  cases hb : W.heap[a.block]? with
  | none => rw [hb] at h; cases h
  | some o =>
    refine ⟨?_, (Array.getElem?_eq_some_iff.1 hb).1⟩
    rw [hb] at h
    cases o <;> simp only [reduceCtorEq] at h
    cases hs : a.spot with
    | none => rfl
    | some s => rw [hs] at h; simp at h
theorem arg_ints {v : Value} {d : DataW H} {p : List MemPlace} (hval : Value.okWide Tryz.prog W .any 0 22 v) (h : DataW.Trod enc Tryz.prog W 0 (fun _ => true) true 22 v d p) : ∃ n g, VR ty (startRS W) (.psl 3 n g) v := by
  obtain ⟨a0, len, cap, rfl⟩ := okWide_slice Tryz.underlying22 hval
  obtain ⟨fuel, hf⟩ := h
  have hk : (ty 3).cks = [.int .i64] := by kernel_rfl
  rcases open_ints Tryz.underlying22 Tryz.underlying3 (by kernel_rfl) hf with ⟨hcs, hx⟩ | ⟨a, len', cap', zs, hcs, _, hl, hm, hz, hx, hcell, hwz⟩
  · simp [Value.cells] at hcs
    obtain ⟨rfl, rfl, rfl⟩ := hcs
    exact ⟨0, fun _ _ => .bad, none, 0, rfl, Nat.le_refl _, fun h => absurd h (Nat.lt_irrefl 0)⟩
  · simp [Value.cells] at hcs
    obtain ⟨rfl, rfl, rfl⟩ := hcs
    simp only [if_true] at hz
    refine ⟨len, fun i _ => .int (zs.getD i 0), some a, cap, rfl, hl, fun hn => ?_⟩
    have c0 := cell_at (hcell 0 (by omega))
    obtain ⟨b, off, spot⟩ := a
    obtain rfl : spot = none := c0.1
    refine ⟨b, off, rfl, c0.2, fun i hi j ck' hj => ?_⟩
    rw [hk] at hj ⊢
    cases j with
    | zero =>
      obtain rfl : CK.int .i64 = ck' := by simpa using hj
      refine ⟨_, ?_, rfl⟩
      have hc := hcell i (by omega)
      have e : (⟨b, off, none⟩ : Addr).add i = ⟨b, off + (i * 1 + 0), none⟩ := by
        unfold Addr.add
        split
        · rename_i h0; have h0 : i = 0 := by simpa using h0
          subst h0; rfl
        · simp
      rw [e] at hc
      exact hc
    | succ j => simp at hj
/-- What old memory holds stays. -/
theorem args_stay {W' : World} (hb : Below W.heap.size W W') : ∀ {ts : List TypeId} {vs : List Value} {ds : List (DataW H)} {p : List MemPlace}, (∀ t ∈ ts, Tryz.prog.readableRec t = true ∧ t < Tryz.prog.types.size) →
    DataW.TrodAll enc Tryz.prog W 0 (fun _ => true) true ts vs ds p → (∀ x ∈ p, x.block < W.heap.size) → ∀ sp : Nat → Bool, (∀ x ∈ p, sp x.block = true) → DataW.TrodAll enc Tryz.prog W' 0 sp true ts vs ds p
  | [], [], [], p, _, h, _, sp, _ => h
  | t :: ts, v :: vs, d :: ds, p, ht, h, hlt, sp, hsp => by
    obtain ⟨p1, q1, h1, h2, rfl⟩ := h
    refine ⟨p1, q1, ?_, args_stay hb (fun u hu => ht u (List.mem_cons_of_mem _ hu)) h2 (fun x hx => hlt x (List.mem_append_right _ hx)) sp (fun x hx => hsp x (List.mem_append_right _ hx)), rfl⟩
    have hr := ht t List.mem_cons_self
    exact WideElems.Trod_stays (by kernel_rfl) hr.1 hr.2 h1 (fun x hx => hb.same (hlt x (List.mem_append_left _ hx))) (fun x hx => hsp x (List.mem_append_left _ hx))
  | [], _ :: _, _, _, _, h, _, _, _ => h.elim
  | _ :: _, [], _, _, _, h, _, _, _ => h.elim
  | [], [], _ :: _, _, _, h, _, _, _ => h.elim
  | _ :: _, _ :: _, [], _, _, h, _, _, _ => h.elim
end
/-- From a run to the row's words: a law that answers true, and leaves what was there. -/
theorem post_true {H : Type} {enc : TypeId × Value → H} {f : Func} {s : ChangeSpec} {apart fresh handsOn again : Bool} {W W' : World} {args : Array Value} {ds gs : List (DataW H)} {before : List MemPlace}
    (hW : DataW.Whole enc Tryz.prog f.params.toList s.vars apart W args.toList ds gs before) (hsv : s.vars = []) (hrt : f.resultTypes = #[4])
    (hfn : ∀ gs, gs = [] → s.fn H (ds ++ gs) = { results := [.lit (.bool true)], args := ds }) (ht : ∀ t ∈ f.params.toList, Tryz.prog.readableRec t = true ∧ t < Tryz.prog.types.size) (hb : Below W.heap.size W W') :
    s.post enc Tryz.prog f apart fresh handsOn again W args (.bool true) W' := by
  have hW2 := hW
  have hlt : ∀ x ∈ before, x.block < W.heap.size := fun x hx => by simpa using hW.lt x hx
  obtain ⟨p, q, hA, hV, rfl, hz, hn⟩ := hW2
  have hV' : DataW.TrodVars enc Tryz.prog W (fun _ => true) [] gs q := by rw [← hsv]; exact hV
  obtain ⟨rfl, rfl⟩ := trodVars_none hV'
  rw [List.append_nil] at hW hlt hz
  have hres : ∀ (b : Nat) (sp : Nat → Bool) (hd : Bool), DataW.TrodAll enc Tryz.prog W' b sp hd f.resultTypes.toList ((Value.bool true).resultList f.resultTypes.size) (s.fn H (ds ++ [])).results [] := by
    intro b sp hd
    rw [hfn [] rfl, hrt]
    exact trodAll_cons_mk (shut_bool Tryz.underlying4 _) trodAll_mk0
  have hargs : ∀ sp : Nat → Bool, (∀ x ∈ p, sp x.block = true) → DataW.TrodAll enc Tryz.prog W' 0 sp true f.params.toList args.toList (s.fn H (ds ++ [])).args p := by
    intro sp hsp
    rw [hfn [] rfl]
    exact args_stay hb ht hA hlt sp hsp
  have hvars : ∀ sp : Nat → Bool, DataW.TrodVars enc Tryz.prog W' sp s.vars (s.fn H (ds ++ [])).vars [] := by
    intro sp
    rw [hfn [] rfl, hsv]
    rfl
  have hold : ∀ x ∈ p, (fun b => decide (b < W.heap.size)) x.block = true := fun x hx => by simpa using hlt x hx
  refine ⟨ds, [], p, [], p, [], hW, hres _ _ _, hargs _ hold, hvars _, World.keptBut_mono (fun x hx => ⟨hx, .inr (.inl hx)⟩) (hb.frame (· ∈ p)), fun _ => ?_⟩
  have hok : ∀ (j : Nat) (t : TypeId) (r : Value), f.resultTypes[j]? = some t → ((Value.bool true).resultList f.resultTypes.size)[j]? = some r → Value.okWide Tryz.prog W' .any 0 t r := by
    rw [hrt]
    intro j t r h1 h2
    cases j with
    | zero =>
      obtain rfl : 4 = t := by simpa using h1
      obtain rfl : Value.bool true = r := by simpa [Value.resultList] using h2
      exact okWide_bool_mk Tryz.underlying4 _
    | succ j => simp at h1
  refine ⟨hok, _, _, ([] ++ p) ++ [], ⟨[] ++ p, [], trodAll_append (hargs _ (fun _ _ => rfl)) (hres _ _ _), hvars _, rfl, ?_, ?_⟩, ?_⟩
  · intro b off hp
    have hp : MemPlace.cell b off ∈ p := by simpa using hp
    rw [hb.frozen (hlt _ hp)]
    exact hz b off hp
  · intro ha
    simpa using hn ha
  · intro x hx _
    simpa using hx
end Go.Proofs.YtkenjojkpdeooaaGreatDoor
end
section
set_option linter.unusedVariables false
set_option maxRecDepth 100000
set_option linter.unusedSimpArgs false
set_option linter.constructorNameAsVariable false
namespace Go.Proofs.YtkenjojkpdeooaaGreatDoor
open AI Go.ChangeShapes Go.WideShapes Go.ChangeAt Go.RowKit

theorem ownNone : ownKnob Tryz.prog.godebug = none := by kernel_rfl
noncomputable def firstCells : Array Value := (Go.Pinned.utf8FirstZ.map fun (n : Nat) => Value.int .u8 (Int.ofNat n)).toArray
def rangeCells : Array Value := ([128, 191, 160, 191, 128, 159, 144, 191, 128, 143, 0, 0, 0, 0, 0, 0, 0, 0, 0, 0, 0, 0, 0, 0, 0, 0, 0, 0, 0, 0, 0, 0].map fun n => Value.int .u8 n).toArray
def setCells (c : Array Value) : Obj → Obj
  | .cells _ t frozen => .cells c t frozen
  | o => o
/-- The settled world, the two tables as their initialisers lay them. -/
noncomputable def laidWorld (os : Os) : World :=
  { World.holding Tryz.prog os ⟨#[], #[], []⟩ with heap := ((World.holding Tryz.prog os ⟨#[], #[], []⟩).heap.modify 1 (setCells firstCells)).modify 2 (setCells rangeCells) }
theorem laid_met (os : Os) (args : Array Value) : laidMet Tryz.prog Rows.conditionUnboundRow.laid ((laidWorld os).forCall (fun _ _ => 0) ⟨#[], args, []⟩).memory :=
  laidMet_of_run' 8 (by kernel_rfl) (by kernel_rfl)
end Go.Proofs.YtkenjojkpdeooaaGreatDoor
end
