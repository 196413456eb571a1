/- The law ComposeAll of layer 11 answers true: for every list of lists of operations, what compose.All answers of their deltas is what the document's reference answers, by its error and operation by operation.
Conditions: the arguments together hold at most 1048576 values and letters; the listed package-level variables hold what the program's text lays (the card ties that). -/
import Derived.Test.YtnlpmajiccliiaaGreatDoorCards
import Derived.Test.YtnlpmajiccliiaaGreatDoorTie
import Derived.Test.YtnlpmajiccliiaaGreatDoorA2
import Derived.Test.YtnlpmajiccliiaaGreatDoorA4
import Derived.WalkKit
import Derived.ProofKit
import Derived.OpenShut
import Derived.ChangeOld
import Derived.Below
import Derived.Deep.DeepHandedRow
import Derived.Deep.DeepWitnessRowRef
set_option linter.all false
namespace Go.Proofs.YtnlpmajiccliiaaGreatDoor.composeAllRow
open Go.ChangeShapes Go.WideShapes Go.ChangeAt Go.RowKit Go.Proofs Ve

theorem own : ownKnob Tryz.prog.godebug = none := by kernel_rfl
theorem laidOut : laidOutB Tryz.prog = true := by kernel_rfl
set_option maxRecDepth 100000 in
/-- What the walk gives, for every argument within the bound and every world that holds what is listed. -/
theorem contract (H : Type) (enc : TypeId × Value → H) (W : World) (base : Nat) (args : Array Value) (ds gs : List (DataW H)) (before : List MemPlace)
    (hval : ∀ (j : Nat) t v, Tryz.f4.params[j]? = some t → args[j]? = some v → Value.okWide Tryz.prog W .any base t v)
    (hW : DataW.Whole enc Tryz.prog Tryz.f4.params.toList Rows.composeAllSpec.vars false W args.toList ds gs before) (hL : laidMetH Tryz.prog Rows.composeAllUptoRow.laid W) (hk : Rows.uptoSmall H (ds ++ gs) = true) :
    Calls Tryz.prog 4 args W fun e W' => ∃ v, e = .returned v ∧ Rows.composeAllSpec.post enc Tryz.prog Tryz.f4 false true false false W args v W' := by
  have hW' := hW
  obtain ⟨p, q, hA0, hV, rfl, hfz, hnd⟩ := hW
  have hA : DataW.TrodAll enc Tryz.prog W 0 (fun _ => true) true Tryz.f4.params.toList args.toList ds p := hA0
  rw [Tryz.params4] at hA hval
  obtain ⟨v0, vs0, d0, ds0, p0, q0, hargs, rfl, rfl, h0, r0⟩ := trodAll_cons hA
  obtain ⟨rfl, rfl, rfl⟩ := trodAll_nil r0
  obtain rfl : args = #[v0] := by cases args; simp_all
  obtain ⟨rfl, rfl⟩ := trodVars_none hV
  have hB : Rows.uptoBulkAll [d0] ≤ 1048576 := by
    have h := of_decide_eq_true hk
    simpa using h
  simp only [Rows.uptoBulkAll] at hB
  have k0 := h0
  have lt0 : ∀ x ∈ p0, x.block < W.heap.size := by obtain ⟨m, hm⟩ := k0; exact DataW.trod_lt m _ _ _ hm
  obtain ⟨l0, hl0, hs0, hn0⟩ : ∃ ls, RdLs W v0 ls ∧ lsum ls ≤ 1048576 ∧ ls.length ≤ 1048576 := by
    obtain ⟨a0, len0, cap0, rfl⟩ := okWide_slice Tryz.underlying36 (hval 0 36 v0 rfl rfl)
    obtain ⟨m, hm⟩ := h0
    exact trod_lists hm (show Rows.uptoBulk d0 ≤ 1048576 by omega)
  rw [MakeChecks.laidMetH_plain _ _ _ (by kernel_rfl)] at hL
  obtain ⟨ea, hE⟩ := env19_of (W := W) hL
  clear hA0 hL
  refine (composeAll_law l0 _ W hE hl0 hs0 hn0).mono fun e W' ⟨he, hg⟩ => ?_
  have bel : Below W.heap.size W W' := hg
  subst he
  exact ⟨_, rfl, _, _, _, [], _, [], hW', trodAll_mk1 (shut_bool Tryz.underlying4 _), (trodAll_cons_mk (Below.trod laidOut (by kernel_rfl) (of_decide_eq_true (by kernel_rfl)) k0 bel lt0) trodAll_mk0), rfl, bel.frame _, fun h => by cases h⟩
set_option maxRecDepth 100000 in
theorem laid_met (os : Os) (args : Array Value) : laidMetH Tryz.prog Rows.composeAllUptoRow.laid ((laidWorld19 os).forCall (fun _ _ => 0) ⟨#[], args, []⟩).memory := by
  rw [MakeChecks.laidMetH_plain _ _ _ (by kernel_rfl)]
  exact laidMet_of_run' 8 (by kernel_rfl) (by kernel_rfl)
set_option maxRecDepth 100000 in
theorem reads (os : Os) {H : Type} (enc : TypeId × Value → H) : ∃ places, DataW.whole enc Tryz.prog ((laidWorld19 os).forCall (fun _ _ => 0) ⟨#[], #[.slice none 0 0], []⟩).memory Tryz.f4.params.toList Rows.composeAllSpec.vars false #[Value.slice none 0 0].toList 8 = some ([.nil], [], places) :=
  ⟨[], by kernel_rfl⟩
set_option maxRecDepth 100000 in
theorem lifted (os : Os) (started : os.Started) (H : Type) (enc : TypeId × Value → H) (F : Stop.Interp) :
    ReturnsInHanded {} Tryz.checked os 4 .any ((Rows.OpenSpec.upto Rows.composeAllSpec).preRow enc Tryz.prog Tryz.f4 Rows.composeAllUptoRow.domain false Rows.composeAllUptoRow.laid) (((Rows.OpenSpec.upto Rows.composeAllSpec).at F).post enc Tryz.prog Tryz.f4 false true false false) := by
  obtain ⟨places, hx⟩ := reads os enc
  refine returnsInHanded_of_row (C := Tryz.checked) (s := Rows.OpenSpec.upto Rows.composeAllSpec) own started (by kernel_rfl) Tryz.func4
    (witness_row_atRef (enc := enc) (C := Tryz.checked) false (laidWorld19 os) #[.slice none 0 0] rfl (by kernel_rfl) (by kernel_rfl) (by kernel_rfl)
      (OpenSpec.preRow_of_cond 8 hx (by kernel_rfl) (fun k hk => by cases hk; kernel_rfl) (by kernel_rfl) (laid_met os _))) ?_
  intro W base args ds gs before hval hW _ hcond _ hL _ _
  exact contract H enc W base args ds gs before hval hW hL (hcond _ rfl)
set_option maxRecDepth 100000 in
theorem fname : Tryz.pinned.checked.prog.funcNamed Rows.composeAllUptoRow.func = some 4 := by kernel_rfl
set_option maxRecDepth 100000 in
theorem facts : joinedFacts Tryz.pinned.checked.prog 4 Tryz.f4 (Rows.OpenSpec.upto Rows.composeAllSpec).bare Rows.composeAllUptoRow = true := by kernel_rfl
set_option maxRecDepth 100000 in
theorem inst : Func.isInstance Tryz.pinned.checked.prog Tryz.f4 Rows.composeAllUptoRow.origin Rows.composeAllUptoRow.targs := of_decide_eq_true (by kernel_rfl)
set_option maxRecDepth 100000 in
theorem saidUpto : Rows.ComposeAllUptoSaid :=
  OpenClaim.holds_of_cond 4 Tryz.f4 rfl rfl rfl rfl rfl rfl rfl ⟨rfl, rfl, rfl, rfl, rfl⟩ rfl rfl rfl rfl rfl fname Tryz.func4 facts
    inst (by unfold Func.isWrapper; first | (rw [if_pos (by decide +kernel)]; kernel_rfl) | (rw [if_neg (by decide +kernel)]; exact ⟨rfl, rfl⟩))
    (fun os started H enc _ F => by rw [OpenClaim.pre_eq_preRow]; exact lifted os started H enc F)
theorem plain (f : FuncId) (fn : Func) (hf : Tryz.pinned.checked.prog.funcNamed "vellum/vellumlaw11.ComposeAll" = some f) (hfn : Tryz.pinned.checked.prog.funcs[f]? = some fn) :
    true = Tryz.pinned.checked.prog.looks [] ∧ ∀ (j : Nat) t, fn.params[j]? = some t → Tryz.pinned.checked.prog.wantsStandIn t = false := by
  obtain rfl : f = 4 := Option.some.inj ((show Tryz.prog.funcNamed "vellum/vellumlaw11.ComposeAll" = some 4 by kernel_rfl).symm.trans hf) |>.symm
  obtain rfl : fn = Tryz.f4 := (Option.some.inj (Tryz.func4.symm.trans hfn)).symm
  refine ⟨by kernel_rfl, fun j t ht => ?_⟩
  rw [Tryz.params4] at ht
  have ht' : t = 36 := by
    have := Array.mem_of_getElem? ht
    simp at this
    first | exact this | simpa using this | omega
  subst ht'
  · exact (show Tryz.prog.wantsStandIn 36 = false by kernel_rfl)
end Go.Proofs.YtnlpmajiccliiaaGreatDoor.composeAllRow
namespace Go.Proofs.YtnlpmajiccliiaaGreatDoor
set_option maxRecDepth 100000 in
theorem composeAll_card : Rows.ComposeAllUptoCardSaid :=
  Claim7.holds_tied_plain_at .later [] _ _ _ _ composeAllRow.saidUpto (fun _ h => by cases h) (by kernel_rfl) (fun _ h => by cases h) composeAllUpto_row_tie rfl ⟨rfl, rfl⟩ (by kernel_rfl) rfl composeAllRow.plain (by kernel_rfl)
#print axioms composeAll_card
end Go.Proofs.YtnlpmajiccliiaaGreatDoor
