/- The law ComposeBrackets of layer 11 answers true: three deltas composed in either bracketing, and all at once, are one delta, operation by operation, where none is refused.
Conditions: the arguments together hold at most 1048576 values and letters; the listed package-level variables hold what the program's text lays (the card ties that). -/
import Derived.Test.YtnlpmajiccliiaaGreatDoorCards
import Derived.Test.YtnlpmajiccliiaaGreatDoorTie
import Derived.Test.YtnlpmajiccliiaaGreatDoorA2
import Derived.Test.YtnlpmajiccliiaaGreatDoorNP
import Derived.WalkKit
import Derived.ProofKit
import Derived.OpenShut
import Derived.ChangeOld
import Derived.Below
import Derived.Deep.DeepHandedRow
import Derived.Deep.DeepWitnessRowRef
set_option linter.all false
namespace Go.Proofs.YtnlpmajiccliiaaGreatDoor.composeBracketsRow
open Go.ChangeShapes Go.WideShapes Go.ChangeAt Go.RowKit Go.Proofs Ve

theorem own : ownKnob Tryz.prog.godebug = none := by kernel_rfl
theorem laidOut : laidOutB Tryz.prog = true := by kernel_rfl
set_option maxRecDepth 100000 in
/-- What the walk gives, for every argument within the bound and every world that holds what is listed. -/
theorem contract (H : Type) (enc : TypeId × Value → H) (W : World) (base : Nat) (args : Array Value) (ds gs : List (DataW H)) (before : List MemPlace)
    (hval : ∀ (j : Nat) t v, Tryz.f5.params[j]? = some t → args[j]? = some v → Value.okWide Tryz.prog W .any base t v)
    (hW : DataW.Whole enc Tryz.prog Tryz.f5.params.toList Rows.composeBracketsSpec.vars false W args.toList ds gs before) (hL : laidMetH Tryz.prog Rows.composeBracketsUptoRow.laid W) (hk : Rows.uptoSmall H (ds ++ gs) = true) :
    Calls Tryz.prog 5 args W fun e W' => ∃ v, e = .returned v ∧ Rows.composeBracketsSpec.post enc Tryz.prog Tryz.f5 false true false false W args v W' := by
  have hW' := hW
  obtain ⟨p, q, hA0, hV, rfl, hfz, hnd⟩ := hW
  have hA : DataW.TrodAll enc Tryz.prog W 0 (fun _ => true) true Tryz.f5.params.toList args.toList ds p := hA0
  rw [Tryz.params5] at hA hval
  obtain ⟨v0, vs0, d0, ds0, p0, q0, hargs, rfl, rfl, h0, r0⟩ := trodAll_cons hA
  obtain ⟨v1, vs1, d1, ds1, p1, q1, rfl, rfl, rfl, h1, r1⟩ := trodAll_cons r0
  obtain ⟨v2, vs2, d2, ds2, p2, q2, rfl, rfl, rfl, h2, r2⟩ := trodAll_cons r1
  obtain ⟨rfl, rfl, rfl⟩ := trodAll_nil r2
  obtain rfl : args = #[v0, v1, v2] := by cases args; simp_all
  obtain ⟨rfl, rfl⟩ := trodVars_none hV
  have hB : Rows.uptoBulkAll [d0, d1, d2] ≤ 1048576 := by
    have h := of_decide_eq_true hk
    simpa using h
  simp only [Rows.uptoBulkAll] at hB
  have k0 := h0
  have lt0 : ∀ x ∈ p0, x.block < W.heap.size := by obtain ⟨m, hm⟩ := k0; exact DataW.trod_lt m _ _ _ hm
  obtain ⟨l0, hl0, hs0⟩ : ∃ l, RdOps W v0 l ∧ opsum l + atsum l + l.length ≤ Rows.uptoBulk d0 := by
    obtain ⟨a0, len0, cap0, rfl⟩ := okWide_slice Tryz.underlying22 (hval 0 22 v0 rfl rfl)
    obtain ⟨m, hm⟩ := h0
    exact trod_opsA hm (show Rows.uptoBulk d0 ≤ 1048576 by omega)
  have k1 := h1
  have lt1 : ∀ x ∈ p1, x.block < W.heap.size := by obtain ⟨m, hm⟩ := k1; exact DataW.trod_lt m _ _ _ hm
  obtain ⟨l1, hl1, hs1⟩ : ∃ l, RdOps W v1 l ∧ opsum l + atsum l + l.length ≤ Rows.uptoBulk d1 := by
    obtain ⟨a1, len1, cap1, rfl⟩ := okWide_slice Tryz.underlying22 (hval 1 22 v1 rfl rfl)
    obtain ⟨m, hm⟩ := h1
    exact trod_opsA hm (show Rows.uptoBulk d1 ≤ 1048576 by omega)
  have k2 := h2
  have lt2 : ∀ x ∈ p2, x.block < W.heap.size := by obtain ⟨m, hm⟩ := k2; exact DataW.trod_lt m _ _ _ hm
  obtain ⟨l2, hl2, hs2⟩ : ∃ l, RdOps W v2 l ∧ opsum l + atsum l + l.length ≤ Rows.uptoBulk d2 := by
    obtain ⟨a2, len2, cap2, rfl⟩ := okWide_slice Tryz.underlying22 (hval 2 22 v2 rfl rfl)
    obtain ⟨m, hm⟩ := h2
    exact trod_opsA hm (show Rows.uptoBulk d2 ≤ 1048576 by omega)
  rw [MakeChecks.laidMetH_plain _ _ _ (by kernel_rfl)] at hL
  obtain ⟨ea, hE⟩ := env9_of (W := W) hL
  clear hA0 hL
  refine (composeBrackets_law l0 _ l1 _ l2 _ W hE hl0 (by omega) hl1 (by omega) hl2 (by omega) (by omega)).mono fun e W' ⟨he, hg⟩ => ?_
  have bel : Below W.heap.size W W' := hg
  subst he
  exact ⟨_, rfl, _, _, _, [], _, [], hW', trodAll_mk1 (shut_bool Tryz.underlying4 _), (trodAll_cons_mk (Below.trod laidOut (by kernel_rfl) (of_decide_eq_true (by kernel_rfl)) k0 bel lt0) (trodAll_cons_mk (Below.trod laidOut (by kernel_rfl) (of_decide_eq_true (by kernel_rfl)) k1 bel lt1) (trodAll_cons_mk (Below.trod laidOut (by kernel_rfl) (of_decide_eq_true (by kernel_rfl)) k2 bel lt2) trodAll_mk0))), rfl, bel.frame _, fun h => by cases h⟩
set_option maxRecDepth 100000 in
theorem laid_met (os : Os) (args : Array Value) : laidMetH Tryz.prog Rows.composeBracketsUptoRow.laid ((laidWorld9 os).forCall (fun _ _ => 0) ⟨#[], args, []⟩).memory := by
  rw [MakeChecks.laidMetH_plain _ _ _ (by kernel_rfl)]
  exact laidMet_of_run' 8 (by kernel_rfl) (by kernel_rfl)
set_option maxRecDepth 100000 in
theorem reads (os : Os) {H : Type} (enc : TypeId × Value → H) : ∃ places, DataW.whole enc Tryz.prog ((laidWorld9 os).forCall (fun _ _ => 0) ⟨#[], #[.slice none 0 0, .slice none 0 0, .slice none 0 0], []⟩).memory Tryz.f5.params.toList Rows.composeBracketsSpec.vars false #[Value.slice none 0 0, Value.slice none 0 0, Value.slice none 0 0].toList 8 = some ([.nil, .nil, .nil], [], places) :=
  ⟨[], by kernel_rfl⟩
set_option maxRecDepth 100000 in
theorem lifted (os : Os) (started : os.Started) (H : Type) (enc : TypeId × Value → H) (F : Stop.Interp) :
    ReturnsInHanded {} Tryz.checked os 5 .any ((Rows.OpenSpec.upto Rows.composeBracketsSpec).preRow enc Tryz.prog Tryz.f5 Rows.composeBracketsUptoRow.domain false Rows.composeBracketsUptoRow.laid) (((Rows.OpenSpec.upto Rows.composeBracketsSpec).at F).post enc Tryz.prog Tryz.f5 false true false false) := by
  obtain ⟨places, hx⟩ := reads os enc
  refine returnsInHanded_of_row (C := Tryz.checked) (s := Rows.OpenSpec.upto Rows.composeBracketsSpec) own started (by kernel_rfl) Tryz.func5
    (witness_row_atRef (enc := enc) (C := Tryz.checked) false (laidWorld9 os) #[.slice none 0 0, .slice none 0 0, .slice none 0 0] rfl (by kernel_rfl) (by kernel_rfl) (by kernel_rfl)
      (OpenSpec.preRow_of_cond 8 hx (by kernel_rfl) (fun k hk => by cases hk; kernel_rfl) (by kernel_rfl) (laid_met os _))) ?_
  intro W base args ds gs before hval hW _ hcond _ hL _ _
  exact contract H enc W base args ds gs before hval hW hL (hcond _ rfl)
set_option maxRecDepth 100000 in
theorem fname : Tryz.pinned.checked.prog.funcNamed Rows.composeBracketsUptoRow.func = some 5 := by kernel_rfl
set_option maxRecDepth 100000 in
theorem facts : joinedFacts Tryz.pinned.checked.prog 5 Tryz.f5 (Rows.OpenSpec.upto Rows.composeBracketsSpec).bare Rows.composeBracketsUptoRow = true := by kernel_rfl
set_option maxRecDepth 100000 in
theorem inst : Func.isInstance Tryz.pinned.checked.prog Tryz.f5 Rows.composeBracketsUptoRow.origin Rows.composeBracketsUptoRow.targs := of_decide_eq_true (by kernel_rfl)
set_option maxRecDepth 100000 in
theorem saidUpto : Rows.ComposeBracketsUptoSaid :=
  OpenClaim.holds_of_cond 5 Tryz.f5 rfl rfl rfl rfl rfl rfl rfl ⟨rfl, rfl, rfl, rfl, rfl⟩ rfl rfl rfl rfl rfl fname Tryz.func5 facts
    inst (by unfold Func.isWrapper; first | (rw [if_pos (by decide +kernel)]; kernel_rfl) | (rw [if_neg (by decide +kernel)]; exact ⟨rfl, rfl⟩))
    (fun os started H enc _ F => by rw [OpenClaim.pre_eq_preRow]; exact lifted os started H enc F)
theorem plain (f : FuncId) (fn : Func) (hf : Tryz.pinned.checked.prog.funcNamed "vellum/vellumlaw11.ComposeBrackets" = some f) (hfn : Tryz.pinned.checked.prog.funcs[f]? = some fn) :
    true = Tryz.pinned.checked.prog.looks [] ∧ ∀ (j : Nat) t, fn.params[j]? = some t → Tryz.pinned.checked.prog.wantsStandIn t = false := by
  obtain rfl : f = 5 := Option.some.inj ((show Tryz.prog.funcNamed "vellum/vellumlaw11.ComposeBrackets" = some 5 by kernel_rfl).symm.trans hf) |>.symm
  obtain rfl : fn = Tryz.f5 := (Option.some.inj (Tryz.func5.symm.trans hfn)).symm
  refine ⟨by kernel_rfl, fun j t ht => ?_⟩
  rw [Tryz.params5] at ht
  have ht' : t = 22 := by
    have := Array.mem_of_getElem? ht
    simp at this
    first | exact this | simpa using this | omega
  subst ht'
  · exact (show Tryz.prog.wantsStandIn 22 = false by kernel_rfl)
end Go.Proofs.YtnlpmajiccliiaaGreatDoor.composeBracketsRow
namespace Go.Proofs.YtnlpmajiccliiaaGreatDoor
set_option maxRecDepth 100000 in
theorem composeBrackets_card : Rows.ComposeBracketsUptoCardSaid :=
  Claim7.holds_tied_plain_at .later [] _ _ _ _ composeBracketsRow.saidUpto (fun _ h => by cases h) (by kernel_rfl) (fun _ h => by cases h) composeBracketsUpto_row_tie rfl ⟨rfl, rfl⟩ (by kernel_rfl) rfl composeBracketsRow.plain (by kernel_rfl)
#print axioms composeBrackets_card
end Go.Proofs.YtnlpmajiccliiaaGreatDoor
