/- Walks: the law WalkSides. -/
import Derived.Test.YtapolkhdikdjbaaGreatDoorRS
set_option linter.all false
namespace Ve
open Go Go.RowKit Go.Proofs Go.Shelf

attribute [local go_sem] Oper.semAt_some func_nil1 func_nil2 field_kind
attribute [local go_sem ↓] append_shut
attribute [local simp] undef_bool undef_iface
def sideL (l : List (Option Piece × Option Piece)) : List Op := (l.filterMap (·.1)).map Piece.op
def sideR (l : List (Option Piece × Option Piece)) : List Op := (l.filterMap (·.2)).map Piece.op
theorem side_both (l : List (Option Piece × Option Piece)) (p q : Piece) : sideL (l ++ [(some p, some q)]) = sideL l ++ [p.op] ∧ sideR (l ++ [(some p, some q)]) = sideR l ++ [q.op] := by simp [sideL, sideR]
theorem side_one (l : List (Option Piece × Option Piece)) (p : Piece) : sideL (l ++ [(some p, none)]) = sideL l ++ [p.op] ∧ sideR (l ++ [(some p, none)]) = sideR l := by simp [sideL, sideR]
theorem side_two (l : List (Option Piece × Option Piece)) (q : Piece) : sideL (l ++ [(none, some q)]) = sideL l ∧ sideR (l ++ [(none, some q)]) = sideR l ++ [q.op] := by simp [sideL, sideR]
theorem side_len (l : List (Option Piece × Option Piece)) : (sideL l).length ≤ l.length ∧ (sideR l).length ≤ l.length := by
  simp only [sideL, sideR, List.length_map]
  exact ⟨List.length_filterMap_le _ _, List.length_filterMap_le _ _⟩
theorem op_kind (p : Piece) : p.op.kind = p.k := by cases p <;> rfl
/-- What WalkSides holds between two rounds. -/
def SdI (H L R : Nat) (w5 : World) (S : List (Option Piece × Option Piece)) (pre : List Stp) (W : World) : Prop :=
  ∃ lv rv, SdB H L R (sideL (pre.map (·.1))) (sideR (pre.map (·.1))) lv rv W ∧ Gr w5 W ∧ pre.map (·.1) = S.take pre.length
theorem SdI.abd {H L R B : Nat} {w5 : World} {S : List (Option Piece × Option Piece)} (hB : w5.heap.size ≤ B) (pre : List Stp) : Abd (fun b t => B ≤ b ∧ wkG t) (SdI H L R w5 S pre) := by
  rintro W W' ⟨lv, rv, h1, h2, h3⟩ g
  exact ⟨lv, rv, h1.tn g (fun b h => by simp [wkG] at h) (fun b h => by simp [wkG] at h) (fun b h => by simp [wkG] at h), h2.tn g fun b t h => Nat.le_trans hB h.1, h3⟩
theorem sd_start (w : World) (a b : Value) : ∃ W, ((((((w.alloc (.cells #[a] 26)).alloc (.cells #[b] 26)).alloc (.cells #[] 46)).alloc (.cells #[] 46)).alloc (.cells #[.slice (some ⟨w.heap.size + 1 + 1, 0, none⟩) 0 0] 22)).alloc (.cells #[.slice (some ⟨w.heap.size + 1 + 1 + 1, 0, none⟩) 0 0] 22)) = W ∧ Gr w W ∧
    W.cell? ⟨w.heap.size, 0, none⟩ = some a ∧ W.cell? ⟨w.heap.size + 1, 0, none⟩ = some b ∧ SdB w.heap.size (w.heap.size + 1 + 1 + 1 + 1) (w.heap.size + 1 + 1 + 1 + 1 + 1) [] [] (.slice (some ⟨w.heap.size + 1 + 1, 0, none⟩) 0 0) (.slice (some ⟨w.heap.size + 1 + 1 + 1, 0, none⟩) 0 0) W := by
  refine ⟨_, rfl, ((((((Gr.refl w).alloc _).alloc _).alloc _).alloc _).alloc _).alloc _, ?_, ?_, ?_⟩
  · exact ((((((Blk.new w _ #[a]).alloc _).alloc _).alloc _).alloc _).alloc _).cell 0
  · have h := Blk.new (w.alloc (.cells #[a] 26)) 26 #[b]
    rw [World.size_alloc] at h
    exact ((((h.alloc _).alloc _).alloc _).alloc _).cell 0
  · refine ⟨?_, ?_, ?_, ?_, by omega, by omega, by omega, ?_⟩
    · have h := Blk.new ((((w.alloc (.cells #[a] 26)).alloc (.cells #[b] 26)).alloc (.cells #[] 46)).alloc (.cells #[] 46)) 22 #[.slice (some ⟨w.heap.size + 1 + 1, 0, none⟩) 0 0]
      simp only [World.size_alloc] at h
      exact h.alloc _
    · have h := Blk.new (((((w.alloc (.cells #[a] 26)).alloc (.cells #[b] 26)).alloc (.cells #[] 46)).alloc (.cells #[] 46)).alloc (.cells #[.slice (some ⟨w.heap.size + 1 + 1, 0, none⟩) 0 0] 22)) 22 #[.slice (some ⟨w.heap.size + 1 + 1 + 1, 0, none⟩) 0 0]
      simp only [World.size_alloc] at h
      exact h
    · have h := OwnL.made ((w.alloc (.cells #[a] 26)).alloc (.cells #[b] 26)) OpO 7 w.heap.size 46 (by simp; omega)
      simp only [World.size_alloc] at h
      exact OwnOps.gr h (((Gr.refl _).alloc _ |>.alloc _).alloc _)
    · have h := OwnL.made (((w.alloc (.cells #[a] 26)).alloc (.cells #[b] 26)).alloc (.cells #[] 46)) OpO 7 w.heap.size 46 (by simp; omega)
      simp only [World.size_alloc] at h
      exact OwnOps.gr h ((Gr.refl _).alloc _ |>.alloc _)
    · intro c h1 h2
      simp [Value.ownBlock] at h1 h2
      omega
set_option maxRecDepth 100000 in
set_option maxHeartbeats 8000000 in
theorem walkSides_any {ea : Nat → Addr} (la lb : List Op) (va vb : Value) (w : World) (hE : Env ea w) (hla : RdOps w va la) (hlb : RdOps w vb lb) (hTa : opsum la ≤ 1048576) (hNa : la.length ≤ 1048576) (hTb : opsum lb ≤ 1048576) (hNb : lb.length ≤ 1048576) :
    Calls Tryz.prog 6 #[va, vb] w fun e w' => e = .returned (.bool true) ∧ Gr w w' := by
  obtain ⟨N, hN⟩ : ∃ N : Nat, N = 5 := ⟨5, rfl⟩
  refine (callsIn_wide (n := N)).1 ?_
  have h1 : 1 ≤ N := by omega
  have HBa := heavy_bound hla hTa hNa
  have HBb := heavy_bound hlb hTb hNb
  obtain ⟨aa, na, ca, rfl, -⟩ := hla.sl
  obtain ⟨ab, nb, cb, rfl, -⟩ := hlb.sl
  have hmx : Tryz.prog.follows .mixedOrders = true := by kernel_rfl
  refine callsIn_of_wp_marks Tryz.func6 rfl trivial ?_ rfl
  simp only [Tryz.ntmps6, List.size_toArray, List.length_cons, List.length_nil, Nat.reduceAdd, Nat.reduceSub, Array.replicate_succ, Array.replicate_zero, List.push_toArray, List.append_toArray, List.nil_append, List.cons_append]
  have hR0 := Blk.new w 4 #[.bool false]
  by_cases hha : heavyN la ≤ 6000
  case neg =>
    have HA := Lib.hid (show decide (6000 < heavyN la) = true from by simpa using hha); clear hha
    gi_wp2_with (first
                | ((with_reducible refine And.intro ?_ ?_); exact trivial; gi_at_call 15; refine (callsIn_wide.2 (lives07_any _ (hE.gr (by repeat (with_reducible first | assumption | exact Gr.refl _ | apply Gr.alloc | apply Gr.drewN | apply Gr.drew | apply Gr.iter | (refine Gr.setCell ?_ (by simp) _) | (refine Gr.trans ?_ (by assumption))))))).mono ?_; rintro e w1 ⟨rfl, hg1⟩)
                | ((with_reducible refine And.intro ?_ ?_); exact trivial; gi_at_call 16; have _h := hg2; refine (callsIn_wide.2 (heavy_any lb _ _ (RdOps.gr hlb (by repeat (with_reducible first | assumption | exact Gr.refl _ | apply Gr.alloc | apply Gr.drewN | apply Gr.drew | apply Gr.iter | (refine Gr.setCell ?_ (by simp) _) | (refine Gr.trans ?_ (by assumption))))) HBb)).mono ?_; rw [HB.out]; rintro e w3 ⟨rfl, hg3⟩; have bR := Blk.gr (w' := w3) hR0 (by repeat (with_reducible first | assumption | exact Gr.refl _ | apply Gr.alloc | apply Gr.drewN | apply Gr.drew | apply Gr.iter | (refine Gr.setCell ?_ (by simp) _) | (refine Gr.trans ?_ (by assumption)))); have cR := bR.cell; have fR := bR.frozen; have zR := bR.lt)
                | ((with_reducible refine And.intro ?_ ?_); exact trivial; gi_at_call 16; refine (callsIn_wide.2 (heavy_any la _ _ (RdOps.gr hla (by repeat (with_reducible first | assumption | exact Gr.refl _ | apply Gr.alloc | apply Gr.drewN | apply Gr.drew | apply Gr.iter | (refine Gr.setCell ?_ (by simp) _) | (refine Gr.trans ?_ (by assumption))))) HBa)).mono ?_; rw [HA.out]; rintro e w2 ⟨rfl, hg2⟩; have bR := Blk.gr (w' := w2) hR0 (by repeat (with_reducible first | assumption | exact Gr.refl _ | apply Gr.alloc | apply Gr.drewN | apply Gr.drew | apply Gr.iter | (refine Gr.setCell ?_ (by simp) _) | (refine Gr.trans ?_ (by assumption)))); have cR := bR.cell; have fR := bR.frozen; have zR := bR.lt)
                | ((with_reducible refine And.intro ?_ ?_); exact trivial; gi_at_call 17; have _h := hg4; refine (callsIn_wide.2 (made_any lb _ _ (hE.gr (by repeat (with_reducible first | assumption | exact Gr.refl _ | apply Gr.alloc | apply Gr.drewN | apply Gr.drew | apply Gr.iter | (refine Gr.setCell ?_ (by simp) _) | (refine Gr.trans ?_ (by assumption))))) (RdOps.gr hlb (by repeat (with_reducible first | assumption | exact Gr.refl _ | apply Gr.alloc | apply Gr.drewN | apply Gr.drew | apply Gr.iter | (refine Gr.setCell ?_ (by simp) _) | (refine Gr.trans ?_ (by assumption))))) HZb.out.1 HZb.out.2.1 HZb.out.2.2)).mono ?_; rw [GB.out]; rintro e w5 ⟨dvb, ovb, rfl, hg5, hdb, -⟩; have bR := Blk.gr (w' := w5) hR0 (by repeat (with_reducible first | assumption | exact Gr.refl _ | apply Gr.alloc | apply Gr.drewN | apply Gr.drew | apply Gr.iter | (refine Gr.setCell ?_ (by simp) _) | (refine Gr.trans ?_ (by assumption)))); have cR := bR.cell; have fR := bR.frozen; have zR := bR.lt)
                | ((with_reducible refine And.intro ?_ ?_); exact trivial; gi_at_call 17; refine (callsIn_wide.2 (made_any la _ _ (hE.gr (by repeat (with_reducible first | assumption | exact Gr.refl _ | apply Gr.alloc | apply Gr.drewN | apply Gr.drew | apply Gr.iter | (refine Gr.setCell ?_ (by simp) _) | (refine Gr.trans ?_ (by assumption))))) (RdOps.gr hla (by repeat (with_reducible first | assumption | exact Gr.refl _ | apply Gr.alloc | apply Gr.drewN | apply Gr.drew | apply Gr.iter | (refine Gr.setCell ?_ (by simp) _) | (refine Gr.trans ?_ (by assumption))))) HZa.out.1 HZa.out.2.1 HZa.out.2.2)).mono ?_; rw [GA.out]; rintro e w4 ⟨dva, ova, rfl, hg4, hda, -⟩)
                | ((with_reducible refine And.intro ?_ ?_); (first | exact trivial | (intro f hf; cases hf)); go_at_K))
    have hq : (w2.setCell ⟨w.heap.size, 0, none⟩ (.bool true)).cell? ⟨w.heap.size, 0, none⟩ = some (.bool true) := (bR.set 0 (.bool true)).cell 0
    refine ⟨.bool true, ?_, rfl, Below.setCell (p := ⟨w.heap.size, 0, none⟩) (show Gr w w2 from (by repeat (with_reducible first | assumption | exact Gr.refl _ | apply Gr.alloc | apply Gr.drewN | apply Gr.drew | apply Gr.iter | (refine Gr.setCell ?_ (by simp) _) | (refine Gr.trans ?_ (by assumption))))) (Nat.le_refl _) _⟩
    simp [results, Tryz.f6, go_sem, hq]
  case pos =>
    have HA := Lib.hid (show decide (6000 < heavyN la) = false from by simpa using hha)
    by_cases hhb : heavyN lb ≤ 6000
    case neg =>
      have HB := Lib.hid (show decide (6000 < heavyN lb) = true from by simpa using hhb); clear hha hhb
      gi_wp2_with (first
                  | ((with_reducible refine And.intro ?_ ?_); exact trivial; gi_at_call 15; refine (callsIn_wide.2 (lives07_any _ (hE.gr (by repeat (with_reducible first | assumption | exact Gr.refl _ | apply Gr.alloc | apply Gr.drewN | apply Gr.drew | apply Gr.iter | (refine Gr.setCell ?_ (by simp) _) | (refine Gr.trans ?_ (by assumption))))))).mono ?_; rintro e w1 ⟨rfl, hg1⟩)
                  | ((with_reducible refine And.intro ?_ ?_); exact trivial; gi_at_call 16; have _h := hg2; refine (callsIn_wide.2 (heavy_any lb _ _ (RdOps.gr hlb (by repeat (with_reducible first | assumption | exact Gr.refl _ | apply Gr.alloc | apply Gr.drewN | apply Gr.drew | apply Gr.iter | (refine Gr.setCell ?_ (by simp) _) | (refine Gr.trans ?_ (by assumption))))) HBb)).mono ?_; rw [HB.out]; rintro e w3 ⟨rfl, hg3⟩; have bR := Blk.gr (w' := w3) hR0 (by repeat (with_reducible first | assumption | exact Gr.refl _ | apply Gr.alloc | apply Gr.drewN | apply Gr.drew | apply Gr.iter | (refine Gr.setCell ?_ (by simp) _) | (refine Gr.trans ?_ (by assumption)))); have cR := bR.cell; have fR := bR.frozen; have zR := bR.lt)
                  | ((with_reducible refine And.intro ?_ ?_); exact trivial; gi_at_call 16; refine (callsIn_wide.2 (heavy_any la _ _ (RdOps.gr hla (by repeat (with_reducible first | assumption | exact Gr.refl _ | apply Gr.alloc | apply Gr.drewN | apply Gr.drew | apply Gr.iter | (refine Gr.setCell ?_ (by simp) _) | (refine Gr.trans ?_ (by assumption))))) HBa)).mono ?_; rw [HA.out]; rintro e w2 ⟨rfl, hg2⟩; have bR := Blk.gr (w' := w2) hR0 (by repeat (with_reducible first | assumption | exact Gr.refl _ | apply Gr.alloc | apply Gr.drewN | apply Gr.drew | apply Gr.iter | (refine Gr.setCell ?_ (by simp) _) | (refine Gr.trans ?_ (by assumption)))); have cR := bR.cell; have fR := bR.frozen; have zR := bR.lt)
                  | ((with_reducible refine And.intro ?_ ?_); exact trivial; gi_at_call 17; have _h := hg4; refine (callsIn_wide.2 (made_any lb _ _ (hE.gr (by repeat (with_reducible first | assumption | exact Gr.refl _ | apply Gr.alloc | apply Gr.drewN | apply Gr.drew | apply Gr.iter | (refine Gr.setCell ?_ (by simp) _) | (refine Gr.trans ?_ (by assumption))))) (RdOps.gr hlb (by repeat (with_reducible first | assumption | exact Gr.refl _ | apply Gr.alloc | apply Gr.drewN | apply Gr.drew | apply Gr.iter | (refine Gr.setCell ?_ (by simp) _) | (refine Gr.trans ?_ (by assumption))))) HZb.out.1 HZb.out.2.1 HZb.out.2.2)).mono ?_; rw [GB.out]; rintro e w5 ⟨dvb, ovb, rfl, hg5, hdb, -⟩; have bR := Blk.gr (w' := w5) hR0 (by repeat (with_reducible first | assumption | exact Gr.refl _ | apply Gr.alloc | apply Gr.drewN | apply Gr.drew | apply Gr.iter | (refine Gr.setCell ?_ (by simp) _) | (refine Gr.trans ?_ (by assumption)))); have cR := bR.cell; have fR := bR.frozen; have zR := bR.lt)
                  | ((with_reducible refine And.intro ?_ ?_); exact trivial; gi_at_call 17; refine (callsIn_wide.2 (made_any la _ _ (hE.gr (by repeat (with_reducible first | assumption | exact Gr.refl _ | apply Gr.alloc | apply Gr.drewN | apply Gr.drew | apply Gr.iter | (refine Gr.setCell ?_ (by simp) _) | (refine Gr.trans ?_ (by assumption))))) (RdOps.gr hla (by repeat (with_reducible first | assumption | exact Gr.refl _ | apply Gr.alloc | apply Gr.drewN | apply Gr.drew | apply Gr.iter | (refine Gr.setCell ?_ (by simp) _) | (refine Gr.trans ?_ (by assumption))))) HZa.out.1 HZa.out.2.1 HZa.out.2.2)).mono ?_; rw [GA.out]; rintro e w4 ⟨dva, ova, rfl, hg4, hda, -⟩)
                  | ((with_reducible refine And.intro ?_ ?_); (first | exact trivial | (intro f hf; cases hf)); go_at_K))
      have hq : (w3.setCell ⟨w.heap.size, 0, none⟩ (.bool true)).cell? ⟨w.heap.size, 0, none⟩ = some (.bool true) := (bR.set 0 (.bool true)).cell 0
      refine ⟨.bool true, ?_, rfl, Below.setCell (p := ⟨w.heap.size, 0, none⟩) (show Gr w w3 from (by repeat (with_reducible first | assumption | exact Gr.refl _ | apply Gr.alloc | apply Gr.drewN | apply Gr.drew | apply Gr.iter | (refine Gr.setCell ?_ (by simp) _) | (refine Gr.trans ?_ (by assumption))))) (Nat.le_refl _) _⟩
      simp [results, Tryz.f6, go_sem, hq]
    case pos =>
      have HB := Lib.hid (show decide (6000 < heavyN lb) = false from by simpa using hhb)
      obtain ⟨ya1, ya2, ya3⟩ := heavy_parts hha
      obtain ⟨yb1, yb2, yb3⟩ := heavy_parts hhb
      have HZa := Lib.hid (show opsum la ≤ 1099511627776 ∧ 2 * la.length + 4 ≤ 1099511627776 ∧ ∀ o ∈ la, o.attrs.length + 1 ≤ 1099511627776 from ⟨by omega, by omega, fun o ho => by have := ya3 o ho; omega⟩)
      have HZb := Lib.hid (show opsum lb ≤ 1099511627776 ∧ 2 * lb.length + 4 ≤ 1099511627776 ∧ ∀ o ∈ lb, o.attrs.length + 1 ≤ 1099511627776 from ⟨by omega, by omega, fun o ho => by have := yb3 o ho; omega⟩)
      clear ya1 ya2 ya3 yb1 yb2 yb3
      by_cases ga : (pushAll la).2.2 = 0
      case neg =>
        have GA := Lib.hid (show decide ((pushAll la).2.2 = 0) = false from decide_eq_false ga); clear ga hha hhb
        obtain ⟨gb, hgb⟩ : ∃ gb, decide ((pushAll lb).2.2 = 0) = gb := ⟨_, rfl⟩
        have GB := Lib.hid hgb; clear hgb
        gi_wp2_with (first
                    | ((with_reducible refine And.intro ?_ ?_); exact trivial; gi_at_call 15; refine (callsIn_wide.2 (lives07_any _ (hE.gr (by repeat (with_reducible first | assumption | exact Gr.refl _ | apply Gr.alloc | apply Gr.drewN | apply Gr.drew | apply Gr.iter | (refine Gr.setCell ?_ (by simp) _) | (refine Gr.trans ?_ (by assumption))))))).mono ?_; rintro e w1 ⟨rfl, hg1⟩)
                    | ((with_reducible refine And.intro ?_ ?_); exact trivial; gi_at_call 16; have _h := hg2; refine (callsIn_wide.2 (heavy_any lb _ _ (RdOps.gr hlb (by repeat (with_reducible first | assumption | exact Gr.refl _ | apply Gr.alloc | apply Gr.drewN | apply Gr.drew | apply Gr.iter | (refine Gr.setCell ?_ (by simp) _) | (refine Gr.trans ?_ (by assumption))))) HBb)).mono ?_; rw [HB.out]; rintro e w3 ⟨rfl, hg3⟩; have bR := Blk.gr (w' := w3) hR0 (by repeat (with_reducible first | assumption | exact Gr.refl _ | apply Gr.alloc | apply Gr.drewN | apply Gr.drew | apply Gr.iter | (refine Gr.setCell ?_ (by simp) _) | (refine Gr.trans ?_ (by assumption)))); have cR := bR.cell; have fR := bR.frozen; have zR := bR.lt)
                    | ((with_reducible refine And.intro ?_ ?_); exact trivial; gi_at_call 16; refine (callsIn_wide.2 (heavy_any la _ _ (RdOps.gr hla (by repeat (with_reducible first | assumption | exact Gr.refl _ | apply Gr.alloc | apply Gr.drewN | apply Gr.drew | apply Gr.iter | (refine Gr.setCell ?_ (by simp) _) | (refine Gr.trans ?_ (by assumption))))) HBa)).mono ?_; rw [HA.out]; rintro e w2 ⟨rfl, hg2⟩; have bR := Blk.gr (w' := w2) hR0 (by repeat (with_reducible first | assumption | exact Gr.refl _ | apply Gr.alloc | apply Gr.drewN | apply Gr.drew | apply Gr.iter | (refine Gr.setCell ?_ (by simp) _) | (refine Gr.trans ?_ (by assumption)))); have cR := bR.cell; have fR := bR.frozen; have zR := bR.lt)
                    | ((with_reducible refine And.intro ?_ ?_); exact trivial; gi_at_call 17; have _h := hg4; refine (callsIn_wide.2 (made_any lb _ _ (hE.gr (by repeat (with_reducible first | assumption | exact Gr.refl _ | apply Gr.alloc | apply Gr.drewN | apply Gr.drew | apply Gr.iter | (refine Gr.setCell ?_ (by simp) _) | (refine Gr.trans ?_ (by assumption))))) (RdOps.gr hlb (by repeat (with_reducible first | assumption | exact Gr.refl _ | apply Gr.alloc | apply Gr.drewN | apply Gr.drew | apply Gr.iter | (refine Gr.setCell ?_ (by simp) _) | (refine Gr.trans ?_ (by assumption))))) HZb.out.1 HZb.out.2.1 HZb.out.2.2)).mono ?_; rw [GB.out]; rintro e w5 ⟨dvb, ovb, rfl, hg5, hdb, -⟩; have bR := Blk.gr (w' := w5) hR0 (by repeat (with_reducible first | assumption | exact Gr.refl _ | apply Gr.alloc | apply Gr.drewN | apply Gr.drew | apply Gr.iter | (refine Gr.setCell ?_ (by simp) _) | (refine Gr.trans ?_ (by assumption)))); have cR := bR.cell; have fR := bR.frozen; have zR := bR.lt)
                    | ((with_reducible refine And.intro ?_ ?_); exact trivial; gi_at_call 17; refine (callsIn_wide.2 (made_any la _ _ (hE.gr (by repeat (with_reducible first | assumption | exact Gr.refl _ | apply Gr.alloc | apply Gr.drewN | apply Gr.drew | apply Gr.iter | (refine Gr.setCell ?_ (by simp) _) | (refine Gr.trans ?_ (by assumption))))) (RdOps.gr hla (by repeat (with_reducible first | assumption | exact Gr.refl _ | apply Gr.alloc | apply Gr.drewN | apply Gr.drew | apply Gr.iter | (refine Gr.setCell ?_ (by simp) _) | (refine Gr.trans ?_ (by assumption))))) HZa.out.1 HZa.out.2.1 HZa.out.2.2)).mono ?_; rw [GA.out]; rintro e w4 ⟨dva, ova, rfl, hg4, hda, -⟩)
                    | ((with_reducible refine And.intro ?_ ?_); (first | exact trivial | (intro f hf; cases hf)); go_at_K))
        all_goals (have hq : (w5.setCell ⟨w.heap.size, 0, none⟩ (.bool true)).cell? ⟨w.heap.size, 0, none⟩ = some (.bool true) := (bR.set 0 (.bool true)).cell 0
                   refine ⟨.bool true, ?_, rfl, Below.setCell (p := ⟨w.heap.size, 0, none⟩) (show Gr w w5 from (by repeat (with_reducible first | assumption | exact Gr.refl _ | apply Gr.alloc | apply Gr.drewN | apply Gr.drew | apply Gr.iter | (refine Gr.setCell ?_ (by simp) _) | (refine Gr.trans ?_ (by assumption))))) (Nat.le_refl _) _⟩
                   simp [results, Tryz.f6, go_sem, hq])
      case pos =>
        have GA := Lib.hid (show decide ((pushAll la).2.2 = 0) = true from decide_eq_true ga)
        by_cases gb : (pushAll lb).2.2 = 0
        case neg =>
          have GB := Lib.hid (show decide ((pushAll lb).2.2 = 0) = false from decide_eq_false gb); clear ga gb hha hhb
          gi_wp2_with (first
                      | ((with_reducible refine And.intro ?_ ?_); exact trivial; gi_at_call 15; refine (callsIn_wide.2 (lives07_any _ (hE.gr (by repeat (with_reducible first | assumption | exact Gr.refl _ | apply Gr.alloc | apply Gr.drewN | apply Gr.drew | apply Gr.iter | (refine Gr.setCell ?_ (by simp) _) | (refine Gr.trans ?_ (by assumption))))))).mono ?_; rintro e w1 ⟨rfl, hg1⟩)
                      | ((with_reducible refine And.intro ?_ ?_); exact trivial; gi_at_call 16; have _h := hg2; refine (callsIn_wide.2 (heavy_any lb _ _ (RdOps.gr hlb (by repeat (with_reducible first | assumption | exact Gr.refl _ | apply Gr.alloc | apply Gr.drewN | apply Gr.drew | apply Gr.iter | (refine Gr.setCell ?_ (by simp) _) | (refine Gr.trans ?_ (by assumption))))) HBb)).mono ?_; rw [HB.out]; rintro e w3 ⟨rfl, hg3⟩; have bR := Blk.gr (w' := w3) hR0 (by repeat (with_reducible first | assumption | exact Gr.refl _ | apply Gr.alloc | apply Gr.drewN | apply Gr.drew | apply Gr.iter | (refine Gr.setCell ?_ (by simp) _) | (refine Gr.trans ?_ (by assumption)))); have cR := bR.cell; have fR := bR.frozen; have zR := bR.lt)
                      | ((with_reducible refine And.intro ?_ ?_); exact trivial; gi_at_call 16; refine (callsIn_wide.2 (heavy_any la _ _ (RdOps.gr hla (by repeat (with_reducible first | assumption | exact Gr.refl _ | apply Gr.alloc | apply Gr.drewN | apply Gr.drew | apply Gr.iter | (refine Gr.setCell ?_ (by simp) _) | (refine Gr.trans ?_ (by assumption))))) HBa)).mono ?_; rw [HA.out]; rintro e w2 ⟨rfl, hg2⟩; have bR := Blk.gr (w' := w2) hR0 (by repeat (with_reducible first | assumption | exact Gr.refl _ | apply Gr.alloc | apply Gr.drewN | apply Gr.drew | apply Gr.iter | (refine Gr.setCell ?_ (by simp) _) | (refine Gr.trans ?_ (by assumption)))); have cR := bR.cell; have fR := bR.frozen; have zR := bR.lt)
                      | ((with_reducible refine And.intro ?_ ?_); exact trivial; gi_at_call 17; have _h := hg4; refine (callsIn_wide.2 (made_any lb _ _ (hE.gr (by repeat (with_reducible first | assumption | exact Gr.refl _ | apply Gr.alloc | apply Gr.drewN | apply Gr.drew | apply Gr.iter | (refine Gr.setCell ?_ (by simp) _) | (refine Gr.trans ?_ (by assumption))))) (RdOps.gr hlb (by repeat (with_reducible first | assumption | exact Gr.refl _ | apply Gr.alloc | apply Gr.drewN | apply Gr.drew | apply Gr.iter | (refine Gr.setCell ?_ (by simp) _) | (refine Gr.trans ?_ (by assumption))))) HZb.out.1 HZb.out.2.1 HZb.out.2.2)).mono ?_; rw [GB.out]; rintro e w5 ⟨dvb, ovb, rfl, hg5, hdb, -⟩; have bR := Blk.gr (w' := w5) hR0 (by repeat (with_reducible first | assumption | exact Gr.refl _ | apply Gr.alloc | apply Gr.drewN | apply Gr.drew | apply Gr.iter | (refine Gr.setCell ?_ (by simp) _) | (refine Gr.trans ?_ (by assumption)))); have cR := bR.cell; have fR := bR.frozen; have zR := bR.lt)
                      | ((with_reducible refine And.intro ?_ ?_); exact trivial; gi_at_call 17; refine (callsIn_wide.2 (made_any la _ _ (hE.gr (by repeat (with_reducible first | assumption | exact Gr.refl _ | apply Gr.alloc | apply Gr.drewN | apply Gr.drew | apply Gr.iter | (refine Gr.setCell ?_ (by simp) _) | (refine Gr.trans ?_ (by assumption))))) (RdOps.gr hla (by repeat (with_reducible first | assumption | exact Gr.refl _ | apply Gr.alloc | apply Gr.drewN | apply Gr.drew | apply Gr.iter | (refine Gr.setCell ?_ (by simp) _) | (refine Gr.trans ?_ (by assumption))))) HZa.out.1 HZa.out.2.1 HZa.out.2.2)).mono ?_; rw [GA.out]; rintro e w4 ⟨dva, ova, rfl, hg4, hda, -⟩)
                      | ((with_reducible refine And.intro ?_ ?_); (first | exact trivial | (intro f hf; cases hf)); go_at_K))
          have hq : (w5.setCell ⟨w.heap.size, 0, none⟩ (.bool true)).cell? ⟨w.heap.size, 0, none⟩ = some (.bool true) := (bR.set 0 (.bool true)).cell 0
          refine ⟨.bool true, ?_, rfl, Below.setCell (p := ⟨w.heap.size, 0, none⟩) (show Gr w w5 from (by repeat (with_reducible first | assumption | exact Gr.refl _ | apply Gr.alloc | apply Gr.drewN | apply Gr.drew | apply Gr.iter | (refine Gr.setCell ?_ (by simp) _) | (refine Gr.trans ?_ (by assumption))))) (Nat.le_refl _) _⟩
          simp [results, Tryz.f6, go_sem, hq]
        case pos =>
          have GB := Lib.hid (show decide ((pushAll lb).2.2 = 0) = true from decide_eq_true gb)
          have pa : pushAll la = ((pushAll la).1, 0, 0) := by obtain ⟨e1, e2⟩ := push_put (s := .new) (i := 0) (l := la) ga; exact (show pushAll la = _ from e1).trans (by rw [show (pushAll la).1 = putAll .new la from congrArg (·.1) (show pushAll la = _ from e1)])
          have pb : pushAll lb = ((pushAll lb).1, 0, 0) := by obtain ⟨e1, e2⟩ := push_put (s := .new) (i := 0) (l := lb) gb; exact (show pushAll lb = _ from e1).trans (by rw [show (pushAll lb).1 = putAll .new lb from congrArg (·.1) (show pushAll lb = _ from e1)])
          obtain ⟨hp, lp, tp⟩ := made_facts hha pa
          obtain ⟨hq, lq, tq⟩ := made_facts hhb pb
          obtain ⟨ps, hps⟩ : ∃ ps, (pushAll la).1.delta = ps := ⟨_, rfl⟩
          obtain ⟨qs, hqs⟩ : ∃ qs, (pushAll lb).1.delta = qs := ⟨_, rfl⟩
          rw [hps] at hp lp tp
          rw [hqs] at hq lq tq
          have PA := Lib.hid hps; have PB := Lib.hid hqs; have GA0 := Lib.hid ga; have GB0 := Lib.hid gb
          have LP := Lib.hid (And.intro lp tp); have LQ := Lib.hid (And.intro lq tq)
          clear hps hqs ga gb pa pb hha hhb lp tp lq tq
          gi_wp2_with (first
                      | ((with_reducible refine And.intro ?_ ?_); exact trivial; gi_at_call 15; refine (callsIn_wide.2 (lives07_any _ (hE.gr (by repeat (with_reducible first | assumption | exact Gr.refl _ | apply Gr.alloc | apply Gr.drewN | apply Gr.drew | apply Gr.iter | (refine Gr.setCell ?_ (by simp) _) | (refine Gr.trans ?_ (by assumption))))))).mono ?_; rintro e w1 ⟨rfl, hg1⟩)
                      | ((with_reducible refine And.intro ?_ ?_); exact trivial; gi_at_call 16; have _h := hg2; refine (callsIn_wide.2 (heavy_any lb _ _ (RdOps.gr hlb (by repeat (with_reducible first | assumption | exact Gr.refl _ | apply Gr.alloc | apply Gr.drewN | apply Gr.drew | apply Gr.iter | (refine Gr.setCell ?_ (by simp) _) | (refine Gr.trans ?_ (by assumption))))) HBb)).mono ?_; rw [HB.out]; rintro e w3 ⟨rfl, hg3⟩)
                      | ((with_reducible refine And.intro ?_ ?_); exact trivial; gi_at_call 16; refine (callsIn_wide.2 (heavy_any la _ _ (RdOps.gr hla (by repeat (with_reducible first | assumption | exact Gr.refl _ | apply Gr.alloc | apply Gr.drewN | apply Gr.drew | apply Gr.iter | (refine Gr.setCell ?_ (by simp) _) | (refine Gr.trans ?_ (by assumption))))) HBa)).mono ?_; rw [HA.out]; rintro e w2 ⟨rfl, hg2⟩)
                      | ((with_reducible refine And.intro ?_ ?_); exact trivial; gi_at_call 17; have _h := hg4; refine (callsIn_wide.2 (made_any lb _ _ (hE.gr (by repeat (with_reducible first | assumption | exact Gr.refl _ | apply Gr.alloc | apply Gr.drewN | apply Gr.drew | apply Gr.iter | (refine Gr.setCell ?_ (by simp) _) | (refine Gr.trans ?_ (by assumption))))) (RdOps.gr hlb (by repeat (with_reducible first | assumption | exact Gr.refl _ | apply Gr.alloc | apply Gr.drewN | apply Gr.drew | apply Gr.iter | (refine Gr.setCell ?_ (by simp) _) | (refine Gr.trans ?_ (by assumption))))) HZb.out.1 HZb.out.2.1 HZb.out.2.2)).mono ?_; rw [GB.out]; rintro e w5 ⟨dvb, ovb, rfl, hg5, hdb, -⟩; obtain ⟨hdb1, hdb2⟩ := hdb GB0.out; rw [PB.out] at hdb1 hdb2; obtain ⟨gdb, sdb, rfl, hBdb, hrdb⟩ := hdb1; have hD5 := Lib.hid (show DeltaR w5 (.pointer (some ⟨gdb, 0, none⟩)) qs from ⟨gdb, sdb, rfl, hBdb, hrdb⟩); obtain ⟨ob, onb, ocb, rfl, -⟩ := hdb2.sl; have hO5 := Lib.hid hdb2; clear hdb hdb2 hBdb hrdb)
                      | ((with_reducible refine And.intro ?_ ?_); exact trivial; gi_at_call 17; refine (callsIn_wide.2 (made_any la _ _ (hE.gr (by repeat (with_reducible first | assumption | exact Gr.refl _ | apply Gr.alloc | apply Gr.drewN | apply Gr.drew | apply Gr.iter | (refine Gr.setCell ?_ (by simp) _) | (refine Gr.trans ?_ (by assumption))))) (RdOps.gr hla (by repeat (with_reducible first | assumption | exact Gr.refl _ | apply Gr.alloc | apply Gr.drewN | apply Gr.drew | apply Gr.iter | (refine Gr.setCell ?_ (by simp) _) | (refine Gr.trans ?_ (by assumption))))) HZa.out.1 HZa.out.2.1 HZa.out.2.2)).mono ?_; rw [GA.out]; rintro e w4 ⟨dva, ova, rfl, hg4, hda, -⟩; obtain ⟨hda1, hda2⟩ := hda GA0.out; rw [PA.out] at hda1 hda2; obtain ⟨gda, sda, rfl, hBda, hrda⟩ := hda1; have hD4 := Lib.hid (show DeltaR w4 (.pointer (some ⟨gda, 0, none⟩)) ps from ⟨gda, sda, rfl, hBda, hrda⟩); obtain ⟨oa, ona, oca, rfl, -⟩ := hda2.sl; have hO4 := Lib.hid hda2; clear hda hda2 hBda hrda)
                      | ((with_reducible refine And.intro ?_ ?_); exact trivial; gi_at_call 32; refine (callsIn_wide.2 (wsteps_any _ _ _)).mono ?_; rintro e w6 ⟨rfl, rfl⟩)
                      | ((with_reducible refine And.intro ?_ ?_); (first | exact trivial | (intro f hf; cases hf)); go_at_K))
          obtain ⟨WB, hWB, hGB, bA, bB, hS0⟩ := sd_start w5 (.pointer (some ⟨gda, 0, none⟩)) (.pointer (some ⟨gdb, 0, none⟩))
          rw [hWB]
          have hE5 : Env ea w5 := hE.gr (by repeat (with_reducible first | assumption | exact Gr.refl _ | apply Gr.alloc | apply Gr.drewN | apply Gr.drew | apply Gr.iter | (refine Gr.setCell ?_ (by simp) _) | (refine Gr.trans ?_ (by assumption))))
          have hR5 : Blk w5 w.heap.size 4 #[.bool false] := hR0.gr (by repeat (with_reducible first | assumption | exact Gr.refl _ | apply Gr.alloc | apply Gr.drewN | apply Gr.drew | apply Gr.iter | (refine Gr.setCell ?_ (by simp) _) | (refine Gr.trans ?_ (by assumption))))
          have hGw : Gr w w5 := (by repeat (with_reducible first | assumption | exact Gr.refl _ | apply Gr.alloc | apply Gr.drewN | apply Gr.drew | apply Gr.iter | (refine Gr.setCell ?_ (by simp) _) | (refine Gr.trans ?_ (by assumption))))
          have hD45 : DeltaR w5 (.pointer (some ⟨gda, 0, none⟩)) ps := DeltaR.gr hD4.out hg5
          have hO45 : RdOps w5 (.slice oa ona oca) (ps.map Piece.op) := RdOps.gr hO4.out hg5
          obtain ⟨SS, hSS⟩ : ∃ SS, stepsP (ps.length + qs.length) ps qs = SS := ⟨_, rfl⟩
          have hsl : SS.length ≤ 24002 := by have := steps_len (ps.length + qs.length) ps qs; rw [hSS] at this; have := LP.out.1; have := LQ.out.1; omega
          have hsok : ∀ x ∈ SS, StepOk x := by rw [← hSS]; exact steps_ok _ _ _ hp hq
          have hseq := steps_told (N - 1) w5.heap.size (w5.heap.size + 1) (by omega) ps qs _ _ w5 WB hE5 hGB bA bB hD45 hD5.out hp hq
          rw [hSS] at hseq
          have h5B := hGB.size
          obtain ⟨H5, hH5⟩ : ∃ H5, w5.heap.size = H5 := ⟨_, rfl⟩
          rw [hH5] at hS0 hseq h5B ⊢
          clear hWB bA bB hD4 hO4 hg1 hg2 hg3 hg4 hg5
          have hI : ∀ s, Abd (fun b t => WB.heap.size ≤ b ∧ wkG t) (SdI H5 (H5 + 1 + 1 + 1 + 1) (H5 + 1 + 1 + 1 + 1 + 1) w5 SS s) := fun s => SdI.abd (by omega) s
          apply wpIn_told rfl h1 (gf := 98) (lb := #[.pointer (some ⟨H5, 0, none⟩), .pointer (some ⟨H5 + 1, 0, none⟩)]) rfl trivial (enters_of Tryz.func98 (by kernel_rfl) rfl) hseq
            (.inl rfl) (fun h k => h.trans k) (fun x W l o o' hl h ho _ => Tn.put W o' h (by rw [tyO_none ho]; exact ⟨by omega, by simp, by simp, by simp⟩))
            (fun k x W W' h g => StpT.tn h g fun b hh => by simp [wkG] at hh) (Below.refl _ _) (fun _ => rfl)
            (SdI H5 (H5 + 1 + 1 + 1 + 1) (H5 + 1 + 1 + 1 + 1 + 1) w5 SS) (fun _ _ _ => False) hI (fun _ _ _ _ hs _ => hs)
            ⟨_, _, hS0, hGB, rfl⟩ _ ?assign ?body ?done ?stop
          case assign =>
            intro l x W K hK
            gi_wp2
            exact hK
          case body =>
            rintro L0 pre ⟨⟨o1, o2⟩, pv, qv⟩ W ⟨lv, rv, hS, hg5W, htk⟩ ⟨hk, hpv, hqv⟩
            have hmem := hsok _ (List.mem_of_getElem? hk)
            have hlt : pre.length < SS.length := (List.getElem?_eq_some_iff.1 hk).1
            have HLn := Lib.hid (show (sideL (pre.map (·.1))).length ≤ 24002 ∧ (sideR (pre.map (·.1))).length ≤ 24002 by have h := side_len (pre.map (·.1)); rw [List.length_map] at h; omega)
            obtain ⟨la1, n1, c1, rfl, -, -, hn1⟩ := hS.ol.sl
            obtain ⟨ra1, m1, d1, rfl, -, -, hm1⟩ := hS.or_.sl
            have hnm : n1 ≤ 24002 ∧ m1 ≤ 24002 := by have := HLn.out; rw [hn1.out, hm1.out] at this; exact this
            have b12 := hS.bl.cell; have b13 := hS.br.cell
            have HTK := Lib.hid (And.intro htk hk); clear htk hk
            have hzW : H5 ≤ W.heap.size := by have := hg5W.size; omega
            rcases hmem with ⟨q, e, hq1, hqk⟩ | ⟨p, e, hp1, hpk⟩ | ⟨p, q, e, hp1, hq1, hlen, hpk, hqk⟩
            · obtain ⟨rfl, rfl⟩ : o1 = none ∧ o2 = some q := by simpa using e
              obtain rfl : pv = .nilIface := hpv
              replace hqv : PieceV W q qv := hqv
              clear e
              obtain ⟨Tq, yq, fq, eq, hmq, heq, hcq⟩ := op_methV hqv (PsOk.good (ps := [q]) (fun x hx => by rw [List.mem_singleton.1 hx]; exact hq1) q (by simp))
              subst eq
              obtain ⟨kq, tq, ⟨vaq, vbq, vtq⟩, cq, aq, oq⟩ : ∃ k t v c a, q.op = ⟨k, t, v, c, a⟩ := ⟨_, _, _, _, _, rfl⟩
              have sq := hqv.sz
              have atq := op_attrs q
              have kkq := op_kind q
              have shq := hqv.short
              rw [oq] at hcq sq atq kkq
              dsimp only at sq atq kkq
              have HCq := Lib.hid hcq; have SZq := Lib.hid (And.intro sq (And.intro atq shq)); clear hcq sq atq shq
              have hkq : kq = 1 ∨ kq = 2 := by rw [kkq]; exact hqk
              have HKQ := Lib.hid hkq; clear kkq hqk hkq
              gi_wp2
              apply shared
              case h =>
                intro cont
                gi_region_with_o (first
                  | (((with_reducible refine And.intro ?_ ?_); exact trivial; gi_at_fn fq; have _h := hqv; refine (CallsIn.inRound L0 (callsIn_wide.2 (HCq.out _ (PieceV.gr hqv (by repeat (with_reducible first | assumption | exact Gr.refl _ | apply Gr.alloc | apply Gr.drewN | apply Gr.drew | apply Gr.iter | (refine Gr.setCell ?_ (by simp) _) | (refine Gr.trans ?_ (by assumption)))))))).mono ?_; rintro e x1 ⟨sv1, rfl, hsx1, hgx1⟩; obtain ⟨sax1, snx1, scx1, rfl, -⟩ := hsx1.sl; dsimp only [opV]); have hSxx1 := (SdB.gr hS (show Gr W x1 from (by repeat (with_reducible first | assumption | exact Gr.refl _ | apply Gr.alloc | apply Gr.drewN | apply Gr.drew | apply Gr.iter | (refine Gr.setCell ?_ (by simp) _) | (refine Gr.trans ?_ (by assumption)))))).symm; have hclx1 := hSxx1.bl.cell; have hcrx1 := hSxx1.br.cell; have hclzx1 := hSxx1.bl.lt; have hcrzx1 := hSxx1.br.lt; have hclfx1 := hSxx1.bl.frozen; have hcrfx1 := hSxx1.br.frozen; obtain ⟨vx1, yx1, hrunx1, hbx1, hSx1, hTx1, ax1, nx1, cx1, rfl, hnx1⟩ := SdB.push hSxx1 ⟨kq, tq, ⟨vaq, vbq, vtq⟩, cq, aq⟩ (.slice sax1 snx1 scx1) (SZq.out.2.1 ▸ OwnAL.rd hsx1 SZq.out.2.2) SZq.out.1.1 SZq.out.1.2 (by have := HLn.out; omega) (by have h1 := Gr.size (w := W) (w' := x1) (by repeat (with_reducible first | assumption | exact Gr.refl _ | apply Gr.alloc | apply Gr.drewN | apply Gr.drew | apply Gr.iter | (refine Gr.setCell ?_ (by simp) _) | (refine Gr.trans ?_ (by assumption)))); have h2 := hzW; omega); clear hnx1; have hbcx1 := hbx1.cell; have hbfx1 := hbx1.frozen; have hbzx1 := hbx1.lt))
                all_goals
                  go_simp
                  have F1 := hSx1.symm
                  have F2 : Tn (sdW H5) W (yx1.setCell ⟨H5 + 1 + 1 + 1 + 1 + 1, 0, none⟩ (.slice ax1 nx1 cx1)) := (Tn.of_gr (show Gr W x1 from (by repeat (with_reducible first | assumption | exact Gr.refl _ | apply Gr.alloc | apply Gr.drewN | apply Gr.drew | apply Gr.iter | (refine Gr.setCell ?_ (by simp) _) | (refine Gr.trans ?_ (by assumption)))))).trans hTx1
                  clear hSx1 hTx1 hrunx1 hbx1 hbcx1 hbfx1 hbzx1 hclx1 hcrx1 hclzx1 hcrzx1 hclfx1 hcrfx1 hSxx1 hsx1 hgx1
                  revert x1 sax1 snx1 scx1 yx1 ax1 nx1 cx1
                  exact cont.out
              case t =>
                intro x1 sax1 snx1 scx1 yx1 ax1 nx1 cx1 F1 F2
                obtain ⟨s1, hss1⟩ : ∃ s, yx1.setCell ⟨H5 + 1 + 1 + 1 + 1 + 1, 0, none⟩ (.slice ax1 nx1 cx1) = s := ⟨_, rfl⟩
                rw [hss1] at F1 F2 ⊢
                clear hss1
                have hzs1 : H5 ≤ s1.heap.size := Nat.le_trans hzW F2.size
                have hqv1 : PieceV s1 q (.iface Tq yq) := PieceV.tnA hqv F2 (fun b h => by simp [sdW] at h)
                rcases HKQ.out with rfl | rfl
                · gi_wp2_with (first | ((with_reducible refine And.intro ?_ ?_); exact trivial; gi_at_fn fq; have _h := hqv1; refine (CallsIn.inRound L0 (callsIn_wide.2 (HCq.out _ (PieceV.gr hqv1 (by repeat (with_reducible first | assumption | exact Gr.refl _ | apply Gr.alloc | apply Gr.drewN | apply Gr.drew | apply Gr.iter | (refine Gr.setCell ?_ (by simp) _) | (refine Gr.trans ?_ (by assumption)))))))).mono ?_; rintro e x2 ⟨sv2, rfl, hsx2, hgx2⟩; obtain ⟨sax2, snx2, scx2, rfl, -⟩ := hsx2.sl; dsimp only [opV]) | ((with_reducible refine And.intro ?_ ?_); (first | exact trivial | (intro f hf; cases hf)); go_at_K))
                  have hTe : Tn (sdW H5) W x2 := F2.trans (Tn.of_gr (by repeat (with_reducible first | assumption | exact Gr.refl _ | apply Gr.alloc | apply Gr.drewN | apply Gr.drew | apply Gr.iter | (refine Gr.setCell ?_ (by simp) _) | (refine Gr.trans ?_ (by assumption)))))
                  refine ⟨KeepsOthers.of_tn hTe fun b h => by simp [sdW] at h, hTe.mono fun b t h => ⟨h.1, ?_⟩, ⟨_, _, SdB.eq (SdB.gr F1 (by repeat (with_reducible first | assumption | exact Gr.refl _ | apply Gr.alloc | apply Gr.drewN | apply Gr.drew | apply Gr.iter | (refine Gr.setCell ?_ (by simp) _) | (refine Gr.trans ?_ (by assumption))))) (by rw [List.map_append, List.map_singleton, (side_two _ _).1]; try simp only [oq]) (by rw [List.map_append, List.map_singleton, (side_two _ _).2]; try simp only [oq]), Gr.tn hg5W hTe fun b t h => by rw [hH5]; exact h.1, ?_⟩⟩
                  · rcases h.2 with rfl | rfl <;> simp
                  · rw [List.map_append, List.map_singleton, List.length_append, List.length_singleton, List.take_succ, HTK.out.2, HTK.out.1]
                    rfl
                · gi_wp2_with (first | (((with_reducible refine And.intro ?_ ?_); exact trivial; gi_at_fn fq; have _h := hqv1; refine (CallsIn.inRound L0 (callsIn_wide.2 (HCq.out _ (PieceV.gr hqv1 (by repeat (with_reducible first | assumption | exact Gr.refl _ | apply Gr.alloc | apply Gr.drewN | apply Gr.drew | apply Gr.iter | (refine Gr.setCell ?_ (by simp) _) | (refine Gr.trans ?_ (by assumption)))))))).mono ?_; rintro e x3 ⟨sv3, rfl, hsx3, hgx3⟩; obtain ⟨sax3, snx3, scx3, rfl, -⟩ := hsx3.sl; dsimp only [opV]); have _h3 := hgx2) | ((with_reducible refine And.intro ?_ ?_); exact trivial; gi_at_fn fq; have _h := hqv1; refine (CallsIn.inRound L0 (callsIn_wide.2 (HCq.out _ (PieceV.gr hqv1 (by repeat (with_reducible first | assumption | exact Gr.refl _ | apply Gr.alloc | apply Gr.drewN | apply Gr.drew | apply Gr.iter | (refine Gr.setCell ?_ (by simp) _) | (refine Gr.trans ?_ (by assumption)))))))).mono ?_; rintro e x2 ⟨sv2, rfl, hsx2, hgx2⟩; obtain ⟨sax2, snx2, scx2, rfl, -⟩ := hsx2.sl; dsimp only [opV]) | ((with_reducible refine And.intro ?_ ?_); (first | exact trivial | (intro f hf; cases hf)); go_at_K))
                  have hTe : Tn (sdW H5) W x3 := F2.trans (Tn.of_gr (by repeat (with_reducible first | assumption | exact Gr.refl _ | apply Gr.alloc | apply Gr.drewN | apply Gr.drew | apply Gr.iter | (refine Gr.setCell ?_ (by simp) _) | (refine Gr.trans ?_ (by assumption)))))
                  refine ⟨KeepsOthers.of_tn hTe fun b h => by simp [sdW] at h, hTe.mono fun b t h => ⟨h.1, ?_⟩, ⟨_, _, SdB.eq (SdB.gr F1 (by repeat (with_reducible first | assumption | exact Gr.refl _ | apply Gr.alloc | apply Gr.drewN | apply Gr.drew | apply Gr.iter | (refine Gr.setCell ?_ (by simp) _) | (refine Gr.trans ?_ (by assumption))))) (by rw [List.map_append, List.map_singleton, (side_two _ _).1]; try simp only [oq]) (by rw [List.map_append, List.map_singleton, (side_two _ _).2]; try simp only [oq]), Gr.tn hg5W hTe fun b t h => by rw [hH5]; exact h.1, ?_⟩⟩
                  · rcases h.2 with rfl | rfl <;> simp
                  · rw [List.map_append, List.map_singleton, List.length_append, List.length_singleton, List.take_succ, HTK.out.2, HTK.out.1]
                    rfl
            · obtain ⟨rfl, rfl⟩ : o1 = some p ∧ o2 = none := by simpa using e
              obtain rfl : qv = .nilIface := hqv
              replace hpv : PieceV W p pv := hpv
              clear e
              obtain ⟨Tp, yp, fp, ep, hmp, hep, hcp⟩ := op_methV hpv (PsOk.good (ps := [p]) (fun x hx => by rw [List.mem_singleton.1 hx]; exact hp1) p (by simp))
              subst ep
              obtain ⟨kp, tp, ⟨vap, vbp, vtp⟩, cp, ap, op⟩ : ∃ k t v c a, p.op = ⟨k, t, v, c, a⟩ := ⟨_, _, _, _, _, rfl⟩
              have sp := hpv.sz
              have atp := op_attrs p
              have kkp := op_kind p
              have shp := hpv.short
              rw [op] at hcp sp atp kkp
              dsimp only at sp atp kkp
              have HCp := Lib.hid hcp; have SZp := Lib.hid (And.intro sp (And.intro atp shp)); clear hcp sp atp shp
              have hkp : kp = 4 := by rw [kkp]; exact hpk
              subst hkp
              clear kkp
              gi_wp2
              apply shared
              case h =>
                intro cont
                gi_region_with_o (first
                  | (((with_reducible refine And.intro ?_ ?_); exact trivial; gi_at_fn fp; have _h := hpv; refine (CallsIn.inRound L0 (callsIn_wide.2 (HCp.out _ (PieceV.gr hpv (by repeat (with_reducible first | assumption | exact Gr.refl _ | apply Gr.alloc | apply Gr.drewN | apply Gr.drew | apply Gr.iter | (refine Gr.setCell ?_ (by simp) _) | (refine Gr.trans ?_ (by assumption)))))))).mono ?_; rintro e x1 ⟨sv1, rfl, hsx1, hgx1⟩; obtain ⟨sax1, snx1, scx1, rfl, -⟩ := hsx1.sl; dsimp only [opV]); have hSxx1 := (SdB.gr hS (show Gr W x1 from (by repeat (with_reducible first | assumption | exact Gr.refl _ | apply Gr.alloc | apply Gr.drewN | apply Gr.drew | apply Gr.iter | (refine Gr.setCell ?_ (by simp) _) | (refine Gr.trans ?_ (by assumption)))))); have hclx1 := hSxx1.bl.cell; have hcrx1 := hSxx1.br.cell; have hclzx1 := hSxx1.bl.lt; have hcrzx1 := hSxx1.br.lt; have hclfx1 := hSxx1.bl.frozen; have hcrfx1 := hSxx1.br.frozen; obtain ⟨vx1, yx1, hrunx1, hbx1, hSx1, hTx1, ax1, nx1, cx1, rfl, hnx1⟩ := SdB.push hSxx1 ⟨4, tp, ⟨vap, vbp, vtp⟩, cp, ap⟩ (.slice sax1 snx1 scx1) (SZp.out.2.1 ▸ OwnAL.rd hsx1 SZp.out.2.2) SZp.out.1.1 SZp.out.1.2 (by have := HLn.out; omega) (by have h1 := Gr.size (w := W) (w' := x1) (by repeat (with_reducible first | assumption | exact Gr.refl _ | apply Gr.alloc | apply Gr.drewN | apply Gr.drew | apply Gr.iter | (refine Gr.setCell ?_ (by simp) _) | (refine Gr.trans ?_ (by assumption)))); have h2 := hzW; omega); clear hnx1; have hbcx1 := hbx1.cell; have hbfx1 := hbx1.frozen; have hbzx1 := hbx1.lt))
                all_goals
                  go_simp
                  have F1 := hSx1
                  have F2 : Tn (sdW H5) W (yx1.setCell ⟨H5 + 1 + 1 + 1 + 1, 0, none⟩ (.slice ax1 nx1 cx1)) := (Tn.of_gr (show Gr W x1 from (by repeat (with_reducible first | assumption | exact Gr.refl _ | apply Gr.alloc | apply Gr.drewN | apply Gr.drew | apply Gr.iter | (refine Gr.setCell ?_ (by simp) _) | (refine Gr.trans ?_ (by assumption)))))).trans hTx1
                  clear hSx1 hTx1 hrunx1 hbx1 hbcx1 hbfx1 hbzx1 hclx1 hcrx1 hclzx1 hcrzx1 hclfx1 hcrfx1 hSxx1 hsx1 hgx1
                  revert x1 sax1 snx1 scx1 yx1 ax1 nx1 cx1
                  exact cont.out
              case t =>
                intro x1 sax1 snx1 scx1 yx1 ax1 nx1 cx1 F1 F2
                obtain ⟨s1, hss1⟩ : ∃ s, yx1.setCell ⟨H5 + 1 + 1 + 1 + 1, 0, none⟩ (.slice ax1 nx1 cx1) = s := ⟨_, rfl⟩
                rw [hss1] at F1 F2 ⊢
                clear hss1
                have hzs1 : H5 ≤ s1.heap.size := Nat.le_trans hzW F2.size
                have hpv1 : PieceV s1 p (.iface Tp yp) := PieceV.tnA hpv F2 (fun b h => by simp [sdW] at h)
                gi_wp2_with (first | ((with_reducible refine And.intro ?_ ?_); exact trivial; gi_at_fn fp; have _h := hpv1; refine (CallsIn.inRound L0 (callsIn_wide.2 (HCp.out _ (PieceV.gr hpv1 (by repeat (with_reducible first | assumption | exact Gr.refl _ | apply Gr.alloc | apply Gr.drewN | apply Gr.drew | apply Gr.iter | (refine Gr.setCell ?_ (by simp) _) | (refine Gr.trans ?_ (by assumption)))))))).mono ?_; rintro e x2 ⟨sv2, rfl, hsx2, hgx2⟩; obtain ⟨sax2, snx2, scx2, rfl, -⟩ := hsx2.sl; dsimp only [opV]) | ((with_reducible refine And.intro ?_ ?_); (first | exact trivial | (intro f hf; cases hf)); go_at_K))
                have hTe : Tn (sdW H5) W x2 := F2.trans (Tn.of_gr (by repeat (with_reducible first | assumption | exact Gr.refl _ | apply Gr.alloc | apply Gr.drewN | apply Gr.drew | apply Gr.iter | (refine Gr.setCell ?_ (by simp) _) | (refine Gr.trans ?_ (by assumption)))))
                refine ⟨KeepsOthers.of_tn hTe fun b h => by simp [sdW] at h, hTe.mono fun b t h => ⟨h.1, ?_⟩, ⟨_, _, SdB.eq (SdB.gr F1 (by repeat (with_reducible first | assumption | exact Gr.refl _ | apply Gr.alloc | apply Gr.drewN | apply Gr.drew | apply Gr.iter | (refine Gr.setCell ?_ (by simp) _) | (refine Gr.trans ?_ (by assumption))))) (by rw [List.map_append, List.map_singleton, (side_one _ _).1]; try simp only [op]) (by rw [List.map_append, List.map_singleton, (side_one _ _).2]; try simp only [op]), Gr.tn hg5W hTe fun b t h => by rw [hH5]; exact h.1, ?_⟩⟩
                · rcases h.2 with rfl | rfl <;> simp
                · rw [List.map_append, List.map_singleton, List.length_append, List.length_singleton, List.take_succ, HTK.out.2, HTK.out.1]
                  rfl
            · obtain ⟨rfl, rfl⟩ : o1 = some p ∧ o2 = some q := by simpa using e
              replace hpv : PieceV W p pv := hpv
              replace hqv : PieceV W q qv := hqv
              clear e
              obtain ⟨Tp, yp, fp, ep, hmp, hep, hcp⟩ := op_methV hpv (PsOk.good (ps := [p]) (fun x hx => by rw [List.mem_singleton.1 hx]; exact hp1) p (by simp))
              subst ep
              obtain ⟨kp, tp, ⟨vap, vbp, vtp⟩, cp, ap, op⟩ : ∃ k t v c a, p.op = ⟨k, t, v, c, a⟩ := ⟨_, _, _, _, _, rfl⟩
              have sp := hpv.sz
              have atp := op_attrs p
              have kkp := op_kind p
              have shp := hpv.short
              rw [op] at hcp sp atp kkp
              dsimp only at sp atp kkp
              have HCp := Lib.hid hcp; have SZp := Lib.hid (And.intro sp (And.intro atp shp)); clear hcp sp atp shp
              obtain ⟨Tq, yq, fq, eq, hmq, heq, hcq⟩ := op_methV hqv (PsOk.good (ps := [q]) (fun x hx => by rw [List.mem_singleton.1 hx]; exact hq1) q (by simp))
              subst eq
              obtain ⟨kq, tq, ⟨vaq, vbq, vtq⟩, cq, aq, oq⟩ : ∃ k t v c a, q.op = ⟨k, t, v, c, a⟩ := ⟨_, _, _, _, _, rfl⟩
              have sq := hqv.sz
              have atq := op_attrs q
              have kkq := op_kind q
              have shq := hqv.short
              rw [oq] at hcq sq atq kkq
              dsimp only at sq atq kkq
              have HCq := Lib.hid hcq; have SZq := Lib.hid (And.intro sq (And.intro atq shq)); clear hcq sq atq shq
              obtain ⟨M, hM⟩ : ∃ M, p.len = M := ⟨_, rfl⟩
              have hM' : q.len = M := hlen.symm.trans hM
              obtain ⟨Tlp, ylp, flp, elp, hmlp, help, hclp⟩ := len_meth hpv
              injection elp with e1 e2
              subst e1 e2
              rw [hM] at hclp
              have HLp := Lib.hid hclp; clear hclp
              obtain ⟨Tlq, ylq, flq, elq, hmlq, helq, hclq⟩ := len_meth hqv
              injection elq with e1 e2
              subst e1 e2
              rw [hM'] at hclq
              have HLq := Lib.hid hclq; clear hclq
              have hk4 : (kp == 4) = false := by rw [kkp]; simpa using hpk
              have hkq : kq = 3 ∨ kq = 4 := by rw [kkq]; exact hqk
              have HKQ := Lib.hid hkq; clear kkq hqk hkq kkp hpk hM hM' hlen
              have hk5 := Lib.hid hk4; clear hk4
              gi_wp2
              apply shared
              case h =>
                intro cont
                gi_region_with_o (first
                  | (((with_reducible refine And.intro ?_ ?_); exact trivial; gi_at_fn fp; have _h := hpv; refine (CallsIn.inRound L0 (callsIn_wide.2 (HCp.out _ (PieceV.gr hpv (by repeat (with_reducible first | assumption | exact Gr.refl _ | apply Gr.alloc | apply Gr.drewN | apply Gr.drew | apply Gr.iter | (refine Gr.setCell ?_ (by simp) _) | (refine Gr.trans ?_ (by assumption)))))))).mono ?_; rintro e x1 ⟨sv1, rfl, hsx1, hgx1⟩; obtain ⟨sax1, snx1, scx1, rfl, -⟩ := hsx1.sl; dsimp only [opV]); have hSxx1 := (SdB.gr hS (show Gr W x1 from (by repeat (with_reducible first | assumption | exact Gr.refl _ | apply Gr.alloc | apply Gr.drewN | apply Gr.drew | apply Gr.iter | (refine Gr.setCell ?_ (by simp) _) | (refine Gr.trans ?_ (by assumption)))))); have hclx1 := hSxx1.bl.cell; have hcrx1 := hSxx1.br.cell; have hclzx1 := hSxx1.bl.lt; have hcrzx1 := hSxx1.br.lt; have hclfx1 := hSxx1.bl.frozen; have hcrfx1 := hSxx1.br.frozen; obtain ⟨vx1, yx1, hrunx1, hbx1, hSx1, hTx1, ax1, nx1, cx1, rfl, hnx1⟩ := SdB.push hSxx1 ⟨kp, tp, ⟨vap, vbp, vtp⟩, cp, ap⟩ (.slice sax1 snx1 scx1) (SZp.out.2.1 ▸ OwnAL.rd hsx1 SZp.out.2.2) SZp.out.1.1 SZp.out.1.2 (by have := HLn.out; omega) (by have h1 := Gr.size (w := W) (w' := x1) (by repeat (with_reducible first | assumption | exact Gr.refl _ | apply Gr.alloc | apply Gr.drewN | apply Gr.drew | apply Gr.iter | (refine Gr.setCell ?_ (by simp) _) | (refine Gr.trans ?_ (by assumption)))); have h2 := hzW; omega); clear hnx1; have hbcx1 := hbx1.cell; have hbfx1 := hbx1.frozen; have hbzx1 := hbx1.lt))
                all_goals
                  go_simp
                  have F1 := hSx1
                  have F2 : Tn (sdW H5) W (yx1.setCell ⟨H5 + 1 + 1 + 1 + 1, 0, none⟩ (.slice ax1 nx1 cx1)) := (Tn.of_gr (show Gr W x1 from (by repeat (with_reducible first | assumption | exact Gr.refl _ | apply Gr.alloc | apply Gr.drewN | apply Gr.drew | apply Gr.iter | (refine Gr.setCell ?_ (by simp) _) | (refine Gr.trans ?_ (by assumption)))))).trans hTx1
                  clear hSx1 hTx1 hrunx1 hbx1 hbcx1 hbfx1 hbzx1 hclx1 hcrx1 hclzx1 hcrzx1 hclfx1 hcrfx1 hSxx1 hsx1 hgx1
                  revert x1 sax1 snx1 scx1 yx1 ax1 nx1 cx1
                  exact cont.out
              case t =>
                intro x1 sax1 snx1 scx1 yx1 ax1 nx1 cx1 F1 F2
                obtain ⟨s1, hss1⟩ : ∃ s, yx1.setCell ⟨H5 + 1 + 1 + 1 + 1, 0, none⟩ (.slice ax1 nx1 cx1) = s := ⟨_, rfl⟩
                rw [hss1] at F1 F2 ⊢
                clear hss1
                have hzs1 : H5 ≤ s1.heap.size := Nat.le_trans hzW F2.size
                have hpv1 : PieceV s1 p (.iface Tp yp) := PieceV.tnA hpv F2 (fun b h => by simp [sdW] at h)
                have hqv1 : PieceV s1 q (.iface Tq yq) := PieceV.tnA hqv F2 (fun b h => by simp [sdW] at h)
                clear b12 b13
                have b12 := F1.bl.cell; have b13 := F1.br.cell
                gi_wp2
                apply shared
                case h =>
                  intro cont
                  gi_region_with_o (first
                    | (((with_reducible refine And.intro ?_ ?_); exact trivial; gi_at_fn fq; have _h := hqv1; refine (CallsIn.inRound L0 (callsIn_wide.2 (HCq.out _ (PieceV.gr hqv1 (by repeat (with_reducible first | assumption | exact Gr.refl _ | apply Gr.alloc | apply Gr.drewN | apply Gr.drew | apply Gr.iter | (refine Gr.setCell ?_ (by simp) _) | (refine Gr.trans ?_ (by assumption)))))))).mono ?_; rintro e x2 ⟨sv2, rfl, hsx2, hgx2⟩; obtain ⟨sax2, snx2, scx2, rfl, -⟩ := hsx2.sl; dsimp only [opV]); have hSxx2 := (SdB.gr F1 (show Gr s1 x2 from (by repeat (with_reducible first | assumption | exact Gr.refl _ | apply Gr.alloc | apply Gr.drewN | apply Gr.drew | apply Gr.iter | (refine Gr.setCell ?_ (by simp) _) | (refine Gr.trans ?_ (by assumption)))))).symm; have hclx2 := hSxx2.bl.cell; have hcrx2 := hSxx2.br.cell; have hclzx2 := hSxx2.bl.lt; have hcrzx2 := hSxx2.br.lt; have hclfx2 := hSxx2.bl.frozen; have hcrfx2 := hSxx2.br.frozen; obtain ⟨vx2, yx2, hrunx2, hbx2, hSx2, hTx2, ax2, nx2, cx2, rfl, hnx2⟩ := SdB.push hSxx2 ⟨kq, tq, ⟨vaq, vbq, vtq⟩, cq, aq⟩ (.slice sax2 snx2 scx2) (SZq.out.2.1 ▸ OwnAL.rd hsx2 SZq.out.2.2) SZq.out.1.1 SZq.out.1.2 (by have := HLn.out; omega) (by have h1 := Gr.size (w := s1) (w' := x2) (by repeat (with_reducible first | assumption | exact Gr.refl _ | apply Gr.alloc | apply Gr.drewN | apply Gr.drew | apply Gr.iter | (refine Gr.setCell ?_ (by simp) _) | (refine Gr.trans ?_ (by assumption)))); have h2 := hzs1; omega); clear hnx2; have hbcx2 := hbx2.cell; have hbfx2 := hbx2.frozen; have hbzx2 := hbx2.lt))
                  all_goals
                    go_simp
                    have G1 := hSx2.symm
                    have G2 : Tn (sdW H5) W (yx2.setCell ⟨H5 + 1 + 1 + 1 + 1 + 1, 0, none⟩ (.slice ax2 nx2 cx2)) := F2.trans ((Tn.of_gr (show Gr s1 x2 from (by repeat (with_reducible first | assumption | exact Gr.refl _ | apply Gr.alloc | apply Gr.drewN | apply Gr.drew | apply Gr.iter | (refine Gr.setCell ?_ (by simp) _) | (refine Gr.trans ?_ (by assumption)))))).trans hTx2)
                    clear hSx2 hTx2 hrunx2 hbx2 hbcx2 hbfx2 hbzx2 hclx2 hcrx2 hclzx2 hcrzx2 hclfx2 hcrfx2 hSxx2 hsx2 hgx2
                    revert x2 sax2 snx2 scx2 yx2 ax2 nx2 cx2
                    exact cont.out
                case t =>
                  intro x2 sax2 snx2 scx2 yx2 ax2 nx2 cx2 G1 G2
                  obtain ⟨s2, hss2⟩ : ∃ s, yx2.setCell ⟨H5 + 1 + 1 + 1 + 1 + 1, 0, none⟩ (.slice ax2 nx2 cx2) = s := ⟨_, rfl⟩
                  rw [hss2] at G1 G2 ⊢
                  clear hss2
                  have hzs2 : H5 ≤ s2.heap.size := Nat.le_trans hzW G2.size
                  have hpv2 : PieceV s2 p (.iface Tp yp) := PieceV.tnA hpv G2 (fun b h => by simp [sdW] at h)
                  have hqv2 : PieceV s2 q (.iface Tq yq) := PieceV.tnA hqv G2 (fun b h => by simp [sdW] at h)
                  have hk4 := hk5.out
                  rcases HKQ.out with rfl | rfl
                  · gi_wp2_with (first | ((with_reducible refine And.intro ?_ ?_); exact trivial; gi_at_fn flp; refine (CallsIn.inRound L0 (callsIn_wide.2 (HLp.out _))).mono ?_; rintro e z1 ⟨rfl, hgz1⟩) | ((with_reducible refine And.intro ?_ ?_); exact trivial; gi_at_fn flq; refine (CallsIn.inRound L0 (callsIn_wide.2 (HLq.out _))).mono ?_; rintro e z2 ⟨rfl, hgz2⟩) | ((with_reducible refine And.intro ?_ ?_); exact trivial; gi_at_fn fp; have _h := hpv2; refine (CallsIn.inRound L0 (callsIn_wide.2 (HCp.out _ (PieceV.gr hpv2 (by repeat (with_reducible first | assumption | exact Gr.refl _ | apply Gr.alloc | apply Gr.drewN | apply Gr.drew | apply Gr.iter | (refine Gr.setCell ?_ (by simp) _) | (refine Gr.trans ?_ (by assumption)))))))).mono ?_; rintro e z3 ⟨sv3, rfl, hsz3, hgz3⟩; obtain ⟨saz3, snz3, scz3, rfl, -⟩ := hsz3.sl; dsimp only [opV]) | ((with_reducible refine And.intro ?_ ?_); exact trivial; gi_at_fn fq; have _h := hqv2; refine (CallsIn.inRound L0 (callsIn_wide.2 (HCq.out _ (PieceV.gr hqv2 (by repeat (with_reducible first | assumption | exact Gr.refl _ | apply Gr.alloc | apply Gr.drewN | apply Gr.drew | apply Gr.iter | (refine Gr.setCell ?_ (by simp) _) | (refine Gr.trans ?_ (by assumption)))))))).mono ?_; rintro e z4 ⟨sv4, rfl, hsz4, hgz4⟩; obtain ⟨saz4, snz4, scz4, rfl, -⟩ := hsz4.sl; dsimp only [opV]) | ((with_reducible refine And.intro ?_ ?_); (first | exact trivial | (intro f hf; cases hf)); go_at_K))
                    have hTe : Tn (sdW H5) W z4 := G2.trans (Tn.of_gr (by repeat (with_reducible first | assumption | exact Gr.refl _ | apply Gr.alloc | apply Gr.drewN | apply Gr.drew | apply Gr.iter | (refine Gr.setCell ?_ (by simp) _) | (refine Gr.trans ?_ (by assumption)))))
                    refine ⟨KeepsOthers.of_tn hTe fun b h => by simp [sdW] at h, hTe.mono fun b t h => ⟨h.1, ?_⟩, ⟨_, _, SdB.eq (SdB.gr G1 (by repeat (with_reducible first | assumption | exact Gr.refl _ | apply Gr.alloc | apply Gr.drewN | apply Gr.drew | apply Gr.iter | (refine Gr.setCell ?_ (by simp) _) | (refine Gr.trans ?_ (by assumption))))) (by rw [List.map_append, List.map_singleton, (side_both _ _ _).1]; try simp only [op, oq]) (by rw [List.map_append, List.map_singleton, (side_both _ _ _).2]; try simp only [op, oq]), Gr.tn hg5W hTe fun b t h => by rw [hH5]; exact h.1, ?_⟩⟩
                    · rcases h.2 with rfl | rfl <;> simp
                    · rw [List.map_append, List.map_singleton, List.length_append, List.length_singleton, List.take_succ, HTK.out.2, HTK.out.1]
                      rfl
                  · gi_wp2_with (first | ((with_reducible refine And.intro ?_ ?_); exact trivial; gi_at_fn flp; refine (CallsIn.inRound L0 (callsIn_wide.2 (HLp.out _))).mono ?_; rintro e z1 ⟨rfl, hgz1⟩) | ((with_reducible refine And.intro ?_ ?_); exact trivial; gi_at_fn flq; refine (CallsIn.inRound L0 (callsIn_wide.2 (HLq.out _))).mono ?_; rintro e z2 ⟨rfl, hgz2⟩) | ((with_reducible refine And.intro ?_ ?_); exact trivial; gi_at_fn fp; have _h := hpv2; refine (CallsIn.inRound L0 (callsIn_wide.2 (HCp.out _ (PieceV.gr hpv2 (by repeat (with_reducible first | assumption | exact Gr.refl _ | apply Gr.alloc | apply Gr.drewN | apply Gr.drew | apply Gr.iter | (refine Gr.setCell ?_ (by simp) _) | (refine Gr.trans ?_ (by assumption)))))))).mono ?_; rintro e z3 ⟨sv3, rfl, hsz3, hgz3⟩; obtain ⟨saz3, snz3, scz3, rfl, -⟩ := hsz3.sl; dsimp only [opV]) | (have _h5 := hgz4; ((with_reducible refine And.intro ?_ ?_); exact trivial; gi_at_fn fq; have _h := hqv2; refine (CallsIn.inRound L0 (callsIn_wide.2 (HCq.out _ (PieceV.gr hqv2 (by repeat (with_reducible first | assumption | exact Gr.refl _ | apply Gr.alloc | apply Gr.drewN | apply Gr.drew | apply Gr.iter | (refine Gr.setCell ?_ (by simp) _) | (refine Gr.trans ?_ (by assumption)))))))).mono ?_; rintro e z5 ⟨sv5, rfl, hsz5, hgz5⟩; obtain ⟨saz5, snz5, scz5, rfl, -⟩ := hsz5.sl; dsimp only [opV])) | ((with_reducible refine And.intro ?_ ?_); exact trivial; gi_at_fn fq; have _h := hqv2; refine (CallsIn.inRound L0 (callsIn_wide.2 (HCq.out _ (PieceV.gr hqv2 (by repeat (with_reducible first | assumption | exact Gr.refl _ | apply Gr.alloc | apply Gr.drewN | apply Gr.drew | apply Gr.iter | (refine Gr.setCell ?_ (by simp) _) | (refine Gr.trans ?_ (by assumption)))))))).mono ?_; rintro e z4 ⟨sv4, rfl, hsz4, hgz4⟩; obtain ⟨saz4, snz4, scz4, rfl, -⟩ := hsz4.sl; dsimp only [opV]) | ((with_reducible refine And.intro ?_ ?_); (first | exact trivial | (intro f hf; cases hf)); go_at_K))
                    have hTe : Tn (sdW H5) W z5 := G2.trans (Tn.of_gr (by repeat (with_reducible first | assumption | exact Gr.refl _ | apply Gr.alloc | apply Gr.drewN | apply Gr.drew | apply Gr.iter | (refine Gr.setCell ?_ (by simp) _) | (refine Gr.trans ?_ (by assumption)))))
                    refine ⟨KeepsOthers.of_tn hTe fun b h => by simp [sdW] at h, hTe.mono fun b t h => ⟨h.1, ?_⟩, ⟨_, _, SdB.eq (SdB.gr G1 (by repeat (with_reducible first | assumption | exact Gr.refl _ | apply Gr.alloc | apply Gr.drewN | apply Gr.drew | apply Gr.iter | (refine Gr.setCell ?_ (by simp) _) | (refine Gr.trans ?_ (by assumption))))) (by rw [List.map_append, List.map_singleton, (side_both _ _ _).1]; try simp only [op, oq]) (by rw [List.map_append, List.map_singleton, (side_both _ _ _).2]; try simp only [op, oq]), Gr.tn hg5W hTe fun b t h => by rw [hH5]; exact h.1, ?_⟩⟩
                    · rcases h.2 with rfl | rfl <;> simp
                    · rw [List.map_append, List.map_singleton, List.length_append, List.length_singleton, List.take_succ, HTK.out.2, HTK.out.1]
                      rfl
          case done =>
            rintro D ys W hD hys ⟨lv, rv, hS, hg5W, -⟩ hK
            rw [hys] at hS
            have hzW : H5 ≤ W.heap.size := by have := hg5W.size; omega
            obtain ⟨la1, n1, c1, rfl, -, -, hn1⟩ := hS.ol.sl
            obtain ⟨ra1, m1, d1, rfl, -, -, hm1⟩ := hS.or_.sl
            obtain ⟨sl1, sl2⟩ := side_len SS
            have hsd := sides (ps.length + qs.length) ps qs hp hq (Nat.le_refl _)
            rw [hSS] at hsd
            obtain ⟨sd1, sd2⟩ := hsd
            have lp := LP.out; have lq := LQ.out
            have len1 : (SS.filterMap (·.1)).length ≤ 24002 := by have := List.length_filterMap_le (fun x : Option Piece × Option Piece => x.1) SS; omega
            have len2 : (SS.filterMap (·.2)).length ≤ 24002 := by have := List.length_filterMap_le (fun x : Option Piece × Option Piece => x.2) SS; omega
            obtain ⟨cn1, os1⟩ := sd1.canon hp (by omega) (by omega)
            obtain ⟨cn2, os2⟩ := sd2.canon hq (by omega) (by omega)
            have ck1 := sd1.ok; have ck2 := sd2.ok
            have cs1 := csum_ps ck1; have cs2 := csum_ps ck2
            have b12 := hS.bl.cell; have b13 := hS.br.cell
            have bR := hR5.gr hg5W
            have cR := bR.cell; have fR := bR.frozen; have zR := bR.lt
            have C1 := Lib.hid (And.intro (show canon06 (sideL SS) = ps.map Piece.op from cn1) (show canon06 (sideR SS) = qs.map Piece.op from cn2))
            have Q1 := Lib.hid (show (∀ o ∈ sideL SS, checkOp o = 0) ∧ (∀ o ∈ sideL SS, 0 ≤ o.count) ∧ opsum (sideL SS) ≤ 1099511627776 ∧ csum (sideL SS) ≤ 4611686018427387000 ∧ 2 * (sideL SS).length + 4 ≤ 1099511627776 from ⟨ck1.ops, fun o ho => by obtain ⟨p, hp', rfl⟩ := List.mem_map.1 ho; exact (op_count (ck1 p hp')).1, os1, by show csum ((SS.filterMap (·.1)).map Piece.op) ≤ _; omega, by omega⟩)
            have Q2 := Lib.hid (show (∀ o ∈ sideR SS, checkOp o = 0) ∧ (∀ o ∈ sideR SS, 0 ≤ o.count) ∧ opsum (sideR SS) ≤ 1099511627776 ∧ csum (sideR SS) ≤ 4611686018427387000 ∧ 2 * (sideR SS).length + 4 ≤ 1099511627776 from ⟨ck2.ops, fun o ho => by obtain ⟨p, hp', rfl⟩ := List.mem_map.1 ho; exact (op_count (ck2 p hp')).1, os2, by show csum ((SS.filterMap (·.2)).map Piece.op) ≤ _; omega, by omega⟩)
            have L1 := hS.ol.rd (by omega)
            have L2 := hS.or_.rd (by omega)
            clear sd1 sd2 cn1 cn2 os1 os2 ck1 ck2 cs1 cs2 hys len1 len2
            gi_wp2_with (first
              | ((with_reducible refine And.intro ?_ ?_); exact trivial; gi_at_call 34; have _h := hg7; refine (callsIn_wide.2 (rcanon06_any (sideR SS) _ _ (RdOps.gr L2 (by repeat (with_reducible first | assumption | exact Gr.refl _ | apply Gr.alloc | apply Gr.drewN | apply Gr.drew | apply Gr.iter | (refine Gr.setCell ?_ (by simp) _) | (refine Gr.trans ?_ (by assumption))))) Q2.out.1 Q2.out.2.1 Q2.out.2.2.1 Q2.out.2.2.2.1 Q2.out.2.2.2.2)).mono ?_; rw [C1.out.2]; rintro e w8 ⟨v8, rfl, ho8, hg8⟩; obtain ⟨a8, m8, c8, rfl, -⟩ := ho8.sl; have hr8 := OwnR.rd ho8 hg8 (by rw [List.length_map]; omega))
              | ((with_reducible refine And.intro ?_ ?_); exact trivial; gi_at_call 34; refine (callsIn_wide.2 (rcanon06_any (sideL SS) _ _ (RdOps.gr L1 (by repeat (with_reducible first | assumption | exact Gr.refl _ | apply Gr.alloc | apply Gr.drewN | apply Gr.drew | apply Gr.iter | (refine Gr.setCell ?_ (by simp) _) | (refine Gr.trans ?_ (by assumption))))) Q1.out.1 Q1.out.2.1 Q1.out.2.2.1 Q1.out.2.2.2.1 Q1.out.2.2.2.2)).mono ?_; rw [C1.out.1]; rintro e w6 ⟨v6, rfl, ho6, hg6⟩; obtain ⟨a6, m6, c6, rfl, -⟩ := ho6.sl; have hr6 := OwnR.rd ho6 hg6 (by rw [List.length_map]; omega))
              | ((with_reducible refine And.intro ?_ ?_); exact trivial; gi_at_call 37; have _h := hg8; refine (callsIn_wide.2 (sameops_any (qs.map Piece.op) (qs.map Piece.op) _ _ _ (RdOps.gr hr8 (by repeat (with_reducible first | assumption | exact Gr.refl _ | apply Gr.alloc | apply Gr.drewN | apply Gr.drew | apply Gr.iter | (refine Gr.setCell ?_ (by simp) _) | (refine Gr.trans ?_ (by assumption))))) (RdOps.gr hO5.out (by repeat (with_reducible first | assumption | exact Gr.refl _ | apply Gr.alloc | apply Gr.drewN | apply Gr.drew | apply Gr.iter | (refine Gr.setCell ?_ (by simp) _) | (refine Gr.trans ?_ (by assumption))))))).mono ?_; rw [decide_eq_true (rfl : qs.map Piece.op = qs.map Piece.op)]; rintro e w9 ⟨rfl, hg9⟩; have bR9 := Blk.gr (w' := w9) bR (by repeat (with_reducible first | assumption | exact Gr.refl _ | apply Gr.alloc | apply Gr.drewN | apply Gr.drew | apply Gr.iter | (refine Gr.setCell ?_ (by simp) _) | (refine Gr.trans ?_ (by assumption)))); have cR9 := bR9.cell; have fR9 := bR9.frozen; have zR9 := bR9.lt)
              | ((with_reducible refine And.intro ?_ ?_); exact trivial; gi_at_call 37; refine (callsIn_wide.2 (sameops_any (ps.map Piece.op) (ps.map Piece.op) _ _ _ (RdOps.gr hr6 (by repeat (with_reducible first | assumption | exact Gr.refl _ | apply Gr.alloc | apply Gr.drewN | apply Gr.drew | apply Gr.iter | (refine Gr.setCell ?_ (by simp) _) | (refine Gr.trans ?_ (by assumption))))) (RdOps.gr hO45 (by repeat (with_reducible first | assumption | exact Gr.refl _ | apply Gr.alloc | apply Gr.drewN | apply Gr.drew | apply Gr.iter | (refine Gr.setCell ?_ (by simp) _) | (refine Gr.trans ?_ (by assumption))))))).mono ?_; rw [decide_eq_true (rfl : ps.map Piece.op = ps.map Piece.op)]; rintro e w7 ⟨rfl, hg7⟩; have d13 := (SdB.gr hS (show Gr W w7 from (by repeat (with_reducible first | assumption | exact Gr.refl _ | apply Gr.alloc | apply Gr.drewN | apply Gr.drew | apply Gr.iter | (refine Gr.setCell ?_ (by simp) _) | (refine Gr.trans ?_ (by assumption)))))).br.cell)
              | ((with_reducible refine And.intro ?_ ?_); (first | exact trivial | (intro f hf; cases hf)); go_at_K))
            have hK' : (w9.setCell ⟨w.heap.size, 0, none⟩ (.bool true)).heap[D]? = some (.deferred (some [])) := ((others_gr (show Gr W w9 from (by repeat (with_reducible first | assumption | exact Gr.refl _ | apply Gr.alloc | apply Gr.drewN | apply Gr.drew | apply Gr.iter | (refine Gr.setCell ?_ (by simp) _) | (refine Gr.trans ?_ (by assumption)))))).trans (KeepsOthers.setCell w9 ⟨w.heap.size, 0, none⟩ (.bool true))).same D _ hK rfl
            have hDw : w.heap.size < D := by have := hR5.lt; have := hGB.size; omega
            have hB' : Blk ((w9.setCell ⟨w.heap.size, 0, none⟩ (.bool true)).putObj D (.deferred none)) w.heap.size 4 #[.bool true] := (World.putObj_heap_other (by omega)).trans (bR9.set 0 (.bool true))
            have hq' := hB'.cell 0
            have hGe : Gr w (w9.setCell ⟨w.heap.size, 0, none⟩ (.bool true)) := Below.setCell (p := ⟨w.heap.size, 0, none⟩) (show Gr w w9 from Gr.trans hGw (Gr.trans hg5W (by repeat (with_reducible first | assumption | exact Gr.refl _ | apply Gr.alloc | apply Gr.drewN | apply Gr.drew | apply Gr.iter | (refine Gr.setCell ?_ (by simp) _) | (refine Gr.trans ?_ (by assumption)))))) (Nat.le_refl _) _
            refine ⟨by simp, .inl ⟨_, _, rfl, run_takeDeferred hK', ?_⟩⟩
            refine ⟨.bool true, ?_, rfl, Below.trans hGe (belowK_b (w := w) (Nat.le_refl _) _ D _ _ (by omega) hK' rfl rfl)⟩
            simp [results, Tryz.f6, go_sem, hq']
          case stop =>
            rintro D c pre W _ _ h _
            exact h.elim
theorem walkSides_law {ea : Nat → Addr} (la : List Op) (va : Value) (lb : List Op) (vb : Value) (w : World) (hE : Env ea w) (hla : RdOps w va la) (hTa : opsum la ≤ 1048576) (hNa : la.length ≤ 1048576) (hlb : RdOps w vb lb) (hTb : opsum lb ≤ 1048576) (hNb : lb.length ≤ 1048576) :
    Calls Tryz.prog 6 #[va, vb] w fun e w' => e = .returned (.bool true) ∧ Gr w w' := walkSides_any la lb va vb w hE hla hlb hTa hNa hTb hNb
end Ve
