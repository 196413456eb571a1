/- Walks: the law WalkEach. -/
import Derived.Test.YtapolkhdikdjbaaGreatDoorRI
import Derived.Test.YtapolkhdikdjbaaGreatDoorRP
import Derived.Test.YtapolkhdikdjbaaGreatDoorRS
import Derived.Test.YtapolkhdikdjbaaGreatDoorHL
set_option linter.all false
namespace Ve
open Go Go.RowKit Go.Proofs Go.Shelf

attribute [local go_sem] Oper.semAt_some func_nil1 func_nil2 field_kind
theorem markV_blk {w : World} {p : Piece} {v : Value} (h : PieceV w p v) : ∀ b, (markV p v).ownBlock = some b → ablk v = some b := by
  intro b hb
  cases p with
  | ins l t n => obtain ⟨sl, rfl, -⟩ := h; simpa [ablk, markV] using hb
  | emb l t x => obtain ⟨sl, rfl, -⟩ := h; simpa [ablk, markV] using hb
  | ret l n => obtain ⟨sl, rfl, -⟩ := h; simpa [ablk, markV] using hb
  | del n => simp [markV, Value.ownBlock] at hb
theorem op_kindE (p : Piece) : p.op.kind = p.k := by cases p <;> rfl
theorem OwnA.blk {w : World} {a : Option Addr} {n c : Nat} {l : List Attr} (h : OwnA w (.slice a n c) l) (hn : 0 < n) : ∃ g cs, a = some ⟨g, 0, none⟩ ∧ Blk w g 83 cs ∧ n * 4 ≤ cs.size := by
  obtain ⟨⟨xs, ho, -⟩, -⟩ := h
  have hl : l.length = n := by
    obtain ⟨a', cap', e, _⟩ := own_shape ho
    injection e with _ e _; exact e.symm
  rcases ho.2 with ⟨e, h0⟩ | ⟨g, cap', cur, e, hb, hh, h1, _, h3, ht⟩
  · omega
  · injection e with e1 e2 e3
    subst e1
    exact ⟨g, cur, rfl, hh, by rw [h3]; omega⟩
/-- What a round's body writes. -/
def weW (gi : Nat) (v : Value) (b : Nat) (t : Option TypeId) : Prop := (b = gi ∧ t = some 3) ∨ (t = some 83 ∧ ablk v = some b)
theorem weW.each {gi : Nat} {v : Value} {b : Nat} {t : Option TypeId} (h : weW gi v b t) : eachW v b t := by
  rcases h with h | h
  · exact .inr (.inl h.2)
  · exact .inr (.inr h)
/-- Only attributes of the piece's own were written. -/
def weA (v : Value) (b : Nat) (t : Option TypeId) : Prop := t = some 83 ∧ ablk v = some b
/-- What WalkEach holds between two rounds of a turn. -/
def WeI (WT : World) (gi : Nat) (pre : List Hand) (W : World) : Prop := Blk W gi 3 #[.int .i64 pre.length] ∧ Gr WT W
theorem WeI.abd {B gi : Nat} {WT : World} (hB : WT.heap.size ≤ B) (pre : List Hand) : Abd (fun b t => B ≤ b ∧ t = none) (WeI WT gi pre) := by
  rintro W W' ⟨h1, h2⟩ g
  exact ⟨h1.tn g (fun h => by cases h.2), h2.tn g fun b t h => Nat.le_trans hB h.1⟩
set_option maxRecDepth 100000 in
set_option maxHeartbeats 8000000 in
theorem walkEach_any {ea : Nat → Addr} (l : List Op) (v : Value) (w : World) (hE : Env ea w) (hl : RdOps w v l) (hT : opsum l ≤ 1048576) (hNl : l.length ≤ 1048576) :
    Calls Tryz.prog 7 #[v] w fun e w' => e = .returned (.bool true) ∧ Gr w w' := by
  obtain ⟨N, hN⟩ : ∃ N : Nat, N = 5 := ⟨5, rfl⟩
  refine (callsIn_wide (n := N)).1 ?_
  have h1 : 1 ≤ N := by omega
  have HBl := heavy_bound hl hT hNl
  obtain ⟨aa, na, ca, rfl, -⟩ := hl.sl
  have hmx : Tryz.prog.follows .mixedOrders = true := by kernel_rfl
  refine callsIn_of_wp_marks Tryz.func7 rfl trivial ?_ rfl
  simp only [Tryz.ntmps7, List.size_toArray, List.length_cons, List.length_nil, Nat.reduceAdd, Nat.reduceSub, Array.replicate_succ, Array.replicate_zero, List.push_toArray, List.append_toArray, List.nil_append, List.cons_append]
  have hR0 := Blk.new w 4 #[.bool false]
  by_cases hha : heavyN l ≤ 6000
  case neg =>
    have HA := Lib.hid (show decide (6000 < heavyN l) = true from by simpa using hha); clear hha
    gi_wp2_with (first
                | ((with_reducible refine And.intro ?_ ?_); exact trivial; gi_at_call 15; refine (callsIn_wide.2 (lives07_any _ (hE.gr (by repeat (with_reducible first | assumption | exact Gr.refl _ | apply Gr.alloc | apply Gr.drewN | apply Gr.drew | apply Gr.iter | (refine Gr.setCell ?_ (by simp) _) | (refine Gr.trans ?_ (by assumption))))))).mono ?_; rintro e w1 ⟨rfl, hg1⟩)
                | ((with_reducible refine And.intro ?_ ?_); exact trivial; gi_at_call 16; refine (callsIn_wide.2 (heavy_any l _ _ (RdOps.gr hl (by repeat (with_reducible first | assumption | exact Gr.refl _ | apply Gr.alloc | apply Gr.drewN | apply Gr.drew | apply Gr.iter | (refine Gr.setCell ?_ (by simp) _) | (refine Gr.trans ?_ (by assumption))))) HBl)).mono ?_; rw [HA.out]; rintro e w2 ⟨rfl, hg2⟩; have bR := Blk.gr (w' := w2) hR0 (by repeat (with_reducible first | assumption | exact Gr.refl _ | apply Gr.alloc | apply Gr.drewN | apply Gr.drew | apply Gr.iter | (refine Gr.setCell ?_ (by simp) _) | (refine Gr.trans ?_ (by assumption)))); have cR := bR.cell; have fR := bR.frozen; have zR := bR.lt)
                | ((with_reducible refine And.intro ?_ ?_); exact trivial; gi_at_call 17; refine (callsIn_wide.2 (made_any l _ _ (hE.gr (by repeat (with_reducible first | assumption | exact Gr.refl _ | apply Gr.alloc | apply Gr.drewN | apply Gr.drew | apply Gr.iter | (refine Gr.setCell ?_ (by simp) _) | (refine Gr.trans ?_ (by assumption))))) (RdOps.gr hl (by repeat (with_reducible first | assumption | exact Gr.refl _ | apply Gr.alloc | apply Gr.drewN | apply Gr.drew | apply Gr.iter | (refine Gr.setCell ?_ (by simp) _) | (refine Gr.trans ?_ (by assumption))))) HZ.out.1 HZ.out.2.1 HZ.out.2.2)).mono ?_; rw [GA.out]; rintro e w4 ⟨dv, ov, rfl, hg4, -, hdn⟩; obtain ⟨rfl, rfl⟩ := hdn GA1.out; have bR := Blk.gr (w' := w4) hR0 (by repeat (with_reducible first | assumption | exact Gr.refl _ | apply Gr.alloc | apply Gr.drewN | apply Gr.drew | apply Gr.iter | (refine Gr.setCell ?_ (by simp) _) | (refine Gr.trans ?_ (by assumption)))); have cR := bR.cell; have fR := bR.frozen; have zR := bR.lt)
                | ((with_reducible refine And.intro ?_ ?_); (first | exact trivial | (intro f hf; cases hf)); go_at_K))
    have hq : (w2.setCell ⟨w.heap.size, 0, none⟩ (.bool true)).cell? ⟨w.heap.size, 0, none⟩ = some (.bool true) := (bR.set 0 (.bool true)).cell 0
    refine ⟨.bool true, ?_, rfl, Below.setCell (p := ⟨w.heap.size, 0, none⟩) (show Gr w w2 from (by repeat (with_reducible first | assumption | exact Gr.refl _ | apply Gr.alloc | apply Gr.drewN | apply Gr.drew | apply Gr.iter | (refine Gr.setCell ?_ (by simp) _) | (refine Gr.trans ?_ (by assumption))))) (Nat.le_refl _) _⟩
    simp [results, Tryz.f7, go_sem, hq]
  case pos =>
    have HA := Lib.hid (show decide (6000 < heavyN l) = false from by simpa using hha)
    obtain ⟨ya1, ya2, ya3⟩ := heavy_parts hha
    have HZ := Lib.hid (show opsum l ≤ 1099511627776 ∧ 2 * l.length + 4 ≤ 1099511627776 ∧ ∀ o ∈ l, o.attrs.length + 1 ≤ 1099511627776 from ⟨by omega, by omega, fun o ho => by have := ya3 o ho; omega⟩)
    clear ya1 ya2 ya3
    by_cases ga : (pushAll l).2.2 = 0
    case neg =>
      have GA := Lib.hid (show decide ((pushAll l).2.2 = 0) = false from decide_eq_false ga); have GA1 := Lib.hid ga; clear ga hha
      gi_wp2_with (first
                  | ((with_reducible refine And.intro ?_ ?_); exact trivial; gi_at_call 15; refine (callsIn_wide.2 (lives07_any _ (hE.gr (by repeat (with_reducible first | assumption | exact Gr.refl _ | apply Gr.alloc | apply Gr.drewN | apply Gr.drew | apply Gr.iter | (refine Gr.setCell ?_ (by simp) _) | (refine Gr.trans ?_ (by assumption))))))).mono ?_; rintro e w1 ⟨rfl, hg1⟩)
                  | ((with_reducible refine And.intro ?_ ?_); exact trivial; gi_at_call 16; refine (callsIn_wide.2 (heavy_any l _ _ (RdOps.gr hl (by repeat (with_reducible first | assumption | exact Gr.refl _ | apply Gr.alloc | apply Gr.drewN | apply Gr.drew | apply Gr.iter | (refine Gr.setCell ?_ (by simp) _) | (refine Gr.trans ?_ (by assumption))))) HBl)).mono ?_; rw [HA.out]; rintro e w2 ⟨rfl, hg2⟩; have bR := Blk.gr (w' := w2) hR0 (by repeat (with_reducible first | assumption | exact Gr.refl _ | apply Gr.alloc | apply Gr.drewN | apply Gr.drew | apply Gr.iter | (refine Gr.setCell ?_ (by simp) _) | (refine Gr.trans ?_ (by assumption)))); have cR := bR.cell; have fR := bR.frozen; have zR := bR.lt)
                  | ((with_reducible refine And.intro ?_ ?_); exact trivial; gi_at_call 17; refine (callsIn_wide.2 (made_any l _ _ (hE.gr (by repeat (with_reducible first | assumption | exact Gr.refl _ | apply Gr.alloc | apply Gr.drewN | apply Gr.drew | apply Gr.iter | (refine Gr.setCell ?_ (by simp) _) | (refine Gr.trans ?_ (by assumption))))) (RdOps.gr hl (by repeat (with_reducible first | assumption | exact Gr.refl _ | apply Gr.alloc | apply Gr.drewN | apply Gr.drew | apply Gr.iter | (refine Gr.setCell ?_ (by simp) _) | (refine Gr.trans ?_ (by assumption))))) HZ.out.1 HZ.out.2.1 HZ.out.2.2)).mono ?_; rw [GA.out]; rintro e w4 ⟨dv, ov, rfl, hg4, -, hdn⟩; obtain ⟨rfl, rfl⟩ := hdn GA1.out; have bR := Blk.gr (w' := w4) hR0 (by repeat (with_reducible first | assumption | exact Gr.refl _ | apply Gr.alloc | apply Gr.drewN | apply Gr.drew | apply Gr.iter | (refine Gr.setCell ?_ (by simp) _) | (refine Gr.trans ?_ (by assumption)))); have cR := bR.cell; have fR := bR.frozen; have zR := bR.lt)
                  | ((with_reducible refine And.intro ?_ ?_); (first | exact trivial | (intro f hf; cases hf)); go_at_K))
      have hq : ((w4.setCell ⟨w.heap.size, 0, none⟩ (.bool true)).alloc (.cells #[.slice none 0 0] 22)).cell? ⟨w.heap.size, 0, none⟩ = some (.bool true) := ((bR.set 0 (.bool true)).alloc _).cell 0
      refine ⟨.bool true, ?_, rfl, Gr.alloc (Below.setCell (p := ⟨w.heap.size, 0, none⟩) (show Gr w w4 from (by repeat (with_reducible first | assumption | exact Gr.refl _ | apply Gr.alloc | apply Gr.drewN | apply Gr.drew | apply Gr.iter | (refine Gr.setCell ?_ (by simp) _) | (refine Gr.trans ?_ (by assumption))))) (Nat.le_refl _) _) _⟩
      simp [results, Tryz.f7, go_sem, hq]
    case pos =>
      have GA := Lib.hid (show decide ((pushAll l).2.2 = 0) = true from decide_eq_true ga)
      have pa : pushAll l = ((pushAll l).1, 0, 0) := by obtain ⟨e1, e2⟩ := push_put (s := .new) (i := 0) (l := l) ga; exact (show pushAll l = _ from e1).trans (by rw [show (pushAll l).1 = putAll .new l from congrArg (·.1) (show pushAll l = _ from e1)])
      obtain ⟨hp, lp, tp⟩ := made_facts hha pa
      obtain ⟨ps, hps⟩ : ∃ ps, (pushAll l).1.delta = ps := ⟨_, rfl⟩
      rw [hps] at hp lp tp
      have PA := Lib.hid hps; have GA0 := Lib.hid ga
      have LP := Lib.hid (And.intro lp tp)
      clear hps ga pa hha lp tp
      gi_wp2_with (first
                  | ((with_reducible refine And.intro ?_ ?_); exact trivial; gi_at_call 15; refine (callsIn_wide.2 (lives07_any _ (hE.gr (by repeat (with_reducible first | assumption | exact Gr.refl _ | apply Gr.alloc | apply Gr.drewN | apply Gr.drew | apply Gr.iter | (refine Gr.setCell ?_ (by simp) _) | (refine Gr.trans ?_ (by assumption))))))).mono ?_; rintro e w1 ⟨rfl, hg1⟩)
                  | ((with_reducible refine And.intro ?_ ?_); exact trivial; gi_at_call 16; refine (callsIn_wide.2 (heavy_any l _ _ (RdOps.gr hl (by repeat (with_reducible first | assumption | exact Gr.refl _ | apply Gr.alloc | apply Gr.drewN | apply Gr.drew | apply Gr.iter | (refine Gr.setCell ?_ (by simp) _) | (refine Gr.trans ?_ (by assumption))))) HBl)).mono ?_; rw [HA.out]; rintro e w2 ⟨rfl, hg2⟩)
                  | ((with_reducible refine And.intro ?_ ?_); exact trivial; gi_at_call 17; refine (callsIn_wide.2 (made_any l _ _ (hE.gr (by repeat (with_reducible first | assumption | exact Gr.refl _ | apply Gr.alloc | apply Gr.drewN | apply Gr.drew | apply Gr.iter | (refine Gr.setCell ?_ (by simp) _) | (refine Gr.trans ?_ (by assumption))))) (RdOps.gr hl (by repeat (with_reducible first | assumption | exact Gr.refl _ | apply Gr.alloc | apply Gr.drewN | apply Gr.drew | apply Gr.iter | (refine Gr.setCell ?_ (by simp) _) | (refine Gr.trans ?_ (by assumption))))) HZ.out.1 HZ.out.2.1 HZ.out.2.2)).mono ?_; rw [GA.out]; rintro e w4 ⟨dv, ov, rfl, hg4, hda, -⟩; obtain ⟨hda1, hda2⟩ := hda GA0.out; rw [PA.out] at hda1 hda2; obtain ⟨gd, sd, rfl, hBd, hrd⟩ := hda1; have hD4 := Lib.hid (show DeltaR w4 (.pointer (some ⟨gd, 0, none⟩)) ps from ⟨gd, sd, rfl, hBd, hrd⟩); obtain ⟨oa, on, oc, rfl, -, -, -, hno⟩ := hda2.sl; have hO4 := Lib.hid hda2; clear hda hda2 hBd hrd)
                  | ((with_reducible refine And.intro ?_ ?_); exact trivial; gi_at_call 40; refine (callsIn_wide.2 (each_any _ _)).mono ?_; rintro e w5 ⟨rfl, rfl⟩)
                  | ((with_reducible refine And.intro ?_ ?_); exact trivial; gi_at_call 41; refine (callsIn_wide.2 (dpieces_any ps _ _ (hE.gr (by repeat (with_reducible first | assumption | exact Gr.refl _ | apply Gr.alloc | apply Gr.drewN | apply Gr.drew | apply Gr.iter | (refine Gr.setCell ?_ (by simp) _) | (refine Gr.trans ?_ (by assumption))))) (DeltaR.gr (w := w4) hD4.out (by repeat (with_reducible first | assumption | exact Gr.refl _ | apply Gr.alloc | apply Gr.drewN | apply Gr.drew | apply Gr.iter | (refine Gr.setCell ?_ (by simp) _) | (refine Gr.trans ?_ (by assumption))))) hp.ok)).mono ?_; rintro e w6 ⟨v6, rfl, ho6, hg6⟩; have hP6 := OwnL.rd ho6 (by have := LP.out.1; omega); obtain ⟨pa, pn, pc, rfl, -, -, -, hnp⟩ := hP6.sl; have HP6 := Lib.hid hP6; clear hP6 ho6; have cO6 : w6.cell? ⟨w4.heap.size, 0, none⟩ = some (.slice oa on oc) := Gr.cell hg6 (((Blk.new w4 22 #[.slice oa on oc]).alloc (.cells #[.pointer (some ⟨gd, 0, none⟩)] 26)).cell 0); have zO6 := World.block_lt_of_cell? _ _ cO6; have hlenO : on = pn := by rw [← hno.out, ← hnp.out, List.length_map])
                  | ((with_reducible refine And.intro ?_ ?_); (first | exact trivial | (intro f hf; cases hf)); go_at_K))
      subst hlenO
      have hR6 : Blk w6 w.heap.size 4 #[.bool false] := hR0.gr (by repeat (with_reducible first | assumption | exact Gr.refl _ | apply Gr.alloc | apply Gr.drewN | apply Gr.drew | apply Gr.iter | (refine Gr.setCell ?_ (by simp) _) | (refine Gr.trans ?_ (by assumption))))
      have g46 : Gr w4 w6 := Gr.trans (((Gr.refl w4).alloc _).alloc _) hg6
      have hO6 : RdOps w6 (.slice oa on oc) (ps.map Piece.op) := RdOps.gr hO4.out g46
      have hD6 : DeltaR w6 (.pointer (some ⟨gd, 0, none⟩)) ps := DeltaR.gr hD4.out g46
      have hGw6 : Gr w w6 := (by repeat (with_reducible first | assumption | exact Gr.refl _ | apply Gr.alloc | apply Gr.drewN | apply Gr.drew | apply Gr.iter | (refine Gr.setCell ?_ (by simp) _) | (refine Gr.trans ?_ (by assumption))))
      have hE6 : Env ea w6 := hE.gr hGw6
      have cD6 : w6.cell? ⟨w4.heap.size + 1, 0, none⟩ = some (.pointer (some ⟨gd, 0, none⟩)) := Gr.cell hg6 (by
        have h := (Blk.new (w4.alloc (.cells #[.slice oa on oc] 22)) 26 #[.pointer (some ⟨gd, 0, none⟩)]).cell 0
        rw [World.size_alloc] at h
        exact h)
      have hz4 : w.heap.size < w4.heap.size := Nat.lt_of_lt_of_le (by simp) (Gr.size (w := w.alloc (.cells #[.bool false] 4)) (w' := w4) (by repeat (with_reducible first | assumption | exact Gr.refl _ | apply Gr.alloc | apply Gr.drewN | apply Gr.drew | apply Gr.iter | (refine Gr.setCell ?_ (by simp) _) | (refine Gr.trans ?_ (by assumption)))))
      obtain ⟨WA, hWA⟩ : ∃ WA, w6.alloc (.cells #[.slice pa on pc] 77) = WA := ⟨_, rfl⟩
      have cPA : WA.cell? ⟨w6.heap.size, 0, none⟩ = some (.slice pa on pc) := hWA ▸ (Blk.new w6 77 #[.slice pa on pc]).cell 0
      have g6A : Gr w6 WA := hWA ▸ (Gr.refl w6).alloc _
      rw [hWA]
      have cOA := Gr.cell g6A cO6
      have cDA := Gr.cell g6A cD6
      have hRA := hR6.gr g6A
      have hEA := hE6.gr g6A
      have hOA := RdOps.gr hO6 g6A
      have hDA := hD6.gr g6A
      have hPA : RdPieces WA (.slice pa on pc) ps := RdPieces.gr HP6.out g6A
      have gwA : Gr w WA := Gr.trans hGw6 g6A
      obtain ⟨gO, hgO⟩ : ∃ gO, w4.heap.size = gO := ⟨_, rfl⟩
      obtain ⟨gP, hgP⟩ : ∃ gP, w6.heap.size = gP := ⟨_, rfl⟩
      rw [hgO] at cOA cDA ⊢
      rw [hgP] at cPA ⊢
      have hgT := Gr.refl WA
      have hpn := hnp.out
      clear g46 hWA g6A hO6 hD6 cD6 hE6 hR6 HP6 cO6 zO6 hD4 hO4 hg1 hg2 hg4 hg6 hno hnp
      refine wpIn_loop_rounds 3 ?_
      rw [roundsIn_succ]
      gi_wp2
      have hI1 := Blk.new WA 3 #[.int .i64 0]
      obtain ⟨WB1, hWB1⟩ : ∃ WB, WA.alloc (.cells #[.int .i64 0] 3) = WB := ⟨_, rfl⟩
      rw [hWB1] at hI1 ⊢
      have gTB1 : Gr WA WB1 := hWB1 ▸ (Gr.refl WA).alloc _
      obtain ⟨gi1, hgi1⟩ : ∃ gi, WA.heap.size = gi := ⟨_, rfl⟩
      rw [hgi1] at hI1 ⊢
      have gAB1 : Gr WA WB1 := Gr.trans hgT gTB1
      have hzB1 := hI1.lt
      have hTz1 : WA.heap.size ≤ WB1.heap.size := gTB1.size
      clear hWB1
      apply wpIn_told rfl h1 (gf := 110) (lb := #[.pointer (some ⟨gO + 1, 0, none⟩)]) rfl trivial (enters_of Tryz.func110 (by kernel_rfl) rfl) (each_told (N - 1) (gO + 1) (by omega) ps _ WB1 (hEA.gr gAB1) (Gr.cell gAB1 cDA) (DeltaR.gr hDA gAB1) hp.ok)
        rfl (fun h k => h.trans k) (fun x W l o o' hl h ho _ => Tn.put W o' h (by rw [tyO_none ho]; exact .inl rfl))
        (fun k x W W' h g => ⟨h.1, h.2.1.tn g (fun b _ hh => by cases hh.2), h.2.2⟩) (Below.refl _ _) (fun _ => rfl)
        (WeI WA gi1) (fun _ _ _ => False) (fun s => WeI.abd hTz1 s) (fun _ _ _ _ hs _ => hs) ⟨hI1, gTB1⟩ _ ?assign ?body ?done ?stop
      case assign =>
        intro l x W K hK
        gi_wp2
        exact hK
      case body =>
        rintro L0 pre ⟨⟨p, pv⟩, hs0⟩ W ⟨hBi, hgW⟩ ⟨hk, hpv, hpb⟩
        dsimp only at hk hpv hpb
        have gAW : Gr WA W := Gr.trans hgT hgW
        have hklt : pre.length < ps.length := (List.getElem?_eq_some_iff.1 hk).1
        have hlt : pre.length < on := by omega
        obtain ⟨b, off, ok, ot, ova, ovb, ovt, oct, oats, osl, hox, hoa, hor, c0, c1, c2, c3, c4, c5, c6, -, -⟩ := (RdOps.gr hOA gAW).at_ pre.length hlt
        obtain ⟨b2, off2, q, qv, hqx, hpa, cQ, hqv⟩ := (RdPieces.gr hPA gAW).at_ pre.length hlt
        have hqp : q = p := by rw [hk] at hqx; injection hqx with h; exact h.symm
        rw [hqp] at hqv
        have hpo : p.op = ⟨ok, ot, ⟨ova, ovb, ovt⟩, oct, oats⟩ := by rw [List.getElem?_map, hk] at hox; injection hox
        have hgood := hp.ok.good p (List.mem_of_getElem? hk)
        have hshort := hpv.short
        obtain ⟨T1, y1, f1, e1, hm1, he1, hc1⟩ := op_methV hpv hgood
        obtain ⟨T2, y2, f2, e2, hm2, he2, hc2⟩ := op_methV hqv hgood
        subst e1 e2
        have hat := op_attrs p
        have hkd := op_kindE p
        rw [hpo] at hc1 hc2 hat hkd
        dsimp only at hat hkd
        rw [← hat] at hc1 hc2 hshort
        have HC1 := Lib.hid hc1; have HC2 := Lib.hid hc2; have HPO := Lib.hid (And.intro hpo (And.intro hat hkd)); have HK := Lib.hid (And.intro hk hqx)
        clear hc1 hc2 hpo hat hkd hk hqx hqp hox hgood
        obtain ⟨oa1, oc1, hosl, -⟩ := RdList.slice hor
        subst hosl
        have bI := hBi.cell 0
        have cO := Gr.cell gAW cOA
        have cP := Gr.cell gAW cPA
        have hlti : (pre.length : Int) < on := by omega
        have hltd : decide (on ≤ pre.length) = false := decide_eq_false (by omega)
        gi_wp2
        refine wpIn_region_held (S := fun W' => Gr W W') 31 _ hmx rfl rfl (by repeat (with_reducible first | assumption | exact Gr.refl _ | apply Gr.alloc | apply Gr.drewN | apply Gr.drew | apply Gr.iter | (refine Gr.setCell ?_ (by simp) _) | (refine Gr.trans ?_ (by assumption)))) (fun hHeld => ?_)
        refine' wpHeld_pick (fuel := 30) (v := _) 0 47 [false, false, false, false, false, false, false, false, false, false, false, false, false, false, false, false, false, false, false, false, false, false, false, false, false, false, false, false, false, false, false] [true, false, false, false, false, false, false, false, false, false, false, false, false, false, false, false, false, false, false, false, false, false, false, false, false, false, false, false, false, false, false] rfl rfl rfl (by kernel_rfl) (by kernel_rfl) (by kernel_rfl) (by kernel_rfl) (fun _ _ _ h => h) (by rfl) ?_ (fun _ => rfl) hHeld ?_
        rotate_left
        · (intro w' hSw; have hSw : Gr W w' := hSw; have e1 := Gr.cell hSw bI; have e2 := Gr.cell hSw cO; have e3 := Gr.cell hSw cP; have e4 := Gr.cell hSw cQ; have f0 := Gr.cell hSw c0; have f1 := Gr.cell hSw c1; have f2 := Gr.cell hSw c2; have f3 := Gr.cell hSw c3; have f4 := Gr.cell hSw c4; have f5 := Gr.cell hSw c5; have f6 := Gr.cell hSw c6; go_simp; try with_reducible rfl)
        simp only [Act.put, List.setIfInBounds_toArray, List.set_cons_zero, List.set_cons_succ]
        refine' wpHeld_pick (fuel := 29) (v := _) 1 48 [true, false, false, false, false, false, false, false, false, false, false, false, false, false, false, false, false, false, false, false, false, false, false, false, false, false, false, false, false, false, false] [true, true, false, false, false, false, false, false, false, false, false, false, false, false, false, false, false, false, false, false, false, false, false, false, false, false, false, false, false, false, false] rfl rfl rfl (by kernel_rfl) (by kernel_rfl) (by kernel_rfl) (by kernel_rfl) (fun _ _ _ h => h) (by rfl) ?_ (fun _ => rfl) hHeld ?_
        rotate_left
        · (intro w' hSw; have hSw : Gr W w' := hSw; have e1 := Gr.cell hSw bI; have e2 := Gr.cell hSw cO; have e3 := Gr.cell hSw cP; have e4 := Gr.cell hSw cQ; have f0 := Gr.cell hSw c0; have f1 := Gr.cell hSw c1; have f2 := Gr.cell hSw c2; have f3 := Gr.cell hSw c3; have f4 := Gr.cell hSw c4; have f5 := Gr.cell hSw c5; have f6 := Gr.cell hSw c6; go_simp; try with_reducible rfl)
        simp only [Act.put, List.setIfInBounds_toArray, List.set_cons_zero, List.set_cons_succ]
        refine' wpHeld_pick (fuel := 28) (v := _) 2 49 [true, true, false, false, false, false, false, false, false, false, false, false, false, false, false, false, false, false, false, false, false, false, false, false, false, false, false, false, false, false, false] [true, true, true, false, false, false, false, false, false, false, false, false, false, false, false, false, false, false, false, false, false, false, false, false, false, false, false, false, false, false, false] rfl rfl rfl (by kernel_rfl) (by kernel_rfl) (by kernel_rfl) (by kernel_rfl) (fun _ _ _ h => h) (by rfl) ?_ (fun _ => rfl) hHeld ?_
        rotate_left
        · (intro w' hSw; have hSw : Gr W w' := hSw; have e1 := Gr.cell hSw bI; have e2 := Gr.cell hSw cO; have e3 := Gr.cell hSw cP; have e4 := Gr.cell hSw cQ; have f0 := Gr.cell hSw c0; have f1 := Gr.cell hSw c1; have f2 := Gr.cell hSw c2; have f3 := Gr.cell hSw c3; have f4 := Gr.cell hSw c4; have f5 := Gr.cell hSw c5; have f6 := Gr.cell hSw c6; go_simp; try with_reducible rfl)
        simp only [Act.put, List.setIfInBounds_toArray, List.set_cons_zero, List.set_cons_succ]
        refine' wpHeld_pick (fuel := 27) (v := _) 3 50 [true, true, true, false, false, false, false, false, false, false, false, false, false, false, false, false, false, false, false, false, false, false, false, false, false, false, false, false, false, false, false] [true, true, true, true, false, false, false, false, false, false, false, false, false, false, false, false, false, false, false, false, false, false, false, false, false, false, false, false, false, false, false] rfl rfl rfl (by kernel_rfl) (by kernel_rfl) (by kernel_rfl) (by kernel_rfl) (fun _ _ _ h => h) (by rfl) ?_ (fun _ => rfl) hHeld ?_
        rotate_left
        · (intro w' hSw; have hSw : Gr W w' := hSw; have e1 := Gr.cell hSw bI; have e2 := Gr.cell hSw cO; have e3 := Gr.cell hSw cP; have e4 := Gr.cell hSw cQ; have f0 := Gr.cell hSw c0; have f1 := Gr.cell hSw c1; have f2 := Gr.cell hSw c2; have f3 := Gr.cell hSw c3; have f4 := Gr.cell hSw c4; have f5 := Gr.cell hSw c5; have f6 := Gr.cell hSw c6; go_simp; try with_reducible rfl)
        simp only [Act.put, List.setIfInBounds_toArray, List.set_cons_zero, List.set_cons_succ]
        refine' wpHeld_pick (fuel := 26) (v := _) 4 51 [true, true, true, true, false, false, false, false, false, false, false, false, false, false, false, false, false, false, false, false, false, false, false, false, false, false, false, false, false, false, false] [true, true, true, true, true, false, false, false, false, false, false, false, false, false, false, false, false, false, false, false, false, false, false, false, false, false, false, false, false, false, false] rfl rfl rfl (by kernel_rfl) (by kernel_rfl) (by kernel_rfl) (by kernel_rfl) (fun _ _ _ h => h) (by rfl) ?_ (fun _ => rfl) hHeld ?_
        rotate_left
        · (intro w' hSw; have hSw : Gr W w' := hSw; have e1 := Gr.cell hSw bI; have e2 := Gr.cell hSw cO; have e3 := Gr.cell hSw cP; have e4 := Gr.cell hSw cQ; have f0 := Gr.cell hSw c0; have f1 := Gr.cell hSw c1; have f2 := Gr.cell hSw c2; have f3 := Gr.cell hSw c3; have f4 := Gr.cell hSw c4; have f5 := Gr.cell hSw c5; have f6 := Gr.cell hSw c6; go_simp; try with_reducible rfl)
        simp only [Act.put, List.setIfInBounds_toArray, List.set_cons_zero, List.set_cons_succ]
        refine' wpHeld_pick (fuel := 25) (v := _) 5 52 [true, true, true, true, true, false, false, false, false, false, false, false, false, false, false, false, false, false, false, false, false, false, false, false, false, false, false, false, false, false, false] [true, true, true, true, true, true, false, false, false, false, false, false, false, false, false, false, false, false, false, false, false, false, false, false, false, false, false, false, false, false, false] rfl rfl rfl (by kernel_rfl) (by kernel_rfl) (by kernel_rfl) (by kernel_rfl) (fun _ _ _ h => h) (by rfl) ?_ (fun _ => rfl) hHeld ?_
        rotate_left
        · (intro w' hSw; have hSw : Gr W w' := hSw; have e1 := Gr.cell hSw bI; have e2 := Gr.cell hSw cO; have e3 := Gr.cell hSw cP; have e4 := Gr.cell hSw cQ; have f0 := Gr.cell hSw c0; have f1 := Gr.cell hSw c1; have f2 := Gr.cell hSw c2; have f3 := Gr.cell hSw c3; have f4 := Gr.cell hSw c4; have f5 := Gr.cell hSw c5; have f6 := Gr.cell hSw c6; go_simp; try with_reducible rfl)
        simp only [Act.put, List.setIfInBounds_toArray, List.set_cons_zero, List.set_cons_succ]
        refine' wpHeld_pick (fuel := 24) (v := _) 6 53 [true, true, true, true, true, true, false, false, false, false, false, false, false, false, false, false, false, false, false, false, false, false, false, false, false, false, false, false, false, false, false] [true, true, true, true, true, true, true, false, false, false, false, false, false, false, false, false, false, false, false, false, false, false, false, false, false, false, false, false, false, false, false] rfl rfl rfl (by kernel_rfl) (by kernel_rfl) (by kernel_rfl) (by kernel_rfl) (fun _ _ _ h => h) (by rfl) ?_ (fun _ => rfl) hHeld ?_
        rotate_left
        · (intro w' hSw; have hSw : Gr W w' := hSw; have e1 := Gr.cell hSw bI; have e2 := Gr.cell hSw cO; have e3 := Gr.cell hSw cP; have e4 := Gr.cell hSw cQ; have f0 := Gr.cell hSw c0; have f1 := Gr.cell hSw c1; have f2 := Gr.cell hSw c2; have f3 := Gr.cell hSw c3; have f4 := Gr.cell hSw c4; have f5 := Gr.cell hSw c5; have f6 := Gr.cell hSw c6; go_simp; try with_reducible rfl)
        simp only [Act.put, List.setIfInBounds_toArray, List.set_cons_zero, List.set_cons_succ]
        refine' wpHeld_pick (fuel := 23) (v := _) 7 54 [true, true, true, true, true, true, true, false, false, false, false, false, false, false, false, false, false, false, false, false, false, false, false, false, false, false, false, false, false, false, false] [true, true, true, true, true, true, true, true, false, false, false, false, false, false, false, false, false, false, false, false, false, false, false, false, false, false, false, false, false, false, false] rfl rfl rfl (by kernel_rfl) (by kernel_rfl) (by kernel_rfl) (by kernel_rfl) (fun _ _ _ h => h) (by rfl) ?_ (fun _ => rfl) hHeld ?_
        rotate_left
        · (intro w' hSw; have hSw : Gr W w' := hSw; have e1 := Gr.cell hSw bI; have e2 := Gr.cell hSw cO; have e3 := Gr.cell hSw cP; have e4 := Gr.cell hSw cQ; have f0 := Gr.cell hSw c0; have f1 := Gr.cell hSw c1; have f2 := Gr.cell hSw c2; have f3 := Gr.cell hSw c3; have f4 := Gr.cell hSw c4; have f5 := Gr.cell hSw c5; have f6 := Gr.cell hSw c6; go_simp; try with_reducible rfl)
        simp only [Act.put, List.setIfInBounds_toArray, List.set_cons_zero, List.set_cons_succ]
        refine' wpHeld_pick (fuel := 22) (v := _) 8 55 [true, true, true, true, true, true, true, true, false, false, false, false, false, false, false, false, false, false, false, false, false, false, false, false, false, false, false, false, false, false, false] [true, true, true, true, true, true, true, true, true, false, false, false, false, false, false, false, false, false, false, false, false, false, false, false, false, false, false, false, false, false, false] rfl rfl rfl (by kernel_rfl) (by kernel_rfl) (by kernel_rfl) (by kernel_rfl) (fun _ _ _ h => h) (by rfl) ?_ (fun _ => rfl) hHeld ?_
        rotate_left
        · (intro w' hSw; have hSw : Gr W w' := hSw; have e1 := Gr.cell hSw bI; have e2 := Gr.cell hSw cO; have e3 := Gr.cell hSw cP; have e4 := Gr.cell hSw cQ; have f0 := Gr.cell hSw c0; have f1 := Gr.cell hSw c1; have f2 := Gr.cell hSw c2; have f3 := Gr.cell hSw c3; have f4 := Gr.cell hSw c4; have f5 := Gr.cell hSw c5; have f6 := Gr.cell hSw c6; go_simp; try with_reducible rfl)
        simp only [Act.put, List.setIfInBounds_toArray, List.set_cons_zero, List.set_cons_succ]
        refine' wpHeld_pick (fuel := 21) (v := _) 9 56 [true, true, true, true, true, true, true, true, true, false, false, false, false, false, false, false, false, false, false, false, false, false, false, false, false, false, false, false, false, false, false] [true, true, true, true, true, true, true, true, true, true, false, false, false, false, false, false, false, false, false, false, false, false, false, false, false, false, false, false, false, false, false] rfl rfl rfl (by kernel_rfl) (by kernel_rfl) (by kernel_rfl) (by kernel_rfl) (fun _ _ _ h => h) (by rfl) ?_ (fun _ => rfl) hHeld ?_
        rotate_left
        · (intro w' hSw; have hSw : Gr W w' := hSw; have e1 := Gr.cell hSw bI; have e2 := Gr.cell hSw cO; have e3 := Gr.cell hSw cP; have e4 := Gr.cell hSw cQ; have f0 := Gr.cell hSw c0; have f1 := Gr.cell hSw c1; have f2 := Gr.cell hSw c2; have f3 := Gr.cell hSw c3; have f4 := Gr.cell hSw c4; have f5 := Gr.cell hSw c5; have f6 := Gr.cell hSw c6; go_simp; try with_reducible rfl)
        simp only [Act.put, List.setIfInBounds_toArray, List.set_cons_zero, List.set_cons_succ]
        refine' wpHeld_pick (fuel := 20) (v := _) 11 58 [true, true, true, true, true, true, true, true, true, true, false, false, false, false, false, false, false, false, false, false, false, false, false, false, false, false, false, false, false, false, false] [true, true, true, true, true, true, true, true, true, true, false, true, false, false, false, false, false, false, false, false, false, false, false, false, false, false, false, false, false, false, false] rfl rfl rfl (by kernel_rfl) (by kernel_rfl) (by kernel_rfl) (by kernel_rfl) (fun _ _ _ h => h) (by rfl) ?_ (fun _ => rfl) hHeld ?_
        rotate_left
        · (intro w' hSw; have hSw : Gr W w' := hSw; have e1 := Gr.cell hSw bI; have e2 := Gr.cell hSw cO; have e3 := Gr.cell hSw cP; have e4 := Gr.cell hSw cQ; have f0 := Gr.cell hSw c0; have f1 := Gr.cell hSw c1; have f2 := Gr.cell hSw c2; have f3 := Gr.cell hSw c3; have f4 := Gr.cell hSw c4; have f5 := Gr.cell hSw c5; have f6 := Gr.cell hSw c6; go_simp; try with_reducible rfl)
        simp only [Act.put, List.setIfInBounds_toArray, List.set_cons_zero, List.set_cons_succ]
        refine' wpHeld_pick (fuel := 19) (v := _) 12 59 [true, true, true, true, true, true, true, true, true, true, false, true, false, false, false, false, false, false, false, false, false, false, false, false, false, false, false, false, false, false, false] [true, true, true, true, true, true, true, true, true, true, false, true, true, false, false, false, false, false, false, false, false, false, false, false, false, false, false, false, false, false, false] rfl rfl rfl (by kernel_rfl) (by kernel_rfl) (by kernel_rfl) (by kernel_rfl) (fun _ _ _ h => h) (by rfl) ?_ (fun _ => rfl) hHeld ?_
        rotate_left
        · (intro w' hSw; have hSw : Gr W w' := hSw; have e1 := Gr.cell hSw bI; have e2 := Gr.cell hSw cO; have e3 := Gr.cell hSw cP; have e4 := Gr.cell hSw cQ; have f0 := Gr.cell hSw c0; have f1 := Gr.cell hSw c1; have f2 := Gr.cell hSw c2; have f3 := Gr.cell hSw c3; have f4 := Gr.cell hSw c4; have f5 := Gr.cell hSw c5; have f6 := Gr.cell hSw c6; go_simp; try with_reducible rfl)
        simp only [Act.put, List.setIfInBounds_toArray, List.set_cons_zero, List.set_cons_succ]
        refine' wpHeld_pick (fuel := 18) (v := _) 13 60 [true, true, true, true, true, true, true, true, true, true, false, true, true, false, false, false, false, false, false, false, false, false, false, false, false, false, false, false, false, false, false] [true, true, true, true, true, true, true, true, true, true, false, true, true, true, false, false, false, false, false, false, false, false, false, false, false, false, false, false, false, false, false] rfl rfl rfl (by kernel_rfl) (by kernel_rfl) (by kernel_rfl) (by kernel_rfl) (fun _ _ _ h => h) (by rfl) ?_ (fun _ => rfl) hHeld ?_
        rotate_left
        · (intro w' hSw; have hSw : Gr W w' := hSw; have e1 := Gr.cell hSw bI; have e2 := Gr.cell hSw cO; have e3 := Gr.cell hSw cP; have e4 := Gr.cell hSw cQ; have f0 := Gr.cell hSw c0; have f1 := Gr.cell hSw c1; have f2 := Gr.cell hSw c2; have f3 := Gr.cell hSw c3; have f4 := Gr.cell hSw c4; have f5 := Gr.cell hSw c5; have f6 := Gr.cell hSw c6; go_simp; try with_reducible rfl)
        simp only [Act.put, List.setIfInBounds_toArray, List.set_cons_zero, List.set_cons_succ]
        refine' wpHeld_pick (fuel := 17) (v := _) 14 61 [true, true, true, true, true, true, true, true, true, true, false, true, true, true, false, false, false, false, false, false, false, false, false, false, false, false, false, false, false, false, false] [true, true, true, true, true, true, true, true, true, true, false, true, true, true, true, false, false, false, false, false, false, false, false, false, false, false, false, false, false, false, false] rfl rfl rfl (by kernel_rfl) (by kernel_rfl) (by kernel_rfl) (by kernel_rfl) (fun _ _ _ h => h) (by rfl) ?_ (fun _ => rfl) hHeld ?_
        rotate_left
        · (intro w' hSw; have hSw : Gr W w' := hSw; have e1 := Gr.cell hSw bI; have e2 := Gr.cell hSw cO; have e3 := Gr.cell hSw cP; have e4 := Gr.cell hSw cQ; have f0 := Gr.cell hSw c0; have f1 := Gr.cell hSw c1; have f2 := Gr.cell hSw c2; have f3 := Gr.cell hSw c3; have f4 := Gr.cell hSw c4; have f5 := Gr.cell hSw c5; have f6 := Gr.cell hSw c6; go_simp; try with_reducible rfl)
        simp only [Act.put, List.setIfInBounds_toArray, List.set_cons_zero, List.set_cons_succ]
        refine wpHeld_step (fuel := 16) 10 [true, true, true, true, true, true, true, true, true, true, false, true, true, true, true, false, false, false, false, false, false, false, false, false, false, false, false, false, false, false, false] [true, true, true, true, true, true, true, true, true, true, true, true, true, true, true, false, false, false, false, false, false, false, false, false, false, false, false, false, false, false, false] (by kernel_rfl) rfl rfl (by rfl) (fun K hK => ?_)
        go_simp
        (with_reducible refine And.intro ?_ ?_); exact trivial
        refine (CallsIn.inRound L0 (callsIn_wide.2 (HC1.out _ (PieceV.gr hpv (by repeat (with_reducible first | assumption | exact Gr.refl _ | apply Gr.alloc | apply Gr.drewN | apply Gr.drew | apply Gr.iter | (refine Gr.setCell ?_ (by simp) _) | (refine Gr.trans ?_ (by assumption)))))))).mono ?_
        rintro e x1 ⟨sv1, rfl, hs1, hgx1⟩
        obtain ⟨sax1, snx1, scx1, rfl, -⟩ := hs1.sl
        dsimp only [opV]
        clear hHeld
        refine hK.out _ _ (by repeat (with_reducible first | assumption | exact Gr.refl _ | apply Gr.alloc | apply Gr.drewN | apply Gr.drew | apply Gr.iter | (refine Gr.setCell ?_ (by simp) _) | (refine Gr.trans ?_ (by assumption)))) (fun hHeld => ?_)
        clear hK K
        refine wpHeld_step (fuel := 15) 15 [true, true, true, true, true, true, true, true, true, true, true, true, true, true, true, false, false, false, false, false, false, false, false, false, false, false, false, false, false, false, false] [true, true, true, true, true, true, true, true, true, true, true, true, true, true, true, true, false, false, false, false, false, false, false, false, false, false, false, false, false, false, false] (by kernel_rfl) rfl rfl (by rfl) (fun K hK => ?_)
        go_simp
        (with_reducible refine And.intro ?_ ?_); exact trivial
        refine (CallsIn.inRound L0 (callsIn_wide.2 (same04_any _ _ _ _ _ _ _ oats _ _ _ _ _ _ _ oats _ (OwnAL.rd hs1 hshort).rd (RdAttrs.gr hor (by repeat (with_reducible first | assumption | exact Gr.refl _ | apply Gr.alloc | apply Gr.drewN | apply Gr.drew | apply Gr.iter | (refine Gr.setCell ?_ (by simp) _) | (refine Gr.trans ?_ (by assumption)))))))).mono ?_
        rw [decide_eq_true (rfl : (⟨ok, ot, ⟨ova, ovb, ovt⟩, oct, oats⟩ : Op) = ⟨ok, ot, ⟨ova, ovb, ovt⟩, oct, oats⟩)]
        rintro e x2 ⟨rfl, hgx2⟩
        dsimp only
        clear hHeld
        refine hK.out _ _ (by repeat (with_reducible first | assumption | exact Gr.refl _ | apply Gr.alloc | apply Gr.drewN | apply Gr.drew | apply Gr.iter | (refine Gr.setCell ?_ (by simp) _) | (refine Gr.trans ?_ (by assumption)))) (fun hHeld => ?_)
        clear hK K
        refine' wpHeld_pick (fuel := 14) (v := _) 16 63 [true, true, true, true, true, true, true, true, true, true, true, true, true, true, true, true, false, false, false, false, false, false, false, false, false, false, false, false, false, false, false] [true, true, true, true, true, true, true, true, true, true, true, true, true, true, true, true, true, false, false, false, false, false, false, false, false, false, false, false, false, false, false] rfl rfl rfl (by kernel_rfl) (by kernel_rfl) (by kernel_rfl) (by kernel_rfl) (fun _ _ _ h => h) (by rfl) ?_ (fun _ => rfl) hHeld ?_
        rotate_left
        · (intro w' hSw; have hSw : Gr W w' := hSw; have e1 := Gr.cell hSw bI; have e2 := Gr.cell hSw cO; have e3 := Gr.cell hSw cP; have e4 := Gr.cell hSw cQ; have f0 := Gr.cell hSw c0; have f1 := Gr.cell hSw c1; have f2 := Gr.cell hSw c2; have f3 := Gr.cell hSw c3; have f4 := Gr.cell hSw c4; have f5 := Gr.cell hSw c5; have f6 := Gr.cell hSw c6; go_simp; try with_reducible rfl)
        simp only [Act.put, List.setIfInBounds_toArray, List.set_cons_zero, List.set_cons_succ]
        refine' wpHeld_pick (fuel := 13) (v := _) 17 64 [true, true, true, true, true, true, true, true, true, true, true, true, true, true, true, true, true, false, false, false, false, false, false, false, false, false, false, false, false, false, false] [true, true, true, true, true, true, true, true, true, true, true, true, true, true, true, true, true, true, false, false, false, false, false, false, false, false, false, false, false, false, false] rfl rfl rfl (by kernel_rfl) (by kernel_rfl) (by kernel_rfl) (by kernel_rfl) (fun _ _ _ h => h) (by rfl) ?_ (fun _ => rfl) hHeld ?_
        rotate_left
        · (intro w' hSw; have hSw : Gr W w' := hSw; have e1 := Gr.cell hSw bI; have e2 := Gr.cell hSw cO; have e3 := Gr.cell hSw cP; have e4 := Gr.cell hSw cQ; have f0 := Gr.cell hSw c0; have f1 := Gr.cell hSw c1; have f2 := Gr.cell hSw c2; have f3 := Gr.cell hSw c3; have f4 := Gr.cell hSw c4; have f5 := Gr.cell hSw c5; have f6 := Gr.cell hSw c6; go_simp; try with_reducible rfl)
        simp only [Act.put, List.setIfInBounds_toArray, List.set_cons_zero, List.set_cons_succ]
        refine' wpHeld_pick (fuel := 12) (v := _) 18 65 [true, true, true, true, true, true, true, true, true, true, true, true, true, true, true, true, true, true, false, false, false, false, false, false, false, false, false, false, false, false, false] [true, true, true, true, true, true, true, true, true, true, true, true, true, true, true, true, true, true, true, false, false, false, false, false, false, false, false, false, false, false, false] rfl rfl rfl (by kernel_rfl) (by kernel_rfl) (by kernel_rfl) (by kernel_rfl) (fun _ _ _ h => h) (by rfl) ?_ (fun _ => rfl) hHeld ?_
        rotate_left
        · (intro w' hSw; have hSw : Gr W w' := hSw; have e1 := Gr.cell hSw bI; have e2 := Gr.cell hSw cO; have e3 := Gr.cell hSw cP; have e4 := Gr.cell hSw cQ; have f0 := Gr.cell hSw c0; have f1 := Gr.cell hSw c1; have f2 := Gr.cell hSw c2; have f3 := Gr.cell hSw c3; have f4 := Gr.cell hSw c4; have f5 := Gr.cell hSw c5; have f6 := Gr.cell hSw c6; go_simp; try with_reducible rfl)
        simp only [Act.put, List.setIfInBounds_toArray, List.set_cons_zero, List.set_cons_succ]
        refine' wpHeld_pick (fuel := 11) (v := _) 19 66 [true, true, true, true, true, true, true, true, true, true, true, true, true, true, true, true, true, true, true, false, false, false, false, false, false, false, false, false, false, false, false] [true, true, true, true, true, true, true, true, true, true, true, true, true, true, true, true, true, true, true, true, false, false, false, false, false, false, false, false, false, false, false] rfl rfl rfl (by kernel_rfl) (by kernel_rfl) (by kernel_rfl) (by kernel_rfl) (fun _ _ _ h => h) (by rfl) ?_ (fun _ => rfl) hHeld ?_
        rotate_left
        · (intro w' hSw; have hSw : Gr W w' := hSw; have e1 := Gr.cell hSw bI; have e2 := Gr.cell hSw cO; have e3 := Gr.cell hSw cP; have e4 := Gr.cell hSw cQ; have f0 := Gr.cell hSw c0; have f1 := Gr.cell hSw c1; have f2 := Gr.cell hSw c2; have f3 := Gr.cell hSw c3; have f4 := Gr.cell hSw c4; have f5 := Gr.cell hSw c5; have f6 := Gr.cell hSw c6; go_simp; try with_reducible rfl)
        simp only [Act.put, List.setIfInBounds_toArray, List.set_cons_zero, List.set_cons_succ]
        refine' wpHeld_pick (fuel := 10) (v := _) 20 67 [true, true, true, true, true, true, true, true, true, true, true, true, true, true, true, true, true, true, true, true, false, false, false, false, false, false, false, false, false, false, false] [true, true, true, true, true, true, true, true, true, true, true, true, true, true, true, true, true, true, true, true, true, false, false, false, false, false, false, false, false, false, false] rfl rfl rfl (by kernel_rfl) (by kernel_rfl) (by kernel_rfl) (by kernel_rfl) (fun _ _ _ h => h) (by rfl) ?_ (fun _ => rfl) hHeld ?_
        rotate_left
        · (intro w' hSw; have hSw : Gr W w' := hSw; have e1 := Gr.cell hSw bI; have e2 := Gr.cell hSw cO; have e3 := Gr.cell hSw cP; have e4 := Gr.cell hSw cQ; have f0 := Gr.cell hSw c0; have f1 := Gr.cell hSw c1; have f2 := Gr.cell hSw c2; have f3 := Gr.cell hSw c3; have f4 := Gr.cell hSw c4; have f5 := Gr.cell hSw c5; have f6 := Gr.cell hSw c6; go_simp; try with_reducible rfl)
        simp only [Act.put, List.setIfInBounds_toArray, List.set_cons_zero, List.set_cons_succ]
        refine' wpHeld_pick (fuel := 9) (v := _) 21 68 [true, true, true, true, true, true, true, true, true, true, true, true, true, true, true, true, true, true, true, true, true, false, false, false, false, false, false, false, false, false, false] [true, true, true, true, true, true, true, true, true, true, true, true, true, true, true, true, true, true, true, true, true, true, false, false, false, false, false, false, false, false, false] rfl rfl rfl (by kernel_rfl) (by kernel_rfl) (by kernel_rfl) (by kernel_rfl) (fun _ _ _ h => h) (by rfl) ?_ (fun _ => rfl) hHeld ?_
        rotate_left
        · (intro w' hSw; have hSw : Gr W w' := hSw; have e1 := Gr.cell hSw bI; have e2 := Gr.cell hSw cO; have e3 := Gr.cell hSw cP; have e4 := Gr.cell hSw cQ; have f0 := Gr.cell hSw c0; have f1 := Gr.cell hSw c1; have f2 := Gr.cell hSw c2; have f3 := Gr.cell hSw c3; have f4 := Gr.cell hSw c4; have f5 := Gr.cell hSw c5; have f6 := Gr.cell hSw c6; go_simp; try with_reducible rfl)
        simp only [Act.put, List.setIfInBounds_toArray, List.set_cons_zero, List.set_cons_succ]
        refine' wpHeld_pick (fuel := 8) (v := _) 22 69 [true, true, true, true, true, true, true, true, true, true, true, true, true, true, true, true, true, true, true, true, true, true, false, false, false, false, false, false, false, false, false] [true, true, true, true, true, true, true, true, true, true, true, true, true, true, true, true, true, true, true, true, true, true, true, false, false, false, false, false, false, false, false] rfl rfl rfl (by kernel_rfl) (by kernel_rfl) (by kernel_rfl) (by kernel_rfl) (fun _ _ _ h => h) (by rfl) ?_ (fun _ => rfl) hHeld ?_
        rotate_left
        · (intro w' hSw; have hSw : Gr W w' := hSw; have e1 := Gr.cell hSw bI; have e2 := Gr.cell hSw cO; have e3 := Gr.cell hSw cP; have e4 := Gr.cell hSw cQ; have f0 := Gr.cell hSw c0; have f1 := Gr.cell hSw c1; have f2 := Gr.cell hSw c2; have f3 := Gr.cell hSw c3; have f4 := Gr.cell hSw c4; have f5 := Gr.cell hSw c5; have f6 := Gr.cell hSw c6; go_simp; try with_reducible rfl)
        simp only [Act.put, List.setIfInBounds_toArray, List.set_cons_zero, List.set_cons_succ]
        refine' wpHeld_pick (fuel := 7) (v := _) 24 71 [true, true, true, true, true, true, true, true, true, true, true, true, true, true, true, true, true, true, true, true, true, true, true, false, false, false, false, false, false, false, false] [true, true, true, true, true, true, true, true, true, true, true, true, true, true, true, true, true, true, true, true, true, true, true, false, true, false, false, false, false, false, false] rfl rfl rfl (by kernel_rfl) (by kernel_rfl) (by kernel_rfl) (by kernel_rfl) (fun _ _ _ h => h) (by rfl) ?_ (fun _ => rfl) hHeld ?_
        rotate_left
        · (intro w' hSw; have hSw : Gr W w' := hSw; have e1 := Gr.cell hSw bI; have e2 := Gr.cell hSw cO; have e3 := Gr.cell hSw cP; have e4 := Gr.cell hSw cQ; have f0 := Gr.cell hSw c0; have f1 := Gr.cell hSw c1; have f2 := Gr.cell hSw c2; have f3 := Gr.cell hSw c3; have f4 := Gr.cell hSw c4; have f5 := Gr.cell hSw c5; have f6 := Gr.cell hSw c6; go_simp; try with_reducible rfl)
        simp only [Act.put, List.setIfInBounds_toArray, List.set_cons_zero, List.set_cons_succ]
        refine' wpHeld_pick (fuel := 6) (v := _) 25 72 [true, true, true, true, true, true, true, true, true, true, true, true, true, true, true, true, true, true, true, true, true, true, true, false, true, false, false, false, false, false, false] [true, true, true, true, true, true, true, true, true, true, true, true, true, true, true, true, true, true, true, true, true, true, true, false, true, true, false, false, false, false, false] rfl rfl rfl (by kernel_rfl) (by kernel_rfl) (by kernel_rfl) (by kernel_rfl) (fun _ _ _ h => h) (by rfl) ?_ (fun _ => rfl) hHeld ?_
        rotate_left
        · (intro w' hSw; have hSw : Gr W w' := hSw; have e1 := Gr.cell hSw bI; have e2 := Gr.cell hSw cO; have e3 := Gr.cell hSw cP; have e4 := Gr.cell hSw cQ; have f0 := Gr.cell hSw c0; have f1 := Gr.cell hSw c1; have f2 := Gr.cell hSw c2; have f3 := Gr.cell hSw c3; have f4 := Gr.cell hSw c4; have f5 := Gr.cell hSw c5; have f6 := Gr.cell hSw c6; go_simp; try with_reducible rfl)
        simp only [Act.put, List.setIfInBounds_toArray, List.set_cons_zero, List.set_cons_succ]
        refine' wpHeld_pick (fuel := 5) (v := _) 26 73 [true, true, true, true, true, true, true, true, true, true, true, true, true, true, true, true, true, true, true, true, true, true, true, false, true, true, false, false, false, false, false] [true, true, true, true, true, true, true, true, true, true, true, true, true, true, true, true, true, true, true, true, true, true, true, false, true, true, true, false, false, false, false] rfl rfl rfl (by kernel_rfl) (by kernel_rfl) (by kernel_rfl) (by kernel_rfl) (fun _ _ _ h => h) (by rfl) ?_ (fun _ => rfl) hHeld ?_
        rotate_left
        · (intro w' hSw; have hSw : Gr W w' := hSw; have e1 := Gr.cell hSw bI; have e2 := Gr.cell hSw cO; have e3 := Gr.cell hSw cP; have e4 := Gr.cell hSw cQ; have f0 := Gr.cell hSw c0; have f1 := Gr.cell hSw c1; have f2 := Gr.cell hSw c2; have f3 := Gr.cell hSw c3; have f4 := Gr.cell hSw c4; have f5 := Gr.cell hSw c5; have f6 := Gr.cell hSw c6; go_simp; try with_reducible rfl)
        simp only [Act.put, List.setIfInBounds_toArray, List.set_cons_zero, List.set_cons_succ]
        refine' wpHeld_pick (fuel := 4) (v := _) 27 74 [true, true, true, true, true, true, true, true, true, true, true, true, true, true, true, true, true, true, true, true, true, true, true, false, true, true, true, false, false, false, false] [true, true, true, true, true, true, true, true, true, true, true, true, true, true, true, true, true, true, true, true, true, true, true, false, true, true, true, true, false, false, false] rfl rfl rfl (by kernel_rfl) (by kernel_rfl) (by kernel_rfl) (by kernel_rfl) (fun _ _ _ h => h) (by rfl) ?_ (fun _ => rfl) hHeld ?_
        rotate_left
        · (intro w' hSw; have hSw : Gr W w' := hSw; have e1 := Gr.cell hSw bI; have e2 := Gr.cell hSw cO; have e3 := Gr.cell hSw cP; have e4 := Gr.cell hSw cQ; have f0 := Gr.cell hSw c0; have f1 := Gr.cell hSw c1; have f2 := Gr.cell hSw c2; have f3 := Gr.cell hSw c3; have f4 := Gr.cell hSw c4; have f5 := Gr.cell hSw c5; have f6 := Gr.cell hSw c6; go_simp; try with_reducible rfl)
        simp only [Act.put, List.setIfInBounds_toArray, List.set_cons_zero, List.set_cons_succ]
        refine wpHeld_step (fuel := 3) 23 [true, true, true, true, true, true, true, true, true, true, true, true, true, true, true, true, true, true, true, true, true, true, true, false, true, true, true, true, false, false, false] [true, true, true, true, true, true, true, true, true, true, true, true, true, true, true, true, true, true, true, true, true, true, true, true, true, true, true, true, false, false, false] (by kernel_rfl) rfl rfl (by rfl) (fun K hK => ?_)
        go_simp
        (with_reducible refine And.intro ?_ ?_); exact trivial
        refine (CallsIn.inRound L0 (callsIn_wide.2 (HC2.out _ (PieceV.gr hqv (by repeat (with_reducible first | assumption | exact Gr.refl _ | apply Gr.alloc | apply Gr.drewN | apply Gr.drew | apply Gr.iter | (refine Gr.setCell ?_ (by simp) _) | (refine Gr.trans ?_ (by assumption)))))))).mono ?_
        rintro e x3 ⟨sv3, rfl, hs3, hgx3⟩
        obtain ⟨sax3, snx3, scx3, rfl, -⟩ := hs3.sl
        dsimp only [opV]
        clear hHeld
        refine hK.out _ _ (by repeat (with_reducible first | assumption | exact Gr.refl _ | apply Gr.alloc | apply Gr.drewN | apply Gr.drew | apply Gr.iter | (refine Gr.setCell ?_ (by simp) _) | (refine Gr.trans ?_ (by assumption)))) (fun hHeld => ?_)
        clear hK K
        refine wpHeld_step (fuel := 2) 28 [true, true, true, true, true, true, true, true, true, true, true, true, true, true, true, true, true, true, true, true, true, true, true, true, true, true, true, true, false, false, false] [true, true, true, true, true, true, true, true, true, true, true, true, true, true, true, true, true, true, true, true, true, true, true, true, true, true, true, true, true, false, false] (by kernel_rfl) rfl rfl (by rfl) (fun K hK => ?_)
        go_simp
        (with_reducible refine And.intro ?_ ?_); exact trivial
        refine (CallsIn.inRound L0 (callsIn_wide.2 (same04_any _ _ _ _ _ _ _ oats _ _ _ _ _ _ _ oats _ (OwnAL.rd hs3 hshort).rd (RdAttrs.gr hor (by repeat (with_reducible first | assumption | exact Gr.refl _ | apply Gr.alloc | apply Gr.drewN | apply Gr.drew | apply Gr.iter | (refine Gr.setCell ?_ (by simp) _) | (refine Gr.trans ?_ (by assumption)))))))).mono ?_
        rw [decide_eq_true (rfl : (⟨ok, ot, ⟨ova, ovb, ovt⟩, oct, oats⟩ : Op) = ⟨ok, ot, ⟨ova, ovb, ovt⟩, oct, oats⟩)]
        rintro e x4 ⟨rfl, hgx4⟩
        dsimp only
        clear hHeld
        refine hK.out _ _ (by repeat (with_reducible first | assumption | exact Gr.refl _ | apply Gr.alloc | apply Gr.drewN | apply Gr.drew | apply Gr.iter | (refine Gr.setCell ?_ (by simp) _) | (refine Gr.trans ?_ (by assumption)))) (fun hHeld => ?_)
        clear hK K
        refine' wpHeld_pick (fuel := 1) (v := _) 29 76 [true, true, true, true, true, true, true, true, true, true, true, true, true, true, true, true, true, true, true, true, true, true, true, true, true, true, true, true, true, false, false] [true, true, true, true, true, true, true, true, true, true, true, true, true, true, true, true, true, true, true, true, true, true, true, true, true, true, true, true, true, true, false] rfl rfl rfl (by kernel_rfl) (by kernel_rfl) (by kernel_rfl) (by kernel_rfl) (fun _ _ _ h => h) (by rfl) ?_ (fun _ => rfl) hHeld ?_
        rotate_left
        · (intro w' hSw; have hSw : Gr W w' := hSw; have e1 := Gr.cell hSw bI; have e2 := Gr.cell hSw cO; have e3 := Gr.cell hSw cP; have e4 := Gr.cell hSw cQ; have f0 := Gr.cell hSw c0; have f1 := Gr.cell hSw c1; have f2 := Gr.cell hSw c2; have f3 := Gr.cell hSw c3; have f4 := Gr.cell hSw c4; have f5 := Gr.cell hSw c5; have f6 := Gr.cell hSw c6; go_simp; try with_reducible rfl)
        simp only [Act.put, List.setIfInBounds_toArray, List.set_cons_zero, List.set_cons_succ]
        refine' wpHeld_pick (fuel := 0) (v := _) 30 77 [true, true, true, true, true, true, true, true, true, true, true, true, true, true, true, true, true, true, true, true, true, true, true, true, true, true, true, true, true, true, false] [true, true, true, true, true, true, true, true, true, true, true, true, true, true, true, true, true, true, true, true, true, true, true, true, true, true, true, true, true, true, true] rfl rfl rfl (by kernel_rfl) (by kernel_rfl) (by kernel_rfl) (by kernel_rfl) (fun _ _ _ h => h) (by rfl) ?_ (fun _ => rfl) hHeld ?_
        rotate_left
        · (intro w' hSw; have hSw : Gr W w' := hSw; have e1 := Gr.cell hSw bI; have e2 := Gr.cell hSw cO; have e3 := Gr.cell hSw cP; have e4 := Gr.cell hSw cQ; have f0 := Gr.cell hSw c0; have f1 := Gr.cell hSw c1; have f2 := Gr.cell hSw c2; have f3 := Gr.cell hSw c3; have f4 := Gr.cell hSw c4; have f5 := Gr.cell hSw c5; have f6 := Gr.cell hSw c6; go_simp; try with_reducible rfl)
        simp only [Act.put, List.setIfInBounds_toArray, List.set_cons_zero, List.set_cons_succ]
        refine wpHeld_done (by kernel_rfl) ?_ _
        clear hHeld
        have hpl : pre.length ≤ 12001 := by have := LP.out.1; omega
        gi_wp2_with (first
          | ((with_reducible refine And.intro ?_ ?_); exact trivial; gi_at_call 43; refine (CallsIn.inRound L0 (callsIn_wide.2 (marked_any p (.iface T1 y1) _ (PieceV.gr hpv (by repeat (with_reducible first | assumption | exact Gr.refl _ | apply Gr.alloc | apply Gr.drewN | apply Gr.drew | apply Gr.iter | (refine Gr.setCell ?_ (by simp) _) | (refine Gr.trans ?_ (by assumption)))))))).mono ?_; rw [← HPO.out.2.2]; rintro e x5 ⟨sl5, rfl, hsl5, ho5, hg5⟩; obtain ⟨a5, n5, c5', rfl, -, -, hn5⟩ := ho5.1.sl; have HSL := Lib.hid hsl5; clear hsl5; have gW5 : Gr W x5 := (by repeat (with_reducible first | assumption | exact Gr.refl _ | apply Gr.alloc | apply Gr.drewN | apply Gr.drew | apply Gr.iter | (refine Gr.setCell ?_ (by simp) _) | (refine Gr.trans ?_ (by assumption)))); have q1 := Gr.cell gW5 bI; have q2 := Gr.cell gW5 cO; have q3 := Gr.cell gW5 c0)
          | ((with_reducible refine And.intro ?_ ?_); (first | exact trivial | (intro f hf; cases hf)); go_at_K))
        have hn5b : n5 ≤ 1099511627776 := by have := hn5.out; have := HPO.out.2.1; rw [this] at hshort; omega
        have hBi5 := hBi.gr gW5
        have fz5 := hBi5.frozen 0
        have zi5 := hBi5.lt
        have hbk5 : ∀ b, (Value.slice a5 n5 c5').ownBlock = some b → ablk (.iface T1 y1) = some b := fun b hb => markV_blk (hpv.gr gW5) b (by rw [← HSL.out]; exact hb)
        by_cases hn0 : n5 = 0
        · subst hn0
          refine wpIn_loop_rounds 1 ?_
          rw [roundsIn_succ]
          gi_wp2
          have hTA : Tn (weA (.iface T1 y1)) x5 x5 := Tn.refl _ _
          have hBie := hBi5.tn hTA (fun h => absurd (Option.some.inj h.1) (by decide))
          have hTf : Tn (weW gi1 (.iface T1 y1)) W (x5.setCell ⟨gi1, 0, none⟩ (.int .i64 (pre.length + 1))) := ((Tn.of_gr gW5).trans (hTA.mono fun b t h => .inr h)).trans (Tn.set hBie (.inl ⟨rfl, rfl⟩) 0 _)
          refine ⟨KeepsOthers.of_tn hTf (fun b h => by rcases h with ⟨-, h⟩ | ⟨h, -⟩ <;> cases h), hTf.mono fun b t h => h.each, ?_, Gr.tn hgW hTf fun b t h => ?_⟩
          · rw [List.length_append]
            have h := hBie.set 0 (.int .i64 ((pre.length + 1 : Nat) : Int))
            exact h
          · rcases h with ⟨rfl, -⟩ | ⟨-, h⟩
            · omega
            · exact Nat.le_trans hTz1 (hpb _ h)
        · obtain ⟨gA, cs5, rfl, hBA, hcs⟩ := OwnA.blk ho5 (by omega)
          have hgA : ablk (.iface T1 y1) = some gA := hbk5 gA rfl
          gi_loopw [92] (fun i wr => ∃ (k : Nat) (cs : Array Value), k ≤ n5 ∧ i = .int .i64 k ∧ Blk wr gA 83 cs ∧ n5 * 4 ≤ cs.size ∧ Tn (weA (.iface T1 y1)) x5 wr) (fun i _ => n5 - (intOf i).toNat)
          case atStart => exact ⟨0, cs5, Nat.zero_le _, rfl, hBA, hcs, Tn.refl _ _⟩
          case round =>
            obtain ⟨k, cs, hkn, rfl, hBk, hck, hT⟩ := hrel
            by_cases hkl : k < n5
            · have hkl' : (k : Int) < n5 := by omega
              obtain ⟨u0, hu0⟩ : ∃ u, cs[k * 4]? = some u := ⟨_, Array.getElem?_eq_getElem (by omega)⟩
              obtain ⟨u1, hu1⟩ : ∃ u, cs[k * 4 + 1]? = some u := ⟨_, Array.getElem?_eq_getElem (by omega)⟩
              obtain ⟨u2, hu2⟩ : ∃ u, cs[k * 4 + 2]? = some u := ⟨_, Array.getElem?_eq_getElem (by omega)⟩
              obtain ⟨u3, hu3⟩ : ∃ u, cs[k * 4 + 3]? = some u := ⟨_, Array.getElem?_eq_getElem (by omega)⟩
              have d0 := (hBk.cell (k * 4)).trans hu0
              have d1 := (hBk.cell (k * 4 + 1)).trans hu1
              have d2 := (hBk.cell (k * 4 + 2)).trans hu2
              have d3 := (hBk.cell (k * 4 + 3)).trans hu3
              have fA := hBk.frozen
              have zA := hBk.lt
              clear hu0 hu1 hu2 hu3
              gi_wp2
              go_roundw
              case rel => exact ⟨k + 1, _, by omega, by go_num, (((hBk.set (k * 4) _).set (k * 4 + 1) _).set (k * 4 + 2) _).set (k * 4 + 3) _, by simpa using hck, (((hT.trans (Tn.set hBk ⟨rfl, hgA⟩ _ _)).trans (Tn.set (hBk.set _ _) ⟨rfl, hgA⟩ _ _)).trans (Tn.set ((hBk.set _ _).set _ _) ⟨rfl, hgA⟩ _ _)).trans (Tn.set (((hBk.set _ _).set _ _).set _ _) ⟨rfl, hgA⟩ _ _)⟩
              case measure => simp [intOf]; omega
            · obtain rfl : k = n5 := by omega
              have hBiw := hBi5.tn hT (fun h => absurd (Option.some.inj h.1) (by decide))
              have cI := hBiw.cell 0
              have fI := hBiw.frozen 0
              have zI := hBiw.lt
              gi_wp2
              have hTA : Tn (weA (.iface T1 y1)) x5 wr := hT
              have hBie := hBi5.tn hTA (fun h => absurd (Option.some.inj h.1) (by decide))
              have hTf : Tn (weW gi1 (.iface T1 y1)) W (wr.setCell ⟨gi1, 0, none⟩ (.int .i64 (pre.length + 1))) := ((Tn.of_gr gW5).trans (hTA.mono fun b t h => .inr h)).trans (Tn.set hBie (.inl ⟨rfl, rfl⟩) 0 _)
              refine ⟨KeepsOthers.of_tn hTf (fun b h => by rcases h with ⟨-, h⟩ | ⟨h, -⟩ <;> cases h), hTf.mono fun b t h => h.each, ?_, Gr.tn hgW hTf fun b t h => ?_⟩
              · rw [List.length_append]
                have h := hBie.set 0 (.int .i64 ((pre.length + 1 : Nat) : Int))
                exact h
              · rcases h with ⟨rfl, -⟩ | ⟨-, h⟩
                · omega
                · exact Nat.le_trans hTz1 (hpb _ h)
      case stop =>
        rintro D c pre W _ _ h _
        exact h.elim
      case done =>
        rintro D1 ys WD1 hD1 hys ⟨hBi, hgW⟩ hK1
        have hyl : ys.length = on := by rw [show ys.length = ps.length from by rw [← hys, List.length_map], hpn]
        rw [hyl] at hBi
        have gAD1 : Gr WA WD1 := Gr.trans hgT hgW
        have gDD1 := hgW
        have bI := hBi.cell 0
        have cO := Gr.cell gAD1 cOA
        gi_wp2
        clear bI cO hBi hgW hyl hys
        have hgT := gAD1
        rw [roundsIn_succ]
        gi_wp2
        have hI2 := Blk.new WD1 3 #[.int .i64 0]
        obtain ⟨WB2, hWB2⟩ : ∃ WB, WD1.alloc (.cells #[.int .i64 0] 3) = WB := ⟨_, rfl⟩
        rw [hWB2] at hI2 ⊢
        have gTB2 : Gr WD1 WB2 := hWB2 ▸ (Gr.refl WD1).alloc _
        obtain ⟨gi2, hgi2⟩ : ∃ gi, WD1.heap.size = gi := ⟨_, rfl⟩
        rw [hgi2] at hI2 ⊢
        have gAB2 : Gr WA WB2 := Gr.trans hgT gTB2
        have hzB2 := hI2.lt
        have hTz2 : WD1.heap.size ≤ WB2.heap.size := gTB2.size
        clear hWB2
        apply wpIn_told rfl h1 (gf := 110) (lb := #[.pointer (some ⟨gO + 1, 0, none⟩)]) rfl trivial (enters_of Tryz.func110 (by kernel_rfl) rfl) (each_told (N - 1) (gO + 1) (by omega) ps _ WB2 (hEA.gr gAB2) (Gr.cell gAB2 cDA) (DeltaR.gr hDA gAB2) hp.ok)
          rfl (fun h k => h.trans k) (fun x W l o o' hl h ho _ => Tn.put W o' h (by rw [tyO_none ho]; exact .inl rfl))
          (fun k x W W' h g => ⟨h.1, h.2.1.tn g (fun b _ hh => by cases hh.2), h.2.2⟩) (Below.refl _ _) (fun _ => rfl)
          (WeI WD1 gi2) (fun _ _ _ => False) (fun s => WeI.abd hTz2 s) (fun _ _ _ _ hs _ => hs) ⟨hI2, gTB2⟩ _ ?assign ?body ?done ?stop
        case assign =>
          intro l x W K hK
          gi_wp2
          exact hK
        case body =>
          rintro L0 pre ⟨⟨p, pv⟩, hs0⟩ W ⟨hBi, hgW⟩ ⟨hk, hpv, hpb⟩
          dsimp only at hk hpv hpb
          have gAW : Gr WA W := Gr.trans hgT hgW
          have hklt : pre.length < ps.length := (List.getElem?_eq_some_iff.1 hk).1
          have hlt : pre.length < on := by omega
          obtain ⟨b, off, ok, ot, ova, ovb, ovt, oct, oats, osl, hox, hoa, hor, c0, c1, c2, c3, c4, c5, c6, -, -⟩ := (RdOps.gr hOA gAW).at_ pre.length hlt
          obtain ⟨b2, off2, q, qv, hqx, hpa, cQ, hqv⟩ := (RdPieces.gr hPA gAW).at_ pre.length hlt
          have hqp : q = p := by rw [hk] at hqx; injection hqx with h; exact h.symm
          rw [hqp] at hqv
          have hpo : p.op = ⟨ok, ot, ⟨ova, ovb, ovt⟩, oct, oats⟩ := by rw [List.getElem?_map, hk] at hox; injection hox
          have hgood := hp.ok.good p (List.mem_of_getElem? hk)
          have hshort := hpv.short
          obtain ⟨T1, y1, f1, e1, hm1, he1, hc1⟩ := op_methV hpv hgood
          obtain ⟨T2, y2, f2, e2, hm2, he2, hc2⟩ := op_methV hqv hgood
          subst e1 e2
          have hat := op_attrs p
          have hkd := op_kindE p
          rw [hpo] at hc1 hc2 hat hkd
          dsimp only at hat hkd
          rw [← hat] at hc1 hc2 hshort
          have HC1 := Lib.hid hc1; have HC2 := Lib.hid hc2; have HPO := Lib.hid (And.intro hpo (And.intro hat hkd)); have HK := Lib.hid (And.intro hk hqx)
          clear hc1 hc2 hpo hat hkd hk hqx hqp hox hgood
          obtain ⟨oa1, oc1, hosl, -⟩ := RdList.slice hor
          subst hosl
          have bI := hBi.cell 0
          have cO := Gr.cell gAW cOA
          have cP := Gr.cell gAW cPA
          have hlti : (pre.length : Int) < on := by omega
          have hltd : decide (on ≤ pre.length) = false := decide_eq_false (by omega)
          gi_wp2
          refine wpIn_region_held (S := fun W' => Gr W W') 31 _ hmx rfl rfl (by repeat (with_reducible first | assumption | exact Gr.refl _ | apply Gr.alloc | apply Gr.drewN | apply Gr.drew | apply Gr.iter | (refine Gr.setCell ?_ (by simp) _) | (refine Gr.trans ?_ (by assumption)))) (fun hHeld => ?_)
          refine' wpHeld_pick (fuel := 30) (v := _) 0 47 [false, false, false, false, false, false, false, false, false, false, false, false, false, false, false, false, false, false, false, false, false, false, false, false, false, false, false, false, false, false, false] [true, false, false, false, false, false, false, false, false, false, false, false, false, false, false, false, false, false, false, false, false, false, false, false, false, false, false, false, false, false, false] rfl rfl rfl (by kernel_rfl) (by kernel_rfl) (by kernel_rfl) (by kernel_rfl) (fun _ _ _ h => h) (by rfl) ?_ (fun _ => rfl) hHeld ?_
          rotate_left
          · (intro w' hSw; have hSw : Gr W w' := hSw; have e1 := Gr.cell hSw bI; have e2 := Gr.cell hSw cO; have e3 := Gr.cell hSw cP; have e4 := Gr.cell hSw cQ; have f0 := Gr.cell hSw c0; have f1 := Gr.cell hSw c1; have f2 := Gr.cell hSw c2; have f3 := Gr.cell hSw c3; have f4 := Gr.cell hSw c4; have f5 := Gr.cell hSw c5; have f6 := Gr.cell hSw c6; go_simp; try with_reducible rfl)
          simp only [Act.put, List.setIfInBounds_toArray, List.set_cons_zero, List.set_cons_succ]
          refine' wpHeld_pick (fuel := 29) (v := _) 1 48 [true, false, false, false, false, false, false, false, false, false, false, false, false, false, false, false, false, false, false, false, false, false, false, false, false, false, false, false, false, false, false] [true, true, false, false, false, false, false, false, false, false, false, false, false, false, false, false, false, false, false, false, false, false, false, false, false, false, false, false, false, false, false] rfl rfl rfl (by kernel_rfl) (by kernel_rfl) (by kernel_rfl) (by kernel_rfl) (fun _ _ _ h => h) (by rfl) ?_ (fun _ => rfl) hHeld ?_
          rotate_left
          · (intro w' hSw; have hSw : Gr W w' := hSw; have e1 := Gr.cell hSw bI; have e2 := Gr.cell hSw cO; have e3 := Gr.cell hSw cP; have e4 := Gr.cell hSw cQ; have f0 := Gr.cell hSw c0; have f1 := Gr.cell hSw c1; have f2 := Gr.cell hSw c2; have f3 := Gr.cell hSw c3; have f4 := Gr.cell hSw c4; have f5 := Gr.cell hSw c5; have f6 := Gr.cell hSw c6; go_simp; try with_reducible rfl)
          simp only [Act.put, List.setIfInBounds_toArray, List.set_cons_zero, List.set_cons_succ]
          refine' wpHeld_pick (fuel := 28) (v := _) 2 49 [true, true, false, false, false, false, false, false, false, false, false, false, false, false, false, false, false, false, false, false, false, false, false, false, false, false, false, false, false, false, false] [true, true, true, false, false, false, false, false, false, false, false, false, false, false, false, false, false, false, false, false, false, false, false, false, false, false, false, false, false, false, false] rfl rfl rfl (by kernel_rfl) (by kernel_rfl) (by kernel_rfl) (by kernel_rfl) (fun _ _ _ h => h) (by rfl) ?_ (fun _ => rfl) hHeld ?_
          rotate_left
          · (intro w' hSw; have hSw : Gr W w' := hSw; have e1 := Gr.cell hSw bI; have e2 := Gr.cell hSw cO; have e3 := Gr.cell hSw cP; have e4 := Gr.cell hSw cQ; have f0 := Gr.cell hSw c0; have f1 := Gr.cell hSw c1; have f2 := Gr.cell hSw c2; have f3 := Gr.cell hSw c3; have f4 := Gr.cell hSw c4; have f5 := Gr.cell hSw c5; have f6 := Gr.cell hSw c6; go_simp; try with_reducible rfl)
          simp only [Act.put, List.setIfInBounds_toArray, List.set_cons_zero, List.set_cons_succ]
          refine' wpHeld_pick (fuel := 27) (v := _) 3 50 [true, true, true, false, false, false, false, false, false, false, false, false, false, false, false, false, false, false, false, false, false, false, false, false, false, false, false, false, false, false, false] [true, true, true, true, false, false, false, false, false, false, false, false, false, false, false, false, false, false, false, false, false, false, false, false, false, false, false, false, false, false, false] rfl rfl rfl (by kernel_rfl) (by kernel_rfl) (by kernel_rfl) (by kernel_rfl) (fun _ _ _ h => h) (by rfl) ?_ (fun _ => rfl) hHeld ?_
          rotate_left
          · (intro w' hSw; have hSw : Gr W w' := hSw; have e1 := Gr.cell hSw bI; have e2 := Gr.cell hSw cO; have e3 := Gr.cell hSw cP; have e4 := Gr.cell hSw cQ; have f0 := Gr.cell hSw c0; have f1 := Gr.cell hSw c1; have f2 := Gr.cell hSw c2; have f3 := Gr.cell hSw c3; have f4 := Gr.cell hSw c4; have f5 := Gr.cell hSw c5; have f6 := Gr.cell hSw c6; go_simp; try with_reducible rfl)
          simp only [Act.put, List.setIfInBounds_toArray, List.set_cons_zero, List.set_cons_succ]
          refine' wpHeld_pick (fuel := 26) (v := _) 4 51 [true, true, true, true, false, false, false, false, false, false, false, false, false, false, false, false, false, false, false, false, false, false, false, false, false, false, false, false, false, false, false] [true, true, true, true, true, false, false, false, false, false, false, false, false, false, false, false, false, false, false, false, false, false, false, false, false, false, false, false, false, false, false] rfl rfl rfl (by kernel_rfl) (by kernel_rfl) (by kernel_rfl) (by kernel_rfl) (fun _ _ _ h => h) (by rfl) ?_ (fun _ => rfl) hHeld ?_
          rotate_left
          · (intro w' hSw; have hSw : Gr W w' := hSw; have e1 := Gr.cell hSw bI; have e2 := Gr.cell hSw cO; have e3 := Gr.cell hSw cP; have e4 := Gr.cell hSw cQ; have f0 := Gr.cell hSw c0; have f1 := Gr.cell hSw c1; have f2 := Gr.cell hSw c2; have f3 := Gr.cell hSw c3; have f4 := Gr.cell hSw c4; have f5 := Gr.cell hSw c5; have f6 := Gr.cell hSw c6; go_simp; try with_reducible rfl)
          simp only [Act.put, List.setIfInBounds_toArray, List.set_cons_zero, List.set_cons_succ]
          refine' wpHeld_pick (fuel := 25) (v := _) 5 52 [true, true, true, true, true, false, false, false, false, false, false, false, false, false, false, false, false, false, false, false, false, false, false, false, false, false, false, false, false, false, false] [true, true, true, true, true, true, false, false, false, false, false, false, false, false, false, false, false, false, false, false, false, false, false, false, false, false, false, false, false, false, false] rfl rfl rfl (by kernel_rfl) (by kernel_rfl) (by kernel_rfl) (by kernel_rfl) (fun _ _ _ h => h) (by rfl) ?_ (fun _ => rfl) hHeld ?_
          rotate_left
          · (intro w' hSw; have hSw : Gr W w' := hSw; have e1 := Gr.cell hSw bI; have e2 := Gr.cell hSw cO; have e3 := Gr.cell hSw cP; have e4 := Gr.cell hSw cQ; have f0 := Gr.cell hSw c0; have f1 := Gr.cell hSw c1; have f2 := Gr.cell hSw c2; have f3 := Gr.cell hSw c3; have f4 := Gr.cell hSw c4; have f5 := Gr.cell hSw c5; have f6 := Gr.cell hSw c6; go_simp; try with_reducible rfl)
          simp only [Act.put, List.setIfInBounds_toArray, List.set_cons_zero, List.set_cons_succ]
          refine' wpHeld_pick (fuel := 24) (v := _) 6 53 [true, true, true, true, true, true, false, false, false, false, false, false, false, false, false, false, false, false, false, false, false, false, false, false, false, false, false, false, false, false, false] [true, true, true, true, true, true, true, false, false, false, false, false, false, false, false, false, false, false, false, false, false, false, false, false, false, false, false, false, false, false, false] rfl rfl rfl (by kernel_rfl) (by kernel_rfl) (by kernel_rfl) (by kernel_rfl) (fun _ _ _ h => h) (by rfl) ?_ (fun _ => rfl) hHeld ?_
          rotate_left
          · (intro w' hSw; have hSw : Gr W w' := hSw; have e1 := Gr.cell hSw bI; have e2 := Gr.cell hSw cO; have e3 := Gr.cell hSw cP; have e4 := Gr.cell hSw cQ; have f0 := Gr.cell hSw c0; have f1 := Gr.cell hSw c1; have f2 := Gr.cell hSw c2; have f3 := Gr.cell hSw c3; have f4 := Gr.cell hSw c4; have f5 := Gr.cell hSw c5; have f6 := Gr.cell hSw c6; go_simp; try with_reducible rfl)
          simp only [Act.put, List.setIfInBounds_toArray, List.set_cons_zero, List.set_cons_succ]
          refine' wpHeld_pick (fuel := 23) (v := _) 7 54 [true, true, true, true, true, true, true, false, false, false, false, false, false, false, false, false, false, false, false, false, false, false, false, false, false, false, false, false, false, false, false] [true, true, true, true, true, true, true, true, false, false, false, false, false, false, false, false, false, false, false, false, false, false, false, false, false, false, false, false, false, false, false] rfl rfl rfl (by kernel_rfl) (by kernel_rfl) (by kernel_rfl) (by kernel_rfl) (fun _ _ _ h => h) (by rfl) ?_ (fun _ => rfl) hHeld ?_
          rotate_left
          · (intro w' hSw; have hSw : Gr W w' := hSw; have e1 := Gr.cell hSw bI; have e2 := Gr.cell hSw cO; have e3 := Gr.cell hSw cP; have e4 := Gr.cell hSw cQ; have f0 := Gr.cell hSw c0; have f1 := Gr.cell hSw c1; have f2 := Gr.cell hSw c2; have f3 := Gr.cell hSw c3; have f4 := Gr.cell hSw c4; have f5 := Gr.cell hSw c5; have f6 := Gr.cell hSw c6; go_simp; try with_reducible rfl)
          simp only [Act.put, List.setIfInBounds_toArray, List.set_cons_zero, List.set_cons_succ]
          refine' wpHeld_pick (fuel := 22) (v := _) 8 55 [true, true, true, true, true, true, true, true, false, false, false, false, false, false, false, false, false, false, false, false, false, false, false, false, false, false, false, false, false, false, false] [true, true, true, true, true, true, true, true, true, false, false, false, false, false, false, false, false, false, false, false, false, false, false, false, false, false, false, false, false, false, false] rfl rfl rfl (by kernel_rfl) (by kernel_rfl) (by kernel_rfl) (by kernel_rfl) (fun _ _ _ h => h) (by rfl) ?_ (fun _ => rfl) hHeld ?_
          rotate_left
          · (intro w' hSw; have hSw : Gr W w' := hSw; have e1 := Gr.cell hSw bI; have e2 := Gr.cell hSw cO; have e3 := Gr.cell hSw cP; have e4 := Gr.cell hSw cQ; have f0 := Gr.cell hSw c0; have f1 := Gr.cell hSw c1; have f2 := Gr.cell hSw c2; have f3 := Gr.cell hSw c3; have f4 := Gr.cell hSw c4; have f5 := Gr.cell hSw c5; have f6 := Gr.cell hSw c6; go_simp; try with_reducible rfl)
          simp only [Act.put, List.setIfInBounds_toArray, List.set_cons_zero, List.set_cons_succ]
          refine' wpHeld_pick (fuel := 21) (v := _) 9 56 [true, true, true, true, true, true, true, true, true, false, false, false, false, false, false, false, false, false, false, false, false, false, false, false, false, false, false, false, false, false, false] [true, true, true, true, true, true, true, true, true, true, false, false, false, false, false, false, false, false, false, false, false, false, false, false, false, false, false, false, false, false, false] rfl rfl rfl (by kernel_rfl) (by kernel_rfl) (by kernel_rfl) (by kernel_rfl) (fun _ _ _ h => h) (by rfl) ?_ (fun _ => rfl) hHeld ?_
          rotate_left
          · (intro w' hSw; have hSw : Gr W w' := hSw; have e1 := Gr.cell hSw bI; have e2 := Gr.cell hSw cO; have e3 := Gr.cell hSw cP; have e4 := Gr.cell hSw cQ; have f0 := Gr.cell hSw c0; have f1 := Gr.cell hSw c1; have f2 := Gr.cell hSw c2; have f3 := Gr.cell hSw c3; have f4 := Gr.cell hSw c4; have f5 := Gr.cell hSw c5; have f6 := Gr.cell hSw c6; go_simp; try with_reducible rfl)
          simp only [Act.put, List.setIfInBounds_toArray, List.set_cons_zero, List.set_cons_succ]
          refine' wpHeld_pick (fuel := 20) (v := _) 11 58 [true, true, true, true, true, true, true, true, true, true, false, false, false, false, false, false, false, false, false, false, false, false, false, false, false, false, false, false, false, false, false] [true, true, true, true, true, true, true, true, true, true, false, true, false, false, false, false, false, false, false, false, false, false, false, false, false, false, false, false, false, false, false] rfl rfl rfl (by kernel_rfl) (by kernel_rfl) (by kernel_rfl) (by kernel_rfl) (fun _ _ _ h => h) (by rfl) ?_ (fun _ => rfl) hHeld ?_
          rotate_left
          · (intro w' hSw; have hSw : Gr W w' := hSw; have e1 := Gr.cell hSw bI; have e2 := Gr.cell hSw cO; have e3 := Gr.cell hSw cP; have e4 := Gr.cell hSw cQ; have f0 := Gr.cell hSw c0; have f1 := Gr.cell hSw c1; have f2 := Gr.cell hSw c2; have f3 := Gr.cell hSw c3; have f4 := Gr.cell hSw c4; have f5 := Gr.cell hSw c5; have f6 := Gr.cell hSw c6; go_simp; try with_reducible rfl)
          simp only [Act.put, List.setIfInBounds_toArray, List.set_cons_zero, List.set_cons_succ]
          refine' wpHeld_pick (fuel := 19) (v := _) 12 59 [true, true, true, true, true, true, true, true, true, true, false, true, false, false, false, false, false, false, false, false, false, false, false, false, false, false, false, false, false, false, false] [true, true, true, true, true, true, true, true, true, true, false, true, true, false, false, false, false, false, false, false, false, false, false, false, false, false, false, false, false, false, false] rfl rfl rfl (by kernel_rfl) (by kernel_rfl) (by kernel_rfl) (by kernel_rfl) (fun _ _ _ h => h) (by rfl) ?_ (fun _ => rfl) hHeld ?_
          rotate_left
          · (intro w' hSw; have hSw : Gr W w' := hSw; have e1 := Gr.cell hSw bI; have e2 := Gr.cell hSw cO; have e3 := Gr.cell hSw cP; have e4 := Gr.cell hSw cQ; have f0 := Gr.cell hSw c0; have f1 := Gr.cell hSw c1; have f2 := Gr.cell hSw c2; have f3 := Gr.cell hSw c3; have f4 := Gr.cell hSw c4; have f5 := Gr.cell hSw c5; have f6 := Gr.cell hSw c6; go_simp; try with_reducible rfl)
          simp only [Act.put, List.setIfInBounds_toArray, List.set_cons_zero, List.set_cons_succ]
          refine' wpHeld_pick (fuel := 18) (v := _) 13 60 [true, true, true, true, true, true, true, true, true, true, false, true, true, false, false, false, false, false, false, false, false, false, false, false, false, false, false, false, false, false, false] [true, true, true, true, true, true, true, true, true, true, false, true, true, true, false, false, false, false, false, false, false, false, false, false, false, false, false, false, false, false, false] rfl rfl rfl (by kernel_rfl) (by kernel_rfl) (by kernel_rfl) (by kernel_rfl) (fun _ _ _ h => h) (by rfl) ?_ (fun _ => rfl) hHeld ?_
          rotate_left
          · (intro w' hSw; have hSw : Gr W w' := hSw; have e1 := Gr.cell hSw bI; have e2 := Gr.cell hSw cO; have e3 := Gr.cell hSw cP; have e4 := Gr.cell hSw cQ; have f0 := Gr.cell hSw c0; have f1 := Gr.cell hSw c1; have f2 := Gr.cell hSw c2; have f3 := Gr.cell hSw c3; have f4 := Gr.cell hSw c4; have f5 := Gr.cell hSw c5; have f6 := Gr.cell hSw c6; go_simp; try with_reducible rfl)
          simp only [Act.put, List.setIfInBounds_toArray, List.set_cons_zero, List.set_cons_succ]
          refine' wpHeld_pick (fuel := 17) (v := _) 14 61 [true, true, true, true, true, true, true, true, true, true, false, true, true, true, false, false, false, false, false, false, false, false, false, false, false, false, false, false, false, false, false] [true, true, true, true, true, true, true, true, true, true, false, true, true, true, true, false, false, false, false, false, false, false, false, false, false, false, false, false, false, false, false] rfl rfl rfl (by kernel_rfl) (by kernel_rfl) (by kernel_rfl) (by kernel_rfl) (fun _ _ _ h => h) (by rfl) ?_ (fun _ => rfl) hHeld ?_
          rotate_left
          · (intro w' hSw; have hSw : Gr W w' := hSw; have e1 := Gr.cell hSw bI; have e2 := Gr.cell hSw cO; have e3 := Gr.cell hSw cP; have e4 := Gr.cell hSw cQ; have f0 := Gr.cell hSw c0; have f1 := Gr.cell hSw c1; have f2 := Gr.cell hSw c2; have f3 := Gr.cell hSw c3; have f4 := Gr.cell hSw c4; have f5 := Gr.cell hSw c5; have f6 := Gr.cell hSw c6; go_simp; try with_reducible rfl)
          simp only [Act.put, List.setIfInBounds_toArray, List.set_cons_zero, List.set_cons_succ]
          refine wpHeld_step (fuel := 16) 10 [true, true, true, true, true, true, true, true, true, true, false, true, true, true, true, false, false, false, false, false, false, false, false, false, false, false, false, false, false, false, false] [true, true, true, true, true, true, true, true, true, true, true, true, true, true, true, false, false, false, false, false, false, false, false, false, false, false, false, false, false, false, false] (by kernel_rfl) rfl rfl (by rfl) (fun K hK => ?_)
          go_simp
          (with_reducible refine And.intro ?_ ?_); exact trivial
          refine (CallsIn.inRound L0 (callsIn_wide.2 (HC1.out _ (PieceV.gr hpv (by repeat (with_reducible first | assumption | exact Gr.refl _ | apply Gr.alloc | apply Gr.drewN | apply Gr.drew | apply Gr.iter | (refine Gr.setCell ?_ (by simp) _) | (refine Gr.trans ?_ (by assumption)))))))).mono ?_
          rintro e x1 ⟨sv1, rfl, hs1, hgx1⟩
          obtain ⟨sax1, snx1, scx1, rfl, -⟩ := hs1.sl
          dsimp only [opV]
          clear hHeld
          refine hK.out _ _ (by repeat (with_reducible first | assumption | exact Gr.refl _ | apply Gr.alloc | apply Gr.drewN | apply Gr.drew | apply Gr.iter | (refine Gr.setCell ?_ (by simp) _) | (refine Gr.trans ?_ (by assumption)))) (fun hHeld => ?_)
          clear hK K
          refine wpHeld_step (fuel := 15) 15 [true, true, true, true, true, true, true, true, true, true, true, true, true, true, true, false, false, false, false, false, false, false, false, false, false, false, false, false, false, false, false] [true, true, true, true, true, true, true, true, true, true, true, true, true, true, true, true, false, false, false, false, false, false, false, false, false, false, false, false, false, false, false] (by kernel_rfl) rfl rfl (by rfl) (fun K hK => ?_)
          go_simp
          (with_reducible refine And.intro ?_ ?_); exact trivial
          refine (CallsIn.inRound L0 (callsIn_wide.2 (same04_any _ _ _ _ _ _ _ oats _ _ _ _ _ _ _ oats _ (OwnAL.rd hs1 hshort).rd (RdAttrs.gr hor (by repeat (with_reducible first | assumption | exact Gr.refl _ | apply Gr.alloc | apply Gr.drewN | apply Gr.drew | apply Gr.iter | (refine Gr.setCell ?_ (by simp) _) | (refine Gr.trans ?_ (by assumption)))))))).mono ?_
          rw [decide_eq_true (rfl : (⟨ok, ot, ⟨ova, ovb, ovt⟩, oct, oats⟩ : Op) = ⟨ok, ot, ⟨ova, ovb, ovt⟩, oct, oats⟩)]
          rintro e x2 ⟨rfl, hgx2⟩
          dsimp only
          clear hHeld
          refine hK.out _ _ (by repeat (with_reducible first | assumption | exact Gr.refl _ | apply Gr.alloc | apply Gr.drewN | apply Gr.drew | apply Gr.iter | (refine Gr.setCell ?_ (by simp) _) | (refine Gr.trans ?_ (by assumption)))) (fun hHeld => ?_)
          clear hK K
          refine' wpHeld_pick (fuel := 14) (v := _) 16 63 [true, true, true, true, true, true, true, true, true, true, true, true, true, true, true, true, false, false, false, false, false, false, false, false, false, false, false, false, false, false, false] [true, true, true, true, true, true, true, true, true, true, true, true, true, true, true, true, true, false, false, false, false, false, false, false, false, false, false, false, false, false, false] rfl rfl rfl (by kernel_rfl) (by kernel_rfl) (by kernel_rfl) (by kernel_rfl) (fun _ _ _ h => h) (by rfl) ?_ (fun _ => rfl) hHeld ?_
          rotate_left
          · (intro w' hSw; have hSw : Gr W w' := hSw; have e1 := Gr.cell hSw bI; have e2 := Gr.cell hSw cO; have e3 := Gr.cell hSw cP; have e4 := Gr.cell hSw cQ; have f0 := Gr.cell hSw c0; have f1 := Gr.cell hSw c1; have f2 := Gr.cell hSw c2; have f3 := Gr.cell hSw c3; have f4 := Gr.cell hSw c4; have f5 := Gr.cell hSw c5; have f6 := Gr.cell hSw c6; go_simp; try with_reducible rfl)
          simp only [Act.put, List.setIfInBounds_toArray, List.set_cons_zero, List.set_cons_succ]
          refine' wpHeld_pick (fuel := 13) (v := _) 17 64 [true, true, true, true, true, true, true, true, true, true, true, true, true, true, true, true, true, false, false, false, false, false, false, false, false, false, false, false, false, false, false] [true, true, true, true, true, true, true, true, true, true, true, true, true, true, true, true, true, true, false, false, false, false, false, false, false, false, false, false, false, false, false] rfl rfl rfl (by kernel_rfl) (by kernel_rfl) (by kernel_rfl) (by kernel_rfl) (fun _ _ _ h => h) (by rfl) ?_ (fun _ => rfl) hHeld ?_
          rotate_left
          · (intro w' hSw; have hSw : Gr W w' := hSw; have e1 := Gr.cell hSw bI; have e2 := Gr.cell hSw cO; have e3 := Gr.cell hSw cP; have e4 := Gr.cell hSw cQ; have f0 := Gr.cell hSw c0; have f1 := Gr.cell hSw c1; have f2 := Gr.cell hSw c2; have f3 := Gr.cell hSw c3; have f4 := Gr.cell hSw c4; have f5 := Gr.cell hSw c5; have f6 := Gr.cell hSw c6; go_simp; try with_reducible rfl)
          simp only [Act.put, List.setIfInBounds_toArray, List.set_cons_zero, List.set_cons_succ]
          refine' wpHeld_pick (fuel := 12) (v := _) 18 65 [true, true, true, true, true, true, true, true, true, true, true, true, true, true, true, true, true, true, false, false, false, false, false, false, false, false, false, false, false, false, false] [true, true, true, true, true, true, true, true, true, true, true, true, true, true, true, true, true, true, true, false, false, false, false, false, false, false, false, false, false, false, false] rfl rfl rfl (by kernel_rfl) (by kernel_rfl) (by kernel_rfl) (by kernel_rfl) (fun _ _ _ h => h) (by rfl) ?_ (fun _ => rfl) hHeld ?_
          rotate_left
          · (intro w' hSw; have hSw : Gr W w' := hSw; have e1 := Gr.cell hSw bI; have e2 := Gr.cell hSw cO; have e3 := Gr.cell hSw cP; have e4 := Gr.cell hSw cQ; have f0 := Gr.cell hSw c0; have f1 := Gr.cell hSw c1; have f2 := Gr.cell hSw c2; have f3 := Gr.cell hSw c3; have f4 := Gr.cell hSw c4; have f5 := Gr.cell hSw c5; have f6 := Gr.cell hSw c6; go_simp; try with_reducible rfl)
          simp only [Act.put, List.setIfInBounds_toArray, List.set_cons_zero, List.set_cons_succ]
          refine' wpHeld_pick (fuel := 11) (v := _) 19 66 [true, true, true, true, true, true, true, true, true, true, true, true, true, true, true, true, true, true, true, false, false, false, false, false, false, false, false, false, false, false, false] [true, true, true, true, true, true, true, true, true, true, true, true, true, true, true, true, true, true, true, true, false, false, false, false, false, false, false, false, false, false, false] rfl rfl rfl (by kernel_rfl) (by kernel_rfl) (by kernel_rfl) (by kernel_rfl) (fun _ _ _ h => h) (by rfl) ?_ (fun _ => rfl) hHeld ?_
          rotate_left
          · (intro w' hSw; have hSw : Gr W w' := hSw; have e1 := Gr.cell hSw bI; have e2 := Gr.cell hSw cO; have e3 := Gr.cell hSw cP; have e4 := Gr.cell hSw cQ; have f0 := Gr.cell hSw c0; have f1 := Gr.cell hSw c1; have f2 := Gr.cell hSw c2; have f3 := Gr.cell hSw c3; have f4 := Gr.cell hSw c4; have f5 := Gr.cell hSw c5; have f6 := Gr.cell hSw c6; go_simp; try with_reducible rfl)
          simp only [Act.put, List.setIfInBounds_toArray, List.set_cons_zero, List.set_cons_succ]
          refine' wpHeld_pick (fuel := 10) (v := _) 20 67 [true, true, true, true, true, true, true, true, true, true, true, true, true, true, true, true, true, true, true, true, false, false, false, false, false, false, false, false, false, false, false] [true, true, true, true, true, true, true, true, true, true, true, true, true, true, true, true, true, true, true, true, true, false, false, false, false, false, false, false, false, false, false] rfl rfl rfl (by kernel_rfl) (by kernel_rfl) (by kernel_rfl) (by kernel_rfl) (fun _ _ _ h => h) (by rfl) ?_ (fun _ => rfl) hHeld ?_
          rotate_left
          · (intro w' hSw; have hSw : Gr W w' := hSw; have e1 := Gr.cell hSw bI; have e2 := Gr.cell hSw cO; have e3 := Gr.cell hSw cP; have e4 := Gr.cell hSw cQ; have f0 := Gr.cell hSw c0; have f1 := Gr.cell hSw c1; have f2 := Gr.cell hSw c2; have f3 := Gr.cell hSw c3; have f4 := Gr.cell hSw c4; have f5 := Gr.cell hSw c5; have f6 := Gr.cell hSw c6; go_simp; try with_reducible rfl)
          simp only [Act.put, List.setIfInBounds_toArray, List.set_cons_zero, List.set_cons_succ]
          refine' wpHeld_pick (fuel := 9) (v := _) 21 68 [true, true, true, true, true, true, true, true, true, true, true, true, true, true, true, true, true, true, true, true, true, false, false, false, false, false, false, false, false, false, false] [true, true, true, true, true, true, true, true, true, true, true, true, true, true, true, true, true, true, true, true, true, true, false, false, false, false, false, false, false, false, false] rfl rfl rfl (by kernel_rfl) (by kernel_rfl) (by kernel_rfl) (by kernel_rfl) (fun _ _ _ h => h) (by rfl) ?_ (fun _ => rfl) hHeld ?_
          rotate_left
          · (intro w' hSw; have hSw : Gr W w' := hSw; have e1 := Gr.cell hSw bI; have e2 := Gr.cell hSw cO; have e3 := Gr.cell hSw cP; have e4 := Gr.cell hSw cQ; have f0 := Gr.cell hSw c0; have f1 := Gr.cell hSw c1; have f2 := Gr.cell hSw c2; have f3 := Gr.cell hSw c3; have f4 := Gr.cell hSw c4; have f5 := Gr.cell hSw c5; have f6 := Gr.cell hSw c6; go_simp; try with_reducible rfl)
          simp only [Act.put, List.setIfInBounds_toArray, List.set_cons_zero, List.set_cons_succ]
          refine' wpHeld_pick (fuel := 8) (v := _) 22 69 [true, true, true, true, true, true, true, true, true, true, true, true, true, true, true, true, true, true, true, true, true, true, false, false, false, false, false, false, false, false, false] [true, true, true, true, true, true, true, true, true, true, true, true, true, true, true, true, true, true, true, true, true, true, true, false, false, false, false, false, false, false, false] rfl rfl rfl (by kernel_rfl) (by kernel_rfl) (by kernel_rfl) (by kernel_rfl) (fun _ _ _ h => h) (by rfl) ?_ (fun _ => rfl) hHeld ?_
          rotate_left
          · (intro w' hSw; have hSw : Gr W w' := hSw; have e1 := Gr.cell hSw bI; have e2 := Gr.cell hSw cO; have e3 := Gr.cell hSw cP; have e4 := Gr.cell hSw cQ; have f0 := Gr.cell hSw c0; have f1 := Gr.cell hSw c1; have f2 := Gr.cell hSw c2; have f3 := Gr.cell hSw c3; have f4 := Gr.cell hSw c4; have f5 := Gr.cell hSw c5; have f6 := Gr.cell hSw c6; go_simp; try with_reducible rfl)
          simp only [Act.put, List.setIfInBounds_toArray, List.set_cons_zero, List.set_cons_succ]
          refine' wpHeld_pick (fuel := 7) (v := _) 24 71 [true, true, true, true, true, true, true, true, true, true, true, true, true, true, true, true, true, true, true, true, true, true, true, false, false, false, false, false, false, false, false] [true, true, true, true, true, true, true, true, true, true, true, true, true, true, true, true, true, true, true, true, true, true, true, false, true, false, false, false, false, false, false] rfl rfl rfl (by kernel_rfl) (by kernel_rfl) (by kernel_rfl) (by kernel_rfl) (fun _ _ _ h => h) (by rfl) ?_ (fun _ => rfl) hHeld ?_
          rotate_left
          · (intro w' hSw; have hSw : Gr W w' := hSw; have e1 := Gr.cell hSw bI; have e2 := Gr.cell hSw cO; have e3 := Gr.cell hSw cP; have e4 := Gr.cell hSw cQ; have f0 := Gr.cell hSw c0; have f1 := Gr.cell hSw c1; have f2 := Gr.cell hSw c2; have f3 := Gr.cell hSw c3; have f4 := Gr.cell hSw c4; have f5 := Gr.cell hSw c5; have f6 := Gr.cell hSw c6; go_simp; try with_reducible rfl)
          simp only [Act.put, List.setIfInBounds_toArray, List.set_cons_zero, List.set_cons_succ]
          refine' wpHeld_pick (fuel := 6) (v := _) 25 72 [true, true, true, true, true, true, true, true, true, true, true, true, true, true, true, true, true, true, true, true, true, true, true, false, true, false, false, false, false, false, false] [true, true, true, true, true, true, true, true, true, true, true, true, true, true, true, true, true, true, true, true, true, true, true, false, true, true, false, false, false, false, false] rfl rfl rfl (by kernel_rfl) (by kernel_rfl) (by kernel_rfl) (by kernel_rfl) (fun _ _ _ h => h) (by rfl) ?_ (fun _ => rfl) hHeld ?_
          rotate_left
          · (intro w' hSw; have hSw : Gr W w' := hSw; have e1 := Gr.cell hSw bI; have e2 := Gr.cell hSw cO; have e3 := Gr.cell hSw cP; have e4 := Gr.cell hSw cQ; have f0 := Gr.cell hSw c0; have f1 := Gr.cell hSw c1; have f2 := Gr.cell hSw c2; have f3 := Gr.cell hSw c3; have f4 := Gr.cell hSw c4; have f5 := Gr.cell hSw c5; have f6 := Gr.cell hSw c6; go_simp; try with_reducible rfl)
          simp only [Act.put, List.setIfInBounds_toArray, List.set_cons_zero, List.set_cons_succ]
          refine' wpHeld_pick (fuel := 5) (v := _) 26 73 [true, true, true, true, true, true, true, true, true, true, true, true, true, true, true, true, true, true, true, true, true, true, true, false, true, true, false, false, false, false, false] [true, true, true, true, true, true, true, true, true, true, true, true, true, true, true, true, true, true, true, true, true, true, true, false, true, true, true, false, false, false, false] rfl rfl rfl (by kernel_rfl) (by kernel_rfl) (by kernel_rfl) (by kernel_rfl) (fun _ _ _ h => h) (by rfl) ?_ (fun _ => rfl) hHeld ?_
          rotate_left
          · (intro w' hSw; have hSw : Gr W w' := hSw; have e1 := Gr.cell hSw bI; have e2 := Gr.cell hSw cO; have e3 := Gr.cell hSw cP; have e4 := Gr.cell hSw cQ; have f0 := Gr.cell hSw c0; have f1 := Gr.cell hSw c1; have f2 := Gr.cell hSw c2; have f3 := Gr.cell hSw c3; have f4 := Gr.cell hSw c4; have f5 := Gr.cell hSw c5; have f6 := Gr.cell hSw c6; go_simp; try with_reducible rfl)
          simp only [Act.put, List.setIfInBounds_toArray, List.set_cons_zero, List.set_cons_succ]
          refine' wpHeld_pick (fuel := 4) (v := _) 27 74 [true, true, true, true, true, true, true, true, true, true, true, true, true, true, true, true, true, true, true, true, true, true, true, false, true, true, true, false, false, false, false] [true, true, true, true, true, true, true, true, true, true, true, true, true, true, true, true, true, true, true, true, true, true, true, false, true, true, true, true, false, false, false] rfl rfl rfl (by kernel_rfl) (by kernel_rfl) (by kernel_rfl) (by kernel_rfl) (fun _ _ _ h => h) (by rfl) ?_ (fun _ => rfl) hHeld ?_
          rotate_left
          · (intro w' hSw; have hSw : Gr W w' := hSw; have e1 := Gr.cell hSw bI; have e2 := Gr.cell hSw cO; have e3 := Gr.cell hSw cP; have e4 := Gr.cell hSw cQ; have f0 := Gr.cell hSw c0; have f1 := Gr.cell hSw c1; have f2 := Gr.cell hSw c2; have f3 := Gr.cell hSw c3; have f4 := Gr.cell hSw c4; have f5 := Gr.cell hSw c5; have f6 := Gr.cell hSw c6; go_simp; try with_reducible rfl)
          simp only [Act.put, List.setIfInBounds_toArray, List.set_cons_zero, List.set_cons_succ]
          refine wpHeld_step (fuel := 3) 23 [true, true, true, true, true, true, true, true, true, true, true, true, true, true, true, true, true, true, true, true, true, true, true, false, true, true, true, true, false, false, false] [true, true, true, true, true, true, true, true, true, true, true, true, true, true, true, true, true, true, true, true, true, true, true, true, true, true, true, true, false, false, false] (by kernel_rfl) rfl rfl (by rfl) (fun K hK => ?_)
          go_simp
          (with_reducible refine And.intro ?_ ?_); exact trivial
          refine (CallsIn.inRound L0 (callsIn_wide.2 (HC2.out _ (PieceV.gr hqv (by repeat (with_reducible first | assumption | exact Gr.refl _ | apply Gr.alloc | apply Gr.drewN | apply Gr.drew | apply Gr.iter | (refine Gr.setCell ?_ (by simp) _) | (refine Gr.trans ?_ (by assumption)))))))).mono ?_
          rintro e x3 ⟨sv3, rfl, hs3, hgx3⟩
          obtain ⟨sax3, snx3, scx3, rfl, -⟩ := hs3.sl
          dsimp only [opV]
          clear hHeld
          refine hK.out _ _ (by repeat (with_reducible first | assumption | exact Gr.refl _ | apply Gr.alloc | apply Gr.drewN | apply Gr.drew | apply Gr.iter | (refine Gr.setCell ?_ (by simp) _) | (refine Gr.trans ?_ (by assumption)))) (fun hHeld => ?_)
          clear hK K
          refine wpHeld_step (fuel := 2) 28 [true, true, true, true, true, true, true, true, true, true, true, true, true, true, true, true, true, true, true, true, true, true, true, true, true, true, true, true, false, false, false] [true, true, true, true, true, true, true, true, true, true, true, true, true, true, true, true, true, true, true, true, true, true, true, true, true, true, true, true, true, false, false] (by kernel_rfl) rfl rfl (by rfl) (fun K hK => ?_)
          go_simp
          (with_reducible refine And.intro ?_ ?_); exact trivial
          refine (CallsIn.inRound L0 (callsIn_wide.2 (same04_any _ _ _ _ _ _ _ oats _ _ _ _ _ _ _ oats _ (OwnAL.rd hs3 hshort).rd (RdAttrs.gr hor (by repeat (with_reducible first | assumption | exact Gr.refl _ | apply Gr.alloc | apply Gr.drewN | apply Gr.drew | apply Gr.iter | (refine Gr.setCell ?_ (by simp) _) | (refine Gr.trans ?_ (by assumption)))))))).mono ?_
          rw [decide_eq_true (rfl : (⟨ok, ot, ⟨ova, ovb, ovt⟩, oct, oats⟩ : Op) = ⟨ok, ot, ⟨ova, ovb, ovt⟩, oct, oats⟩)]
          rintro e x4 ⟨rfl, hgx4⟩
          dsimp only
          clear hHeld
          refine hK.out _ _ (by repeat (with_reducible first | assumption | exact Gr.refl _ | apply Gr.alloc | apply Gr.drewN | apply Gr.drew | apply Gr.iter | (refine Gr.setCell ?_ (by simp) _) | (refine Gr.trans ?_ (by assumption)))) (fun hHeld => ?_)
          clear hK K
          refine' wpHeld_pick (fuel := 1) (v := _) 29 76 [true, true, true, true, true, true, true, true, true, true, true, true, true, true, true, true, true, true, true, true, true, true, true, true, true, true, true, true, true, false, false] [true, true, true, true, true, true, true, true, true, true, true, true, true, true, true, true, true, true, true, true, true, true, true, true, true, true, true, true, true, true, false] rfl rfl rfl (by kernel_rfl) (by kernel_rfl) (by kernel_rfl) (by kernel_rfl) (fun _ _ _ h => h) (by rfl) ?_ (fun _ => rfl) hHeld ?_
          rotate_left
          · (intro w' hSw; have hSw : Gr W w' := hSw; have e1 := Gr.cell hSw bI; have e2 := Gr.cell hSw cO; have e3 := Gr.cell hSw cP; have e4 := Gr.cell hSw cQ; have f0 := Gr.cell hSw c0; have f1 := Gr.cell hSw c1; have f2 := Gr.cell hSw c2; have f3 := Gr.cell hSw c3; have f4 := Gr.cell hSw c4; have f5 := Gr.cell hSw c5; have f6 := Gr.cell hSw c6; go_simp; try with_reducible rfl)
          simp only [Act.put, List.setIfInBounds_toArray, List.set_cons_zero, List.set_cons_succ]
          refine' wpHeld_pick (fuel := 0) (v := _) 30 77 [true, true, true, true, true, true, true, true, true, true, true, true, true, true, true, true, true, true, true, true, true, true, true, true, true, true, true, true, true, true, false] [true, true, true, true, true, true, true, true, true, true, true, true, true, true, true, true, true, true, true, true, true, true, true, true, true, true, true, true, true, true, true] rfl rfl rfl (by kernel_rfl) (by kernel_rfl) (by kernel_rfl) (by kernel_rfl) (fun _ _ _ h => h) (by rfl) ?_ (fun _ => rfl) hHeld ?_
          rotate_left
          · (intro w' hSw; have hSw : Gr W w' := hSw; have e1 := Gr.cell hSw bI; have e2 := Gr.cell hSw cO; have e3 := Gr.cell hSw cP; have e4 := Gr.cell hSw cQ; have f0 := Gr.cell hSw c0; have f1 := Gr.cell hSw c1; have f2 := Gr.cell hSw c2; have f3 := Gr.cell hSw c3; have f4 := Gr.cell hSw c4; have f5 := Gr.cell hSw c5; have f6 := Gr.cell hSw c6; go_simp; try with_reducible rfl)
          simp only [Act.put, List.setIfInBounds_toArray, List.set_cons_zero, List.set_cons_succ]
          refine wpHeld_done (by kernel_rfl) ?_ _
          clear hHeld
          have hpl : pre.length ≤ 12001 := by have := LP.out.1; omega
          gi_wp2_with (first
            | ((with_reducible refine And.intro ?_ ?_); exact trivial; gi_at_call 43; refine (CallsIn.inRound L0 (callsIn_wide.2 (marked_any p (.iface T1 y1) _ (PieceV.gr hpv (by repeat (with_reducible first | assumption | exact Gr.refl _ | apply Gr.alloc | apply Gr.drewN | apply Gr.drew | apply Gr.iter | (refine Gr.setCell ?_ (by simp) _) | (refine Gr.trans ?_ (by assumption)))))))).mono ?_; rw [← HPO.out.2.2]; rintro e x5 ⟨sl5, rfl, hsl5, ho5, hg5⟩; obtain ⟨a5, n5, c5', rfl, -, -, hn5⟩ := ho5.1.sl; have HSL := Lib.hid hsl5; clear hsl5; have gW5 : Gr W x5 := (by repeat (with_reducible first | assumption | exact Gr.refl _ | apply Gr.alloc | apply Gr.drewN | apply Gr.drew | apply Gr.iter | (refine Gr.setCell ?_ (by simp) _) | (refine Gr.trans ?_ (by assumption)))); have q1 := Gr.cell gW5 bI; have q2 := Gr.cell gW5 cO; have q3 := Gr.cell gW5 c0)
            | ((with_reducible refine And.intro ?_ ?_); (first | exact trivial | (intro f hf; cases hf)); go_at_K))
          have hn5b : n5 ≤ 1099511627776 := by have := hn5.out; have := HPO.out.2.1; rw [this] at hshort; omega
          have hBi5 := hBi.gr gW5
          have fz5 := hBi5.frozen 0
          have zi5 := hBi5.lt
          have hbk5 : ∀ b, (Value.slice a5 n5 c5').ownBlock = some b → ablk (.iface T1 y1) = some b := fun b hb => markV_blk (hpv.gr gW5) b (by rw [← HSL.out]; exact hb)
          by_cases hn0 : n5 = 0
          · subst hn0
            refine wpIn_loop_rounds 1 ?_
            rw [roundsIn_succ]
            gi_wp2
            have hTA : Tn (weA (.iface T1 y1)) x5 x5 := Tn.refl _ _
            have hBie := hBi5.tn hTA (fun h => absurd (Option.some.inj h.1) (by decide))
            have hTf : Tn (weW gi2 (.iface T1 y1)) W (x5.setCell ⟨gi2, 0, none⟩ (.int .i64 (pre.length + 1))) := ((Tn.of_gr gW5).trans (hTA.mono fun b t h => .inr h)).trans (Tn.set hBie (.inl ⟨rfl, rfl⟩) 0 _)
            refine ⟨KeepsOthers.of_tn hTf (fun b h => by rcases h with ⟨-, h⟩ | ⟨h, -⟩ <;> cases h), hTf.mono fun b t h => h.each, ?_, Gr.tn hgW hTf fun b t h => ?_⟩
            · rw [List.length_append]
              have h := hBie.set 0 (.int .i64 ((pre.length + 1 : Nat) : Int))
              exact h
            · rcases h with ⟨rfl, -⟩ | ⟨-, h⟩
              · omega
              · exact Nat.le_trans hTz2 (hpb _ h)
          · obtain ⟨gA, cs5, rfl, hBA, hcs⟩ := OwnA.blk ho5 (by omega)
            have hgA : ablk (.iface T1 y1) = some gA := hbk5 gA rfl
            gi_loopw [92] (fun i wr => ∃ (k : Nat) (cs : Array Value), k ≤ n5 ∧ i = .int .i64 k ∧ Blk wr gA 83 cs ∧ n5 * 4 ≤ cs.size ∧ Tn (weA (.iface T1 y1)) x5 wr) (fun i _ => n5 - (intOf i).toNat)
            case atStart => exact ⟨0, cs5, Nat.zero_le _, rfl, hBA, hcs, Tn.refl _ _⟩
            case round =>
              obtain ⟨k, cs, hkn, rfl, hBk, hck, hT⟩ := hrel
              by_cases hkl : k < n5
              · have hkl' : (k : Int) < n5 := by omega
                obtain ⟨u0, hu0⟩ : ∃ u, cs[k * 4]? = some u := ⟨_, Array.getElem?_eq_getElem (by omega)⟩
                obtain ⟨u1, hu1⟩ : ∃ u, cs[k * 4 + 1]? = some u := ⟨_, Array.getElem?_eq_getElem (by omega)⟩
                obtain ⟨u2, hu2⟩ : ∃ u, cs[k * 4 + 2]? = some u := ⟨_, Array.getElem?_eq_getElem (by omega)⟩
                obtain ⟨u3, hu3⟩ : ∃ u, cs[k * 4 + 3]? = some u := ⟨_, Array.getElem?_eq_getElem (by omega)⟩
                have d0 := (hBk.cell (k * 4)).trans hu0
                have d1 := (hBk.cell (k * 4 + 1)).trans hu1
                have d2 := (hBk.cell (k * 4 + 2)).trans hu2
                have d3 := (hBk.cell (k * 4 + 3)).trans hu3
                have fA := hBk.frozen
                have zA := hBk.lt
                clear hu0 hu1 hu2 hu3
                gi_wp2
                go_roundw
                case rel => exact ⟨k + 1, _, by omega, by go_num, (((hBk.set (k * 4) _).set (k * 4 + 1) _).set (k * 4 + 2) _).set (k * 4 + 3) _, by simpa using hck, (((hT.trans (Tn.set hBk ⟨rfl, hgA⟩ _ _)).trans (Tn.set (hBk.set _ _) ⟨rfl, hgA⟩ _ _)).trans (Tn.set ((hBk.set _ _).set _ _) ⟨rfl, hgA⟩ _ _)).trans (Tn.set (((hBk.set _ _).set _ _).set _ _) ⟨rfl, hgA⟩ _ _)⟩
                case measure => simp [intOf]; omega
              · obtain rfl : k = n5 := by omega
                have hBiw := hBi5.tn hT (fun h => absurd (Option.some.inj h.1) (by decide))
                have cI := hBiw.cell 0
                have fI := hBiw.frozen 0
                have zI := hBiw.lt
                gi_wp2
                have hTA : Tn (weA (.iface T1 y1)) x5 wr := hT
                have hBie := hBi5.tn hTA (fun h => absurd (Option.some.inj h.1) (by decide))
                have hTf : Tn (weW gi2 (.iface T1 y1)) W (wr.setCell ⟨gi2, 0, none⟩ (.int .i64 (pre.length + 1))) := ((Tn.of_gr gW5).trans (hTA.mono fun b t h => .inr h)).trans (Tn.set hBie (.inl ⟨rfl, rfl⟩) 0 _)
                refine ⟨KeepsOthers.of_tn hTf (fun b h => by rcases h with ⟨-, h⟩ | ⟨h, -⟩ <;> cases h), hTf.mono fun b t h => h.each, ?_, Gr.tn hgW hTf fun b t h => ?_⟩
                · rw [List.length_append]
                  have h := hBie.set 0 (.int .i64 ((pre.length + 1 : Nat) : Int))
                  exact h
                · rcases h with ⟨rfl, -⟩ | ⟨-, h⟩
                  · omega
                  · exact Nat.le_trans hTz2 (hpb _ h)
        case stop =>
          rintro D c pre W _ _ h _
          exact h.elim
        case done =>
          rintro D2 ys WD2 hD2 hys ⟨hBi, hgW⟩ hK2
          have hyl : ys.length = on := by rw [show ys.length = ps.length from by rw [← hys, List.length_map], hpn]
          rw [hyl] at hBi
          have gAD2 : Gr WA WD2 := Gr.trans hgT hgW
          have gDD2 := hgW
          have bI := hBi.cell 0
          have cO := Gr.cell gAD2 cOA
          gi_wp2
          rw [roundsIn_succ]
          have hRD := hRA.gr gAD2
          have cRD := hRD.cell
          have fRD := hRD.frozen
          have zRD := hRD.lt
          gi_wp2_with (first
            | ((with_reducible refine And.intro ?_ ?_); exact trivial; gi_at_call 24; refine (callsIn_wide.2 (madeis_any ps (ps.map Piece.op) _ _ _ (DeltaR.gr hDA (by repeat (with_reducible first | assumption | exact Gr.refl _ | apply Gr.alloc | apply Gr.drewN | apply Gr.drew | apply Gr.iter | (refine Gr.setCell ?_ (by simp) _) | (refine Gr.trans ?_ (by assumption))))) hp.ok.good (RdOps.gr hOA (by repeat (with_reducible first | assumption | exact Gr.refl _ | apply Gr.alloc | apply Gr.drewN | apply Gr.drew | apply Gr.iter | (refine Gr.setCell ?_ (by simp) _) | (refine Gr.trans ?_ (by assumption))))))).mono ?_; rw [decide_eq_true rfl]; rintro e w7 ⟨rfl, hg7⟩; have hR7 := hRD.gr hg7; have cR7 := hR7.cell; have fR7 := hR7.frozen; have zR7 := hR7.lt)
            | ((with_reducible refine And.intro ?_ ?_); (first | exact trivial | (intro f hf; cases hf)); go_at_K))
          have hG7 : Gr WD2 w7 := (by repeat (with_reducible first | assumption | exact Gr.refl _ | apply Gr.alloc | apply Gr.drewN | apply Gr.drew | apply Gr.iter | (refine Gr.setCell ?_ (by simp) _) | (refine Gr.trans ?_ (by assumption))))
          obtain ⟨We, hWe⟩ : ∃ We, w7.setCell ⟨w.heap.size, 0, none⟩ (.bool true) = We := ⟨_, rfl⟩
          have hKe2 : We.heap[D2]? = some (.deferred (some [])) := hWe ▸ ((others_gr hG7).trans (KeepsOthers.setCell w7 ⟨w.heap.size, 0, none⟩ (.bool true))).same D2 _ hK2 rfl
          have hKe1 : We.heap[D1]? = some (.deferred (some [])) := hWe ▸ ((others_gr (Gr.trans gDD2 hG7)).trans (KeepsOthers.setCell w7 ⟨w.heap.size, 0, none⟩ (.bool true))).same D1 _ hK1 rfl
          have hBe : Blk We w.heap.size 4 #[.bool true] := hWe ▸ hR7.set 0 (.bool true)
          have hGe : Gr w We := hWe ▸ Below.setCell (p := ⟨w.heap.size, 0, none⟩) (show Gr w w7 from Gr.trans gwA (Gr.trans gAD2 hG7)) (Nat.le_refl _) _
          have hz1 : D1 < WD1.heap.size := (Array.getElem?_eq_some_iff.1 hK1).1
          have hz2 := hRA.lt
          have hz3 : w.heap.size < D1 := by omega
          have hz4 : D1 < D2 := by omega
          rw [hWe]
          clear hWe
          have hKe1' : (We.putObj D2 (.deferred none)).heap[D1]? = some (.deferred (some [])) := (World.putObj_heap_other (by omega)).trans hKe1
          have hB' : Blk ((We.putObj D2 (.deferred none)).putObj D1 (.deferred none)) w.heap.size 4 #[.bool true] := (World.putObj_heap_other (by omega)).trans ((World.putObj_heap_other (by omega)).trans hBe)
          have hq' := hB'.cell 0
          refine ⟨by simp, .inl ⟨_, _, rfl, run_takeDeferred hKe2, ⟨by simp, .inl ⟨_, _, rfl, run_takeDeferred hKe1', ?_⟩⟩⟩⟩
          refine ⟨.bool true, ?_, rfl, Below.trans (Below.trans hGe (belowK_b (w := w) (Nat.le_refl _) _ D2 _ _ (by omega) hKe2 rfl rfl)) (belowK_b (w := w) (Nat.le_refl _) _ D1 _ _ (by omega) hKe1' rfl rfl)⟩
          simp [results, Tryz.f7, go_sem, hq']
theorem walkEach_law {ea : Nat → Addr} (l : List Op) (v : Value) (w : World) (hE : Env ea w) (hl : RdOps w v l) (hT : opsum l ≤ 1048576) (hN : l.length ≤ 1048576) :
    Calls Tryz.prog 7 #[v] w fun e w' => e = .returned (.bool true) ∧ Gr w w' := walkEach_any l v w hE hl hT hN
end Ve
