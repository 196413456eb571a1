/- Walks: a walker's Next, Rest, inserts. -/
import Derived.Test.YtnlpmajiccliiaaGreatDoorW4
import Derived.Test.YtnlpmajiccliiaaGreatDoorB7
set_option linter.all false
namespace Ve
open Go Go.RowKit Go.Proofs

set_option maxRecDepth 4000 in
set_option maxHeartbeats 4000000 in
theorem wcut_any {ea : Nat → Addr} (p : Piece) (v : Value) (n : Nat) (w : World) (hE : Env ea w) (hp : PieceV w p v) (hok : pOk p) (h1 : 1 ≤ n) (h2 : (n : Int) < p.len) :
    Calls Tryz.prog 158 #[v, .int .i64 n] w fun e w' => ∃ v1 v2, e = .returned (.tuple #[v1, v2]) ∧ PieceV w' (cutP p n).1 v1 ∧ PieceV w' (cutP p n).2 v2 ∧ Gr w w' := by
  cases p with
  | emb l t x => simp only [Piece.len] at h2; omega
  | ins l t m => exact wcut_ins l t m v n w hE hp hok h1 h2
  | ret l m => exact wcut_ret l m v n w hE hp hok h1 h2
  | del m =>
    obtain rfl := hp
    obtain ⟨k1, k2⟩ := del_ok.1 hok
    simp only [Piece.len] at h2
    simp only [cutP]
    clear hok
    go_enter Tryz.func158, Tryz.ntmps158
    go_wp2
    go_quiet (fail)
    go_wp2
    go_ret2
    exact ⟨_, _, ret_pp rfl rfl, rfl, rfl, (by repeat (with_reducible first | assumption | exact Gr.refl _ | apply Gr.alloc | apply Gr.drewN | apply Gr.drew | apply Gr.iter | (refine Gr.setCell ?_ (by simp) _) | (refine Gr.trans ?_ (by assumption))))⟩
theorem PieceV.sizes {w : World} {p : Piece} {v : Value} (h : PieceV w p v) : szS p.op.text := (PieceV.sz h).1
/-- A walker is stored anew. -/
theorem WalkX.store {w : World} {g : Nat} {sl sl' : Value} {ps : List Piece} (hB : Blk w g 156 #[sl]) (hs : SubP w sl' ps) {a : World} (ha : Gr a w) :
    WalkX (w.setCell ⟨g, 0, none⟩ sl') g sl'.ownBlock ps ∧ Kg (fun b => b = g) wkT a (w.setCell ⟨g, 0, none⟩ sl') := by
  have hk : Kg (fun b => b = g) wkT w (w.setCell ⟨g, 0, none⟩ sl') := Kg.setCell (S := fun b => b = g) (E := wkT) (Kg.refl w) hB (by decide) rfl 0 sl'
  exact ⟨⟨sl', hB.set 0 sl', hs.kg hk (by decide) (.inl (by decide)), rfl⟩, (Kg.of_gr ha).trans hk⟩
theorem SubP.zero (w : World) (a : Option Addr) : SubP w (.slice a 0 0) [] := ⟨a, 0, [], rfl, Nat.le_refl _, by simp [maxLen], by simp, rfl, fun h => absurd h (by simp)⟩
/-- One piece in a new row, and others behind it. -/
theorem app_lit (w : World) (ty : TypeId) {p : Piece} {pv rs : Value} {r : List Piece} (hp : PieceV w p pv) (hr : RdPieces w rs r) (hlen : r.length + 1 ≤ 1099511627776) :
    ∃ v' w', (Builtin.append_ #[95, 95] ty #[.slice (some ⟨w.heap.size, 0, none⟩) 1 1, rs]).run Tryz.prog (w.alloc (.cells #[pv] 109)) = .ok v' w' ∧ OwnL PieceR 1 w.heap.size 109 w' v' (p :: r) ∧ Gr w w' := by
  have hg : Gr w (w.alloc (.cells #[pv] 109)) := (Gr.refl w).alloc _
  have ho : (w.alloc (.cells #[pv] 109)).ownsRow w.heap.size 109 1 (.slice (some ⟨w.heap.size, 0, none⟩) 1 1) 1 [pv] :=
    ⟨by simp, .inr ⟨w.heap.size, 1, #[pv], rfl, Nat.le_refl _, heap_alloc_new w _, Nat.le_refl _, by simp [maxLen], by simp, by simp⟩⟩
  obtain ⟨v', w', h1, h2, h3, h4⟩ := run_appL (P := Tryz.prog) (R := PieceR) (w.alloc (.cells #[pv] 109)) w.heap.size 95 ty 109 _ 1 16 Tryz.underlying95 info_piece rfl (by omega) (by omega) (PieceR.flat _)
    (l := [p]) (m := r) ⟨[pv], ho, RowsR.one rfl ⟨pv, rfl, hp.gr hg⟩⟩ (RdPieces.gr hr hg) (by simp; omega) (by simp)
    (fun w' y cs hgb h => PieceR.kg h (Kg.of_own (S := Fr w.heap.size) (E := pcT) ho (by decide) (own_fr ho) hgb) (by decide))
  exact ⟨v', w', h1, h2, hg.grown h3 (own_fr ho)⟩
set_option maxRecDepth 4000 in
set_option maxHeartbeats 4000000 in
theorem wnext_any {ea : Nat → Addr} (g : Nat) (lb : Option Nat) (ps : List Piece) (n : Nat) (w : World) (hE : Env ea w) (hW : WalkX w g lb ps) (hok : PsOk ps) (h1 : 1 ≤ n) (hn : n ≤ 9223372036854775807) :
    Calls Tryz.prog 127 #[.pointer (some ⟨g, 0, none⟩), .int .i64 n] w fun e w' => ∃ pv lb', e = .returned (.tuple #[pv, .nilIface]) ∧ PieceV w' (nextP ps n).1 pv ∧ WalkX w' g lb' (nextP ps n).2 ∧
      (∀ b, lb' = some b → lb = some b ∨ w.heap.size ≤ b) ∧ Kg (fun b => b = g) wkT w w' := by
  cases ps with
  | nil =>
    have HW := Lib.hid hW
    go_enter Tryz.func127, Tryz.ntmps127
    go_wp2_with (go_at_call 126; go_loud (refine (wdone_any g lb [] _ (hW.gr (by repeat (with_reducible first | assumption | exact Gr.refl _ | apply Gr.alloc | apply Gr.drewN | apply Gr.drew | apply Gr.iter | (refine Gr.setCell ?_ (by simp) _) | (refine Gr.trans ?_ (by assumption)))))).mono ?_; rw [decide_eq_true (rfl : ([] : List Piece) = [])]; rintro e w1 ⟨rfl, hg1⟩))
    go_ret2
    refine ⟨.iface 113 (.agg #[.slice none 0 0, .int .i64 (min (n : Int) 1099511627776)]), lb, ret_pp ?_ rfl, ⟨_, rfl, OwnL.nil .., by simp⟩, HW.out.gr hg1, fun b h => .inl h, Kg.of_gr hg1⟩
    simp [go_sem]
  | cons p r =>
    have hW0 := hW
    have hp0 : pOk p := hok p (by simp)
    obtain ⟨sl, hB, hs, e0⟩ := hW
    obtain ⟨b, off, cap, pv, rfl, hc1, hc2, hc3, hc, hp, hs2⟩ := hs.cons
    have hlb : lb = some b := e0.symm
    have hlen : p.len ≤ 1099511627776 := by
      have hh := len_ok hp0.1 hp.sizes
      rw [hp0.2] at hh
      exact hh.2
    have hd : decide (p :: r = []) = false := by simp
    have HD := Lib.hid hd; clear hd
    have Hp := Lib.hid hp
    obtain ⟨T, y, f, hpv, hm, he, hcall⟩ := len_meth hp
    have HC := Lib.hid hcall; clear hcall
    subst hpv
    have b0 := hB.cell
    have f0 := hB.frozen
    have HS := Lib.hid hs2; clear hs2 hs hp e0
    by_cases hle : p.len ≤ (n : Int)
    · have hN : nextP (p :: r) n = (p, r) := by simp [nextP, hle]
      rw [hN]
      clear hN
      by_cases hcap : cap = 1
      · subst hcap
        have hr0 : r = [] := List.eq_nil_of_length_eq_zero (by omega)
        subst hr0
        go_enter Tryz.func127, Tryz.ntmps127
        go_wp2_with (first | (go_at_call 126; go_loud (refine (wdone_any g lb _ _ (hW0.gr (by repeat (with_reducible first | assumption | exact Gr.refl _ | apply Gr.alloc | apply Gr.drewN | apply Gr.drew | apply Gr.iter | (refine Gr.setCell ?_ (by simp) _) | (refine Gr.trans ?_ (by assumption)))))).mono ?_; rw [HD.out]; rintro e w1 ⟨rfl, hg1⟩; have b1 := (hB.gr (w' := w1) (by repeat (with_reducible first | assumption | exact Gr.refl _ | apply Gr.alloc | apply Gr.drewN | apply Gr.drew | apply Gr.iter | (refine Gr.setCell ?_ (by simp) _) | (refine Gr.trans ?_ (by assumption))))).cell; have f1 := (hB.gr (w' := w1) (by repeat (with_reducible first | assumption | exact Gr.refl _ | apply Gr.alloc | apply Gr.drewN | apply Gr.drew | apply Gr.iter | (refine Gr.setCell ?_ (by simp) _) | (refine Gr.trans ?_ (by assumption))))).frozen; have c1 := Gr.cell (w := w) (w' := w1) (by repeat (with_reducible first | assumption | exact Gr.refl _ | apply Gr.alloc | apply Gr.drewN | apply Gr.drew | apply Gr.iter | (refine Gr.setCell ?_ (by simp) _) | (refine Gr.trans ?_ (by assumption)))) hc; have z1 := (hB.gr (w' := w1) (by repeat (with_reducible first | assumption | exact Gr.refl _ | apply Gr.alloc | apply Gr.drewN | apply Gr.drew | apply Gr.iter | (refine Gr.setCell ?_ (by simp) _) | (refine Gr.trans ?_ (by assumption))))).lt)) | (go_at_fn f; refine (HC.out _).mono ?_; rintro e w2 ⟨rfl, hg2⟩; have b2 := (hB.gr (w' := w2) (by repeat (with_reducible first | assumption | exact Gr.refl _ | apply Gr.alloc | apply Gr.drewN | apply Gr.drew | apply Gr.iter | (refine Gr.setCell ?_ (by simp) _) | (refine Gr.trans ?_ (by assumption))))).cell; have f2 := (hB.gr (w' := w2) (by repeat (with_reducible first | assumption | exact Gr.refl _ | apply Gr.alloc | apply Gr.drewN | apply Gr.drew | apply Gr.iter | (refine Gr.setCell ?_ (by simp) _) | (refine Gr.trans ?_ (by assumption))))).frozen; have z2 := (hB.gr (w' := w2) (by repeat (with_reducible first | assumption | exact Gr.refl _ | apply Gr.alloc | apply Gr.drewN | apply Gr.drew | apply Gr.iter | (refine Gr.setCell ?_ (by simp) _) | (refine Gr.trans ?_ (by assumption))))).lt))
        go_ret2
        obtain ⟨hw1, hk1⟩ := WalkX.store (w := w2) (hB.gr (w' := w2) (by repeat (with_reducible first | assumption | exact Gr.refl _ | apply Gr.alloc | apply Gr.drewN | apply Gr.drew | apply Gr.iter | (refine Gr.setCell ?_ (by simp) _) | (refine Gr.trans ?_ (by assumption))))) (SubP.zero w2 (some ⟨b, off, none⟩)) (a := w) (by repeat (with_reducible first | assumption | exact Gr.refl _ | apply Gr.alloc | apply Gr.drewN | apply Gr.drew | apply Gr.iter | (refine Gr.setCell ?_ (by simp) _) | (refine Gr.trans ?_ (by assumption))))
        exact ⟨_, _, ret_pp rfl rfl, PieceV.kg (w := w) Hp.out hk1 (by decide), hw1, fun b' h => .inl (hlb.trans h), hk1⟩
      · go_enter Tryz.func127, Tryz.ntmps127
        go_wp2_with (first | (go_at_call 126; go_loud (refine (wdone_any g lb _ _ (hW0.gr (by repeat (with_reducible first | assumption | exact Gr.refl _ | apply Gr.alloc | apply Gr.drewN | apply Gr.drew | apply Gr.iter | (refine Gr.setCell ?_ (by simp) _) | (refine Gr.trans ?_ (by assumption)))))).mono ?_; rw [HD.out]; rintro e w1 ⟨rfl, hg1⟩; have b1 := (hB.gr (w' := w1) (by repeat (with_reducible first | assumption | exact Gr.refl _ | apply Gr.alloc | apply Gr.drewN | apply Gr.drew | apply Gr.iter | (refine Gr.setCell ?_ (by simp) _) | (refine Gr.trans ?_ (by assumption))))).cell; have f1 := (hB.gr (w' := w1) (by repeat (with_reducible first | assumption | exact Gr.refl _ | apply Gr.alloc | apply Gr.drewN | apply Gr.drew | apply Gr.iter | (refine Gr.setCell ?_ (by simp) _) | (refine Gr.trans ?_ (by assumption))))).frozen; have c1 := Gr.cell (w := w) (w' := w1) (by repeat (with_reducible first | assumption | exact Gr.refl _ | apply Gr.alloc | apply Gr.drewN | apply Gr.drew | apply Gr.iter | (refine Gr.setCell ?_ (by simp) _) | (refine Gr.trans ?_ (by assumption)))) hc; have z1 := (hB.gr (w' := w1) (by repeat (with_reducible first | assumption | exact Gr.refl _ | apply Gr.alloc | apply Gr.drewN | apply Gr.drew | apply Gr.iter | (refine Gr.setCell ?_ (by simp) _) | (refine Gr.trans ?_ (by assumption))))).lt)) | (go_at_fn f; refine (HC.out _).mono ?_; rintro e w2 ⟨rfl, hg2⟩; have b2 := (hB.gr (w' := w2) (by repeat (with_reducible first | assumption | exact Gr.refl _ | apply Gr.alloc | apply Gr.drewN | apply Gr.drew | apply Gr.iter | (refine Gr.setCell ?_ (by simp) _) | (refine Gr.trans ?_ (by assumption))))).cell; have f2 := (hB.gr (w' := w2) (by repeat (with_reducible first | assumption | exact Gr.refl _ | apply Gr.alloc | apply Gr.drewN | apply Gr.drew | apply Gr.iter | (refine Gr.setCell ?_ (by simp) _) | (refine Gr.trans ?_ (by assumption))))).frozen; have z2 := (hB.gr (w' := w2) (by repeat (with_reducible first | assumption | exact Gr.refl _ | apply Gr.alloc | apply Gr.drewN | apply Gr.drew | apply Gr.iter | (refine Gr.setCell ?_ (by simp) _) | (refine Gr.trans ?_ (by assumption))))).lt))
        go_ret2
        obtain ⟨hw1, hk1⟩ := WalkX.store (w := w2) (hB.gr (w' := w2) (by repeat (with_reducible first | assumption | exact Gr.refl _ | apply Gr.alloc | apply Gr.drewN | apply Gr.drew | apply Gr.iter | (refine Gr.setCell ?_ (by simp) _) | (refine Gr.trans ?_ (by assumption))))) (SubP.gr (w := w) (w' := w2) HS.out (by repeat (with_reducible first | assumption | exact Gr.refl _ | apply Gr.alloc | apply Gr.drewN | apply Gr.drew | apply Gr.iter | (refine Gr.setCell ?_ (by simp) _) | (refine Gr.trans ?_ (by assumption))))) (a := w) (by repeat (with_reducible first | assumption | exact Gr.refl _ | apply Gr.alloc | apply Gr.drewN | apply Gr.drew | apply Gr.iter | (refine Gr.setCell ?_ (by simp) _) | (refine Gr.trans ?_ (by assumption))))
        exact ⟨_, _, ret_pp rfl rfl, PieceV.kg (w := w) Hp.out hk1 (by decide), hw1, fun b' h => .inl (hlb.trans h), hk1⟩
    · have hN : nextP (p :: r) n = ((cutP p n).1, (cutP p n).2 :: r) := by simp [nextP, hle]
      rw [hN]
      clear hN
      have hlt : (n : Int) < p.len := by omega
      obtain ⟨C, hC⟩ : ∃ C, cutP p n = C := ⟨_, rfl⟩
      rw [hC]
      have HN := Lib.hid hC; clear hC
      by_cases hcap : cap = 1
      · subst hcap
        have hr0 : r = [] := List.eq_nil_of_length_eq_zero (by omega)
        subst hr0
        go_enter Tryz.func127, Tryz.ntmps127
        go_wp2_with (first
          | (go_at_call 126; go_loud (refine (wdone_any g lb _ _ (hW0.gr (by repeat (with_reducible first | assumption | exact Gr.refl _ | apply Gr.alloc | apply Gr.drewN | apply Gr.drew | apply Gr.iter | (refine Gr.setCell ?_ (by simp) _) | (refine Gr.trans ?_ (by assumption)))))).mono ?_; rw [HD.out]; rintro e w1 ⟨rfl, hg1⟩; have b1 := (hB.gr (w' := w1) (by repeat (with_reducible first | assumption | exact Gr.refl _ | apply Gr.alloc | apply Gr.drewN | apply Gr.drew | apply Gr.iter | (refine Gr.setCell ?_ (by simp) _) | (refine Gr.trans ?_ (by assumption))))).cell; have f1 := (hB.gr (w' := w1) (by repeat (with_reducible first | assumption | exact Gr.refl _ | apply Gr.alloc | apply Gr.drewN | apply Gr.drew | apply Gr.iter | (refine Gr.setCell ?_ (by simp) _) | (refine Gr.trans ?_ (by assumption))))).frozen; have c1 := Gr.cell (w := w) (w' := w1) (by repeat (with_reducible first | assumption | exact Gr.refl _ | apply Gr.alloc | apply Gr.drewN | apply Gr.drew | apply Gr.iter | (refine Gr.setCell ?_ (by simp) _) | (refine Gr.trans ?_ (by assumption)))) hc; have z1 := (hB.gr (w' := w1) (by repeat (with_reducible first | assumption | exact Gr.refl _ | apply Gr.alloc | apply Gr.drewN | apply Gr.drew | apply Gr.iter | (refine Gr.setCell ?_ (by simp) _) | (refine Gr.trans ?_ (by assumption))))).lt))
          | (go_at_fn f; refine (HC.out _).mono ?_; rintro e w2 ⟨rfl, hg2⟩; have b2 := (hB.gr (w' := w2) (by repeat (with_reducible first | assumption | exact Gr.refl _ | apply Gr.alloc | apply Gr.drewN | apply Gr.drew | apply Gr.iter | (refine Gr.setCell ?_ (by simp) _) | (refine Gr.trans ?_ (by assumption))))).cell; have f2 := (hB.gr (w' := w2) (by repeat (with_reducible first | assumption | exact Gr.refl _ | apply Gr.alloc | apply Gr.drewN | apply Gr.drew | apply Gr.iter | (refine Gr.setCell ?_ (by simp) _) | (refine Gr.trans ?_ (by assumption))))).frozen; have z2 := (hB.gr (w' := w2) (by repeat (with_reducible first | assumption | exact Gr.refl _ | apply Gr.alloc | apply Gr.drewN | apply Gr.drew | apply Gr.iter | (refine Gr.setCell ?_ (by simp) _) | (refine Gr.trans ?_ (by assumption))))).lt)
          | (go_at_call 158; refine (wcut_any p _ n _ (hE.gr (by repeat (with_reducible first | assumption | exact Gr.refl _ | apply Gr.alloc | apply Gr.drewN | apply Gr.drew | apply Gr.iter | (refine Gr.setCell ?_ (by simp) _) | (refine Gr.trans ?_ (by assumption))))) (PieceV.gr (w := w) Hp.out (by repeat (with_reducible first | assumption | exact Gr.refl _ | apply Gr.alloc | apply Gr.drewN | apply Gr.drew | apply Gr.iter | (refine Gr.setCell ?_ (by simp) _) | (refine Gr.trans ?_ (by assumption))))) hp0 h1 hlt).mono ?_; rw [HN.out]; rintro e w3 ⟨v3, v4, rfl, hv3, hv4, hg3⟩; obtain ⟨T4, y4, rfl⟩ := hv4.form; obtain ⟨v5, w5, hrun, hown, hg5⟩ := app_lit w3 95 hv4 (SubP.rd (SubP.zero w3 (some ⟨b, off, none⟩))) hc3; obtain ⟨a5, n5, c5, rfl, -⟩ := hown.sl; have b3 := (hB.gr (w' := w3) (by repeat (with_reducible first | assumption | exact Gr.refl _ | apply Gr.alloc | apply Gr.drewN | apply Gr.drew | apply Gr.iter | (refine Gr.setCell ?_ (by simp) _) | (refine Gr.trans ?_ (by assumption))))).cell; have f3 := (hB.gr (w' := w3) (by repeat (with_reducible first | assumption | exact Gr.refl _ | apply Gr.alloc | apply Gr.drewN | apply Gr.drew | apply Gr.iter | (refine Gr.setCell ?_ (by simp) _) | (refine Gr.trans ?_ (by assumption))))).frozen; have z3 := (hB.gr (w' := w3) (by repeat (with_reducible first | assumption | exact Gr.refl _ | apply Gr.alloc | apply Gr.drewN | apply Gr.drew | apply Gr.iter | (refine Gr.setCell ?_ (by simp) _) | (refine Gr.trans ?_ (by assumption))))).lt; have b5 := (hB.gr (w' := w5) (by repeat (with_reducible first | assumption | exact Gr.refl _ | apply Gr.alloc | apply Gr.drewN | apply Gr.drew | apply Gr.iter | (refine Gr.setCell ?_ (by simp) _) | (refine Gr.trans ?_ (by assumption))))).cell; have f5 := (hB.gr (w' := w5) (by repeat (with_reducible first | assumption | exact Gr.refl _ | apply Gr.alloc | apply Gr.drewN | apply Gr.drew | apply Gr.iter | (refine Gr.setCell ?_ (by simp) _) | (refine Gr.trans ?_ (by assumption))))).frozen; have z5 := (hB.gr (w' := w5) (by repeat (with_reducible first | assumption | exact Gr.refl _ | apply Gr.alloc | apply Gr.drewN | apply Gr.drew | apply Gr.iter | (refine Gr.setCell ?_ (by simp) _) | (refine Gr.trans ?_ (by assumption))))).lt; have HP := Lib.hid (And.intro hrun (And.intro hown (And.intro hv3 hg5))); clear hrun hown hv3 hv4)
          | (at_builtin; go_loud (refine wpList_run rfl _ _ _ rfl rfl rfl HP.out.1 ?_)))
        go_ret2
        obtain ⟨hw1, hk1⟩ := WalkX.store (w := w5) (hB.gr (w' := w5) (by repeat (with_reducible first | assumption | exact Gr.refl _ | apply Gr.alloc | apply Gr.drewN | apply Gr.drew | apply Gr.iter | (refine Gr.setCell ?_ (by simp) _) | (refine Gr.trans ?_ (by assumption))))) (SubP.of_own HP.out.2.1 hc3) (a := w) (by repeat (with_reducible first | assumption | exact Gr.refl _ | apply Gr.alloc | apply Gr.drewN | apply Gr.drew | apply Gr.iter | (refine Gr.setCell ?_ (by simp) _) | (refine Gr.trans ?_ (by assumption))))
        refine ⟨_, _, ret_pp rfl rfl, PieceV.kg (w := w5) (PieceV.gr (w := w3) HP.out.2.2.1 HP.out.2.2.2) (S := fun b => b = g) (E := wkT) (Kg.setCell (S := fun b => b = g) (E := wkT) (Kg.refl w5) (hB.gr (w' := w5) (by repeat (with_reducible first | assumption | exact Gr.refl _ | apply Gr.alloc | apply Gr.drewN | apply Gr.drew | apply Gr.iter | (refine Gr.setCell ?_ (by simp) _) | (refine Gr.trans ?_ (by assumption))))) (by decide) rfl 0 _) (by decide), hw1, fun b' h => .inr ?_, hk1⟩
        obtain ⟨xs, ho, -⟩ := HP.out.2.1
        exact Nat.le_trans (Gr.size (w := w) (w' := w3) (by repeat (with_reducible first | assumption | exact Gr.refl _ | apply Gr.alloc | apply Gr.drewN | apply Gr.drew | apply Gr.iter | (refine Gr.setCell ?_ (by simp) _) | (refine Gr.trans ?_ (by assumption))))) (own_fr ho b' h)
      · go_enter Tryz.func127, Tryz.ntmps127
        go_wp2_with (first
          | (go_at_call 126; go_loud (refine (wdone_any g lb _ _ (hW0.gr (by repeat (with_reducible first | assumption | exact Gr.refl _ | apply Gr.alloc | apply Gr.drewN | apply Gr.drew | apply Gr.iter | (refine Gr.setCell ?_ (by simp) _) | (refine Gr.trans ?_ (by assumption)))))).mono ?_; rw [HD.out]; rintro e w1 ⟨rfl, hg1⟩; have b1 := (hB.gr (w' := w1) (by repeat (with_reducible first | assumption | exact Gr.refl _ | apply Gr.alloc | apply Gr.drewN | apply Gr.drew | apply Gr.iter | (refine Gr.setCell ?_ (by simp) _) | (refine Gr.trans ?_ (by assumption))))).cell; have f1 := (hB.gr (w' := w1) (by repeat (with_reducible first | assumption | exact Gr.refl _ | apply Gr.alloc | apply Gr.drewN | apply Gr.drew | apply Gr.iter | (refine Gr.setCell ?_ (by simp) _) | (refine Gr.trans ?_ (by assumption))))).frozen; have c1 := Gr.cell (w := w) (w' := w1) (by repeat (with_reducible first | assumption | exact Gr.refl _ | apply Gr.alloc | apply Gr.drewN | apply Gr.drew | apply Gr.iter | (refine Gr.setCell ?_ (by simp) _) | (refine Gr.trans ?_ (by assumption)))) hc; have z1 := (hB.gr (w' := w1) (by repeat (with_reducible first | assumption | exact Gr.refl _ | apply Gr.alloc | apply Gr.drewN | apply Gr.drew | apply Gr.iter | (refine Gr.setCell ?_ (by simp) _) | (refine Gr.trans ?_ (by assumption))))).lt))
          | (go_at_fn f; refine (HC.out _).mono ?_; rintro e w2 ⟨rfl, hg2⟩; have b2 := (hB.gr (w' := w2) (by repeat (with_reducible first | assumption | exact Gr.refl _ | apply Gr.alloc | apply Gr.drewN | apply Gr.drew | apply Gr.iter | (refine Gr.setCell ?_ (by simp) _) | (refine Gr.trans ?_ (by assumption))))).cell; have f2 := (hB.gr (w' := w2) (by repeat (with_reducible first | assumption | exact Gr.refl _ | apply Gr.alloc | apply Gr.drewN | apply Gr.drew | apply Gr.iter | (refine Gr.setCell ?_ (by simp) _) | (refine Gr.trans ?_ (by assumption))))).frozen; have z2 := (hB.gr (w' := w2) (by repeat (with_reducible first | assumption | exact Gr.refl _ | apply Gr.alloc | apply Gr.drewN | apply Gr.drew | apply Gr.iter | (refine Gr.setCell ?_ (by simp) _) | (refine Gr.trans ?_ (by assumption))))).lt)
          | (go_at_call 158; refine (wcut_any p _ n _ (hE.gr (by repeat (with_reducible first | assumption | exact Gr.refl _ | apply Gr.alloc | apply Gr.drewN | apply Gr.drew | apply Gr.iter | (refine Gr.setCell ?_ (by simp) _) | (refine Gr.trans ?_ (by assumption))))) (PieceV.gr (w := w) Hp.out (by repeat (with_reducible first | assumption | exact Gr.refl _ | apply Gr.alloc | apply Gr.drewN | apply Gr.drew | apply Gr.iter | (refine Gr.setCell ?_ (by simp) _) | (refine Gr.trans ?_ (by assumption))))) hp0 h1 hlt).mono ?_; rw [HN.out]; rintro e w3 ⟨v3, v4, rfl, hv3, hv4, hg3⟩; obtain ⟨T4, y4, rfl⟩ := hv4.form; obtain ⟨v5, w5, hrun, hown, hg5⟩ := app_lit w3 95 hv4 (SubP.rd (SubP.gr (w := w) (w' := w3) HS.out (by repeat (with_reducible first | assumption | exact Gr.refl _ | apply Gr.alloc | apply Gr.drewN | apply Gr.drew | apply Gr.iter | (refine Gr.setCell ?_ (by simp) _) | (refine Gr.trans ?_ (by assumption)))))) hc3; obtain ⟨a5, n5, c5, rfl, -⟩ := hown.sl; have b3 := (hB.gr (w' := w3) (by repeat (with_reducible first | assumption | exact Gr.refl _ | apply Gr.alloc | apply Gr.drewN | apply Gr.drew | apply Gr.iter | (refine Gr.setCell ?_ (by simp) _) | (refine Gr.trans ?_ (by assumption))))).cell; have f3 := (hB.gr (w' := w3) (by repeat (with_reducible first | assumption | exact Gr.refl _ | apply Gr.alloc | apply Gr.drewN | apply Gr.drew | apply Gr.iter | (refine Gr.setCell ?_ (by simp) _) | (refine Gr.trans ?_ (by assumption))))).frozen; have z3 := (hB.gr (w' := w3) (by repeat (with_reducible first | assumption | exact Gr.refl _ | apply Gr.alloc | apply Gr.drewN | apply Gr.drew | apply Gr.iter | (refine Gr.setCell ?_ (by simp) _) | (refine Gr.trans ?_ (by assumption))))).lt; have b5 := (hB.gr (w' := w5) (by repeat (with_reducible first | assumption | exact Gr.refl _ | apply Gr.alloc | apply Gr.drewN | apply Gr.drew | apply Gr.iter | (refine Gr.setCell ?_ (by simp) _) | (refine Gr.trans ?_ (by assumption))))).cell; have f5 := (hB.gr (w' := w5) (by repeat (with_reducible first | assumption | exact Gr.refl _ | apply Gr.alloc | apply Gr.drewN | apply Gr.drew | apply Gr.iter | (refine Gr.setCell ?_ (by simp) _) | (refine Gr.trans ?_ (by assumption))))).frozen; have z5 := (hB.gr (w' := w5) (by repeat (with_reducible first | assumption | exact Gr.refl _ | apply Gr.alloc | apply Gr.drewN | apply Gr.drew | apply Gr.iter | (refine Gr.setCell ?_ (by simp) _) | (refine Gr.trans ?_ (by assumption))))).lt; have HP := Lib.hid (And.intro hrun (And.intro hown (And.intro hv3 hg5))); clear hrun hown hv3 hv4)
          | (at_builtin; go_loud (refine wpList_run rfl _ _ _ rfl rfl rfl HP.out.1 ?_)))
        go_ret2
        obtain ⟨hw1, hk1⟩ := WalkX.store (w := w5) (hB.gr (w' := w5) (by repeat (with_reducible first | assumption | exact Gr.refl _ | apply Gr.alloc | apply Gr.drewN | apply Gr.drew | apply Gr.iter | (refine Gr.setCell ?_ (by simp) _) | (refine Gr.trans ?_ (by assumption))))) (SubP.of_own HP.out.2.1 hc3) (a := w) (by repeat (with_reducible first | assumption | exact Gr.refl _ | apply Gr.alloc | apply Gr.drewN | apply Gr.drew | apply Gr.iter | (refine Gr.setCell ?_ (by simp) _) | (refine Gr.trans ?_ (by assumption))))
        refine ⟨_, _, ret_pp rfl rfl, PieceV.kg (w := w5) (PieceV.gr (w := w3) HP.out.2.2.1 HP.out.2.2.2) (S := fun b => b = g) (E := wkT) (Kg.setCell (S := fun b => b = g) (E := wkT) (Kg.refl w5) (hB.gr (w' := w5) (by repeat (with_reducible first | assumption | exact Gr.refl _ | apply Gr.alloc | apply Gr.drewN | apply Gr.drew | apply Gr.iter | (refine Gr.setCell ?_ (by simp) _) | (refine Gr.trans ?_ (by assumption))))) (by decide) rfl 0 _) (by decide), hw1, fun b' h => .inr ?_, hk1⟩
        obtain ⟨xs, ho, -⟩ := HP.out.2.1
        exact Nat.le_trans (Gr.size (w := w) (w' := w3) (by repeat (with_reducible first | assumption | exact Gr.refl _ | apply Gr.alloc | apply Gr.drewN | apply Gr.drew | apply Gr.iter | (refine Gr.setCell ?_ (by simp) _) | (refine Gr.trans ?_ (by assumption))))) (own_fr ho b' h)
end Ve
