/- measure.Slice. -/
import Derived.Test.YtapolkhdikdjbaaGreatDoorW3
import Derived.Test.YtapolkhdikdjbaaGreatDoorB7
import Derived.Test.YtapolkhdikdjbaaGreatDoorT7
import Derived.Test.YtapolkhdikdjbaaGreatDoorM4
set_option linter.all false
namespace Ve
open Go Go.RowKit Go.Proofs

theorem op_dest (p : Piece) : ∃ k t va vb vt c l, p.op = ⟨k, t, ⟨va, vb, vt⟩, c, l⟩ := ⟨_, _, _, _, _, _, _, rfl⟩
theorem wnext_int {ea : Nat → Addr} (g : Nat) (lb : Option Nat) (ps : List Piece) (n : Int) (w : World) (hE : Env ea w) (hW : WalkX w g lb ps) (hok : PsOk ps) (h1 : 1 ≤ n) (hn : n ≤ 9223372036854775807) :
    Calls Tryz.prog 19 #[.pointer (some ⟨g, 0, none⟩), .int .i64 n] w fun e w' => ∃ pv lb', e = .returned (.tuple #[pv, .nilIface]) ∧ PieceV w' (nextP ps n).1 pv ∧ WalkX w' g lb' (nextP ps n).2 ∧
      (∀ b, lb' = some b → lb = some b ∨ w.heap.size ≤ b) ∧ Kg (fun b => b = g) wkT w w' := by
  obtain ⟨m, rfl⟩ : ∃ m : Nat, n = m := ⟨n.toNat, by omega⟩
  exact wnext_any g lb ps m w hE hW hok (by omega) (by omega)
theorem WalkX.lb_lt {w : World} {g : Nat} {lb : Option Nat} {ps : List Piece} (h : WalkX w g lb ps) (hne : ps ≠ []) : ∀ b, lb = some b → b < w.heap.size := by
  obtain ⟨sl, -, ⟨a, cap, xs, rfl, -, -, -, -, hx⟩, e⟩ := h
  obtain ⟨b', off, cs, rfl, hB, -⟩ := hx (List.length_pos_iff.2 hne)
  subst e
  intro b hb
  injection hb with hb
  subst hb
  exact hB.lt
theorem WalkX.kgb {w w' : World} {g bg : Nat} {lb row : Option Nat} {ps : List Piece} (h : WalkX w g lb ps) (k : Kg (bldS w bg row) bldT w w') (hb : ps ≠ [] → ∀ b, lb = some b → b ≠ bg ∧ row ≠ some b) : WalkX w' g lb ps := by
  cases ps with
  | nil =>
    obtain ⟨sl, hB, ⟨a, cap, xs, rfl, h1, h2, h3, h4, -⟩, e⟩ := h
    exact ⟨_, hB.kg k (by decide), ⟨a, cap, xs, rfl, h1, h2, h3, h4, fun h => absurd h (by simp)⟩, e⟩
  | cons p r =>
    refine h.kg k (by decide) (.inr fun b hlb hS => ?_) (.inl (by decide))
    have h1 := h.lb_lt (by simp) b hlb
    obtain ⟨h2, h3⟩ := hb (by simp) b hlb
    rcases hS with rfl | hS | hS
    · exact h2 rfl
    · exact h3 hS
    · omega
theorem next_nil {n : Int} {r : List Piece} (h : (nextP r n).2 ≠ []) : r ≠ [] := fun e => h (by rw [e]; rfl)
/-- What the program holds between two rounds of Slice. -/
structure SlM (w : World) (U : List Un) (f a wg bg : Nat) (lb row : Option Nat) (rest : List Piece) (s : Bld) (wr : World) : Prop where
  gr : Gr w wr
  walk : WalkX wr wg lb rest
  bld : BldX wr bg row s
  pl : SlI U f a rest s
  lbs : rest ≠ [] → ∀ b, lb = some b → b ≠ bg ∧ row ≠ some b
  rows : ∀ b, row = some b → w.heap.size ≤ b
  wg0 : w.heap.size ≤ wg
  bg0 : w.heap.size ≤ bg
set_option maxRecDepth 20000 in
set_option maxHeartbeats 8000000 in
theorem slice_any {ea : Nat → Addr} (ps : List Piece) (v : Value) (f t : Nat) (w : World) (hE : Env ea w) (hD : DeltaR w v ps) (hok : PsOk ps) (hdoc : docP ps) (h1 : f ≤ t) (h2 : t ≤ (units ps).length)
    (hz : usz (units ps) ≤ 1099511627776) (hU : (units ps).length + 2 ≤ 1099511627776) :
    Calls Tryz.prog 60 #[v, .int .i64 f, .int .i64 t] w fun e w' => ∃ v' Q, e = .returned (.tuple #[v', .nilIface]) ∧ DeltaR w' v' Q ∧ PsOk Q ∧ sepL Q = true ∧ units Q = ((units ps).drop f).take (t - f) ∧ Gr w w' := by
  have hb0 := (doc_iff hok).1 hdoc
  have hr0 := rsum_units hok hdoc
  have hdu := doc_units hdoc
  obtain ⟨U, hUU⟩ : ∃ U, units ps = U := ⟨_, rfl⟩
  rw [hUU] at h2 hz hU hr0 hdu ⊢
  have hNEW := SlI.new (f := f) hok hdoc hUU
  have HNEW := Lib.hid hNEW; clear hNEW hUU
  obtain ⟨g1, sl1, rfl, hbd, hrd⟩ := hD
  have hD : DeltaR w (.pointer (some ⟨g1, 0, none⟩)) ps := ⟨g1, sl1, rfl, hbd, hrd⟩
  clear hbd hrd
  have HB := Lib.hid (And.intro hb0 hr0)
  have hru : rsum ps ≤ 1099511627776 := by omega
  have hbu : bsum ps ≤ 1099511627776 := by omega
  have ht' : (t : Int) ≤ U.length := by omega
  have hft : (f : Int) ≤ t := by omega
  have HZ := Lib.hid (And.intro hz hdu); clear hz hdu hb0 hr0
  go_enter Tryz.func60, Tryz.ntmps60
  go_wp2_with (first
    | (go_at_call 55; refine (document_any ps _ _ (hE.gr (by repeat (with_reducible first | assumption | exact Gr.refl _ | apply Gr.alloc | apply Gr.drewN | apply Gr.drew | apply Gr.iter | (refine Gr.setCell ?_ (by simp) _) | (refine Gr.trans ?_ (by assumption))))) (hD.gr (by repeat (with_reducible first | assumption | exact Gr.refl _ | apply Gr.alloc | apply Gr.drewN | apply Gr.drew | apply Gr.iter | (refine Gr.setCell ?_ (by simp) _) | (refine Gr.trans ?_ (by assumption))))) hok hbu hru).mono ?_; rw [HB.out.1]; rintro e w1 ⟨rfl, hg1⟩)
    | (go_at_call 49; refine (result_any ps _ _ (hE.gr (by repeat (with_reducible first | assumption | exact Gr.refl _ | apply Gr.alloc | apply Gr.drewN | apply Gr.drew | apply Gr.iter | (refine Gr.setCell ?_ (by simp) _) | (refine Gr.trans ?_ (by assumption))))) (hD.gr (by repeat (with_reducible first | assumption | exact Gr.refl _ | apply Gr.alloc | apply Gr.drewN | apply Gr.drew | apply Gr.iter | (refine Gr.setCell ?_ (by simp) _) | (refine Gr.trans ?_ (by assumption))))) hok hbu hru).mono ?_; rw [HB.out.2]; rintro e w2 ⟨rfl, hg2⟩)
    | (go_at_call 18; refine (wnew_any ps _ _ (hE.gr (by repeat (with_reducible first | assumption | exact Gr.refl _ | apply Gr.alloc | apply Gr.drewN | apply Gr.drew | apply Gr.iter | (refine Gr.setCell ?_ (by simp) _) | (refine Gr.trans ?_ (by assumption))))) (hD.gr (by repeat (with_reducible first | assumption | exact Gr.refl _ | apply Gr.alloc | apply Gr.drewN | apply Gr.drew | apply Gr.iter | (refine Gr.setCell ?_ (by simp) _) | (refine Gr.trans ?_ (by assumption))))) hok).mono ?_; rintro e w3 ⟨wg, lb, rfl, hwg, hW3, hlb, hg3⟩; have hz2 : w.heap.size ≤ w2.heap.size := Gr.size (w := w) (w' := w2) (by repeat (with_reducible first | assumption | exact Gr.refl _ | apply Gr.alloc | apply Gr.drewN | apply Gr.drew | apply Gr.iter | (refine Gr.setCell ?_ (by simp) _) | (refine Gr.trans ?_ (by assumption)))))
    | (go_at_call 33; refine (newx_any _).mono ?_; rintro e w4 ⟨rfl, hB4, hg4⟩))
  go_loopw [10] (fun i wr => ∃ (a : Nat) (lb' row : Option Nat) (rest : List Piece) (s : Bld), i = .int .i64 a ∧ a ≤ t ∧ SlM w U f a wg w3.heap.size lb' row rest s wr) (fun i _ => t - (intOf i).toNat)
  case atStart =>
    have hz3 : w.heap.size ≤ w3.heap.size := Gr.size (w := w) (w' := w3) (by repeat (with_reducible first | assumption | exact Gr.refl _ | apply Gr.alloc | apply Gr.drewN | apply Gr.drew | apply Gr.iter | (refine Gr.setCell ?_ (by simp) _) | (refine Gr.trans ?_ (by assumption))))
    refine ⟨0, lb, none, ps, .new, rfl, Nat.zero_le _, (by repeat (with_reducible first | assumption | exact Gr.refl _ | apply Gr.alloc | apply Gr.drewN | apply Gr.drew | apply Gr.iter | (refine Gr.setCell ?_ (by simp) _) | (refine Gr.trans ?_ (by assumption)))), hW3.gr hg4, hB4, HNEW.out, fun hne b hb => ⟨?_, by simp⟩, by simp, Nat.le_trans hz2 hwg, hz3⟩
    have := hW3.lb_lt hne b hb
    omega
  case round =>
    obtain ⟨a, lb', row, rest, s, rfl, hat, hS⟩ := hrel
    by_cases hlt : a < t
    · have hlt' : (a : Int) < t := by omega
      have hbg := hS.bld.lt
      have hgr := hS.gr
      have hEr := hE.gr hgr
      by_cases hf : a < f
      · have hf' : (a : Int) < f := by omega
        obtain ⟨q1, q2, q3⟩ := hS.pl.skip (by omega) hf
        obtain ⟨P, hP⟩ : ∃ P, nextP rest ((f : Int) - a) = P := ⟨_, rfl⟩
        have hnn : P.2 ≠ [] → rest ≠ [] := fun h => next_nil (n := (f : Int) - a) (by rw [hP]; exact h)
        rw [hP] at q1 q2 q3
        obtain ⟨p, r⟩ := P
        simp only at q1 q2 q3 hnn
        have HP := Lib.hid hP; clear hP
        have HS := Lib.hid hS; clear hS
        go_wp2_with (first
          | (go_at_call 19; refine (wnext_int wg lb' rest ((f : Int) - a) _ (hEr.gr (by repeat (with_reducible first | assumption | exact Gr.refl _ | apply Gr.alloc | apply Gr.drewN | apply Gr.drew | apply Gr.iter | (refine Gr.setCell ?_ (by simp) _) | (refine Gr.trans ?_ (by assumption))))) (WalkX.gr (w := wr) HS.out.walk (by repeat (with_reducible first | assumption | exact Gr.refl _ | apply Gr.alloc | apply Gr.drewN | apply Gr.drew | apply Gr.iter | (refine Gr.setCell ?_ (by simp) _) | (refine Gr.trans ?_ (by assumption))))) HS.out.pl.ok (by omega) (by omega)).mono ?_; rw [HP.out]; rintro e w5 ⟨pv, lb2, rfl, hp5, hW5, hl5, hk5⟩; have hg5 : Gr w w5 := Gr.kgs (by repeat (with_reducible first | assumption | exact Gr.refl _ | apply Gr.alloc | apply Gr.drewN | apply Gr.drew | apply Gr.iter | (refine Gr.setCell ?_ (by simp) _) | (refine Gr.trans ?_ (by assumption)))) hk5 (fun b h => h ▸ HS.out.wg0); have hB5 := BldX.kg (BldX.gr (w := wr) HS.out.bld (by repeat (with_reducible first | assumption | exact Gr.refl _ | apply Gr.alloc | apply Gr.drewN | apply Gr.drew | apply Gr.iter | (refine Gr.setCell ?_ (by simp) _) | (refine Gr.trans ?_ (by assumption))))) hk5 (by decide) (by decide) (by decide); obtain ⟨T, y, fl, hpv, hml, hel, hcl⟩ := len_meth hp5; have HCL := Lib.hid hcl; clear hcl; subst hpv)
          | (go_at_fn fl; refine (HCL.out _).mono ?_; rintro e w6 ⟨rfl, hg6⟩))
        go_roundw
        case rel =>
          have hS := HS.out
          have hg56 : Gr w5 w6 := (by repeat (with_reducible first | assumption | exact Gr.refl _ | apply Gr.alloc | apply Gr.drewN | apply Gr.drew | apply Gr.iter | (refine Gr.setCell ?_ (by simp) _) | (refine Gr.trans ?_ (by assumption))))
          refine ⟨a + p.len.toNat, lb2, row, r, s, by go_num, by omega, hg5.trans hg56, hW5.gr hg56, (hB5.gr hg56), q1, fun hne b hb => ?_, hS.rows, hS.wg0, hS.bg0⟩
          rcases hl5 b hb with h | h
          · exact hS.lbs (hnn hne) b h
          · exact ⟨by omega, fun e => by have := (hS.bld.row_lt b e).1; omega⟩
        case measure => simp [intOf]; omega
      · obtain ⟨q1, q2, q3, q4, q5, q6, q7⟩ := hS.pl.push hlt h2 (by omega) HZ.out.1 hU
        obtain ⟨P, hP⟩ : ∃ P, nextP rest ((t : Int) - a) = P := ⟨_, rfl⟩
        have hnn : P.2 ≠ [] → rest ≠ [] := fun h => next_nil (n := (t : Int) - a) (by rw [hP]; exact h)
        rw [hP] at q1 q2 q3 q4 q5 q6
        obtain ⟨p, r⟩ := P
        simp only at q1 q2 q3 q4 q5 q6 hnn
        have HP := Lib.hid hP; clear hP
        obtain ⟨ok, ot, ova, ovb, ovt, oc, oats, hop⟩ := op_dest p
        have hto : toPiece ⟨ok, ot, ⟨ova, ovb, ovt⟩, oc, oats⟩ = p := by rw [← hop]; exact q3.2
        have hgood : p.good := by rw [← q3.2]; exact good_of q3.1
        have hats := op_attrs p
        rw [hop] at hats
        rw [hop] at q4 q5
        have HQ := Lib.hid (And.intro q4 (And.intro q5 q6)); clear q4 q5 q6
        have HS := Lib.hid hS; clear hS
        go_wp2_with (first
          | (go_at_call 19; refine (wnext_int wg lb' rest ((t : Int) - a) _ (hEr.gr (by repeat (with_reducible first | assumption | exact Gr.refl _ | apply Gr.alloc | apply Gr.drewN | apply Gr.drew | apply Gr.iter | (refine Gr.setCell ?_ (by simp) _) | (refine Gr.trans ?_ (by assumption))))) (WalkX.gr (w := wr) HS.out.walk (by repeat (with_reducible first | assumption | exact Gr.refl _ | apply Gr.alloc | apply Gr.drewN | apply Gr.drew | apply Gr.iter | (refine Gr.setCell ?_ (by simp) _) | (refine Gr.trans ?_ (by assumption))))) HS.out.pl.ok (by omega) (by omega)).mono ?_; rw [HP.out]; rintro e w5 ⟨pv, lb2, rfl, hp5, hW5, hl5, hk5⟩; have hg5 : Gr w w5 := Gr.kgs (by repeat (with_reducible first | assumption | exact Gr.refl _ | apply Gr.alloc | apply Gr.drewN | apply Gr.drew | apply Gr.iter | (refine Gr.setCell ?_ (by simp) _) | (refine Gr.trans ?_ (by assumption)))) hk5 (fun b h => h ▸ HS.out.wg0); have hB5 := BldX.kg (BldX.gr (w := wr) HS.out.bld (by repeat (with_reducible first | assumption | exact Gr.refl _ | apply Gr.alloc | apply Gr.drewN | apply Gr.drew | apply Gr.iter | (refine Gr.setCell ?_ (by simp) _) | (refine Gr.trans ?_ (by assumption))))) hk5 (by decide) (by decide) (by decide); have hsh := hp5.short; obtain ⟨hst, hsv⟩ := hp5.sz; rw [hop] at hst hsv; obtain ⟨T, y, fl, hpv, hml, hel, hcl⟩ := len_meth hp5; have HCL := Lib.hid hcl; clear hcl; obtain ⟨T2, y2, fo, hpv2, hmo, heo, hco⟩ := op_meth hp5 hgood; have hpe := hpv.symm.trans hpv2; injection hpe with hpe1 hpe2; subst hpe1; subst hpe2; rw [hop] at hco; have HCO := Lib.hid hco; clear hco hpv2; subst hpv)
          | (go_at_fn fo; refine (HCO.out _ (by repeat (with_reducible first | assumption | exact Gr.refl _ | apply Gr.alloc | apply Gr.drewN | apply Gr.drew | apply Gr.iter | (refine Gr.setCell ?_ (by simp) _) | (refine Gr.trans ?_ (by assumption))))).mono ?_; rintro e w6 ⟨sv, rfl, hs6, hg6⟩; obtain ⟨sa, sn, sc, rfl, -, -, -⟩ := hs6.sl; dsimp only [opV])
          | (go_at_call 38; refine (push_x w3.heap.size row s ok ot ova ovb ovt oc _ oats _ w hE (by repeat (with_reducible first | assumption | exact Gr.refl _ | apply Gr.alloc | apply Gr.drewN | apply Gr.drew | apply Gr.iter | (refine Gr.setCell ?_ (by simp) _) | (refine Gr.trans ?_ (by assumption)))) HS.out.bg0 HS.out.rows (OwnA.rd (OwnAL.rd (hats ▸ hs6) (hats ▸ hsh))) hst hsv (BldX.gr (w := w5) hB5 (by repeat (with_reducible first | assumption | exact Gr.refl _ | apply Gr.alloc | apply Gr.drewN | apply Gr.drew | apply Gr.iter | (refine Gr.setCell ?_ (by simp) _) | (refine Gr.trans ?_ (by assumption))))) HS.out.pl.inv q7 (fun _ _ => by rw [hto]; exact HQ.out.2.2)).mono ?_; rw [HQ.out.1]; rintro e w7 ⟨rfl, hk7, row7, hB7, hr7⟩; have hW6 := WalkX.gr (w' := w6) hW5 (by repeat (with_reducible first | assumption | exact Gr.refl _ | apply Gr.alloc | apply Gr.drewN | apply Gr.drew | apply Gr.iter | (refine Gr.setCell ?_ (by simp) _) | (refine Gr.trans ?_ (by assumption)))))
          | (go_at_fn fl; refine (HCL.out _).mono ?_; rintro e w8 ⟨rfl, hg8⟩))
        go_roundw
        case rel =>
          have hS := HS.out
          have hg78 : Gr w7 w8 := (by repeat (with_reducible first | assumption | exact Gr.refl _ | apply Gr.alloc | apply Gr.drewN | apply Gr.drew | apply Gr.iter | (refine Gr.setCell ?_ (by simp) _) | (refine Gr.trans ?_ (by assumption))))
          have hg6' : Gr w w6 := (by repeat (with_reducible first | assumption | exact Gr.refl _ | apply Gr.alloc | apply Gr.drewN | apply Gr.drew | apply Gr.iter | (refine Gr.setCell ?_ (by simp) _) | (refine Gr.trans ?_ (by assumption))))
          have hlb2 : r ≠ [] → ∀ b, lb2 = some b → b ≠ w3.heap.size ∧ row ≠ some b := fun hne b hb => by
            rcases hl5 b hb with h | h
            · exact hS.lbs (hnn hne) b h
            · exact ⟨by omega, fun e => by have := (hS.bld.row_lt b e).1; omega⟩
          have hg7 : Gr w w7 := Gr.kgs hg6' hk7 (fun b h => by
            rcases h with rfl | h | h
            · exact hS.bg0
            · exact hS.rows b h
            · exact Nat.le_trans hg6'.size h)
          refine ⟨a + p.len.toNat, lb2, row7, r, _, by go_num, by omega, hg7.trans hg78, (hW6.kgb hk7 hlb2).gr hg78, hB7.gr hg78, HQ.out.2.1, fun hne b hb => ?_, fun b hb => ?_, hS.wg0, hS.bg0⟩
          · obtain ⟨h3, h4⟩ := hlb2 hne b hb
            refine ⟨h3, fun e => ?_⟩
            rcases hr7 b e with h | h
            · exact h4 h
            · have := hW6.lb_lt hne b hb; omega
          · rcases hr7 b hb with h | h
            · exact hS.rows b h
            · exact Nat.le_trans hg6'.size h
        case measure => simp [intOf]; omega
    · obtain rfl : a = t := by omega
      obtain ⟨d1, d2, d3⟩ := hS.pl.delta
      have hlen : s.pieces.length + 1 ≤ 1099511627776 := by
        have h1 := len_units hS.pl.good.ok
        rw [hS.pl.us, List.length_take, List.length_drop] at h1
        omega
      have hd4 : trimU ((U.drop f).take (a - f)) = (U.drop f).take (a - f) := trim_doc fun x hx => HZ.out.2 x (List.mem_of_mem_drop (List.mem_of_mem_take hx))
      rw [hd4] at d3
      have HD := Lib.hid (And.intro d1 (And.intro d2 d3)); clear d1 d2 d3 hd4
      obtain ⟨hgr, -, hbld, -, -, -, -, -⟩ := hS
      go_wp2_with (go_at_call 39; refine (delta_x w3.heap.size row s _ (BldX.gr (w := wr) hbld (by repeat (with_reducible first | assumption | exact Gr.refl _ | apply Gr.alloc | apply Gr.drewN | apply Gr.drew | apply Gr.iter | (refine Gr.setCell ?_ (by simp) _) | (refine Gr.trans ?_ (by assumption))))) hlen).mono ?_; rintro e w5 ⟨v5, rfl, hd5, hg5⟩; obtain ⟨g5, sl5, rfl, hd5⟩ := hd5)
      go_ret2
      exact ⟨_, _, ret_pp rfl rfl, ⟨_, _, rfl, hd5⟩, HD.out.1, HD.out.2.1, HD.out.2.2, (by repeat (with_reducible first | assumption | exact Gr.refl _ | apply Gr.alloc | apply Gr.drewN | apply Gr.drew | apply Gr.iter | (refine Gr.setCell ?_ (by simp) _) | (refine Gr.trans ?_ (by assumption))))⟩
end Ve
