/- Walks: the law WalkBack. -/
import Derived.Test.YtapolkhdikdjbaaGreatDoorRV
set_option linter.all false
namespace Ve
open Go Go.RowKit Go.Proofs

/-- A list of numbers in memory. -/
def IntR (_ : World) (x : Int) (cs : List Value) : Prop := cs = [.int .i64 x] ∧ x ≤ 9223372036854775807
abbrev RdInts (w : World) (v : Value) (l : List Int) : Prop := RdList IntR 1 w v l
theorem RdInts.gr {w w' : World} {v : Value} {l : List Int} (h : RdInts w v l) (g : Gr w w') : RdInts w' v l := RdList.gr (w := w) h (fun _ _ h => h) g
theorem RdInts.at_ {w : World} {a : Option Addr} {n cap : Nat} {l : List Int} (h : RdInts w (.slice a n cap) l) (i : Nat) (hi : i < n) : ∃ b off x, l[i]? = some x ∧ a = some ⟨b, off, none⟩ ∧ w.cell? ⟨b, off + i, none⟩ = some (.int .i64 x) ∧ x ≤ 9223372036854775807 := by
  obtain ⟨b, off, x, cs, e, hx, ⟨rfl, hb⟩, _, hc⟩ := RdList.get h i hi
  have := hc 0 _ (by omega) rfl
  exact ⟨b, off, x, hx, e, by simpa using this, hb⟩
/-- Two lists of operations joined. -/
theorem app_ops (w : World) (base : Nat) (ty : TypeId) {v x : Value} {l m : List Op} (hown : OwnOps base w v l) (hx : RdList OpO 7 w x m) (hm : l.length + m.length ≤ 1099511627776) (hb : base ≤ w.heap.size) :
    ∃ v' w', (Builtin.append_ #[22, 22] ty #[v, x]).run Tryz.prog w = .ok v' w' ∧ OwnOps base w' v' (l ++ m) ∧ Kg (fun b => v.ownBlock = some b) opT w w' := by
  obtain ⟨xs, ho, hr⟩ := id hown
  have hk : ∀ w', w.grownBy w' v.ownBlock → Kg (fun b => v.ownBlock = some b) opT w w' := fun w' hg => Kg.of_own ho (by decide) (fun b h => h) hg
  obtain ⟨v', w', r1, r2, r3, -⟩ := run_appL (P := Tryz.prog) (R := OpO) w base 22 ty 46 _ 7 88 Tryz.underlying22 info_op rfl (by omega) (by omega) (OpO.flat w) hown hx hm hb
    (fun w' y cs hg h => OpO.tn h (Tn.of_kg (Wr := fun _ t => t = some 46) (hk w' hg) fun b t _ ht => by unfold opT at ht; rw [beq_iff_eq.1 ht]) fun b h => by injection h with h; exact absurd h (by decide))
  exact ⟨v', w', r1, r2, hk w' r3⟩
theorem op_dest' (p : Piece) : ∃ k t va vb vt c a, p.op = ⟨k, t, ⟨va, vb, vt⟩, c, a⟩ := ⟨_, _, _, _, _, _, _, rfl⟩
/-- What the program holds between two rounds of WalkBack. -/
structure WbM (w : World) (wg bg : Nat) (lb row : Option Nat) (rs : List Piece) (s : Bld) (wr : World) : Prop where
  gr : Gr w wr
  walk : WalkX wr wg lb rs
  bld : BldX wr bg row s
  lbs : rs ≠ [] → ∀ b, lb = some b → b ≠ bg ∧ row ≠ some b
  rows : ∀ b, row = some b → w.heap.size ≤ b
  wg0 : w.heap.size ≤ wg
  bg0 : w.heap.size ≤ bg
set_option maxRecDepth 20000 in
set_option maxHeartbeats 8000000 in
theorem walkBack_any {ea : Nat → Addr} (l : List Op) (v : Value) (ls : List Int) (vl : Value) (at_ : Int) (w : World) (hE : Env ea w) (hl : RdOps w v l) (hT : opsum l ≤ 1048576) (hN : l.length ≤ 1048576) (hls : RdInts w vl ls) :
    Calls Tryz.prog 5 #[v, vl, .int .i64 at_] w fun e w' => e = .returned (.bool true) ∧ Gr w w' := by
  have HBl := heavy_bound hl hT hN
  obtain ⟨aa, na, ca, rfl, -⟩ := hl.sl
  obtain ⟨al, nl, cl, rfl, -, -, -, hnl⟩ := hls.sl
  by_cases hha : heavyN l ≤ 6000
  case neg =>
    have HA := Lib.hid (show decide (6000 < heavyN l) = true from by simpa using hha); clear hha
    go_enter Tryz.func5, Tryz.ntmps5
    go_wp2_with (first
                | (go_at_call 15; refine (lives07_any _ (hE.gr (by repeat (with_reducible first | assumption | exact Gr.refl _ | apply Gr.alloc | apply Gr.drewN | apply Gr.drew | apply Gr.iter | (refine Gr.setCell ?_ (by simp) _) | (refine Gr.trans ?_ (by assumption)))))).mono ?_; rintro e w1 ⟨rfl, hg1⟩)
                | (go_at_call 16; refine (heavy_any l _ _ (RdOps.gr hl (by repeat (with_reducible first | assumption | exact Gr.refl _ | apply Gr.alloc | apply Gr.drewN | apply Gr.drew | apply Gr.iter | (refine Gr.setCell ?_ (by simp) _) | (refine Gr.trans ?_ (by assumption))))) HBl).mono ?_; rw [HA.out]; rintro e w2 ⟨rfl, hg2⟩)
                | (go_at_call 17; refine (made_any l _ _ (hE.gr (by repeat (with_reducible first | assumption | exact Gr.refl _ | apply Gr.alloc | apply Gr.drewN | apply Gr.drew | apply Gr.iter | (refine Gr.setCell ?_ (by simp) _) | (refine Gr.trans ?_ (by assumption))))) (RdOps.gr hl (by repeat (with_reducible first | assumption | exact Gr.refl _ | apply Gr.alloc | apply Gr.drewN | apply Gr.drew | apply Gr.iter | (refine Gr.setCell ?_ (by simp) _) | (refine Gr.trans ?_ (by assumption))))) HZ.out.1 HZ.out.2.1 HZ.out.2.2).mono ?_; rw [GA.out]; rintro e w4 ⟨dv, ov, rfl, hg4, hda, -⟩))
    go_ret
    exact ⟨rfl, (by repeat (with_reducible first | assumption | exact Gr.refl _ | apply Gr.alloc | apply Gr.drewN | apply Gr.drew | apply Gr.iter | (refine Gr.setCell ?_ (by simp) _) | (refine Gr.trans ?_ (by assumption))))⟩
  case pos =>
    have HA := Lib.hid (show decide (6000 < heavyN l) = false from by simpa using hha)
    by_cases hls3 : 300 < nl
    case pos =>
      have hls3' : (300 : Int) < nl := by omega
      clear hha
      go_enter Tryz.func5, Tryz.ntmps5
      go_wp2_with (first
                  | (go_at_call 15; refine (lives07_any _ (hE.gr (by repeat (with_reducible first | assumption | exact Gr.refl _ | apply Gr.alloc | apply Gr.drewN | apply Gr.drew | apply Gr.iter | (refine Gr.setCell ?_ (by simp) _) | (refine Gr.trans ?_ (by assumption)))))).mono ?_; rintro e w1 ⟨rfl, hg1⟩)
                  | (go_at_call 16; refine (heavy_any l _ _ (RdOps.gr hl (by repeat (with_reducible first | assumption | exact Gr.refl _ | apply Gr.alloc | apply Gr.drewN | apply Gr.drew | apply Gr.iter | (refine Gr.setCell ?_ (by simp) _) | (refine Gr.trans ?_ (by assumption))))) HBl).mono ?_; rw [HA.out]; rintro e w2 ⟨rfl, hg2⟩)
                  | (go_at_call 17; refine (made_any l _ _ (hE.gr (by repeat (with_reducible first | assumption | exact Gr.refl _ | apply Gr.alloc | apply Gr.drewN | apply Gr.drew | apply Gr.iter | (refine Gr.setCell ?_ (by simp) _) | (refine Gr.trans ?_ (by assumption))))) (RdOps.gr hl (by repeat (with_reducible first | assumption | exact Gr.refl _ | apply Gr.alloc | apply Gr.drewN | apply Gr.drew | apply Gr.iter | (refine Gr.setCell ?_ (by simp) _) | (refine Gr.trans ?_ (by assumption))))) HZ.out.1 HZ.out.2.1 HZ.out.2.2).mono ?_; rw [GA.out]; rintro e w4 ⟨dv, ov, rfl, hg4, hda, -⟩))
      go_ret
      exact ⟨rfl, (by repeat (with_reducible first | assumption | exact Gr.refl _ | apply Gr.alloc | apply Gr.drewN | apply Gr.drew | apply Gr.iter | (refine Gr.setCell ?_ (by simp) _) | (refine Gr.trans ?_ (by assumption))))⟩
    case neg =>
      have hls3' : ¬ (300 : Int) < nl := by omega
      obtain ⟨ya1, ya2, ya3⟩ := heavy_parts hha
      have HZ := Lib.hid (show opsum l ≤ 1099511627776 ∧ 2 * l.length + 4 ≤ 1099511627776 ∧ ∀ o ∈ l, o.attrs.length + 1 ≤ 1099511627776 from ⟨by omega, by omega, fun o ho => by have := ya3 o ho; omega⟩)
      clear ya1 ya2 ya3
      by_cases ga : (pushAll l).2.2 = 0
      case neg =>
        have GA := Lib.hid (show decide ((pushAll l).2.2 = 0) = false from decide_eq_false ga); clear ga hha
        go_enter Tryz.func5, Tryz.ntmps5
        go_wp2_with (first
                    | (go_at_call 15; refine (lives07_any _ (hE.gr (by repeat (with_reducible first | assumption | exact Gr.refl _ | apply Gr.alloc | apply Gr.drewN | apply Gr.drew | apply Gr.iter | (refine Gr.setCell ?_ (by simp) _) | (refine Gr.trans ?_ (by assumption)))))).mono ?_; rintro e w1 ⟨rfl, hg1⟩)
                    | (go_at_call 16; refine (heavy_any l _ _ (RdOps.gr hl (by repeat (with_reducible first | assumption | exact Gr.refl _ | apply Gr.alloc | apply Gr.drewN | apply Gr.drew | apply Gr.iter | (refine Gr.setCell ?_ (by simp) _) | (refine Gr.trans ?_ (by assumption))))) HBl).mono ?_; rw [HA.out]; rintro e w2 ⟨rfl, hg2⟩)
                    | (go_at_call 17; refine (made_any l _ _ (hE.gr (by repeat (with_reducible first | assumption | exact Gr.refl _ | apply Gr.alloc | apply Gr.drewN | apply Gr.drew | apply Gr.iter | (refine Gr.setCell ?_ (by simp) _) | (refine Gr.trans ?_ (by assumption))))) (RdOps.gr hl (by repeat (with_reducible first | assumption | exact Gr.refl _ | apply Gr.alloc | apply Gr.drewN | apply Gr.drew | apply Gr.iter | (refine Gr.setCell ?_ (by simp) _) | (refine Gr.trans ?_ (by assumption))))) HZ.out.1 HZ.out.2.1 HZ.out.2.2).mono ?_; rw [GA.out]; rintro e w4 ⟨dv, ov, rfl, hg4, hda, -⟩))
        go_ret
        exact ⟨rfl, (by repeat (with_reducible first | assumption | exact Gr.refl _ | apply Gr.alloc | apply Gr.drewN | apply Gr.drew | apply Gr.iter | (refine Gr.setCell ?_ (by simp) _) | (refine Gr.trans ?_ (by assumption))))⟩
      case pos =>
        have GA := Lib.hid (show decide ((pushAll l).2.2 = 0) = true from decide_eq_true ga)
        have pa : pushAll l = ((pushAll l).1, 0, 0) := by obtain ⟨e1, e2⟩ := push_put (s := .new) (i := 0) (l := l) ga; exact (show pushAll l = _ from e1).trans (by rw [show (pushAll l).1 = putAll .new l from congrArg (·.1) (show pushAll l = _ from e1)])
        obtain ⟨hp, lp, tp⟩ := made_facts hha pa
        obtain ⟨ps, hps⟩ : ∃ ps, (pushAll l).1.delta = ps := ⟨_, rfl⟩
        rw [hps] at hp lp tp
        have PA := Lib.hid hps; have GA0 := Lib.hid ga
        have LP := Lib.hid (And.intro lp tp)
        clear hps ga pa hha lp tp
        go_enter Tryz.func5, Tryz.ntmps5
        go_wp2_with (first
                    | (go_at_call 15; refine (lives07_any _ (hE.gr (by repeat (with_reducible first | assumption | exact Gr.refl _ | apply Gr.alloc | apply Gr.drewN | apply Gr.drew | apply Gr.iter | (refine Gr.setCell ?_ (by simp) _) | (refine Gr.trans ?_ (by assumption)))))).mono ?_; rintro e w1 ⟨rfl, hg1⟩)
                    | (go_at_call 16; refine (heavy_any l _ _ (RdOps.gr hl (by repeat (with_reducible first | assumption | exact Gr.refl _ | apply Gr.alloc | apply Gr.drewN | apply Gr.drew | apply Gr.iter | (refine Gr.setCell ?_ (by simp) _) | (refine Gr.trans ?_ (by assumption))))) HBl).mono ?_; rw [HA.out]; rintro e w2 ⟨rfl, hg2⟩)
                    | (go_at_call 17; refine (made_any l _ _ (hE.gr (by repeat (with_reducible first | assumption | exact Gr.refl _ | apply Gr.alloc | apply Gr.drewN | apply Gr.drew | apply Gr.iter | (refine Gr.setCell ?_ (by simp) _) | (refine Gr.trans ?_ (by assumption))))) (RdOps.gr hl (by repeat (with_reducible first | assumption | exact Gr.refl _ | apply Gr.alloc | apply Gr.drewN | apply Gr.drew | apply Gr.iter | (refine Gr.setCell ?_ (by simp) _) | (refine Gr.trans ?_ (by assumption))))) HZ.out.1 HZ.out.2.1 HZ.out.2.2).mono ?_; rw [GA.out]; rintro e w4 ⟨dv, ov, rfl, hg4, hda, -⟩; obtain ⟨hda1, hda2⟩ := hda GA0.out; rw [PA.out] at hda1 hda2; obtain ⟨gd, sd, rfl, hBd, hrd⟩ := hda1; have hD4 := Lib.hid (show DeltaR w4 (.pointer (some ⟨gd, 0, none⟩)) ps from ⟨gd, sd, rfl, hBd, hrd⟩); obtain ⟨oa, on, oc, rfl, -⟩ := hda2.sl; have hO4 := Lib.hid hda2; clear hda hda2 hBd hrd)
                    | (go_at_call 18; refine (wnew_any ps _ _ (hE.gr (by repeat (with_reducible first | assumption | exact Gr.refl _ | apply Gr.alloc | apply Gr.drewN | apply Gr.drew | apply Gr.iter | (refine Gr.setCell ?_ (by simp) _) | (refine Gr.trans ?_ (by assumption))))) (DeltaR.gr (w := w4) hD4.out (by repeat (with_reducible first | assumption | exact Gr.refl _ | apply Gr.alloc | apply Gr.drewN | apply Gr.drew | apply Gr.iter | (refine Gr.setCell ?_ (by simp) _) | (refine Gr.trans ?_ (by assumption))))) hp.ok).mono ?_; rintro e w5 ⟨gw, lb, rfl, hgw, hW5, hlb, hg5⟩)
                    | (go_at_call 33; refine (newx_any _).mono ?_; rintro e w6 ⟨rfl, hB6, hg6⟩))
        have hE4 : Env ea w4 := hE.gr (by repeat (with_reducible first | assumption | exact Gr.refl _ | apply Gr.alloc | apply Gr.drewN | apply Gr.drew | apply Gr.iter | (refine Gr.setCell ?_ (by simp) _) | (refine Gr.trans ?_ (by assumption))))
        have hgw4 : Gr w w4 := (by repeat (with_reducible first | assumption | exact Gr.refl _ | apply Gr.alloc | apply Gr.drewN | apply Gr.drew | apply Gr.iter | (refine Gr.setCell ?_ (by simp) _) | (refine Gr.trans ?_ (by assumption))))
        have hls4 : RdInts w4 (.slice al nl cl) ls := RdInts.gr hls hgw4
        have hb5 := hW5.lb_lt
        obtain ⟨bg, hbg⟩ : ∃ bg, w5.heap.size = bg := ⟨_, rfl⟩
        rw [hbg] at hB6 hb5 ⊢
        have hbg4 : w4.heap.size ≤ bg := by rw [← hbg]; exact Gr.size (w := w4) (w' := w5) (by repeat (with_reducible first | assumption | exact Gr.refl _ | apply Gr.alloc | apply Gr.drewN | apply Gr.drew | apply Gr.iter | (refine Gr.setCell ?_ (by simp) _) | (refine Gr.trans ?_ (by assumption))))
        have hg46 : Gr w4 w6 := (by repeat (with_reducible first | assumption | exact Gr.refl _ | apply Gr.alloc | apply Gr.drewN | apply Gr.drew | apply Gr.iter | (refine Gr.setCell ?_ (by simp) _) | (refine Gr.trans ?_ (by assumption))))
        have hub := units_bound hp
        clear hg1 hg2 hg4 hbg
        go_loopw [12, 13] (fun sv iv wr => ∃ (k : Nat) (tk rs : List Piece) (s : Bld) (lb' row : Option Nat), iv = .int .i64 k ∧ sv = .int .i64 ((units tk).length : Int) ∧ tk.length = k ∧ WbI ps tk rs s ∧ WbM w4 gw bg lb' row rs s wr ∧ rs.length ≤ ps.length ∧ (nl ≤ k → rs.length + k ≤ ps.length + nl)) (fun sv _ _ => (units ps).length - (intOf sv).toNat)
        case atStart =>
          refine ⟨0, [], ps, .new, lb, none, rfl, rfl, rfl, WbI.new hp, ⟨hg46, hW5.gr hg6, hB6, fun hne b hb => ⟨?_, by simp⟩, by simp, hgw, hbg4⟩, Nat.le_refl _, by omega⟩
          have := hb5 hne b hb
          omega
        case round =>
          obtain ⟨k, tk, rs, s, lb', row, rfl, rfl, hkl, hI, hS, hrl, hrk⟩ := hrel
          have hk2 : k ≤ 12301 := by have := LP.out.1; omega
          have hul := hI.len
          by_cases hrs : rs = []
          · have HDn := Lib.hid (show decide (rs = []) = true from decide_eq_true hrs)
            have hI0 : WbI ps tk [] s := hrs ▸ hI
            have hdn := hI0.done hp (by omega) LP.out.2 LP.out.1
            have hdg : ∀ p ∈ s.delta, p.good := fun p hp' => by
              have : p.op ∈ ps.map Piece.op := by rw [← hdn]; exact List.mem_map.2 ⟨p, hp', rfl⟩
              obtain ⟨q, hq, e⟩ := List.mem_map.1 this
              exact good_of_op e.symm (hp.ok.good q hq)
            have HGd := Lib.hid (And.intro hdg hdn); clear hdg hdn
            have HDl := Lib.hid (show s.pieces.length + 1 ≤ 1099511627776 by have := hI.inv.len; omega)
            have hgr := hS.gr
            have HS := Lib.hid hS; clear hS
            go_wp2_with (first
                        | (go_at_call 30; refine (wdone_any gw lb' rs _ (WalkX.gr (w := wr) HS.out.walk (by repeat (with_reducible first | assumption | exact Gr.refl _ | apply Gr.alloc | apply Gr.drewN | apply Gr.drew | apply Gr.iter | (refine Gr.setCell ?_ (by simp) _) | (refine Gr.trans ?_ (by assumption)))))).mono ?_; rw [HDn.out]; rintro e x1 ⟨rfl, hx1⟩; (try have hcx1 := Gr.cell (w := wr) (w' := x1) hx1 hcx))
                        | (go_at_call 25; refine (wrest_any gw lb' rs _ (hE4.gr (Gr.trans HS.out.gr (by repeat (with_reducible first | assumption | exact Gr.refl _ | apply Gr.alloc | apply Gr.drewN | apply Gr.drew | apply Gr.iter | (refine Gr.setCell ?_ (by simp) _) | (refine Gr.trans ?_ (by assumption)))))) (WalkX.gr (w := wr) HS.out.walk (by repeat (with_reducible first | assumption | exact Gr.refl _ | apply Gr.alloc | apply Gr.drewN | apply Gr.drew | apply Gr.iter | (refine Gr.setCell ?_ (by simp) _) | (refine Gr.trans ?_ (by assumption))))) HI.out.can HR.out.1 HR.out.2).mono ?_; rintro e x2 ⟨v2, rfl, hd2, hx2⟩; obtain ⟨g2, sl2, hv2, hbr2⟩ := hd2; subst hv2; have hD2 : DeltaR x2 (.pointer (some ⟨g2, 0, none⟩)) rs := ⟨g2, sl2, rfl, hbr2⟩; clear hbr2)
                        | (go_at_call 35; refine (gathered_any ps _ ((units tk).length : Int) _ (DeltaR.gr (w := w4) hD4.out (Gr.trans HS.out.gr (by repeat (with_reducible first | assumption | exact Gr.refl _ | apply Gr.alloc | apply Gr.drewN | apply Gr.drew | apply Gr.iter | (refine Gr.setCell ?_ (by simp) _) | (refine Gr.trans ?_ (by assumption)))))) hp.ok (by omega) HR2.out).mono ?_; rintro e x3 ⟨v3, rfl, ho3, hx3⟩; obtain ⟨a3, n3, c3, rfl, -⟩ := ho3.sl)
                        | (go_at_call 36; refine (dops_any rs _ _ (hD2.gr (by repeat (with_reducible first | assumption | exact Gr.refl _ | apply Gr.alloc | apply Gr.drewN | apply Gr.drew | apply Gr.iter | (refine Gr.setCell ?_ (by simp) _) | (refine Gr.trans ?_ (by assumption))))) HI.out.can.ok.good).mono ?_; rintro e x4 ⟨v4, rfl, ho4, hx4⟩; obtain ⟨a4, n4, c4, rfl, -⟩ := ho4.sl; obtain ⟨v5, x5, r5, o5, k5⟩ := app_ops x4 x2.heap.size 22 (OwnOps.gr (w := x3) ho3 hx4) (OwnL.rd ho4 HR3.out.1) HR3.out.2 (Gr.size (w := x2) (w' := x4) (by repeat (with_reducible first | assumption | exact Gr.refl _ | apply Gr.alloc | apply Gr.drewN | apply Gr.drew | apply Gr.iter | (refine Gr.setCell ?_ (by simp) _) | (refine Gr.trans ?_ (by assumption))))); obtain ⟨a5, n5, c5, rfl, -⟩ := o5.sl; have hx5 : Gr wr x5 := Gr.kgs (show Gr wr x4 from (by repeat (with_reducible first | assumption | exact Gr.refl _ | apply Gr.alloc | apply Gr.drewN | apply Gr.drew | apply Gr.iter | (refine Gr.setCell ?_ (by simp) _) | (refine Gr.trans ?_ (by assumption))))) k5 (fun b h => by obtain ⟨xs, ho, -⟩ := ho3; exact Nat.le_trans (Gr.size (w := wr) (w' := x2) (by repeat (with_reducible first | assumption | exact Gr.refl _ | apply Gr.alloc | apply Gr.drewN | apply Gr.drew | apply Gr.iter | (refine Gr.setCell ?_ (by simp) _) | (refine Gr.trans ?_ (by assumption))))) (own_fr ho b h)); have HP5 := Lib.hid (And.intro r5 o5); clear r5 o5 k5)
                        | (at_builtin; refine wpList_run rfl _ _ _ rfl rfl rfl HP5.out.1 ?_)
                        | (go_at_call 34; refine (rcanon06_any ((gathP ps ((units tk).length : Int) ++ rs).map Piece.op) _ _ (OwnOps.rd (base := x2.heap.size) (w := x5) (by rw [List.map_append]; exact HP5.out.2) HT.out.2.2.1) HT.out.2.2.2.1 HT.out.2.2.2.2.1 HT.out.2.1 HT.out.2.2.2.2.2.1 HT.out.2.2.2.2.2.2).mono ?_; rw [HT.out.1]; rintro e x6 ⟨v6, rfl, ho6, hx6⟩; obtain ⟨a6, n6, c6, rfl, -⟩ := ho6.sl; have hr6 := OwnR.rd ho6 hx6 (by rw [List.length_map]; have := LP.out.1; omega))
                        | (go_at_call 37; refine (sameops_any (ps.map Piece.op) (ps.map Piece.op) _ _ _ (RdOps.gr hr6 (by repeat (with_reducible first | assumption | exact Gr.refl _ | apply Gr.alloc | apply Gr.drewN | apply Gr.drew | apply Gr.iter | (refine Gr.setCell ?_ (by simp) _) | (refine Gr.trans ?_ (by assumption))))) (RdOps.gr (w := w4) hO4.out (Gr.trans HS.out.gr (by repeat (with_reducible first | assumption | exact Gr.refl _ | apply Gr.alloc | apply Gr.drewN | apply Gr.drew | apply Gr.iter | (refine Gr.setCell ?_ (by simp) _) | (refine Gr.trans ?_ (by assumption))))))).mono ?_; rw [decide_eq_true (rfl : ps.map Piece.op = ps.map Piece.op)]; rintro e x7 ⟨rfl, hx7⟩)
                        | (go_at_call 19; refine (wnext_int gw lb' rs nn _ (hE4.gr (Gr.trans HS.out.gr (by repeat (with_reducible first | assumption | exact Gr.refl _ | apply Gr.alloc | apply Gr.drewN | apply Gr.drew | apply Gr.iter | (refine Gr.setCell ?_ (by simp) _) | (refine Gr.trans ?_ (by assumption)))))) (WalkX.gr (w := wr) HS.out.walk (by repeat (with_reducible first | assumption | exact Gr.refl _ | apply Gr.alloc | apply Gr.drewN | apply Gr.drew | apply Gr.iter | (refine Gr.setCell ?_ (by simp) _) | (refine Gr.trans ?_ (by assumption))))) HI.out.can.ok HNN.out.1 HNN.out.2).mono ?_; rw [HP.out]; rintro e y1 ⟨pv, lb2, rfl, hp5, hY1, hl5, hk5⟩; have hgy1 : Gr w4 y1 := Gr.kgs (Gr.trans HS.out.gr (by repeat (with_reducible first | assumption | exact Gr.refl _ | apply Gr.alloc | apply Gr.drewN | apply Gr.drew | apply Gr.iter | (refine Gr.setCell ?_ (by simp) _) | (refine Gr.trans ?_ (by assumption))))) hk5 (fun b h => h ▸ HS.out.wg0); have hBy1 := BldX.kg (BldX.gr (w := wr) HS.out.bld (by repeat (with_reducible first | assumption | exact Gr.refl _ | apply Gr.alloc | apply Gr.drewN | apply Gr.drew | apply Gr.iter | (refine Gr.setCell ?_ (by simp) _) | (refine Gr.trans ?_ (by assumption))))) hk5 (by decide) (by decide) (by decide); have hsh := hp5.short; obtain ⟨hst, hsv⟩ := hp5.sz; rw [hop] at hst hsv; obtain ⟨T, y, fl, hpv, hml, hel, hcl⟩ := len_meth hp5; rw [HLn.out] at hcl; have HCL := Lib.hid hcl; clear hcl; obtain ⟨T2, yy2, fo, hpv2, hmo, heo, hco⟩ := op_meth hp5 hgood; have hpe := hpv.symm.trans hpv2; injection hpe with hpe1 hpe2; subst hpe1; subst hpe2; rw [hop] at hco; have HCO := Lib.hid hco; clear hco hpv2; subst hpv)
                        | (go_at_fn fo; refine (HCO.out _ (by repeat (with_reducible first | assumption | exact Gr.refl _ | apply Gr.alloc | apply Gr.drewN | apply Gr.drew | apply Gr.iter | (refine Gr.setCell ?_ (by simp) _) | (refine Gr.trans ?_ (by assumption))))).mono ?_; rintro e y4 ⟨sv, rfl, hs6, hy4⟩; obtain ⟨sa, sn, sc, rfl, -, -, -⟩ := hs6.sl; dsimp only [opV])
                        | (go_at_call 38; refine (push_x bg row s ok ot ova ovb ovt oc _ oats _ w4 hE4 (Gr.trans hgy1 (by repeat (with_reducible first | assumption | exact Gr.refl _ | apply Gr.alloc | apply Gr.drewN | apply Gr.drew | apply Gr.iter | (refine Gr.setCell ?_ (by simp) _) | (refine Gr.trans ?_ (by assumption))))) HS.out.bg0 HS.out.rows (OwnA.rd (OwnAL.rd (hats ▸ hs6) (hats ▸ hsh))) hst hsv (BldX.gr (w := y1) hBy1 (by repeat (with_reducible first | assumption | exact Gr.refl _ | apply Gr.alloc | apply Gr.drewN | apply Gr.drew | apply Gr.iter | (refine Gr.setCell ?_ (by simp) _) | (refine Gr.trans ?_ (by assumption))))) HI.out.inv HQ.out.2.2.2 (fun _ _ => by rw [hto]; exact HQ.out.2.2.1)).mono ?_; rw [HQ.out.1]; rintro e y5 ⟨rfl, hk7, row7, hB7, hr7⟩; have hW6 := WalkX.gr (w' := y4) hY1 (by repeat (with_reducible first | assumption | exact Gr.refl _ | apply Gr.alloc | apply Gr.drewN | apply Gr.drew | apply Gr.iter | (refine Gr.setCell ?_ (by simp) _) | (refine Gr.trans ?_ (by assumption)))); rw [errOf_zero])
                        | (go_at_fn fl; have _h := hk7; refine (HCL.out _).mono ?_; rintro e y6 ⟨rfl, hy6⟩)
                        | (go_at_fn fl; have _h := hy2; refine (HCL.out _).mono ?_; rintro e y3 ⟨rfl, hy3⟩)
                        | (go_at_fn fl; refine (HCL.out _).mono ?_; rintro e y2 ⟨rfl, hy2⟩)
                        | (go_at_call 39; refine (delta_x bg row s _ (BldX.gr (w := wr) HS.out.bld (by repeat (with_reducible first | assumption | exact Gr.refl _ | apply Gr.alloc | apply Gr.drewN | apply Gr.drew | apply Gr.iter | (refine Gr.setCell ?_ (by simp) _) | (refine Gr.trans ?_ (by assumption))))) HDl.out).mono ?_; rintro e z1 ⟨vz, rfl, hdz, hz1⟩)
                        | (go_at_call 24; refine (madeis_any s.delta (ps.map Piece.op) _ _ _ (DeltaR.gr (w := z1) hdz (by repeat (with_reducible first | assumption | exact Gr.refl _ | apply Gr.alloc | apply Gr.drewN | apply Gr.drew | apply Gr.iter | (refine Gr.setCell ?_ (by simp) _) | (refine Gr.trans ?_ (by assumption))))) HGd.out.1 (RdOps.gr (w := w4) hO4.out (Gr.trans HS.out.gr (by repeat (with_reducible first | assumption | exact Gr.refl _ | apply Gr.alloc | apply Gr.drewN | apply Gr.drew | apply Gr.iter | (refine Gr.setCell ?_ (by simp) _) | (refine Gr.trans ?_ (by assumption))))))).mono ?_; rw [decide_eq_true HGd.out.2]; rintro e z2 ⟨rfl, hz2⟩))
            go_ret
            exact ⟨rfl, Gr.trans hgw4 (Gr.trans hgr (by repeat (with_reducible first | assumption | exact Gr.refl _ | apply Gr.alloc | apply Gr.drewN | apply Gr.drew | apply Gr.iter | (refine Gr.setCell ?_ (by simp) _) | (refine Gr.trans ?_ (by assumption)))))⟩
          · have HDn := Lib.hid (show decide (rs = []) = false from decide_eq_false hrs)
            have hts := hI.tsz hp
            have hor := opsum_ps hI.can.ok
            have HR := Lib.hid (show opsum (rs.map Piece.op) ≤ 1099511627776 ∧ 2 * rs.length + 2 ≤ 1099511627776 from ⟨by have := LP.out; omega, by have := LP.out.1; omega⟩)
            have HR2 := Lib.hid (show ((units tk).length : Int) ≤ 4398046511104 by omega)
            have hgl := gathP_len ps ((units tk).length : Int)
            have HR3 := Lib.hid (show (rs.map Piece.op).length ≤ 1099511627776 ∧ ((gathP ps ((units tk).length : Int)).map Piece.op).length + (rs.map Piece.op).length ≤ 1099511627776 from ⟨by rw [List.length_map]; have := LP.out.1; omega, by rw [List.length_map, List.length_map]; have := LP.out.1; omega⟩)
            obtain ⟨tk1, tk2, tk3⟩ := hI.taken hp LP.out.2 LP.out.1 (by have := LP.out.1; omega) (n := ((units tk).length : Int)) rfl
            have tk4 := csum_ps tk3
            have HT := Lib.hid (show canon06 ((gathP ps ((units tk).length : Int) ++ rs).map Piece.op) = ps.map Piece.op ∧ opsum ((gathP ps ((units tk).length : Int) ++ rs).map Piece.op) ≤ 1099511627776 ∧ ((gathP ps ((units tk).length : Int) ++ rs).map Piece.op).length ≤ 1099511627776 ∧ (∀ o ∈ (gathP ps ((units tk).length : Int) ++ rs).map Piece.op, checkOp o = 0) ∧ (∀ o ∈ (gathP ps ((units tk).length : Int) ++ rs).map Piece.op, 0 ≤ o.count) ∧ csum ((gathP ps ((units tk).length : Int) ++ rs).map Piece.op) ≤ 4611686018427387000 ∧ 2 * ((gathP ps ((units tk).length : Int) ++ rs).map Piece.op).length + 4 ≤ 1099511627776 from by
              have hL : (gathP ps ((units tk).length : Int) ++ rs).length ≤ 24002 := by rw [List.length_append]; have := LP.out.1; omega
              refine ⟨tk1, tk2, by rw [List.length_map]; omega, tk3.ops, fun o ho => ?_, by omega, by rw [List.length_map]; omega⟩
              obtain ⟨q, hq, rfl⟩ := List.mem_map.1 ho
              exact (op_count (tk3 q hq)).1)
            clear tk1 tk2 tk3 tk4 hgl hor
            by_cases hkn : k < nl
            · have hkn' : (k : Int) < nl := by omega
              obtain ⟨b, off, xn, hx, rfl, hcx, hxn⟩ := (RdInts.gr hls4 hS.gr).at_ k hkn
              obtain ⟨nn, hnn⟩ : ∃ nn, max xn 1 = nn := ⟨_, rfl⟩
              have hn1 : 1 ≤ nn := by omega
              have hn2 : nn ≤ 9223372036854775807 := by omega
              have hrk2 : nl ≤ k → (nextP rs nn).2.length + 1 ≤ rs.length := fun h => by omega
              clear hx
              by_cases hat : (k : Int) = at_
              · subst hat
                obtain ⟨q1, q2, q3, q4, q5, q6, q7⟩ := hI.next hp hrs hn1 (by omega) LP.out.2
                have hrl2 := next_len rs nn
                obtain ⟨P, hP⟩ : ∃ P, nextP rs nn = P := ⟨_, rfl⟩
                have hnil : P.2 ≠ [] → rs ≠ [] := fun _ => hrs
                rw [hP] at q1 q2 q3 q4 q5 q6 hrl2 hrk2
                obtain ⟨p, r⟩ := P
                simp only at q1 q2 q3 q4 q5 q6 hrl2 hrk2 hnil
                have hup := unitsP_len q1
                have hun5 := q5.len
                rw [units_app, units_one, List.length_append] at hun5
                have HP := Lib.hid hP; clear hP
                obtain ⟨ok, ot, ova, ovb, ovt, oc, oats, hop⟩ := op_dest' p
                have hto : toPiece ⟨ok, ot, ⟨ova, ovb, ovt⟩, oc, oats⟩ = p := by rw [← hop]; exact q1.2
                have hgood : p.good := by rw [← q1.2]; exact good_of q1.1
                have hats := op_attrs p
                rw [hop] at hats q4 q5
                obtain ⟨M, hM⟩ : ∃ M, p.len = M := ⟨_, rfl⟩
                rw [hM] at q2 q3 hup
                have HLn := Lib.hid hM; clear hM
                have m1 : ¬ M < 1 := by omega
                have m2 : ¬ nn < M := by omega
                have m3 : ¬ (20000 : Int) < k := by omega
                have HQ := Lib.hid (And.intro q4 (And.intro q5 (And.intro q6 q7))); clear q4 q5 q6 q7 q1
                have HNN := Lib.hid (And.intro hn1 hn2)
                have hgr := hS.gr
                have hbgl := hS.bld.lt
                have HS := Lib.hid hS; clear hS
                have HI := Lib.hid hI; clear hI
                go_wp2_with (first
                            | (go_at_call 30; refine (wdone_any gw lb' rs _ (WalkX.gr (w := wr) HS.out.walk (by repeat (with_reducible first | assumption | exact Gr.refl _ | apply Gr.alloc | apply Gr.drewN | apply Gr.drew | apply Gr.iter | (refine Gr.setCell ?_ (by simp) _) | (refine Gr.trans ?_ (by assumption)))))).mono ?_; rw [HDn.out]; rintro e x1 ⟨rfl, hx1⟩; (try have hcx1 := Gr.cell (w := wr) (w' := x1) hx1 hcx))
                            | (go_at_call 25; refine (wrest_any gw lb' rs _ (hE4.gr (Gr.trans HS.out.gr (by repeat (with_reducible first | assumption | exact Gr.refl _ | apply Gr.alloc | apply Gr.drewN | apply Gr.drew | apply Gr.iter | (refine Gr.setCell ?_ (by simp) _) | (refine Gr.trans ?_ (by assumption)))))) (WalkX.gr (w := wr) HS.out.walk (by repeat (with_reducible first | assumption | exact Gr.refl _ | apply Gr.alloc | apply Gr.drewN | apply Gr.drew | apply Gr.iter | (refine Gr.setCell ?_ (by simp) _) | (refine Gr.trans ?_ (by assumption))))) HI.out.can HR.out.1 HR.out.2).mono ?_; rintro e x2 ⟨v2, rfl, hd2, hx2⟩; obtain ⟨g2, sl2, hv2, hbr2⟩ := hd2; subst hv2; have hD2 : DeltaR x2 (.pointer (some ⟨g2, 0, none⟩)) rs := ⟨g2, sl2, rfl, hbr2⟩; clear hbr2)
                            | (go_at_call 35; refine (gathered_any ps _ ((units tk).length : Int) _ (DeltaR.gr (w := w4) hD4.out (Gr.trans HS.out.gr (by repeat (with_reducible first | assumption | exact Gr.refl _ | apply Gr.alloc | apply Gr.drewN | apply Gr.drew | apply Gr.iter | (refine Gr.setCell ?_ (by simp) _) | (refine Gr.trans ?_ (by assumption)))))) hp.ok (by omega) HR2.out).mono ?_; rintro e x3 ⟨v3, rfl, ho3, hx3⟩; obtain ⟨a3, n3, c3, rfl, -⟩ := ho3.sl)
                            | (go_at_call 36; refine (dops_any rs _ _ (hD2.gr (by repeat (with_reducible first | assumption | exact Gr.refl _ | apply Gr.alloc | apply Gr.drewN | apply Gr.drew | apply Gr.iter | (refine Gr.setCell ?_ (by simp) _) | (refine Gr.trans ?_ (by assumption))))) HI.out.can.ok.good).mono ?_; rintro e x4 ⟨v4, rfl, ho4, hx4⟩; obtain ⟨a4, n4, c4, rfl, -⟩ := ho4.sl; obtain ⟨v5, x5, r5, o5, k5⟩ := app_ops x4 x2.heap.size 22 (OwnOps.gr (w := x3) ho3 hx4) (OwnL.rd ho4 HR3.out.1) HR3.out.2 (Gr.size (w := x2) (w' := x4) (by repeat (with_reducible first | assumption | exact Gr.refl _ | apply Gr.alloc | apply Gr.drewN | apply Gr.drew | apply Gr.iter | (refine Gr.setCell ?_ (by simp) _) | (refine Gr.trans ?_ (by assumption))))); obtain ⟨a5, n5, c5, rfl, -⟩ := o5.sl; have hx5 : Gr wr x5 := Gr.kgs (show Gr wr x4 from (by repeat (with_reducible first | assumption | exact Gr.refl _ | apply Gr.alloc | apply Gr.drewN | apply Gr.drew | apply Gr.iter | (refine Gr.setCell ?_ (by simp) _) | (refine Gr.trans ?_ (by assumption))))) k5 (fun b h => by obtain ⟨xs, ho, -⟩ := ho3; exact Nat.le_trans (Gr.size (w := wr) (w' := x2) (by repeat (with_reducible first | assumption | exact Gr.refl _ | apply Gr.alloc | apply Gr.drewN | apply Gr.drew | apply Gr.iter | (refine Gr.setCell ?_ (by simp) _) | (refine Gr.trans ?_ (by assumption))))) (own_fr ho b h)); have HP5 := Lib.hid (And.intro r5 o5); clear r5 o5 k5)
                            | (at_builtin; refine wpList_run rfl _ _ _ rfl rfl rfl HP5.out.1 ?_)
                            | (go_at_call 34; refine (rcanon06_any ((gathP ps ((units tk).length : Int) ++ rs).map Piece.op) _ _ (OwnOps.rd (base := x2.heap.size) (w := x5) (by rw [List.map_append]; exact HP5.out.2) HT.out.2.2.1) HT.out.2.2.2.1 HT.out.2.2.2.2.1 HT.out.2.1 HT.out.2.2.2.2.2.1 HT.out.2.2.2.2.2.2).mono ?_; rw [HT.out.1]; rintro e x6 ⟨v6, rfl, ho6, hx6⟩; obtain ⟨a6, n6, c6, rfl, -⟩ := ho6.sl; have hr6 := OwnR.rd ho6 hx6 (by rw [List.length_map]; have := LP.out.1; omega))
                            | (go_at_call 37; refine (sameops_any (ps.map Piece.op) (ps.map Piece.op) _ _ _ (RdOps.gr hr6 (by repeat (with_reducible first | assumption | exact Gr.refl _ | apply Gr.alloc | apply Gr.drewN | apply Gr.drew | apply Gr.iter | (refine Gr.setCell ?_ (by simp) _) | (refine Gr.trans ?_ (by assumption))))) (RdOps.gr (w := w4) hO4.out (Gr.trans HS.out.gr (by repeat (with_reducible first | assumption | exact Gr.refl _ | apply Gr.alloc | apply Gr.drewN | apply Gr.drew | apply Gr.iter | (refine Gr.setCell ?_ (by simp) _) | (refine Gr.trans ?_ (by assumption))))))).mono ?_; rw [decide_eq_true (rfl : ps.map Piece.op = ps.map Piece.op)]; rintro e x7 ⟨rfl, hx7⟩)
                            | (go_at_call 19; refine (wnext_int gw lb' rs nn _ (hE4.gr (Gr.trans HS.out.gr (by repeat (with_reducible first | assumption | exact Gr.refl _ | apply Gr.alloc | apply Gr.drewN | apply Gr.drew | apply Gr.iter | (refine Gr.setCell ?_ (by simp) _) | (refine Gr.trans ?_ (by assumption)))))) (WalkX.gr (w := wr) HS.out.walk (by repeat (with_reducible first | assumption | exact Gr.refl _ | apply Gr.alloc | apply Gr.drewN | apply Gr.drew | apply Gr.iter | (refine Gr.setCell ?_ (by simp) _) | (refine Gr.trans ?_ (by assumption))))) HI.out.can.ok HNN.out.1 HNN.out.2).mono ?_; rw [HP.out]; rintro e y1 ⟨pv, lb2, rfl, hp5, hY1, hl5, hk5⟩; have hgy1 : Gr w4 y1 := Gr.kgs (Gr.trans HS.out.gr (by repeat (with_reducible first | assumption | exact Gr.refl _ | apply Gr.alloc | apply Gr.drewN | apply Gr.drew | apply Gr.iter | (refine Gr.setCell ?_ (by simp) _) | (refine Gr.trans ?_ (by assumption))))) hk5 (fun b h => h ▸ HS.out.wg0); have hBy1 := BldX.kg (BldX.gr (w := wr) HS.out.bld (by repeat (with_reducible first | assumption | exact Gr.refl _ | apply Gr.alloc | apply Gr.drewN | apply Gr.drew | apply Gr.iter | (refine Gr.setCell ?_ (by simp) _) | (refine Gr.trans ?_ (by assumption))))) hk5 (by decide) (by decide) (by decide); have hsh := hp5.short; obtain ⟨hst, hsv⟩ := hp5.sz; rw [hop] at hst hsv; obtain ⟨T, y, fl, hpv, hml, hel, hcl⟩ := len_meth hp5; rw [HLn.out] at hcl; have HCL := Lib.hid hcl; clear hcl; obtain ⟨T2, yy2, fo, hpv2, hmo, heo, hco⟩ := op_meth hp5 hgood; have hpe := hpv.symm.trans hpv2; injection hpe with hpe1 hpe2; subst hpe1; subst hpe2; rw [hop] at hco; have HCO := Lib.hid hco; clear hco hpv2; subst hpv)
                            | (go_at_fn fo; refine (HCO.out _ (by repeat (with_reducible first | assumption | exact Gr.refl _ | apply Gr.alloc | apply Gr.drewN | apply Gr.drew | apply Gr.iter | (refine Gr.setCell ?_ (by simp) _) | (refine Gr.trans ?_ (by assumption))))).mono ?_; rintro e y4 ⟨sv, rfl, hs6, hy4⟩; obtain ⟨sa, sn, sc, rfl, -, -, -⟩ := hs6.sl; dsimp only [opV])
                            | (go_at_call 38; refine (push_x bg row s ok ot ova ovb ovt oc _ oats _ w4 hE4 (Gr.trans hgy1 (by repeat (with_reducible first | assumption | exact Gr.refl _ | apply Gr.alloc | apply Gr.drewN | apply Gr.drew | apply Gr.iter | (refine Gr.setCell ?_ (by simp) _) | (refine Gr.trans ?_ (by assumption))))) HS.out.bg0 HS.out.rows (OwnA.rd (OwnAL.rd (hats ▸ hs6) (hats ▸ hsh))) hst hsv (BldX.gr (w := y1) hBy1 (by repeat (with_reducible first | assumption | exact Gr.refl _ | apply Gr.alloc | apply Gr.drewN | apply Gr.drew | apply Gr.iter | (refine Gr.setCell ?_ (by simp) _) | (refine Gr.trans ?_ (by assumption))))) HI.out.inv HQ.out.2.2.2 (fun _ _ => by rw [hto]; exact HQ.out.2.2.1)).mono ?_; rw [HQ.out.1]; rintro e y5 ⟨rfl, hk7, row7, hB7, hr7⟩; have hW6 := WalkX.gr (w' := y4) hY1 (by repeat (with_reducible first | assumption | exact Gr.refl _ | apply Gr.alloc | apply Gr.drewN | apply Gr.drew | apply Gr.iter | (refine Gr.setCell ?_ (by simp) _) | (refine Gr.trans ?_ (by assumption)))); rw [errOf_zero])
                            | (go_at_fn fl; have _h := hk7; refine (HCL.out _).mono ?_; rintro e y6 ⟨rfl, hy6⟩)
                            | (go_at_fn fl; have _h := hy2; refine (HCL.out _).mono ?_; rintro e y3 ⟨rfl, hy3⟩)
                            | (go_at_fn fl; refine (HCL.out _).mono ?_; rintro e y2 ⟨rfl, hy2⟩)
                            | (go_at_call 39; refine (delta_x bg row s _ (BldX.gr (w := wr) HS.out.bld (by repeat (with_reducible first | assumption | exact Gr.refl _ | apply Gr.alloc | apply Gr.drewN | apply Gr.drew | apply Gr.iter | (refine Gr.setCell ?_ (by simp) _) | (refine Gr.trans ?_ (by assumption))))) HDl.out).mono ?_; rintro e z1 ⟨vz, rfl, hdz, hz1⟩)
                            | (go_at_call 24; refine (madeis_any s.delta (ps.map Piece.op) _ _ _ (DeltaR.gr (w := z1) hdz (by repeat (with_reducible first | assumption | exact Gr.refl _ | apply Gr.alloc | apply Gr.drewN | apply Gr.drew | apply Gr.iter | (refine Gr.setCell ?_ (by simp) _) | (refine Gr.trans ?_ (by assumption))))) HGd.out.1 (RdOps.gr (w := w4) hO4.out (Gr.trans HS.out.gr (by repeat (with_reducible first | assumption | exact Gr.refl _ | apply Gr.alloc | apply Gr.drewN | apply Gr.drew | apply Gr.iter | (refine Gr.setCell ?_ (by simp) _) | (refine Gr.trans ?_ (by assumption))))))).mono ?_; rw [decide_eq_true HGd.out.2]; rintro e z2 ⟨rfl, hz2⟩))
                go_roundw
                case rel =>
                  have hS := HS.out
                  have hkx := HQ.out.2.1
                  have hwx : wr.heap.size ≤ x7.heap.size := Gr.size (w := wr) (w' := x7) (by repeat (with_reducible first | assumption | exact Gr.refl _ | apply Gr.alloc | apply Gr.drewN | apply Gr.drew | apply Gr.iter | (refine Gr.setCell ?_ (by simp) _) | (refine Gr.trans ?_ (by assumption))))
                  have hg56 : Gr y5 y6 := (by repeat (with_reducible first | assumption | exact Gr.refl _ | apply Gr.alloc | apply Gr.drewN | apply Gr.drew | apply Gr.iter | (refine Gr.setCell ?_ (by simp) _) | (refine Gr.trans ?_ (by assumption))))
                  have hgy4 : Gr w4 y4 := Gr.trans hgy1 (by repeat (with_reducible first | assumption | exact Gr.refl _ | apply Gr.alloc | apply Gr.drewN | apply Gr.drew | apply Gr.iter | (refine Gr.setCell ?_ (by simp) _) | (refine Gr.trans ?_ (by assumption))))
                  have hlb2 : r ≠ [] → ∀ b, lb2 = some b → b ≠ bg ∧ row ≠ some b := fun hne b hb => by
                    rcases hl5 b hb with h | h
                    · exact hS.lbs (hnil hne) b h
                    · exact ⟨by omega, fun e => by have := (hS.bld.row_lt b e).1; omega⟩
                  have hg7 : Gr w4 y5 := Gr.kgs hgy4 hk7 (fun b h => by
                    rcases h with rfl | h | h
                    · exact hS.bg0
                    · exact hS.rows b h
                    · exact Nat.le_trans hgy4.size h)
                  refine ⟨k + 1, tk ++ [p], r, _, lb2, row7, by go_num, ?_, by rw [List.length_append, List.length_singleton, hkl], hkx, ⟨hg7.trans hg56, (hW6.kgb hk7 hlb2).gr hg56, hB7.gr hg56, fun hne b hb => ?_, fun b hb => ?_, hS.wg0, hS.bg0⟩, by omega, fun h => by omega⟩
                  · rw [units_app, units_one, List.length_append]; congr 1; push_cast; omega
                  · obtain ⟨h3, h4⟩ := hlb2 hne b hb
                    refine ⟨h3, fun e => ?_⟩
                    rcases hr7 b e with h | h
                    · exact h4 h
                    · have := hW6.lb_lt hne b hb; omega
                  · rcases hr7 b hb with h | h
                    · exact hS.rows b h
                    · exact Nat.le_trans hgy4.size h
                case measure => simp [intOf]; omega
              · obtain ⟨q1, q2, q3, q4, q5, q6, q7⟩ := hI.next hp hrs hn1 (by omega) LP.out.2
                have hrl2 := next_len rs nn
                obtain ⟨P, hP⟩ : ∃ P, nextP rs nn = P := ⟨_, rfl⟩
                have hnil : P.2 ≠ [] → rs ≠ [] := fun _ => hrs
                rw [hP] at q1 q2 q3 q4 q5 q6 hrl2 hrk2
                obtain ⟨p, r⟩ := P
                simp only at q1 q2 q3 q4 q5 q6 hrl2 hrk2 hnil
                have hup := unitsP_len q1
                have hun5 := q5.len
                rw [units_app, units_one, List.length_append] at hun5
                have HP := Lib.hid hP; clear hP
                obtain ⟨ok, ot, ova, ovb, ovt, oc, oats, hop⟩ := op_dest' p
                have hto : toPiece ⟨ok, ot, ⟨ova, ovb, ovt⟩, oc, oats⟩ = p := by rw [← hop]; exact q1.2
                have hgood : p.good := by rw [← q1.2]; exact good_of q1.1
                have hats := op_attrs p
                rw [hop] at hats q4 q5
                obtain ⟨M, hM⟩ : ∃ M, p.len = M := ⟨_, rfl⟩
                rw [hM] at q2 q3 hup
                have HLn := Lib.hid hM; clear hM
                have m1 : ¬ M < 1 := by omega
                have m2 : ¬ nn < M := by omega
                have m3 : ¬ (20000 : Int) < k := by omega
                have HQ := Lib.hid (And.intro q4 (And.intro q5 (And.intro q6 q7))); clear q4 q5 q6 q7 q1
                have HNN := Lib.hid (And.intro hn1 hn2)
                have hgr := hS.gr
                have hbgl := hS.bld.lt
                have HS := Lib.hid hS; clear hS
                have HI := Lib.hid hI; clear hI
                go_wp2_with (first
                            | (go_at_call 30; refine (wdone_any gw lb' rs _ (WalkX.gr (w := wr) HS.out.walk (by repeat (with_reducible first | assumption | exact Gr.refl _ | apply Gr.alloc | apply Gr.drewN | apply Gr.drew | apply Gr.iter | (refine Gr.setCell ?_ (by simp) _) | (refine Gr.trans ?_ (by assumption)))))).mono ?_; rw [HDn.out]; rintro e x1 ⟨rfl, hx1⟩; (try have hcx1 := Gr.cell (w := wr) (w' := x1) hx1 hcx))
                            | (go_at_call 25; refine (wrest_any gw lb' rs _ (hE4.gr (Gr.trans HS.out.gr (by repeat (with_reducible first | assumption | exact Gr.refl _ | apply Gr.alloc | apply Gr.drewN | apply Gr.drew | apply Gr.iter | (refine Gr.setCell ?_ (by simp) _) | (refine Gr.trans ?_ (by assumption)))))) (WalkX.gr (w := wr) HS.out.walk (by repeat (with_reducible first | assumption | exact Gr.refl _ | apply Gr.alloc | apply Gr.drewN | apply Gr.drew | apply Gr.iter | (refine Gr.setCell ?_ (by simp) _) | (refine Gr.trans ?_ (by assumption))))) HI.out.can HR.out.1 HR.out.2).mono ?_; rintro e x2 ⟨v2, rfl, hd2, hx2⟩; obtain ⟨g2, sl2, hv2, hbr2⟩ := hd2; subst hv2; have hD2 : DeltaR x2 (.pointer (some ⟨g2, 0, none⟩)) rs := ⟨g2, sl2, rfl, hbr2⟩; clear hbr2)
                            | (go_at_call 35; refine (gathered_any ps _ ((units tk).length : Int) _ (DeltaR.gr (w := w4) hD4.out (Gr.trans HS.out.gr (by repeat (with_reducible first | assumption | exact Gr.refl _ | apply Gr.alloc | apply Gr.drewN | apply Gr.drew | apply Gr.iter | (refine Gr.setCell ?_ (by simp) _) | (refine Gr.trans ?_ (by assumption)))))) hp.ok (by omega) HR2.out).mono ?_; rintro e x3 ⟨v3, rfl, ho3, hx3⟩; obtain ⟨a3, n3, c3, rfl, -⟩ := ho3.sl)
                            | (go_at_call 36; refine (dops_any rs _ _ (hD2.gr (by repeat (with_reducible first | assumption | exact Gr.refl _ | apply Gr.alloc | apply Gr.drewN | apply Gr.drew | apply Gr.iter | (refine Gr.setCell ?_ (by simp) _) | (refine Gr.trans ?_ (by assumption))))) HI.out.can.ok.good).mono ?_; rintro e x4 ⟨v4, rfl, ho4, hx4⟩; obtain ⟨a4, n4, c4, rfl, -⟩ := ho4.sl; obtain ⟨v5, x5, r5, o5, k5⟩ := app_ops x4 x2.heap.size 22 (OwnOps.gr (w := x3) ho3 hx4) (OwnL.rd ho4 HR3.out.1) HR3.out.2 (Gr.size (w := x2) (w' := x4) (by repeat (with_reducible first | assumption | exact Gr.refl _ | apply Gr.alloc | apply Gr.drewN | apply Gr.drew | apply Gr.iter | (refine Gr.setCell ?_ (by simp) _) | (refine Gr.trans ?_ (by assumption))))); obtain ⟨a5, n5, c5, rfl, -⟩ := o5.sl; have hx5 : Gr wr x5 := Gr.kgs (show Gr wr x4 from (by repeat (with_reducible first | assumption | exact Gr.refl _ | apply Gr.alloc | apply Gr.drewN | apply Gr.drew | apply Gr.iter | (refine Gr.setCell ?_ (by simp) _) | (refine Gr.trans ?_ (by assumption))))) k5 (fun b h => by obtain ⟨xs, ho, -⟩ := ho3; exact Nat.le_trans (Gr.size (w := wr) (w' := x2) (by repeat (with_reducible first | assumption | exact Gr.refl _ | apply Gr.alloc | apply Gr.drewN | apply Gr.drew | apply Gr.iter | (refine Gr.setCell ?_ (by simp) _) | (refine Gr.trans ?_ (by assumption))))) (own_fr ho b h)); have HP5 := Lib.hid (And.intro r5 o5); clear r5 o5 k5)
                            | (at_builtin; refine wpList_run rfl _ _ _ rfl rfl rfl HP5.out.1 ?_)
                            | (go_at_call 34; refine (rcanon06_any ((gathP ps ((units tk).length : Int) ++ rs).map Piece.op) _ _ (OwnOps.rd (base := x2.heap.size) (w := x5) (by rw [List.map_append]; exact HP5.out.2) HT.out.2.2.1) HT.out.2.2.2.1 HT.out.2.2.2.2.1 HT.out.2.1 HT.out.2.2.2.2.2.1 HT.out.2.2.2.2.2.2).mono ?_; rw [HT.out.1]; rintro e x6 ⟨v6, rfl, ho6, hx6⟩; obtain ⟨a6, n6, c6, rfl, -⟩ := ho6.sl; have hr6 := OwnR.rd ho6 hx6 (by rw [List.length_map]; have := LP.out.1; omega))
                            | (go_at_call 37; refine (sameops_any (ps.map Piece.op) (ps.map Piece.op) _ _ _ (RdOps.gr hr6 (by repeat (with_reducible first | assumption | exact Gr.refl _ | apply Gr.alloc | apply Gr.drewN | apply Gr.drew | apply Gr.iter | (refine Gr.setCell ?_ (by simp) _) | (refine Gr.trans ?_ (by assumption))))) (RdOps.gr (w := w4) hO4.out (Gr.trans HS.out.gr (by repeat (with_reducible first | assumption | exact Gr.refl _ | apply Gr.alloc | apply Gr.drewN | apply Gr.drew | apply Gr.iter | (refine Gr.setCell ?_ (by simp) _) | (refine Gr.trans ?_ (by assumption))))))).mono ?_; rw [decide_eq_true (rfl : ps.map Piece.op = ps.map Piece.op)]; rintro e x7 ⟨rfl, hx7⟩)
                            | (go_at_call 19; refine (wnext_int gw lb' rs nn _ (hE4.gr (Gr.trans HS.out.gr (by repeat (with_reducible first | assumption | exact Gr.refl _ | apply Gr.alloc | apply Gr.drewN | apply Gr.drew | apply Gr.iter | (refine Gr.setCell ?_ (by simp) _) | (refine Gr.trans ?_ (by assumption)))))) (WalkX.gr (w := wr) HS.out.walk (by repeat (with_reducible first | assumption | exact Gr.refl _ | apply Gr.alloc | apply Gr.drewN | apply Gr.drew | apply Gr.iter | (refine Gr.setCell ?_ (by simp) _) | (refine Gr.trans ?_ (by assumption))))) HI.out.can.ok HNN.out.1 HNN.out.2).mono ?_; rw [HP.out]; rintro e y1 ⟨pv, lb2, rfl, hp5, hY1, hl5, hk5⟩; have hgy1 : Gr w4 y1 := Gr.kgs (Gr.trans HS.out.gr (by repeat (with_reducible first | assumption | exact Gr.refl _ | apply Gr.alloc | apply Gr.drewN | apply Gr.drew | apply Gr.iter | (refine Gr.setCell ?_ (by simp) _) | (refine Gr.trans ?_ (by assumption))))) hk5 (fun b h => h ▸ HS.out.wg0); have hBy1 := BldX.kg (BldX.gr (w := wr) HS.out.bld (by repeat (with_reducible first | assumption | exact Gr.refl _ | apply Gr.alloc | apply Gr.drewN | apply Gr.drew | apply Gr.iter | (refine Gr.setCell ?_ (by simp) _) | (refine Gr.trans ?_ (by assumption))))) hk5 (by decide) (by decide) (by decide); have hsh := hp5.short; obtain ⟨hst, hsv⟩ := hp5.sz; rw [hop] at hst hsv; obtain ⟨T, y, fl, hpv, hml, hel, hcl⟩ := len_meth hp5; rw [HLn.out] at hcl; have HCL := Lib.hid hcl; clear hcl; obtain ⟨T2, yy2, fo, hpv2, hmo, heo, hco⟩ := op_meth hp5 hgood; have hpe := hpv.symm.trans hpv2; injection hpe with hpe1 hpe2; subst hpe1; subst hpe2; rw [hop] at hco; have HCO := Lib.hid hco; clear hco hpv2; subst hpv)
                            | (go_at_fn fo; refine (HCO.out _ (by repeat (with_reducible first | assumption | exact Gr.refl _ | apply Gr.alloc | apply Gr.drewN | apply Gr.drew | apply Gr.iter | (refine Gr.setCell ?_ (by simp) _) | (refine Gr.trans ?_ (by assumption))))).mono ?_; rintro e y4 ⟨sv, rfl, hs6, hy4⟩; obtain ⟨sa, sn, sc, rfl, -, -, -⟩ := hs6.sl; dsimp only [opV])
                            | (go_at_call 38; refine (push_x bg row s ok ot ova ovb ovt oc _ oats _ w4 hE4 (Gr.trans hgy1 (by repeat (with_reducible first | assumption | exact Gr.refl _ | apply Gr.alloc | apply Gr.drewN | apply Gr.drew | apply Gr.iter | (refine Gr.setCell ?_ (by simp) _) | (refine Gr.trans ?_ (by assumption))))) HS.out.bg0 HS.out.rows (OwnA.rd (OwnAL.rd (hats ▸ hs6) (hats ▸ hsh))) hst hsv (BldX.gr (w := y1) hBy1 (by repeat (with_reducible first | assumption | exact Gr.refl _ | apply Gr.alloc | apply Gr.drewN | apply Gr.drew | apply Gr.iter | (refine Gr.setCell ?_ (by simp) _) | (refine Gr.trans ?_ (by assumption))))) HI.out.inv HQ.out.2.2.2 (fun _ _ => by rw [hto]; exact HQ.out.2.2.1)).mono ?_; rw [HQ.out.1]; rintro e y5 ⟨rfl, hk7, row7, hB7, hr7⟩; have hW6 := WalkX.gr (w' := y4) hY1 (by repeat (with_reducible first | assumption | exact Gr.refl _ | apply Gr.alloc | apply Gr.drewN | apply Gr.drew | apply Gr.iter | (refine Gr.setCell ?_ (by simp) _) | (refine Gr.trans ?_ (by assumption)))); rw [errOf_zero])
                            | (go_at_fn fl; have _h := hk7; refine (HCL.out _).mono ?_; rintro e y6 ⟨rfl, hy6⟩)
                            | (go_at_fn fl; have _h := hy2; refine (HCL.out _).mono ?_; rintro e y3 ⟨rfl, hy3⟩)
                            | (go_at_fn fl; refine (HCL.out _).mono ?_; rintro e y2 ⟨rfl, hy2⟩)
                            | (go_at_call 39; refine (delta_x bg row s _ (BldX.gr (w := wr) HS.out.bld (by repeat (with_reducible first | assumption | exact Gr.refl _ | apply Gr.alloc | apply Gr.drewN | apply Gr.drew | apply Gr.iter | (refine Gr.setCell ?_ (by simp) _) | (refine Gr.trans ?_ (by assumption))))) HDl.out).mono ?_; rintro e z1 ⟨vz, rfl, hdz, hz1⟩)
                            | (go_at_call 24; refine (madeis_any s.delta (ps.map Piece.op) _ _ _ (DeltaR.gr (w := z1) hdz (by repeat (with_reducible first | assumption | exact Gr.refl _ | apply Gr.alloc | apply Gr.drewN | apply Gr.drew | apply Gr.iter | (refine Gr.setCell ?_ (by simp) _) | (refine Gr.trans ?_ (by assumption))))) HGd.out.1 (RdOps.gr (w := w4) hO4.out (Gr.trans HS.out.gr (by repeat (with_reducible first | assumption | exact Gr.refl _ | apply Gr.alloc | apply Gr.drewN | apply Gr.drew | apply Gr.iter | (refine Gr.setCell ?_ (by simp) _) | (refine Gr.trans ?_ (by assumption))))))).mono ?_; rw [decide_eq_true HGd.out.2]; rintro e z2 ⟨rfl, hz2⟩))
                go_roundw
                case rel =>
                  have hS := HS.out
                  have hkx := HQ.out.2.1
                  have hwx : wr.heap.size ≤ x1.heap.size := Gr.size (w := wr) (w' := x1) (by repeat (with_reducible first | assumption | exact Gr.refl _ | apply Gr.alloc | apply Gr.drewN | apply Gr.drew | apply Gr.iter | (refine Gr.setCell ?_ (by simp) _) | (refine Gr.trans ?_ (by assumption))))
                  have hg56 : Gr y5 y6 := (by repeat (with_reducible first | assumption | exact Gr.refl _ | apply Gr.alloc | apply Gr.drewN | apply Gr.drew | apply Gr.iter | (refine Gr.setCell ?_ (by simp) _) | (refine Gr.trans ?_ (by assumption))))
                  have hgy4 : Gr w4 y4 := Gr.trans hgy1 (by repeat (with_reducible first | assumption | exact Gr.refl _ | apply Gr.alloc | apply Gr.drewN | apply Gr.drew | apply Gr.iter | (refine Gr.setCell ?_ (by simp) _) | (refine Gr.trans ?_ (by assumption))))
                  have hlb2 : r ≠ [] → ∀ b, lb2 = some b → b ≠ bg ∧ row ≠ some b := fun hne b hb => by
                    rcases hl5 b hb with h | h
                    · exact hS.lbs (hnil hne) b h
                    · exact ⟨by omega, fun e => by have := (hS.bld.row_lt b e).1; omega⟩
                  have hg7 : Gr w4 y5 := Gr.kgs hgy4 hk7 (fun b h => by
                    rcases h with rfl | h | h
                    · exact hS.bg0
                    · exact hS.rows b h
                    · exact Nat.le_trans hgy4.size h)
                  refine ⟨k + 1, tk ++ [p], r, _, lb2, row7, by go_num, ?_, by rw [List.length_append, List.length_singleton, hkl], hkx, ⟨hg7.trans hg56, (hW6.kgb hk7 hlb2).gr hg56, hB7.gr hg56, fun hne b hb => ?_, fun b hb => ?_, hS.wg0, hS.bg0⟩, by omega, fun h => by omega⟩
                  · rw [units_app, units_one, List.length_append]; congr 1; push_cast; omega
                  · obtain ⟨h3, h4⟩ := hlb2 hne b hb
                    refine ⟨h3, fun e => ?_⟩
                    rcases hr7 b e with h | h
                    · exact h4 h
                    · have := hW6.lb_lt hne b hb; omega
                  · rcases hr7 b hb with h | h
                    · exact hS.rows b h
                    · exact Nat.le_trans hgy4.size h
                case measure => simp [intOf]; omega
            · have hkn' : ¬ (k : Int) < nl := by omega
              obtain ⟨nn, hnn⟩ : ∃ nn : Int, nn = 1099511627776 := ⟨_, rfl⟩
              have hn1 : 1 ≤ nn := by omega
              have hn2 : nn ≤ 9223372036854775807 := by omega
              have hrk2 : nl ≤ k → (nextP rs nn).2.length + 1 ≤ rs.length := fun _ => by rw [hnn, next_len1 hI.can hrs]; exact Nat.le_refl _
              subst hnn
              by_cases hat : (k : Int) = at_
              · subst hat
                obtain ⟨q1, q2, q3, q4, q5, q6, q7⟩ := hI.next hp hrs hn1 (by omega) LP.out.2
                have hrl2 := next_len rs (1099511627776)
                obtain ⟨P, hP⟩ : ∃ P, nextP rs (1099511627776) = P := ⟨_, rfl⟩
                have hnil : P.2 ≠ [] → rs ≠ [] := fun _ => hrs
                rw [hP] at q1 q2 q3 q4 q5 q6 hrl2 hrk2
                obtain ⟨p, r⟩ := P
                simp only at q1 q2 q3 q4 q5 q6 hrl2 hrk2 hnil
                have hup := unitsP_len q1
                have hun5 := q5.len
                rw [units_app, units_one, List.length_append] at hun5
                have HP := Lib.hid hP; clear hP
                obtain ⟨ok, ot, ova, ovb, ovt, oc, oats, hop⟩ := op_dest' p
                have hto : toPiece ⟨ok, ot, ⟨ova, ovb, ovt⟩, oc, oats⟩ = p := by rw [← hop]; exact q1.2
                have hgood : p.good := by rw [← q1.2]; exact good_of q1.1
                have hats := op_attrs p
                rw [hop] at hats q4 q5
                obtain ⟨M, hM⟩ : ∃ M, p.len = M := ⟨_, rfl⟩
                rw [hM] at q2 q3 hup
                have HLn := Lib.hid hM; clear hM
                have m1 : ¬ M < 1 := by omega
                have m2 : ¬ (1099511627776) < M := by omega
                have m3 : ¬ (20000 : Int) < k := by omega
                have HQ := Lib.hid (And.intro q4 (And.intro q5 (And.intro q6 q7))); clear q4 q5 q6 q7 q1
                have HNN := Lib.hid (And.intro hn1 hn2)
                have hgr := hS.gr
                have hbgl := hS.bld.lt
                have HS := Lib.hid hS; clear hS
                have HI := Lib.hid hI; clear hI
                go_wp2_with (first
                            | (go_at_call 30; refine (wdone_any gw lb' rs _ (WalkX.gr (w := wr) HS.out.walk (by repeat (with_reducible first | assumption | exact Gr.refl _ | apply Gr.alloc | apply Gr.drewN | apply Gr.drew | apply Gr.iter | (refine Gr.setCell ?_ (by simp) _) | (refine Gr.trans ?_ (by assumption)))))).mono ?_; rw [HDn.out]; rintro e x1 ⟨rfl, hx1⟩; (try have hcx1 := Gr.cell (w := wr) (w' := x1) hx1 hcx))
                            | (go_at_call 25; refine (wrest_any gw lb' rs _ (hE4.gr (Gr.trans HS.out.gr (by repeat (with_reducible first | assumption | exact Gr.refl _ | apply Gr.alloc | apply Gr.drewN | apply Gr.drew | apply Gr.iter | (refine Gr.setCell ?_ (by simp) _) | (refine Gr.trans ?_ (by assumption)))))) (WalkX.gr (w := wr) HS.out.walk (by repeat (with_reducible first | assumption | exact Gr.refl _ | apply Gr.alloc | apply Gr.drewN | apply Gr.drew | apply Gr.iter | (refine Gr.setCell ?_ (by simp) _) | (refine Gr.trans ?_ (by assumption))))) HI.out.can HR.out.1 HR.out.2).mono ?_; rintro e x2 ⟨v2, rfl, hd2, hx2⟩; obtain ⟨g2, sl2, hv2, hbr2⟩ := hd2; subst hv2; have hD2 : DeltaR x2 (.pointer (some ⟨g2, 0, none⟩)) rs := ⟨g2, sl2, rfl, hbr2⟩; clear hbr2)
                            | (go_at_call 35; refine (gathered_any ps _ ((units tk).length : Int) _ (DeltaR.gr (w := w4) hD4.out (Gr.trans HS.out.gr (by repeat (with_reducible first | assumption | exact Gr.refl _ | apply Gr.alloc | apply Gr.drewN | apply Gr.drew | apply Gr.iter | (refine Gr.setCell ?_ (by simp) _) | (refine Gr.trans ?_ (by assumption)))))) hp.ok (by omega) HR2.out).mono ?_; rintro e x3 ⟨v3, rfl, ho3, hx3⟩; obtain ⟨a3, n3, c3, rfl, -⟩ := ho3.sl)
                            | (go_at_call 36; refine (dops_any rs _ _ (hD2.gr (by repeat (with_reducible first | assumption | exact Gr.refl _ | apply Gr.alloc | apply Gr.drewN | apply Gr.drew | apply Gr.iter | (refine Gr.setCell ?_ (by simp) _) | (refine Gr.trans ?_ (by assumption))))) HI.out.can.ok.good).mono ?_; rintro e x4 ⟨v4, rfl, ho4, hx4⟩; obtain ⟨a4, n4, c4, rfl, -⟩ := ho4.sl; obtain ⟨v5, x5, r5, o5, k5⟩ := app_ops x4 x2.heap.size 22 (OwnOps.gr (w := x3) ho3 hx4) (OwnL.rd ho4 HR3.out.1) HR3.out.2 (Gr.size (w := x2) (w' := x4) (by repeat (with_reducible first | assumption | exact Gr.refl _ | apply Gr.alloc | apply Gr.drewN | apply Gr.drew | apply Gr.iter | (refine Gr.setCell ?_ (by simp) _) | (refine Gr.trans ?_ (by assumption))))); obtain ⟨a5, n5, c5, rfl, -⟩ := o5.sl; have hx5 : Gr wr x5 := Gr.kgs (show Gr wr x4 from (by repeat (with_reducible first | assumption | exact Gr.refl _ | apply Gr.alloc | apply Gr.drewN | apply Gr.drew | apply Gr.iter | (refine Gr.setCell ?_ (by simp) _) | (refine Gr.trans ?_ (by assumption))))) k5 (fun b h => by obtain ⟨xs, ho, -⟩ := ho3; exact Nat.le_trans (Gr.size (w := wr) (w' := x2) (by repeat (with_reducible first | assumption | exact Gr.refl _ | apply Gr.alloc | apply Gr.drewN | apply Gr.drew | apply Gr.iter | (refine Gr.setCell ?_ (by simp) _) | (refine Gr.trans ?_ (by assumption))))) (own_fr ho b h)); have HP5 := Lib.hid (And.intro r5 o5); clear r5 o5 k5)
                            | (at_builtin; refine wpList_run rfl _ _ _ rfl rfl rfl HP5.out.1 ?_)
                            | (go_at_call 34; refine (rcanon06_any ((gathP ps ((units tk).length : Int) ++ rs).map Piece.op) _ _ (OwnOps.rd (base := x2.heap.size) (w := x5) (by rw [List.map_append]; exact HP5.out.2) HT.out.2.2.1) HT.out.2.2.2.1 HT.out.2.2.2.2.1 HT.out.2.1 HT.out.2.2.2.2.2.1 HT.out.2.2.2.2.2.2).mono ?_; rw [HT.out.1]; rintro e x6 ⟨v6, rfl, ho6, hx6⟩; obtain ⟨a6, n6, c6, rfl, -⟩ := ho6.sl; have hr6 := OwnR.rd ho6 hx6 (by rw [List.length_map]; have := LP.out.1; omega))
                            | (go_at_call 37; refine (sameops_any (ps.map Piece.op) (ps.map Piece.op) _ _ _ (RdOps.gr hr6 (by repeat (with_reducible first | assumption | exact Gr.refl _ | apply Gr.alloc | apply Gr.drewN | apply Gr.drew | apply Gr.iter | (refine Gr.setCell ?_ (by simp) _) | (refine Gr.trans ?_ (by assumption))))) (RdOps.gr (w := w4) hO4.out (Gr.trans HS.out.gr (by repeat (with_reducible first | assumption | exact Gr.refl _ | apply Gr.alloc | apply Gr.drewN | apply Gr.drew | apply Gr.iter | (refine Gr.setCell ?_ (by simp) _) | (refine Gr.trans ?_ (by assumption))))))).mono ?_; rw [decide_eq_true (rfl : ps.map Piece.op = ps.map Piece.op)]; rintro e x7 ⟨rfl, hx7⟩)
                            | (go_at_call 19; refine (wnext_int gw lb' rs 1099511627776 _ (hE4.gr (Gr.trans HS.out.gr (by repeat (with_reducible first | assumption | exact Gr.refl _ | apply Gr.alloc | apply Gr.drewN | apply Gr.drew | apply Gr.iter | (refine Gr.setCell ?_ (by simp) _) | (refine Gr.trans ?_ (by assumption)))))) (WalkX.gr (w := wr) HS.out.walk (by repeat (with_reducible first | assumption | exact Gr.refl _ | apply Gr.alloc | apply Gr.drewN | apply Gr.drew | apply Gr.iter | (refine Gr.setCell ?_ (by simp) _) | (refine Gr.trans ?_ (by assumption))))) HI.out.can.ok HNN.out.1 HNN.out.2).mono ?_; rw [HP.out]; rintro e y1 ⟨pv, lb2, rfl, hp5, hY1, hl5, hk5⟩; have hgy1 : Gr w4 y1 := Gr.kgs (Gr.trans HS.out.gr (by repeat (with_reducible first | assumption | exact Gr.refl _ | apply Gr.alloc | apply Gr.drewN | apply Gr.drew | apply Gr.iter | (refine Gr.setCell ?_ (by simp) _) | (refine Gr.trans ?_ (by assumption))))) hk5 (fun b h => h ▸ HS.out.wg0); have hBy1 := BldX.kg (BldX.gr (w := wr) HS.out.bld (by repeat (with_reducible first | assumption | exact Gr.refl _ | apply Gr.alloc | apply Gr.drewN | apply Gr.drew | apply Gr.iter | (refine Gr.setCell ?_ (by simp) _) | (refine Gr.trans ?_ (by assumption))))) hk5 (by decide) (by decide) (by decide); have hsh := hp5.short; obtain ⟨hst, hsv⟩ := hp5.sz; rw [hop] at hst hsv; obtain ⟨T, y, fl, hpv, hml, hel, hcl⟩ := len_meth hp5; rw [HLn.out] at hcl; have HCL := Lib.hid hcl; clear hcl; obtain ⟨T2, yy2, fo, hpv2, hmo, heo, hco⟩ := op_meth hp5 hgood; have hpe := hpv.symm.trans hpv2; injection hpe with hpe1 hpe2; subst hpe1; subst hpe2; rw [hop] at hco; have HCO := Lib.hid hco; clear hco hpv2; subst hpv)
                            | (go_at_fn fo; refine (HCO.out _ (by repeat (with_reducible first | assumption | exact Gr.refl _ | apply Gr.alloc | apply Gr.drewN | apply Gr.drew | apply Gr.iter | (refine Gr.setCell ?_ (by simp) _) | (refine Gr.trans ?_ (by assumption))))).mono ?_; rintro e y4 ⟨sv, rfl, hs6, hy4⟩; obtain ⟨sa, sn, sc, rfl, -, -, -⟩ := hs6.sl; dsimp only [opV])
                            | (go_at_call 38; refine (push_x bg row s ok ot ova ovb ovt oc _ oats _ w4 hE4 (Gr.trans hgy1 (by repeat (with_reducible first | assumption | exact Gr.refl _ | apply Gr.alloc | apply Gr.drewN | apply Gr.drew | apply Gr.iter | (refine Gr.setCell ?_ (by simp) _) | (refine Gr.trans ?_ (by assumption))))) HS.out.bg0 HS.out.rows (OwnA.rd (OwnAL.rd (hats ▸ hs6) (hats ▸ hsh))) hst hsv (BldX.gr (w := y1) hBy1 (by repeat (with_reducible first | assumption | exact Gr.refl _ | apply Gr.alloc | apply Gr.drewN | apply Gr.drew | apply Gr.iter | (refine Gr.setCell ?_ (by simp) _) | (refine Gr.trans ?_ (by assumption))))) HI.out.inv HQ.out.2.2.2 (fun _ _ => by rw [hto]; exact HQ.out.2.2.1)).mono ?_; rw [HQ.out.1]; rintro e y5 ⟨rfl, hk7, row7, hB7, hr7⟩; have hW6 := WalkX.gr (w' := y4) hY1 (by repeat (with_reducible first | assumption | exact Gr.refl _ | apply Gr.alloc | apply Gr.drewN | apply Gr.drew | apply Gr.iter | (refine Gr.setCell ?_ (by simp) _) | (refine Gr.trans ?_ (by assumption)))); rw [errOf_zero])
                            | (go_at_fn fl; have _h := hk7; refine (HCL.out _).mono ?_; rintro e y6 ⟨rfl, hy6⟩)
                            | (go_at_fn fl; have _h := hy2; refine (HCL.out _).mono ?_; rintro e y3 ⟨rfl, hy3⟩)
                            | (go_at_fn fl; refine (HCL.out _).mono ?_; rintro e y2 ⟨rfl, hy2⟩)
                            | (go_at_call 39; refine (delta_x bg row s _ (BldX.gr (w := wr) HS.out.bld (by repeat (with_reducible first | assumption | exact Gr.refl _ | apply Gr.alloc | apply Gr.drewN | apply Gr.drew | apply Gr.iter | (refine Gr.setCell ?_ (by simp) _) | (refine Gr.trans ?_ (by assumption))))) HDl.out).mono ?_; rintro e z1 ⟨vz, rfl, hdz, hz1⟩)
                            | (go_at_call 24; refine (madeis_any s.delta (ps.map Piece.op) _ _ _ (DeltaR.gr (w := z1) hdz (by repeat (with_reducible first | assumption | exact Gr.refl _ | apply Gr.alloc | apply Gr.drewN | apply Gr.drew | apply Gr.iter | (refine Gr.setCell ?_ (by simp) _) | (refine Gr.trans ?_ (by assumption))))) HGd.out.1 (RdOps.gr (w := w4) hO4.out (Gr.trans HS.out.gr (by repeat (with_reducible first | assumption | exact Gr.refl _ | apply Gr.alloc | apply Gr.drewN | apply Gr.drew | apply Gr.iter | (refine Gr.setCell ?_ (by simp) _) | (refine Gr.trans ?_ (by assumption))))))).mono ?_; rw [decide_eq_true HGd.out.2]; rintro e z2 ⟨rfl, hz2⟩))
                go_roundw
                case rel =>
                  have hS := HS.out
                  have hkx := HQ.out.2.1
                  have hwx : wr.heap.size ≤ x7.heap.size := Gr.size (w := wr) (w' := x7) (by repeat (with_reducible first | assumption | exact Gr.refl _ | apply Gr.alloc | apply Gr.drewN | apply Gr.drew | apply Gr.iter | (refine Gr.setCell ?_ (by simp) _) | (refine Gr.trans ?_ (by assumption))))
                  have hg56 : Gr y5 y6 := (by repeat (with_reducible first | assumption | exact Gr.refl _ | apply Gr.alloc | apply Gr.drewN | apply Gr.drew | apply Gr.iter | (refine Gr.setCell ?_ (by simp) _) | (refine Gr.trans ?_ (by assumption))))
                  have hgy4 : Gr w4 y4 := Gr.trans hgy1 (by repeat (with_reducible first | assumption | exact Gr.refl _ | apply Gr.alloc | apply Gr.drewN | apply Gr.drew | apply Gr.iter | (refine Gr.setCell ?_ (by simp) _) | (refine Gr.trans ?_ (by assumption))))
                  have hlb2 : r ≠ [] → ∀ b, lb2 = some b → b ≠ bg ∧ row ≠ some b := fun hne b hb => by
                    rcases hl5 b hb with h | h
                    · exact hS.lbs (hnil hne) b h
                    · exact ⟨by omega, fun e => by have := (hS.bld.row_lt b e).1; omega⟩
                  have hg7 : Gr w4 y5 := Gr.kgs hgy4 hk7 (fun b h => by
                    rcases h with rfl | h | h
                    · exact hS.bg0
                    · exact hS.rows b h
                    · exact Nat.le_trans hgy4.size h)
                  refine ⟨k + 1, tk ++ [p], r, _, lb2, row7, by go_num, ?_, by rw [List.length_append, List.length_singleton, hkl], hkx, ⟨hg7.trans hg56, (hW6.kgb hk7 hlb2).gr hg56, hB7.gr hg56, fun hne b hb => ?_, fun b hb => ?_, hS.wg0, hS.bg0⟩, by omega, fun h => by omega⟩
                  · rw [units_app, units_one, List.length_append]; congr 1; push_cast; omega
                  · obtain ⟨h3, h4⟩ := hlb2 hne b hb
                    refine ⟨h3, fun e => ?_⟩
                    rcases hr7 b e with h | h
                    · exact h4 h
                    · have := hW6.lb_lt hne b hb; omega
                  · rcases hr7 b hb with h | h
                    · exact hS.rows b h
                    · exact Nat.le_trans hgy4.size h
                case measure => simp [intOf]; omega
              · obtain ⟨q1, q2, q3, q4, q5, q6, q7⟩ := hI.next hp hrs hn1 (by omega) LP.out.2
                have hrl2 := next_len rs (1099511627776)
                obtain ⟨P, hP⟩ : ∃ P, nextP rs (1099511627776) = P := ⟨_, rfl⟩
                have hnil : P.2 ≠ [] → rs ≠ [] := fun _ => hrs
                rw [hP] at q1 q2 q3 q4 q5 q6 hrl2 hrk2
                obtain ⟨p, r⟩ := P
                simp only at q1 q2 q3 q4 q5 q6 hrl2 hrk2 hnil
                have hup := unitsP_len q1
                have hun5 := q5.len
                rw [units_app, units_one, List.length_append] at hun5
                have HP := Lib.hid hP; clear hP
                obtain ⟨ok, ot, ova, ovb, ovt, oc, oats, hop⟩ := op_dest' p
                have hto : toPiece ⟨ok, ot, ⟨ova, ovb, ovt⟩, oc, oats⟩ = p := by rw [← hop]; exact q1.2
                have hgood : p.good := by rw [← q1.2]; exact good_of q1.1
                have hats := op_attrs p
                rw [hop] at hats q4 q5
                obtain ⟨M, hM⟩ : ∃ M, p.len = M := ⟨_, rfl⟩
                rw [hM] at q2 q3 hup
                have HLn := Lib.hid hM; clear hM
                have m1 : ¬ M < 1 := by omega
                have m2 : ¬ (1099511627776) < M := by omega
                have m3 : ¬ (20000 : Int) < k := by omega
                have HQ := Lib.hid (And.intro q4 (And.intro q5 (And.intro q6 q7))); clear q4 q5 q6 q7 q1
                have HNN := Lib.hid (And.intro hn1 hn2)
                have hgr := hS.gr
                have hbgl := hS.bld.lt
                have HS := Lib.hid hS; clear hS
                have HI := Lib.hid hI; clear hI
                go_wp2_with (first
                            | (go_at_call 30; refine (wdone_any gw lb' rs _ (WalkX.gr (w := wr) HS.out.walk (by repeat (with_reducible first | assumption | exact Gr.refl _ | apply Gr.alloc | apply Gr.drewN | apply Gr.drew | apply Gr.iter | (refine Gr.setCell ?_ (by simp) _) | (refine Gr.trans ?_ (by assumption)))))).mono ?_; rw [HDn.out]; rintro e x1 ⟨rfl, hx1⟩; (try have hcx1 := Gr.cell (w := wr) (w' := x1) hx1 hcx))
                            | (go_at_call 25; refine (wrest_any gw lb' rs _ (hE4.gr (Gr.trans HS.out.gr (by repeat (with_reducible first | assumption | exact Gr.refl _ | apply Gr.alloc | apply Gr.drewN | apply Gr.drew | apply Gr.iter | (refine Gr.setCell ?_ (by simp) _) | (refine Gr.trans ?_ (by assumption)))))) (WalkX.gr (w := wr) HS.out.walk (by repeat (with_reducible first | assumption | exact Gr.refl _ | apply Gr.alloc | apply Gr.drewN | apply Gr.drew | apply Gr.iter | (refine Gr.setCell ?_ (by simp) _) | (refine Gr.trans ?_ (by assumption))))) HI.out.can HR.out.1 HR.out.2).mono ?_; rintro e x2 ⟨v2, rfl, hd2, hx2⟩; obtain ⟨g2, sl2, hv2, hbr2⟩ := hd2; subst hv2; have hD2 : DeltaR x2 (.pointer (some ⟨g2, 0, none⟩)) rs := ⟨g2, sl2, rfl, hbr2⟩; clear hbr2)
                            | (go_at_call 35; refine (gathered_any ps _ ((units tk).length : Int) _ (DeltaR.gr (w := w4) hD4.out (Gr.trans HS.out.gr (by repeat (with_reducible first | assumption | exact Gr.refl _ | apply Gr.alloc | apply Gr.drewN | apply Gr.drew | apply Gr.iter | (refine Gr.setCell ?_ (by simp) _) | (refine Gr.trans ?_ (by assumption)))))) hp.ok (by omega) HR2.out).mono ?_; rintro e x3 ⟨v3, rfl, ho3, hx3⟩; obtain ⟨a3, n3, c3, rfl, -⟩ := ho3.sl)
                            | (go_at_call 36; refine (dops_any rs _ _ (hD2.gr (by repeat (with_reducible first | assumption | exact Gr.refl _ | apply Gr.alloc | apply Gr.drewN | apply Gr.drew | apply Gr.iter | (refine Gr.setCell ?_ (by simp) _) | (refine Gr.trans ?_ (by assumption))))) HI.out.can.ok.good).mono ?_; rintro e x4 ⟨v4, rfl, ho4, hx4⟩; obtain ⟨a4, n4, c4, rfl, -⟩ := ho4.sl; obtain ⟨v5, x5, r5, o5, k5⟩ := app_ops x4 x2.heap.size 22 (OwnOps.gr (w := x3) ho3 hx4) (OwnL.rd ho4 HR3.out.1) HR3.out.2 (Gr.size (w := x2) (w' := x4) (by repeat (with_reducible first | assumption | exact Gr.refl _ | apply Gr.alloc | apply Gr.drewN | apply Gr.drew | apply Gr.iter | (refine Gr.setCell ?_ (by simp) _) | (refine Gr.trans ?_ (by assumption))))); obtain ⟨a5, n5, c5, rfl, -⟩ := o5.sl; have hx5 : Gr wr x5 := Gr.kgs (show Gr wr x4 from (by repeat (with_reducible first | assumption | exact Gr.refl _ | apply Gr.alloc | apply Gr.drewN | apply Gr.drew | apply Gr.iter | (refine Gr.setCell ?_ (by simp) _) | (refine Gr.trans ?_ (by assumption))))) k5 (fun b h => by obtain ⟨xs, ho, -⟩ := ho3; exact Nat.le_trans (Gr.size (w := wr) (w' := x2) (by repeat (with_reducible first | assumption | exact Gr.refl _ | apply Gr.alloc | apply Gr.drewN | apply Gr.drew | apply Gr.iter | (refine Gr.setCell ?_ (by simp) _) | (refine Gr.trans ?_ (by assumption))))) (own_fr ho b h)); have HP5 := Lib.hid (And.intro r5 o5); clear r5 o5 k5)
                            | (at_builtin; refine wpList_run rfl _ _ _ rfl rfl rfl HP5.out.1 ?_)
                            | (go_at_call 34; refine (rcanon06_any ((gathP ps ((units tk).length : Int) ++ rs).map Piece.op) _ _ (OwnOps.rd (base := x2.heap.size) (w := x5) (by rw [List.map_append]; exact HP5.out.2) HT.out.2.2.1) HT.out.2.2.2.1 HT.out.2.2.2.2.1 HT.out.2.1 HT.out.2.2.2.2.2.1 HT.out.2.2.2.2.2.2).mono ?_; rw [HT.out.1]; rintro e x6 ⟨v6, rfl, ho6, hx6⟩; obtain ⟨a6, n6, c6, rfl, -⟩ := ho6.sl; have hr6 := OwnR.rd ho6 hx6 (by rw [List.length_map]; have := LP.out.1; omega))
                            | (go_at_call 37; refine (sameops_any (ps.map Piece.op) (ps.map Piece.op) _ _ _ (RdOps.gr hr6 (by repeat (with_reducible first | assumption | exact Gr.refl _ | apply Gr.alloc | apply Gr.drewN | apply Gr.drew | apply Gr.iter | (refine Gr.setCell ?_ (by simp) _) | (refine Gr.trans ?_ (by assumption))))) (RdOps.gr (w := w4) hO4.out (Gr.trans HS.out.gr (by repeat (with_reducible first | assumption | exact Gr.refl _ | apply Gr.alloc | apply Gr.drewN | apply Gr.drew | apply Gr.iter | (refine Gr.setCell ?_ (by simp) _) | (refine Gr.trans ?_ (by assumption))))))).mono ?_; rw [decide_eq_true (rfl : ps.map Piece.op = ps.map Piece.op)]; rintro e x7 ⟨rfl, hx7⟩)
                            | (go_at_call 19; refine (wnext_int gw lb' rs 1099511627776 _ (hE4.gr (Gr.trans HS.out.gr (by repeat (with_reducible first | assumption | exact Gr.refl _ | apply Gr.alloc | apply Gr.drewN | apply Gr.drew | apply Gr.iter | (refine Gr.setCell ?_ (by simp) _) | (refine Gr.trans ?_ (by assumption)))))) (WalkX.gr (w := wr) HS.out.walk (by repeat (with_reducible first | assumption | exact Gr.refl _ | apply Gr.alloc | apply Gr.drewN | apply Gr.drew | apply Gr.iter | (refine Gr.setCell ?_ (by simp) _) | (refine Gr.trans ?_ (by assumption))))) HI.out.can.ok HNN.out.1 HNN.out.2).mono ?_; rw [HP.out]; rintro e y1 ⟨pv, lb2, rfl, hp5, hY1, hl5, hk5⟩; have hgy1 : Gr w4 y1 := Gr.kgs (Gr.trans HS.out.gr (by repeat (with_reducible first | assumption | exact Gr.refl _ | apply Gr.alloc | apply Gr.drewN | apply Gr.drew | apply Gr.iter | (refine Gr.setCell ?_ (by simp) _) | (refine Gr.trans ?_ (by assumption))))) hk5 (fun b h => h ▸ HS.out.wg0); have hBy1 := BldX.kg (BldX.gr (w := wr) HS.out.bld (by repeat (with_reducible first | assumption | exact Gr.refl _ | apply Gr.alloc | apply Gr.drewN | apply Gr.drew | apply Gr.iter | (refine Gr.setCell ?_ (by simp) _) | (refine Gr.trans ?_ (by assumption))))) hk5 (by decide) (by decide) (by decide); have hsh := hp5.short; obtain ⟨hst, hsv⟩ := hp5.sz; rw [hop] at hst hsv; obtain ⟨T, y, fl, hpv, hml, hel, hcl⟩ := len_meth hp5; rw [HLn.out] at hcl; have HCL := Lib.hid hcl; clear hcl; obtain ⟨T2, yy2, fo, hpv2, hmo, heo, hco⟩ := op_meth hp5 hgood; have hpe := hpv.symm.trans hpv2; injection hpe with hpe1 hpe2; subst hpe1; subst hpe2; rw [hop] at hco; have HCO := Lib.hid hco; clear hco hpv2; subst hpv)
                            | (go_at_fn fo; refine (HCO.out _ (by repeat (with_reducible first | assumption | exact Gr.refl _ | apply Gr.alloc | apply Gr.drewN | apply Gr.drew | apply Gr.iter | (refine Gr.setCell ?_ (by simp) _) | (refine Gr.trans ?_ (by assumption))))).mono ?_; rintro e y4 ⟨sv, rfl, hs6, hy4⟩; obtain ⟨sa, sn, sc, rfl, -, -, -⟩ := hs6.sl; dsimp only [opV])
                            | (go_at_call 38; refine (push_x bg row s ok ot ova ovb ovt oc _ oats _ w4 hE4 (Gr.trans hgy1 (by repeat (with_reducible first | assumption | exact Gr.refl _ | apply Gr.alloc | apply Gr.drewN | apply Gr.drew | apply Gr.iter | (refine Gr.setCell ?_ (by simp) _) | (refine Gr.trans ?_ (by assumption))))) HS.out.bg0 HS.out.rows (OwnA.rd (OwnAL.rd (hats ▸ hs6) (hats ▸ hsh))) hst hsv (BldX.gr (w := y1) hBy1 (by repeat (with_reducible first | assumption | exact Gr.refl _ | apply Gr.alloc | apply Gr.drewN | apply Gr.drew | apply Gr.iter | (refine Gr.setCell ?_ (by simp) _) | (refine Gr.trans ?_ (by assumption))))) HI.out.inv HQ.out.2.2.2 (fun _ _ => by rw [hto]; exact HQ.out.2.2.1)).mono ?_; rw [HQ.out.1]; rintro e y5 ⟨rfl, hk7, row7, hB7, hr7⟩; have hW6 := WalkX.gr (w' := y4) hY1 (by repeat (with_reducible first | assumption | exact Gr.refl _ | apply Gr.alloc | apply Gr.drewN | apply Gr.drew | apply Gr.iter | (refine Gr.setCell ?_ (by simp) _) | (refine Gr.trans ?_ (by assumption)))); rw [errOf_zero])
                            | (go_at_fn fl; have _h := hk7; refine (HCL.out _).mono ?_; rintro e y6 ⟨rfl, hy6⟩)
                            | (go_at_fn fl; have _h := hy2; refine (HCL.out _).mono ?_; rintro e y3 ⟨rfl, hy3⟩)
                            | (go_at_fn fl; refine (HCL.out _).mono ?_; rintro e y2 ⟨rfl, hy2⟩)
                            | (go_at_call 39; refine (delta_x bg row s _ (BldX.gr (w := wr) HS.out.bld (by repeat (with_reducible first | assumption | exact Gr.refl _ | apply Gr.alloc | apply Gr.drewN | apply Gr.drew | apply Gr.iter | (refine Gr.setCell ?_ (by simp) _) | (refine Gr.trans ?_ (by assumption))))) HDl.out).mono ?_; rintro e z1 ⟨vz, rfl, hdz, hz1⟩)
                            | (go_at_call 24; refine (madeis_any s.delta (ps.map Piece.op) _ _ _ (DeltaR.gr (w := z1) hdz (by repeat (with_reducible first | assumption | exact Gr.refl _ | apply Gr.alloc | apply Gr.drewN | apply Gr.drew | apply Gr.iter | (refine Gr.setCell ?_ (by simp) _) | (refine Gr.trans ?_ (by assumption))))) HGd.out.1 (RdOps.gr (w := w4) hO4.out (Gr.trans HS.out.gr (by repeat (with_reducible first | assumption | exact Gr.refl _ | apply Gr.alloc | apply Gr.drewN | apply Gr.drew | apply Gr.iter | (refine Gr.setCell ?_ (by simp) _) | (refine Gr.trans ?_ (by assumption))))))).mono ?_; rw [decide_eq_true HGd.out.2]; rintro e z2 ⟨rfl, hz2⟩))
                go_roundw
                case rel =>
                  have hS := HS.out
                  have hkx := HQ.out.2.1
                  have hwx : wr.heap.size ≤ x1.heap.size := Gr.size (w := wr) (w' := x1) (by repeat (with_reducible first | assumption | exact Gr.refl _ | apply Gr.alloc | apply Gr.drewN | apply Gr.drew | apply Gr.iter | (refine Gr.setCell ?_ (by simp) _) | (refine Gr.trans ?_ (by assumption))))
                  have hg56 : Gr y5 y6 := (by repeat (with_reducible first | assumption | exact Gr.refl _ | apply Gr.alloc | apply Gr.drewN | apply Gr.drew | apply Gr.iter | (refine Gr.setCell ?_ (by simp) _) | (refine Gr.trans ?_ (by assumption))))
                  have hgy4 : Gr w4 y4 := Gr.trans hgy1 (by repeat (with_reducible first | assumption | exact Gr.refl _ | apply Gr.alloc | apply Gr.drewN | apply Gr.drew | apply Gr.iter | (refine Gr.setCell ?_ (by simp) _) | (refine Gr.trans ?_ (by assumption))))
                  have hlb2 : r ≠ [] → ∀ b, lb2 = some b → b ≠ bg ∧ row ≠ some b := fun hne b hb => by
                    rcases hl5 b hb with h | h
                    · exact hS.lbs (hnil hne) b h
                    · exact ⟨by omega, fun e => by have := (hS.bld.row_lt b e).1; omega⟩
                  have hg7 : Gr w4 y5 := Gr.kgs hgy4 hk7 (fun b h => by
                    rcases h with rfl | h | h
                    · exact hS.bg0
                    · exact hS.rows b h
                    · exact Nat.le_trans hgy4.size h)
                  refine ⟨k + 1, tk ++ [p], r, _, lb2, row7, by go_num, ?_, by rw [List.length_append, List.length_singleton, hkl], hkx, ⟨hg7.trans hg56, (hW6.kgb hk7 hlb2).gr hg56, hB7.gr hg56, fun hne b hb => ?_, fun b hb => ?_, hS.wg0, hS.bg0⟩, by omega, fun h => by omega⟩
                  · rw [units_app, units_one, List.length_append]; congr 1; push_cast; omega
                  · obtain ⟨h3, h4⟩ := hlb2 hne b hb
                    refine ⟨h3, fun e => ?_⟩
                    rcases hr7 b e with h | h
                    · exact h4 h
                    · have := hW6.lb_lt hne b hb; omega
                  · rcases hr7 b hb with h | h
                    · exact hS.rows b h
                    · exact Nat.le_trans hgy4.size h
                case measure => simp [intOf]; omega
theorem walkBack_law {ea : Nat → Addr} (l : List Op) (v : Value) (ls : List Int) (vl : Value) (at_ : Int) (w : World) (hE : Env ea w) (hl : RdOps w v l) (hT : opsum l ≤ 1048576) (hN : l.length ≤ 1048576) (hls : RdInts w vl ls) :
    Calls Tryz.prog 5 #[v, vl, .int .i64 at_] w fun e w' => e = .returned (.bool true) ∧ Gr w w' := walkBack_any l v ls vl at_ w hE hl hT hN hls
end Ve
