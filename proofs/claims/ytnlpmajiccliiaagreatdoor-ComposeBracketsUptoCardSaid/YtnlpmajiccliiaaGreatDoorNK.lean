/- Walks of the reference of layer 11: Compose. -/
import Derived.Test.YtnlpmajiccliiaaGreatDoorNJ
import Derived.Test.YtnlpmajiccliiaaGreatDoorNG
set_option linter.all false
namespace Ve
open Go Go.RowKit Go.Proofs

theorem slSh_own {a ad : Option Addr} {i n cap k m c : Nat} (h : slSh a i n cap k = .slice ad m c) : ∀ b, (Value.slice ad m c).ownBlock = some b → (Value.slice a n cap).ownBlock = some b := by
  rw [← sliced_sh] at h
  simp only [sliced] at h
  intro b' hb'
  rw [← h] at hb'
  cases a with
  | none =>
    split at hb' <;> simp [Value.ownBlock] at hb'
  | some a =>
    split at hb'
    · simpa [Value.ownBlock] using hb'
    · simp only [Option.map_some, Value.ownBlock, Addr.add] at hb' ⊢
      split at hb' <;> simpa using hb'
theorem CmR.tailB {w0 w : World} {va ov : Value} {ba ad : Option Addr} {n cap m c : Nat} {A B O B' : List Op} (h : CmR w0 va (.slice ba n cap) ov A B O w) (hs : slSh ba 1 n cap 7 = .slice ad m c) (hr : RdList (OpS w0) 7 w (.slice ad m c) B') (hne : B ≠ []) : CmR w0 va (.slice ad m c) ov A B' O w :=
  ⟨h.gr, h.a, hr, h.na, fun _ b hb => h.nb hne b (slSh_own hs b hb), h.la, fun _ b hb => h.lb hne b (slSh_own hs b hb), h.o⟩
theorem CmR.tailA {w0 w : World} {vb ov : Value} {ba ad : Option Addr} {n cap m c : Nat} {A B O A' : List Op} (h : CmR w0 (.slice ba n cap) vb ov A B O w) (hs : slSh ba 1 n cap 7 = .slice ad m c) (hr : RdList (OpS w0) 7 w (.slice ad m c) A') (hne : A ≠ []) : CmR w0 (.slice ad m c) vb ov A' B O w :=
  ⟨h.gr, hr, h.b, fun _ b hb => h.na hne b (slSh_own hs b hb), h.nb, fun _ b hb => h.la hne b (slSh_own hs b hb), h.lb, h.o⟩
theorem op_kd (p : Piece) : p.op.kind = p.k := by cases p <;> rfl
/-- What the loop's end asks for. -/
theorem down_end {ps qs : List Piece} (hp : Can ps) (hq : Can qs) (hN : ps.length + qs.length ≤ 4000000) (hT : tsum ps + tsum qs ≤ 4000000) :
    (∀ o ∈ downP ps qs, checkOp o = 0) ∧ canon06 (compL ps qs) = canon06 (downP ps qs) ∧ (∀ o ∈ compL ps qs, checkOp o = 0) ∧ endsOk (compL ps qs) ∧ opsum (downP ps qs) ≤ 1099511627776 ∧ sumB (downP ps qs) ≤ 4611686018427387000 ∧ 2 * (downP ps qs).length + 4 ≤ 1099511627776 ∧
      ∀ (c : catE (compL ps qs) = 0) (w : World) (v : Value), RdOps w v (canon06 (compL ps qs)) → ∃ R, RdOps w v (R.map Piece.op) ∧ PsOk R ∧ sepL R = true ∧ units R = units (putAll .new (compL ps qs)).delta := by
  have h1 := down_sum hp hq
  have h2 := down_len ps qs
  have h3 := down_ok hp hq
  obtain ⟨k1, k2, k3⟩ := comp_facts hp hq hN hT
  refine ⟨h3, short_canon h3, k1, short_ends _, by omega, down_csum hp hq hN, by omega, fun c w v hr => ?_⟩
  obtain ⟨d1, d2⟩ := cat_delta k1 c k2
  rw [canon06_put k1] at hr
  exact ⟨_, hr, d1, d2, rfl⟩
attribute [local go_sem ↓] sliced_sh

set_option maxRecDepth 20000 in
set_option maxHeartbeats 16000000 in
theorem rcompose11_any {ea : Nat → Addr} (ps qs : List Piece) (va vb : Value) (w : World) (hE : Env ea w) (ha : RdOps w va (ps.map Piece.op)) (hb : RdOps w vb (qs.map Piece.op)) (hp : Can ps) (hq : Can qs) (hN : ps.length + qs.length ≤ 4000000) (hT : tsum ps + tsum qs ≤ 4000000)
    (hAt : ∀ x ∈ stepsP (ps.length + qs.length) ps qs, (∀ p, x.1 = some p → p.attrs.length ≤ 1048576) ∧ ∀ q, x.2 = some q → q.attrs.length ≤ 1048576) :
    Calls Tryz.prog 19 #[va, vb] w fun e w' => ∃ v', e = .returned (.tuple #[v', .int .i64 (catE (compL ps qs))]) ∧ RUn (units (putAll .new (compL ps qs)).delta) w' v' (catE (compL ps qs)) ∧ Gr w w' := by
  have HF := Lib.hid (down_end hp hq hN hT)
  have HDP := Lib.hid (show downP ps qs = (stepsP (ps.length + qs.length) ps qs).flatMap downS from rfl)
  obtain ⟨DD, hDD⟩ : ∃ DD, downP ps qs = DD := ⟨_, rfl⟩
  obtain ⟨CC, hCC⟩ : ∃ CC, compL ps qs = CC := ⟨_, rfl⟩
  rw [hDD, hCC] at HF
  rw [hDD] at HDP
  rw [hCC]
  clear hDD hCC hT
  obtain ⟨aa, na, ca, rfl, -⟩ := ha.sl
  obtain ⟨ab, nb, cb, rfl, -⟩ := hb.sl
  have hweak : ∀ {v : Value} {l : List Op}, RdOps w v l → RdList (OpS w) 7 w v l := fun h => RdList.weak h fun x cs hx => by
    obtain ⟨v, e, ha, hs⟩ := hx
    exact ⟨v, e, .inl ha, hs⟩
  have hlow : ∀ {v : Value} {l : List Op}, RdOps w v l → l ≠ [] → ∀ b, v.ownBlock = some b → b < w.heap.size := fun h hne => RdList.low h (by omega) hne
  obtain ⟨NN, hNN⟩ : ∃ NN, ps.length + qs.length = NN := ⟨_, rfl⟩
  rw [hNN] at hAt hN
  have HAT := Lib.hid hAt; clear hAt
  have hM0 : CmR w (.slice aa na ca) (.slice ab nb cb) (.slice none 0 0) (ps.map Piece.op) (qs.map Piece.op) [] w := ⟨Gr.refl _, hweak ha, hweak hb, by simp [Value.ownBlock], by simp [Value.ownBlock], hlow ha, hlow hb, OwnL.nil ..⟩
  go_enter Tryz.func19, Tryz.ntmps19
  go_wp2
  go_loopw [0, 1, 6] (fun x y o wr => ∃ (rs ts : List Piece) (dn : List (Option Piece × Option Piece)), CmR w x y o (rs.map Piece.op) (ts.map Piece.op) (dn.flatMap downS) wr ∧ Can rs ∧ Can ts ∧ dn.length ≤ NN ∧ rs.length + ts.length ≤ NN - dn.length ∧ stepsP NN ps qs = dn ++ stepsP (NN - dn.length) rs ts) (fun x y _ _ => slLenA x + slLenA y)
  case atStart => exact ⟨ps, qs, [], hM0, hp, hq, Nat.zero_le _, by simp; omega, by simp⟩
  case round =>
    obtain ⟨rs, ts, dn, hM, cr, ct, hdn, hlen, hst⟩ := hrel
    have hol := Nat.le_trans (flat_len dn) hdn
    have hEr := hE.gr hM.gr
    have hgr := hM.gr
    obtain ⟨xaa, xan, xac, rfl, hxa1, -, -, hxan⟩ := hM.a.sl
    obtain ⟨yba, ybn, ybc, rfl, hyb1, -, -, hybn⟩ := hM.b.sl
    obtain ⟨oa, on, oc, rfl, -⟩ := hM.o.sl
    have HM := Lib.hid hM; clear hM
    obtain ⟨xk, xt, ⟨xva, xvb, xvt⟩, xct, xl, hX⟩ : ∃ k t v c a, nextO (rs.map Piece.op) = ⟨k, t, v, c, a⟩ := ⟨_, _, _, _, _, rfl⟩
    obtain ⟨yk, yt, ⟨yva, yvb, yvt⟩, yct, yl, hY⟩ : ∃ k t v c a, nextO (ts.map Piece.op) = ⟨k, t, v, c, a⟩ := ⟨_, _, _, _, _, rfl⟩
    by_cases he : rs = [] ∧ ts = []
    · obtain ⟨rfl, rfl⟩ := he
      have hO : dn.flatMap downS = DD := by
        have e : stepsP (NN - dn.length) [] [] = [] := by cases NN - dn.length <;> simp [stepsP]
        rw [HDP.out, hNN, hst, e, List.append_nil]
      have hRd := RdList.weak (R' := OpR) (OwnL.rd HM.out.o (by omega)) fun x cs hx => OpS.opR hx hgr
      rw [hO] at hRd
      clear hO hst hX hY
      obtain rfl : xan = 0 := by have h := hxan.out; simp at h; omega
      obtain rfl : ybn = 0 := by have h := hybn.out; simp at h; omega
      go_wp2_with (go_at_call 73; refine (rshort06_s DD CC _ _ (RdOps.gr hRd (by repeat (with_reducible first | assumption | exact Gr.refl _ | apply Gr.alloc | apply Gr.drewN | apply Gr.drew | apply Gr.iter | (refine Gr.setCell ?_ (by simp) _) | (refine Gr.trans ?_ (by assumption))))) HF.out.1 HF.out.2.1 HF.out.2.2.1 HF.out.2.2.2.1 HF.out.2.2.2.2.1 HF.out.2.2.2.2.2.1 HF.out.2.2.2.2.2.2.1).mono ?_; rintro e w5 ⟨v5, rfl, hr5, hg5⟩)
      go_ret2
      exact ⟨_, rfl, fun c => HF.out.2.2.2.2.2.2.2 c _ _ (hr5 c), (by repeat (with_reducible first | assumption | exact Gr.refl _ | apply Gr.alloc | apply Gr.drewN | apply Gr.drew | apply Gr.iter | (refine Gr.setCell ?_ (by simp) _) | (refine Gr.trans ?_ (by assumption))))⟩
    · by_cases k1 : kindP ts = 1 ∨ kindP ts = 2
      · cases ts with
        | nil => simp [kindP] at k1
        | cons q ts =>
          have hyk : yk = 1 ∨ yk = 2 := by
            have h := congrArg Op.kind hY
            simp only [List.map_cons, nextO, op_kd] at h
            simp only [kindP] at k1
            rw [← h]; exact k1
          have hmb : 1 ≤ ybn := by have := hybn.out; simp at this; omega
          have hmb2 : (0 : Int) < ybn := by omega
          have hmb3 : (1 : Int) ≤ ybn := by omega
          have hst2 : stepsP (NN - dn.length) rs (q :: ts) = (none, some q) :: stepsP (NN - dn.length - 1) rs ts := by
            obtain ⟨f, hf⟩ : ∃ f, NN - dn.length = f + 1 := ⟨NN - dn.length - 1, by simp only [List.length_cons] at hlen; omega⟩
            rw [hf, Nat.add_sub_cancel]
            simp only [stepsP]
            rw [if_neg (by simp), stepP_ins k1]
            have e1 : (nextP (q :: ts) (leftP (q :: ts))).1 = q := by simp [nextP, leftP]
            have e2 : (nextP (q :: ts) (leftP (q :: ts))).2 = ts := by simp [nextP, leftP]
            simp only [e1, e2]
          have hct : Can ts := by
            have h := (step_can cr ct).2
            rw [stepP_ins k1] at h
            have e2 : (nextP (q :: ts) (leftP (q :: ts))).2 = ts := by simp [nextP, leftP]
            simpa only [e2] using h
          have hqo : q.op = ⟨yk, yt, ⟨yva, yvb, yvt⟩, yct, yl⟩ := by simpa only [List.map_cons, nextO] using hY
          have HX := Lib.hid hX; have HY := Lib.hid hY; have HST := Lib.hid (And.intro hst (And.intro hst2 (And.intro hct hqo))); clear hX hY k1 he hst hst2 hct hqo
          rcases hyk with rfl | rfl
          · rcases Nat.eq_zero_or_pos xan with hx0 | hx0
            · subst hx0
              go_wp2_with (first
                | (go_at_call 68; have _h := hg1; (with_reducible refine (next11_any w ((q :: ts).map Piece.op) _ _ (Gr.trans hgr (by repeat (with_reducible first | assumption | exact Gr.refl _ | apply Gr.alloc | apply Gr.drewN | apply Gr.drew | apply Gr.iter | (refine Gr.setCell ?_ (by simp) _) | (refine Gr.trans ?_ (by assumption))))) (HM.out.b.grS (by repeat (with_reducible first | assumption | exact Gr.refl _ | apply Gr.alloc | apply Gr.drewN | apply Gr.drew | apply Gr.iter | (refine Gr.setCell ?_ (by simp) _) | (refine Gr.trans ?_ (by assumption)))))).mono ?_); rw [HY.out]; rintro e w2 ⟨sy, rfl, hay, hs3, hs4, hg2⟩; obtain ⟨sya, syn, syc, rfl⟩ := hay.sl; dsimp only [opV]; obtain ⟨v', w', hrun, hM', x1, x2, x3, rfl⟩ := CmR.add (x := .slice (some ⟨((w2.alloc (.cells #[.int .i64 xk, .string xt, .int .i64 xva, .int .i64 xvb, .string xvt, .int .i64 xct, .slice sxa sxn sxc] 65)).alloc (.cells #[.int .i64 1, .string yt, .int .i64 yva, .int .i64 yvb, .string yvt, .int .i64 yct, .slice sya syn syc] 65)).heap.size, 0, none⟩) 1 1) (m := [⟨1, yt, ⟨yva, yvb, yvt⟩, yct, yl⟩]) (HM.out.to (w' := (((w2.alloc (.cells #[.int .i64 xk, .string xt, .int .i64 xva, .int .i64 xvb, .string xvt, .int .i64 xct, .slice sxa sxn sxc] 65)).alloc (.cells #[.int .i64 1, .string yt, .int .i64 yva, .int .i64 yvb, .string yvt, .int .i64 yct, .slice sya syn syc] 65)).alloc (.cells #[.int .i64 1, .string yt, .int .i64 yva, .int .i64 yvb, .string yvt, .int .i64 yct, .slice sya syn syc] 65))) (by repeat (with_reducible first | assumption | exact Gr.refl _ | apply Gr.alloc | apply Gr.drewN | apply Gr.drew | apply Gr.iter | (refine Gr.setCell ?_ (by simp) _) | (refine Gr.trans ?_ (by assumption))))) (rd_op1 (o := ⟨1, yt, ⟨yva, yvb, yvt⟩, yct, yl⟩) (Blk.new _ _ _) (hay.gr (by repeat (with_reducible first | assumption | exact Gr.refl _ | apply Gr.alloc | apply Gr.drewN | apply Gr.drew | apply Gr.iter | (refine Gr.setCell ?_ (by simp) _) | (refine Gr.trans ?_ (by assumption))))) hs3 hs4) 22 (by simp only [List.length_cons, List.length_nil]; omega); simp only [World.size_alloc] at hrun; obtain ⟨ad, hsl, hrd⟩ := rd_slSh hM'.b 1 hmb; have HP := Lib.hid (And.intro hrun (And.intro hM' (And.intro hsl hrd))); clear hrun hM' hrd)
                | (go_at_call 68; (with_reducible refine (next11_any w (rs.map Piece.op) _ _ (Gr.trans hgr (by repeat (with_reducible first | assumption | exact Gr.refl _ | apply Gr.alloc | apply Gr.drewN | apply Gr.drew | apply Gr.iter | (refine Gr.setCell ?_ (by simp) _) | (refine Gr.trans ?_ (by assumption))))) (HM.out.a.grS (by repeat (with_reducible first | assumption | exact Gr.refl _ | apply Gr.alloc | apply Gr.drewN | apply Gr.drew | apply Gr.iter | (refine Gr.setCell ?_ (by simp) _) | (refine Gr.trans ?_ (by assumption)))))).mono ?_); rw [HX.out]; rintro e w1 ⟨sx, rfl, hax, hs1, hs2, hg1⟩; obtain ⟨sxa, sxn, sxc, rfl⟩ := hax.sl; dsimp only [opV])
                | (at_builtin; refine wpList_run rfl _ _ _ rfl rfl rfl HP.out.1 ?_))
              refine ⟨⟨rs, ts, dn ++ [(none, some q)], ?_, cr, HST.out.2.2.1, by rw [List.length_append, List.length_singleton]; simp only [List.length_cons] at hlen; omega, by rw [List.length_append, List.length_singleton]; simp only [List.length_cons] at hlen; omega, ?_⟩, by simp only [slLenA]; omega⟩
              · have h := CmR.tailB HP.out.2.1 HP.out.2.2.1 HP.out.2.2.2 (by simp)
                rw [List.flatMap_append]
                simp only [List.flatMap_cons, List.flatMap_nil, downS, List.append_nil, HST.out.2.2.2]
                exact h
              · rw [HST.out.1, HST.out.2.1, List.append_assoc, List.length_append, List.length_singleton, Nat.sub_sub]; rfl
            · have hx0' : (0 : Int) < xan := by omega
              go_wp2_with (first
                | (go_at_call 68; have _h := hg1; (with_reducible refine (next11_any w ((q :: ts).map Piece.op) _ _ (Gr.trans hgr (by repeat (with_reducible first | assumption | exact Gr.refl _ | apply Gr.alloc | apply Gr.drewN | apply Gr.drew | apply Gr.iter | (refine Gr.setCell ?_ (by simp) _) | (refine Gr.trans ?_ (by assumption))))) (HM.out.b.grS (by repeat (with_reducible first | assumption | exact Gr.refl _ | apply Gr.alloc | apply Gr.drewN | apply Gr.drew | apply Gr.iter | (refine Gr.setCell ?_ (by simp) _) | (refine Gr.trans ?_ (by assumption)))))).mono ?_); rw [HY.out]; rintro e w2 ⟨sy, rfl, hay, hs3, hs4, hg2⟩; obtain ⟨sya, syn, syc, rfl⟩ := hay.sl; dsimp only [opV]; obtain ⟨v', w', hrun, hM', x1, x2, x3, rfl⟩ := CmR.add (x := .slice (some ⟨((w2.alloc (.cells #[.int .i64 xk, .string xt, .int .i64 xva, .int .i64 xvb, .string xvt, .int .i64 xct, .slice sxa sxn sxc] 65)).alloc (.cells #[.int .i64 1, .string yt, .int .i64 yva, .int .i64 yvb, .string yvt, .int .i64 yct, .slice sya syn syc] 65)).heap.size, 0, none⟩) 1 1) (m := [⟨1, yt, ⟨yva, yvb, yvt⟩, yct, yl⟩]) (HM.out.to (w' := (((w2.alloc (.cells #[.int .i64 xk, .string xt, .int .i64 xva, .int .i64 xvb, .string xvt, .int .i64 xct, .slice sxa sxn sxc] 65)).alloc (.cells #[.int .i64 1, .string yt, .int .i64 yva, .int .i64 yvb, .string yvt, .int .i64 yct, .slice sya syn syc] 65)).alloc (.cells #[.int .i64 1, .string yt, .int .i64 yva, .int .i64 yvb, .string yvt, .int .i64 yct, .slice sya syn syc] 65))) (by repeat (with_reducible first | assumption | exact Gr.refl _ | apply Gr.alloc | apply Gr.drewN | apply Gr.drew | apply Gr.iter | (refine Gr.setCell ?_ (by simp) _) | (refine Gr.trans ?_ (by assumption))))) (rd_op1 (o := ⟨1, yt, ⟨yva, yvb, yvt⟩, yct, yl⟩) (Blk.new _ _ _) (hay.gr (by repeat (with_reducible first | assumption | exact Gr.refl _ | apply Gr.alloc | apply Gr.drewN | apply Gr.drew | apply Gr.iter | (refine Gr.setCell ?_ (by simp) _) | (refine Gr.trans ?_ (by assumption))))) hs3 hs4) 22 (by simp only [List.length_cons, List.length_nil]; omega); simp only [World.size_alloc] at hrun; obtain ⟨ad, hsl, hrd⟩ := rd_slSh hM'.b 1 hmb; have HP := Lib.hid (And.intro hrun (And.intro hM' (And.intro hsl hrd))); clear hrun hM' hrd)
                | (go_at_call 68; (with_reducible refine (next11_any w (rs.map Piece.op) _ _ (Gr.trans hgr (by repeat (with_reducible first | assumption | exact Gr.refl _ | apply Gr.alloc | apply Gr.drewN | apply Gr.drew | apply Gr.iter | (refine Gr.setCell ?_ (by simp) _) | (refine Gr.trans ?_ (by assumption))))) (HM.out.a.grS (by repeat (with_reducible first | assumption | exact Gr.refl _ | apply Gr.alloc | apply Gr.drewN | apply Gr.drew | apply Gr.iter | (refine Gr.setCell ?_ (by simp) _) | (refine Gr.trans ?_ (by assumption)))))).mono ?_); rw [HX.out]; rintro e w1 ⟨sx, rfl, hax, hs1, hs2, hg1⟩; obtain ⟨sxa, sxn, sxc, rfl⟩ := hax.sl; dsimp only [opV])
                | (at_builtin; refine wpList_run rfl _ _ _ rfl rfl rfl HP.out.1 ?_))
              refine ⟨⟨rs, ts, dn ++ [(none, some q)], ?_, cr, HST.out.2.2.1, by rw [List.length_append, List.length_singleton]; simp only [List.length_cons] at hlen; omega, by rw [List.length_append, List.length_singleton]; simp only [List.length_cons] at hlen; omega, ?_⟩, by simp only [slLenA]; omega⟩
              · have h := CmR.tailB HP.out.2.1 HP.out.2.2.1 HP.out.2.2.2 (by simp)
                rw [List.flatMap_append]
                simp only [List.flatMap_cons, List.flatMap_nil, downS, List.append_nil, HST.out.2.2.2]
                exact h
              · rw [HST.out.1, HST.out.2.1, List.append_assoc, List.length_append, List.length_singleton, Nat.sub_sub]; rfl
          · rcases Nat.eq_zero_or_pos xan with hx0 | hx0
            · subst hx0
              go_wp2_with (first
                | (go_at_call 68; have _h := hg1; (with_reducible refine (next11_any w ((q :: ts).map Piece.op) _ _ (Gr.trans hgr (by repeat (with_reducible first | assumption | exact Gr.refl _ | apply Gr.alloc | apply Gr.drewN | apply Gr.drew | apply Gr.iter | (refine Gr.setCell ?_ (by simp) _) | (refine Gr.trans ?_ (by assumption))))) (HM.out.b.grS (by repeat (with_reducible first | assumption | exact Gr.refl _ | apply Gr.alloc | apply Gr.drewN | apply Gr.drew | apply Gr.iter | (refine Gr.setCell ?_ (by simp) _) | (refine Gr.trans ?_ (by assumption)))))).mono ?_); rw [HY.out]; rintro e w2 ⟨sy, rfl, hay, hs3, hs4, hg2⟩; obtain ⟨sya, syn, syc, rfl⟩ := hay.sl; dsimp only [opV]; obtain ⟨v', w', hrun, hM', x1, x2, x3, rfl⟩ := CmR.add (x := .slice (some ⟨((w2.alloc (.cells #[.int .i64 xk, .string xt, .int .i64 xva, .int .i64 xvb, .string xvt, .int .i64 xct, .slice sxa sxn sxc] 65)).alloc (.cells #[.int .i64 2, .string yt, .int .i64 yva, .int .i64 yvb, .string yvt, .int .i64 yct, .slice sya syn syc] 65)).heap.size, 0, none⟩) 1 1) (m := [⟨2, yt, ⟨yva, yvb, yvt⟩, yct, yl⟩]) (HM.out.to (w' := (((w2.alloc (.cells #[.int .i64 xk, .string xt, .int .i64 xva, .int .i64 xvb, .string xvt, .int .i64 xct, .slice sxa sxn sxc] 65)).alloc (.cells #[.int .i64 2, .string yt, .int .i64 yva, .int .i64 yvb, .string yvt, .int .i64 yct, .slice sya syn syc] 65)).alloc (.cells #[.int .i64 2, .string yt, .int .i64 yva, .int .i64 yvb, .string yvt, .int .i64 yct, .slice sya syn syc] 65))) (by repeat (with_reducible first | assumption | exact Gr.refl _ | apply Gr.alloc | apply Gr.drewN | apply Gr.drew | apply Gr.iter | (refine Gr.setCell ?_ (by simp) _) | (refine Gr.trans ?_ (by assumption))))) (rd_op1 (o := ⟨2, yt, ⟨yva, yvb, yvt⟩, yct, yl⟩) (Blk.new _ _ _) (hay.gr (by repeat (with_reducible first | assumption | exact Gr.refl _ | apply Gr.alloc | apply Gr.drewN | apply Gr.drew | apply Gr.iter | (refine Gr.setCell ?_ (by simp) _) | (refine Gr.trans ?_ (by assumption))))) hs3 hs4) 22 (by simp only [List.length_cons, List.length_nil]; omega); simp only [World.size_alloc] at hrun; obtain ⟨ad, hsl, hrd⟩ := rd_slSh hM'.b 1 hmb; have HP := Lib.hid (And.intro hrun (And.intro hM' (And.intro hsl hrd))); clear hrun hM' hrd)
                | (go_at_call 68; (with_reducible refine (next11_any w (rs.map Piece.op) _ _ (Gr.trans hgr (by repeat (with_reducible first | assumption | exact Gr.refl _ | apply Gr.alloc | apply Gr.drewN | apply Gr.drew | apply Gr.iter | (refine Gr.setCell ?_ (by simp) _) | (refine Gr.trans ?_ (by assumption))))) (HM.out.a.grS (by repeat (with_reducible first | assumption | exact Gr.refl _ | apply Gr.alloc | apply Gr.drewN | apply Gr.drew | apply Gr.iter | (refine Gr.setCell ?_ (by simp) _) | (refine Gr.trans ?_ (by assumption)))))).mono ?_); rw [HX.out]; rintro e w1 ⟨sx, rfl, hax, hs1, hs2, hg1⟩; obtain ⟨sxa, sxn, sxc, rfl⟩ := hax.sl; dsimp only [opV])
                | (at_builtin; refine wpList_run rfl _ _ _ rfl rfl rfl HP.out.1 ?_))
              refine ⟨⟨rs, ts, dn ++ [(none, some q)], ?_, cr, HST.out.2.2.1, by rw [List.length_append, List.length_singleton]; simp only [List.length_cons] at hlen; omega, by rw [List.length_append, List.length_singleton]; simp only [List.length_cons] at hlen; omega, ?_⟩, by simp only [slLenA]; omega⟩
              · have h := CmR.tailB HP.out.2.1 HP.out.2.2.1 HP.out.2.2.2 (by simp)
                rw [List.flatMap_append]
                simp only [List.flatMap_cons, List.flatMap_nil, downS, List.append_nil, HST.out.2.2.2]
                exact h
              · rw [HST.out.1, HST.out.2.1, List.append_assoc, List.length_append, List.length_singleton, Nat.sub_sub]; rfl
            · have hx0' : (0 : Int) < xan := by omega
              go_wp2_with (first
                | (go_at_call 68; have _h := hg1; (with_reducible refine (next11_any w ((q :: ts).map Piece.op) _ _ (Gr.trans hgr (by repeat (with_reducible first | assumption | exact Gr.refl _ | apply Gr.alloc | apply Gr.drewN | apply Gr.drew | apply Gr.iter | (refine Gr.setCell ?_ (by simp) _) | (refine Gr.trans ?_ (by assumption))))) (HM.out.b.grS (by repeat (with_reducible first | assumption | exact Gr.refl _ | apply Gr.alloc | apply Gr.drewN | apply Gr.drew | apply Gr.iter | (refine Gr.setCell ?_ (by simp) _) | (refine Gr.trans ?_ (by assumption)))))).mono ?_); rw [HY.out]; rintro e w2 ⟨sy, rfl, hay, hs3, hs4, hg2⟩; obtain ⟨sya, syn, syc, rfl⟩ := hay.sl; dsimp only [opV]; obtain ⟨v', w', hrun, hM', x1, x2, x3, rfl⟩ := CmR.add (x := .slice (some ⟨((w2.alloc (.cells #[.int .i64 xk, .string xt, .int .i64 xva, .int .i64 xvb, .string xvt, .int .i64 xct, .slice sxa sxn sxc] 65)).alloc (.cells #[.int .i64 2, .string yt, .int .i64 yva, .int .i64 yvb, .string yvt, .int .i64 yct, .slice sya syn syc] 65)).heap.size, 0, none⟩) 1 1) (m := [⟨2, yt, ⟨yva, yvb, yvt⟩, yct, yl⟩]) (HM.out.to (w' := (((w2.alloc (.cells #[.int .i64 xk, .string xt, .int .i64 xva, .int .i64 xvb, .string xvt, .int .i64 xct, .slice sxa sxn sxc] 65)).alloc (.cells #[.int .i64 2, .string yt, .int .i64 yva, .int .i64 yvb, .string yvt, .int .i64 yct, .slice sya syn syc] 65)).alloc (.cells #[.int .i64 2, .string yt, .int .i64 yva, .int .i64 yvb, .string yvt, .int .i64 yct, .slice sya syn syc] 65))) (by repeat (with_reducible first | assumption | exact Gr.refl _ | apply Gr.alloc | apply Gr.drewN | apply Gr.drew | apply Gr.iter | (refine Gr.setCell ?_ (by simp) _) | (refine Gr.trans ?_ (by assumption))))) (rd_op1 (o := ⟨2, yt, ⟨yva, yvb, yvt⟩, yct, yl⟩) (Blk.new _ _ _) (hay.gr (by repeat (with_reducible first | assumption | exact Gr.refl _ | apply Gr.alloc | apply Gr.drewN | apply Gr.drew | apply Gr.iter | (refine Gr.setCell ?_ (by simp) _) | (refine Gr.trans ?_ (by assumption))))) hs3 hs4) 22 (by simp only [List.length_cons, List.length_nil]; omega); simp only [World.size_alloc] at hrun; obtain ⟨ad, hsl, hrd⟩ := rd_slSh hM'.b 1 hmb; have HP := Lib.hid (And.intro hrun (And.intro hM' (And.intro hsl hrd))); clear hrun hM' hrd)
                | (go_at_call 68; (with_reducible refine (next11_any w (rs.map Piece.op) _ _ (Gr.trans hgr (by repeat (with_reducible first | assumption | exact Gr.refl _ | apply Gr.alloc | apply Gr.drewN | apply Gr.drew | apply Gr.iter | (refine Gr.setCell ?_ (by simp) _) | (refine Gr.trans ?_ (by assumption))))) (HM.out.a.grS (by repeat (with_reducible first | assumption | exact Gr.refl _ | apply Gr.alloc | apply Gr.drewN | apply Gr.drew | apply Gr.iter | (refine Gr.setCell ?_ (by simp) _) | (refine Gr.trans ?_ (by assumption)))))).mono ?_); rw [HX.out]; rintro e w1 ⟨sx, rfl, hax, hs1, hs2, hg1⟩; obtain ⟨sxa, sxn, sxc, rfl⟩ := hax.sl; dsimp only [opV])
                | (at_builtin; refine wpList_run rfl _ _ _ rfl rfl rfl HP.out.1 ?_))
              refine ⟨⟨rs, ts, dn ++ [(none, some q)], ?_, cr, HST.out.2.2.1, by rw [List.length_append, List.length_singleton]; simp only [List.length_cons] at hlen; omega, by rw [List.length_append, List.length_singleton]; simp only [List.length_cons] at hlen; omega, ?_⟩, by simp only [slLenA]; omega⟩
              · have h := CmR.tailB HP.out.2.1 HP.out.2.2.1 HP.out.2.2.2 (by simp)
                rw [List.flatMap_append]
                simp only [List.flatMap_cons, List.flatMap_nil, downS, List.append_nil, HST.out.2.2.2]
                exact h
              · rw [HST.out.1, HST.out.2.1, List.append_assoc, List.length_append, List.length_singleton, Nat.sub_sub]; rfl
      · have hyk : yk = 3 ∨ yk = 4 := by
          have h := congrArg Op.kind hY
          cases ts with
          | nil => left; simp only [List.map_nil, nextO] at h; exact h.symm
          | cons q ts =>
            simp only [List.map_cons, nextO, op_kd] at h
            simp only [kindP] at k1
            have := k_cases q
            omega
        have hy1 : (yk == 1) = false := by simp; omega
        have hy2 : (yk == 2) = false := by simp; omega
        by_cases k2 : kindP rs = 4
        · cases rs with
          | nil => simp [kindP] at k2
          | cons p rs =>
            have hxk : xk = 4 := by
              have h := congrArg Op.kind hX
              simp only [List.map_cons, nextO, op_kd] at h
              simp only [kindP] at k2
              rw [← h]; exact k2
            have hma : 1 ≤ xan := by have := hxan.out; simp at this; omega
            have hma2 : (0 : Int) < xan := by omega
            have hma3 : (1 : Int) ≤ xan := by omega
            have hst2 : stepsP (NN - dn.length) (p :: rs) ts = (some p, none) :: stepsP (NN - dn.length - 1) rs ts := by
              obtain ⟨f, hf⟩ : ∃ f, NN - dn.length = f + 1 := ⟨NN - dn.length - 1, by simp only [List.length_cons] at hlen; omega⟩
              rw [hf, Nat.add_sub_cancel]
              simp only [stepsP]
              rw [if_neg (by simp), stepP_del k1 k2]
              have e1 : (nextP (p :: rs) (leftP (p :: rs))).1 = p := by simp [nextP, leftP]
              have e2 : (nextP (p :: rs) (leftP (p :: rs))).2 = rs := by simp [nextP, leftP]
              simp only [e1, e2]
            have hct : Can rs := by
              have h := (step_can cr ct).1
              rw [stepP_del k1 k2] at h
              have e2 : (nextP (p :: rs) (leftP (p :: rs))).2 = rs := by simp [nextP, leftP]
              simpa only [e2] using h
            have hpo : p.op = ⟨xk, xt, ⟨xva, xvb, xvt⟩, xct, xl⟩ := by simpa only [List.map_cons, nextO] using hX
            subst hxk
            have HX := Lib.hid hX; have HY := Lib.hid hY; have HST := Lib.hid (And.intro hst (And.intro hst2 (And.intro hct hpo))); clear hX hY k1 k2 he hst hst2 hct hpo hyk
            go_wp2_with (first
              | (go_at_call 68; have _h := hg1; (with_reducible refine (next11_any w (ts.map Piece.op) _ _ (Gr.trans hgr (by repeat (with_reducible first | assumption | exact Gr.refl _ | apply Gr.alloc | apply Gr.drewN | apply Gr.drew | apply Gr.iter | (refine Gr.setCell ?_ (by simp) _) | (refine Gr.trans ?_ (by assumption))))) (HM.out.b.grS (by repeat (with_reducible first | assumption | exact Gr.refl _ | apply Gr.alloc | apply Gr.drewN | apply Gr.drew | apply Gr.iter | (refine Gr.setCell ?_ (by simp) _) | (refine Gr.trans ?_ (by assumption)))))).mono ?_); rw [HY.out]; rintro e w2 ⟨sy, rfl, hay, hs3, hs4, hg2⟩; obtain ⟨sya, syn, syc, rfl⟩ := hay.sl; dsimp only [opV]; obtain ⟨v', w', hrun, hM', x1, x2, x3, rfl⟩ := CmR.add (x := .slice (some ⟨((w2.alloc (.cells #[.int .i64 4, .string xt, .int .i64 xva, .int .i64 xvb, .string xvt, .int .i64 xct, .slice sxa sxn sxc] 65)).alloc (.cells #[.int .i64 yk, .string yt, .int .i64 yva, .int .i64 yvb, .string yvt, .int .i64 yct, .slice sya syn syc] 65)).heap.size, 0, none⟩) 1 1) (m := [⟨4, xt, ⟨xva, xvb, xvt⟩, xct, xl⟩]) (HM.out.to (w' := (((w2.alloc (.cells #[.int .i64 4, .string xt, .int .i64 xva, .int .i64 xvb, .string xvt, .int .i64 xct, .slice sxa sxn sxc] 65)).alloc (.cells #[.int .i64 yk, .string yt, .int .i64 yva, .int .i64 yvb, .string yvt, .int .i64 yct, .slice sya syn syc] 65)).alloc (.cells #[.int .i64 4, .string xt, .int .i64 xva, .int .i64 xvb, .string xvt, .int .i64 xct, .slice sxa sxn sxc] 65))) (by repeat (with_reducible first | assumption | exact Gr.refl _ | apply Gr.alloc | apply Gr.drewN | apply Gr.drew | apply Gr.iter | (refine Gr.setCell ?_ (by simp) _) | (refine Gr.trans ?_ (by assumption))))) (rd_op1 (o := ⟨4, xt, ⟨xva, xvb, xvt⟩, xct, xl⟩) (Blk.new _ _ _) (hax.gr (by repeat (with_reducible first | assumption | exact Gr.refl _ | apply Gr.alloc | apply Gr.drewN | apply Gr.drew | apply Gr.iter | (refine Gr.setCell ?_ (by simp) _) | (refine Gr.trans ?_ (by assumption))))) hs1 hs2) 22 (by simp only [List.length_cons, List.length_nil]; omega); simp only [World.size_alloc] at hrun; obtain ⟨ad, hsl, hrd⟩ := rd_slSh hM'.a 1 hma; have HP := Lib.hid (And.intro hrun (And.intro hM' (And.intro hsl hrd))); clear hrun hM' hrd)
              | (go_at_call 68; (with_reducible refine (next11_any w ((p :: rs).map Piece.op) _ _ (Gr.trans hgr (by repeat (with_reducible first | assumption | exact Gr.refl _ | apply Gr.alloc | apply Gr.drewN | apply Gr.drew | apply Gr.iter | (refine Gr.setCell ?_ (by simp) _) | (refine Gr.trans ?_ (by assumption))))) (HM.out.a.grS (by repeat (with_reducible first | assumption | exact Gr.refl _ | apply Gr.alloc | apply Gr.drewN | apply Gr.drew | apply Gr.iter | (refine Gr.setCell ?_ (by simp) _) | (refine Gr.trans ?_ (by assumption)))))).mono ?_); rw [HX.out]; rintro e w1 ⟨sx, rfl, hax, hs1, hs2, hg1⟩; obtain ⟨sxa, sxn, sxc, rfl⟩ := hax.sl; dsimp only [opV])
              | (at_builtin; refine wpList_run rfl _ _ _ rfl rfl rfl HP.out.1 ?_))
            refine ⟨⟨rs, ts, dn ++ [(some p, none)], ?_, HST.out.2.2.1, ct, by rw [List.length_append, List.length_singleton]; simp only [List.length_cons] at hlen; omega, by rw [List.length_append, List.length_singleton]; simp only [List.length_cons] at hlen; omega, ?_⟩, by simp only [slLenA]; omega⟩
            · have h := CmR.tailA HP.out.2.1 HP.out.2.2.1 HP.out.2.2.2 (by simp)
              rw [List.flatMap_append]
              simp only [List.flatMap_cons, List.flatMap_nil, downS, List.append_nil, HST.out.2.2.2]
              exact h
            · rw [HST.out.1, HST.out.2.1, List.append_assoc, List.length_append, List.length_singleton, Nat.sub_sub]; rfl
        · obtain ⟨M, hM⟩ : ∃ M, min (leftP rs) (leftP ts) = M := ⟨_, rfl⟩
          have hmin := next_min cr ct he
          obtain ⟨r1, r2⟩ := cr.left
          obtain ⟨t1, t2⟩ := ct.left
          have hM1 : 1 ≤ M := by omega
          have hM2 : M ≤ 1099511627776 := by omega
          have hsp : stepP rs ts = ((some (nextP rs M).1, some (nextP ts M).1), (nextP rs M).2, (nextP ts M).2) := by rw [stepP_two k1 k2, hM]
          have hso := step_ok cr ct
          obtain ⟨c1, c2⟩ := step_can cr ct
          have hsl := step_len cr ct he
          rw [hsp] at hso c1 c2 hsl
          obtain ⟨P, hP⟩ : ∃ P, (nextP rs M).1 = P := ⟨_, rfl⟩
          obtain ⟨Q, hQ⟩ : ∃ Q, (nextP ts M).1 = Q := ⟨_, rfl⟩
          rw [hP, hQ] at hso hsp
          have hpq : pOk P ∧ pOk Q ∧ P.k ≠ 4 ∧ (Q.k = 3 ∨ Q.k = 4) := by
            rcases hso with ⟨q, e, -⟩ | ⟨p, e, -⟩ | ⟨p, q, e, h1, h2, -, h3, h4⟩
            · simp at e
            · simp at e
            · simp only [Prod.mk.injEq, Option.some.injEq] at e
              obtain ⟨rfl, rfl⟩ := e
              exact ⟨h1, h2, h3, h4⟩
          obtain ⟨pok, qok, pk4, qk34⟩ := hpq
          have hst2 : stepsP (NN - dn.length) rs ts = (some P, some Q) :: stepsP (NN - dn.length - 1) (nextP rs M).2 (nextP ts M).2 := by
            have hpos : 0 < rs.length + ts.length := by
              cases rs with
              | nil => cases ts with
                | nil => exact absurd ⟨rfl, rfl⟩ he
                | cons q ts => simp
              | cons p rs => simp; omega
            obtain ⟨f, hf⟩ : ∃ f, NN - dn.length = f + 1 := ⟨NN - dn.length - 1, by omega⟩
            rw [hf, Nat.add_sub_cancel]
            simp only [stepsP]
            rw [if_neg he, hsp]
          have hxat : P.attrs.length ≤ 1048576 ∧ Q.attrs.length ≤ 1048576 := by
            have h := HAT.out (some P, some Q) (by rw [hst, hst2]; simp)
            exact ⟨h.1 P rfl, h.2 Q rfl⟩
          rw [hX, hY, hM] at hmin
          obtain ⟨RX, hRX⟩ : ∃ RX, rlen ⟨xk, xt, ⟨xva, xvb, xvt⟩, xct, xl⟩ = RX := ⟨_, rfl⟩
          obtain ⟨RY, hRY⟩ : ∃ RY, rlen ⟨yk, yt, ⟨yva, yvb, yvt⟩, yct, yl⟩ = RY := ⟨_, rfl⟩
          rw [hRX, hRY] at hmin
          have hxo : checkOp ⟨xk, xt, ⟨xva, xvb, xvt⟩, xct, xl⟩ = 0 ∨ (⟨xk, xt, ⟨xva, xvb, xvt⟩, xct, xl⟩ : Op) = bigO := by
            rw [← hX]
            cases rs with
            | nil => exact .inr rfl
            | cons p rs => exact .inl (cr.ok p (by simp)).1
          have hyo : checkOp ⟨yk, yt, ⟨yva, yvb, yvt⟩, yct, yl⟩ = 0 ∨ (⟨yk, yt, ⟨yva, yvb, yvt⟩, yct, yl⟩ : Op) = bigO := by
            rw [← hY]
            cases ts with
            | nil => exact .inr rfl
            | cons q ts => exact .inl (ct.ok q (by simp)).1
          have hhx : ∃ LX, headO ⟨xk, xt, ⟨xva, xvb, xvt⟩, xct, xl⟩ M = (P.op, LX) ∧ LX.length ≤ 1 ∧ (rs ≠ [] → LX ++ (rs.map Piece.op).tail = (nextP rs M).2.map Piece.op) ∧ (rs = [] → (nextP rs M).2 = []) := by
            rw [← hX]
            refine ⟨_, Prod.ext ?_ rfl, headO_len _ _, ?_, ?_⟩
            · cases rs with
              | nil => rw [← hP]; exact (head_big hM1 hM2).1
              | cons p rs => rw [← hP]; exact (head_next (cr.ok p (by simp)) hM1).1
            · cases rs with
              | nil => intro h; exact absurd rfl h
              | cons p rs => intro _; exact (head_next (cr.ok p (by simp)) hM1).2
            · rintro rfl; rfl
          have hhy : ∃ LY, headO ⟨yk, yt, ⟨yva, yvb, yvt⟩, yct, yl⟩ M = (Q.op, LY) ∧ LY.length ≤ 1 ∧ (ts ≠ [] → LY ++ (ts.map Piece.op).tail = (nextP ts M).2.map Piece.op) ∧ (ts = [] → (nextP ts M).2 = []) := by
            rw [← hY]
            refine ⟨_, Prod.ext ?_ rfl, headO_len _ _, ?_, ?_⟩
            · cases ts with
              | nil => rw [← hQ]; exact (head_big hM1 hM2).1
              | cons p ts => rw [← hQ]; exact (head_next (ct.ok p (by simp)) hM1).1
            · cases ts with
              | nil => intro h; exact absurd rfl h
              | cons p ts => intro _; exact (head_next (ct.ok p (by simp)) hM1).2
            · rintro rfl; rfl
          obtain ⟨LX, hLX, hLX1, hLX2, hLX3⟩ := hhx
          obtain ⟨LY, hLY, hLY1, hLY2, hLY3⟩ := hhy
          have hbo := bothO_ops pk4 qk34
          have hbl : (bothP P Q).length ≤ 1 := downS_len (some P, some Q)
          have hri := ok_rise pok
          obtain ⟨pk, pt, ⟨pva, pvb, pvt⟩, pc, pl, hPo⟩ : ∃ k t v c a, P.op = ⟨k, t, v, c, a⟩ := ⟨_, _, _, _, _, rfl⟩
          obtain ⟨qk, qt, ⟨qva, qvb, qvt⟩, qc, ql, hQo⟩ : ∃ k t v c a, Q.op = ⟨k, t, v, c, a⟩ := ⟨_, _, _, _, _, rfl⟩
          have hpa := op_attrs P
          have hqa := op_attrs Q
          rw [hPo] at hLX hbo hpa
          rw [hQo] at hLY hbo hqa
          dsimp only at hpa hqa
          rw [← hpa] at hri hxat
          rw [← hqa] at hxat
          have hq4 : qk = 4 ∨ qk ≠ 4 := by omega
          have HRX := Lib.hid hRX; have HRY := Lib.hid hRY; have HLX := Lib.hid hLX; have HLY := Lib.hid hLY; have HBO := Lib.hid hbo; have HRI := Lib.hid hri; have HPQ := Lib.hid (And.intro hPo hQo)
          have HX := Lib.hid hX; have HY := Lib.hid hY
          have HC := Lib.hid (And.intro hst (And.intro hst2 (And.intro c1 (And.intro c2 (And.intro hsl (And.intro hLX2 (And.intro hLX3 (And.intro hLY2 hLY3))))))))
          have HLL := Lib.hid (And.intro hLX1 (And.intro hLY1 hbl))
          have HXO := Lib.hid (And.intro hxo hyo)
          obtain ⟨BO, hBO⟩ : ∃ BO, bothP P Q = BO := ⟨_, rfl⟩
          rw [hBO] at HBO HLL
          have HB := Lib.hid hBO
          have hx4 : (xk == 4) = false := by
            have h := congrArg Op.kind hX
            cases rs with
            | nil => simp only [List.map_nil, nextO, bigO] at h; simp; omega
            | cons p rs =>
              simp only [List.map_cons, nextO, op_kd] at h
              simp only [kindP] at k2
              simp; omega
          clear hX hY hst hst2 c1 c2 hsl hLX2 hLX3 hLY2 hLY3 hLX1 hLY1 hbl hxo hyo hBO hRX hRY hLX hLY hbo hri hPo hQo hso hsp hP hQ hM pok qok pk4 qk34 hpa hqa k1 k2 hyk r1 r2 t1 t2 hq4
          rcases Nat.eq_zero_or_pos xan with hx0 | hx0
          · subst hx0
            rcases Nat.eq_zero_or_pos ybn with hy0 | hy0
            · subst hy0
              exfalso
              exact he ⟨List.eq_nil_of_length_eq_zero (by simpa using hxan.out), List.eq_nil_of_length_eq_zero (by simpa using hybn.out)⟩
            · have hy0' : (0 : Int) < ybn := by omega
              go_wp2_with (first
                | (go_at_call 68; have _h := hg1; (with_reducible refine (next11_any w (ts.map Piece.op) _ _ (Gr.trans hgr (by repeat (with_reducible first | assumption | exact Gr.refl _ | apply Gr.alloc | apply Gr.drewN | apply Gr.drew | apply Gr.iter | (refine Gr.setCell ?_ (by simp) _) | (refine Gr.trans ?_ (by assumption))))) (HM.out.b.grS (by repeat (with_reducible first | assumption | exact Gr.refl _ | apply Gr.alloc | apply Gr.drewN | apply Gr.drew | apply Gr.iter | (refine Gr.setCell ?_ (by simp) _) | (refine Gr.trans ?_ (by assumption)))))).mono ?_); rw [HY.out]; rintro e w2 ⟨sy, rfl, hay, hs3, hs4, hg2⟩; obtain ⟨sya, syn, syc, rfl⟩ := hay.sl; dsimp only [opV])
                | (go_at_call 68; (with_reducible refine (next11_any w (rs.map Piece.op) _ _ (Gr.trans hgr (by repeat (with_reducible first | assumption | exact Gr.refl _ | apply Gr.alloc | apply Gr.drewN | apply Gr.drew | apply Gr.iter | (refine Gr.setCell ?_ (by simp) _) | (refine Gr.trans ?_ (by assumption))))) (HM.out.a.grS (by repeat (with_reducible first | assumption | exact Gr.refl _ | apply Gr.alloc | apply Gr.drewN | apply Gr.drew | apply Gr.iter | (refine Gr.setCell ?_ (by simp) _) | (refine Gr.trans ?_ (by assumption)))))).mono ?_); rw [HX.out]; rintro e w1 ⟨sx, rfl, hax, hs1, hs2, hg1⟩; obtain ⟨sxa, sxn, sxc, rfl⟩ := hax.sl; dsimp only [opV]))
              obtain ⟨g7, h7⟩ : ∃ g, w2.heap.size = g := ⟨_, rfl⟩
              obtain ⟨g8, h8⟩ : ∃ g, g7 + 1 = g := ⟨_, rfl⟩
              obtain ⟨W4, hW4⟩ : ∃ W4, (w2.alloc (.cells #[.int .i64 xk, .string xt, .int .i64 xva, .int .i64 xvb, .string xvt, .int .i64 xct, .slice sxa sxn sxc] 65)).alloc (.cells #[.int .i64 yk, .string yt, .int .i64 yva, .int .i64 yvb, .string yvt, .int .i64 yct, .slice sya syn syc] 65) = W4 := ⟨_, rfl⟩
              have B7 : Blk W4 g7 65 #[.int .i64 xk, .string xt, .int .i64 xva, .int .i64 xvb, .string xvt, .int .i64 xct, .slice sxa sxn sxc] := by subst hW4; exact (Blk.newAt11 h7).alloc _
              have B8 : Blk W4 g8 65 #[.int .i64 yk, .string yt, .int .i64 yva, .int .i64 yvb, .string yvt, .int .i64 yct, .slice sya syn syc] := by subst hW4; exact Blk.newAt11 (by simp; omega)
              have g24 : Gr w2 W4 := by subst hW4; exact (by repeat (with_reducible first | assumption | exact Gr.refl _ | apply Gr.alloc | apply Gr.drewN | apply Gr.drew | apply Gr.iter | (refine Gr.setCell ?_ (by simp) _) | (refine Gr.trans ?_ (by assumption))))
              have gr4 : Gr wr W4 := Gr.trans (show Gr wr w2 from (by repeat (with_reducible first | assumption | exact Gr.refl _ | apply Gr.alloc | apply Gr.drewN | apply Gr.drew | apply Gr.iter | (refine Gr.setCell ?_ (by simp) _) | (refine Gr.trans ?_ (by assumption))))) g24
              have gw4 : Gr w W4 := Gr.trans hgr gr4
              have hay4 := hay.gr g24
              have hax4 := hax.gr (Gr.trans (show Gr w1 w2 from (by repeat (with_reducible first | assumption | exact Gr.refl _ | apply Gr.alloc | apply Gr.drewN | apply Gr.drew | apply Gr.iter | (refine Gr.setCell ?_ (by simp) _) | (refine Gr.trans ?_ (by assumption))))) g24)
              rw [h7, h8, hW4]
              clear hW4 h7 h8 hg1 hg2 g24 hay hax
              go_region_held3 (fun W' => W'.cell? ⟨g7, 0, none⟩ = some (.int .i64 xk) ∧ W'.cell? ⟨g7, 1, none⟩ = some (.string xt) ∧ W'.cell? ⟨g7, 2, none⟩ = some (.int .i64 xva) ∧ W'.cell? ⟨g7, 3, none⟩ = some (.int .i64 xvb) ∧ W'.cell? ⟨g7, 4, none⟩ = some (.string xvt) ∧ W'.cell? ⟨g7, 5, none⟩ = some (.int .i64 xct) ∧ W'.cell? ⟨g7, 6, none⟩ = some (.slice sxa sxn sxc) ∧
                  W'.cell? ⟨g8, 0, none⟩ = some (.int .i64 yk) ∧ W'.cell? ⟨g8, 1, none⟩ = some (.string yt) ∧ W'.cell? ⟨g8, 2, none⟩ = some (.int .i64 yva) ∧ W'.cell? ⟨g8, 3, none⟩ = some (.int .i64 yvb) ∧ W'.cell? ⟨g8, 4, none⟩ = some (.string yvt) ∧ W'.cell? ⟨g8, 5, none⟩ = some (.int .i64 yct) ∧ W'.cell? ⟨g8, 6, none⟩ = some (.slice sya syn syc))
                (first | exact ⟨(B7.gr (by repeat (with_reducible first | assumption | exact Gr.refl _ | apply Gr.alloc | apply Gr.drewN | apply Gr.drew | apply Gr.iter | (refine Gr.setCell ?_ (by simp) _) | (refine Gr.trans ?_ (by assumption))))).cell 0, (B7.gr (by repeat (with_reducible first | assumption | exact Gr.refl _ | apply Gr.alloc | apply Gr.drewN | apply Gr.drew | apply Gr.iter | (refine Gr.setCell ?_ (by simp) _) | (refine Gr.trans ?_ (by assumption))))).cell 1, (B7.gr (by repeat (with_reducible first | assumption | exact Gr.refl _ | apply Gr.alloc | apply Gr.drewN | apply Gr.drew | apply Gr.iter | (refine Gr.setCell ?_ (by simp) _) | (refine Gr.trans ?_ (by assumption))))).cell 2, (B7.gr (by repeat (with_reducible first | assumption | exact Gr.refl _ | apply Gr.alloc | apply Gr.drewN | apply Gr.drew | apply Gr.iter | (refine Gr.setCell ?_ (by simp) _) | (refine Gr.trans ?_ (by assumption))))).cell 3, (B7.gr (by repeat (with_reducible first | assumption | exact Gr.refl _ | apply Gr.alloc | apply Gr.drewN | apply Gr.drew | apply Gr.iter | (refine Gr.setCell ?_ (by simp) _) | (refine Gr.trans ?_ (by assumption))))).cell 4, (B7.gr (by repeat (with_reducible first | assumption | exact Gr.refl _ | apply Gr.alloc | apply Gr.drewN | apply Gr.drew | apply Gr.iter | (refine Gr.setCell ?_ (by simp) _) | (refine Gr.trans ?_ (by assumption))))).cell 5, (B7.gr (by repeat (with_reducible first | assumption | exact Gr.refl _ | apply Gr.alloc | apply Gr.drewN | apply Gr.drew | apply Gr.iter | (refine Gr.setCell ?_ (by simp) _) | (refine Gr.trans ?_ (by assumption))))).cell 6, (B8.gr (by repeat (with_reducible first | assumption | exact Gr.refl _ | apply Gr.alloc | apply Gr.drewN | apply Gr.drew | apply Gr.iter | (refine Gr.setCell ?_ (by simp) _) | (refine Gr.trans ?_ (by assumption))))).cell 0, (B8.gr (by repeat (with_reducible first | assumption | exact Gr.refl _ | apply Gr.alloc | apply Gr.drewN | apply Gr.drew | apply Gr.iter | (refine Gr.setCell ?_ (by simp) _) | (refine Gr.trans ?_ (by assumption))))).cell 1, (B8.gr (by repeat (with_reducible first | assumption | exact Gr.refl _ | apply Gr.alloc | apply Gr.drewN | apply Gr.drew | apply Gr.iter | (refine Gr.setCell ?_ (by simp) _) | (refine Gr.trans ?_ (by assumption))))).cell 2, (B8.gr (by repeat (with_reducible first | assumption | exact Gr.refl _ | apply Gr.alloc | apply Gr.drewN | apply Gr.drew | apply Gr.iter | (refine Gr.setCell ?_ (by simp) _) | (refine Gr.trans ?_ (by assumption))))).cell 3, (B8.gr (by repeat (with_reducible first | assumption | exact Gr.refl _ | apply Gr.alloc | apply Gr.drewN | apply Gr.drew | apply Gr.iter | (refine Gr.setCell ?_ (by simp) _) | (refine Gr.trans ?_ (by assumption))))).cell 4, (B8.gr (by repeat (with_reducible first | assumption | exact Gr.refl _ | apply Gr.alloc | apply Gr.drewN | apply Gr.drew | apply Gr.iter | (refine Gr.setCell ?_ (by simp) _) | (refine Gr.trans ?_ (by assumption))))).cell 5, (B8.gr (by repeat (with_reducible first | assumption | exact Gr.refl _ | apply Gr.alloc | apply Gr.drewN | apply Gr.drew | apply Gr.iter | (refine Gr.setCell ?_ (by simp) _) | (refine Gr.trans ?_ (by assumption))))).cell 6⟩ | go_keep)
                (first
                  | (go_at_call 69; (with_reducible refine (rlen_any xk xt xva xvb xvt xct _ xl _ (RdAttrs.gr (hax4.rd gw4) (by repeat (with_reducible first | assumption | exact Gr.refl _ | apply Gr.alloc | apply Gr.drewN | apply Gr.drew | apply Gr.iter | (refine Gr.setCell ?_ (by simp) _) | (refine Gr.trans ?_ (by assumption))))) hs1).mono ?_); rw [HRX.out]; rintro e wx ⟨rfl, hgx⟩)
                  | (go_at_call 69; (with_reducible refine (rlen_any yk yt yva yvb yvt yct _ yl _ (RdAttrs.gr (hay4.rd gw4) (by repeat (with_reducible first | assumption | exact Gr.refl _ | apply Gr.alloc | apply Gr.drewN | apply Gr.drew | apply Gr.iter | (refine Gr.setCell ?_ (by simp) _) | (refine Gr.trans ?_ (by assumption))))) hs3).mono ?_); rw [HRY.out]; rintro e wy ⟨rfl, hgy⟩))
              have gwy : Gr W4 wy := (by repeat (with_reducible first | assumption | exact Gr.refl _ | apply Gr.alloc | apply Gr.drewN | apply Gr.drew | apply Gr.iter | (refine Gr.setCell ?_ (by simp) _) | (refine Gr.trans ?_ (by assumption))))
              have E7 := B7.gr gwy; have E8 := B8.gr gwy
              have e7 := E7.cell; have ez7 := E7.lt
              have e8 := E8.cell; have ez8 := E8.lt
              have gry : Gr wr wy := Gr.trans gr4 gwy
              have hax5 := hax4.gr gwy; have hay5 := hay4.gr gwy
              have hzy := gry.size
              clear gwy gr4 B7 B8 gw4 hax4 hay4 hgx hgy
              go_wp2_with (first
                | (go_at_call 70; have _h := hga; refine (head11_any ⟨yk, yt, ⟨yva, yvb, yvt⟩, yct, yl⟩ M _ w _ (hEr.gr (Gr.trans gry (by repeat (with_reducible first | assumption | exact Gr.refl _ | apply Gr.alloc | apply Gr.drewN | apply Gr.drew | apply Gr.iter | (refine Gr.setCell ?_ (by simp) _) | (refine Gr.trans ?_ (by assumption)))))) (Gr.trans hgr (Gr.trans gry (by repeat (with_reducible first | assumption | exact Gr.refl _ | apply Gr.alloc | apply Gr.drewN | apply Gr.drew | apply Gr.iter | (refine Gr.setCell ?_ (by simp) _) | (refine Gr.trans ?_ (by assumption)))))) (hay5.gr (by repeat (with_reducible first | assumption | exact Gr.refl _ | apply Gr.alloc | apply Gr.drewN | apply Gr.drew | apply Gr.iter | (refine Gr.setCell ?_ (by simp) _) | (refine Gr.trans ?_ (by assumption))))) hs3 hs4 HXO.out.2 hM1 hay5.len).mono ?_; rw [HLY.out]; dsimp only; rintro e wb ⟨vq, lvy, rfl, haq, hq1, hq2, hly, hlyn, hlyb, hgb⟩; obtain ⟨sqa, sqn, sqc, rfl⟩ := haq.sl; obtain ⟨lya, lyn, lyc, rfl, -⟩ := hly.sl; dsimp only [opV]; have C10 := (Blk.new wa 65 #[.int .i64 pk, .string pt, .int .i64 pva, .int .i64 pvb, .string pvt, .int .i64 pc, .slice spa spn spc]).gr (w' := wb) (by repeat (with_reducible first | assumption | exact Gr.refl _ | apply Gr.alloc | apply Gr.drewN | apply Gr.drew | apply Gr.iter | (refine Gr.setCell ?_ (by simp) _) | (refine Gr.trans ?_ (by assumption)))); have c10 := C10.cell; have z10 := C10.lt)
                | (go_at_call 70; refine (head11_any ⟨xk, xt, ⟨xva, xvb, xvt⟩, xct, xl⟩ M _ w _ (hEr.gr (Gr.trans gry (by repeat (with_reducible first | assumption | exact Gr.refl _ | apply Gr.alloc | apply Gr.drewN | apply Gr.drew | apply Gr.iter | (refine Gr.setCell ?_ (by simp) _) | (refine Gr.trans ?_ (by assumption)))))) (Gr.trans hgr (Gr.trans gry (by repeat (with_reducible first | assumption | exact Gr.refl _ | apply Gr.alloc | apply Gr.drewN | apply Gr.drew | apply Gr.iter | (refine Gr.setCell ?_ (by simp) _) | (refine Gr.trans ?_ (by assumption)))))) (hax5.gr (by repeat (with_reducible first | assumption | exact Gr.refl _ | apply Gr.alloc | apply Gr.drewN | apply Gr.drew | apply Gr.iter | (refine Gr.setCell ?_ (by simp) _) | (refine Gr.trans ?_ (by assumption))))) hs1 hs2 HXO.out.1 hM1 hax5.len).mono ?_; rw [HLX.out]; dsimp only; rintro e wa ⟨vp, lvx, rfl, hap, hp1, hp2, hlx, hlxn, hlxb, hga⟩; obtain ⟨spa, spn, spc, rfl⟩ := hap.sl; obtain ⟨lxa, lxn, lxc, rfl, -⟩ := hlx.sl; dsimp only [opV]; have C8 := E8.gr (w' := wa) (by repeat (with_reducible first | assumption | exact Gr.refl _ | apply Gr.alloc | apply Gr.drewN | apply Gr.drew | apply Gr.iter | (refine Gr.setCell ?_ (by simp) _) | (refine Gr.trans ?_ (by assumption)))); have c8 := C8.cell; have z8 := C8.lt)
                | (go_at_call 71; refine (both11_any w ⟨pk, pt, ⟨pva, pvb, pvt⟩, pc, pl⟩ ⟨qk, qt, ⟨qva, qvb, qvt⟩, qc, ql⟩ _ _ _ (Gr.trans hgr (Gr.trans gry (by repeat (with_reducible first | assumption | exact Gr.refl _ | apply Gr.alloc | apply Gr.drewN | apply Gr.drew | apply Gr.iter | (refine Gr.setCell ?_ (by simp) _) | (refine Gr.trans ?_ (by assumption)))))) (hap.gr (by repeat (with_reducible first | assumption | exact Gr.refl _ | apply Gr.alloc | apply Gr.drewN | apply Gr.drew | apply Gr.iter | (refine Gr.setCell ?_ (by simp) _) | (refine Gr.trans ?_ (by assumption))))) (haq.gr (by repeat (with_reducible first | assumption | exact Gr.refl _ | apply Gr.alloc | apply Gr.drewN | apply Gr.drew | apply Gr.iter | (refine Gr.setCell ?_ (by simp) _) | (refine Gr.trans ?_ (by assumption))))) hp1 hp2 hq1 hq2 (fun _ => HRI.out) (by dsimp only; omega)).mono ?_; rw [HBO.out]; rintro e wc ⟨bv, rfl, hbr, hgc⟩; obtain ⟨bxa, bxn, bxc, rfl, -⟩ := hbr.sl; obtain ⟨v', w', hrun, hM', ⟨x1, x2, x3, rfl⟩, hKg, hnb⟩ := CmR.addK (HM.out.to (w' := wc) (Gr.trans gry (by repeat (with_reducible first | assumption | exact Gr.refl _ | apply Gr.alloc | apply Gr.drewN | apply Gr.drew | apply Gr.iter | (refine Gr.setCell ?_ (by simp) _) | (refine Gr.trans ?_ (by assumption)))))) hbr 22 (by have := HLL.out.2.2; omega); have hlx' := RdList.besO (hlx.grS (w' := wc) (by repeat (with_reducible first | assumption | exact Gr.refl _ | apply Gr.alloc | apply Gr.drewN | apply Gr.drew | apply Gr.iter | (refine Gr.setCell ?_ (by simp) _) | (refine Gr.trans ?_ (by assumption))))) hKg (fun b hb e => by have h1 := hlxb b hb; have h2 := (OwnL.lt_ HM.out.o b e).2; have h3 := hzy; (try simp only [World.size_alloc] at h1); omega); have hly' := RdList.besO (hly.grS (w' := wc) (by repeat (with_reducible first | assumption | exact Gr.refl _ | apply Gr.alloc | apply Gr.drewN | apply Gr.drew | apply Gr.iter | (refine Gr.setCell ?_ (by simp) _) | (refine Gr.trans ?_ (by assumption))))) hKg (fun b hb e => by have h1 := hlyb b hb; have h2 := (OwnL.lt_ HM.out.o b e).2; have h3 := hzy; have h4 := Gr.size (w := wy) (w' := wa) (by repeat (with_reducible first | assumption | exact Gr.refl _ | apply Gr.alloc | apply Gr.drewN | apply Gr.drew | apply Gr.iter | (refine Gr.setCell ?_ (by simp) _) | (refine Gr.trans ?_ (by assumption)))); (try simp only [World.size_alloc] at h1); omega); have hgw' := hM'.gr; have HP := Lib.hid (And.intro hrun (And.intro hM' (And.intro hlx' hly'))); clear hrun hM' hlx' hly' hKg)
                | (at_builtin; refine wpList_run rfl _ _ _ rfl rfl rfl HP.out.1 ?_)
                | (go_at_call 72; refine (behind11_any w LX (rs.map Piece.op) _ (.slice xaa xan xac) _ (Gr.trans hgw' (by repeat (with_reducible first | assumption | exact Gr.refl _ | apply Gr.alloc | apply Gr.drewN | apply Gr.drew | apply Gr.iter | (refine Gr.setCell ?_ (by simp) _) | (refine Gr.trans ?_ (by assumption))))) (HP.out.2.2.1.grS (by repeat (with_reducible first | assumption | exact Gr.refl _ | apply Gr.alloc | apply Gr.drewN | apply Gr.drew | apply Gr.iter | (refine Gr.setCell ?_ (by simp) _) | (refine Gr.trans ?_ (by assumption))))) hlxn HLL.out.1 (HP.out.2.1.a.grS (by repeat (with_reducible first | assumption | exact Gr.refl _ | apply Gr.alloc | apply Gr.drewN | apply Gr.drew | apply Gr.iter | (refine Gr.setCell ?_ (by simp) _) | (refine Gr.trans ?_ (by assumption))))) (fun e => by have h := hxan.out; rw [e, List.length_nil] at h; omega) (by rw [List.length_map]; omega)).mono ?_; rintro e wd ⟨va', rfl, hra', hba', hgd⟩; obtain ⟨za, zn, zc, rfl, -⟩ := hra'.sl)
                | (go_at_call 72; refine (behind11_any w LY (ts.map Piece.op) _ (.slice yba ybn ybc) _ (Gr.trans hgw' (by repeat (with_reducible first | assumption | exact Gr.refl _ | apply Gr.alloc | apply Gr.drewN | apply Gr.drew | apply Gr.iter | (refine Gr.setCell ?_ (by simp) _) | (refine Gr.trans ?_ (by assumption))))) (HP.out.2.2.2.grS (by repeat (with_reducible first | assumption | exact Gr.refl _ | apply Gr.alloc | apply Gr.drewN | apply Gr.drew | apply Gr.iter | (refine Gr.setCell ?_ (by simp) _) | (refine Gr.trans ?_ (by assumption))))) hlyn HLL.out.2.1 (HP.out.2.1.b.grS (by repeat (with_reducible first | assumption | exact Gr.refl _ | apply Gr.alloc | apply Gr.drewN | apply Gr.drew | apply Gr.iter | (refine Gr.setCell ?_ (by simp) _) | (refine Gr.trans ?_ (by assumption))))) (fun e => by have h := hybn.out; rw [e, List.length_nil] at h; omega) (by rw [List.length_map]; omega)).mono ?_; rintro e wf ⟨vb', rfl, hrb', hbb', hgf⟩; obtain ⟨ya', yn', yc', rfl, -⟩ := hrb'.sl))
              have hrs : rs = [] := List.eq_nil_of_length_eq_zero (by simpa using hxan.out)
              have hts : ts ≠ [] := fun e => by have h := hybn.out; rw [e] at h; simp at h; omega
              have hT := ((HP.out.2.1.to (w' := wf) (by repeat (with_reducible first | assumption | exact Gr.refl _ | apply Gr.alloc | apply Gr.drewN | apply Gr.drew | apply Gr.iter | (refine Gr.setCell ?_ (by simp) _) | (refine Gr.trans ?_ (by assumption))))).setB hrb' (by simpa using hts) hbb' (fun b e => by have h1 := (OwnL.lt_ HP.out.2.1.o b e).2; have h2 := Gr.size (w := w') (w' := wf) (by repeat (with_reducible first | assumption | exact Gr.refl _ | apply Gr.alloc | apply Gr.drewN | apply Gr.drew | apply Gr.iter | (refine Gr.setCell ?_ (by simp) _) | (refine Gr.trans ?_ (by assumption)))); omega))
              have eB := HC.out.2.2.2.2.2.2.2.1 hts
              have eA := HC.out.2.2.2.2.2.2.1 hrs
              rw [eB] at hT hrb'
              have hyn := hrb'.len
              rw [List.length_map] at hyn
              have hsl := HC.out.2.2.2.2.1
              have hxl := hxan.out
              have hyl := hybn.out
              rw [List.length_map] at hxl hyl
              refine ⟨⟨(nextP rs M).2, (nextP ts M).2, dn ++ [(some P, some Q)], ?_, HC.out.2.2.1, HC.out.2.2.2.1, by rw [List.length_append, List.length_singleton]; omega, by rw [List.length_append, List.length_singleton]; omega, ?_⟩, by simp only [slLenA]; rw [eA] at hsl; simp only [List.length_nil] at hsl; omega⟩
              · rw [List.flatMap_append]
                simp only [List.flatMap_cons, List.flatMap_nil, downS, List.append_nil, HB.out, eA]
                rw [hrs] at hT
                exact hT
              · rw [HC.out.1, HC.out.2.1, List.append_assoc, List.length_append, List.length_singleton, Nat.sub_sub]; rfl
          · have hx0' : (0 : Int) < xan := by omega
            have hrs : rs ≠ [] := fun e => by have h := hxan.out; rw [e] at h; simp at h; omega
            rcases Nat.eq_zero_or_pos ybn with hy0 | hy0
            · subst hy0
              go_wp2_with (first
                | (go_at_call 68; have _h := hg1; (with_reducible refine (next11_any w (ts.map Piece.op) _ _ (Gr.trans hgr (by repeat (with_reducible first | assumption | exact Gr.refl _ | apply Gr.alloc | apply Gr.drewN | apply Gr.drew | apply Gr.iter | (refine Gr.setCell ?_ (by simp) _) | (refine Gr.trans ?_ (by assumption))))) (HM.out.b.grS (by repeat (with_reducible first | assumption | exact Gr.refl _ | apply Gr.alloc | apply Gr.drewN | apply Gr.drew | apply Gr.iter | (refine Gr.setCell ?_ (by simp) _) | (refine Gr.trans ?_ (by assumption)))))).mono ?_); rw [HY.out]; rintro e w2 ⟨sy, rfl, hay, hs3, hs4, hg2⟩; obtain ⟨sya, syn, syc, rfl⟩ := hay.sl; dsimp only [opV])
                | (go_at_call 68; (with_reducible refine (next11_any w (rs.map Piece.op) _ _ (Gr.trans hgr (by repeat (with_reducible first | assumption | exact Gr.refl _ | apply Gr.alloc | apply Gr.drewN | apply Gr.drew | apply Gr.iter | (refine Gr.setCell ?_ (by simp) _) | (refine Gr.trans ?_ (by assumption))))) (HM.out.a.grS (by repeat (with_reducible first | assumption | exact Gr.refl _ | apply Gr.alloc | apply Gr.drewN | apply Gr.drew | apply Gr.iter | (refine Gr.setCell ?_ (by simp) _) | (refine Gr.trans ?_ (by assumption)))))).mono ?_); rw [HX.out]; rintro e w1 ⟨sx, rfl, hax, hs1, hs2, hg1⟩; obtain ⟨sxa, sxn, sxc, rfl⟩ := hax.sl; dsimp only [opV]))
              obtain ⟨g7, h7⟩ : ∃ g, w2.heap.size = g := ⟨_, rfl⟩
              obtain ⟨g8, h8⟩ : ∃ g, g7 + 1 = g := ⟨_, rfl⟩
              obtain ⟨W4, hW4⟩ : ∃ W4, (w2.alloc (.cells #[.int .i64 xk, .string xt, .int .i64 xva, .int .i64 xvb, .string xvt, .int .i64 xct, .slice sxa sxn sxc] 65)).alloc (.cells #[.int .i64 yk, .string yt, .int .i64 yva, .int .i64 yvb, .string yvt, .int .i64 yct, .slice sya syn syc] 65) = W4 := ⟨_, rfl⟩
              have B7 : Blk W4 g7 65 #[.int .i64 xk, .string xt, .int .i64 xva, .int .i64 xvb, .string xvt, .int .i64 xct, .slice sxa sxn sxc] := by subst hW4; exact (Blk.newAt11 h7).alloc _
              have B8 : Blk W4 g8 65 #[.int .i64 yk, .string yt, .int .i64 yva, .int .i64 yvb, .string yvt, .int .i64 yct, .slice sya syn syc] := by subst hW4; exact Blk.newAt11 (by simp; omega)
              have g24 : Gr w2 W4 := by subst hW4; exact (by repeat (with_reducible first | assumption | exact Gr.refl _ | apply Gr.alloc | apply Gr.drewN | apply Gr.drew | apply Gr.iter | (refine Gr.setCell ?_ (by simp) _) | (refine Gr.trans ?_ (by assumption))))
              have gr4 : Gr wr W4 := Gr.trans (show Gr wr w2 from (by repeat (with_reducible first | assumption | exact Gr.refl _ | apply Gr.alloc | apply Gr.drewN | apply Gr.drew | apply Gr.iter | (refine Gr.setCell ?_ (by simp) _) | (refine Gr.trans ?_ (by assumption))))) g24
              have gw4 : Gr w W4 := Gr.trans hgr gr4
              have hay4 := hay.gr g24
              have hax4 := hax.gr (Gr.trans (show Gr w1 w2 from (by repeat (with_reducible first | assumption | exact Gr.refl _ | apply Gr.alloc | apply Gr.drewN | apply Gr.drew | apply Gr.iter | (refine Gr.setCell ?_ (by simp) _) | (refine Gr.trans ?_ (by assumption))))) g24)
              rw [h7, h8, hW4]
              clear hW4 h7 h8 hg1 hg2 g24 hay hax
              go_region_held3 (fun W' => W'.cell? ⟨g7, 0, none⟩ = some (.int .i64 xk) ∧ W'.cell? ⟨g7, 1, none⟩ = some (.string xt) ∧ W'.cell? ⟨g7, 2, none⟩ = some (.int .i64 xva) ∧ W'.cell? ⟨g7, 3, none⟩ = some (.int .i64 xvb) ∧ W'.cell? ⟨g7, 4, none⟩ = some (.string xvt) ∧ W'.cell? ⟨g7, 5, none⟩ = some (.int .i64 xct) ∧ W'.cell? ⟨g7, 6, none⟩ = some (.slice sxa sxn sxc) ∧
                  W'.cell? ⟨g8, 0, none⟩ = some (.int .i64 yk) ∧ W'.cell? ⟨g8, 1, none⟩ = some (.string yt) ∧ W'.cell? ⟨g8, 2, none⟩ = some (.int .i64 yva) ∧ W'.cell? ⟨g8, 3, none⟩ = some (.int .i64 yvb) ∧ W'.cell? ⟨g8, 4, none⟩ = some (.string yvt) ∧ W'.cell? ⟨g8, 5, none⟩ = some (.int .i64 yct) ∧ W'.cell? ⟨g8, 6, none⟩ = some (.slice sya syn syc))
                (first | exact ⟨(B7.gr (by repeat (with_reducible first | assumption | exact Gr.refl _ | apply Gr.alloc | apply Gr.drewN | apply Gr.drew | apply Gr.iter | (refine Gr.setCell ?_ (by simp) _) | (refine Gr.trans ?_ (by assumption))))).cell 0, (B7.gr (by repeat (with_reducible first | assumption | exact Gr.refl _ | apply Gr.alloc | apply Gr.drewN | apply Gr.drew | apply Gr.iter | (refine Gr.setCell ?_ (by simp) _) | (refine Gr.trans ?_ (by assumption))))).cell 1, (B7.gr (by repeat (with_reducible first | assumption | exact Gr.refl _ | apply Gr.alloc | apply Gr.drewN | apply Gr.drew | apply Gr.iter | (refine Gr.setCell ?_ (by simp) _) | (refine Gr.trans ?_ (by assumption))))).cell 2, (B7.gr (by repeat (with_reducible first | assumption | exact Gr.refl _ | apply Gr.alloc | apply Gr.drewN | apply Gr.drew | apply Gr.iter | (refine Gr.setCell ?_ (by simp) _) | (refine Gr.trans ?_ (by assumption))))).cell 3, (B7.gr (by repeat (with_reducible first | assumption | exact Gr.refl _ | apply Gr.alloc | apply Gr.drewN | apply Gr.drew | apply Gr.iter | (refine Gr.setCell ?_ (by simp) _) | (refine Gr.trans ?_ (by assumption))))).cell 4, (B7.gr (by repeat (with_reducible first | assumption | exact Gr.refl _ | apply Gr.alloc | apply Gr.drewN | apply Gr.drew | apply Gr.iter | (refine Gr.setCell ?_ (by simp) _) | (refine Gr.trans ?_ (by assumption))))).cell 5, (B7.gr (by repeat (with_reducible first | assumption | exact Gr.refl _ | apply Gr.alloc | apply Gr.drewN | apply Gr.drew | apply Gr.iter | (refine Gr.setCell ?_ (by simp) _) | (refine Gr.trans ?_ (by assumption))))).cell 6, (B8.gr (by repeat (with_reducible first | assumption | exact Gr.refl _ | apply Gr.alloc | apply Gr.drewN | apply Gr.drew | apply Gr.iter | (refine Gr.setCell ?_ (by simp) _) | (refine Gr.trans ?_ (by assumption))))).cell 0, (B8.gr (by repeat (with_reducible first | assumption | exact Gr.refl _ | apply Gr.alloc | apply Gr.drewN | apply Gr.drew | apply Gr.iter | (refine Gr.setCell ?_ (by simp) _) | (refine Gr.trans ?_ (by assumption))))).cell 1, (B8.gr (by repeat (with_reducible first | assumption | exact Gr.refl _ | apply Gr.alloc | apply Gr.drewN | apply Gr.drew | apply Gr.iter | (refine Gr.setCell ?_ (by simp) _) | (refine Gr.trans ?_ (by assumption))))).cell 2, (B8.gr (by repeat (with_reducible first | assumption | exact Gr.refl _ | apply Gr.alloc | apply Gr.drewN | apply Gr.drew | apply Gr.iter | (refine Gr.setCell ?_ (by simp) _) | (refine Gr.trans ?_ (by assumption))))).cell 3, (B8.gr (by repeat (with_reducible first | assumption | exact Gr.refl _ | apply Gr.alloc | apply Gr.drewN | apply Gr.drew | apply Gr.iter | (refine Gr.setCell ?_ (by simp) _) | (refine Gr.trans ?_ (by assumption))))).cell 4, (B8.gr (by repeat (with_reducible first | assumption | exact Gr.refl _ | apply Gr.alloc | apply Gr.drewN | apply Gr.drew | apply Gr.iter | (refine Gr.setCell ?_ (by simp) _) | (refine Gr.trans ?_ (by assumption))))).cell 5, (B8.gr (by repeat (with_reducible first | assumption | exact Gr.refl _ | apply Gr.alloc | apply Gr.drewN | apply Gr.drew | apply Gr.iter | (refine Gr.setCell ?_ (by simp) _) | (refine Gr.trans ?_ (by assumption))))).cell 6⟩ | go_keep)
                (first
                  | (go_at_call 69; (with_reducible refine (rlen_any xk xt xva xvb xvt xct _ xl _ (RdAttrs.gr (hax4.rd gw4) (by repeat (with_reducible first | assumption | exact Gr.refl _ | apply Gr.alloc | apply Gr.drewN | apply Gr.drew | apply Gr.iter | (refine Gr.setCell ?_ (by simp) _) | (refine Gr.trans ?_ (by assumption))))) hs1).mono ?_); rw [HRX.out]; rintro e wx ⟨rfl, hgx⟩)
                  | (go_at_call 69; (with_reducible refine (rlen_any yk yt yva yvb yvt yct _ yl _ (RdAttrs.gr (hay4.rd gw4) (by repeat (with_reducible first | assumption | exact Gr.refl _ | apply Gr.alloc | apply Gr.drewN | apply Gr.drew | apply Gr.iter | (refine Gr.setCell ?_ (by simp) _) | (refine Gr.trans ?_ (by assumption))))) hs3).mono ?_); rw [HRY.out]; rintro e wy ⟨rfl, hgy⟩))
              have gwy : Gr W4 wy := (by repeat (with_reducible first | assumption | exact Gr.refl _ | apply Gr.alloc | apply Gr.drewN | apply Gr.drew | apply Gr.iter | (refine Gr.setCell ?_ (by simp) _) | (refine Gr.trans ?_ (by assumption))))
              have E7 := B7.gr gwy; have E8 := B8.gr gwy
              have e7 := E7.cell; have ez7 := E7.lt
              have e8 := E8.cell; have ez8 := E8.lt
              have gry : Gr wr wy := Gr.trans gr4 gwy
              have hax5 := hax4.gr gwy; have hay5 := hay4.gr gwy
              have hzy := gry.size
              clear gwy gr4 B7 B8 gw4 hax4 hay4 hgx hgy
              go_wp2_with (first
                | (go_at_call 70; have _h := hga; refine (head11_any ⟨yk, yt, ⟨yva, yvb, yvt⟩, yct, yl⟩ M _ w _ (hEr.gr (Gr.trans gry (by repeat (with_reducible first | assumption | exact Gr.refl _ | apply Gr.alloc | apply Gr.drewN | apply Gr.drew | apply Gr.iter | (refine Gr.setCell ?_ (by simp) _) | (refine Gr.trans ?_ (by assumption)))))) (Gr.trans hgr (Gr.trans gry (by repeat (with_reducible first | assumption | exact Gr.refl _ | apply Gr.alloc | apply Gr.drewN | apply Gr.drew | apply Gr.iter | (refine Gr.setCell ?_ (by simp) _) | (refine Gr.trans ?_ (by assumption)))))) (hay5.gr (by repeat (with_reducible first | assumption | exact Gr.refl _ | apply Gr.alloc | apply Gr.drewN | apply Gr.drew | apply Gr.iter | (refine Gr.setCell ?_ (by simp) _) | (refine Gr.trans ?_ (by assumption))))) hs3 hs4 HXO.out.2 hM1 hay5.len).mono ?_; rw [HLY.out]; dsimp only; rintro e wb ⟨vq, lvy, rfl, haq, hq1, hq2, hly, hlyn, hlyb, hgb⟩; obtain ⟨sqa, sqn, sqc, rfl⟩ := haq.sl; obtain ⟨lya, lyn, lyc, rfl, -⟩ := hly.sl; dsimp only [opV]; have C10 := (Blk.new wa 65 #[.int .i64 pk, .string pt, .int .i64 pva, .int .i64 pvb, .string pvt, .int .i64 pc, .slice spa spn spc]).gr (w' := wb) (by repeat (with_reducible first | assumption | exact Gr.refl _ | apply Gr.alloc | apply Gr.drewN | apply Gr.drew | apply Gr.iter | (refine Gr.setCell ?_ (by simp) _) | (refine Gr.trans ?_ (by assumption)))); have c10 := C10.cell; have z10 := C10.lt)
                | (go_at_call 70; refine (head11_any ⟨xk, xt, ⟨xva, xvb, xvt⟩, xct, xl⟩ M _ w _ (hEr.gr (Gr.trans gry (by repeat (with_reducible first | assumption | exact Gr.refl _ | apply Gr.alloc | apply Gr.drewN | apply Gr.drew | apply Gr.iter | (refine Gr.setCell ?_ (by simp) _) | (refine Gr.trans ?_ (by assumption)))))) (Gr.trans hgr (Gr.trans gry (by repeat (with_reducible first | assumption | exact Gr.refl _ | apply Gr.alloc | apply Gr.drewN | apply Gr.drew | apply Gr.iter | (refine Gr.setCell ?_ (by simp) _) | (refine Gr.trans ?_ (by assumption)))))) (hax5.gr (by repeat (with_reducible first | assumption | exact Gr.refl _ | apply Gr.alloc | apply Gr.drewN | apply Gr.drew | apply Gr.iter | (refine Gr.setCell ?_ (by simp) _) | (refine Gr.trans ?_ (by assumption))))) hs1 hs2 HXO.out.1 hM1 hax5.len).mono ?_; rw [HLX.out]; dsimp only; rintro e wa ⟨vp, lvx, rfl, hap, hp1, hp2, hlx, hlxn, hlxb, hga⟩; obtain ⟨spa, spn, spc, rfl⟩ := hap.sl; obtain ⟨lxa, lxn, lxc, rfl, -⟩ := hlx.sl; dsimp only [opV]; have C8 := E8.gr (w' := wa) (by repeat (with_reducible first | assumption | exact Gr.refl _ | apply Gr.alloc | apply Gr.drewN | apply Gr.drew | apply Gr.iter | (refine Gr.setCell ?_ (by simp) _) | (refine Gr.trans ?_ (by assumption)))); have c8 := C8.cell; have z8 := C8.lt)
                | (go_at_call 71; refine (both11_any w ⟨pk, pt, ⟨pva, pvb, pvt⟩, pc, pl⟩ ⟨qk, qt, ⟨qva, qvb, qvt⟩, qc, ql⟩ _ _ _ (Gr.trans hgr (Gr.trans gry (by repeat (with_reducible first | assumption | exact Gr.refl _ | apply Gr.alloc | apply Gr.drewN | apply Gr.drew | apply Gr.iter | (refine Gr.setCell ?_ (by simp) _) | (refine Gr.trans ?_ (by assumption)))))) (hap.gr (by repeat (with_reducible first | assumption | exact Gr.refl _ | apply Gr.alloc | apply Gr.drewN | apply Gr.drew | apply Gr.iter | (refine Gr.setCell ?_ (by simp) _) | (refine Gr.trans ?_ (by assumption))))) (haq.gr (by repeat (with_reducible first | assumption | exact Gr.refl _ | apply Gr.alloc | apply Gr.drewN | apply Gr.drew | apply Gr.iter | (refine Gr.setCell ?_ (by simp) _) | (refine Gr.trans ?_ (by assumption))))) hp1 hp2 hq1 hq2 (fun _ => HRI.out) (by dsimp only; omega)).mono ?_; rw [HBO.out]; rintro e wc ⟨bv, rfl, hbr, hgc⟩; obtain ⟨bxa, bxn, bxc, rfl, -⟩ := hbr.sl; obtain ⟨v', w', hrun, hM', ⟨x1, x2, x3, rfl⟩, hKg, hnb⟩ := CmR.addK (HM.out.to (w' := wc) (Gr.trans gry (by repeat (with_reducible first | assumption | exact Gr.refl _ | apply Gr.alloc | apply Gr.drewN | apply Gr.drew | apply Gr.iter | (refine Gr.setCell ?_ (by simp) _) | (refine Gr.trans ?_ (by assumption)))))) hbr 22 (by have := HLL.out.2.2; omega); have hlx' := RdList.besO (hlx.grS (w' := wc) (by repeat (with_reducible first | assumption | exact Gr.refl _ | apply Gr.alloc | apply Gr.drewN | apply Gr.drew | apply Gr.iter | (refine Gr.setCell ?_ (by simp) _) | (refine Gr.trans ?_ (by assumption))))) hKg (fun b hb e => by have h1 := hlxb b hb; have h2 := (OwnL.lt_ HM.out.o b e).2; have h3 := hzy; (try simp only [World.size_alloc] at h1); omega); have hly' := RdList.besO (hly.grS (w' := wc) (by repeat (with_reducible first | assumption | exact Gr.refl _ | apply Gr.alloc | apply Gr.drewN | apply Gr.drew | apply Gr.iter | (refine Gr.setCell ?_ (by simp) _) | (refine Gr.trans ?_ (by assumption))))) hKg (fun b hb e => by have h1 := hlyb b hb; have h2 := (OwnL.lt_ HM.out.o b e).2; have h3 := hzy; have h4 := Gr.size (w := wy) (w' := wa) (by repeat (with_reducible first | assumption | exact Gr.refl _ | apply Gr.alloc | apply Gr.drewN | apply Gr.drew | apply Gr.iter | (refine Gr.setCell ?_ (by simp) _) | (refine Gr.trans ?_ (by assumption)))); (try simp only [World.size_alloc] at h1); omega); have hgw' := hM'.gr; have HP := Lib.hid (And.intro hrun (And.intro hM' (And.intro hlx' hly'))); clear hrun hM' hlx' hly' hKg)
                | (at_builtin; refine wpList_run rfl _ _ _ rfl rfl rfl HP.out.1 ?_)
                | (go_at_call 72; refine (behind11_any w LX (rs.map Piece.op) _ (.slice xaa xan xac) _ (Gr.trans hgw' (by repeat (with_reducible first | assumption | exact Gr.refl _ | apply Gr.alloc | apply Gr.drewN | apply Gr.drew | apply Gr.iter | (refine Gr.setCell ?_ (by simp) _) | (refine Gr.trans ?_ (by assumption))))) (HP.out.2.2.1.grS (by repeat (with_reducible first | assumption | exact Gr.refl _ | apply Gr.alloc | apply Gr.drewN | apply Gr.drew | apply Gr.iter | (refine Gr.setCell ?_ (by simp) _) | (refine Gr.trans ?_ (by assumption))))) hlxn HLL.out.1 (HP.out.2.1.a.grS (by repeat (with_reducible first | assumption | exact Gr.refl _ | apply Gr.alloc | apply Gr.drewN | apply Gr.drew | apply Gr.iter | (refine Gr.setCell ?_ (by simp) _) | (refine Gr.trans ?_ (by assumption))))) (fun e => by have h := hxan.out; rw [e, List.length_nil] at h; omega) (by rw [List.length_map]; omega)).mono ?_; rintro e wd ⟨va', rfl, hra', hba', hgd⟩; obtain ⟨za, zn, zc, rfl, -⟩ := hra'.sl)
                | (go_at_call 72; refine (behind11_any w LY (ts.map Piece.op) _ (.slice yba ybn ybc) _ (Gr.trans hgw' (by repeat (with_reducible first | assumption | exact Gr.refl _ | apply Gr.alloc | apply Gr.drewN | apply Gr.drew | apply Gr.iter | (refine Gr.setCell ?_ (by simp) _) | (refine Gr.trans ?_ (by assumption))))) (HP.out.2.2.2.grS (by repeat (with_reducible first | assumption | exact Gr.refl _ | apply Gr.alloc | apply Gr.drewN | apply Gr.drew | apply Gr.iter | (refine Gr.setCell ?_ (by simp) _) | (refine Gr.trans ?_ (by assumption))))) hlyn HLL.out.2.1 (HP.out.2.1.b.grS (by repeat (with_reducible first | assumption | exact Gr.refl _ | apply Gr.alloc | apply Gr.drewN | apply Gr.drew | apply Gr.iter | (refine Gr.setCell ?_ (by simp) _) | (refine Gr.trans ?_ (by assumption))))) (fun e => by have h := hybn.out; rw [e, List.length_nil] at h; omega) (by rw [List.length_map]; omega)).mono ?_; rintro e wf ⟨vb', rfl, hrb', hbb', hgf⟩; obtain ⟨ya', yn', yc', rfl, -⟩ := hrb'.sl))
              have hts : ts = [] := List.eq_nil_of_length_eq_zero (by simpa using hybn.out)
              have hT := ((HP.out.2.1.to (w' := wd) (by repeat (with_reducible first | assumption | exact Gr.refl _ | apply Gr.alloc | apply Gr.drewN | apply Gr.drew | apply Gr.iter | (refine Gr.setCell ?_ (by simp) _) | (refine Gr.trans ?_ (by assumption))))).setA hra' (by simpa using hrs) hba' (fun b e => by have h1 := (OwnL.lt_ HP.out.2.1.o b e).2; have h2 := Gr.size (w := w') (w' := wd) (by repeat (with_reducible first | assumption | exact Gr.refl _ | apply Gr.alloc | apply Gr.drewN | apply Gr.drew | apply Gr.iter | (refine Gr.setCell ?_ (by simp) _) | (refine Gr.trans ?_ (by assumption)))); omega))
              have eA := HC.out.2.2.2.2.2.1 hrs
              have eB := HC.out.2.2.2.2.2.2.2.2 hts
              rw [eA] at hT hra'
              have hyn := hra'.len
              rw [List.length_map] at hyn
              have hsl := HC.out.2.2.2.2.1
              have hxl := hxan.out
              have hyl := hybn.out
              rw [List.length_map] at hxl hyl
              refine ⟨⟨(nextP rs M).2, (nextP ts M).2, dn ++ [(some P, some Q)], ?_, HC.out.2.2.1, HC.out.2.2.2.1, by rw [List.length_append, List.length_singleton]; omega, by rw [List.length_append, List.length_singleton]; omega, ?_⟩, by simp only [slLenA]; rw [eB] at hsl; simp only [List.length_nil] at hsl; omega⟩
              · rw [List.flatMap_append]
                simp only [List.flatMap_cons, List.flatMap_nil, downS, List.append_nil, HB.out, eB]
                rw [hts] at hT
                exact hT
              · rw [HC.out.1, HC.out.2.1, List.append_assoc, List.length_append, List.length_singleton, Nat.sub_sub]; rfl
            · have hy0' : (0 : Int) < ybn := by omega
              have hts : ts ≠ [] := fun e => by have h := hybn.out; rw [e] at h; simp at h; omega
              go_wp2_with (first
                | (go_at_call 68; have _h := hg1; (with_reducible refine (next11_any w (ts.map Piece.op) _ _ (Gr.trans hgr (by repeat (with_reducible first | assumption | exact Gr.refl _ | apply Gr.alloc | apply Gr.drewN | apply Gr.drew | apply Gr.iter | (refine Gr.setCell ?_ (by simp) _) | (refine Gr.trans ?_ (by assumption))))) (HM.out.b.grS (by repeat (with_reducible first | assumption | exact Gr.refl _ | apply Gr.alloc | apply Gr.drewN | apply Gr.drew | apply Gr.iter | (refine Gr.setCell ?_ (by simp) _) | (refine Gr.trans ?_ (by assumption)))))).mono ?_); rw [HY.out]; rintro e w2 ⟨sy, rfl, hay, hs3, hs4, hg2⟩; obtain ⟨sya, syn, syc, rfl⟩ := hay.sl; dsimp only [opV])
                | (go_at_call 68; (with_reducible refine (next11_any w (rs.map Piece.op) _ _ (Gr.trans hgr (by repeat (with_reducible first | assumption | exact Gr.refl _ | apply Gr.alloc | apply Gr.drewN | apply Gr.drew | apply Gr.iter | (refine Gr.setCell ?_ (by simp) _) | (refine Gr.trans ?_ (by assumption))))) (HM.out.a.grS (by repeat (with_reducible first | assumption | exact Gr.refl _ | apply Gr.alloc | apply Gr.drewN | apply Gr.drew | apply Gr.iter | (refine Gr.setCell ?_ (by simp) _) | (refine Gr.trans ?_ (by assumption)))))).mono ?_); rw [HX.out]; rintro e w1 ⟨sx, rfl, hax, hs1, hs2, hg1⟩; obtain ⟨sxa, sxn, sxc, rfl⟩ := hax.sl; dsimp only [opV]))
              obtain ⟨g7, h7⟩ : ∃ g, w2.heap.size = g := ⟨_, rfl⟩
              obtain ⟨g8, h8⟩ : ∃ g, g7 + 1 = g := ⟨_, rfl⟩
              obtain ⟨W4, hW4⟩ : ∃ W4, (w2.alloc (.cells #[.int .i64 xk, .string xt, .int .i64 xva, .int .i64 xvb, .string xvt, .int .i64 xct, .slice sxa sxn sxc] 65)).alloc (.cells #[.int .i64 yk, .string yt, .int .i64 yva, .int .i64 yvb, .string yvt, .int .i64 yct, .slice sya syn syc] 65) = W4 := ⟨_, rfl⟩
              have B7 : Blk W4 g7 65 #[.int .i64 xk, .string xt, .int .i64 xva, .int .i64 xvb, .string xvt, .int .i64 xct, .slice sxa sxn sxc] := by subst hW4; exact (Blk.newAt11 h7).alloc _
              have B8 : Blk W4 g8 65 #[.int .i64 yk, .string yt, .int .i64 yva, .int .i64 yvb, .string yvt, .int .i64 yct, .slice sya syn syc] := by subst hW4; exact Blk.newAt11 (by simp; omega)
              have g24 : Gr w2 W4 := by subst hW4; exact (by repeat (with_reducible first | assumption | exact Gr.refl _ | apply Gr.alloc | apply Gr.drewN | apply Gr.drew | apply Gr.iter | (refine Gr.setCell ?_ (by simp) _) | (refine Gr.trans ?_ (by assumption))))
              have gr4 : Gr wr W4 := Gr.trans (show Gr wr w2 from (by repeat (with_reducible first | assumption | exact Gr.refl _ | apply Gr.alloc | apply Gr.drewN | apply Gr.drew | apply Gr.iter | (refine Gr.setCell ?_ (by simp) _) | (refine Gr.trans ?_ (by assumption))))) g24
              have gw4 : Gr w W4 := Gr.trans hgr gr4
              have hay4 := hay.gr g24
              have hax4 := hax.gr (Gr.trans (show Gr w1 w2 from (by repeat (with_reducible first | assumption | exact Gr.refl _ | apply Gr.alloc | apply Gr.drewN | apply Gr.drew | apply Gr.iter | (refine Gr.setCell ?_ (by simp) _) | (refine Gr.trans ?_ (by assumption))))) g24)
              rw [h7, h8, hW4]
              clear hW4 h7 h8 hg1 hg2 g24 hay hax
              go_region_held3 (fun W' => W'.cell? ⟨g7, 0, none⟩ = some (.int .i64 xk) ∧ W'.cell? ⟨g7, 1, none⟩ = some (.string xt) ∧ W'.cell? ⟨g7, 2, none⟩ = some (.int .i64 xva) ∧ W'.cell? ⟨g7, 3, none⟩ = some (.int .i64 xvb) ∧ W'.cell? ⟨g7, 4, none⟩ = some (.string xvt) ∧ W'.cell? ⟨g7, 5, none⟩ = some (.int .i64 xct) ∧ W'.cell? ⟨g7, 6, none⟩ = some (.slice sxa sxn sxc) ∧
                  W'.cell? ⟨g8, 0, none⟩ = some (.int .i64 yk) ∧ W'.cell? ⟨g8, 1, none⟩ = some (.string yt) ∧ W'.cell? ⟨g8, 2, none⟩ = some (.int .i64 yva) ∧ W'.cell? ⟨g8, 3, none⟩ = some (.int .i64 yvb) ∧ W'.cell? ⟨g8, 4, none⟩ = some (.string yvt) ∧ W'.cell? ⟨g8, 5, none⟩ = some (.int .i64 yct) ∧ W'.cell? ⟨g8, 6, none⟩ = some (.slice sya syn syc))
                (first | exact ⟨(B7.gr (by repeat (with_reducible first | assumption | exact Gr.refl _ | apply Gr.alloc | apply Gr.drewN | apply Gr.drew | apply Gr.iter | (refine Gr.setCell ?_ (by simp) _) | (refine Gr.trans ?_ (by assumption))))).cell 0, (B7.gr (by repeat (with_reducible first | assumption | exact Gr.refl _ | apply Gr.alloc | apply Gr.drewN | apply Gr.drew | apply Gr.iter | (refine Gr.setCell ?_ (by simp) _) | (refine Gr.trans ?_ (by assumption))))).cell 1, (B7.gr (by repeat (with_reducible first | assumption | exact Gr.refl _ | apply Gr.alloc | apply Gr.drewN | apply Gr.drew | apply Gr.iter | (refine Gr.setCell ?_ (by simp) _) | (refine Gr.trans ?_ (by assumption))))).cell 2, (B7.gr (by repeat (with_reducible first | assumption | exact Gr.refl _ | apply Gr.alloc | apply Gr.drewN | apply Gr.drew | apply Gr.iter | (refine Gr.setCell ?_ (by simp) _) | (refine Gr.trans ?_ (by assumption))))).cell 3, (B7.gr (by repeat (with_reducible first | assumption | exact Gr.refl _ | apply Gr.alloc | apply Gr.drewN | apply Gr.drew | apply Gr.iter | (refine Gr.setCell ?_ (by simp) _) | (refine Gr.trans ?_ (by assumption))))).cell 4, (B7.gr (by repeat (with_reducible first | assumption | exact Gr.refl _ | apply Gr.alloc | apply Gr.drewN | apply Gr.drew | apply Gr.iter | (refine Gr.setCell ?_ (by simp) _) | (refine Gr.trans ?_ (by assumption))))).cell 5, (B7.gr (by repeat (with_reducible first | assumption | exact Gr.refl _ | apply Gr.alloc | apply Gr.drewN | apply Gr.drew | apply Gr.iter | (refine Gr.setCell ?_ (by simp) _) | (refine Gr.trans ?_ (by assumption))))).cell 6, (B8.gr (by repeat (with_reducible first | assumption | exact Gr.refl _ | apply Gr.alloc | apply Gr.drewN | apply Gr.drew | apply Gr.iter | (refine Gr.setCell ?_ (by simp) _) | (refine Gr.trans ?_ (by assumption))))).cell 0, (B8.gr (by repeat (with_reducible first | assumption | exact Gr.refl _ | apply Gr.alloc | apply Gr.drewN | apply Gr.drew | apply Gr.iter | (refine Gr.setCell ?_ (by simp) _) | (refine Gr.trans ?_ (by assumption))))).cell 1, (B8.gr (by repeat (with_reducible first | assumption | exact Gr.refl _ | apply Gr.alloc | apply Gr.drewN | apply Gr.drew | apply Gr.iter | (refine Gr.setCell ?_ (by simp) _) | (refine Gr.trans ?_ (by assumption))))).cell 2, (B8.gr (by repeat (with_reducible first | assumption | exact Gr.refl _ | apply Gr.alloc | apply Gr.drewN | apply Gr.drew | apply Gr.iter | (refine Gr.setCell ?_ (by simp) _) | (refine Gr.trans ?_ (by assumption))))).cell 3, (B8.gr (by repeat (with_reducible first | assumption | exact Gr.refl _ | apply Gr.alloc | apply Gr.drewN | apply Gr.drew | apply Gr.iter | (refine Gr.setCell ?_ (by simp) _) | (refine Gr.trans ?_ (by assumption))))).cell 4, (B8.gr (by repeat (with_reducible first | assumption | exact Gr.refl _ | apply Gr.alloc | apply Gr.drewN | apply Gr.drew | apply Gr.iter | (refine Gr.setCell ?_ (by simp) _) | (refine Gr.trans ?_ (by assumption))))).cell 5, (B8.gr (by repeat (with_reducible first | assumption | exact Gr.refl _ | apply Gr.alloc | apply Gr.drewN | apply Gr.drew | apply Gr.iter | (refine Gr.setCell ?_ (by simp) _) | (refine Gr.trans ?_ (by assumption))))).cell 6⟩ | go_keep)
                (first
                  | (go_at_call 69; (with_reducible refine (rlen_any xk xt xva xvb xvt xct _ xl _ (RdAttrs.gr (hax4.rd gw4) (by repeat (with_reducible first | assumption | exact Gr.refl _ | apply Gr.alloc | apply Gr.drewN | apply Gr.drew | apply Gr.iter | (refine Gr.setCell ?_ (by simp) _) | (refine Gr.trans ?_ (by assumption))))) hs1).mono ?_); rw [HRX.out]; rintro e wx ⟨rfl, hgx⟩)
                  | (go_at_call 69; (with_reducible refine (rlen_any yk yt yva yvb yvt yct _ yl _ (RdAttrs.gr (hay4.rd gw4) (by repeat (with_reducible first | assumption | exact Gr.refl _ | apply Gr.alloc | apply Gr.drewN | apply Gr.drew | apply Gr.iter | (refine Gr.setCell ?_ (by simp) _) | (refine Gr.trans ?_ (by assumption))))) hs3).mono ?_); rw [HRY.out]; rintro e wy ⟨rfl, hgy⟩))
              have gwy : Gr W4 wy := (by repeat (with_reducible first | assumption | exact Gr.refl _ | apply Gr.alloc | apply Gr.drewN | apply Gr.drew | apply Gr.iter | (refine Gr.setCell ?_ (by simp) _) | (refine Gr.trans ?_ (by assumption))))
              have E7 := B7.gr gwy; have E8 := B8.gr gwy
              have e7 := E7.cell; have ez7 := E7.lt
              have e8 := E8.cell; have ez8 := E8.lt
              have gry : Gr wr wy := Gr.trans gr4 gwy
              have hax5 := hax4.gr gwy; have hay5 := hay4.gr gwy
              have hzy := gry.size
              clear gwy gr4 B7 B8 gw4 hax4 hay4 hgx hgy
              go_wp2_with (first
                | (go_at_call 70; have _h := hga; refine (head11_any ⟨yk, yt, ⟨yva, yvb, yvt⟩, yct, yl⟩ M _ w _ (hEr.gr (Gr.trans gry (by repeat (with_reducible first | assumption | exact Gr.refl _ | apply Gr.alloc | apply Gr.drewN | apply Gr.drew | apply Gr.iter | (refine Gr.setCell ?_ (by simp) _) | (refine Gr.trans ?_ (by assumption)))))) (Gr.trans hgr (Gr.trans gry (by repeat (with_reducible first | assumption | exact Gr.refl _ | apply Gr.alloc | apply Gr.drewN | apply Gr.drew | apply Gr.iter | (refine Gr.setCell ?_ (by simp) _) | (refine Gr.trans ?_ (by assumption)))))) (hay5.gr (by repeat (with_reducible first | assumption | exact Gr.refl _ | apply Gr.alloc | apply Gr.drewN | apply Gr.drew | apply Gr.iter | (refine Gr.setCell ?_ (by simp) _) | (refine Gr.trans ?_ (by assumption))))) hs3 hs4 HXO.out.2 hM1 hay5.len).mono ?_; rw [HLY.out]; dsimp only; rintro e wb ⟨vq, lvy, rfl, haq, hq1, hq2, hly, hlyn, hlyb, hgb⟩; obtain ⟨sqa, sqn, sqc, rfl⟩ := haq.sl; obtain ⟨lya, lyn, lyc, rfl, -⟩ := hly.sl; dsimp only [opV]; have C10 := (Blk.new wa 65 #[.int .i64 pk, .string pt, .int .i64 pva, .int .i64 pvb, .string pvt, .int .i64 pc, .slice spa spn spc]).gr (w' := wb) (by repeat (with_reducible first | assumption | exact Gr.refl _ | apply Gr.alloc | apply Gr.drewN | apply Gr.drew | apply Gr.iter | (refine Gr.setCell ?_ (by simp) _) | (refine Gr.trans ?_ (by assumption)))); have c10 := C10.cell; have z10 := C10.lt)
                | (go_at_call 70; refine (head11_any ⟨xk, xt, ⟨xva, xvb, xvt⟩, xct, xl⟩ M _ w _ (hEr.gr (Gr.trans gry (by repeat (with_reducible first | assumption | exact Gr.refl _ | apply Gr.alloc | apply Gr.drewN | apply Gr.drew | apply Gr.iter | (refine Gr.setCell ?_ (by simp) _) | (refine Gr.trans ?_ (by assumption)))))) (Gr.trans hgr (Gr.trans gry (by repeat (with_reducible first | assumption | exact Gr.refl _ | apply Gr.alloc | apply Gr.drewN | apply Gr.drew | apply Gr.iter | (refine Gr.setCell ?_ (by simp) _) | (refine Gr.trans ?_ (by assumption)))))) (hax5.gr (by repeat (with_reducible first | assumption | exact Gr.refl _ | apply Gr.alloc | apply Gr.drewN | apply Gr.drew | apply Gr.iter | (refine Gr.setCell ?_ (by simp) _) | (refine Gr.trans ?_ (by assumption))))) hs1 hs2 HXO.out.1 hM1 hax5.len).mono ?_; rw [HLX.out]; dsimp only; rintro e wa ⟨vp, lvx, rfl, hap, hp1, hp2, hlx, hlxn, hlxb, hga⟩; obtain ⟨spa, spn, spc, rfl⟩ := hap.sl; obtain ⟨lxa, lxn, lxc, rfl, -⟩ := hlx.sl; dsimp only [opV]; have C8 := E8.gr (w' := wa) (by repeat (with_reducible first | assumption | exact Gr.refl _ | apply Gr.alloc | apply Gr.drewN | apply Gr.drew | apply Gr.iter | (refine Gr.setCell ?_ (by simp) _) | (refine Gr.trans ?_ (by assumption)))); have c8 := C8.cell; have z8 := C8.lt)
                | (go_at_call 71; refine (both11_any w ⟨pk, pt, ⟨pva, pvb, pvt⟩, pc, pl⟩ ⟨qk, qt, ⟨qva, qvb, qvt⟩, qc, ql⟩ _ _ _ (Gr.trans hgr (Gr.trans gry (by repeat (with_reducible first | assumption | exact Gr.refl _ | apply Gr.alloc | apply Gr.drewN | apply Gr.drew | apply Gr.iter | (refine Gr.setCell ?_ (by simp) _) | (refine Gr.trans ?_ (by assumption)))))) (hap.gr (by repeat (with_reducible first | assumption | exact Gr.refl _ | apply Gr.alloc | apply Gr.drewN | apply Gr.drew | apply Gr.iter | (refine Gr.setCell ?_ (by simp) _) | (refine Gr.trans ?_ (by assumption))))) (haq.gr (by repeat (with_reducible first | assumption | exact Gr.refl _ | apply Gr.alloc | apply Gr.drewN | apply Gr.drew | apply Gr.iter | (refine Gr.setCell ?_ (by simp) _) | (refine Gr.trans ?_ (by assumption))))) hp1 hp2 hq1 hq2 (fun _ => HRI.out) (by dsimp only; omega)).mono ?_; rw [HBO.out]; rintro e wc ⟨bv, rfl, hbr, hgc⟩; obtain ⟨bxa, bxn, bxc, rfl, -⟩ := hbr.sl; obtain ⟨v', w', hrun, hM', ⟨x1, x2, x3, rfl⟩, hKg, hnb⟩ := CmR.addK (HM.out.to (w' := wc) (Gr.trans gry (by repeat (with_reducible first | assumption | exact Gr.refl _ | apply Gr.alloc | apply Gr.drewN | apply Gr.drew | apply Gr.iter | (refine Gr.setCell ?_ (by simp) _) | (refine Gr.trans ?_ (by assumption)))))) hbr 22 (by have := HLL.out.2.2; omega); have hlx' := RdList.besO (hlx.grS (w' := wc) (by repeat (with_reducible first | assumption | exact Gr.refl _ | apply Gr.alloc | apply Gr.drewN | apply Gr.drew | apply Gr.iter | (refine Gr.setCell ?_ (by simp) _) | (refine Gr.trans ?_ (by assumption))))) hKg (fun b hb e => by have h1 := hlxb b hb; have h2 := (OwnL.lt_ HM.out.o b e).2; have h3 := hzy; (try simp only [World.size_alloc] at h1); omega); have hly' := RdList.besO (hly.grS (w' := wc) (by repeat (with_reducible first | assumption | exact Gr.refl _ | apply Gr.alloc | apply Gr.drewN | apply Gr.drew | apply Gr.iter | (refine Gr.setCell ?_ (by simp) _) | (refine Gr.trans ?_ (by assumption))))) hKg (fun b hb e => by have h1 := hlyb b hb; have h2 := (OwnL.lt_ HM.out.o b e).2; have h3 := hzy; have h4 := Gr.size (w := wy) (w' := wa) (by repeat (with_reducible first | assumption | exact Gr.refl _ | apply Gr.alloc | apply Gr.drewN | apply Gr.drew | apply Gr.iter | (refine Gr.setCell ?_ (by simp) _) | (refine Gr.trans ?_ (by assumption)))); (try simp only [World.size_alloc] at h1); omega); have hgw' := hM'.gr; have HP := Lib.hid (And.intro hrun (And.intro hM' (And.intro hlx' hly'))); clear hrun hM' hlx' hly' hKg)
                | (at_builtin; refine wpList_run rfl _ _ _ rfl rfl rfl HP.out.1 ?_)
                | (go_at_call 72; have _h := hgd; refine (behind11_any w LY (ts.map Piece.op) _ (.slice yba ybn ybc) _ (Gr.trans hgw' (by repeat (with_reducible first | assumption | exact Gr.refl _ | apply Gr.alloc | apply Gr.drewN | apply Gr.drew | apply Gr.iter | (refine Gr.setCell ?_ (by simp) _) | (refine Gr.trans ?_ (by assumption))))) (HP.out.2.2.2.grS (by repeat (with_reducible first | assumption | exact Gr.refl _ | apply Gr.alloc | apply Gr.drewN | apply Gr.drew | apply Gr.iter | (refine Gr.setCell ?_ (by simp) _) | (refine Gr.trans ?_ (by assumption))))) hlyn HLL.out.2.1 (HP.out.2.1.b.grS (by repeat (with_reducible first | assumption | exact Gr.refl _ | apply Gr.alloc | apply Gr.drewN | apply Gr.drew | apply Gr.iter | (refine Gr.setCell ?_ (by simp) _) | (refine Gr.trans ?_ (by assumption))))) (fun e => by have h := hybn.out; rw [e, List.length_nil] at h; omega) (by rw [List.length_map]; omega)).mono ?_; rintro e wf ⟨vb', rfl, hrb', hbb', hgf⟩; obtain ⟨ya', yn', yc', rfl, -⟩ := hrb'.sl)
                | (go_at_call 72; refine (behind11_any w LX (rs.map Piece.op) _ (.slice xaa xan xac) _ (Gr.trans hgw' (by repeat (with_reducible first | assumption | exact Gr.refl _ | apply Gr.alloc | apply Gr.drewN | apply Gr.drew | apply Gr.iter | (refine Gr.setCell ?_ (by simp) _) | (refine Gr.trans ?_ (by assumption))))) (HP.out.2.2.1.grS (by repeat (with_reducible first | assumption | exact Gr.refl _ | apply Gr.alloc | apply Gr.drewN | apply Gr.drew | apply Gr.iter | (refine Gr.setCell ?_ (by simp) _) | (refine Gr.trans ?_ (by assumption))))) hlxn HLL.out.1 (HP.out.2.1.a.grS (by repeat (with_reducible first | assumption | exact Gr.refl _ | apply Gr.alloc | apply Gr.drewN | apply Gr.drew | apply Gr.iter | (refine Gr.setCell ?_ (by simp) _) | (refine Gr.trans ?_ (by assumption))))) (fun e => by have h := hxan.out; rw [e, List.length_nil] at h; omega) (by rw [List.length_map]; omega)).mono ?_; rintro e wd ⟨va', rfl, hra', hba', hgd⟩; obtain ⟨za, zn, zc, rfl, -⟩ := hra'.sl))
              have hT := ((((HP.out.2.1.to (w' := wd) (by repeat (with_reducible first | assumption | exact Gr.refl _ | apply Gr.alloc | apply Gr.drewN | apply Gr.drew | apply Gr.iter | (refine Gr.setCell ?_ (by simp) _) | (refine Gr.trans ?_ (by assumption))))).setA hra' (by simpa using hrs) hba' (fun b e => by have h1 := (OwnL.lt_ HP.out.2.1.o b e).2; have h2 := Gr.size (w := w') (w' := wd) (by repeat (with_reducible first | assumption | exact Gr.refl _ | apply Gr.alloc | apply Gr.drewN | apply Gr.drew | apply Gr.iter | (refine Gr.setCell ?_ (by simp) _) | (refine Gr.trans ?_ (by assumption)))); omega)).to (w' := wf) (by repeat (with_reducible first | assumption | exact Gr.refl _ | apply Gr.alloc | apply Gr.drewN | apply Gr.drew | apply Gr.iter | (refine Gr.setCell ?_ (by simp) _) | (refine Gr.trans ?_ (by assumption))))).setB hrb' (by simpa using hts) hbb' (fun b e => by have h1 := (OwnL.lt_ HP.out.2.1.o b e).2; have h2 := Gr.size (w := w') (w' := wd) (by repeat (with_reducible first | assumption | exact Gr.refl _ | apply Gr.alloc | apply Gr.drewN | apply Gr.drew | apply Gr.iter | (refine Gr.setCell ?_ (by simp) _) | (refine Gr.trans ?_ (by assumption)))); omega))
              have eA := HC.out.2.2.2.2.2.1 hrs
              have eB := HC.out.2.2.2.2.2.2.2.1 hts
              rw [eA, eB] at hT
              rw [eA] at hra'
              rw [eB] at hrb'
              have hyn := hra'.len
              have hyn2 := hrb'.len
              rw [List.length_map] at hyn hyn2
              have hsl := HC.out.2.2.2.2.1
              have hxl := hxan.out
              have hyl := hybn.out
              rw [List.length_map] at hxl hyl
              refine ⟨⟨(nextP rs M).2, (nextP ts M).2, dn ++ [(some P, some Q)], ?_, HC.out.2.2.1, HC.out.2.2.2.1, by rw [List.length_append, List.length_singleton]; omega, by rw [List.length_append, List.length_singleton]; omega, ?_⟩, by simp only [slLenA]; omega⟩
              · rw [List.flatMap_append]
                simp only [List.flatMap_cons, List.flatMap_nil, downS, List.append_nil, HB.out]
                exact hT
              · rw [HC.out.1, HC.out.2.1, List.append_assoc, List.length_append, List.length_singleton, Nat.sub_sub]; rfl

end Ve
