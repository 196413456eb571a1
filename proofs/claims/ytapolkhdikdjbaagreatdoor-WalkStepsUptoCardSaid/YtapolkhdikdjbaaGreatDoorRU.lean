/- Walks: vellumlaw07.gathered. -/
import Derived.Test.YtapolkhdikdjbaaGreatDoorRT
set_option linter.all false
namespace Ve
open Go Go.RowKit Go.Proofs

theorem OwnOps.at_ {base : Nat} {w : World} {a : Option Addr} {n cap : Nat} {l : List Op} (h : OwnOps base w (.slice a n cap) l) (hb : n ≤ 1099511627776) (i : Nat) (hi : i < n) :
    ∃ b off k t va vb vt c ats sl, l[i]? = some ⟨k, t, ⟨va, vb, vt⟩, c, ats⟩ ∧ a = some ⟨b, off, none⟩ ∧ OwnA w sl ats ∧ w.cell? ⟨b, off + i * 7, none⟩ = some (.int .i64 k) ∧ w.cell? ⟨b, off + i * 7 + 1, none⟩ = some (.string t) ∧
      w.cell? ⟨b, off + i * 7 + 2, none⟩ = some (.int .i64 va) ∧ w.cell? ⟨b, off + i * 7 + 3, none⟩ = some (.int .i64 vb) ∧ w.cell? ⟨b, off + i * 7 + 4, none⟩ = some (.string vt) ∧
      w.cell? ⟨b, off + i * 7 + 5, none⟩ = some (.int .i64 c) ∧ w.cell? ⟨b, off + i * 7 + 6, none⟩ = some sl ∧ szS t ∧ szS vt := by
  have hlen : l.length = n := by
    obtain ⟨a', n', cap', e, -, -, hn⟩ := h.sl
    injection e with _ e _
    rw [e]; exact hn.out
  obtain ⟨b, off, ⟨k, t, ⟨va, vb, vt⟩, c, ats⟩, cs, e, hx, ⟨sl, rfl, hr, s1, s2⟩, _, hc⟩ := RdList.get (OwnL.rd h (by omega)) i hi
  exact ⟨b, off, k, t, va, vb, vt, c, ats, sl, hx, e, hr, hc 0 _ (by omega) rfl, hc 1 _ (by omega) rfl, hc 2 _ (by omega) rfl, hc 3 _ (by omega) rfl, hc 4 _ (by omega) rfl, hc 5 _ (by omega) rfl, hc 6 _ (by omega) rfl, s1, s2⟩
/-- A delta's first so many cells. -/
def gathP : List Piece → Int → List Piece
  | [], _ => []
  | p :: r, n => if n ≤ 0 then [] else if n < p.len then [(cutP p n).1] else p :: gathP r (n - p.len)
theorem gathP_zero (l : List Piece) {n : Int} (h : n ≤ 0) : gathP l n = [] := by
  cases l with
  | nil => rfl
  | cons p r => simp only [gathP]; rw [if_pos h]
theorem gathP_len (l : List Piece) : ∀ n, (gathP l n).length ≤ l.length := by
  induction l with
  | nil => intro n; simp [gathP]
  | cons p r ih =>
    intro n
    simp only [gathP]
    split
    · simp
    · split
      · simp
      · simp only [List.length_cons]; have := ih (n - p.len); omega
theorem rlen_piece {p : Piece} (h : pOk p) : rlen p.op = p.len := by
  rw [rlen_ok h.1, h.2]
theorem set7_size (w : World) (g : Nat) (u0 u1 u2 u3 u4 u5 u6 : Value) : (Ve.set7 w g u0 u1 u2 u3 u4 u5 u6).heap.size = w.heap.size := by simp [Ve.set7, World.setCell]
theorem cutO_attrs (o : Op) (n : Int) : (cutO o n).1.attrs = o.attrs := by unfold cutO; split <;> rfl
theorem cutO_sz {o : Op} {n : Int} (hv : brk o.text = o.text.size) (h1 : szS o.text) (h2 : szS o.val.text) : szS (cutO o n).1.text ∧ szS (cutO o n).1.val.text := by
  unfold cutO
  split
  · exact ⟨(text_take_sz hv h1 n.toNat).1, h2⟩
  · exact ⟨h1, h2⟩
theorem cut_pre {p : Piece} {k : Int} {t : ByteArray} {v : Plain} {c : Int} {a : List Attr} {M : Int} (hp : pOk p) (ho : p.op = ⟨k, t, v, c, a⟩) (hM : p.len = M) (hne : ∀ a t v, p ≠ .emb a t v) : (k = 1 ∨ k = 2 ∨ k = 3 ∨ k = 4) ∧ brk t = t.size ∧ (k = 1 ∨ c = M) := by
  cases p with
  | ins a' t' n => simp only [Piece.op] at ho; injection ho with e1 e2 e3 e4 e5; subst e1 e2; exact ⟨.inl rfl, (ins_ok.1 hp).2.1, .inl rfl⟩
  | emb a' t' x => exact absurd rfl (hne a' t' x)
  | ret a' n => simp only [Piece.op] at ho; injection ho with e1 e2 e3 e4 e5; subst e1 e2; exact ⟨.inr (.inr (.inl rfl)), by decide +kernel, .inr (by rw [← e4, ← hM]; rfl)⟩
  | del n => simp only [Piece.op] at ho; injection ho with e1 e2 e3 e4 e5; subst e1 e2; exact ⟨.inr (.inr (.inr rfl)), by decide +kernel, .inr (by rw [← e4, ← hM]; rfl)⟩
set_option maxRecDepth 20000 in
set_option maxHeartbeats 8000000 in
theorem gathered_any (ps : List Piece) (dv : Value) (cells : Int) (w : World) (hD : DeltaR w dv ps) (hok : PsOk ps) (h0 : 0 ≤ cells) (h1 : cells ≤ 4398046511104) :
    Calls Tryz.prog 35 #[dv, .int .i64 cells] w fun e w' => ∃ v', e = .returned v' ∧ OwnOps w.heap.size w' v' ((gathP ps cells).map Piece.op) ∧ Gr w w' := by
  have hlen := hD.short
  obtain ⟨gd, sd, rfl, hBd, hrd⟩ := hD
  have HD := Lib.hid (show DeltaR w (.pointer (some ⟨gd, 0, none⟩)) ps from ⟨gd, sd, rfl, hBd, hrd⟩); clear hBd hrd
  go_enter Tryz.func35, Tryz.ntmps35
  go_wp2_with (go_at_call 36; refine (dops_any ps _ _ (DeltaR.gr (w := w) HD.out (by repeat (with_reducible first | assumption | exact Gr.refl _ | apply Gr.alloc | apply Gr.drewN | apply Gr.drew | apply Gr.iter | (refine Gr.setCell ?_ (by simp) _) | (refine Gr.trans ?_ (by assumption))))) hok.good).mono ?_; rintro e w1 ⟨v1, rfl, ho1, hg1⟩; obtain ⟨a1, n, c1, rfl, hn1, hn2, hn3⟩ := ho1.sl)
  have hnl : ps.length = n := by have := hn3.out; rwa [List.length_map] at this
  have hd0 : ∀ b, (Value.slice (some ⟨w.heap.size, 0, none⟩) 0 0).ownBlock = some b → (Value.slice a1 n c1).ownBlock ≠ some b := by
    intro b hb hb'
    obtain ⟨xs, ho, -⟩ := ho1
    have := own_fr ho b hb'
    simp [Value.ownBlock] at hb this
    omega
  have hO0 : OwnOps w.heap.size w1 (.slice (some ⟨w.heap.size, 0, none⟩) 0 0) [] := OwnOps.gr (OwnL.made w OpO 7 w.heap.size 46 (Nat.le_refl _)) hg1
  have hgw1 : Gr w w1 := (by repeat (with_reducible first | assumption | exact Gr.refl _ | apply Gr.alloc | apply Gr.drewN | apply Gr.drew | apply Gr.iter | (refine Gr.setCell ?_ (by simp) _) | (refine Gr.trans ?_ (by assumption))))
  have ho1' : OwnOps 0 w1 (.slice a1 n c1) (ps.map Piece.op) := OwnL.base_le ho1 (Nat.zero_le _)
  clear ho1
  go_loopw [1, 5, 13] (fun cv o i wr => ∃ (k : Nat) (c : Int) (G : List Piece), k ≤ n ∧ i = .int .i64 k ∧ cv = .int .i64 c ∧ OwnOps w.heap.size wr o (G.map Piece.op) ∧ OwnOps 0 wr (.slice a1 n c1) (ps.map Piece.op) ∧ (∀ b, o.ownBlock = some b → (Value.slice a1 n c1).ownBlock ≠ some b) ∧
    G ++ gathP (ps.drop k) c = gathP ps cells ∧ G.length ≤ k ∧ -1099511627776 ≤ c ∧ c ≤ 4398046511104 ∧ Gr w wr) (fun _ _ i _ => n - (intOf i).toNat)
  case atStart => exact ⟨0, cells, [], Nat.zero_le _, rfl, rfl, hO0, ho1', hd0, rfl, Nat.zero_le _, by omega, h1, hgw1⟩
  case round =>
    obtain ⟨k, c, G, hk, rfl, rfl, hO, hL, hdis, hG, hGl, hc0, hc1, hgw⟩ := hrel
    obtain ⟨oa, om, oc, rfl, -, -, hom⟩ := hO.sl
    have HG := Lib.hid hG; clear hG
    by_cases hlt : k < n
    · obtain ⟨b, off, ok, ot, va, vb, vt, ct, ats, sl, hx, rfl, hr, q0, q1, q2, q3, q4, q5, q6, s1, s2⟩ := hL.at_ (by omega) k hlt
      obtain ⟨p, hpx, hpo⟩ : ∃ p, ps[k]? = some p ∧ p.op = ⟨ok, ot, ⟨va, vb, vt⟩, ct, ats⟩ := by
        rw [List.getElem?_map] at hx
        cases hp : ps[k]? with
        | none => rw [hp] at hx; cases hx
        | some p => rw [hp] at hx; injection hx with hx; exact ⟨p, rfl, hx⟩
      have hpk := hok p (List.mem_of_getElem? hpx)
      have hpl := rlen_piece hpk
      have hp1 := pOk_pos hpk
      have hdr := drop_cons hpx
      have hat : ats.length ≤ 1099511627776 := hr.2
      rw [hpo] at hpl
      obtain ⟨M, hM⟩ : ∃ M, p.len = M := ⟨_, rfl⟩
      rw [hM] at hpl hp1
      have hM2 : M ≤ 1099511627776 := by have := (rlen_bound (o := ⟨ok, ot, ⟨va, vb, vt⟩, ct, ats⟩) (hpo ▸ hpk.1) s1).2; omega
      obtain ⟨sa, sn, sc, rfl, -⟩ := hr.1.sl
      have hlt' : (k : Int) < n := by omega
      have HL := Lib.hid hpl; clear hpl hx
      have HS := Lib.hid (And.intro hdr (And.intro hpo (And.intro hM hpk))); clear hdr hpo hM hpk hpx
      by_cases hcp : c ≤ 0
      · go_wp2_with (go_at_call 23; obtain ⟨W, hW, B0, hgW⟩ := blkOne wr 46 #[.int .i64 ok, .string ot, .int .i64 va, .int .i64 vb, .string vt, .int .i64 ct, .slice sa sn sc]; rw [hW]; have HW := Lib.hid hW; clear hW; refine (w2_any _ _ _ _ _ _ _ ats _ (RdAttrs.gr (w := wr) hr.rd (by repeat (with_reducible first | assumption | exact Gr.refl _ | apply Gr.alloc | apply Gr.drewN | apply Gr.drew | apply Gr.iter | (refine Gr.setCell ?_ (by simp) _) | (refine Gr.trans ?_ (by assumption))))) s1).mono ?_; rw [HL.out]; rintro e w2 ⟨rfl, hg2⟩; have B2 := B0.gr (w' := w2) (by repeat (with_reducible first | assumption | exact Gr.refl _ | apply Gr.alloc | apply Gr.drewN | apply Gr.drew | apply Gr.iter | (refine Gr.setCell ?_ (by simp) _) | (refine Gr.trans ?_ (by assumption)))); have b2c := B2.cell; have b2f := B2.frozen; have b2z := B2.lt)
        go_ret
        have e := HG.out
        rw [gathP_zero _ hcp, List.append_nil] at e
        rw [← e]
        exact ⟨_, rfl, OwnOps.gr (w := wr) hO (by repeat (with_reducible first | assumption | exact Gr.refl _ | apply Gr.alloc | apply Gr.drewN | apply Gr.drew | apply Gr.iter | (refine Gr.setCell ?_ (by simp) _) | (refine Gr.trans ?_ (by assumption)))), (by repeat (with_reducible first | assumption | exact Gr.refl _ | apply Gr.alloc | apply Gr.drewN | apply Gr.drew | apply Gr.iter | (refine Gr.setCell ?_ (by simp) _) | (refine Gr.trans ?_ (by assumption))))⟩
      · have hOl := OwnL.lt_ hO
        have hLl := OwnL.lt_ hL
        have hOf : ∀ b, (Value.slice oa om oc).ownBlock = some b → w.heap.size ≤ b := by obtain ⟨xs, ho, -⟩ := hO; exact own_fr ho
        by_cases hcm : c < M
        · obtain ⟨hdr, hpo, hM, hpk⟩ := HS.out
          have hne : ∀ a t v, p ≠ .emb a t v := by rintro a t v rfl; simp only [Piece.len] at hM; omega
          obtain ⟨hk4, hv, hcr⟩ := cut_pre hpk hpo hM hne
          obtain ⟨k2, t2, ⟨va2, vb2, vt2⟩, c2, ats2, hQ⟩ : ∃ k' t' v' c' a', (cutO ⟨ok, ot, ⟨va, vb, vt⟩, ct, ats⟩ c).1 = ⟨k', t', v', c', a'⟩ := ⟨_, _, _, _, _, rfl⟩
          have ha2 := cutO_attrs ⟨ok, ot, ⟨va, vb, vt⟩, ct, ats⟩ c
          obtain ⟨sz1, sz2⟩ := cutO_sz (o := ⟨ok, ot, ⟨va, vb, vt⟩, ct, ats⟩) (n := c) hv s1 s2
          rw [hQ] at ha2 sz1 sz2
          dsimp only at ha2 sz1 sz2
          have ha3 := ha2.symm; clear ha2
          subst ha3
          have hop : (cutP p c).1.op = ⟨k2, t2, ⟨va2, vb2, vt2⟩, c2, ats⟩ := by rw [← (cut_op hne).1, hpo, hQ]
          have HQ := Lib.hid (And.intro hQ hop); clear hQ hop hdr hpo hM hpk hne
          have HV := Lib.hid (And.intro hk4 (And.intro hv hcr)); clear hk4 hv hcr
          go_wp2_with (first
            | (go_at_call 23; obtain ⟨W, hW, B0, hgW⟩ := blkOne wr 46 #[.int .i64 ok, .string ot, .int .i64 va, .int .i64 vb, .string vt, .int .i64 ct, .slice sa sn sc]; rw [hW]; have HW := Lib.hid hW; clear hW; refine (w2_any _ _ _ _ _ _ _ ats _ (RdAttrs.gr (w := wr) hr.rd (by repeat (with_reducible first | assumption | exact Gr.refl _ | apply Gr.alloc | apply Gr.drewN | apply Gr.drew | apply Gr.iter | (refine Gr.setCell ?_ (by simp) _) | (refine Gr.trans ?_ (by assumption))))) s1).mono ?_; rw [HL.out]; rintro e w2 ⟨rfl, hg2⟩; have B2 := B0.gr (w' := w2) (by repeat (with_reducible first | assumption | exact Gr.refl _ | apply Gr.alloc | apply Gr.drewN | apply Gr.drew | apply Gr.iter | (refine Gr.setCell ?_ (by simp) _) | (refine Gr.trans ?_ (by assumption)))); have b2c := B2.cell; have b2f := B2.frozen; have b2z := B2.lt)
            | (go_at_call 93; refine (cut07_some ok ot va vb vt ct _ ats _ (RdAttrs.gr (w := wr) hr.rd (by repeat (with_reducible first | assumption | exact Gr.refl _ | apply Gr.alloc | apply Gr.drewN | apply Gr.drew | apply Gr.iter | (refine Gr.setCell ?_ (by simp) _) | (refine Gr.trans ?_ (by assumption))))) s1 HV.out.1 c HV.out.2.1 M HL.out (by omega) (by omega) HV.out.2.2 hM2).mono ?_; rw [HQ.out.1]; rintro e w3 ⟨s31, s32, rfl, h31, -, hg3⟩; obtain ⟨x1, x2, x3, rfl, -⟩ := h31.sl; dsimp only [opV]; have B3 := B0.gr (w' := w3) (by repeat (with_reducible first | assumption | exact Gr.refl _ | apply Gr.alloc | apply Gr.drewN | apply Gr.drew | apply Gr.iter | (refine Gr.setCell ?_ (by simp) _) | (refine Gr.trans ?_ (by assumption)))); have b3c := B3.cell; have b3f := B3.frozen; have b3z := B3.lt; have T5 := set7_one B3 (.int .i64 k2) (.string t2) (.int .i64 va2) (.int .i64 vb2) (.string vt2) (.int .i64 c2) (.slice x1 x2 x3); have hO5 := OwnOps.tn (w := w3) (OwnOps.gr (w := wr) hO (by repeat (with_reducible first | assumption | exact Gr.refl _ | apply Gr.alloc | apply Gr.drewN | apply Gr.drew | apply Gr.iter | (refine Gr.setCell ?_ (by simp) _) | (refine Gr.trans ?_ (by assumption))))) T5 (fun b h => by have := h.2; injection this with this; exact absurd this (by decide)) (fun b hb h => by have := (hOl b hb).2; have := h.1; omega); have hL5 := OwnOps.tn (w := w3) (OwnOps.gr (w := wr) hL (by repeat (with_reducible first | assumption | exact Gr.refl _ | apply Gr.alloc | apply Gr.drewN | apply Gr.drew | apply Gr.iter | (refine Gr.setCell ?_ (by simp) _) | (refine Gr.trans ?_ (by assumption))))) T5 (fun b h => by have := h.2; injection this with this; exact absurd this (by decide)) (fun b hb h => by have := (hLl b hb).2; have := h.1; omega); have hA5 := OwnA.tn (w := w3) (OwnAL.rd h31 hat) T5 (fun b _ h => by have := h.2; injection this with this; exact absurd this (by decide)); have g5 : Gr w _ := Gr.tn (show Gr w w3 from (by repeat (with_reducible first | assumption | exact Gr.refl _ | apply Gr.alloc | apply Gr.drewN | apply Gr.drew | apply Gr.iter | (refine Gr.setCell ?_ (by simp) _) | (refine Gr.trans ?_ (by assumption))))) T5 (fun b t h => by have := h.1; have := hgw.size; omega); obtain ⟨v6, w6, r6, o6, k6, n6⟩ := push_opF (Ve.set7 w3 wr.heap.size (.int .i64 k2) (.string t2) (.int .i64 va2) (.int .i64 vb2) (.string vt2) (.int .i64 c2) (.slice x1 x2 x3)) w.heap.size 22 ⟨k2, t2, ⟨va2, vb2, vt2⟩, c2, ats⟩ (.slice x1 x2 x3) hO5 hA5 sz1 sz2 (by rw [List.length_map]; omega) g5.size; have hr6 := r6; rw [set7_size] at hr6; unfold Ve.set7 at hr6; have HP := Lib.hid (And.intro hr6 (And.intro o6 (And.intro k6 n6))); clear r6 hr6 o6 k6 n6)
            | (at_builtin; refine wpList_run rfl _ _ _ rfl rfl rfl HP.out.1 ?_))
          go_roundw
          case rel =>
            obtain ⟨-, o6, k6, n6⟩ := HP.out
            obtain ⟨hdr, hpo, hM, hpk⟩ := HS.out
            have T6 : Tn (fun b t => (Value.slice oa om oc).ownBlock = some b ∧ t = some 46) _ _ := Tn.of_kg k6 fun b t hb ht => ⟨hb, by unfold opT at ht; rw [beq_iff_eq.1 ht]⟩
            have g6 := Gr.tn g5 T6 (fun b t h => hOf b h.1)
            refine ⟨k + 1, c - M, G ++ [(cutP p c).1], by omega, by go_num, rfl, ?_, OwnOps.tn hL5 T6 (fun b h => by have := h.2; injection this with this; exact absurd this (by decide)) (fun b hb h => hdis b h.1 hb), ?_, ?_, by rw [List.length_append, List.length_singleton]; omega, by omega, by omega, g6⟩
            · rw [List.map_append, List.map_singleton, HQ.out.2]; exact o6
            · intro b hb hb'
              rcases n6 b hb with h | h
              · exact hdis b h hb'
              · have := (hLl b hb').2
                have := T5.size
                have : wr.heap.size ≤ w3.heap.size := Gr.size (w := wr) (w' := w3) (by repeat (with_reducible first | assumption | exact Gr.refl _ | apply Gr.alloc | apply Gr.drewN | apply Gr.drew | apply Gr.iter | (refine Gr.setCell ?_ (by simp) _) | (refine Gr.trans ?_ (by assumption))))
                omega
            · rw [gathP_zero _ (by omega), List.append_nil, ← HG.out, hdr]
              simp only [gathP]
              rw [if_neg (by omega), if_pos (by rw [hM]; omega)]
          case measure => simp [intOf]; omega
        · go_wp2_with (first
            | ((go_at_call 23; obtain ⟨W, hW, B0, hgW⟩ := blkOne wr 46 #[.int .i64 ok, .string ot, .int .i64 va, .int .i64 vb, .string vt, .int .i64 ct, .slice sa sn sc]; rw [hW]; have HW := Lib.hid hW; clear hW; refine (w2_any _ _ _ _ _ _ _ ats _ (RdAttrs.gr (w := wr) hr.rd (by repeat (with_reducible first | assumption | exact Gr.refl _ | apply Gr.alloc | apply Gr.drewN | apply Gr.drew | apply Gr.iter | (refine Gr.setCell ?_ (by simp) _) | (refine Gr.trans ?_ (by assumption))))) s1).mono ?_; rw [HL.out]; rintro e w2 ⟨rfl, hg2⟩; have B2 := B0.gr (w' := w2) (by repeat (with_reducible first | assumption | exact Gr.refl _ | apply Gr.alloc | apply Gr.drewN | apply Gr.drew | apply Gr.iter | (refine Gr.setCell ?_ (by simp) _) | (refine Gr.trans ?_ (by assumption)))); have b2c := B2.cell; have b2f := B2.frozen; have b2z := B2.lt); obtain ⟨v6, w6, r6, o6, k6, n6⟩ := push_opF w2 w.heap.size 22 ⟨ok, ot, ⟨va, vb, vt⟩, ct, ats⟩ (.slice sa sn sc) (OwnOps.gr (w := wr) hO (by repeat (with_reducible first | assumption | exact Gr.refl _ | apply Gr.alloc | apply Gr.drewN | apply Gr.drew | apply Gr.iter | (refine Gr.setCell ?_ (by simp) _) | (refine Gr.trans ?_ (by assumption))))) (OwnA.gr (w := wr) hr (by repeat (with_reducible first | assumption | exact Gr.refl _ | apply Gr.alloc | apply Gr.drewN | apply Gr.drew | apply Gr.iter | (refine Gr.setCell ?_ (by simp) _) | (refine Gr.trans ?_ (by assumption))))) s1 s2 (by rw [List.length_map]; omega) (Gr.size (w := w) (w' := w2) (by repeat (with_reducible first | assumption | exact Gr.refl _ | apply Gr.alloc | apply Gr.drewN | apply Gr.drew | apply Gr.iter | (refine Gr.setCell ?_ (by simp) _) | (refine Gr.trans ?_ (by assumption))))); have HP := Lib.hid (And.intro r6 (And.intro o6 (And.intro k6 n6))); clear r6 o6 k6 n6)
            | (at_builtin; refine wpList_run rfl _ _ _ rfl rfl rfl HP.out.1 ?_))
          go_roundw
          case rel =>
            obtain ⟨-, o6, k6, n6⟩ := HP.out
            obtain ⟨hdr, hpo, hM, hpk⟩ := HS.out
            have T6 : Tn (fun b t => (Value.slice oa om oc).ownBlock = some b ∧ t = some 46) _ _ := Tn.of_kg k6 fun b t hb ht => ⟨hb, by unfold opT at ht; rw [beq_iff_eq.1 ht]⟩
            have g6 := Gr.tn (show Gr w w2 from (by repeat (with_reducible first | assumption | exact Gr.refl _ | apply Gr.alloc | apply Gr.drewN | apply Gr.drew | apply Gr.iter | (refine Gr.setCell ?_ (by simp) _) | (refine Gr.trans ?_ (by assumption))))) T6 (fun b t h => hOf b h.1)
            refine ⟨k + 1, c - M, G ++ [p], by omega, by go_num, rfl, ?_, OwnOps.tn (w := w2) (OwnOps.gr (w := wr) hL (by repeat (with_reducible first | assumption | exact Gr.refl _ | apply Gr.alloc | apply Gr.drewN | apply Gr.drew | apply Gr.iter | (refine Gr.setCell ?_ (by simp) _) | (refine Gr.trans ?_ (by assumption))))) T6 (fun b h => by have := h.2; injection this with this; exact absurd this (by decide)) (fun b hb h => hdis b h.1 hb), ?_, ?_, by rw [List.length_append, List.length_singleton]; omega, by omega, by omega, g6⟩
            · rw [List.map_append, List.map_singleton, hpo]; exact o6
            · intro b hb hb'
              rcases n6 b hb with h | h
              · exact hdis b h hb'
              · have := (hLl b hb').2
                have : wr.heap.size ≤ w2.heap.size := Gr.size (w := wr) (w' := w2) (by repeat (with_reducible first | assumption | exact Gr.refl _ | apply Gr.alloc | apply Gr.drewN | apply Gr.drew | apply Gr.iter | (refine Gr.setCell ?_ (by simp) _) | (refine Gr.trans ?_ (by assumption))))
                omega
            · rw [← HG.out, hdr, List.append_assoc]
              simp only [gathP]
              rw [if_neg (by omega), if_neg (by rw [hM]; omega), hM]
              rfl
          case measure => simp [intOf]; omega
    · obtain rfl : k = n := by omega
      go_wp2
      go_ret
      have e := HG.out
      rw [List.drop_eq_nil_of_le (by omega)] at e
      simp only [gathP, List.append_nil] at e
      rw [← e]
      exact ⟨_, rfl, OwnOps.gr (w := wr) hO (by repeat (with_reducible first | assumption | exact Gr.refl _ | apply Gr.alloc | apply Gr.drewN | apply Gr.drew | apply Gr.iter | (refine Gr.setCell ?_ (by simp) _) | (refine Gr.trans ?_ (by assumption)))), (by repeat (with_reducible first | assumption | exact Gr.refl _ | apply Gr.alloc | apply Gr.drewN | apply Gr.drew | apply Gr.iter | (refine Gr.setCell ?_ (by simp) _) | (refine Gr.trans ?_ (by assumption))))⟩
end Ve
