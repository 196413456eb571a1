import Derived.Test.YtnlpmajiccliiaaGreatDoorR9
import Derived.Test.YtnlpmajiccliiaaGreatDoorL0
set_option linter.all false
/- Walks of the reference of layer 6: Canonical. -/
namespace Ve
open Go Go.RowKit Go.Proofs

/-- The cells of operation number i of a row of the call's own. -/
theorem OwnR.at_ {base : Nat} {w0 w : World} {a : Option Addr} {n cap : Nat} {l : List Op} (h : OwnR base w0 w (.slice a n cap) l) (hb : n ≤ 1099511627776) (i : Nat) (hi : i < n) :
    ∃ b off k t va vb vt c ats sl, l[i]? = some ⟨k, t, ⟨va, vb, vt⟩, c, ats⟩ ∧ a = some ⟨b, off, none⟩ ∧ RdAttrs w0 sl ats ∧ w.cell? ⟨b, off + i * 7, none⟩ = some (.int .i64 k) ∧ w.cell? ⟨b, off + i * 7 + 1, none⟩ = some (.string t) ∧
      w.cell? ⟨b, off + i * 7 + 2, none⟩ = some (.int .i64 va) ∧ w.cell? ⟨b, off + i * 7 + 3, none⟩ = some (.int .i64 vb) ∧ w.cell? ⟨b, off + i * 7 + 4, none⟩ = some (.string vt) ∧
      w.cell? ⟨b, off + i * 7 + 5, none⟩ = some (.int .i64 c) ∧ w.cell? ⟨b, off + i * 7 + 6, none⟩ = some sl ∧ szS t ∧ szS vt := by
  have hlen : l.length = n := by
    obtain ⟨a', n', cap', e, -, -, hn⟩ := h.sl
    injection e with _ e _
    rw [e]; exact hn.out
  obtain ⟨b, off, ⟨k, t, ⟨va, vb, vt⟩, c, ats⟩, cs, e, hx, ⟨sl, rfl, hr, s1, s2⟩, _, hc⟩ := RdList.get (OwnL.rd h (by omega)) i hi
  exact ⟨b, off, k, t, va, vb, vt, c, ats, sl, hx, e, hr, hc 0 _ (by omega) rfl, hc 1 _ (by omega) rfl, hc 2 _ (by omega) rfl, hc 3 _ (by omega) rfl, hc 4 _ (by omega) rfl, hc 5 _ (by omega) rfl, hc 6 _ (by omega) rfl, s1, s2⟩
theorem OwnR.pop {base : Nat} {w0 w : World} {n cap g : Nat} {m : List Op} {q : Op} (h : OwnR base w0 w (.slice (some ⟨g, 0, none⟩) (n + 1) cap) (m ++ [q])) (hm : m.length = n) : OwnR base w0 w (.slice (some ⟨g, 0, none⟩) n cap) m := by
  obtain ⟨xs, ho, hr⟩ := h
  have : ∃ ys zs, xs = ys ++ zs ∧ RowsR (OpC w0) 7 w m ys := by
    clear ho hm
    induction m generalizing xs with
    | nil => exact ⟨[], xs, rfl, rfl⟩
    | cons y m ih =>
      obtain ⟨cs, rest, rfl, hk, hy, hr⟩ := hr
      obtain ⟨ys, zs, rfl, hr'⟩ := ih _ hr
      exact ⟨cs ++ ys, zs, by simp, cs, ys, rfl, hk, hy, hr'⟩
  obtain ⟨ys, zs, rfl, hr'⟩ := this
  have hy := hr'.len
  rw [List.length_append, List.length_singleton, hm] at ho
  refine ⟨ys, ?_, hr'⟩
  rw [hm]
  exact ownsRow_pop (by rw [hy, hm]) ho
/-- What holds between two rounds of Canonical. -/
structure CanI (l : List Op) (k : Nat) (O G : List Op) (gone : Int) : Prop where
  os : opsum O + opsum G ≤ opsum (l.take k)
  cs : csum O + csum G + gone ≤ csum (l.take k)
  on : ∀ q ∈ O, 0 ≤ q.count
  gn : ∀ q ∈ G, 0 ≤ q.count
  g0 : 0 ≤ gone
  ol : O.length + G.length ≤ 2 * k
theorem CanI.new (l : List Op) : CanI l 0 [] [] 0 := ⟨by simp [opsum], by simp [csum], by simp, by simp, by omega, by simp⟩
theorem csum_take {l : List Op} {k : Nat} {o : Op} (h : l[k]? = some o) : csum (l.take (k + 1)) = csum (l.take k) + o.count := by
  obtain ⟨hl, rfl⟩ := List.getElem?_eq_some_iff.1 h
  rw [List.take_succ_eq_append_getElem hl, csum_app, csum_one]
theorem fold_push06 (G : List Op) : ∀ (O : List Op), (∀ q ∈ O, 0 ≤ q.count) → (∀ q ∈ G, 0 ≤ q.count) →
    opsum (G.foldl push06 O) = opsum O + opsum G ∧ csum (G.foldl push06 O) = csum O + csum G ∧ (G.foldl push06 O).length ≤ O.length + G.length ∧ ∀ q ∈ G.foldl push06 O, 0 ≤ q.count := by
  induction G with
  | nil => intro O hO _; exact ⟨by simp [opsum], by simp [csum], by simp, hO⟩
  | cons x G ih =>
    intro O hO hG
    obtain ⟨f1, f2, f3, f4⟩ := push06_facts O x
    obtain ⟨i1, i2, i3, i4⟩ := ih (push06 O x) (f4 hO (hG x (by simp))) (fun q hq => hG q (by simp [hq]))
    have e1 : opsum (x :: G) = x.text.size + opsum G := by simp [opsum]
    have e2 : csum (x :: G) = x.count + csum G := by simp [csum]
    rw [List.foldl_cons]
    exact ⟨by omega, by omega, by rw [List.length_cons]; omega, i4⟩
theorem take_le_sums {G : List Op} (h : ∀ q ∈ G, 0 ≤ q.count) {j : Nat} {o : Op} (hx : G[j]? = some o) : opsum (G.take j) + o.text.size ≤ opsum G ∧ csum (G.take j) + o.count ≤ csum G := by
  have e1 := opsum_take hx
  have e2 := csum_take hx
  have e3 := opsum_take_le G (j + 1)
  have e4 : csum G = csum (G.take (j + 1)) + csum (G.drop (j + 1)) := by rw [← csum_app, List.take_append_drop]
  have e5 := csum_nn (l := G.drop (j + 1)) fun q hq => h q (List.mem_of_mem_drop hq)
  omega

set_option maxRecDepth 20000 in
set_option maxHeartbeats 16000000 in
theorem rcanon06_any (l : List Op) (v : Value) (w : World) (hl : RdOps w v l) (hok : ∀ o ∈ l, checkOp o = 0) (hcn : ∀ o ∈ l, 0 ≤ o.count) (hT : opsum l ≤ 1099511627776) (hC : csum l ≤ 4611686018427387000) (hN : 2 * l.length + 4 ≤ 1099511627776) :
    Calls Tryz.prog 107 #[v] w fun e w' => ∃ v', e = .returned v' ∧ OwnR w.heap.size w w' v' (canon06 l) ∧ Gr w w' := by
  obtain ⟨a, n, cap, rfl, -, -, hb, hn⟩ := hl.sl
  obtain ⟨C, hCC⟩ : ∃ C, canonFrom [] [] 0 l = C := ⟨_, rfl⟩
  have HC0 := Lib.hid hCC; clear hCC
  have HN := Lib.hid hN
  have hn2 : 2 * n + 4 ≤ 1099511627776 := by rw [← hn.out]; exact hN
  have HT := Lib.hid (And.intro hT hC); clear hT hC hN
  go_enter Tryz.func107, Tryz.ntmps107
  go_wp2
  go_loopw [3, 4, 5, 6] (fun ov gv gn i wr => ∃ (k : Nat) (O G : List Op) (gone : Int), k ≤ n + 1 ∧ i = .int .i64 k ∧ gn = .int .i64 gone ∧ OwnR w.heap.size w wr ov O ∧ OwnR w.heap.size w wr gv G ∧ (∀ b, ov.ownBlock = some b → gv.ownBlock ≠ some b) ∧ Gr w wr ∧
    ((k ≤ n ∧ CanI l k O G gone ∧ canonFrom O G gone (l.drop k) = C) ∨ (k = n + 1 ∧ O = C ∧ O.length ≤ 2 * n + 2))) (fun _ _ _ i _ => n + 1 - (intOf i).toNat)
  case atStart =>
    refine ⟨0, [], [], 0, by omega, rfl, rfl, ?_, ?_, ?_, (by repeat (with_reducible first | assumption | exact Gr.refl _ | apply Gr.alloc | apply Gr.drewN | apply Gr.drew | apply Gr.iter | (refine Gr.setCell ?_ (by simp) _) | (refine Gr.trans ?_ (by assumption)))), .inl ⟨Nat.zero_le _, CanI.new l, HC0.out⟩⟩
    · exact OwnR.gr (OwnL.made w (OpC w) 7 w.heap.size 65 (Nat.le_refl _)) ((Gr.refl _).alloc _)
    · have h := OwnL.made (w.alloc (.cells #[] 65)) (OpC w) 7 w.heap.size 65 (by simp)
      rw [World.size_alloc] at h
      exact h
    · intro b hb hb'
      simp only [Value.ownBlock, Option.some.injEq] at hb hb'
      omega
  case round =>
    obtain ⟨k, O, G, gone, hk, rfl, rfl, hO, hG, hdis, hg, hcase⟩ := hrel
    obtain ⟨oa, on, oc, rfl, hoc1, hoc2, hon⟩ := hO.sl
    obtain ⟨ga, gn, gc, rfl, hgc1, hgc2, hgn⟩ := hG.sl
    rcases hcase with ⟨hkn, hI, hCn⟩ | ⟨rfl, hOC, hol⟩
    · have hI1 := hI.ol
      by_cases hlt : k < n
      · obtain ⟨b, off, xk, xt, xa, xb, xv, xc, ats, sl, hx, rfl, hr, e0, e1, e2, e3, e4, e5, e6, s1, s2⟩ := hl.at_ k hlt
        have hck := hok _ (List.mem_of_getElem? hx)
        have hxc := hcn _ (List.mem_of_getElem? hx)
        have hkind := ok_kind hck
        simp only at hkind hxc
        have c0 := hg.cell e0; have c1 := hg.cell e1; have c2 := hg.cell e2; have c3 := hg.cell e3; have c4 := hg.cell e4; have c5 := hg.cell e5; have c6 := hg.cell e6
        have hlt' : (k : Int) < n := by omega
        obtain ⟨sa, sn, sc, rfl, -⟩ := hr.sl
        rw [drop_cons hx] at hCn
        simp only [canonFrom] at hCn
        have hot := opsum_take hx
        have hct := csum_take hx
        simp only at hot hct
        have hTk := opsum_take_le l (k + 1)
        rcases hkind with rfl | rfl | rfl | rfl
        · rw [if_pos (by simp [isIns])] at hCn
          have HI := Lib.hid hI; clear hI
          have HCn := Lib.hid hCn; clear hCn
          go_wp2_with (first
            | (go_at_call 134; refine (insert06_any 1 xt xa xb xv xc _ ats _ (RdAttrs.gr hr (by repeat (with_reducible first | assumption | exact Gr.refl _ | apply Gr.alloc | apply Gr.drewN | apply Gr.drew | apply Gr.iter | (refine Gr.setCell ?_ (by simp) _) | (refine Gr.trans ?_ (by assumption)))))).mono ?_; rw [show isIns ⟨1, xt, ⟨xa, xb, xv⟩, xc, ats⟩ = true from rfl]; rintro e w2 ⟨rfl, hg2⟩; have d0 := hg2.cell c0; have d1 := hg2.cell c1; have d2 := hg2.cell c2; have d3 := hg2.cell c3; have d4 := hg2.cell c4; have d5 := hg2.cell c5; have d6 := hg2.cell c6; obtain ⟨v', w', hrun, hown, hkg, hv'⟩ := push_opR w2 w.heap.size w 22 ⟨1, xt, ⟨xa, xb, xv⟩, xc, ats⟩ _ (OwnR.gr hG hg2) hr s1 s2 (by have := hgn.out; omega) (Nat.le_trans hg.size hg2.size); have HP := Lib.hid (And.intro hrun (And.intro hown (And.intro hkg hv'))); clear hrun hown hkg hv')
            | (at_builtin; refine wpList_run rfl _ _ _ rfl rfl rfl HP.out.1 ?_))
          go_roundw
          case rel =>
            obtain ⟨-, h2, h3, h4⟩ := HP.out
            have hI := HI.out
            have hlg := OwnL.lt_ (OwnR.gr hG hg2)
            have hlo := OwnL.lt_ (OwnR.gr hO hg2)
            refine ⟨k + 1, O, G ++ [⟨1, xt, ⟨xa, xb, xv⟩, xc, ats⟩], gone, by omega, by go_num, rfl, (OwnR.gr hO hg2).kgs h3 (fun b hb hs => hdis b hb hs), h2, ?_, Gr.kgs (hg.trans hg2) h3 (fun b hb => (hlg b hb).1), .inl ⟨by omega, ⟨?_, ?_, hI.on, ?_, hI.g0, ?_⟩, HCn.out⟩⟩
            · intro b hb hb'
              rcases h4 b hb' with h | h
              · exact hdis b hb h
              · have := (hlo b hb).2; omega
            · have := hI.os; rw [opsum_app, opsum_one]; simp only; omega
            · have := hI.cs; rw [csum_app, csum_one]; simp only; omega
            · intro q hq
              rcases List.mem_append.1 hq with hq | hq
              · exact hI.gn q hq
              · rw [List.mem_singleton.1 hq]; exact hxc
            · have := hI.ol; rw [List.length_append, List.length_singleton]; omega
          case measure => simp [intOf]; omega
        · rw [if_pos (by simp [isIns])] at hCn
          have HI := Lib.hid hI; clear hI
          have HCn := Lib.hid hCn; clear hCn
          go_wp2_with (first
            | (go_at_call 134; refine (insert06_any 2 xt xa xb xv xc _ ats _ (RdAttrs.gr hr (by repeat (with_reducible first | assumption | exact Gr.refl _ | apply Gr.alloc | apply Gr.drewN | apply Gr.drew | apply Gr.iter | (refine Gr.setCell ?_ (by simp) _) | (refine Gr.trans ?_ (by assumption)))))).mono ?_; rw [show isIns ⟨2, xt, ⟨xa, xb, xv⟩, xc, ats⟩ = true from rfl]; rintro e w2 ⟨rfl, hg2⟩; have d0 := hg2.cell c0; have d1 := hg2.cell c1; have d2 := hg2.cell c2; have d3 := hg2.cell c3; have d4 := hg2.cell c4; have d5 := hg2.cell c5; have d6 := hg2.cell c6; obtain ⟨v', w', hrun, hown, hkg, hv'⟩ := push_opR w2 w.heap.size w 22 ⟨2, xt, ⟨xa, xb, xv⟩, xc, ats⟩ _ (OwnR.gr hG hg2) hr s1 s2 (by have := hgn.out; omega) (Nat.le_trans hg.size hg2.size); have HP := Lib.hid (And.intro hrun (And.intro hown (And.intro hkg hv'))); clear hrun hown hkg hv')
            | (at_builtin; refine wpList_run rfl _ _ _ rfl rfl rfl HP.out.1 ?_))
          go_roundw
          case rel =>
            obtain ⟨-, h2, h3, h4⟩ := HP.out
            have hI := HI.out
            have hlg := OwnL.lt_ (OwnR.gr hG hg2)
            have hlo := OwnL.lt_ (OwnR.gr hO hg2)
            refine ⟨k + 1, O, G ++ [⟨2, xt, ⟨xa, xb, xv⟩, xc, ats⟩], gone, by omega, by go_num, rfl, (OwnR.gr hO hg2).kgs h3 (fun b hb hs => hdis b hb hs), h2, ?_, Gr.kgs (hg.trans hg2) h3 (fun b hb => (hlg b hb).1), .inl ⟨by omega, ⟨?_, ?_, hI.on, ?_, hI.g0, ?_⟩, HCn.out⟩⟩
            · intro b hb hb'
              rcases h4 b hb' with h | h
              · exact hdis b hb h
              · have := (hlo b hb).2; omega
            · have := hI.os; rw [opsum_app, opsum_one]; simp only; omega
            · have := hI.cs; rw [csum_app, csum_one]; simp only; omega
            · intro q hq
              rcases List.mem_append.1 hq with hq | hq
              · exact hI.gn q hq
              · rw [List.mem_singleton.1 hq]; exact hxc
            · have := hI.ol; rw [List.length_append, List.length_singleton]; omega
          case measure => simp [intOf]; omega
        · rw [if_neg (by simp [isIns]), if_neg (show ¬ ((3 : Int) = 4) by omega)] at hCn
          have HI := Lib.hid hI; clear hI
          have HCn := Lib.hid hCn; clear hCn
          have hgn40 : gn ≤ 1099511627776 := by have := hgn.out; omega
          have hTk0 := opsum_take_le l k
          have hCk1 : csum (l.take (k + 1)) ≤ csum l := by
            have e4 : csum l = csum (l.take (k + 1)) + csum (l.drop (k + 1)) := by rw [← csum_app, List.take_append_drop]
            have := csum_nn (l := l.drop (k + 1)) fun q hq => hcn q (List.mem_of_mem_drop hq)
            omega
          have hCk0 : csum (l.take k) ≤ csum l := by omega
          obtain ⟨wo, rfl⟩ : ∃ wo : World, wo = wr := ⟨_, rfl⟩
          go_wp2_with (go_at_call 134; refine (insert06_any 3 xt xa xb xv xc _ ats _ (RdAttrs.gr hr (by repeat (with_reducible first | assumption | exact Gr.refl _ | apply Gr.alloc | apply Gr.drewN | apply Gr.drew | apply Gr.iter | (refine Gr.setCell ?_ (by simp) _) | (refine Gr.trans ?_ (by assumption)))))).mono ?_; rw [show isIns ⟨3, xt, ⟨xa, xb, xv⟩, xc, ats⟩ = false from rfl]; rintro e w2 ⟨rfl, hg2⟩; have d0 := hg2.cell c0; have d1 := hg2.cell c1; have d2 := hg2.cell c2; have d3 := hg2.cell c3; have d4 := hg2.cell c4; have d5 := hg2.cell c5; have d6 := hg2.cell c6; skip)
          go_loopw [3, 56] (fun ov idx wi => ∃ (j : Nat), j ≤ gn ∧ idx = .int .i64 j ∧ OwnR w.heap.size w wi ov ((G.take j).foldl push06 O) ∧ OwnR w.heap.size w wi (.slice ga gn gc) G ∧ (∀ b, ov.ownBlock = some b → (Value.slice ga gn gc).ownBlock ≠ some b) ∧ Gr w wi) (fun _ idx _ => gn - (intOf idx).toNat)
          case atStart => exact ⟨0, Nat.zero_le _, rfl, OwnR.gr hO hg2, OwnR.gr hG hg2, hdis, hg.trans hg2⟩
          case round =>
            obtain ⟨j, hj, rfl, hO2, hG2, hd2, hg3⟩ := hrel
            obtain ⟨o2a, o2n, o2c, rfl, -⟩ := hO2.sl
            by_cases hjl : j < gn
            · have hjl' : (j : Int) < gn := by omega
              obtain ⟨b2, off2, yk, yt, ya, yb, yv, yc, ats2, sl2, hy, hge, hr2, f0, f1, f2, f3, f4, f5, f6, t1, t2⟩ := OwnR.at_ hG2 hgn40 j hjl
              subst hge
              obtain ⟨sa2, sn2, sc2, rfl, -⟩ := hr2.sl
              obtain ⟨p1, p2, p3, p4⟩ := fold_push06 (G.take j) O HI.out.on (fun q hq => HI.out.gn q (List.mem_of_mem_take hq))
              obtain ⟨q1, q2⟩ := take_le_sums HI.out.gn hy
              have hy0 := HI.out.gn _ (List.mem_of_getElem? hy)
              simp only at q1 q2 hy0
              have q3 := HI.out.os
              have q4 := HI.out.cs
              have q5 := HI.out.ol
              have q6 := HI.out.g0
              have q7 := hTk0
              have q8 := hCk0
              have q9 := HT.out
              have htl := List.length_take_le j G
              have hgl := hgn.out
              have hm5 : ((G.take j).foldl push06 O).length + 1 ≤ 1099511627776 := by omega
              have hz5 : opsum ((G.take j).foldl push06 O) + yt.size ≤ 1099511627776 := by omega
              have hc5 : csum ((G.take j).foldl push06 O) + yc ≤ 4611686018427387904 := by omega
              have hst : (G.take (j + 1)).foldl push06 O = push06 ((G.take j).foldl push06 O) ⟨yk, yt, ⟨ya, yb, yv⟩, yc, ats2⟩ := by
                obtain ⟨h1, h2⟩ := List.getElem?_eq_some_iff.1 hy
                rw [List.take_succ_eq_append_getElem h1, List.foldl_append, h2]; rfl
              have HS := Lib.hid (And.intro hst (And.intro hm5 (And.intro hz5 (And.intro hc5 (And.intro p4 hy0))))); clear hst hm5 hz5 hc5 p1 p2 p3 p4 q1 q2 q3 q4 q5 q7 q8 q9 hy hy0 htl
              go_wp2_with (go_at_call 141; refine (push06_any w.heap.size w ((G.take j).foldl push06 O) _ yk yt ya yb yv yc _ ats2 _ (by repeat (with_reducible first | assumption | exact Gr.refl _ | apply Gr.alloc | apply Gr.drewN | apply Gr.drew | apply Gr.iter | (refine Gr.setCell ?_ (by simp) _) | (refine Gr.trans ?_ (by assumption)))) (OwnR.gr (w := wr) hO2 (by repeat (with_reducible first | assumption | exact Gr.refl _ | apply Gr.alloc | apply Gr.drewN | apply Gr.drew | apply Gr.iter | (refine Gr.setCell ?_ (by simp) _) | (refine Gr.trans ?_ (by assumption))))) hr2 t1 t2 (Gr.size (w := w) (by repeat (with_reducible first | assumption | exact Gr.refl _ | apply Gr.alloc | apply Gr.drewN | apply Gr.drew | apply Gr.iter | (refine Gr.setCell ?_ (by simp) _) | (refine Gr.trans ?_ (by assumption))))) (Nat.le_refl _) HS.out.2.1 HS.out.2.2.1 HS.out.2.2.2.2.1 HS.out.2.2.2.2.2 HS.out.2.2.2.1).mono ?_; rintro e w5 ⟨v5, rfl, hO5, hk5, hr5⟩; obtain ⟨a5, n5, c5, rfl, -⟩ := hO5.sl)
              go_roundw
              case rel =>
                have hlo := OwnL.lt_ hO2
                have hlg := OwnL.lt_ hG2
                refine ⟨j + 1, by omega, by go_num, by rw [HS.out.1]; exact hO5, OwnR.kgs (OwnR.gr (w := wr) hG2 ((Gr.refl wr).alloc _)) hk5 (fun b hb hs => hd2 b hs hb), fun b hb hb' => ?_, Gr.kgs (hg3.alloc _) hk5 (fun b hb => (hlo b hb).1)⟩
                rcases hr5 b hb with h | h
                · exact hd2 b h hb'
                · have := (hlg b hb').2; rw [World.size_alloc] at h; omega
              case measure => first | (simp [intOf]; done) | (simp [intOf]; omega)
            · obtain rfl : j = gn := by omega
              have hGt : G.take j = G := List.take_of_length_le (by rw [hgn.out]; exact Nat.le_refl _)
              rw [hGt] at hO2
              obtain ⟨p1, p2, p3, p4⟩ := fold_push06 G O HI.out.on HI.out.gn
              obtain ⟨F, hF⟩ : ∃ F, G.foldl push06 O = F := ⟨_, rfl⟩
              rw [hF] at hO2 p1 p2 p3 p4
              have q3 := HI.out.os
              have q4 := HI.out.cs
              have q5 := HI.out.ol
              have q6 := HI.out.g0
              have q9 := HT.out
              have hlo := OwnL.lt_ hO2
              have hm5 : F.length + 1 ≤ 1099511627776 := by omega
              have hz5 : opsum F + (⟨#[]⟩ : ByteArray).size ≤ 1099511627776 := by rw [show (⟨#[]⟩ : ByteArray).size = 0 from rfl]; omega
              have hc5 : csum F + gone ≤ 4611686018427387904 := by omega
              have hr1 : F.length ≤ 2 * k := by omega
              by_cases hgp : 0 < gone
              · have hfl : flush06 O G gone = push06 F (delO gone) := by unfold flush06; rw [if_pos hgp, hF]
                obtain ⟨r1, r2, r3, r4⟩ := push06_facts F (delO gone)
                have r4 := r4 p4 (show 0 ≤ gone by omega)
                rw [← hfl] at r1 r2 r3 r4
                rw [show (delO gone).text.size = 0 from rfl] at r1
                rw [show (delO gone).count = gone from rfl] at r2
                have HS := Lib.hid (And.intro hm5 (And.intro hz5 (And.intro p4 hc5))); clear hm5 hz5 p4 hc5
                have HF := Lib.hid hfl; clear hfl hF hGt
                obtain ⟨z1, z2, z3, z4⟩ := push06_facts (flush06 O G gone) ⟨3, xt, ⟨xa, xb, xv⟩, xc, ats⟩
                have z4 := z4 r4 hxc
                simp only at z1 z2
                have hm7 : (flush06 O G gone).length + 1 ≤ 1099511627776 := by omega
                have hz7 : opsum (flush06 O G gone) + xt.size ≤ 1099511627776 := by omega
                have hc7 : csum (flush06 O G gone) + xc ≤ 4611686018427387904 := by omega
                have HZ := Lib.hid (And.intro hm7 (And.intro hz7 (And.intro r4 (And.intro hc7 z4)))); clear hm7 hz7 r4 hc7 z4
                go_wp2_with (first
                  | (go_at_call 141; (with_reducible refine (push06_any w.heap.size w F _ 4 ⟨#[]⟩ 0 0 ⟨#[]⟩ gone _ [] _ (by repeat (with_reducible first | assumption | exact Gr.refl _ | apply Gr.alloc | apply Gr.drewN | apply Gr.drew | apply Gr.iter | (refine Gr.setCell ?_ (by simp) _) | (refine Gr.trans ?_ (by assumption)))) (OwnR.gr (w := wr) hO2 (by repeat (with_reducible first | assumption | exact Gr.refl _ | apply Gr.alloc | apply Gr.drewN | apply Gr.drew | apply Gr.iter | (refine Gr.setCell ?_ (by simp) _) | (refine Gr.trans ?_ (by assumption))))) (RdList.nil ..) (by simp only [szS]; decide) (by simp only [szS]; decide) (Gr.size (w := w) (by repeat (with_reducible first | assumption | exact Gr.refl _ | apply Gr.alloc | apply Gr.drewN | apply Gr.drew | apply Gr.iter | (refine Gr.setCell ?_ (by simp) _) | (refine Gr.trans ?_ (by assumption))))) (Nat.le_refl _) HS.out.1 HS.out.2.1 HS.out.2.2.1 (by omega) HS.out.2.2.2).mono ?_); rw [show (⟨4, ⟨#[]⟩, ⟨0, 0, ⟨#[]⟩⟩, gone, []⟩ : Op) = delO gone from rfl, ← HF.out]; rintro e w6 ⟨v6, rfl, hO6, hk6, hr6⟩; obtain ⟨a6, n6, c6', rfl, -⟩ := hO6.sl; have hg6 : Gr w w6 := Gr.kgs (by repeat (with_reducible first | assumption | exact Gr.refl _ | apply Gr.alloc | apply Gr.drewN | apply Gr.drew | apply Gr.iter | (refine Gr.setCell ?_ (by simp) _) | (refine Gr.trans ?_ (by assumption)))) hk6 (fun b hb => (hlo b hb).1); have x0 := hg6.cell e0; have x1 := hg6.cell e1; have x2 := hg6.cell e2; have x3 := hg6.cell e3; have x4 := hg6.cell e4; have x5 := hg6.cell e5; have x6 := hg6.cell e6)
                  | (go_at_call 141; (with_reducible refine (push06_any w.heap.size w (flush06 O G gone) _ 3 xt xa xb xv xc _ ats _ (by repeat (with_reducible first | assumption | exact Gr.refl _ | apply Gr.alloc | apply Gr.drewN | apply Gr.drew | apply Gr.iter | (refine Gr.setCell ?_ (by simp) _) | (refine Gr.trans ?_ (by assumption)))) (OwnR.gr (w := w6) hO6 (by repeat (with_reducible first | assumption | exact Gr.refl _ | apply Gr.alloc | apply Gr.drewN | apply Gr.drew | apply Gr.iter | (refine Gr.setCell ?_ (by simp) _) | (refine Gr.trans ?_ (by assumption))))) hr s1 s2 (Gr.size (w := w) (by repeat (with_reducible first | assumption | exact Gr.refl _ | apply Gr.alloc | apply Gr.drewN | apply Gr.drew | apply Gr.iter | (refine Gr.setCell ?_ (by simp) _) | (refine Gr.trans ?_ (by assumption))))) (Nat.le_refl _) HZ.out.1 HZ.out.2.1 HZ.out.2.2.1 hxc HZ.out.2.2.2.1).mono ?_); rintro e w7 ⟨v7, rfl, hO7, hk7, hr7⟩; obtain ⟨a7, n7, c7, rfl, -⟩ := hO7.sl))
                go_roundw
                case rel =>
                  have hl6 := OwnL.lt_ hO6
                  exact ⟨k + 1, _, [], 0, by omega, by go_num, rfl, hO7, OwnL.nil .., by simp [Value.ownBlock], Gr.kgs hg6 hk7 (fun b hb => (hl6 b hb).1), .inl ⟨by omega, ⟨by rw [z1]; simp only [opsum, List.map_nil, List.sum_nil] at *; omega, by rw [z2]; simp only [csum, List.map_nil, List.sum_nil] at *; omega, HZ.out.2.2.2.2, by simp, by omega, by simp only [List.length_nil]; omega⟩, HCn.out⟩⟩
                case measure => first | (simp [intOf]; done) | (simp [intOf]; omega)
              · have hfl : flush06 O G gone = F := by unfold flush06; rw [if_neg hgp, hF]
                rw [hfl] at HCn
                obtain ⟨z1, z2, z3, z4⟩ := push06_facts F ⟨3, xt, ⟨xa, xb, xv⟩, xc, ats⟩
                have z4 := z4 p4 hxc
                simp only at z1 z2
                have hz7 : opsum F + xt.size ≤ 1099511627776 := by omega
                have hc7 : csum F + xc ≤ 4611686018427387904 := by omega
                have HZ := Lib.hid (And.intro hm5 (And.intro hz7 (And.intro p4 (And.intro hc7 z4)))); clear hm5 hz7 p4 hc7 z4 hfl hF hGt hz5 hc5
                have x0 := hg3.cell e0; have x1 := hg3.cell e1; have x2 := hg3.cell e2; have x3 := hg3.cell e3; have x4 := hg3.cell e4; have x5 := hg3.cell e5; have x6 := hg3.cell e6
                go_wp2_with (go_at_call 141; (with_reducible refine (push06_any w.heap.size w (F) _ 3 xt xa xb xv xc _ ats _ (by repeat (with_reducible first | assumption | exact Gr.refl _ | apply Gr.alloc | apply Gr.drewN | apply Gr.drew | apply Gr.iter | (refine Gr.setCell ?_ (by simp) _) | (refine Gr.trans ?_ (by assumption)))) (OwnR.gr (w := wr) hO2 (by repeat (with_reducible first | assumption | exact Gr.refl _ | apply Gr.alloc | apply Gr.drewN | apply Gr.drew | apply Gr.iter | (refine Gr.setCell ?_ (by simp) _) | (refine Gr.trans ?_ (by assumption))))) hr s1 s2 (Gr.size (w := w) (by repeat (with_reducible first | assumption | exact Gr.refl _ | apply Gr.alloc | apply Gr.drewN | apply Gr.drew | apply Gr.iter | (refine Gr.setCell ?_ (by simp) _) | (refine Gr.trans ?_ (by assumption))))) (Nat.le_refl _) HZ.out.1 HZ.out.2.1 HZ.out.2.2.1 hxc HZ.out.2.2.2.1).mono ?_); rintro e w7 ⟨v7, rfl, hO7, hk7, hr7⟩; obtain ⟨a7, n7, c7, rfl, -⟩ := hO7.sl)
                go_roundw
                case rel => exact ⟨k + 1, _, [], 0, by omega, by go_num, rfl, hO7, OwnL.nil .., by simp [Value.ownBlock], Gr.kgs hg3 hk7 (fun b hb => (hlo b hb).1), .inl ⟨by omega, ⟨by rw [z1]; simp only [opsum, List.map_nil, List.sum_nil] at *; omega, by rw [z2]; simp only [csum, List.map_nil, List.sum_nil] at *; omega, HZ.out.2.2.2.2, by simp, by omega, by simp only [List.length_nil]; omega⟩, HCn.out⟩⟩
                case measure => first | (simp [intOf]; done) | (simp [intOf]; omega)
        · rw [if_neg (by simp [isIns]), if_pos rfl] at hCn
          have HI := Lib.hid hI; clear hI
          have HCn := Lib.hid hCn; clear hCn
          have hcb : csum (l.take k) ≤ csum l := by
            have e4 : csum l = csum (l.take k) + csum (l.drop k) := by rw [← csum_app, List.take_append_drop]
            have := csum_nn (l := l.drop k) fun q hq => hcn q (List.mem_of_mem_drop hq)
            omega
          have hgb : gone + xc ≤ 4611686018427387904 := by
            have h1 := HI.out.cs
            have h2 := csum_nn HI.out.on
            have h3 := csum_nn HI.out.gn
            have h4 := HT.out.2
            have e4 : csum l = csum (l.take (k + 1)) + csum (l.drop (k + 1)) := by rw [← csum_app, List.take_append_drop]
            have := csum_nn (l := l.drop (k + 1)) fun q hq => hcn q (List.mem_of_mem_drop hq)
            omega
          have hg0 : 0 ≤ gone := HI.out.g0
          go_wp2_with (go_at_call 134; refine (insert06_any 4 xt xa xb xv xc _ ats _ (RdAttrs.gr hr (by repeat (with_reducible first | assumption | exact Gr.refl _ | apply Gr.alloc | apply Gr.drewN | apply Gr.drew | apply Gr.iter | (refine Gr.setCell ?_ (by simp) _) | (refine Gr.trans ?_ (by assumption)))))).mono ?_; rw [show isIns ⟨4, xt, ⟨xa, xb, xv⟩, xc, ats⟩ = false from rfl]; rintro e w2 ⟨rfl, hg2⟩; have d0 := hg2.cell c0; have d1 := hg2.cell c1; have d2 := hg2.cell c2; have d3 := hg2.cell c3; have d4 := hg2.cell c4; have d5 := hg2.cell c5; have d6 := hg2.cell c6; skip)
          go_roundw
          case rel =>
            have hI := HI.out
            refine ⟨k + 1, O, G, gone + xc, by omega, by go_num, by go_num, OwnR.gr hO hg2, OwnR.gr hG hg2, hdis, hg.trans hg2, .inl ⟨by omega, ⟨?_, ?_, hI.on, hI.gn, by omega, ?_⟩, HCn.out⟩⟩
            · have := hI.os; omega
            · have := hI.cs; omega
            · have := hI.ol; omega
          case measure => simp [intOf]; omega
      · obtain rfl : k = n := by omega
        have hl0 : l.drop k = [] := List.drop_eq_nil_of_le (by rw [hn.out]; exact Nat.le_refl _)
        rw [hl0] at hCn
        simp only [canonFrom] at hCn
        have HI := Lib.hid hI; clear hI
        have hgn40 : gn ≤ 1099511627776 := by have := hgn.out; omega
        have hTk0 := opsum_take_le l k
        have hCk0 : csum (l.take k) ≤ csum l := by
          have e4 : csum l = csum (l.take k) + csum (l.drop k) := by rw [← csum_app, List.take_append_drop]
          have := csum_nn (l := l.drop k) fun q hq => hcn q (List.mem_of_mem_drop hq)
          omega
        obtain ⟨wo, rfl⟩ : ∃ wo : World, wo = wr := ⟨_, rfl⟩
        go_wp2
        go_loopw [3, 56] (fun ov idx wi => ∃ (j : Nat), j ≤ gn ∧ idx = .int .i64 j ∧ OwnR w.heap.size w wi ov ((G.take j).foldl push06 O) ∧ OwnR w.heap.size w wi (.slice ga gn gc) G ∧ (∀ b, ov.ownBlock = some b → (Value.slice ga gn gc).ownBlock ≠ some b) ∧ Gr w wi) (fun _ idx _ => gn - (intOf idx).toNat)
        case atStart => exact ⟨0, Nat.zero_le _, rfl, OwnR.gr hO (Gr.refl _), OwnR.gr hG (Gr.refl _), hdis, hg.trans (Gr.refl _)⟩
        case round =>
          obtain ⟨j, hj, rfl, hO2, hG2, hd2, hg3⟩ := hrel
          obtain ⟨o2a, o2n, o2c, rfl, -⟩ := hO2.sl
          by_cases hjl : j < gn
          · have hjl' : (j : Int) < gn := by omega
            obtain ⟨b2, off2, yk, yt, ya, yb, yv, yc, ats2, sl2, hy, hge, hr2, f0, f1, f2, f3, f4, f5, f6, t1, t2⟩ := OwnR.at_ hG2 hgn40 j hjl
            subst hge
            obtain ⟨sa2, sn2, sc2, rfl, -⟩ := hr2.sl
            obtain ⟨p1, p2, p3, p4⟩ := fold_push06 (G.take j) O HI.out.on (fun q hq => HI.out.gn q (List.mem_of_mem_take hq))
            obtain ⟨q1, q2⟩ := take_le_sums HI.out.gn hy
            have hy0 := HI.out.gn _ (List.mem_of_getElem? hy)
            simp only at q1 q2 hy0
            have q3 := HI.out.os
            have q4 := HI.out.cs
            have q5 := HI.out.ol
            have q6 := HI.out.g0
            have q7 := hTk0
            have q8 := hCk0
            have q9 := HT.out
            have htl := List.length_take_le j G
            have hgl := hgn.out
            have hm5 : ((G.take j).foldl push06 O).length + 1 ≤ 1099511627776 := by omega
            have hz5 : opsum ((G.take j).foldl push06 O) + yt.size ≤ 1099511627776 := by omega
            have hc5 : csum ((G.take j).foldl push06 O) + yc ≤ 4611686018427387904 := by omega
            have hst : (G.take (j + 1)).foldl push06 O = push06 ((G.take j).foldl push06 O) ⟨yk, yt, ⟨ya, yb, yv⟩, yc, ats2⟩ := by
              obtain ⟨h1, h2⟩ := List.getElem?_eq_some_iff.1 hy
              rw [List.take_succ_eq_append_getElem h1, List.foldl_append, h2]; rfl
            have HS := Lib.hid (And.intro hst (And.intro hm5 (And.intro hz5 (And.intro hc5 (And.intro p4 hy0))))); clear hst hm5 hz5 hc5 p1 p2 p3 p4 q1 q2 q3 q4 q5 q7 q8 q9 hy hy0 htl
            go_wp2_with (go_at_call 141; refine (push06_any w.heap.size w ((G.take j).foldl push06 O) _ yk yt ya yb yv yc _ ats2 _ (by repeat (with_reducible first | assumption | exact Gr.refl _ | apply Gr.alloc | apply Gr.drewN | apply Gr.drew | apply Gr.iter | (refine Gr.setCell ?_ (by simp) _) | (refine Gr.trans ?_ (by assumption)))) (OwnR.gr (w := wr) hO2 (by repeat (with_reducible first | assumption | exact Gr.refl _ | apply Gr.alloc | apply Gr.drewN | apply Gr.drew | apply Gr.iter | (refine Gr.setCell ?_ (by simp) _) | (refine Gr.trans ?_ (by assumption))))) hr2 t1 t2 (Gr.size (w := w) (by repeat (with_reducible first | assumption | exact Gr.refl _ | apply Gr.alloc | apply Gr.drewN | apply Gr.drew | apply Gr.iter | (refine Gr.setCell ?_ (by simp) _) | (refine Gr.trans ?_ (by assumption))))) (Nat.le_refl _) HS.out.2.1 HS.out.2.2.1 HS.out.2.2.2.2.1 HS.out.2.2.2.2.2 HS.out.2.2.2.1).mono ?_; rintro e w5 ⟨v5, rfl, hO5, hk5, hr5⟩; obtain ⟨a5, n5, c5, rfl, -⟩ := hO5.sl)
            go_roundw
            case rel =>
              have hlo := OwnL.lt_ hO2
              have hlg := OwnL.lt_ hG2
              refine ⟨j + 1, by omega, by go_num, by rw [HS.out.1]; exact hO5, OwnR.kgs (OwnR.gr (w := wr) hG2 ((Gr.refl wr).alloc _)) hk5 (fun b hb hs => hd2 b hs hb), fun b hb hb' => ?_, Gr.kgs (hg3.alloc _) hk5 (fun b hb => (hlo b hb).1)⟩
              rcases hr5 b hb with h | h
              · exact hd2 b h hb'
              · have := (hlg b hb').2; rw [World.size_alloc] at h; omega
            case measure => first | (simp [intOf]; done) | (simp [intOf]; omega)
          · obtain rfl : j = gn := by omega
            have hGt : G.take j = G := List.take_of_length_le (by rw [hgn.out]; exact Nat.le_refl _)
            rw [hGt] at hO2
            obtain ⟨p1, p2, p3, p4⟩ := fold_push06 G O HI.out.on HI.out.gn
            obtain ⟨F, hF⟩ : ∃ F, G.foldl push06 O = F := ⟨_, rfl⟩
            rw [hF] at hO2 p1 p2 p3 p4
            have q3 := HI.out.os
            have q4 := HI.out.cs
            have q5 := HI.out.ol
            have q6 := HI.out.g0
            have q9 := HT.out
            have hlo := OwnL.lt_ hO2
            have hm5 : F.length + 1 ≤ 1099511627776 := by omega
            have hz5 : opsum F + (⟨#[]⟩ : ByteArray).size ≤ 1099511627776 := by rw [show (⟨#[]⟩ : ByteArray).size = 0 from rfl]; omega
            have hc5 : csum F + gone ≤ 4611686018427387904 := by omega
            by_cases hgp : 0 < gone
            · have hfl : flush06 O G gone = push06 F (delO gone) := by unfold flush06; rw [if_pos hgp, hF]
              obtain ⟨r1, r2, r3, r4⟩ := push06_facts F (delO gone)
              have r4 := r4 p4 (show 0 ≤ gone by omega)
              rw [← hfl] at r1 r2 r3 r4
              rw [show (delO gone).text.size = 0 from rfl] at r1
              rw [show (delO gone).count = gone from rfl] at r2
              have HS := Lib.hid (And.intro hm5 (And.intro hz5 (And.intro p4 hc5))); clear hm5 hz5 p4 hc5
              have HF := Lib.hid hfl; clear hfl hF hGt
              go_wp2_with (go_at_call 141; (with_reducible refine (push06_any w.heap.size w F _ 4 ⟨#[]⟩ 0 0 ⟨#[]⟩ gone _ [] _ (by repeat (with_reducible first | assumption | exact Gr.refl _ | apply Gr.alloc | apply Gr.drewN | apply Gr.drew | apply Gr.iter | (refine Gr.setCell ?_ (by simp) _) | (refine Gr.trans ?_ (by assumption)))) (OwnR.gr (w := wr) hO2 (by repeat (with_reducible first | assumption | exact Gr.refl _ | apply Gr.alloc | apply Gr.drewN | apply Gr.drew | apply Gr.iter | (refine Gr.setCell ?_ (by simp) _) | (refine Gr.trans ?_ (by assumption))))) (RdList.nil ..) (by simp only [szS]; decide) (by simp only [szS]; decide) (Gr.size (w := w) (by repeat (with_reducible first | assumption | exact Gr.refl _ | apply Gr.alloc | apply Gr.drewN | apply Gr.drew | apply Gr.iter | (refine Gr.setCell ?_ (by simp) _) | (refine Gr.trans ?_ (by assumption))))) (Nat.le_refl _) HS.out.1 HS.out.2.1 HS.out.2.2.1 (by omega) HS.out.2.2.2).mono ?_); rw [show (⟨4, ⟨#[]⟩, ⟨0, 0, ⟨#[]⟩⟩, gone, []⟩ : Op) = delO gone from rfl, ← HF.out]; rintro e w6 ⟨v6, rfl, hO6, hk6, hr6⟩; obtain ⟨a6, n6, c6', rfl, -⟩ := hO6.sl; have hg6 : Gr w w6 := Gr.kgs (by repeat (with_reducible first | assumption | exact Gr.refl _ | apply Gr.alloc | apply Gr.drewN | apply Gr.drew | apply Gr.iter | (refine Gr.setCell ?_ (by simp) _) | (refine Gr.trans ?_ (by assumption)))) hk6 (fun b hb => (hlo b hb).1))
              go_roundw
              case rel => exact ⟨k + 1, flush06 O G gone, [], 0, by omega, by go_num, rfl, hO6, OwnL.nil .., by simp [Value.ownBlock], hg6, .inr ⟨by omega, hCn, by omega⟩⟩
              case measure => first | (simp [intOf]; done) | (simp [intOf]; omega)
            · have hfl : flush06 O G gone = F := by unfold flush06; rw [if_neg hgp, hF]
              go_wp2
              go_roundw
              case rel => exact ⟨k + 1, flush06 O G gone, [], 0, by omega, by go_num, rfl, by rw [hfl]; exact hO2, OwnL.nil .., by simp [Value.ownBlock], hg3, .inr ⟨by omega, hCn, by rw [hfl]; omega⟩⟩
              case measure => first | (simp [intOf]; done) | (simp [intOf]; omega)
    · subst hOC
      have hnk : ¬ ((n : Int) + 1 ≤ n) := by omega
      rcases snoc_ops O with rfl | ⟨m, q, rfl⟩
      · have e0 : on = 0 := hon.out.symm
        subst e0
        have hcan : canon06 l = [] := by unfold canon06; rw [HC0.out]; rfl
        have HCA := Lib.hid hcan; clear hcan
        go_wp2
        go_ret
        rw [HCA.out]
        exact ⟨_, rfl, hO, hg⟩
      · obtain rfl : on = m.length + 1 := by have := hon.out; simp at this; omega
        simp at hol
        obtain ⟨b, off, xk, xt, xa, xb, xv, xc, ats, sl, hx, rfl, hr, c0, c1, c2, c3, c4, c5, c6, s1, s2⟩ := OwnR.at_ hO (by omega) m.length (by omega)
        simp at hx
        subst hx
        obtain ⟨sa, sn, sc, rfl, -⟩ := hr.sl
        have hwm : IntKind.i64.wrap (m.length : Int) = m.length := IntWalk.i64_in _ (by omega)
        have hlm : (m.length : Int) < (m.length : Int) + 1 := by omega
        have hlp : (0 : Int) < (m.length : Int) + 1 := by omega
        have hcan : canon06 l = if plainO ⟨xk, xt, ⟨xa, xb, xv⟩, xc, ats⟩ = true then m else m ++ [⟨xk, xt, ⟨xa, xb, xv⟩, xc, ats⟩] := by
          unfold canon06
          rw [HC0.out]
          simp [dropPlain]
        obtain ⟨D, hD⟩ : ∃ D, plainO ⟨xk, xt, ⟨xa, xb, xv⟩, xc, ats⟩ = D := ⟨_, rfl⟩
        rw [hD] at hcan
        have HD := Lib.hid hD; clear hD
        obtain ⟨g0, rfl⟩ : ∃ g0, off = g0 := ⟨_, rfl⟩
        cases D with
        | true =>
          rw [if_pos rfl] at hcan
          have HCA := Lib.hid hcan; clear hcan
          go_wp2_with (go_at_call 142; refine (plain06_any xk xt xa xb xv xc _ ats _ (RdAttrs.gr hr (by repeat (with_reducible first | assumption | exact Gr.refl _ | apply Gr.alloc | apply Gr.drewN | apply Gr.drew | apply Gr.iter | (refine Gr.setCell ?_ (by simp) _) | (refine Gr.trans ?_ (by assumption)))))).mono ?_; rw [HD.out]; rintro e w2 ⟨rfl, hg2⟩)
          go_ret
          rw [HCA.out]
          have hpop := hO
          obtain ⟨xs, ho, hrr⟩ := hpop
          have h00 : off = 0 := by
            rcases ho.2 with ⟨e, h0⟩ | ⟨g, cap', cur, e, -⟩
            · cases e
            · injection e with e; injection e with e; injection e with _ e
          subst h00
          exact ⟨_, rfl, OwnR.gr (OwnR.pop hO rfl) (by repeat (with_reducible first | assumption | exact Gr.refl _ | apply Gr.alloc | apply Gr.drewN | apply Gr.drew | apply Gr.iter | (refine Gr.setCell ?_ (by simp) _) | (refine Gr.trans ?_ (by assumption)))), (by repeat (with_reducible first | assumption | exact Gr.refl _ | apply Gr.alloc | apply Gr.drewN | apply Gr.drew | apply Gr.iter | (refine Gr.setCell ?_ (by simp) _) | (refine Gr.trans ?_ (by assumption))))⟩
        | false =>
          rw [if_neg (by simp)] at hcan
          have HCA := Lib.hid hcan; clear hcan
          go_wp2_with (go_at_call 142; refine (plain06_any xk xt xa xb xv xc _ ats _ (RdAttrs.gr hr (by repeat (with_reducible first | assumption | exact Gr.refl _ | apply Gr.alloc | apply Gr.drewN | apply Gr.drew | apply Gr.iter | (refine Gr.setCell ?_ (by simp) _) | (refine Gr.trans ?_ (by assumption)))))).mono ?_; rw [HD.out]; rintro e w2 ⟨rfl, hg2⟩)
          go_ret
          rw [HCA.out]
          exact ⟨_, rfl, OwnR.gr hO (by repeat (with_reducible first | assumption | exact Gr.refl _ | apply Gr.alloc | apply Gr.drewN | apply Gr.drew | apply Gr.iter | (refine Gr.setCell ?_ (by simp) _) | (refine Gr.trans ?_ (by assumption)))), (by repeat (with_reducible first | assumption | exact Gr.refl _ | apply Gr.alloc | apply Gr.drewN | apply Gr.drew | apply Gr.iter | (refine Gr.setCell ?_ (by simp) _) | (refine Gr.trans ?_ (by assumption))))⟩

end Ve
/- Walks of the reference of layer 6: Of. -/
namespace Ve
open Go Go.RowKit Go.Proofs

theorem put_sums {l : List Op} : ∀ {s : Bld}, (∀ o ∈ l, checkOp o = 0) → (putAll s l).base = s.base + sumB l ∧ (putAll s l).result = s.result + sumR l := by
  induction l with
  | nil => intro s _; simp [putAll, sumB, sumR]
  | cons o l ih =>
    intro s h
    have ho := h o (by simp)
    obtain ⟨e1, e2⟩ := put_base s o
    obtain ⟨i1, i2⟩ := ih (s := s.put (toPiece o)) fun x hx => h x (by simp [hx])
    rw [piece_b ho] at e1
    rw [piece_r ho] at e2
    simp only [sumB, sumR]
    constructor
    · rw [show (putAll s (o :: l)).base = (putAll (s.put (toPiece o)) l).base from rfl, i1, e1]; omega
    · rw [show (putAll s (o :: l)).result = (putAll (s.put (toPiece o)) l).result from rfl, i2, e2]; omega
theorem count_base {o : Op} (h : checkOp o = 0) : o.count = baseO o := by
  have hk := ok_kind h
  have h1 := ok_only h
  unfold hasOnly at h1
  unfold baseO
  rcases hk with k | k | k | k <;> simp [k] at h1 ⊢
  · exact h1.1
  · exact h1
  · simp [rlen, k]
  · simp [rlen, k]
theorem csum_base {l : List Op} (h : ∀ o ∈ l, checkOp o = 0) : csum l = sumB l ∧ ∀ o ∈ l, 0 ≤ o.count := by
  induction l with
  | nil => exact ⟨rfl, by simp⟩
  | cons o l ih =>
    obtain ⟨i1, i2⟩ := ih fun x hx => h x (by simp [hx])
    have ho := h o (by simp)
    have e := count_base ho
    have hl := ok_len ho
    have h0 : 0 ≤ o.count := by rw [e]; unfold baseO; split <;> omega
    refine ⟨?_, fun x hx => ?_⟩
    · have : csum (o :: l) = o.count + csum l := by simp [csum]
      rw [this, e, i1]; rfl
    · rcases List.mem_cons.1 hx with rfl | hx
      · exact h0
      · exact i2 x hx
theorem push_three {s : Bld} {o : Op} (h : checkOp o = 0) : s.push o = if s.base + baseO o ≤ 1099511627776 ∧ s.result + resO o ≤ 1099511627776 then (s.put (toPiece o), 0) else (s, 11) := by
  unfold Bld.push Bld.fits
  rw [piece_b h, piece_r h]
  simp [h]
  by_cases c : s.base + baseO o ≤ 1099511627776 ∧ s.result + resO o ≤ 1099511627776
  · rw [if_pos c, if_neg (by omega)]
  · rw [if_neg c, if_pos (by omega)]
theorem all_sums {l : List Op} {s : Bld} (h : pushAll l = (s, 0, 0)) : (∀ o ∈ l, checkOp o = 0) ∧ s = putAll .new l ∧ s.base = sumB l ∧ s.result = sumR l := by
  obtain ⟨e1, e2⟩ := push_put (s := .new) (i := 0) (l := l) (by show (pushAll l).2.2 = 0; rw [h])
  have e3 : s = putAll .new l := by
    have := h.symm.trans e1
    exact congrArg Prod.fst this
  obtain ⟨p1, p2⟩ := put_sums (s := .new) e2
  refine ⟨e2, e3, ?_, ?_⟩
  · rw [e3, p1]; simp [Bld.new]
  · rw [e3, p2]; simp [Bld.new]
end Ve
