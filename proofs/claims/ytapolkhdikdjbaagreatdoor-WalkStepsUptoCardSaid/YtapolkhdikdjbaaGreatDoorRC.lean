/- Walks: vellumref04.Same, SameOps; vellumspare; vellummade. -/
import Derived.Test.YtapolkhdikdjbaaGreatDoorRB
set_option linter.all false
namespace Ve
open Go Go.RowKit Go.Proofs

set_option maxHeartbeats 2000000 in
theorem same04_any (k : Int) (t : ByteArray) (va vb : Int) (vt : ByteArray) (c : Int) (sl : Value) (l : List Attr) (k' : Int) (t' : ByteArray) (va' vb' : Int) (vt' : ByteArray) (c' : Int) (sl' : Value) (l' : List Attr) (w : World) (hl : RdAttrs w sl l) (hl' : RdAttrs w sl' l') :
    Calls Tryz.prog 42 #[.agg #[.int .i64 k, .string t, .int .i64 va, .int .i64 vb, .string vt, .int .i64 c, sl], .agg #[.int .i64 k', .string t', .int .i64 va', .int .i64 vb', .string vt', .int .i64 c', sl']] w fun e w' => e = .returned (.bool (decide ((⟨k, t, ⟨va, vb, vt⟩, c, l⟩ : Op) = ⟨k', t', ⟨va', vb', vt'⟩, c', l'⟩))) ∧ Gr w w' := by
  obtain ⟨a, cap, rfl, -⟩ := hl.slice
  obtain ⟨a', cap', rfl, -⟩ := hl'.slice
  obtain ⟨D, hD⟩ : ∃ b, decide (l = l') = b := ⟨_, rfl⟩
  have HD := Lib.hid hD; clear hD
  go_enter Tryz.func42, Tryz.ntmps42
  go_wp2_with (go_at_call 111; refine (sameRef_any l l' _ _ _ (RdAttrs.gr hl (by repeat (with_reducible first | assumption | exact Gr.refl _ | apply Gr.alloc | apply Gr.drewN | apply Gr.drew | apply Gr.iter | (refine Gr.setCell ?_ (by simp) _) | (refine Gr.trans ?_ (by assumption))))) (RdAttrs.gr hl' (by repeat (with_reducible first | assumption | exact Gr.refl _ | apply Gr.alloc | apply Gr.drewN | apply Gr.drew | apply Gr.iter | (refine Gr.setCell ?_ (by simp) _) | (refine Gr.trans ?_ (by assumption)))))).mono ?_; rw [HD.out]; rintro e w1 ⟨rfl, hg1⟩)
  all_goals go_ret
  all_goals refine ⟨ret_bool ?_, (by repeat (with_reducible first | assumption | exact Gr.refl _ | apply Gr.alloc | apply Gr.drewN | apply Gr.drew | apply Gr.iter | (refine Gr.setCell ?_ (by simp) _) | (refine Gr.trans ?_ (by assumption))))⟩
  all_goals have hd := HD.out
  ((all_goals go_light); (all_goals (try simp_all [eqS, eqP])); (all_goals (first | omega | rfl | (rw [Bool.eq_iff_iff]; simp; done) | (intros; omega) | (intros; simp_all; done) | (intros; simp_all; omega) | (split <;> simp_all; done) | (split <;> simp_all <;> omega))))
set_option maxHeartbeats 2000000 in
theorem sameops_any (la lb : List Op) (va vb : Value) (w : World) (ha : RdOps w va la) (hb : RdOps w vb lb) :
    Calls Tryz.prog 37 #[va, vb] w fun e w' => e = .returned (.bool (decide (la = lb))) ∧ Gr w w' := by
  obtain ⟨aa, n, ca, rfl, hla, hma, hba, hna⟩ := ha.sl
  obtain ⟨ab, m, cb, rfl, hlb, hmb, hbb, hnb⟩ := hb.sl
  by_cases hlen : n = m
  · subst hlen
    go_enter Tryz.func37, Tryz.ntmps37
    go_wp2
    go_loopw [5, 6, 14] (fun _ _ i wr => ∃ k : Nat, k ≤ n ∧ i = .int .i64 k ∧ Gr w wr ∧ la.take k = lb.take k) (fun _ _ i _ => n - (intOf i).toNat)
    case atStart => exact ⟨0, Nat.zero_le _, rfl, Gr.refl _, rfl⟩
    case round =>
      obtain ⟨k, hk, rfl, hg, ht⟩ := hrel
      have Ht := Lib.hid ht; clear ht
      by_cases hlt : k < n
      · obtain ⟨blk, off, xk, xt, xa, xb, xv, xc, ats, sl, hx, rfl, hr, c0, c1, c2, c3, c4, c5, c6, s1, s2⟩ := (RdOps.gr ha hg).at_ k hlt
        obtain ⟨blk', off', yk, yt, ya, yb, yv, yc, bts, tl, hy, rfl, hr', d0, d1, d2, d3, d4, d5, d6, s1', s2'⟩ := (RdOps.gr hb hg).at_ k hlt
        have H := Lib.hid (And.intro hx hy); clear hx hy
        have hlt' : (k : Int) < n := by omega
        obtain ⟨sa, sc, hsl, -⟩ := RdList.slice hr
        subst hsl
        obtain ⟨sa', sc', hsl, -⟩ := RdList.slice hr'
        subst hsl
        obtain ⟨A, hA⟩ : ∃ b, decide ((⟨xk, xt, ⟨xa, xb, xv⟩, xc, ats⟩ : Op) = ⟨yk, yt, ⟨ya, yb, yv⟩, yc, bts⟩) = b := ⟨_, rfl⟩
        have HA := Lib.hid hA; clear hA
        cases A
        all_goals
          go_wp2
          (refine wp_region_gr (by kernel_rfl) (by kernel_rfl) ?_; (repeat (refine wpQuiet_step (fun K hK => ?_); go_simp; first | (refine hK _ ?_; clear hK K) | (refine ⟨_, fun _ _ => rfl, hK _ ?_⟩; clear hK K) | (apply Exists.intro; refine ⟨fun wq hq => ?_, hK _ ?_⟩; (first | exact ((same04_any _ _ _ _ _ _ _ ats _ _ _ _ _ _ _ bts wq (RdAttrs.gr (w := wr) hr hq) (RdAttrs.gr (w := wr) hr' hq)).mono fun e w' h => by rw [HA.out] at h; exact ⟨h.1, hq.trans h.2⟩) | (have q0 := hq.cell c0; have q1 := hq.cell c1; have q2 := hq.cell c2; have q3 := hq.cell c3; have q4 := hq.cell c4; have q5 := hq.cell c5; have q6 := hq.cell c6; have r0 := hq.cell d0; have r1 := hq.cell d1; have r2 := hq.cell d2; have r3 := hq.cell d3; have r4 := hq.cell d4; have r5 := hq.cell d5; have r6 := hq.cell d6; go_simp; rfl)); clear hK K))); refine wpQuiet_nil ?_)
          intro w3 hg3
          go_wp2
        · go_ret
          refine ⟨ret_bool ?_, (by repeat (with_reducible first | assumption | exact Gr.refl _ | apply Gr.alloc | apply Gr.drewN | apply Gr.drew | apply Gr.iter | (refine Gr.setCell ?_ (by simp) _) | (refine Gr.trans ?_ (by assumption))))⟩
          obtain ⟨hx, hy⟩ := H.out
          have h := HA.out
          simp only [decide_eq_false_iff_not] at h
          symm
          simp only [decide_eq_false_iff_not]
          intro e
          subst e
          exact h (Option.some.inj (hx.symm.trans hy))
        · go_roundw
          case rel =>
            obtain ⟨hx, hy⟩ := H.out
            refine ⟨k + 1, by omega, by go_num, (by repeat (with_reducible first | assumption | exact Gr.refl _ | apply Gr.alloc | apply Gr.drewN | apply Gr.drew | apply Gr.iter | (refine Gr.setCell ?_ (by simp) _) | (refine Gr.trans ?_ (by assumption)))), ?_⟩
            rw [List.take_add_one, List.take_add_one, Ht.out, hx, hy, of_decide_eq_true HA.out]
          case measure => simp [intOf]; omega
      · obtain rfl : k = n := by omega
        go_wp2
        go_ret
        refine ⟨ret_bool ?_, (by repeat (with_reducible first | assumption | exact Gr.refl _ | apply Gr.alloc | apply Gr.drewN | apply Gr.drew | apply Gr.iter | (refine Gr.setCell ?_ (by simp) _) | (refine Gr.trans ?_ (by assumption))))⟩
        have ht := Ht.out
        have e1 := hna.out
        have e2 := hnb.out
        rw [List.take_of_length_le (by omega), List.take_of_length_le (by omega)] at ht
        simp [ht]
  · have hlen' : ((n : Int) != m) = true := by simp; omega
    have hne : la ≠ lb := fun e => hlen (by rw [← hna.out, ← hnb.out, e])
    have HN := Lib.hid hne; clear hne
    go_enter Tryz.func37, Tryz.ntmps37
    go_wp2
    go_ret
    refine ⟨ret_bool ?_, (by repeat (with_reducible first | assumption | exact Gr.refl _ | apply Gr.alloc | apply Gr.drewN | apply Gr.drew | apply Gr.iter | (refine Gr.setCell ?_ (by simp) _) | (refine Gr.trans ?_ (by assumption))))⟩
    simp [HN.out]
theorem OwnL.popg {α : Type} {R : World → α → List Value → Prop} {k base : Nat} {e : TypeId} {w : World} {n cap g : Nat} {m : List α} {q : α} (h : OwnL R k base e w (.slice (some ⟨g, 0, none⟩) (n + 1) cap) (m ++ [q])) (hm : m.length = n) : OwnL R k base e w (.slice (some ⟨g, 0, none⟩) n cap) m := by
  obtain ⟨xs, ho, hr⟩ := h
  have : ∃ ys zs, xs = ys ++ zs ∧ RowsR R k w m ys := by
    clear ho hm
    induction m generalizing xs with
    | nil => exact ⟨[], xs, rfl, rfl⟩
    | cons y m ih =>
      obtain ⟨cs, rest, rfl, hk, hy, hr⟩ := hr
      obtain ⟨ys, zs, rfl, hr'⟩ := ih _ hr
      exact ⟨cs ++ ys, zs, by simp, cs, ys, rfl, hk, hy, hr'⟩
  obtain ⟨ys, zs, rfl, hr'⟩ := this
  have hy := hr'.len
  rw [List.length_append, List.length_singleton, hm] at ho
  refine ⟨ys, ?_, hr'⟩
  rw [hm]
  exact ownsRow_pop (by rw [hy, hm]) ho
theorem OwnL.shape {α : Type} {R : World → α → List Value → Prop} {k base : Nat} {e : TypeId} {w : World} {v : Value} {l : List α} (h : OwnL R k base e w v l) (hne : l ≠ []) : ∃ g cap, v = .slice (some ⟨g, 0, none⟩) l.length cap ∧ l.length ≤ cap ∧ cap ≤ 9223372036854775807 := by
  obtain ⟨xs, ho, hr⟩ := h
  rcases ho.2 with ⟨_, h0⟩ | ⟨g, cap, cur, rfl, _, _, hc, hm, _⟩
  · exact absurd (List.eq_nil_of_length_eq_zero h0) hne
  · exact ⟨g, cap, rfl, hc, by unfold maxLen at hm; omega⟩
theorem OwnL.ownb {α : Type} {R : World → α → List Value → Prop} {k base : Nat} {e : TypeId} {w : World} {v : Value} {l : List α} (h : OwnL R k base e w v l) : ∀ b, v.ownBlock = some b → base ≤ b := by
  obtain ⟨xs, ho, -⟩ := h
  exact own_fr ho
def spareA : Attr := ⟨⟨#[115, 112, 97, 114, 101]⟩, ⟨0, 0, ⟨#[]⟩⟩⟩
theorem rd_spare (w : World) : RdAttrs (w.alloc (.cells #[.string ⟨#[115, 112, 97, 114, 101]⟩, .int .i64 0, .int .i64 0, .string ⟨#[]⟩] 83)) (.slice (some ⟨w.heap.size, 0, none⟩) 1 1) [spareA] :=
  ⟨_, _, _, rfl, Nat.le_refl _, by simp [maxLen], by simp, RowsR.one rfl ⟨rfl, by simp only [szS, spareA]; decide, by simp only [szS, spareA]; decide⟩, fun _ => ⟨_, _, rfl, fun j u hu => by simpa [spareA] using hu⟩⟩
set_option maxRecDepth 20000 in
set_option maxHeartbeats 2000000 in
theorem sattrs_any (l : List Attr) (v : Value) (w : World) (hl : RdAttrs w v l) (hb : l.length + 1 ≤ 1099511627776) :
    Calls Tryz.prog 148 #[v] w fun e w' => ∃ v', e = .returned v' ∧ OwnL AttrR 4 w.heap.size 83 w' v' l ∧ Gr w w' := by
  obtain ⟨a, n, cap, rfl, hc1, hc2, -, hn⟩ := hl.sl
  by_cases h0 : n = 0
  · subst h0
    have hl0 : l = [] := List.eq_nil_of_length_eq_zero hn.out
    subst hl0
    go_enter Tryz.func148, Tryz.ntmps148
    go_wp2
    go_ret
    exact ⟨_, rfl, OwnL.nil .., (by repeat (with_reducible first | assumption | exact Gr.refl _ | apply Gr.alloc | apply Gr.drewN | apply Gr.drew | apply Gr.iter | (refine Gr.setCell ?_ (by simp) _) | (refine Gr.trans ?_ (by assumption))))⟩
  · have hne : l ≠ [] := fun e => by subst e; exact h0 hn.out.symm
    obtain ⟨v1, w1, hr1, ho1, hg1, -⟩ := app_attr (w.alloc (.cells #[] 83)) w.heap.size 44 (OwnL.made w AttrR 4 w.heap.size 83 (Nat.le_refl _)) (RdAttrs.gr hl ((Gr.refl w).alloc _)) (by simp; omega) (by simp)
    rw [List.nil_append] at ho1
    have hgr1 : Gr w w1 := ((Gr.refl w).alloc _).grown hg1 (by simp [Value.ownBlock])
    obtain ⟨v2, w2, hr2, ho2, hg2, -⟩ := app_attr (w1.alloc (.cells #[.string ⟨#[115, 112, 97, 114, 101]⟩, .int .i64 0, .int .i64 0, .string ⟨#[]⟩] 83)) w.heap.size 44 (OwnL.gr (w := w1) ho1 (fun _ _ h => h.any) ((Gr.refl w1).alloc _)) (rd_spare w1) (by simpa using hb) (by simp; exact Nat.le_succ_of_le hgr1.size)
    have hgr2 : Gr w w2 := (hgr1.alloc _).grown hg2 (OwnL.ownb ho1)
    obtain ⟨g1, cap1, rfl, -, -⟩ := ho1.shape hne
    obtain ⟨g2, cap2, rfl, hcap2, hcapm⟩ := ho2.shape (by simp)
    simp only [List.length_append, List.length_singleton] at hr2 hcap2 ho2
    have hln := hn.out
    have hpop := OwnL.popg ho2 rfl
    rw [hln] at hr1 hr2 hpop hcap2
    have HP := Lib.hid (And.intro hr1 (And.intro hr2 (And.intro hpop hgr2))); clear hr1 hr2 hpop ho1 ho2 hg1 hg2
    have hn' : (n : Int) ≤ cap2 := by omega
    go_enter Tryz.func148, Tryz.ntmps148
    go_wp2_with (first
      | (at_builtin; refine wpList_run rfl (.tmp 6) (.tmp 7) 44 rfl rfl rfl HP.out.1 ?_)
      | (at_builtin; refine wpList_run rfl (.tmp 8) (.tmp 10) 44 rfl rfl rfl HP.out.2.1 ?_))
    go_ret
    exact ⟨_, rfl, HP.out.2.2.1, HP.out.2.2.2⟩
end Ve
