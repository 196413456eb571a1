/- Walks of the reference of layer 3: Has, Join, whole, Patched. -/
import Derived.Test.YtnlpmajiccliiaaGreatDoorNC
set_option linter.all false
namespace Ve
open Go Go.RowKit Go.Proofs

def plV (p : Plain) : Value := .agg #[.int .i64 p.kind, .int .i64 p.num, .string p.text]
/-- A key's value. -/
def getK (l : List Attr) (key : ByteArray) : Option Plain := (l.find? fun a => decide (a.key = key)).map (·.val)
theorem getK_yes {a : Attr} {l : List Attr} {key : ByteArray} (h : a.key = key) : getK (a :: l) key = some a.val := by simp [getK, h]
theorem getK_no {a : Attr} {l : List Attr} {key : ByteArray} (h : ¬ a.key = key) : getK (a :: l) key = getK l key := by simp [getK, h]
theorem getK_some {l : List Attr} {key : ByteArray} (h : ∃ z ∈ l, z.key = key) : (getK l key).isSome = true := by
  obtain ⟨z, hz, e⟩ := h
  unfold getK
  rw [Option.isSome_map, List.find?_isSome]
  exact ⟨z, hz, by simpa using e⟩

set_option maxHeartbeats 2000000 in
theorem rhas_any (l : List Attr) (v : Value) (key : ByteArray) (w : World) (hl : RdAttrs w v l) :
    Calls Tryz.prog 152 #[v, .string key] w fun e w' => e = .returned (.tuple #[plV ((getK l key).getD ep), .bool (getK l key).isSome]) ∧ Gr w w' := by
  obtain ⟨a, n, cap, rfl, hcap, hm, hb, hn⟩ := hl.sl
  obtain ⟨T, hT⟩ : ∃ T, getK l key = T := ⟨_, rfl⟩
  rw [hT]
  have HT := Lib.hid hT; clear hT
  go_enter Tryz.func152, Tryz.ntmps152
  go_wp2
  go_loopw [10] (fun i wr => ∃ k : Nat, k ≤ n ∧ i = .int .i64 k ∧ Gr (w.alloc (.cells #[.int .i64 0, .int .i64 0, .string ⟨#[]⟩] 60)) wr ∧ getK (l.drop k) key = T) (fun i _ => n - (intOf i).toNat)
  case atStart => exact ⟨0, Nat.zero_le _, rfl, Gr.refl _, HT.out⟩
  case round =>
    obtain ⟨k, hk, rfl, hg, ht⟩ := hrel
    have hB := (Blk.new w 60 #[.int .i64 0, .int .i64 0, .string ⟨#[]⟩]).gr hg
    have x0 := hB.cell 0; have x1 := hB.cell 1; have x2 := hB.cell 2; have xf := hB.frozen; have xz := hB.lt
    simp at x0 x1 x2
    by_cases hlt : k < n
    · obtain ⟨b, off, xk, xa, xb, xt, hx, rfl, a0, a1, a2, a3, s1, s2⟩ := (RdAttrs.gr (w' := wr) hl (by repeat (with_reducible first | assumption | exact Gr.refl _ | apply Gr.alloc | apply Gr.drewN | apply Gr.drew | apply Gr.iter | (refine Gr.setCell ?_ (by simp) _) | (refine Gr.trans ?_ (by assumption))))).at_ k hlt
      have hlt' : (k : Int) < n := by omega
      rw [drop_cons hx] at ht
      by_cases hk : xk = key
      · subst hk
        rw [getK_yes rfl] at ht
        have Ht := Lib.hid ht; clear ht
        have he : eqS xk xk = true := by simp [eqS]
        go_wp2
        refine bodyPost_ret (v := .tuple #[.agg #[.int .i64 xa, .int .i64 xb, .string xt], .bool true]) (by simp [results, Tryz.results152, go_sem, x0, x1, x2, xf, xz]; done) rfl ⟨by rw [← Ht.out]; rfl, ?_⟩
        have hg0 : Gr w wr := (by repeat (with_reducible first | assumption | exact Gr.refl _ | apply Gr.alloc | apply Gr.drewN | apply Gr.drew | apply Gr.iter | (refine Gr.setCell ?_ (by simp) _) | (refine Gr.trans ?_ (by assumption))))
        exact (by repeat (with_reducible first | assumption | exact Gr.refl _ | apply Gr.alloc | apply Gr.drewN | apply Gr.drew | apply Gr.iter | (refine Gr.setCell ?_ (by simp) _) | (refine Gr.trans ?_ (by assumption))))
      · rw [getK_no hk] at ht
        have Ht := Lib.hid ht; clear ht
        have he : eqS xk key = false := by simpa [eqS] using hk
        clear hk
        go_wp2
        go_roundw
        case rel => exact ⟨k + 1, by omega, by go_num, (by repeat (with_reducible first | assumption | exact Gr.refl _ | apply Gr.alloc | apply Gr.drewN | apply Gr.drew | apply Gr.iter | (refine Gr.setCell ?_ (by simp) _) | (refine Gr.trans ?_ (by assumption)))), Ht.out⟩
        case measure => simp [intOf]; omega
    · obtain rfl : k = n := by omega
      rw [List.drop_eq_nil_of_le (by rw [hn.out]; exact Nat.le_refl _)] at ht
      have Ht := Lib.hid ht; clear ht
      go_wp2
      refine bodyPost_ret (v := .tuple #[.agg #[.int .i64 0, .int .i64 0, .string ⟨#[]⟩], .bool false]) (by simp [results, Tryz.results152, go_sem, x0, x1, x2, xf, xz]; done) rfl ⟨by rw [← Ht.out]; rfl, ?_⟩
      have hg0 : Gr w wr := (by repeat (with_reducible first | assumption | exact Gr.refl _ | apply Gr.alloc | apply Gr.drewN | apply Gr.drew | apply Gr.iter | (refine Gr.setCell ?_ (by simp) _) | (refine Gr.trans ?_ (by assumption))))
      exact (by repeat (with_reducible first | assumption | exact Gr.refl _ | apply Gr.alloc | apply Gr.drewN | apply Gr.drew | apply Gr.iter | (refine Gr.setCell ?_ (by simp) _) | (refine Gr.trans ?_ (by assumption))))

theorem made_attr (w : World) : OwnL AttrR 4 w.heap.size 176 (w.alloc (.cells #[] 176)) (.slice (some ⟨w.heap.size, 0, none⟩) 0 0) [] := OwnL.made w AttrR 4 w.heap.size 176 (Nat.le_refl _)
/-- A box beside the row that grows. -/
theorem Blk.besA {w w' : World} {g : Nat} {e : TypeId} {cs : Array Value} {v : Value} (h : Blk w g e cs) (k : Kg (fun b => v.ownBlock = some b) atT w w') (hne : v.ownBlock ≠ some g) : Blk w' g e cs := (k.blk g h.lt (.inl hne)).trans h
theorem own_ltA {w : World} {base : Nat} {v : Value} {l : List Attr} (h : OwnL AttrR 4 base 176 w v l) : ∀ b, v.ownBlock = some b → base ≤ b ∧ b < w.heap.size := by
  obtain ⟨xs, ho, -⟩ := h
  exact fun b hb => ho.lt b hb
def slSh (a : Option Addr) (l h m s : Nat) : Value := sliced a l h m s
theorem sliced_sh (a : Option Addr) (l h m s : Nat) : sliced a l h m s = slSh a l h m s := rfl
theorem rd_slSh {α : Type} {R : World → α → List Value → Prop} {w : World} {a : Option Addr} {n cap k : Nat} {l : List α} (h : RdList R k w (.slice a n cap) l) (i : Nat) (hi : i ≤ n) : ∃ ad, slSh a i n cap k = .slice ad (n - i) (cap - i) ∧ RdList R k w (.slice ad (n - i) (cap - i)) (l.drop i) := by
  refine ⟨_, rfl, ?_⟩
  obtain ⟨a', m', cap', e, hm1, hm2, hm3, hm⟩ := h.sl
  injection e with e1 e2 e3
  subst e1 e2 e3
  by_cases hn : n = i
  · subst hn
    rw [List.drop_eq_nil_of_le (by rw [hm.out]; exact Nat.le_refl _)]
    exact ⟨_, _, [], by rw [Nat.sub_self]; rfl, Nat.zero_le _, by unfold maxLen; omega, by simp, rfl, fun h => absurd h (by simp)⟩
  · obtain ⟨b, off, x, cs, rfl, -⟩ := h.get 0 (by omega)
    have hd := RdList.drop h i hi
    have e : Addr.add (⟨b, off, none⟩ : Addr) (i * k) = ⟨b, off + i * k, none⟩ := by
      unfold Addr.add
      split
      · rename_i h; rw [h, Nat.add_zero]
      · rfl
    rw [if_neg (by omega), Option.map_some, e]
    exact hd
attribute [irreducible] slSh
attribute [local go_sem ↓] sliced_sh

set_option maxRecDepth 20000 in
set_option maxHeartbeats 16000000 in
theorem rjoin_any (a b : List Attr) (va vb : Value) (w : World) (ha : RdAttrs w va a) (hb : RdAttrs w vb b) (hra : riseA none a = true) (hN : a.length + b.length ≤ 1099511627776) :
    Calls Tryz.prog 114 #[va, vb] w fun e w' => ∃ v', e = .returned v' ∧ OwnL AttrR 4 w.heap.size 176 w' v' (mergeA a b) ∧ Gr w w' := by
  obtain ⟨aa, na, ca, rfl, hca, hma, hba, hna⟩ := ha.sl
  obtain ⟨ab, nb, cb, rfl, hcb, hmb, hbb, hnb⟩ := hb.sl
  have hN' : na + nb ≤ 1099511627776 := by rw [← hna.out, ← hnb.out]; exact hN
  obtain ⟨T, hT⟩ : ∃ T, mergeA a b = T := ⟨_, rfl⟩
  rw [hT]
  have hTl : T.length ≤ na + nb := by rw [← hT, ← hna.out, ← hnb.out]; exact merge_len _ a b (Nat.le_refl _)
  have HT := Lib.hid hT; clear hT
  go_enter Tryz.func114, Tryz.ntmps114
  go_wp2
  go_loopw [5, 6, 16] (fun ov iv kv wr => ∃ (k i : Nat) (done : List Attr), k ≤ na ∧ i ≤ nb ∧ kv = .int .i64 k ∧ iv = .int .i64 i ∧ Gr w wr ∧ OwnL AttrR 4 w.heap.size 176 wr ov done ∧ done ++ mergeA (a.drop k) (b.drop i) = T ∧ (∃ p, riseA p (a.drop k) = true)) (fun _ _ kv _ => na - (intOf kv).toNat)
  case atStart => exact ⟨0, 0, [], Nat.zero_le _, Nat.zero_le _, rfl, rfl, (by repeat (with_reducible first | assumption | exact Gr.refl _ | apply Gr.alloc | apply Gr.drewN | apply Gr.drew | apply Gr.iter | (refine Gr.setCell ?_ (by simp) _) | (refine Gr.trans ?_ (by assumption)))), made_attr w, HT.out, none, hra⟩
  case round =>
    obtain ⟨k, i, done, hk, hi, rfl, rfl, hg, hO, ht, pr, hr⟩ := hrel
    obtain ⟨oa, on, oc, rfl, -, -, hon⟩ := hO.sl
    by_cases hlt : k < na
    · obtain ⟨blk, off, xk, xa, xb, xt, hx, rfl, a0, a1, a2, a3, s1, s2⟩ := (RdAttrs.gr ha hg).at_ k hlt
      have hlt' : (k : Int) < na := by omega
      rw [drop_cons hx] at ht hr
      simp only [riseA, Bool.and_eq_true] at hr
      have hr2 := hr.2
      clear hr hx
      obtain ⟨wo, rfl⟩ : ∃ wo : World, wo = wr := ⟨_, rfl⟩
      go_wp2
      have hBx := Blk.new wo 176 #[.string xk, .int .i64 xa, .int .i64 xb, .string xt]
      obtain ⟨p, hp⟩ : ∃ p, wo.heap.size = p := ⟨_, rfl⟩
      obtain ⟨W, hW⟩ : ∃ W, wo.alloc (.cells #[.string xk, .int .i64 xa, .int .i64 xb, .string xt] 176) = W := ⟨_, rfl⟩
      rw [hW] at hBx ⊢
      have hgW : Gr wo W := hW ▸ (Gr.refl wo).alloc _
      have hOW := OwnL.gr (w := wo) (w' := W) hO (fun _ _ h => h) hgW
      have hne : (Value.slice oa on oc).ownBlock ≠ some p := fun e => by have := (own_ltA hO p e).2; omega
      have hpw : w.heap.size ≤ p := by rw [← hp]; exact hg.size
      rw [hp] at hBx ⊢
      clear hW hp
      go_loopw [5, 6] (fun ov iv wi => ∃ (j : Nat) (dn : List Attr), j ≤ nb ∧ iv = .int .i64 j ∧ Gr w wi ∧ OwnL AttrR 4 w.heap.size 176 wi ov dn ∧ Blk wi p 176 #[.string xk, .int .i64 xa, .int .i64 xb, .string xt] ∧ ov.ownBlock ≠ some p ∧ dn ++ mergeA (⟨xk, ⟨xa, xb, xt⟩⟩ :: a.drop (k + 1)) (b.drop j) = T) (fun _ iv _ => nb - (intOf iv).toNat)
      case atStart => exact ⟨i, done, hi, rfl, hg.trans hgW, hOW, hBx, hne, ht⟩
      case round =>
        obtain ⟨j, dn, hj, rfl, hgi, hOi, hBi, hnei, hti⟩ := hrel
        obtain ⟨ia, im, ic, rfl, -, -, him⟩ := hOi.sl
        have x0 := hBi.cell 0; have x1 := hBi.cell 1; have x2 := hBi.cell 2; have x3 := hBi.cell 3; have xz := hBi.lt
        simp at x0 x1 x2 x3
        by_cases hjl : j < nb
        · obtain ⟨bb, bo, yk, ya, yb, yt, hy, hbe, y0, y1, y2, y3, t1, t2⟩ := (RdAttrs.gr hb hgi).at_ j hjl
          subst hbe
          have hjl' : (j : Int) < nb := by omega
          rw [drop_cons hy] at hti
          have hdl : dn.length + 1 ≤ 1099511627776 := by
            have := congrArg List.length hti
            rcases merge_three (⟨xk, ⟨xa, xb, xt⟩⟩ : Attr) (⟨yk, ⟨ya, yb, yt⟩⟩ : Attr) with h | h | h
            · rw [merge_lt h] at this; simp at this; omega
            · rw [merge_gt h] at this; simp at this; omega
            · rw [merge_eq h] at this; simp at this; omega
          rcases merge_three (⟨xk, ⟨xa, xb, xt⟩⟩ : Attr) (⟨yk, ⟨ya, yb, yt⟩⟩ : Attr) with h | h | h
          · have hl1 : keyLt yk xk = false := keyLt_asymm h
            have hl2 : eqS yk xk = false := by
              have : ¬ yk = xk := fun e => by rw [e] at h; rw [keyLt_irrefl] at h; cases h
              simpa [eqS] using this
            rw [merge_lt h] at hti
            have Hti := Lib.hid hti; have Hy := Lib.hid hy; clear hti h hy
            go_wp2
            go_quiet (fail)
            obtain ⟨w3, hww3⟩ : ∃ wZ, World.drewN wr nq = wZ := ⟨_, rfl⟩
            rw [hww3]
            have hg3 : Gr wr w3 := hww3 ▸ (Gr.refl wr).drewN nq
            clear hww3
            have x0 := Gr.cell hg3 x0; have x1 := Gr.cell hg3 x1; have x2 := Gr.cell hg3 x2; have x3 := Gr.cell hg3 x3
            have y0 := Gr.cell hg3 y0; have y1 := Gr.cell hg3 y1; have y2 := Gr.cell hg3 y2; have y3 := Gr.cell hg3 y3
            go_wp2
            go_quiet (fail)
            obtain ⟨w4, hww4⟩ : ∃ wZ, World.drewN w3 nq = wZ := ⟨_, rfl⟩
            rw [hww4]
            have hg4 : Gr w3 w4 := hww4 ▸ (Gr.refl w3).drewN nq
            clear hww4
            have hgi4 : Gr w w4 := hgi.trans (hg3.trans hg4)
            have x0 := Gr.cell hg4 x0; have x1 := Gr.cell hg4 x1; have x2 := Gr.cell hg4 x2; have x3 := Gr.cell hg4 x3
            obtain ⟨v', w', hrun, hown, hk3, hk4, hk5, hk6⟩ := push_attr w4 w.heap.size 61 xk xa xb xt (OwnL.gr (w := wr) (w' := w4) hOi (fun _ _ h => h) (hg3.trans hg4)) s1 s2 hdl hgi4.size
            have HP := Lib.hid (And.intro hrun (And.intro hown (And.intro hk3 (And.intro hk4 (And.intro hk5 hk6))))); clear hrun hown hk3 hk4 hk5 hk6
            go_wp2_with (at_builtin; refine wpList_run rfl _ _ _ rfl rfl rfl HP.out.1 ?_)
            go_roundw
            case rel => exact ⟨k + 1, j, dn ++ [⟨xk, ⟨xa, xb, xt⟩⟩], by omega, hj, by go_num, rfl, Gr.push (w := w4) hgi4 HP.out.2.2.1 HP.out.2.2.2.1, HP.out.2.1, by rw [← Hti.out, drop_cons Hy.out, List.append_assoc]; rfl, _, hr2⟩
            case measure => simp [intOf]; omega
          · have hl1 : keyLt yk xk = true := h
            rw [merge_gt h] at hti
            have Hti := Lib.hid hti; clear hti h hy
            go_wp2
            go_quiet (fail)
            obtain ⟨w4, hww4⟩ : ∃ wZ, World.drewN wr nq = wZ := ⟨_, rfl⟩
            rw [hww4]
            have hg4 : Gr wr w4 := hww4 ▸ (Gr.refl wr).drewN nq
            clear hww4
            have hgi4 : Gr w w4 := hgi.trans hg4
            have y0 := Gr.cell hg4 y0; have y1 := Gr.cell hg4 y1; have y2 := Gr.cell hg4 y2; have y3 := Gr.cell hg4 y3
            obtain ⟨v', w', hrun, hown, hk3, hk4, hk5, hk6⟩ := push_attr w4 w.heap.size 61 yk ya yb yt (OwnL.gr (w := wr) (w' := w4) hOi (fun _ _ h => h) hg4) t1 t2 hdl hgi4.size
            have HP := Lib.hid (And.intro hrun (And.intro hown (And.intro hk3 (And.intro hk4 (And.intro hk5 hk6))))); clear hrun hown hk3 hk4 hk5 hk6
            go_wp2_with (at_builtin; refine wpList_run rfl _ _ _ rfl rfl rfl HP.out.1 ?_)
            go_roundw
            case rel =>
              refine ⟨j + 1, dn ++ [⟨yk, ⟨ya, yb, yt⟩⟩], by omega, by go_num, Gr.push (w := w4) hgi4 HP.out.2.2.1 HP.out.2.2.2.1, HP.out.2.1, (hBi.gr hg4).besA HP.out.2.2.2.2.1 hnei, fun e => ?_, by rw [← Hti.out, List.append_assoc]; rfl⟩
              rcases HP.out.2.2.2.2.2 p e with h | h
              · exact hnei h
              · have := hg4.size; omega
            case measure => simp [intOf]; omega
          · have hl1 : keyLt yk xk = false := by rw [show yk = xk from h.symm]; exact keyLt_irrefl _
            have hl2 : eqS yk xk = true := by rw [show yk = xk from h.symm]; simp [eqS]
            rw [merge_skip h (show riseA (some (Attr.key ⟨xk, ⟨xa, xb, xt⟩⟩)) (a.drop (k + 1)) = true from hr2), ← drop_cons hy] at hti
            have Hti := Lib.hid hti; clear hti h hy
            go_wp2
            go_quiet (fail)
            obtain ⟨w3, hww3⟩ : ∃ wZ, World.drewN wr nq = wZ := ⟨_, rfl⟩
            rw [hww3]
            have hg3 : Gr wr w3 := hww3 ▸ (Gr.refl wr).drewN nq
            clear hww3
            have x0 := Gr.cell hg3 x0; have x1 := Gr.cell hg3 x1; have x2 := Gr.cell hg3 x2; have x3 := Gr.cell hg3 x3
            have y0 := Gr.cell hg3 y0; have y1 := Gr.cell hg3 y1; have y2 := Gr.cell hg3 y2; have y3 := Gr.cell hg3 y3
            go_wp2
            go_quiet (fail)
            obtain ⟨w4, hww4⟩ : ∃ wZ, World.drewN w3 nq = wZ := ⟨_, rfl⟩
            rw [hww4]
            have hg4 : Gr w3 w4 := hww4 ▸ (Gr.refl w3).drewN nq
            clear hww4
            go_wp2
            go_roundw
            case rel => exact ⟨k + 1, j, dn, by omega, hj, by go_num, rfl, hgi.trans (hg3.trans hg4), OwnL.gr (w := wr) (w' := w4) hOi (fun _ _ h => h) (hg3.trans hg4), Hti.out, _, hr2⟩
            case measure => simp [intOf]; omega
        · obtain rfl : j = nb := by omega
          rw [List.drop_eq_nil_of_le (show b.length ≤ j by rw [hnb.out]; exact Nat.le_refl _), merge_nil'] at hti
          have hdl : dn.length + 1 ≤ 1099511627776 := by
            have := congrArg List.length hti
            simp at this; omega
          have Hti := Lib.hid hti; clear hti
          go_wp2
          go_quiet (fail)
          obtain ⟨w3, hww3⟩ : ∃ wZ, World.drewN wr nq = wZ := ⟨_, rfl⟩
          rw [hww3]
          have hg3 : Gr wr w3 := hww3 ▸ (Gr.refl wr).drewN nq
          clear hww3
          have x0 := Gr.cell hg3 x0; have x1 := Gr.cell hg3 x1; have x2 := Gr.cell hg3 x2; have x3 := Gr.cell hg3 x3
          go_wp2
          go_quiet (fail)
          obtain ⟨w4, hww4⟩ : ∃ wZ, World.drewN w3 nq = wZ := ⟨_, rfl⟩
          rw [hww4]
          have hg4 : Gr w3 w4 := hww4 ▸ (Gr.refl w3).drewN nq
          clear hww4
          have hgi4 : Gr w w4 := hgi.trans (hg3.trans hg4)
          have x0 := Gr.cell hg4 x0; have x1 := Gr.cell hg4 x1; have x2 := Gr.cell hg4 x2; have x3 := Gr.cell hg4 x3
          obtain ⟨v', w', hrun, hown, hk3, hk4, hk5, hk6⟩ := push_attr w4 w.heap.size 61 xk xa xb xt (OwnL.gr (w := wr) (w' := w4) hOi (fun _ _ h => h) (hg3.trans hg4)) s1 s2 hdl hgi4.size
          have HP := Lib.hid (And.intro hrun (And.intro hown (And.intro hk3 (And.intro hk4 (And.intro hk5 hk6))))); clear hrun hown hk3 hk4 hk5 hk6
          go_wp2_with (at_builtin; refine wpList_run rfl _ _ _ rfl rfl rfl HP.out.1 ?_)
          go_roundw
          case rel => exact ⟨k + 1, j, dn ++ [⟨xk, ⟨xa, xb, xt⟩⟩], by omega, hj, by go_num, rfl, Gr.push (w := w4) hgi4 HP.out.2.2.1 HP.out.2.2.2.1, HP.out.2.1, by rw [← Hti.out, List.drop_eq_nil_of_le (show b.length ≤ j by rw [hnb.out]; exact Nat.le_refl _), merge_nil', List.append_assoc]; rfl, _, hr2⟩
          case measure => simp [intOf]; omega
    · obtain rfl : k = na := by omega
      rw [List.drop_eq_nil_of_le (show a.length ≤ k by rw [hna.out]; exact Nat.le_refl _), merge_nil] at ht
      have Ht := Lib.hid ht; clear ht hr
      obtain ⟨wo, rfl⟩ : ∃ wo : World, wo = wr := ⟨_, rfl⟩
      have hic : ¬ i > cb := by omega
      obtain ⟨ad, hsl, hrd⟩ := rd_slSh (RdAttrs.gr (w' := wo) hb hg) i hi
      obtain ⟨v', w', hrun, hown, hk3, -⟩ := app_attr wo w.heap.size 61 hO hrd (by rw [List.length_drop]; have := congrArg List.length Ht.out; rw [List.length_append, List.length_drop] at this; omega) hg.size
      rw [Ht.out] at hown
      have hgw' : Gr w w' := Gr.grown (w := wo) hg hk3 (fun b hb => (own_ltA hO b hb).1)
      have hor : RdAttrs w' v' T := OwnL.rd hown (by omega)
      obtain ⟨x1, x2, x3, rfl, -⟩ := hown.sl
      have HP := Lib.hid (And.intro hrun hown); clear hrun hown hk3
      have hhas : ∀ y ∈ b, (getK T y.key).isSome = true := fun y hy => getK_some (by rw [← HT.out]; exact merge_has _ a b (Nat.le_refl _) y hy)
      go_wp2_with (at_builtin; refine wpList_run rfl _ _ _ rfl rfl rfl HP.out.1 ?_)
      go_loopw [5, 69] (fun ov iv wi => ∃ (j : Nat), j ≤ nb ∧ ov = .slice x1 x2 x3 ∧ iv = .int .i64 j ∧ Gr w' wi) (fun _ iv _ => nb - (intOf iv).toNat)
      case atStart => exact ⟨0, Nat.zero_le _, rfl, rfl, (by repeat (with_reducible first | assumption | exact Gr.refl _ | apply Gr.alloc | apply Gr.drewN | apply Gr.drew | apply Gr.iter | (refine Gr.setCell ?_ (by simp) _) | (refine Gr.trans ?_ (by assumption))))⟩
      case round =>
        obtain ⟨j, hj, rfl, rfl, hgi⟩ := hrel
        by_cases hjl : j < nb
        · obtain ⟨bb, bo, yk, ya, yb, yt, hy, hbe, y0, y1, y2, y3, t1, t2⟩ := (RdAttrs.gr (w' := wr) hb (by repeat (with_reducible first | assumption | exact Gr.refl _ | apply Gr.alloc | apply Gr.drewN | apply Gr.drew | apply Gr.iter | (refine Gr.setCell ?_ (by simp) _) | (refine Gr.trans ?_ (by assumption))))).at_ j hjl
          subst hbe
          have hjl' : (j : Int) < nb := by omega
          obtain ⟨pv, hpv⟩ : ∃ pv, getK T yk = some pv := Option.isSome_iff_exists.1 (hhas _ (List.mem_of_getElem? hy))
          have HPV := Lib.hid hpv; clear hpv hy
          go_wp2_with (go_at_call 152; refine (rhas_any T _ yk _ (RdAttrs.gr hor (by repeat (with_reducible first | assumption | exact Gr.refl _ | apply Gr.alloc | apply Gr.drewN | apply Gr.drew | apply Gr.iter | (refine Gr.setCell ?_ (by simp) _) | (refine Gr.trans ?_ (by assumption)))))).mono ?_; rw [HPV.out]; dsimp only [plV, Option.getD_some, Option.isSome_some]; rintro e w3 ⟨rfl, hg3⟩)
          go_roundw
          case rel => exact ⟨j + 1, by omega, rfl, by go_num, (by repeat (with_reducible first | assumption | exact Gr.refl _ | apply Gr.alloc | apply Gr.drewN | apply Gr.drew | apply Gr.iter | (refine Gr.setCell ?_ (by simp) _) | (refine Gr.trans ?_ (by assumption))))⟩
          case measure => simp [intOf]; omega
        · obtain rfl : j = nb := by omega
          go_wp2
          go_ret
          exact ⟨_, rfl, OwnL.gr (w := w') HP.out.2 (fun _ _ h => h) (by repeat (with_reducible first | assumption | exact Gr.refl _ | apply Gr.alloc | apply Gr.drewN | apply Gr.drew | apply Gr.iter | (refine Gr.setCell ?_ (by simp) _) | (refine Gr.trans ?_ (by assumption)))), (by repeat (with_reducible first | assumption | exact Gr.refl _ | apply Gr.alloc | apply Gr.drewN | apply Gr.drew | apply Gr.iter | (refine Gr.setCell ?_ (by simp) _) | (refine Gr.trans ?_ (by assumption))))⟩


set_option maxHeartbeats 4000000 in
theorem rwhole_any (l : List Attr) (v : Value) (w : World) (hl : RdAttrs w v l) :
    Calls Tryz.prog 154 #[v] w fun e w' => ∃ v', e = .returned v' ∧ OwnL AttrR 4 w.heap.size 176 w' v' (wholeA l) ∧ Gr w w' := by
  obtain ⟨a, n, cap, rfl, hcap, hm, hb, hn⟩ := hl.sl
  obtain ⟨T, hT⟩ : ∃ T, wholeA l = T := ⟨_, rfl⟩
  rw [hT]
  have HT := Lib.hid hT; clear hT
  go_enter Tryz.func154, Tryz.ntmps154
  go_wp2
  go_loopw [3, 9] (fun ov i wr => ∃ (k : Nat) (done : List Attr), k ≤ n ∧ i = .int .i64 k ∧ Gr w wr ∧ OwnL AttrR 4 w.heap.size 176 wr ov done ∧ done ++ wholeA (l.drop k) = T ∧ done.length ≤ k) (fun _ i _ => n - (intOf i).toNat)
  case atStart => exact ⟨0, [], Nat.zero_le _, rfl, (by repeat (with_reducible first | assumption | exact Gr.refl _ | apply Gr.alloc | apply Gr.drewN | apply Gr.drew | apply Gr.iter | (refine Gr.setCell ?_ (by simp) _) | (refine Gr.trans ?_ (by assumption)))), made_attr w, HT.out, Nat.le_refl _⟩
  case round =>
    obtain ⟨k, done, hk, rfl, hg, hO, ht, hdl⟩ := hrel
    obtain ⟨oa, on, oc, rfl, -, -, -⟩ := hO.sl
    by_cases hlt : k < n
    · obtain ⟨b, off, xk, xa, xb, xt, hx, rfl, a0, a1, a2, a3, s1, s2⟩ := (RdAttrs.gr (w' := wr) hl (by repeat (with_reducible first | assumption | exact Gr.refl _ | apply Gr.alloc | apply Gr.drewN | apply Gr.drew | apply Gr.iter | (refine Gr.setCell ?_ (by simp) _) | (refine Gr.trans ?_ (by assumption))))).at_ k hlt
      have hlt' : (k : Int) < n := by omega
      rw [drop_cons hx] at ht
      clear hx
      by_cases hz : xa = 0
      · have e : wholeA (⟨xk, ⟨xa, xb, xt⟩⟩ :: l.drop (k + 1)) = wholeA (l.drop (k + 1)) := by unfold wholeA; rw [List.filter_cons]; simp [hz]
        rw [e] at ht
        have Ht := Lib.hid ht; clear ht e
        have hz1 : (xa == 0) = true := by simpa using hz
        have hz2 : (xa != 0) = false := by simpa using hz
        clear hz
        go_wp2
        go_roundw
        case rel => exact ⟨k + 1, done, by omega, by go_num, (by repeat (with_reducible first | assumption | exact Gr.refl _ | apply Gr.alloc | apply Gr.drewN | apply Gr.drew | apply Gr.iter | (refine Gr.setCell ?_ (by simp) _) | (refine Gr.trans ?_ (by assumption)))), OwnL.gr (w := wr) hO (fun _ _ h => h) (by repeat (with_reducible first | assumption | exact Gr.refl _ | apply Gr.alloc | apply Gr.drewN | apply Gr.drew | apply Gr.iter | (refine Gr.setCell ?_ (by simp) _) | (refine Gr.trans ?_ (by assumption)))), Ht.out, by omega⟩
        case measure => simp [intOf]; omega
      · have e : wholeA (⟨xk, ⟨xa, xb, xt⟩⟩ :: l.drop (k + 1)) = ⟨xk, ⟨xa, xb, xt⟩⟩ :: wholeA (l.drop (k + 1)) := by unfold wholeA; rw [List.filter_cons]; simp [hz]
        rw [e] at ht
        have Ht := Lib.hid ht; clear ht e
        have hz1 : (xa == 0) = false := by simpa using hz
        have hz2 : (xa != 0) = true := by simpa using hz
        clear hz
        have hB := Blk.new wr 176 #[.string xk, .int .i64 xa, .int .i64 xb, .string xt]
        obtain ⟨v', w', hrun, hown, hk3, hk4, -, -⟩ := push_attr (wr.alloc (.cells #[.string xk, .int .i64 xa, .int .i64 xb, .string xt] 176)) w.heap.size 61 xk xa xb xt (OwnL.gr (w := wr) hO (fun _ _ h => h) (by repeat (with_reducible first | assumption | exact Gr.refl _ | apply Gr.alloc | apply Gr.drewN | apply Gr.drew | apply Gr.iter | (refine Gr.setCell ?_ (by simp) _) | (refine Gr.trans ?_ (by assumption))))) s1 s2 (by omega) (Gr.size (w := w) (by repeat (with_reducible first | assumption | exact Gr.refl _ | apply Gr.alloc | apply Gr.drewN | apply Gr.drew | apply Gr.iter | (refine Gr.setCell ?_ (by simp) _) | (refine Gr.trans ?_ (by assumption)))))
        rw [World.size_alloc] at hrun
        have HP := Lib.hid (And.intro hrun (And.intro hown (And.intro hk3 hk4))); clear hrun hown hk3 hk4
        go_wp2_with (at_builtin; refine wpList_run rfl _ _ _ rfl rfl rfl HP.out.1 ?_)
        go_roundw
        case rel => exact ⟨k + 1, done ++ [⟨xk, ⟨xa, xb, xt⟩⟩], by omega, by go_num, Gr.push (w := wr.alloc _) (by repeat (with_reducible first | assumption | exact Gr.refl _ | apply Gr.alloc | apply Gr.drewN | apply Gr.drew | apply Gr.iter | (refine Gr.setCell ?_ (by simp) _) | (refine Gr.trans ?_ (by assumption)))) HP.out.2.2.1 HP.out.2.2.2, HP.out.2.1, by rw [← Ht.out, List.append_assoc]; rfl, by rw [List.length_append, List.length_singleton]; omega⟩
        case measure => simp [intOf]; omega
    · obtain rfl : k = n := by omega
      rw [List.drop_eq_nil_of_le (by rw [hn.out]; exact Nat.le_refl _)] at ht
      have Ht := Lib.hid ht; clear ht
      go_wp2
      go_ret
      have e := Ht.out
      rw [show wholeA [] = [] from rfl, List.append_nil] at e
      exact ⟨_, rfl, e ▸ hO, hg⟩


set_option maxHeartbeats 1000000 in
theorem rpatched_any (a b : List Attr) (va vb : Value) (w : World) (ha : RdAttrs w va a) (hb : RdAttrs w vb b) (hra : riseA none a = true) (hN : a.length + b.length ≤ 1099511627776) :
    Calls Tryz.prog 115 #[va, vb] w fun e w' => ∃ v', e = .returned v' ∧ OwnL AttrR 4 w.heap.size 176 w' v' (compA false a b) ∧ Gr w w' := by
  obtain ⟨aa, na, ca, rfl, -⟩ := ha.sl
  obtain ⟨ab, nb, cb, rfl, -⟩ := hb.sl
  have hTl := merge_len _ a b (Nat.le_refl _)
  rw [show compA false a b = wholeA (mergeA a b) from rfl]
  obtain ⟨T, hT⟩ : ∃ T, mergeA a b = T := ⟨_, rfl⟩
  rw [hT] at hTl ⊢
  have HT := Lib.hid hT; clear hT
  go_enter Tryz.func115, Tryz.ntmps115
  go_wp2_with (first
    | (go_at_call 114; refine (rjoin_any a b _ _ _ (RdAttrs.gr ha (by repeat (with_reducible first | assumption | exact Gr.refl _ | apply Gr.alloc | apply Gr.drewN | apply Gr.drew | apply Gr.iter | (refine Gr.setCell ?_ (by simp) _) | (refine Gr.trans ?_ (by assumption))))) (RdAttrs.gr hb (by repeat (with_reducible first | assumption | exact Gr.refl _ | apply Gr.alloc | apply Gr.drewN | apply Gr.drew | apply Gr.iter | (refine Gr.setCell ?_ (by simp) _) | (refine Gr.trans ?_ (by assumption))))) hra hN).mono ?_; rw [HT.out]; rintro e w1 ⟨v1, rfl, hO1, hg1⟩; have hR1 : RdAttrs w1 v1 T := OwnL.rd hO1 (by omega); obtain ⟨x1, x2, x3, rfl, -⟩ := hO1.sl)
    | (go_at_call 154; refine (rwhole_any T _ _ (RdAttrs.gr hR1 (by repeat (with_reducible first | assumption | exact Gr.refl _ | apply Gr.alloc | apply Gr.drewN | apply Gr.drew | apply Gr.iter | (refine Gr.setCell ?_ (by simp) _) | (refine Gr.trans ?_ (by assumption)))))).mono ?_; rintro e w2 ⟨v2, rfl, hO2, hg2⟩; have hz1 : w.heap.size ≤ w1.heap.size := Gr.size (w := w) (w' := w1) (by repeat (with_reducible first | assumption | exact Gr.refl _ | apply Gr.alloc | apply Gr.drewN | apply Gr.drew | apply Gr.iter | (refine Gr.setCell ?_ (by simp) _) | (refine Gr.trans ?_ (by assumption)))); obtain ⟨y1, y2, y3, rfl, -⟩ := hO2.sl))
  go_ret
  exact ⟨_, rfl, OwnL.base_le hO2 hz1, (by repeat (with_reducible first | assumption | exact Gr.refl _ | apply Gr.alloc | apply Gr.drewN | apply Gr.drew | apply Gr.iter | (refine Gr.setCell ?_ (by simp) _) | (refine Gr.trans ?_ (by assumption))))⟩

end Ve
