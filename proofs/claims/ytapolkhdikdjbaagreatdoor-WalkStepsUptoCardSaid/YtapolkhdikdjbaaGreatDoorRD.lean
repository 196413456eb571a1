/- Walks: vellumspare.Copy, Heavy; vellummade.Delta, Is. -/
import Derived.Test.YtapolkhdikdjbaaGreatDoorRC
set_option linter.all false
namespace Ve
open Go Go.RowKit Go.Proofs

theorem OwnOps.setNew {base : Nat} {w : World} {v : Value} {l : List Op} (h : OwnOps base w v l) {W : World} (hg : Gr w W) {p : Addr} (hp : w.heap.size ≤ p.block) (u : Value) : OwnOps base (W.setCell p u) v l := OwnOps.gr h (Gr.setCell hg hp u)
theorem OwnA.setLow {w : World} {v : Value} {l : List Attr} {base : Nat} (h : OwnL AttrR 4 base 83 w v l) (hl : l.length ≤ 1099511627776) {p : Addr} (hp : p.block < base) (u : Value) : OwnA (w.setCell p u) v l := ⟨(OwnAL.setCell h hp u).base_le (Nat.zero_le _), hl⟩
set_option maxRecDepth 20000 in
set_option maxHeartbeats 4000000 in
theorem scopy_any (l : List Op) (v : Value) (w : World) (hl : RdOps w v l) (hb : l.length + 1 ≤ 1099511627776) (hat : ∀ o ∈ l, o.attrs.length + 1 ≤ 1099511627776) :
    Calls Tryz.prog 91 #[v] w fun e w' => ∃ v', e = .returned v' ∧ RdOps w' v' l ∧ Gr w w' := by
  obtain ⟨a, n, cap, rfl, hcap, hm, -, hn⟩ := hl.sl
  have hb' : n + 1 ≤ 1099511627776 := by rw [← hn.out]; exact hb
  go_enter Tryz.func91, Tryz.ntmps91
  go_wp2
  go_loopw [3, 9] (fun o i wr => ∃ k : Nat, k ≤ n ∧ i = .int .i64 k ∧ Gr w wr ∧ OwnOps w.heap.size wr o (l.take k)) (fun _ i _ => n - (intOf i).toNat)
  case atStart => exact ⟨0, Nat.zero_le _, rfl, (by repeat (with_reducible first | assumption | exact Gr.refl _ | apply Gr.alloc | apply Gr.drewN | apply Gr.drew | apply Gr.iter | (refine Gr.setCell ?_ (by simp) _) | (refine Gr.trans ?_ (by assumption)))), OwnL.made w OpO 7 w.heap.size 46 (Nat.le_refl _)⟩
  case round =>
    obtain ⟨k, hk, rfl, hg, ho⟩ := hrel
    obtain ⟨oa, om, oc, rfl, -, -, hom⟩ := ho.sl
    by_cases hlt : k < n
    · obtain ⟨b, off, xk, xt, xa, xb, xv, xc, ats, sl, hx, rfl, hr, c0, c1, c2, c3, c4, c5, c6, s1, s2⟩ := (RdOps.gr hl hg).at_ k hlt
      have hlt' : (k : Int) < n := by omega
      have hats := hat _ (List.mem_of_getElem? hx)
      simp only at hats
      have hst : l.take (k + 1) = l.take k ++ [⟨xk, xt, ⟨xa, xb, xv⟩, xc, ats⟩] := by
        obtain ⟨h1, h2⟩ := List.getElem?_eq_some_iff.1 hx
        rw [List.take_succ_eq_append_getElem h1, h2]
      have HS := Lib.hid hst; clear hst hx
      obtain ⟨sa, sn, sc, rfl, -⟩ := hr.sl
      have hB0 := Blk.new wr 46 #[.int .i64 xk, .string xt, .int .i64 xa, .int .i64 xb, .string xv, .int .i64 xc, .slice sa sn sc]
      have HO := Lib.hid ho; clear ho
      go_wp2_with (first
        | (go_at_call 148; refine (sattrs_any ats _ _ (RdAttrs.gr (w := wr) hr (by repeat (with_reducible first | assumption | exact Gr.refl _ | apply Gr.alloc | apply Gr.drewN | apply Gr.drew | apply Gr.iter | (refine Gr.setCell ?_ (by simp) _) | (refine Gr.trans ?_ (by assumption))))) hats).mono ?_; rintro e w2 ⟨v2, rfl, ho2, hg2⟩; obtain ⟨a2, n2, c2', rfl, -⟩ := ho2.sl; have hB2 := hB0.gr hg2; have b2 := hB2.cell; have f2 := hB2.frozen; have z2 := hB2.lt; have hB3 := hB2.set 6 (.slice a2 n2 c2'); simp at hB3; have b3 := hB3.cell; obtain ⟨v', w'', hrun, hown, hkg⟩ := push_op (w2.setCell ⟨wr.heap.size, 6, none⟩ (.slice a2 n2 c2')) w.heap.size 22 ⟨xk, xt, ⟨xa, xb, xv⟩, xc, ats⟩ (.slice a2 n2 c2') (OwnOps.setNew HO.out (((Gr.refl wr).alloc _).trans hg2) (Nat.le_refl _) _) (OwnA.setLow ho2 (by omega) (by simp) _) s1 s2 (by simp only [List.length_take]; have := hn.out; omega) (by rw [show (w2.setCell ⟨wr.heap.size, 6, none⟩ (.slice a2 n2 c2')).heap.size = w2.heap.size from by simp [World.setCell]]; exact Nat.le_trans hg.size (Nat.le_trans (Nat.le_succ _) (by have := hg2.size; simpa using this))); rw [show (w2.setCell ⟨wr.heap.size, 6, none⟩ (.slice a2 n2 c2')).heap.size = w2.heap.size from by simp [World.setCell]] at hrun; have HP := Lib.hid (And.intro hrun (And.intro hown hkg)); clear hrun hown hkg)
        | (at_builtin; refine wpList_run rfl (.tmp 17) (.tmp 19) 22 rfl rfl rfl HP.out.1 ?_))
      go_roundw
      case rel => exact ⟨k + 1, by omega, by go_num, Gr.kg (Gr.setCell (show Gr w w2 from (by repeat (with_reducible first | assumption | exact Gr.refl _ | apply Gr.alloc | apply Gr.drewN | apply Gr.drew | apply Gr.iter | (refine Gr.setCell ?_ (by simp) _) | (refine Gr.trans ?_ (by assumption))))) hg.size _) HP.out.2.2 (Nat.le_refl _), by rw [HS.out]; exact HP.out.2.1⟩
      case measure => simp [intOf]; omega
    · obtain rfl : k = n := by omega
      have hlt : l.take k = l := List.take_of_length_le (by rw [hn.out]; exact Nat.le_refl _)
      rw [hlt] at ho
      have hln := hn.out
      obtain ⟨v', w', hrun, hown, hkg⟩ := push_op wr w.heap.size 22 ⟨77, ⟨#[]⟩, ⟨0, 0, ⟨#[]⟩⟩, 0, []⟩ (.slice none 0 0) ho ⟨OwnL.nil .., by simp⟩ (by simp only [szS]; decide) (by simp only [szS]; decide) hb hg.size
      obtain ⟨g2, cap2, rfl, hcap2, hcapm⟩ := hown.shape (by simp)
      simp only [List.length_append, List.length_singleton] at hrun hcap2 hown
      have hpop := OwnL.popg hown rfl
      rw [hln] at hrun hpop hcap2
      have hn' : (k : Int) ≤ cap2 := by omega
      have hgr : Gr w w' := Gr.kg hg hkg (Nat.le_refl _)
      have HP := Lib.hid (And.intro hrun (And.intro hpop hgr)); clear hrun hpop hown hkg hgr
      go_wp2_with (at_builtin; refine wpList_run rfl (.tmp 22) (.tmp 24) 22 rfl rfl rfl HP.out.1 ?_)
      go_ret
      exact ⟨_, rfl, OwnOps.rd HP.out.2.1 (by omega), HP.out.2.2⟩
set_option maxHeartbeats 400000 in
theorem madeis_any (ps : List Piece) (l : List Op) (v vl : Value) (w : World) (hD : DeltaR w v ps) (hgood : ∀ p ∈ ps, p.good) (hl : RdOps w vl l) :
    Calls Tryz.prog 24 #[v, vl] w fun e w' => e = .returned (.bool (decide (ps.map Piece.op = l))) ∧ Gr w w' := by
  have hlen := hD.short
  obtain ⟨g, sl, rfl, hB, hr⟩ := hD
  have hD : DeltaR w (.pointer (some ⟨g, 0, none⟩)) ps := ⟨g, sl, rfl, hB, hr⟩
  obtain ⟨al, nl, cl, rfl, -, -, -, -⟩ := hl.sl
  obtain ⟨L, hL⟩ : ∃ L, ps.map Piece.op = L := ⟨_, rfl⟩
  have hLl : L.length ≤ 1099511627776 := by rw [← hL]; simpa using hlen
  rw [hL]
  have HL := Lib.hid (And.intro hL hLl); clear hL hLl hB hr
  go_enter Tryz.func24, Tryz.ntmps24
  go_wp2_with (first
    | (go_at_call 36; refine (dops_any _ _ _ (hD.gr (by repeat (with_reducible first | assumption | exact Gr.refl _ | apply Gr.alloc | apply Gr.drewN | apply Gr.drew | apply Gr.iter | (refine Gr.setCell ?_ (by simp) _) | (refine Gr.trans ?_ (by assumption))))) hgood).mono ?_; rw [HL.out.1]; rintro e w1 ⟨v1, rfl, ho1, hg1⟩; have hR1 := OwnOps.rd ho1 HL.out.2; obtain ⟨a1, n1, c1, rfl, -⟩ := ho1.sl)
    | (go_at_call 37; refine (sameops_any L l _ _ _ (RdOps.gr hR1 (by repeat (with_reducible first | assumption | exact Gr.refl _ | apply Gr.alloc | apply Gr.drewN | apply Gr.drew | apply Gr.iter | (refine Gr.setCell ?_ (by simp) _) | (refine Gr.trans ?_ (by assumption))))) (RdOps.gr hl (by repeat (with_reducible first | assumption | exact Gr.refl _ | apply Gr.alloc | apply Gr.drewN | apply Gr.drew | apply Gr.iter | (refine Gr.setCell ?_ (by simp) _) | (refine Gr.trans ?_ (by assumption)))))).mono ?_; rintro e w2 ⟨rfl, hg2⟩))
  go_ret
  exact ⟨rfl, (by repeat (with_reducible first | assumption | exact Gr.refl _ | apply Gr.alloc | apply Gr.drewN | apply Gr.drew | apply Gr.iter | (refine Gr.setCell ?_ (by simp) _) | (refine Gr.trans ?_ (by assumption))))⟩
set_option maxRecDepth 20000 in
set_option maxHeartbeats 2000000 in
theorem made_any {ea : Nat → Addr} (l : List Op) (v : Value) (w : World) (hE : Env ea w) (hl : RdOps w v l) (hT : opsum l ≤ 1099511627776) (hN : 2 * l.length + 4 ≤ 1099511627776) (hat : ∀ o ∈ l, o.attrs.length + 1 ≤ 1099511627776) :
    Calls Tryz.prog 17 #[v] w fun e w' => ∃ dv ov, e = .returned (.tuple #[dv, ov, .bool (decide ((pushAll l).2.2 = 0))]) ∧ Gr w w' ∧
      ((pushAll l).2.2 = 0 → DeltaR w' dv (pushAll l).1.delta ∧ RdOps w' ov ((pushAll l).1.delta.map Piece.op)) ∧ ((pushAll l).2.2 ≠ 0 → dv = .pointer none ∧ ov = .slice none 0 0) := by
  obtain ⟨a, n, cap, rfl, -, -, -, hn⟩ := hl.sl
  obtain ⟨s, i, e0, hP⟩ : ∃ s i e0, pushAll l = (s, i, e0) := ⟨_, _, _, rfl⟩
  have HP := Lib.hid hP
  rw [hP]
  clear hP
  dsimp only
  by_cases h0 : e0 = 0
  · subst h0
    go_enter Tryz.func17, Tryz.ntmps17
    go_wp2_with (first
      | (go_at_call 90; refine (rof06_any l _ _ (hE.gr (by repeat (with_reducible first | assumption | exact Gr.refl _ | apply Gr.alloc | apply Gr.drewN | apply Gr.drew | apply Gr.iter | (refine Gr.setCell ?_ (by simp) _) | (refine Gr.trans ?_ (by assumption))))) (RdOps.gr hl (by repeat (with_reducible first | assumption | exact Gr.refl _ | apply Gr.alloc | apply Gr.drewN | apply Gr.drew | apply Gr.iter | (refine Gr.setCell ?_ (by simp) _) | (refine Gr.trans ?_ (by assumption))))) hT hN).mono ?_; rw [HP.out]; rintro e w1 ⟨v1, rfl, hg1, hr1, -⟩; have hr1 := hr1 rfl; obtain ⟨a1, n1, c1, rfl, -⟩ := hr1.sl; have HR1 := Lib.hid hr1; clear hr1)
      | (go_at_call 91; refine (scopy_any l _ _ (RdOps.gr hl (by repeat (with_reducible first | assumption | exact Gr.refl _ | apply Gr.alloc | apply Gr.drewN | apply Gr.drew | apply Gr.iter | (refine Gr.setCell ?_ (by simp) _) | (refine Gr.trans ?_ (by assumption))))) (by omega) hat).mono ?_; rintro e w2 ⟨v2, rfl, hr2, hg2⟩; have HR2 := Lib.hid hr2; obtain ⟨a2, n2, c2, rfl, -⟩ := hr2.sl; clear hr2)
      | (go_at_call 87; refine (bof_any l _ _ (hE.gr (by repeat (with_reducible first | assumption | exact Gr.refl _ | apply Gr.alloc | apply Gr.drewN | apply Gr.drew | apply Gr.iter | (refine Gr.setCell ?_ (by simp) _) | (refine Gr.trans ?_ (by assumption))))) (RdOps.gr (w := w2) HR2.out (by repeat (with_reducible first | assumption | exact Gr.refl _ | apply Gr.alloc | apply Gr.drewN | apply Gr.drew | apply Gr.iter | (refine Gr.setCell ?_ (by simp) _) | (refine Gr.trans ?_ (by assumption))))) hT (by omega)).mono ?_; rw [HP.out]; rintro e w3 ⟨v3, rfl, hg3, hd3, -⟩; have hd3 := hd3 rfl; obtain ⟨g3, sl3, hv3, hbr3⟩ := hd3; subst hv3; have HD3 := Lib.hid (show DeltaR w3 (.pointer (some ⟨g3, 0, none⟩)) s.delta from ⟨g3, sl3, rfl, hbr3⟩); dsimp only; rw [errOf_zero]))
    go_ret3
    exact ⟨.pointer (some ⟨g3, 0, none⟩), .slice a1 n1 c1, ret_three rfl rfl (by simp), (by repeat (with_reducible first | assumption | exact Gr.refl _ | apply Gr.alloc | apply Gr.drewN | apply Gr.drew | apply Gr.iter | (refine Gr.setCell ?_ (by simp) _) | (refine Gr.trans ?_ (by assumption)))), HD3.out, RdOps.gr (w := w1) HR1.out (by repeat (with_reducible first | assumption | exact Gr.refl _ | apply Gr.alloc | apply Gr.drewN | apply Gr.drew | apply Gr.iter | (refine Gr.setCell ?_ (by simp) _) | (refine Gr.trans ?_ (by assumption))))⟩
  · have h0' : (e0 == 0) = false := by simpa using h0
    have h1' : (e0 != 0) = true := by simpa using h0
    have H0 := Lib.hid h0; clear h0
    go_enter Tryz.func17, Tryz.ntmps17
    go_wp2_with (go_at_call 90; refine (rof06_any l _ _ (hE.gr (by repeat (with_reducible first | assumption | exact Gr.refl _ | apply Gr.alloc | apply Gr.drewN | apply Gr.drew | apply Gr.iter | (refine Gr.setCell ?_ (by simp) _) | (refine Gr.trans ?_ (by assumption))))) (RdOps.gr hl (by repeat (with_reducible first | assumption | exact Gr.refl _ | apply Gr.alloc | apply Gr.drewN | apply Gr.drew | apply Gr.iter | (refine Gr.setCell ?_ (by simp) _) | (refine Gr.trans ?_ (by assumption))))) hT hN).mono ?_; rw [HP.out]; rintro e w1 ⟨v1, rfl, hg1, -, hr1⟩; have hr1 := hr1 H0.out; subst hr1)
    go_ret3
    exact ⟨_, _, ret_three rfl rfl (by simpa using H0.out), (by repeat (with_reducible first | assumption | exact Gr.refl _ | apply Gr.alloc | apply Gr.drewN | apply Gr.drew | apply Gr.iter | (refine Gr.setCell ?_ (by simp) _) | (refine Gr.trans ?_ (by assumption)))), fun h => absurd h H0.out, fun _ => ⟨rfl, rfl⟩⟩
/-- What vellumspare.Heavy adds up. -/
def heavyN (l : List Op) : Nat := (l.map fun o => 1 + o.text.size + o.attrs.length).sum
theorem heavyN_take {l : List Op} {k : Nat} {o : Op} (h : l[k]? = some o) : heavyN (l.take (k + 1)) = heavyN (l.take k) + (1 + o.text.size + o.attrs.length) := by
  obtain ⟨hl, rfl⟩ := List.getElem?_eq_some_iff.1 h
  rw [List.take_succ_eq_append_getElem hl]
  unfold heavyN
  rw [List.map_append, List.sum_append]
  simp only [List.map_cons, List.map_nil, List.sum_cons, List.sum_nil, Nat.add_zero]
theorem heavyN_le (l : List Op) (k : Nat) : heavyN (l.take k) ≤ heavyN l := by
  have : heavyN l = heavyN (l.take k) + heavyN (l.drop k) := by
    unfold heavyN
    rw [← List.sum_append, ← List.map_append, List.take_append_drop]
  omega
set_option maxHeartbeats 1000000 in
theorem heavy_any (l : List Op) (v : Value) (w : World) (hl : RdOps w v l) (hb : heavyN l ≤ 4611686018427387904) :
    Calls Tryz.prog 16 #[v] w fun e w' => e = .returned (.bool (decide (6000 < heavyN l))) ∧ Gr w w' := by
  obtain ⟨a, n, cap, rfl, hcap, hm, -, hn⟩ := hl.sl
  have HB := Lib.hid hb; clear hb
  go_enter Tryz.func16, Tryz.ntmps16
  go_wp2
  go_loopw [3, 8] (fun x i wr => ∃ k : Nat, k ≤ n ∧ i = .int .i64 k ∧ x = .int .i64 (heavyN (l.take k) : Nat) ∧ Gr w wr) (fun _ i _ => n - (intOf i).toNat)
  case atStart => exact ⟨0, Nat.zero_le _, rfl, by simp [heavyN], Gr.refl _⟩
  case round =>
    obtain ⟨k, hk, rfl, rfl, hg⟩ := hrel
    by_cases hlt : k < n
    · obtain ⟨b, off, xk, xt, xa, xb, xv, xc, ats, sl, hx, rfl, hr, c0, c1, c2, c3, c4, c5, c6, s1, s2⟩ := (RdOps.gr hl hg).at_ k hlt
      have hlt' : (k : Int) < n := by omega
      have hst := heavyN_take hx
      have hle := heavyN_le l (k + 1)
      have hbb := HB.out
      simp only at hst
      obtain ⟨sa, sn, sc, rfl, -, -, -, hsn⟩ := hr.sl
      have hsl := hsn.out
      obtain ⟨H, hH⟩ : ∃ H, heavyN (l.take k) = H := ⟨_, rfl⟩
      rw [hH] at hst ⊢
      clear hx
      go_wp2
      go_roundw
      case rel => exact ⟨k + 1, by omega, by go_num, by rw [hst]; go_num, (by repeat (with_reducible first | assumption | exact Gr.refl _ | apply Gr.alloc | apply Gr.drewN | apply Gr.drew | apply Gr.iter | (refine Gr.setCell ?_ (by simp) _) | (refine Gr.trans ?_ (by assumption))))⟩
      case measure => simp [intOf]; omega
    · obtain rfl : k = n := by omega
      rw [List.take_of_length_le (by rw [hn.out]; exact Nat.le_refl _)]
      go_wp2
      go_ret
      exact ⟨ret_bool (by rw [Bool.eq_iff_iff]; simp; omega), (by repeat (with_reducible first | assumption | exact Gr.refl _ | apply Gr.alloc | apply Gr.drewN | apply Gr.drew | apply Gr.iter | (refine Gr.setCell ?_ (by simp) _) | (refine Gr.trans ?_ (by assumption))))⟩
end Ve
