/- Walks: a walker's Rest, inserts; vellumlaw07.is, marked; walk.Steps, walk.step. -/
import Derived.Test.YtapolkhdikdjbaaGreatDoorRF
set_option linter.all false
/- Walks: a walker's Rest. -/
namespace Ve
open Go Go.RowKit Go.Proofs

set_option maxRecDepth 20000 in
set_option maxHeartbeats 4000000 in
theorem wrest_any {ea : Nat → Addr} (g : Nat) (lb : Option Nat) (ps : List Piece) (w : World) (hE : Env ea w) (hW : WalkX w g lb ps) (hC : Can ps) (hT : opsum (ps.map Piece.op) ≤ 1099511627776) (hN : 2 * ps.length + 2 ≤ 1099511627776) :
    Calls Tryz.prog 25 #[.pointer (some ⟨g, 0, none⟩)] w fun e w' => ∃ v', e = .returned v' ∧ DeltaR w' v' ps ∧ Gr w w' := by
  have hgood := hC.ok.good
  obtain ⟨s, hp, hs⟩ := hC.push
  have HPS := Lib.hid (And.intro hp hs); clear hp hs
  obtain ⟨sl, hB, hsub, -⟩ := hW
  have hl := hsub.rd
  clear hsub
  obtain ⟨a, n, cap, rfl, hcap, hm, hb, hn⟩ := hl.sl
  have b0 := hB.cell
  have HT := Lib.hid hT; clear hT
  go_enter Tryz.func25, Tryz.ntmps25
  go_wp2
  go_loopw [3, 14] (fun o i wr => ∃ k : Nat, k ≤ n ∧ i = .int .i64 k ∧ Gr w wr ∧ OwnOps w.heap.size wr o ((ps.take k).map Piece.op)) (fun _ i _ => n - (intOf i).toNat)
  case atStart => exact ⟨0, Nat.zero_le _, rfl, Gr.refl _, OwnL.nil ..⟩
  case round =>
    obtain ⟨k, hk, rfl, hg, ho⟩ := hrel
    obtain ⟨oa, om, oc, rfl, -, -, hom⟩ := ho.sl
    by_cases hlt : k < n
    · obtain ⟨b, off, p, pv, hx, rfl, hc, hp⟩ := (RdPieces.gr hl hg).at_ k hlt
      have hlt' : (k : Int) < n := by omega
      obtain ⟨T, y, f, rfl, hm, he, hcall⟩ := op_meth hp (hgood _ (List.mem_of_getElem? hx))
      have HC := Lib.hid hcall; clear hcall
      have Hx := Lib.hid hx; clear hx
      obtain ⟨ok, ot, ⟨ova, ovb, ovt⟩, oc, oats, hop⟩ : ∃ ok ot ov oc oats, p.op = ⟨ok, ot, ov, oc, oats⟩ := ⟨_, _, _, _, _, rfl⟩
      have hs := hp.sz
      have hats := op_attrs p
      rw [hop] at HC hs hats
      have Hop := Lib.hid hop; clear hop
      go_wp2_with (first
        | (go_at_fn f; refine (HC.out _ (by repeat (with_reducible first | assumption | exact Gr.refl _ | apply Gr.alloc | apply Gr.drewN | apply Gr.drew | apply Gr.iter | (refine Gr.setCell ?_ (by simp) _) | (refine Gr.trans ?_ (by assumption))))).mono ?_; rintro e w2 ⟨sv, rfl, hs2, hg2⟩; obtain ⟨sa, sn, sc, rfl, -, -, -⟩ := hs2.sl; dsimp only [opV]; obtain ⟨v', w'', hrun, hown, hkg⟩ := push_op w2 w.heap.size 22 ⟨ok, ot, ⟨ova, ovb, ovt⟩, oc, oats⟩ _ (OwnOps.gr (w := wr) ho (by repeat (with_reducible first | assumption | exact Gr.refl _ | apply Gr.alloc | apply Gr.drewN | apply Gr.drew | apply Gr.iter | (refine Gr.setCell ?_ (by simp) _) | (refine Gr.trans ?_ (by assumption))))) (OwnAL.rd (hats ▸ hs2) (hats ▸ hp.short)) hs.1 hs.2 (by simp; omega) (Nat.le_trans hg.size (Gr.size (w := wr) (by repeat (with_reducible first | assumption | exact Gr.refl _ | apply Gr.alloc | apply Gr.drewN | apply Gr.drew | apply Gr.iter | (refine Gr.setCell ?_ (by simp) _) | (refine Gr.trans ?_ (by assumption)))))); have HP := Lib.hid (And.intro hrun (And.intro hown hkg)); clear hrun hown hkg)
        | (at_builtin; refine wpList_run rfl _ _ _ rfl rfl rfl HP.out.1 ?_))
      go_roundw
      case rel =>
        obtain ⟨-, h2, h3⟩ := HP.out
        refine ⟨k + 1, by omega, by go_num, Gr.kg (by repeat (with_reducible first | assumption | exact Gr.refl _ | apply Gr.alloc | apply Gr.drewN | apply Gr.drew | apply Gr.iter | (refine Gr.setCell ?_ (by simp) _) | (refine Gr.trans ?_ (by assumption)))) h3 (Nat.le_refl _), ?_⟩
        rw [take_map Hx.out, Hop.out]; exact h2
      case measure => simp [intOf]; omega
    · obtain rfl : k = n := by omega
      rw [List.take_of_length_le (by rw [hn.out]; exact Nat.le_refl _)] at ho
      have hlen : (ps.map Piece.op).length = k := by rw [List.length_map]; exact hn.out
      have HR := Lib.hid (OwnOps.rd ho (by rw [hlen]; exact hb))
      have HLn := Lib.hid (show 2 * (ps.map Piece.op).length + 2 ≤ 1099511627776 by rw [List.length_map]; exact hN)
      clear ho hlen hN
      go_wp2_with (go_at_call 87; refine (bof_any (ps.map Piece.op) _ _ (hE.gr (by repeat (with_reducible first | assumption | exact Gr.refl _ | apply Gr.alloc | apply Gr.drewN | apply Gr.drew | apply Gr.iter | (refine Gr.setCell ?_ (by simp) _) | (refine Gr.trans ?_ (by assumption))))) HR.out HT.out HLn.out).mono ?_; rw [HPS.out.1]; rintro e w3 ⟨v3, rfl, hg3, hd3, -⟩; have hd3 := hd3 rfl; obtain ⟨g3, sl3, hv3, hbr3⟩ := hd3; subst hv3; have HD3 := Lib.hid (show DeltaR w3 (.pointer (some ⟨g3, 0, none⟩)) s.delta from ⟨g3, sl3, rfl, hbr3⟩); dsimp only; rw [errOf_zero])
      go_ret
      exact ⟨_, rfl, by have := HD3.out; rw [HPS.out.2] at this; exact DeltaR.gr (w := w3) this (by repeat (with_reducible first | assumption | exact Gr.refl _ | apply Gr.alloc | apply Gr.drewN | apply Gr.drew | apply Gr.iter | (refine Gr.setCell ?_ (by simp) _) | (refine Gr.trans ?_ (by assumption)))), (by repeat (with_reducible first | assumption | exact Gr.refl _ | apply Gr.alloc | apply Gr.drewN | apply Gr.drew | apply Gr.iter | (refine Gr.setCell ?_ (by simp) _) | (refine Gr.trans ?_ (by assumption))))⟩
end Ve
/- Walks: vellumlaw07.is; a walker's inserts. -/
namespace Ve
open Go Go.RowKit Go.Proofs

set_option maxHeartbeats 1000000 in
theorem is07_nil (t : ByteArray) (va vb : Int) (vt : ByteArray) (c : Int) (sl : Value) (l : List Attr) (w : World) (hl : RdAttrs w sl l) :
    Calls Tryz.prog 22 #[.nilIface, .agg #[.int .i64 0, .string t, .int .i64 va, .int .i64 vb, .string vt, .int .i64 c, sl]] w fun e w' => e = .returned (.bool true) ∧ Gr w w' := by
  obtain ⟨a, cap, rfl, -⟩ := hl.slice
  go_enter Tryz.func22, Tryz.ntmps22
  go_wp2
  go_ret
  exact ⟨rfl, (by repeat (with_reducible first | assumption | exact Gr.refl _ | apply Gr.alloc | apply Gr.drewN | apply Gr.drew | apply Gr.iter | (refine Gr.setCell ?_ (by simp) _) | (refine Gr.trans ?_ (by assumption))))⟩
set_option maxRecDepth 20000 in
set_option maxHeartbeats 2000000 in
theorem is07_any (p : Piece) (pv : Value) (k : Int) (t : ByteArray) (va vb : Int) (vt : ByteArray) (c : Int) (sl : Value) (l : List Attr) (w : World) (hp : PieceV w p pv) (hgood : p.good) (hl : RdAttrs w sl l) (hk : k ≠ 0) :
    Calls Tryz.prog 22 #[pv, .agg #[.int .i64 k, .string t, .int .i64 va, .int .i64 vb, .string vt, .int .i64 c, sl]] w fun e w' => e = .returned (.bool (decide (p.op = ⟨k, t, ⟨va, vb, vt⟩, c, l⟩))) ∧ Gr w w' := by
  obtain ⟨a, cap, rfl, -⟩ := hl.slice
  have hk0 : (k == 0) = false := by simpa using hk
  obtain ⟨T, y, f, rfl, hm, he, hcall⟩ := op_meth hp hgood
  have HC := Lib.hid hcall; clear hcall
  obtain ⟨ok, ot, ⟨ova, ovb, ovt⟩, oc, oats, hop⟩ : ∃ ok ot ov oc oats, p.op = ⟨ok, ot, ov, oc, oats⟩ := ⟨_, _, _, _, _, rfl⟩
  have hats := op_attrs p
  rw [hop] at HC hats
  have hats : oats = p.attrs := hats
  have hsh : oats.length ≤ 1099511627776 := by rw [hats]; exact hp.short
  have Hats := Lib.hid (And.intro hats hsh); clear hats hsh
  rw [hop]
  clear hop hp hgood
  obtain ⟨D, hD⟩ : ∃ D, decide ((⟨ok, ot, ⟨ova, ovb, ovt⟩, oc, oats⟩ : Op) = ⟨k, t, ⟨va, vb, vt⟩, c, l⟩) = D := ⟨_, rfl⟩
  rw [hD]
  have HD := Lib.hid hD; clear hD
  go_enter Tryz.func22, Tryz.ntmps22
  go_wp2
  obtain ⟨W, hW, B0, hg⟩ := blkOne w 46 #[.int .i64 k, .string t, .int .i64 va, .int .i64 vb, .string vt, .int .i64 c, .slice a l.length cap]
  rw [hW]
  have HW := Lib.hid hW; clear hW
  have q0 := B0.cell
  have q0d : ∀ n, (W.drewN n).cell? ⟨w.heap.size, 0, none⟩ = some (.int .i64 k) := fun n => by have := q0 0; simpa using this
  have z0 := B0.lt
  go_region_with (first
    | (go_at_fn f; refine (HC.out _ (by repeat (with_reducible first | assumption | exact Gr.refl _ | apply Gr.alloc | apply Gr.drewN | apply Gr.drew | apply Gr.iter | (refine Gr.setCell ?_ (by simp) _) | (refine Gr.trans ?_ (by assumption))))).mono ?_; rintro e w2 ⟨sv, rfl, hs2, hg2⟩; obtain ⟨sa, sn, sc, rfl, -, -, -⟩ := hs2.sl; dsimp only [opV]; have HS2 := Lib.hid hs2; have q2 := (B0.gr (w' := w2) (by repeat (with_reducible first | assumption | exact Gr.refl _ | apply Gr.alloc | apply Gr.drewN | apply Gr.drew | apply Gr.iter | (refine Gr.setCell ?_ (by simp) _) | (refine Gr.trans ?_ (by assumption))))).cell)
    | (go_at_call 42; refine (same04_any _ _ _ _ _ _ _ oats _ _ _ _ _ _ _ l _ (RdAttrs.gr (w := w2) (OwnAL.rd (show OwnL AttrR 4 _ 83 w2 (.slice sa sn sc) oats from Hats.out.1 ▸ HS2.out) Hats.out.2).rd (by repeat (with_reducible first | assumption | exact Gr.refl _ | apply Gr.alloc | apply Gr.drewN | apply Gr.drew | apply Gr.iter | (refine Gr.setCell ?_ (by simp) _) | (refine Gr.trans ?_ (by assumption))))) (RdAttrs.gr (w := w) hl (by repeat (with_reducible first | assumption | exact Gr.refl _ | apply Gr.alloc | apply Gr.drewN | apply Gr.drew | apply Gr.iter | (refine Gr.setCell ?_ (by simp) _) | (refine Gr.trans ?_ (by assumption)))))).mono ?_; rw [HD.out]; rintro e w3 ⟨rfl, hg3⟩))
  all_goals go_wp2
  all_goals go_ret
  all_goals exact ⟨rfl, (by repeat (with_reducible first | assumption | exact Gr.refl _ | apply Gr.alloc | apply Gr.drewN | apply Gr.drew | apply Gr.iter | (refine Gr.setCell ?_ (by simp) _) | (refine Gr.trans ?_ (by assumption))))⟩
set_option maxHeartbeats 1000000 in
theorem winserts_any (g : Nat) (lb : Option Nat) (ps : List Piece) (w : World) (hW : WalkX w g lb ps) :
    Calls Tryz.prog 152 #[.pointer (some ⟨g, 0, none⟩)] w fun e w' => e = .returned (.bool (decide (kindP ps = 1 ∨ kindP ps = 2))) ∧ Gr w w' := by
  obtain ⟨K, hK⟩ : ∃ K, kindP ps = K := ⟨_, rfl⟩
  rw [hK]
  have HK := Lib.hid hK; clear hK
  go_enter Tryz.func152, Tryz.ntmps152
  by_cases h1 : K = 1
  · subst h1
    go_wp2_with (go_at_call 26; refine (wkindw_any g lb ps _ (hW.gr (by repeat (with_reducible first | assumption | exact Gr.refl _ | apply Gr.alloc | apply Gr.drewN | apply Gr.drew | apply Gr.iter | (refine Gr.setCell ?_ (by simp) _) | (refine Gr.trans ?_ (by assumption)))))).mono ?_; rw [HK.out]; rintro e w1 ⟨rfl, hg1⟩)
    go_ret
    exact ⟨rfl, (by repeat (with_reducible first | assumption | exact Gr.refl _ | apply Gr.alloc | apply Gr.drewN | apply Gr.drew | apply Gr.iter | (refine Gr.setCell ?_ (by simp) _) | (refine Gr.trans ?_ (by assumption))))⟩
  · have k1 : (K == 1) = false := by simpa using h1
    go_wp2_with (first
      | (go_at_call 26; refine (wkindw_any g lb ps _ (hW.gr (by repeat (with_reducible first | assumption | exact Gr.refl _ | apply Gr.alloc | apply Gr.drewN | apply Gr.drew | apply Gr.iter | (refine Gr.setCell ?_ (by simp) _) | (refine Gr.trans ?_ (by assumption)))))).mono ?_; rw [HK.out]; rintro e w1 ⟨rfl, hg1⟩))
    all_goals go_ret
    all_goals (refine ⟨ret_bool ?_, (by repeat (with_reducible first | assumption | exact Gr.refl _ | apply Gr.alloc | apply Gr.drewN | apply Gr.drew | apply Gr.iter | (refine Gr.setCell ?_ (by simp) _) | (refine Gr.trans ?_ (by assumption))))⟩; rw [Bool.eq_iff_iff]; simp; try omega)
end Ve
/- Walks: vellumlaw07.marked; walk.Steps. -/
namespace Ve
open Go Go.RowKit Go.Proofs

/-- A piece's own list of attributes. -/
def markV : Piece → Value → Value
  | .ins _ _ _, .iface _ (.agg cs) => cs[0]?.getD .nilIface
  | .emb _ _ _, .iface _ (.agg cs) => cs[0]?.getD .nilIface
  | .ret _ _, .iface _ (.agg cs) => cs[0]?.getD .nilIface
  | _, _ => .slice none 0 0
set_option maxHeartbeats 1000000 in
theorem marked_any (p : Piece) (v : Value) (w : World) (hp : PieceV w p v) :
    Calls Tryz.prog 43 #[v] w fun e w' => ∃ sl, e = .returned (.tuple #[sl, .int .i64 p.k]) ∧ sl = markV p v ∧ OwnA w' sl p.attrs ∧ Gr w w' := by
  cases p with
  | ins l t n =>
    obtain ⟨sl, rfl, ho, -⟩ := hp
    obtain ⟨a, m, c, rfl, -⟩ := ho.1.sl
    have HO := Lib.hid ho; clear ho
    go_enter Tryz.func43, Tryz.ntmps43
    go_wp2
    go_ret2
    exact ⟨.slice a m c, rfl, rfl, OwnA.gr (w := w) HO.out (by repeat (with_reducible first | assumption | exact Gr.refl _ | apply Gr.alloc | apply Gr.drewN | apply Gr.drew | apply Gr.iter | (refine Gr.setCell ?_ (by simp) _) | (refine Gr.trans ?_ (by assumption)))), (by repeat (with_reducible first | assumption | exact Gr.refl _ | apply Gr.alloc | apply Gr.drewN | apply Gr.drew | apply Gr.iter | (refine Gr.setCell ?_ (by simp) _) | (refine Gr.trans ?_ (by assumption))))⟩
  | emb l t x =>
    obtain ⟨sl, rfl, ho, -⟩ := hp
    obtain ⟨a, m, c, rfl, -⟩ := ho.1.sl
    have HO := Lib.hid ho; clear ho
    obtain ⟨T, y, hv⟩ := valV_form x
    rw [hv]
    clear hv
    go_enter Tryz.func43, Tryz.ntmps43
    go_wp2
    go_ret2
    exact ⟨.slice a m c, rfl, rfl, OwnA.gr (w := w) HO.out (by repeat (with_reducible first | assumption | exact Gr.refl _ | apply Gr.alloc | apply Gr.drewN | apply Gr.drew | apply Gr.iter | (refine Gr.setCell ?_ (by simp) _) | (refine Gr.trans ?_ (by assumption)))), (by repeat (with_reducible first | assumption | exact Gr.refl _ | apply Gr.alloc | apply Gr.drewN | apply Gr.drew | apply Gr.iter | (refine Gr.setCell ?_ (by simp) _) | (refine Gr.trans ?_ (by assumption))))⟩
  | ret l n =>
    obtain ⟨sl, rfl, ho⟩ := hp
    obtain ⟨a, m, c, rfl, -⟩ := ho.1.sl
    have HO := Lib.hid ho; clear ho
    go_enter Tryz.func43, Tryz.ntmps43
    go_wp2
    go_ret2
    exact ⟨.slice a m c, rfl, rfl, OwnA.gr (w := w) HO.out (by repeat (with_reducible first | assumption | exact Gr.refl _ | apply Gr.alloc | apply Gr.drewN | apply Gr.drew | apply Gr.iter | (refine Gr.setCell ?_ (by simp) _) | (refine Gr.trans ?_ (by assumption)))), (by repeat (with_reducible first | assumption | exact Gr.refl _ | apply Gr.alloc | apply Gr.drewN | apply Gr.drew | apply Gr.iter | (refine Gr.setCell ?_ (by simp) _) | (refine Gr.trans ?_ (by assumption))))⟩
  | del n =>
    obtain rfl := hp
    go_enter Tryz.func43, Tryz.ntmps43
    go_wp2
    go_ret2
    exact ⟨_, rfl, rfl, ⟨OwnL.nil .., by simp [Piece.attrs]⟩, (by repeat (with_reducible first | assumption | exact Gr.refl _ | apply Gr.alloc | apply Gr.drewN | apply Gr.drew | apply Gr.iter | (refine Gr.setCell ?_ (by simp) _) | (refine Gr.trans ?_ (by assumption))))⟩
theorem wsteps_any (a b : Option Addr) (w : World) : Calls Tryz.prog 32 #[.pointer a, .pointer b] w fun e w' => e = .returned (.func (.func 98) #[] #[.pointer (some ⟨w.heap.size, 0, none⟩), .pointer (some ⟨w.heap.size + 1, 0, none⟩)]) ∧ w' = (w.alloc (.cells #[.pointer a] 26)).alloc (.cells #[.pointer b] 26) := by
  go_enter Tryz.func32, Tryz.ntmps32
  go_wp2
  go_ret
  exact ⟨rfl, rfl⟩
end Ve
/- Walks: walk.step. -/
namespace Ve
open Go Go.RowKit Go.Proofs

theorem Can.left {ps : List Piece} (h : Can ps) : 1 ≤ leftP ps ∧ leftP ps ≤ 1099511627776 := by
  cases ps with
  | nil => simp [leftP]
  | cons p r =>
    have hp := pOk_pos (h.ok p (by simp))
    refine ⟨hp, ?_⟩
    have hb := h.b
    have hr := h.r
    have n1 := bsum_nn (l := r) fun x hx => h.ok.nn x (by simp [hx])
    have n2 := rsum_nn (l := r) fun x hx => h.ok.nn x (by simp [hx])
    rw [bsum_cons] at hb
    rw [rsum_cons] at hr
    cases p <;> simp only [leftP, Piece.len, Piece.b, Piece.r] at * <;> omega
set_option maxRecDepth 4000 in
set_option maxHeartbeats 4000000 in
theorem wstep_ins {ea : Nat → Addr} (gx gy : Nat) (lx ly : Option Nat) (ps qs : List Piece) (w : World) (hE : Env ea w) (hX : WalkX w gx lx ps) (hY : WalkX w gy ly qs) (hq : Can qs) (hne : gx ≠ gy) (hk : kindP qs = 1 ∨ kindP qs = 2) :
    Calls Tryz.prog 99 #[.pointer (some ⟨gx, 0, none⟩), .pointer (some ⟨gy, 0, none⟩)] w fun e w' => ∃ pv lb', e = .returned (.tuple #[.nilIface, pv, .nilIface]) ∧ PieceV w' (nextP qs (leftP qs)).1 pv ∧ WalkX w' gx lx ps ∧ WalkX w' gy lb' (nextP qs (leftP qs)).2 ∧
      (∀ b, lb' = some b → ly = some b ∨ w.heap.size ≤ b) ∧ Kg (fun b => b = gy) wkT w w' := by
  obtain ⟨h1, h2⟩ := hq.left
  obtain ⟨L, hL⟩ : ∃ L, leftP qs = L := ⟨_, rfl⟩
  rw [hL] at h1 h2 ⊢
  have HL := Lib.hid hL; clear hL
  have HK := Lib.hid (show decide (kindP qs = 1 ∨ kindP qs = 2) = true from decide_eq_true hk); clear hk
  go_enter Tryz.func99, Tryz.ntmps99
  go_wp2_with (first
    | (go_at_call 152; refine (winserts_any gy ly qs _ (hY.gr (by repeat (with_reducible first | assumption | exact Gr.refl _ | apply Gr.alloc | apply Gr.drewN | apply Gr.drew | apply Gr.iter | (refine Gr.setCell ?_ (by simp) _) | (refine Gr.trans ?_ (by assumption)))))).mono ?_; rw [HK.out]; rintro e w1 ⟨rfl, hg1⟩)
    | (go_at_call 28; refine (wleft_any gy ly qs _ (hY.gr (by repeat (with_reducible first | assumption | exact Gr.refl _ | apply Gr.alloc | apply Gr.drewN | apply Gr.drew | apply Gr.iter | (refine Gr.setCell ?_ (by simp) _) | (refine Gr.trans ?_ (by assumption)))))).mono ?_; rw [HL.out]; rintro e w2 ⟨rfl, hg2⟩)
    | (go_at_call 19; refine (wnext_int gy ly qs L _ (hE.gr (by repeat (with_reducible first | assumption | exact Gr.refl _ | apply Gr.alloc | apply Gr.drewN | apply Gr.drew | apply Gr.iter | (refine Gr.setCell ?_ (by simp) _) | (refine Gr.trans ?_ (by assumption))))) (hY.gr (by repeat (with_reducible first | assumption | exact Gr.refl _ | apply Gr.alloc | apply Gr.drewN | apply Gr.drew | apply Gr.iter | (refine Gr.setCell ?_ (by simp) _) | (refine Gr.trans ?_ (by assumption))))) hq.ok h1 (by omega)).mono ?_; rintro e w3 ⟨pv, lb', rfl, hp3, hw3, hl3, hk3⟩))
  go_ret3
  have hg : Gr w w2 := (by repeat (with_reducible first | assumption | exact Gr.refl _ | apply Gr.alloc | apply Gr.drewN | apply Gr.drew | apply Gr.iter | (refine Gr.setCell ?_ (by simp) _) | (refine Gr.trans ?_ (by assumption))))
  refine ⟨pv, lb', rfl, hp3, (hX.gr hg).kg hk3 (by decide) (.inl (by decide)) (.inr hne), hw3, fun b hb => (hl3 b hb).imp id fun h => Nat.le_trans hg.size h, (Kg.of_gr hg).trans hk3⟩
set_option maxRecDepth 4000 in
set_option maxHeartbeats 4000000 in
theorem wstep_del {ea : Nat → Addr} (gx gy : Nat) (lx ly : Option Nat) (ps qs : List Piece) (w : World) (hE : Env ea w) (hX : WalkX w gx lx ps) (hY : WalkX w gy ly qs) (hp : Can ps) (hne : gx ≠ gy) (hk : ¬ (kindP qs = 1 ∨ kindP qs = 2)) (hd : kindP ps = 4) :
    Calls Tryz.prog 99 #[.pointer (some ⟨gx, 0, none⟩), .pointer (some ⟨gy, 0, none⟩)] w fun e w' => ∃ pv lb', e = .returned (.tuple #[pv, .nilIface, .nilIface]) ∧ PieceV w' (nextP ps (leftP ps)).1 pv ∧ WalkX w' gx lb' (nextP ps (leftP ps)).2 ∧ WalkX w' gy ly qs ∧
      (∀ b, lb' = some b → lx = some b ∨ w.heap.size ≤ b) ∧ Kg (fun b => b = gx) wkT w w' := by
  obtain ⟨h1, h2⟩ := hp.left
  obtain ⟨L, hL⟩ : ∃ L, leftP ps = L := ⟨_, rfl⟩
  rw [hL] at h1 h2 ⊢
  have HL := Lib.hid hL; clear hL
  have HK := Lib.hid (show decide (kindP qs = 1 ∨ kindP qs = 2) = false from decide_eq_false hk); clear hk
  have HD := Lib.hid hd; clear hd
  go_enter Tryz.func99, Tryz.ntmps99
  go_wp2_with (first
    | (go_at_call 152; refine (winserts_any gy ly qs _ (hY.gr (by repeat (with_reducible first | assumption | exact Gr.refl _ | apply Gr.alloc | apply Gr.drewN | apply Gr.drew | apply Gr.iter | (refine Gr.setCell ?_ (by simp) _) | (refine Gr.trans ?_ (by assumption)))))).mono ?_; rw [HK.out]; rintro e w1 ⟨rfl, hg1⟩)
    | (go_at_call 26; refine (wkindw_any gx lx ps _ (hX.gr (by repeat (with_reducible first | assumption | exact Gr.refl _ | apply Gr.alloc | apply Gr.drewN | apply Gr.drew | apply Gr.iter | (refine Gr.setCell ?_ (by simp) _) | (refine Gr.trans ?_ (by assumption)))))).mono ?_; rw [HD.out]; rintro e wk ⟨rfl, hgk⟩)
    | (go_at_call 28; refine (wleft_any gx lx ps _ (hX.gr (by repeat (with_reducible first | assumption | exact Gr.refl _ | apply Gr.alloc | apply Gr.drewN | apply Gr.drew | apply Gr.iter | (refine Gr.setCell ?_ (by simp) _) | (refine Gr.trans ?_ (by assumption)))))).mono ?_; rw [HL.out]; rintro e w2 ⟨rfl, hg2⟩)
    | (go_at_call 19; refine (wnext_int gx lx ps L _ (hE.gr (by repeat (with_reducible first | assumption | exact Gr.refl _ | apply Gr.alloc | apply Gr.drewN | apply Gr.drew | apply Gr.iter | (refine Gr.setCell ?_ (by simp) _) | (refine Gr.trans ?_ (by assumption))))) (hX.gr (by repeat (with_reducible first | assumption | exact Gr.refl _ | apply Gr.alloc | apply Gr.drewN | apply Gr.drew | apply Gr.iter | (refine Gr.setCell ?_ (by simp) _) | (refine Gr.trans ?_ (by assumption))))) hp.ok h1 (by omega)).mono ?_; rintro e w3 ⟨pv, lb', rfl, hp3, hw3, hl3, hk3⟩))
  go_ret3
  have hg : Gr w w2 := (by repeat (with_reducible first | assumption | exact Gr.refl _ | apply Gr.alloc | apply Gr.drewN | apply Gr.drew | apply Gr.iter | (refine Gr.setCell ?_ (by simp) _) | (refine Gr.trans ?_ (by assumption))))
  refine ⟨pv, lb', rfl, hp3, hw3, (hY.gr hg).kg hk3 (by decide) (.inl (by decide)) (.inr fun e => hne e.symm), fun b hb => (hl3 b hb).imp id fun h => Nat.le_trans hg.size h, (Kg.of_gr hg).trans hk3⟩
end Ve
/- Walks: walk.step, both sides. -/
namespace Ve
open Go Go.RowKit Go.Proofs

set_option maxRecDepth 4000 in
set_option maxHeartbeats 4000000 in
theorem wstep_two {ea : Nat → Addr} (gx gy : Nat) (lx ly : Option Nat) (ps qs : List Piece) (w : World) (hE : Env ea w) (hX : WalkX w gx lx ps) (hY : WalkX w gy ly qs) (hp : Can ps) (hq : Can qs) (hne : gx ≠ gy) (hk : ¬ (kindP qs = 1 ∨ kindP qs = 2)) (hd : kindP ps ≠ 4) (hEs : ∀ w', Kg (fun b => b = gx) wkT w w' → Env ea w') :
    Calls Tryz.prog 99 #[.pointer (some ⟨gx, 0, none⟩), .pointer (some ⟨gy, 0, none⟩)] w fun e w' => ∃ pv qv lb' lb'', e = .returned (.tuple #[pv, qv, .nilIface]) ∧ PieceV w' (nextP ps (min (leftP ps) (leftP qs))).1 pv ∧ PieceV w' (nextP qs (min (leftP ps) (leftP qs))).1 qv ∧
      WalkX w' gx lb' (nextP ps (min (leftP ps) (leftP qs))).2 ∧ WalkX w' gy lb'' (nextP qs (min (leftP ps) (leftP qs))).2 ∧
      (∀ b, lb' = some b → lx = some b ∨ w.heap.size ≤ b) ∧ (∀ b, lb'' = some b → ly = some b ∨ w.heap.size ≤ b) ∧ Kg (fun b => b = gx ∨ b = gy) wkT w w' := by
  obtain ⟨h1, h2⟩ := hp.left
  obtain ⟨h3, h4⟩ := hq.left
  obtain ⟨L, hL⟩ : ∃ L, leftP ps = L := ⟨_, rfl⟩
  obtain ⟨M, hM⟩ : ∃ M, leftP qs = M := ⟨_, rfl⟩
  rw [hL] at h1 h2 ⊢
  rw [hM] at h3 h4 ⊢
  have HL := Lib.hid hL; clear hL
  have HM := Lib.hid hM; clear hM
  have HK := Lib.hid (show decide (kindP qs = 1 ∨ kindP qs = 2) = false from decide_eq_false hk); clear hk
  obtain ⟨K, hK⟩ : ∃ K, kindP ps = K := ⟨_, rfl⟩
  rw [hK] at hd
  have hd4 : (K == 4) = false := by simpa using hd
  have HD := Lib.hid hK; clear hK hd
  go_enter Tryz.func99, Tryz.ntmps99
  go_wp2_with (first
    | (go_at_call 152; refine (winserts_any gy ly qs _ (hY.gr (by repeat (with_reducible first | assumption | exact Gr.refl _ | apply Gr.alloc | apply Gr.drewN | apply Gr.drew | apply Gr.iter | (refine Gr.setCell ?_ (by simp) _) | (refine Gr.trans ?_ (by assumption)))))).mono ?_; rw [HK.out]; rintro e w1 ⟨rfl, hg1⟩)
    | (go_at_call 26; refine (wkindw_any gx lx ps _ (hX.gr (by repeat (with_reducible first | assumption | exact Gr.refl _ | apply Gr.alloc | apply Gr.drewN | apply Gr.drew | apply Gr.iter | (refine Gr.setCell ?_ (by simp) _) | (refine Gr.trans ?_ (by assumption)))))).mono ?_; rw [HD.out]; rintro e wk ⟨rfl, hgk⟩)
    | (go_at_call 28; have _h := hg2; refine (wleft_any gy ly qs _ (hY.gr (by repeat (with_reducible first | assumption | exact Gr.refl _ | apply Gr.alloc | apply Gr.drewN | apply Gr.drew | apply Gr.iter | (refine Gr.setCell ?_ (by simp) _) | (refine Gr.trans ?_ (by assumption)))))).mono ?_; rw [HM.out]; rintro e w4 ⟨rfl, hg4⟩)
    | (go_at_call 28; refine (wleft_any gx lx ps _ (hX.gr (by repeat (with_reducible first | assumption | exact Gr.refl _ | apply Gr.alloc | apply Gr.drewN | apply Gr.drew | apply Gr.iter | (refine Gr.setCell ?_ (by simp) _) | (refine Gr.trans ?_ (by assumption)))))).mono ?_; rw [HL.out]; rintro e w2 ⟨rfl, hg2⟩)
    | (go_at_call 19; have _h := hk5; refine (wnext_int gy ly qs (min L M) _ (hE5.gr (by repeat (with_reducible first | assumption | exact Gr.refl _ | apply Gr.alloc | apply Gr.drewN | apply Gr.drew | apply Gr.iter | (refine Gr.setCell ?_ (by simp) _) | (refine Gr.trans ?_ (by assumption))))) (hY5.gr (by repeat (with_reducible first | assumption | exact Gr.refl _ | apply Gr.alloc | apply Gr.drewN | apply Gr.drew | apply Gr.iter | (refine Gr.setCell ?_ (by simp) _) | (refine Gr.trans ?_ (by assumption))))) hq.ok (by omega) (by omega)).mono ?_; rintro e w6 ⟨qv, lb'', rfl, hp6, hw6, hl6, hk6⟩)
    | (go_at_call 19; refine (wnext_int gx lx ps (min L M) _ (hE.gr (by repeat (with_reducible first | assumption | exact Gr.refl _ | apply Gr.alloc | apply Gr.drewN | apply Gr.drew | apply Gr.iter | (refine Gr.setCell ?_ (by simp) _) | (refine Gr.trans ?_ (by assumption))))) (hX.gr (by repeat (with_reducible first | assumption | exact Gr.refl _ | apply Gr.alloc | apply Gr.drewN | apply Gr.drew | apply Gr.iter | (refine Gr.setCell ?_ (by simp) _) | (refine Gr.trans ?_ (by assumption))))) hp.ok (by omega) (by omega)).mono ?_; rintro e w5 ⟨pv, lb', rfl, hp5, hw5, hl5, hk5⟩; have hg : Gr w w4 := (by repeat (with_reducible first | assumption | exact Gr.refl _ | apply Gr.alloc | apply Gr.drewN | apply Gr.drew | apply Gr.iter | (refine Gr.setCell ?_ (by simp) _) | (refine Gr.trans ?_ (by assumption)))); have hY5 := (hY.gr hg).kg hk5 (by decide) (.inl (by decide)) (.inr fun e => hne e.symm); have hE5 := hEs w5 ((Kg.of_gr hg).trans hk5)))
  go_ret3
  refine ⟨pv, qv, lb', lb'', rfl, PieceV.kg hp5 hk6 (by decide), hp6, hw5.kg hk6 (by decide) (.inl (by decide)) (.inr hne), hw6, fun b hb => (hl5 b hb).imp id fun h => Nat.le_trans hg.size h, fun b hb => (hl6 b hb).imp id fun h => Nat.le_trans (Nat.le_trans hg.size hk5.size) h, (((Kg.of_gr hg).trans hk5).sub fun b h => .inl h).trans (hk6.sub fun b h => .inr h)⟩
end Ve
