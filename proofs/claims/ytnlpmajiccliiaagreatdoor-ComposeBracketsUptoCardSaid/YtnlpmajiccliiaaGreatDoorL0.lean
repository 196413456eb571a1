/- Walks of layer 6: plain, Ops. -/
import Derived.Test.YtnlpmajiccliiaaGreatDoorB1
import Derived.Test.YtnlpmajiccliiaaGreatDoorS3
import Derived.Test.YtnlpmajiccliiaaGreatDoorB7
set_option linter.all false
namespace Ve
open Go Go.RowKit Go.Proofs

theorem PieceV.sz {w : World} {p : Piece} {v : Value} (h : PieceV w p v) : szS p.op.text ∧ szS p.op.val.text := by
  have he : szS es := by simp [szS, es, ByteArray.size]
  cases p with
  | ins l t n => obtain ⟨sl, e, h, s⟩ := h; exact ⟨s, he⟩
  | emb l t x => obtain ⟨sl, e, h, s1, s2⟩ := h; exact ⟨s1, s2⟩
  | ret l n => exact ⟨he, he⟩
  | del n => exact ⟨he, he⟩
theorem PieceV.short {w : World} {p : Piece} {v : Value} (h : PieceV w p v) : p.attrs.length ≤ 1099511627776 := by
  cases p with
  | ins l t n => obtain ⟨sl, e, h, s⟩ := h; exact h.2
  | emb l t x => obtain ⟨sl, e, h, s1, s2⟩ := h; exact h.2
  | ret l n => obtain ⟨sl, e, h⟩ := h; exact h.2
  | del n => simp [Piece.attrs]
theorem op_attrs (p : Piece) : p.op.attrs = p.attrs := by cases p <;> rfl
/-- The cell of piece number i. -/
theorem RdPieces.at_ {w : World} {a : Option Addr} {n cap : Nat} {l : List Piece} (h : RdPieces w (.slice a n cap) l) (i : Nat) (hi : i < n) :
    ∃ b off p v, l[i]? = some p ∧ a = some ⟨b, off, none⟩ ∧ w.cell? ⟨b, off + i, none⟩ = some v ∧ PieceV w p v := by
  obtain ⟨b, off, p, cs, e, hx, ⟨v, rfl, hv⟩, _, hc⟩ := RdList.get h i hi
  exact ⟨b, off, p, v, hx, e, by have := hc 0 _ (by omega) rfl; simpa using this, hv⟩
set_option maxHeartbeats 1000000 in
theorem plain_any (l : List Piece) (v : Value) (w : World) (hl : RdPieces w v l) (hgood : ∀ p ∈ l, p.good) :
    Calls Tryz.prog 75 #[v] w fun e w' => ∃ v', e = .returned v' ∧ OwnOps w.heap.size w' v' (l.map Piece.op) ∧ Gr w w' := by
  obtain ⟨a, n, cap, rfl, hcap, hm, hb, hn⟩ := hl.sl
  obtain ⟨mv, w1, hmk, ho, hg1⟩ := make_ops w n hb
  obtain ⟨ma, mn, mc, rfl, -, -, -⟩ := ho.sl
  go_enter Tryz.func75, Tryz.ntmps75
  go_wp2
  clear hmk
  go_loopw [3, 11] (fun o i wr => ∃ k : Nat, k ≤ n ∧ i = .int .i64 k ∧ Gr w wr ∧ OwnOps w.heap.size wr o ((l.take k).map Piece.op)) (fun _ i _ => n - (intOf i).toNat)
  case atStart => exact ⟨0, Nat.zero_le _, rfl, hg1, ho⟩
  case round =>
    obtain ⟨k, hk, rfl, hg, ho⟩ := hrel
    obtain ⟨oa, om, oc, rfl, -, -, hom⟩ := ho.sl
    by_cases hlt : k < n
    · obtain ⟨b, off, p, pv, hx, rfl, hc, hp⟩ := (RdPieces.gr hl hg).at_ k hlt
      have hlt' : (k : Int) < n := by omega
      obtain ⟨T, y, f, rfl, hm, he, hcall⟩ := op_meth hp (hgood _ (List.mem_of_getElem? hx))
      have HC := Lib.hid hcall; clear hcall
      have Hx := Lib.hid hx; clear hx
      obtain ⟨ok, ot, ⟨ova, ovb, ovt⟩, oc, oats, hop⟩ : ∃ ok ot ov oc oats, p.op = ⟨ok, ot, ov, oc, oats⟩ := ⟨_, _, _, _, _, rfl⟩
      have hs := hp.sz
      have hats := op_attrs p
      rw [hop] at HC hs hats
      have Hop := Lib.hid hop; clear hop
      go_wp2_with (first
        | (go_at_fn f; refine (HC.out _ (by repeat (with_reducible first | assumption | exact Gr.refl _ | apply Gr.alloc | apply Gr.drewN | apply Gr.drew | apply Gr.iter | (refine Gr.setCell ?_ (by simp) _) | (refine Gr.trans ?_ (by assumption))))).mono ?_; rintro e w2 ⟨sv, rfl, hs2, hg2⟩; obtain ⟨sa, sn, sc, rfl, -, -, -⟩ := hs2.sl; dsimp only [opV]; obtain ⟨v', w'', hrun, hown, hkg⟩ := push_op w2 w.heap.size 22 ⟨ok, ot, ⟨ova, ovb, ovt⟩, oc, oats⟩ _ (OwnOps.gr (w := wr) ho (by repeat (with_reducible first | assumption | exact Gr.refl _ | apply Gr.alloc | apply Gr.drewN | apply Gr.drew | apply Gr.iter | (refine Gr.setCell ?_ (by simp) _) | (refine Gr.trans ?_ (by assumption))))) (OwnAL.rd (hats ▸ hs2) (hats ▸ hp.short)) hs.1 hs.2 (by simp; omega) (Nat.le_trans hg.size (Gr.size (w := wr) (by repeat (with_reducible first | assumption | exact Gr.refl _ | apply Gr.alloc | apply Gr.drewN | apply Gr.drew | apply Gr.iter | (refine Gr.setCell ?_ (by simp) _) | (refine Gr.trans ?_ (by assumption)))))); have HP := Lib.hid (And.intro hrun (And.intro hown hkg)); clear hrun hown hkg)
        | (at_builtin; refine wpList_run rfl _ _ _ rfl rfl rfl HP.out.1 ?_))
      go_roundw
      case rel =>
        obtain ⟨-, h2, h3⟩ := HP.out
        refine ⟨k + 1, by omega, by go_num, Gr.kg (by repeat (with_reducible first | assumption | exact Gr.refl _ | apply Gr.alloc | apply Gr.drewN | apply Gr.drew | apply Gr.iter | (refine Gr.setCell ?_ (by simp) _) | (refine Gr.trans ?_ (by assumption)))) h3 (Nat.le_refl _), ?_⟩
        rw [take_map Hx.out, Hop.out]; exact h2
      case measure => simp [intOf]; omega
    · obtain rfl : k = n := by omega
      go_wp2
      go_ret
      rw [List.take_of_length_le (by rw [hn.out]; exact Nat.le_refl _)] at ho
      exact ⟨_, rfl, ho, (by repeat (with_reducible first | assumption | exact Gr.refl _ | apply Gr.alloc | apply Gr.drewN | apply Gr.drew | apply Gr.iter | (refine Gr.setCell ?_ (by simp) _) | (refine Gr.trans ?_ (by assumption))))⟩
set_option maxHeartbeats 1000000 in
theorem dops_any (l : List Piece) (v : Value) (w : World) (hl : DeltaR w v l) (hgood : ∀ p ∈ l, p.good) :
    Calls Tryz.prog 24 #[v] w fun e w' => ∃ v', e = .returned v' ∧ OwnOps w.heap.size w' v' (l.map Piece.op) ∧ Gr w w' := by
  obtain ⟨g, sl, rfl, hB, hr⟩ := hl
  obtain ⟨a, n, cap, rfl, -, -, -, -⟩ := hr.sl
  have hc := hB.cell
  go_enter Tryz.func24, Tryz.ntmps24
  go_wp2_with (go_at_call 75; refine (plain_any l _ _ (RdPieces.gr hr (by repeat (with_reducible first | assumption | exact Gr.refl _ | apply Gr.alloc | apply Gr.drewN | apply Gr.drew | apply Gr.iter | (refine Gr.setCell ?_ (by simp) _) | (refine Gr.trans ?_ (by assumption))))) hgood).mono ?_; rintro e w' ⟨v', rfl, ho, hg⟩)
  go_ret
  exact ⟨_, rfl, OwnL.base_le ho (Gr.size (w := w) (by repeat (with_reducible first | assumption | exact Gr.refl _ | apply Gr.alloc | apply Gr.drewN | apply Gr.drew | apply Gr.iter | (refine Gr.setCell ?_ (by simp) _) | (refine Gr.trans ?_ (by assumption))))), (by repeat (with_reducible first | assumption | exact Gr.refl _ | apply Gr.alloc | apply Gr.drewN | apply Gr.drew | apply Gr.iter | (refine Gr.setCell ?_ (by simp) _) | (refine Gr.trans ?_ (by assumption))))⟩
end Ve
/- Pieces that well formed operations make; Delta.Pieces; sums. -/
namespace Ve
open Go Go.RowKit Go.Proofs

/-- Pieces that well formed operations make. -/
def PsOk (ps : List Piece) : Prop := ∀ p ∈ ps, checkOp p.op = 0 ∧ toPiece p.op = p
theorem PsOk.of_ops {l : List Op} (h : ∀ o ∈ l, checkOp o = 0) : PsOk (l.map toPiece) := by
  intro p hp
  obtain ⟨o, ho, rfl⟩ := List.mem_map.1 hp
  rw [op_toPiece (h o ho)]
  exact ⟨h o ho, rfl⟩
theorem PsOk.good {ps : List Piece} (h : PsOk ps) : ∀ p ∈ ps, p.good := fun p hp => by
  have := h p hp
  rw [← this.2]
  exact good_of this.1
theorem PsOk.ops {ps : List Piece} (h : PsOk ps) : ∀ o ∈ ps.map Piece.op, checkOp o = 0 := by
  intro o ho
  obtain ⟨p, hp, rfl⟩ := List.mem_map.1 ho
  exact (h p hp).1
theorem PsOk.back {ps : List Piece} (h : PsOk ps) : (ps.map Piece.op).map toPiece = ps := by
  rw [List.map_map]
  conv => rhs; rw [← List.map_id ps]
  exact List.map_congr_left fun p hp => (h p hp).2
theorem len_nn {p : Piece} (h : checkOp p.op = 0 ∧ toPiece p.op = p) : 0 ≤ p.len := by
  obtain ⟨h1, h2⟩ := h
  cases p with
  | ins a t n =>
    simp [Piece.op, toPiece] at h2
    simp only [Piece.len]; omega
  | emb a t x => simp [Piece.len]
  | ret a n =>
    simp only [Piece.len]
    simp only [Piece.op] at h1
    unfold checkOp at h1
    split at h1
    · omega
    · simp at h1
      by_cases c : n < 1
      · rw [if_pos c] at h1; omega
      · omega
  | del n =>
    have := count_pos h1 rfl
    simp only [Piece.op] at this
    simp only [Piece.len]; omega
def bsum (l : List Piece) : Int := (l.map Piece.b).sum
theorem bsum_cons (p : Piece) (l : List Piece) : bsum (p :: l) = p.b + bsum l := by simp [bsum]
theorem rsum_cons (p : Piece) (l : List Piece) : rsum (p :: l) = p.r + rsum l := by simp [rsum]
theorem b_nn {p : Piece} (h : 0 ≤ p.len) : 0 ≤ p.b := by cases p <;> simp_all [Piece.len, Piece.b]
theorem bsum_nn {l : List Piece} (h : ∀ p ∈ l, 0 ≤ p.len) : 0 ≤ bsum l := by
  induction l with
  | nil => simp [bsum]
  | cons p l ih =>
    rw [bsum_cons]
    have := b_nn (h p (by simp))
    have := ih fun x hx => h x (by simp [hx])
    omega
theorem rsum_nn {l : List Piece} (h : ∀ p ∈ l, 0 ≤ p.len) : 0 ≤ rsum l := by
  induction l with
  | nil => simp [rsum]
  | cons p l ih =>
    rw [rsum_cons]
    have := r_nn (h p (by simp))
    have := ih fun x hx => h x (by simp [hx])
    omega
theorem PsOk.nn {ps : List Piece} (h : PsOk ps) : ∀ p ∈ ps, 0 ≤ p.len := fun p hp => len_nn (h p hp)
theorem PsOk.drop {ps : List Piece} (h : PsOk ps) (k : Nat) : PsOk (ps.drop k) := fun p hp => h p (List.mem_of_mem_drop hp)
theorem bsum_map {l : List Op} (h : ∀ o ∈ l, checkOp o = 0) : bsum (l.map toPiece) = sumB l := by
  induction l with
  | nil => rfl
  | cons o l ih => rw [List.map_cons, bsum_cons, ih fun x hx => h x (by simp [hx]), piece_b (h o (by simp))]; rfl
theorem rsum_map {l : List Op} (h : ∀ o ∈ l, checkOp o = 0) : rsum (l.map toPiece) = sumR l := by
  induction l with
  | nil => rfl
  | cons o l ih => rw [List.map_cons, rsum_cons, ih fun x hx => h x (by simp [hx]), piece_r (h o (by simp))]; rfl
theorem DeltaR.short {w : World} {v : Value} {ps : List Piece} (h : DeltaR w v ps) : ps.length ≤ 1099511627776 := by
  obtain ⟨g, sl, rfl, hB, hr⟩ := h
  obtain ⟨a, cap, e, h1, h2, h3⟩ := hr.slice
  exact h3
set_option maxHeartbeats 1000000 in
theorem dpieces_apart {ea : Nat → Addr} (ps : List Piece) (v : Value) (w : World) (hE : Env ea w) (hl : DeltaR w v ps) (hok : PsOk ps) :
    Calls Tryz.prog 119 #[v] w fun e w' => ∃ v' pl, e = .returned v' ∧ OwnL PieceB 1 w.heap.size 109 w' v' pl ∧ pl.map (·.1) = ps ∧ ApartV w.heap.size (pl.map (·.2)) ∧ Gr w w' := by
  have hlen := hl.short
  have hbad := bad_all hok.ops
  have hback := hok.back
  obtain ⟨g, sl, rfl, hB, hr⟩ := hl
  have HB := Lib.hid (And.intro hbad hback); clear hbad hback
  have hlen2 : (ps.map Piece.op).length ≤ 1099511627776 := by simpa using hlen
  have HL := Lib.hid hlen2; clear hlen2
  go_enter Tryz.func119, Tryz.ntmps119
  go_wp2_with (first
    | (go_at_call 24; refine (dops_any ps _ _ (DeltaR.gr (w := w) ⟨g, sl, rfl, hB, hr⟩ (by repeat (with_reducible first | assumption | exact Gr.refl _ | apply Gr.alloc | apply Gr.drewN | apply Gr.drew | apply Gr.iter | (refine Gr.setCell ?_ (by simp) _) | (refine Gr.trans ?_ (by assumption))))) hok.good).mono ?_; rintro e w1 ⟨v1, rfl, ho1, hg1⟩; obtain ⟨a1, n1, c1, rfl, -⟩ := ho1.sl)
    | (go_at_call 121; go_loud (refine (oof_apart (ps.map Piece.op) _ _ (hE.gr (by repeat (with_reducible first | assumption | exact Gr.refl _ | apply Gr.alloc | apply Gr.drewN | apply Gr.drew | apply Gr.iter | (refine Gr.setCell ?_ (by simp) _) | (refine Gr.trans ?_ (by assumption))))) (OwnOps.rd ho1 HL.out)).mono ?_; rw [HB.out.1, HB.out.2]; rintro e w2 ⟨v2, rfl, hg2, ho2, -⟩; obtain ⟨pl, ho2, hpl⟩ := ho2 rfl; have HPL := Lib.hid hpl; clear hpl; obtain ⟨a2, n2, c2, rfl, -⟩ := ho2.sl; rw [errOf_zero]; have HO2 := Lib.hid ho2; clear ho2)))
  go_ret
  exact ⟨_, pl, rfl, OwnL.base_le HO2.out (Gr.size (w := w) (by repeat (with_reducible first | assumption | exact Gr.refl _ | apply Gr.alloc | apply Gr.drewN | apply Gr.drew | apply Gr.iter | (refine Gr.setCell ?_ (by simp) _) | (refine Gr.trans ?_ (by assumption))))), HPL.out.1, ⟨fun v hv b hb => Nat.le_trans (Gr.size (w := w) (by repeat (with_reducible first | assumption | exact Gr.refl _ | apply Gr.alloc | apply Gr.drewN | apply Gr.drew | apply Gr.iter | (refine Gr.setCell ?_ (by simp) _) | (refine Gr.trans ?_ (by assumption))))) (HPL.out.2.1 v hv b hb), HPL.out.2.2⟩, (by repeat (with_reducible first | assumption | exact Gr.refl _ | apply Gr.alloc | apply Gr.drewN | apply Gr.drew | apply Gr.iter | (refine Gr.setCell ?_ (by simp) _) | (refine Gr.trans ?_ (by assumption))))⟩
theorem dpieces_any {ea : Nat → Addr} (ps : List Piece) (v : Value) (w : World) (hE : Env ea w) (hl : DeltaR w v ps) (hok : PsOk ps) :
    Calls Tryz.prog 119 #[v] w fun e w' => ∃ v', e = .returned v' ∧ OwnL PieceR 1 w.heap.size 109 w' v' ps ∧ Gr w w' :=
  (dpieces_apart ps v w hE hl hok).mono fun e w' h => by
    obtain ⟨v', pl, h1, h2, h3, -, h5⟩ := h
    exact ⟨v', h1, h3 ▸ OwnB.own h2, h5⟩
theorem ok_len {o : Op} (ho : checkOp o = 0) : 0 ≤ rlen o := by
  rw [rlen_ok ho]
  have h2 := op_toPiece ho
  exact len_nn (p := toPiece o) ⟨by rw [h2]; exact ho, by rw [h2]⟩
theorem sumB_nn {l : List Op} (h : ∀ o ∈ l, checkOp o = 0) : 0 ≤ sumB l := by
  rw [← bsum_map h]
  exact bsum_nn (PsOk.of_ops h).nn
theorem sumR_nn {l : List Op} (h : ∀ o ∈ l, checkOp o = 0) : 0 ≤ sumR l := by
  rw [← rsum_map h]
  exact rsum_nn (PsOk.of_ops h).nn
/-- The cells that a piece inserts. -/
def Piece.i : Piece → Int
  | .ins _ _ n => n
  | .emb _ _ _ => 1
  | .ret _ _ => 0
  | .del _ => 0
def isum (l : List Piece) : Int := (l.map Piece.i).sum
theorem isum_cons (p : Piece) (l : List Piece) : isum (p :: l) = p.i + isum l := by simp [isum]
theorem i_nn {p : Piece} (h : 0 ≤ p.len) : 0 ≤ p.i := by cases p <;> simp_all [Piece.len, Piece.i]
end Ve
/- Canonical lists: their sums, literal lists. -/
namespace Ve
open Go Go.RowKit Go.Proofs


theorem canon_sums {l : List Op} (h : canonL l = true) : sumB l ≤ 1099511627776 ∧ sumR l ≤ 1099511627776 ∧ lensL l = (sumB l, sumR l, 0) := by
  obtain ⟨h1, h2, h3, h4⟩ := canon_parts h
  obtain ⟨e1, e2, e3⟩ := lensFrom_sum h2 (by omega) (by omega)
  simp only [Int.zero_add] at e1 e2 e3
  refine ⟨e2, e3, ?_⟩
  unfold lensL
  rw [if_neg (by rw [bad_all h1]; simp), e1]
theorem canon_ok {l : List Op} (h : canonL l = true) : (∀ o ∈ l, checkOp o = 0) ∧ PsOk (l.map toPiece) ∧ bsum (l.map toPiece) ≤ 1099511627776 ∧ rsum (l.map toPiece) ≤ 1099511627776 ∧ (l.map toPiece).map Piece.op = l := by
  obtain ⟨h1, -, -, -⟩ := canon_parts h
  obtain ⟨s1, s2, -⟩ := canon_sums h
  exact ⟨h1, PsOk.of_ops h1, by rw [bsum_map h1]; exact s1, by rw [rsum_map h1]; exact s2, map_op h1⟩
/-- A literal list of operations without attributes. -/
def opCells (o : Op) : List Value := [.int .i64 o.kind, .string o.text, .int .i64 o.val.kind, .int .i64 o.val.num, .string o.val.text, .int .i64 o.count, .slice none 0 0]
theorem rows_lit (w : World) : ∀ l : List Op, (∀ o ∈ l, o.attrs = [] ∧ szS o.text ∧ szS o.val.text) → RowsR OpR 7 w l (l.flatMap opCells)
  | [], _ => rfl
  | o :: l, h => by
    obtain ⟨h1, h2, h3⟩ := h o (by simp)
    refine ⟨opCells o, l.flatMap opCells, by simp, rfl, ⟨.slice none 0 0, rfl, by rw [h1]; exact RdList.nil .., h2, h3⟩, rows_lit w l fun x hx => h x (by simp [hx])⟩
theorem rd_lit (w : World) (l : List Op) (n : Nat) (hn : l.length = n) (hb : n ≤ 1000) (h : ∀ o ∈ l, o.attrs = [] ∧ szS o.text ∧ szS o.val.text) (cs : Array Value) (hcs : cs.toList = l.flatMap opCells) (e : TypeId) :
    RdOps (w.alloc (.cells cs e)) (.slice (some ⟨w.heap.size, 0, none⟩) n n) l := by
  subst hn
  refine ⟨some ⟨w.heap.size, 0, none⟩, l.length, l.flatMap opCells, rfl, Nat.le_refl _, by unfold maxLen; omega, by omega, rows_lit _ l h, fun _ => ⟨w.heap.size, 0, rfl, fun j u hu => ?_⟩⟩
  rw [Nat.zero_add, (Blk.new w e cs).cell j, ← hu, ← hcs]
  simp
end Ve
