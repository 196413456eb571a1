/- Walks of layer 6: plain, Ops. -/
import Derived.Test.YtmdakddgeagnmaaDoorB1
set_option linter.all false
namespace Ve
open Go Go.RowKit Go.Proofs

theorem PieceV.sz {w : World} {p : Piece} {v : Value} (h : PieceV w p v) : szS p.op.text ∧ szS p.op.val.text := by
  have he : szS es := by simp [szS, es, ByteArray.size]
  cases p with
  | ins l t n => obtain ⟨sl, e, h, s⟩ := h; exact ⟨s, he⟩
  | emb l t x => obtain ⟨sl, e, h, s1, s2⟩ := h; exact ⟨s1, s2⟩
  | ret l n => exact ⟨he, he⟩
  | del n => exact ⟨he, he⟩
theorem PieceV.short {w : World} {p : Piece} {v : Value} (h : PieceV w p v) : p.attrs.length ≤ 1099511627776 := by
  cases p with
  | ins l t n => obtain ⟨sl, e, h, s⟩ := h; exact h.2
  | emb l t x => obtain ⟨sl, e, h, s1, s2⟩ := h; exact h.2
  | ret l n => obtain ⟨sl, e, h⟩ := h; exact h.2
  | del n => simp [Piece.attrs]
theorem op_attrs (p : Piece) : p.op.attrs = p.attrs := by cases p <;> rfl
/-- The cell of piece number i. -/
theorem RdPieces.at_ {w : World} {a : Option Addr} {n cap : Nat} {l : List Piece} (h : RdPieces w (.slice a n cap) l) (i : Nat) (hi : i < n) :
    ∃ b off p v, l[i]? = some p ∧ a = some ⟨b, off, none⟩ ∧ w.cell? ⟨b, off + i, none⟩ = some v ∧ PieceV w p v := by
  obtain ⟨b, off, p, cs, e, hx, ⟨v, rfl, hv⟩, _, hc⟩ := RdList.get h i hi
  exact ⟨b, off, p, v, hx, e, by have := hc 0 _ (by omega) rfl; simpa using this, hv⟩
set_option maxHeartbeats 1000000 in
theorem plain_any (l : List Piece) (v : Value) (w : World) (hl : RdPieces w v l) (hgood : ∀ p ∈ l, p.good) :
    Calls Tryd.prog 39 #[v] w fun e w' => ∃ v', e = .returned v' ∧ OwnOps w.heap.size w' v' (l.map Piece.op) ∧ Gr w w' := by
  obtain ⟨a, n, cap, rfl, hcap, hm, hb, hn⟩ := hl.sl
  obtain ⟨mv, w1, hmk, ho, hg1⟩ := make_ops w n hb
  obtain ⟨ma, mn, mc, rfl, -, -, -⟩ := ho.sl
  go_enter Tryd.func39, Tryd.ntmps39
  go_wp2
  clear hmk
  go_loopw [3, 11] (fun o i wr => ∃ k : Nat, k ≤ n ∧ i = .int .i64 k ∧ Gr w wr ∧ OwnOps w.heap.size wr o ((l.take k).map Piece.op)) (fun _ i _ => n - (intOf i).toNat)
  case atStart => exact ⟨0, Nat.zero_le _, rfl, hg1, ho⟩
  case round =>
    obtain ⟨k, hk, rfl, hg, ho⟩ := hrel
    obtain ⟨oa, om, oc, rfl, -, -, hom⟩ := ho.sl
    by_cases hlt : k < n
    · obtain ⟨b, off, p, pv, hx, rfl, hc, hp⟩ := (RdPieces.gr hl hg).at_ k hlt
      have hlt' : (k : Int) < n := by omega
      obtain ⟨T, y, f, rfl, hm, he, hcall⟩ := op_meth hp (hgood _ (List.mem_of_getElem? hx))
      have HC := Lib.hid hcall; clear hcall
      have Hx := Lib.hid hx; clear hx
      obtain ⟨ok, ot, ⟨ova, ovb, ovt⟩, oc, oats, hop⟩ : ∃ ok ot ov oc oats, p.op = ⟨ok, ot, ov, oc, oats⟩ := ⟨_, _, _, _, _, rfl⟩
      have hs := hp.sz
      have hats := op_attrs p
      rw [hop] at HC hs hats
      have Hop := Lib.hid hop; clear hop
      go_wp2_with (first
        | (go_at_fn f; refine (HC.out _ (by repeat (with_reducible first | assumption | exact Gr.refl _ | apply Gr.alloc | apply Gr.drewN | apply Gr.drew | apply Gr.iter | (refine Gr.setCell ?_ (by simp) _) | (refine Gr.trans ?_ (by assumption))))).mono ?_; rintro e w2 ⟨sv, rfl, hs2, hg2⟩; obtain ⟨sa, sn, sc, rfl, -, -, -⟩ := hs2.sl; dsimp only [opV]; obtain ⟨v', w'', hrun, hown, hkg⟩ := push_op w2 w.heap.size 22 ⟨ok, ot, ⟨ova, ovb, ovt⟩, oc, oats⟩ _ (OwnOps.gr (w := wr) ho (by repeat (with_reducible first | assumption | exact Gr.refl _ | apply Gr.alloc | apply Gr.drewN | apply Gr.drew | apply Gr.iter | (refine Gr.setCell ?_ (by simp) _) | (refine Gr.trans ?_ (by assumption))))) (OwnAL.rd (hats ▸ hs2) (hats ▸ hp.short)) hs.1 hs.2 (by simp; omega) (Nat.le_trans hg.size (Gr.size (w := wr) (by repeat (with_reducible first | assumption | exact Gr.refl _ | apply Gr.alloc | apply Gr.drewN | apply Gr.drew | apply Gr.iter | (refine Gr.setCell ?_ (by simp) _) | (refine Gr.trans ?_ (by assumption)))))); have HP := Lib.hid (And.intro hrun (And.intro hown hkg)); clear hrun hown hkg)
        | (at_builtin; refine wpList_run rfl _ _ _ rfl rfl rfl HP.out.1 ?_))
      go_roundw
      case rel =>
        obtain ⟨-, h2, h3⟩ := HP.out
        refine ⟨k + 1, by omega, by go_num, Gr.kg (by repeat (with_reducible first | assumption | exact Gr.refl _ | apply Gr.alloc | apply Gr.drewN | apply Gr.drew | apply Gr.iter | (refine Gr.setCell ?_ (by simp) _) | (refine Gr.trans ?_ (by assumption)))) h3 (Nat.le_refl _), ?_⟩
        rw [take_map Hx.out, Hop.out]; exact h2
      case measure => simp [intOf]; omega
    · obtain rfl : k = n := by omega
      go_wp2
      go_ret
      rw [List.take_of_length_le (by rw [hn.out]; exact Nat.le_refl _)] at ho
      exact ⟨_, rfl, ho, (by repeat (with_reducible first | assumption | exact Gr.refl _ | apply Gr.alloc | apply Gr.drewN | apply Gr.drew | apply Gr.iter | (refine Gr.setCell ?_ (by simp) _) | (refine Gr.trans ?_ (by assumption))))⟩
set_option maxHeartbeats 1000000 in
theorem dops_any (l : List Piece) (v : Value) (w : World) (hl : DeltaR w v l) (hgood : ∀ p ∈ l, p.good) :
    Calls Tryd.prog 19 #[v] w fun e w' => ∃ v', e = .returned v' ∧ OwnOps w.heap.size w' v' (l.map Piece.op) ∧ Gr w w' := by
  obtain ⟨g, sl, rfl, hB, hr⟩ := hl
  obtain ⟨a, n, cap, rfl, -, -, -, -⟩ := hr.sl
  have hc := hB.cell
  go_enter Tryd.func19, Tryd.ntmps19
  go_wp2_with (go_at_call 39; refine (plain_any l _ _ (RdPieces.gr hr (by repeat (with_reducible first | assumption | exact Gr.refl _ | apply Gr.alloc | apply Gr.drewN | apply Gr.drew | apply Gr.iter | (refine Gr.setCell ?_ (by simp) _) | (refine Gr.trans ?_ (by assumption))))) hgood).mono ?_; rintro e w' ⟨v', rfl, ho, hg⟩)
  go_ret
  exact ⟨_, rfl, OwnL.base_le ho (Gr.size (w := w) (by repeat (with_reducible first | assumption | exact Gr.refl _ | apply Gr.alloc | apply Gr.drewN | apply Gr.drew | apply Gr.iter | (refine Gr.setCell ?_ (by simp) _) | (refine Gr.trans ?_ (by assumption))))), (by repeat (with_reducible first | assumption | exact Gr.refl _ | apply Gr.alloc | apply Gr.drewN | apply Gr.drew | apply Gr.iter | (refine Gr.setCell ?_ (by simp) _) | (refine Gr.trans ?_ (by assumption))))⟩
end Ve
