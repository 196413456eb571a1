/- Walks of layers 5 and 6, the program's side: ops.Of, .. -/
import Derived.Test.YtmdakddgeagnmaaDoorG6
set_option linter.all false
namespace Ve
open Go Go.RowKit Go.Proofs

theorem take_map {α β : Type} {f : α → β} {l : List α} {k : Nat} {x : α} (h : l[k]? = some x) : (l.take (k + 1)).map f = (l.take k).map f ++ [f x] := by
  obtain ⟨hl, rfl⟩ := List.getElem?_eq_some_iff.1 h
  rw [List.take_succ_eq_append_getElem hl, List.map_append]; rfl
theorem badFrom_ok {i : Nat} {o : Op} {r : List Op} (h : checkOp o = 0) : badFrom i (o :: r) = badFrom (i + 1) r := by simp [badFrom, h]
theorem badFrom_bad {i : Nat} {o : Op} {r : List Op} (h : checkOp o ≠ 0) : badFrom i (o :: r) = (i, checkOp o) := by simp [badFrom, h]
theorem ret_three {a b c a' b' c' : Value} (h : a = a') (h' : b = b') (h'' : c = c') : Ending.returned (.tuple #[a, b, c]) = .returned (.tuple #[a', b', c']) := by rw [h, h', h'']
/-- A call that answers pieces, a number and an error. -/
def PiecesRes (ea : Nat → Addr) (r : Nat × Int) (l : List Piece) (w : World) (e : Ending) (w' : World) : Prop :=
  ∃ v, e = .returned (.tuple #[v, .int .i64 r.1, errOf ea r.2]) ∧ Gr w w' ∧ (r.2 = 0 → OwnL PieceR 1 w.heap.size 83 w' v l) ∧ (r.2 ≠ 0 → v = .slice none 0 0)
set_option maxHeartbeats 1000000 in
theorem oof_any {ea : Nat → Addr} (l : List Op) (v : Value) (w : World) (hE : Env ea w) (hl : RdOps w v l) :
    Calls Tryd.prog 58 #[v] w (PiecesRes ea (bad l) (l.map toPiece) w) := by
  obtain ⟨a, cap, rfl, hcap, hm, hb⟩ := hl.slice
  obtain ⟨n, hn⟩ : ∃ n, l.length = n := ⟨_, rfl⟩
  rw [hn] at hl hcap hb ⊢
  have Hn := Lib.hid hn; clear hn
  unfold maxLen at hm
  go_enter Tryd.func58, Tryd.ntmps58
  go_wp2
  go_loopw [5, 12] (fun o i wr => ∃ k : Nat, k ≤ n ∧ i = .int .i64 k ∧ Gr w wr ∧ OwnL PieceR 1 w.heap.size 83 wr o ((l.take k).map toPiece) ∧ badFrom k (l.drop k) = bad l) (fun _ i _ => n - (intOf i).toNat)
  case atStart => exact ⟨0, Nat.zero_le _, rfl, Gr.refl _, OwnL.nil .., rfl⟩
  case round =>
    obtain ⟨k, hk, rfl, hg, ho, ht⟩ := hrel
    have Ht := Lib.hid ht; clear ht
    obtain ⟨oa, om, oc, rfl, -, -, hom⟩ := ho.sl
    by_cases hlt : k < n
    · obtain ⟨b, off, xk, xt, xa, xb, xv, xc, ats, sl, hx, rfl, hr, c0, c1, c2, c3, c4, c5, c6, s1, s2⟩ := (RdOps.gr hl hg).at_ k hlt
      have Hx := Lib.hid hx; clear hx
      have hlt' : (k : Int) < n := by omega
      obtain ⟨R, hR⟩ : ∃ R, checkOp ⟨xk, xt, ⟨xa, xb, xv⟩, xc, ats⟩ = R := ⟨_, rfl⟩
      obtain ⟨p, hp⟩ : ∃ p, toPiece ⟨xk, xt, ⟨xa, xb, xv⟩, xc, ats⟩ = p := ⟨_, rfl⟩
      have HR := Lib.hid (And.intro hR hp); clear hR hp
      obtain ⟨sa, sc, hsl, -⟩ := RdList.slice hr
      subst hsl
      by_cases h0 : R = 0
      · have h0' : decide (R = 0) = true := by simpa using h0
        have H0 := Lib.hid h0; clear h0
        go_wp2_with (first
          | (go_at_call 67; refine (piece_any _ _ _ _ _ _ _ _ _ ((hE.gr hg).gr (by repeat (with_reducible first | assumption | exact Gr.refl _ | apply Gr.alloc | apply Gr.drewN | apply Gr.drew | apply Gr.iter | (refine Gr.setCell ?_ (by simp) _) | (refine Gr.trans ?_ (by assumption))))) (RdAttrs.gr hr (by repeat (with_reducible first | assumption | exact Gr.refl _ | apply Gr.alloc | apply Gr.drewN | apply Gr.drew | apply Gr.iter | (refine Gr.setCell ?_ (by simp) _) | (refine Gr.trans ?_ (by assumption))))) s1 s2).mono ?_; rw [HR.out.1, HR.out.2]; rintro e w' ⟨pv, rfl, hg', hp, -⟩; have hpv := hp H0.out; obtain ⟨T, y, hy⟩ := hpv.form; subst hy; obtain ⟨v', w'', hrun, hown, hgb, -, -, hbs⟩ := push_piece w' w.heap.size 66 (OwnL.gr (w := wr) ho (fun _ _ h => h.gr (w := wr) (by repeat (with_reducible first | assumption | exact Gr.refl _ | apply Gr.alloc | apply Gr.drewN | apply Gr.drew | apply Gr.iter | (refine Gr.setCell ?_ (by simp) _) | (refine Gr.trans ?_ (by assumption))))) (by repeat (with_reducible first | assumption | exact Gr.refl _ | apply Gr.alloc | apply Gr.drewN | apply Gr.drew | apply Gr.iter | (refine Gr.setCell ?_ (by simp) _) | (refine Gr.trans ?_ (by assumption))))) hpv (by simp; omega) (Nat.le_trans hg.size (Gr.size (w := wr) (by repeat (with_reducible first | assumption | exact Gr.refl _ | apply Gr.alloc | apply Gr.drewN | apply Gr.drew | apply Gr.iter | (refine Gr.setCell ?_ (by simp) _) | (refine Gr.trans ?_ (by assumption)))))); have HP := Lib.hid (And.intro hrun (And.intro hown (And.intro hgb hbs))); clear hrun hown hgb hbs hp)
          | (at_builtin; refine wpList_run rfl _ _ _ rfl rfl rfl HP.out.1 ?_))
        go_roundw
        case rel =>
          obtain ⟨-, h2, h3, h4⟩ := HP.out
          refine ⟨k + 1, by omega, by go_num, ?_, ?_, ?_⟩
          · exact Gr.push (by repeat (with_reducible first | assumption | exact Gr.refl _ | apply Gr.alloc | apply Gr.drewN | apply Gr.drew | apply Gr.iter | (refine Gr.setCell ?_ (by simp) _) | (refine Gr.trans ?_ (by assumption)))) h3 (fun b hb => h4 b hb)
          · rw [take_map Hx.out, HR.out.2]; exact h2
          · rw [← Ht.out, drop_cons Hx.out, badFrom_ok (HR.out.1.trans H0.out)]
        case measure => simp [intOf]; omega
      · have h0' : decide (R = 0) = false := by simpa using h0
        have H0 := Lib.hid h0; clear h0
        go_wp2_with (first
          | (go_at_call 67; refine (piece_any _ _ _ _ _ _ _ _ _ ((hE.gr hg).gr (by repeat (with_reducible first | assumption | exact Gr.refl _ | apply Gr.alloc | apply Gr.drewN | apply Gr.drew | apply Gr.iter | (refine Gr.setCell ?_ (by simp) _) | (refine Gr.trans ?_ (by assumption))))) (RdAttrs.gr hr (by repeat (with_reducible first | assumption | exact Gr.refl _ | apply Gr.alloc | apply Gr.drewN | apply Gr.drew | apply Gr.iter | (refine Gr.setCell ?_ (by simp) _) | (refine Gr.trans ?_ (by assumption))))) s1 s2).mono ?_; rw [HR.out.1, HR.out.2]; rintro e w' ⟨pv, rfl, hg', -, hn⟩; have hpv := hn H0.out; subst hpv))
        go_ret3
        have hb : bad l = (k, R) := by rw [← Ht.out, drop_cons Hx.out, badFrom_bad (by rw [HR.out.1]; exact H0.out), HR.out.1]
        rw [hb]
        exact ⟨_, ret_three rfl rfl rfl, (by repeat (with_reducible first | assumption | exact Gr.refl _ | apply Gr.alloc | apply Gr.drewN | apply Gr.drew | apply Gr.iter | (refine Gr.setCell ?_ (by simp) _) | (refine Gr.trans ?_ (by assumption)))), fun h => absurd h H0.out, fun _ => rfl⟩
    · obtain rfl : k = n := by omega
      go_wp2
      go_ret3
      have hl0 : l.drop k = [] := List.drop_eq_nil_of_le (by rw [Hn.out]; exact Nat.le_refl _)
      have hb : bad l = (0, 0) := by rw [← Ht.out, hl0]; rfl
      rw [List.take_of_length_le (by rw [Hn.out]; exact Nat.le_refl _)] at ho
      rw [hb]
      exact ⟨_, ret_three rfl rfl (errOf_zero ea).symm, (by repeat (with_reducible first | assumption | exact Gr.refl _ | apply Gr.alloc | apply Gr.drewN | apply Gr.drew | apply Gr.iter | (refine Gr.setCell ?_ (by simp) _) | (refine Gr.trans ?_ (by assumption)))), fun _ => ho, fun h => absurd rfl h⟩
end Ve
