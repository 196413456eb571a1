/- compose.All; the law ComposeBrackets. -/
import Derived.Test.YtnlpmajiccliiaaGreatDoorGR
import Derived.Test.YtnlpmajiccliiaaGreatDoorNL
set_option linter.all false
namespace Ve
open Go Go.RowKit Go.Proofs

attribute [local go_sem ↓] sliced_sh

set_option maxHeartbeats 4000000 in
/-- A row of deltas composed, one behind the other. -/
theorem call_any {ea : Nat → Addr} (D0 : List Piece) (r : List (List Piece)) (v : Value) (w : World) (n k : Nat) (hE : Env ea w) (hl : RdDl w v (D0 :: r)) (h0 : Szd n D0) (hr : SzL k r) (hn : n + k ≤ 1048576) :
    Calls Tryz.prog 22 #[v] w fun e w' => ∃ v' E, e = .returned (.tuple #[v', errOf ea E]) ∧ FoldR (foldC D0 r) w' v' E ∧ Gr w w' := by
  obtain ⟨a, cap, rfl, hcap, hmax, hlen⟩ := RdList.slice hl
  obtain ⟨m, hm⟩ : ∃ m, r.length = m := ⟨_, rfl⟩
  simp only [List.length_cons, hm] at hl hcap hlen ⊢
  obtain ⟨b, off, g0, D, hx, rfl, c0, hd0⟩ := RdDl.at_ hl 0 (by omega)
  obtain rfl : D0 = D := by simpa using hx
  obtain ⟨ad, hsl, hrd⟩ := rd_slSh hl 1 (by omega)
  simp only [Nat.add_sub_cancel, List.drop_succ_cons, List.drop_zero] at hsl hrd
  rw [Nat.add_zero] at c0
  have z0 := cell_lt c0
  have hm1 : ((m : Int) + 1 == 0) = false := by simp; omega
  have HR := Lib.hid hrd; clear hrd hl hx
  go_enter Tryz.func22, Tryz.ntmps22
  go_wp2
  go_loopw [4, 18] (fun d i wr => ∃ (j : Nat) (D : List Piece) (n' k' : Nat), j ≤ m ∧ i = .int .i64 j ∧ Gr w wr ∧ DeltaR wr d D ∧ Szd n' D ∧ SzL k' (r.drop j) ∧ n' + k' ≤ 1048576 ∧ foldC D (r.drop j) = foldC D0 r) (fun _ i _ => m - (intOf i).toNat)
  case atStart => exact ⟨0, D0, n, k, Nat.zero_le _, rfl, Gr.refl _, hd0, h0, hr, hn, rfl⟩
  case round =>
    obtain ⟨j, D, n', k', hj, rfl, hg, hd, hs, hL, hnk, hf⟩ := hrel
    obtain ⟨gd, rfl⟩ := hd.ptr
    have HF := Lib.hid hf; clear hf
    by_cases hlt : j < m
    · obtain ⟨b1, off1, g1, D1, hx1, rfl, c1, hd1⟩ := RdDl.at_ (RdDl.gr HR.out hg) j hlt
      have hdr : r.drop j = D1 :: r.drop (j + 1) := by
        obtain ⟨h1, h2⟩ := List.getElem?_eq_some_iff.1 hx1
        rw [List.drop_eq_getElem_cons h1, h2]
      rw [hdr] at hL
      obtain ⟨s1, s2, m', k2, s3, s4, s5⟩ := fold_step hs hL hnk
      have hlt' : (j : Int) < m := by omega
      have HP := Lib.hid s2; clear s2 hL hx1
      have hfd := HF.out
      rw [hdr] at hfd
      simp only [foldC] at hfd
      have HD := Lib.hid hfd; clear hfd hdr
      obtain ⟨E, hE1⟩ : ∃ E, catE (compL D D1) = E := ⟨_, rfl⟩
      obtain ⟨X, hX⟩ : ∃ x, (putAll .new (compL D D1)).delta = x := ⟨_, rfl⟩
      have e1 := catE_or (compL D D1)
      rw [hE1] at s5 e1
      rw [hX] at s5
      have H1 := Lib.hid (And.intro hE1 hX); clear hE1 hX
      rcases e1 with rfl | rfl
      · have hSX := s5 rfl
        clear s5
        go_wp2_with (go_at_call 18; refine (ccompose_cmp D D1 _ _ _ (hE.gr grOf) (hd.gr grOf) (hd1.gr grOf) hs.can s1 HP.out).mono ?_; rw [H1.out.1]; rintro e w5 ⟨v5, rfl, hr5, hg5⟩; have hd5 := CmpR.ok hr5; rw [H1.out.2] at hd5; obtain ⟨g5, hv5⟩ := hd5.ptr; subst hv5; clear hr5; rw [errOf_zero])
        go_roundw
        case rel =>
          have h := HD.out
          rw [if_pos H1.out.1, H1.out.2] at h
          exact ⟨j + 1, X, n' + m', k2, by omega, by go_num, grOf, hd5.gr grOf, hSX, s3, s4, h⟩
        case measure => simp [intOf]; omega
      · clear s5
        go_wp2_with (go_at_call 18; refine (ccompose_cmp D D1 _ _ _ (hE.gr grOf) (hd.gr grOf) (hd1.gr grOf) hs.can s1 HP.out).mono ?_; rw [H1.out.1]; rintro e w5 ⟨v5, rfl, hr5, hg5⟩; have hv5 := CmpR.no hr5; subst hv5; clear hr5)
        go_ret2
        have h := HD.out
        rw [if_neg (by rw [H1.out.1]; decide)] at h
        exact ⟨_, 11, ret_two rfl rfl, .inr ⟨h.symm, rfl, rfl⟩, grOf⟩
    · obtain rfl : j = m := by omega
      go_wp2
      go_ret2
      have h := HF.out
      rw [← hm, List.drop_length] at h
      exact ⟨.pointer (some ⟨gd, 0, none⟩), 0, ret_two rfl (by rw [errOf_zero]; rfl), .inl ⟨D, h.symm, rfl, hd⟩, grOf⟩

theorem rd_dl3 {w : World} {g g1 g2 g3 : Nat} {T : TypeId} {A B C : List Piece} (h1 : DeltaR w (.pointer (some ⟨g1, 0, none⟩)) A) (h2 : DeltaR w (.pointer (some ⟨g2, 0, none⟩)) B) (h3 : DeltaR w (.pointer (some ⟨g3, 0, none⟩)) C)
    (h : Blk w g T #[.pointer (some ⟨g1, 0, none⟩), .pointer (some ⟨g2, 0, none⟩), .pointer (some ⟨g3, 0, none⟩)]) : RdDl w (.slice (some ⟨g, 0, none⟩) 3 3) [A, B, C] := by
  refine ⟨some ⟨g, 0, none⟩, 3, [.pointer (some ⟨g1, 0, none⟩), .pointer (some ⟨g2, 0, none⟩), .pointer (some ⟨g3, 0, none⟩)], rfl, Nat.le_refl _, by simp [maxLen], by simp, ?_, fun _ => ⟨g, 0, rfl, fun j u hu => ?_⟩⟩
  · exact ⟨[_], _, rfl, rfl, ⟨g1, rfl, h1⟩, ⟨[_], _, rfl, rfl, ⟨g2, rfl, h2⟩, ⟨[_], _, rfl, rfl, ⟨g3, rfl, h3⟩, rfl⟩⟩⟩
  · rw [Nat.zero_add, h.cell j, ← hu]
    simp
end Ve
