/- Walks of the reference of layer 6: Insert, Len, Plain, push. -/
import Derived.Test.YtapolkhdikdjbaaGreatDoorS3
import Derived.Laws.RangeAny
set_option linter.all false
namespace Ve
open Go Go.RowKit Go.Proofs

set_option maxHeartbeats 400000 in
theorem same03_any (la lb : List Attr) (va vb : Value) (w : World) (ha : RdAttrs w va la) (hb : RdAttrs w vb lb) :
    Calls Tryz.prog 153 #[va, vb] w fun e w' => e = .returned (.bool (decide (la = lb))) ∧ Gr w w' := by
  obtain ⟨aa, n, ca, rfl, hla, hma, -, hna⟩ := ha.sl
  obtain ⟨ab, m, cb, rfl, hlb, hmb, -, hnb⟩ := hb.sl
  by_cases hlen : n = m
  · subst hlen
    go_enter Tryz.func153, Tryz.ntmps153
    go_wp2
    go_loopw [5, 13] (fun _ i wr => ∃ k : Nat, k ≤ n ∧ i = .int .i64 k ∧ Gr w wr ∧ la.take k = lb.take k) (fun _ i _ => n - (intOf i).toNat)
    case atStart => exact ⟨0, Nat.zero_le _, rfl, Gr.refl _, rfl⟩
    case round =>
      obtain ⟨k, hk, rfl, hg, ht⟩ := hrel
      have Ht := Lib.hid ht; clear ht
      by_cases hlt : k < n
      · obtain ⟨b1, o1, xk, xa, xb, xt, hx, rfl, a0, a1, a2, a3, -, -⟩ := (RdAttrs.gr ha hg).at_ k hlt
        obtain ⟨b2, o2, yk, ya, yb, yt, hy, rfl, c0, c1, c2, c3, -, -⟩ := (RdAttrs.gr hb hg).at_ k hlt
        have H := Lib.hid (And.intro hx hy); clear hx hy
        have hlt' : (k : Int) < n := by omega
        go_wp2
        go_quiet (fail)
        go_wp2
        · rename_i h
          have h := (eqA_eq ⟨xk, ⟨xa, xb, xt⟩⟩ ⟨yk, ⟨ya, yb, yt⟩⟩).symm.trans (show eqA xk xa xb xt yk ya yb yt = false by simpa using h)
          go_ret
          refine ⟨ret_bool ?_, (by repeat (with_reducible first | assumption | exact Gr.refl _ | apply Gr.alloc | apply Gr.drewN | apply Gr.drew | apply Gr.iter | (refine Gr.setCell ?_ (by simp) _) | (refine Gr.trans ?_ (by assumption))))⟩
          obtain ⟨hx, hy⟩ := H.out
          simp only [decide_eq_false_iff_not] at h
          simp only [Bool.false_eq, decide_eq_false_iff_not]
          intro e
          subst e
          exact h (Option.some.inj (hx.symm.trans hy))
        · rename_i h
          have h := (eqA_eq ⟨xk, ⟨xa, xb, xt⟩⟩ ⟨yk, ⟨ya, yb, yt⟩⟩).symm.trans (show eqA xk xa xb xt yk ya yb yt = true by simpa using h)
          have h := Lib.hid (of_decide_eq_true h)
          go_roundw
          case rel =>
            obtain ⟨hx, hy⟩ := H.out
            refine ⟨k + 1, by omega, by go_num, (by repeat (with_reducible first | assumption | exact Gr.refl _ | apply Gr.alloc | apply Gr.drewN | apply Gr.drew | apply Gr.iter | (refine Gr.setCell ?_ (by simp) _) | (refine Gr.trans ?_ (by assumption)))), ?_⟩
            rw [List.take_succ, List.take_succ, Ht.out, hx, hy, h.out]
          case measure => simp [intOf]; omega
      · obtain rfl : k = n := by omega
        go_wp2
        go_ret
        refine ⟨ret_bool ?_, (by repeat (with_reducible first | assumption | exact Gr.refl _ | apply Gr.alloc | apply Gr.drewN | apply Gr.drew | apply Gr.iter | (refine Gr.setCell ?_ (by simp) _) | (refine Gr.trans ?_ (by assumption))))⟩
        have ht := Ht.out
        have e1 := hna.out
        have e2 := hnb.out
        rw [List.take_of_length_le (by omega), List.take_of_length_le (by omega)] at ht
        simp [ht]
  · go_enter Tryz.func153, Tryz.ntmps153
    go_wp2
    go_ret
    exact ⟨ret_bool (by have e1 := hna.out; have e2 := hnb.out; simp; rintro rfl; omega), Gr.refl _⟩
theorem blkOne (w : World) (e1 : TypeId) (c1 : Array Value) : ∃ W, w.alloc (.cells c1 e1) = W ∧ Blk W w.heap.size e1 c1 ∧ Gr w W := ⟨_, rfl, Blk.new _ _ _, (Gr.refl w).alloc _⟩
set_option maxHeartbeats 1000000 in
theorem insert06_any (k : Int) (t : ByteArray) (va vb : Int) (vt : ByteArray) (c : Int) (sl : Value) (l : List Attr) (w : World) (hl : RdAttrs w sl l) :
    Calls Tryz.prog 100 #[.agg #[.int .i64 k, .string t, .int .i64 va, .int .i64 vb, .string vt, .int .i64 c, sl]] w fun e w' => e = .returned (.bool (isIns ⟨k, t, ⟨va, vb, vt⟩, c, l⟩)) ∧ Gr w w' := by
  obtain ⟨a, cap, rfl, -⟩ := hl.slice
  by_cases hk : k = 1 ∨ k = 2
  · rcases hk with rfl | rfl
    · go_enter Tryz.func100, Tryz.ntmps100
      go_wp2
      go_ret
      exact ⟨rfl, (by repeat (with_reducible first | assumption | exact Gr.refl _ | apply Gr.alloc | apply Gr.drewN | apply Gr.drew | apply Gr.iter | (refine Gr.setCell ?_ (by simp) _) | (refine Gr.trans ?_ (by assumption))))⟩
    · go_enter Tryz.func100, Tryz.ntmps100
      go_wp2
      go_ret
      exact ⟨rfl, (by repeat (with_reducible first | assumption | exact Gr.refl _ | apply Gr.alloc | apply Gr.drewN | apply Gr.drew | apply Gr.iter | (refine Gr.setCell ?_ (by simp) _) | (refine Gr.trans ?_ (by assumption))))⟩
  · have k1 : (k == 1) = false := by simp; omega
    have k2 : (k == 2) = false := by simp; omega
    go_enter Tryz.func100, Tryz.ntmps100
    go_wp2
    go_ret
    refine ⟨ret_bool ?_, (by repeat (with_reducible first | assumption | exact Gr.refl _ | apply Gr.alloc | apply Gr.drewN | apply Gr.drew | apply Gr.iter | (refine Gr.setCell ?_ (by simp) _) | (refine Gr.trans ?_ (by assumption))))⟩
    simp [isIns, k1, k2]
set_option maxHeartbeats 1000000 in
theorem plain06_any (k : Int) (t : ByteArray) (va vb : Int) (vt : ByteArray) (c : Int) (sl : Value) (l : List Attr) (w : World) (hl : RdAttrs w sl l) :
    Calls Tryz.prog 102 #[.agg #[.int .i64 k, .string t, .int .i64 va, .int .i64 vb, .string vt, .int .i64 c, sl]] w fun e w' => e = .returned (.bool (plainO ⟨k, t, ⟨va, vb, vt⟩, c, l⟩)) ∧ Gr w w' := by
  obtain ⟨a, n, cap, rfl, -, -, -, hn⟩ := hl.sl
  by_cases hk : k = 3
  · subst hk
    go_enter Tryz.func102, Tryz.ntmps102
    go_wp2
    go_ret
    refine ⟨ret_bool ?_, (by repeat (with_reducible first | assumption | exact Gr.refl _ | apply Gr.alloc | apply Gr.drewN | apply Gr.drew | apply Gr.iter | (refine Gr.setCell ?_ (by simp) _) | (refine Gr.trans ?_ (by assumption))))⟩
    have := hn.out
    subst this
    rw [Bool.eq_iff_iff]
    simp [plainO]
  · have k1 : (k == 3) = false := by simpa using hk
    go_enter Tryz.func102, Tryz.ntmps102
    go_wp2
    go_ret
    refine ⟨ret_bool ?_, (by repeat (with_reducible first | assumption | exact Gr.refl _ | apply Gr.alloc | apply Gr.drewN | apply Gr.drew | apply Gr.iter | (refine Gr.setCell ?_ (by simp) _) | (refine Gr.trans ?_ (by assumption))))⟩
    simp [plainO, k1]
/-- What vellumref06.Len answers. -/
def len06 (o : Op) : Int := if o.kind = 1 then Lib.runeCount o.text else if o.kind = 2 then 1 else o.count
theorem len06_ok {o : Op} (h : checkOp o = 0) : len06 o = rlen o := by
  rw [rlen_ok h]
  have hk := ok_kind h
  unfold len06 toPiece
  rcases hk with k | k | k | k <;> simp [k, Piece.len]
set_option maxRecDepth 20000 in
set_option maxHeartbeats 1000000 in
theorem len06_any (k : Int) (t : ByteArray) (va vb : Int) (vt : ByteArray) (c : Int) (sl : Value) (l : List Attr) (w : World) (hl : RdAttrs w sl l) (ht : szS t) :
    Calls Tryz.prog 147 #[.agg #[.int .i64 k, .string t, .int .i64 va, .int .i64 vb, .string vt, .int .i64 c, sl]] w fun e w' => e = .returned (.int .i64 (len06 ⟨k, t, ⟨va, vb, vt⟩, c, l⟩)) ∧ Gr w w' := by
  obtain ⟨a, cap, rfl, -⟩ := hl.slice
  have ht40 := ht.le40
  by_cases hk : k = 1
  · subst hk
    have hrc := Lib.runeCount_le t
    go_enter Tryz.func147, Tryz.ntmps147
    go_wp2
    obtain ⟨W, hW, B1, hg⟩ := blkOne w 46 #[.int .i64 1, .string t, .int .i64 va, .int .i64 vb, .string vt, .int .i64 c, .slice a l.length cap]
    rw [hW]
    have hz : W.heap.size = w.heap.size + 1 := by rw [← hW]; simp
    have HW := Lib.hid hW; clear hW
    have HZ := Lib.hid hz; clear hz
    go_loopw [3] (fun x wr => ∃ (p b m : Nat), wr = W.iter t p ∧ x = .int .i64 m ∧ m + Lib.runeCountFrom t b p = Lib.runeCount t ∧ t.size ≤ p + b) (fun _ wr => t.size - wr.iterPos W.heap.size)
    case atStart => exact ⟨0, t.size, 0, rfl, rfl, by rw [Nat.zero_add]; rfl, by omega⟩
    case round =>
      obtain ⟨p, b, m, rfl, rfl, hc, hb⟩ := hrel
      have Hc := Lib.hid hc
      by_cases hp : p < t.size
      · have hwd := Lib.decode_width_pos t p hp
        obtain ⟨D, hD⟩ : ∃ D, Utf8.decode t p = D := ⟨_, rfl⟩
        rw [hD] at hwd
        obtain ⟨b, rfl⟩ : ∃ q, b = q + 1 := ⟨b - 1, by omega⟩
        have hst : Lib.runeCountFrom t (b + 1) p = 1 + Lib.runeCountFrom t b (p + D.2) := by rw [← hD]; simp [Lib.runeCountFrom, hp]
        rw [hst] at hc
        have hnx : ∀ ty, (Instr.next (.pointer (some ⟨w.heap.size + 1, 0, none⟩)) true ty).run Tryz.prog (W.iter t p) = .ok (.tuple #[.bool true, .int .i64 p, .int .i32 D.1]) (W.iter t (p + D.2)) := fun ty => by rw [← HZ.out, run_next_any W t p ty hp, hD]
        clear hD hst
        go_wp2
        go_roundw
        case rel => exact ⟨p + D.2, b, m + 1, rfl, by go_num, by omega, by omega⟩
        case measure => simp; omega
      · have hnx0 : ∀ ty, (Instr.next (.pointer (some ⟨W.heap.size, 0, none⟩)) true ty).run Tryz.prog (W.iter t p) = _ := fun ty => run_next_end W t p ty hp
        rw [HZ.out] at hnx0
        rw [Lib.runeCountFrom_end t b p hp, Nat.add_zero] at hc
        subst hc
        go_wp2
        go_ret
        exact ⟨rfl, hg.trans ((Gr.refl W).iter _ _)⟩
  · have k1 : (k == 1) = false := by simpa using hk
    by_cases hk2 : k = 2
    · subst hk2
      go_enter Tryz.func147, Tryz.ntmps147
      go_wp2
      go_ret
      exact ⟨rfl, (by repeat (with_reducible first | assumption | exact Gr.refl _ | apply Gr.alloc | apply Gr.drewN | apply Gr.drew | apply Gr.iter | (refine Gr.setCell ?_ (by simp) _) | (refine Gr.trans ?_ (by assumption))))⟩
    · have k2 : (k == 2) = false := by simpa using hk2
      go_enter Tryz.func147, Tryz.ntmps147
      go_wp2
      go_ret
      refine ⟨ret_int ?_, (by repeat (with_reducible first | assumption | exact Gr.refl _ | apply Gr.alloc | apply Gr.drewN | apply Gr.drew | apply Gr.iter | (refine Gr.setCell ?_ (by simp) _) | (refine Gr.trans ?_ (by assumption))))⟩
      simp only [len06]
      rw [if_neg hk, if_neg hk2]
end Ve
