/- Walks of layer 1, the program's side: scalars.next, Check, Len. -/
import Derived.Test.YtmdakddgeagnmaaDoorK1
import Derived.Test.YtmdakddgeagnmaaDoorSpec
import Derived.Lib.RuneCountTail
import Derived.Lib.QuoteLoop
import Derived.Test.YtmdakddgeagnmaaDoorU
set_option linter.all false
namespace Ve
open Go Go.RowKit Go.Proofs

set_option maxHeartbeats 400000 in
theorem next_any {ea : Nat → Addr} (s : ByteArray) (k : Nat) (w : World) (hE : Env ea w) (hk : k < s.size) :
    Calls Tryd.prog 97 #[.string (s.extract k s.size)] w fun e w' => e = .returned (.tuple #[.int .i32 (dec s k).1, .int .i64 (dec s k).2]) ∧ Gr w w' := by
  obtain ⟨p, hp⟩ : ∃ p, Lib.decodeGo (s.extract k s.size) = p := ⟨_, rfl⟩
  have hd : dec s k = if p.1 = 65533 ∧ p.2 < 2 then (0, 0) else p := by
    rw [← hp]; unfold Lib.decodeGo dec
    have hz : ¬ (s.extract k s.size).size = 0 := by rw [Lib.ext_size]; omega
    rw [if_pos hk, if_neg hz, Lib.tail_decode]; rfl
  have H := Lib.hid hd; clear hd
  have HP := Lib.hid hp; clear hp
  go_enter Tryd.func97, Tryd.ntmps97
  go_wp2_with (go_at_call 98; refine (decode_any _ _ hE).mono ?_; rw [HP.out]; rintro e w' ⟨rfl, hg⟩)
  all_goals
    go_ret2
    refine ⟨?_, by assumption⟩
    by_cases h1 : p.1 = 65533 ∧ p.2 < 2
    · rw [H.out, if_pos h1]; refine ret_ii ?_ ?_ <;> simp <;> omega
    · rw [H.out, if_neg h1]; refine ret_ii ?_ ?_ <;> omega
theorem brkFrom_le (s : ByteArray) : ∀ f i, i ≤ s.size → brkFrom s f i ≤ s.size
  | 0, i, h => h
  | f + 1, i, h => by
    unfold brkFrom
    split
    · exact h
    · have := dec_le s i
      exact brkFrom_le s f _ (by omega)
set_option maxHeartbeats 400000 in
theorem scheck_any {ea : Nat → Addr} (s : ByteArray) (w : World) (hE : Env ea w) (hs : s.size ≤ 9223372036854775807) :
    Calls Tryd.prog 92 #[.string s] w fun e w' => e = .returned (.tuple #[.int .i64 (brk s), errOf ea (utf8Err s)]) ∧ Gr w w' := by
  go_enter Tryd.func92, Tryd.ntmps92
  go_wp2
  go_loopw [4] (fun i wr => ∃ k f : Nat, k ≤ s.size ∧ i = .int .i64 k ∧ Gr w wr ∧ brkFrom s f k = brk s ∧ s.size ≤ k + f) (fun i _ => s.size - (intOf i).toNat)
  case atStart => exact ⟨0, s.size, Nat.zero_le _, rfl, Gr.refl _, rfl, by omega⟩
  case round =>
    obtain ⟨k, f, hk, rfl, hg, hb, hf⟩ := hrel
    have Hb := Lib.hid hb; clear hb
    by_cases hlt : k < s.size
    · have hlt' : (k : Int) < s.size := by omega
      have hle := dec_le s k
      have he := (hE.gr hg).e1
      obtain ⟨f, rfl⟩ : ∃ m, f = m + 1 := ⟨f - 1, by omega⟩
      by_cases h0 : (dec s k).2 = 0
      · have h0' : (((dec s k).2 : Nat) : Int) = 0 := by omega
        go_wp2_with (go_at_call 97; refine (next_any _ _ _ (hE.gr hg) hlt).mono ?_; rintro e w' ⟨rfl, hg'⟩; have he' := hg'.cell he)
        go_quiet (fail)
        go_wp2
        go_ret2
        have hbk : brk s = k := by rw [← Hb.out, brkFrom, if_pos h0]
        refine ⟨ret_ie (by rw [hbk]) ?_, (hg.trans hg').drewN _⟩
        unfold utf8Err; rw [if_neg (by omega)]
      · have h0' : ((((dec s k).2 : Nat) : Int) == 0) = false := by simp; omega
        go_wp2_with (go_at_call 97; refine (next_any _ _ _ (hE.gr hg) hlt).mono ?_; rintro e w' ⟨rfl, hg'⟩; have he' := hg'.cell he)
        go_roundw
        case rel => exact ⟨k + (dec s k).2, f, by omega, by go_num, hg.trans hg', by rw [← Hb.out, brkFrom, if_neg h0], by omega⟩
        case measure => simp [intOf]; omega
    · obtain rfl : k = s.size := by omega
      go_wp2
      go_ret2
      have hbk : brk s = s.size := by
        rw [← Hb.out]
        cases f with
        | zero => rfl
        | succ f => rw [brkFrom, if_pos (by have := dec_le s s.size; omega)]
      refine ⟨ret_in (by rw [hbk]) ?_, hg⟩
      unfold utf8Err; rw [if_pos hbk]
set_option maxHeartbeats 400000 in
theorem slen_any {ea : Nat → Addr} (s : ByteArray) (w : World) (hE : Env ea w) (hs : s.size < 9223372036854775807) :
    Calls Tryd.prog 85 #[.string s] w fun e w' => e = .returned (.tuple #[.int .i64 (lenS s), errOf ea (utf8Err s)]) ∧ Gr w w' := by
  have he := hE.e1
  go_enter Tryd.func85, Tryd.ntmps85
  cases hv : validS s with
  | true =>
    have Hv := Lib.hid hv; clear hv
    go_wp2_with (first
      | (go_at_call 91; refine (valid_any _ _ hE (by omega)).mono ?_; rw [valid_brk, Hv.out]; rintro e w' ⟨rfl, hg⟩)
      | (go_at_call 94; refine (count_any _ _ hs).mono ?_; rintro e w'' ⟨rfl, hg'⟩))
    go_ret2
    have := Hv.out
    simp [validS] at this
    refine ⟨ret_in (lenS_ok this).symm ?_, hg.trans hg'⟩
    simp [utf8Err, this]
  | false =>
    have Hv := Lib.hid hv; clear hv
    go_wp2_with (go_at_call 91; refine (valid_any _ _ hE (by omega)).mono ?_; rw [valid_brk, Hv.out]; rintro e w' ⟨rfl, hg⟩; have he' := hg.cell he)
    go_quiet (fail)
    go_wp2
    go_ret2
    refine ⟨ret_ie (by unfold lenS; rw [Hv.out]; rfl) ?_, hg.drewN _⟩
    have := Hv.out
    simp [validS] at this
    simp [utf8Err, this]
end Ve
