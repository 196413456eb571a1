/- Walks of the reference of layer 1. -/
import Derived.Test.YtmdakddgeagnmaaDoorMem3
import Derived.Test.YtmdakddgeagnmaaDoorK1
import Derived.Laws.BytesArg
set_option linter.all false
namespace Ve
open Go Go.RowKit Go.Proofs

def isSc (r : Int) : Bool := decide ((0 ≤ r ∧ r < 55296) ∨ (57344 ≤ r ∧ r ≤ 1114111))
set_option maxHeartbeats 1000000 in
theorem rscalar_any (r : Int) (w : World) : Calls Tryd.prog 81 #[.int .i32 r] w fun e w' => e = .returned (.bool (isSc r)) ∧ Gr w w' := by
  go_enter Tryd.func81, Tryd.ntmps81
  go_wp2
  all_goals go_ret
  all_goals refine ⟨ret_bool ?_, (by repeat (with_reducible first | assumption | exact Gr.refl _ | apply Gr.alloc | apply Gr.drewN | apply Gr.drew | apply Gr.iter | (refine Gr.setCell ?_ (by simp) _) | (refine Gr.trans ?_ (by assumption))))⟩
  all_goals (rw [Bool.eq_iff_iff]; simp [isSc] <;> omega)
def bytesOf (l : List Nat) : ByteArray := ⟨(l.map UInt8.ofNat).toArray⟩
def encB (r : Nat) : ByteArray :=
  if r < 128 then bytesOf [r] else if r < 2048 then bytesOf [192 + r / 64, 128 + r % 64] else if r < 65536 then bytesOf [224 + r / 4096, 128 + r / 64 % 64, 128 + r % 64]
  else bytesOf [240 + r / 262144, 128 + r / 4096 % 64, 128 + r / 64 % 64, 128 + r % 64]
theorem ret_str {a b : ByteArray} (h : a = b) : Ending.returned (.string a) = .returned (.string b) := by rw [h]
theorem conv1 (a : Int) (w : World) : (convert 142 9 (.slice (some ⟨w.heap.size, 0, none⟩) 1 1)).run Tryd.prog (w.alloc (.cells #[.int .u8 a] 5)) = .ok (.string (strOfNums [a])) (w.alloc (.cells #[.int .u8 a] 5)) :=
  run_convert_bytes_arg _ _ _ Tryd.underlying142 Tryd.underlying5 _ 0 1 1 [a] rfl (fun i hi => by
    match i, hi with
    | 0, _ => simp) _ Tryd.underlying9
theorem conv2 (a b : Int) (w : World) : (convert 142 9 (.slice (some ⟨w.heap.size, 0, none⟩) 2 2)).run Tryd.prog (w.alloc (.cells #[.int .u8 a, .int .u8 b] 5)) = .ok (.string (strOfNums [a, b])) (w.alloc (.cells #[.int .u8 a, .int .u8 b] 5)) :=
  run_convert_bytes_arg _ _ _ Tryd.underlying142 Tryd.underlying5 _ 0 2 2 [a, b] rfl (fun i hi => by
    match i, hi with
    | 0, _ => simp
    | 1, _ => simp) _ Tryd.underlying9
theorem conv3 (a b c : Int) (w : World) : (convert 142 9 (.slice (some ⟨w.heap.size, 0, none⟩) 3 3)).run Tryd.prog (w.alloc (.cells #[.int .u8 a, .int .u8 b, .int .u8 c] 5)) = .ok (.string (strOfNums [a, b, c])) (w.alloc (.cells #[.int .u8 a, .int .u8 b, .int .u8 c] 5)) :=
  run_convert_bytes_arg _ _ _ Tryd.underlying142 Tryd.underlying5 _ 0 3 3 [a, b, c] rfl (fun i hi => by
    match i, hi with
    | 0, _ => simp
    | 1, _ => simp
    | 2, _ => simp) _ Tryd.underlying9
theorem conv4 (a b c d : Int) (w : World) : (convert 142 9 (.slice (some ⟨w.heap.size, 0, none⟩) 4 4)).run Tryd.prog (w.alloc (.cells #[.int .u8 a, .int .u8 b, .int .u8 c, .int .u8 d] 5)) = .ok (.string (strOfNums [a, b, c, d])) (w.alloc (.cells #[.int .u8 a, .int .u8 b, .int .u8 c, .int .u8 d] 5)) :=
  run_convert_bytes_arg _ _ _ Tryd.underlying142 Tryd.underlying5 _ 0 4 4 [a, b, c, d] rfl (fun i hi => by
    match i, hi with
    | 0, _ => simp
    | 1, _ => simp
    | 2, _ => simp
    | 3, _ => simp) _ Tryd.underlying9
theorem strOf2 (a b : Nat) {x y : Int} (h1 : x = a) (h2 : y = b) : strOfNums [x, y] = bytesOf [a, b] := by subst h1 h2; simp [strOfNums, bytesOf]
theorem strOf3 (a b c : Nat) {x y z : Int} (h1 : x = a) (h2 : y = b) (h3 : z = c) : strOfNums [x, y, z] = bytesOf [a, b, c] := by subst h1 h2 h3; simp [strOfNums, bytesOf]
theorem strOf4 (a b c d : Nat) {x y z v : Int} (h1 : x = a) (h2 : y = b) (h3 : z = c) (h4 : v = d) : strOfNums [x, y, z, v] = bytesOf [a, b, c, d] := by subst h1 h2 h3 h4; simp [strOfNums, bytesOf]
attribute [go_sem] conv1 conv2 conv3 conv4
set_option maxRecDepth 100000 in
set_option maxHeartbeats 2000000 in
theorem rencode_any (r : Nat) (hr : r ≤ 1114111) (w : World) : Calls Tryd.prog 82 #[.int .i32 r] w fun e w' => e = .returned (.string (encB r)) ∧ Gr w w' := by
  by_cases h1 : r < 128
  · have h1' : (r : Int) < 128 := by omega
    go_enter Tryd.func82, Tryd.ntmps82
    go_wp2
    go_ret
    refine ⟨ret_str ?_, (by repeat (with_reducible first | assumption | exact Gr.refl _ | apply Gr.alloc | apply Gr.drewN | apply Gr.drew | apply Gr.iter | (refine Gr.setCell ?_ (by simp) _) | (refine Gr.trans ?_ (by assumption))))⟩
    simp [encB, h1, strOfNums, bytesOf]
  · by_cases h2 : r < 2048
    · have h1' : 128 ≤ (r : Int) := by omega
      have h2' : (r : Int) < 2048 := by omega
      go_enter Tryd.func82, Tryd.ntmps82
      go_wp2
      go_ret
      refine ⟨ret_str ?_, (by repeat (with_reducible first | assumption | exact Gr.refl _ | apply Gr.alloc | apply Gr.drewN | apply Gr.drew | apply Gr.iter | (refine Gr.setCell ?_ (by simp) _) | (refine Gr.trans ?_ (by assumption))))⟩
      simp only [encB, if_neg h1, if_pos h2]
      exact strOf2 _ _ (by omega) (by omega)
    · by_cases h3 : r < 65536
      · have h1' : 2048 ≤ (r : Int) := by omega
        have h2' : (r : Int) < 65536 := by omega
        have h3' : ¬ (r : Int) < 128 := by omega
        have h4' : ¬ (r : Int) < 2048 := by omega
        have d1 : 0 ≤ (r : Int) / 64 ∧ (r : Int) / 64 < 1024 := by omega
        have d2 : 0 ≤ (r : Int) / 64 % 64 ∧ (r : Int) / 64 % 64 < 64 := by omega
        have d3 : 0 ≤ (r : Int) / 4096 ∧ (r : Int) / 4096 < 16 := by omega
        have d4 : 0 ≤ (r : Int) % 64 ∧ (r : Int) % 64 < 64 := by omega
        go_enter Tryd.func82, Tryd.ntmps82
        go_wp2
        go_ret
        refine ⟨ret_str ?_, (by repeat (with_reducible first | assumption | exact Gr.refl _ | apply Gr.alloc | apply Gr.drewN | apply Gr.drew | apply Gr.iter | (refine Gr.setCell ?_ (by simp) _) | (refine Gr.trans ?_ (by assumption))))⟩
        simp only [encB, if_neg h1, if_neg h2, if_pos h3]
        exact strOf3 _ _ _ (by omega) (by omega) (by omega)
      · have h1' : 65536 ≤ (r : Int) := by omega
        have h2' : (r : Int) ≤ 1114111 := by omega
        have h3' : ¬ (r : Int) < 128 := by omega
        have h4' : ¬ (r : Int) < 2048 := by omega
        have h5' : ¬ (r : Int) < 65536 := by omega
        have d0 : 0 ≤ (r : Int) / 262144 ∧ (r : Int) / 262144 < 5 := by omega
        have d1 : 0 ≤ (r : Int) / 64 ∧ (r : Int) / 64 < 17408 := by omega
        have d2 : 0 ≤ (r : Int) / 64 % 64 ∧ (r : Int) / 64 % 64 < 64 := by omega
        have d3 : 0 ≤ (r : Int) / 4096 ∧ (r : Int) / 4096 < 272 := by omega
        have d5 : 0 ≤ (r : Int) / 4096 % 64 ∧ (r : Int) / 4096 % 64 < 64 := by omega
        have d4 : 0 ≤ (r : Int) % 64 ∧ (r : Int) % 64 < 64 := by omega
        go_enter Tryd.func82, Tryd.ntmps82
        go_wp2
        go_ret
        refine ⟨ret_str ?_, (by repeat (with_reducible first | assumption | exact Gr.refl _ | apply Gr.alloc | apply Gr.drewN | apply Gr.drew | apply Gr.iter | (refine Gr.setCell ?_ (by simp) _) | (refine Gr.trans ?_ (by assumption))))⟩
        simp only [encB, if_neg h1, if_neg h2, if_neg h3]
        exact strOf4 _ _ _ _ (by omega) (by omega) (by omega) (by omega)
end Ve
