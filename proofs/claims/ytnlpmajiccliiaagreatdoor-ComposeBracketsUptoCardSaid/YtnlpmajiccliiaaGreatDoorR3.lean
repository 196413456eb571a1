/- Walks of the reference of layer 1. -/
import Derived.Test.YtnlpmajiccliiaaGreatDoorMem3
import Derived.Test.YtnlpmajiccliiaaGreatDoorK1
import Derived.Laws.BytesArg
import Derived.Lib.TrimUEq
import Derived.Test.YtnlpmajiccliiaaGreatDoorSpec
set_option linter.all false
namespace Ve
open Go Go.RowKit Go.Proofs

def isSc (r : Int) : Bool := decide ((0 ≤ r ∧ r < 55296) ∨ (57344 ≤ r ∧ r ≤ 1114111))
set_option maxHeartbeats 1000000 in
theorem rscalar_any (r : Int) (w : World) : Calls Tryz.prog 184 #[.int .i32 r] w fun e w' => e = .returned (.bool (isSc r)) ∧ Gr w w' := by
  go_enter Tryz.func184, Tryz.ntmps184
  go_wp2
  all_goals go_ret
  all_goals refine ⟨ret_bool ?_, (by repeat (with_reducible first | assumption | exact Gr.refl _ | apply Gr.alloc | apply Gr.drewN | apply Gr.drew | apply Gr.iter | (refine Gr.setCell ?_ (by simp) _) | (refine Gr.trans ?_ (by assumption))))⟩
  all_goals (rw [Bool.eq_iff_iff]; simp [isSc] <;> omega)
def bytesOf (l : List Nat) : ByteArray := ⟨(l.map UInt8.ofNat).toArray⟩
def encB (r : Nat) : ByteArray :=
  if r < 128 then bytesOf [r] else if r < 2048 then bytesOf [192 + r / 64, 128 + r % 64] else if r < 65536 then bytesOf [224 + r / 4096, 128 + r / 64 % 64, 128 + r % 64]
  else bytesOf [240 + r / 262144, 128 + r / 4096 % 64, 128 + r / 64 % 64, 128 + r % 64]
theorem ret_str {a b : ByteArray} (h : a = b) : Ending.returned (.string a) = .returned (.string b) := by rw [h]
theorem conv1 (a : Int) (w : World) : (convert 211 9 (.slice (some ⟨w.heap.size, 0, none⟩) 1 1)).run Tryz.prog (w.alloc (.cells #[.int .u8 a] 5)) = .ok (.string (strOfNums [a])) (w.alloc (.cells #[.int .u8 a] 5)) :=
  run_convert_bytes_arg _ _ _ Tryz.underlying211 Tryz.underlying5 _ 0 1 1 [a] rfl (fun i hi => by
    match i, hi with
    | 0, _ => simp) _ Tryz.underlying9
theorem conv2 (a b : Int) (w : World) : (convert 211 9 (.slice (some ⟨w.heap.size, 0, none⟩) 2 2)).run Tryz.prog (w.alloc (.cells #[.int .u8 a, .int .u8 b] 5)) = .ok (.string (strOfNums [a, b])) (w.alloc (.cells #[.int .u8 a, .int .u8 b] 5)) :=
  run_convert_bytes_arg _ _ _ Tryz.underlying211 Tryz.underlying5 _ 0 2 2 [a, b] rfl (fun i hi => by
    match i, hi with
    | 0, _ => simp
    | 1, _ => simp) _ Tryz.underlying9
theorem conv3 (a b c : Int) (w : World) : (convert 211 9 (.slice (some ⟨w.heap.size, 0, none⟩) 3 3)).run Tryz.prog (w.alloc (.cells #[.int .u8 a, .int .u8 b, .int .u8 c] 5)) = .ok (.string (strOfNums [a, b, c])) (w.alloc (.cells #[.int .u8 a, .int .u8 b, .int .u8 c] 5)) :=
  run_convert_bytes_arg _ _ _ Tryz.underlying211 Tryz.underlying5 _ 0 3 3 [a, b, c] rfl (fun i hi => by
    match i, hi with
    | 0, _ => simp
    | 1, _ => simp
    | 2, _ => simp) _ Tryz.underlying9
theorem conv4 (a b c d : Int) (w : World) : (convert 211 9 (.slice (some ⟨w.heap.size, 0, none⟩) 4 4)).run Tryz.prog (w.alloc (.cells #[.int .u8 a, .int .u8 b, .int .u8 c, .int .u8 d] 5)) = .ok (.string (strOfNums [a, b, c, d])) (w.alloc (.cells #[.int .u8 a, .int .u8 b, .int .u8 c, .int .u8 d] 5)) :=
  run_convert_bytes_arg _ _ _ Tryz.underlying211 Tryz.underlying5 _ 0 4 4 [a, b, c, d] rfl (fun i hi => by
    match i, hi with
    | 0, _ => simp
    | 1, _ => simp
    | 2, _ => simp
    | 3, _ => simp) _ Tryz.underlying9
theorem strOf2 (a b : Nat) {x y : Int} (h1 : x = a) (h2 : y = b) : strOfNums [x, y] = bytesOf [a, b] := by subst h1 h2; simp [strOfNums, bytesOf]
theorem strOf3 (a b c : Nat) {x y z : Int} (h1 : x = a) (h2 : y = b) (h3 : z = c) : strOfNums [x, y, z] = bytesOf [a, b, c] := by subst h1 h2 h3; simp [strOfNums, bytesOf]
theorem strOf4 (a b c d : Nat) {x y z v : Int} (h1 : x = a) (h2 : y = b) (h3 : z = c) (h4 : v = d) : strOfNums [x, y, z, v] = bytesOf [a, b, c, d] := by subst h1 h2 h3 h4; simp [strOfNums, bytesOf]
attribute [go_sem] conv1 conv2 conv3 conv4
set_option maxRecDepth 100000 in
set_option maxHeartbeats 2000000 in
theorem rencode_any (r : Nat) (hr : r ≤ 1114111) (w : World) : Calls Tryz.prog 173 #[.int .i32 r] w fun e w' => e = .returned (.string (encB r)) ∧ Gr w w' := by
  by_cases h1 : r < 128
  · have h1' : (r : Int) < 128 := by omega
    go_enter Tryz.func173, Tryz.ntmps173
    go_wp2
    go_ret
    refine ⟨ret_str ?_, (by repeat (with_reducible first | assumption | exact Gr.refl _ | apply Gr.alloc | apply Gr.drewN | apply Gr.drew | apply Gr.iter | (refine Gr.setCell ?_ (by simp) _) | (refine Gr.trans ?_ (by assumption))))⟩
    simp [encB, h1, strOfNums, bytesOf]
  · by_cases h2 : r < 2048
    · have h1' : 128 ≤ (r : Int) := by omega
      have h2' : (r : Int) < 2048 := by omega
      go_enter Tryz.func173, Tryz.ntmps173
      go_wp2
      go_ret
      refine ⟨ret_str ?_, (by repeat (with_reducible first | assumption | exact Gr.refl _ | apply Gr.alloc | apply Gr.drewN | apply Gr.drew | apply Gr.iter | (refine Gr.setCell ?_ (by simp) _) | (refine Gr.trans ?_ (by assumption))))⟩
      simp only [encB, if_neg h1, if_pos h2]
      exact strOf2 _ _ (by omega) (by omega)
    · by_cases h3 : r < 65536
      · have h1' : 2048 ≤ (r : Int) := by omega
        have h2' : (r : Int) < 65536 := by omega
        have h3' : ¬ (r : Int) < 128 := by omega
        have h4' : ¬ (r : Int) < 2048 := by omega
        have d1 : 0 ≤ (r : Int) / 64 ∧ (r : Int) / 64 < 1024 := by omega
        have d2 : 0 ≤ (r : Int) / 64 % 64 ∧ (r : Int) / 64 % 64 < 64 := by omega
        have d3 : 0 ≤ (r : Int) / 4096 ∧ (r : Int) / 4096 < 16 := by omega
        have d4 : 0 ≤ (r : Int) % 64 ∧ (r : Int) % 64 < 64 := by omega
        go_enter Tryz.func173, Tryz.ntmps173
        go_wp2
        go_ret
        refine ⟨ret_str ?_, (by repeat (with_reducible first | assumption | exact Gr.refl _ | apply Gr.alloc | apply Gr.drewN | apply Gr.drew | apply Gr.iter | (refine Gr.setCell ?_ (by simp) _) | (refine Gr.trans ?_ (by assumption))))⟩
        simp only [encB, if_neg h1, if_neg h2, if_pos h3]
        exact strOf3 _ _ _ (by omega) (by omega) (by omega)
      · have h1' : 65536 ≤ (r : Int) := by omega
        have h2' : (r : Int) ≤ 1114111 := by omega
        have h3' : ¬ (r : Int) < 128 := by omega
        have h4' : ¬ (r : Int) < 2048 := by omega
        have h5' : ¬ (r : Int) < 65536 := by omega
        have d0 : 0 ≤ (r : Int) / 262144 ∧ (r : Int) / 262144 < 5 := by omega
        have d1 : 0 ≤ (r : Int) / 64 ∧ (r : Int) / 64 < 17408 := by omega
        have d2 : 0 ≤ (r : Int) / 64 % 64 ∧ (r : Int) / 64 % 64 < 64 := by omega
        have d3 : 0 ≤ (r : Int) / 4096 ∧ (r : Int) / 4096 < 272 := by omega
        have d5 : 0 ≤ (r : Int) / 4096 % 64 ∧ (r : Int) / 4096 % 64 < 64 := by omega
        have d4 : 0 ≤ (r : Int) % 64 ∧ (r : Int) % 64 < 64 := by omega
        go_enter Tryz.func173, Tryz.ntmps173
        go_wp2
        go_ret
        refine ⟨ret_str ?_, (by repeat (with_reducible first | assumption | exact Gr.refl _ | apply Gr.alloc | apply Gr.drewN | apply Gr.drew | apply Gr.iter | (refine Gr.setCell ?_ (by simp) _) | (refine Gr.trans ?_ (by assumption))))⟩
        simp only [encB, if_neg h1, if_neg h2, if_neg h3]
        exact strOf4 _ _ _ _ (by omega) (by omega) (by omega) (by omega)
end Ve
/- Walks of the reference of layer 1: first. -/
namespace Ve
open Go Go.RowKit Go.Proofs

/-- The byte at a place. -/
def byte (s : ByteArray) (j : Nat) : Nat := (s.data.toList.getD j 0).toNat
theorem byte_at (s : ByteArray) (j : Nat) (h : j < s.size) : s[j].toNat = byte s j := by
  have h' : j < s.data.toList.length := by rw [Array.length_toList]; exact h
  unfold byte
  rw [List.getD, List.getElem?_eq_getElem h']
  rfl
theorem run_index_byte (t : TypeId) (s : ByteArray) (k : IntKind) (i : Int) (w : World) (h : Tryz.prog.underlying t = some .string) :
    (Instr.index t (.string s) (.int k i)).run Tryz.prog w = if 0 ≤ i ∧ i < s.size then .ok (.int .u8 (byte s i.toNat)) w else (boundsPanic k i s.size .index).run Tryz.prog w := by
  rw [run_index_string w t s k i h]
  split
  · rename_i hi
    rw [byte_at]
  · rfl
attribute [go_sem high] run_index_byte
theorem byte_lt (s : ByteArray) (j : Nat) : byte s j < 256 := by unfold byte; exact UInt8.toNat_lt _
/-- The number that r and the first j bytes behind place i make. -/
def accR (s : ByteArray) (i r : Nat) : Nat → Nat
  | 0 => r
  | j + 1 => accR s i r j * 64 + byte s (i + (j + 1)) % 64
theorem accR_lt (s : ByteArray) (i r : Nat) : ∀ j, accR s i r j < (r + 1) * 64 ^ j
  | 0 => by simp [accR]
  | j + 1 => by
    have := accR_lt s i r j
    have h : byte s (i + (j + 1)) % 64 < 64 := Nat.mod_lt _ (by omega)
    simp only [accR, Nat.pow_succ]
    have h2 : (r + 1) * (64 ^ j * 64) = (r + 1) * 64 ^ j * 64 := (Nat.mul_assoc _ _ _).symm
    omega
/-- A drawn region whose operations only read or make memory: one walk in the text's order. -/
theorem wp_region_gr {P : Program} {id : Nat} {Q : Exit → Act → World → Prop} {a : Act} {w : World} {l : List Oper} (hm : P.follows .mixedOrders = true) (hB : Region.lexB .any l.toArray = true)
    (h : wpQuiet P l.toArray (fun w' => Gr w w') (fun a' => ∀ w', Gr w w' → Q .normal a' w') l a) : (Code.region id l.toArray true).wp P Q a w :=
  wp_region_quiet (C := fun w' => Gr w w') hm hB (Gr.refl w).drew (by simpa using h)
def hdC (b : Nat) : Nat := if 240 ≤ b then 3 else if 224 ≤ b then 2 else if 192 ≤ b then 1 else 0
def hdR (b : Nat) : Nat := if 240 ≤ b then b - 240 else if 224 ≤ b then b - 224 else if 192 ≤ b then b - 192 else b
/-- What vellumref01.first answers. -/
def firstR (s : ByteArray) (i : Nat) : Nat × Nat :=
  if s.size < i + (hdC (byte s i) + 1) then (0, 0)
  else if (isSc (accR s i (hdR (byte s i)) (hdC (byte s i))) && eqS (encB (accR s i (hdR (byte s i)) (hdC (byte s i)))) (s.extract i (i + (hdC (byte s i) + 1)))) = true
    then (accR s i (hdR (byte s i)) (hdC (byte s i)), hdC (byte s i) + 1) else (0, 0)
set_option maxRecDepth 20000 in
set_option maxHeartbeats 4000000 in
theorem rfirst_any (s : ByteArray) (i : Nat) (hi : i < s.size) (hs : szS s) (w : World) : Calls Tryz.prog 161 #[.string s, .int .i64 i] w fun e w' => e = .returned (.tuple #[.int .i32 (firstR s i).1, .int .i64 (firstR s i).2]) ∧ Gr w w' := by
  have hi' : (i : Int) < s.size := by omega
  have hs' : (s.size : Int) ≤ 1099511627776 := by unfold szS at hs; omega
  obtain ⟨b, hb⟩ : ∃ b, byte s i = b := ⟨_, rfl⟩
  have hb' : (b : Int) < 256 := by have := byte_lt s i; omega
  by_cases h4 : 240 ≤ b
  · have h4' : (240 : Int) ≤ b := by omega
    by_cases hsz : s.size < i + 4
    · have hsz' : (s.size : Int) < i + 4 := by omega
      have hF : firstR s i = (0, 0) := by unfold firstR; rw [hb]; simp only [hdC, hdR, if_pos h4]; rw [if_pos (by omega)]
      rw [hF]
      go_enter Tryz.func161, Tryz.ntmps161
      go_wp2
      all_goals go_ret2
      all_goals exact ⟨rfl, (by repeat (with_reducible first | assumption | exact Gr.refl _ | apply Gr.alloc | apply Gr.drewN | apply Gr.drew | apply Gr.iter | (refine Gr.setCell ?_ (by simp) _) | (refine Gr.trans ?_ (by assumption))))⟩
    · have hsz' : (i : Int) + 4 ≤ s.size := by omega
      obtain ⟨R, hR⟩ : ∃ R, accR s i (b - 240) 3 = R := ⟨_, rfl⟩
      have hF : firstR s i = if (isSc R && eqS (encB R) (s.extract i (i + 4))) = true then (R, 4) else (0, 0) := by unfold firstR; rw [hb]; simp only [hdC, hdR, if_pos h4]; rw [if_neg (by omega)]; simp only [hR]
      have HF := Lib.hid hF; clear hF
      have HR := Lib.hid hR; clear hR
      go_enter Tryz.func161, Tryz.ntmps161
      go_wp2
      clear hb
      go_loopw [8, 9] (fun r k wr => ∃ j : Nat, j ≤ 3 ∧ k = .int .i64 ((j : Int) + 1) ∧ r = .int .i32 (accR s i (b - 240) j) ∧ Gr w wr) (fun _ k _ => 4 - (intOf k).toNat)
      case atStart => exact ⟨0, by omega, rfl, by simp [accR] <;> omega, Gr.refl _⟩
      case round =>
        obtain ⟨j, hj, rfl, rfl, hg⟩ := hrel
        by_cases hlt : j < 3
        · have hlt' : (j : Int) < 3 := by omega
          have a1 := accR_lt s i (b - 240) j
          have a2 : accR s i (b - 240) j < 262144 := by
            have : j = 0 ∨ j = 1 ∨ j = 2 := by omega
            rcases this with rfl | rfl | rfl <;> simp at a1 <;> omega
          have a3 : 0 ≤ (accR s i (b - 240) j : Int) ∧ (accR s i (b - 240) j : Int) < 262144 := by omega
          have a4 : 0 ≤ (byte s (i + (j + 1)) : Int) ∧ (byte s (i + (j + 1)) : Int) < 256 := by have := byte_lt s (i + (j + 1)); omega
          clear a1 a2
          go_wp2
          all_goals exact ⟨⟨j + 1, by omega, by go_num, by simp only [accR]; congr 1, hg⟩, by simp [intOf]; omega⟩
        · obtain rfl : j = 3 := by omega
          rw [HR.out]
          cases hsc : isSc R with
          | true =>
            have hRm : R ≤ 1114111 := by simp [isSc] at hsc; omega
            go_wp2_with (go_at_call 184; refine (rscalar_any _ _).mono ?_; rw [hsc]; rintro e w2 ⟨rfl, hg2⟩)
            cases hB : eqS (encB R) (s.extract i (i + 4))
            all_goals
              have x1 : IntKind.i64.wrap ((i : Int) + 4) = (i : Int) + 4 := IntWalk.i64_in _ (by omega)
              have x2 : ((i : Int) + 4).toNat = i + 4 := by omega
              have x3 : (0 : Int) ≤ (i : Int) + 4 := by omega
              have x4 : (i : Int) ≤ (i : Int) + 4 := by omega
              (refine wp_region_gr (by kernel_rfl) (by kernel_rfl) ?_; (repeat (refine wpQuiet_step (fun K hK => ?_); go_simp; first | (refine hK _ ?_; clear hK K) | (refine ⟨_, fun _ _ => rfl, hK _ ?_⟩; clear hK K) | (apply Exists.intro; refine ⟨fun wq hq => ?_, hK _ ?_⟩; exact (rencode_any R hRm _).mono fun e w' h => ⟨h.1, hq.trans h.2⟩; clear hK K))); refine wpQuiet_nil ?_)
              clear x1 x2 x3 x4
              intro w3 hg3
              go_wp2
              go_ret2
              rw [HF.out, hsc, hB]
              exact ⟨rfl, (by repeat (with_reducible first | assumption | exact Gr.refl _ | apply Gr.alloc | apply Gr.drewN | apply Gr.drew | apply Gr.iter | (refine Gr.setCell ?_ (by simp) _) | (refine Gr.trans ?_ (by assumption))))⟩
          | false =>
            go_wp2_with (go_at_call 184; refine (rscalar_any _ _).mono ?_; rw [hsc]; rintro e w2 ⟨rfl, hg2⟩)
            go_quiet (fail)
            go_wp2
            go_ret2
            rw [HF.out, hsc]
            exact ⟨rfl, (by repeat (with_reducible first | assumption | exact Gr.refl _ | apply Gr.alloc | apply Gr.drewN | apply Gr.drew | apply Gr.iter | (refine Gr.setCell ?_ (by simp) _) | (refine Gr.trans ?_ (by assumption))))⟩
  have h4' : (b : Int) < 240 := by omega
  by_cases h3 : 224 ≤ b
  · have h3' : (224 : Int) ≤ b := by omega
    by_cases hsz : s.size < i + 3
    · have hsz' : (s.size : Int) < i + 3 := by omega
      have hF : firstR s i = (0, 0) := by unfold firstR; rw [hb]; simp only [hdC, hdR, if_neg h4, if_pos h3]; rw [if_pos (by omega)]
      rw [hF]
      go_enter Tryz.func161, Tryz.ntmps161
      go_wp2
      all_goals go_ret2
      all_goals exact ⟨rfl, (by repeat (with_reducible first | assumption | exact Gr.refl _ | apply Gr.alloc | apply Gr.drewN | apply Gr.drew | apply Gr.iter | (refine Gr.setCell ?_ (by simp) _) | (refine Gr.trans ?_ (by assumption))))⟩
    · have hsz' : (i : Int) + 3 ≤ s.size := by omega
      obtain ⟨R, hR⟩ : ∃ R, accR s i (b - 224) 2 = R := ⟨_, rfl⟩
      have hF : firstR s i = if (isSc R && eqS (encB R) (s.extract i (i + 3))) = true then (R, 3) else (0, 0) := by unfold firstR; rw [hb]; simp only [hdC, hdR, if_neg h4, if_pos h3]; rw [if_neg (by omega)]; simp only [hR]
      have HF := Lib.hid hF; clear hF
      have HR := Lib.hid hR; clear hR
      go_enter Tryz.func161, Tryz.ntmps161
      go_wp2
      clear hb
      go_loopw [8, 9] (fun r k wr => ∃ j : Nat, j ≤ 2 ∧ k = .int .i64 ((j : Int) + 1) ∧ r = .int .i32 (accR s i (b - 224) j) ∧ Gr w wr) (fun _ k _ => 3 - (intOf k).toNat)
      case atStart => exact ⟨0, by omega, rfl, by simp [accR] <;> omega, Gr.refl _⟩
      case round =>
        obtain ⟨j, hj, rfl, rfl, hg⟩ := hrel
        by_cases hlt : j < 2
        · have hlt' : (j : Int) < 2 := by omega
          have a1 := accR_lt s i (b - 224) j
          have a2 : accR s i (b - 224) j < 262144 := by
            have : j = 0 ∨ j = 1 ∨ j = 2 := by omega
            rcases this with rfl | rfl | rfl <;> simp at a1 <;> omega
          have a3 : 0 ≤ (accR s i (b - 224) j : Int) ∧ (accR s i (b - 224) j : Int) < 262144 := by omega
          have a4 : 0 ≤ (byte s (i + (j + 1)) : Int) ∧ (byte s (i + (j + 1)) : Int) < 256 := by have := byte_lt s (i + (j + 1)); omega
          clear a1 a2
          go_wp2
          all_goals exact ⟨⟨j + 1, by omega, by go_num, by simp only [accR]; congr 1, hg⟩, by simp [intOf]; omega⟩
        · obtain rfl : j = 2 := by omega
          rw [HR.out]
          cases hsc : isSc R with
          | true =>
            have hRm : R ≤ 1114111 := by simp [isSc] at hsc; omega
            go_wp2_with (go_at_call 184; refine (rscalar_any _ _).mono ?_; rw [hsc]; rintro e w2 ⟨rfl, hg2⟩)
            cases hB : eqS (encB R) (s.extract i (i + 3))
            all_goals
              have x1 : IntKind.i64.wrap ((i : Int) + 3) = (i : Int) + 3 := IntWalk.i64_in _ (by omega)
              have x2 : ((i : Int) + 3).toNat = i + 3 := by omega
              have x3 : (0 : Int) ≤ (i : Int) + 3 := by omega
              have x4 : (i : Int) ≤ (i : Int) + 3 := by omega
              (refine wp_region_gr (by kernel_rfl) (by kernel_rfl) ?_; (repeat (refine wpQuiet_step (fun K hK => ?_); go_simp; first | (refine hK _ ?_; clear hK K) | (refine ⟨_, fun _ _ => rfl, hK _ ?_⟩; clear hK K) | (apply Exists.intro; refine ⟨fun wq hq => ?_, hK _ ?_⟩; exact (rencode_any R hRm _).mono fun e w' h => ⟨h.1, hq.trans h.2⟩; clear hK K))); refine wpQuiet_nil ?_)
              clear x1 x2 x3 x4
              intro w3 hg3
              go_wp2
              go_ret2
              rw [HF.out, hsc, hB]
              exact ⟨rfl, (by repeat (with_reducible first | assumption | exact Gr.refl _ | apply Gr.alloc | apply Gr.drewN | apply Gr.drew | apply Gr.iter | (refine Gr.setCell ?_ (by simp) _) | (refine Gr.trans ?_ (by assumption))))⟩
          | false =>
            go_wp2_with (go_at_call 184; refine (rscalar_any _ _).mono ?_; rw [hsc]; rintro e w2 ⟨rfl, hg2⟩)
            go_quiet (fail)
            go_wp2
            go_ret2
            rw [HF.out, hsc]
            exact ⟨rfl, (by repeat (with_reducible first | assumption | exact Gr.refl _ | apply Gr.alloc | apply Gr.drewN | apply Gr.drew | apply Gr.iter | (refine Gr.setCell ?_ (by simp) _) | (refine Gr.trans ?_ (by assumption))))⟩
  have h3' : (b : Int) < 224 := by omega
  by_cases h2 : 192 ≤ b
  · have h2' : (192 : Int) ≤ b := by omega
    by_cases hsz : s.size < i + 2
    · have hsz' : (s.size : Int) < i + 2 := by omega
      have hF : firstR s i = (0, 0) := by unfold firstR; rw [hb]; simp only [hdC, hdR, if_neg h4, if_neg h3, if_pos h2]; rw [if_pos (by omega)]
      rw [hF]
      go_enter Tryz.func161, Tryz.ntmps161
      go_wp2
      all_goals go_ret2
      all_goals exact ⟨rfl, (by repeat (with_reducible first | assumption | exact Gr.refl _ | apply Gr.alloc | apply Gr.drewN | apply Gr.drew | apply Gr.iter | (refine Gr.setCell ?_ (by simp) _) | (refine Gr.trans ?_ (by assumption))))⟩
    · have hsz' : (i : Int) + 2 ≤ s.size := by omega
      obtain ⟨R, hR⟩ : ∃ R, accR s i (b - 192) 1 = R := ⟨_, rfl⟩
      have hF : firstR s i = if (isSc R && eqS (encB R) (s.extract i (i + 2))) = true then (R, 2) else (0, 0) := by unfold firstR; rw [hb]; simp only [hdC, hdR, if_neg h4, if_neg h3, if_pos h2]; rw [if_neg (by omega)]; simp only [hR]
      have HF := Lib.hid hF; clear hF
      have HR := Lib.hid hR; clear hR
      go_enter Tryz.func161, Tryz.ntmps161
      go_wp2
      clear hb
      go_loopw [8, 9] (fun r k wr => ∃ j : Nat, j ≤ 1 ∧ k = .int .i64 ((j : Int) + 1) ∧ r = .int .i32 (accR s i (b - 192) j) ∧ Gr w wr) (fun _ k _ => 2 - (intOf k).toNat)
      case atStart => exact ⟨0, by omega, rfl, by simp [accR] <;> omega, Gr.refl _⟩
      case round =>
        obtain ⟨j, hj, rfl, rfl, hg⟩ := hrel
        by_cases hlt : j < 1
        · have hlt' : (j : Int) < 1 := by omega
          have a1 := accR_lt s i (b - 192) j
          have a2 : accR s i (b - 192) j < 262144 := by
            have : j = 0 ∨ j = 1 ∨ j = 2 := by omega
            rcases this with rfl | rfl | rfl <;> simp at a1 <;> omega
          have a3 : 0 ≤ (accR s i (b - 192) j : Int) ∧ (accR s i (b - 192) j : Int) < 262144 := by omega
          have a4 : 0 ≤ (byte s (i + (j + 1)) : Int) ∧ (byte s (i + (j + 1)) : Int) < 256 := by have := byte_lt s (i + (j + 1)); omega
          clear a1 a2
          go_wp2
          all_goals exact ⟨⟨j + 1, by omega, by go_num, by simp only [accR]; congr 1, hg⟩, by simp [intOf]; omega⟩
        · obtain rfl : j = 1 := by omega
          rw [HR.out]
          cases hsc : isSc R with
          | true =>
            have hRm : R ≤ 1114111 := by simp [isSc] at hsc; omega
            go_wp2_with (go_at_call 184; refine (rscalar_any _ _).mono ?_; rw [hsc]; rintro e w2 ⟨rfl, hg2⟩)
            cases hB : eqS (encB R) (s.extract i (i + 2))
            all_goals
              have x1 : IntKind.i64.wrap ((i : Int) + 2) = (i : Int) + 2 := IntWalk.i64_in _ (by omega)
              have x2 : ((i : Int) + 2).toNat = i + 2 := by omega
              have x3 : (0 : Int) ≤ (i : Int) + 2 := by omega
              have x4 : (i : Int) ≤ (i : Int) + 2 := by omega
              (refine wp_region_gr (by kernel_rfl) (by kernel_rfl) ?_; (repeat (refine wpQuiet_step (fun K hK => ?_); go_simp; first | (refine hK _ ?_; clear hK K) | (refine ⟨_, fun _ _ => rfl, hK _ ?_⟩; clear hK K) | (apply Exists.intro; refine ⟨fun wq hq => ?_, hK _ ?_⟩; exact (rencode_any R hRm _).mono fun e w' h => ⟨h.1, hq.trans h.2⟩; clear hK K))); refine wpQuiet_nil ?_)
              clear x1 x2 x3 x4
              intro w3 hg3
              go_wp2
              go_ret2
              rw [HF.out, hsc, hB]
              exact ⟨rfl, (by repeat (with_reducible first | assumption | exact Gr.refl _ | apply Gr.alloc | apply Gr.drewN | apply Gr.drew | apply Gr.iter | (refine Gr.setCell ?_ (by simp) _) | (refine Gr.trans ?_ (by assumption))))⟩
          | false =>
            go_wp2_with (go_at_call 184; refine (rscalar_any _ _).mono ?_; rw [hsc]; rintro e w2 ⟨rfl, hg2⟩)
            go_quiet (fail)
            go_wp2
            go_ret2
            rw [HF.out, hsc]
            exact ⟨rfl, (by repeat (with_reducible first | assumption | exact Gr.refl _ | apply Gr.alloc | apply Gr.drewN | apply Gr.drew | apply Gr.iter | (refine Gr.setCell ?_ (by simp) _) | (refine Gr.trans ?_ (by assumption))))⟩
  have h2' : (b : Int) < 192 := by omega
  by_cases h1 : 0 ≤ b
  · by_cases hsz : s.size < i + 1
    · have hsz' : (s.size : Int) < i + 1 := by omega
      have hF : firstR s i = (0, 0) := by unfold firstR; rw [hb]; simp only [hdC, hdR, if_neg h4, if_neg h3, if_neg h2]; rw [if_pos (by omega)]
      rw [hF]
      go_enter Tryz.func161, Tryz.ntmps161
      go_wp2
      all_goals go_ret2
      all_goals exact ⟨rfl, (by repeat (with_reducible first | assumption | exact Gr.refl _ | apply Gr.alloc | apply Gr.drewN | apply Gr.drew | apply Gr.iter | (refine Gr.setCell ?_ (by simp) _) | (refine Gr.trans ?_ (by assumption))))⟩
    · have hsz' : (i : Int) + 1 ≤ s.size := by omega
      obtain ⟨R, hR⟩ : ∃ R, accR s i (b) 0 = R := ⟨_, rfl⟩
      have hF : firstR s i = if (isSc R && eqS (encB R) (s.extract i (i + 1))) = true then (R, 1) else (0, 0) := by unfold firstR; rw [hb]; simp only [hdC, hdR, if_neg h4, if_neg h3, if_neg h2]; rw [if_neg (by omega)]; simp only [hR]
      have HF := Lib.hid hF; clear hF
      have HR := Lib.hid hR; clear hR
      go_enter Tryz.func161, Tryz.ntmps161
      go_wp2
      clear hb
      go_loopw [8, 9] (fun r k wr => ∃ j : Nat, j ≤ 0 ∧ k = .int .i64 ((j : Int) + 1) ∧ r = .int .i32 (accR s i (b) j) ∧ Gr w wr) (fun _ k _ => 1 - (intOf k).toNat)
      case atStart => exact ⟨0, by omega, rfl, by simp [accR] <;> omega, Gr.refl _⟩
      case round =>
        obtain ⟨j, hj, rfl, rfl, hg⟩ := hrel
        by_cases hlt : j < 0
        · have hlt' : (j : Int) < 0 := by omega
          have a1 := accR_lt s i (b) j
          have a2 : accR s i (b) j < 262144 := by
            have : j = 0 ∨ j = 1 ∨ j = 2 := by omega
            rcases this with rfl | rfl | rfl <;> simp at a1 <;> omega
          have a3 : 0 ≤ (accR s i (b) j : Int) ∧ (accR s i (b) j : Int) < 262144 := by omega
          have a4 : 0 ≤ (byte s (i + (j + 1)) : Int) ∧ (byte s (i + (j + 1)) : Int) < 256 := by have := byte_lt s (i + (j + 1)); omega
          clear a1 a2
          go_wp2
          all_goals exact ⟨⟨j + 1, by omega, by go_num, by simp only [accR]; congr 1, hg⟩, by simp [intOf]; omega⟩
        · obtain rfl : j = 0 := by omega
          rw [HR.out]
          cases hsc : isSc R with
          | true =>
            have hRm : R ≤ 1114111 := by simp [isSc] at hsc; omega
            go_wp2_with (go_at_call 184; refine (rscalar_any _ _).mono ?_; rw [hsc]; rintro e w2 ⟨rfl, hg2⟩)
            cases hB : eqS (encB R) (s.extract i (i + 1))
            all_goals
              have x1 : IntKind.i64.wrap ((i : Int) + 1) = (i : Int) + 1 := IntWalk.i64_in _ (by omega)
              have x2 : ((i : Int) + 1).toNat = i + 1 := by omega
              have x3 : (0 : Int) ≤ (i : Int) + 1 := by omega
              have x4 : (i : Int) ≤ (i : Int) + 1 := by omega
              (refine wp_region_gr (by kernel_rfl) (by kernel_rfl) ?_; (repeat (refine wpQuiet_step (fun K hK => ?_); go_simp; first | (refine hK _ ?_; clear hK K) | (refine ⟨_, fun _ _ => rfl, hK _ ?_⟩; clear hK K) | (apply Exists.intro; refine ⟨fun wq hq => ?_, hK _ ?_⟩; exact (rencode_any R hRm _).mono fun e w' h => ⟨h.1, hq.trans h.2⟩; clear hK K))); refine wpQuiet_nil ?_)
              clear x1 x2 x3 x4
              intro w3 hg3
              go_wp2
              go_ret2
              rw [HF.out, hsc, hB]
              exact ⟨rfl, (by repeat (with_reducible first | assumption | exact Gr.refl _ | apply Gr.alloc | apply Gr.drewN | apply Gr.drew | apply Gr.iter | (refine Gr.setCell ?_ (by simp) _) | (refine Gr.trans ?_ (by assumption))))⟩
          | false =>
            go_wp2_with (go_at_call 184; refine (rscalar_any _ _).mono ?_; rw [hsc]; rintro e w2 ⟨rfl, hg2⟩)
            go_quiet (fail)
            go_wp2
            go_ret2
            rw [HF.out, hsc]
            exact ⟨rfl, (by repeat (with_reducible first | assumption | exact Gr.refl _ | apply Gr.alloc | apply Gr.drewN | apply Gr.drew | apply Gr.iter | (refine Gr.setCell ?_ (by simp) _) | (refine Gr.trans ?_ (by assumption))))⟩
  · exact absurd (Nat.zero_le b) h1
end Ve
/- Plain laws of UTF-8: what the reference decodes. -/
namespace Ve
open Go

theorem bytesOf_toList (l : List Nat) : (bytesOf l).toList = l.map UInt8.ofNat := by rw [ByteArray.toList_eq]; rfl
theorem ofNat_inj {a b : Nat} (ha : a < 256) (hb : b < 256) (h : UInt8.ofNat a = UInt8.ofNat b) : a = b := by
  have := congrArg UInt8.toNat h
  simp at this
  omega
theorem map_inj {l m : List Nat} (hl : ∀ a ∈ l, a < 256) (hm : ∀ a ∈ m, a < 256) (h : l.map UInt8.ofNat = m.map UInt8.ofNat) : l = m := by
  induction l generalizing m with
  | nil => cases m with
    | nil => rfl
    | cons b m => cases h
  | cons a l ih =>
    cases m with
    | nil => cases h
    | cons b m =>
      simp only [List.map_cons, List.cons.injEq] at h
      rw [ofNat_inj (hl a (by simp)) (hm b (by simp)) h.1, ih (fun x hx => hl x (by simp [hx])) (fun x hx => hm x (by simp [hx])) h.2]
theorem bytesOf_inj {l m : List Nat} (hl : ∀ a ∈ l, a < 256) (hm : ∀ a ∈ m, a < 256) : bytesOf l = bytesOf m ↔ l = m :=
  ⟨fun h => map_inj hl hm (by rw [← bytesOf_toList, ← bytesOf_toList, h]), fun h => by rw [h]⟩
theorem ext_list (s : ByteArray) (i k : Nat) : (s.extract i (i + k)).data.toList = (s.data.toList.drop i).take k := by
  rw [ByteArray.data_extract, Array.toList_extract, List.extract_eq_drop_take]
  congr 1; omega
theorem drop_byte (s : ByteArray) (i : Nat) (h : i < s.size) : s.data.toList.drop i = UInt8.ofNat (byte s i) :: s.data.toList.drop (i + 1) := by
  have h' : i < s.data.toList.length := by rw [Array.length_toList]; exact h
  rw [List.drop_eq_getElem_cons h']
  congr 1
  unfold byte
  rw [List.getD, List.getElem?_eq_getElem h']
  simp
theorem ba_ext {a b : ByteArray} (h : a.data.toList = b.data.toList) : a = b := by
  obtain ⟨⟨x⟩⟩ := a
  obtain ⟨⟨y⟩⟩ := b
  simpa using h
theorem ext1 (s : ByteArray) (i : Nat) (h : i + 1 ≤ s.size) : s.extract i (i + 1) = bytesOf [byte s i] := by
  apply ba_ext; rw [ext_list, drop_byte s i (by omega)]; simp [bytesOf]
theorem ext2 (s : ByteArray) (i : Nat) (h : i + 2 ≤ s.size) : s.extract i (i + 2) = bytesOf [byte s i, byte s (i + 1)] := by
  apply ba_ext; rw [ext_list, drop_byte s i (by omega), drop_byte s (i + 1) (by omega)]; simp [bytesOf]
theorem ext3 (s : ByteArray) (i : Nat) (h : i + 3 ≤ s.size) : s.extract i (i + 3) = bytesOf [byte s i, byte s (i + 1), byte s (i + 2)] := by
  apply ba_ext; rw [ext_list, drop_byte s i (by omega), drop_byte s (i + 1) (by omega), drop_byte s (i + 1 + 1) (by omega)]; simp [bytesOf]
theorem ext4 (s : ByteArray) (i : Nat) (h : i + 4 ≤ s.size) : s.extract i (i + 4) = bytesOf [byte s i, byte s (i + 1), byte s (i + 2), byte s (i + 3)] := by
  apply ba_ext; rw [ext_list, drop_byte s i (by omega), drop_byte s (i + 1) (by omega), drop_byte s (i + 1 + 1) (by omega), drop_byte s (i + 1 + 1 + 1) (by omega)]; simp [bytesOf]
def encL (r : Nat) : List Nat :=
  if r < 128 then [r] else if r < 2048 then [192 + r / 64, 128 + r % 64] else if r < 65536 then [224 + r / 4096, 128 + r / 64 % 64, 128 + r % 64]
  else [240 + r / 262144, 128 + r / 4096 % 64, 128 + r / 64 % 64, 128 + r % 64]
theorem encB_L (r : Nat) : encB r = bytesOf (encL r) := by unfold encB encL; repeat' split
                                                           all_goals rfl
theorem encL_lt {r : Nat} (h : r ≤ 1114111) : ∀ a ∈ encL r, a < 256 := by
  unfold encL
  repeat' split
  all_goals (simp; omega)
theorem enc_is {r : Nat} (h : r ≤ 1114111) {l : List Nat} (hl : ∀ a ∈ l, a < 256) : eqS (encB r) (bytesOf l) = decide (encL r = l) := by
  unfold eqS
  rw [encB_L, decide_eq_decide]
  exact bytesOf_inj (encL_lt h) hl
/-- The same, without a list. -/
def firstN (n b0 b1 b2 b3 : Nat) : Nat × Nat :=
  if b0 < 128 then (b0, 1)
  else if 194 ≤ b0 ∧ b0 < 224 ∧ 2 ≤ n ∧ b1 / 64 = 2 then ((b0 - 192) * 64 + b1 % 64, 2)
  else if 224 ≤ b0 ∧ b0 < 240 ∧ 3 ≤ n ∧ b1 / 64 = 2 ∧ b2 / 64 = 2 ∧ 2048 ≤ ((b0 - 224) * 64 + b1 % 64) * 64 + b2 % 64 ∧ (((b0 - 224) * 64 + b1 % 64) * 64 + b2 % 64 < 55296 ∨ 57344 ≤ ((b0 - 224) * 64 + b1 % 64) * 64 + b2 % 64) then (((b0 - 224) * 64 + b1 % 64) * 64 + b2 % 64, 3)
  else if 240 ≤ b0 ∧ 4 ≤ n ∧ b1 / 64 = 2 ∧ b2 / 64 = 2 ∧ b3 / 64 = 2 ∧ 65536 ≤ (((b0 - 240) * 64 + b1 % 64) * 64 + b2 % 64) * 64 + b3 % 64 ∧ (((b0 - 240) * 64 + b1 % 64) * 64 + b2 % 64) * 64 + b3 % 64 ≤ 1114111 then ((((b0 - 240) * 64 + b1 % 64) * 64 + b2 % 64) * 64 + b3 % 64, 4)
  else (0, 0)
def clean (p : Nat × Nat) : Nat × Nat := if p.1 = 65533 ∧ p.2 < 2 then (0, 0) else p
theorem clean_b : clean (65533, 1) = (0, 0) := rfl
theorem clean_2 (r w : Nat) (h : 2 ≤ w) : clean (r, w) = (r, w) := if_neg (by simp; omega)
theorem decN2 (n b0 b1 b2 b3 : Nat) (h : 194 ≤ b0) (h' : b0 < 224) (g : 2 ≤ n ∧ b1 / 64 = 2) : Lib.decodeN n b0 b1 b2 b3 = ((b0 - 192) * 64 + b1 % 64, 2) := by
  unfold Lib.decodeN
  rw [if_neg (show ¬ b0 < 128 by omega), if_pos (show b0 / 32 = 6 ∧ (1 < n ∧ b1 / 64 = 2) by omega), if_pos (show b0 % 32 * 64 + b1 % 64 ≥ 128 by omega), show b0 % 32 * 64 + b1 % 64 = (b0 - 192) * 64 + b1 % 64 by omega]
theorem decN2' (n b0 b1 b2 b3 : Nat) (h : 194 ≤ b0) (h' : b0 < 224) (g : ¬ (2 ≤ n ∧ b1 / 64 = 2)) : Lib.decodeN n b0 b1 b2 b3 = (65533, 1) := by
  unfold Lib.decodeN
  rw [if_neg (show ¬ b0 < 128 by omega), if_neg (show ¬ (b0 / 32 = 6 ∧ (1 < n ∧ b1 / 64 = 2)) by omega), if_neg (show ¬ (b0 / 16 = 14 ∧ (1 < n ∧ b1 / 64 = 2) ∧ (2 < n ∧ b2 / 64 = 2)) by omega),
    if_neg (show ¬ (b0 / 8 = 30 ∧ (1 < n ∧ b1 / 64 = 2) ∧ (2 < n ∧ b2 / 64 = 2) ∧ (3 < n ∧ b3 / 64 = 2)) by omega)]
theorem decN3 (n b0 b1 b2 b3 : Nat) (h : 224 ≤ b0) (h' : b0 < 240) : Lib.decodeN n b0 b1 b2 b3 = if 3 ≤ n ∧ b1 / 64 = 2 ∧ b2 / 64 = 2 ∧ 2048 ≤ ((b0 - 224) * 64 + b1 % 64) * 64 + b2 % 64 ∧ (((b0 - 224) * 64 + b1 % 64) * 64 + b2 % 64 < 55296 ∨ 57344 ≤ ((b0 - 224) * 64 + b1 % 64) * 64 + b2 % 64) then (((b0 - 224) * 64 + b1 % 64) * 64 + b2 % 64, 3) else (65533, 1) := by
  obtain ⟨R, hR⟩ : ∃ R, ((b0 - 224) * 64 + b1 % 64) * 64 + b2 % 64 = R := ⟨_, rfl⟩
  have hR' : b0 % 16 * 4096 + b1 % 64 * 64 + b2 % 64 = R := by omega
  unfold Lib.decodeN
  rw [if_neg (show ¬ b0 < 128 by omega), if_neg (show ¬ (b0 / 32 = 6 ∧ (1 < n ∧ b1 / 64 = 2)) by omega), hR, hR']
  by_cases d : b0 / 16 = 14 ∧ (1 < n ∧ b1 / 64 = 2) ∧ (2 < n ∧ b2 / 64 = 2)
  · rw [if_pos d]
    by_cases q : R ≥ 2048 ∧ (R < 55296 ∨ 57344 ≤ R ∧ R ≤ 1114111)
    · rw [if_pos q, if_pos (by omega)]
    · rw [if_neg q, if_neg (by omega)]
  · rw [if_neg d, if_neg (show ¬ (b0 / 8 = 30 ∧ (1 < n ∧ b1 / 64 = 2) ∧ (2 < n ∧ b2 / 64 = 2) ∧ (3 < n ∧ b3 / 64 = 2)) by omega), if_neg (by omega)]
theorem decN4 (n b0 b1 b2 b3 : Nat) (h : 240 ≤ b0) (h' : b0 < 256) : Lib.decodeN n b0 b1 b2 b3 = if 4 ≤ n ∧ b1 / 64 = 2 ∧ b2 / 64 = 2 ∧ b3 / 64 = 2 ∧ 65536 ≤ (((b0 - 240) * 64 + b1 % 64) * 64 + b2 % 64) * 64 + b3 % 64 ∧ (((b0 - 240) * 64 + b1 % 64) * 64 + b2 % 64) * 64 + b3 % 64 ≤ 1114111 then ((((b0 - 240) * 64 + b1 % 64) * 64 + b2 % 64) * 64 + b3 % 64, 4) else (65533, 1) := by
  obtain ⟨R, hR⟩ : ∃ R, (((b0 - 240) * 64 + b1 % 64) * 64 + b2 % 64) * 64 + b3 % 64 = R := ⟨_, rfl⟩
  unfold Lib.decodeN
  rw [if_neg (show ¬ b0 < 128 by omega), if_neg (show ¬ (b0 / 32 = 6 ∧ (1 < n ∧ b1 / 64 = 2)) by omega), if_neg (show ¬ (b0 / 16 = 14 ∧ (1 < n ∧ b1 / 64 = 2) ∧ (2 < n ∧ b2 / 64 = 2)) by omega), hR]
  by_cases e : b0 < 248
  · have hR' : b0 % 8 * 262144 + b1 % 64 * 4096 + b2 % 64 * 64 + b3 % 64 = R := by omega
    rw [hR']
    by_cases d : b0 / 8 = 30 ∧ (1 < n ∧ b1 / 64 = 2) ∧ (2 < n ∧ b2 / 64 = 2) ∧ (3 < n ∧ b3 / 64 = 2)
    · rw [if_pos d]
      by_cases q : R ≥ 65536 ∧ (R < 55296 ∨ 57344 ≤ R ∧ R ≤ 1114111)
      · rw [if_pos q, if_pos (by omega)]
      · rw [if_neg q, if_neg (by omega)]
    · rw [if_neg d, if_neg (by omega)]
  · rw [if_neg (show ¬ (b0 / 8 = 30 ∧ (1 < n ∧ b1 / 64 = 2) ∧ (2 < n ∧ b2 / 64 = 2) ∧ (3 < n ∧ b3 / 64 = 2)) by omega), if_neg (by omega)]
set_option maxHeartbeats 1000000 in
theorem decN_firstN (n b0 b1 b2 b3 : Nat) (h0 : b0 < 256) (h1 : b1 < 256) (h2 : b2 < 256) (h3 : b3 < 256) : clean (Lib.decodeN n b0 b1 b2 b3) = firstN n b0 b1 b2 b3 := by
  unfold firstN
  by_cases c1 : b0 < 128
  · have e : Lib.decodeN n b0 b1 b2 b3 = (b0, 1) := by simp [Lib.decodeN, c1]
    rw [e, if_pos c1]
    unfold clean
    rw [if_neg (by simp; omega)]
  rw [if_neg c1]
  by_cases c2 : b0 < 194
  · rw [Lib.decodeN_bad _ _ _ _ _ (by omega), clean_b, if_neg (by omega), if_neg (by omega), if_neg (by omega)]
  by_cases c3 : b0 < 224
  · rw [if_neg (show ¬ (224 ≤ b0 ∧ _) by omega), if_neg (show ¬ (240 ≤ b0 ∧ _) by omega)]
    by_cases d : 2 ≤ n ∧ b1 / 64 = 2
    · rw [decN2 n b0 b1 b2 b3 (by omega) c3 d, clean_2 _ _ (by omega), if_pos (by omega)]
    · rw [decN2' n b0 b1 b2 b3 (by omega) c3 d, clean_b, if_neg (by omega)]
  rw [if_neg (show ¬ (194 ≤ b0 ∧ b0 < 224 ∧ _) by omega)]
  by_cases c4 : b0 < 240
  · rw [if_neg (show ¬ (240 ≤ b0 ∧ _) by omega), decN3 n b0 b1 b2 b3 (by omega) c4]
    obtain ⟨R, hR⟩ : ∃ R, ((b0 - 224) * 64 + b1 % 64) * 64 + b2 % 64 = R := ⟨_, rfl⟩
    rw [hR]
    by_cases d : 3 ≤ n ∧ b1 / 64 = 2 ∧ b2 / 64 = 2 ∧ 2048 ≤ R ∧ (R < 55296 ∨ 57344 ≤ R)
    · rw [if_pos d, clean_2 _ _ (by omega), if_pos (by omega)]
    · rw [if_neg d, clean_b, if_neg (by omega)]
  · rw [if_neg (show ¬ (224 ≤ b0 ∧ b0 < 240 ∧ _) by omega), decN4 n b0 b1 b2 b3 (by omega) h0]
    obtain ⟨R, hR⟩ : ∃ R, (((b0 - 240) * 64 + b1 % 64) * 64 + b2 % 64) * 64 + b3 % 64 = R := ⟨_, rfl⟩
    rw [hR]
    by_cases d : 4 ≤ n ∧ b1 / 64 = 2 ∧ b2 / 64 = 2 ∧ b3 / 64 = 2 ∧ 65536 ≤ R ∧ R ≤ 1114111
    · rw [if_pos d, clean_2 _ _ (by omega), if_pos (by omega)]
    · rw [if_neg d, clean_b, if_neg (by omega)]
theorem dec_N (s : ByteArray) (i : Nat) (h : i < s.size) : dec s i = clean (Lib.decodeN (s.size - i) (byte s i) (byte s (i + 1)) (byte s (i + 2)) (byte s (i + 3))) := by
  unfold dec clean
  rw [if_pos h, Lib.decode_N]
  rfl
theorem isSc_nat (r : Nat) : isSc (r : Int) = decide (r < 55296 ∨ (57344 ≤ r ∧ r ≤ 1114111)) := by
  unfold isSc
  rw [decide_eq_decide]; omega
theorem cond_is (R : Nat) (l : List Nat) (hl : ∀ a ∈ l, a < 256) : (isSc (R : Int) && eqS (encB R) (bytesOf l)) = decide ((R < 55296 ∨ (57344 ≤ R ∧ R ≤ 1114111)) ∧ encL R = l) := by
  rw [isSc_nat]
  by_cases h : R < 55296 ∨ (57344 ≤ R ∧ R ≤ 1114111)
  · rw [enc_is (by omega) hl]; simp [h]
  · simp [h]
theorem ifb {α : Type} {p : Prop} [Decidable p] {a b : α} : (if decide p = true then a else b) = if p then a else b := by simp
theorem len_ne {l m : List Nat} (h : l.length ≠ m.length) : ¬ l = m := fun e => h (by rw [e])
theorem encL_1 {R : Nat} (h : R < 128) : encL R = [R] := by simp [encL, h]
theorem encL_2 {R : Nat} (h : 128 ≤ R) (h' : R < 2048) : encL R = [192 + R / 64, 128 + R % 64] := by unfold encL; rw [if_neg (by omega), if_pos h']
theorem encL_3 {R : Nat} (h : 2048 ≤ R) (h' : R < 65536) : encL R = [224 + R / 4096, 128 + R / 64 % 64, 128 + R % 64] := by unfold encL; rw [if_neg (by omega), if_neg (by omega), if_pos h']
theorem encL_4 {R : Nat} (h : 65536 ≤ R) : encL R = [240 + R / 262144, 128 + R / 4096 % 64, 128 + R / 64 % 64, 128 + R % 64] := by unfold encL; rw [if_neg (by omega), if_neg (by omega), if_neg (by omega)]
set_option maxHeartbeats 2000000 in
theorem firstR_dec (s : ByteArray) (i : Nat) (h : i < s.size) : firstR s i = dec s i := by
  have l0 := byte_lt s i
  have l1 := byte_lt s (i + 1)
  have l2 := byte_lt s (i + 2)
  have l3 := byte_lt s (i + 3)
  rw [dec_N s i h, decN_firstN _ _ _ _ _ l0 l1 l2 l3]
  have x1 := ext1 s i
  have x2 := ext2 s i
  have x3 := ext3 s i
  have x4 := ext4 s i
  unfold firstR
  obtain ⟨b0, e0⟩ : ∃ b, byte s i = b := ⟨_, rfl⟩
  obtain ⟨b1, e1⟩ : ∃ b, byte s (i + 1) = b := ⟨_, rfl⟩
  obtain ⟨b2, e2⟩ : ∃ b, byte s (i + 2) = b := ⟨_, rfl⟩
  obtain ⟨b3, e3⟩ : ∃ b, byte s (i + 3) = b := ⟨_, rfl⟩
  rw [e0] at l0 x1 x2 x3 x4
  rw [e1] at l1 x2 x3 x4
  rw [e2] at l2 x3 x4
  rw [e3] at l3 x4
  rw [e0, e1, e2, e3]
  by_cases c4 : 240 ≤ b0
  · simp only [hdC, hdR, if_pos c4, accR, Nat.reduceAdd, e1, e2, e3]
    obtain ⟨R, hR⟩ : ∃ R, (((b0 - 240) * 64 + b1 % 64) * 64 + b2 % 64) * 64 + b3 % 64 = R := ⟨_, rfl⟩
    unfold firstN
    rw [hR, if_neg (by omega : ¬ b0 < 128), if_neg (by omega : ¬ (194 ≤ b0 ∧ b0 < 224 ∧ 2 ≤ s.size - i ∧ b1 / 64 = 2)), if_neg (by omega : ¬ (224 ≤ b0 ∧ b0 < 240 ∧ _))]
    by_cases hn : s.size < i + 4
    · rw [if_pos hn, if_neg (by omega)]
    · rw [if_neg hn, x4 (by omega), cond_is _ _ (by simp; omega), ifb]
      by_cases g : R < 65536
      · rw [if_neg, if_neg (by omega)]
        rintro ⟨-, e⟩
        refine len_ne ?_ e
        rcases Nat.lt_or_ge R 128 with k | k
        · rw [encL_1 k]; simp
        · rcases Nat.lt_or_ge R 2048 with k' | k'
          · rw [encL_2 k k']; simp
          · rw [encL_3 k' g]; simp
      · rw [encL_4 (by omega)]
        simp only [List.cons.injEq, and_true]
        by_cases q : b1 / 64 = 2 ∧ b2 / 64 = 2 ∧ b3 / 64 = 2 ∧ R ≤ 1114111
        · rw [if_pos (by omega), if_pos (by omega)]
        · rw [if_neg (by omega), if_neg (by omega)]
  by_cases c3 : 224 ≤ b0
  · simp only [hdC, hdR, if_neg c4, if_pos c3, accR, Nat.reduceAdd, e1, e2, e3]
    obtain ⟨R, hR⟩ : ∃ R, ((b0 - 224) * 64 + b1 % 64) * 64 + b2 % 64 = R := ⟨_, rfl⟩
    unfold firstN
    rw [hR, if_neg (by omega : ¬ b0 < 128), if_neg (by omega : ¬ (194 ≤ b0 ∧ b0 < 224 ∧ 2 ≤ s.size - i ∧ b1 / 64 = 2)), if_neg (by omega : ¬ (240 ≤ b0 ∧ _))]
    by_cases hn : s.size < i + 3
    · rw [if_pos hn, if_neg (by omega)]
    · rw [if_neg hn, x3 (by omega), cond_is _ _ (by simp; omega), ifb]
      by_cases g : R < 2048
      · rw [if_neg, if_neg (by omega)]
        rintro ⟨-, e⟩
        refine len_ne ?_ e
        rcases Nat.lt_or_ge R 128 with k | k
        · rw [encL_1 k]; simp
        · rw [encL_2 k g]; simp
      · rw [encL_3 (by omega) (by omega)]
        simp only [List.cons.injEq, and_true]
        by_cases q : b1 / 64 = 2 ∧ b2 / 64 = 2 ∧ (R < 55296 ∨ 57344 ≤ R)
        · rw [if_pos (by omega), if_pos (by omega)]
        · rw [if_neg (by omega), if_neg (by omega)]
  by_cases c2 : 192 ≤ b0
  · simp only [hdC, hdR, if_neg c4, if_neg c3, if_pos c2, accR, Nat.reduceAdd, e1, e2, e3]
    obtain ⟨R, hR⟩ : ∃ R, (b0 - 192) * 64 + b1 % 64 = R := ⟨_, rfl⟩
    unfold firstN
    rw [hR, if_neg (by omega : ¬ b0 < 128), if_neg (by omega : ¬ (224 ≤ b0 ∧ b0 < 240 ∧ _)), if_neg (by omega : ¬ (240 ≤ b0 ∧ _))]
    by_cases hn : s.size < i + 2
    · rw [if_pos hn, if_neg (by omega)]
    · rw [if_neg hn, x2 (by omega), cond_is _ _ (by simp; omega), ifb]
      by_cases g : R < 128
      · rw [if_neg, if_neg (by omega)]
        rintro ⟨-, e⟩
        refine len_ne ?_ e
        rw [encL_1 g]; simp
      · rw [encL_2 (by omega) (by omega)]
        simp only [List.cons.injEq, and_true]
        by_cases q : b1 / 64 = 2
        · rw [if_pos (by omega), if_pos (by omega)]
        · rw [if_neg (by omega), if_neg (by omega)]
  · simp only [hdC, hdR, if_neg c4, if_neg c3, if_neg c2, accR, Nat.reduceAdd]
    unfold firstN
    rw [if_neg (by omega : ¬ s.size < i + 1), x1 (by omega), cond_is _ _ (by simp; omega), ifb]
    by_cases g : b0 < 128
    · rw [encL_1 g, if_pos (by simp; omega), if_pos g]
    · rw [if_neg g, if_neg (by omega : ¬ (194 ≤ b0 ∧ _)), if_neg (by omega : ¬ (224 ≤ b0 ∧ _)), if_neg (by omega : ¬ (240 ≤ b0 ∧ _)), if_neg]
      rintro ⟨-, e⟩
      rw [encL_2 (by omega) (by omega)] at e
      exact absurd (congrArg List.length e) (by simp)
end Ve
/- Walks of the reference of layer 1: decode, Breaks, Utf8, List. -/
namespace Ve
open Go Go.RowKit Go.Proofs

theorem ret_vi {k : IntKind} {a b : Value} {c d : Int} (h : a = b) (h' : c = d) : Ending.returned (.tuple #[a, .int k c]) = .returned (.tuple #[b, .int k d]) := by rw [h, h']
/-- A scalar's cell. -/
def RuneR (_ : World) (x : Nat) (cs : List Value) : Prop := cs = [.int .i32 x]
theorem RuneR.flat (w : World) (x : Nat) (cs : List Value) (h : RuneR w x cs) : ∀ u ∈ cs, u.oneCell' = true := by
  subst h; simp [Value.oneCell']
abbrev OwnRunes (base : Nat) (w : World) (v : Value) (l : List Nat) : Prop := OwnL RuneR 1 base 21 w v l
theorem OwnRunes.gr {base : Nat} {w w' : World} {v : Value} {l : List Nat} (h : OwnRunes base w v l) (hg : Gr w w') : OwnRunes base w' v l := OwnL.gr (w := w) h (fun _ _ h => h) hg
theorem info_rune : (Tryz.prog.info? 21).map (fun i => (i.zero, i.size, i.bytes)) = some (some (.int .i32 0), 1, 4) := by kernel_rfl
theorem wp_push_rune {w : World} {base : Nat} {ops : Array Oper} {rest : List Oper} {o : Oper} {act : Act} {Q : Exit → Act → World → Prop} (hgd : o.guard = none) (s x : Operand)
    (ho : o.op = .call { callee := .builtin .append, args := #[s, x], argTypes := #[128, 128] }) {v : Value} {l : List Nat} (r : Nat) (hs : act.eval s = v) {i : Nat} (hx : act.eval x = .slice (some ⟨i, 0, none⟩) 1 1)
    (hown : OwnRunes base w v l) (hm : l.length + 1 ≤ 1099511627776) (hb : base ≤ w.heap.size) (hi : i = w.heap.size)
    (h : ∀ v' w', OwnRunes base w' v' (l ++ [r]) → Kg (Fr base) (· == 21) w w' → wpList Tryz.prog ops Q rest (act.put o.dst v') w') : wpList Tryz.prog ops Q (o :: rest) act (w.alloc (.cells #[.int .i32 r] 21)) := by
  subst hi
  obtain ⟨v', w', h1, h2, h3, h4, h5, h6⟩ := run_push (P := Tryz.prog) (R := RuneR) w base 128 o.type 21 _ 1 4 Tryz.underlying128 info_rune rfl (by omega) (by omega) RuneR.flat (fun _ _ _ _ _ h => h) hown (x := r) (cs := [.int .i32 r]) rfl rfl hm hb
  obtain ⟨xs, hO, hr⟩ := hown
  exact wpList_run hgd s x _ ho hs hx h1 (h v' w' h2 (Kg.of_own_alloc hO (by decide) (own_fr hO) h3))
theorem decSum_step {s : ByteArray} {f k : Nat} {acc : List Nat} (h0 : ¬ (dec s k).2 = 0) (hb : brkFrom s (f + 1) k = brk s) (hr : acc ++ runesFrom s (f + 1) k = runes s) :
    brkFrom s f (k + (dec s k).2) = brk s ∧ (acc ++ [(dec s k).1]) ++ runesFrom s f (k + (dec s k).2) = runes s := by
  simp only [brkFrom, if_neg h0] at hb
  simp only [runesFrom, if_neg h0] at hr
  exact ⟨hb, by rw [List.append_assoc]; exact hr⟩
theorem decSum_stop {s : ByteArray} {f k : Nat} {acc : List Nat} (h0 : (dec s k).2 = 0) (hb : brkFrom s f k = brk s) (hr : acc ++ runesFrom s f k = runes s) :
    brk s = k ∧ acc = runes s := by
  cases f with
  | zero => exact ⟨hb.symm, by simpa [runesFrom] using hr⟩
  | succ f =>
    simp only [brkFrom, if_pos h0] at hb
    simp only [runesFrom, if_pos h0] at hr
    exact ⟨hb.symm, by simpa using hr⟩
set_option maxHeartbeats 1000000 in
theorem rdecode_any (s : ByteArray) (w : World) (hs : szS s) :
    Calls Tryz.prog 130 #[.string s] w fun e w' => ∃ v', e = .returned (.tuple #[v', .int .i64 (brk s)]) ∧ OwnRunes w.heap.size w' v' (runes s) ∧ Gr w w' := by
  have hs' := hs.le40
  have hm0 := OwnL.made w RuneR 1 w.heap.size 21 (Nat.le_refl _)
  go_enter Tryz.func130, Tryz.ntmps130
  go_wp2
  go_loopw [4, 5] (fun o i wr => ∃ (k f : Nat) (acc : List Nat), k ≤ s.size ∧ i = .int .i64 k ∧ Gr w wr ∧ brkFrom s f k = brk s ∧ s.size ≤ k + f ∧ acc.length ≤ k ∧ acc ++ runesFrom s f k = runes s ∧ OwnRunes w.heap.size wr o acc) (fun _ i _ => s.size - (intOf i).toNat)
  case atStart => exact ⟨0, s.size, [], Nat.zero_le _, rfl, (by repeat (with_reducible first | assumption | exact Gr.refl _ | apply Gr.alloc | apply Gr.drewN | apply Gr.drew | apply Gr.iter | (refine Gr.setCell ?_ (by simp) _) | (refine Gr.trans ?_ (by assumption)))), rfl, by omega, by simp, rfl, hm0⟩
  case round =>
    clear hm0
    obtain ⟨k, f, acc, hk, rfl, hg, hb, hf, hla, hr, ho⟩ := hrel
    obtain ⟨oa, om, oc, rfl, -, -, hom⟩ := ho.sl
    have HB := Lib.hid hb; clear hb
    have HR := Lib.hid hr; clear hr
    by_cases hlt : k < s.size
    · have hlt' : (k : Int) < s.size := by omega
      have hle := dec_le s k
      have hfd := firstR_dec s k hlt
      have HF := Lib.hid hfd; clear hfd
      by_cases h0 : (dec s k).2 = 0
      · have h0' : (((dec s k).2 : Nat) : Int) = 0 := by omega
        go_wp2_with (go_at_call 161; refine (rfirst_any s k hlt hs _).mono ?_; rw [HF.out]; rintro e w' ⟨rfl, hg'⟩)
        go_ret2
        have hst := decSum_stop h0 HB.out HR.out
        exact ⟨_, ret_vi rfl (by rw [hst.1]), by rw [← hst.2]; exact OwnRunes.gr (w := wr) ho (by repeat (with_reducible first | assumption | exact Gr.refl _ | apply Gr.alloc | apply Gr.drewN | apply Gr.drew | apply Gr.iter | (refine Gr.setCell ?_ (by simp) _) | (refine Gr.trans ?_ (by assumption)))), (by repeat (with_reducible first | assumption | exact Gr.refl _ | apply Gr.alloc | apply Gr.drewN | apply Gr.drew | apply Gr.iter | (refine Gr.setCell ?_ (by simp) _) | (refine Gr.trans ?_ (by assumption))))⟩
      · have h0' : ((((dec s k).2 : Nat) : Int) == 0) = false := by simp; omega
        obtain ⟨f, rfl⟩ : ∃ m, f = m + 1 := ⟨f - 1, by omega⟩
        go_wp2_with (first
          | (go_at_call 161; refine (rfirst_any s k hlt hs _).mono ?_; rw [HF.out]; rintro e w' ⟨rfl, hg'⟩)
          | (at_builtin; refine wp_push_rune (base := w.heap.size) rfl (.tmp 23) (.tmp 25) rfl (dec s k).1 rfl rfl (OwnRunes.gr (w := wr) ho ?g1) ?hm (Nat.le_trans hg.size (Gr.size (w := wr) ?g1)) ?hi ?_; (case g1 => exact (by repeat (with_reducible first | assumption | exact Gr.refl _ | apply Gr.alloc | apply Gr.drewN | apply Gr.drew | apply Gr.iter | (refine Gr.setCell ?_ (by simp) _) | (refine Gr.trans ?_ (by assumption))))); (case hm => omega); (case hi => simp); intro v' w2 hown hk2; obtain ⟨na, nn, nc, rfl, -⟩ := hown.sl))
        go_roundw
        case rel =>
          have hst := decSum_step h0 HB.out HR.out
          exact ⟨k + (dec s k).2, f, _, by omega, by go_num, Gr.kg (w := w') (by repeat (with_reducible first | assumption | exact Gr.refl _ | apply Gr.alloc | apply Gr.drewN | apply Gr.drew | apply Gr.iter | (refine Gr.setCell ?_ (by simp) _) | (refine Gr.trans ?_ (by assumption)))) hk2 (Nat.le_refl _), hst.1, by omega, by simp; omega, hst.2, hown⟩
        case measure => simp [intOf]; omega
    · obtain rfl : k = s.size := by omega
      go_wp2
      go_ret2
      have hst := decSum_stop (by rw [dec_end s s.size (by omega)]) HB.out HR.out
      exact ⟨_, ret_vi rfl (by rw [hst.1]), by rw [← hst.2]; exact OwnRunes.gr (w := wr) ho (by repeat (with_reducible first | assumption | exact Gr.refl _ | apply Gr.alloc | apply Gr.drewN | apply Gr.drew | apply Gr.iter | (refine Gr.setCell ?_ (by simp) _) | (refine Gr.trans ?_ (by assumption)))), (by repeat (with_reducible first | assumption | exact Gr.refl _ | apply Gr.alloc | apply Gr.drewN | apply Gr.drew | apply Gr.iter | (refine Gr.setCell ?_ (by simp) _) | (refine Gr.trans ?_ (by assumption))))⟩
set_option maxHeartbeats 400000 in
theorem rbreaks_any (s : ByteArray) (w : World) (hs : szS s) :
    Calls Tryz.prog 188 #[.string s] w fun e w' => e = .returned (.int .i64 (brk s)) ∧ Gr w w' := by
  go_enter Tryz.func188, Tryz.ntmps188
  go_wp2_with (go_at_call 130; refine (rdecode_any s _ hs).mono ?_; rintro e w' ⟨v', rfl, ho, hg⟩; obtain ⟨oa, om, oc, rfl, -, -, hom⟩ := ho.sl)
  go_ret
  exact ⟨rfl, (by repeat (with_reducible first | assumption | exact Gr.refl _ | apply Gr.alloc | apply Gr.drewN | apply Gr.drew | apply Gr.iter | (refine Gr.setCell ?_ (by simp) _) | (refine Gr.trans ?_ (by assumption))))⟩
set_option maxHeartbeats 400000 in
theorem rlist_any (s : ByteArray) (w : World) (hs : szS s) :
    Calls Tryz.prog 96 #[.string s] w fun e w' => ∃ v', e = .returned v' ∧ OwnRunes w.heap.size w' v' (runes s) ∧ Gr w w' := by
  go_enter Tryz.func96, Tryz.ntmps96
  go_wp2_with (go_at_call 130; refine (rdecode_any s _ hs).mono ?_; rintro e w' ⟨v', rfl, ho, hg⟩; obtain ⟨oa, om, oc, rfl, -, -, hom⟩ := ho.sl)
  go_ret
  exact ⟨_, rfl, ho, (by repeat (with_reducible first | assumption | exact Gr.refl _ | apply Gr.alloc | apply Gr.drewN | apply Gr.drew | apply Gr.iter | (refine Gr.setCell ?_ (by simp) _) | (refine Gr.trans ?_ (by assumption))))⟩
set_option maxHeartbeats 400000 in
theorem rutf8_any (s : ByteArray) (w : World) (hs : szS s) :
    Calls Tryz.prog 171 #[.string s] w fun e w' => e = .returned (.bool (validS s)) ∧ Gr w w' := by
  have hs' := hs.le40
  go_enter Tryz.func171, Tryz.ntmps171
  go_wp2_with (go_at_call 188; refine (rbreaks_any s _ hs).mono ?_; rintro e w' ⟨rfl, hg⟩)
  go_ret
  refine ⟨ret_bool ?_, (by repeat (with_reducible first | assumption | exact Gr.refl _ | apply Gr.alloc | apply Gr.drewN | apply Gr.drew | apply Gr.iter | (refine Gr.setCell ?_ (by simp) _) | (refine Gr.trans ?_ (by assumption))))⟩
  rw [Bool.eq_iff_iff]; simp [validS]; omega
set_option maxHeartbeats 400000 in
theorem rtext_any (s : ByteArray) (w : World) (hs : szS s) :
    Calls Tryz.prog 189 #[.string s] w fun e w' => e = .returned (.int .i64 (if brk s = s.size then (if 1048576 < s.size then 10 else 0) else 1)) ∧ Gr w w' := by
  have hs' := hs.le40
  obtain ⟨b, hb⟩ : ∃ b, validS s = b := ⟨_, rfl⟩
  have HB := Lib.hid hb; clear hb
  go_enter Tryz.func189, Tryz.ntmps189
  go_wp2_with (go_at_call 171; refine (rutf8_any s _ hs).mono ?_; rw [HB.out]; rintro e w' ⟨rfl, hg⟩)
  all_goals go_ret
  all_goals refine ⟨ret_int ?_, (by repeat (with_reducible first | assumption | exact Gr.refl _ | apply Gr.alloc | apply Gr.drewN | apply Gr.drew | apply Gr.iter | (refine Gr.setCell ?_ (by simp) _) | (refine Gr.trans ?_ (by assumption))))⟩
  all_goals have hb := HB.out
  all_goals unfold validS at hb
  all_goals simp_all
  all_goals omega
end Ve
