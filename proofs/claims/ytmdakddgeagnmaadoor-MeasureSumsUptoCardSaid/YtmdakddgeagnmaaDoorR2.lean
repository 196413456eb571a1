/- Walks of the reference of layer 1: first. -/
import Derived.Test.YtmdakddgeagnmaaDoorR1
set_option linter.all false
namespace Ve
open Go Go.RowKit Go.Proofs

/-- The byte at a place. -/
def byte (s : ByteArray) (j : Nat) : Nat := (s.data.toList.getD j 0).toNat
theorem byte_at (s : ByteArray) (j : Nat) (h : j < s.size) : s[j].toNat = byte s j := by
  have h' : j < s.data.toList.length := by rw [Array.length_toList]; exact h
  unfold byte
  rw [List.getD, List.getElem?_eq_getElem h']
  rfl
theorem run_index_byte (t : TypeId) (s : ByteArray) (k : IntKind) (i : Int) (w : World) (h : Tryd.prog.underlying t = some .string) :
    (Instr.index t (.string s) (.int k i)).run Tryd.prog w = if 0 ≤ i ∧ i < s.size then .ok (.int .u8 (byte s i.toNat)) w else (boundsPanic k i s.size .index).run Tryd.prog w := by
  rw [run_index_string w t s k i h]
  split
  · rename_i hi
    rw [byte_at]
  · rfl
attribute [go_sem high] run_index_byte
theorem byte_lt (s : ByteArray) (j : Nat) : byte s j < 256 := by unfold byte; exact UInt8.toNat_lt _
/-- The number that r and the first j bytes behind place i make. -/
def accR (s : ByteArray) (i r : Nat) : Nat → Nat
  | 0 => r
  | j + 1 => accR s i r j * 64 + byte s (i + (j + 1)) % 64
theorem accR_lt (s : ByteArray) (i r : Nat) : ∀ j, accR s i r j < (r + 1) * 64 ^ j
  | 0 => by simp [accR]
  | j + 1 => by
    have := accR_lt s i r j
    have h : byte s (i + (j + 1)) % 64 < 64 := Nat.mod_lt _ (by omega)
    simp only [accR, Nat.pow_succ]
    have h2 : (r + 1) * (64 ^ j * 64) = (r + 1) * 64 ^ j * 64 := (Nat.mul_assoc _ _ _).symm
    omega
/-- A drawn region whose operations only read or make memory: one walk in the text's order. -/
theorem wp_region_gr {P : Program} {id : Nat} {Q : Exit → Act → World → Prop} {a : Act} {w : World} {l : List Oper} (hm : P.follows .mixedOrders = true) (hB : Region.lexB .any l.toArray = true)
    (h : wpQuiet P l.toArray (fun w' => Gr w w') (fun a' => ∀ w', Gr w w' → Q .normal a' w') l a) : (Code.region id l.toArray true).wp P Q a w :=
  wp_region_quiet (C := fun w' => Gr w w') hm hB (Gr.refl w).drew (by simpa using h)
def hdC (b : Nat) : Nat := if 240 ≤ b then 3 else if 224 ≤ b then 2 else if 192 ≤ b then 1 else 0
def hdR (b : Nat) : Nat := if 240 ≤ b then b - 240 else if 224 ≤ b then b - 224 else if 192 ≤ b then b - 192 else b
/-- What vellumref01.first answers. -/
def firstR (s : ByteArray) (i : Nat) : Nat × Nat :=
  if s.size < i + (hdC (byte s i) + 1) then (0, 0)
  else if (isSc (accR s i (hdR (byte s i)) (hdC (byte s i))) && eqS (encB (accR s i (hdR (byte s i)) (hdC (byte s i)))) (s.extract i (i + (hdC (byte s i) + 1)))) = true
    then (accR s i (hdR (byte s i)) (hdC (byte s i)), hdC (byte s i) + 1) else (0, 0)
set_option maxRecDepth 20000 in
set_option maxHeartbeats 4000000 in
theorem rfirst_any (s : ByteArray) (i : Nat) (hi : i < s.size) (hs : szS s) (w : World) : Calls Tryd.prog 72 #[.string s, .int .i64 i] w fun e w' => e = .returned (.tuple #[.int .i32 (firstR s i).1, .int .i64 (firstR s i).2]) ∧ Gr w w' := by
  have hi' : (i : Int) < s.size := by omega
  have hs' : (s.size : Int) ≤ 1099511627776 := by unfold szS at hs; omega
  obtain ⟨b, hb⟩ : ∃ b, byte s i = b := ⟨_, rfl⟩
  have hb' : (b : Int) < 256 := by have := byte_lt s i; omega
  by_cases h4 : 240 ≤ b
  · have h4' : (240 : Int) ≤ b := by omega
    by_cases hsz : s.size < i + 4
    · have hsz' : (s.size : Int) < i + 4 := by omega
      have hF : firstR s i = (0, 0) := by unfold firstR; rw [hb]; simp only [hdC, hdR, if_pos h4]; rw [if_pos (by omega)]
      rw [hF]
      go_enter Tryd.func72, Tryd.ntmps72
      go_wp2
      all_goals go_ret2
      all_goals exact ⟨rfl, (by repeat (with_reducible first | assumption | exact Gr.refl _ | apply Gr.alloc | apply Gr.drewN | apply Gr.drew | apply Gr.iter | (refine Gr.setCell ?_ (by simp) _) | (refine Gr.trans ?_ (by assumption))))⟩
    · have hsz' : (i : Int) + 4 ≤ s.size := by omega
      obtain ⟨R, hR⟩ : ∃ R, accR s i (b - 240) 3 = R := ⟨_, rfl⟩
      have hF : firstR s i = if (isSc R && eqS (encB R) (s.extract i (i + 4))) = true then (R, 4) else (0, 0) := by unfold firstR; rw [hb]; simp only [hdC, hdR, if_pos h4]; rw [if_neg (by omega)]; simp only [hR]
      have HF := Lib.hid hF; clear hF
      have HR := Lib.hid hR; clear hR
      go_enter Tryd.func72, Tryd.ntmps72
      go_wp2
      clear hb
      go_loopw [8, 9] (fun r k wr => ∃ j : Nat, j ≤ 3 ∧ k = .int .i64 ((j : Int) + 1) ∧ r = .int .i32 (accR s i (b - 240) j) ∧ Gr w wr) (fun _ k _ => 4 - (intOf k).toNat)
      case atStart => exact ⟨0, by omega, rfl, by simp [accR] <;> omega, Gr.refl _⟩
      case round =>
        obtain ⟨j, hj, rfl, rfl, hg⟩ := hrel
        by_cases hlt : j < 3
        · have hlt' : (j : Int) < 3 := by omega
          have a1 := accR_lt s i (b - 240) j
          have a2 : accR s i (b - 240) j < 262144 := by
            have : j = 0 ∨ j = 1 ∨ j = 2 := by omega
            rcases this with rfl | rfl | rfl <;> simp at a1 <;> omega
          have a3 : 0 ≤ (accR s i (b - 240) j : Int) ∧ (accR s i (b - 240) j : Int) < 262144 := by omega
          have a4 : 0 ≤ (byte s (i + (j + 1)) : Int) ∧ (byte s (i + (j + 1)) : Int) < 256 := by have := byte_lt s (i + (j + 1)); omega
          clear a1 a2
          go_wp2
          all_goals exact ⟨⟨j + 1, by omega, by go_num, by simp only [accR]; congr 1, hg⟩, by simp [intOf]; omega⟩
        · obtain rfl : j = 3 := by omega
          rw [HR.out]
          cases hsc : isSc R with
          | true =>
            have hRm : R ≤ 1114111 := by simp [isSc] at hsc; omega
            go_wp2_with (go_at_call 81; refine (rscalar_any _ _).mono ?_; rw [hsc]; rintro e w2 ⟨rfl, hg2⟩)
            cases hB : eqS (encB R) (s.extract i (i + 4))
            all_goals
              have x1 : IntKind.i64.wrap ((i : Int) + 4) = (i : Int) + 4 := IntWalk.i64_in _ (by omega)
              have x2 : ((i : Int) + 4).toNat = i + 4 := by omega
              have x3 : (0 : Int) ≤ (i : Int) + 4 := by omega
              have x4 : (i : Int) ≤ (i : Int) + 4 := by omega
              (refine wp_region_gr (by kernel_rfl) (by kernel_rfl) ?_; (repeat (refine wpQuiet_step (fun K hK => ?_); go_simp; first | (refine hK _ ?_; clear hK K) | (refine ⟨_, fun _ _ => rfl, hK _ ?_⟩; clear hK K) | (apply Exists.intro; refine ⟨fun wq hq => ?_, hK _ ?_⟩; exact (rencode_any R hRm _).mono fun e w' h => ⟨h.1, hq.trans h.2⟩; clear hK K))); refine wpQuiet_nil ?_)
              clear x1 x2 x3 x4
              intro w3 hg3
              go_wp2
              go_ret2
              rw [HF.out, hsc, hB]
              exact ⟨rfl, (by repeat (with_reducible first | assumption | exact Gr.refl _ | apply Gr.alloc | apply Gr.drewN | apply Gr.drew | apply Gr.iter | (refine Gr.setCell ?_ (by simp) _) | (refine Gr.trans ?_ (by assumption))))⟩
          | false =>
            go_wp2_with (go_at_call 81; refine (rscalar_any _ _).mono ?_; rw [hsc]; rintro e w2 ⟨rfl, hg2⟩)
            go_quiet (fail)
            go_wp2
            go_ret2
            rw [HF.out, hsc]
            exact ⟨rfl, (by repeat (with_reducible first | assumption | exact Gr.refl _ | apply Gr.alloc | apply Gr.drewN | apply Gr.drew | apply Gr.iter | (refine Gr.setCell ?_ (by simp) _) | (refine Gr.trans ?_ (by assumption))))⟩
  have h4' : (b : Int) < 240 := by omega
  by_cases h3 : 224 ≤ b
  · have h3' : (224 : Int) ≤ b := by omega
    by_cases hsz : s.size < i + 3
    · have hsz' : (s.size : Int) < i + 3 := by omega
      have hF : firstR s i = (0, 0) := by unfold firstR; rw [hb]; simp only [hdC, hdR, if_neg h4, if_pos h3]; rw [if_pos (by omega)]
      rw [hF]
      go_enter Tryd.func72, Tryd.ntmps72
      go_wp2
      all_goals go_ret2
      all_goals exact ⟨rfl, (by repeat (with_reducible first | assumption | exact Gr.refl _ | apply Gr.alloc | apply Gr.drewN | apply Gr.drew | apply Gr.iter | (refine Gr.setCell ?_ (by simp) _) | (refine Gr.trans ?_ (by assumption))))⟩
    · have hsz' : (i : Int) + 3 ≤ s.size := by omega
      obtain ⟨R, hR⟩ : ∃ R, accR s i (b - 224) 2 = R := ⟨_, rfl⟩
      have hF : firstR s i = if (isSc R && eqS (encB R) (s.extract i (i + 3))) = true then (R, 3) else (0, 0) := by unfold firstR; rw [hb]; simp only [hdC, hdR, if_neg h4, if_pos h3]; rw [if_neg (by omega)]; simp only [hR]
      have HF := Lib.hid hF; clear hF
      have HR := Lib.hid hR; clear hR
      go_enter Tryd.func72, Tryd.ntmps72
      go_wp2
      clear hb
      go_loopw [8, 9] (fun r k wr => ∃ j : Nat, j ≤ 2 ∧ k = .int .i64 ((j : Int) + 1) ∧ r = .int .i32 (accR s i (b - 224) j) ∧ Gr w wr) (fun _ k _ => 3 - (intOf k).toNat)
      case atStart => exact ⟨0, by omega, rfl, by simp [accR] <;> omega, Gr.refl _⟩
      case round =>
        obtain ⟨j, hj, rfl, rfl, hg⟩ := hrel
        by_cases hlt : j < 2
        · have hlt' : (j : Int) < 2 := by omega
          have a1 := accR_lt s i (b - 224) j
          have a2 : accR s i (b - 224) j < 262144 := by
            have : j = 0 ∨ j = 1 ∨ j = 2 := by omega
            rcases this with rfl | rfl | rfl <;> simp at a1 <;> omega
          have a3 : 0 ≤ (accR s i (b - 224) j : Int) ∧ (accR s i (b - 224) j : Int) < 262144 := by omega
          have a4 : 0 ≤ (byte s (i + (j + 1)) : Int) ∧ (byte s (i + (j + 1)) : Int) < 256 := by have := byte_lt s (i + (j + 1)); omega
          clear a1 a2
          go_wp2
          all_goals exact ⟨⟨j + 1, by omega, by go_num, by simp only [accR]; congr 1, hg⟩, by simp [intOf]; omega⟩
        · obtain rfl : j = 2 := by omega
          rw [HR.out]
          cases hsc : isSc R with
          | true =>
            have hRm : R ≤ 1114111 := by simp [isSc] at hsc; omega
            go_wp2_with (go_at_call 81; refine (rscalar_any _ _).mono ?_; rw [hsc]; rintro e w2 ⟨rfl, hg2⟩)
            cases hB : eqS (encB R) (s.extract i (i + 3))
            all_goals
              have x1 : IntKind.i64.wrap ((i : Int) + 3) = (i : Int) + 3 := IntWalk.i64_in _ (by omega)
              have x2 : ((i : Int) + 3).toNat = i + 3 := by omega
              have x3 : (0 : Int) ≤ (i : Int) + 3 := by omega
              have x4 : (i : Int) ≤ (i : Int) + 3 := by omega
              (refine wp_region_gr (by kernel_rfl) (by kernel_rfl) ?_; (repeat (refine wpQuiet_step (fun K hK => ?_); go_simp; first | (refine hK _ ?_; clear hK K) | (refine ⟨_, fun _ _ => rfl, hK _ ?_⟩; clear hK K) | (apply Exists.intro; refine ⟨fun wq hq => ?_, hK _ ?_⟩; exact (rencode_any R hRm _).mono fun e w' h => ⟨h.1, hq.trans h.2⟩; clear hK K))); refine wpQuiet_nil ?_)
              clear x1 x2 x3 x4
              intro w3 hg3
              go_wp2
              go_ret2
              rw [HF.out, hsc, hB]
              exact ⟨rfl, (by repeat (with_reducible first | assumption | exact Gr.refl _ | apply Gr.alloc | apply Gr.drewN | apply Gr.drew | apply Gr.iter | (refine Gr.setCell ?_ (by simp) _) | (refine Gr.trans ?_ (by assumption))))⟩
          | false =>
            go_wp2_with (go_at_call 81; refine (rscalar_any _ _).mono ?_; rw [hsc]; rintro e w2 ⟨rfl, hg2⟩)
            go_quiet (fail)
            go_wp2
            go_ret2
            rw [HF.out, hsc]
            exact ⟨rfl, (by repeat (with_reducible first | assumption | exact Gr.refl _ | apply Gr.alloc | apply Gr.drewN | apply Gr.drew | apply Gr.iter | (refine Gr.setCell ?_ (by simp) _) | (refine Gr.trans ?_ (by assumption))))⟩
  have h3' : (b : Int) < 224 := by omega
  by_cases h2 : 192 ≤ b
  · have h2' : (192 : Int) ≤ b := by omega
    by_cases hsz : s.size < i + 2
    · have hsz' : (s.size : Int) < i + 2 := by omega
      have hF : firstR s i = (0, 0) := by unfold firstR; rw [hb]; simp only [hdC, hdR, if_neg h4, if_neg h3, if_pos h2]; rw [if_pos (by omega)]
      rw [hF]
      go_enter Tryd.func72, Tryd.ntmps72
      go_wp2
      all_goals go_ret2
      all_goals exact ⟨rfl, (by repeat (with_reducible first | assumption | exact Gr.refl _ | apply Gr.alloc | apply Gr.drewN | apply Gr.drew | apply Gr.iter | (refine Gr.setCell ?_ (by simp) _) | (refine Gr.trans ?_ (by assumption))))⟩
    · have hsz' : (i : Int) + 2 ≤ s.size := by omega
      obtain ⟨R, hR⟩ : ∃ R, accR s i (b - 192) 1 = R := ⟨_, rfl⟩
      have hF : firstR s i = if (isSc R && eqS (encB R) (s.extract i (i + 2))) = true then (R, 2) else (0, 0) := by unfold firstR; rw [hb]; simp only [hdC, hdR, if_neg h4, if_neg h3, if_pos h2]; rw [if_neg (by omega)]; simp only [hR]
      have HF := Lib.hid hF; clear hF
      have HR := Lib.hid hR; clear hR
      go_enter Tryd.func72, Tryd.ntmps72
      go_wp2
      clear hb
      go_loopw [8, 9] (fun r k wr => ∃ j : Nat, j ≤ 1 ∧ k = .int .i64 ((j : Int) + 1) ∧ r = .int .i32 (accR s i (b - 192) j) ∧ Gr w wr) (fun _ k _ => 2 - (intOf k).toNat)
      case atStart => exact ⟨0, by omega, rfl, by simp [accR] <;> omega, Gr.refl _⟩
      case round =>
        obtain ⟨j, hj, rfl, rfl, hg⟩ := hrel
        by_cases hlt : j < 1
        · have hlt' : (j : Int) < 1 := by omega
          have a1 := accR_lt s i (b - 192) j
          have a2 : accR s i (b - 192) j < 262144 := by
            have : j = 0 ∨ j = 1 ∨ j = 2 := by omega
            rcases this with rfl | rfl | rfl <;> simp at a1 <;> omega
          have a3 : 0 ≤ (accR s i (b - 192) j : Int) ∧ (accR s i (b - 192) j : Int) < 262144 := by omega
          have a4 : 0 ≤ (byte s (i + (j + 1)) : Int) ∧ (byte s (i + (j + 1)) : Int) < 256 := by have := byte_lt s (i + (j + 1)); omega
          clear a1 a2
          go_wp2
          all_goals exact ⟨⟨j + 1, by omega, by go_num, by simp only [accR]; congr 1, hg⟩, by simp [intOf]; omega⟩
        · obtain rfl : j = 1 := by omega
          rw [HR.out]
          cases hsc : isSc R with
          | true =>
            have hRm : R ≤ 1114111 := by simp [isSc] at hsc; omega
            go_wp2_with (go_at_call 81; refine (rscalar_any _ _).mono ?_; rw [hsc]; rintro e w2 ⟨rfl, hg2⟩)
            cases hB : eqS (encB R) (s.extract i (i + 2))
            all_goals
              have x1 : IntKind.i64.wrap ((i : Int) + 2) = (i : Int) + 2 := IntWalk.i64_in _ (by omega)
              have x2 : ((i : Int) + 2).toNat = i + 2 := by omega
              have x3 : (0 : Int) ≤ (i : Int) + 2 := by omega
              have x4 : (i : Int) ≤ (i : Int) + 2 := by omega
              (refine wp_region_gr (by kernel_rfl) (by kernel_rfl) ?_; (repeat (refine wpQuiet_step (fun K hK => ?_); go_simp; first | (refine hK _ ?_; clear hK K) | (refine ⟨_, fun _ _ => rfl, hK _ ?_⟩; clear hK K) | (apply Exists.intro; refine ⟨fun wq hq => ?_, hK _ ?_⟩; exact (rencode_any R hRm _).mono fun e w' h => ⟨h.1, hq.trans h.2⟩; clear hK K))); refine wpQuiet_nil ?_)
              clear x1 x2 x3 x4
              intro w3 hg3
              go_wp2
              go_ret2
              rw [HF.out, hsc, hB]
              exact ⟨rfl, (by repeat (with_reducible first | assumption | exact Gr.refl _ | apply Gr.alloc | apply Gr.drewN | apply Gr.drew | apply Gr.iter | (refine Gr.setCell ?_ (by simp) _) | (refine Gr.trans ?_ (by assumption))))⟩
          | false =>
            go_wp2_with (go_at_call 81; refine (rscalar_any _ _).mono ?_; rw [hsc]; rintro e w2 ⟨rfl, hg2⟩)
            go_quiet (fail)
            go_wp2
            go_ret2
            rw [HF.out, hsc]
            exact ⟨rfl, (by repeat (with_reducible first | assumption | exact Gr.refl _ | apply Gr.alloc | apply Gr.drewN | apply Gr.drew | apply Gr.iter | (refine Gr.setCell ?_ (by simp) _) | (refine Gr.trans ?_ (by assumption))))⟩
  have h2' : (b : Int) < 192 := by omega
  by_cases h1 : 0 ≤ b
  · by_cases hsz : s.size < i + 1
    · have hsz' : (s.size : Int) < i + 1 := by omega
      have hF : firstR s i = (0, 0) := by unfold firstR; rw [hb]; simp only [hdC, hdR, if_neg h4, if_neg h3, if_neg h2]; rw [if_pos (by omega)]
      rw [hF]
      go_enter Tryd.func72, Tryd.ntmps72
      go_wp2
      all_goals go_ret2
      all_goals exact ⟨rfl, (by repeat (with_reducible first | assumption | exact Gr.refl _ | apply Gr.alloc | apply Gr.drewN | apply Gr.drew | apply Gr.iter | (refine Gr.setCell ?_ (by simp) _) | (refine Gr.trans ?_ (by assumption))))⟩
    · have hsz' : (i : Int) + 1 ≤ s.size := by omega
      obtain ⟨R, hR⟩ : ∃ R, accR s i (b) 0 = R := ⟨_, rfl⟩
      have hF : firstR s i = if (isSc R && eqS (encB R) (s.extract i (i + 1))) = true then (R, 1) else (0, 0) := by unfold firstR; rw [hb]; simp only [hdC, hdR, if_neg h4, if_neg h3, if_neg h2]; rw [if_neg (by omega)]; simp only [hR]
      have HF := Lib.hid hF; clear hF
      have HR := Lib.hid hR; clear hR
      go_enter Tryd.func72, Tryd.ntmps72
      go_wp2
      clear hb
      go_loopw [8, 9] (fun r k wr => ∃ j : Nat, j ≤ 0 ∧ k = .int .i64 ((j : Int) + 1) ∧ r = .int .i32 (accR s i (b) j) ∧ Gr w wr) (fun _ k _ => 1 - (intOf k).toNat)
      case atStart => exact ⟨0, by omega, rfl, by simp [accR] <;> omega, Gr.refl _⟩
      case round =>
        obtain ⟨j, hj, rfl, rfl, hg⟩ := hrel
        by_cases hlt : j < 0
        · have hlt' : (j : Int) < 0 := by omega
          have a1 := accR_lt s i (b) j
          have a2 : accR s i (b) j < 262144 := by
            have : j = 0 ∨ j = 1 ∨ j = 2 := by omega
            rcases this with rfl | rfl | rfl <;> simp at a1 <;> omega
          have a3 : 0 ≤ (accR s i (b) j : Int) ∧ (accR s i (b) j : Int) < 262144 := by omega
          have a4 : 0 ≤ (byte s (i + (j + 1)) : Int) ∧ (byte s (i + (j + 1)) : Int) < 256 := by have := byte_lt s (i + (j + 1)); omega
          clear a1 a2
          go_wp2
          all_goals exact ⟨⟨j + 1, by omega, by go_num, by simp only [accR]; congr 1, hg⟩, by simp [intOf]; omega⟩
        · obtain rfl : j = 0 := by omega
          rw [HR.out]
          cases hsc : isSc R with
          | true =>
            have hRm : R ≤ 1114111 := by simp [isSc] at hsc; omega
            go_wp2_with (go_at_call 81; refine (rscalar_any _ _).mono ?_; rw [hsc]; rintro e w2 ⟨rfl, hg2⟩)
            cases hB : eqS (encB R) (s.extract i (i + 1))
            all_goals
              have x1 : IntKind.i64.wrap ((i : Int) + 1) = (i : Int) + 1 := IntWalk.i64_in _ (by omega)
              have x2 : ((i : Int) + 1).toNat = i + 1 := by omega
              have x3 : (0 : Int) ≤ (i : Int) + 1 := by omega
              have x4 : (i : Int) ≤ (i : Int) + 1 := by omega
              (refine wp_region_gr (by kernel_rfl) (by kernel_rfl) ?_; (repeat (refine wpQuiet_step (fun K hK => ?_); go_simp; first | (refine hK _ ?_; clear hK K) | (refine ⟨_, fun _ _ => rfl, hK _ ?_⟩; clear hK K) | (apply Exists.intro; refine ⟨fun wq hq => ?_, hK _ ?_⟩; exact (rencode_any R hRm _).mono fun e w' h => ⟨h.1, hq.trans h.2⟩; clear hK K))); refine wpQuiet_nil ?_)
              clear x1 x2 x3 x4
              intro w3 hg3
              go_wp2
              go_ret2
              rw [HF.out, hsc, hB]
              exact ⟨rfl, (by repeat (with_reducible first | assumption | exact Gr.refl _ | apply Gr.alloc | apply Gr.drewN | apply Gr.drew | apply Gr.iter | (refine Gr.setCell ?_ (by simp) _) | (refine Gr.trans ?_ (by assumption))))⟩
          | false =>
            go_wp2_with (go_at_call 81; refine (rscalar_any _ _).mono ?_; rw [hsc]; rintro e w2 ⟨rfl, hg2⟩)
            go_quiet (fail)
            go_wp2
            go_ret2
            rw [HF.out, hsc]
            exact ⟨rfl, (by repeat (with_reducible first | assumption | exact Gr.refl _ | apply Gr.alloc | apply Gr.drewN | apply Gr.drew | apply Gr.iter | (refine Gr.setCell ?_ (by simp) _) | (refine Gr.trans ?_ (by assumption))))⟩
  · exact absurd (Nat.zero_le b) h1
end Ve
