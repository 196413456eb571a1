/- Plain laws of UTF-8: a text that is UTF-8 is its scalars' encodings, one behind the other; where a scalar begins. -/
import Derived.Test.YtnlpmajiccliiaaGreatDoorR3
import Derived.Test.YtnlpmajiccliiaaGreatDoorSpec
import Derived.Test.YtnlpmajiccliiaaGreatDoorG3
import Derived.Lib.AppendStr
set_option linter.all false
namespace Ve
open Go

def scN (r : Nat) : Prop := r < 55296 ∨ (57344 ≤ r ∧ r ≤ 1114111)
/-- The text of scalars. -/
def textL : List Nat → ByteArray
  | [] => es
  | r :: l => encB r ++ textL l
theorem ba_list (a b : ByteArray) : (a ++ b).data.toList = a.data.toList ++ b.data.toList := by
  rw [ByteArray.data_append, Array.toList_append]
theorem ba_len (a : ByteArray) : a.data.toList.length = a.size := by rw [Array.length_toList]; rfl
theorem ba_nil (a : ByteArray) : a ++ es = a := ba_ext (by rw [ba_list]; simp [es])
theorem nil_ba (a : ByteArray) : es ++ a = a := ba_ext (by rw [ba_list]; simp [es])
theorem ba_assoc (a b c : ByteArray) : a ++ b ++ c = a ++ (b ++ c) := ba_ext (by simp only [ba_list, List.append_assoc])
theorem textL_app (l m : List Nat) : textL (l ++ m) = textL l ++ textL m := by
  induction l with
  | nil => rw [List.nil_append]; exact (nil_ba _).symm
  | cons r l ih => rw [List.cons_append]; simp only [textL]; rw [ih, ba_assoc]
theorem byte_app (a b : ByteArray) (j : Nat) : byte (a ++ b) (a.size + j) = byte b j := by
  unfold byte
  rw [ba_list, List.getD, List.getD, List.getElem?_append_right (by rw [ba_len]; omega), ba_len, Nat.add_sub_cancel_left]
theorem byte_of {l : List Nat} {b : ByteArray} {j x : Nat} (h : l[j]? = some x) (hx : x < 256) : byte (bytesOf l ++ b) j = x := by
  have hj : j < l.length := (List.getElem?_eq_some_iff.1 h).1
  unfold byte
  rw [ba_list, show (bytesOf l).data.toList = l.map UInt8.ofNat by simp [bytesOf], List.getD, List.getElem?_append_left (by simpa using hj), List.getElem?_map, h]
  simp
  omega
theorem bytesOf_size (l : List Nat) : (bytesOf l).size = l.length := by
  rw [← ba_len]; simp [bytesOf]
theorem dec_first (s : ByteArray) (i : Nat) (h : i < s.size) : dec s i = firstN (s.size - i) (byte s i) (byte s (i + 1)) (byte s (i + 2)) (byte s (i + 3)) := by
  rw [dec_N s i h, decN_firstN _ _ _ _ _ (byte_lt _ _) (byte_lt _ _) (byte_lt _ _) (byte_lt _ _)]
theorem dec_app (a b : ByteArray) (i : Nat) : dec (a ++ b) (a.size + i) = dec b i := by
  by_cases h : i < b.size
  · rw [dec_first _ _ (by rw [ByteArray.size_append]; omega), dec_first _ _ h, ByteArray.size_append, show a.size + b.size - (a.size + i) = b.size - i by omega, byte_app,
      Nat.add_assoc, byte_app, Nat.add_assoc, byte_app, Nat.add_assoc, byte_app]
  · rw [dec_end _ _ (by rw [ByteArray.size_append]; omega), dec_end _ _ h]
theorem dec_app0 (a b : ByteArray) : dec (a ++ b) a.size = dec b 0 := dec_app a b 0
theorem encB_size (r : Nat) : (encB r).size = (encL r).length := by rw [encB_L, bytesOf_size]
theorem encL_pos (r : Nat) : 1 ≤ (encL r).length := by unfold encL; repeat' split
                                                       all_goals simp
theorem dec_enc {r : Nat} (h : scN r) (b : ByteArray) : dec (encB r ++ b) 0 = (r, (encB r).size) := by
  have hp := encL_pos r
  unfold scN at h
  have hz : (encB r ++ b).size = (encL r).length + b.size := by rw [ByteArray.size_append, encB_size]
  rw [dec_first _ _ (by omega), hz, encB_size, encB_L]
  by_cases h1 : r < 128
  · rw [encL_1 h1]
    rw [byte_of (j := 0) (x := r) rfl (by omega)]
    unfold firstN
    rw [if_pos h1]; rfl
  by_cases h2 : r < 2048
  · rw [encL_2 (by omega) h2]
    rw [byte_of (j := 0) (x := 192 + r / 64) rfl (by omega), byte_of (j := 0 + 1) (x := 128 + r % 64) rfl (by omega)]
    simp only [List.length_cons, List.length_nil]
    unfold firstN
    rw [if_neg (by omega), if_pos (by omega)]
    congr 1; omega
  by_cases h3 : r < 65536
  · rw [encL_3 (by omega) h3]
    rw [byte_of (j := 0) (x := 224 + r / 4096) rfl (by omega), byte_of (j := 0 + 1) (x := 128 + r / 64 % 64) rfl (by omega), byte_of (j := 0 + 2) (x := 128 + r % 64) rfl (by omega)]
    simp only [List.length_cons, List.length_nil]
    unfold firstN
    have e : ((224 + r / 4096 - 224) * 64 + (128 + r / 64 % 64) % 64) * 64 + (128 + r % 64) % 64 = r := by omega
    rw [e, if_neg (by omega), if_neg (by omega), if_pos (by omega)]
  · rw [encL_4 (by omega)]
    rw [byte_of (j := 0) (x := 240 + r / 262144) rfl (by omega), byte_of (j := 0 + 1) (x := 128 + r / 4096 % 64) rfl (by omega), byte_of (j := 0 + 2) (x := 128 + r / 64 % 64) rfl (by omega), byte_of (j := 0 + 3) (x := 128 + r % 64) rfl (by omega)]
    simp only [List.length_cons, List.length_nil]
    unfold firstN
    have e : (((240 + r / 262144 - 240) * 64 + (128 + r / 4096 % 64) % 64) * 64 + (128 + r / 64 % 64) % 64) * 64 + (128 + r % 64) % 64 = r := by omega
    rw [e, if_neg (by omega), if_neg (by omega), if_neg (by omega), if_pos (by omega)]
theorem text_dec {l : List Nat} (hl : ∀ r ∈ l, scN r) : ∀ (a : ByteArray) (f : Nat), (textL l).size ≤ f → runesFrom (a ++ textL l) f a.size = l ∧ brkFrom (a ++ textL l) f a.size = (a ++ textL l).size := by
  induction l with
  | nil =>
    intro a f _
    have hs : (a ++ textL []).size = a.size := by rw [ByteArray.size_append, show (textL []).size = 0 from rfl, Nat.add_zero]
    have hd := dec_end (a ++ textL []) a.size (by omega)
    cases f with
    | zero => exact ⟨rfl, hs.symm⟩
    | succ f => simp only [runesFrom, brkFrom]; rw [hd, if_pos rfl, if_pos rfl]; exact ⟨rfl, hs.symm⟩
  | cons r l ih =>
    intro a f hf
    have hr := hl r (by simp)
    have hp := encL_pos r
    have hz := encB_size r
    simp only [textL] at hf ⊢
    rw [ByteArray.size_append] at hf
    obtain ⟨f, rfl⟩ : ∃ g, f = g + 1 := ⟨f - 1, by omega⟩
    have hd : dec (a ++ (encB r ++ textL l)) a.size = (r, (encB r).size) := by rw [dec_app0, dec_enc hr]
    simp only [runesFrom, brkFrom]
    rw [hd, if_neg (by simp only; omega), if_neg (by simp only; omega)]
    obtain ⟨i1, i2⟩ := ih (fun x hx => hl x (by simp [hx])) (a ++ encB r) f (by omega)
    rw [ByteArray.size_append, ba_assoc] at i1 i2
    exact ⟨by rw [i1], i2⟩
theorem text_runes {l : List Nat} (hl : ∀ r ∈ l, scN r) : runes (textL l) = l ∧ brk (textL l) = (textL l).size := by
  have h := text_dec hl es (textL l).size (Nat.le_refl _)
  rw [nil_ba] at h
  exact h
/-- What stands at a place is the encoding of what is decoded there. -/
theorem dec_ext {s : ByteArray} {i : Nat} (h : ¬ (dec s i).2 = 0) : i < s.size ∧ i + (dec s i).2 ≤ s.size ∧ encB (dec s i).1 = s.extract i (i + (dec s i).2) ∧ scN (dec s i).1 := by
  by_cases hi : i < s.size
  · have hle := dec_le s i
    refine ⟨hi, by omega, ?_⟩
    rw [← firstR_dec s i hi] at h ⊢
    unfold firstR at h ⊢
    split at h
    · exact absurd rfl h
    · rename_i c1
      rw [if_neg c1]
      split at h
      · rename_i c2
        rw [if_pos c2]
        simp only [Bool.and_eq_true, eqS, decide_eq_true_eq] at c2
        refine ⟨c2.2, ?_⟩
        have c3 := c2.1
        rw [isSc_nat] at c3
        exact (show _ < 55296 ∨ (57344 ≤ _ ∧ _ ≤ 1114111) from of_decide_eq_true c3)
      · exact absurd rfl h
  · rw [dec_end s i hi] at h; exact absurd rfl h
theorem ext_ext (s : ByteArray) (i j : Nat) (hij : i ≤ j) (hj : j ≤ s.size) : s.extract i j ++ s.extract j s.size = s.extract i s.size := by
  obtain ⟨k, rfl⟩ : ∃ k, j = i + k := ⟨j - i, by omega⟩
  apply ba_ext
  rw [ba_list, ext_list, show s.size = (i + k) + (s.size - (i + k)) by omega, ext_list, show i + k + (s.size - (i + k)) = i + (s.size - i) by omega, ext_list, ← List.drop_drop,
    List.take_of_length_le (i := s.size - (i + k)) (by rw [List.length_drop, List.length_drop, ba_len]; omega), List.take_append_drop, List.take_of_length_le (by rw [List.length_drop, ba_len]; omega)]
theorem ext_all (s : ByteArray) : s.extract 0 s.size = s := by
  apply ba_ext
  have := ext_list s 0 s.size
  rw [Nat.zero_add] at this
  rw [this, List.drop_zero, List.take_of_length_le (by rw [ba_len]; omega)]
theorem ext_none (s : ByteArray) (i : Nat) : s.extract i i = es := by
  apply ba_ext
  have := ext_list s i 0
  rw [Nat.add_zero] at this
  rw [this]; simp [es]
theorem runes_text {s : ByteArray} : ∀ f i, i ≤ s.size → brkFrom s f i = s.size → textL (runesFrom s f i) = s.extract i s.size ∧ ∀ r ∈ runesFrom s f i, scN r
  | 0, i, _, h => by
    simp only [brkFrom] at h
    subst h
    exact ⟨(ext_none s _).symm, by simp [runesFrom]⟩
  | f + 1, i, hi, h => by
    simp only [brkFrom] at h
    simp only [runesFrom]
    by_cases c : (dec s i).2 = 0
    · rw [if_pos c] at h ⊢
      subst h
      exact ⟨(ext_none s _).symm, by simp⟩
    · rw [if_neg c] at h ⊢
      obtain ⟨d1, d2, d3, d4⟩ := dec_ext c
      obtain ⟨i1, i2⟩ := runes_text f _ d2 h
      refine ⟨?_, ?_⟩
      · simp only [textL]
        rw [i1, d3, ext_ext s _ _ (by omega) d2]
      · intro r hr
        rcases List.mem_cons.1 hr with rfl | hr
        · exact d4
        · exact i2 r hr
theorem text_of {s : ByteArray} (h : brk s = s.size) : textL (runes s) = s ∧ ∀ r ∈ runes s, scN r := by
  obtain ⟨h1, h2⟩ := runes_text s.size 0 (Nat.zero_le _) h
  rw [ext_all] at h1
  exact ⟨h1, h2⟩
/-- Two texts with the same scalars are the same. -/
theorem text_inj {s t : ByteArray} (hs : brk s = s.size) (ht : brk t = t.size) (h : runes s = runes t) : s = t := by
  rw [← (text_of hs).1, ← (text_of ht).1, h]
theorem brk_app {s t : ByteArray} (hs : brk s = s.size) (ht : brk t = t.size) : brk (s ++ t) = (s ++ t).size ∧ runes (s ++ t) = runes s ++ runes t := by
  obtain ⟨s1, s2⟩ := text_of hs
  obtain ⟨t1, t2⟩ := text_of ht
  have h := text_runes (l := runes s ++ runes t) (fun r hr => (List.mem_append.1 hr).elim (s2 r) (t2 r))
  rw [textL_app, s1, t1] at h
  exact ⟨h.2, h.1⟩
/-- Where scalar number k begins. -/
def posN (s : ByteArray) (k : Nat) : Nat := (textL ((runes s).take k)).size
theorem cut_at {s : ByteArray} (h : brk s = s.size) (k : Nat) : textL ((runes s).take k) ++ textL ((runes s).drop k) = s := by
  rw [← textL_app, List.take_append_drop]; exact (text_of h).1
theorem posN_le {s : ByteArray} (h : brk s = s.size) (k : Nat) : posN s k ≤ s.size := by
  have := congrArg ByteArray.size (cut_at h k)
  rw [ByteArray.size_append] at this
  unfold posN; omega
theorem posN_step {s : ByteArray} (h : brk s = s.size) {k : Nat} (hk : k < (runes s).length) :
    posN s k < s.size ∧ ∃ r, dec s (posN s k) = (r, (encB r).size) ∧ (runes s)[k]? = some r ∧ posN s (k + 1) = posN s k + (encB r).size ∧ 1 ≤ (encB r).size := by
  have hc := cut_at h k
  rw [List.drop_eq_getElem_cons hk] at hc
  have hr := (text_of h).2 (runes s)[k] (List.getElem_mem hk)
  have hp := encL_pos (runes s)[k]
  rw [← encB_size] at hp
  simp only [textL] at hc
  have hz := congrArg ByteArray.size hc
  rw [ByteArray.size_append, ByteArray.size_append] at hz
  refine ⟨by unfold posN; omega, (runes s)[k], ?_, List.getElem?_eq_getElem hk, ?_, hp⟩
  · show dec s (textL ((runes s).take k)).size = _
    have e : dec s (textL ((runes s).take k)).size = dec (textL ((runes s).take k) ++ (encB (runes s)[k] ++ textL ((runes s).drop (k + 1)))) (textL ((runes s).take k)).size := by rw [hc]
    rw [e, dec_app0, dec_enc hr]
  · unfold posN
    rw [List.take_succ_eq_append_getElem hk, textL_app, ByteArray.size_append]
    simp only [textL]
    rw [ba_nil]
theorem ext_left (a b : ByteArray) : (a ++ b).extract 0 a.size = a := by
  apply ba_ext
  have := ext_list (a ++ b) 0 a.size
  rw [Nat.zero_add] at this
  rw [this, List.drop_zero, ba_list, List.take_append_of_le_length (by rw [ba_len]; omega), List.take_of_length_le (by rw [ba_len]; omega)]
theorem ext_right (a b : ByteArray) : (a ++ b).extract a.size (a ++ b).size = b := by
  apply ba_ext
  have := ext_list (a ++ b) a.size b.size
  rw [ByteArray.size_append, this, ba_list, List.drop_append_of_le_length (by rw [ba_len]; omega), List.drop_eq_nil_of_le (by rw [ba_len]; omega), List.nil_append, List.take_of_length_le (by rw [ba_len]; omega)]
theorem cut_front {s : ByteArray} (h : brk s = s.size) (k : Nat) : s.extract 0 (posN s k) = textL ((runes s).take k) := by
  have := ext_left (textL ((runes s).take k)) (textL ((runes s).drop k))
  rw [cut_at h k] at this
  exact this
theorem cut_back {s : ByteArray} (h : brk s = s.size) (k : Nat) : s.extract (posN s k) s.size = textL ((runes s).drop k) := by
  have := ext_right (textL ((runes s).take k)) (textL ((runes s).drop k))
  rw [cut_at h k] at this
  exact this
theorem take_runes {s : ByteArray} (h : brk s = s.size) (k : Nat) : runes (textL ((runes s).take k)) = (runes s).take k ∧ brk (textL ((runes s).take k)) = (textL ((runes s).take k)).size :=
  text_runes fun r hr => (text_of h).2 r (List.mem_of_mem_take hr)
theorem drop_runes {s : ByteArray} (h : brk s = s.size) (k : Nat) : runes (textL ((runes s).drop k)) = (runes s).drop k ∧ brk (textL ((runes s).drop k)) = (textL ((runes s).drop k)).size :=
  text_runes fun r hr => (text_of h).2 r (List.mem_of_mem_drop hr)
theorem text_es {l : List Nat} (h : textL l = es) : l = [] := by
  cases l with
  | nil => rfl
  | cons r l =>
    have hp := encL_pos r
    have := congrArg ByteArray.size h
    simp only [textL] at this
    rw [ByteArray.size_append, encB_size] at this
    rw [show es.size = 0 from rfl] at this
    omega
end Ve
/- Walks over texts: scalars.at, Cut; vellumref01.Text; parts of lists. -/
namespace Ve
open Go Go.RowKit Go.Proofs

theorem ret_inn {k : IntKind} {a b : Int} (h : a = b) : Ending.returned (.tuple #[.int k a, .nilIface]) = .returned (.tuple #[.int k b, .nilIface]) := by rw [h]
theorem dec_utf8 {s : ByteArray} {i r z : Nat} (hi : i < s.size) (h : dec s i = (r, z)) (hz : 1 ≤ z) : Utf8.decode s i = (r, z) := by
  rcases dec_cases s i hi with ⟨e, _, _⟩ | ⟨e, _, _⟩
  · rw [e] at h; injection h with h1 h2; omega
  · rw [← e, h]

set_option maxHeartbeats 1000000 in
theorem sat_any {ea : Nat → Addr} (s : ByteArray) (n : Nat) (w : World) (hE : Env ea w) (hs : szS s) (hv : brk s = s.size) (hn : n ≤ (runes s).length) :
    Calls Tryz.prog 195 #[.string s, .int .i64 n] w fun e w' => e = .returned (.tuple #[.int .i64 (posN s n), .nilIface]) ∧ Gr w w' := by
  have HV := Lib.hid (show validS s = true by simp [validS, hv])
  have HB := Lib.hid hv; clear hv
  have hs40 := hs.le40
  have hrl := runes_le s
  go_enter Tryz.func195, Tryz.ntmps195
  go_wp2_with (go_at_call 197; refine (valid_any _ _ (hE.gr (by repeat (with_reducible first | assumption | exact Gr.refl _ | apply Gr.alloc | apply Gr.drewN | apply Gr.drew | apply Gr.iter | (refine Gr.setCell ?_ (by simp) _) | (refine Gr.trans ?_ (by assumption))))) hs.le).mono ?_; rw [valid_brk, HV.out]; rintro e w1 ⟨rfl, hg1⟩)
  go_loopw [1] (fun x wr => ∃ k : Nat, k ≤ n ∧ x = .int .i64 ((n : Int) - k) ∧ wr = w1.iter s (posN s k)) (fun x _ => (intOf x).toNat)
  case atStart => exact ⟨0, Nat.zero_le _, by simp, rfl⟩
  case round =>
    obtain ⟨k, hk, rfl, rfl⟩ := hrel
    have hp := posN_le HB.out k
    by_cases hlt : k < n
    · obtain ⟨p1, r, p2, p3, p4, p5⟩ := posN_step HB.out (k := k) (by omega)
      have hd := dec_utf8 p1 p2 p5
      obtain ⟨p, hpp⟩ : ∃ p, posN s k = p := ⟨_, rfl⟩
      rw [hpp] at p1 p2 p4 hp hd ⊢
      obtain ⟨z, hz⟩ : ∃ z, (encB r).size = z := ⟨_, rfl⟩
      rw [hz] at p4 p5 hd
      have hnx : ∀ ty, (Instr.next (.pointer (some ⟨w1.heap.size, 0, none⟩)) true ty).run Tryz.prog (w1.iter s p) = .ok (.tuple #[.bool true, .int .i64 p, .int .i32 r]) (w1.iter s (p + z)) := fun ty => by rw [run_next_any w1 s p ty p1, hd]
      have H := Lib.hid p4; clear p2 p3 p4 hd hpp hz
      have hne : ((n : Int) - k == 0) = false := by simp; omega
      go_wp2
      go_roundw
      case rel => exact ⟨k + 1, by omega, by go_num, by rw [H.out]⟩
      case measure => simp [intOf]; omega
    · obtain rfl : k = n := by omega
      obtain ⟨p, hpp⟩ : ∃ p, posN s k = p := ⟨_, rfl⟩
      rw [hpp] at hp ⊢
      have e0 : (k : Int) - k = 0 := by omega
      rw [e0]
      by_cases hend : p < s.size
      · have hnx : ∀ ty, (Instr.next (.pointer (some ⟨w1.heap.size, 0, none⟩)) true ty).run Tryz.prog (w1.iter s p) = _ := fun ty => run_next_any w1 s p ty hend
        go_wp2
        go_ret2
        exact ⟨ret_inn (by rw [hpp]), hg1.trans ((Gr.refl w1).iter _ _)⟩
      · obtain rfl : p = s.size := by omega
        have hnx : ∀ ty, (Instr.next (.pointer (some ⟨w1.heap.size, 0, none⟩)) true ty).run Tryz.prog (w1.iter s s.size) = _ := fun ty => run_next_end w1 s s.size ty hend
        go_wp2
        go_ret2
        exact ⟨ret_inn (by rw [hpp]), hg1.trans ((Gr.refl w1).iter _ _)⟩


set_option maxHeartbeats 1000000 in
theorem scut_any {ea : Nat → Addr} (s : ByteArray) (n : Nat) (w : World) (hE : Env ea w) (hs : szS s) (hv : brk s = s.size) (hn : n ≤ (runes s).length) :
    Calls Tryz.prog 179 #[.string s, .int .i64 n] w fun e w' => e = .returned (.tuple #[.string (textL ((runes s).take n)), .string (textL ((runes s).drop n)), .nilIface]) ∧ Gr w w' := by
  have hp := posN_le hv n
  have h1 := cut_front hv n
  have h2 := cut_back hv n
  have HV := Lib.hid hv; clear hv
  have hs40 := hs.le40
  obtain ⟨p, hpp⟩ : ∃ p, posN s n = p := ⟨_, rfl⟩
  rw [hpp] at hp h1 h2
  rw [← h1, ← h2]
  have H := Lib.hid hpp; clear hpp h1 h2
  have hp' : (p : Int) ≤ s.size := by omega
  go_enter Tryz.func179, Tryz.ntmps179
  go_wp2_with (go_at_call 195; refine (sat_any _ n _ (hE.gr (by repeat (with_reducible first | assumption | exact Gr.refl _ | apply Gr.alloc | apply Gr.drewN | apply Gr.drew | apply Gr.iter | (refine Gr.setCell ?_ (by simp) _) | (refine Gr.trans ?_ (by assumption))))) hs HV.out hn).mono ?_; rw [H.out]; rintro e w1 ⟨rfl, hg1⟩)
  go_quiet (fail)
  go_wp2
  go_ret3
  exact ⟨rfl, (by repeat (with_reducible first | assumption | exact Gr.refl _ | apply Gr.alloc | apply Gr.drewN | apply Gr.drew | apply Gr.iter | (refine Gr.setCell ?_ (by simp) _) | (refine Gr.trans ?_ (by assumption))))⟩

/-! Parts of lists. -/
theorem RowsR.take {α : Type} {R : World → α → List Value → Prop} {k : Nat} {w : World} {l : List α} {xs : List Value} (h : RowsR R k w l xs) : ∀ i, RowsR R k w (l.take i) (xs.take (i * k)) := by
  induction l generalizing xs with
  | nil => intro i; unfold RowsR at h; subst h; simp [RowsR]
  | cons x l ih =>
    intro i
    cases i with
    | zero => simp [RowsR]
    | succ i =>
      obtain ⟨cs, rest, rfl, hk, hx, hr⟩ := h
      have e : (cs ++ rest).take ((i + 1) * k) = cs ++ rest.take (i * k) := by
        rw [Nat.succ_mul, List.take_append, List.take_of_length_le (by omega)]
        congr 2; omega
      rw [List.take_succ_cons, e]
      exact ⟨cs, rest.take (i * k), rfl, hk, hx, ih hr i⟩
section
variable {α : Type} {R : World → α → List Value → Prop} {k : Nat} {w : World} {l : List α}
theorem RdList.take {a : Option Addr} {n cap : Nat} (h : RdList R k w (.slice a n cap) l) (m : Nat) (hm : m ≤ n) : RdList R k w (.slice a m cap) (l.take m) := by
  obtain ⟨a', cap', xs, hv, hc, hmx, hb, hr, hx⟩ := h
  injection hv with e1 e2 e3
  subst e1 e2 e3
  have hl : (l.take m).length = m := by rw [List.length_take]; omega
  refine ⟨a, cap, xs.take (m * k), by rw [hl], by omega, hmx, by omega, hr.take m, ?_⟩
  rw [hl]
  intro h0
  obtain ⟨b, off, e, hc⟩ := hx (by omega)
  exact ⟨b, off, e, fun j u hu => hc j u (by rw [List.getElem?_take] at hu; split at hu <;> simp_all)⟩
theorem RdList.drop {b off n cap : Nat} (h : RdList R k w (.slice (some ⟨b, off, none⟩) n cap) l) (m : Nat) (hm : m ≤ n) : RdList R k w (.slice (some ⟨b, off + m * k, none⟩) (n - m) (cap - m)) (l.drop m) := by
  obtain ⟨a', cap', xs, hv, hc, hmx, hb, hr, hx⟩ := h
  injection hv with e1 e2 e3
  subst e1 e2 e3
  have hl : (l.drop m).length = l.length - m := by rw [List.length_drop]
  refine ⟨some ⟨b, off + m * k, none⟩, cap - m, xs.drop (m * k), by rw [hl], by omega, by omega, by omega, hr.drop m, ?_⟩
  rw [hl]
  intro h0
  obtain ⟨b', off', e, hc⟩ := hx (by omega)
  injection e with e; injection e with e1 e2 e3; subst e1; subst e2
  refine ⟨b, off + m * k, rfl, fun j u hu => ?_⟩
  rw [List.getElem?_drop] at hu
  rw [Nat.add_assoc]
  exact hc _ u hu
end
/-! Bytes gathered. -/
theorem info_u8 : (Tryz.prog.info? 5).map (fun i => (i.zero, i.size, i.bytes)) = some (some (.int .u8 0), 1, 1) := by kernel_rfl
/-- The row v of the call's own holds the bytes of t. -/
def OwnB (base : Nat) (w : World) (v : Value) (t : ByteArray) : Prop := w.ownsRow base 5 1 v t.size (Lib.strCells t)
theorem OwnB.made (w : World) : OwnB w.heap.size (w.alloc (.cells #[] 5)) (.slice (some ⟨w.heap.size, 0, none⟩) 0 0) es :=
  ⟨rfl, .inr ⟨w.heap.size, 0, #[], rfl, Nat.le_refl _, heap_alloc_new w _, Nat.le_refl _, by simp [maxLen], rfl, rfl⟩⟩
theorem OwnB.gr {base : Nat} {w w' : World} {v : Value} {t : ByteArray} (h : OwnB base w v t) (hg : Gr w w') : OwnB base w' v t := World.ownsRow.kept h (hg.grownBy none) (by cases v.ownBlock <;> simp)
theorem strCells_app (a b : ByteArray) : Lib.strCells (a ++ b) = Lib.strCells a ++ Lib.strCells b := by
  unfold Lib.strCells
  rw [ba_list, List.map_append]
theorem OwnB.app {base : Nat} {w : World} (ty : TypeId) {v : Value} {t : ByteArray} (h : OwnB base w v t) (hb : base ≤ w.heap.size) (s : ByteArray) (hz : t.size + s.size ≤ 1099511627776) :
    ∃ v' w', (Builtin.append_ #[211, 9] ty #[v, .string s]).run Tryz.prog w = .ok v' w' ∧ OwnB base w' v' (t ++ s) ∧ w.grownBy w' v.ownBlock := by
  obtain ⟨i, hi, h1, h2, h3⟩ := info_of info_u8
  obtain ⟨v', w', r1, r2, r3, -⟩ := Lib.run_append_own_string (P := Tryz.prog) w base 211 9 ty 5 i Tryz.underlying211 Tryz.underlying9 hi h1 h2 h3 v t.size (Lib.strCells t) h s (by unfold maxLen; omega) (by omega) hb
  exact ⟨v', w', r1, by unfold OwnB; rw [ByteArray.size_append, strCells_app]; exact r2, r3⟩
theorem wpList_run2 {P : Program} {w w' : World} {ops : Array Oper} {rest : List Oper} {o : Oper} {a : Act} {Q : Exit → Act → World → Prop} (hgd : o.guard = none) (s x : Operand) (t u : TypeId)
    (ho : o.op = .call { callee := .builtin .append, args := #[s, x], argTypes := #[t, u] }) {v vx v' : Value} (hs : a.eval s = v) (hx : a.eval x = vx)
    (hrun : (Builtin.append_ #[t, u] o.type #[v, vx]).run P w = .ok v' w') (h : wpList P ops Q rest (a.put o.dst v') w') : wpList P ops Q (o :: rest) a w :=
  wpList_plain hgd fun K hK => by
    unfold Oper.wp execOp
    simp only [ho, resolve, invoke, builtin, Sem.run_bind, Sem.run_pure, Result.andThen_ok, List.map_toArray, List.map_cons, List.map_nil, hs, hx, hrun]
    exact hK _ _ h
theorem OwnB.conv {base : Nat} {w : World} {v : Value} {t : ByteArray} (h : OwnB base w v t) : (convert 211 9 v).run Tryz.prog w = .ok (.string t) w := by
  have h0 := h
  obtain ⟨h1, h2⟩ := h
  rcases h2 with ⟨rfl, hz⟩ | ⟨g, cap, cur, rfl, hb, hh, hc, hm, hsz, hcur⟩
  · have e : t = ByteArray.empty := ba_ext (List.eq_nil_of_length_eq_zero (by rw [ba_len]; exact hz))
    rw [e]
    exact run_convert_bytes_nil w 211 5 Tryz.underlying211 Tryz.underlying5 0 0 9 Tryz.underlying9
  · have e : t = strOfNums (t.data.toList.map fun b => (b.toNat : Int)) := by
      apply ba_ext
      rw [strOfNums_data, List.map_map]
      conv => lhs; rw [← List.map_id t.data.toList]
      exact List.map_congr_left fun b _ => by simp
    conv => rhs; rw [e]
    refine run_convert_bytes_arg w 211 5 Tryz.underlying211 Tryz.underlying5 g 0 t.size cap _ (by rw [List.length_map, ba_len]) (fun i hi => ?_) 9 Tryz.underlying9
    have hi' : i < t.data.toList.length := by rw [ba_len]; exact hi
    have hcell : (Lib.strCells t)[i]? = some (.int .u8 (t.data.toList[i].toNat : Int)) := by
      unfold Lib.strCells
      rw [List.getElem?_map, List.getElem?_eq_getElem hi']; rfl
    rw [← hcur, List.getElem?_take, if_pos (by omega)] at hcell
    rw [Nat.zero_add, List.getD, List.getElem?_map, List.getElem?_eq_getElem hi']
    simp only [World.cell?, hh, Option.map_some, Option.getD_some]
    simpa using hcell

set_option maxHeartbeats 1000000 in
theorem rtext01_any (l : List Nat) (v : Value) (w : World) (hl : RdList RuneR 1 w v l) (hsc : ∀ r ∈ l, scN r) (hz : szS (textL l)) :
    Calls Tryz.prog 151 #[v] w fun e w' => e = .returned (.string (textL l)) ∧ Gr w w' := by
  obtain ⟨a, n, cap, rfl, hcap, hm, hb, hn⟩ := hl.sl
  have hz40 := hz.le40
  have HZ := Lib.hid hz40; clear hz40
  go_enter Tryz.func151, Tryz.ntmps151
  go_wp2
  go_loopw [3, 9] (fun o i wr => ∃ k : Nat, k ≤ n ∧ i = .int .i64 k ∧ Gr w wr ∧ OwnB w.heap.size wr o (textL (l.take k))) (fun _ i _ => n - (intOf i).toNat)
  case atStart => exact ⟨0, Nat.zero_le _, rfl, (by repeat (with_reducible first | assumption | exact Gr.refl _ | apply Gr.alloc | apply Gr.drewN | apply Gr.drew | apply Gr.iter | (refine Gr.setCell ?_ (by simp) _) | (refine Gr.trans ?_ (by assumption)))), OwnB.made w⟩
  case round =>
    obtain ⟨k, hk, rfl, hg, ho⟩ := hrel
    by_cases hlt : k < n
    · obtain ⟨b, off, r, cs, rfl, hx, hR, -, hc⟩ := (RdList.gr (w := w) (w' := wr) hl (fun _ _ h => h) hg).get k hlt
      have hR' : cs = [.int .i32 r] := hR
      subst hR'
      have c0 := hc 0 _ (by omega) rfl
      simp only [Nat.mul_one, Nat.add_zero] at c0
      have hr := hsc r (List.mem_of_getElem? hx)
      have hr' : r ≤ 1114111 := by unfold scN at hr; omega
      have hlt' : (k : Int) < n := by omega
      have hkl : k < l.length := (List.getElem?_eq_some_iff.1 hx).1
      have hstep : textL (l.take (k + 1)) = textL (l.take k) ++ encB r := by
        have e := (List.getElem?_eq_some_iff.1 hx).2
        rw [List.take_succ_eq_append_getElem hkl, e, textL_app]
        simp only [textL]
        rw [ba_nil]
      have hle : (textL (l.take (k + 1))).size ≤ 1099511627776 := by
        have e : textL l = textL (l.take (k + 1)) ++ textL (l.drop (k + 1)) := by rw [← textL_app, List.take_append_drop]
        have := congrArg ByteArray.size e
        rw [ByteArray.size_append] at this
        have := HZ.out
        omega
      rw [hstep, ByteArray.size_append] at hle
      obtain ⟨oa, oc, rfl, -, -⟩ := own_shape ho
      have HS := Lib.hid hstep; clear hstep hx
      go_wp2_with (first
        | (go_at_call 173; refine (rencode_any r hr' _).mono ?_; rintro e w2 ⟨rfl, hg2⟩; obtain ⟨v', w'', hrun, hown, hgb⟩ := OwnB.app (w := w2) 211 (OwnB.gr (w := wr) ho (by repeat (with_reducible first | assumption | exact Gr.refl _ | apply Gr.alloc | apply Gr.drewN | apply Gr.drew | apply Gr.iter | (refine Gr.setCell ?_ (by simp) _) | (refine Gr.trans ?_ (by assumption))))) (Nat.le_trans hg.size (Gr.size (w := wr) (by repeat (with_reducible first | assumption | exact Gr.refl _ | apply Gr.alloc | apply Gr.drewN | apply Gr.drew | apply Gr.iter | (refine Gr.setCell ?_ (by simp) _) | (refine Gr.trans ?_ (by assumption)))))) (encB r) hle; have HP := Lib.hid (And.intro hrun (And.intro hown hgb)); clear hrun hown hgb)
        | (at_builtin; refine wpList_run2 rfl _ _ _ _ rfl rfl rfl HP.out.1 ?_))
      go_roundw
      case rel =>
        obtain ⟨-, h2, h3⟩ := HP.out
        refine ⟨k + 1, by omega, by go_num, (show Gr w w2 from (by repeat (with_reducible first | assumption | exact Gr.refl _ | apply Gr.alloc | apply Gr.drewN | apply Gr.drew | apply Gr.iter | (refine Gr.setCell ?_ (by simp) _) | (refine Gr.trans ?_ (by assumption))))).grown h3 (own_fr ho), ?_⟩
        rw [HS.out]; exact h2
      case measure => simp [intOf]; omega
    · obtain rfl : k = n := by omega
      have hl0 : l.take k = l := List.take_of_length_le (by rw [hn.out]; exact Nat.le_refl _)
      rw [hl0] at ho
      have hcv := ho.conv
      obtain ⟨oa, oc, rfl, -, -⟩ := own_shape ho
      go_wp2
      go_ret
      exact ⟨rfl, (by repeat (with_reducible first | assumption | exact Gr.refl _ | apply Gr.alloc | apply Gr.drewN | apply Gr.drew | apply Gr.iter | (refine Gr.setCell ?_ (by simp) _) | (refine Gr.trans ?_ (by assumption))))⟩

end Ve
