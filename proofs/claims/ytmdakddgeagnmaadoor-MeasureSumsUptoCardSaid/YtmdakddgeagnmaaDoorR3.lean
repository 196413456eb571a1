/- Walks of the reference of layer 1: decode, Breaks, Utf8, List. -/
import Derived.Test.YtmdakddgeagnmaaDoorS2
import Derived.Test.YtmdakddgeagnmaaDoorU
set_option linter.all false
namespace Ve
open Go Go.RowKit Go.Proofs

theorem ret_vi {k : IntKind} {a b : Value} {c d : Int} (h : a = b) (h' : c = d) : Ending.returned (.tuple #[a, .int k c]) = .returned (.tuple #[b, .int k d]) := by rw [h, h']
/-- A scalar's cell. -/
def RuneR (_ : World) (x : Nat) (cs : List Value) : Prop := cs = [.int .i32 x]
theorem RuneR.flat (w : World) (x : Nat) (cs : List Value) (h : RuneR w x cs) : ∀ u ∈ cs, u.oneCell' = true := by
  subst h; simp [Value.oneCell']
abbrev OwnRunes (base : Nat) (w : World) (v : Value) (l : List Nat) : Prop := OwnL RuneR 1 base 21 w v l
theorem OwnRunes.gr {base : Nat} {w w' : World} {v : Value} {l : List Nat} (h : OwnRunes base w v l) (hg : Gr w w') : OwnRunes base w' v l := OwnL.gr (w := w) h (fun _ _ h => h) hg
theorem info_rune : (Tryd.prog.info? 21).map (fun i => (i.zero, i.size, i.bytes)) = some (some (.int .i32 0), 1, 4) := by kernel_rfl
theorem wp_push_rune {w : World} {base : Nat} {ops : Array Oper} {rest : List Oper} {o : Oper} {act : Act} {Q : Exit → Act → World → Prop} (hgd : o.guard = none) (s x : Operand)
    (ho : o.op = .call { callee := .builtin .append, args := #[s, x], argTypes := #[97, 97] }) {v : Value} {l : List Nat} (r : Nat) (hs : act.eval s = v) {i : Nat} (hx : act.eval x = .slice (some ⟨i, 0, none⟩) 1 1)
    (hown : OwnRunes base w v l) (hm : l.length + 1 ≤ 1099511627776) (hb : base ≤ w.heap.size) (hi : i = w.heap.size)
    (h : ∀ v' w', OwnRunes base w' v' (l ++ [r]) → Kg base (· == 21) w w' → wpList Tryd.prog ops Q rest (act.put o.dst v') w') : wpList Tryd.prog ops Q (o :: rest) act (w.alloc (.cells #[.int .i32 r] 21)) := by
  subst hi
  obtain ⟨v', w', h1, h2, h3, h4, h5, h6⟩ := run_push (P := Tryd.prog) (R := RuneR) w base 97 o.type 21 _ 1 4 Tryd.underlying97 info_rune rfl (by omega) (by omega) RuneR.flat (fun _ _ _ _ _ h => h) hown (x := r) (cs := [.int .i32 r]) rfl rfl hm hb
  obtain ⟨xs, hO, hr⟩ := hown
  exact wpList_run hgd s x _ ho hs hx h1 (h v' w' h2 (Kg.of_own_alloc hO (by decide) h3))
theorem decSum_step {s : ByteArray} {f k : Nat} {acc : List Nat} (h0 : ¬ (dec s k).2 = 0) (hb : brkFrom s (f + 1) k = brk s) (hr : acc ++ runesFrom s (f + 1) k = runes s) :
    brkFrom s f (k + (dec s k).2) = brk s ∧ (acc ++ [(dec s k).1]) ++ runesFrom s f (k + (dec s k).2) = runes s := by
  simp only [brkFrom, if_neg h0] at hb
  simp only [runesFrom, if_neg h0] at hr
  exact ⟨hb, by rw [List.append_assoc]; exact hr⟩
theorem decSum_stop {s : ByteArray} {f k : Nat} {acc : List Nat} (h0 : (dec s k).2 = 0) (hb : brkFrom s f k = brk s) (hr : acc ++ runesFrom s f k = runes s) :
    brk s = k ∧ acc = runes s := by
  cases f with
  | zero => exact ⟨hb.symm, by simpa [runesFrom] using hr⟩
  | succ f =>
    simp only [brkFrom, if_pos h0] at hb
    simp only [runesFrom, if_pos h0] at hr
    exact ⟨hb.symm, by simpa using hr⟩
set_option maxHeartbeats 1000000 in
theorem rdecode_any (s : ByteArray) (w : World) (hs : szS s) :
    Calls Tryd.prog 66 #[.string s] w fun e w' => ∃ v', e = .returned (.tuple #[v', .int .i64 (brk s)]) ∧ OwnRunes w.heap.size w' v' (runes s) ∧ Gr w w' := by
  have hs' := hs.le40
  have hm0 := OwnL.made w RuneR 1 w.heap.size 21 (Nat.le_refl _)
  go_enter Tryd.func66, Tryd.ntmps66
  go_wp2
  go_loopw [4, 5] (fun o i wr => ∃ (k f : Nat) (acc : List Nat), k ≤ s.size ∧ i = .int .i64 k ∧ Gr w wr ∧ brkFrom s f k = brk s ∧ s.size ≤ k + f ∧ acc.length ≤ k ∧ acc ++ runesFrom s f k = runes s ∧ OwnRunes w.heap.size wr o acc) (fun _ i _ => s.size - (intOf i).toNat)
  case atStart => exact ⟨0, s.size, [], Nat.zero_le _, rfl, (by repeat (with_reducible first | assumption | exact Gr.refl _ | apply Gr.alloc | apply Gr.drewN | apply Gr.drew | apply Gr.iter | (refine Gr.setCell ?_ (by simp) _) | (refine Gr.trans ?_ (by assumption)))), rfl, by omega, by simp, rfl, hm0⟩
  case round =>
    clear hm0
    obtain ⟨k, f, acc, hk, rfl, hg, hb, hf, hla, hr, ho⟩ := hrel
    obtain ⟨oa, om, oc, rfl, -, -, hom⟩ := ho.sl
    have HB := Lib.hid hb; clear hb
    have HR := Lib.hid hr; clear hr
    by_cases hlt : k < s.size
    · have hlt' : (k : Int) < s.size := by omega
      have hle := dec_le s k
      have hfd := firstR_dec s k hlt
      have HF := Lib.hid hfd; clear hfd
      by_cases h0 : (dec s k).2 = 0
      · have h0' : (((dec s k).2 : Nat) : Int) = 0 := by omega
        go_wp2_with (go_at_call 72; refine (rfirst_any s k hlt hs _).mono ?_; rw [HF.out]; rintro e w' ⟨rfl, hg'⟩)
        go_ret2
        have hst := decSum_stop h0 HB.out HR.out
        exact ⟨_, ret_vi rfl (by rw [hst.1]), by rw [← hst.2]; exact OwnRunes.gr (w := wr) ho (by repeat (with_reducible first | assumption | exact Gr.refl _ | apply Gr.alloc | apply Gr.drewN | apply Gr.drew | apply Gr.iter | (refine Gr.setCell ?_ (by simp) _) | (refine Gr.trans ?_ (by assumption)))), (by repeat (with_reducible first | assumption | exact Gr.refl _ | apply Gr.alloc | apply Gr.drewN | apply Gr.drew | apply Gr.iter | (refine Gr.setCell ?_ (by simp) _) | (refine Gr.trans ?_ (by assumption))))⟩
      · have h0' : ((((dec s k).2 : Nat) : Int) == 0) = false := by simp; omega
        obtain ⟨f, rfl⟩ : ∃ m, f = m + 1 := ⟨f - 1, by omega⟩
        go_wp2_with (first
          | (go_at_call 72; refine (rfirst_any s k hlt hs _).mono ?_; rw [HF.out]; rintro e w' ⟨rfl, hg'⟩)
          | (at_builtin; refine wp_push_rune (base := w.heap.size) rfl (.tmp 23) (.tmp 25) rfl (dec s k).1 rfl rfl (OwnRunes.gr (w := wr) ho ?g1) ?hm (Nat.le_trans hg.size (Gr.size (w := wr) ?g1)) ?hi ?_; (case g1 => exact (by repeat (with_reducible first | assumption | exact Gr.refl _ | apply Gr.alloc | apply Gr.drewN | apply Gr.drew | apply Gr.iter | (refine Gr.setCell ?_ (by simp) _) | (refine Gr.trans ?_ (by assumption))))); (case hm => omega); (case hi => simp); intro v' w2 hown hk2; obtain ⟨na, nn, nc, rfl, -⟩ := hown.sl))
        go_roundw
        case rel =>
          have hst := decSum_step h0 HB.out HR.out
          exact ⟨k + (dec s k).2, f, _, by omega, by go_num, Gr.kg (w := w') (by repeat (with_reducible first | assumption | exact Gr.refl _ | apply Gr.alloc | apply Gr.drewN | apply Gr.drew | apply Gr.iter | (refine Gr.setCell ?_ (by simp) _) | (refine Gr.trans ?_ (by assumption)))) hk2 (Nat.le_refl _), hst.1, by omega, by simp; omega, hst.2, hown⟩
        case measure => simp [intOf]; omega
    · obtain rfl : k = s.size := by omega
      go_wp2
      go_ret2
      have hst := decSum_stop (by rw [dec_end s s.size (by omega)]) HB.out HR.out
      exact ⟨_, ret_vi rfl (by rw [hst.1]), by rw [← hst.2]; exact OwnRunes.gr (w := wr) ho (by repeat (with_reducible first | assumption | exact Gr.refl _ | apply Gr.alloc | apply Gr.drewN | apply Gr.drew | apply Gr.iter | (refine Gr.setCell ?_ (by simp) _) | (refine Gr.trans ?_ (by assumption)))), (by repeat (with_reducible first | assumption | exact Gr.refl _ | apply Gr.alloc | apply Gr.drewN | apply Gr.drew | apply Gr.iter | (refine Gr.setCell ?_ (by simp) _) | (refine Gr.trans ?_ (by assumption))))⟩
set_option maxHeartbeats 400000 in
theorem rbreaks_any (s : ByteArray) (w : World) (hs : szS s) :
    Calls Tryd.prog 89 #[.string s] w fun e w' => e = .returned (.int .i64 (brk s)) ∧ Gr w w' := by
  go_enter Tryd.func89, Tryd.ntmps89
  go_wp2_with (go_at_call 66; refine (rdecode_any s _ hs).mono ?_; rintro e w' ⟨v', rfl, ho, hg⟩; obtain ⟨oa, om, oc, rfl, -, -, hom⟩ := ho.sl)
  go_ret
  exact ⟨rfl, (by repeat (with_reducible first | assumption | exact Gr.refl _ | apply Gr.alloc | apply Gr.drewN | apply Gr.drew | apply Gr.iter | (refine Gr.setCell ?_ (by simp) _) | (refine Gr.trans ?_ (by assumption))))⟩
set_option maxHeartbeats 400000 in
theorem rlist_any (s : ByteArray) (w : World) (hs : szS s) :
    Calls Tryd.prog 56 #[.string s] w fun e w' => ∃ v', e = .returned v' ∧ OwnRunes w.heap.size w' v' (runes s) ∧ Gr w w' := by
  go_enter Tryd.func56, Tryd.ntmps56
  go_wp2_with (go_at_call 66; refine (rdecode_any s _ hs).mono ?_; rintro e w' ⟨v', rfl, ho, hg⟩; obtain ⟨oa, om, oc, rfl, -, -, hom⟩ := ho.sl)
  go_ret
  exact ⟨_, rfl, ho, (by repeat (with_reducible first | assumption | exact Gr.refl _ | apply Gr.alloc | apply Gr.drewN | apply Gr.drew | apply Gr.iter | (refine Gr.setCell ?_ (by simp) _) | (refine Gr.trans ?_ (by assumption))))⟩
set_option maxHeartbeats 400000 in
theorem rutf8_any (s : ByteArray) (w : World) (hs : szS s) :
    Calls Tryd.prog 78 #[.string s] w fun e w' => e = .returned (.bool (validS s)) ∧ Gr w w' := by
  have hs' := hs.le40
  go_enter Tryd.func78, Tryd.ntmps78
  go_wp2_with (go_at_call 89; refine (rbreaks_any s _ hs).mono ?_; rintro e w' ⟨rfl, hg⟩)
  go_ret
  refine ⟨ret_bool ?_, (by repeat (with_reducible first | assumption | exact Gr.refl _ | apply Gr.alloc | apply Gr.drewN | apply Gr.drew | apply Gr.iter | (refine Gr.setCell ?_ (by simp) _) | (refine Gr.trans ?_ (by assumption))))⟩
  rw [Bool.eq_iff_iff]; simp [validS]; omega
set_option maxHeartbeats 400000 in
theorem rtext_any (s : ByteArray) (w : World) (hs : szS s) :
    Calls Tryd.prog 90 #[.string s] w fun e w' => e = .returned (.int .i64 (if brk s = s.size then (if 1048576 < s.size then 10 else 0) else 1)) ∧ Gr w w' := by
  have hs' := hs.le40
  obtain ⟨b, hb⟩ : ∃ b, validS s = b := ⟨_, rfl⟩
  have HB := Lib.hid hb; clear hb
  go_enter Tryd.func90, Tryd.ntmps90
  go_wp2_with (go_at_call 78; refine (rutf8_any s _ hs).mono ?_; rw [HB.out]; rintro e w' ⟨rfl, hg⟩)
  all_goals go_ret
  all_goals refine ⟨ret_int ?_, (by repeat (with_reducible first | assumption | exact Gr.refl _ | apply Gr.alloc | apply Gr.drewN | apply Gr.drew | apply Gr.iter | (refine Gr.setCell ?_ (by simp) _) | (refine Gr.trans ?_ (by assumption))))⟩
  all_goals have hb := HB.out
  all_goals unfold validS at hb
  all_goals simp_all
  all_goals omega
end Ve
