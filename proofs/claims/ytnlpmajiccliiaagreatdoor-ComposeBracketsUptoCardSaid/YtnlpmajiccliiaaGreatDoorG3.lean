/- Walks of layer 1, the program's side: scalars.next, Check, Len. -/
import Derived.Test.YtnlpmajiccliiaaGreatDoorK1
import Derived.Test.YtnlpmajiccliiaaGreatDoorSpec
import Derived.Lib.RuneCountTail
import Derived.Lib.QuoteLoop
set_option linter.all false
namespace Ve
open Go Go.RowKit Go.Proofs

set_option maxHeartbeats 400000 in
theorem next_any {ea : Nat → Addr} (s : ByteArray) (k : Nat) (w : World) (hE : Env ea w) (hk : k < s.size) :
    Calls Tryz.prog 204 #[.string (s.extract k s.size)] w fun e w' => e = .returned (.tuple #[.int .i32 (dec s k).1, .int .i64 (dec s k).2]) ∧ Gr w w' := by
  obtain ⟨p, hp⟩ : ∃ p, Lib.decodeGo (s.extract k s.size) = p := ⟨_, rfl⟩
  have hd : dec s k = if p.1 = 65533 ∧ p.2 < 2 then (0, 0) else p := by
    rw [← hp]; unfold Lib.decodeGo dec
    have hz : ¬ (s.extract k s.size).size = 0 := by rw [Lib.ext_size]; omega
    rw [if_pos hk, if_neg hz, Lib.tail_decode]; rfl
  have H := Lib.hid hd; clear hd
  have HP := Lib.hid hp; clear hp
  go_enter Tryz.func204, Tryz.ntmps204
  go_wp2_with (go_at_call 205; refine (decode_any _ _ hE).mono ?_; rw [HP.out]; rintro e w' ⟨rfl, hg⟩)
  all_goals
    go_ret2
    refine ⟨?_, by assumption⟩
    by_cases h1 : p.1 = 65533 ∧ p.2 < 2
    · rw [H.out, if_pos h1]; refine ret_ii ?_ ?_ <;> simp <;> omega
    · rw [H.out, if_neg h1]; refine ret_ii ?_ ?_ <;> omega
set_option maxHeartbeats 400000 in
theorem scheck_any {ea : Nat → Addr} (s : ByteArray) (w : World) (hE : Env ea w) (hs : s.size ≤ 9223372036854775807) :
    Calls Tryz.prog 199 #[.string s] w fun e w' => e = .returned (.tuple #[.int .i64 (brk s), errOf ea (utf8Err s)]) ∧ Gr w w' := by
  go_enter Tryz.func199, Tryz.ntmps199
  go_wp2
  go_loopw [4] (fun i wr => ∃ k f : Nat, k ≤ s.size ∧ i = .int .i64 k ∧ Gr w wr ∧ brkFrom s f k = brk s ∧ s.size ≤ k + f) (fun i _ => s.size - (intOf i).toNat)
  case atStart => exact ⟨0, s.size, Nat.zero_le _, rfl, Gr.refl _, rfl, by omega⟩
  case round =>
    obtain ⟨k, f, hk, rfl, hg, hb, hf⟩ := hrel
    have Hb := Lib.hid hb; clear hb
    by_cases hlt : k < s.size
    · have hlt' : (k : Int) < s.size := by omega
      have hle := dec_le s k
      have he := (hE.gr hg).e1
      obtain ⟨f, rfl⟩ : ∃ m, f = m + 1 := ⟨f - 1, by omega⟩
      by_cases h0 : (dec s k).2 = 0
      · have h0' : (((dec s k).2 : Nat) : Int) = 0 := by omega
        go_wp2_with (go_at_call 204; refine (next_any _ _ _ (hE.gr hg) hlt).mono ?_; rintro e w' ⟨rfl, hg'⟩; have he' := hg'.cell he)
        go_quiet (fail)
        go_wp2
        go_ret2
        have hbk : brk s = k := by rw [← Hb.out, brkFrom, if_pos h0]
        refine ⟨ret_ie (by rw [hbk]) ?_, (hg.trans hg').drewN _⟩
        unfold utf8Err; rw [if_neg (by omega)]
      · have h0' : ((((dec s k).2 : Nat) : Int) == 0) = false := by simp; omega
        go_wp2_with (go_at_call 204; refine (next_any _ _ _ (hE.gr hg) hlt).mono ?_; rintro e w' ⟨rfl, hg'⟩; have he' := hg'.cell he)
        go_roundw
        case rel => exact ⟨k + (dec s k).2, f, by omega, by go_num, hg.trans hg', by rw [← Hb.out, brkFrom, if_neg h0], by omega⟩
        case measure => simp [intOf]; omega
    · obtain rfl : k = s.size := by omega
      go_wp2
      go_ret2
      have hbk : brk s = s.size := by
        rw [← Hb.out]
        cases f with
        | zero => rfl
        | succ f => rw [brkFrom, if_pos (by have := dec_le s s.size; omega)]
      refine ⟨ret_in (by rw [hbk]) ?_, hg⟩
      unfold utf8Err; rw [if_pos hbk]
set_option maxHeartbeats 400000 in
theorem slen_any {ea : Nat → Addr} (s : ByteArray) (w : World) (hE : Env ea w) (hs : s.size < 9223372036854775807) :
    Calls Tryz.prog 192 #[.string s] w fun e w' => e = .returned (.tuple #[.int .i64 (lenS s), errOf ea (utf8Err s)]) ∧ Gr w w' := by
  have he := hE.e1
  go_enter Tryz.func192, Tryz.ntmps192
  cases hv : validS s with
  | true =>
    have Hv := Lib.hid hv; clear hv
    go_wp2_with (first
      | (go_at_call 197; refine (valid_any _ _ hE (by omega)).mono ?_; rw [valid_brk, Hv.out]; rintro e w' ⟨rfl, hg⟩)
      | (go_at_call 201; refine (count_any _ _ hs).mono ?_; rintro e w'' ⟨rfl, hg'⟩))
    go_ret2
    have := Hv.out
    simp [validS] at this
    refine ⟨ret_in (lenS_ok this).symm ?_, hg.trans hg'⟩
    simp [utf8Err, this]
  | false =>
    have Hv := Lib.hid hv; clear hv
    go_wp2_with (go_at_call 197; refine (valid_any _ _ hE (by omega)).mono ?_; rw [valid_brk, Hv.out]; rintro e w' ⟨rfl, hg⟩; have he' := hg.cell he)
    go_quiet (fail)
    go_wp2
    go_ret2
    refine ⟨ret_ie (by unfold lenS; rw [Hv.out]; rfl) ?_, hg.drewN _⟩
    have := Hv.out
    simp [validS] at this
    simp [utf8Err, this]
end Ve
/- Walks of layer 2, the program's side: values.Check, value, Of. -/
namespace Ve
open Go Go.RowKit Go.Proofs

theorem utf8Err_zero {s : ByteArray} : utf8Err s = 0 ↔ brk s = s.size := by unfold utf8Err; split <;> simp_all
set_option maxHeartbeats 1000000 in
theorem vcheck_any {ea : Nat → Addr} (k n : Int) (t : ByteArray) (w : World) (hE : Env ea w) (hs : t.size ≤ 9223372036854775807) :
    Calls Tryz.prog 200 #[.agg #[.int .i64 k, .int .i64 n, .string t]] w fun e w' => e = .returned (errOf ea (checkPlain ⟨k, n, t⟩)) ∧ Gr w w' := by
  have e5 := hE.e5; have z5 := cell_lt e5; have e1 := hE.e1; have z1 := cell_lt e1; have e10 := hE.e10; have z10 := cell_lt e10
  go_enter Tryz.func200, Tryz.ntmps200
  go_wp2
  go_quiet (fail)
  go_wp2_with (go_at_call 199; refine (scheck_any _ _ (hE.gr (by repeat (with_reducible first | assumption | exact Gr.refl _ | apply Gr.alloc | apply Gr.drewN | apply Gr.drew | apply Gr.iter | (refine Gr.setCell ?_ (by simp) _) | (refine Gr.trans ?_ (by assumption))))) hs).mono ?_; rintro e w' ⟨rfl, hg⟩; have f1 := (hE.gr (Gr.trans (by repeat (with_reducible first | assumption | exact Gr.refl _ | apply Gr.alloc | apply Gr.drewN | apply Gr.drew | apply Gr.iter | (refine Gr.setCell ?_ (by simp) _) | (refine Gr.trans ?_ (by assumption)))) hg)).e1; have f10 := (hE.gr (Gr.trans (by repeat (with_reducible first | assumption | exact Gr.refl _ | apply Gr.alloc | apply Gr.drewN | apply Gr.drew | apply Gr.iter | (refine Gr.setCell ?_ (by simp) _) | (refine Gr.trans ?_ (by assumption)))) hg)).e10; have hc0 := fun o => hg.cells w.heap.size o (by simp))
  all_goals go_ret
  all_goals
    refine ⟨?_, (by repeat (with_reducible first | assumption | exact Gr.refl _ | apply Gr.alloc | apply Gr.drewN | apply Gr.drew | apply Gr.iter | (refine Gr.setCell ?_ (by simp) _) | (refine Gr.trans ?_ (by assumption))))⟩
    first
    | refine ret_err ?_
    | refine ret_nil ?_
  all_goals
    simp_all [checkPlain, kindOk, eqS, es, utf8Err_zero]
  all_goals omega
set_option maxHeartbeats 400000 in
theorem value_any (k n : Int) (t : ByteArray) (w : World) :
    Calls Tryz.prog 202 #[.agg #[.int .i64 k, .int .i64 n, .string t]] w fun e w' => e = .returned (valV ⟨k, n, t⟩) ∧ Gr w w' := by
  go_enter Tryz.func202, Tryz.ntmps202
  go_wp2
  all_goals go_ret
  all_goals refine ⟨?_, (by repeat (with_reducible first | assumption | exact Gr.refl _ | apply Gr.alloc | apply Gr.drewN | apply Gr.drew | apply Gr.iter | (refine Gr.setCell ?_ (by simp) _) | (refine Gr.trans ?_ (by assumption))))⟩
  all_goals (unfold valV; simp_all)
/-- A call that answers a piece and an error. -/
def PieceRes (ea : Nat → Addr) (c : Int) (p : Piece) (w : World) (e : Ending) (w' : World) : Prop :=
  ∃ v, e = .returned (.tuple #[v, errOf ea c]) ∧ Gr w w' ∧ (c = 0 → PieceV w' p v ∧ ∀ b, ablk v = some b → w.heap.size ≤ b) ∧ (c ≠ 0 → v = .nilIface)
def orNil (c : Int) (v : Value) : Value := if c = 0 then v else .nilIface
theorem orNil_zero (v : Value) : orNil 0 v = v := rfl
theorem orNil_pos {c : Int} (h : c ≠ 0) (v : Value) : orNil c v = .nilIface := if_neg h
attribute [irreducible] orNil
theorem ret_two {a b c d : Value} (h : a = b) (h' : c = d) : Ending.returned (.tuple #[a, c]) = .returned (.tuple #[b, d]) := by rw [h, h']
set_option maxHeartbeats 400000 in
theorem vof_any {ea : Nat → Addr} (k n : Int) (t : ByteArray) (w : World) (hE : Env ea w) (hs : t.size ≤ 9223372036854775807) :
    Calls Tryz.prog 193 #[.agg #[.int .i64 k, .int .i64 n, .string t]] w fun e w' =>
      e = .returned (.tuple #[orNil (checkPlain ⟨k, n, t⟩) (valV ⟨k, n, t⟩), errOf ea (checkPlain ⟨k, n, t⟩)]) ∧ Gr w w' := by
  go_enter Tryz.func193, Tryz.ntmps193
  go_wp2_with (first
    | (go_at_call 200; refine (vcheck_any _ _ _ _ (hE.gr (by repeat (with_reducible first | assumption | exact Gr.refl _ | apply Gr.alloc | apply Gr.drewN | apply Gr.drew | apply Gr.iter | (refine Gr.setCell ?_ (by simp) _) | (refine Gr.trans ?_ (by assumption))))) hs).mono ?_; rintro e w' ⟨rfl, hg⟩; have hc0 := fun o => hg.cells w.heap.size o (by simp))
    | (go_at_call 202; refine (value_any _ _ _ _).mono ?_; rintro e w'' ⟨rfl, hg'⟩))
  all_goals go_ret2
  · rename_i h
    refine ⟨ret_two ?_ rfl, (by repeat (with_reducible first | assumption | exact Gr.refl _ | apply Gr.alloc | apply Gr.drewN | apply Gr.drew | apply Gr.iter | (refine Gr.setCell ?_ (by simp) _) | (refine Gr.trans ?_ (by assumption))))⟩
    simp at h; rw [orNil_pos h]; rfl
  · rename_i h
    simp at h
    refine ⟨ret_two ?_ ?_, (by repeat (with_reducible first | assumption | exact Gr.refl _ | apply Gr.alloc | apply Gr.drewN | apply Gr.drew | apply Gr.iter | (refine Gr.setCell ?_ (by simp) _) | (refine Gr.trans ?_ (by assumption))))⟩
    · rw [h, orNil_zero]; rfl
    · rw [h, errOf_zero]; rfl
end Ve
/- Walks of layer 3, the program's side: attrs.null, pair, Check, Same, slices.Equal; and vellumref04.SameAttrs. -/
namespace Ve
open Go Go.RowKit Go.Proofs

set_option maxHeartbeats 400000 in
theorem null_any (k : ByteArray) (a b : Int) (t : ByteArray) (w : World) :
    Calls Tryz.prog 183 #[.agg #[.string k, .int .i64 a, .int .i64 b, .string t]] w fun e w' => e = .returned (.bool (a == 0)) ∧ Gr w w' := by
  go_enter Tryz.func183, Tryz.ntmps183
  go_wp2
  go_ret
  exact ⟨ret_bool rfl, (by repeat (with_reducible first | assumption | exact Gr.refl _ | apply Gr.alloc | apply Gr.drewN | apply Gr.drew | apply Gr.iter | (refine Gr.setCell ?_ (by simp) _) | (refine Gr.trans ?_ (by assumption))))⟩
set_option maxHeartbeats 400000 in
theorem pair_any {ea : Nat → Addr} (k : ByteArray) (a b : Int) (t : ByteArray) (w : World) (hE : Env ea w) (hk : szS k) (ht : szS t) :
    Calls Tryz.prog 194 #[.agg #[.string k, .int .i64 a, .int .i64 b, .string t]] w fun e w' => e = .returned (errOf ea (checkPair ⟨k, ⟨a, b, t⟩⟩)) ∧ Gr w w' := by
  have e6 := hE.e6; have z6 := cell_lt e6
  go_enter Tryz.func194, Tryz.ntmps194
  go_wp2_with (first
    | (go_at_call 199; refine (scheck_any _ _ (hE.gr (by repeat (with_reducible first | assumption | exact Gr.refl _ | apply Gr.alloc | apply Gr.drewN | apply Gr.drew | apply Gr.iter | (refine Gr.setCell ?_ (by simp) _) | (refine Gr.trans ?_ (by assumption))))) hk.le).mono ?_; rintro e w' ⟨rfl, hg⟩; have hc0 := fun o => hg.cells w.heap.size o (by simp))
    | (go_at_call 200; refine (vcheck_any _ _ _ _ (hE.gr (by repeat (with_reducible first | assumption | exact Gr.refl _ | apply Gr.alloc | apply Gr.drewN | apply Gr.drew | apply Gr.iter | (refine Gr.setCell ?_ (by simp) _) | (refine Gr.trans ?_ (by assumption))))) ht.le).mono ?_; rintro e w'' ⟨rfl, hg'⟩))
  all_goals go_ret
  all_goals refine ⟨ret_err ?_, (by repeat (with_reducible first | assumption | exact Gr.refl _ | apply Gr.alloc | apply Gr.drewN | apply Gr.drew | apply Gr.iter | (refine Gr.setCell ?_ (by simp) _) | (refine Gr.trans ?_ (by assumption))))⟩
  all_goals simp_all [checkPair, eqS, es, utf8Err]
  all_goals omega
theorem checkFrom_step {nulls : Bool} {prev : Option ByteArray} {a : Attr} {r : List Attr} (h1 : checkPair a = 0) (h2 : ¬ (a.val.kind = 0 ∧ nulls = false))
    (h3 : notAfter prev a.key = false) : checkFrom nulls prev (a :: r) = checkFrom nulls (some a.key) r := by
  simp [checkFrom, h1, h2, h3]
/-- The key ahead of place k. -/
def prevKey (l : List Attr) : Nat → Option ByteArray
  | 0 => none
  | k + 1 => (l[k]?).map (·.key)
theorem drop_cons {α : Type} {l : List α} {k : Nat} {x : α} (h : l[k]? = some x) : l.drop k = x :: l.drop (k + 1) := by
  obtain ⟨hl, rfl⟩ := List.getElem?_eq_some_iff.1 h
  exact List.drop_eq_getElem_cons hl
set_option maxHeartbeats 1000000 in
theorem acheck_any {ea : Nat → Addr} (l : List Attr) (v : Value) (nulls : Bool) (w : World) (hE : Env ea w) (hl : RdAttrs w v l) :
    Calls Tryz.prog 176 #[v, .bool nulls] w fun e w' => e = .returned (errOf ea (checkAttrs nulls l)) ∧ Gr w w' := by
  obtain ⟨a, cap, rfl, hcap, hm, hb⟩ := hl.slice
  obtain ⟨n, hn⟩ : ∃ n, l.length = n := ⟨_, rfl⟩
  rw [hn] at hl hcap hb ⊢
  have Hn := Lib.hid hn; clear hn
  unfold maxLen at hm
  go_enter Tryz.func176, Tryz.ntmps176
  go_wp2
  go_loopw [10] (fun i wr => ∃ k : Nat, k ≤ n ∧ i = .int .i64 k ∧ Gr w wr ∧ checkFrom nulls (prevKey l k) (l.drop k) = checkAttrs nulls l) (fun i _ => n - (intOf i).toNat)
  case atStart => exact ⟨0, Nat.zero_le _, rfl, Gr.refl _, rfl⟩
  case round =>
    obtain ⟨k, hk, rfl, hg, ht⟩ := hrel
    have Ht := Lib.hid ht; clear ht
    by_cases hlt : k < n
    · obtain ⟨b, off, xk, xa, xb, xt, hx, rfl, a0, a1, a2, a3, s1, s2⟩ := (RdAttrs.gr hl hg).at_ k hlt
      have Hx := Lib.hid hx; clear hx
      have hlt' : (k : Int) < n := by omega
      have hE' := hE.gr hg
      have e7 := hE'.e7; have e8 := hE'.e8
      by_cases c0 : checkPair ⟨xk, ⟨xa, xb, xt⟩⟩ = 0
      · have c0' : decide (checkPair ⟨xk, ⟨xa, xb, xt⟩⟩ = 0) = true := by simpa using c0
        have C0 := Lib.hid c0; clear c0
        by_cases hz : xa = 0 ∧ nulls = false
        · obtain ⟨hz1, rfl⟩ := hz
          have hz : (xa == 0) = true := by simpa using hz1
          have Hz1 := Lib.hid hz1; clear hz1
          go_wp2_with (first
            | (go_at_call 194; refine (pair_any _ _ _ _ _ (hE'.gr (by repeat (with_reducible first | assumption | exact Gr.refl _ | apply Gr.alloc | apply Gr.drewN | apply Gr.drew | apply Gr.iter | (refine Gr.setCell ?_ (by simp) _) | (refine Gr.trans ?_ (by assumption))))) s1 s2).mono ?_; rintro e w' ⟨rfl, hg'⟩; have hc0 := fun o => hg'.cells wr.heap.size o (by simp))
            | (go_at_call 183; refine (null_any _ _ _ _ _).mono ?_; rintro e w'' ⟨rfl, hg''⟩; have e7'' := (hE'.gr (w' := w'') (by repeat (with_reducible first | assumption | exact Gr.refl _ | apply Gr.alloc | apply Gr.drewN | apply Gr.drew | apply Gr.iter | (refine Gr.setCell ?_ (by simp) _) | (refine Gr.trans ?_ (by assumption))))).e7))
          go_ret
          refine ⟨ret_err ?_, (by repeat (with_reducible first | assumption | exact Gr.refl _ | apply Gr.alloc | apply Gr.drewN | apply Gr.drew | apply Gr.iter | (refine Gr.setCell ?_ (by simp) _) | (refine Gr.trans ?_ (by assumption))))⟩
          rw [← Ht.out, drop_cons Hx.out]
          have h1 := C0.out
          have h2 := Hz1.out
          subst h2
          simp [checkFrom, h1]
        · have hB : (xa == 0) = false ∨ ((xa == 0) = true ∧ nulls = true) := by
            by_cases h : xa = 0
            · right; simp [h] at hz ⊢; exact hz
            · left; simpa using h
          have Hz := Lib.hid hz; clear hz
          rcases Nat.eq_zero_or_pos k with h0 | h0
          · subst h0
            simp only [Nat.zero_mul, Nat.add_zero] at a0 a1 a2 a3
            rcases hB with hB | ⟨hB, rfl⟩
            all_goals
              go_wp2_with (first
                | (go_at_call 194; refine (pair_any _ _ _ _ _ (hE'.gr (by repeat (with_reducible first | assumption | exact Gr.refl _ | apply Gr.alloc | apply Gr.drewN | apply Gr.drew | apply Gr.iter | (refine Gr.setCell ?_ (by simp) _) | (refine Gr.trans ?_ (by assumption))))) s1 s2).mono ?_; rintro e w' ⟨rfl, hg'⟩; have hc0 := fun o => hg'.cells wr.heap.size o (by simp))
                | (go_at_call 183; refine (null_any _ _ _ _ _).mono ?_; rintro e w'' ⟨rfl, hg''⟩))
              go_quiet (fail)
              go_wp2
              go_roundw
              case rel => exact ⟨1, by omega, by go_num, (by repeat (with_reducible first | assumption | exact Gr.refl _ | apply Gr.alloc | apply Gr.drewN | apply Gr.drew | apply Gr.iter | (refine Gr.setCell ?_ (by simp) _) | (refine Gr.trans ?_ (by assumption)))), by rw [← Ht.out, drop_cons Hx.out, checkFrom_step C0.out Hz.out rfl]; simp only [prevKey, Hx.out, Option.map_some]⟩
              case measure => simp [intOf]; omega
          · obtain ⟨j, rfl⟩ : ∃ j, k = j + 1 := ⟨k - 1, by omega⟩
            obtain ⟨b', off', yk, ya, yb, yt, hy, e', y0, _⟩ := (RdAttrs.gr hl hg).at_ j (by omega)
            injection e' with e'; injection e' with eb eo; subst eb eo
            have Hy := Lib.hid hy; clear hy
            have hgt : (0 : Int) < (j : Int) + 1 := by omega
            have hjn : (j : Int) < n := by omega
            cases hr : keyLt yk xk
            all_goals
              have Hr := Lib.hid hr
              rcases hB with hB | ⟨hB, rfl⟩
            all_goals
              go_wp2_with (first
                | (go_at_call 194; refine (pair_any _ _ _ _ _ (hE'.gr (by repeat (with_reducible first | assumption | exact Gr.refl _ | apply Gr.alloc | apply Gr.drewN | apply Gr.drew | apply Gr.iter | (refine Gr.setCell ?_ (by simp) _) | (refine Gr.trans ?_ (by assumption))))) s1 s2).mono ?_; rintro e w' ⟨rfl, hg'⟩; have hc0 := fun o => hg'.cells wr.heap.size o (by simp))
                | (go_at_call 183; refine (null_any _ _ _ _ _).mono ?_; rintro e w'' ⟨rfl, hg''⟩; have hc1 := fun o => hg''.cells wr.heap.size o (by have := hg'.size; simp at this; omega); have y0'' := hg''.cell (hg'.cell (((Gr.refl wr).alloc _).cell y0)); have e8'' := (hE'.gr (w' := w'') (by repeat (with_reducible first | assumption | exact Gr.refl _ | apply Gr.alloc | apply Gr.drewN | apply Gr.drew | apply Gr.iter | (refine Gr.setCell ?_ (by simp) _) | (refine Gr.trans ?_ (by assumption))))).e8))
              go_quiet (fail)
              go_wp2
            · go_ret
              refine ⟨ret_err ?_, (by repeat (with_reducible first | assumption | exact Gr.refl _ | apply Gr.alloc | apply Gr.drewN | apply Gr.drew | apply Gr.iter | (refine Gr.setCell ?_ (by simp) _) | (refine Gr.trans ?_ (by assumption))))⟩
              rw [← Ht.out, drop_cons Hx.out]
              have hp : notAfter (prevKey l (j + 1)) xk = true := by simp [notAfter, prevKey, Hy.out, Hr.out]
              simp [checkFrom, C0.out, hp]; exact fun h => by simpa [h] using Hz.out
            · go_ret
              refine ⟨ret_err ?_, (by repeat (with_reducible first | assumption | exact Gr.refl _ | apply Gr.alloc | apply Gr.drewN | apply Gr.drew | apply Gr.iter | (refine Gr.setCell ?_ (by simp) _) | (refine Gr.trans ?_ (by assumption))))⟩
              rw [← Ht.out, drop_cons Hx.out]
              have hp : notAfter (prevKey l (j + 1)) xk = true := by simp [notAfter, prevKey, Hy.out, Hr.out]
              simp [checkFrom, C0.out, hp]
            all_goals
              go_roundw
              case rel =>
                have hp : notAfter (prevKey l (j + 1)) xk = false := by simp [notAfter, prevKey, Hy.out, Hr.out]
                exact ⟨j + 2, by omega, by go_num, (by repeat (with_reducible first | assumption | exact Gr.refl _ | apply Gr.alloc | apply Gr.drewN | apply Gr.drew | apply Gr.iter | (refine Gr.setCell ?_ (by simp) _) | (refine Gr.trans ?_ (by assumption)))), by rw [← Ht.out, drop_cons Hx.out, checkFrom_step C0.out Hz.out hp]; simp only [prevKey, Hx.out, Option.map_some]⟩
              case measure => simp [intOf]; omega
      · go_wp2_with (first
          | (go_at_call 194; refine (pair_any _ _ _ _ _ (hE'.gr (by repeat (with_reducible first | assumption | exact Gr.refl _ | apply Gr.alloc | apply Gr.drewN | apply Gr.drew | apply Gr.iter | (refine Gr.setCell ?_ (by simp) _) | (refine Gr.trans ?_ (by assumption))))) s1 s2).mono ?_; rintro e w' ⟨rfl, hg'⟩))
        go_ret
        refine ⟨ret_err ?_, (by repeat (with_reducible first | assumption | exact Gr.refl _ | apply Gr.alloc | apply Gr.drewN | apply Gr.drew | apply Gr.iter | (refine Gr.setCell ?_ (by simp) _) | (refine Gr.trans ?_ (by assumption))))⟩
        rw [← Ht.out, drop_cons Hx.out]
        simp [checkFrom, c0]
    · obtain rfl : k = n := by omega
      go_wp2
      go_ret
      refine ⟨ret_nil ?_, (by repeat (with_reducible first | assumption | exact Gr.refl _ | apply Gr.alloc | apply Gr.drewN | apply Gr.drew | apply Gr.iter | (refine Gr.setCell ?_ (by simp) _) | (refine Gr.trans ?_ (by assumption))))⟩
      rw [← Ht.out, List.drop_eq_nil_of_le (by rw [Hn.out]; exact Nat.le_refl _)]
      rfl
end Ve
