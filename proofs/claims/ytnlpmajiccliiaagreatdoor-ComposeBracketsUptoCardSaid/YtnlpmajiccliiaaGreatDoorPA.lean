/- Plain laws: what a script does to a row of cells; canonical scripts that do the same are the same. -/
import Derived.Test.YtnlpmajiccliiaaGreatDoorNB
import Derived.Test.YtnlpmajiccliiaaGreatDoorRL
set_option linter.all false
namespace Ve
open Go

/-! Lists of pairs by their keys. -/
def lk (l : List Attr) (k : ByteArray) : Option Plain := (l.find? fun a => decide (a.key = k)).map (·.val)
theorem lk_yes {a : Attr} {l : List Attr} {k : ByteArray} (h : a.key = k) : lk (a :: l) k = some a.val := by simp [lk, h]
theorem lk_no {a : Attr} {l : List Attr} {k : ByteArray} (h : ¬ a.key = k) : lk (a :: l) k = lk l k := by simp [lk, h]
theorem lk_nil (k : ByteArray) : lk [] k = none := rfl
theorem rise_tail {p : Option ByteArray} {x : Attr} {l : List Attr} (h : riseA p (x :: l) = true) : notAfter p x.key = false ∧ riseA (some x.key) l = true := by
  simpa [riseA] using h
theorem rise_none {p : Option ByteArray} {l : List Attr} (h : riseA p l = true) : riseA none l = true := by
  cases l with
  | nil => rfl
  | cons x l =>
    obtain ⟨-, h2⟩ := rise_tail h
    simp only [riseA, notAfter, h2, Bool.and_true, Bool.not_false]
/-- Behind a key there is nothing of this key or ahead of it. -/
theorem lk_far {l : List Attr} : ∀ {j k : ByteArray}, riseA (some j) l = true → (k = j ∨ keyLt k j = true) → lk l k = none := by
  induction l with
  | nil => intro j k _ _; rfl
  | cons x l ih =>
    intro j k h hk
    obtain ⟨h1, h2⟩ := rise_tail h
    have hj : keyLt j x.key = true := by simpa [notAfter] using h1
    have hkx : keyLt k x.key = true := by
      rcases hk with rfl | hk
      · exact hj
      · exact keyLt_trans hk hj
    rw [lk_no (fun e => by rw [e, keyLt_irrefl] at hkx; cases hkx)]
    exact ih h2 (.inr hkx)
theorem lk_head {x : Attr} {l : List Attr} {k : ByteArray} (h : riseA none (x :: l) = true) (hk : keyLt k x.key = true) : lk (x :: l) k = none := by
  obtain ⟨-, h2⟩ := rise_tail h
  rw [lk_no (fun e => by rw [e, keyLt_irrefl] at hk; cases hk)]
  exact lk_far h2 (.inr hk)
theorem lk_merge : ∀ (n : Nat) (a b : List Attr), a.length + b.length ≤ n → riseA none a = true → riseA none b = true → ∀ k, lk (mergeA a b) k = (lk b k).or (lk a k) := by
  intro n
  induction n with
  | zero =>
    intro a b h _ _ k
    obtain rfl : a = [] := List.eq_nil_of_length_eq_zero (by omega)
    obtain rfl : b = [] := List.eq_nil_of_length_eq_zero (by omega)
    rw [merge_nil]; rfl
  | succ n ih =>
    intro a b h ha hb k
    cases a with
    | nil => rw [merge_nil, lk_nil, Option.or_none]
    | cons x a =>
      cases b with
      | nil => rw [merge_nil', lk_nil, Option.none_or]
      | cons y b =>
        simp only [List.length_cons] at h
        have ha' := rise_none (rise_tail ha).2
        have hb' := rise_none (rise_tail hb).2
        rcases merge_three x y with c | c | c
        · rw [merge_lt c]
          by_cases e : x.key = k
          · subst e
            rw [lk_yes rfl, lk_yes rfl, lk_head hb c, Option.none_or]
          · rw [lk_no e, lk_no e, ih _ _ (by simp only [List.length_cons]; omega) ha' hb]
        · rw [merge_gt c]
          by_cases e : y.key = k
          · rw [lk_yes e, lk_yes e, Option.some_or]
          · rw [lk_no e, lk_no e, ih _ _ (by simp only [List.length_cons]; omega) ha hb']
        · rw [merge_eq c]
          by_cases e : y.key = k
          · rw [lk_yes e, lk_yes e, Option.some_or]
          · rw [lk_no e, lk_no e, lk_no (fun h => e (c ▸ h)), ih _ _ (by omega) ha' hb']
def keepO (v : Option Plain) : Option Plain := v.filter fun p => p.kind != 0
theorem lk_whole {l : List Attr} : ∀ {p : Option ByteArray}, riseA p l = true → ∀ k, lk (wholeA l) k = keepO (lk l k) := by
  induction l with
  | nil => intro p _ k; rfl
  | cons x l ih =>
    intro p h k
    obtain ⟨-, h2⟩ := rise_tail h
    unfold wholeA
    by_cases c : x.val.kind = 0
    · rw [List.filter_cons_of_neg (by simp [c])]
      by_cases e : x.key = k
      · rw [lk_yes e]
        have := ih h2 k
        unfold wholeA at this
        rw [this, lk_far h2 (.inl e.symm)]
        simp [keepO, Option.filter, c]
      · rw [lk_no e]; exact ih h2 k
    · rw [List.filter_cons_of_pos (by simp [c])]
      by_cases e : x.key = k
      · rw [lk_yes e, lk_yes e]; simp [keepO, Option.filter, c]
      · rw [lk_no e, lk_no e]; exact ih h2 k
theorem rise_ext {a : List Attr} : ∀ {b : List Attr}, riseA none a = true → riseA none b = true → (∀ k, lk a k = lk b k) → a = b := by
  induction a with
  | nil =>
    intro b _ _ h
    cases b with
    | nil => rfl
    | cons y b => have := h y.key; rw [lk_yes rfl, lk_nil] at this; cases this
  | cons x a ih =>
    intro b ha hb h
    cases b with
    | nil => have := h x.key; rw [lk_yes rfl, lk_nil] at this; cases this
    | cons y b =>
      obtain ⟨-, ha2⟩ := rise_tail ha
      obtain ⟨-, hb2⟩ := rise_tail hb
      rcases merge_three x y with c | c | c
      · have := h x.key; rw [lk_yes rfl, lk_head hb c] at this; cases this
      · have := h y.key; rw [lk_yes rfl, lk_head ha c] at this; cases this
      · have e1 : x.val = y.val := by have := h x.key; rw [lk_yes rfl, lk_yes c.symm] at this; exact Option.some.inj this
        have e2 : x = y := by cases x; cases y; simp only at c e1; rw [c, e1]
        subst e2
        have e3 : a = b := ih (rise_none ha2) (rise_none hb2) fun k => by
          by_cases e : x.key = k
          · rw [lk_far ha2 (.inl e.symm), lk_far hb2 (.inl e.symm)]
          · have := h k; rw [lk_no e, lk_no e] at this; exact this
        rw [e3]
theorem ok_riseA {nulls : Bool} {l : List Attr} (h : checkAttrs nulls l = 0) : riseA none l = true := by
  unfold checkAttrs at h
  exact (check_iff.1 h).2
theorem rise_mergeN {a b : List Attr} (ha : riseA none a = true) (hb : riseA none b = true) : riseA none (mergeA a b) = true := merge_rise _ none a b (Nat.le_refl _) ha hb
theorem merge_assoc {a b c : List Attr} (ha : riseA none a = true) (hb : riseA none b = true) (hc : riseA none c = true) : mergeA (mergeA a b) c = mergeA a (mergeA b c) := by
  refine rise_ext (rise_mergeN (rise_mergeN ha hb) hc) (rise_mergeN ha (rise_mergeN hb hc)) fun k => ?_
  rw [lk_merge _ _ _ (Nat.le_refl _) (rise_mergeN ha hb) hc, lk_merge _ _ _ (Nat.le_refl _) ha hb, lk_merge _ _ _ (Nat.le_refl _) ha (rise_mergeN hb hc), lk_merge _ _ _ (Nat.le_refl _) hb hc, Option.or_assoc]
theorem whole_assoc {a b c : List Attr} (ha : riseA none a = true) (hb : riseA none b = true) (hc : riseA none c = true) : wholeA (mergeA (wholeA (mergeA a b)) c) = wholeA (mergeA a (mergeA b c)) := by
  have h1 := rise_mergeN ha hb
  have h2 := whole_rise h1
  refine rise_ext (whole_rise (rise_mergeN h2 hc)) (whole_rise (rise_mergeN ha (rise_mergeN hb hc))) fun k => ?_
  rw [lk_whole (rise_mergeN h2 hc), lk_merge _ _ _ (Nat.le_refl _) h2 hc, lk_whole h1, lk_merge _ _ _ (Nat.le_refl _) ha hb, lk_whole (rise_mergeN ha (rise_mergeN hb hc)), lk_merge _ _ _ (Nat.le_refl _) ha (rise_mergeN hb hc), lk_merge _ _ _ (Nat.le_refl _) hb hc]
  cases lk c k with
  | some v => rfl
  | none =>
    simp only [Option.none_or]
    cases (lk b k).or (lk a k) with
    | none => rfl
    | some v => simp only [keepO, Option.filter]; split <;> simp_all
theorem whole_id {l : List Attr} (h : checkAttrs false l = 0) : wholeA l = l := by
  unfold checkAttrs at h
  have h1 := (check_iff.1 h).1
  unfold wholeA
  rw [List.filter_eq_self]
  intro a ha
  have := (h1 a ha).2
  simp only [bne_iff_ne, ne_eq]
  intro e
  exact absurd (this e) (by simp)

/-! Rows of cells. -/
/-- A cell: inserted, or number k of what was there before, with all that was laid on it. -/
inductive SC where
  | ins (c : Cel) (a : List Attr)
  | base (k : Nat) (a : List Attr)
abbrev Str := Nat → SC
def SC.pat : SC → List Attr → SC
  | .ins c a, p => .ins c (compA false a p)
  | .base k a, p => .base k (compA true a p)
def scons (x : SC) (s : Str) : Str
  | 0 => x
  | n + 1 => s n
def stail (s : Str) : Str := fun n => s (n + 1)
theorem stail_scons (x : SC) (s : Str) : stail (scons x s) = s := rfl
theorem scons_zero (x : SC) (s : Str) : scons x s 0 = x := rfl
theorem scons_eta (s : Str) : scons (s 0) (stail s) = s := by
  funext n; cases n <;> rfl
theorem scons_inj {x y : SC} {s t : Str} (h : scons x s = scons y t) : x = y ∧ s = t := ⟨congrFun h 0, congrArg stail h⟩
/-- What units do to a row of cells. -/
def run : List Un → Str → Str
  | [], s => s
  | .i c a :: u, s => scons (.ins c a) (run u s)
  | .r p :: u, s => scons ((s 0).pat p) (run u (stail s))
  | .d :: u, s => run u (stail s)
def bas (k : Nat) : Str := fun n => .base (k + n) []
theorem stail_bas (k : Nat) : stail (bas k) = bas (k + 1) := by
  funext n; simp only [stail, bas]; congr 1; omega
theorem bas_zero (k : Nat) : bas k 0 = .base k [] := rfl
def SC.ok : SC → Prop
  | .ins _ a => checkAttrs false a = 0
  | .base _ a => checkAttrs true a = 0
def Str.ok (s : Str) : Prop := ∀ n, (s n).ok
def unOk : Un → Prop
  | .i _ a => checkAttrs false a = 0
  | .r a => checkAttrs true a = 0
  | .d => True
def UsOk (u : List Un) : Prop := ∀ x ∈ u, unOk x
theorem bas_ok (k : Nat) : Str.ok (bas k) := fun _ => rfl
theorem Str.ok.tail {s : Str} (h : Str.ok s) : Str.ok (stail s) := fun n => h (n + 1)
theorem Str.ok.cons {x : SC} {s : Str} (hx : x.ok) (h : Str.ok s) : Str.ok (scons x s) := fun n => by
  cases n with
  | zero => exact hx
  | succ n => exact h n
theorem SC.ok.pat {x : SC} {p : List Attr} (h : x.ok) (hp : checkAttrs true p = 0) : (x.pat p).ok := by
  cases x with
  | ins c a => exact comp_ok false (check_weak h) hp
  | base k a => exact comp_ok true h hp
theorem SC.ok.nil {x : SC} (h : x.ok) : x.pat [] = x := by
  cases x with
  | ins c a =>
    have e : compA false a [] = a := by unfold compA; rw [if_neg (by simp), merge_nil']; exact whole_id h
    simp only [SC.pat, e]
  | base k a =>
    have e : compA true a [] = a := by unfold compA; rw [if_pos rfl, merge_nil']
    simp only [SC.pat, e]
theorem SC.ok.two {x : SC} {p q : List Attr} (h : x.ok) (hp : checkAttrs true p = 0) (hq : checkAttrs true q = 0) : (x.pat p).pat q = x.pat (compA true p q) := by
  have h1 := ok_riseA hp
  have h2 := ok_riseA hq
  cases x with
  | ins c a =>
    have h0 := ok_riseA (show checkAttrs false a = 0 from h)
    have e : compA false (compA false a p) q = compA false a (compA true p q) := by
      simp only [compA, if_true, Bool.false_eq_true, if_false]
      exact whole_assoc h0 h1 h2
    simp only [SC.pat, e]
  | base k a =>
    have h0 := ok_riseA (show checkAttrs true a = 0 from h)
    have e : compA true (compA true a p) q = compA true a (compA true p q) := by
      simp only [compA, if_true]
      exact merge_assoc h0 h1 h2
    simp only [SC.pat, e]
theorem run_ok {u : List Un} : ∀ {s : Str}, UsOk u → Str.ok s → Str.ok (run u s) := by
  induction u with
  | nil => intro s _ h; exact h
  | cons x u ih =>
    intro s hu h
    have hx := hu x (by simp)
    have hu' : UsOk u := fun y hy => hu y (by simp [hy])
    cases x with
    | i c a => exact Str.ok.cons hx (ih hu' h)
    | r p => exact Str.ok.cons (SC.ok.pat (h 0) hx) (ih hu' h.tail)
    | d => exact ih hu' h.tail
theorem run_cong (u : List Un) {v w : List Un} : (∀ s, run v s = run w s) → ∀ s, run (u ++ v) s = run (u ++ w) s := by
  intro h
  induction u with
  | nil => exact h
  | cons x u ih =>
    intro s
    cases x <;> simp only [List.cons_append, run, ih]
theorem run_dels (g : Nat) (c : Cel) (a : List Attr) (u : List Un) : ∀ s, run (.i c a :: (List.replicate g .d ++ u)) s = run (List.replicate g .d ++ .i c a :: u) s := by
  induction g with
  | zero => intro s; rfl
  | succ g ih =>
    intro s
    simp only [List.replicate_succ, List.cons_append, run] at ih ⊢
    exact ih (stail s)
theorem run_nrm (u : List Un) : ∀ (out : List Un) (g : Nat) (s : Str), run (nrmF out g u) s = run (out ++ List.replicate g .d ++ u) s := by
  induction u with
  | nil => intro out g s; simp [nrmF]
  | cons x u ih =>
    intro out g s
    cases x with
    | i c a =>
      simp only [nrmF]
      rw [ih, List.append_assoc, List.append_assoc, List.append_assoc]
      exact run_cong out (fun s => run_dels g c a u s) s
    | r p =>
      simp only [nrmF]
      rw [ih]
      simp
    | d =>
      simp only [nrmF]
      rw [ih, List.replicate_succ']
      simp
theorem run_plain (n : Nat) : ∀ {s : Str}, Str.ok s → run (List.replicate n (.r [])) s = s := by
  induction n with
  | zero => intro s _; rfl
  | succ n ih =>
    intro s h
    simp only [List.replicate_succ, run]
    rw [ih h.tail, SC.ok.nil (h 0), scons_eta]
theorem run_end (n : Nat) (u : List Un) : ∀ {s : Str}, Str.ok s → run (u ++ List.replicate n (.r [])) s = run u s := by
  induction u with
  | nil => intro s h; exact run_plain n h
  | cons x u ih =>
    intro s h
    cases x with
    | i c a => simp only [List.cons_append, run, ih h]
    | r p => simp only [List.cons_append, run, ih h.tail]
    | d => simp only [List.cons_append, run, ih h.tail]
theorem trim_split (u : List Un) : ∃ n, u = trimU u ++ List.replicate n (.r []) := by
  refine ⟨(u.reverse.takeWhile (· == .r [])).length, ?_⟩
  have h : List.replicate (u.reverse.takeWhile (· == .r [])).length (.r []) = (u.reverse.takeWhile (· == .r [])).reverse := by
    symm
    rw [List.eq_replicate_iff]
    refine ⟨by simp, fun b hb => ?_⟩
    rw [List.mem_reverse] at hb
    simpa using List.all_eq_true.1 (List.all_takeWhile (p := (· == Un.r [])) (l := u.reverse)) b hb
  rw [h]
  unfold trimU
  rw [← List.reverse_append, List.takeWhile_append_dropWhile, List.reverse_reverse]
theorem run_trim (u : List Un) {s : Str} (h : Str.ok s) : run (trimU u) s = run u s := by
  obtain ⟨n, hn⟩ := trim_split u
  conv => rhs; rw [hn]
  exact (run_end n _ h).symm
theorem un_of {p : Piece} (h : pOk p) : UsOk (unitsP p) := by
  intro x hx
  cases p with
  | ins a t n =>
    obtain ⟨r, -, rfl⟩ := List.mem_map.1 hx
    exact (ins_ok.1 h).2.2.1
  | emb a k v =>
    simp only [unitsP, List.mem_singleton] at hx
    subst hx
    exact emb_attrs h.1
  | ret a n =>
    obtain rfl := List.eq_of_mem_replicate hx
    exact (ret_ok.1 h).2.2
  | del n =>
    obtain rfl := List.eq_of_mem_replicate hx
    trivial
theorem us_of {ps : List Piece} (h : PsOk ps) : UsOk (units ps) := by
  intro x hx
  obtain ⟨p, hp, hx⟩ := List.mem_flatMap.1 hx
  exact un_of (h p hp) x hx

/-! Canonical scripts that do the same are the same. -/
def nfU : List Un → Bool
  | [] => true
  | [.r []] => false
  | .d :: .i _ _ :: _ => false
  | _ :: u => nfU u
theorem nf_i {c : Cel} {a : List Attr} {u : List Un} (h : nfU (.i c a :: u) = true) : nfU u = true := by
  cases u <;> simpa [nfU] using h
theorem nf_r {p : List Attr} {u : List Un} (h : nfU (.r p :: u) = true) : nfU u = true ∧ ¬ (p = [] ∧ u = []) := by
  cases u with
  | nil =>
    cases p with
    | nil => simp [nfU] at h
    | cons x p => exact ⟨rfl, by simp⟩
  | cons y u => exact ⟨by cases p <;> simpa [nfU] using h, by simp⟩
theorem nf_d {u : List Un} (h : nfU (.d :: u) = true) : nfU u = true ∧ ∀ c a v, u ≠ .i c a :: v := by
  cases u with
  | nil => exact ⟨rfl, by simp⟩
  | cons y u =>
    cases y with
    | i c a => simp [nfU] at h
    | r p => exact ⟨by simpa [nfU] using h, by simp⟩
    | d => exact ⟨by simpa [nfU] using h, by simp⟩
theorem head_ge : ∀ (u : List Un) (k : Nat), nfU u = true → (∀ c a v, u ≠ .i c a :: v) → ∃ j a, run u (bas k) 0 = .base j a ∧ k ≤ j := by
  intro u
  induction u with
  | nil => intro k _ _; exact ⟨k, [], rfl, Nat.le_refl _⟩
  | cons x u ih =>
    intro k h hx
    cases x with
    | i c a => exact absurd rfl (hx c a u)
    | r p => exact ⟨k, compA true [] p, rfl, Nat.le_refl _⟩
    | d =>
      obtain ⟨h1, h2⟩ := nf_d h
      simp only [run, stail_bas]
      obtain ⟨j, a, e, hj⟩ := ih (k + 1) h1 h2
      exact ⟨j, a, e, by omega⟩
theorem comp_nilA (p : List Attr) : compA true [] p = p := by unfold compA; rw [if_pos rfl, merge_nil]
theorem run_inj : ∀ (n : Nat) (x y : List Un) (k : Nat), x.length + y.length ≤ n → nfU x = true → nfU y = true → run x (bas k) = run y (bas k) → x = y := by
  intro n
  induction n with
  | zero =>
    intro x y k hn _ _ _
    rw [List.eq_nil_of_length_eq_zero (by omega : x.length = 0), List.eq_nil_of_length_eq_zero (by omega : y.length = 0)]
  | succ n ih =>
    intro x y k hn hx hy h
    have h0 : run x (bas k) 0 = run y (bas k) 0 := congrFun h 0
    cases x with
    | nil =>
      cases y with
      | nil => rfl
      | cons b y =>
        simp only [List.length_cons, List.length_nil] at hn
        cases b with
        | i c a => simp [run, scons, bas] at h0
        | r p =>
          have e := h0
          simp only [run, scons_zero, bas_zero, SC.pat, comp_nilA, SC.base.injEq, true_and] at e
          subst e
          have h1 := congrArg stail h
          simp only [run, stail_scons, stail_bas] at h1
          have h2 := ih [] y (k + 1) (by simp only [List.length_nil]; omega) rfl (nf_r hy).1 (by simp only [run]; exact h1)
          exact absurd ⟨rfl, h2.symm⟩ (nf_r hy).2
        | d =>
          obtain ⟨y1, y2⟩ := nf_d hy
          obtain ⟨j, a, e, hj⟩ := head_ge y (k + 1) y1 y2
          simp only [run, stail_bas, e, bas_zero, SC.base.injEq] at h0
          omega
    | cons b x =>
      cases y with
      | nil =>
        simp only [List.length_cons, List.length_nil] at hn
        cases b with
        | i c a => simp [run, scons, bas] at h0
        | r p =>
          have e := h0
          simp only [run, scons_zero, bas_zero, SC.pat, comp_nilA, SC.base.injEq, true_and] at e
          subst e
          have h1 := congrArg stail h
          simp only [run, stail_scons, stail_bas] at h1
          have h2 := ih x [] (k + 1) (by simp only [List.length_nil]; omega) (nf_r hx).1 rfl (by simp only [run]; exact h1)
          exact absurd ⟨rfl, h2⟩ (nf_r hx).2
        | d =>
          obtain ⟨y1, y2⟩ := nf_d hx
          obtain ⟨j, a, e, hj⟩ := head_ge x (k + 1) y1 y2
          simp only [run, stail_bas, e, bas_zero, SC.base.injEq] at h0
          omega
      | cons b' y =>
        simp only [List.length_cons] at hn
        cases b with
        | i c a =>
          cases b' with
          | i c' a' =>
            simp only [run, scons_zero, SC.ins.injEq] at h0
            obtain ⟨rfl, rfl⟩ := h0
            simp only [run] at h
            rw [ih x y k (by omega) (nf_i hx) (nf_i hy) (scons_inj h).2]
          | r p => simp [run, scons, bas, SC.pat] at h0
          | d =>
            obtain ⟨y1, y2⟩ := nf_d hy
            obtain ⟨j, b, e, hj⟩ := head_ge y (k + 1) y1 y2
            simp [run, stail_bas, e, scons] at h0
        | r p =>
          cases b' with
          | i c a => simp [run, scons, bas, SC.pat] at h0
          | r q =>
            simp only [run, scons_zero, bas_zero, SC.pat, comp_nilA, SC.base.injEq, true_and] at h0
            subst h0
            simp only [run, stail_bas] at h
            rw [ih x y (k + 1) (by omega) (nf_r hx).1 (nf_r hy).1 (scons_inj h).2]
          | d =>
            obtain ⟨y1, y2⟩ := nf_d hy
            obtain ⟨j, b, e, hj⟩ := head_ge y (k + 1) y1 y2
            simp only [run, stail_bas, e, scons_zero, bas_zero, SC.pat, SC.base.injEq] at h0
            omega
        | d =>
          obtain ⟨x1, x2⟩ := nf_d hx
          cases b' with
          | i c a =>
            obtain ⟨j, b, e, hj⟩ := head_ge x (k + 1) x1 x2
            simp [run, stail_bas, e, scons] at h0
          | r q =>
            obtain ⟨j, b, e, hj⟩ := head_ge x (k + 1) x1 x2
            simp only [run, stail_bas, e, scons_zero, bas_zero, SC.pat, SC.base.injEq] at h0
            omega
          | d =>
            simp only [run, stail_bas] at h
            rw [ih x y (k + 1) (by omega) x1 (nf_d hy).1 h]
theorem nf_ins {U u : List Un} (hU : ∀ x ∈ U, ∃ c a, x = Un.i c a) (h : nfU u = true) : nfU (U ++ u) = true := by
  induction U with
  | nil => exact h
  | cons x U ih =>
    obtain ⟨c, a, rfl⟩ := hU x (by simp)
    have := ih fun y hy => hU y (by simp [hy])
    cases hw : U ++ u with
    | nil => simp [nfU, hw]
    | cons y w => simp only [List.cons_append, hw, nfU]; rw [← hw]; exact this
theorem nf_rets {a : List Attr} {u : List Un} (hne : a ≠ [] ∨ u ≠ []) (h : nfU u = true) : ∀ n, nfU (List.replicate n (.r a) ++ u) = true := by
  intro n
  induction n with
  | zero => exact h
  | succ n ih =>
    rw [List.replicate_succ, List.cons_append]
    cases hw : List.replicate n (Un.r a) ++ u with
    | nil =>
      have hu : u = [] := (List.append_eq_nil_iff.1 hw).2
      cases a with
      | nil => exact absurd hu (hne.resolve_left (by simp))
      | cons x a => rfl
    | cons y w =>
      rw [hw] at ih
      cases a <;> simpa [nfU] using ih
theorem nf_dels {u : List Un} (hu : ∀ c a v, u ≠ .i c a :: v) (h : nfU u = true) : ∀ n, nfU (List.replicate n .d ++ u) = true := by
  intro n
  induction n with
  | zero => exact h
  | succ n ih =>
    rw [List.replicate_succ, List.cons_append]
    cases hw : List.replicate n Un.d ++ u with
    | nil => rfl
    | cons y w =>
      rw [hw] at ih
      cases y with
      | i c a =>
        cases n with
        | zero => exact absurd hw (hu c a w)
        | succ n => simp [List.replicate_succ] at hw
      | r p => simpa [nfU] using ih
      | d => simpa [nfU] using ih
theorem ins_units {p : Piece} (h : p.k = 1 ∨ p.k = 2) : ∀ x ∈ unitsP p, ∃ c a, x = Un.i c a := by
  intro x hx
  cases p with
  | ins a t n => obtain ⟨r, -, rfl⟩ := List.mem_map.1 hx; exact ⟨_, _, rfl⟩
  | emb a k v => simp only [unitsP, List.mem_singleton] at hx; exact ⟨_, _, hx⟩
  | ret a n => simp [Piece.k] at h
  | del n => simp [Piece.k] at h
theorem nf_of {ps : List Piece} : PsOk ps → capL ps = true → endL ps → nfU (units ps) = true := by
  induction ps with
  | nil => intro _ _ _; rfl
  | cons p r ih =>
    intro hok hcap hend
    have hp : pOk p := hok p (by simp)
    have hr : PsOk r := fun q hq => hok q (by simp [hq])
    have hend' : endL r := by
      cases r with
      | nil => intro n; simp
      | cons q r => intro n e; exact hend n (by rw [List.getLast?_cons_cons]; exact e)
    have h1 := ih hr (capL_tail hcap) hend'
    rw [units_cons]
    cases p with
    | ins a t n => exact nf_ins (ins_units (.inl rfl)) h1
    | emb a k v => exact nf_ins (ins_units (.inr rfl)) h1
    | ret a n =>
      refine nf_rets ?_ h1 _
      by_cases c : a = []
      · subst c
        right
        cases r with
        | nil => exact absurd rfl (hend n)
        | cons q r =>
          rw [units_cons]
          intro e
          exact unitsP_ne (hr q (by simp)) (List.append_eq_nil_iff.1 e).1
      · exact .inl c
    | del n =>
      refine nf_dels (fun c a v e => ?_) h1 _
      cases r with
      | nil => simp [units] at e
      | cons q r =>
        have hc : capP (.del n) q = true := by
          simp only [capL, capF, Bool.and_eq_true] at hcap
          exact hcap.1
        cases q with
        | ret b m =>
          have hm := (ret_ok.1 (hr _ (by simp : Piece.ret b m ∈ Piece.ret b m :: r))).1
          obtain ⟨j, hj⟩ : ∃ j, m.toNat = j + 1 := ⟨m.toNat - 1, by omega⟩
          rw [units_cons, unitsP, hj, List.replicate_succ] at e
          simp at e
        | _ => simp [capP] at hc
theorem Can.sep {ps : List Piece} (h : Can ps) : sepL ps = true := by
  have := canon_sep h.canon
  rwa [h.ok.back] at this
/-- Canonical scripts that do the same to the row of all cells are the same. -/
theorem can_inj {P R : List Piece} (hP : Can P) (hR : Can R) (h : run (units P) (bas 0) = run (units R) (bas 0)) : P = R :=
  units_inj hP.ok hR.ok hP.sep hR.sep (run_inj _ _ _ 0 (Nat.le_refl _) (nf_of hP.ok hP.cap hP.last) (nf_of hR.ok hR.cap hR.last) h)
/-! What is put into a builder does what it did. -/
theorem run_made {l : List Op} {s : Bld} (hs : ∀ o ∈ l, szS o.text) (hp : pushAll l = (s, 0, 0)) {S : Str} (hS : Str.ok S) : run (units s.delta) S = run (units (l.map toPiece)) S := by
  obtain ⟨-, -, h⟩ := pushAll_good hs hp
  rw [h, run_trim _ hS, run_nrm]
  simp
/-! The steps of two scripts. -/
def patU (l : List Attr) : Un → Un
  | .i c a => .i c (compA false a l)
  | .r a => .r (compA true a l)
  | .d => .d
def delU : Un → List Un
  | .r _ => [.d]
  | _ => []
/-- Two rows of units, one behind the other, do what a third does. -/
def Beh (z v w : List Un) : Prop := ∀ s, Str.ok s → run z s = run v (run w s)
theorem beh_ins {U z v w : List Un} (hU : ∀ x ∈ U, ∃ c a, x = Un.i c a) (h : Beh z v w) : Beh (U ++ z) (U ++ v) w := by
  induction U with
  | nil => exact h
  | cons x U ih =>
    obtain ⟨c, a, rfl⟩ := hU x (by simp)
    have h1 := ih fun y hy => hU y (by simp [hy])
    intro s hs
    simp only [List.cons_append, run, h1 s hs]
theorem beh_del {z v w : List Un} (h : Beh z v w) : ∀ n, Beh (List.replicate n .d ++ z) v (List.replicate n .d ++ w) := by
  intro n
  induction n with
  | zero => exact h
  | succ n ih =>
    intro s hs
    simp only [List.replicate_succ, List.cons_append, run]
    exact ih (stail s) hs.tail
theorem beh_pat {U z v w : List Un} {l : List Attr} (hU : ∀ x ∈ U, x ≠ .d ∧ unOk x) (hl : checkAttrs true l = 0) (h : Beh z v w) : Beh (U.map (patU l) ++ z) (List.replicate U.length (.r l) ++ v) (U ++ w) := by
  induction U with
  | nil => exact h
  | cons x U ih =>
    have h1 := ih fun y hy => hU y (by simp [hy])
    obtain ⟨hd, hx⟩ := hU x (by simp)
    intro s hs
    cases x with
    | i c a =>
      simp only [List.map_cons, patU, List.cons_append, List.length_cons, List.replicate_succ, run, stail_scons, scons_zero, SC.pat, h1 s hs]
    | r a =>
      simp only [List.map_cons, patU, List.cons_append, List.length_cons, List.replicate_succ, run, stail_scons, scons_zero, h1 _ hs.tail]
      rw [SC.ok.two (hs 0) hx hl]
    | d => exact absurd rfl hd
theorem beh_gone {U z v w : List Un} (hU : ∀ x ∈ U, x ≠ .d) (h : Beh z v w) : Beh (U.flatMap delU ++ z) (List.replicate U.length .d ++ v) (U ++ w) := by
  induction U with
  | nil => exact h
  | cons x U ih =>
    have h1 := ih fun y hy => hU y (by simp [hy])
    intro s hs
    cases x with
    | i c a =>
      simp only [List.flatMap_cons, delU, List.nil_append, List.cons_append, List.length_cons, List.replicate_succ, run, stail_scons, h1 s hs]
    | r a =>
      simp only [List.flatMap_cons, delU, List.cons_append, List.nil_append, List.length_cons, List.replicate_succ, run, stail_scons, h1 _ hs.tail]
    | d => exact absurd rfl (hU _ (by simp))
theorem next_run {ps : List Piece} {n : Int} (h : PsOk ps) (h1 : 1 ≤ n) {s : Str} (hs : Str.ok s) : run (unitsP (nextP ps n).1 ++ units (nextP ps n).2) s = run (units ps) s := by
  cases ps with
  | nil =>
    simp only [nextP, units_nil, List.append_nil, unitsP]
    exact run_plain _ hs
  | cons p r =>
    obtain ⟨h2, h3, -⟩ := next_units h (by simp) h1
    rw [h2, h3, List.take_append_drop]
theorem no_d {p : Piece} (h : p.k ≠ 4) : ∀ x ∈ unitsP p, x ≠ Un.d := by
  intro x hx e
  subst e
  cases p with
  | ins a t n => obtain ⟨r, -, h⟩ := List.mem_map.1 hx; cases h
  | emb a k v => simp [unitsP] at hx
  | ret a n => have := List.eq_of_mem_replicate hx; cases this
  | del n => exact h rfl
theorem both_units {p q : Piece} (hp : pOk p) (hq : pOk q) (hl : p.len = q.len) (h4 : p.k ≠ 4) (h3 : q.k = 3 ∨ q.k = 4) {z v w : List Un} (h : Beh z v w) : Beh (units ((bothP p q).map toPiece) ++ z) (unitsP q ++ v) (unitsP p ++ w) := by
  have hn := unitsP_len hp
  have hno := no_d h4
  cases q with
  | ins a t n => simp [Piece.k] at h3
  | emb a k x => simp [Piece.k] at h3
  | ret l n =>
    have hl' : p.len = n := hl
    have e : n.toNat = (unitsP p).length := by omega
    have hl1 := (ret_ok.1 hq).2.2
    have h1 := beh_pat (l := l) (fun x hx => ⟨hno x hx, un_of hp x hx⟩) hl1 h
    rw [← e] at h1
    have e2 : units ((bothP p (.ret l n)).map toPiece) = (unitsP p).map (patU l) := by
      simp only [bothP, List.map_cons, List.map_nil, units_one]
      cases p with
      | ins a t m => simp [Piece.op, toPiece, unitsP, patU, isRetP, Piece.attrs]
      | emb a k x => simp [Piece.op, toPiece, unitsP, patU, isRetP, Piece.attrs]
      | ret a m => simp [Piece.op, toPiece, unitsP, patU, isRetP, Piece.attrs]
      | del m => exact absurd rfl h4
    rw [e2]
    exact h1
  | del n =>
    have hl' : p.len = n := hl
    have e : n.toNat = (unitsP p).length := by omega
    have h1 := beh_gone hno h
    rw [← e] at h1
    have e2 : units ((bothP p (.del n)).map toPiece) = (unitsP p).flatMap delU := by
      cases p with
      | ins a t m =>
        have : ∀ L : List Nat, (L.map fun r => Un.i (.ch r) a).flatMap delU = [] := fun L => by
          induction L with
          | nil => rfl
          | cons x L ih => simp [delU, ih]
        simp only [bothP, isRetP, unitsP, this]
        rfl
      | emb a k x => simp [bothP, isRetP, unitsP, delU, units]
      | ret a m =>
        have : ∀ j : Nat, (List.replicate j (Un.r a)).flatMap delU = List.replicate j .d := fun j => by
          induction j with
          | zero => rfl
          | succ j ih => simp [List.replicate_succ, delU, ih]
        simp only [Piece.len] at hl
        subst hl
        simp [bothP, isRetP, unitsP, this, units, toPiece]
      | del m => exact absurd rfl h4
    rw [e2]
    exact h1
/-- All that two scripts put down does what they do one behind the other. -/
theorem down_beh : ∀ (N : Nat) (ps qs : List Piece), Can ps → Can qs → ps.length + qs.length ≤ N → Beh (units (((stepsP N ps qs).flatMap downS).map toPiece)) (units qs) (units ps) := by
  intro N
  induction N with
  | zero =>
    intro ps qs _ _ hN
    obtain rfl : ps = [] := List.eq_nil_of_length_eq_zero (by omega)
    obtain rfl : qs = [] := List.eq_nil_of_length_eq_zero (by omega)
    intro s _; rfl
  | succ N ih =>
    intro ps qs hp hq hN
    by_cases he : ps = [] ∧ qs = []
    · obtain ⟨rfl, rfl⟩ := he
      intro s _; simp [stepsP, units]; rfl
    · obtain ⟨c1, c2⟩ := step_can hp hq
      have hlen := step_len hp hq he
      have h1 := ih _ _ c1 c2 (by omega)
      obtain ⟨l1, l2⟩ := hp.left
      obtain ⟨l3, l4⟩ := hq.left
      simp only [stepsP]
      rw [if_neg he, List.flatMap_cons, List.map_append, units_app]
      by_cases k1 : kindP qs = 1 ∨ kindP qs = 2
      · rw [stepP_ins k1] at h1 ⊢
        have hok := (next_ok hq.ok l3).1
        have hk : (nextP qs (leftP qs)).1.k = 1 ∨ (nextP qs (leftP qs)).1.k = 2 := by rw [next_k]; exact k1
        simp only [downS, List.map_cons, List.map_nil, units_one, hok.2]
        intro s hs
        rw [beh_ins (ins_units hk) h1 s hs]
        exact next_run hq.ok l3 (run_ok (us_of hp.ok) hs)
      · by_cases k2 : kindP ps = 4
        · rw [stepP_del k1 k2] at h1 ⊢
          have hok := (next_ok hp.ok l1).1
          have hk : (nextP ps (leftP ps)).1.k = 4 := by rw [next_k]; exact k2
          simp only [downS, List.map_cons, List.map_nil, units_one, hok.2]
          intro s hs
          have hD : ∃ n, (nextP ps (leftP ps)).1 = .del n := by
            cases hx : (nextP ps (leftP ps)).1 with
            | del n => exact ⟨n, rfl⟩
            | _ => rw [hx] at hk; simp [Piece.k] at hk
          obtain ⟨n, hD⟩ := hD
          have h2 := next_run hp.ok l1 hs
          rw [hD] at h2 ⊢
          simp only [unitsP] at h2 ⊢
          rw [beh_del h1 _ s hs, h2]
        · rw [stepP_two k1 k2] at h1 ⊢
          have e1 : 1 ≤ min (leftP ps) (leftP qs) := by omega
          have hso := step_ok hp hq
          rw [stepP_two k1 k2] at hso
          rcases hso with ⟨q, e, -⟩ | ⟨p, e, -⟩ | ⟨p, q, e, h2, h3, h4, h5, h6⟩
          · simp at e
          · simp at e
          · simp only [Prod.mk.injEq, Option.some.injEq] at e
            obtain ⟨e2, e3⟩ := e
            simp only [downS]
            intro s hs
            have h7 := next_run (n := min (leftP ps) (leftP qs)) hp.ok e1 hs
            have h8 := next_run (n := min (leftP ps) (leftP qs)) hq.ok e1 (run_ok (us_of hp.ok) hs)
            rw [e2] at h7 ⊢
            rw [e3] at h8 ⊢
            rw [both_units h2 h3 h4 h5 h6 h1 s hs, h7, h8]
theorem plain_units {m : List Op} (h : ∀ o ∈ m, checkOp o = 0) (hp : ∀ o ∈ m, plainO o = true) : ∃ n, units (m.map toPiece) = List.replicate n (.r []) := by
  induction m with
  | nil => exact ⟨0, rfl⟩
  | cons o m ih =>
    obtain ⟨n, hn⟩ := ih (fun x hx => h x (by simp [hx])) fun x hx => hp x (by simp [hx])
    obtain ⟨e, -, -⟩ := plain_op (h o (by simp)) (hp o (by simp))
    refine ⟨o.count.toNat + n, ?_⟩
    rw [List.map_cons, units_cons, hn, ← List.replicate_append_replicate]
    congr 1
    rw [e]
    rfl
theorem short_run {l : List Op} (h : ∀ o ∈ l, checkOp o = 0) {s : Str} (hs : Str.ok s) : run (units ((shortL l).map toPiece)) s = run (units (l.map toPiece)) s := by
  obtain ⟨m, e, hm⟩ := short_split l
  obtain ⟨n, hn⟩ := plain_units (m := m) (fun o ho => h o (by rw [e]; simp [ho])) hm
  conv => rhs; rw [e, List.map_append, units_app, hn]
  exact (run_end n _ hs).symm
end Ve
