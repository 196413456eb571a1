import Derived.Test.YtnlpmajiccliiaaGreatDoorM8
import Derived.Test.YtnlpmajiccliiaaGreatDoorRB
import Derived.Test.YtnlpmajiccliiaaGreatDoorT3
import Derived.Test.YtnlpmajiccliiaaGreatDoorT7
set_option linter.all false
/- Walks: the references of layers 6 and 8: Inserted, Deleted, Document; Short, Concat, Shift. -/
namespace Ve
open Go Go.RowKit Go.Proofs

end Ve
/- Plain laws of layer 8: when a list is too long; what the builder makes of a list that does not end in a plain retain. -/
namespace Ve
open Go Go.RowKit Go.Proofs

/-- A piece whose count may be too long. -/
def wOk : Piece → Prop
  | .ins _ t n => brk t = t.size ∧ n = Lib.runeCount t
  | .emb _ _ _ => True
  | .ret _ n => 0 ≤ n
  | .del n => 0 ≤ n
theorem wOk.len {p : Piece} (h : wOk p) : len06 p.op = p.len ∧ 0 ≤ p.len ∧ (p.op.kind = 1 ∨ p.op.kind = 2 ∨ p.op.kind = 3 ∨ p.op.kind = 4) := by
  cases p with
  | ins a t n => obtain ⟨h1, rfl⟩ := h; exact ⟨by simp [len06, Piece.op, Piece.len], by simp [Piece.len], .inl rfl⟩
  | emb a t x => exact ⟨by simp [len06, Piece.op, Piece.len], by simp [Piece.len], .inr (.inl rfl)⟩
  | ret a n => exact ⟨by simp [len06, Piece.op, Piece.len], h, .inr (.inr (.inl rfl))⟩
  | del n => exact ⟨by simp [len06, Piece.op, Piece.len], h, .inr (.inr (.inr rfl))⟩
theorem ok_brk {o : Op} (h : checkOp o = 0) (k : o.kind = 1) : brk o.text = o.text.size := by
  obtain ⟨ok, t, v, c, l⟩ := o
  simp only at k
  subst k
  have : refuse ⟨1, t, v, c, l⟩ = 0 := by
    cases hh : hasOnly ⟨1, t, v, c, l⟩ with
    | false => simp [checkOp, hh] at h
    | true => simpa [checkOp, hh] using h
  exact (refuse_text this).2.1
theorem wOk.of {o : Op} (h : checkOp o = 0) : wOk (toPiece o) := by
  have hl := ok_len h
  rw [rlen_ok h] at hl
  rcases ok_kind h with k | k | k | k
  · have e : toPiece o = .ins o.attrs o.text (Lib.runeCount o.text) := by simp [toPiece, k]
    rw [e]
    exact ⟨ok_brk h k, rfl⟩
  · rw [show toPiece o = .emb o.attrs o.text o.val by simp [toPiece, k]]; exact trivial
  · rw [show toPiece o = .ret o.attrs o.count by simp [toPiece, k]] at hl ⊢; exact hl
  · rw [show toPiece o = .del o.count by simp [toPiece, k]] at hl ⊢; exact hl
theorem bsum_app (l m : List Piece) : bsum (l ++ m) = bsum l + bsum m := by simp [bsum]
theorem w_nn {l : List Piece} (h : ∀ p ∈ l, wOk p) : 0 ≤ bsum l ∧ 0 ≤ rsum l := by
  induction l with
  | nil => simp [bsum, rsum]
  | cons p l ih =>
    have h1 := (h p (by simp)).len.2.1
    have h2 := ih fun q hq => h q (by simp [hq])
    have e1 : bsum (p :: l) = p.b + bsum l := by simp [bsum]
    have e2 : rsum (p :: l) = p.r + rsum l := by simp [rsum]
    have : 0 ≤ p.b ∧ 0 ≤ p.r := by cases p <;> simp_all [Piece.len, Piece.b, Piece.r]
    omega
/-- ref06.Lengths of pieces. -/
theorem fold_b {l : List Piece} : ∀ {b : Int}, (∀ p ∈ l, wOk p) → 0 ≤ b → b ≤ 1099511627776 → (l.map Piece.op).foldl stB b = if 1099511627776 < b + bsum l then -1 else b + bsum l := by
  have neg : ∀ (m : List Op), m.foldl stB (-1) = -1 := fun m => by induction m with
    | nil => rfl
    | cons o m ih => rw [List.foldl_cons, show stB (-1) o = -1 by simp [stB]]; exact ih
  induction l with
  | nil => intro b _ h0 h1; simp [bsum]; omega
  | cons p l ih =>
    intro b h h0 h1
    have hp := h p (by simp)
    obtain ⟨e1, e2, e3⟩ := hp.len
    have hr := (w_nn fun q hq => h q (by simp [hq]) : 0 ≤ bsum l ∧ 0 ≤ rsum l)
    have e4 : bsum (p :: l) = p.b + bsum l := by simp [bsum]
    rw [List.map_cons, List.foldl_cons, e4]
    have key : stB b p.op = if 1099511627776 < b + p.b then -1 else b + p.b := by
      unfold stB
      rw [e1]
      cases p <;> simp only [Piece.op, Piece.b, Piece.len] at * <;> simp <;> omega
    have hb : 0 ≤ p.b := by cases p <;> simp_all [Piece.len, Piece.b]
    rw [key]
    by_cases c : 1099511627776 < b + p.b
    · rw [if_pos c, neg, if_pos (by omega)]
    · rw [if_neg c, ih (fun q hq => h q (by simp [hq])) (by omega) (by omega)]
      simp only [Int.add_assoc]
theorem fold_r {l : List Piece} : ∀ {b : Int}, (∀ p ∈ l, wOk p) → 0 ≤ b → b ≤ 1099511627776 → (l.map Piece.op).foldl stR b = if 1099511627776 < b + rsum l then -1 else b + rsum l := by
  have neg : ∀ (m : List Op), m.foldl stR (-1) = -1 := fun m => by induction m with
    | nil => rfl
    | cons o m ih => rw [List.foldl_cons, show stR (-1) o = -1 by simp [stR]]; exact ih
  induction l with
  | nil => intro b _ h0 h1; simp [rsum]; omega
  | cons p l ih =>
    intro b h h0 h1
    have hp := h p (by simp)
    obtain ⟨e1, e2, e3⟩ := hp.len
    have hr := (w_nn fun q hq => h q (by simp [hq]) : 0 ≤ bsum l ∧ 0 ≤ rsum l)
    have e4 : rsum (p :: l) = p.r + rsum l := by simp [rsum]
    rw [List.map_cons, List.foldl_cons, e4]
    have key : stR b p.op = if 1099511627776 < b + p.r then -1 else b + p.r := by
      unfold stR
      rw [e1]
      cases p <;> simp only [Piece.op, Piece.r, Piece.len] at * <;> simp <;> omega
    have hb : 0 ≤ p.r := by cases p <;> simp_all [Piece.len, Piece.r]
    rw [key]
    by_cases c : 1099511627776 < b + p.r
    · rw [if_pos c, neg, if_pos (by omega)]
    · rw [if_neg c, ih (fun q hq => h q (by simp [hq])) (by omega) (by omega)]
      simp only [Int.add_assoc]
theorem long_w {l : List Piece} (h : ∀ p ∈ l, wOk p) : long06 (l.map Piece.op) = decide (1099511627776 < bsum l ∨ 1099511627776 < rsum l) := by
  obtain ⟨h1, h2⟩ := w_nn h
  unfold long06
  rw [fold_b h (by omega) (by omega), fold_r h (by omega) (by omega)]
  simp only [Int.zero_add]
  by_cases c1 : 1099511627776 < bsum l <;> by_cases c2 : 1099511627776 < rsum l <;> simp [c1, c2] <;> omega
/-- The builder's state, its lengths whatever they are. -/
structure Wl (s : Bld) : Prop where
  ok : ∀ p ∈ s.pieces, wOk p
  gn : 0 ≤ s.gone
  bs : bsum s.pieces + s.gone = s.base
  rs : rsum s.pieces = s.result
theorem Wl.new : Wl .new := ⟨by simp [Bld.new], by decide, by decide, by decide⟩
theorem del_w {l : List Piece} {g : Int} (h : ∀ p ∈ l, wOk p) (hg : 0 ≤ g) : (∀ p ∈ deletedL l g, wOk p) ∧ bsum (deletedL l g) = bsum l + g ∧ rsum (deletedL l g) = rsum l := by
  unfold deletedL
  split
  · rename_i c; subst c; exact ⟨h, by omega, rfl⟩
  · refine ⟨fun p hp => ?_, by rw [bsum_app]; simp [bsum, Piece.b], by rw [rsum_app]; simp [rsum, Piece.r]⟩
    rcases List.mem_append.1 hp with hp | hp
    · exact h p hp
    · rw [List.mem_singleton.1 hp]; exact hg
theorem join_w {l : List Piece} {p : Piece} (h : ∀ q ∈ l, wOk q) (hp : wOk p) : (∀ q ∈ joinedL l p, wOk q) ∧ bsum (joinedL l p) = bsum l + p.b ∧ rsum (joinedL l p) = rsum l + p.r := by
  rcases snoc_cases l with rfl | ⟨m, q, rfl⟩
  · exact ⟨fun q hq => by rw [List.mem_singleton.1 hq]; exact hp, by simp [joinedL, bsum], by simp [joinedL, rsum]⟩
  · have hq := h q (by simp)
    have hm : ∀ x ∈ m, wOk x := fun x hx => h x (by simp [hx])
    rw [joinedL_snoc]
    cases hj : joinTo q p with
    | none =>
      refine ⟨fun x hx => ?_, by rw [show m ++ [q, p] = (m ++ [q]) ++ [p] by simp, bsum_app]; simp [bsum], by rw [show m ++ [q, p] = (m ++ [q]) ++ [p] by simp, rsum_app]; simp [rsum]⟩
      simp only [List.mem_append, List.mem_cons, List.mem_nil_iff, or_false] at hx
      rcases hx with hx | rfl | rfl
      · exact hm x hx
      · exact hq
      · exact hp
    | some r =>
      have key : wOk r ∧ r.b = q.b + p.b ∧ r.r = q.r + p.r := by
        cases q <;> cases p <;> simp only [joinTo] at hj
        any_goals (cases hj)
        · split at hj
          · injection hj with hj
            subst hj
            obtain ⟨v1, rfl⟩ := hq
            obtain ⟨v2, rfl⟩ := hp
            have := brk_app v1 v2
            refine ⟨⟨this.1, ?_⟩, by simp [Piece.b], by simp [Piece.r]⟩
            rw [← runes_count this.1, ← runes_count v1, ← runes_count v2, this.2, List.length_append]
            omega
          · cases hj
        · split at hj
          · injection hj with hj
            subst hj
            simp only [wOk] at hq hp
            exact ⟨by simp only [wOk]; omega, by simp [Piece.b], by simp [Piece.r]⟩
          · cases hj
      refine ⟨fun x hx => ?_, ?_, ?_⟩
      · rcases List.mem_append.1 hx with hx | hx
        · exact hm x hx
        · rw [List.mem_singleton.1 hx]; exact key.1
      · rw [bsum_app, bsum_app]; simp [bsum, key.2.1]; omega
      · rw [rsum_app, rsum_app]; simp [rsum, key.2.2]; omega
theorem Wl.put {s : Bld} (h : Wl s) {p : Piece} (hp : wOk p) : Wl (s.put p) := by
  obtain ⟨h1, h2, h3, h4⟩ := h
  cases p with
  | del n => exact ⟨h1, by show 0 ≤ s.gone + n; simp only [wOk] at hp; omega, by show bsum s.pieces + (s.gone + n) = s.base + n; omega, h4⟩
  | ret a n =>
    obtain ⟨d1, d2, d3⟩ := del_w h1 h2
    obtain ⟨j1, j2, j3⟩ := join_w d1 hp
    refine ⟨j1, by show (0 : Int) ≤ 0; omega, ?_, ?_⟩
    · show bsum (joinedL (deletedL s.pieces s.gone) (.ret a n)) + 0 = s.base + n
      rw [j2, d2]; simp only [Piece.b]; omega
    · show rsum (joinedL (deletedL s.pieces s.gone) (.ret a n)) = s.result + n
      rw [j3, d3]; simp only [Piece.r]; omega
  | ins a t n =>
    obtain ⟨j1, j2, j3⟩ := join_w h1 hp
    refine ⟨j1, h2, ?_, ?_⟩
    · show bsum (joinedL s.pieces (.ins a t n)) + s.gone = s.base + Piece.b (.ins a t n)
      rw [j2]; simp only [Piece.b]; omega
    · show rsum (joinedL s.pieces (.ins a t n)) = s.result + Piece.r (.ins a t n)
      rw [j3]; omega
  | emb a t x =>
    obtain ⟨j1, j2, j3⟩ := join_w h1 hp
    refine ⟨j1, h2, ?_, ?_⟩
    · show bsum (joinedL s.pieces (.emb a t x)) + s.gone = s.base + Piece.b (.emb a t x)
      rw [j2]; simp only [Piece.b]; omega
    · show rsum (joinedL s.pieces (.emb a t x)) = s.result + Piece.r (.emb a t x)
      rw [j3]; omega
theorem Wl.all {l : List Op} : ∀ {s : Bld}, Wl s → (∀ o ∈ l, checkOp o = 0) → Wl (putAll s l) := by
  induction l with
  | nil => intro s h _; exact h
  | cons o l ih => intro s h hk; exact ih (s := s.put (toPiece o)) (h.put (wOk.of (hk o (by simp)))) fun x hx => hk x (by simp [hx])
theorem push_len {l : List Op} : ∀ {s : Bld} {i : Nat}, (∀ o ∈ l, checkOp o = 0) → s.base ≤ 1099511627776 → s.result ≤ 1099511627776 → (pushFrom s i l).2.2 = if s.base + sumB l ≤ 1099511627776 ∧ s.result + sumR l ≤ 1099511627776 then 0 else 11 := by
  induction l with
  | nil => intro s i _ h1 h2; exact (if_pos (show s.base + sumB [] ≤ 1099511627776 ∧ s.result + sumR [] ≤ 1099511627776 from ⟨by show s.base + 0 ≤ _; omega, by show s.result + 0 ≤ _; omega⟩)).symm
  | cons o l ih =>
    intro s i h h1 h2
    have ho := h o (by simp)
    have hn1 := sumB_nn (l := l) fun x hx => h x (by simp [hx])
    have hn2 := sumR_nn (l := l) fun x hx => h x (by simp [hx])
    have e1 : sumB (o :: l) = baseO o + sumB l := rfl
    have e2 : sumR (o :: l) = resO o + sumR l := rfl
    have p3 := push_three (s := s) ho
    obtain ⟨b1, b2⟩ := put_base s o
    rw [piece_b ho] at b1
    rw [piece_r ho] at b2
    rw [e1, e2]
    by_cases c : s.base + baseO o ≤ 1099511627776 ∧ s.result + resO o ≤ 1099511627776
    · rw [if_pos c] at p3
      have hp : (s.push o).2 = 0 := by rw [p3]
      rw [pushFrom_ok hp, p3, ih (fun x hx => h x (by simp [hx])) (by simp only [b1]; omega) (by simp only [b2]; omega)]
      simp only [b1, b2, Int.add_assoc]
    · rw [if_neg c] at p3
      have hp : (s.push o).2 ≠ 0 := by rw [p3]; simp
      rw [pushFrom_bad hp, p3, if_neg (by omega)]
/-- What does not end in a plain retain keeps its lengths. -/
def endsOk (l : List Op) : Prop := ∀ o, l.getLast? = some o → ¬ (o.kind = 3 ∧ o.attrs = [])
theorem del_last {l : List Piece} {g : Int} (hg : g ≠ 0) : trimmed (deletedL l g) = deletedL l g := by
  unfold deletedL trimmed
  rw [if_neg hg]
  simp
theorem join_trim {l : List Piece} {p : Piece} (hp : ∀ n, p ≠ .ret [] n) : trimmed (joinedL l p) = joinedL l p := by
  have hl : ∀ n, (joinedL l p).getLast? ≠ some (.ret [] n) := by
    intro n
    rcases snoc_cases l with rfl | ⟨m, q, rfl⟩
    · simp only [joinedL, List.getLast?_nil, List.getLast?_singleton]
      exact fun e => hp n (Option.some.inj e)
    · rw [joinedL_snoc]
      cases h : joinTo q p with
      | none =>
        simp only [List.getLast?_append, List.getLast?_cons_cons, List.getLast?_singleton, Option.some_or]
        exact fun e => hp n (Option.some.inj e)
      | some r =>
        simp only [List.getLast?_append, List.getLast?_singleton, Option.some_or]
        intro e
        have e := Option.some.inj e
        subst e
        cases q <;> cases p <;> simp only [joinTo] at h
        any_goals (cases h)
        · split at h
          · injection h with h; cases h
          · cases h
        · rename_i a n1 a' n2
          split at h
          · rename_i c
            injection h with h
            injection h with h3 h4
            subst c
            subst h3
            exact hp _ rfl
          · cases h
  unfold trimmed
  split
  · rename_i n e; exact absurd e (hl n)
  · rfl
theorem delta_len_w {l : List Op} (h : ∀ o ∈ l, checkOp o = 0) (he : endsOk l) : (∀ p ∈ (putAll .new l).delta, wOk p) ∧ bsum (putAll .new l).delta = sumB l ∧ rsum (putAll .new l).delta = sumR l := by
  have hw := Wl.all (l := l) Wl.new h
  obtain ⟨hb, hr⟩ := put_sums (s := .new) h
  obtain ⟨d1, d2, d3⟩ := del_w hw.ok hw.gn
  have ht : (putAll .new l).delta = deletedL (putAll .new l).pieces (putAll .new l).gone := by
    unfold Bld.delta
    rcases List.eq_nil_or_concat l with rfl | ⟨m, o, rfl⟩
    · rfl
    · have ho := h o (by simp)
      have hm : Wl (putAll .new m) := Wl.all Wl.new fun x hx => h x (by simp [hx])
      have hno := he o (by simp)
      rw [show putAll .new (m.concat o) = (putAll .new m).put (toPiece o) by simp [putAll]]
      rcases ok_kind ho with k | k | k | k
      · rw [show toPiece o = .ins o.attrs o.text (Lib.runeCount o.text) by simp [toPiece, k]]
        by_cases c : (putAll .new m).gone = 0
        · show trimmed (deletedL (joinedL _ _) (putAll .new m).gone) = deletedL (joinedL _ _) (putAll .new m).gone
          rw [c]; unfold deletedL; rw [if_pos rfl]; exact join_trim (by simp)
        · exact del_last c
      · rw [show toPiece o = .emb o.attrs o.text o.val by simp [toPiece, k]]
        by_cases c : (putAll .new m).gone = 0
        · show trimmed (deletedL (joinedL _ _) (putAll .new m).gone) = deletedL (joinedL _ _) (putAll .new m).gone
          rw [c]; unfold deletedL; rw [if_pos rfl]; exact join_trim (by simp)
        · exact del_last c
      · rw [show toPiece o = .ret o.attrs o.count by simp [toPiece, k]]
        show trimmed (deletedL (joinedL _ _) 0) = deletedL (joinedL _ _) 0
        unfold deletedL
        rw [if_pos rfl]
        exact join_trim fun n e => hno ⟨k, by injection e⟩
      · rw [show toPiece o = .del o.count by simp [toPiece, k]]
        have hpos := count_pos ho k
        exact del_last (by show (putAll .new m).gone + o.count ≠ 0; have := hm.gn; omega)
  rw [ht]
  refine ⟨d1, ?_, ?_⟩
  · rw [d2, hw.bs, hb]; simp [Bld.new]
  · rw [d3, hw.rs, hr]; simp [Bld.new]
/-- Too long is too long for both. -/
theorem long_push {l : List Op} (h : ∀ o ∈ l, checkOp o = 0) (he : endsOk l) : long06 (canon06 l) = decide ((pushAll l).2.2 ≠ 0) ∧ ((pushAll l).2.2 ≠ 0 → (pushAll l).2.2 = 11) := by
  obtain ⟨d1, d2, d3⟩ := delta_len_w h he
  rw [canon06_put h, long_w d1, d2, d3]
  have hp := push_len (s := .new) (i := 0) h (by decide) (by decide)
  rw [show (Bld.new).base = 0 from rfl, show (Bld.new).result = 0 from rfl, Int.zero_add, Int.zero_add] at hp
  show _ = decide ((pushFrom .new 0 l).2.2 ≠ 0) ∧ ((pushFrom .new 0 l).2.2 ≠ 0 → (pushFrom .new 0 l).2.2 = 11)
  rw [hp]
  by_cases c : sumB l ≤ 1099511627776 ∧ sumR l ≤ 1099511627776
  · rw [if_pos c]; simp; omega
  · rw [if_neg c]; simp; omega
end Ve
/- Walks: the references of layers 6 and 8: Short, Concat, Shift; Slice where it is refused. -/
namespace Ve
open Go Go.RowKit Go.Proofs

theorem flush_len (O G : List Op) (g : Int) : (flush06 O G g).length ≤ O.length + G.length + 1 := by
  have hf : ∀ (G O : List Op), (G.foldl push06 O).length ≤ O.length + G.length := by
    intro G
    induction G with
    | nil => intro O; simp
    | cons o G ih => intro O; have h1 := ih (push06 O o); have h2 := (push06_facts O o).2.2.1; rw [List.foldl_cons, List.length_cons]; omega
  have h1 := hf G O
  have h2 := (push06_facts (G.foldl push06 O) (delO g)).2.2.1
  unfold flush06
  split <;> omega
theorem canonFrom_len (l : List Op) : ∀ (O G : List Op) (g : Int), (canonFrom O G g l).length ≤ O.length + G.length + 1 + 2 * l.length := by
  induction l with
  | nil => intro O G g; have := flush_len O G g; simpa [canonFrom] using this
  | cons o l ih =>
    intro O G g
    simp only [canonFrom]
    split
    · have := ih O (G ++ [o]) g; simp only [List.length_append, List.length_cons, List.length_nil] at this ⊢; omega
    · split
      · have := ih O G (g + o.count); simp only [List.length_cons]; omega
      · have h1 := ih (push06 (flush06 O G g) o) [] 0
        have h2 := (push06_facts (flush06 O G g) o).2.2.1
        have h3 := flush_len O G g
        simp only [List.length_cons, List.length_nil] at h1 ⊢; omega
theorem canon06_len (l : List Op) : (canon06 l).length ≤ 2 * l.length + 1 := by
  have h := canonFrom_len l [] [] 0
  simp only [List.length_nil] at h
  unfold canon06 dropPlain
  split
  · split
    · rw [List.length_dropLast]; omega
    · omega
  · omega
/-- What a list that is put behind the empty one is refused for. -/
def catE (l : List Op) : Int := if sumB l ≤ 1099511627776 ∧ sumR l ≤ 1099511627776 then 0 else 11
theorem catE_push {l : List Op} (h : ∀ o ∈ l, checkOp o = 0) : (pushAll l).2.2 = catE l := by
  have hp := push_len (s := .new) (i := 0) h (by decide) (by decide)
  rw [show (Bld.new).base = 0 from rfl, show (Bld.new).result = 0 from rfl, Int.zero_add, Int.zero_add] at hp
  exact hp
theorem catE_long {l : List Op} (h : ∀ o ∈ l, checkOp o = 0) (he : endsOk l) : long06 (canon06 l) = decide (catE l ≠ 0) := by
  rw [← catE_push h]; exact (long_push h he).1
theorem catE_or (l : List Op) : catE l = 0 ∨ catE l = 11 := by unfold catE; split <;> simp

set_option maxHeartbeats 1000000 in
/-- Of a list whose canonical list is that of another one, which ends well. -/
theorem rshort06_s (l m : List Op) (v : Value) (w : World) (hl : RdOps w v l) (hok : ∀ o ∈ l, checkOp o = 0) (hm : canon06 m = canon06 l) (hmo : ∀ o ∈ m, checkOp o = 0) (he : endsOk m) (hT : opsum l ≤ 1099511627776) (hC : sumB l ≤ 4611686018427387000) (hN : 2 * l.length + 4 ≤ 1099511627776) :
    Calls Tryz.prog 73 #[v] w fun e w' => ∃ v', e = .returned (.tuple #[v', .int .i64 (catE m)]) ∧ (catE m = 0 → RdOps w' v' (canon06 m)) ∧ Gr w w' := by
  obtain ⟨a, n, cap, rfl, -⟩ := hl.sl
  have h1 := catE_long hmo he
  have hE := catE_or m
  obtain ⟨d1, -, -⟩ := delta_len_w hmo he
  have hk : ∀ o ∈ canon06 m, (o.kind = 1 ∨ o.kind = 2 ∨ o.kind = 3 ∨ o.kind = 4) ∧ 0 ≤ len06 o := by
    rw [canon06_put hmo]
    intro o ho
    obtain ⟨p, hp, rfl⟩ := List.mem_map.1 ho
    obtain ⟨e1, e2, e3⟩ := (d1 p hp).len
    exact ⟨e3, by rw [e1]; exact e2⟩
  have hcl := canon06_len l
  obtain ⟨c1, c2⟩ := csum_base hok
  rw [← c1] at hC
  obtain ⟨C, hCC⟩ : ∃ C, canon06 m = C := ⟨_, rfl⟩
  rw [← hm, hCC] at hcl
  rw [hCC] at h1 hk ⊢
  have HC := Lib.hid (show canon06 l = C from hm.symm.trans hCC); clear hCC c1 d1 hm
  obtain ⟨E, hEE⟩ : ∃ E, catE m = E := ⟨_, rfl⟩
  rw [hEE] at h1 hE ⊢
  clear hEE
  rcases hE with rfl | rfl
  · have HL := Lib.hid (show long06 C = false by rw [h1]; rfl); clear h1
    go_enter Tryz.func73, Tryz.ntmps73
    go_wp2_with (first
      | (go_at_call 107; refine (rcanon06_any l _ _ (RdOps.gr hl (by repeat (with_reducible first | assumption | exact Gr.refl _ | apply Gr.alloc | apply Gr.drewN | apply Gr.drew | apply Gr.iter | (refine Gr.setCell ?_ (by simp) _) | (refine Gr.trans ?_ (by assumption))))) hok c2 hT hC hN).mono ?_; rw [HC.out]; rintro e w1 ⟨v1, rfl, ho1, hg1⟩; have hr1 := OwnR.rd ho1 hg1 (by omega); obtain ⟨a1, n1, c1, rfl, -⟩ := ho1.sl)
      | (go_at_call 116; refine (long06_any C _ _ (RdOps.gr hr1 (by repeat (with_reducible first | assumption | exact Gr.refl _ | apply Gr.alloc | apply Gr.drewN | apply Gr.drew | apply Gr.iter | (refine Gr.setCell ?_ (by simp) _) | (refine Gr.trans ?_ (by assumption))))) hk).mono ?_; rw [HL.out]; rintro e w2 ⟨rfl, hg2⟩))
    go_ret2
    exact ⟨_, rfl, fun _ => RdOps.gr hr1 (by repeat (with_reducible first | assumption | exact Gr.refl _ | apply Gr.alloc | apply Gr.drewN | apply Gr.drew | apply Gr.iter | (refine Gr.setCell ?_ (by simp) _) | (refine Gr.trans ?_ (by assumption)))), (by repeat (with_reducible first | assumption | exact Gr.refl _ | apply Gr.alloc | apply Gr.drewN | apply Gr.drew | apply Gr.iter | (refine Gr.setCell ?_ (by simp) _) | (refine Gr.trans ?_ (by assumption))))⟩
  · have HL := Lib.hid (show long06 C = true by rw [h1]; rfl); clear h1
    go_enter Tryz.func73, Tryz.ntmps73
    go_wp2_with (first
      | (go_at_call 107; refine (rcanon06_any l _ _ (RdOps.gr hl (by repeat (with_reducible first | assumption | exact Gr.refl _ | apply Gr.alloc | apply Gr.drewN | apply Gr.drew | apply Gr.iter | (refine Gr.setCell ?_ (by simp) _) | (refine Gr.trans ?_ (by assumption))))) hok c2 hT hC hN).mono ?_; rw [HC.out]; rintro e w1 ⟨v1, rfl, ho1, hg1⟩; have hr1 := OwnR.rd ho1 hg1 (by omega); obtain ⟨a1, n1, c1, rfl, -⟩ := ho1.sl)
      | (go_at_call 116; refine (long06_any C _ _ (RdOps.gr hr1 (by repeat (with_reducible first | assumption | exact Gr.refl _ | apply Gr.alloc | apply Gr.drewN | apply Gr.drew | apply Gr.iter | (refine Gr.setCell ?_ (by simp) _) | (refine Gr.trans ?_ (by assumption))))) hk).mono ?_; rw [HL.out]; rintro e w2 ⟨rfl, hg2⟩))
    go_ret2
    exact ⟨_, rfl, fun h => absurd h (by decide), (by repeat (with_reducible first | assumption | exact Gr.refl _ | apply Gr.alloc | apply Gr.drewN | apply Gr.drew | apply Gr.iter | (refine Gr.setCell ?_ (by simp) _) | (refine Gr.trans ?_ (by assumption))))⟩
theorem small_all {l : List Op} {o : Op} (h : o ∈ l) : o.text.size ≤ opsum l := by
  obtain ⟨k, hk⟩ := List.getElem?_of_mem h
  have h1 := opsum_take hk
  have h2 := opsum_take_le l (k + 1)
  omega
/-- What the builder makes of operations that are not too long. -/
theorem cat_delta {l : List Op} (h : ∀ o ∈ l, checkOp o = 0) (hc : catE l = 0) (hT : opsum l ≤ 1099511627776) : PsOk (putAll .new l).delta ∧ sepL (putAll .new l).delta = true := by
  have c : sumB l ≤ 1099511627776 ∧ sumR l ≤ 1099511627776 := by
    unfold catE at hc
    split at hc
    · assumption
    · omega
  have k1 := push_fits (s := .new) (i := 0) (fun o ho => ⟨h o ho, ok_len (h o ho)⟩) (by rw [show (Bld.new).base = 0 from rfl]; omega) (by rw [show (Bld.new).result = 0 from rfl]; omega)
  obtain ⟨g1, i1, -⟩ := push_good Bld.Good.new Bld.Inv.new (fun o ho => by have := small_all ho; unfold szS; omega) k1
  obtain ⟨d1, d2, -⟩ := delta_good g1 i1
  exact ⟨d1, d2⟩
/-- What a call of the program answers: a delta of these units, or this error. -/
def DUn (U : List Un) (w : World) (v : Value) (E : Int) : Prop := (E = 0 ∧ ∃ Q, DeltaR w v Q ∧ PsOk Q ∧ sepL Q = true ∧ units Q = U) ∨ (1 ≤ E ∧ E ≤ 19 ∧ v = .pointer none)
/-- What a call of the reference answers. -/
def RUn (U : List Un) (w : World) (v : Value) (E : Int) : Prop := E = 0 → ∃ R, RdOps w v (R.map Piece.op) ∧ PsOk R ∧ sepL R = true ∧ units R = U
theorem DUn.gr {U : List Un} {w w' : World} {v : Value} {E : Int} (h : DUn U w v E) (g : Gr w w') : DUn U w' v E :=
  h.imp (fun ⟨h0, Q, hD, r⟩ => ⟨h0, Q, hD.gr g, r⟩) id
theorem RUn.gr {U : List Un} {w w' : World} {v : Value} {E : Int} (h : RUn U w v E) (g : Gr w w') : RUn U w' v E :=
  fun h0 => let ⟨R, hR, r⟩ := h h0; ⟨R, RdOps.gr hR g, r⟩
end Ve
