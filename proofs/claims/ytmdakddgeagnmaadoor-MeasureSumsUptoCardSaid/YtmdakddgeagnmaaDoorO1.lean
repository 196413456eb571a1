/- Plain laws of places: neighbours, order, going back. -/
import Derived.Test.YtmdakddgeagnmaaDoorL2
set_option linter.all false
namespace Ve
open Go Go.RowKit Go.Proofs

theorem car_past {p : Int} {b : Bool} {ps : List Piece} : ∀ {g t : Int}, (∀ x ∈ ps, 0 ≤ x.len) → p < g → carP p b g t ps = t := by
  induction ps with
  | nil => intro g t _ _; rfl
  | cons x r ih =>
    intro g t h hp
    have hx := h x (by simp)
    have hr := fun {g t} => @ih g t (fun y hy => h y (by simp [hy]))
    cases x with
    | ret l n => simp only [Piece.len] at hx; simp only [carP]; exact hr (by omega)
    | del n => simp only [Piece.len] at hx; simp only [carP]; rw [hr (by omega)]; omega
    | ins l tx n => simp only [carP]; rw [if_neg (by omega)]; exact hr hp
    | emb l tx v => simp only [carP]; rw [if_neg (by omega)]; exact hr hp
theorem back_ge {q : Int} {ps : List Piece} : ∀ {g out : Int}, (∀ x ∈ ps, 0 ≤ x.len) → out ≤ q → g ≤ backP q g out ps ∧ backP q g out ps ≤ g + bsum ps + (q - out) := by
  induction ps with
  | nil => intro g out _ h; simp only [backP, bsum, List.map_nil, List.sum_nil]; omega
  | cons x r ih =>
    intro g out h hq
    have hx := h x (by simp)
    have hr := fun {g out} => @ih g out (fun y hy => h y (by simp [hy]))
    have hb := bsum_nn (l := r) (fun y hy => h y (by simp [hy]))
    rw [bsum_cons]
    cases x with
    | ret l n =>
      simp only [Piece.len] at hx; simp only [backP, Piece.b]
      by_cases c : q < out + n
      · rw [if_pos c]; omega
      · rw [if_neg c]; have := hr (g := g + n) (out := out + n) (by omega); omega
    | del n => simp only [Piece.len] at hx; simp only [backP, Piece.b]; have := hr (g := g + n) (out := out) hq; omega
    | ins l tx n =>
      simp only [Piece.len] at hx; simp only [backP, Piece.b]
      by_cases c : q < out + n
      · rw [if_pos c]; omega
      · rw [if_neg c]; have := hr (g := g) (out := out + n) (by omega); omega
    | emb l tx v =>
      simp only [backP, Piece.b]
      by_cases c : q < out + 1
      · rw [if_pos c]; omega
      · rw [if_neg c]; have := hr (g := g) (out := out + 1) (by omega); omega
/-- Is the cell number p kept? -/
def keptP (p g : Int) : List Piece → Bool
  | [] => true
  | .ret _ n :: r => keptP p (g + n) r
  | .del n :: r => if g ≤ p ∧ p - g < n then false else keptP p (g + n) r
  | .ins _ _ _ :: r => keptP p g r
  | .emb _ _ _ :: r => keptP p g r
theorem kept_past {p : Int} {ps : List Piece} : ∀ {g : Int}, (∀ x ∈ ps, 0 ≤ x.len) → p < g → keptP p g ps = true := by
  induction ps with
  | nil => intro g _ _; rfl
  | cons x r ih =>
    intro g h hp
    have hx := h x (by simp)
    have hr := fun {g} => @ih g (fun y hy => h y (by simp [hy]))
    cases x with
    | ret l n => simp only [Piece.len] at hx; simp only [keptP]; exact hr (by omega)
    | del n => simp only [Piece.len] at hx; simp only [keptP]; rw [if_neg (by omega)]; exact hr (by omega)
    | ins l tx n => simp only [keptP]; exact hr hp
    | emb l tx v => simp only [keptP]; exact hr hp
/-- A kept cell comes back from its place behind; one that is gone comes back further on. -/
theorem neighbours {p : Int} {ps : List Piece} : ∀ {g out q : Int}, (∀ x ∈ ps, 0 ≤ x.len) → g ≤ p → carP p true g (out + (p - g)) ps = q →
    out ≤ q ∧ p ≤ backP q g out ps ∧ (keptP p g ps = true → backP q g out ps = p) ∧ (keptP p g ps = false → p < backP q g out ps) ∧ backP q g out ps ≤ max p (g + bsum ps) := by
  induction ps with
  | nil =>
    intro g out q _ h hq
    simp only [carP] at hq
    simp only [backP, keptP]
    refine ⟨by omega, by omega, fun _ => by omega, fun h => by simp at h, by omega⟩
  | cons x r ih =>
    intro g out q h hp hq
    have hx := h x (by simp)
    have hn : ∀ y ∈ r, 0 ≤ y.len := fun y hy => h y (by simp [hy])
    have hb := bsum_nn (l := r) hn
    rw [bsum_cons]
    cases x with
    | ret l n =>
      simp only [Piece.len] at hx
      simp only [carP] at hq
      simp only [backP, keptP, Piece.b]
      by_cases c : p < g + n
      · rw [car_past hn c] at hq
        rw [if_pos (by omega), kept_past hn c]
        refine ⟨by omega, by omega, fun _ => by omega, fun h => by simp at h, by omega⟩
      · obtain ⟨i1, i2, i3, i4, i5⟩ := ih (g := g + n) (out := out + n) (q := q) hn (by omega) (by rw [show out + n + (p - (g + n)) = out + (p - g) by omega]; exact hq)
        rw [if_neg (by omega)]
        exact ⟨by omega, i2, i3, i4, by omega⟩
    | del n =>
      simp only [Piece.len] at hx
      simp only [carP] at hq
      simp only [backP, keptP, Piece.b]
      by_cases c : p < g + n
      · rw [car_past hn c] at hq
        rw [if_pos (by omega)]
        have i := back_ge (q := q) (g := g + n) (out := out) hn (by omega)
        refine ⟨by omega, by omega, fun h => by simp at h, fun _ => by omega, by omega⟩
      · obtain ⟨i1, i2, i3, i4, i5⟩ := ih (g := g + n) (out := out) (q := q) hn (by omega) (by rw [show out + (p - (g + n)) = out + (p - g) - min n (max (p - g) 0) by omega]; exact hq)
        rw [if_neg (by omega)]
        exact ⟨by omega, i2, i3, i4, by omega⟩
    | ins l tx n =>
      simp only [Piece.len] at hx
      simp only [carP] at hq
      simp only [backP, keptP, Piece.b]
      rw [if_pos ((Int.lt_or_eq_of_le hp).imp id fun h => by simpa using h)] at hq
      obtain ⟨i1, i2, i3, i4, i5⟩ := ih (g := g) (out := out + n) (q := q) hn hp (by rw [show out + n + (p - g) = out + (p - g) + n by omega]; exact hq)
      rw [if_neg (by omega)]
      exact ⟨by omega, i2, i3, i4, by omega⟩
    | emb l tx v =>
      simp only [carP] at hq
      simp only [backP, keptP, Piece.b]
      rw [if_pos ((Int.lt_or_eq_of_le hp).imp id fun h => by simpa using h)] at hq
      obtain ⟨i1, i2, i3, i4, i5⟩ := ih (g := g) (out := out + 1) (q := q) hn hp (by rw [show out + 1 + (p - g) = out + (p - g) + 1 by omega]; exact hq)
      rw [if_neg (by omega)]
      exact ⟨by omega, i2, i3, i4, by omega⟩
/-- The cells that a piece inserts. -/
def Piece.i : Piece → Int
  | .ins _ _ n => n
  | .emb _ _ _ => 1
  | .ret _ _ => 0
  | .del _ => 0
def isum (l : List Piece) : Int := (l.map Piece.i).sum
theorem isum_cons (p : Piece) (l : List Piece) : isum (p :: l) = p.i + isum l := by simp [isum]
theorem i_nn {p : Piece} (h : 0 ≤ p.len) : 0 ≤ p.i := by cases p <;> simp_all [Piece.len, Piece.i]
theorem isum_nn {l : List Piece} (h : ∀ p ∈ l, 0 ≤ p.len) : 0 ≤ isum l := by
  induction l with
  | nil => simp [isum]
  | cons x l ih => rw [isum_cons]; have := i_nn (h x (by simp)); have := ih (fun p hp => h p (by simp [hp])); omega
theorem car_le {p : Int} {b : Bool} {ps : List Piece} : ∀ {g t : Int}, (∀ x ∈ ps, 0 ≤ x.len) → carP p b g t ps ≤ t + isum ps := by
  induction ps with
  | nil => intro g t _; simp [carP, isum]
  | cons x r ih =>
    intro g t h
    have hx := h x (by simp)
    have hr := fun {g t} => @ih g t (fun y hy => h y (by simp [hy]))
    rw [isum_cons]
    cases x with
    | ret l n => simp only [carP, Piece.i]; have := hr (g := g + n) (t := t); omega
    | del n => simp only [Piece.len] at hx; simp only [carP, Piece.i]; have := hr (g := g + n) (t := t - min n (max (p - g) 0)); omega
    | ins l tx n =>
      simp only [Piece.len] at hx
      simp only [carP, Piece.i]
      split
      · have := hr (g := g) (t := t + n); omega
      · have := hr (g := g) (t := t); omega
    | emb l tx v =>
      simp only [carP, Piece.i]
      split
      · have := hr (g := g) (t := t + 1); omega
      · have := hr (g := g) (t := t); omega
theorem car_add {p : Int} {b : Bool} {ps : List Piece} : ∀ {g t c : Int}, carP p b g (t + c) ps = carP p b g t ps + c := by
  induction ps with
  | nil => intro g t c; rfl
  | cons x r ih =>
    intro g t c
    cases x with
    | ret l n => simp only [carP]; exact ih
    | del n => simp only [carP]; rw [show t + c - min n (max (p - g) 0) = t - min n (max (p - g) 0) + c by omega]; exact ih
    | ins l tx n =>
      simp only [carP]
      split
      · rw [show t + c + n = t + n + c by omega]; exact ih
      · exact ih
    | emb l tx v =>
      simp only [carP]
      split
      · rw [show t + c + 1 = t + 1 + c by omega]; exact ih
      · exact ih
/-- What is inserted just at place p. -/
def insAt (p g : Int) : List Piece → Int
  | [] => 0
  | .ret _ n :: r => insAt p (g + n) r
  | .del n :: r => insAt p (g + n) r
  | .ins _ _ n :: r => (if g = p then n else 0) + insAt p g r
  | .emb _ _ _ :: r => (if g = p then 1 else 0) + insAt p g r
theorem insAt_nn {p : Int} {ps : List Piece} : ∀ {g : Int}, (∀ x ∈ ps, 0 ≤ x.len) → 0 ≤ insAt p g ps ∧ insAt p g ps ≤ isum ps := by
  induction ps with
  | nil => intro g _; simp [insAt, isum]
  | cons x r ih =>
    intro g h
    have hx := h x (by simp)
    have hr := fun {g} => @ih g (fun y hy => h y (by simp [hy]))
    rw [isum_cons]
    cases x with
    | ret l n => simp only [insAt, Piece.i]; have := hr (g := g + n); omega
    | del n => simp only [insAt, Piece.i]; have := hr (g := g + n); omega
    | ins l tx n => simp only [Piece.len] at hx; simp only [insAt, Piece.i]; have := hr (g := g); split <;> omega
    | emb l tx v => simp only [insAt, Piece.i]; have := hr (g := g); split <;> omega
theorem car_gap {p : Int} {ps : List Piece} : ∀ {g t : Int}, carP p true g t ps = carP p false g t ps + insAt p g ps := by
  induction ps with
  | nil => intro g t; simp [carP, insAt]
  | cons x r ih =>
    intro g t
    cases x with
    | ret l n => simp only [carP, insAt]; exact ih
    | del n => simp only [carP, insAt]; exact ih
    | ins l tx n =>
      simp only [carP, insAt]
      by_cases h1 : g < p
      · rw [if_pos (.inl h1), if_pos (.inl h1), if_neg (by omega), ih]; omega
      · by_cases h2 : g = p
        · rw [if_pos (.inr ⟨h2, by simp⟩), if_neg (by simp [h1]), if_pos h2, car_add, ih]; omega
        · rw [if_neg (by simp [h1, h2]), if_neg (by simp [h1]), if_neg h2, ih]; omega
    | emb l tx v =>
      simp only [carP, insAt]
      by_cases h1 : g < p
      · rw [if_pos (.inl h1), if_pos (.inl h1), if_neg (by omega), ih]; omega
      · by_cases h2 : g = p
        · rw [if_pos (.inr ⟨h2, by simp⟩), if_neg (by simp [h1]), if_pos h2, car_add, ih]; omega
        · rw [if_neg (by simp [h1, h2]), if_neg (by simp [h1]), if_neg h2, ih]; omega
theorem car_order {p q : Int} {ps : List Piece} (hpq : p < q) : ∀ {g t u : Int}, (∀ x ∈ ps, 0 ≤ x.len) → max q g - max p g ≤ u - t → carP p true g t ps ≤ carP q false g u ps := by
  induction ps with
  | nil => intro g t u _ h; simp only [carP]; omega
  | cons x r ih =>
    intro g t u h hd
    have hx := h x (by simp)
    have hr := fun {g t u} => @ih g t u (fun y hy => h y (by simp [hy]))
    cases x with
    | ret l n => simp only [Piece.len] at hx; simp only [carP]; exact hr (by omega)
    | del n => simp only [Piece.len] at hx; simp only [carP]; exact hr (by omega)
    | ins l tx n =>
      simp only [Piece.len] at hx
      simp only [carP]
      by_cases h1 : g ≤ p
      · rw [if_pos (by by_cases h : g = p; exact .inr ⟨h, by simp⟩; exact .inl (by omega)), if_pos (.inl (by omega))]; exact hr (by omega)
      · rw [if_neg (by intro h; rcases h with h | h <;> omega)]
        split <;> exact hr (by omega)
    | emb l tx v =>
      simp only [carP]
      by_cases h1 : g ≤ p
      · rw [if_pos (by by_cases h : g = p; exact .inr ⟨h, by simp⟩; exact .inl (by omega)), if_pos (.inl (by omega))]; exact hr (by omega)
      · rw [if_neg (by intro h; rcases h with h | h <;> omega)]
        split <;> exact hr (by omega)
theorem back_mono {p q : Int} {ps : List Piece} (hpq : p ≤ q) : ∀ {g out : Int}, (∀ x ∈ ps, 0 ≤ x.len) → out ≤ p → backP p g out ps ≤ backP q g out ps := by
  induction ps with
  | nil => intro g out _ _; simp only [backP]; omega
  | cons x r ih =>
    intro g out h ho
    have hx := h x (by simp)
    have hn : ∀ y ∈ r, 0 ≤ y.len := fun y hy => h y (by simp [hy])
    have hr := fun {g out} => @ih g out hn
    cases x with
    | ret l n =>
      simp only [Piece.len] at hx; simp only [backP]
      by_cases c : p < out + n
      · rw [if_pos c]
        by_cases d : q < out + n
        · rw [if_pos d]; omega
        · rw [if_neg d]; have := (back_ge (q := q) (g := g + n) (out := out + n) hn (by omega)).1; omega
      · rw [if_neg c, if_neg (by omega)]; exact hr (by omega)
    | del n => simp only [backP]; exact hr ho
    | ins l tx n =>
      simp only [Piece.len] at hx; simp only [backP]
      by_cases c : p < out + n
      · rw [if_pos c]
        by_cases d : q < out + n
        · rw [if_pos d]; omega
        · rw [if_neg d]; have := (back_ge (q := q) (g := g) (out := out + n) hn (by omega)).1; omega
      · rw [if_neg c, if_neg (by omega)]; exact hr (by omega)
    | emb l tx v =>
      simp only [backP]
      by_cases c : p < out + 1
      · rw [if_pos c]
        by_cases d : q < out + 1
        · rw [if_pos d]; omega
        · rw [if_neg d]; have := (back_ge (q := q) (g := g) (out := out + 1) hn (by omega)).1; omega
      · rw [if_neg c, if_neg (by omega)]; exact hr (by omega)
theorem back_le {q : Int} {ps : List Piece} : ∀ {g out : Int}, (∀ x ∈ ps, 0 ≤ x.len) → out ≤ q → backP q g out ps ≤ g + bsum ps + max 0 (q - out - rsum ps) := by
  induction ps with
  | nil => intro g out _ _; simp only [backP, bsum, rsum, List.map_nil, List.sum_nil]; omega
  | cons x r ih =>
    intro g out h ho
    have hx := h x (by simp)
    have hn : ∀ y ∈ r, 0 ≤ y.len := fun y hy => h y (by simp [hy])
    have hr := fun {g out} => @ih g out hn
    have hb := bsum_nn hn
    have hrs := rsum_nn hn
    rw [bsum_cons, rsum_cons]
    cases x with
    | ret l n =>
      simp only [Piece.len] at hx; simp only [backP, Piece.b, Piece.r]
      split
      · omega
      · have := hr (g := g + n) (out := out + n) (by omega); omega
    | del n => simp only [Piece.len] at hx; simp only [backP, Piece.b, Piece.r]; have := hr (g := g + n) (out := out) ho; omega
    | ins l tx n =>
      simp only [Piece.len] at hx; simp only [backP, Piece.b, Piece.r]
      split
      · omega
      · have := hr (g := g) (out := out + n) (by omega); omega
    | emb l tx v =>
      simp only [backP, Piece.b, Piece.r]
      split
      · omega
      · have := hr (g := g) (out := out + 1) (by omega); omega
end Ve
