/- Plain laws of compose: what two scripts put down, one after the other. -/
import Derived.Test.YtnlpmajiccliiaaGreatDoorNA
import Derived.Test.YtnlpmajiccliiaaGreatDoorRO
import Derived.Test.YtnlpmajiccliiaaGreatDoorME
set_option linter.all false
namespace Ve
open Go Go.RowKit Go.Proofs

def isRetP : Piece → Bool
  | .ret _ _ => true
  | _ => false
/-- What cells become that the first script tells by one piece, and the second one by another. -/
def bothP (p q : Piece) : List Op :=
  match q with
  | .del n => if isRetP p = true then [⟨4, es, ep, n, []⟩] else []
  | .ret l _ => [{ p.op with attrs := compA (isRetP p) p.attrs l }]
  | _ => []
def downS : Option Piece × Option Piece → List Op
  | (some p, some q) => bothP p q
  | (some p, none) => [p.op]
  | (none, some q) => [q.op]
  | (none, none) => []
/-- All that two scripts put down, one after the other. -/
def downP (ps qs : List Piece) : List Op := (stepsP (ps.length + qs.length) ps qs).flatMap downS
/-- A list without the plain retains at its end. -/
def shortL (l : List Op) : List Op := (l.reverse.dropWhile plainO).reverse
theorem short_split (l : List Op) : ∃ m, l = shortL l ++ m ∧ ∀ o ∈ m, plainO o = true := by
  refine ⟨(l.reverse.takeWhile plainO).reverse, ?_, fun o ho => ?_⟩
  · unfold shortL
    rw [← List.reverse_append, List.takeWhile_append_dropWhile, List.reverse_reverse]
  · rw [List.mem_reverse] at ho
    have key : ∀ r : List Op, ∀ o ∈ r.takeWhile plainO, plainO o = true := by
      intro r
      induction r with
      | nil => intro o h; cases h
      | cons x r ih =>
        intro o h
        rw [List.takeWhile_cons] at h
        split at h
        · rcases List.mem_cons.1 h with rfl | h
          · assumption
          · exact ih o h
        · cases h
    exact key _ o ho
theorem short_ends (l : List Op) : endsOk (shortL l) := by
  have key : ∀ r : List Op, ∀ o, (r.dropWhile plainO).head? = some o → plainO o = false := by
    intro r
    induction r with
    | nil => intro o h; cases h
    | cons x r ih =>
      intro o h
      rw [List.dropWhile_cons] at h
      split at h
      · exact ih o h
      · rename_i hx
        injection h with h
        subst h
        simpa using hx
  intro o ho ⟨h1, h2⟩
  unfold shortL at ho
  rw [List.getLast?_reverse] at ho
  have := key _ o ho
  simp [plainO, h1, h2] at this
theorem short_snoc (l : List Op) (o : Op) : shortL (l ++ [o]) = if plainO o = true then shortL l else l ++ [o] := by
  unfold shortL
  rw [List.reverse_append, List.reverse_singleton, List.singleton_append, List.dropWhile_cons]
  split <;> simp
theorem short_mem {l : List Op} {o : Op} (h : o ∈ shortL l) : o ∈ l := by
  obtain ⟨m, e, -⟩ := short_split l
  rw [e]; exact List.mem_append_left _ h
theorem short_opsum (l : List Op) : opsum (shortL l) ≤ opsum l ∧ (shortL l).length ≤ l.length := by
  obtain ⟨m, e, -⟩ := short_split l
  have h1 := congrArg opsum e
  have h2 := congrArg List.length e
  rw [opsum_app] at h1
  rw [List.length_append] at h2
  omega
theorem plain_op {o : Op} (h : checkOp o = 0) (hp : plainO o = true) : o = (Piece.ret [] o.count).op ∧ 1 ≤ o.count ∧ o.count ≤ 1099511627776 := by
  simp only [plainO, Bool.and_eq_true, beq_iff_eq, List.length_eq_zero_iff] at hp
  have h1 := op_toPiece h
  have e : toPiece o = .ret [] o.count := by simp [toPiece, hp.1, hp.2]
  rw [e] at h1
  have hk : pOk (.ret [] o.count) := ⟨by rw [h1]; exact h, by rw [h1, e]⟩
  obtain ⟨k1, k2, -⟩ := ret_ok.1 hk
  exact ⟨h1.symm, k1, k2⟩
/-- What is dropped at the end changes nothing. -/
theorem short_canon {l : List Op} (h : ∀ o ∈ l, checkOp o = 0) : canon06 (shortL l) = canon06 l := by
  obtain ⟨m, e, hm⟩ := short_split l
  rw [canon06_put h, canon06_put fun o ho => h o (short_mem ho)]
  congr 1
  have hB : m = ((m.map (·.count)).map (Piece.ret [])).map Piece.op := by
    rw [List.map_map, List.map_map]
    conv => lhs; rw [← List.map_id m]
    refine List.map_congr_left fun o ho => ?_
    exact (plain_op (h o (by rw [e]; exact List.mem_append_right _ ho)) (hm o ho)).1
  conv => rhs; rw [e, putAll_app, hB]
  refine (put_fill _ _ fun n hn => ?_).symm
  obtain ⟨o, ho, rfl⟩ := List.mem_map.1 hn
  exact (plain_op (h o (by rw [e]; exact List.mem_append_right _ ho)) (hm o ho)).2
theorem emb_attrs {a : List Attr} {k : ByteArray} {v : Plain} (h1 : checkOp ⟨2, k, v, 0, a⟩ = 0) : checkAttrs false a = 0 := by
  have hh : hasOnly ⟨2, k, v, 0, a⟩ = true := rfl
  have h2 : refuse ⟨2, k, v, 0, a⟩ = 0 := by simpa [checkOp, hh] using h1
  unfold refuse at h2
  simp only at h2
  repeat' (split at h2)
  all_goals first | exact h2 | omega
theorem bothP_ok {p q : Piece} (hp : pOk p) (hq : pOk q) (h4 : p.k ≠ 4) : ∀ o ∈ bothP p q, checkOp o = 0 := by
  intro o ho
  cases q with
  | ins a t n => cases ho
  | emb a k v => cases ho
  | del n =>
    simp only [bothP] at ho
    split at ho
    · rw [List.mem_singleton.1 ho]; exact hq.1
    · cases ho
  | ret l n =>
    obtain ⟨-, -, hl⟩ := ret_ok.1 hq
    simp only [bothP, List.mem_singleton] at ho
    subst ho
    cases p with
    | del m => exact absurd rfl h4
    | ret a m =>
      obtain ⟨m1, m2, ha⟩ := ret_ok.1 hp
      exact (ret_ok.2 ⟨m1, m2, comp_ok true ha hl⟩).1
    | ins a t m =>
      obtain ⟨i1, i2, i3, i4⟩ := ins_ok.1 hp
      exact (ins_ok.2 ⟨i1, i2, comp_ok false (check_weak i3) hl, i4⟩).1
    | emb a k v =>
      have h1 : checkOp ⟨2, k, v, 0, a⟩ = 0 := hp.1
      show checkOp ⟨2, k, v, 0, compA false a l⟩ = 0
      have hh : hasOnly ⟨2, k, v, 0, a⟩ = true := rfl
      have hh' : hasOnly ⟨2, k, v, 0, compA false a l⟩ = true := rfl
      have h2 : refuse ⟨2, k, v, 0, a⟩ = 0 := by simpa [checkOp, hh] using h1
      have h3 : checkAttrs false a = 0 := by
        unfold refuse at h2
        simp only at h2
        repeat' (split at h2)
        all_goals first | exact h2 | omega
      have h4 := comp_ok false (check_weak h3) hl
      have h5 : refuse ⟨2, k, v, 0, compA false a l⟩ = 0 := by
        unfold refuse at h2 ⊢
        simp only at h2 ⊢
        repeat' (split at h2)
        all_goals first | omega | skip
        repeat' (split)
        all_goals first | exact h4 | omega | (exfalso; simp_all; done)
      simpa [checkOp, hh'] using h5
theorem downS_ok {x : Option Piece × Option Piece} (h : StepOk x) : ∀ o ∈ downS x, checkOp o = 0 := by
  rcases h with ⟨q, rfl, hq, -⟩ | ⟨p, rfl, hp, -⟩ | ⟨p, q, rfl, hp, hq, -, h4, -⟩
  · intro o ho; rw [List.mem_singleton.1 ho]; exact hq.1
  · intro o ho; rw [List.mem_singleton.1 ho]; exact hp.1
  · exact bothP_ok hp hq h4
theorem downS_len (x : Option Piece × Option Piece) : (downS x).length ≤ 1 := by
  obtain ⟨p, q⟩ := x
  cases p <;> cases q <;> simp [downS]
  rename_i p q
  cases q <;> simp [bothP]
  split <;> simp
theorem downS_sum (x : Option Piece × Option Piece) : opsum (downS x) ≤ opsum ((x.1.toList).map Piece.op) + opsum ((x.2.toList).map Piece.op) := by
  obtain ⟨p, q⟩ := x
  cases p <;> cases q <;> simp [downS, opsum]
  rename_i p q
  cases q <;> simp [bothP]
  split <;> simp [es]
  all_goals exact Nat.zero_le _
theorem down_ok {ps qs : List Piece} (hp : Can ps) (hq : Can qs) : ∀ o ∈ downP ps qs, checkOp o = 0 := by
  intro o ho
  obtain ⟨x, hx, hox⟩ := List.mem_flatMap.1 ho
  exact downS_ok (steps_ok _ ps qs hp hq x hx) o hox
theorem flat_len (l : List (Option Piece × Option Piece)) : (l.flatMap downS).length ≤ l.length := by
  induction l with
  | nil => exact Nat.le_refl _
  | cons x l ih => have := downS_len x; rw [List.flatMap_cons, List.length_append, List.length_cons]; omega
theorem down_len (ps qs : List Piece) : (downP ps qs).length ≤ ps.length + qs.length := Nat.le_trans (flat_len _) (steps_len _ _ _)
theorem flat_sum (l : List (Option Piece × Option Piece)) : opsum (l.flatMap downS) ≤ opsum ((l.filterMap (·.1)).map Piece.op) + opsum ((l.filterMap (·.2)).map Piece.op) := by
  induction l with
  | nil => exact Nat.zero_le _
  | cons x l ih =>
    have h := downS_sum x
    rw [List.flatMap_cons, opsum_app]
    obtain ⟨p, q⟩ := x
    have e1 : opsum (((⟨p, q⟩ :: l : List (Option Piece × Option Piece)).filterMap (·.1)).map Piece.op) = opsum ((p.toList).map Piece.op) + opsum ((l.filterMap (·.1)).map Piece.op) := by
      cases p <;> simp [opsum]
    have e2 : opsum (((⟨p, q⟩ :: l : List (Option Piece × Option Piece)).filterMap (·.2)).map Piece.op) = opsum ((q.toList).map Piece.op) + opsum ((l.filterMap (·.2)).map Piece.op) := by
      cases q <;> simp [opsum]
    rw [e1, e2]
    simp only at h
    omega
theorem Side.opsum {ps L : List Piece} (hp : PsOk ps) (h : Side ps L) : Ve.opsum (L.map Piece.op) ≤ tsum ps + 64 * L.length := by
  have hok := h.ok
  obtain ⟨A, B, rfl, ha, hb, hu, e1, e2⟩ := h
  have tA : tsum A = tsum ps := by rw [tsum_usz ha, tsum_usz hp, hu]
  have h1 := opsum_ps hok
  have tB : ∀ B : List Int, tsum (B.map (Piece.ret [])) = 0 := fun B => by induction B with
    | nil => rfl
    | cons n B ih => simp only [tsum, List.map_cons, List.sum_cons, tsize] at ih ⊢; omega
  rw [tsum_app, tA, tB, Nat.add_zero] at h1
  exact h1
theorem down_sum {ps qs : List Piece} (hp : Can ps) (hq : Can qs) : Ve.opsum (downP ps qs) ≤ tsum ps + tsum qs + 128 * (ps.length + qs.length) := by
  obtain ⟨s1, s2⟩ := sides _ ps qs hp hq (Nat.le_refl _)
  have h1 := s1.opsum hp.ok
  have h2 := s2.opsum hq.ok
  have h3 := flat_sum (stepsP (ps.length + qs.length) ps qs)
  have h4 := steps_len (ps.length + qs.length) ps qs
  have h5 := List.length_filterMap_le (f := fun x : Option Piece × Option Piece => x.1) (stepsP (ps.length + qs.length) ps qs)
  have h6 := List.length_filterMap_le (f := fun x : Option Piece × Option Piece => x.2) (stepsP (ps.length + qs.length) ps qs)
  unfold downP
  omega
theorem down_csum {ps qs : List Piece} (hp : Can ps) (hq : Can qs) (hN : ps.length + qs.length ≤ 4000000) : sumB (downP ps qs) ≤ 4611686018427387000 := by
  have h1 := down_ok hp hq
  have h2 := down_len ps qs
  obtain ⟨c1, c2⟩ := csum_base h1
  have key : ∀ l : List Op, (∀ o ∈ l, checkOp o = 0) → csum l ≤ 1099511627776 * l.length := by
    intro l
    induction l with
    | nil => intro _; simp [csum]
    | cons o l ih =>
      intro h
      have i := ih fun x hx => h x (by simp [hx])
      have ho := h o (by simp)
      have hc : o.count ≤ 1099511627776 := by
        have e := op_toPiece ho
        have := (op_count (p := toPiece o) ⟨by rw [e]; exact ho, by rw [e]⟩).2
        rw [e] at this; exact this
      have e : csum (o :: l) = o.count + csum l := by simp [csum]
      rw [e, List.length_cons]
      omega
  have := key _ h1
  omega
end Ve
