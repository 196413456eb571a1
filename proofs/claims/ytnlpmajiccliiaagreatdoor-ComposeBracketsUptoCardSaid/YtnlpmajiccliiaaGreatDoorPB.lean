/- Plain laws: what composing makes; its sizes. -/
import Derived.Test.YtnlpmajiccliiaaGreatDoorPA
import Derived.Test.YtnlpmajiccliiaaGreatDoorNG
set_option linter.all false
namespace Ve
open Go Go.RowKit Go.Proofs

/-! Attributes of what is cut. -/
def AtsLe (K : Nat) (ps : List Piece) : Prop := ∀ p ∈ ps, p.attrs.length ≤ K
theorem next_ats {K : Nat} {ps : List Piece} {n : Int} (h : AtsLe K ps) : (nextP ps n).1.attrs.length ≤ K ∧ AtsLe K (nextP ps n).2 := by
  cases ps with
  | nil => exact ⟨Nat.zero_le _, fun p hp => by simp [nextP] at hp⟩
  | cons p r =>
    have h1 := h p (by simp)
    have h2 : AtsLe K r := fun q hq => h q (by simp [hq])
    simp only [nextP]
    split
    · exact ⟨h1, h2⟩
    · have e : (cutP p n).1.attrs.length ≤ K ∧ (cutP p n).2.attrs.length ≤ K := by
        cases p <;> exact ⟨h1, h1⟩
      exact ⟨e.1, fun q hq => by
        rcases List.mem_cons.1 hq with rfl | hq
        · exact e.2
        · exact h2 q hq⟩
theorem steps_ats {K L : Nat} : ∀ (n : Nat) (ps qs : List Piece), AtsLe K ps → AtsLe L qs → ∀ x ∈ stepsP n ps qs, (∀ p, x.1 = some p → p.attrs.length ≤ K) ∧ ∀ q, x.2 = some q → q.attrs.length ≤ L := by
  intro n
  induction n with
  | zero => intro ps qs _ _ x hx; simp [stepsP] at hx
  | succ n ih =>
    intro ps qs h1 h2 x hx
    have key : ((∀ p, (stepP ps qs).1.1 = some p → p.attrs.length ≤ K) ∧ ∀ q, (stepP ps qs).1.2 = some q → q.attrs.length ≤ L) ∧ AtsLe K (stepP ps qs).2.1 ∧ AtsLe L (stepP ps qs).2.2 := by
      unfold stepP
      split
      · exact ⟨⟨fun p e => by simp at e, fun q e => by injection e with e; subst e; exact (next_ats h2).1⟩, h1, (next_ats h2).2⟩
      · split
        · exact ⟨⟨fun p e => by injection e with e; subst e; exact (next_ats h1).1, fun q e => by simp at e⟩, (next_ats h1).2, h2⟩
        · exact ⟨⟨fun p e => by injection e with e; subst e; exact (next_ats h1).1, fun q e => by injection e with e; subst e; exact (next_ats h2).1⟩, (next_ats h1).2, (next_ats h2).2⟩
    simp only [stepsP] at hx
    split at hx
    · simp at hx
    · rcases List.mem_cons.1 hx with rfl | hx
      · exact key.1
      · exact ih _ _ key.2.1 key.2.2 x hx
theorem ats_piece (o : Op) : (toPiece o).attrs.length ≤ o.attrs.length := by
  unfold toPiece
  split
  · exact Nat.le_refl _
  · split
    · exact Nat.le_refl _
    · split
      · exact Nat.zero_le _
      · exact Nat.le_refl _
theorem ats_le {l : List Op} : AtsLe (atsum l) (l.map toPiece) := by
  induction l with
  | nil => intro p hp; simp at hp
  | cons o l ih =>
    intro p hp
    rw [List.map_cons] at hp
    have e : atsum (o :: l) = o.attrs.length + atsum l := by simp [atsum]
    rcases List.mem_cons.1 hp with rfl | hp
    · have := ats_piece o; omega
    · have := ih p hp; omega
theorem tsum_ops (l : List Op) : tsum (l.map toPiece) ≤ opsum l := by
  induction l with
  | nil => exact Nat.le_refl _
  | cons o l ih =>
    have e := tsize_of (o := o)
    simp only [tsum, opsum, List.map_cons, List.sum_cons] at ih ⊢
    omega
theorem AtsLe.mono {K L : Nat} {ps : List Piece} (h : AtsLe K ps) (hk : K ≤ L) : AtsLe L ps := fun p hp => Nat.le_trans (h p hp) hk
/-- What a compose asks for. -/
def CmpPre (ps qs : List Piece) : Prop :=
  ps.length + qs.length ≤ 4000000 ∧ tsum ps + tsum qs ≤ 4000000 ∧ ∀ x ∈ stepsP (ps.length + qs.length) ps qs, (∀ p, x.1 = some p → p.attrs.length ≤ 1048576) ∧ ∀ q, x.2 = some q → q.attrs.length ≤ 1048576
/-- A script's sizes. -/
structure Szd (n : Nat) (ps : List Piece) : Prop where
  can : Can ps
  sz : ∃ T K, tsum ps ≤ T ∧ AtsLe K ps ∧ T + K + ps.length ≤ n
theorem Szd.mono {n m : Nat} {ps : List Piece} (h : Szd n ps) (hm : n ≤ m) : Szd m ps :=
  ⟨h.can, by obtain ⟨T, K, h1, h2, h3⟩ := h.sz; exact ⟨T, K, h1, h2, by omega⟩⟩
theorem Szd.of {l : List Op} {n : Nat} (hc : canonL l = true) (h : opsum l + atsum l + l.length ≤ n) : Szd n (l.map toPiece) :=
  ⟨Can.of_canon hc, opsum l, atsum l, tsum_ops l, ats_le, by rw [List.length_map]; exact h⟩
theorem Szd.pre {n m : Nat} {ps qs : List Piece} (hp : Szd n ps) (hq : Szd m qs) (h : n ≤ 1048576) (h' : m ≤ 1048576) : CmpPre ps qs := by
  obtain ⟨T, K, h1, h2, h3⟩ := hp.sz
  obtain ⟨T', K', h1', h2', h3'⟩ := hq.sz
  refine ⟨by omega, by omega, fun x hx => ?_⟩
  obtain ⟨a, b⟩ := steps_ats _ _ _ h2 h2' x hx
  exact ⟨fun p e => by have := a p e; omega, fun q e => by have := b q e; omega⟩

/-! Sizes of what a builder makes. -/
def potB (s : Bld) : Nat := s.pieces.length + if s.gone = 0 then 0 else 1
theorem put_pot (s : Bld) (p : Piece) : potB (s.put p) ≤ potB s + 1 := by
  unfold potB
  cases p with
  | del n =>
    show s.pieces.length + (if s.gone + n = 0 then 0 else 1) ≤ s.pieces.length + (if s.gone = 0 then 0 else 1) + 1
    split <;> omega
  | ret a n =>
    simp only [Bld.put]
    have h1 := joinedL_len (deletedL s.pieces s.gone) (.ret a n)
    unfold deletedL at h1 ⊢
    split at h1
    · rename_i e; rw [if_pos e, if_pos e]; simp; omega
    · rename_i e; rw [if_neg e, if_neg e]; simp at h1 ⊢; omega
  | ins a t n =>
    simp only [Bld.put]
    have h1 := joinedL_len s.pieces (.ins a t n)
    show (joinedL s.pieces (.ins a t n)).length + (if s.gone = 0 then 0 else 1) ≤ s.pieces.length + (if s.gone = 0 then 0 else 1) + 1
    generalize (if s.gone = 0 then 0 else 1 : Nat) = z
    omega
  | emb a k v =>
    simp only [Bld.put]
    have h1 := joinedL_len s.pieces (.emb a k v)
    show (joinedL s.pieces (.emb a k v)).length + (if s.gone = 0 then 0 else 1) ≤ s.pieces.length + (if s.gone = 0 then 0 else 1) + 1
    generalize (if s.gone = 0 then 0 else 1 : Nat) = z
    omega
theorem putAll_pot (l : List Op) : ∀ (s : Bld), potB (putAll s l) ≤ potB s + l.length := by
  induction l with
  | nil => intro s; exact Nat.le_refl _
  | cons o l ih =>
    intro s
    have h1 := put_pot s (toPiece o)
    have h2 := ih (s.put (toPiece o))
    unfold putAll at h2 ⊢
    rw [List.foldl_cons, List.length_cons]
    omega
theorem trimmed_sub (l : List Piece) : ∀ p ∈ trimmed l, p ∈ l := by
  intro p hp
  unfold trimmed at hp
  split at hp
  · exact List.dropLast_subset _ hp
  · exact hp
theorem trimmed_len (l : List Piece) : (trimmed l).length ≤ l.length := by
  unfold trimmed
  split
  · rw [List.length_dropLast]; omega
  · exact Nat.le_refl _
theorem deleted_len (l : List Piece) (g : Int) : (deletedL l g).length ≤ l.length + if g = 0 then 0 else 1 := by
  unfold deletedL
  split <;> simp
theorem delta_pot (s : Bld) : s.delta.length ≤ potB s := by
  have h1 := trimmed_len (deletedL s.pieces s.gone)
  have h2 := deleted_len s.pieces s.gone
  unfold potB Bld.delta
  omega
theorem made_len (l : List Op) : (putAll .new l).delta.length ≤ l.length := by
  have h1 := delta_pot (putAll .new l)
  have h2 := putAll_pot l .new
  have h3 : potB .new = 0 := rfl
  omega
theorem put_tsum (s : Bld) (p : Piece) : tsum (s.put p).pieces = tsum s.pieces + tsize p := by
  cases p with
  | del n => rfl
  | ret a n => simp only [Bld.put]; rw [joinedL_tsum, tsum_del]
  | ins a t n => simp only [Bld.put]; rw [joinedL_tsum]
  | emb a k v => simp only [Bld.put]; rw [joinedL_tsum]
theorem putAll_tsum (l : List Op) : ∀ (s : Bld), tsum (putAll s l).pieces = tsum s.pieces + tsum (l.map toPiece) := by
  induction l with
  | nil => intro s; rfl
  | cons o l ih =>
    intro s
    have h2 := ih (s.put (toPiece o))
    unfold putAll at h2 ⊢
    rw [List.foldl_cons, h2, put_tsum]
    simp only [tsum, List.map_cons, List.sum_cons]
    omega
theorem made_tsum (l : List Op) : tsum (putAll .new l).delta ≤ tsum (l.map toPiece) := by
  have h1 := putAll_tsum l .new
  have h2 := tsum_trim (deletedL (putAll .new l).pieces (putAll .new l).gone)
  rw [tsum_del] at h2
  have h3 : tsum (Bld.new).pieces = 0 := rfl
  unfold Bld.delta
  omega
theorem joinTo_attrs {q p r : Piece} (h : joinTo q p = some r) : r.attrs = q.attrs := by
  cases q <;> cases p <;> simp [joinTo] at h
  all_goals (obtain ⟨-, rfl⟩ := h; rfl)
theorem ats_joined {K : Nat} {l : List Piece} {p : Piece} (h : AtsLe K l) (hp : p.attrs.length ≤ K) : AtsLe K (joinedL l p) := by
  intro x hx
  rcases joinedL_mem hx with hx | rfl | ⟨q, hq, e⟩
  · exact h x hx
  · exact hp
  · rw [joinTo_attrs e]; exact h q hq
theorem ats_deleted {K : Nat} {l : List Piece} (g : Int) (h : AtsLe K l) : AtsLe K (deletedL l g) := by
  unfold deletedL
  split
  · exact h
  · intro x hx
    rcases List.mem_append.1 hx with hx | hx
    · exact h x hx
    · rw [List.mem_singleton.1 hx]; exact Nat.zero_le _
theorem put_ats {K : Nat} {s : Bld} {p : Piece} (h : AtsLe K s.pieces) (hp : p.attrs.length ≤ K) : AtsLe K (s.put p).pieces := by
  cases p with
  | del n => exact h
  | ret a n => exact ats_joined (ats_deleted _ h) hp
  | ins a t n => exact ats_joined h hp
  | emb a k v => exact ats_joined h hp
theorem putAll_ats {K : Nat} (l : List Op) : ∀ (s : Bld), AtsLe K s.pieces → (∀ o ∈ l, o.attrs.length ≤ K) → AtsLe K (putAll s l).pieces := by
  induction l with
  | nil => intro s h _; exact h
  | cons o l ih =>
    intro s h hl
    have h2 := ih (s.put (toPiece o)) (put_ats h (Nat.le_trans (ats_piece o) (hl o (by simp)))) fun x hx => hl x (by simp [hx])
    unfold putAll at h2 ⊢
    rw [List.foldl_cons]
    exact h2
theorem made_ats {K : Nat} {l : List Op} (h : ∀ o ∈ l, o.attrs.length ≤ K) : AtsLe K (putAll .new l).delta := by
  have h1 := ats_deleted (putAll .new l).gone (putAll_ats (K := K) l .new (fun p hp => by simp [Bld.new] at hp) h)
  exact fun p hp => h1 p (trimmed_sub _ p hp)

/-! What two scripts put down: its sizes. -/
theorem downS_ats {K L : Nat} {x : Option Piece × Option Piece} (h1 : ∀ p, x.1 = some p → p.attrs.length ≤ K) (h2 : ∀ q, x.2 = some q → q.attrs.length ≤ L) : ∀ o ∈ downS x, o.attrs.length ≤ K + L := by
  obtain ⟨p, q⟩ := x
  intro o ho
  cases p with
  | none =>
    cases q with
    | none => simp [downS] at ho
    | some q =>
      simp only [downS, List.mem_singleton] at ho
      subst ho
      rw [op_attrs]
      have := h2 q rfl
      omega
  | some p =>
    have hp := h1 p rfl
    cases q with
    | none =>
      simp only [downS, List.mem_singleton] at ho
      subst ho
      rw [op_attrs]
      omega
    | some q =>
      have hq := h2 q rfl
      simp only [downS] at ho
      cases q with
      | ins a t n => simp [bothP] at ho
      | emb a k v => simp [bothP] at ho
      | ret l n =>
        simp only [bothP, List.mem_singleton] at ho
        subst ho
        have := comp_len (isRetP p) p.attrs l
        simp only [Piece.attrs] at hq
        simp only
        omega
      | del n =>
        simp only [bothP] at ho
        split at ho
        · simp only [List.mem_singleton] at ho
          subst ho
          exact Nat.zero_le _
        · simp at ho
theorem down_ats {K L : Nat} {ps qs : List Piece} (h1 : AtsLe K ps) (h2 : AtsLe L qs) : ∀ o ∈ downP ps qs, o.attrs.length ≤ K + L := by
  intro o ho
  obtain ⟨x, hx, hox⟩ := List.mem_flatMap.1 ho
  obtain ⟨a, b⟩ := steps_ats _ _ _ h1 h2 x hx
  exact downS_ats a b o hox
theorem downS_ts (x : Option Piece × Option Piece) (h : StepOk x) : tsum ((downS x).map toPiece) ≤ tsum x.1.toList + tsum x.2.toList := by
  rcases h with ⟨q, rfl, h1, -⟩ | ⟨p, rfl, h1, -⟩ | ⟨p, q, rfl, h1, h2, -, -, h3⟩
  · simp only [downS, List.map_cons, List.map_nil, h1.2]; simp [tsum]
  · simp only [downS, List.map_cons, List.map_nil, h1.2]; simp [tsum]
  · simp only [downS]
    cases q with
    | ins a t n => simp [Piece.k] at h3
    | emb a k v => simp [Piece.k] at h3
    | ret l n =>
      simp only [bothP, List.map_cons, List.map_nil]
      cases p <;> simp [Piece.op, toPiece, tsum, tsize]
    | del n =>
      simp only [bothP]
      split <;> simp [tsum, tsize, toPiece]
theorem flat_ts (l : List (Option Piece × Option Piece)) (h : ∀ x ∈ l, StepOk x) : tsum ((l.flatMap downS).map toPiece) ≤ tsum (l.filterMap (·.1)) + tsum (l.filterMap (·.2)) := by
  induction l with
  | nil => exact Nat.zero_le _
  | cons x l ih =>
    have h1 := downS_ts x (h x (by simp))
    have h2 := ih fun y hy => h y (by simp [hy])
    rw [List.flatMap_cons, List.map_append, tsum_app]
    obtain ⟨p, q⟩ := x
    have e1 : tsum ((⟨p, q⟩ :: l : List (Option Piece × Option Piece)).filterMap (·.1)) = tsum p.toList + tsum (l.filterMap (·.1)) := by
      cases p <;> simp [tsum]
    have e2 : tsum ((⟨p, q⟩ :: l : List (Option Piece × Option Piece)).filterMap (·.2)) = tsum q.toList + tsum (l.filterMap (·.2)) := by
      cases q <;> simp [tsum]
    rw [e1, e2]
    simp only at h1
    omega
theorem Side.ts {ps L : List Piece} (hp : PsOk ps) (h : Side ps L) : tsum L = tsum ps := by
  obtain ⟨A, B, rfl, ha, hb, hu, e1, e2⟩ := h
  have tA : tsum A = tsum ps := by rw [tsum_usz ha, tsum_usz hp, hu]
  have tB : ∀ B : List Int, tsum (B.map (Piece.ret [])) = 0 := fun B => by induction B with
    | nil => rfl
    | cons n B ih => simp only [tsum, List.map_cons, List.sum_cons, tsize] at ih ⊢; omega
  rw [tsum_app, tA, tB, Nat.add_zero]
theorem down_ts {ps qs : List Piece} (hp : Can ps) (hq : Can qs) : tsum ((downP ps qs).map toPiece) ≤ tsum ps + tsum qs := by
  obtain ⟨s1, s2⟩ := sides _ ps qs hp hq (Nat.le_refl _)
  have h1 := flat_ts _ (steps_ok (ps.length + qs.length) ps qs hp hq)
  rw [s1.ts hp.ok, s2.ts hq.ok] at h1
  exact h1
theorem short_ts (l : List Op) : tsum ((shortL l).map toPiece) ≤ tsum (l.map toPiece) := by
  obtain ⟨m, e, -⟩ := short_split l
  conv => rhs; rw [e, List.map_append, tsum_app]
  omega

/-- What composing two scripts makes. -/
structure Cmp (A B X : List Piece) : Prop where
  can : Can X
  run : ∀ s, Str.ok s → run (units X) s = run (units B) (run (units A) s)
  len : X.length ≤ A.length + B.length
  tsz : tsum X ≤ tsum A + tsum B
  ats : ∀ K L, AtsLe K A → AtsLe L B → AtsLe (K + L) X
theorem comp_cmp {ps qs : List Piece} (hp : Can ps) (hq : Can qs) (hN : ps.length + qs.length ≤ 4000000) (hT : tsum ps + tsum qs ≤ 4000000) (hc : catE (compL ps qs) = 0) : Cmp ps qs (putAll .new (compL ps qs)).delta := by
  obtain ⟨k1, k2, k3⟩ := comp_facts hp hq hN hT
  have hs : ∀ o ∈ compL ps qs, szS o.text := fun o ho => by have := op_mem_size ho; unfold szS; omega
  have hf := catE_fits k1 hc
  have hd := down_ok hp hq
  refine ⟨made_can hs hf, fun s h => ?_, ?_, ?_, fun K L h1 h2 => ?_⟩
  · rw [run_made hs hf h]
    unfold compL
    rw [short_run hd h]
    exact down_beh _ ps qs hp hq (Nat.le_refl _) s h
  · have h1 := made_len (compL ps qs)
    have h2 := (short_opsum (downP ps qs)).2
    have h3 := down_len ps qs
    unfold compL at h1 ⊢
    omega
  · have h1 := made_tsum (compL ps qs)
    have h2 := short_ts (downP ps qs)
    have h3 := down_ts hp hq
    unfold compL at h1 ⊢
    omega
  · exact made_ats fun o ho => down_ats h1 h2 o (short_mem ho)
theorem Cmp.szd {n m : Nat} {A B X : List Piece} (h : Cmp A B X) (hA : Szd n A) (hB : Szd m B) : Szd (n + m) X := by
  obtain ⟨T, K, h1, h2, h3⟩ := hA.sz
  obtain ⟨T', K', h1', h2', h3'⟩ := hB.sz
  have h4 := h.len
  have h5 := h.tsz
  exact ⟨h.can, T + T', K + K', by omega, h.ats K K' h2 h2', by omega⟩
/-- Three scripts in any brackets. -/
theorem cmp_assoc {A B C AB BC L R : List Piece} (h1 : Cmp A B AB) (h2 : Cmp B C BC) (h3 : Cmp AB C L) (h4 : Cmp A BC R) (hA : PsOk A) (hB : PsOk B) : L = R := by
  refine can_inj h3.can h4.can ?_
  rw [h3.run _ (bas_ok 0), h1.run _ (bas_ok 0), h4.run _ (bas_ok 0), h2.run _ (run_ok (us_of hA) (bas_ok 0))]
theorem cmp_nil_right {A X : List Piece} (h : Cmp A [] X) (hA : Can A) : X = A := by
  refine can_inj h.can hA ?_
  rw [h.run _ (bas_ok 0)]
  rfl
theorem cmp_nil_left {A X : List Piece} (h : Cmp [] A X) (hA : Can A) : X = A := by
  refine can_inj h.can hA ?_
  rw [h.run _ (bas_ok 0)]
  rfl
theorem can_nil : Can [] := ⟨by simp [PsOk], rfl, by decide, by decide, by simp [endL]⟩
/-- What composing answers: a script, or the error. -/
def CmpR (ps qs : List Piece) (w : World) (v : Value) (E : Int) : Prop := (E = 0 ∧ ∃ X, DeltaR w v X ∧ Cmp ps qs X ∧ X = (putAll .new (compL ps qs)).delta) ∨ (E = 11 ∧ v = .pointer none)
theorem CmpR.gr {ps qs : List Piece} {w w' : World} {v : Value} {E : Int} (h : CmpR ps qs w v E) (g : Gr w w') : CmpR ps qs w' v E :=
  h.imp (fun ⟨h0, Q, hD, r⟩ => ⟨h0, Q, hD.gr g, r⟩) id

theorem ccompose_cmp {ea : Nat → Addr} (ps qs : List Piece) (va vb : Value) (w : World) (hE : Env ea w) (ha : DeltaR w va ps) (hb : DeltaR w vb qs) (hp : Can ps) (hq : Can qs) (hP : CmpPre ps qs) :
    Calls Tryz.prog 18 #[va, vb] w fun e w' => ∃ v', e = .returned (.tuple #[v', errOf ea (catE (compL ps qs))]) ∧ CmpR ps qs w' v' (catE (compL ps qs)) ∧ Gr w w' := by
  refine (ccompose_told ps qs va vb w hE ha hb hp hq hP.1 hP.2.1 hP.2.2).mono ?_
  rintro e w' ⟨v', rfl, hd, hg⟩
  refine ⟨v', rfl, ?_, hg⟩
  rcases hd with ⟨h0, Q, hQ, q1, q2, q3⟩ | ⟨h1, h2, rfl⟩
  · have hc := comp_cmp hp hq hP.1 hP.2.1 h0
    have e := units_inj q1 hc.can.ok q2 hc.can.sep q3
    subst e
    exact .inl ⟨h0, _, hQ, hc, rfl⟩
  · exact .inr ⟨(catE_or _).resolve_left (by omega), rfl⟩

end Ve
/- Several scripts, one behind the other. -/
namespace Ve
open Go Go.RowKit Go.Proofs

def foldC : List Piece → List (List Piece) → Option (List Piece)
  | D, [] => some D
  | D, x :: r => if catE (compL D x) = 0 then foldC (putAll .new (compL D x)).delta r else none
/-- Scripts whose sizes are together at most n. -/
def SzL : Nat → List (List Piece) → Prop
  | _, [] => True
  | n, x :: r => ∃ m k, Szd m x ∧ SzL k r ∧ m + k ≤ n
theorem SzL.cons {n : Nat} {x : List Piece} {r : List (List Piece)} : SzL n (x :: r) ↔ ∃ m k, Szd m x ∧ SzL k r ∧ m + k ≤ n := Iff.rfl
theorem fold_step {n k : Nat} {D x : List Piece} {r : List (List Piece)} (hD : Szd n D) (h : SzL k (x :: r)) (hn : n + k ≤ 1048576) :
    Can x ∧ CmpPre D x ∧ ∃ m k', SzL k' r ∧ n + m + k' ≤ 1048576 ∧ (catE (compL D x) = 0 → Szd (n + m) (putAll .new (compL D x)).delta) := by
  obtain ⟨m, k', h1, h2, h3⟩ := h
  have hp := hD.pre h1 (by omega) (by omega)
  exact ⟨h1.can, hp, m, k', h2, by omega, fun hc => (comp_cmp hD.can h1.can hp.1 hp.2.1 hc).szd hD h1⟩
theorem CmpR.ok {ps qs : List Piece} {w : World} {v : Value} (h : CmpR ps qs w v 0) : DeltaR w v (putAll .new (compL ps qs)).delta := by
  rcases h with ⟨-, X, hX, -, rfl⟩ | ⟨h, -⟩
  · exact hX
  · cases h
theorem CmpR.no {ps qs : List Piece} {w : World} {v : Value} (h : CmpR ps qs w v 11) : v = .pointer none := by
  rcases h with ⟨h, -⟩ | ⟨-, h⟩
  · cases h
  · exact h
/-- A list of deltas in memory. -/
def DlR (w : World) (D : List Piece) (cs : List Value) : Prop := ∃ g, cs = [.pointer (some ⟨g, 0, none⟩)] ∧ DeltaR w (.pointer (some ⟨g, 0, none⟩)) D
theorem DlR.gr {w w' : World} {D : List Piece} {cs : List Value} (h : DlR w D cs) (g : Gr w w') : DlR w' D cs := by
  obtain ⟨b, e, h⟩ := h
  exact ⟨b, e, h.gr g⟩
abbrev RdDl (w : World) (v : Value) (l : List (List Piece)) : Prop := RdList DlR 1 w v l
theorem RdDl.gr {w w' : World} {v : Value} {l : List (List Piece)} (h : RdDl w v l) (g : Gr w w') : RdDl w' v l := RdList.gr (w := w) h (fun _ _ h => h.gr g) g
theorem DeltaR.ptr {w : World} {v : Value} {D : List Piece} (h : DeltaR w v D) : ∃ g, v = .pointer (some ⟨g, 0, none⟩) := by
  obtain ⟨g, sl, e, -⟩ := h
  exact ⟨g, e⟩
theorem RdDl.at_ {w : World} {a : Option Addr} {n cap : Nat} {l : List (List Piece)} (h : RdDl w (.slice a n cap) l) (i : Nat) (hi : i < n) :
    ∃ b off g D, l[i]? = some D ∧ a = some ⟨b, off, none⟩ ∧ w.cell? ⟨b, off + i, none⟩ = some (.pointer (some ⟨g, 0, none⟩)) ∧ DeltaR w (.pointer (some ⟨g, 0, none⟩)) D := by
  obtain ⟨b, off, D, cs, e, hx, ⟨g, rfl, hd⟩, -, hc⟩ := RdList.get h i hi
  have := hc 0 (.pointer (some ⟨g, 0, none⟩)) (by omega) rfl
  rw [Nat.mul_one, Nat.add_zero] at this
  exact ⟨b, off, g, D, hx, e, this, hd⟩
/-- What a row of composes answers. -/
def FoldR (o : Option (List Piece)) (w : World) (v : Value) (E : Int) : Prop := (∃ D, o = some D ∧ E = 0 ∧ DeltaR w v D) ∨ (o = none ∧ E = 11 ∧ v = .pointer none)
theorem FoldR.gr {o : Option (List Piece)} {w w' : World} {v : Value} {E : Int} (h : FoldR o w v E) (g : Gr w w') : FoldR o w' v E :=
  h.imp (fun ⟨D, a, b, c⟩ => ⟨D, a, b, c.gr g⟩) id
end Ve
