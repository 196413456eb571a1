/- Both sides of layer 8, each call told by its number and its units. -/
import Derived.Test.YtapolkhdikdjbaaGreatDoorMB
import Derived.Test.YtapolkhdikdjbaaGreatDoorMD
import Derived.Test.YtapolkhdikdjbaaGreatDoorME
import Derived.Test.YtapolkhdikdjbaaGreatDoorM7
set_option linter.all false
namespace Ve
open Go Go.RowKit Go.Proofs

theorem canon_num {l : List Op} (h : canonL l = true) : (lensL l).1 = bsum (l.map toPiece) ∧ (lensL l).2.1 = rsum (l.map toPiece) ∧ (l.map insO).sum = isum (l.map toPiece) ∧ (l.map dlO).sum = dsum (l.map toPiece) ∧ docL l = (bsum (l.map toPiece) == 0) := by
  obtain ⟨h1, h2, -, -, -⟩ := canon_ok h
  obtain ⟨-, -, h3⟩ := canon_sums h
  have key : ∀ m : List Op, (∀ o ∈ m, checkOp o = 0) → (m.map insO).sum = isum (m.map toPiece) ∧ (m.map dlO).sum = dsum (m.map toPiece) ∧ (docL m = true ↔ docP (m.map toPiece)) := by
    intro m
    induction m with
    | nil => intro _; exact ⟨rfl, rfl, by simp [docL, docP]⟩
    | cons o m ih =>
      intro hm
      obtain ⟨i1, i2, i3⟩ := ih fun x hx => hm x (by simp [hx])
      have ho := hm o (by simp)
      have hr := rlen_ok ho
      have e : insO o = (toPiece o).i ∧ dlO o = (toPiece o).d ∧ isIns o = isI (toPiece o) := by
        rcases ok_kind ho with k | k | k | k
        · have e : toPiece o = .ins o.attrs o.text (Lib.runeCount o.text) := by simp [toPiece, k]
          rw [e] at hr ⊢
          refine ⟨?_, by simp [dlO, k, Piece.d], by simp [isIns, isI, k]⟩
          unfold insO; rw [if_pos (.inl k), hr]; rfl
        · have e : toPiece o = .emb o.attrs o.text o.val := by simp [toPiece, k]
          rw [e] at hr ⊢
          refine ⟨?_, by simp [dlO, k, Piece.d], by simp [isIns, isI, k]⟩
          unfold insO; rw [if_pos (.inr k), hr]; rfl
        · have e : toPiece o = .ret o.attrs o.count := by simp [toPiece, k]
          rw [e]
          exact ⟨by simp [insO, k, Piece.i], by simp [dlO, k, Piece.d], by simp [isIns, isI, k]⟩
        · have e : toPiece o = .del o.count := by simp [toPiece, k]
          rw [e]
          exact ⟨by simp [insO, k, Piece.i], by simp [dlO, k, Piece.d], by simp [isIns, isI, k]⟩
      obtain ⟨e1, e2, e3⟩ := e
      refine ⟨?_, ?_, ?_⟩
      · rw [List.map_cons, List.sum_cons, List.map_cons, isum_cons, i1, e1]
      · rw [List.map_cons, List.sum_cons, List.map_cons, dsum_cons, i2, e2]
      · have : docL (o :: m) = (isIns o && docL m) := by simp [docL]
        rw [this, Bool.and_eq_true, i3, e3]
        simp [docP]
  obtain ⟨k1, k2, k3⟩ := key l h1
  refine ⟨by rw [h3, bsum_map h1], by rw [h3, rsum_map h1], k1, k2, ?_⟩
  have k4 := k3.trans (doc_iff h2)
  cases hd : docL l with
  | true => rw [k4.1 hd]; rfl
  | false =>
    have : ¬ bsum (l.map toPiece) = 0 := fun e => by rw [k4.2 e] at hd; cases hd
    exact (beq_eq_false_iff_ne.2 this).symm
theorem canon_ends {l : List Op} (h : canonL l = true) : endsOk l := by
  obtain ⟨-, -, -, h4⟩ := canon_parts h
  intro o ho ⟨k, ha⟩
  unfold lastOk at h4
  rw [ho] at h4
  simp [k, ha] at h4
theorem ends_app {a b : List Op} (ha : endsOk a) (hb : endsOk b) : endsOk (a ++ b) := by
  intro o ho
  rcases List.eq_nil_or_concat b with rfl | ⟨m, x, rfl⟩
  · rw [List.append_nil] at ho; exact ha o ho
  · exact hb o (by simpa using ho)
theorem small_all {l : List Op} {o : Op} (h : o ∈ l) : o.text.size ≤ opsum l := by
  obtain ⟨k, hk⟩ := List.getElem?_of_mem h
  have h1 := opsum_take hk
  have h2 := opsum_take_le l (k + 1)
  omega
/-- What the builder makes of operations that are not too long. -/
theorem cat_delta {l : List Op} (h : ∀ o ∈ l, checkOp o = 0) (hc : catE l = 0) (hT : opsum l ≤ 1099511627776) : PsOk (putAll .new l).delta ∧ sepL (putAll .new l).delta = true := by
  have c : sumB l ≤ 1099511627776 ∧ sumR l ≤ 1099511627776 := by
    unfold catE at hc
    split at hc
    · assumption
    · omega
  have k1 := push_fits (s := .new) (i := 0) (fun o ho => ⟨h o ho, ok_len (h o ho)⟩) (by rw [show (Bld.new).base = 0 from rfl]; omega) (by rw [show (Bld.new).result = 0 from rfl]; omega)
  obtain ⟨g1, i1, -⟩ := push_good Bld.Good.new Bld.Inv.new (fun o ho => by have := small_all ho; unfold szS; omega) k1
  obtain ⟨d1, d2, -⟩ := delta_good g1 i1
  exact ⟨d1, d2⟩
/-- What a call of the program answers: a delta of these units, or this error. -/
def DUn (U : List Un) (w : World) (v : Value) (E : Int) : Prop := (E = 0 ∧ ∃ Q, DeltaR w v Q ∧ PsOk Q ∧ sepL Q = true ∧ units Q = U) ∨ (1 ≤ E ∧ E ≤ 19 ∧ v = .pointer none)
/-- What a call of the reference answers. -/
def RUn (U : List Un) (w : World) (v : Value) (E : Int) : Prop := E = 0 → ∃ R, RdOps w v (R.map Piece.op) ∧ PsOk R ∧ sepL R = true ∧ units R = U
theorem DUn.gr {U : List Un} {w w' : World} {v : Value} {E : Int} (h : DUn U w v E) (g : Gr w w') : DUn U w' v E :=
  h.imp (fun ⟨h0, Q, hD, r⟩ => ⟨h0, Q, hD.gr g, r⟩) id
theorem RUn.gr {U : List Un} {w w' : World} {v : Value} {E : Int} (h : RUn U w v E) (g : Gr w w') : RUn U w' v E :=
  fun h0 => let ⟨R, hR, r⟩ := h h0; ⟨R, RdOps.gr hR g, r⟩
theorem told08_any {ea : Nat → Addr} (U : List Un) (E : Int) (v vl : Value) (w : World) (hE : Env19 ea w) (hD : DUn U w v E) (hR : RUn U w vl E) :
    Calls Tryz.prog 59 #[v, errOf ea E, vl, .int .i64 E] w fun e w' => e = .returned (.bool true) ∧ Gr w w' := by
  rcases hD with ⟨rfl, Q, hQ, q1, q2, q3⟩ | ⟨h1, h2, rfl⟩
  · obtain ⟨R, hl, r1, r2, r3⟩ := hR rfl
    obtain rfl := units_inj q1 r1 q2 r2 (by rw [q3, r3])
    rw [errOf_zero]
    exact told_good Q v vl w hE hQ q1.good hl
  · exact told_bad E vl w hE h1 h2
theorem cat_app {la lb : List Op} (ha : ∀ o ∈ la, checkOp o = 0) (hb : ∀ o ∈ lb, checkOp o = 0) (h1 : sumB la ≤ 1099511627776) (h2 : sumR la ≤ 1099511627776) :
    pushFrom .new 0 la = (putAll .new la, 0, 0) ∧ (catE (la ++ lb) = 0 → pushFrom (putAll .new la) 0 lb = (putAll .new (la ++ lb), 0, 0)) ∧ (pushFrom (putAll .new la) 0 lb).2.2 = catE (la ++ lb) := by
  have k1 := push_fits (s := .new) (i := 0) (fun o ho => ⟨ha o ho, ok_len (ha o ho)⟩) (by rw [show (Bld.new).base = 0 from rfl]; omega) (by rw [show (Bld.new).result = 0 from rfl]; omega)
  obtain ⟨p1, p2⟩ := putAll_sums (s := .new) ha
  rw [show (Bld.new).base = 0 from rfl, Int.zero_add] at p1
  rw [show (Bld.new).result = 0 from rfl, Int.zero_add] at p2
  have k3 := push_len (s := putAll .new la) (i := 0) hb (by omega) (by omega)
  rw [p1, p2] at k3
  have e : catE (la ++ lb) = if sumB la + sumB lb ≤ 1099511627776 ∧ sumR la + sumR lb ≤ 1099511627776 then 0 else 11 := by unfold catE; rw [sumB_app, sumR_app]
  refine ⟨k1, fun hc => ?_, by rw [k3, e]⟩
  have c : sumB la + sumB lb ≤ 1099511627776 ∧ sumR la + sumR lb ≤ 1099511627776 := by
    rw [e] at hc
    split at hc
    · assumption
    · omega
  have k2 := push_fits (s := putAll .new la) (i := 0) (fun o ho => ⟨hb o ho, ok_len (hb o ho)⟩) (by rw [p1]; omega) (by rw [p2]; omega)
  rw [k2]
  unfold putAll
  rw [List.foldl_append]
theorem cat_told {ea : Nat → Addr} (la lb : List Op) (va vb : Value) (w : World) (hE : Env ea w) (ha : DeltaR w va (la.map toPiece)) (hb : DeltaR w vb (lb.map toPiece)) (hca : canonL la = true) (hcb : canonL lb = true) (hT : opsum la + opsum lb ≤ 1099511627776) (hN : 2 * (la.length + lb.length) + 2 ≤ 1099511627776) :
    Calls Tryz.prog 57 #[va, vb] w fun e w' => ∃ v', e = .returned (.tuple #[v', errOf ea (catE (la ++ lb))]) ∧ DUn (units (putAll .new (la ++ lb)).delta) w' v' (catE (la ++ lb)) ∧ Gr w w' := by
  obtain ⟨a1, a2, -, -, a5⟩ := canon_ok hca
  obtain ⟨b1, b2, -, -, b5⟩ := canon_ok hcb
  obtain ⟨s1, s2, -⟩ := canon_sums hca
  obtain ⟨k1, k2, k3⟩ := cat_app a1 b1 s1 s2
  by_cases c : catE (la ++ lb) = 0
  · refine (concat_any _ _ va vb la lb _ _ w hE ha hb a2.good b2.good a5 b5 k1 (k2 c) hT hN).mono ?_
    rintro e w' ⟨v', rfl, hd, hg⟩
    obtain ⟨d1, d2⟩ := cat_delta (l := la ++ lb) (fun o ho => (List.mem_append.1 ho).elim (a1 o) (b1 o)) c (by rw [opsum_app]; exact hT)
    exact ⟨v', by rw [c, errOf_zero], .inl ⟨c, _, hd, d1, d2, rfl⟩, hg⟩
  · have c' : catE (la ++ lb) = 11 := (catE_or _).resolve_left c
    refine (concat_bad _ _ va vb la lb _ (catE (la ++ lb)) w hE ha hb a2.good b2.good a5 b5 k1 k3 c hT hN).mono ?_
    rintro e w' ⟨rfl, hg⟩
    exact ⟨_, rfl, .inr ⟨by omega, by omega, rfl⟩, hg⟩
theorem rcat_told (la lb : List Op) (va vb : Value) (w : World) (ha : RdOps w va la) (hb : RdOps w vb lb) (hca : canonL la = true) (hcb : canonL lb = true) (hT : opsum la + opsum lb ≤ 1099511627776) (hN : 2 * (la.length + lb.length) + 4 ≤ 1099511627776) :
    Calls Tryz.prog 58 #[va, vb] w fun e w' => ∃ v', e = .returned (.tuple #[v', .int .i64 (catE (la ++ lb))]) ∧ RUn (units (putAll .new (la ++ lb)).delta) w' v' (catE (la ++ lb)) ∧ Gr w w' := by
  obtain ⟨a1, -, -, -, -⟩ := canon_ok hca
  obtain ⟨b1, -, -, -, -⟩ := canon_ok hcb
  obtain ⟨s1, s2, -⟩ := canon_sums hca
  obtain ⟨t1, t2, -⟩ := canon_sums hcb
  have hok : ∀ o ∈ la ++ lb, checkOp o = 0 := fun o ho => (List.mem_append.1 ho).elim (a1 o) (b1 o)
  refine (rconcat08_any la lb va vb w ha hb hok (ends_app (canon_ends hca) (canon_ends hcb)) (by rw [opsum_app]; exact hT) (by rw [sumB_app]; omega) (by rw [List.length_append]; exact hN)).mono ?_
  rintro e w' ⟨v', rfl, hr, hg⟩
  refine ⟨v', rfl, fun c => ?_, hg⟩
  obtain ⟨d1, d2⟩ := cat_delta hok c (by rw [opsum_app]; exact hT)
  have hr := hr c
  rw [canon06_put hok] at hr
  exact ⟨_, hr, d1, d2, rfl⟩
/-- Slice's error and its units. -/
def slE (l : List Op) (f t : Int) : Int := if docL l = false then 9 else if f < 0 ∨ t < f ∨ rsum (l.map toPiece) < t then 12 else 0
def slU (l : List Op) (f t : Int) : List Un := ((units (l.map toPiece)).take t.toNat).drop f.toNat
theorem slice_told {ea : Nat → Addr} (l : List Op) (v : Value) (f t : Int) (w : World) (hE : Env ea w) (hD : DeltaR w v (l.map toPiece)) (hc : canonL l = true) (hT : opsum l + l.length + 2 ≤ 1099511627776) :
    Calls Tryz.prog 60 #[v, .int .i64 f, .int .i64 t] w fun e w' => ∃ v', e = .returned (.tuple #[v', errOf ea (slE l f t)]) ∧ DUn (slU l f t) w' v' (slE l f t) ∧ Gr w w' := by
  obtain ⟨a1, a2, a3, a4, -⟩ := canon_ok hc
  obtain ⟨-, -, -, -, n5⟩ := canon_num hc
  unfold slE
  by_cases c1 : docL l = false
  · rw [if_pos c1]
    refine (slice_doc _ v f t w hE hD a2 a3 a4 (by rw [n5] at c1; simpa using c1)).mono ?_
    rintro e w' ⟨rfl, hg⟩
    exact ⟨_, rfl, .inr ⟨by omega, by omega, rfl⟩, hg⟩
  · rw [if_neg c1]
    have hb : bsum (l.map toPiece) = 0 := by rw [n5] at c1; simpa using c1
    by_cases c2 : f < 0 ∨ t < f ∨ rsum (l.map toPiece) < t
    · rw [if_pos c2]
      refine (slice_range _ v f t w hE hD a2 hb a4 c2).mono ?_
      rintro e w' ⟨rfl, hg⟩
      exact ⟨_, rfl, .inr ⟨by omega, by omega, rfl⟩, hg⟩
    · rw [if_neg c2]
      have hd := (doc_iff a2).2 hb
      have hr := rsum_units a2 hd
      obtain ⟨hlen, husz⟩ := doc_len a1 hd
      obtain ⟨f, rfl⟩ : ∃ m : Nat, f = m := ⟨f.toNat, by omega⟩
      obtain ⟨t, rfl⟩ : ∃ m : Nat, t = m := ⟨t.toNat, by omega⟩
      refine (slice_any _ v f t w hE hD a2 hd (by omega) (by omega) (by omega) (by omega)).mono ?_
      rintro e w' ⟨v', Q, rfl, hq, q1, q2, q3, hg⟩
      exact ⟨v', by rw [errOf_zero], .inl ⟨rfl, Q, hq, q1, q2, by rw [q3]; unfold slU; rw [List.drop_take]; rfl⟩, hg⟩
theorem rslice_told {ea : Nat → Addr} (l : List Op) (v : Value) (f t : Int) (w : World) (hE : Env ea w) (hl : RdOps w v l) (hc : canonL l = true) (hT : opsum l + l.length + 2 ≤ 1099511627776) :
    Calls Tryz.prog 61 #[v, .int .i64 f, .int .i64 t] w fun e w' => ∃ v', e = .returned (.tuple #[v', .int .i64 (slE l f t)]) ∧ RUn (slU l f t) w' v' (slE l f t) ∧ Gr w w' := by
  obtain ⟨a1, a2, a3, a4, a5⟩ := canon_ok hc
  obtain ⟨-, n2, -, -, n5⟩ := canon_num hc
  unfold slE
  by_cases c1 : docL l = false
  · rw [if_pos c1]
    refine (rslice08_doc l v f t w hE hl c1).mono ?_
    rintro e w' ⟨v', rfl, hg⟩
    exact ⟨_, rfl, fun h => absurd h (by decide), hg⟩
  · rw [if_neg c1]
    have c1' : docL l = true := by simpa using c1
    have hb : bsum (l.map toPiece) = 0 := by rw [n5] at c1; simpa using c1
    by_cases c2 : f < 0 ∨ t < f ∨ rsum (l.map toPiece) < t
    · rw [if_pos c2]
      refine (rslice08_range l v f t _ w hE hl c1' n2 c2).mono ?_
      rintro e w' ⟨v', rfl, hg⟩
      exact ⟨_, rfl, fun h => absurd h (by decide), hg⟩
    · rw [if_neg c2]
      have hd := (doc_iff a2).2 hb
      have hr := rsum_units a2 hd
      obtain ⟨hlen, husz⟩ := doc_len a1 hd
      obtain ⟨f, rfl⟩ : ∃ m : Nat, f = m := ⟨f.toNat, by omega⟩
      obtain ⟨t, rfl⟩ : ∃ m : Nat, t = m := ⟨t.toNat, by omega⟩
      refine (rslice08_any (l.map toPiece) v f t w hE (by rw [a5]; exact hl) a2 (canon_sep hc) (by rw [a5]; exact c1') (by rw [a5, n2, hr]) (by omega) (by omega) (by omega)).mono ?_
      rintro e w' ⟨v', R, rfl, hO, r1, r2, r3, hg⟩
      refine ⟨v', rfl, fun _ => ⟨R, OwnM.rd hO hg ?_, r1, r2, by rw [r3]; rfl⟩, hg⟩
      have h1 := len_units r1
      rw [r3, List.length_drop, List.length_take] at h1
      rw [List.length_map]
      omega
/-- Shift's error and its units. -/
def shE (l : List Op) (n : Int) : Int := if n < 0 ∨ 1099511627776 < n then 12 else if n = 0 ∨ l = [] then 0 else catE (retL n ++ l)
def shU (l : List Op) (n : Int) : List Un := if n = 0 ∨ l = [] then units (l.map toPiece) else units (putAll .new (retL n ++ l)).delta
theorem shift_told {ea : Nat → Addr} (l : List Op) (v : Value) (n : Int) (w : World) (hE : Env ea w) (hD : DeltaR w v (l.map toPiece)) (hc : canonL l = true) (hT : opsum l ≤ 1099511627776) (hN : 2 * (1 + l.length) + 2 ≤ 1099511627776) :
    Calls Tryz.prog 62 #[v, .int .i64 n] w fun e w' => ∃ v', e = .returned (.tuple #[v', errOf ea (shE l n)]) ∧ DUn (shU l n) w' v' (shE l n) ∧ Gr w w' := by
  obtain ⟨a1, a2, a3, a4, a5⟩ := canon_ok hc
  unfold shE shU
  by_cases c1 : n < 0 ∨ 1099511627776 < n
  · rw [if_pos c1]
    refine (shift_range v n w hE c1).mono ?_
    rintro e w' ⟨rfl, hg⟩
    exact ⟨_, rfl, .inr ⟨by omega, by omega, rfl⟩, hg⟩
  · rw [if_neg c1]
    by_cases c2 : n = 0 ∨ l = []
    · rw [if_pos c2, if_pos c2]
      obtain ⟨g, sl, rfl, hb, hr⟩ := hD
      have hD : DeltaR w (.pointer (some ⟨g, 0, none⟩)) (l.map toPiece) := ⟨g, sl, rfl, hb, hr⟩
      refine (shift_same _ g n w hD (by omega) (by omega) (c2.imp id fun h => by rw [h]; rfl)).mono ?_
      rintro e w' ⟨rfl, hg⟩
      exact ⟨_, by rw [errOf_zero], .inl ⟨rfl, _, hD.gr hg, a2, canon_sep hc, rfl⟩, hg⟩
    · rw [if_neg c2, if_neg c2]
      have h1 : 1 ≤ n := by omega
      have hne : l ≠ [] := fun e => c2 (.inr e)
      have hlen : (l.map toPiece).length ≠ 0 := by rw [List.length_map]; exact fun e => hne (List.eq_nil_of_length_eq_zero e)
      have k0 := retL_ok h1 (by omega)
      have hb : sumB (retL n) = n := by simp [retL, sumB, baseO, rlen]
      have hr : sumR (retL n) = n := by simp [retL, sumR, resO, rlen]
      obtain ⟨k1, k2, k3⟩ := cat_app (la := retL n) (lb := l) k0 a1 (by omega) (by omega)
      have hck := k0 ⟨3, es, ep, n, []⟩ (by simp [retL])
      have hp : Bld.new.push ⟨3, es, ep, n, []⟩ = (putAll .new (retL n), 0) := by
        rw [push_three hck, if_pos]
        · rfl
        · have e1 : baseO ⟨3, es, ep, n, []⟩ = n := by simp [baseO, rlen]
          have e2 : resO ⟨3, es, ep, n, []⟩ = n := by simp [resO, rlen]
          rw [e1, e2, show (Bld.new).base = 0 from rfl, show (Bld.new).result = 0 from rfl]
          omega
      have hI : (putAll .new (retL n)).Inv 0 1 := by
        have := Bld.Inv.new.push (o := ⟨3, es, ep, n, []⟩) (by rw [hp]) (by simp only [szS]; decide)
        rw [hp] at this
        exact this
      by_cases c : catE (retL n ++ l) = 0
      · refine (shift_any _ v n l _ _ w hE hD a2.good a5 h1 (by omega) hlen hp (k2 c) hI hT hN).mono ?_
        rintro e w' ⟨v', rfl, hd, hg⟩
        obtain ⟨d1, d2⟩ := cat_delta (l := retL n ++ l) (fun o ho => (List.mem_append.1 ho).elim (k0 o) (a1 o)) c (by rw [opsum_app, retL_sum, Nat.zero_add]; exact hT)
        exact ⟨v', by rw [c, errOf_zero], .inl ⟨c, _, hd, d1, d2, rfl⟩, hg⟩
      · have c' : catE (retL n ++ l) = 11 := (catE_or _).resolve_left c
        refine (shift_bad _ v n l _ (catE (retL n ++ l)) w hE hD a2.good a5 h1 (by omega) hlen hp k3 c hI hT hN).mono ?_
        rintro e w' ⟨rfl, hg⟩
        exact ⟨_, rfl, .inr ⟨by omega, by omega, rfl⟩, hg⟩
theorem rshift_told (l : List Op) (v : Value) (n : Int) (w : World) (hl : RdOps w v l) (hc : canonL l = true) (hT : opsum l ≤ 1099511627776) (hN : 2 * l.length + 6 ≤ 1099511627776) :
    Calls Tryz.prog 63 #[v, .int .i64 n] w fun e w' => ∃ v', e = .returned (.tuple #[v', .int .i64 (shE l n)]) ∧ RUn (shU l n) w' v' (shE l n) ∧ Gr w w' := by
  obtain ⟨a1, a2, a3, a4, a5⟩ := canon_ok hc
  obtain ⟨s1, s2, -⟩ := canon_sums hc
  unfold shE shU
  by_cases c1 : n < 0 ∨ 1099511627776 < n
  · rw [if_pos c1]
    refine (rshift08_range l v n w hl c1).mono ?_
    rintro e w' ⟨v', rfl, hg⟩
    exact ⟨_, rfl, fun h => absurd h (by decide), hg⟩
  · rw [if_neg c1]
    by_cases c2 : n = 0 ∨ l = []
    · rw [if_pos c2, if_pos c2]
      refine (rshift08_same l v n w hl (by omega) (by omega) c2).mono ?_
      rintro e w' ⟨v', rfl, hr, hg⟩
      exact ⟨_, rfl, fun _ => ⟨l.map toPiece, by rw [a5]; exact hr, a2, canon_sep hc, rfl⟩, hg⟩
    · rw [if_neg c2, if_neg c2]
      have h1 : 1 ≤ n := by omega
      have hok : ∀ o ∈ retL n ++ l, checkOp o = 0 := fun o ho => (List.mem_append.1 ho).elim (retL_ok h1 (by omega) o) (a1 o)
      refine (rshift08_any l v n w hl h1 (by omega) (fun e => c2 (.inr e)) a1 (canon_ends hc) hT s1 hN).mono ?_
      rintro e w' ⟨v', rfl, hr, hg⟩
      refine ⟨v', rfl, fun c => ?_, hg⟩
      obtain ⟨d1, d2⟩ := cat_delta hok c (by rw [opsum_app, retL_sum, Nat.zero_add]; exact hT)
      have hr := hr c
      rw [canon06_put hok] at hr
      exact ⟨_, hr, d1, d2, rfl⟩
end Ve
