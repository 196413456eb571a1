/- Documents one behind the other; the law MeasureCuts. -/
import Derived.Test.YtapolkhdikdjbaaGreatDoorM6
import Derived.Test.YtapolkhdikdjbaaGreatDoorM5
set_option linter.all false
namespace Ve
open Go Go.RowKit Go.Proofs

theorem sep_of_apart {a b : Op} (ha : checkOp a = 0) (hb : checkOp b = 0) (h : apartO a b = true) : sepP (toPiece a) (toPiece b) = true := by
  refine joinTo_sep (joinTo_apart ha hb h) fun n k ⟨e1, e2⟩ => ?_
  have ka := ok_kind ha
  have kb := ok_kind hb
  have h4 : a.kind = 4 := by rcases ka with k | k | k | k <;> simp [toPiece, k] at e1 ⊢
  have h4' : b.kind = 4 := by rcases kb with k | k | k | k <;> simp [toPiece, k] at e2 ⊢
  simp [apartO, h4, h4'] at h
theorem sepF_of {l : List Op} : ∀ {a : Op}, checkOp a = 0 → (∀ o ∈ l, checkOp o = 0) → apartFrom a l = true → sepF (toPiece a) (l.map toPiece) = true := by
  induction l with
  | nil => intro a _ _ _; rfl
  | cons o l ih =>
    intro a ha hok h
    simp only [apartFrom, Bool.and_eq_true] at h
    simp only [List.map_cons, sepF, Bool.and_eq_true]
    exact ⟨sep_of_apart ha (hok o (by simp)) h.1, ih (hok o (by simp)) (fun x hx => hok x (by simp [hx])) h.2⟩
theorem canon_sep {l : List Op} (h : canonL l = true) : sepL (l.map toPiece) = true := by
  obtain ⟨h1, -, h3, -⟩ := canon_parts h
  cases l with
  | nil => rfl
  | cons o l => exact sepF_of (h1 o (by simp)) (fun x hx => h1 x (by simp [hx])) h3
theorem check_emb (k : ByteArray) (v : Plain) (a : List Attr) (h : checkOp ⟨2, k, v, 0, a⟩ = 0) : k.size ≤ 64 := by
  simp [checkOp, hasOnly, refuse] at h
  by_cases c : k = es ∨ 64 < k.size
  · rw [if_pos c] at h; omega
  · omega
theorem op_text {p : Piece} (h : pOk p) : p.op.text.size ≤ tsize p + 64 := by
  cases p with
  | ins a t n => simp [Piece.op, tsize]
  | emb a k v => have := check_emb k v a h.1; simp only [Piece.op, tsize]; omega
  | ret a n => exact Nat.zero_le _
  | del n => exact Nat.zero_le _
theorem opsum_ps {l : List Piece} (h : PsOk l) : opsum (l.map Piece.op) ≤ tsum l + 64 * l.length := by
  induction l with
  | nil => simp [opsum]
  | cons p l ih =>
    have h1 := op_text (h p (by simp))
    have h2 := ih fun x hx => h x (by simp [hx])
    have e1 : opsum ((p :: l).map Piece.op) = p.op.text.size + opsum (l.map Piece.op) := by simp [opsum]
    have e2 : tsum (p :: l) = tsize p + tsum l := by simp [tsum]
    rw [e1, e2, List.length_cons]; omega
theorem sums_ps {l : List Piece} (h : PsOk l) : sumB (l.map Piece.op) = bsum l ∧ sumR (l.map Piece.op) = rsum l := by
  have h1 := bsum_map h.ops
  have h2 := rsum_map h.ops
  rw [h.back] at h1 h2
  exact ⟨h1.symm, h2.symm⟩
theorem putAll_sums {l : List Op} : ∀ {s : Bld}, (∀ o ∈ l, checkOp o = 0) → (putAll s l).base = s.base + sumB l ∧ (putAll s l).result = s.result + sumR l := by
  induction l with
  | nil => intro s _; simp [putAll, sumB, sumR]
  | cons o l ih =>
    intro s h
    have ho := h o (by simp)
    obtain ⟨e1, e2⟩ := put_base s o
    obtain ⟨i1, i2⟩ := ih (s := s.put (toPiece o)) fun x hx => h x (by simp [hx])
    rw [piece_b ho] at e1
    rw [piece_r ho] at e2
    simp only [sumB, sumR]
    constructor
    · rw [show (putAll s (o :: l)).base = (putAll (s.put (toPiece o)) l).base from rfl, i1, e1]; omega
    · rw [show (putAll s (o :: l)).result = (putAll (s.put (toPiece o)) l).result from rfl, i2, e2]; omega
theorem nrm_doc {u : List Un} : ∀ {out : List Un}, (∀ x ∈ u, ∃ c a, x = Un.i c a) → nrmF out 0 u = out ++ u := by
  induction u with
  | nil => intro out _; simp [nrmF]
  | cons x u ih =>
    intro out h
    obtain ⟨c, a, rfl⟩ := h x (by simp)
    simp only [nrmF]
    rw [ih fun y hy => h y (by simp [hy])]; simp
/-- What holds of the pieces of two lists pushed. -/
theorem cat_push {P Q : List Piece} (hP : PsOk P) (hQ : PsOk Q) (hb : bsum P + bsum Q ≤ 1099511627776) (hr : rsum P + rsum Q ≤ 1099511627776) :
    ∃ s1 s2, pushFrom .new 0 (P.map Piece.op) = (s1, 0, 0) ∧ pushFrom s1 0 (Q.map Piece.op) = (s2, 0, 0) := by
  have b1 := bsum_nn hP.nn
  have b2 := bsum_nn hQ.nn
  have r1 := rsum_nn hP.nn
  have r2 := rsum_nn hQ.nn
  obtain ⟨e1, e2⟩ := sums_ps hP
  obtain ⟨e3, e4⟩ := sums_ps hQ
  have k1 := push_fits (s := .new) (i := 0) (fun o ho => ⟨hP.ops o ho, ok_len (hP.ops o ho)⟩) (by rw [e1]; simp [Bld.new]; omega) (by rw [e2]; simp [Bld.new]; omega)
  obtain ⟨p1, p2⟩ := putAll_sums (s := .new) hP.ops
  have k2 := push_fits (s := putAll .new (P.map Piece.op)) (i := 0) (fun o ho => ⟨hQ.ops o ho, ok_len (hQ.ops o ho)⟩) (by rw [p1, e1, e3]; simp [Bld.new]; omega) (by rw [p2, e2, e4]; simp [Bld.new]; omega)
  exact ⟨_, _, k1, k2⟩
theorem small_text {l : List Piece} (h : PsOk l) (hz : tsum l ≤ 1099511627000) : ∀ o ∈ l.map Piece.op, szS o.text := by
  intro o ho
  obtain ⟨p, hp, rfl⟩ := List.mem_map.1 ho
  have h1 := op_text (h p hp)
  have h2 := tsum_mem hp
  unfold szS; omega
/-- measure.Concat of well formed pieces that are not too long. -/
theorem concat_good {ea : Nat → Addr} (P Q : List Piece) (va vb : Value) (w : World) (hE : Env ea w) (ha : DeltaR w va P) (hb : DeltaR w vb Q) (hP : PsOk P) (hQ : PsOk Q)
    (h1 : bsum P + bsum Q ≤ 1099511627776) (h2 : rsum P + rsum Q ≤ 1099511627776) (hz : tsum P + tsum Q + 64 * (P.length + Q.length) ≤ 1099511620000) :
    Calls Tryz.prog 57 #[va, vb] w fun e w' => ∃ v' R, e = .returned (.tuple #[v', .nilIface]) ∧ DeltaR w' v' R ∧ PsOk R ∧ sepL R = true ∧ units R = trimU (nrmF [] 0 (units P ++ units Q)) ∧ Gr w w' := by
  obtain ⟨s1, s2, k1, k2⟩ := cat_push hP hQ h1 h2
  have o1 := opsum_ps hP
  have o2 := opsum_ps hQ
  obtain ⟨g1, i1, u1⟩ := push_good Bld.Good.new Bld.Inv.new (small_text hP (by omega)) k1
  obtain ⟨g2, i2, u2⟩ := push_good g1 i1 (small_text hQ (by omega)) k2
  obtain ⟨d1, d2, d3⟩ := delta_good g2 i2
  have e : units s2.delta = trimU (nrmF [] 0 (units P ++ units Q)) := by
    rw [d3, ← u2 [], List.append_nil, ← u1, hP.back, hQ.back]; rfl
  exact (concat_any P Q va vb _ _ s1 s2 w hE ha hb hP.good hQ.good rfl rfl k1 k2 (by omega) (by simp only [List.length_map]; omega)).mono fun e' w' ⟨v', h1, h2, h3⟩ => ⟨v', _, h1, h2, d1, d2, e, h3⟩
theorem doc_len {l : List Op} (h : ∀ o ∈ l, checkOp o = 0) (hd : docP (l.map toPiece)) : (units (l.map toPiece)).length ≤ opsum l + l.length ∧ usz (units (l.map toPiece)) ≤ opsum l := by
  induction l with
  | nil => simp [units, usz, opsum]
  | cons o l ih =>
    obtain ⟨i1, i2⟩ := ih (fun x hx => h x (by simp [hx])) (fun x hx => hd x (by simp [hx]))
    have ho := h o (by simp)
    have hp : pOk (toPiece o) := ⟨by rw [op_toPiece ho]; exact ho, by rw [op_toPiece ho]⟩
    have hi := hd (toPiece o) (by simp)
    have hl := unitsP_len hp
    have hz := tsize_usz hp
    have hts := tsize_of (o := o)
    have e1 : opsum (o :: l) = o.text.size + opsum l := by simp [opsum]
    rw [List.map_cons, units_cons, List.length_append, usz_app, e1, List.length_cons]
    refine ⟨?_, by omega⟩
    have : (toPiece o).len ≤ o.text.size + 1 := by
      have hk := ok_kind ho
      rcases hk with k | k | k | k
      · have e : toPiece o = .ins o.attrs o.text (Lib.runeCount o.text) := by simp [toPiece, k]
        rw [e]; have := Lib.runeCount_le o.text; simp only [Piece.len]; omega
      · have e : toPiece o = .emb o.attrs o.text o.val := by simp [toPiece, k]
        rw [e]; simp only [Piece.len]; omega
      · have e : toPiece o = .ret o.attrs o.count := by simp [toPiece, k]
        rw [e] at hi; cases hi
      · have e : toPiece o = .del o.count := by simp [toPiece, k]
        rw [e] at hi; cases hi
    omega
theorem slice_int {ea : Nat → Addr} (ps : List Piece) (v : Value) (f t : Int) (w : World) (U : List Un) (hE : Env ea w) (hD : DeltaR w v ps) (hok : PsOk ps) (hdoc : docP ps) (hU : units ps = U) (h0 : 0 ≤ f) (h1 : f ≤ t) (h2 : t ≤ U.length)
    (hz : usz U ≤ 1048576) (hl : U.length ≤ 2097152) :
    Calls Tryz.prog 60 #[v, .int .i64 f, .int .i64 t] w fun e w' => ∃ g sl Q, e = .returned (.tuple #[.pointer (some ⟨g, 0, none⟩), .nilIface]) ∧ DeltaR w' (.pointer (some ⟨g, 0, none⟩)) Q ∧ Hid (PsOk Q ∧ sepL Q = true ∧ docP Q ∧ units Q = (U.drop f.toNat).take (t.toNat - f.toNat) ∧ bsum Q = 0 ∧ rsum Q = t - f ∧ usz (units Q) ≤ 1048576 ∧ (units Q).length ≤ 2097152 ∧ tsum Q ≤ 1048576 ∧ Q.length ≤ 2097152) ∧ Gr w w' ∧ sl = () := by
  obtain ⟨f, rfl⟩ : ∃ m : Nat, f = m := ⟨f.toNat, by omega⟩
  obtain ⟨t, rfl⟩ : ∃ m : Nat, t = m := ⟨t.toNat, by omega⟩
  subst hU
  refine (slice_any ps v f t w hE hD hok hdoc (by omega) (by omega) (by omega) (by omega)).mono ?_
  rintro e w' ⟨v', Q, rfl, hd, k1, k2, k3, hg⟩
  obtain ⟨g, sl, rfl, hb, hr⟩ := hd
  have hdu := doc_units hdoc
  have hdQ : docP Q := doc_of_units k1 (by rw [k3]; exact fun x hx => hdu x (List.mem_of_mem_drop (List.mem_of_mem_take hx)))
  have hu : usz (units Q) ≤ 1048576 := by rw [k3]; exact Nat.le_trans (usz_take _ _) (Nat.le_trans (usz_drop _ _) hz)
  have hlq : (units Q).length = t - f := by rw [k3, List.length_take, List.length_drop]; omega
  have h4 := len_units k1
  refine ⟨g, (), Q, rfl, ⟨g, sl, rfl, hb, hr⟩, Lib.hid ⟨k1, k2, hdQ, by simpa using k3, (doc_iff k1).1 hdQ, ?_, hu, by omega, by rw [tsum_usz k1]; exact hu, by omega⟩, hg, rfl⟩
  rw [rsum_units k1 hdQ, hlq]; omega
theorem concat_doc {ea : Nat → Addr} (P Q : List Piece) (va vb : Value) (w : World) (hE : Env ea w) (ha : DeltaR w va P) (hb : DeltaR w vb Q) (hP : PsOk P) (hQ : PsOk Q) (dP : docP P) (dQ : docP Q) (U : List Un) (hU : units P ++ units Q = U)
    (hz : usz U ≤ 1048576) (hl : U.length ≤ 2097152) :
    Calls Tryz.prog 57 #[va, vb] w fun e w' => ∃ g R, e = .returned (.tuple #[.pointer (some ⟨g, 0, none⟩), .nilIface]) ∧ DeltaR w' (.pointer (some ⟨g, 0, none⟩)) R ∧ Hid (PsOk R ∧ sepL R = true ∧ docP R ∧ units R = U) ∧ Gr w w' := by
  have hz' := congrArg usz hU
  have hl' := congrArg List.length hU
  rw [usz_app] at hz'
  rw [List.length_append] at hl'
  have l1 := len_units hP
  have l2 := len_units hQ
  have t1 := tsum_usz hP
  have t2 := tsum_usz hQ
  have r1 := rsum_units hP dP
  have r2 := rsum_units hQ dQ
  have b1 := (doc_iff hP).1 dP
  have b2 := (doc_iff hQ).1 dQ
  refine (concat_good P Q va vb w hE ha hb hP hQ (by omega) (by omega) (by omega)).mono ?_
  rintro e w' ⟨v', R, rfl, hd, k1, k2, k3, hg⟩
  obtain ⟨g, sl, rfl, hb', hr'⟩ := hd
  have hdu : ∀ x ∈ units P ++ units Q, ∃ c a, x = Un.i c a := fun x hx => (List.mem_append.1 hx).elim (doc_units dP x) (doc_units dQ x)
  rw [nrm_doc hdu, List.nil_append, trim_doc hdu, hU] at k3
  exact ⟨g, R, rfl, ⟨g, sl, rfl, hb', hr'⟩, Lib.hid ⟨k1, k2, doc_of_units k1 (by rw [k3, ← hU]; exact hdu), k3⟩, hg⟩
theorem umod (i : Int) (n : Nat) (hn : n ≤ 2097152) : ∃ I : Int, wrap64 ((IntKind.u64.wrap i).tmod ((n : Int) + 1)) = I ∧ 0 ≤ I ∧ I ≤ n := by
  have h1 : 0 ≤ IntKind.u64.wrap i := by
    have e : IntKind.u64.wrap i = i % 2 ^ IntKind.u64.bits := by simp [IntKind.wrap, IntKind.signed]
    rw [e]
    exact Int.emod_nonneg i (show (2 : Int) ^ IntKind.u64.bits ≠ 0 by decide)
  have h2 : (IntKind.u64.wrap i).tmod ((n : Int) + 1) = (IntKind.u64.wrap i) % ((n : Int) + 1) := Int.tmod_eq_emod_of_nonneg h1
  have h3 := Int.emod_nonneg (IntKind.u64.wrap i) (b := (n : Int) + 1) (by omega)
  have h4 := Int.emod_lt_of_pos (IntKind.u64.wrap i) (b := (n : Int) + 1) (by omega)
  refine ⟨(IntKind.u64.wrap i) % ((n : Int) + 1), ?_, h3, by omega⟩
  rw [h2]; unfold wrap64; omega
theorem cuts_all {U : List Un} (a b : Nat) (h : a ≤ b) : (U.drop 0).take (a - 0) ++ (U.drop a).take (b - a) = U.take b ∧ U.take b ++ (U.drop b).take (U.length - b) = U := by
  constructor
  · rw [List.drop_zero, Nat.sub_zero, ← List.take_add]; congr 1; omega
  · rw [List.take_of_length_le (i := U.length - b) (by rw [List.length_drop]; omega), List.take_append_drop]
theorem cut_again {U : List Un} {A B : Int} (h0 : 0 ≤ A) (h1 : A ≤ B) (h2 : B ≤ U.length) :
    ((((U.drop A.toNat).take ((U.length : Int).toNat - A.toNat)).drop (0 : Int).toNat).take ((B - A).toNat - (0 : Int).toNat)) = (U.drop A.toNat).take (B.toNat - A.toNat) := by
  rw [show (0 : Int).toNat = 0 from rfl, List.drop_zero, List.take_take]
  congr 1; omega
set_option maxRecDepth 20000 in
set_option maxHeartbeats 8000000 in
theorem measureCuts_any {ea : Nat → Addr} (l : List Op) (v : Value) (i j : Int) (w : World) (hE : Env ea w) (hl : RdOps w v l) (hT : opsum l ≤ 1048576) (hN : l.length ≤ 1048576) :
    Calls Tryz.prog 9 #[v, .int .i64 i, .int .i64 j] w fun e w' => e = .returned (.bool true) ∧ Gr w w' := by
  obtain ⟨a, n, cap, rfl, -, -, -, -⟩ := hl.sl
  cases hc : canonL l with
  | false =>
    have HC := Lib.hid hc; clear hc
    go_enter Tryz.func9, Tryz.ntmps9
    go_wp2_with (first
      | (go_at_call 44; refine (fixed08_any _ (hE.gr (by repeat (with_reducible first | assumption | exact Gr.refl _ | apply Gr.alloc | apply Gr.drewN | apply Gr.drew | apply Gr.iter | (refine Gr.setCell ?_ (by simp) _) | (refine Gr.trans ?_ (by assumption)))))).mono ?_; rintro e w1 ⟨rfl, hg1⟩)
      | (go_at_call 45; refine (of08_no l _ _ (hE.gr (by repeat (with_reducible first | assumption | exact Gr.refl _ | apply Gr.alloc | apply Gr.drewN | apply Gr.drew | apply Gr.iter | (refine Gr.setCell ?_ (by simp) _) | (refine Gr.trans ?_ (by assumption))))) (RdOps.gr hl (by repeat (with_reducible first | assumption | exact Gr.refl _ | apply Gr.alloc | apply Gr.drewN | apply Gr.drew | apply Gr.iter | (refine Gr.setCell ?_ (by simp) _) | (refine Gr.trans ?_ (by assumption))))) HC.out).mono ?_; rintro e w2 ⟨rfl, hg2⟩))
    go_ret
    exact ⟨rfl, (by repeat (with_reducible first | assumption | exact Gr.refl _ | apply Gr.alloc | apply Gr.drewN | apply Gr.drew | apply Gr.iter | (refine Gr.setCell ?_ (by simp) _) | (refine Gr.trans ?_ (by assumption))))⟩
  | true =>
    obtain ⟨hok, h2, h3, h4, h5⟩ := canon_ok hc
    have hsep := canon_sep hc
    have HC := Lib.hid hc; clear hc
    have hsz := Lib.hid (And.intro h3 h4)
    by_cases hdoc : docP (l.map toPiece)
    · have hb0 := (doc_iff h2).1 hdoc
      have hr0 := rsum_units h2 hdoc
      have hdu := doc_units hdoc
      obtain ⟨hlen, husz⟩ := doc_len hok hdoc
      obtain ⟨X, hX⟩ : ∃ X, l.map toPiece = X := ⟨_, rfl⟩
      rw [hX] at h2 hdoc hb0 hr0 hdu hlen husz hsep h5
      obtain ⟨U, hU⟩ : ∃ U, units X = U := ⟨_, rfl⟩
      rw [hU] at hr0 hdu hlen husz
      have HX := Lib.hid (And.intro hX (And.intro hU (And.intro hb0 (And.intro hr0 (And.intro hdu (And.intro hsep h5)))))); clear hX hU hb0 hr0 hdu hsep h5 hok
      have HDC := Lib.hid hdoc; clear hdoc
      go_enter Tryz.func9, Tryz.ntmps9
      go_wp2_with (first
        | (go_at_call 44; refine (fixed08_any _ (hE.gr (by repeat (with_reducible first | assumption | exact Gr.refl _ | apply Gr.alloc | apply Gr.drewN | apply Gr.drew | apply Gr.iter | (refine Gr.setCell ?_ (by simp) _) | (refine Gr.trans ?_ (by assumption)))))).mono ?_; rintro e w1 ⟨rfl, hg1⟩)
        | (go_at_call 45; refine (of08_yes l _ _ (hE.gr (by repeat (with_reducible first | assumption | exact Gr.refl _ | apply Gr.alloc | apply Gr.drewN | apply Gr.drew | apply Gr.iter | (refine Gr.setCell ?_ (by simp) _) | (refine Gr.trans ?_ (by assumption))))) (RdOps.gr hl (by repeat (with_reducible first | assumption | exact Gr.refl _ | apply Gr.alloc | apply Gr.drewN | apply Gr.drew | apply Gr.iter | (refine Gr.setCell ?_ (by simp) _) | (refine Gr.trans ?_ (by assumption))))) (by omega) (by omega) HC.out).mono ?_; rw [HX.out.1]; rintro e w2 ⟨v2, rfl, hd2, hg2⟩; obtain ⟨g1, sl1, hv1, hbr1⟩ := hd2; subst hv1; have hD : DeltaR w2 (.pointer (some ⟨g1, 0, none⟩)) X := ⟨g1, sl1, rfl, hbr1⟩; clear hbr1)
        | (go_at_call 55; refine (document_any X _ _ (hE.gr (by repeat (with_reducible first | assumption | exact Gr.refl _ | apply Gr.alloc | apply Gr.drewN | apply Gr.drew | apply Gr.iter | (refine Gr.setCell ?_ (by simp) _) | (refine Gr.trans ?_ (by assumption))))) (hD.gr (by repeat (with_reducible first | assumption | exact Gr.refl _ | apply Gr.alloc | apply Gr.drewN | apply Gr.drew | apply Gr.iter | (refine Gr.setCell ?_ (by simp) _) | (refine Gr.trans ?_ (by assumption))))) h2 (by rw [HX.out.2.2.1]; decide) (by rw [HX.out.2.2.2.1]; omega)).mono ?_; rw [HX.out.2.2.1]; rintro e w3 ⟨rfl, hg3⟩)
        | (go_at_call 49; refine (result_any X _ _ (hE.gr (by repeat (with_reducible first | assumption | exact Gr.refl _ | apply Gr.alloc | apply Gr.drewN | apply Gr.drew | apply Gr.iter | (refine Gr.setCell ?_ (by simp) _) | (refine Gr.trans ?_ (by assumption))))) (hD.gr (by repeat (with_reducible first | assumption | exact Gr.refl _ | apply Gr.alloc | apply Gr.drewN | apply Gr.drew | apply Gr.iter | (refine Gr.setCell ?_ (by simp) _) | (refine Gr.trans ?_ (by assumption))))) h2 (by rw [HX.out.2.2.1]; decide) (by rw [HX.out.2.2.2.1]; omega)).mono ?_; rw [HX.out.2.2.2.1]; rintro e w4 ⟨rfl, hg4⟩))
      obtain ⟨I, hI, hI0, hI1⟩ := umod i U.length (by omega)
      obtain ⟨J, hJ, hJ0, hJ1⟩ := umod j U.length (by omega)
      go_quiet (fail)
      rw [hI, hJ]
      clear hI hJ
      obtain ⟨A, hA⟩ : ∃ A, min I J = A := ⟨_, rfl⟩
      obtain ⟨B, hB⟩ : ∃ B, max I J = B := ⟨_, rfl⟩
      have hA0 : 0 ≤ A := by omega
      have hAB : A ≤ B := by omega
      have hBn : B ≤ U.length := by omega
      have HM := Lib.hid (And.intro hA hB); clear hA hB hI0 hI1 hJ0 hJ1
      have hz1 : usz U ≤ 1048576 := by omega
      have hl1 : U.length ≤ 2097152 := by omega
      have HZ := Lib.hid (And.intro hz1 hl1); clear hlen husz hz1
      obtain ⟨cA, cB⟩ := cuts_all (U := U) A.toNat B.toNat (by omega)
      have HC1 := Lib.hid (And.intro (show (U.drop (0 : Int).toNat).take (A.toNat - (0 : Int).toNat) ++ (U.drop A.toNat).take (B.toNat - A.toNat) = U.take B.toNat from cA) (show U.take B.toNat ++ (U.drop B.toNat).take ((U.length : Int).toNat - B.toNat) = U from cB)); clear cA cB
      go_wp2_with (first
        | (go_at_call 60; (try rw [HM.out.1]); (try rw [HM.out.2]); (with_reducible refine (slice_int X _ 0 A _ U (hE.gr (by repeat (with_reducible first | assumption | exact Gr.refl _ | apply Gr.alloc | apply Gr.drewN | apply Gr.drew | apply Gr.iter | (refine Gr.setCell ?_ (by simp) _) | (refine Gr.trans ?_ (by assumption))))) (hD.gr (by repeat (with_reducible first | assumption | exact Gr.refl _ | apply Gr.alloc | apply Gr.drewN | apply Gr.drew | apply Gr.iter | (refine Gr.setCell ?_ (by simp) _) | (refine Gr.trans ?_ (by assumption))))) h2 HDC.out HX.out.2.1 (by omega) (by omega) (by omega) HZ.out.1 HZ.out.2).mono ?_); rintro e w5 ⟨gP, -, P, rfl, hDP, HP, hg5, -⟩)
        | (go_at_call 60; (try rw [HM.out.1]); (try rw [HM.out.2]); (with_reducible refine (slice_int X _ A B _ U (hE.gr (by repeat (with_reducible first | assumption | exact Gr.refl _ | apply Gr.alloc | apply Gr.drewN | apply Gr.drew | apply Gr.iter | (refine Gr.setCell ?_ (by simp) _) | (refine Gr.trans ?_ (by assumption))))) (hD.gr (by repeat (with_reducible first | assumption | exact Gr.refl _ | apply Gr.alloc | apply Gr.drewN | apply Gr.drew | apply Gr.iter | (refine Gr.setCell ?_ (by simp) _) | (refine Gr.trans ?_ (by assumption))))) h2 HDC.out HX.out.2.1 (by omega) (by omega) (by omega) HZ.out.1 HZ.out.2).mono ?_); rintro e w6 ⟨gQ, -, Q, rfl, hDQ, HQ, hg6, -⟩)
        | (go_at_call 60; (try rw [HM.out.1]); (try rw [HM.out.2]); (with_reducible refine (slice_int X _ B (U.length : Int) _ U (hE.gr (by repeat (with_reducible first | assumption | exact Gr.refl _ | apply Gr.alloc | apply Gr.drewN | apply Gr.drew | apply Gr.iter | (refine Gr.setCell ?_ (by simp) _) | (refine Gr.trans ?_ (by assumption))))) (hD.gr (by repeat (with_reducible first | assumption | exact Gr.refl _ | apply Gr.alloc | apply Gr.drewN | apply Gr.drew | apply Gr.iter | (refine Gr.setCell ?_ (by simp) _) | (refine Gr.trans ?_ (by assumption))))) h2 HDC.out HX.out.2.1 (by omega) (by omega) (by omega) HZ.out.1 HZ.out.2).mono ?_); rintro e w7 ⟨gR, -, R, rfl, hDR, HR, hg7, -⟩)
        | (go_at_call 49; (with_reducible refine (result_any P _ _ (hE.gr (by repeat (with_reducible first | assumption | exact Gr.refl _ | apply Gr.alloc | apply Gr.drewN | apply Gr.drew | apply Gr.iter | (refine Gr.setCell ?_ (by simp) _) | (refine Gr.trans ?_ (by assumption))))) (hDP.gr (by repeat (with_reducible first | assumption | exact Gr.refl _ | apply Gr.alloc | apply Gr.drewN | apply Gr.drew | apply Gr.iter | (refine Gr.setCell ?_ (by simp) _) | (refine Gr.trans ?_ (by assumption))))) HP.out.1 (by rw [HP.out.2.2.2.2.1]; decide) (by rw [HP.out.2.2.2.2.2.1]; omega)).mono ?_); rw [show rsum P = A from HP.out.2.2.2.2.2.1.trans (by omega)]; rintro e w8 ⟨rfl, hg8⟩)
        | (go_at_call 49; (with_reducible refine (result_any Q _ _ (hE.gr (by repeat (with_reducible first | assumption | exact Gr.refl _ | apply Gr.alloc | apply Gr.drewN | apply Gr.drew | apply Gr.iter | (refine Gr.setCell ?_ (by simp) _) | (refine Gr.trans ?_ (by assumption))))) (hDQ.gr (by repeat (with_reducible first | assumption | exact Gr.refl _ | apply Gr.alloc | apply Gr.drewN | apply Gr.drew | apply Gr.iter | (refine Gr.setCell ?_ (by simp) _) | (refine Gr.trans ?_ (by assumption))))) HQ.out.1 (by rw [HQ.out.2.2.2.2.1]; decide) (by rw [HQ.out.2.2.2.2.2.1]; omega)).mono ?_); rw [show rsum Q = B - A from HQ.out.2.2.2.2.2.1.trans (by omega)]; rintro e w9 ⟨rfl, hg9⟩)
        | (go_at_call 49; (with_reducible refine (result_any R _ _ (hE.gr (by repeat (with_reducible first | assumption | exact Gr.refl _ | apply Gr.alloc | apply Gr.drewN | apply Gr.drew | apply Gr.iter | (refine Gr.setCell ?_ (by simp) _) | (refine Gr.trans ?_ (by assumption))))) (hDR.gr (by repeat (with_reducible first | assumption | exact Gr.refl _ | apply Gr.alloc | apply Gr.drewN | apply Gr.drew | apply Gr.iter | (refine Gr.setCell ?_ (by simp) _) | (refine Gr.trans ?_ (by assumption))))) HR.out.1 (by rw [HR.out.2.2.2.2.1]; decide) (by rw [HR.out.2.2.2.2.2.1]; omega)).mono ?_); rw [show rsum R = (U.length : Int) - B from HR.out.2.2.2.2.2.1.trans (by omega)]; rintro e w10 ⟨rfl, hg10⟩)
        | (go_at_call 57; (with_reducible refine (concat_doc P Q _ _ _ (hE.gr (by repeat (with_reducible first | assumption | exact Gr.refl _ | apply Gr.alloc | apply Gr.drewN | apply Gr.drew | apply Gr.iter | (refine Gr.setCell ?_ (by simp) _) | (refine Gr.trans ?_ (by assumption))))) (hDP.gr (by repeat (with_reducible first | assumption | exact Gr.refl _ | apply Gr.alloc | apply Gr.drewN | apply Gr.drew | apply Gr.iter | (refine Gr.setCell ?_ (by simp) _) | (refine Gr.trans ?_ (by assumption))))) (hDQ.gr (by repeat (with_reducible first | assumption | exact Gr.refl _ | apply Gr.alloc | apply Gr.drewN | apply Gr.drew | apply Gr.iter | (refine Gr.setCell ?_ (by simp) _) | (refine Gr.trans ?_ (by assumption))))) HP.out.1 HQ.out.1 HP.out.2.2.1 HQ.out.2.2.1 (U.take B.toNat) (by rw [HP.out.2.2.2.1, HQ.out.2.2.2.1]; exact HC1.out.1) (Nat.le_trans (usz_take _ _) HZ.out.1) (Nat.le_trans (List.length_take_le' _ _) HZ.out.2)).mono ?_); rintro e w11 ⟨gS, S, rfl, hDS, HS, hg11⟩)
        | (go_at_call 57; (with_reducible refine (concat_doc S R _ _ _ (hE.gr (by repeat (with_reducible first | assumption | exact Gr.refl _ | apply Gr.alloc | apply Gr.drewN | apply Gr.drew | apply Gr.iter | (refine Gr.setCell ?_ (by simp) _) | (refine Gr.trans ?_ (by assumption))))) (hDS.gr (by repeat (with_reducible first | assumption | exact Gr.refl _ | apply Gr.alloc | apply Gr.drewN | apply Gr.drew | apply Gr.iter | (refine Gr.setCell ?_ (by simp) _) | (refine Gr.trans ?_ (by assumption))))) (hDR.gr (by repeat (with_reducible first | assumption | exact Gr.refl _ | apply Gr.alloc | apply Gr.drewN | apply Gr.drew | apply Gr.iter | (refine Gr.setCell ?_ (by simp) _) | (refine Gr.trans ?_ (by assumption))))) HS.out.1 HR.out.1 HS.out.2.2.1 HR.out.2.2.1 U ((congr (congrArg HAppend.hAppend HS.out.2.2.2) HR.out.2.2.2.1).trans HC1.out.2) HZ.out.1 HZ.out.2).mono ?_); rintro e w12 ⟨gT, T, rfl, hDT, HT, hg12⟩; have hTX : T.map Piece.op = l := (congrArg (List.map Piece.op) (units_inj HT.out.1 h2 HT.out.2.1 HX.out.2.2.2.2.2.1 (HT.out.2.2.2.trans HX.out.2.1.symm))).trans HX.out.2.2.2.2.2.2; have HTX := Lib.hid hTX; clear hTX)
        | (go_at_call 60; (try rw [HM.out.1]); (try rw [HM.out.2]); (with_reducible refine (slice_int X _ A (U.length : Int) _ U (hE.gr (by repeat (with_reducible first | assumption | exact Gr.refl _ | apply Gr.alloc | apply Gr.drewN | apply Gr.drew | apply Gr.iter | (refine Gr.setCell ?_ (by simp) _) | (refine Gr.trans ?_ (by assumption))))) (hD.gr (by repeat (with_reducible first | assumption | exact Gr.refl _ | apply Gr.alloc | apply Gr.drewN | apply Gr.drew | apply Gr.iter | (refine Gr.setCell ?_ (by simp) _) | (refine Gr.trans ?_ (by assumption))))) h2 HDC.out HX.out.2.1 (by omega) (by omega) (by omega) HZ.out.1 HZ.out.2).mono ?_); rintro e w13 ⟨gV, -, V, rfl, hDV, HV, hg13, -⟩; have hvl : ((units V).length : Int) = (U.length : Int) - A := (by rw [HV.out.2.2.2.1, List.length_take, List.length_drop]; omega); have HVL := Lib.hid hvl; clear hvl)
        | (go_at_call 64; (with_reducible refine (is08_any T l _ _ _ (hDT.gr (by repeat (with_reducible first | assumption | exact Gr.refl _ | apply Gr.alloc | apply Gr.drewN | apply Gr.drew | apply Gr.iter | (refine Gr.setCell ?_ (by simp) _) | (refine Gr.trans ?_ (by assumption))))) (PsOk.good HT.out.1) (RdOps.gr hl (by repeat (with_reducible first | assumption | exact Gr.refl _ | apply Gr.alloc | apply Gr.drewN | apply Gr.drew | apply Gr.iter | (refine Gr.setCell ?_ (by simp) _) | (refine Gr.trans ?_ (by assumption)))))).mono ?_); rw [HTX.out, decide_eq_true (rfl : l = l)]; rintro e w14 ⟨rfl, hg14⟩)
        | (go_at_call 60; (with_reducible refine (slice_int V _ 0 (B - A) _ (units V) (hE.gr (by repeat (with_reducible first | assumption | exact Gr.refl _ | apply Gr.alloc | apply Gr.drewN | apply Gr.drew | apply Gr.iter | (refine Gr.setCell ?_ (by simp) _) | (refine Gr.trans ?_ (by assumption))))) (hDV.gr (by repeat (with_reducible first | assumption | exact Gr.refl _ | apply Gr.alloc | apply Gr.drewN | apply Gr.drew | apply Gr.iter | (refine Gr.setCell ?_ (by simp) _) | (refine Gr.trans ?_ (by assumption))))) HV.out.1 HV.out.2.2.1 rfl (by omega) (by omega) (by rw [HVL.out]; omega) HV.out.2.2.2.2.2.2.1 HV.out.2.2.2.2.2.2.2.1).mono ?_); rintro e w15 ⟨gY, -, Y, rfl, hDY, HY, hg15, -⟩; have hyq : Y.map Piece.op = Q.map Piece.op := congrArg (List.map Piece.op) (units_inj HY.out.1 HQ.out.1 HY.out.2.1 HQ.out.2.1 (by (rw [HY.out.2.2.2.1, HQ.out.2.2.2.1, HV.out.2.2.2.1]; exact cut_again (by omega) (by omega) (by omega)))); have HYQ := Lib.hid hyq; clear hyq)
        | (go_at_call 36; (with_reducible refine (dops_any Q _ _ (hDQ.gr (by repeat (with_reducible first | assumption | exact Gr.refl _ | apply Gr.alloc | apply Gr.drewN | apply Gr.drew | apply Gr.iter | (refine Gr.setCell ?_ (by simp) _) | (refine Gr.trans ?_ (by assumption))))) (PsOk.good HQ.out.1)).mono ?_); rintro e w16 ⟨v16, rfl, ho16, hg16⟩; have hR16 := OwnOps.rd ho16 (by simp only [List.length_map]; have := HQ.out.2.2.2.2.2.2.2.2.2; omega); obtain ⟨a16, n16, c16, rfl, -⟩ := ho16.sl; clear ho16)
        | (go_at_call 64; (with_reducible refine (is08_any Y (Q.map Piece.op) _ _ _ (hDY.gr (by repeat (with_reducible first | assumption | exact Gr.refl _ | apply Gr.alloc | apply Gr.drewN | apply Gr.drew | apply Gr.iter | (refine Gr.setCell ?_ (by simp) _) | (refine Gr.trans ?_ (by assumption))))) (PsOk.good HY.out.1) (RdOps.gr hR16 (by repeat (with_reducible first | assumption | exact Gr.refl _ | apply Gr.alloc | apply Gr.drewN | apply Gr.drew | apply Gr.iter | (refine Gr.setCell ?_ (by simp) _) | (refine Gr.trans ?_ (by assumption)))))).mono ?_); rw [HYQ.out, decide_eq_true (rfl : Q.map Piece.op = Q.map Piece.op)]; rintro e w17 ⟨rfl, hg17⟩))
      all_goals go_ret
      all_goals exact ⟨rfl, (by repeat (with_reducible first | assumption | exact Gr.refl _ | apply Gr.alloc | apply Gr.drewN | apply Gr.drew | apply Gr.iter | (refine Gr.setCell ?_ (by simp) _) | (refine Gr.trans ?_ (by assumption))))⟩
    · have hb0 : ¬ bsum (l.map toPiece) = 0 := fun h => hdoc ((doc_iff h2).2 h)
      obtain ⟨B, hB⟩ : ∃ B, bsum (l.map toPiece) = B := ⟨_, rfl⟩
      rw [hB] at hb0
      have HB := Lib.hid hB; clear hB
      have hb1 : (B == 0) = false := by simpa using hb0
      go_enter Tryz.func9, Tryz.ntmps9
      go_wp2_with (first
        | (go_at_call 44; refine (fixed08_any _ (hE.gr (by repeat (with_reducible first | assumption | exact Gr.refl _ | apply Gr.alloc | apply Gr.drewN | apply Gr.drew | apply Gr.iter | (refine Gr.setCell ?_ (by simp) _) | (refine Gr.trans ?_ (by assumption)))))).mono ?_; rintro e w1 ⟨rfl, hg1⟩)
        | (go_at_call 45; refine (of08_yes l _ _ (hE.gr (by repeat (with_reducible first | assumption | exact Gr.refl _ | apply Gr.alloc | apply Gr.drewN | apply Gr.drew | apply Gr.iter | (refine Gr.setCell ?_ (by simp) _) | (refine Gr.trans ?_ (by assumption))))) (RdOps.gr hl (by repeat (with_reducible first | assumption | exact Gr.refl _ | apply Gr.alloc | apply Gr.drewN | apply Gr.drew | apply Gr.iter | (refine Gr.setCell ?_ (by simp) _) | (refine Gr.trans ?_ (by assumption))))) (by omega) (by omega) HC.out).mono ?_; rintro e w2 ⟨v2, rfl, hd2, hg2⟩; obtain ⟨g1, sl1, hv1, hbr1⟩ := hd2; subst hv1; have hD : DeltaR w2 (.pointer (some ⟨g1, 0, none⟩)) (l.map toPiece) := ⟨g1, sl1, rfl, hbr1⟩; clear hbr1)
        | (go_at_call 55; refine (document_any _ _ _ (hE.gr (by repeat (with_reducible first | assumption | exact Gr.refl _ | apply Gr.alloc | apply Gr.drewN | apply Gr.drew | apply Gr.iter | (refine Gr.setCell ?_ (by simp) _) | (refine Gr.trans ?_ (by assumption))))) (hD.gr (by repeat (with_reducible first | assumption | exact Gr.refl _ | apply Gr.alloc | apply Gr.drewN | apply Gr.drew | apply Gr.iter | (refine Gr.setCell ?_ (by simp) _) | (refine Gr.trans ?_ (by assumption))))) h2 hsz.out.1 hsz.out.2).mono ?_; rw [HB.out]; rintro e w3 ⟨rfl, hg3⟩))
      go_ret
      exact ⟨rfl, (by repeat (with_reducible first | assumption | exact Gr.refl _ | apply Gr.alloc | apply Gr.drewN | apply Gr.drew | apply Gr.iter | (refine Gr.setCell ?_ (by simp) _) | (refine Gr.trans ?_ (by assumption))))⟩
end Ve
