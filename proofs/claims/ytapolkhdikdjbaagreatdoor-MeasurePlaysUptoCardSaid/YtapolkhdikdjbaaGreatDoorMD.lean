/- The reference's Slice: plainly, and walked. -/
import Derived.Test.YtapolkhdikdjbaaGreatDoorMC
import Derived.Test.YtapolkhdikdjbaaGreatDoorMA
import Derived.Test.YtapolkhdikdjbaaGreatDoorM6
set_option linter.all false
namespace Ve
open Go Go.RowKit Go.Proofs

/-- The cells of a piece from lo up to hi. -/
def midP (p : Piece) (lo hi : Int) : Piece :=
  if 0 < lo then (if hi < p.len then (cutP (cutP p lo).2 (hi - lo)).1 else (cutP p lo).2) else (if hi < p.len then (cutP p hi).1 else p)
theorem cut_sep (p : Piece) (n : Int) (x : Piece) : sepP (cutP p n).1 x = sepP p x ∧ sepP (cutP p n).2 x = sepP p x ∧ sepP x (cutP p n).1 = sepP x p ∧ sepP x (cutP p n).2 = sepP x p := by
  cases p <;> cases x <;> exact ⟨rfl, rfl, rfl, rfl⟩
theorem mid_facts {p : Piece} {lo hi : Nat} (h : pOk p) (h1 : lo < hi) (h2 : (hi : Int) ≤ p.len) : pOk (midP p lo hi) ∧ unitsP (midP p lo hi) = ((unitsP p).take hi).drop lo ∧ (∀ x, sepP (midP p lo hi) x = sepP p x) ∧ ∀ x, sepP x (midP p lo hi) = sepP x p := by
  have hl := unitsP_len h
  unfold midP
  by_cases c1 : (0 : Int) < lo
  · rw [if_pos c1]
    obtain ⟨a1, a2, a3, a4⟩ := cut_ok h (n := lo) (by omega) (by omega)
    obtain ⟨b1, b2⟩ := cut_units h (n := lo) (by omega) (by omega)
    by_cases c2 : (hi : Int) < p.len
    · rw [if_pos c2]
      obtain ⟨d1, -, -, -⟩ := cut_ok a2 (n := (hi : Int) - lo) (by omega) (by omega)
      obtain ⟨e1, -⟩ := cut_units a2 (n := (hi : Int) - lo) (by omega) (by omega)
      refine ⟨d1, ?_, fun x => ?_, fun x => ?_⟩
      · rw [e1, b2, List.drop_take]
        congr 1
        omega
      · rw [(cut_sep _ _ x).1, (cut_sep _ _ x).2.1]
      · rw [(cut_sep _ _ x).2.2.1, (cut_sep _ _ x).2.2.2]
    · rw [if_neg c2]
      refine ⟨a2, ?_, fun x => (cut_sep _ _ x).2.1, fun x => (cut_sep _ _ x).2.2.2⟩
      rw [b2, List.take_of_length_le (by omega)]
      rfl
  · rw [if_neg c1]
    have hlo : lo = 0 := by omega
    subst hlo
    by_cases c2 : (hi : Int) < p.len
    · rw [if_pos c2]
      obtain ⟨a1, -, -, -⟩ := cut_ok h (n := hi) (by omega) c2
      obtain ⟨b1, -⟩ := cut_units h (n := hi) (by omega) c2
      exact ⟨a1, by rw [b1]; rfl, fun x => (cut_sep _ _ x).1, fun x => (cut_sep _ _ x).2.2.1⟩
    · rw [if_neg c2]
      exact ⟨h, by rw [List.take_of_length_le (by omega)]; rfl, fun _ => rfl, fun _ => rfl⟩
theorem sepF_at {q : Piece} : ∀ {r : List Piece} {x : Piece} {k : Nat} {a b : Piece}, sepF x r = true → (x :: r)[k]? = some a → (x :: r)[k + 1]? = some b → sepP a b = true := by
  intro r
  induction r with
  | nil => intro x k a b _ _ h; simp at h
  | cons y r ih =>
    intro x k a b h h1 h2
    simp only [sepF, Bool.and_eq_true] at h
    cases k with
    | zero => simp at h1 h2; subst h1 h2; exact h.1
    | succ k => exact ih h.2 (by simpa using h1) (by simpa using h2)
theorem sepL_at {ps : List Piece} {k : Nat} {a b : Piece} (h : sepL ps = true) (h1 : ps[k]? = some a) (h2 : ps[k + 1]? = some b) : sepP a b = true := by
  cases ps with
  | nil => simp at h1
  | cons x r => exact sepF_at (q := x) h h1 h2
/-- What Slice holds in front of operation k. -/
structure SlR (ps : List Piece) (f t k A : Nat) (R : List Piece) : Prop where
  len : (units (ps.take k)).length = A
  ok : PsOk R
  sep : sepL R = true
  un : units R = ((units (ps.take k)).take t).drop f
  key : ∀ q, R.getLast? = some q → A < t → ∃ j p, k = j + 1 ∧ ps[j]? = some p ∧ ∀ x, sepP q x = sepP p x
theorem SlR.new (ps : List Piece) (f t : Nat) : SlR ps f t 0 0 [] := ⟨rfl, by simp [PsOk], rfl, by simp [units], by simp⟩
theorem units_take {ps : List Piece} {k : Nat} {p : Piece} (h : ps[k]? = some p) : units (ps.take (k + 1)) = units (ps.take k) ++ unitsP p := by
  obtain ⟨hk, rfl⟩ := List.getElem?_eq_some_iff.1 h
  rw [List.take_succ_eq_append_getElem hk, units_app, units_one]
theorem SlR.skip {ps : List Piece} {f t k A : Nat} {R : List Piece} (h : SlR ps f t k A R) {p : Piece} (hp : ps[k]? = some p) (hn : ¬ (max ((f : Int) - A) 0 < min ((t : Int) - A) (unitsP p).length)) (hpn : unitsP p ≠ []) : SlR ps f t (k + 1) (A + (unitsP p).length) R := by
  have hu := units_take hp
  have hpl : 0 < (unitsP p).length := List.length_pos_iff.2 hpn
  have hz : ((unitsP p).take (t - A)).drop (f - A) = [] := by
    rw [List.drop_eq_nil_iff, List.length_take]
    omega
  refine ⟨by rw [hu, List.length_append, h.len], h.ok, h.sep, ?_, fun q hq ht => ?_⟩
  · rw [hu, List.take_append, List.drop_append, h.len, ← h.un]
    rw [show ((unitsP p).take (t - A)).drop (f - ((units (ps.take k)).take t).length) = [] from ?_, List.append_nil]
    rw [List.drop_eq_nil_iff, List.length_take, List.length_take, h.len]
    rw [List.drop_eq_nil_iff, List.length_take] at hz
    omega
  · exfalso
    have hne : units R ≠ [] := by
      intro e
      have hm := List.mem_of_getLast? hq
      have := len_units h.ok
      rw [e] at this
      have : R = [] := List.eq_nil_of_length_eq_zero (by simpa using this)
      rw [this] at hm
      cases hm
    have hl := List.length_pos_iff.2 hne
    rw [h.un, List.length_drop, List.length_take, h.len] at hl
    omega
theorem SlR.push {ps : List Piece} {f t k A lo hi : Nat} {R : List Piece} (h : SlR ps f t k A R) (hs : sepL ps = true) {p p' : Piece} (hp : ps[k]? = some p) (hlo : (lo : Int) = max ((f : Int) - A) 0) (hhi : (hi : Int) = min ((t : Int) - A) (unitsP p).length) (hlt : lo < hi)
    (h1 : pOk p') (h2 : unitsP p' = ((unitsP p).take hi).drop lo) (h3 : ∀ x, sepP p' x = sepP p x) (h4 : ∀ x, sepP x p' = sepP x p) : SlR ps f t (k + 1) (A + (unitsP p).length) (R ++ [p']) := by
  have hu := units_take hp
  refine ⟨by rw [hu, List.length_append, h.len], fun x hx => ?_, ?_, ?_, fun q hq ht => ?_⟩
  · rcases List.mem_append.1 hx with hx | hx
    · exact h.ok x hx
    · rw [List.mem_singleton.1 hx]; exact h1
  · rcases snoc_cases R with rfl | ⟨m, q, rfl⟩
    · rfl
    · rw [List.append_assoc, List.singleton_append, sepL_snoc, h.sep, Bool.true_and]
      obtain ⟨j, p0, rfl, hj, hk⟩ := h.key q (by simp) (by omega)
      rw [hk, h4]
      exact sepL_at hs hj hp
  · rw [units_app, units_one, h2, hu, List.take_append, List.drop_append, h.len, ← h.un]
    congr 1
    have e1 : f - ((units (ps.take k)).take t).length = lo := by rw [List.length_take, h.len]; omega
    have e2 : (unitsP p).take (t - A) = (unitsP p).take hi := by
      by_cases c : t - A ≤ (unitsP p).length
      · congr 1; omega
      · rw [List.take_of_length_le (by omega), List.take_of_length_le (by omega)]
    rw [e1, e2]
  · rw [List.getLast?_append, List.getLast?_singleton, Option.some_or] at hq
    injection hq with hq
    subst hq
    exact ⟨k, p, rfl, hp, h3⟩
/-- An operation whose attributes are read in w0, or its own. -/
def OpM (w0 w : World) (x : Op) (cs : List Value) : Prop :=
  ∃ v, cs = [.int .i64 x.kind, .string x.text, .int .i64 x.val.kind, .int .i64 x.val.num, .string x.val.text, .int .i64 x.count, v] ∧ (RdAttrs w0 v x.attrs ∨ OwnA w v x.attrs) ∧ szS x.text ∧ szS x.val.text
abbrev OwnM (base : Nat) (w0 w : World) (v : Value) (l : List Op) : Prop := OwnL (OpM w0) 7 base 46 w v l
theorem OpM.gr {w0 w w' : World} {x : Op} {cs : List Value} (h : OpM w0 w x cs) (g : Gr w w') : OpM w0 w' x cs := by
  obtain ⟨v, e, ha, hs⟩ := h
  exact ⟨v, e, ha.imp id fun h => h.gr g, hs⟩
theorem OpM.kt {base : Nat} {w0 w w' : World} {x : Op} {cs : List Value} (h : OpM w0 w x cs) (k : Kt base 46 w w') : OpM w0 w' x cs := by
  obtain ⟨v, e, ha, hs⟩ := h
  exact ⟨v, e, ha.imp id fun h => h.kt k (by decide), hs⟩
theorem OpM.flat (w0 w : World) (x : Op) (cs : List Value) (h : OpM w0 w x cs) : ∀ u ∈ cs, u.oneCell' = true := by
  obtain ⟨v, rfl, ha, -⟩ := h
  obtain ⟨a, m, c, rfl⟩ : ∃ a m c, v = .slice a m c := by
    rcases ha with ha | ha
    · obtain ⟨a, cap, rfl, -⟩ := RdList.slice ha
      exact ⟨_, _, _, rfl⟩
    · obtain ⟨a, m, c, rfl, -⟩ := ha.1.sl
      exact ⟨_, _, _, rfl⟩
  intro u hu
  simp only [List.mem_cons, List.mem_nil_iff, or_false] at hu
  rcases hu with rfl | rfl | rfl | rfl | rfl | rfl | rfl <;> rfl
theorem OpM.opR {w0 w : World} {x : Op} {cs : List Value} (h : OpM w0 w x cs) (g : Gr w0 w) : OpR w x cs := by
  obtain ⟨v, e, ha, hs⟩ := h
  refine ⟨v, e, ?_, hs⟩
  rcases ha with ha | ha
  · exact RdAttrs.gr ha g
  · exact ha.rd
theorem OwnM.rd {base : Nat} {w0 w : World} {v : Value} {l : List Op} (h : OwnM base w0 w v l) (g : Gr w0 w) (hb : l.length ≤ 1099511627776) : RdOps w v l := by
  have := OwnL.via (R := OpM w0) (R' := OpR) id (fun x cs h => OpM.opR h g) h
  rw [List.map_id] at this
  exact OwnL.rd this hb
/-- A block of another row is written. -/
theorem OwnM.far7 {base g : Nat} {w0 w : World} {v : Value} {l : List Op} (h : OwnM base w0 w v l) (hb : base ≤ g) (hg : ∀ b, v.ownBlock = some b → b ≠ g) (hB : ∃ c, w.heap[g]? = some (.cells c 46 (0, 0))) (i : Nat) (u : Value) : OwnM base w0 (w.setCell ⟨g, i, none⟩ u) v l := by
  obtain ⟨xs, ⟨h1, h2⟩, hr⟩ := h
  have hk : Kt base 46 w (w.setCell ⟨g, i, none⟩ u) := fun b hlt hc => Below.heap_setCell w ⟨g, i, none⟩ u b (fun e => by
    subst e
    rcases hc with hc | hc
    · exact absurd hb (by simpa using hc)
    · obtain ⟨c, hc'⟩ := hB
      exact hc _ _ _ hc' rfl)
  refine ⟨xs, ⟨h1, ?_⟩, hr.map fun x cs h => OpM.kt h hk⟩
  rcases h2 with h2 | ⟨g', cap, cur, rfl, e2, e3, rest⟩
  · exact .inl h2
  · refine .inr ⟨g', cap, cur, rfl, e2, ?_, rest⟩
    rw [Below.heap_setCell w ⟨g, i, none⟩ u g' (hg g' rfl)]
    exact e3
theorem OwnM.far {base g : Nat} {w0 w : World} {v : Value} {l : List Op} (h : OwnM base w0 w v l) (hb : base ≤ g) (hg : ∀ b, v.ownBlock = some b → b ≠ g) {cs : Array Value} (hB : Blk w g 46 cs) (u0 u1 u2 u3 u4 u5 u6 : Value) :
    OwnM base w0 (((((((w.setCell ⟨g, 0, none⟩ u0).setCell ⟨g, 1, none⟩ u1).setCell ⟨g, 2, none⟩ u2).setCell ⟨g, 3, none⟩ u3).setCell ⟨g, 4, none⟩ u4).setCell ⟨g, 5, none⟩ u5).setCell ⟨g, 6, none⟩ u6) v l := by
  have b1 := hB.set 0 u0
  have b2 := b1.set 1 u1
  have b3 := b2.set 2 u2
  have b4 := b3.set 3 u3
  have b5 := b4.set 4 u4
  have b6 := b5.set 5 u5
  exact OwnM.far7 (OwnM.far7 (OwnM.far7 (OwnM.far7 (OwnM.far7 (OwnM.far7 (OwnM.far7 h hb hg ⟨_, hB⟩ 0 u0) hb hg ⟨_, b1⟩ 1 u1) hb hg ⟨_, b2⟩ 2 u2) hb hg ⟨_, b3⟩ 3 u3) hb hg ⟨_, b4⟩ 4 u4) hb hg ⟨_, b5⟩ 5 u5) hb hg ⟨_, b6⟩ 6 u6
/-- One operation appended. -/
theorem push_opM (w0 w : World) (base : Nat) (ty : TypeId) {v : Value} {l : List Op} {x : Op} {cs : List Value} (hown : OwnM base w0 w v l) (hx : OpM w0 w x cs) (hc : cs.length = 7) (hm : l.length + 1 ≤ 1099511627776) (hb : base ≤ w.heap.size) :
    ∃ v' w', (Builtin.append_ #[22, 22] ty #[v, .slice (some ⟨w.heap.size, 0, none⟩) 1 1]).run Tryz.prog (w.alloc (.cells cs.toArray 46)) = .ok v' w' ∧ OwnM base w0 w' v' (l ++ [x]) ∧ (w.alloc (.cells cs.toArray 46)).grownBy w' v.ownBlock ∧ (∀ b, v.ownBlock = some b → base ≤ b) := by
  obtain ⟨v', w', h1, h2, h3, -, -, h6, -⟩ := run_push (P := Tryz.prog) (R := OpM w0) w base 22 ty 46 _ 7 88 Tryz.underlying22 info_op rfl (by omega) (by omega) (OpM.flat w0) (fun _ _ _ _ k h => h.kt k) hown hx hc hm hb
  exact ⟨v', w', h1, h2, h3, h6⟩
theorem take_units_le (ps : List Piece) (k : Nat) : (units (ps.take k)).length ≤ (units ps).length := by
  have := units_app (ps.take k) (ps.drop k)
  rw [List.take_append_drop] at this
  rw [this, List.length_append]
  omega
theorem ins_refuse {a : List Attr} {t : ByteArray} {n : Int} (h : pOk (.ins a t n)) : refuse ⟨1, t, ⟨0, 0, ⟨#[]⟩⟩, 0, a⟩ = 0 := by
  have h1 : checkOp ⟨1, t, ⟨0, 0, ⟨#[]⟩⟩, 0, a⟩ = 0 := h.1
  cases hh : hasOnly ⟨1, t, ⟨0, 0, ⟨#[]⟩⟩, 0, a⟩ with
  | false => simp [checkOp, hh] at h1
  | true => simpa [checkOp, hh] using h1
theorem own_ne {base : Nat} {w0 w : World} {v : Value} {l : List Op} (h : OwnM base w0 w v l) {g : Nat} (hg : w.heap.size ≤ g) : ∀ b, v.ownBlock = some b → b ≠ g := by
  obtain ⟨xs, ho, -⟩ := h
  intro b hb
  have := (ho.lt b hb).2
  omega
set_option maxRecDepth 20000 in
set_option maxHeartbeats 8000000 in
theorem rslice08_any {ea : Nat → Addr} (ps : List Piece) (v : Value) (f t : Nat) (w : World) (hE : Env ea w) (hl : RdOps w v (ps.map Piece.op)) (hok : PsOk ps) (hsep : sepL ps = true) (hdl : docL (ps.map Piece.op) = true) (hres : (lensL (ps.map Piece.op)).2.1 = (units ps).length) (h1 : f ≤ t) (h2 : t ≤ (units ps).length) (hU : (units ps).length ≤ 1099511627776) :
    Calls Tryz.prog 61 #[v, .int .i64 f, .int .i64 t] w fun e w' => ∃ v' R, e = .returned (.tuple #[v', .int .i64 0]) ∧ OwnM w.heap.size w w' v' (R.map Piece.op) ∧ PsOk R ∧ sepL R = true ∧ units R = ((units ps).take t).drop f ∧ Gr w w' := by
  obtain ⟨a, n, cap, rfl, hcap, hm, hb, hn⟩ := hl.sl
  have hnl : ps.length = n := by have := hn.out; rwa [List.length_map] at this
  obtain ⟨UL, hUL⟩ : ∃ UL, (units ps).length = UL := ⟨_, rfl⟩
  rw [hUL] at hres h2 hU
  have HRes := Lib.hid hres; have HDl := Lib.hid hdl; clear hres hdl
  have n1 : ¬ (f : Int) < 0 := by omega
  have n2 : ¬ (t : Int) < f := by omega
  have n3 : ¬ (UL : Int) < t := by omega
  have n4 : ¬ t < f := by omega
  have n5 : ¬ UL < t := by omega
  go_enter Tryz.func61, Tryz.ntmps61
  go_wp2_with (first
    | (go_at_call 56; refine (rdoc08_any _ _ _ (RdOps.gr hl (by repeat (with_reducible first | assumption | exact Gr.refl _ | apply Gr.alloc | apply Gr.drewN | apply Gr.drew | apply Gr.iter | (refine Gr.setCell ?_ (by simp) _) | (refine Gr.trans ?_ (by assumption)))))).mono ?_; rw [HDl.out]; rintro e w1 ⟨rfl, hg1⟩)
    | (go_at_call 50; refine (rresult08_any _ _ _ (hE.gr (by repeat (with_reducible first | assumption | exact Gr.refl _ | apply Gr.alloc | apply Gr.drewN | apply Gr.drew | apply Gr.iter | (refine Gr.setCell ?_ (by simp) _) | (refine Gr.trans ?_ (by assumption))))) (RdOps.gr hl (by repeat (with_reducible first | assumption | exact Gr.refl _ | apply Gr.alloc | apply Gr.drewN | apply Gr.drew | apply Gr.iter | (refine Gr.setCell ?_ (by simp) _) | (refine Gr.trans ?_ (by assumption)))))).mono ?_; rw [HRes.out]; rintro e w2 ⟨rfl, hg2⟩))
  have HF := Lib.hid h1
  go_loopw [8, 9, 10] (fun o x i wr => ∃ (k A : Nat) (R : List Piece), k ≤ n ∧ i = .int .i64 k ∧ x = .int .i64 A ∧ SlR ps f t k A R ∧ OwnM w.heap.size w wr o (R.map Piece.op) ∧ Gr w wr ∧ R.length ≤ k) (fun _ _ i _ => n - (intOf i).toNat)
  case atStart => exact ⟨0, 0, [], Nat.zero_le _, rfl, rfl, SlR.new ps f t, OwnL.nil .., (by repeat (with_reducible first | assumption | exact Gr.refl _ | apply Gr.alloc | apply Gr.drewN | apply Gr.drew | apply Gr.iter | (refine Gr.setCell ?_ (by simp) _) | (refine Gr.trans ?_ (by assumption)))), Nat.le_refl _⟩
  case round =>
    obtain ⟨k, A, R, hk, rfl, rfl, hS, hO, hg, hRk⟩ := hrel
    obtain ⟨oa, om, oc, rfl, -, -, hom⟩ := hO.sl
    by_cases hlt : k < n
    · obtain ⟨blk, off, xk, xt, xa, xb, xv, xc, ats, sl, hx, rfl, hr, c0, c1, c2, c3, c4, c5, c6, s1, s2⟩ := hl.at_ k hlt
      replace c0 := Gr.cell hg c0; replace c1 := Gr.cell hg c1; replace c2 := Gr.cell hg c2; replace c3 := Gr.cell hg c3; replace c4 := Gr.cell hg c4; replace c5 := Gr.cell hg c5; replace c6 := Gr.cell hg c6
      have hlt' : (k : Int) < n := by omega
      obtain ⟨p, hp⟩ : ∃ p, ps[k]? = some p := ⟨_, List.getElem?_eq_getElem (by omega)⟩
      have hop : p.op = ⟨xk, xt, ⟨xa, xb, xv⟩, xc, ats⟩ := by rw [List.getElem?_map, hp] at hx; injection hx
      have hpk := hok p (List.mem_of_getElem? hp)
      have hlen := unitsP_len hpk
      have hrl : rlen ⟨xk, xt, ⟨xa, xb, xv⟩, xc, ats⟩ = ((unitsP p).length : Int) := by rw [← hop, rlen_ok hpk.1, hpk.2, hlen]
      have hA1 : A + (unitsP p).length ≤ UL := by have := take_units_le ps (k + 1); rw [units_take hp, List.length_append, hS.len, hUL] at this; exact this
      obtain ⟨sa, sc, hsl, -⟩ := RdList.slice hr
      subst hsl
      by_cases hlh : max ((f : Int) - A) 0 < min ((t : Int) - A) (unitsP p).length
      · obtain ⟨lo, hlo⟩ : ∃ lo : Nat, (lo : Int) = max ((f : Int) - A) 0 := ⟨f - A, by omega⟩
        obtain ⟨hi, hhi⟩ : ∃ hi : Nat, (hi : Int) = min ((t : Int) - A) (unitsP p).length := ⟨min (t - A) (unitsP p).length, by omega⟩
        have hltn : lo < hi := by omega
        obtain ⟨m1, m2, m3, m4⟩ := mid_facts hpk hltn (by rw [← hlen]; omega)
        have hSp := hS.push hsep hp hlo hhi hltn m1 m2 m3 m4
        have hmk : (midP p lo hi).op = ⟨xk, xt, ⟨xa, xb, xv⟩, xc, ats⟩ ∨ ¬ ((lo : Int) = 0 ∧ (hi : Int) = (unitsP p).length) := by
          by_cases c : (lo : Int) = 0 ∧ (hi : Int) = (unitsP p).length
          · left
            unfold midP
            rw [if_neg (by omega), if_neg (by rw [← hlen]; omega), hop]
          · exact .inr c
        obtain ⟨q, hq⟩ : ∃ q, (unitsP p).length = q := ⟨_, rfl⟩
        rw [hq] at hlen hrl hA1 hlh hSp hhi hmk
        rw [← hlo, ← hhi] at hlh
        have HL := Lib.hid hrl; have HK := Lib.hid hSp; have HLH := Lib.hid (And.intro hlo hhi)
        have hqi : hi ≤ q := by omega
        by_cases hun : (lo : Int) = 0 ∧ (hi : Int) = q
        · have hmop := hmk.resolve_right (fun h => h hun)
          have HM := Lib.hid hmop
          clear hrl hSp hx hop hpk hS hmk hmop m1 m2 m3 m4 hsep
          obtain ⟨hu1, hu2⟩ := hun
          have x1 : max ((f : Int) - A) 0 = 0 := by omega
          have x2 : min ((t : Int) - A) q = q := by omega
          have x3 : (0 : Int) < q := by omega
          go_wp2_with (first
            | (go_at_call 115; refine (rlen_any _ _ _ _ _ _ _ _ _ (RdAttrs.gr hr (by repeat (with_reducible first | assumption | exact Gr.refl _ | apply Gr.alloc | apply Gr.drewN | apply Gr.drew | apply Gr.iter | (refine Gr.setCell ?_ (by simp) _) | (refine Gr.trans ?_ (by assumption))))) s1).mono ?_; rw [HL.out]; rintro e w3 ⟨rfl, hg3⟩; have g03 : Gr wr w3 := (by repeat (with_reducible first | assumption | exact Gr.refl _ | apply Gr.alloc | apply Gr.drewN | apply Gr.drew | apply Gr.iter | (refine Gr.setCell ?_ (by simp) _) | (refine Gr.trans ?_ (by assumption)))); have d0 := Gr.cell g03 c0; have d1 := Gr.cell g03 c1; have d2 := Gr.cell g03 c2; have d3 := Gr.cell g03 c3; have d4 := Gr.cell g03 c4; have d5 := Gr.cell g03 c5; have d6 := Gr.cell g03 c6; have B3 := Blk.new w3 46 #[.int .i64 xk, .string xt, .int .i64 xa, .int .i64 xb, .string xv, .int .i64 xc, .slice sa ats.length sc]; have b3 := B3.cell; obtain ⟨v6, w6, r6, S6, G6, b6⟩ := push_opM w (w3.alloc (.cells #[.int .i64 xk, .string xt, .int .i64 xa, .int .i64 xb, .string xv, .int .i64 xc, .slice sa ats.length sc] 46)) w.heap.size 22 (x := ⟨xk, xt, ⟨xa, xb, xv⟩, xc, ats⟩) (cs := [.int .i64 xk, .string xt, .int .i64 xa, .int .i64 xb, .string xv, .int .i64 xc, .slice sa ats.length sc]) (OwnL.gr (w := wr) hO (fun _ _ h => OpM.gr (w := wr) h (by repeat (with_reducible first | assumption | exact Gr.refl _ | apply Gr.alloc | apply Gr.drewN | apply Gr.drew | apply Gr.iter | (refine Gr.setCell ?_ (by simp) _) | (refine Gr.trans ?_ (by assumption))))) (by repeat (with_reducible first | assumption | exact Gr.refl _ | apply Gr.alloc | apply Gr.drewN | apply Gr.drew | apply Gr.iter | (refine Gr.setCell ?_ (by simp) _) | (refine Gr.trans ?_ (by assumption))))) ⟨_, rfl, .inl hr, s1, s2⟩ rfl (by rw [List.length_map]; omega) (Gr.size (w := w) (by repeat (with_reducible first | assumption | exact Gr.refl _ | apply Gr.alloc | apply Gr.drewN | apply Gr.drew | apply Gr.iter | (refine Gr.setCell ?_ (by simp) _) | (refine Gr.trans ?_ (by assumption))))); rw [World.size_alloc] at r6; have HP := Lib.hid (And.intro r6 (And.intro S6 (And.intro G6 b6))); clear r6 S6 G6 b6)
            | (at_builtin; refine wpList_run rfl _ _ _ rfl rfl rfl HP.out.1 ?_))
          go_roundw
          case rel => exact ⟨k + 1, A + q, R ++ [midP p lo hi], by omega, by go_num, by go_num, HK.out, by rw [List.map_append, List.map_singleton, HM.out]; exact HP.out.2.1, Gr.push (w := w3.alloc _) (by repeat (with_reducible first | assumption | exact Gr.refl _ | apply Gr.alloc | apply Gr.drewN | apply Gr.drew | apply Gr.iter | (refine Gr.setCell ?_ (by simp) _) | (refine Gr.trans ?_ (by assumption)))) HP.out.2.2.1 HP.out.2.2.2, by rw [List.length_append, List.length_singleton]; omega⟩
          case measure => simp [intOf]; omega
        · cases p with
          | emb a' k' v' => exact absurd (show (lo : Int) = 0 ∧ (hi : Int) = q by simp only [Piece.len] at hlen; omega) hun
          | ret a' n' =>
            have := List.all_eq_true.1 HDl.out _ (List.mem_map.2 ⟨_, List.mem_of_getElem? hp, rfl⟩)
            simp [isIns, Piece.op] at this
          | del n' =>
            have := List.all_eq_true.1 HDl.out _ (List.mem_map.2 ⟨_, List.mem_of_getElem? hp, rfl⟩)
            simp [isIns, Piece.op] at this
          | ins a' t' m' =>
            obtain ⟨rfl, rfl, rfl, rfl, rfl, rfl, rfl⟩ : xk = 1 ∧ t' = xt ∧ xa = 0 ∧ xb = 0 ∧ xv = ⟨#[]⟩ ∧ xc = 0 ∧ a' = ats := by
              have e : (⟨1, t', ⟨0, 0, ⟨#[]⟩⟩, 0, a'⟩ : Op) = ⟨xk, xt, ⟨xa, xb, xv⟩, xc, ats⟩ := hop
              injection e with e1 e2 e3 e4 e5
              injection e3 with f1 f2 f3
              exact ⟨e1.symm, e2, f1.symm, f2.symm, f3.symm, e4.symm, e5⟩
            have hins := ins_ok.1 hpk
            have hrq : (runes t').length = q := by have := hins.2.2.2; simp only [Piece.len] at hlen; omega
            have HRF := Lib.hid (ins_refuse hpk)
            have hsz := text_take_sz hins.2.1 s1 lo
            have hash : a'.length ≤ 1099511627776 := by obtain ⟨_, _, _, _, _, h⟩ := hr.slice; exact h
            have hq40 : q ≤ 1099511627776 := by omega
            have HP1 := Lib.hid (And.intro hpk hins); have HMK := Lib.hid (show ∀ x, x = 1 → True from fun _ _ => trivial)
            clear hrl hSp hx hop hS hmk m1 m2 m3 m4 hsep hins
            by_cases hl0 : (0 : Int) < lo
            · obtain ⟨T2, hT2⟩ : ∃ T2, textL ((runes t').drop lo) = T2 := ⟨_, rfl⟩
              have hc2 := (cut_ok HP1.out.1 (n := lo) (by omega) (by simp only [Piece.len] at hlen ⊢; omega)).2.1
              have hc2' : pOk (.ins a' T2 (m' - lo)) := by rw [← hT2]; exact hc2
              have hins2 := ins_ok.1 hc2'
              have hrq2 : (runes T2).length = q - lo := by have := hins2.2.2.2; simp only [Piece.len] at hlen; omega
              have HT2 := Lib.hid hT2; have HRF2 := Lib.hid (ins_refuse hc2')
              have hsz2 : szS T2 := hT2 ▸ hsz.2
              have hsz3 := text_take_sz hins2.2.1 hsz2 (hi - lo)
              have x1 : max ((f : Int) - A) 0 = lo := hlo.symm
              have x2 : min ((t : Int) - A) q = hi := hhi.symm
              have x3 : (lo : Int) < hi := by omega
              have hl1 : 1 ≤ lo := by omega
              by_cases hhq : (hi : Int) < q
              · obtain ⟨T3, hT3⟩ : ∃ T3, textL ((runes T2).take (hi - lo)) = T3 := ⟨_, rfl⟩
                have HT3 := Lib.hid hT3
                have hmo : (midP (.ins a' t' m') lo hi).op = ⟨1, T3, ⟨0, 0, ⟨#[]⟩⟩, 0, a'⟩ := by
                  unfold midP
                  rw [if_pos hl0, if_pos (by rw [← hlen]; exact hhq)]
                  show (⟨1, textL ((runes (textL ((runes t').drop lo))).take ((hi : Int) - lo).toNat), ep, 0, a'⟩ : Op) = _
                  rw [hT2, show ((hi : Int) - lo).toNat = hi - lo by omega, hT3]
                  rfl
                have HMO := Lib.hid hmo; have hszT3 : szS T3 := hT3 ▸ hsz3.1
                clear hmo hT3 hc2 hc2' hins2 hsz3 hT2 hlo hhi hlen
                go_wp2_with (first
                  | (go_at_call 118; have _h := hg4; rw [HS4.out]; obtain ⟨DS4, GS4, OS4, AS4⟩ := HZ4.out; rw [show ((hi : Int) - lo) = ((hi - lo : Nat) : Int) from by omega]; refine (cut04_text T2 0 0 ⟨#[]⟩ 0 _ a' _ (hE.gr GS4) (OwnA.rd ⟨AS4, hash⟩) hsz2 s2 HRF2.out (hi - lo) (by omega) (by omega)).mono ?_; rw [HT3.out]; rintro e w5 ⟨u1, u2, rfl, hu1, -, hg5⟩; obtain ⟨ua, un, uc, rfl, -⟩ := hu1.sl; dsimp only [opV, ep, es]; have B5 := DS4.gr hg5; have b5 := B5.cell; have f5 := B5.frozen; have z5 := B5.lt; have g5 : Gr w w5 := Gr.trans GS4 hg5; have O5 : OwnM w.heap.size w w5 (.slice oa om oc) (R.map Piece.op) := OwnL.gr (w := S4) OS4 (fun _ _ h => OpM.gr h hg5) hg5; obtain ⟨S5, hS5⟩ : ∃ S, (((((((w5.setCell ⟨P, 0, none⟩ (.int .i64 1)).setCell ⟨P, 1, none⟩ (.string T3)).setCell ⟨P, 2, none⟩ (.int .i64 0)).setCell ⟨P, 3, none⟩ (.int .i64 0)).setCell ⟨P, 4, none⟩ (.string ⟨#[]⟩)).setCell ⟨P, 5, none⟩ (.int .i64 0)).setCell ⟨P, 6, none⟩ (.slice ua un uc)) = S := ⟨_, rfl⟩; have DS5 : Blk S5 P 46 #[.int .i64 1, .string T3, .int .i64 0, .int .i64 0, .string ⟨#[]⟩, .int .i64 0, .slice ua un uc] := (by rw [← hS5]; exact Blk.set7M B5 _ _ _ _ _ _ _); have GS5 : Gr w S5 := (by rw [← hS5]; exact gr7M g5 zw3 _ _ _ _ _ _ _); have OS5 : OwnM w.heap.size w S5 (.slice oa om oc) (R.map Piece.op) := (by rw [← hS5]; exact OwnM.far O5 zw3 (own_ne hO zwP) B5 _ _ _ _ _ _ _); have AS5 : OwnL AttrR 4 0 83 S5 (.slice ua un uc) a' := (by rw [← hS5]; exact OwnL.base_le (own7M hu1 DS4.lt _ _ _ _ _ _ _) (Nat.zero_le _)); have HS5 := Lib.hid hS5; clear hS5; have HZ5 := Lib.hid (And.intro DS5 (And.intro GS5 (And.intro OS5 AS5))); clear DS5 GS5 OS5 AS5 O5 hu1 g5; obtain ⟨DS5, GS5, OS5, AS5⟩ := HZ5.out; obtain ⟨v6, w6, r6, S6, G6, b6⟩ := push_opM w S5 w.heap.size 22 (x := ⟨1, T3, ⟨0, 0, ⟨#[]⟩⟩, 0, a'⟩) (cs := [.int .i64 1, .string T3, .int .i64 0, .int .i64 0, .string ⟨#[]⟩, .int .i64 0, .slice ua un uc]) OS5 ⟨_, rfl, .inr ⟨AS5, hash⟩, hszT3, s2⟩ rfl (by rw [List.length_map]; omega) GS5.size; have zS5 : S5.heap.size = w5.heap.size := (by rw [← HS5.out]; simp); rw [zS5, ← HS5.out] at r6; have HP := Lib.hid (And.intro r6 (And.intro S6 (And.intro G6 (And.intro b6 GS5)))); clear r6 S6 G6 b6 DS5 GS5 OS5 AS5 DS4 GS4 OS4 AS4)
                  | (go_at_call 118; obtain ⟨P, hPz⟩ : ∃ P, w3.heap.size = P := ⟨_, rfl⟩; rw [hPz] at B3 zw3 ⊢; have zwP : wr.heap.size ≤ P := hPz ▸ Gr.size (w := wr) (w' := w3) g03; refine (cut04_text t' 0 0 ⟨#[]⟩ 0 _ a' _ (hE.gr (by repeat (with_reducible first | assumption | exact Gr.refl _ | apply Gr.alloc | apply Gr.drewN | apply Gr.drew | apply Gr.iter | (refine Gr.setCell ?_ (by simp) _) | (refine Gr.trans ?_ (by assumption))))) (RdAttrs.gr hr (by repeat (with_reducible first | assumption | exact Gr.refl _ | apply Gr.alloc | apply Gr.drewN | apply Gr.drew | apply Gr.iter | (refine Gr.setCell ?_ (by simp) _) | (refine Gr.trans ?_ (by assumption))))) s1 s2 HRF.out (lo) (by omega) (by omega)).mono ?_; rw [HT2.out]; rintro e w4 ⟨y1, y2, rfl, hy1, hy2, hg4⟩; obtain ⟨ya, yn, yc, rfl, -⟩ := hy2.sl; dsimp only [opV, ep, es]; have B4 := B3.gr hg4; have b4 := B4.cell; have f4 := B4.frozen; have z4 := B4.lt; have g4 : Gr w w4 := Gr.trans (show Gr w w3 from (by repeat (with_reducible first | assumption | exact Gr.refl _ | apply Gr.alloc | apply Gr.drewN | apply Gr.drew | apply Gr.iter | (refine Gr.setCell ?_ (by simp) _) | (refine Gr.trans ?_ (by assumption))))) (Gr.trans ((Gr.refl w3).alloc _) hg4); have O4 : OwnM w.heap.size w w4 (.slice oa om oc) (R.map Piece.op) := OwnL.gr (w := wr) hO (fun _ _ h => OpM.gr (w := wr) h (Gr.trans g03 (Gr.trans ((Gr.refl w3).alloc _) hg4))) (Gr.trans g03 (Gr.trans ((Gr.refl w3).alloc _) hg4)); obtain ⟨S4, hS4⟩ : ∃ S, (((((((w4.setCell ⟨P, 0, none⟩ (.int .i64 1)).setCell ⟨P, 1, none⟩ (.string T2)).setCell ⟨P, 2, none⟩ (.int .i64 0)).setCell ⟨P, 3, none⟩ (.int .i64 0)).setCell ⟨P, 4, none⟩ (.string ⟨#[]⟩)).setCell ⟨P, 5, none⟩ (.int .i64 0)).setCell ⟨P, 6, none⟩ (.slice ya yn yc)) = S := ⟨_, rfl⟩; have DS4 : Blk S4 P 46 #[.int .i64 1, .string T2, .int .i64 0, .int .i64 0, .string ⟨#[]⟩, .int .i64 0, .slice ya yn yc] := (by rw [← hS4]; exact Blk.set7M B4 _ _ _ _ _ _ _); have GS4 : Gr w S4 := (by rw [← hS4]; exact gr7M g4 zw3 _ _ _ _ _ _ _); have OS4 : OwnM w.heap.size w S4 (.slice oa om oc) (R.map Piece.op) := (by rw [← hS4]; exact OwnM.far O4 zw3 (own_ne hO zwP) B4 _ _ _ _ _ _ _); have AS4 : OwnL AttrR 4 0 83 S4 (.slice ya yn yc) a' := (by rw [← hS4]; exact OwnL.base_le (own7M hy2 (by simp; omega) _ _ _ _ _ _ _) (Nat.zero_le _)); have HS4 := Lib.hid hS4; clear hS4; have HZ4 := Lib.hid (And.intro DS4 (And.intro GS4 (And.intro OS4 AS4))); clear DS4 GS4 OS4 AS4 O4 hy2 g4)
                  | (go_at_call 115; refine (rlen_any _ _ _ _ _ _ _ _ _ (RdAttrs.gr hr (by repeat (with_reducible first | assumption | exact Gr.refl _ | apply Gr.alloc | apply Gr.drewN | apply Gr.drew | apply Gr.iter | (refine Gr.setCell ?_ (by simp) _) | (refine Gr.trans ?_ (by assumption))))) s1).mono ?_; rw [HL.out]; rintro e w3 ⟨rfl, hg3⟩; have g03 : Gr wr w3 := (by repeat (with_reducible first | assumption | exact Gr.refl _ | apply Gr.alloc | apply Gr.drewN | apply Gr.drew | apply Gr.iter | (refine Gr.setCell ?_ (by simp) _) | (refine Gr.trans ?_ (by assumption)))); have d0 := Gr.cell g03 c0; have d1 := Gr.cell g03 c1; have d2 := Gr.cell g03 c2; have d3 := Gr.cell g03 c3; have d4 := Gr.cell g03 c4; have d5 := Gr.cell g03 c5; have d6 := Gr.cell g03 c6; have zw3 : w.heap.size ≤ w3.heap.size := Gr.size (w := w) (by repeat (with_reducible first | assumption | exact Gr.refl _ | apply Gr.alloc | apply Gr.drewN | apply Gr.drew | apply Gr.iter | (refine Gr.setCell ?_ (by simp) _) | (refine Gr.trans ?_ (by assumption)))); have B3 := Blk.new w3 46 #[.int .i64 1, .string t', .int .i64 0, .int .i64 0, .string ⟨#[]⟩, .int .i64 0, .slice sa a'.length sc]; have b3 := B3.cell)
                  | (at_builtin; refine wpList_run rfl _ _ _ rfl rfl rfl HP.out.1 ?_))
                go_roundw
                case rel => exact ⟨k + 1, A + q, R ++ [midP (.ins a' t' m') lo hi], by omega, by go_num, by go_num, HK.out, by rw [List.map_append, List.map_singleton, HMO.out]; exact HP.out.2.1, Gr.push (w := S5) HP.out.2.2.2.2 HP.out.2.2.1 HP.out.2.2.2.1, by rw [List.length_append, List.length_singleton]; omega⟩
                case measure => simp [intOf]; omega
              · have hhe : hi = q := by omega
                have hmo : (midP (.ins a' t' m') lo hi).op = ⟨1, T2, ⟨0, 0, ⟨#[]⟩⟩, 0, a'⟩ := by
                  unfold midP
                  rw [if_pos hl0, if_neg (by rw [← hlen]; exact hhq)]
                  show (⟨1, textL ((runes t').drop lo), ep, 0, a'⟩ : Op) = _
                  rw [hT2]
                  rfl
                have HMO := Lib.hid hmo
                clear hmo hc2 hc2' hins2 hsz3 hT2 hlo hhi hlen
                go_wp2_with (first
                  | (go_at_call 118; obtain ⟨P, hPz⟩ : ∃ P, w3.heap.size = P := ⟨_, rfl⟩; rw [hPz] at B3 zw3 ⊢; have zwP : wr.heap.size ≤ P := hPz ▸ Gr.size (w := wr) (w' := w3) g03; refine (cut04_text t' 0 0 ⟨#[]⟩ 0 _ a' _ (hE.gr (by repeat (with_reducible first | assumption | exact Gr.refl _ | apply Gr.alloc | apply Gr.drewN | apply Gr.drew | apply Gr.iter | (refine Gr.setCell ?_ (by simp) _) | (refine Gr.trans ?_ (by assumption))))) (RdAttrs.gr hr (by repeat (with_reducible first | assumption | exact Gr.refl _ | apply Gr.alloc | apply Gr.drewN | apply Gr.drew | apply Gr.iter | (refine Gr.setCell ?_ (by simp) _) | (refine Gr.trans ?_ (by assumption))))) s1 s2 HRF.out (lo) (by omega) (by omega)).mono ?_; rw [HT2.out]; rintro e w4 ⟨y1, y2, rfl, hy1, hy2, hg4⟩; obtain ⟨ya, yn, yc, rfl, -⟩ := hy2.sl; dsimp only [opV, ep, es]; have B4 := B3.gr hg4; have b4 := B4.cell; have f4 := B4.frozen; have z4 := B4.lt; have g4 : Gr w w4 := Gr.trans (show Gr w w3 from (by repeat (with_reducible first | assumption | exact Gr.refl _ | apply Gr.alloc | apply Gr.drewN | apply Gr.drew | apply Gr.iter | (refine Gr.setCell ?_ (by simp) _) | (refine Gr.trans ?_ (by assumption))))) (Gr.trans ((Gr.refl w3).alloc _) hg4); have O4 : OwnM w.heap.size w w4 (.slice oa om oc) (R.map Piece.op) := OwnL.gr (w := wr) hO (fun _ _ h => OpM.gr (w := wr) h (Gr.trans g03 (Gr.trans ((Gr.refl w3).alloc _) hg4))) (Gr.trans g03 (Gr.trans ((Gr.refl w3).alloc _) hg4)); obtain ⟨S4, hS4⟩ : ∃ S, (((((((w4.setCell ⟨P, 0, none⟩ (.int .i64 1)).setCell ⟨P, 1, none⟩ (.string T2)).setCell ⟨P, 2, none⟩ (.int .i64 0)).setCell ⟨P, 3, none⟩ (.int .i64 0)).setCell ⟨P, 4, none⟩ (.string ⟨#[]⟩)).setCell ⟨P, 5, none⟩ (.int .i64 0)).setCell ⟨P, 6, none⟩ (.slice ya yn yc)) = S := ⟨_, rfl⟩; have DS4 : Blk S4 P 46 #[.int .i64 1, .string T2, .int .i64 0, .int .i64 0, .string ⟨#[]⟩, .int .i64 0, .slice ya yn yc] := (by rw [← hS4]; exact Blk.set7M B4 _ _ _ _ _ _ _); have GS4 : Gr w S4 := (by rw [← hS4]; exact gr7M g4 zw3 _ _ _ _ _ _ _); have OS4 : OwnM w.heap.size w S4 (.slice oa om oc) (R.map Piece.op) := (by rw [← hS4]; exact OwnM.far O4 zw3 (own_ne hO zwP) B4 _ _ _ _ _ _ _); have AS4 : OwnL AttrR 4 0 83 S4 (.slice ya yn yc) a' := (by rw [← hS4]; exact OwnL.base_le (own7M hy2 (by simp; omega) _ _ _ _ _ _ _) (Nat.zero_le _)); have HS4 := Lib.hid hS4; clear hS4; have HZ4 := Lib.hid (And.intro DS4 (And.intro GS4 (And.intro OS4 AS4))); clear DS4 GS4 OS4 AS4 O4 hy2 g4; obtain ⟨DS4, GS4, OS4, AS4⟩ := HZ4.out; obtain ⟨v6, w6, r6, S6, G6, b6⟩ := push_opM w S4 w.heap.size 22 (x := ⟨1, T2, ⟨0, 0, ⟨#[]⟩⟩, 0, a'⟩) (cs := [.int .i64 1, .string T2, .int .i64 0, .int .i64 0, .string ⟨#[]⟩, .int .i64 0, .slice ya yn yc]) OS4 ⟨_, rfl, .inr ⟨AS4, hash⟩, hsz2, s2⟩ rfl (by rw [List.length_map]; omega) GS4.size; have zS4 : S4.heap.size = w4.heap.size := (by rw [← HS4.out]; simp); rw [zS4, ← HS4.out] at r6; have HP := Lib.hid (And.intro r6 (And.intro S6 (And.intro G6 (And.intro b6 GS4)))); clear r6 S6 G6 b6 DS4 GS4 OS4 AS4)
                  | (go_at_call 115; refine (rlen_any _ _ _ _ _ _ _ _ _ (RdAttrs.gr hr (by repeat (with_reducible first | assumption | exact Gr.refl _ | apply Gr.alloc | apply Gr.drewN | apply Gr.drew | apply Gr.iter | (refine Gr.setCell ?_ (by simp) _) | (refine Gr.trans ?_ (by assumption))))) s1).mono ?_; rw [HL.out]; rintro e w3 ⟨rfl, hg3⟩; have g03 : Gr wr w3 := (by repeat (with_reducible first | assumption | exact Gr.refl _ | apply Gr.alloc | apply Gr.drewN | apply Gr.drew | apply Gr.iter | (refine Gr.setCell ?_ (by simp) _) | (refine Gr.trans ?_ (by assumption)))); have d0 := Gr.cell g03 c0; have d1 := Gr.cell g03 c1; have d2 := Gr.cell g03 c2; have d3 := Gr.cell g03 c3; have d4 := Gr.cell g03 c4; have d5 := Gr.cell g03 c5; have d6 := Gr.cell g03 c6; have zw3 : w.heap.size ≤ w3.heap.size := Gr.size (w := w) (by repeat (with_reducible first | assumption | exact Gr.refl _ | apply Gr.alloc | apply Gr.drewN | apply Gr.drew | apply Gr.iter | (refine Gr.setCell ?_ (by simp) _) | (refine Gr.trans ?_ (by assumption)))); have B3 := Blk.new w3 46 #[.int .i64 1, .string t', .int .i64 0, .int .i64 0, .string ⟨#[]⟩, .int .i64 0, .slice sa a'.length sc]; have b3 := B3.cell)
                  | (at_builtin; refine wpList_run rfl _ _ _ rfl rfl rfl HP.out.1 ?_))
                go_roundw
                case rel => exact ⟨k + 1, A + q, R ++ [midP (.ins a' t' m') lo hi], by omega, by go_num, by go_num, HK.out, by rw [List.map_append, List.map_singleton, HMO.out]; exact HP.out.2.1, Gr.push (w := S4) HP.out.2.2.2.2 HP.out.2.2.1 HP.out.2.2.2.1, by rw [List.length_append, List.length_singleton]; omega⟩
                case measure => simp [intOf]; omega
            · have hlo0 : lo = 0 := by omega
              subst hlo0
              have hhq : (hi : Int) < q := by omega
              obtain ⟨T1, hT1⟩ : ∃ T1, textL ((runes t').take hi) = T1 := ⟨_, rfl⟩
              have hszT1 : szS T1 := hT1 ▸ (text_take_sz HP1.out.2.2.1 s1 hi).1
              have hmo : (midP (.ins a' t' m') (0 : Nat) hi).op = ⟨1, T1, ⟨0, 0, ⟨#[]⟩⟩, 0, a'⟩ := by
                unfold midP
                rw [if_neg (by omega), if_pos (by rw [← hlen]; exact hhq)]
                show (⟨1, textL ((runes t').take (hi : Int).toNat), ep, 0, a'⟩ : Op) = _
                rw [show (hi : Int).toNat = hi by omega, hT1]
                rfl
              have HMO := Lib.hid hmo; have HT1 := Lib.hid hT1
              have x1 : max ((f : Int) - A) 0 = 0 := by omega
              have x2 : min ((t : Int) - A) q = hi := hhi.symm
              have x3 : (0 : Int) < hi := by omega
              clear hmo hT1 hlo hhi hlen
              · go_wp2_with (first
                  | (go_at_call 118; obtain ⟨P, hPz⟩ : ∃ P, w3.heap.size = P := ⟨_, rfl⟩; rw [hPz] at B3 zw3 ⊢; have zwP : wr.heap.size ≤ P := hPz ▸ Gr.size (w := wr) (w' := w3) g03; refine (cut04_text t' 0 0 ⟨#[]⟩ 0 _ a' _ (hE.gr (by repeat (with_reducible first | assumption | exact Gr.refl _ | apply Gr.alloc | apply Gr.drewN | apply Gr.drew | apply Gr.iter | (refine Gr.setCell ?_ (by simp) _) | (refine Gr.trans ?_ (by assumption))))) (RdAttrs.gr hr (by repeat (with_reducible first | assumption | exact Gr.refl _ | apply Gr.alloc | apply Gr.drewN | apply Gr.drew | apply Gr.iter | (refine Gr.setCell ?_ (by simp) _) | (refine Gr.trans ?_ (by assumption))))) s1 s2 HRF.out (hi) (by omega) (by omega)).mono ?_; rw [HT1.out]; rintro e w4 ⟨y1, y2, rfl, hy1, hy2, hg4⟩; obtain ⟨ya, yn, yc, rfl, -⟩ := hy1.sl; dsimp only [opV, ep, es]; have B4 := B3.gr hg4; have b4 := B4.cell; have f4 := B4.frozen; have z4 := B4.lt; have g4 : Gr w w4 := Gr.trans (show Gr w w3 from (by repeat (with_reducible first | assumption | exact Gr.refl _ | apply Gr.alloc | apply Gr.drewN | apply Gr.drew | apply Gr.iter | (refine Gr.setCell ?_ (by simp) _) | (refine Gr.trans ?_ (by assumption))))) (Gr.trans ((Gr.refl w3).alloc _) hg4); have O4 : OwnM w.heap.size w w4 (.slice oa om oc) (R.map Piece.op) := OwnL.gr (w := wr) hO (fun _ _ h => OpM.gr (w := wr) h (Gr.trans g03 (Gr.trans ((Gr.refl w3).alloc _) hg4))) (Gr.trans g03 (Gr.trans ((Gr.refl w3).alloc _) hg4)); obtain ⟨S4, hS4⟩ : ∃ S, (((((((w4.setCell ⟨P, 0, none⟩ (.int .i64 1)).setCell ⟨P, 1, none⟩ (.string T1)).setCell ⟨P, 2, none⟩ (.int .i64 0)).setCell ⟨P, 3, none⟩ (.int .i64 0)).setCell ⟨P, 4, none⟩ (.string ⟨#[]⟩)).setCell ⟨P, 5, none⟩ (.int .i64 0)).setCell ⟨P, 6, none⟩ (.slice ya yn yc)) = S := ⟨_, rfl⟩; have DS4 : Blk S4 P 46 #[.int .i64 1, .string T1, .int .i64 0, .int .i64 0, .string ⟨#[]⟩, .int .i64 0, .slice ya yn yc] := (by rw [← hS4]; exact Blk.set7M B4 _ _ _ _ _ _ _); have GS4 : Gr w S4 := (by rw [← hS4]; exact gr7M g4 zw3 _ _ _ _ _ _ _); have OS4 : OwnM w.heap.size w S4 (.slice oa om oc) (R.map Piece.op) := (by rw [← hS4]; exact OwnM.far O4 zw3 (own_ne hO zwP) B4 _ _ _ _ _ _ _); have AS4 : OwnL AttrR 4 0 83 S4 (.slice ya yn yc) a' := (by rw [← hS4]; exact OwnL.base_le (own7M hy1 (by simp; omega) _ _ _ _ _ _ _) (Nat.zero_le _)); have HS4 := Lib.hid hS4; clear hS4; have HZ4 := Lib.hid (And.intro DS4 (And.intro GS4 (And.intro OS4 AS4))); clear DS4 GS4 OS4 AS4 O4 hy1 g4; obtain ⟨DS4, GS4, OS4, AS4⟩ := HZ4.out; obtain ⟨v6, w6, r6, S6, G6, b6⟩ := push_opM w S4 w.heap.size 22 (x := ⟨1, T1, ⟨0, 0, ⟨#[]⟩⟩, 0, a'⟩) (cs := [.int .i64 1, .string T1, .int .i64 0, .int .i64 0, .string ⟨#[]⟩, .int .i64 0, .slice ya yn yc]) OS4 ⟨_, rfl, .inr ⟨AS4, hash⟩, hszT1, s2⟩ rfl (by rw [List.length_map]; omega) GS4.size; have zS4 : S4.heap.size = w4.heap.size := (by rw [← HS4.out]; simp); rw [zS4, ← HS4.out] at r6; have HP := Lib.hid (And.intro r6 (And.intro S6 (And.intro G6 (And.intro b6 GS4)))); clear r6 S6 G6 b6 DS4 GS4 OS4 AS4)
                  | (go_at_call 115; refine (rlen_any _ _ _ _ _ _ _ _ _ (RdAttrs.gr hr (by repeat (with_reducible first | assumption | exact Gr.refl _ | apply Gr.alloc | apply Gr.drewN | apply Gr.drew | apply Gr.iter | (refine Gr.setCell ?_ (by simp) _) | (refine Gr.trans ?_ (by assumption))))) s1).mono ?_; rw [HL.out]; rintro e w3 ⟨rfl, hg3⟩; have g03 : Gr wr w3 := (by repeat (with_reducible first | assumption | exact Gr.refl _ | apply Gr.alloc | apply Gr.drewN | apply Gr.drew | apply Gr.iter | (refine Gr.setCell ?_ (by simp) _) | (refine Gr.trans ?_ (by assumption)))); have d0 := Gr.cell g03 c0; have d1 := Gr.cell g03 c1; have d2 := Gr.cell g03 c2; have d3 := Gr.cell g03 c3; have d4 := Gr.cell g03 c4; have d5 := Gr.cell g03 c5; have d6 := Gr.cell g03 c6; have zw3 : w.heap.size ≤ w3.heap.size := Gr.size (w := w) (by repeat (with_reducible first | assumption | exact Gr.refl _ | apply Gr.alloc | apply Gr.drewN | apply Gr.drew | apply Gr.iter | (refine Gr.setCell ?_ (by simp) _) | (refine Gr.trans ?_ (by assumption)))); have B3 := Blk.new w3 46 #[.int .i64 1, .string t', .int .i64 0, .int .i64 0, .string ⟨#[]⟩, .int .i64 0, .slice sa a'.length sc]; have b3 := B3.cell)
                  | (at_builtin; refine wpList_run rfl _ _ _ rfl rfl rfl HP.out.1 ?_))
                go_roundw
                case rel => exact ⟨k + 1, A + q, R ++ [midP (.ins a' t' m') (0 : Nat) hi], by omega, by go_num, by go_num, HK.out, by rw [List.map_append, List.map_singleton, HMO.out]; exact HP.out.2.1, Gr.push (w := S4) HP.out.2.2.2.2 HP.out.2.2.1 HP.out.2.2.2.1, by rw [List.length_append, List.length_singleton]; omega⟩
                case measure => simp [intOf]; omega
      · have hSk := hS.skip hp hlh (unitsP_ne hpk)
        obtain ⟨q, hq⟩ : ∃ q, (unitsP p).length = q := ⟨_, rfl⟩
        rw [hq] at hlen hrl hA1 hlh hSk
        have HL := Lib.hid hrl; have HK := Lib.hid hSk
        clear hrl hSk hx hop hpk hS hlen
        go_wp2_with (go_at_call 115; refine (rlen_any _ _ _ _ _ _ _ _ _ (RdAttrs.gr hr (by repeat (with_reducible first | assumption | exact Gr.refl _ | apply Gr.alloc | apply Gr.drewN | apply Gr.drew | apply Gr.iter | (refine Gr.setCell ?_ (by simp) _) | (refine Gr.trans ?_ (by assumption))))) s1).mono ?_; rw [HL.out]; rintro e w3 ⟨rfl, hg3⟩)
        go_roundw
        case rel => exact ⟨k + 1, A + q, R, by omega, by go_num, by go_num, HK.out, OwnL.gr hO (fun _ _ h => OpM.gr h hg3) hg3, (by repeat (with_reducible first | assumption | exact Gr.refl _ | apply Gr.alloc | apply Gr.drewN | apply Gr.drew | apply Gr.iter | (refine Gr.setCell ?_ (by simp) _) | (refine Gr.trans ?_ (by assumption)))), by omega⟩
        case measure => simp [intOf]; omega
    · obtain rfl : k = n := by omega
      have hun := hS.un
      rw [show ps.take k = ps from List.take_of_length_le (by omega)] at hun
      have hok' := hS.ok; have hsep' := hS.sep
      clear hS
      go_wp2
      go_ret2
      exact ⟨_, R, rfl, hO, hok', hsep', hun, hg⟩
end Ve
