/- Plain laws: what has been taken of a script, and what is left. -/
import Derived.Test.YtapolkhdikdjbaaGreatDoorRU
set_option linter.all false
namespace Ve
open Go Go.RowKit Go.Proofs

def ub : Un → Int
  | .i _ _ => 0
  | .r _ => 1
  | .d => 1
def ur : Un → Int
  | .i _ _ => 1
  | .r _ => 1
  | .d => 0
theorem sum_const {α : Type} (l : List α) (c : Int) : (l.map fun _ => c).sum = c * l.length := by
  induction l with
  | nil => simp
  | cons x l ih => rw [List.map_cons, List.sum_cons, ih, List.length_cons]; push_cast; rw [Int.mul_add]; omega
theorem sum_rep (n : Nat) (x : Un) (f : Un → Int) : ((List.replicate n x).map f).sum = f x * n := by
  rw [List.map_replicate]
  induction n with
  | zero => simp
  | succ n ih => rw [List.replicate_succ, List.sum_cons, ih]; push_cast; rw [Int.mul_add]; omega
theorem b_units {p : Piece} (h : pOk p) : p.b = ((unitsP p).map ub).sum ∧ p.r = ((unitsP p).map ur).sum := by
  cases p with
  | ins a t n =>
    have e := (ins_ok.1 h).2.2.2
    simp only [unitsP, List.map_map, Piece.b, Piece.r]
    rw [show (ub ∘ fun r => Un.i (Cel.ch r) a) = fun _ => 0 from rfl, show (ur ∘ fun r => Un.i (Cel.ch r) a) = fun _ => 1 from rfl, sum_const, sum_const]
    omega
  | emb a t v => simp [unitsP, Piece.b, Piece.r, ub, ur]
  | ret a n =>
    have := (ret_ok.1 h).1
    simp only [unitsP, Piece.b, Piece.r]
    rw [sum_rep, sum_rep]
    simp only [ub, ur]
    omega
  | del n =>
    have := (del_ok.1 h).1
    simp only [unitsP, Piece.b, Piece.r]
    rw [sum_rep, sum_rep]
    simp only [ub, ur]
    omega
theorem bsum_units {l : List Piece} (h : PsOk l) : bsum l = ((units l).map ub).sum ∧ rsum l = ((units l).map ur).sum := by
  induction l with
  | nil => exact ⟨rfl, rfl⟩
  | cons p l ih =>
    obtain ⟨i1, i2⟩ := ih fun x hx => h x (by simp [hx])
    obtain ⟨p1, p2⟩ := b_units (h p (by simp))
    rw [units_cons, bsum_cons, rsum_cons, List.map_append, List.map_append, List.sum_append, List.sum_append, i1, i2, p1, p2]
    exact ⟨rfl, rfl⟩
theorem sums_of_units {A B : List Piece} (ha : PsOk A) (hb : PsOk B) (e : units A = units B) : bsum A = bsum B ∧ rsum A = rsum B := by
  rw [(bsum_units ha).1, (bsum_units hb).1, (bsum_units ha).2, (bsum_units hb).2, e]
  exact ⟨rfl, rfl⟩
theorem Side.of_units {ps L : List Piece} (hp : PsOk ps) (hl : PsOk L) (e : units L = units ps) : Side ps L := by
  obtain ⟨e1, e2⟩ := sums_of_units hl hp e
  exact ⟨L, [], by simp, hl, by simp, e, e1, e2⟩
theorem PsOk.app {A B : List Piece} (ha : PsOk A) (hb : PsOk B) : PsOk (A ++ B) := fun p hp => by
  rcases List.mem_append.1 hp with h | h
  · exact ha p h
  · exact hb p h
theorem gath_units {ps : List Piece} : ∀ {n : Int}, PsOk ps → 0 ≤ n → units (gathP ps n) = (units ps).take n.toNat ∧ PsOk (gathP ps n) := by
  induction ps with
  | nil => intro n _ _; exact ⟨by simp [gathP, units], by simp [gathP, PsOk]⟩
  | cons p r ih =>
    intro n hok hn
    have hp := hok p (by simp)
    have hr : PsOk r := fun x hx => hok x (by simp [hx])
    have hl := unitsP_len hp
    have h1 := pOk_pos hp
    simp only [gathP]
    by_cases h0 : n ≤ 0
    · rw [if_pos h0]
      have : n.toNat = 0 := by omega
      rw [this]
      exact ⟨by simp [units], by simp [PsOk]⟩
    · rw [if_neg h0]
      by_cases hc : n < p.len
      · rw [if_pos hc]
        obtain ⟨c1, -⟩ := cut_units hp (by omega) hc
        obtain ⟨k1, -, -, -⟩ := cut_ok hp (by omega) hc
        refine ⟨?_, fun x hx => by rw [List.mem_singleton.1 hx]; exact k1⟩
        rw [units_one, c1, units_cons, List.take_append_of_le_length (by omega)]
      · rw [if_neg hc]
        obtain ⟨i1, i2⟩ := ih (n := n - p.len) hr (by omega)
        refine ⟨?_, fun x hx => ?_⟩
        · have e1 : (unitsP p).take n.toNat = unitsP p := List.take_of_length_le (by omega)
          have e2 : n.toNat - (unitsP p).length = (n - p.len).toNat := by omega
          rw [units_cons, units_cons, i1, List.take_append, e1, e2]
        · rcases List.mem_cons.1 hx with rfl | hx
          · exact hp
          · exact i2 x hx
/-- What has been taken (tk), what is left (rs), and the builder that took it (s). -/
structure WbI (ps tk rs : List Piece) (s : Bld) : Prop where
  ok : PsOk tk
  can : Can rs
  un : units tk ++ units rs = units ps
  st : s = putAll .new (tk.map Piece.op)
  inv : s.Inv (opsum (tk.map Piece.op)) tk.length
  base : s.base = bsum tk
  res : s.result = rsum tk
theorem WbI.new {ps : List Piece} (h : Can ps) : WbI ps [] ps .new := ⟨by simp [PsOk], h, rfl, rfl, Bld.Inv.new, rfl, rfl⟩
theorem WbI.tsz {ps tk rs : List Piece} {s : Bld} (h : WbI ps tk rs s) (hp : Can ps) : tsum tk + tsum rs = tsum ps := by
  rw [tsum_usz h.ok, tsum_usz h.can.ok, tsum_usz hp.ok, ← usz_app, h.un]
theorem WbI.next {ps tk rs : List Piece} {s : Bld} {n : Int} (h : WbI ps tk rs s) (hp : Can ps) (hne : rs ≠ []) (h1 : 1 ≤ n) (hlen : tk.length ≤ 20000) (ht : tsum ps ≤ 6000) :
    pOk (nextP rs n).1 ∧ 1 ≤ (nextP rs n).1.len ∧ (nextP rs n).1.len ≤ n ∧ (s.push (nextP rs n).1.op).2 = 0 ∧ WbI ps (tk ++ [(nextP rs n).1]) (nextP rs n).2 (s.push (nextP rs n).1.op).1 ∧
    JoinOk s.pieces (nextP rs n).1 ∧ s.pieces.length + 2 ≤ 1099511627776 := by
  obtain ⟨k1, k2, k3, k4⟩ := next_ok h.can.ok h1
  obtain ⟨u1, u2, -⟩ := next_units h.can.ok hne h1
  obtain ⟨c1, -, -⟩ := h.can.next h1
  obtain ⟨P, hP⟩ : ∃ P, nextP rs n = P := ⟨_, rfl⟩
  rw [hP] at k1 k2 k3 k4 u1 u2 c1 ⊢
  obtain ⟨x, r⟩ := P
  simp only at k1 k2 k3 k4 u1 u2 c1 ⊢
  have hun : units (tk ++ [x]) ++ units r = units ps := by
    rw [units_app, units_one, List.append_assoc, u1, u2, List.take_append_drop]
    exact h.un
  have hok' : PsOk (tk ++ [x]) := PsOk.app h.ok fun y hy => by rw [List.mem_singleton.1 hy]; exact k1
  have hall : PsOk ((tk ++ [x]) ++ r) := PsOk.app hok' c1.ok
  obtain ⟨s1, s2⟩ := sums_of_units hall hp.ok (by rw [units_app]; exact hun)
  rw [bsum_app, bsum_app] at s1
  rw [rsum_app, rsum_app] at s2
  have n1 := bsum_nn c1.ok.nn
  have n2 := rsum_nn c1.ok.nn
  have hb1 : bsum [x] = x.b := by simp [bsum]
  have hr1 : rsum [x] = x.r := by simp [rsum]
  have hpb := hp.b
  have hpr := hp.r
  have hfit : s.fits x = true := by
    unfold Bld.fits
    rw [h.base, h.res]
    exact decide_eq_true ⟨by omega, by omega⟩
  have hpush : (s.push x.op).2 = 0 := by
    unfold Bld.push
    rw [if_neg (by rw [k1.1]; simp), k1.2, hfit]
    simp
  obtain ⟨-, -, e3⟩ := push_ok hpush
  rw [k1.2] at e3
  have hT := opsum_ps h.ok
  have hts := h.tsz hp
  have hxt := op_text k1
  have hxs : tsize x ≤ 6000 := by
    have e := tsum_usz hall
    rw [units_app, hun, ← tsum_usz hp.ok, tsum_app, tsum_app] at e
    have : tsum [x] = tsize x := by simp [tsum]
    omega
  refine ⟨k1, k3, k4, hpush, ⟨hok', c1, hun, ?_, ?_, ?_, ?_⟩, h.inv.joinOk hfit (by omega) (by omega), by have := h.inv.len; omega⟩
  · rw [e3, h.st, List.map_append, putAll_app]
    simp [putAll, k1.2]
  · rw [List.map_append, opsum_app, List.map_singleton, opsum_one, List.length_append, List.length_singleton]
    exact h.inv.push hpush (by unfold szS; omega)
  · rw [e3]
    have := (put_base s x.op).1
    rw [k1.2] at this
    rw [this, h.base, bsum_app, hb1]
  · rw [e3]
    have := (put_base s x.op).2
    rw [k1.2] at this
    rw [this, h.res, rsum_app, hr1]
theorem WbI.done {ps tk : List Piece} {s : Bld} (h : WbI ps tk [] s) (hp : Can ps) (hlen : tk.length ≤ 20001) (ht : tsum ps ≤ 6000) (hl : ps.length ≤ 12001) : s.delta.map Piece.op = ps.map Piece.op := by
  have hu : units tk = units ps := by have := h.un; simpa [units] using this
  obtain ⟨c1, -⟩ := (Side.of_units hp.ok h.ok hu).canon hp (by omega) (by omega)
  rw [h.st, ← canon06_put h.ok.ops, c1]
theorem WbI.taken {ps tk rs : List Piece} {s : Bld} (h : WbI ps tk rs s) (hp : Can ps) (ht : tsum ps ≤ 6000) (hl : ps.length ≤ 12001) (hr : rs.length ≤ 12001) {n : Int} (hn : n = (units tk).length) :
    canon06 ((gathP ps n ++ rs).map Piece.op) = ps.map Piece.op ∧ opsum ((gathP ps n ++ rs).map Piece.op) ≤ 1099511627776 ∧ PsOk (gathP ps n ++ rs) := by
  obtain ⟨g1, g2⟩ := gath_units (ps := ps) (n := n) hp.ok (by omega)
  have hok := PsOk.app g2 h.can.ok
  have hu : units (gathP ps n ++ rs) = units ps := by
    rw [units_app, g1, ← h.un, List.take_append_of_le_length (by omega), List.take_of_length_le (by omega)]
  have hg := gathP_len ps n
  obtain ⟨c1, c2⟩ := (Side.of_units hp.ok hok hu).canon hp (by rw [List.length_append]; omega) (by omega)
  exact ⟨c1, c2, hok⟩
theorem un_sum (l : List Un) : (l.length : Int) ≤ (l.map ub).sum + (l.map ur).sum := by
  induction l with
  | nil => simp
  | cons x l ih =>
    rw [List.map_cons, List.map_cons, List.sum_cons, List.sum_cons, List.length_cons]
    cases x <;> simp only [ub, ur] <;> push_cast <;> omega
theorem units_bound {l : List Piece} (h : Can l) : ((units l).length : Int) ≤ 2199023255552 := by
  have h1 := un_sum (units l)
  rw [← (bsum_units h.ok).1, ← (bsum_units h.ok).2] at h1
  have := h.b
  have := h.r
  omega
theorem good_of_op {p q : Piece} (h : p.op = q.op) (hq : q.good) : p.good := by
  cases p <;> cases q <;> simp_all [Piece.op, Piece.good]
theorem WbI.len {ps tk rs : List Piece} {s : Bld} (h : WbI ps tk rs s) : (units tk).length + (units rs).length = (units ps).length := by rw [← h.un, List.length_append]
theorem next_len1 {rs : List Piece} (h : Can rs) (hne : rs ≠ []) : (nextP rs 1099511627776).2.length + 1 = rs.length := by
  have h2 := h.left.2
  cases rs with
  | nil => exact absurd rfl hne
  | cons p r =>
    simp only [leftP] at h2
    simp only [nextP]
    rw [if_pos h2]
    rfl
end Ve
