/- Walks: the law WalkSteps. -/
import Derived.Test.YtapolkhdikdjbaaGreatDoorSA
import Derived.Test.YtapolkhdikdjbaaGreatDoorRS
set_option linter.all false
namespace Ve
open Go Go.RowKit Go.Proofs Go.Shelf

attribute [local go_sem] Oper.semAt_some func_nil1 func_nil2 field_kind
/-- A step that is read. -/
def StpL (w : World) (x : Op × Op) (cs : List Value) : Prop := ∃ ca cb, cs = ca ++ cb ∧ OpR w x.1 ca ∧ OpR w x.2 cb
abbrev RdStp (w : World) (v : Value) (l : List (Op × Op)) : Prop := RdList StpL 14 w v l
theorem StpL.gr {w w' : World} {x : Op × Op} {cs : List Value} (h : StpL w x cs) (g : Gr w w') : StpL w' x cs := by
  obtain ⟨ca, cb, e, ⟨v1, e1, r1, s1⟩, ⟨v2, e2, r2, s2⟩⟩ := h
  exact ⟨ca, cb, e, ⟨v1, e1, RdAttrs.gr r1 g, s1⟩, ⟨v2, e2, RdAttrs.gr r2 g, s2⟩⟩
theorem RdStp.gr {w w' : World} {v : Value} {l : List (Op × Op)} (h : RdStp w v l) (g : Gr w w') : RdStp w' v l := RdList.gr (w := w) h (fun _ _ h => StpL.gr h g) g
theorem OwnStp.rd {base : Nat} {w0 w : World} {v : Value} {l : List (Op × Op)} (h : OwnStp base w0 w v l) (g : Gr w0 w) (hl : l.length ≤ 1099511627776) : RdStp w v l := by
  obtain ⟨xs, ho, hr⟩ := h
  have h' : OwnL StpL 14 base 62 w v l := by
    have := OwnL.via (R := StpR w0) (R' := StpL) id (fun x cs h => by
      obtain ⟨ca, cb, e, ha, hb⟩ := h
      exact ⟨ca, cb, e, ha.opR g, hb.opR g⟩) ⟨xs, ho, hr⟩
    rwa [List.map_id] at this
  exact OwnL.rd h' hl
theorem RdStp.at_ {w : World} {a : Option Addr} {n cap : Nat} {l : List (Op × Op)} (h : RdStp w (.slice a n cap) l) (i : Nat) (hi : i < n) :
    ∃ b off x s1 s2, l[i]? = some x ∧ a = some ⟨b, off, none⟩ ∧ RdAttrs w s1 x.1.attrs ∧ RdAttrs w s2 x.2.attrs ∧
      w.cell? ⟨b, off + i * 14, none⟩ = some (.int .i64 x.1.kind) ∧ w.cell? ⟨b, off + i * 14 + 1, none⟩ = some (.string x.1.text) ∧ w.cell? ⟨b, off + i * 14 + 2, none⟩ = some (.int .i64 x.1.val.kind) ∧ w.cell? ⟨b, off + i * 14 + 3, none⟩ = some (.int .i64 x.1.val.num) ∧
      w.cell? ⟨b, off + i * 14 + 4, none⟩ = some (.string x.1.val.text) ∧ w.cell? ⟨b, off + i * 14 + 5, none⟩ = some (.int .i64 x.1.count) ∧ w.cell? ⟨b, off + i * 14 + 6, none⟩ = some s1 ∧
      w.cell? ⟨b, off + i * 14 + 7, none⟩ = some (.int .i64 x.2.kind) ∧ w.cell? ⟨b, off + i * 14 + 8, none⟩ = some (.string x.2.text) ∧ w.cell? ⟨b, off + i * 14 + 9, none⟩ = some (.int .i64 x.2.val.kind) ∧ w.cell? ⟨b, off + i * 14 + 10, none⟩ = some (.int .i64 x.2.val.num) ∧
      w.cell? ⟨b, off + i * 14 + 11, none⟩ = some (.string x.2.val.text) ∧ w.cell? ⟨b, off + i * 14 + 12, none⟩ = some (.int .i64 x.2.count) ∧ w.cell? ⟨b, off + i * 14 + 13, none⟩ = some s2 := by
  obtain ⟨b, off, x, cs, e, hx, ⟨ca, cb, rfl, ⟨v1, rfl, r1, -⟩, ⟨v2, rfl, r2, -⟩⟩, _, hc⟩ := RdList.get h i hi
  exact ⟨b, off, x, v1, v2, hx, e, r1, r2, hc 0 _ (by omega) rfl, hc 1 _ (by omega) rfl, hc 2 _ (by omega) rfl, hc 3 _ (by omega) rfl, hc 4 _ (by omega) rfl, hc 5 _ (by omega) rfl, hc 6 _ (by omega) rfl,
    hc 7 _ (by omega) rfl, hc 8 _ (by omega) rfl, hc 9 _ (by omega) rfl, hc 10 _ (by omega) rfl, hc 11 _ (by omega) rfl, hc 12 _ (by omega) rfl, hc 13 _ (by omega) rfl⟩
/-- A piece or none, beside its operation or none. -/
theorem is07_o (o : Option Piece) (pv : Value) (k : Int) (t : ByteArray) (va vb : Int) (vt : ByteArray) (c : Int) (sl : Value) (l : List Attr) (w : World) (hx : (⟨k, t, ⟨va, vb, vt⟩, c, l⟩ : Op) = (o.map Piece.op).getD zeroO) (hp : PieceO w o pv) (hg : ∀ p, o = some p → p.good ∧ p.op.kind ≠ 0) (hl : RdAttrs w sl l) :
    Calls Tryz.prog 22 #[pv, .agg #[.int .i64 k, .string t, .int .i64 va, .int .i64 vb, .string vt, .int .i64 c, sl]] w fun e w' => e = .returned (.bool true) ∧ Gr w w' := by
  cases o with
  | none =>
    obtain rfl : pv = .nilIface := hp
    have h0 : k = 0 := congrArg Op.kind hx
    subst h0
    exact is07_nil _ _ _ _ _ sl l w hl
  | some p =>
    obtain ⟨h1, h2⟩ := hg p rfl
    have hk : k ≠ 0 := by have h3 : k = p.op.kind := congrArg Op.kind hx; rw [h3]; exact h2
    refine (is07_any p pv k t va vb vt c sl l w hp h1 hl hk).mono ?_
    rintro e w' ⟨rfl, hg'⟩
    refine ⟨?_, hg'⟩
    rw [decide_eq_true (show p.op = _ from hx.symm)]
theorem PieceO.gr {w w' : World} {o : Option Piece} {v : Value} (h : PieceO w o v) (g : Gr w w') : PieceO w' o v := by
  cases o with
  | none => exact h
  | some p => exact PieceV.gr h g
theorem op_kindS (p : Piece) : p.op.kind ≠ 0 := by cases p <;> simp [Piece.op]
/-- What WalkSteps holds between two rounds of a turn. -/
def WtI (WT : World) (gi : Nat) (S : List (Option Piece × Option Piece)) (pre : List Stp) (W : World) : Prop :=
  Blk W gi 3 #[.int .i64 pre.length] ∧ Gr WT W ∧ pre.map (·.1) = S.take pre.length
theorem WtI.abd {B gi : Nat} {WT : World} {S : List (Option Piece × Option Piece)} (hB : WT.heap.size ≤ B) (pre : List Stp) : Abd (fun b t => B ≤ b ∧ wkG t) (WtI WT gi S pre) := by
  rintro W W' ⟨h1, h2, h3⟩ g
  exact ⟨h1.tn g (fun h => by simp [wkG] at h), h2.tn g fun b t h => Nat.le_trans hB h.1, h3⟩
/-- A turn that is left early. -/
def WtX (WT : World) (gi : Nat) (S : List (Option Piece × Option Piece)) (stop : Int) (c : Code) (pre : List Stp) (W : World) : Prop :=
  c = .exit 2 ∧ WtI WT gi S pre W ∧ stop < pre.length
theorem WtX.abd {B gi : Nat} {WT : World} {S : List (Option Piece × Option Piece)} {stop : Int} (hB : WT.heap.size ≤ B) (c : Code) (pre : List Stp) : Abd (fun b t => B ≤ b ∧ wkG t) (WtX WT gi S stop c pre) := by
  rintro W W' ⟨h1, h2, h3⟩ g
  exact ⟨h1, WtI.abd hB pre W W' h2 g, h3⟩
theorem wt_start (w : World) (s a b : Value) : ∃ WA, ((w.alloc (.cells #[s] 56)).alloc (.cells #[a] 26)).alloc (.cells #[b] 26) = WA ∧ Gr w WA ∧ WA.heap.size = w.heap.size + 1 + 1 + 1 ∧
    WA.cell? ⟨w.heap.size, 0, none⟩ = some s ∧ WA.cell? ⟨w.heap.size + 1, 0, none⟩ = some a ∧ WA.cell? ⟨w.heap.size + 1 + 1, 0, none⟩ = some b := by
  refine ⟨_, rfl, (((Gr.refl w).alloc _).alloc _).alloc _, by simp, (((Blk.new w _ #[s]).alloc _).alloc _).cell 0, ?_, ?_⟩
  · have h := Blk.new (w.alloc (.cells #[s] 56)) 26 #[a]
    rw [World.size_alloc] at h
    exact (h.alloc _).cell 0
  · have h := Blk.new ((w.alloc (.cells #[s] 56)).alloc (.cells #[a] 26)) 26 #[b]
    simp only [World.size_alloc] at h
    exact h.cell 0
/-- The box of numbers that is turned. -/
def wtW (gi : Nat) (b : Nat) (t : Option TypeId) : Prop := b = gi ∧ t = some 3
theorem step_good {o1 o2 : Option Piece} (h : StepOk (o1, o2)) : (∀ p, o1 = some p → p.good ∧ p.op.kind ≠ 0) ∧ (∀ p, o2 = some p → p.good ∧ p.op.kind ≠ 0) := by
  have key : ∀ p : Piece, pOk p → p.good ∧ p.op.kind ≠ 0 := fun p h => ⟨PsOk.good (ps := [p]) (fun x hx => by rw [List.mem_singleton.1 hx]; exact h) p (by simp), op_kindS p⟩
  rcases h with ⟨q, e, hq, -⟩ | ⟨p, e, hp, -⟩ | ⟨p, q, e, hp, hq, -⟩
  · obtain ⟨rfl, rfl⟩ : o1 = none ∧ o2 = some q := by simpa using e
    exact ⟨fun p h => by (cases h), fun p h => by injection h with h; subst h; exact key _ hq⟩
  · obtain ⟨rfl, rfl⟩ : o1 = some p ∧ o2 = none := by simpa using e
    exact ⟨fun p h => by injection h with h; subst h; exact key _ hp, fun p h => by (cases h)⟩
  · obtain ⟨rfl, rfl⟩ : o1 = some p ∧ o2 = some q := by simpa using e
    exact ⟨fun p h => by injection h with h; subst h; exact key _ hp, fun p h => by injection h with h; subst h; exact key _ hq⟩
set_option maxRecDepth 100000 in
set_option maxHeartbeats 8000000 in
theorem walkSteps_any {ea : Nat → Addr} (la lb : List Op) (va vb : Value) (stop : Int) (w : World) (hE : Env ea w) (hla : RdOps w va la) (hlb : RdOps w vb lb) (hTa : opsum la ≤ 1048576) (hNa : la.length ≤ 1048576) (hTb : opsum lb ≤ 1048576) (hNb : lb.length ≤ 1048576) :
    Calls Tryz.prog 4 #[va, vb, .int .i64 stop] w fun e w' => e = .returned (.bool true) ∧ Gr w w' := by
  obtain ⟨N, hN⟩ : ∃ N : Nat, N = 5 := ⟨5, rfl⟩
  refine (callsIn_wide (n := N)).1 ?_
  have h1 : 1 ≤ N := by omega
  have HBa := heavy_bound hla hTa hNa
  have HBb := heavy_bound hlb hTb hNb
  obtain ⟨aa, na, ca, rfl, -⟩ := hla.sl
  obtain ⟨ab, nb, cb, rfl, -⟩ := hlb.sl
  have hmx : Tryz.prog.follows .mixedOrders = true := by kernel_rfl
  refine callsIn_of_wp_marks Tryz.func4 rfl trivial ?_ rfl
  simp only [Tryz.ntmps4, List.size_toArray, List.length_cons, List.length_nil, Nat.reduceAdd, Nat.reduceSub, Array.replicate_succ, Array.replicate_zero, List.push_toArray, List.append_toArray, List.nil_append, List.cons_append]
  have hR0 := Blk.new (w.alloc (.cells #[.int .i64 stop] 3)) 4 #[.bool false]
  have hP0 := (Blk.new w 3 #[.int .i64 stop]).alloc (.cells #[.bool false] 4)
  rw [World.size_alloc] at hR0
  by_cases hha : heavyN la ≤ 6000
  case neg =>
    have HA := Lib.hid (show decide (6000 < heavyN la) = true from by simpa using hha); clear hha
    gi_wp2_with (first
                | ((with_reducible refine And.intro ?_ ?_); exact trivial; gi_at_call 15; refine (callsIn_wide.2 (lives07_any _ (hE.gr (by repeat (with_reducible first | assumption | exact Gr.refl _ | apply Gr.alloc | apply Gr.drewN | apply Gr.drew | apply Gr.iter | (refine Gr.setCell ?_ (by simp) _) | (refine Gr.trans ?_ (by assumption))))))).mono ?_; rintro e w1 ⟨rfl, hg1⟩)
                | ((with_reducible refine And.intro ?_ ?_); exact trivial; gi_at_call 16; have _h := hg2; refine (callsIn_wide.2 (heavy_any lb _ _ (RdOps.gr hlb (by repeat (with_reducible first | assumption | exact Gr.refl _ | apply Gr.alloc | apply Gr.drewN | apply Gr.drew | apply Gr.iter | (refine Gr.setCell ?_ (by simp) _) | (refine Gr.trans ?_ (by assumption))))) HBb)).mono ?_; rw [HB.out]; rintro e w3 ⟨rfl, hg3⟩; have bR := Blk.gr (w' := w3) hR0 (by repeat (with_reducible first | assumption | exact Gr.refl _ | apply Gr.alloc | apply Gr.drewN | apply Gr.drew | apply Gr.iter | (refine Gr.setCell ?_ (by simp) _) | (refine Gr.trans ?_ (by assumption)))); have cR := bR.cell; have fR := bR.frozen; have zR := bR.lt)
                | ((with_reducible refine And.intro ?_ ?_); exact trivial; gi_at_call 16; refine (callsIn_wide.2 (heavy_any la _ _ (RdOps.gr hla (by repeat (with_reducible first | assumption | exact Gr.refl _ | apply Gr.alloc | apply Gr.drewN | apply Gr.drew | apply Gr.iter | (refine Gr.setCell ?_ (by simp) _) | (refine Gr.trans ?_ (by assumption))))) HBa)).mono ?_; rw [HA.out]; rintro e w2 ⟨rfl, hg2⟩; have bR := Blk.gr (w' := w2) hR0 (by repeat (with_reducible first | assumption | exact Gr.refl _ | apply Gr.alloc | apply Gr.drewN | apply Gr.drew | apply Gr.iter | (refine Gr.setCell ?_ (by simp) _) | (refine Gr.trans ?_ (by assumption)))); have cR := bR.cell; have fR := bR.frozen; have zR := bR.lt)
                | ((with_reducible refine And.intro ?_ ?_); exact trivial; gi_at_call 17; have _h := hg4; refine (callsIn_wide.2 (made_any lb _ _ (hE.gr (by repeat (with_reducible first | assumption | exact Gr.refl _ | apply Gr.alloc | apply Gr.drewN | apply Gr.drew | apply Gr.iter | (refine Gr.setCell ?_ (by simp) _) | (refine Gr.trans ?_ (by assumption))))) (RdOps.gr hlb (by repeat (with_reducible first | assumption | exact Gr.refl _ | apply Gr.alloc | apply Gr.drewN | apply Gr.drew | apply Gr.iter | (refine Gr.setCell ?_ (by simp) _) | (refine Gr.trans ?_ (by assumption))))) HZb.out.1 HZb.out.2.1 HZb.out.2.2)).mono ?_; rw [GB.out]; rintro e w5 ⟨dvb, ovb, rfl, hg5, hdb, -⟩; have bR := Blk.gr (w' := w5) hR0 (by repeat (with_reducible first | assumption | exact Gr.refl _ | apply Gr.alloc | apply Gr.drewN | apply Gr.drew | apply Gr.iter | (refine Gr.setCell ?_ (by simp) _) | (refine Gr.trans ?_ (by assumption)))); have cR := bR.cell; have fR := bR.frozen; have zR := bR.lt)
                | ((with_reducible refine And.intro ?_ ?_); exact trivial; gi_at_call 17; refine (callsIn_wide.2 (made_any la _ _ (hE.gr (by repeat (with_reducible first | assumption | exact Gr.refl _ | apply Gr.alloc | apply Gr.drewN | apply Gr.drew | apply Gr.iter | (refine Gr.setCell ?_ (by simp) _) | (refine Gr.trans ?_ (by assumption))))) (RdOps.gr hla (by repeat (with_reducible first | assumption | exact Gr.refl _ | apply Gr.alloc | apply Gr.drewN | apply Gr.drew | apply Gr.iter | (refine Gr.setCell ?_ (by simp) _) | (refine Gr.trans ?_ (by assumption))))) HZa.out.1 HZa.out.2.1 HZa.out.2.2)).mono ?_; rw [GA.out]; rintro e w4 ⟨dva, ova, rfl, hg4, hda, -⟩)
                | ((with_reducible refine And.intro ?_ ?_); (first | exact trivial | (intro f hf; cases hf)); go_at_K))
    have hq : (w2.setCell ⟨w.heap.size + 1, 0, none⟩ (.bool true)).cell? ⟨w.heap.size + 1, 0, none⟩ = some (.bool true) := (bR.set 0 (.bool true)).cell 0
    refine ⟨.bool true, ?_, rfl, Below.setCell (p := ⟨w.heap.size + 1, 0, none⟩) (show Gr w w2 from (by repeat (with_reducible first | assumption | exact Gr.refl _ | apply Gr.alloc | apply Gr.drewN | apply Gr.drew | apply Gr.iter | (refine Gr.setCell ?_ (by simp) _) | (refine Gr.trans ?_ (by assumption))))) (by simp) _⟩
    simp [results, Tryz.f4, go_sem, hq]
  case pos =>
    have HA := Lib.hid (show decide (6000 < heavyN la) = false from by simpa using hha)
    by_cases hhb : heavyN lb ≤ 6000
    case neg =>
      have HB := Lib.hid (show decide (6000 < heavyN lb) = true from by simpa using hhb); clear hha hhb
      gi_wp2_with (first
                  | ((with_reducible refine And.intro ?_ ?_); exact trivial; gi_at_call 15; refine (callsIn_wide.2 (lives07_any _ (hE.gr (by repeat (with_reducible first | assumption | exact Gr.refl _ | apply Gr.alloc | apply Gr.drewN | apply Gr.drew | apply Gr.iter | (refine Gr.setCell ?_ (by simp) _) | (refine Gr.trans ?_ (by assumption))))))).mono ?_; rintro e w1 ⟨rfl, hg1⟩)
                  | ((with_reducible refine And.intro ?_ ?_); exact trivial; gi_at_call 16; have _h := hg2; refine (callsIn_wide.2 (heavy_any lb _ _ (RdOps.gr hlb (by repeat (with_reducible first | assumption | exact Gr.refl _ | apply Gr.alloc | apply Gr.drewN | apply Gr.drew | apply Gr.iter | (refine Gr.setCell ?_ (by simp) _) | (refine Gr.trans ?_ (by assumption))))) HBb)).mono ?_; rw [HB.out]; rintro e w3 ⟨rfl, hg3⟩; have bR := Blk.gr (w' := w3) hR0 (by repeat (with_reducible first | assumption | exact Gr.refl _ | apply Gr.alloc | apply Gr.drewN | apply Gr.drew | apply Gr.iter | (refine Gr.setCell ?_ (by simp) _) | (refine Gr.trans ?_ (by assumption)))); have cR := bR.cell; have fR := bR.frozen; have zR := bR.lt)
                  | ((with_reducible refine And.intro ?_ ?_); exact trivial; gi_at_call 16; refine (callsIn_wide.2 (heavy_any la _ _ (RdOps.gr hla (by repeat (with_reducible first | assumption | exact Gr.refl _ | apply Gr.alloc | apply Gr.drewN | apply Gr.drew | apply Gr.iter | (refine Gr.setCell ?_ (by simp) _) | (refine Gr.trans ?_ (by assumption))))) HBa)).mono ?_; rw [HA.out]; rintro e w2 ⟨rfl, hg2⟩; have bR := Blk.gr (w' := w2) hR0 (by repeat (with_reducible first | assumption | exact Gr.refl _ | apply Gr.alloc | apply Gr.drewN | apply Gr.drew | apply Gr.iter | (refine Gr.setCell ?_ (by simp) _) | (refine Gr.trans ?_ (by assumption)))); have cR := bR.cell; have fR := bR.frozen; have zR := bR.lt)
                  | ((with_reducible refine And.intro ?_ ?_); exact trivial; gi_at_call 17; have _h := hg4; refine (callsIn_wide.2 (made_any lb _ _ (hE.gr (by repeat (with_reducible first | assumption | exact Gr.refl _ | apply Gr.alloc | apply Gr.drewN | apply Gr.drew | apply Gr.iter | (refine Gr.setCell ?_ (by simp) _) | (refine Gr.trans ?_ (by assumption))))) (RdOps.gr hlb (by repeat (with_reducible first | assumption | exact Gr.refl _ | apply Gr.alloc | apply Gr.drewN | apply Gr.drew | apply Gr.iter | (refine Gr.setCell ?_ (by simp) _) | (refine Gr.trans ?_ (by assumption))))) HZb.out.1 HZb.out.2.1 HZb.out.2.2)).mono ?_; rw [GB.out]; rintro e w5 ⟨dvb, ovb, rfl, hg5, hdb, -⟩; have bR := Blk.gr (w' := w5) hR0 (by repeat (with_reducible first | assumption | exact Gr.refl _ | apply Gr.alloc | apply Gr.drewN | apply Gr.drew | apply Gr.iter | (refine Gr.setCell ?_ (by simp) _) | (refine Gr.trans ?_ (by assumption)))); have cR := bR.cell; have fR := bR.frozen; have zR := bR.lt)
                  | ((with_reducible refine And.intro ?_ ?_); exact trivial; gi_at_call 17; refine (callsIn_wide.2 (made_any la _ _ (hE.gr (by repeat (with_reducible first | assumption | exact Gr.refl _ | apply Gr.alloc | apply Gr.drewN | apply Gr.drew | apply Gr.iter | (refine Gr.setCell ?_ (by simp) _) | (refine Gr.trans ?_ (by assumption))))) (RdOps.gr hla (by repeat (with_reducible first | assumption | exact Gr.refl _ | apply Gr.alloc | apply Gr.drewN | apply Gr.drew | apply Gr.iter | (refine Gr.setCell ?_ (by simp) _) | (refine Gr.trans ?_ (by assumption))))) HZa.out.1 HZa.out.2.1 HZa.out.2.2)).mono ?_; rw [GA.out]; rintro e w4 ⟨dva, ova, rfl, hg4, hda, -⟩)
                  | ((with_reducible refine And.intro ?_ ?_); (first | exact trivial | (intro f hf; cases hf)); go_at_K))
      have hq : (w3.setCell ⟨w.heap.size + 1, 0, none⟩ (.bool true)).cell? ⟨w.heap.size + 1, 0, none⟩ = some (.bool true) := (bR.set 0 (.bool true)).cell 0
      refine ⟨.bool true, ?_, rfl, Below.setCell (p := ⟨w.heap.size + 1, 0, none⟩) (show Gr w w3 from (by repeat (with_reducible first | assumption | exact Gr.refl _ | apply Gr.alloc | apply Gr.drewN | apply Gr.drew | apply Gr.iter | (refine Gr.setCell ?_ (by simp) _) | (refine Gr.trans ?_ (by assumption))))) (by simp) _⟩
      simp [results, Tryz.f4, go_sem, hq]
    case pos =>
      have HB := Lib.hid (show decide (6000 < heavyN lb) = false from by simpa using hhb)
      obtain ⟨ya1, ya2, ya3⟩ := heavy_parts hha
      obtain ⟨yb1, yb2, yb3⟩ := heavy_parts hhb
      have HZa := Lib.hid (show opsum la ≤ 1099511627776 ∧ 2 * la.length + 4 ≤ 1099511627776 ∧ ∀ o ∈ la, o.attrs.length + 1 ≤ 1099511627776 from ⟨by omega, by omega, fun o ho => by have := ya3 o ho; omega⟩)
      have HZb := Lib.hid (show opsum lb ≤ 1099511627776 ∧ 2 * lb.length + 4 ≤ 1099511627776 ∧ ∀ o ∈ lb, o.attrs.length + 1 ≤ 1099511627776 from ⟨by omega, by omega, fun o ho => by have := yb3 o ho; omega⟩)
      clear ya1 ya2 ya3 yb1 yb2 yb3
      by_cases ga : (pushAll la).2.2 = 0
      case neg =>
        have GA := Lib.hid (show decide ((pushAll la).2.2 = 0) = false from decide_eq_false ga); clear ga hha hhb
        obtain ⟨gb, hgb⟩ : ∃ gb, decide ((pushAll lb).2.2 = 0) = gb := ⟨_, rfl⟩
        have GB := Lib.hid hgb; clear hgb
        gi_wp2_with (first
                    | ((with_reducible refine And.intro ?_ ?_); exact trivial; gi_at_call 15; refine (callsIn_wide.2 (lives07_any _ (hE.gr (by repeat (with_reducible first | assumption | exact Gr.refl _ | apply Gr.alloc | apply Gr.drewN | apply Gr.drew | apply Gr.iter | (refine Gr.setCell ?_ (by simp) _) | (refine Gr.trans ?_ (by assumption))))))).mono ?_; rintro e w1 ⟨rfl, hg1⟩)
                    | ((with_reducible refine And.intro ?_ ?_); exact trivial; gi_at_call 16; have _h := hg2; refine (callsIn_wide.2 (heavy_any lb _ _ (RdOps.gr hlb (by repeat (with_reducible first | assumption | exact Gr.refl _ | apply Gr.alloc | apply Gr.drewN | apply Gr.drew | apply Gr.iter | (refine Gr.setCell ?_ (by simp) _) | (refine Gr.trans ?_ (by assumption))))) HBb)).mono ?_; rw [HB.out]; rintro e w3 ⟨rfl, hg3⟩; have bR := Blk.gr (w' := w3) hR0 (by repeat (with_reducible first | assumption | exact Gr.refl _ | apply Gr.alloc | apply Gr.drewN | apply Gr.drew | apply Gr.iter | (refine Gr.setCell ?_ (by simp) _) | (refine Gr.trans ?_ (by assumption)))); have cR := bR.cell; have fR := bR.frozen; have zR := bR.lt)
                    | ((with_reducible refine And.intro ?_ ?_); exact trivial; gi_at_call 16; refine (callsIn_wide.2 (heavy_any la _ _ (RdOps.gr hla (by repeat (with_reducible first | assumption | exact Gr.refl _ | apply Gr.alloc | apply Gr.drewN | apply Gr.drew | apply Gr.iter | (refine Gr.setCell ?_ (by simp) _) | (refine Gr.trans ?_ (by assumption))))) HBa)).mono ?_; rw [HA.out]; rintro e w2 ⟨rfl, hg2⟩; have bR := Blk.gr (w' := w2) hR0 (by repeat (with_reducible first | assumption | exact Gr.refl _ | apply Gr.alloc | apply Gr.drewN | apply Gr.drew | apply Gr.iter | (refine Gr.setCell ?_ (by simp) _) | (refine Gr.trans ?_ (by assumption)))); have cR := bR.cell; have fR := bR.frozen; have zR := bR.lt)
                    | ((with_reducible refine And.intro ?_ ?_); exact trivial; gi_at_call 17; have _h := hg4; refine (callsIn_wide.2 (made_any lb _ _ (hE.gr (by repeat (with_reducible first | assumption | exact Gr.refl _ | apply Gr.alloc | apply Gr.drewN | apply Gr.drew | apply Gr.iter | (refine Gr.setCell ?_ (by simp) _) | (refine Gr.trans ?_ (by assumption))))) (RdOps.gr hlb (by repeat (with_reducible first | assumption | exact Gr.refl _ | apply Gr.alloc | apply Gr.drewN | apply Gr.drew | apply Gr.iter | (refine Gr.setCell ?_ (by simp) _) | (refine Gr.trans ?_ (by assumption))))) HZb.out.1 HZb.out.2.1 HZb.out.2.2)).mono ?_; rw [GB.out]; rintro e w5 ⟨dvb, ovb, rfl, hg5, hdb, -⟩; have bR := Blk.gr (w' := w5) hR0 (by repeat (with_reducible first | assumption | exact Gr.refl _ | apply Gr.alloc | apply Gr.drewN | apply Gr.drew | apply Gr.iter | (refine Gr.setCell ?_ (by simp) _) | (refine Gr.trans ?_ (by assumption)))); have cR := bR.cell; have fR := bR.frozen; have zR := bR.lt)
                    | ((with_reducible refine And.intro ?_ ?_); exact trivial; gi_at_call 17; refine (callsIn_wide.2 (made_any la _ _ (hE.gr (by repeat (with_reducible first | assumption | exact Gr.refl _ | apply Gr.alloc | apply Gr.drewN | apply Gr.drew | apply Gr.iter | (refine Gr.setCell ?_ (by simp) _) | (refine Gr.trans ?_ (by assumption))))) (RdOps.gr hla (by repeat (with_reducible first | assumption | exact Gr.refl _ | apply Gr.alloc | apply Gr.drewN | apply Gr.drew | apply Gr.iter | (refine Gr.setCell ?_ (by simp) _) | (refine Gr.trans ?_ (by assumption))))) HZa.out.1 HZa.out.2.1 HZa.out.2.2)).mono ?_; rw [GA.out]; rintro e w4 ⟨dva, ova, rfl, hg4, hda, -⟩)
                    | ((with_reducible refine And.intro ?_ ?_); (first | exact trivial | (intro f hf; cases hf)); go_at_K))
        all_goals (have hq : (w5.setCell ⟨w.heap.size + 1, 0, none⟩ (.bool true)).cell? ⟨w.heap.size + 1, 0, none⟩ = some (.bool true) := (bR.set 0 (.bool true)).cell 0
                   refine ⟨.bool true, ?_, rfl, Below.setCell (p := ⟨w.heap.size + 1, 0, none⟩) (show Gr w w5 from (by repeat (with_reducible first | assumption | exact Gr.refl _ | apply Gr.alloc | apply Gr.drewN | apply Gr.drew | apply Gr.iter | (refine Gr.setCell ?_ (by simp) _) | (refine Gr.trans ?_ (by assumption))))) (by simp) _⟩
                   simp [results, Tryz.f4, go_sem, hq])
      case pos =>
        have GA := Lib.hid (show decide ((pushAll la).2.2 = 0) = true from decide_eq_true ga)
        by_cases gb : (pushAll lb).2.2 = 0
        case neg =>
          have GB := Lib.hid (show decide ((pushAll lb).2.2 = 0) = false from decide_eq_false gb); clear ga gb hha hhb
          gi_wp2_with (first
                      | ((with_reducible refine And.intro ?_ ?_); exact trivial; gi_at_call 15; refine (callsIn_wide.2 (lives07_any _ (hE.gr (by repeat (with_reducible first | assumption | exact Gr.refl _ | apply Gr.alloc | apply Gr.drewN | apply Gr.drew | apply Gr.iter | (refine Gr.setCell ?_ (by simp) _) | (refine Gr.trans ?_ (by assumption))))))).mono ?_; rintro e w1 ⟨rfl, hg1⟩)
                      | ((with_reducible refine And.intro ?_ ?_); exact trivial; gi_at_call 16; have _h := hg2; refine (callsIn_wide.2 (heavy_any lb _ _ (RdOps.gr hlb (by repeat (with_reducible first | assumption | exact Gr.refl _ | apply Gr.alloc | apply Gr.drewN | apply Gr.drew | apply Gr.iter | (refine Gr.setCell ?_ (by simp) _) | (refine Gr.trans ?_ (by assumption))))) HBb)).mono ?_; rw [HB.out]; rintro e w3 ⟨rfl, hg3⟩; have bR := Blk.gr (w' := w3) hR0 (by repeat (with_reducible first | assumption | exact Gr.refl _ | apply Gr.alloc | apply Gr.drewN | apply Gr.drew | apply Gr.iter | (refine Gr.setCell ?_ (by simp) _) | (refine Gr.trans ?_ (by assumption)))); have cR := bR.cell; have fR := bR.frozen; have zR := bR.lt)
                      | ((with_reducible refine And.intro ?_ ?_); exact trivial; gi_at_call 16; refine (callsIn_wide.2 (heavy_any la _ _ (RdOps.gr hla (by repeat (with_reducible first | assumption | exact Gr.refl _ | apply Gr.alloc | apply Gr.drewN | apply Gr.drew | apply Gr.iter | (refine Gr.setCell ?_ (by simp) _) | (refine Gr.trans ?_ (by assumption))))) HBa)).mono ?_; rw [HA.out]; rintro e w2 ⟨rfl, hg2⟩; have bR := Blk.gr (w' := w2) hR0 (by repeat (with_reducible first | assumption | exact Gr.refl _ | apply Gr.alloc | apply Gr.drewN | apply Gr.drew | apply Gr.iter | (refine Gr.setCell ?_ (by simp) _) | (refine Gr.trans ?_ (by assumption)))); have cR := bR.cell; have fR := bR.frozen; have zR := bR.lt)
                      | ((with_reducible refine And.intro ?_ ?_); exact trivial; gi_at_call 17; have _h := hg4; refine (callsIn_wide.2 (made_any lb _ _ (hE.gr (by repeat (with_reducible first | assumption | exact Gr.refl _ | apply Gr.alloc | apply Gr.drewN | apply Gr.drew | apply Gr.iter | (refine Gr.setCell ?_ (by simp) _) | (refine Gr.trans ?_ (by assumption))))) (RdOps.gr hlb (by repeat (with_reducible first | assumption | exact Gr.refl _ | apply Gr.alloc | apply Gr.drewN | apply Gr.drew | apply Gr.iter | (refine Gr.setCell ?_ (by simp) _) | (refine Gr.trans ?_ (by assumption))))) HZb.out.1 HZb.out.2.1 HZb.out.2.2)).mono ?_; rw [GB.out]; rintro e w5 ⟨dvb, ovb, rfl, hg5, hdb, -⟩; have bR := Blk.gr (w' := w5) hR0 (by repeat (with_reducible first | assumption | exact Gr.refl _ | apply Gr.alloc | apply Gr.drewN | apply Gr.drew | apply Gr.iter | (refine Gr.setCell ?_ (by simp) _) | (refine Gr.trans ?_ (by assumption)))); have cR := bR.cell; have fR := bR.frozen; have zR := bR.lt)
                      | ((with_reducible refine And.intro ?_ ?_); exact trivial; gi_at_call 17; refine (callsIn_wide.2 (made_any la _ _ (hE.gr (by repeat (with_reducible first | assumption | exact Gr.refl _ | apply Gr.alloc | apply Gr.drewN | apply Gr.drew | apply Gr.iter | (refine Gr.setCell ?_ (by simp) _) | (refine Gr.trans ?_ (by assumption))))) (RdOps.gr hla (by repeat (with_reducible first | assumption | exact Gr.refl _ | apply Gr.alloc | apply Gr.drewN | apply Gr.drew | apply Gr.iter | (refine Gr.setCell ?_ (by simp) _) | (refine Gr.trans ?_ (by assumption))))) HZa.out.1 HZa.out.2.1 HZa.out.2.2)).mono ?_; rw [GA.out]; rintro e w4 ⟨dva, ova, rfl, hg4, hda, -⟩)
                      | ((with_reducible refine And.intro ?_ ?_); (first | exact trivial | (intro f hf; cases hf)); go_at_K))
          have hq : (w5.setCell ⟨w.heap.size + 1, 0, none⟩ (.bool true)).cell? ⟨w.heap.size + 1, 0, none⟩ = some (.bool true) := (bR.set 0 (.bool true)).cell 0
          refine ⟨.bool true, ?_, rfl, Below.setCell (p := ⟨w.heap.size + 1, 0, none⟩) (show Gr w w5 from (by repeat (with_reducible first | assumption | exact Gr.refl _ | apply Gr.alloc | apply Gr.drewN | apply Gr.drew | apply Gr.iter | (refine Gr.setCell ?_ (by simp) _) | (refine Gr.trans ?_ (by assumption))))) (by simp) _⟩
          simp [results, Tryz.f4, go_sem, hq]
        case pos =>
          have GB := Lib.hid (show decide ((pushAll lb).2.2 = 0) = true from decide_eq_true gb)
          have pa : pushAll la = ((pushAll la).1, 0, 0) := by obtain ⟨e1, e2⟩ := push_put (s := .new) (i := 0) (l := la) ga; exact (show pushAll la = _ from e1).trans (by rw [show (pushAll la).1 = putAll .new la from congrArg (·.1) (show pushAll la = _ from e1)])
          have pb : pushAll lb = ((pushAll lb).1, 0, 0) := by obtain ⟨e1, e2⟩ := push_put (s := .new) (i := 0) (l := lb) gb; exact (show pushAll lb = _ from e1).trans (by rw [show (pushAll lb).1 = putAll .new lb from congrArg (·.1) (show pushAll lb = _ from e1)])
          obtain ⟨hp, lp, tp⟩ := made_facts hha pa
          obtain ⟨hq, lq, tq⟩ := made_facts hhb pb
          obtain ⟨ps, hps⟩ : ∃ ps, (pushAll la).1.delta = ps := ⟨_, rfl⟩
          obtain ⟨qs, hqs⟩ : ∃ qs, (pushAll lb).1.delta = qs := ⟨_, rfl⟩
          rw [hps] at hp lp tp
          rw [hqs] at hq lq tq
          have hpq : ps.length + qs.length ≤ 24002 := by omega
          have PA := Lib.hid hps; have PB := Lib.hid hqs; have GA0 := Lib.hid ga; have GB0 := Lib.hid gb
          have LP := Lib.hid (And.intro lp tp); have LQ := Lib.hid (And.intro lq tq)
          clear hps hqs ga gb pa pb hha hhb lp tp lq tq
          obtain ⟨SS, hSS⟩ : ∃ SS, stepsP (ps.length + qs.length) ps qs = SS := ⟨_, rfl⟩
          have HSS := Lib.hid hSS
          have hsl : SS.length ≤ 24002 := by have := steps_len (ps.length + qs.length) ps qs; rw [hSS] at this; omega
          have hsok : ∀ x ∈ SS, StepOk x := by rw [← hSS]; exact steps_ok _ _ _ hp hq
          clear hSS
          gi_wp2_with (first
                      | ((with_reducible refine And.intro ?_ ?_); exact trivial; gi_at_call 15; refine (callsIn_wide.2 (lives07_any _ (hE.gr (by repeat (with_reducible first | assumption | exact Gr.refl _ | apply Gr.alloc | apply Gr.drewN | apply Gr.drew | apply Gr.iter | (refine Gr.setCell ?_ (by simp) _) | (refine Gr.trans ?_ (by assumption))))))).mono ?_; rintro e w1 ⟨rfl, hg1⟩)
                      | ((with_reducible refine And.intro ?_ ?_); exact trivial; gi_at_call 16; have _h := hg2; refine (callsIn_wide.2 (heavy_any lb _ _ (RdOps.gr hlb (by repeat (with_reducible first | assumption | exact Gr.refl _ | apply Gr.alloc | apply Gr.drewN | apply Gr.drew | apply Gr.iter | (refine Gr.setCell ?_ (by simp) _) | (refine Gr.trans ?_ (by assumption))))) HBb)).mono ?_; rw [HB.out]; rintro e w3 ⟨rfl, hg3⟩)
                      | ((with_reducible refine And.intro ?_ ?_); exact trivial; gi_at_call 16; refine (callsIn_wide.2 (heavy_any la _ _ (RdOps.gr hla (by repeat (with_reducible first | assumption | exact Gr.refl _ | apply Gr.alloc | apply Gr.drewN | apply Gr.drew | apply Gr.iter | (refine Gr.setCell ?_ (by simp) _) | (refine Gr.trans ?_ (by assumption))))) HBa)).mono ?_; rw [HA.out]; rintro e w2 ⟨rfl, hg2⟩)
                      | ((with_reducible refine And.intro ?_ ?_); exact trivial; gi_at_call 17; have _h := hg4; refine (callsIn_wide.2 (made_any lb _ _ (hE.gr (by repeat (with_reducible first | assumption | exact Gr.refl _ | apply Gr.alloc | apply Gr.drewN | apply Gr.drew | apply Gr.iter | (refine Gr.setCell ?_ (by simp) _) | (refine Gr.trans ?_ (by assumption))))) (RdOps.gr hlb (by repeat (with_reducible first | assumption | exact Gr.refl _ | apply Gr.alloc | apply Gr.drewN | apply Gr.drew | apply Gr.iter | (refine Gr.setCell ?_ (by simp) _) | (refine Gr.trans ?_ (by assumption))))) HZb.out.1 HZb.out.2.1 HZb.out.2.2)).mono ?_; rw [GB.out]; rintro e w5 ⟨dvb, ovb, rfl, hg5, hdb, -⟩; obtain ⟨hdb1, hdb2⟩ := hdb GB0.out; rw [PB.out] at hdb1 hdb2; obtain ⟨gdb, sdb, rfl, hBdb, hrdb⟩ := hdb1; have hD5 := Lib.hid (show DeltaR w5 (.pointer (some ⟨gdb, 0, none⟩)) qs from ⟨gdb, sdb, rfl, hBdb, hrdb⟩); obtain ⟨ob, onb, ocb, rfl, -⟩ := hdb2.sl; have hO5 := Lib.hid hdb2; clear hdb hdb2 hBdb hrdb)
                      | ((with_reducible refine And.intro ?_ ?_); exact trivial; gi_at_call 17; refine (callsIn_wide.2 (made_any la _ _ (hE.gr (by repeat (with_reducible first | assumption | exact Gr.refl _ | apply Gr.alloc | apply Gr.drewN | apply Gr.drew | apply Gr.iter | (refine Gr.setCell ?_ (by simp) _) | (refine Gr.trans ?_ (by assumption))))) (RdOps.gr hla (by repeat (with_reducible first | assumption | exact Gr.refl _ | apply Gr.alloc | apply Gr.drewN | apply Gr.drew | apply Gr.iter | (refine Gr.setCell ?_ (by simp) _) | (refine Gr.trans ?_ (by assumption))))) HZa.out.1 HZa.out.2.1 HZa.out.2.2)).mono ?_; rw [GA.out]; rintro e w4 ⟨dva, ova, rfl, hg4, hda, -⟩; obtain ⟨hda1, hda2⟩ := hda GA0.out; rw [PA.out] at hda1 hda2; obtain ⟨gda, sda, rfl, hBda, hrda⟩ := hda1; have hD4 := Lib.hid (show DeltaR w4 (.pointer (some ⟨gda, 0, none⟩)) ps from ⟨gda, sda, rfl, hBda, hrda⟩); obtain ⟨oa, ona, oca, rfl, -⟩ := hda2.sl; have hO4 := Lib.hid hda2; clear hda hda2 hBda hrda)
                      | ((with_reducible refine And.intro ?_ ?_); exact trivial; gi_at_call 31; refine (callsIn_wide.2 (steps07_any ps qs _ _ _ hp hq (RdOps.gr hO4.out (by repeat (with_reducible first | assumption | exact Gr.refl _ | apply Gr.alloc | apply Gr.drewN | apply Gr.drew | apply Gr.iter | (refine Gr.setCell ?_ (by simp) _) | (refine Gr.trans ?_ (by assumption))))) (RdOps.gr hO5.out (by repeat (with_reducible first | assumption | exact Gr.refl _ | apply Gr.alloc | apply Gr.drewN | apply Gr.drew | apply Gr.iter | (refine Gr.setCell ?_ (by simp) _) | (refine Gr.trans ?_ (by assumption))))) (by omega))).mono ?_; rw [HSS.out]; rintro e wS ⟨vS, rfl, hoS, hgS⟩; obtain ⟨aS, nS, cS, rfl, -, -, hnS⟩ := hoS.sl; have hrS := Lib.hid (OwnStp.rd hoS hgS (by rw [List.length_map]; omega)); clear hoS)
                      | ((with_reducible refine And.intro ?_ ?_); exact trivial; gi_at_call 32; refine (callsIn_wide.2 (wsteps_any _ _ _)).mono ?_; rintro e w6 ⟨rfl, rfl⟩)
                      | ((with_reducible refine And.intro ?_ ?_); (first | exact trivial | (intro f hf; cases hf)); go_at_K))
          have hRS : Blk wS (w.heap.size + 1) 4 #[.bool false] := hR0.gr (by repeat (with_reducible first | assumption | exact Gr.refl _ | apply Gr.alloc | apply Gr.drewN | apply Gr.drew | apply Gr.iter | (refine Gr.setCell ?_ (by simp) _) | (refine Gr.trans ?_ (by assumption))))
          have hPS : Blk wS w.heap.size 3 #[.int .i64 stop] := hP0.gr (by repeat (with_reducible first | assumption | exact Gr.refl _ | apply Gr.alloc | apply Gr.drewN | apply Gr.drew | apply Gr.iter | (refine Gr.setCell ?_ (by simp) _) | (refine Gr.trans ?_ (by assumption))))
          have hFS : DeltaR wS (.pointer (some ⟨gdb, 0, none⟩)) qs := DeltaR.gr hD5.out hgS
          have hDS : DeltaR wS (.pointer (some ⟨gda, 0, none⟩)) ps := DeltaR.gr hD4.out (Gr.trans hg5 hgS)
          have hGwS : Gr w wS := (by repeat (with_reducible first | assumption | exact Gr.refl _ | apply Gr.alloc | apply Gr.drewN | apply Gr.drew | apply Gr.iter | (refine Gr.setCell ?_ (by simp) _) | (refine Gr.trans ?_ (by assumption))))
          have hES : Env ea wS := hE.gr hGwS
          obtain ⟨WA, hWA, gSA, hzA, cWA, cDA, cFA⟩ := wt_start wS (.slice aS nS cS) (.pointer (some ⟨gda, 0, none⟩)) (.pointer (some ⟨gdb, 0, none⟩))
          rw [hWA]
          have hRA := hRS.gr gSA
          have hPA := hPS.gr gSA
          have hEA := hES.gr gSA
          have hDA := hDS.gr gSA
          have hFA := hFS.gr gSA
          have hrA := RdStp.gr hrS.out gSA
          have gwA : Gr w WA := Gr.trans hGwS gSA
          obtain ⟨gK, hgK⟩ : ∃ gK, wS.heap.size = gK := ⟨_, rfl⟩
          rw [hgK] at cWA cDA cFA hzA ⊢
          have hTB0 := Blk.new WA 3 #[.int .i64 0]
          rw [hzA] at hTB0
          obtain ⟨W0, hW0⟩ : ∃ W0, WA.alloc (.cells #[.int .i64 0] 3) = W0 := ⟨_, rfl⟩
          have hgT : Gr WA W0 := hW0 ▸ (Gr.refl WA).alloc _
          rw [hW0] at hTB0 ⊢
          obtain ⟨gt, hgt⟩ : ∃ gt, gK + 1 + 1 + 1 = gt := ⟨_, rfl⟩
          rw [hgt] at hTB0 ⊢
          have hTB := hTB0
          have cT := hTB.cell 0
          clear hW0 hWA hRS hPS hES hDS hFS hrS hGwS gSA hgS hg5 hg4 hg3 hg2 hg1 hD4 hO4 hD5 hO5 hTB0
          refine wpIn_loop_rounds 3 ?_
          rw [roundsIn_succ]
          gi_wp2
          have hI1 := Blk.new W0 3 #[.int .i64 0]
          obtain ⟨WB1, hWB1⟩ : ∃ WB, W0.alloc (.cells #[.int .i64 0] 3) = WB := ⟨_, rfl⟩
          rw [hWB1] at hI1 ⊢
          have gTB1 : Gr W0 WB1 := hWB1 ▸ (Gr.refl W0).alloc _
          obtain ⟨gi1, hgi1⟩ : ∃ gi, W0.heap.size = gi := ⟨_, rfl⟩
          rw [hgi1] at hI1 ⊢
          have gAB1 : Gr WA WB1 := Gr.trans hgT gTB1
          have hzB1 := hI1.lt
          have hTz1 : W0.heap.size ≤ WB1.heap.size := gTB1.size
          have hAz1 : WA.heap.size ≤ W0.heap.size := hgT.size
          have hTBz1 := hTB.lt
          have hn11 : w.heap.size ≠ gi1 := by have := hPA.lt; omega
          have hn21 : gi1 ≠ w.heap.size := by have := hPA.lt; omega
          clear hWB1
          have hseq1 := steps_told (N - 1) (gK + 1) (gK + 1 + 1) (by omega) ps qs _ _ WA WB1 hEA gAB1 (Gr.cell gAB1 cDA) (Gr.cell gAB1 cFA) hDA hFA hp hq
          rw [HSS.out] at hseq1
          apply wpIn_told rfl h1 (gf := 98) (lb := #[.pointer (some ⟨gK + 1, 0, none⟩), .pointer (some ⟨gK + 1 + 1, 0, none⟩)]) rfl trivial (enters_of Tryz.func98 (by kernel_rfl) rfl) hseq1
            (.inl rfl) (fun h k => h.trans k) (fun x W l o o' hl h ho _ => Tn.put W o' h (by rw [tyO_none ho]; exact ⟨by omega, by simp, by simp, by simp⟩))
            (fun k x W W' h g => StpT.tn h g fun b hh => by simp [wkG] at hh) (Below.refl _ _) (fun _ => rfl)
            (WtI W0 gi1 SS) (WtX W0 gi1 SS stop) (fun s => WtI.abd hTz1 s) (fun c s => WtX.abd hTz1 c s) ⟨hI1, gTB1, rfl⟩ _ ?assign1 ?body1 ?done1 ?stop1
          case assign1 =>
            intro l x W K hK
            gi_wp2
            exact hK
          case body1 =>
            rintro L0 pre ⟨⟨o1, o2⟩, pv, qv⟩ W ⟨hBi, hgW, htk⟩ ⟨hk, hpv, hqv⟩
            dsimp only at hk hpv hqv
            have gAW : Gr WA W := Gr.trans hgT hgW
            have hklt : pre.length < SS.length := (List.getElem?_eq_some_iff.1 hk).1
            have hmem := step_good (hsok _ (List.mem_of_getElem? hk))
            have hlt : pre.length < nS := by have := hnS.out; rw [List.length_map] at this; omega
            obtain ⟨b, off, ⟨⟨k1, t1, ⟨a1, b1, v1⟩, cc1, at1⟩, ⟨k2, t2, ⟨a2, b2, v2⟩, cc2, at2⟩⟩, s1, s2, hx, rfl, hs1, hs2, c0, c1, c2, c3, c4, c5, c6, c7, c8, c9, c10, c11, c12, c13⟩ := (RdStp.gr hrA gAW).at_ pre.length hlt
            dsimp only at hs1 hs2 c0 c1 c2 c3 c4 c5 c6 c7 c8 c9 c10 c11 c12 c13
            have hx2 : stpO (o1, o2) = (⟨k1, t1, ⟨a1, b1, v1⟩, cc1, at1⟩, ⟨k2, t2, ⟨a2, b2, v2⟩, cc2, at2⟩) := by rw [List.getElem?_map, hk] at hx; injection hx
            have HX := Lib.hid (And.intro (congrArg Prod.fst hx2).symm (congrArg Prod.snd hx2).symm)
            have HM := Lib.hid hmem; have HTK := Lib.hid (And.intro htk hk)
            clear hx hx2 hmem htk hk
            obtain ⟨sa1, sc1, hsl1, -⟩ := RdList.slice hs1
            subst hsl1
            obtain ⟨sa2, sc2, hsl2, -⟩ := RdList.slice hs2
            subst hsl2
            have bI := hBi.cell 0
            have cW := Gr.cell gAW cWA
            have cT := (hTB.gr hgW).cell 0
            have cP := (hPA.gr gAW).cell 0
            have hlti : (pre.length : Int) < nS := by omega
            have hltd : decide (nS ≤ pre.length) = false := decide_eq_false (by omega)
            have hpl : pre.length ≤ 24002 := by omega
            by_cases hst : stop < pre.length + 1
            · gi_wp2_with (first
              | ((with_reducible refine And.intro ?_ ?_); exact trivial; gi_at_call 22; have _h := hgx1; refine (CallsIn.inRound L0 (callsIn_wide.2 (is07_o o2 qv _ _ _ _ _ _ _ _ _ HX.out.2 (PieceO.gr hqv (by repeat (with_reducible first | assumption | exact Gr.refl _ | apply Gr.alloc | apply Gr.drewN | apply Gr.drew | apply Gr.iter | (refine Gr.setCell ?_ (by simp) _) | (refine Gr.trans ?_ (by assumption))))) HM.out.2 (RdAttrs.gr hs2 (by repeat (with_reducible first | assumption | exact Gr.refl _ | apply Gr.alloc | apply Gr.drewN | apply Gr.drew | apply Gr.iter | (refine Gr.setCell ?_ (by simp) _) | (refine Gr.trans ?_ (by assumption)))))))).mono ?_; rintro e x2 ⟨rfl, hgx2⟩; have gW2 : Gr W x2 := (by repeat (with_reducible first | assumption | exact Gr.refl _ | apply Gr.alloc | apply Gr.drewN | apply Gr.drew | apply Gr.iter | (refine Gr.setCell ?_ (by simp) _) | (refine Gr.trans ?_ (by assumption)))); have q1 := Gr.cell gW2 bI; have q2 := Gr.cell gW2 cT; have q3 := Gr.cell gW2 cP; have hB2 := hBi.gr gW2; have qf := hB2.frozen 0; have qz := hB2.lt)
              | ((with_reducible refine And.intro ?_ ?_); exact trivial; gi_at_call 22; refine (CallsIn.inRound L0 (callsIn_wide.2 (is07_o o1 pv _ _ _ _ _ _ _ _ _ HX.out.1 (PieceO.gr hpv (by repeat (with_reducible first | assumption | exact Gr.refl _ | apply Gr.alloc | apply Gr.drewN | apply Gr.drew | apply Gr.iter | (refine Gr.setCell ?_ (by simp) _) | (refine Gr.trans ?_ (by assumption))))) HM.out.1 (RdAttrs.gr hs1 (by repeat (with_reducible first | assumption | exact Gr.refl _ | apply Gr.alloc | apply Gr.drewN | apply Gr.drew | apply Gr.iter | (refine Gr.setCell ?_ (by simp) _) | (refine Gr.trans ?_ (by assumption)))))))).mono ?_; rintro e x1 ⟨rfl, hgx1⟩; have gW1 : Gr W x1 := (by repeat (with_reducible first | assumption | exact Gr.refl _ | apply Gr.alloc | apply Gr.drewN | apply Gr.drew | apply Gr.iter | (refine Gr.setCell ?_ (by simp) _) | (refine Gr.trans ?_ (by assumption)))); have p1 := Gr.cell gW1 bI; have p2 := Gr.cell gW1 cW; have d7 := Gr.cell gW1 c7; have d8 := Gr.cell gW1 c8; have d9 := Gr.cell gW1 c9; have d10 := Gr.cell gW1 c10; have d11 := Gr.cell gW1 c11; have d12 := Gr.cell gW1 c12; have d13 := Gr.cell gW1 c13)
              | ((with_reducible refine And.intro ?_ ?_); (first | exact trivial | (intro f hf; cases hf)); go_at_K))
              obtain ⟨hTk, hKk⟩ := HTK.out
              have hTf : Tn (wtW gi1) W (x2.setCell ⟨gi1, 0, none⟩ (.int .i64 (pre.length + 1))) := (Tn.of_gr gW2).trans (Tn.set hB2 ⟨rfl, rfl⟩ 0 _)
              have hWI : WtI W0 gi1 SS (pre ++ [((o1, o2), pv, qv)]) (x2.setCell ⟨gi1, 0, none⟩ (.int .i64 (pre.length + 1))) :=
                ⟨by rw [List.length_append]; exact hB2.set 0 (.int .i64 ((pre.length + 1 : Nat) : Int)), Gr.tn hgW hTf (fun b t h => by have := h.1; omega), by rw [List.map_append, List.map_singleton, List.length_append, List.length_singleton, List.take_succ, hKk, hTk]; rfl⟩
              exact ⟨KeepsOthers.of_tn hTf (fun b h => by cases h.2), rfl, hWI, by rw [List.length_append]; exact hst⟩
            · gi_wp2_with (first
              | ((with_reducible refine And.intro ?_ ?_); exact trivial; gi_at_call 22; have _h := hgx1; refine (CallsIn.inRound L0 (callsIn_wide.2 (is07_o o2 qv _ _ _ _ _ _ _ _ _ HX.out.2 (PieceO.gr hqv (by repeat (with_reducible first | assumption | exact Gr.refl _ | apply Gr.alloc | apply Gr.drewN | apply Gr.drew | apply Gr.iter | (refine Gr.setCell ?_ (by simp) _) | (refine Gr.trans ?_ (by assumption))))) HM.out.2 (RdAttrs.gr hs2 (by repeat (with_reducible first | assumption | exact Gr.refl _ | apply Gr.alloc | apply Gr.drewN | apply Gr.drew | apply Gr.iter | (refine Gr.setCell ?_ (by simp) _) | (refine Gr.trans ?_ (by assumption)))))))).mono ?_; rintro e x2 ⟨rfl, hgx2⟩; have gW2 : Gr W x2 := (by repeat (with_reducible first | assumption | exact Gr.refl _ | apply Gr.alloc | apply Gr.drewN | apply Gr.drew | apply Gr.iter | (refine Gr.setCell ?_ (by simp) _) | (refine Gr.trans ?_ (by assumption)))); have q1 := Gr.cell gW2 bI; have q2 := Gr.cell gW2 cT; have q3 := Gr.cell gW2 cP; have hB2 := hBi.gr gW2; have qf := hB2.frozen 0; have qz := hB2.lt)
              | ((with_reducible refine And.intro ?_ ?_); exact trivial; gi_at_call 22; refine (CallsIn.inRound L0 (callsIn_wide.2 (is07_o o1 pv _ _ _ _ _ _ _ _ _ HX.out.1 (PieceO.gr hpv (by repeat (with_reducible first | assumption | exact Gr.refl _ | apply Gr.alloc | apply Gr.drewN | apply Gr.drew | apply Gr.iter | (refine Gr.setCell ?_ (by simp) _) | (refine Gr.trans ?_ (by assumption))))) HM.out.1 (RdAttrs.gr hs1 (by repeat (with_reducible first | assumption | exact Gr.refl _ | apply Gr.alloc | apply Gr.drewN | apply Gr.drew | apply Gr.iter | (refine Gr.setCell ?_ (by simp) _) | (refine Gr.trans ?_ (by assumption)))))))).mono ?_; rintro e x1 ⟨rfl, hgx1⟩; have gW1 : Gr W x1 := (by repeat (with_reducible first | assumption | exact Gr.refl _ | apply Gr.alloc | apply Gr.drewN | apply Gr.drew | apply Gr.iter | (refine Gr.setCell ?_ (by simp) _) | (refine Gr.trans ?_ (by assumption)))); have p1 := Gr.cell gW1 bI; have p2 := Gr.cell gW1 cW; have d7 := Gr.cell gW1 c7; have d8 := Gr.cell gW1 c8; have d9 := Gr.cell gW1 c9; have d10 := Gr.cell gW1 c10; have d11 := Gr.cell gW1 c11; have d12 := Gr.cell gW1 c12; have d13 := Gr.cell gW1 c13)
              | ((with_reducible refine And.intro ?_ ?_); (first | exact trivial | (intro f hf; cases hf)); go_at_K))
              obtain ⟨hTk, hKk⟩ := HTK.out
              have hTf : Tn (wtW gi1) W (x2.setCell ⟨gi1, 0, none⟩ (.int .i64 (pre.length + 1))) := (Tn.of_gr gW2).trans (Tn.set hB2 ⟨rfl, rfl⟩ 0 _)
              have hWI : WtI W0 gi1 SS (pre ++ [((o1, o2), pv, qv)]) (x2.setCell ⟨gi1, 0, none⟩ (.int .i64 (pre.length + 1))) :=
                ⟨by rw [List.length_append]; exact hB2.set 0 (.int .i64 ((pre.length + 1 : Nat) : Int)), Gr.tn hgW hTf (fun b t h => by have := h.1; omega), by rw [List.map_append, List.map_singleton, List.length_append, List.length_singleton, List.take_succ, hKk, hTk]; rfl⟩
              exact ⟨KeepsOthers.of_tn hTf (fun b h => by cases h.2), hTf.mono fun b t h => ⟨by have := h.1; omega, by rw [h.2]; simp, by rw [h.2]; simp, by rw [h.2]; simp⟩, hWI⟩
          case done1 =>
            rintro D1 ys WD1 hD1 hys ⟨hBi, hgW, -⟩ hK1
            have hyl : ys.length = nS := by have := hnS.out; rw [List.length_map] at this; rw [← this, ← hys, List.length_map]
            rw [hyl] at hBi
            have gAD1 := Gr.trans hgT hgW
            have gWD1 := hgW
            have bI := hBi.cell 0
            have cW := Gr.cell gAD1 cWA
            have cT := (hTB.gr hgW).cell 0
            have cP := (hPA.gr gAD1).cell 0
            gi_wp2
            have hNB := Blk.new WD1 3 #[.int .i64 1]
            obtain ⟨W1, hW1⟩ : ∃ W1, WD1.alloc (.cells #[.int .i64 1] 3) = W1 := ⟨_, rfl⟩
            rw [hW1] at hNB ⊢
            have gDW : Gr WD1 W1 := hW1 ▸ (Gr.refl WD1).alloc _
            have hgT := Gr.trans gAD1 gDW
            obtain ⟨gt2, hgt2⟩ : ∃ g, WD1.heap.size = g := ⟨_, rfl⟩
            rw [hgt2] at hNB ⊢
            have hTB := hNB
            have cT := hTB.cell 0
            clear hW1 hNB bI cW cP hBi hgW
            rw [roundsIn_succ]
            gi_wp2
            have hI2a := Blk.new W1 3 #[.int .i64 0]
            obtain ⟨WB2a, hWB2a⟩ : ∃ WB, W1.alloc (.cells #[.int .i64 0] 3) = WB := ⟨_, rfl⟩
            rw [hWB2a] at hI2a ⊢
            have gTB2a : Gr W1 WB2a := hWB2a ▸ (Gr.refl W1).alloc _
            obtain ⟨gi2a, hgi2a⟩ : ∃ gi, W1.heap.size = gi := ⟨_, rfl⟩
            rw [hgi2a] at hI2a ⊢
            have gAB2a : Gr WA WB2a := Gr.trans hgT gTB2a
            have hzB2a := hI2a.lt
            have hTz2a : W1.heap.size ≤ WB2a.heap.size := gTB2a.size
            have hAz2a : WA.heap.size ≤ W1.heap.size := hgT.size
            have hTBz2a := hTB.lt
            have hn12a : w.heap.size ≠ gi2a := by have := hPA.lt; omega
            have hn22a : gi2a ≠ w.heap.size := by have := hPA.lt; omega
            clear hWB2a
            have hseq2a := steps_told (N - 1) (gK + 1) (gK + 1 + 1) (by omega) ps qs _ _ WA WB2a hEA gAB2a (Gr.cell gAB2a cDA) (Gr.cell gAB2a cFA) hDA hFA hp hq
            rw [HSS.out] at hseq2a
            apply wpIn_told rfl h1 (gf := 98) (lb := #[.pointer (some ⟨gK + 1, 0, none⟩), .pointer (some ⟨gK + 1 + 1, 0, none⟩)]) rfl trivial (enters_of Tryz.func98 (by kernel_rfl) rfl) hseq2a
              (.inl rfl) (fun h k => h.trans k) (fun x W l o o' hl h ho _ => Tn.put W o' h (by rw [tyO_none ho]; exact ⟨by omega, by simp, by simp, by simp⟩))
              (fun k x W W' h g => StpT.tn h g fun b hh => by simp [wkG] at hh) (Below.refl _ _) (fun _ => rfl)
              (WtI W1 gi2a SS) (fun _ _ _ => False) (fun s => WtI.abd hTz2a s) (fun c s => fun _ _ h _ => h) ⟨hI2a, gTB2a, rfl⟩ _ ?assign2a ?body2a ?done2a ?stop2a
            case assign2a =>
              intro l x W K hK
              gi_wp2
              exact hK
            case body2a =>
              rintro L0 pre ⟨⟨o1, o2⟩, pv, qv⟩ W ⟨hBi, hgW, htk⟩ ⟨hk, hpv, hqv⟩
              dsimp only at hk hpv hqv
              have gAW : Gr WA W := Gr.trans hgT hgW
              have hklt : pre.length < SS.length := (List.getElem?_eq_some_iff.1 hk).1
              have hmem := step_good (hsok _ (List.mem_of_getElem? hk))
              have hlt : pre.length < nS := by have := hnS.out; rw [List.length_map] at this; omega
              obtain ⟨b, off, ⟨⟨k1, t1, ⟨a1, b1, v1⟩, cc1, at1⟩, ⟨k2, t2, ⟨a2, b2, v2⟩, cc2, at2⟩⟩, s1, s2, hx, rfl, hs1, hs2, c0, c1, c2, c3, c4, c5, c6, c7, c8, c9, c10, c11, c12, c13⟩ := (RdStp.gr hrA gAW).at_ pre.length hlt
              dsimp only at hs1 hs2 c0 c1 c2 c3 c4 c5 c6 c7 c8 c9 c10 c11 c12 c13
              have hx2 : stpO (o1, o2) = (⟨k1, t1, ⟨a1, b1, v1⟩, cc1, at1⟩, ⟨k2, t2, ⟨a2, b2, v2⟩, cc2, at2⟩) := by rw [List.getElem?_map, hk] at hx; injection hx
              have HX := Lib.hid (And.intro (congrArg Prod.fst hx2).symm (congrArg Prod.snd hx2).symm)
              have HM := Lib.hid hmem; have HTK := Lib.hid (And.intro htk hk)
              clear hx hx2 hmem htk hk
              obtain ⟨sa1, sc1, hsl1, -⟩ := RdList.slice hs1
              subst hsl1
              obtain ⟨sa2, sc2, hsl2, -⟩ := RdList.slice hs2
              subst hsl2
              have bI := hBi.cell 0
              have cW := Gr.cell gAW cWA
              have cT := (hTB.gr hgW).cell 0
              have cP := (hPA.gr gAW).cell 0
              have hlti : (pre.length : Int) < nS := by omega
              have hltd : decide (nS ≤ pre.length) = false := decide_eq_false (by omega)
              have hpl : pre.length ≤ 24002 := by omega
              gi_wp2_with (first
              | ((with_reducible refine And.intro ?_ ?_); exact trivial; gi_at_call 22; have _h := hgx1; refine (CallsIn.inRound L0 (callsIn_wide.2 (is07_o o2 qv _ _ _ _ _ _ _ _ _ HX.out.2 (PieceO.gr hqv (by repeat (with_reducible first | assumption | exact Gr.refl _ | apply Gr.alloc | apply Gr.drewN | apply Gr.drew | apply Gr.iter | (refine Gr.setCell ?_ (by simp) _) | (refine Gr.trans ?_ (by assumption))))) HM.out.2 (RdAttrs.gr hs2 (by repeat (with_reducible first | assumption | exact Gr.refl _ | apply Gr.alloc | apply Gr.drewN | apply Gr.drew | apply Gr.iter | (refine Gr.setCell ?_ (by simp) _) | (refine Gr.trans ?_ (by assumption)))))))).mono ?_; rintro e x2 ⟨rfl, hgx2⟩; have gW2 : Gr W x2 := (by repeat (with_reducible first | assumption | exact Gr.refl _ | apply Gr.alloc | apply Gr.drewN | apply Gr.drew | apply Gr.iter | (refine Gr.setCell ?_ (by simp) _) | (refine Gr.trans ?_ (by assumption)))); have q1 := Gr.cell gW2 bI; have q2 := Gr.cell gW2 cT; have q3 := Gr.cell gW2 cP; have hB2 := hBi.gr gW2; have qf := hB2.frozen 0; have qz := hB2.lt)
              | ((with_reducible refine And.intro ?_ ?_); exact trivial; gi_at_call 22; refine (CallsIn.inRound L0 (callsIn_wide.2 (is07_o o1 pv _ _ _ _ _ _ _ _ _ HX.out.1 (PieceO.gr hpv (by repeat (with_reducible first | assumption | exact Gr.refl _ | apply Gr.alloc | apply Gr.drewN | apply Gr.drew | apply Gr.iter | (refine Gr.setCell ?_ (by simp) _) | (refine Gr.trans ?_ (by assumption))))) HM.out.1 (RdAttrs.gr hs1 (by repeat (with_reducible first | assumption | exact Gr.refl _ | apply Gr.alloc | apply Gr.drewN | apply Gr.drew | apply Gr.iter | (refine Gr.setCell ?_ (by simp) _) | (refine Gr.trans ?_ (by assumption)))))))).mono ?_; rintro e x1 ⟨rfl, hgx1⟩; have gW1 : Gr W x1 := (by repeat (with_reducible first | assumption | exact Gr.refl _ | apply Gr.alloc | apply Gr.drewN | apply Gr.drew | apply Gr.iter | (refine Gr.setCell ?_ (by simp) _) | (refine Gr.trans ?_ (by assumption)))); have p1 := Gr.cell gW1 bI; have p2 := Gr.cell gW1 cW; have d7 := Gr.cell gW1 c7; have d8 := Gr.cell gW1 c8; have d9 := Gr.cell gW1 c9; have d10 := Gr.cell gW1 c10; have d11 := Gr.cell gW1 c11; have d12 := Gr.cell gW1 c12; have d13 := Gr.cell gW1 c13)
              | ((with_reducible refine And.intro ?_ ?_); (first | exact trivial | (intro f hf; cases hf)); go_at_K))
              obtain ⟨hTk, hKk⟩ := HTK.out
              have hTf : Tn (wtW gi2a) W (x2.setCell ⟨gi2a, 0, none⟩ (.int .i64 (pre.length + 1))) := (Tn.of_gr gW2).trans (Tn.set hB2 ⟨rfl, rfl⟩ 0 _)
              have hWI : WtI W1 gi2a SS (pre ++ [((o1, o2), pv, qv)]) (x2.setCell ⟨gi2a, 0, none⟩ (.int .i64 (pre.length + 1))) :=
                ⟨by rw [List.length_append]; exact hB2.set 0 (.int .i64 ((pre.length + 1 : Nat) : Int)), Gr.tn hgW hTf (fun b t h => by have := h.1; omega), by rw [List.map_append, List.map_singleton, List.length_append, List.length_singleton, List.take_succ, hKk, hTk]; rfl⟩
              exact ⟨KeepsOthers.of_tn hTf (fun b h => by cases h.2), hTf.mono fun b t h => ⟨by have := h.1; omega, by rw [h.2]; simp, by rw [h.2]; simp, by rw [h.2]; simp⟩, hWI⟩
            case stop2a =>
              rintro D c pre W _ _ h _
              exact h.elim
            case done2a =>
              rintro D2 ys WD2 hD2 hys ⟨hBi, hgW, -⟩ hK2
              have hyl : ys.length = nS := by have := hnS.out; rw [List.length_map] at this; rw [← this, ← hys, List.length_map]
              rw [hyl] at hBi
              have gAD2 := Gr.trans hgT hgW
              have bI := hBi.cell 0
              have cW := Gr.cell gAD2 cWA
              have cT := (hTB.gr hgW).cell 0
              have cP := (hPA.gr gAD2).cell 0
              gi_wp2
              have hNB := Blk.new WD2 3 #[.int .i64 2]
              obtain ⟨W2, hW2⟩ : ∃ W2, WD2.alloc (.cells #[.int .i64 2] 3) = W2 := ⟨_, rfl⟩
              rw [hW2] at hNB ⊢
              have gDW2 : Gr WD2 W2 := hW2 ▸ (Gr.refl WD2).alloc _
              have cT := hNB.cell 0
              have hR2 := hRA.gr (Gr.trans gAD2 gDW2)
              have cR2 := hR2.cell
              have fR2 := hR2.frozen
              have zR2 := hR2.lt
              clear hW2
              rw [roundsIn_succ]
              gi_wp2
              obtain ⟨We, hWe⟩ : ∃ We, W2.setCell ⟨w.heap.size + 1, 0, none⟩ (.bool true) = We := ⟨_, rfl⟩
              have hKe2 : We.heap[D2]? = some (.deferred (some [])) := hWe ▸ ((others_gr gDW2).trans (KeepsOthers.setCell W2 ⟨w.heap.size + 1, 0, none⟩ (.bool true))).same D2 _ hK2 rfl
              have hKe1 : We.heap[D1]? = some (.deferred (some [])) := hWe ▸ ((others_gr (Gr.trans gDW (Gr.trans hgW gDW2))).trans (KeepsOthers.setCell W2 ⟨w.heap.size + 1, 0, none⟩ (.bool true))).same D1 _ hK1 rfl
              have hBe : Blk We (w.heap.size + 1) 4 #[.bool true] := hWe ▸ hR2.set 0 (.bool true)
              have hGe : Gr w We := hWe ▸ Below.setCell (p := ⟨w.heap.size + 1, 0, none⟩) (show Gr w W2 from Gr.trans gwA (Gr.trans gAD2 gDW2)) (by simp) _
              have hz1 : D1 < WD1.heap.size := (Array.getElem?_eq_some_iff.1 hK1).1
              have hz2 := hRA.lt
              have hz3 : w.heap.size + 1 < D1 := by omega
              have hz4 : D1 < D2 := by omega
              rw [hWe]
              clear hWe
              have hKe1' : (We.putObj D2 (.deferred none)).heap[D1]? = some (.deferred (some [])) := (World.putObj_heap_other (by omega)).trans hKe1
              have hB' : Blk ((We.putObj D2 (.deferred none)).putObj D1 (.deferred none)) (w.heap.size + 1) 4 #[.bool true] := (World.putObj_heap_other (by omega)).trans ((World.putObj_heap_other (by omega)).trans hBe)
              have hq' := hB'.cell 0
              refine ⟨by simp, .inl ⟨_, _, rfl, run_takeDeferred hKe2, ⟨by simp, .inl ⟨_, _, rfl, run_takeDeferred hKe1', ?_⟩⟩⟩⟩
              refine ⟨.bool true, ?_, rfl, Below.trans (Below.trans hGe (belowK_b (w := w) (Nat.le_refl _) _ D2 _ _ (by omega) hKe2 rfl rfl)) (belowK_b (w := w) (Nat.le_refl _) _ D1 _ _ (by omega) hKe1' rfl rfl)⟩
              simp [results, Tryz.f4, go_sem, hq']
          case stop1 =>
            rintro D1 c pre WD1 hD1 - ⟨rfl, ⟨hBi, hgW, -⟩, hst⟩ hK1
            by_cases hln : pre.length < nS
            · have gAD1 := Gr.trans hgT hgW
              have gWD1 := hgW
              have bI := hBi.cell 0
              have cW := Gr.cell gAD1 cWA
              have cT := (hTB.gr hgW).cell 0
              have cP := (hPA.gr gAD1).cell 0
              gi_wp2
              have hNB := Blk.new WD1 3 #[.int .i64 1]
              obtain ⟨W1, hW1⟩ : ∃ W1, WD1.alloc (.cells #[.int .i64 1] 3) = W1 := ⟨_, rfl⟩
              rw [hW1] at hNB ⊢
              have gDW : Gr WD1 W1 := hW1 ▸ (Gr.refl WD1).alloc _
              have hgT := Gr.trans gAD1 gDW
              obtain ⟨gt2, hgt2⟩ : ∃ g, WD1.heap.size = g := ⟨_, rfl⟩
              rw [hgt2] at hNB ⊢
              have hTB := hNB
              have cT := hTB.cell 0
              clear hW1 hNB bI cW cP hBi hgW
              rw [roundsIn_succ]
              gi_wp2
              have hI2b := Blk.new W1 3 #[.int .i64 0]
              obtain ⟨WB2b, hWB2b⟩ : ∃ WB, W1.alloc (.cells #[.int .i64 0] 3) = WB := ⟨_, rfl⟩
              rw [hWB2b] at hI2b ⊢
              have gTB2b : Gr W1 WB2b := hWB2b ▸ (Gr.refl W1).alloc _
              obtain ⟨gi2b, hgi2b⟩ : ∃ gi, W1.heap.size = gi := ⟨_, rfl⟩
              rw [hgi2b] at hI2b ⊢
              have gAB2b : Gr WA WB2b := Gr.trans hgT gTB2b
              have hzB2b := hI2b.lt
              have hTz2b : W1.heap.size ≤ WB2b.heap.size := gTB2b.size
              have hAz2b : WA.heap.size ≤ W1.heap.size := hgT.size
              have hTBz2b := hTB.lt
              have hn12b : w.heap.size ≠ gi2b := by have := hPA.lt; omega
              have hn22b : gi2b ≠ w.heap.size := by have := hPA.lt; omega
              clear hWB2b
              have hseq2b := steps_told (N - 1) (gK + 1) (gK + 1 + 1) (by omega) ps qs _ _ WA WB2b hEA gAB2b (Gr.cell gAB2b cDA) (Gr.cell gAB2b cFA) hDA hFA hp hq
              rw [HSS.out] at hseq2b
              apply wpIn_told rfl h1 (gf := 98) (lb := #[.pointer (some ⟨gK + 1, 0, none⟩), .pointer (some ⟨gK + 1 + 1, 0, none⟩)]) rfl trivial (enters_of Tryz.func98 (by kernel_rfl) rfl) hseq2b
                (.inl rfl) (fun h k => h.trans k) (fun x W l o o' hl h ho _ => Tn.put W o' h (by rw [tyO_none ho]; exact ⟨by omega, by simp, by simp, by simp⟩))
                (fun k x W W' h g => StpT.tn h g fun b hh => by simp [wkG] at hh) (Below.refl _ _) (fun _ => rfl)
                (WtI W1 gi2b SS) (fun _ _ _ => False) (fun s => WtI.abd hTz2b s) (fun c s => fun _ _ h _ => h) ⟨hI2b, gTB2b, rfl⟩ _ ?assign2b ?body2b ?done2b ?stop2b
              case assign2b =>
                intro l x W K hK
                gi_wp2
                exact hK
              case body2b =>
                rintro L0 pre ⟨⟨o1, o2⟩, pv, qv⟩ W ⟨hBi, hgW, htk⟩ ⟨hk, hpv, hqv⟩
                dsimp only at hk hpv hqv
                have gAW : Gr WA W := Gr.trans hgT hgW
                have hklt : pre.length < SS.length := (List.getElem?_eq_some_iff.1 hk).1
                have hmem := step_good (hsok _ (List.mem_of_getElem? hk))
                have hlt : pre.length < nS := by have := hnS.out; rw [List.length_map] at this; omega
                obtain ⟨b, off, ⟨⟨k1, t1, ⟨a1, b1, v1⟩, cc1, at1⟩, ⟨k2, t2, ⟨a2, b2, v2⟩, cc2, at2⟩⟩, s1, s2, hx, rfl, hs1, hs2, c0, c1, c2, c3, c4, c5, c6, c7, c8, c9, c10, c11, c12, c13⟩ := (RdStp.gr hrA gAW).at_ pre.length hlt
                dsimp only at hs1 hs2 c0 c1 c2 c3 c4 c5 c6 c7 c8 c9 c10 c11 c12 c13
                have hx2 : stpO (o1, o2) = (⟨k1, t1, ⟨a1, b1, v1⟩, cc1, at1⟩, ⟨k2, t2, ⟨a2, b2, v2⟩, cc2, at2⟩) := by rw [List.getElem?_map, hk] at hx; injection hx
                have HX := Lib.hid (And.intro (congrArg Prod.fst hx2).symm (congrArg Prod.snd hx2).symm)
                have HM := Lib.hid hmem; have HTK := Lib.hid (And.intro htk hk)
                clear hx hx2 hmem htk hk
                obtain ⟨sa1, sc1, hsl1, -⟩ := RdList.slice hs1
                subst hsl1
                obtain ⟨sa2, sc2, hsl2, -⟩ := RdList.slice hs2
                subst hsl2
                have bI := hBi.cell 0
                have cW := Gr.cell gAW cWA
                have cT := (hTB.gr hgW).cell 0
                have cP := (hPA.gr gAW).cell 0
                have hlti : (pre.length : Int) < nS := by omega
                have hltd : decide (nS ≤ pre.length) = false := decide_eq_false (by omega)
                have hpl : pre.length ≤ 24002 := by omega
                gi_wp2_with (first
                | ((with_reducible refine And.intro ?_ ?_); exact trivial; gi_at_call 22; have _h := hgx1; refine (CallsIn.inRound L0 (callsIn_wide.2 (is07_o o2 qv _ _ _ _ _ _ _ _ _ HX.out.2 (PieceO.gr hqv (by repeat (with_reducible first | assumption | exact Gr.refl _ | apply Gr.alloc | apply Gr.drewN | apply Gr.drew | apply Gr.iter | (refine Gr.setCell ?_ (by simp) _) | (refine Gr.trans ?_ (by assumption))))) HM.out.2 (RdAttrs.gr hs2 (by repeat (with_reducible first | assumption | exact Gr.refl _ | apply Gr.alloc | apply Gr.drewN | apply Gr.drew | apply Gr.iter | (refine Gr.setCell ?_ (by simp) _) | (refine Gr.trans ?_ (by assumption)))))))).mono ?_; rintro e x2 ⟨rfl, hgx2⟩; have gW2 : Gr W x2 := (by repeat (with_reducible first | assumption | exact Gr.refl _ | apply Gr.alloc | apply Gr.drewN | apply Gr.drew | apply Gr.iter | (refine Gr.setCell ?_ (by simp) _) | (refine Gr.trans ?_ (by assumption)))); have q1 := Gr.cell gW2 bI; have q2 := Gr.cell gW2 cT; have q3 := Gr.cell gW2 cP; have hB2 := hBi.gr gW2; have qf := hB2.frozen 0; have qz := hB2.lt)
                | ((with_reducible refine And.intro ?_ ?_); exact trivial; gi_at_call 22; refine (CallsIn.inRound L0 (callsIn_wide.2 (is07_o o1 pv _ _ _ _ _ _ _ _ _ HX.out.1 (PieceO.gr hpv (by repeat (with_reducible first | assumption | exact Gr.refl _ | apply Gr.alloc | apply Gr.drewN | apply Gr.drew | apply Gr.iter | (refine Gr.setCell ?_ (by simp) _) | (refine Gr.trans ?_ (by assumption))))) HM.out.1 (RdAttrs.gr hs1 (by repeat (with_reducible first | assumption | exact Gr.refl _ | apply Gr.alloc | apply Gr.drewN | apply Gr.drew | apply Gr.iter | (refine Gr.setCell ?_ (by simp) _) | (refine Gr.trans ?_ (by assumption)))))))).mono ?_; rintro e x1 ⟨rfl, hgx1⟩; have gW1 : Gr W x1 := (by repeat (with_reducible first | assumption | exact Gr.refl _ | apply Gr.alloc | apply Gr.drewN | apply Gr.drew | apply Gr.iter | (refine Gr.setCell ?_ (by simp) _) | (refine Gr.trans ?_ (by assumption)))); have p1 := Gr.cell gW1 bI; have p2 := Gr.cell gW1 cW; have d7 := Gr.cell gW1 c7; have d8 := Gr.cell gW1 c8; have d9 := Gr.cell gW1 c9; have d10 := Gr.cell gW1 c10; have d11 := Gr.cell gW1 c11; have d12 := Gr.cell gW1 c12; have d13 := Gr.cell gW1 c13)
                | ((with_reducible refine And.intro ?_ ?_); (first | exact trivial | (intro f hf; cases hf)); go_at_K))
                obtain ⟨hTk, hKk⟩ := HTK.out
                have hTf : Tn (wtW gi2b) W (x2.setCell ⟨gi2b, 0, none⟩ (.int .i64 (pre.length + 1))) := (Tn.of_gr gW2).trans (Tn.set hB2 ⟨rfl, rfl⟩ 0 _)
                have hWI : WtI W1 gi2b SS (pre ++ [((o1, o2), pv, qv)]) (x2.setCell ⟨gi2b, 0, none⟩ (.int .i64 (pre.length + 1))) :=
                  ⟨by rw [List.length_append]; exact hB2.set 0 (.int .i64 ((pre.length + 1 : Nat) : Int)), Gr.tn hgW hTf (fun b t h => by have := h.1; omega), by rw [List.map_append, List.map_singleton, List.length_append, List.length_singleton, List.take_succ, hKk, hTk]; rfl⟩
                exact ⟨KeepsOthers.of_tn hTf (fun b h => by cases h.2), hTf.mono fun b t h => ⟨by have := h.1; omega, by rw [h.2]; simp, by rw [h.2]; simp, by rw [h.2]; simp⟩, hWI⟩
              case stop2b =>
                rintro D c pre W _ _ h _
                exact h.elim
              case done2b =>
                rintro D2 ys WD2 hD2 hys ⟨hBi, hgW, -⟩ hK2
                have hyl : ys.length = nS := by have := hnS.out; rw [List.length_map] at this; rw [← this, ← hys, List.length_map]
                rw [hyl] at hBi
                have gAD2 := Gr.trans hgT hgW
                have bI := hBi.cell 0
                have cW := Gr.cell gAD2 cWA
                have cT := (hTB.gr hgW).cell 0
                have cP := (hPA.gr gAD2).cell 0
                gi_wp2
                have hNB := Blk.new WD2 3 #[.int .i64 2]
                obtain ⟨W2, hW2⟩ : ∃ W2, WD2.alloc (.cells #[.int .i64 2] 3) = W2 := ⟨_, rfl⟩
                rw [hW2] at hNB ⊢
                have gDW2 : Gr WD2 W2 := hW2 ▸ (Gr.refl WD2).alloc _
                have cT := hNB.cell 0
                have hR2 := hRA.gr (Gr.trans gAD2 gDW2)
                have cR2 := hR2.cell
                have fR2 := hR2.frozen
                have zR2 := hR2.lt
                clear hW2
                rw [roundsIn_succ]
                gi_wp2
                obtain ⟨We, hWe⟩ : ∃ We, W2.setCell ⟨w.heap.size + 1, 0, none⟩ (.bool true) = We := ⟨_, rfl⟩
                have hKe2 : We.heap[D2]? = some (.deferred (some [])) := hWe ▸ ((others_gr gDW2).trans (KeepsOthers.setCell W2 ⟨w.heap.size + 1, 0, none⟩ (.bool true))).same D2 _ hK2 rfl
                have hKe1 : We.heap[D1]? = some (.deferred (some [])) := hWe ▸ ((others_gr (Gr.trans gDW (Gr.trans hgW gDW2))).trans (KeepsOthers.setCell W2 ⟨w.heap.size + 1, 0, none⟩ (.bool true))).same D1 _ hK1 rfl
                have hBe : Blk We (w.heap.size + 1) 4 #[.bool true] := hWe ▸ hR2.set 0 (.bool true)
                have hGe : Gr w We := hWe ▸ Below.setCell (p := ⟨w.heap.size + 1, 0, none⟩) (show Gr w W2 from Gr.trans gwA (Gr.trans gAD2 gDW2)) (by simp) _
                have hz1 : D1 < WD1.heap.size := (Array.getElem?_eq_some_iff.1 hK1).1
                have hz2 := hRA.lt
                have hz3 : w.heap.size + 1 < D1 := by omega
                have hz4 : D1 < D2 := by omega
                rw [hWe]
                clear hWe
                have hKe1' : (We.putObj D2 (.deferred none)).heap[D1]? = some (.deferred (some [])) := (World.putObj_heap_other (by omega)).trans hKe1
                have hB' : Blk ((We.putObj D2 (.deferred none)).putObj D1 (.deferred none)) (w.heap.size + 1) 4 #[.bool true] := (World.putObj_heap_other (by omega)).trans ((World.putObj_heap_other (by omega)).trans hBe)
                have hq' := hB'.cell 0
                refine ⟨by simp, .inl ⟨_, _, rfl, run_takeDeferred hKe2, ⟨by simp, .inl ⟨_, _, rfl, run_takeDeferred hKe1', ?_⟩⟩⟩⟩
                refine ⟨.bool true, ?_, rfl, Below.trans (Below.trans hGe (belowK_b (w := w) (Nat.le_refl _) _ D2 _ _ (by omega) hKe2 rfl rfl)) (belowK_b (w := w) (Nat.le_refl _) _ D1 _ _ (by omega) hKe1' rfl rfl)⟩
                simp [results, Tryz.f4, go_sem, hq']
            · have gAD1 := Gr.trans hgT hgW
              have gWD1 := hgW
              have bI := hBi.cell 0
              have cW := Gr.cell gAD1 cWA
              have cT := (hTB.gr hgW).cell 0
              have cP := (hPA.gr gAD1).cell 0
              gi_wp2
              have hNB := Blk.new WD1 3 #[.int .i64 1]
              obtain ⟨W1, hW1⟩ : ∃ W1, WD1.alloc (.cells #[.int .i64 1] 3) = W1 := ⟨_, rfl⟩
              rw [hW1] at hNB ⊢
              have gDW : Gr WD1 W1 := hW1 ▸ (Gr.refl WD1).alloc _
              have hgT := Gr.trans gAD1 gDW
              obtain ⟨gt2, hgt2⟩ : ∃ g, WD1.heap.size = g := ⟨_, rfl⟩
              rw [hgt2] at hNB ⊢
              have hTB := hNB
              have cT := hTB.cell 0
              clear hW1 hNB bI cW cP hBi hgW
              rw [roundsIn_succ]
              gi_wp2
              have hI2c := Blk.new W1 3 #[.int .i64 0]
              obtain ⟨WB2c, hWB2c⟩ : ∃ WB, W1.alloc (.cells #[.int .i64 0] 3) = WB := ⟨_, rfl⟩
              rw [hWB2c] at hI2c ⊢
              have gTB2c : Gr W1 WB2c := hWB2c ▸ (Gr.refl W1).alloc _
              obtain ⟨gi2c, hgi2c⟩ : ∃ gi, W1.heap.size = gi := ⟨_, rfl⟩
              rw [hgi2c] at hI2c ⊢
              have gAB2c : Gr WA WB2c := Gr.trans hgT gTB2c
              have hzB2c := hI2c.lt
              have hTz2c : W1.heap.size ≤ WB2c.heap.size := gTB2c.size
              have hAz2c : WA.heap.size ≤ W1.heap.size := hgT.size
              have hTBz2c := hTB.lt
              have hn12c : w.heap.size ≠ gi2c := by have := hPA.lt; omega
              have hn22c : gi2c ≠ w.heap.size := by have := hPA.lt; omega
              clear hWB2c
              have hseq2c := steps_told (N - 1) (gK + 1) (gK + 1 + 1) (by omega) ps qs _ _ WA WB2c hEA gAB2c (Gr.cell gAB2c cDA) (Gr.cell gAB2c cFA) hDA hFA hp hq
              rw [HSS.out] at hseq2c
              apply wpIn_told rfl h1 (gf := 98) (lb := #[.pointer (some ⟨gK + 1, 0, none⟩), .pointer (some ⟨gK + 1 + 1, 0, none⟩)]) rfl trivial (enters_of Tryz.func98 (by kernel_rfl) rfl) hseq2c
                (.inl rfl) (fun h k => h.trans k) (fun x W l o o' hl h ho _ => Tn.put W o' h (by rw [tyO_none ho]; exact ⟨by omega, by simp, by simp, by simp⟩))
                (fun k x W W' h g => StpT.tn h g fun b hh => by simp [wkG] at hh) (Below.refl _ _) (fun _ => rfl)
                (WtI W1 gi2c SS) (fun _ _ _ => False) (fun s => WtI.abd hTz2c s) (fun c s => fun _ _ h _ => h) ⟨hI2c, gTB2c, rfl⟩ _ ?assign2c ?body2c ?done2c ?stop2c
              case assign2c =>
                intro l x W K hK
                gi_wp2
                exact hK
              case body2c =>
                rintro L0 pre ⟨⟨o1, o2⟩, pv, qv⟩ W ⟨hBi, hgW, htk⟩ ⟨hk, hpv, hqv⟩
                dsimp only at hk hpv hqv
                have gAW : Gr WA W := Gr.trans hgT hgW
                have hklt : pre.length < SS.length := (List.getElem?_eq_some_iff.1 hk).1
                have hmem := step_good (hsok _ (List.mem_of_getElem? hk))
                have hlt : pre.length < nS := by have := hnS.out; rw [List.length_map] at this; omega
                obtain ⟨b, off, ⟨⟨k1, t1, ⟨a1, b1, v1⟩, cc1, at1⟩, ⟨k2, t2, ⟨a2, b2, v2⟩, cc2, at2⟩⟩, s1, s2, hx, rfl, hs1, hs2, c0, c1, c2, c3, c4, c5, c6, c7, c8, c9, c10, c11, c12, c13⟩ := (RdStp.gr hrA gAW).at_ pre.length hlt
                dsimp only at hs1 hs2 c0 c1 c2 c3 c4 c5 c6 c7 c8 c9 c10 c11 c12 c13
                have hx2 : stpO (o1, o2) = (⟨k1, t1, ⟨a1, b1, v1⟩, cc1, at1⟩, ⟨k2, t2, ⟨a2, b2, v2⟩, cc2, at2⟩) := by rw [List.getElem?_map, hk] at hx; injection hx
                have HX := Lib.hid (And.intro (congrArg Prod.fst hx2).symm (congrArg Prod.snd hx2).symm)
                have HM := Lib.hid hmem; have HTK := Lib.hid (And.intro htk hk)
                clear hx hx2 hmem htk hk
                obtain ⟨sa1, sc1, hsl1, -⟩ := RdList.slice hs1
                subst hsl1
                obtain ⟨sa2, sc2, hsl2, -⟩ := RdList.slice hs2
                subst hsl2
                have bI := hBi.cell 0
                have cW := Gr.cell gAW cWA
                have cT := (hTB.gr hgW).cell 0
                have cP := (hPA.gr gAW).cell 0
                have hlti : (pre.length : Int) < nS := by omega
                have hltd : decide (nS ≤ pre.length) = false := decide_eq_false (by omega)
                have hpl : pre.length ≤ 24002 := by omega
                gi_wp2_with (first
                | ((with_reducible refine And.intro ?_ ?_); exact trivial; gi_at_call 22; have _h := hgx1; refine (CallsIn.inRound L0 (callsIn_wide.2 (is07_o o2 qv _ _ _ _ _ _ _ _ _ HX.out.2 (PieceO.gr hqv (by repeat (with_reducible first | assumption | exact Gr.refl _ | apply Gr.alloc | apply Gr.drewN | apply Gr.drew | apply Gr.iter | (refine Gr.setCell ?_ (by simp) _) | (refine Gr.trans ?_ (by assumption))))) HM.out.2 (RdAttrs.gr hs2 (by repeat (with_reducible first | assumption | exact Gr.refl _ | apply Gr.alloc | apply Gr.drewN | apply Gr.drew | apply Gr.iter | (refine Gr.setCell ?_ (by simp) _) | (refine Gr.trans ?_ (by assumption)))))))).mono ?_; rintro e x2 ⟨rfl, hgx2⟩; have gW2 : Gr W x2 := (by repeat (with_reducible first | assumption | exact Gr.refl _ | apply Gr.alloc | apply Gr.drewN | apply Gr.drew | apply Gr.iter | (refine Gr.setCell ?_ (by simp) _) | (refine Gr.trans ?_ (by assumption)))); have q1 := Gr.cell gW2 bI; have q2 := Gr.cell gW2 cT; have q3 := Gr.cell gW2 cP; have hB2 := hBi.gr gW2; have qf := hB2.frozen 0; have qz := hB2.lt)
                | ((with_reducible refine And.intro ?_ ?_); exact trivial; gi_at_call 22; refine (CallsIn.inRound L0 (callsIn_wide.2 (is07_o o1 pv _ _ _ _ _ _ _ _ _ HX.out.1 (PieceO.gr hpv (by repeat (with_reducible first | assumption | exact Gr.refl _ | apply Gr.alloc | apply Gr.drewN | apply Gr.drew | apply Gr.iter | (refine Gr.setCell ?_ (by simp) _) | (refine Gr.trans ?_ (by assumption))))) HM.out.1 (RdAttrs.gr hs1 (by repeat (with_reducible first | assumption | exact Gr.refl _ | apply Gr.alloc | apply Gr.drewN | apply Gr.drew | apply Gr.iter | (refine Gr.setCell ?_ (by simp) _) | (refine Gr.trans ?_ (by assumption)))))))).mono ?_; rintro e x1 ⟨rfl, hgx1⟩; have gW1 : Gr W x1 := (by repeat (with_reducible first | assumption | exact Gr.refl _ | apply Gr.alloc | apply Gr.drewN | apply Gr.drew | apply Gr.iter | (refine Gr.setCell ?_ (by simp) _) | (refine Gr.trans ?_ (by assumption)))); have p1 := Gr.cell gW1 bI; have p2 := Gr.cell gW1 cW; have d7 := Gr.cell gW1 c7; have d8 := Gr.cell gW1 c8; have d9 := Gr.cell gW1 c9; have d10 := Gr.cell gW1 c10; have d11 := Gr.cell gW1 c11; have d12 := Gr.cell gW1 c12; have d13 := Gr.cell gW1 c13)
                | ((with_reducible refine And.intro ?_ ?_); (first | exact trivial | (intro f hf; cases hf)); go_at_K))
                obtain ⟨hTk, hKk⟩ := HTK.out
                have hTf : Tn (wtW gi2c) W (x2.setCell ⟨gi2c, 0, none⟩ (.int .i64 (pre.length + 1))) := (Tn.of_gr gW2).trans (Tn.set hB2 ⟨rfl, rfl⟩ 0 _)
                have hWI : WtI W1 gi2c SS (pre ++ [((o1, o2), pv, qv)]) (x2.setCell ⟨gi2c, 0, none⟩ (.int .i64 (pre.length + 1))) :=
                  ⟨by rw [List.length_append]; exact hB2.set 0 (.int .i64 ((pre.length + 1 : Nat) : Int)), Gr.tn hgW hTf (fun b t h => by have := h.1; omega), by rw [List.map_append, List.map_singleton, List.length_append, List.length_singleton, List.take_succ, hKk, hTk]; rfl⟩
                exact ⟨KeepsOthers.of_tn hTf (fun b h => by cases h.2), hTf.mono fun b t h => ⟨by have := h.1; omega, by rw [h.2]; simp, by rw [h.2]; simp, by rw [h.2]; simp⟩, hWI⟩
              case stop2c =>
                rintro D c pre W _ _ h _
                exact h.elim
              case done2c =>
                rintro D2 ys WD2 hD2 hys ⟨hBi, hgW, -⟩ hK2
                have hyl : ys.length = nS := by have := hnS.out; rw [List.length_map] at this; rw [← this, ← hys, List.length_map]
                rw [hyl] at hBi
                have gAD2 := Gr.trans hgT hgW
                have bI := hBi.cell 0
                have cW := Gr.cell gAD2 cWA
                have cT := (hTB.gr hgW).cell 0
                have cP := (hPA.gr gAD2).cell 0
                gi_wp2
                have hNB := Blk.new WD2 3 #[.int .i64 2]
                obtain ⟨W2, hW2⟩ : ∃ W2, WD2.alloc (.cells #[.int .i64 2] 3) = W2 := ⟨_, rfl⟩
                rw [hW2] at hNB ⊢
                have gDW2 : Gr WD2 W2 := hW2 ▸ (Gr.refl WD2).alloc _
                have cT := hNB.cell 0
                have hR2 := hRA.gr (Gr.trans gAD2 gDW2)
                have cR2 := hR2.cell
                have fR2 := hR2.frozen
                have zR2 := hR2.lt
                clear hW2
                rw [roundsIn_succ]
                gi_wp2
                obtain ⟨We, hWe⟩ : ∃ We, W2.setCell ⟨w.heap.size + 1, 0, none⟩ (.bool true) = We := ⟨_, rfl⟩
                have hKe2 : We.heap[D2]? = some (.deferred (some [])) := hWe ▸ ((others_gr gDW2).trans (KeepsOthers.setCell W2 ⟨w.heap.size + 1, 0, none⟩ (.bool true))).same D2 _ hK2 rfl
                have hKe1 : We.heap[D1]? = some (.deferred (some [])) := hWe ▸ ((others_gr (Gr.trans gDW (Gr.trans hgW gDW2))).trans (KeepsOthers.setCell W2 ⟨w.heap.size + 1, 0, none⟩ (.bool true))).same D1 _ hK1 rfl
                have hBe : Blk We (w.heap.size + 1) 4 #[.bool true] := hWe ▸ hR2.set 0 (.bool true)
                have hGe : Gr w We := hWe ▸ Below.setCell (p := ⟨w.heap.size + 1, 0, none⟩) (show Gr w W2 from Gr.trans gwA (Gr.trans gAD2 gDW2)) (by simp) _
                have hz1 : D1 < WD1.heap.size := (Array.getElem?_eq_some_iff.1 hK1).1
                have hz2 := hRA.lt
                have hz3 : w.heap.size + 1 < D1 := by omega
                have hz4 : D1 < D2 := by omega
                rw [hWe]
                clear hWe
                have hKe1' : (We.putObj D2 (.deferred none)).heap[D1]? = some (.deferred (some [])) := (World.putObj_heap_other (by omega)).trans hKe1
                have hB' : Blk ((We.putObj D2 (.deferred none)).putObj D1 (.deferred none)) (w.heap.size + 1) 4 #[.bool true] := (World.putObj_heap_other (by omega)).trans ((World.putObj_heap_other (by omega)).trans hBe)
                have hq' := hB'.cell 0
                refine ⟨by simp, .inl ⟨_, _, rfl, run_takeDeferred hKe2, ⟨by simp, .inl ⟨_, _, rfl, run_takeDeferred hKe1', ?_⟩⟩⟩⟩
                refine ⟨.bool true, ?_, rfl, Below.trans (Below.trans hGe (belowK_b (w := w) (Nat.le_refl _) _ D2 _ _ (by omega) hKe2 rfl rfl)) (belowK_b (w := w) (Nat.le_refl _) _ D1 _ _ (by omega) hKe1' rfl rfl)⟩
                simp [results, Tryz.f4, go_sem, hq']
theorem walkSteps_law {ea : Nat → Addr} (la : List Op) (va : Value) (lb : List Op) (vb : Value) (stop : Int) (w : World) (hE : Env ea w) (hla : RdOps w va la) (hTa : opsum la ≤ 1048576) (hNa : la.length ≤ 1048576) (hlb : RdOps w vb lb) (hTb : opsum lb ≤ 1048576) (hNb : lb.length ≤ 1048576) :
    Calls Tryz.prog 4 #[va, vb, .int .i64 stop] w fun e w' => e = .returned (.bool true) ∧ Gr w w' := walkSteps_any la lb va vb stop w hE hla hlb hTa hNa hTb hNb
end Ve
