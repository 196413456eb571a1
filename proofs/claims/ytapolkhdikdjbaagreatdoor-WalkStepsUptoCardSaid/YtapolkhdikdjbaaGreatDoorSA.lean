/- Walks: the reference's Steps: rows of steps in memory. -/
import Derived.Test.YtapolkhdikdjbaaGreatDoorRZ
set_option linter.all false
namespace Ve
open Go Go.RowKit Go.Proofs

/-- A step: two operations, kind 0 for none. -/
def StpR (w0 w : World) (x : Op × Op) (cs : List Value) : Prop := ∃ ca cb, cs = ca ++ cb ∧ OpS w0 w x.1 ca ∧ OpS w0 w x.2 cb
theorem OpS.len {w0 w : World} {x : Op} {cs : List Value} (h : OpS w0 w x cs) : cs.length = 7 := by
  obtain ⟨v, rfl, -⟩ := h
  rfl
theorem StpR.len {w0 w : World} {x : Op × Op} {cs : List Value} (h : StpR w0 w x cs) : cs.length = 14 := by
  obtain ⟨ca, cb, rfl, ha, hb⟩ := h
  rw [List.length_append, ha.len, hb.len]
theorem StpR.flat (w0 w : World) (x : Op × Op) (cs : List Value) (h : StpR w0 w x cs) : ∀ u ∈ cs, u.oneCell' = true := by
  obtain ⟨ca, cb, rfl, ha, hb⟩ := h
  intro u hu
  rcases List.mem_append.1 hu with h | h
  · exact OpS.flat w0 w _ _ ha u h
  · exact OpS.flat w0 w _ _ hb u h
theorem StpR.gr {w0 w w' : World} {x : Op × Op} {cs : List Value} (h : StpR w0 w x cs) (g : Gr w w') : StpR w0 w' x cs := by
  obtain ⟨ca, cb, e, ha, hb⟩ := h
  exact ⟨ca, cb, e, ha.gr g, hb.gr g⟩
theorem StpR.tn {Wr : Nat → Option TypeId → Prop} {w0 w w' : World} {x : Op × Op} {cs : List Value} (h : StpR w0 w x cs) (g : Tn Wr w w') (h1 : ∀ b, ¬ Wr b (some 83)) : StpR w0 w' x cs := by
  obtain ⟨ca, cb, e, ha, hb⟩ := h
  exact ⟨ca, cb, e, ha.tn g h1, hb.tn g h1⟩
/-- The steps gathered, in a block of one's own. -/
abbrev OwnStp (base : Nat) (w0 w : World) (v : Value) (l : List (Op × Op)) : Prop := OwnL (StpR w0) 14 base 62 w v l
def slLen : Value → Nat
  | .slice _ n _ => n
  | _ => 0
def stpZ : Value := .agg #[.int .i64 0, .string ⟨#[]⟩, .int .i64 0, .int .i64 0, .string ⟨#[]⟩, .int .i64 0, .slice none 0 0, .int .i64 0, .string ⟨#[]⟩, .int .i64 0, .int .i64 0, .string ⟨#[]⟩, .int .i64 0, .slice none 0 0]
theorem info_stp : (Tryz.prog.info? 62).map (fun i => (i.zero, i.size, i.bytes)) = some (some stpZ, 14, 176) := by kernel_rfl
def stpT (t : TypeId) : Bool := t == 62
theorem push_stp (w0 w : World) (base : Nat) (ty : TypeId) {v : Value} {l : List (Op × Op)} {x : Op × Op} {cs : List Value} (hown : OwnStp base w0 w v l) (hx : StpR w0 w x cs) (hm : l.length + 1 ≤ 1073741824) (hb : base ≤ w.heap.size) :
    ∃ v' w', (Builtin.append_ #[56, 56] ty #[v, .slice (some ⟨w.heap.size, 0, none⟩) 1 1]).run Tryz.prog (w.alloc (.cells cs.toArray 62)) = .ok v' w' ∧ OwnStp base w0 w' v' (l ++ [x]) ∧
      Tn (fun b t => v.ownBlock = some b ∧ t = some 62) w w' ∧ (∀ b, v'.ownBlock = some b → v.ownBlock = some b ∨ w.heap.size ≤ b) := by
  obtain ⟨xs, ho, hr⟩ := hown
  obtain ⟨i, hi, h1, h2, h3⟩ := info_of info_stp
  have ho' : (w.alloc (.cells cs.toArray 62)).ownsRow base 62 14 v l.length xs := ho.alloc _
  have hcl := hx.len
  obtain ⟨v', w', hrun, r1, r2, -, r5⟩ := run_append_own_at (P := Tryz.prog) (w.alloc (.cells cs.toArray 62)) base 56 ty 62 i stpZ 14 176 Tryz.underlying56 hi h1 h2 h3 rfl (by omega)
    v l.length xs ho' ⟨w.heap.size, 0, none⟩ 1 1 cs (by omega) (fun j u hu => by
        have := (Blk.new w 62 cs.toArray).cell (0 + j)
        have h' : (w.alloc (.cells cs.toArray 62)).cell? ⟨w.heap.size, 0 + j, none⟩ = some u := by rw [this, Nat.zero_add]; simpa using hu
        unfold Addr.add
        split
        · rename_i h; subst h; exact h'
        · exact h') (StpR.flat w0 w x cs hx) (by unfold maxLen; omega) (by omega) (by simp; omega)
  have hk : Kg (fun b => v.ownBlock = some b) stpT w w' := Kg.of_own_alloc ho (by decide) (fun b h => h) r2
  have ht : Tn (fun b t => v.ownBlock = some b ∧ t = some 62) w w' := Tn.of_kg hk fun b t hb ht => ⟨hb, by unfold stpT at ht; rw [beq_iff_eq.1 ht]⟩
  have hst : ∀ y c, StpR w0 w y c → StpR w0 w' y c := fun y c h => h.tn ht fun b hh => by have := hh.2; injection this with this; exact absurd this (by decide)
  refine ⟨v', w', hrun, ⟨xs ++ cs, by rw [List.length_append]; exact r1, (hr.map hst).app (RowsR.one hcl (hst _ _ hx))⟩, ht, fun b hb' => ?_⟩
  rcases r5 with h5 | h5
  · exact .inl (h5 ▸ hb')
  · rw [h5] at hb'; injection hb' with hb'; subst hb'; exact .inr (by simp)
/-- A plain step as the reference has it. -/
def stpO (x : Option Piece × Option Piece) : Op × Op := ((x.1.map Piece.op).getD zeroO, (x.2.map Piece.op).getD zeroO)
theorem W7.far {w0 w w' : World} {g g' : Nat} {l : List Op} (h : W7 w0 w g l) (k : Tn (fun b t => b = g' ∧ t = some 33) w w') (hne : g ≠ g') : W7 w0 w' g l :=
  h.tn k (fun b h => absurd (Option.some.inj h.2) (by decide)) (fun b h => absurd (Option.some.inj h.2) (by decide)) (fun h => hne h.1)
/-- What Steps holds between two rounds. -/
structure StM (w : World) (g1 g2 : Nat) (rs ts : List Piece) (o : Value) (done : List (Option Piece × Option Piece)) (wr : World) : Prop where
  gr : Gr w wr
  one : W7 w wr g1 (rs.map Piece.op)
  two : W7 w wr g2 (ts.map Piece.op)
  c1 : Can rs
  c2 : Can ts
  own : OwnStp w.heap.size w wr o (done.map stpO)
  ne : g1 ≠ g2
  g10 : w.heap.size ≤ g1
  g20 : w.heap.size ≤ g2
theorem StM.len {w : World} {g1 g2 : Nat} {rs ts : List Piece} {o : Value} {done : List (Option Piece × Option Piece)} {wr : World} (h : StM w g1 g2 rs ts o done wr) : slLen o = done.length := by
  obtain ⟨a, m, c, rfl, -, -, hm'⟩ := h.own.sl
  have := hm'.out
  rw [List.length_map] at this
  exact this.symm
/-- A step's box: fourteen cells, the one half written. -/
def set7b (w : World) (g : Nat) (u0 u1 u2 u3 u4 u5 u6 : Value) : World :=
  ((((((w.setCell ⟨g, 7, none⟩ u0).setCell ⟨g, 8, none⟩ u1).setCell ⟨g, 9, none⟩ u2).setCell ⟨g, 10, none⟩ u3).setCell ⟨g, 11, none⟩ u4).setCell ⟨g, 12, none⟩ u5).setCell ⟨g, 13, none⟩ u6
theorem Blk.a7 {w : World} {g : Nat} {e : TypeId} {x0 x1 x2 x3 x4 x5 x6 x7 x8 x9 x10 x11 x12 x13 : Value} (h : Blk w g e #[x0, x1, x2, x3, x4, x5, x6, x7, x8, x9, x10, x11, x12, x13]) (u0 u1 u2 u3 u4 u5 u6 : Value) :
    Blk (Ve.set7 w g u0 u1 u2 u3 u4 u5 u6) g e #[u0, u1, u2, u3, u4, u5, u6, x7, x8, x9, x10, x11, x12, x13] ∧ Tn (fun b t => b = g ∧ t = some e) w (Ve.set7 w g u0 u1 u2 u3 u4 u5 u6) := by
  have h0 := h.set 0 u0
  have h1 := h0.set 1 u1
  have h2 := h1.set 2 u2
  have h3 := h2.set 3 u3
  have h4 := h3.set 4 u4
  have h5 := h4.set 5 u5
  refine ⟨by simpa [Ve.set7] using h5.set 6 u6, ?_⟩
  unfold Ve.set7
  exact ((((((Tn.set h ⟨rfl, rfl⟩ 0 u0).trans (Tn.set h0 ⟨rfl, rfl⟩ 1 u1)).trans (Tn.set h1 ⟨rfl, rfl⟩ 2 u2)).trans (Tn.set h2 ⟨rfl, rfl⟩ 3 u3)).trans (Tn.set h3 ⟨rfl, rfl⟩ 4 u4)).trans (Tn.set h4 ⟨rfl, rfl⟩ 5 u5)).trans (Tn.set h5 ⟨rfl, rfl⟩ 6 u6)
theorem Blk.b7 {w : World} {g : Nat} {e : TypeId} {x0 x1 x2 x3 x4 x5 x6 x7 x8 x9 x10 x11 x12 x13 : Value} (h : Blk w g e #[x0, x1, x2, x3, x4, x5, x6, x7, x8, x9, x10, x11, x12, x13]) (u0 u1 u2 u3 u4 u5 u6 : Value) :
    Blk (Ve.set7b w g u0 u1 u2 u3 u4 u5 u6) g e #[x0, x1, x2, x3, x4, x5, x6, u0, u1, u2, u3, u4, u5, u6] ∧ Tn (fun b t => b = g ∧ t = some e) w (Ve.set7b w g u0 u1 u2 u3 u4 u5 u6) := by
  have h0 := h.set 7 u0
  have h1 := h0.set 8 u1
  have h2 := h1.set 9 u2
  have h3 := h2.set 10 u3
  have h4 := h3.set 11 u4
  have h5 := h4.set 12 u5
  refine ⟨by simpa [Ve.set7b] using h5.set 13 u6, ?_⟩
  unfold Ve.set7b
  exact ((((((Tn.set h ⟨rfl, rfl⟩ 7 u0).trans (Tn.set h0 ⟨rfl, rfl⟩ 8 u1)).trans (Tn.set h1 ⟨rfl, rfl⟩ 9 u2)).trans (Tn.set h2 ⟨rfl, rfl⟩ 10 u3)).trans (Tn.set h3 ⟨rfl, rfl⟩ 11 u4)).trans (Tn.set h4 ⟨rfl, rfl⟩ 12 u5)).trans (Tn.set h5 ⟨rfl, rfl⟩ 13 u6)
/-- A round's end: the step is appended. -/
theorem StM.fin {w w4 w5 : World} {g1 g2 p : Nat} {rs ts : List Piece} {o : Value} {done : List (Option Piece × Option Piece)} {cs : List Value} (ty : TypeId) (st : Option Piece × Option Piece) (hg : Gr w w4) (h1 : W7 w w4 g1 (rs.map Piece.op)) (h2 : W7 w w4 g2 (ts.map Piece.op)) (c1 : Can rs) (c2 : Can ts)
    (ho : OwnStp w.heap.size w w4 o (done.map stpO)) (hne : g1 ≠ g2) (g10 : w.heap.size ≤ g1) (g20 : w.heap.size ≤ g2) (T : Tn (fun b t => b = p ∧ t = some 62) w4 w5) (hp : w.heap.size ≤ p) (hop : ∀ b, o.ownBlock = some b → b ≠ p) (hx : StpR w w5 (stpO st) cs) (hm : done.length + 1 ≤ 1073741824) :
    ∃ v' w', (Builtin.append_ #[56, 56] ty #[o, .slice (some ⟨w5.heap.size, 0, none⟩) 1 1]).run Tryz.prog (w5.alloc (.cells cs.toArray 62)) = .ok v' w' ∧ StM w g1 g2 rs ts v' (done ++ [st]) w' ∧ slLen v' = done.length + 1 := by
  have ho5 : OwnStp w.heap.size w w5 o (done.map stpO) := OwnL.tn ho (fun _ _ h => StpR.tn h T (fun b h => absurd (Option.some.inj h.2) (by decide))) T (fun b hb h => hop b hb h.1)
  have hgw5 : Gr w w5 := Gr.tn hg T (fun b t h => h.1 ▸ hp)
  obtain ⟨v', w', hr, ho', T6, -⟩ := push_stp w w5 w.heap.size ty ho5 hx (by rw [List.length_map]; exact hm) hgw5.size
  refine ⟨v', w', hr, ⟨Gr.tn hgw5 T6 (fun b t h => (OwnL.lt_ ho5 b h.1).1), ?_, ?_, c1, c2, by rw [List.map_append]; exact ho', hne, g10, g20⟩, ?_⟩
  · exact (h1.tn T (fun b h => absurd (Option.some.inj h.2) (by decide)) (fun b h => absurd (Option.some.inj h.2) (by decide)) (fun h => absurd (Option.some.inj h.2) (by decide))).tn T6 (fun b h => absurd (Option.some.inj h.2) (by decide)) (fun b h => absurd (Option.some.inj h.2) (by decide)) (fun h => absurd (Option.some.inj h.2) (by decide))
  · exact (h2.tn T (fun b h => absurd (Option.some.inj h.2) (by decide)) (fun b h => absurd (Option.some.inj h.2) (by decide)) (fun h => absurd (Option.some.inj h.2) (by decide))).tn T6 (fun b h => absurd (Option.some.inj h.2) (by decide)) (fun b h => absurd (Option.some.inj h.2) (by decide)) (fun h => absurd (Option.some.inj h.2) (by decide))
  · obtain ⟨a, m, c, rfl, -, -, hm'⟩ := ho'.sl
    have := hm'.out
    rw [List.length_append, List.length_map, List.length_singleton] at this
    exact this.symm
theorem opsl {w0 w : World} {s : Value} {a : List Attr} (h : RdAttrs w0 s a ∨ OwnA w s a) : ∃ x1 x2 x3, s = .slice x1 x2 x3 := by
  rcases h with h | h
  · obtain ⟨a, m, c, rfl, -⟩ := RdList.sl h
    exact ⟨_, _, _, rfl⟩
  · obtain ⟨a, m, c, rfl, -⟩ := h.1.sl
    exact ⟨_, _, _, rfl⟩
theorem OpS.zero (w0 w : World) : OpS w0 w zeroO [.int .i64 0, .string ⟨#[]⟩, .int .i64 0, .int .i64 0, .string ⟨#[]⟩, .int .i64 0, .slice none 0 0] := ⟨.slice none 0 0, rfl, .inl (RdList.nil ..), Nat.zero_le _, Nat.zero_le _⟩
theorem stp_dest (p : Piece) : ∃ k t va vb vt c a, p.op = ⟨k, t, ⟨va, vb, vt⟩, c, a⟩ := ⟨_, _, _, _, _, _, _, rfl⟩
set_option maxRecDepth 20000 in
set_option maxHeartbeats 8000000 in
theorem steps07_any (ps qs : List Piece) (va vb : Value) (w : World) (hp : Can ps) (hq : Can qs) (ha : RdOps w va (ps.map Piece.op)) (hb : RdOps w vb (qs.map Piece.op)) (hN : ps.length + qs.length ≤ 1000000) :
    Calls Tryz.prog 31 #[va, vb] w fun e w' => ∃ v', e = .returned v' ∧ OwnStp w.heap.size w w' v' ((stepsP (ps.length + qs.length) ps qs).map stpO) ∧ Gr w w' := by
  obtain ⟨aa, na, ca, rfl, -⟩ := ha.sl
  obtain ⟨ab, nb, cb, rfl, -⟩ := hb.sl
  obtain ⟨NN, hNN⟩ : ∃ NN, ps.length + qs.length = NN := ⟨_, rfl⟩
  rw [hNN] at hN ⊢
  go_enter Tryz.func31, Tryz.ntmps31
  go_wp2
  have hst := OwnL.made w (StpR w) 14 w.heap.size 62 (Nat.le_refl _)
  have hB1 := Blk.new (w.alloc (.cells #[] 62)) 33 #[.slice aa na ca]
  have hB2 := Blk.new ((w.alloc (.cells #[] 62)).alloc (.cells #[.slice aa na ca] 33)) 33 #[.slice ab nb cb]
  simp only [World.size_alloc] at hB1 hB2
  obtain ⟨g1, hg1⟩ : ∃ g1, w.heap.size + 1 = g1 := ⟨_, rfl⟩
  obtain ⟨g2, hg2⟩ : ∃ g2, g1 + 1 = g2 := ⟨_, rfl⟩
  obtain ⟨W0, hW0⟩ : ∃ W0, ((w.alloc (.cells #[] 62)).alloc (.cells #[.slice aa na ca] 33)).alloc (.cells #[.slice ab nb cb] 33) = W0 := ⟨_, rfl⟩
  rw [hg1] at hB1 hB2 ⊢
  rw [hg2] at hB2 ⊢
  have hS0 : StM w g1 g2 ps qs (.slice (some ⟨w.heap.size, 0, none⟩) 0 0) [] W0 := by
    subst hW0
    exact ⟨(by repeat (with_reducible first | assumption | exact Gr.refl _ | apply Gr.alloc | apply Gr.drewN | apply Gr.drew | apply Gr.iter | (refine Gr.setCell ?_ (by simp) _) | (refine Gr.trans ?_ (by assumption)))), ⟨_, hB1.alloc _, .inl ha⟩, ⟨_, hB2, .inl hb⟩, hp, hq, hst.gr (fun _ _ h => StpR.gr h (by repeat (with_reducible first | assumption | exact Gr.refl _ | apply Gr.alloc | apply Gr.drewN | apply Gr.drew | apply Gr.iter | (refine Gr.setCell ?_ (by simp) _) | (refine Gr.trans ?_ (by assumption))))) (by repeat (with_reducible first | assumption | exact Gr.refl _ | apply Gr.alloc | apply Gr.drewN | apply Gr.drew | apply Gr.iter | (refine Gr.setCell ?_ (by simp) _) | (refine Gr.trans ?_ (by assumption)))), by omega, by omega, by omega⟩
  rw [hW0]
  clear hW0 hB1 hB2 hst
  go_loopw [5] (fun ov wr => ∃ (rs ts : List Piece) (done : List (Option Piece × Option Piece)), StM w g1 g2 rs ts ov done wr ∧ rs.length + ts.length ≤ NN - done.length ∧ done.length ≤ NN ∧ stepsP NN ps qs = done ++ stepsP (NN - done.length) rs ts) (fun ov _ => NN - slLen ov)
  case atStart => exact ⟨ps, qs, [], hS0, by simp; omega, by simp, by simp⟩
  case round =>
    obtain ⟨rs, ts, done, hS, hlen, hle, hst⟩ := hrel
    obtain ⟨s1, hB1, hL1⟩ := id hS.one
    obtain ⟨s2, hB2, hL2⟩ := id hS.two
    obtain ⟨a1, n1, c1, rfl, -, -, -, hn1⟩ := (hL1.ops hS.gr).sl
    obtain ⟨a2, n2, c2, rfl, -, -, -, hn2⟩ := (hL2.ops hS.gr).sl
    have hn1' : n1 = rs.length := by have := hn1.out; rw [List.length_map] at this; exact this.symm
    have hn2' : n2 = ts.length := by have := hn2.out; rw [List.length_map] at this; exact this.symm
    have b1 := hB1.cell; have b2 := hB2.cell
    by_cases he : rs = [] ∧ ts = []
    · obtain ⟨rfl, rfl⟩ := he
      obtain rfl : n1 = 0 := hn1'
      obtain rfl : n2 = 0 := hn2'
      have HST := Lib.hid hst; clear hst
      go_wp2
      go_ret
      refine ⟨_, rfl, ?_, hS.gr⟩
      rw [HST.out, show stepsP (NN - done.length) [] [] = [] by cases NN - done.length <;> simp [stepsP], List.append_nil]
      exact hS.own
    · have hpos : 0 < rs.length + ts.length := by
        cases rs with
        | nil => cases ts with
          | nil => simp at he
          | cons q r => simp
        | cons p r => simp; omega
      obtain ⟨m, hm⟩ : ∃ m, NN - done.length = m + 1 := ⟨NN - done.length - 1, by omega⟩
      rw [hm] at hst hlen
      simp only [stepsP] at hst
      rw [if_neg he] at hst
      have hslen := step_len hS.c1 hS.c2 he
      obtain ⟨k1, k2⟩ := step_can hS.c1 hS.c2
      have HST := Lib.hid hst; clear hst
      have hKA := kind_ops rs; have hKB := kind_ops ts
      have hLA := left_ops hS.c1.ok; have hLB := left_ops hS.c2.ok
      obtain ⟨KA, hKA'⟩ : ∃ KA, kindP rs = KA := ⟨_, rfl⟩
      obtain ⟨KB, hKB'⟩ : ∃ KB, kindP ts = KB := ⟨_, rfl⟩
      obtain ⟨LA, hLA'⟩ : ∃ LA, leftP rs = LA := ⟨_, rfl⟩
      obtain ⟨LB, hLB'⟩ : ∃ LB, leftP ts = LB := ⟨_, rfl⟩
      have hl1 := hS.c1.left; have hl2 := hS.c2.left
      rw [hLA'] at hl1 hLA; rw [hLB'] at hl2 hLB; rw [hKA'] at hKA; rw [hKB'] at hKB
      have HKL := Lib.hid (And.intro (And.intro hKA hKB) (And.intro hLA hLB)); clear hKA hKB hLA hLB
      obtain ⟨p, hpz⟩ : ∃ p, wr.heap.size = p := ⟨_, rfl⟩
      have hwp : w.heap.size ≤ p := hpz ▸ hS.gr.size
      have hop : ∀ b, u5.ownBlock = some b → b ≠ p := fun b hb => by have := (OwnL.lt_ hS.own b hb).2; omega
      have hb1z := hB1.lt; have hb2z := hB2.lt
      have hp1 : g1 ≠ p := by omega
      have hp2 : g2 ≠ p := by omega
      have hdl : done.length + 1 ≤ 1073741824 := by omega
      have hor1 : n1 = 0 ∧ 0 < n2 ∨ 0 < n1 := by omega
      by_cases hk2 : KB = 1 ∨ KB = 2
      · have hSP := stepP_ins (ps := rs) (qs := ts) (by rw [hKB']; exact hk2)
        rw [hSP] at hslen k1 k2 HST
        rw [hLB'] at hslen k2 HST
        dsimp only at hslen k1 k2 HST
        obtain ⟨X, hX⟩ : ∃ X, nextP ts LB = X := ⟨_, rfl⟩
        rw [hX] at hslen k2 HST
        obtain ⟨q, ts'⟩ := X
        dsimp only at hslen k2 HST
        obtain ⟨ok, ot, ova, ovb, ovt, oc, oats, hop'⟩ := stp_dest q
        have HX := Lib.hid hX; have HOP := Lib.hid hop'; have HKB := Lib.hid hKB'; have HKA := Lib.hid hKA'
        have hL1' : 1 ≤ LB := hl2.1
        have HL := Lib.hid (And.intro hLA' hLB'); clear hX hop' hKA' hKB' hLA' hLB' hSP
        clear hn1' hn2' hl1 hl2 
        rcases hor1 with ⟨rfl, h2⟩ | h1
        · have h2' : (0 : Int) < n2 := by omega
          rcases hk2 with rfl | rfl
          · go_wp2_with (first
                         | (go_at_call 27; have _h := hgk1; refine (kind07_any g2 _ _ (Wk7.gr (w := wr) (W7.wk hS.two hS.gr) (by repeat (with_reducible first | assumption | exact Gr.refl _ | apply Gr.alloc | apply Gr.drewN | apply Gr.drew | apply Gr.iter | (refine Gr.setCell ?_ (by simp) _) | (refine Gr.trans ?_ (by assumption)))))).mono ?_; rw [HKL.out.1.2]; rintro e w2 ⟨rfl, hgk2⟩)
                         | (go_at_call 27; rename_i K5 hK5 K4 hK4 K3 hK3; have HK5 := Lib.hid hK5; clear hK5; obtain ⟨W, hWq, B0, hgW⟩ := blkOne wr 62 #[.int .i64 0, .string ⟨#[]⟩, .int .i64 0, .int .i64 0, .string ⟨#[]⟩, .int .i64 0, .slice none 0 0, .int .i64 0, .string ⟨#[]⟩, .int .i64 0, .int .i64 0, .string ⟨#[]⟩, .int .i64 0, .slice none 0 0]; rw [hWq]; (try rw [hpz]); rw [hpz] at B0; have HWq := Lib.hid hWq; clear hWq; refine (kind07_any g2 _ _ (Wk7.gr (w := wr) (W7.wk hS.two hS.gr) (by repeat (with_reducible first | assumption | exact Gr.refl _ | apply Gr.alloc | apply Gr.drewN | apply Gr.drew | apply Gr.iter | (refine Gr.setCell ?_ (by simp) _) | (refine Gr.trans ?_ (by assumption)))))).mono ?_; rw [HKL.out.1.2]; rintro e w1 ⟨rfl, hgk1⟩)
                         | (go_at_call 29; refine (left07_any g2 _ _ (Wk7.gr (w := wr) (W7.wk hS.two hS.gr) (by repeat (with_reducible first | assumption | exact Gr.refl _ | apply Gr.alloc | apply Gr.drewN | apply Gr.drew | apply Gr.iter | (refine Gr.setCell ?_ (by simp) _) | (refine Gr.trans ?_ (by assumption))))) hS.c2.ok.ops).mono ?_; rw [HKL.out.2.2]; rintro e w3 ⟨rfl, hg3⟩)
                         | (go_at_call 20; refine (next07_own w g2 LB _ ts hL1' (W7.gr (w := wr) hS.two (by repeat (with_reducible first | assumption | exact Gr.refl _ | apply Gr.alloc | apply Gr.drewN | apply Gr.drew | apply Gr.iter | (refine Gr.setCell ?_ (by simp) _) | (refine Gr.trans ?_ (by assumption))))) (Gr.trans hS.gr (by repeat (with_reducible first | assumption | exact Gr.refl _ | apply Gr.alloc | apply Gr.drewN | apply Gr.drew | apply Gr.iter | (refine Gr.setCell ?_ (by simp) _) | (refine Gr.trans ?_ (by assumption))))) hS.c2 hS.g20).mono ?_; rw [HX.out, HOP.out]; rintro e w4 ⟨s4, rfl, ha4, sz1, sz2, hW4, hT4⟩; obtain ⟨x1, x2, x3, rfl⟩ := opsl ha4; dsimp only [opV]; have B4 := Blk.tn (B0.gr (w' := w3) (by repeat (with_reducible first | assumption | exact Gr.refl _ | apply Gr.alloc | apply Gr.drewN | apply Gr.drew | apply Gr.iter | (refine Gr.setCell ?_ (by simp) _) | (refine Gr.trans ?_ (by assumption))))) hT4 (fun h => hp2 h.1.symm); have c4 := B4.cell; have f4 := B4.frozen; have z4 := B4.lt; obtain ⟨D4, T5⟩ := B4.b7 (.int .i64 ok) (.string ot) (.int .i64 ova) (.int .i64 ovb) (.string ovt) (.int .i64 oc) (.slice x1 x2 x3); obtain ⟨w5, hw5⟩ : ∃ w5, Ve.set7b w4 p (.int .i64 ok) (.string ot) (.int .i64 ova) (.int .i64 ovb) (.string ovt) (.int .i64 oc) (.slice x1 x2 x3) = w5 := ⟨_, rfl⟩; rw [hw5] at D4 T5; unfold Ve.set7b at hw5; have HW5 := Lib.hid hw5; clear hw5; have hgw4 : Gr w w4 := Gr.tn (w := w3) (Gr.trans hS.gr (by repeat (with_reducible first | assumption | exact Gr.refl _ | apply Gr.alloc | apply Gr.drewN | apply Gr.drew | apply Gr.iter | (refine Gr.setCell ?_ (by simp) _) | (refine Gr.trans ?_ (by assumption))))) hT4 (fun b t h => h.1 ▸ hS.g20); have HFIN := Lib.hid (StM.fin 56 (none, some q) hgw4 (W7.far (w := w3) (W7.gr (w := wr) hS.one (by repeat (with_reducible first | assumption | exact Gr.refl _ | apply Gr.alloc | apply Gr.drewN | apply Gr.drew | apply Gr.iter | (refine Gr.setCell ?_ (by simp) _) | (refine Gr.trans ?_ (by assumption))))) hT4 hS.ne) hW4 hS.c1 k2 (OwnL.tn (w := w3) (OwnL.gr (w := wr) hS.own (fun _ _ h => StpR.gr h (by repeat (with_reducible first | assumption | exact Gr.refl _ | apply Gr.alloc | apply Gr.drewN | apply Gr.drew | apply Gr.iter | (refine Gr.setCell ?_ (by simp) _) | (refine Gr.trans ?_ (by assumption))))) (by repeat (with_reducible first | assumption | exact Gr.refl _ | apply Gr.alloc | apply Gr.drewN | apply Gr.drew | apply Gr.iter | (refine Gr.setCell ?_ (by simp) _) | (refine Gr.trans ?_ (by assumption))))) (fun _ _ h => StpR.tn h hT4 (fun b h => absurd (Option.some.inj h.2) (by decide))) hT4 (fun b _ h => absurd (Option.some.inj h.2) (by decide))) hS.ne hS.g10 hS.g20 T5 hwp hop (cs := [.int .i64 0, .string ⟨#[]⟩, .int .i64 0, .int .i64 0, .string ⟨#[]⟩, .int .i64 0, .slice none 0 0, .int .i64 ok, .string ot, .int .i64 ova, .int .i64 ovb, .string ovt, .int .i64 oc, .slice x1 x2 x3]) ⟨_, _, rfl, OpS.zero w _, by show OpS w _ q.op _; rw [HOP.out]; exact OpS.tn ⟨_, rfl, ha4, sz1, sz2⟩ T5 (fun b h => absurd (Option.some.inj h.2) (by decide))⟩ hdl); have HD4 := Lib.hid D4; clear T5 D4 hT4 hW4 ha4))
            rw [HW5.out]
            refine HK5.out _ _ ?_
            obtain ⟨v6, w6, r6, S6, l6⟩ := HFIN.out
            have D5 := HD4.out
            have c5 := D5.cell
            have HP := Lib.hid (And.intro r6 (And.intro S6 l6))
            clear r6 S6 l6 HFIN HD4 HK5 HW5
            go_wp2_with (at_builtin; refine wpList_run rfl _ _ _ rfl rfl rfl HP.out.1 ?_)
            go_roundw
            case rel => exact ⟨rs, ts', done ++ [(none, some q)], HP.out.2.1, by rw [List.length_append, List.length_singleton]; omega, by rw [List.length_append, List.length_singleton]; omega, by rw [HST.out, List.length_append, List.length_singleton, show NN - (done.length + 1) = m by omega, List.append_assoc, List.singleton_append]⟩
            case measure => have h6 := HP.out.2.2; have h5 := hS.len; simp; omega
          · go_wp2_with (first
                         | (go_at_call 27; have _h := hgk1; refine (kind07_any g2 _ _ (Wk7.gr (w := wr) (W7.wk hS.two hS.gr) (by repeat (with_reducible first | assumption | exact Gr.refl _ | apply Gr.alloc | apply Gr.drewN | apply Gr.drew | apply Gr.iter | (refine Gr.setCell ?_ (by simp) _) | (refine Gr.trans ?_ (by assumption)))))).mono ?_; rw [HKL.out.1.2]; rintro e w2 ⟨rfl, hgk2⟩)
                         | (go_at_call 27; rename_i K5 hK5 K4 hK4 K3 hK3; have HK5 := Lib.hid hK5; clear hK5; obtain ⟨W, hWq, B0, hgW⟩ := blkOne wr 62 #[.int .i64 0, .string ⟨#[]⟩, .int .i64 0, .int .i64 0, .string ⟨#[]⟩, .int .i64 0, .slice none 0 0, .int .i64 0, .string ⟨#[]⟩, .int .i64 0, .int .i64 0, .string ⟨#[]⟩, .int .i64 0, .slice none 0 0]; rw [hWq]; (try rw [hpz]); rw [hpz] at B0; have HWq := Lib.hid hWq; clear hWq; refine (kind07_any g2 _ _ (Wk7.gr (w := wr) (W7.wk hS.two hS.gr) (by repeat (with_reducible first | assumption | exact Gr.refl _ | apply Gr.alloc | apply Gr.drewN | apply Gr.drew | apply Gr.iter | (refine Gr.setCell ?_ (by simp) _) | (refine Gr.trans ?_ (by assumption)))))).mono ?_; rw [HKL.out.1.2]; rintro e w1 ⟨rfl, hgk1⟩)
                         | (go_at_call 29; refine (left07_any g2 _ _ (Wk7.gr (w := wr) (W7.wk hS.two hS.gr) (by repeat (with_reducible first | assumption | exact Gr.refl _ | apply Gr.alloc | apply Gr.drewN | apply Gr.drew | apply Gr.iter | (refine Gr.setCell ?_ (by simp) _) | (refine Gr.trans ?_ (by assumption))))) hS.c2.ok.ops).mono ?_; rw [HKL.out.2.2]; rintro e w3 ⟨rfl, hg3⟩)
                         | (go_at_call 20; refine (next07_own w g2 LB _ ts hL1' (W7.gr (w := wr) hS.two (by repeat (with_reducible first | assumption | exact Gr.refl _ | apply Gr.alloc | apply Gr.drewN | apply Gr.drew | apply Gr.iter | (refine Gr.setCell ?_ (by simp) _) | (refine Gr.trans ?_ (by assumption))))) (Gr.trans hS.gr (by repeat (with_reducible first | assumption | exact Gr.refl _ | apply Gr.alloc | apply Gr.drewN | apply Gr.drew | apply Gr.iter | (refine Gr.setCell ?_ (by simp) _) | (refine Gr.trans ?_ (by assumption))))) hS.c2 hS.g20).mono ?_; rw [HX.out, HOP.out]; rintro e w4 ⟨s4, rfl, ha4, sz1, sz2, hW4, hT4⟩; obtain ⟨x1, x2, x3, rfl⟩ := opsl ha4; dsimp only [opV]; have B4 := Blk.tn (B0.gr (w' := w3) (by repeat (with_reducible first | assumption | exact Gr.refl _ | apply Gr.alloc | apply Gr.drewN | apply Gr.drew | apply Gr.iter | (refine Gr.setCell ?_ (by simp) _) | (refine Gr.trans ?_ (by assumption))))) hT4 (fun h => hp2 h.1.symm); have c4 := B4.cell; have f4 := B4.frozen; have z4 := B4.lt; obtain ⟨D4, T5⟩ := B4.b7 (.int .i64 ok) (.string ot) (.int .i64 ova) (.int .i64 ovb) (.string ovt) (.int .i64 oc) (.slice x1 x2 x3); obtain ⟨w5, hw5⟩ : ∃ w5, Ve.set7b w4 p (.int .i64 ok) (.string ot) (.int .i64 ova) (.int .i64 ovb) (.string ovt) (.int .i64 oc) (.slice x1 x2 x3) = w5 := ⟨_, rfl⟩; rw [hw5] at D4 T5; unfold Ve.set7b at hw5; have HW5 := Lib.hid hw5; clear hw5; have hgw4 : Gr w w4 := Gr.tn (w := w3) (Gr.trans hS.gr (by repeat (with_reducible first | assumption | exact Gr.refl _ | apply Gr.alloc | apply Gr.drewN | apply Gr.drew | apply Gr.iter | (refine Gr.setCell ?_ (by simp) _) | (refine Gr.trans ?_ (by assumption))))) hT4 (fun b t h => h.1 ▸ hS.g20); have HFIN := Lib.hid (StM.fin 56 (none, some q) hgw4 (W7.far (w := w3) (W7.gr (w := wr) hS.one (by repeat (with_reducible first | assumption | exact Gr.refl _ | apply Gr.alloc | apply Gr.drewN | apply Gr.drew | apply Gr.iter | (refine Gr.setCell ?_ (by simp) _) | (refine Gr.trans ?_ (by assumption))))) hT4 hS.ne) hW4 hS.c1 k2 (OwnL.tn (w := w3) (OwnL.gr (w := wr) hS.own (fun _ _ h => StpR.gr h (by repeat (with_reducible first | assumption | exact Gr.refl _ | apply Gr.alloc | apply Gr.drewN | apply Gr.drew | apply Gr.iter | (refine Gr.setCell ?_ (by simp) _) | (refine Gr.trans ?_ (by assumption))))) (by repeat (with_reducible first | assumption | exact Gr.refl _ | apply Gr.alloc | apply Gr.drewN | apply Gr.drew | apply Gr.iter | (refine Gr.setCell ?_ (by simp) _) | (refine Gr.trans ?_ (by assumption))))) (fun _ _ h => StpR.tn h hT4 (fun b h => absurd (Option.some.inj h.2) (by decide))) hT4 (fun b _ h => absurd (Option.some.inj h.2) (by decide))) hS.ne hS.g10 hS.g20 T5 hwp hop (cs := [.int .i64 0, .string ⟨#[]⟩, .int .i64 0, .int .i64 0, .string ⟨#[]⟩, .int .i64 0, .slice none 0 0, .int .i64 ok, .string ot, .int .i64 ova, .int .i64 ovb, .string ovt, .int .i64 oc, .slice x1 x2 x3]) ⟨_, _, rfl, OpS.zero w _, by show OpS w _ q.op _; rw [HOP.out]; exact OpS.tn ⟨_, rfl, ha4, sz1, sz2⟩ T5 (fun b h => absurd (Option.some.inj h.2) (by decide))⟩ hdl); have HD4 := Lib.hid D4; clear T5 D4 hT4 hW4 ha4))
            rw [HW5.out]
            refine HK5.out _ _ ?_
            obtain ⟨v6, w6, r6, S6, l6⟩ := HFIN.out
            have D5 := HD4.out
            have c5 := D5.cell
            have HP := Lib.hid (And.intro r6 (And.intro S6 l6))
            clear r6 S6 l6 HFIN HD4 HK5 HW5
            go_wp2_with (at_builtin; refine wpList_run rfl _ _ _ rfl rfl rfl HP.out.1 ?_)
            go_roundw
            case rel => exact ⟨rs, ts', done ++ [(none, some q)], HP.out.2.1, by rw [List.length_append, List.length_singleton]; omega, by rw [List.length_append, List.length_singleton]; omega, by rw [HST.out, List.length_append, List.length_singleton, show NN - (done.length + 1) = m by omega, List.append_assoc, List.singleton_append]⟩
            case measure => have h6 := HP.out.2.2; have h5 := hS.len; simp; omega
        · have h1' : (0 : Int) < n1 := by omega
          rcases hk2 with rfl | rfl
          · go_wp2_with (first
                         | (go_at_call 27; have _h := hgk1; refine (kind07_any g2 _ _ (Wk7.gr (w := wr) (W7.wk hS.two hS.gr) (by repeat (with_reducible first | assumption | exact Gr.refl _ | apply Gr.alloc | apply Gr.drewN | apply Gr.drew | apply Gr.iter | (refine Gr.setCell ?_ (by simp) _) | (refine Gr.trans ?_ (by assumption)))))).mono ?_; rw [HKL.out.1.2]; rintro e w2 ⟨rfl, hgk2⟩)
                         | (go_at_call 27; rename_i K5 hK5 K4 hK4 K3 hK3; have HK5 := Lib.hid hK5; clear hK5; obtain ⟨W, hWq, B0, hgW⟩ := blkOne wr 62 #[.int .i64 0, .string ⟨#[]⟩, .int .i64 0, .int .i64 0, .string ⟨#[]⟩, .int .i64 0, .slice none 0 0, .int .i64 0, .string ⟨#[]⟩, .int .i64 0, .int .i64 0, .string ⟨#[]⟩, .int .i64 0, .slice none 0 0]; rw [hWq]; (try rw [hpz]); rw [hpz] at B0; have HWq := Lib.hid hWq; clear hWq; refine (kind07_any g2 _ _ (Wk7.gr (w := wr) (W7.wk hS.two hS.gr) (by repeat (with_reducible first | assumption | exact Gr.refl _ | apply Gr.alloc | apply Gr.drewN | apply Gr.drew | apply Gr.iter | (refine Gr.setCell ?_ (by simp) _) | (refine Gr.trans ?_ (by assumption)))))).mono ?_; rw [HKL.out.1.2]; rintro e w1 ⟨rfl, hgk1⟩)
                         | (go_at_call 29; refine (left07_any g2 _ _ (Wk7.gr (w := wr) (W7.wk hS.two hS.gr) (by repeat (with_reducible first | assumption | exact Gr.refl _ | apply Gr.alloc | apply Gr.drewN | apply Gr.drew | apply Gr.iter | (refine Gr.setCell ?_ (by simp) _) | (refine Gr.trans ?_ (by assumption))))) hS.c2.ok.ops).mono ?_; rw [HKL.out.2.2]; rintro e w3 ⟨rfl, hg3⟩)
                         | (go_at_call 20; refine (next07_own w g2 LB _ ts hL1' (W7.gr (w := wr) hS.two (by repeat (with_reducible first | assumption | exact Gr.refl _ | apply Gr.alloc | apply Gr.drewN | apply Gr.drew | apply Gr.iter | (refine Gr.setCell ?_ (by simp) _) | (refine Gr.trans ?_ (by assumption))))) (Gr.trans hS.gr (by repeat (with_reducible first | assumption | exact Gr.refl _ | apply Gr.alloc | apply Gr.drewN | apply Gr.drew | apply Gr.iter | (refine Gr.setCell ?_ (by simp) _) | (refine Gr.trans ?_ (by assumption))))) hS.c2 hS.g20).mono ?_; rw [HX.out, HOP.out]; rintro e w4 ⟨s4, rfl, ha4, sz1, sz2, hW4, hT4⟩; obtain ⟨x1, x2, x3, rfl⟩ := opsl ha4; dsimp only [opV]; have B4 := Blk.tn (B0.gr (w' := w3) (by repeat (with_reducible first | assumption | exact Gr.refl _ | apply Gr.alloc | apply Gr.drewN | apply Gr.drew | apply Gr.iter | (refine Gr.setCell ?_ (by simp) _) | (refine Gr.trans ?_ (by assumption))))) hT4 (fun h => hp2 h.1.symm); have c4 := B4.cell; have f4 := B4.frozen; have z4 := B4.lt; obtain ⟨D4, T5⟩ := B4.b7 (.int .i64 ok) (.string ot) (.int .i64 ova) (.int .i64 ovb) (.string ovt) (.int .i64 oc) (.slice x1 x2 x3); obtain ⟨w5, hw5⟩ : ∃ w5, Ve.set7b w4 p (.int .i64 ok) (.string ot) (.int .i64 ova) (.int .i64 ovb) (.string ovt) (.int .i64 oc) (.slice x1 x2 x3) = w5 := ⟨_, rfl⟩; rw [hw5] at D4 T5; unfold Ve.set7b at hw5; have HW5 := Lib.hid hw5; clear hw5; have hgw4 : Gr w w4 := Gr.tn (w := w3) (Gr.trans hS.gr (by repeat (with_reducible first | assumption | exact Gr.refl _ | apply Gr.alloc | apply Gr.drewN | apply Gr.drew | apply Gr.iter | (refine Gr.setCell ?_ (by simp) _) | (refine Gr.trans ?_ (by assumption))))) hT4 (fun b t h => h.1 ▸ hS.g20); have HFIN := Lib.hid (StM.fin 56 (none, some q) hgw4 (W7.far (w := w3) (W7.gr (w := wr) hS.one (by repeat (with_reducible first | assumption | exact Gr.refl _ | apply Gr.alloc | apply Gr.drewN | apply Gr.drew | apply Gr.iter | (refine Gr.setCell ?_ (by simp) _) | (refine Gr.trans ?_ (by assumption))))) hT4 hS.ne) hW4 hS.c1 k2 (OwnL.tn (w := w3) (OwnL.gr (w := wr) hS.own (fun _ _ h => StpR.gr h (by repeat (with_reducible first | assumption | exact Gr.refl _ | apply Gr.alloc | apply Gr.drewN | apply Gr.drew | apply Gr.iter | (refine Gr.setCell ?_ (by simp) _) | (refine Gr.trans ?_ (by assumption))))) (by repeat (with_reducible first | assumption | exact Gr.refl _ | apply Gr.alloc | apply Gr.drewN | apply Gr.drew | apply Gr.iter | (refine Gr.setCell ?_ (by simp) _) | (refine Gr.trans ?_ (by assumption))))) (fun _ _ h => StpR.tn h hT4 (fun b h => absurd (Option.some.inj h.2) (by decide))) hT4 (fun b _ h => absurd (Option.some.inj h.2) (by decide))) hS.ne hS.g10 hS.g20 T5 hwp hop (cs := [.int .i64 0, .string ⟨#[]⟩, .int .i64 0, .int .i64 0, .string ⟨#[]⟩, .int .i64 0, .slice none 0 0, .int .i64 ok, .string ot, .int .i64 ova, .int .i64 ovb, .string ovt, .int .i64 oc, .slice x1 x2 x3]) ⟨_, _, rfl, OpS.zero w _, by show OpS w _ q.op _; rw [HOP.out]; exact OpS.tn ⟨_, rfl, ha4, sz1, sz2⟩ T5 (fun b h => absurd (Option.some.inj h.2) (by decide))⟩ hdl); have HD4 := Lib.hid D4; clear T5 D4 hT4 hW4 ha4))
            rw [HW5.out]
            refine HK5.out _ _ ?_
            obtain ⟨v6, w6, r6, S6, l6⟩ := HFIN.out
            have D5 := HD4.out
            have c5 := D5.cell
            have HP := Lib.hid (And.intro r6 (And.intro S6 l6))
            clear r6 S6 l6 HFIN HD4 HK5 HW5
            go_wp2_with (at_builtin; refine wpList_run rfl _ _ _ rfl rfl rfl HP.out.1 ?_)
            go_roundw
            case rel => exact ⟨rs, ts', done ++ [(none, some q)], HP.out.2.1, by rw [List.length_append, List.length_singleton]; omega, by rw [List.length_append, List.length_singleton]; omega, by rw [HST.out, List.length_append, List.length_singleton, show NN - (done.length + 1) = m by omega, List.append_assoc, List.singleton_append]⟩
            case measure => have h6 := HP.out.2.2; have h5 := hS.len; simp; omega
          · go_wp2_with (first
                         | (go_at_call 27; have _h := hgk1; refine (kind07_any g2 _ _ (Wk7.gr (w := wr) (W7.wk hS.two hS.gr) (by repeat (with_reducible first | assumption | exact Gr.refl _ | apply Gr.alloc | apply Gr.drewN | apply Gr.drew | apply Gr.iter | (refine Gr.setCell ?_ (by simp) _) | (refine Gr.trans ?_ (by assumption)))))).mono ?_; rw [HKL.out.1.2]; rintro e w2 ⟨rfl, hgk2⟩)
                         | (go_at_call 27; rename_i K5 hK5 K4 hK4 K3 hK3; have HK5 := Lib.hid hK5; clear hK5; obtain ⟨W, hWq, B0, hgW⟩ := blkOne wr 62 #[.int .i64 0, .string ⟨#[]⟩, .int .i64 0, .int .i64 0, .string ⟨#[]⟩, .int .i64 0, .slice none 0 0, .int .i64 0, .string ⟨#[]⟩, .int .i64 0, .int .i64 0, .string ⟨#[]⟩, .int .i64 0, .slice none 0 0]; rw [hWq]; (try rw [hpz]); rw [hpz] at B0; have HWq := Lib.hid hWq; clear hWq; refine (kind07_any g2 _ _ (Wk7.gr (w := wr) (W7.wk hS.two hS.gr) (by repeat (with_reducible first | assumption | exact Gr.refl _ | apply Gr.alloc | apply Gr.drewN | apply Gr.drew | apply Gr.iter | (refine Gr.setCell ?_ (by simp) _) | (refine Gr.trans ?_ (by assumption)))))).mono ?_; rw [HKL.out.1.2]; rintro e w1 ⟨rfl, hgk1⟩)
                         | (go_at_call 29; refine (left07_any g2 _ _ (Wk7.gr (w := wr) (W7.wk hS.two hS.gr) (by repeat (with_reducible first | assumption | exact Gr.refl _ | apply Gr.alloc | apply Gr.drewN | apply Gr.drew | apply Gr.iter | (refine Gr.setCell ?_ (by simp) _) | (refine Gr.trans ?_ (by assumption))))) hS.c2.ok.ops).mono ?_; rw [HKL.out.2.2]; rintro e w3 ⟨rfl, hg3⟩)
                         | (go_at_call 20; refine (next07_own w g2 LB _ ts hL1' (W7.gr (w := wr) hS.two (by repeat (with_reducible first | assumption | exact Gr.refl _ | apply Gr.alloc | apply Gr.drewN | apply Gr.drew | apply Gr.iter | (refine Gr.setCell ?_ (by simp) _) | (refine Gr.trans ?_ (by assumption))))) (Gr.trans hS.gr (by repeat (with_reducible first | assumption | exact Gr.refl _ | apply Gr.alloc | apply Gr.drewN | apply Gr.drew | apply Gr.iter | (refine Gr.setCell ?_ (by simp) _) | (refine Gr.trans ?_ (by assumption))))) hS.c2 hS.g20).mono ?_; rw [HX.out, HOP.out]; rintro e w4 ⟨s4, rfl, ha4, sz1, sz2, hW4, hT4⟩; obtain ⟨x1, x2, x3, rfl⟩ := opsl ha4; dsimp only [opV]; have B4 := Blk.tn (B0.gr (w' := w3) (by repeat (with_reducible first | assumption | exact Gr.refl _ | apply Gr.alloc | apply Gr.drewN | apply Gr.drew | apply Gr.iter | (refine Gr.setCell ?_ (by simp) _) | (refine Gr.trans ?_ (by assumption))))) hT4 (fun h => hp2 h.1.symm); have c4 := B4.cell; have f4 := B4.frozen; have z4 := B4.lt; obtain ⟨D4, T5⟩ := B4.b7 (.int .i64 ok) (.string ot) (.int .i64 ova) (.int .i64 ovb) (.string ovt) (.int .i64 oc) (.slice x1 x2 x3); obtain ⟨w5, hw5⟩ : ∃ w5, Ve.set7b w4 p (.int .i64 ok) (.string ot) (.int .i64 ova) (.int .i64 ovb) (.string ovt) (.int .i64 oc) (.slice x1 x2 x3) = w5 := ⟨_, rfl⟩; rw [hw5] at D4 T5; unfold Ve.set7b at hw5; have HW5 := Lib.hid hw5; clear hw5; have hgw4 : Gr w w4 := Gr.tn (w := w3) (Gr.trans hS.gr (by repeat (with_reducible first | assumption | exact Gr.refl _ | apply Gr.alloc | apply Gr.drewN | apply Gr.drew | apply Gr.iter | (refine Gr.setCell ?_ (by simp) _) | (refine Gr.trans ?_ (by assumption))))) hT4 (fun b t h => h.1 ▸ hS.g20); have HFIN := Lib.hid (StM.fin 56 (none, some q) hgw4 (W7.far (w := w3) (W7.gr (w := wr) hS.one (by repeat (with_reducible first | assumption | exact Gr.refl _ | apply Gr.alloc | apply Gr.drewN | apply Gr.drew | apply Gr.iter | (refine Gr.setCell ?_ (by simp) _) | (refine Gr.trans ?_ (by assumption))))) hT4 hS.ne) hW4 hS.c1 k2 (OwnL.tn (w := w3) (OwnL.gr (w := wr) hS.own (fun _ _ h => StpR.gr h (by repeat (with_reducible first | assumption | exact Gr.refl _ | apply Gr.alloc | apply Gr.drewN | apply Gr.drew | apply Gr.iter | (refine Gr.setCell ?_ (by simp) _) | (refine Gr.trans ?_ (by assumption))))) (by repeat (with_reducible first | assumption | exact Gr.refl _ | apply Gr.alloc | apply Gr.drewN | apply Gr.drew | apply Gr.iter | (refine Gr.setCell ?_ (by simp) _) | (refine Gr.trans ?_ (by assumption))))) (fun _ _ h => StpR.tn h hT4 (fun b h => absurd (Option.some.inj h.2) (by decide))) hT4 (fun b _ h => absurd (Option.some.inj h.2) (by decide))) hS.ne hS.g10 hS.g20 T5 hwp hop (cs := [.int .i64 0, .string ⟨#[]⟩, .int .i64 0, .int .i64 0, .string ⟨#[]⟩, .int .i64 0, .slice none 0 0, .int .i64 ok, .string ot, .int .i64 ova, .int .i64 ovb, .string ovt, .int .i64 oc, .slice x1 x2 x3]) ⟨_, _, rfl, OpS.zero w _, by show OpS w _ q.op _; rw [HOP.out]; exact OpS.tn ⟨_, rfl, ha4, sz1, sz2⟩ T5 (fun b h => absurd (Option.some.inj h.2) (by decide))⟩ hdl); have HD4 := Lib.hid D4; clear T5 D4 hT4 hW4 ha4))
            rw [HW5.out]
            refine HK5.out _ _ ?_
            obtain ⟨v6, w6, r6, S6, l6⟩ := HFIN.out
            have D5 := HD4.out
            have c5 := D5.cell
            have HP := Lib.hid (And.intro r6 (And.intro S6 l6))
            clear r6 S6 l6 HFIN HD4 HK5 HW5
            go_wp2_with (at_builtin; refine wpList_run rfl _ _ _ rfl rfl rfl HP.out.1 ?_)
            go_roundw
            case rel => exact ⟨rs, ts', done ++ [(none, some q)], HP.out.2.1, by rw [List.length_append, List.length_singleton]; omega, by rw [List.length_append, List.length_singleton]; omega, by rw [HST.out, List.length_append, List.length_singleton, show NN - (done.length + 1) = m by omega, List.append_assoc, List.singleton_append]⟩
            case measure => have h6 := HP.out.2.2; have h5 := hS.len; simp; omega
      · have hkb1 : (KB == 1) = false := by simp; omega
        have hkb2 : (KB == 2) = false := by simp; omega
        by_cases hk4 : KA = 4
        · have hSP := stepP_del (ps := rs) (qs := ts) (by rw [hKB']; exact hk2) (by rw [hKA']; exact hk4)
          rw [hSP] at hslen k1 k2 HST
          rw [hLA'] at hslen k1 HST
          dsimp only at hslen k1 k2 HST
          obtain ⟨X, hX⟩ : ∃ X, nextP rs LA = X := ⟨_, rfl⟩
          rw [hX] at hslen k1 HST
          obtain ⟨q, rs'⟩ := X
          dsimp only at hslen k1 HST
          obtain ⟨ok, ot, ova, ovb, ovt, oc, oats, hop'⟩ := stp_dest q
          have HX := Lib.hid hX; have HOP := Lib.hid hop'; have HKB := Lib.hid hKB'; have HKA := Lib.hid hKA'
          have hL1' : 1 ≤ LA := hl1.1
          have HL := Lib.hid (And.intro hLA' hLB'); clear hX hop' hKA' hKB' hLA' hLB' hSP
          clear hn1' hn2' hl1 hl2
          subst hk4
          rcases hor1 with ⟨rfl, h2⟩ | h1
          · have h2' : (0 : Int) < n2 := by omega
            go_wp2_with (first
                         | (go_at_call 27; have _h := hgk2; refine (kind07_any g1 _ _ (Wk7.gr (w := wr) (W7.wk hS.one hS.gr) (by repeat (with_reducible first | assumption | exact Gr.refl _ | apply Gr.alloc | apply Gr.drewN | apply Gr.drew | apply Gr.iter | (refine Gr.setCell ?_ (by simp) _) | (refine Gr.trans ?_ (by assumption)))))).mono ?_; rw [HKL.out.1.1]; rintro e wk ⟨rfl, hgk3⟩)
                         | (go_at_call 27; have _h := hgk1; refine (kind07_any g2 _ _ (Wk7.gr (w := wr) (W7.wk hS.two hS.gr) (by repeat (with_reducible first | assumption | exact Gr.refl _ | apply Gr.alloc | apply Gr.drewN | apply Gr.drew | apply Gr.iter | (refine Gr.setCell ?_ (by simp) _) | (refine Gr.trans ?_ (by assumption)))))).mono ?_; rw [HKL.out.1.2]; rintro e w2 ⟨rfl, hgk2⟩)
                         | (go_at_call 27; rename_i K5 hK5 K4 hK4 K3 hK3; have HK5 := Lib.hid hK5; clear hK5; obtain ⟨W, hWq, B0, hgW⟩ := blkOne wr 62 #[.int .i64 0, .string ⟨#[]⟩, .int .i64 0, .int .i64 0, .string ⟨#[]⟩, .int .i64 0, .slice none 0 0, .int .i64 0, .string ⟨#[]⟩, .int .i64 0, .int .i64 0, .string ⟨#[]⟩, .int .i64 0, .slice none 0 0]; rw [hWq]; (try rw [hpz]); rw [hpz] at B0; have HWq := Lib.hid hWq; clear hWq; refine (kind07_any g2 _ _ (Wk7.gr (w := wr) (W7.wk hS.two hS.gr) (by repeat (with_reducible first | assumption | exact Gr.refl _ | apply Gr.alloc | apply Gr.drewN | apply Gr.drew | apply Gr.iter | (refine Gr.setCell ?_ (by simp) _) | (refine Gr.trans ?_ (by assumption)))))).mono ?_; rw [HKL.out.1.2]; rintro e w1 ⟨rfl, hgk1⟩)
                         | (go_at_call 29; refine (left07_any g1 _ _ (Wk7.gr (w := wr) (W7.wk hS.one hS.gr) (by repeat (with_reducible first | assumption | exact Gr.refl _ | apply Gr.alloc | apply Gr.drewN | apply Gr.drew | apply Gr.iter | (refine Gr.setCell ?_ (by simp) _) | (refine Gr.trans ?_ (by assumption))))) hS.c1.ok.ops).mono ?_; rw [HKL.out.2.1]; rintro e w3 ⟨rfl, hg3⟩)
                         | (go_at_call 20; refine (next07_own w g1 LA _ rs hL1' (W7.gr (w := wr) hS.one (by repeat (with_reducible first | assumption | exact Gr.refl _ | apply Gr.alloc | apply Gr.drewN | apply Gr.drew | apply Gr.iter | (refine Gr.setCell ?_ (by simp) _) | (refine Gr.trans ?_ (by assumption))))) (Gr.trans hS.gr (by repeat (with_reducible first | assumption | exact Gr.refl _ | apply Gr.alloc | apply Gr.drewN | apply Gr.drew | apply Gr.iter | (refine Gr.setCell ?_ (by simp) _) | (refine Gr.trans ?_ (by assumption))))) hS.c1 hS.g10).mono ?_; rw [HX.out, HOP.out]; rintro e w4 ⟨s4, rfl, ha4, sz1, sz2, hW4, hT4⟩; obtain ⟨x1, x2, x3, rfl⟩ := opsl ha4; dsimp only [opV]; have B4 := Blk.tn (B0.gr (w' := w3) (by repeat (with_reducible first | assumption | exact Gr.refl _ | apply Gr.alloc | apply Gr.drewN | apply Gr.drew | apply Gr.iter | (refine Gr.setCell ?_ (by simp) _) | (refine Gr.trans ?_ (by assumption))))) hT4 (fun h => hp1 h.1.symm); have c4 := B4.cell; have f4 := B4.frozen; have z4 := B4.lt; obtain ⟨D4, T5⟩ := B4.a7 (.int .i64 ok) (.string ot) (.int .i64 ova) (.int .i64 ovb) (.string ovt) (.int .i64 oc) (.slice x1 x2 x3); obtain ⟨w5, hw5⟩ : ∃ w5, Ve.set7 w4 p (.int .i64 ok) (.string ot) (.int .i64 ova) (.int .i64 ovb) (.string ovt) (.int .i64 oc) (.slice x1 x2 x3) = w5 := ⟨_, rfl⟩; rw [hw5] at D4 T5; unfold Ve.set7 at hw5; have HW5 := Lib.hid hw5; clear hw5; have hgw4 : Gr w w4 := Gr.tn (w := w3) (Gr.trans hS.gr (by repeat (with_reducible first | assumption | exact Gr.refl _ | apply Gr.alloc | apply Gr.drewN | apply Gr.drew | apply Gr.iter | (refine Gr.setCell ?_ (by simp) _) | (refine Gr.trans ?_ (by assumption))))) hT4 (fun b t h => h.1 ▸ hS.g10); have HFIN := Lib.hid (StM.fin 56 (some q, none) hgw4 hW4 (W7.far (w := w3) (W7.gr (w := wr) hS.two (by repeat (with_reducible first | assumption | exact Gr.refl _ | apply Gr.alloc | apply Gr.drewN | apply Gr.drew | apply Gr.iter | (refine Gr.setCell ?_ (by simp) _) | (refine Gr.trans ?_ (by assumption))))) hT4 hS.ne.symm) k1 hS.c2 (OwnL.tn (w := w3) (OwnL.gr (w := wr) hS.own (fun _ _ h => StpR.gr h (by repeat (with_reducible first | assumption | exact Gr.refl _ | apply Gr.alloc | apply Gr.drewN | apply Gr.drew | apply Gr.iter | (refine Gr.setCell ?_ (by simp) _) | (refine Gr.trans ?_ (by assumption))))) (by repeat (with_reducible first | assumption | exact Gr.refl _ | apply Gr.alloc | apply Gr.drewN | apply Gr.drew | apply Gr.iter | (refine Gr.setCell ?_ (by simp) _) | (refine Gr.trans ?_ (by assumption))))) (fun _ _ h => StpR.tn h hT4 (fun b h => absurd (Option.some.inj h.2) (by decide))) hT4 (fun b _ h => absurd (Option.some.inj h.2) (by decide))) hS.ne hS.g10 hS.g20 T5 hwp hop (cs := [.int .i64 ok, .string ot, .int .i64 ova, .int .i64 ovb, .string ovt, .int .i64 oc, .slice x1 x2 x3, .int .i64 0, .string ⟨#[]⟩, .int .i64 0, .int .i64 0, .string ⟨#[]⟩, .int .i64 0, .slice none 0 0]) ⟨_, _, rfl, by show OpS w _ q.op _; rw [HOP.out]; exact OpS.tn ⟨_, rfl, ha4, sz1, sz2⟩ T5 (fun b h => absurd (Option.some.inj h.2) (by decide)), OpS.zero w _⟩ hdl); have HD4 := Lib.hid D4; clear T5 D4 hT4 hW4 ha4))
            rw [HW5.out]
            refine HK5.out _ _ ?_
            obtain ⟨v6, w6, r6, S6, l6⟩ := HFIN.out
            have D5 := HD4.out
            have c5 := D5.cell
            have HP := Lib.hid (And.intro r6 (And.intro S6 l6))
            clear r6 S6 l6 HFIN HD4 HK5 HW5
            go_wp2_with (at_builtin; refine wpList_run rfl _ _ _ rfl rfl rfl HP.out.1 ?_)
            go_roundw
            case rel => exact ⟨rs', ts, done ++ [(some q, none)], HP.out.2.1, by rw [List.length_append, List.length_singleton]; omega, by rw [List.length_append, List.length_singleton]; omega, by rw [HST.out, List.length_append, List.length_singleton, show NN - (done.length + 1) = m by omega, List.append_assoc, List.singleton_append]⟩
            case measure => have h6 := HP.out.2.2; have h5 := hS.len; simp; omega
          · have h1' : (0 : Int) < n1 := by omega
            go_wp2_with (first
                         | (go_at_call 27; have _h := hgk2; refine (kind07_any g1 _ _ (Wk7.gr (w := wr) (W7.wk hS.one hS.gr) (by repeat (with_reducible first | assumption | exact Gr.refl _ | apply Gr.alloc | apply Gr.drewN | apply Gr.drew | apply Gr.iter | (refine Gr.setCell ?_ (by simp) _) | (refine Gr.trans ?_ (by assumption)))))).mono ?_; rw [HKL.out.1.1]; rintro e wk ⟨rfl, hgk3⟩)
                         | (go_at_call 27; have _h := hgk1; refine (kind07_any g2 _ _ (Wk7.gr (w := wr) (W7.wk hS.two hS.gr) (by repeat (with_reducible first | assumption | exact Gr.refl _ | apply Gr.alloc | apply Gr.drewN | apply Gr.drew | apply Gr.iter | (refine Gr.setCell ?_ (by simp) _) | (refine Gr.trans ?_ (by assumption)))))).mono ?_; rw [HKL.out.1.2]; rintro e w2 ⟨rfl, hgk2⟩)
                         | (go_at_call 27; rename_i K5 hK5 K4 hK4 K3 hK3; have HK5 := Lib.hid hK5; clear hK5; obtain ⟨W, hWq, B0, hgW⟩ := blkOne wr 62 #[.int .i64 0, .string ⟨#[]⟩, .int .i64 0, .int .i64 0, .string ⟨#[]⟩, .int .i64 0, .slice none 0 0, .int .i64 0, .string ⟨#[]⟩, .int .i64 0, .int .i64 0, .string ⟨#[]⟩, .int .i64 0, .slice none 0 0]; rw [hWq]; (try rw [hpz]); rw [hpz] at B0; have HWq := Lib.hid hWq; clear hWq; refine (kind07_any g2 _ _ (Wk7.gr (w := wr) (W7.wk hS.two hS.gr) (by repeat (with_reducible first | assumption | exact Gr.refl _ | apply Gr.alloc | apply Gr.drewN | apply Gr.drew | apply Gr.iter | (refine Gr.setCell ?_ (by simp) _) | (refine Gr.trans ?_ (by assumption)))))).mono ?_; rw [HKL.out.1.2]; rintro e w1 ⟨rfl, hgk1⟩)
                         | (go_at_call 29; refine (left07_any g1 _ _ (Wk7.gr (w := wr) (W7.wk hS.one hS.gr) (by repeat (with_reducible first | assumption | exact Gr.refl _ | apply Gr.alloc | apply Gr.drewN | apply Gr.drew | apply Gr.iter | (refine Gr.setCell ?_ (by simp) _) | (refine Gr.trans ?_ (by assumption))))) hS.c1.ok.ops).mono ?_; rw [HKL.out.2.1]; rintro e w3 ⟨rfl, hg3⟩)
                         | (go_at_call 20; refine (next07_own w g1 LA _ rs hL1' (W7.gr (w := wr) hS.one (by repeat (with_reducible first | assumption | exact Gr.refl _ | apply Gr.alloc | apply Gr.drewN | apply Gr.drew | apply Gr.iter | (refine Gr.setCell ?_ (by simp) _) | (refine Gr.trans ?_ (by assumption))))) (Gr.trans hS.gr (by repeat (with_reducible first | assumption | exact Gr.refl _ | apply Gr.alloc | apply Gr.drewN | apply Gr.drew | apply Gr.iter | (refine Gr.setCell ?_ (by simp) _) | (refine Gr.trans ?_ (by assumption))))) hS.c1 hS.g10).mono ?_; rw [HX.out, HOP.out]; rintro e w4 ⟨s4, rfl, ha4, sz1, sz2, hW4, hT4⟩; obtain ⟨x1, x2, x3, rfl⟩ := opsl ha4; dsimp only [opV]; have B4 := Blk.tn (B0.gr (w' := w3) (by repeat (with_reducible first | assumption | exact Gr.refl _ | apply Gr.alloc | apply Gr.drewN | apply Gr.drew | apply Gr.iter | (refine Gr.setCell ?_ (by simp) _) | (refine Gr.trans ?_ (by assumption))))) hT4 (fun h => hp1 h.1.symm); have c4 := B4.cell; have f4 := B4.frozen; have z4 := B4.lt; obtain ⟨D4, T5⟩ := B4.a7 (.int .i64 ok) (.string ot) (.int .i64 ova) (.int .i64 ovb) (.string ovt) (.int .i64 oc) (.slice x1 x2 x3); obtain ⟨w5, hw5⟩ : ∃ w5, Ve.set7 w4 p (.int .i64 ok) (.string ot) (.int .i64 ova) (.int .i64 ovb) (.string ovt) (.int .i64 oc) (.slice x1 x2 x3) = w5 := ⟨_, rfl⟩; rw [hw5] at D4 T5; unfold Ve.set7 at hw5; have HW5 := Lib.hid hw5; clear hw5; have hgw4 : Gr w w4 := Gr.tn (w := w3) (Gr.trans hS.gr (by repeat (with_reducible first | assumption | exact Gr.refl _ | apply Gr.alloc | apply Gr.drewN | apply Gr.drew | apply Gr.iter | (refine Gr.setCell ?_ (by simp) _) | (refine Gr.trans ?_ (by assumption))))) hT4 (fun b t h => h.1 ▸ hS.g10); have HFIN := Lib.hid (StM.fin 56 (some q, none) hgw4 hW4 (W7.far (w := w3) (W7.gr (w := wr) hS.two (by repeat (with_reducible first | assumption | exact Gr.refl _ | apply Gr.alloc | apply Gr.drewN | apply Gr.drew | apply Gr.iter | (refine Gr.setCell ?_ (by simp) _) | (refine Gr.trans ?_ (by assumption))))) hT4 hS.ne.symm) k1 hS.c2 (OwnL.tn (w := w3) (OwnL.gr (w := wr) hS.own (fun _ _ h => StpR.gr h (by repeat (with_reducible first | assumption | exact Gr.refl _ | apply Gr.alloc | apply Gr.drewN | apply Gr.drew | apply Gr.iter | (refine Gr.setCell ?_ (by simp) _) | (refine Gr.trans ?_ (by assumption))))) (by repeat (with_reducible first | assumption | exact Gr.refl _ | apply Gr.alloc | apply Gr.drewN | apply Gr.drew | apply Gr.iter | (refine Gr.setCell ?_ (by simp) _) | (refine Gr.trans ?_ (by assumption))))) (fun _ _ h => StpR.tn h hT4 (fun b h => absurd (Option.some.inj h.2) (by decide))) hT4 (fun b _ h => absurd (Option.some.inj h.2) (by decide))) hS.ne hS.g10 hS.g20 T5 hwp hop (cs := [.int .i64 ok, .string ot, .int .i64 ova, .int .i64 ovb, .string ovt, .int .i64 oc, .slice x1 x2 x3, .int .i64 0, .string ⟨#[]⟩, .int .i64 0, .int .i64 0, .string ⟨#[]⟩, .int .i64 0, .slice none 0 0]) ⟨_, _, rfl, by show OpS w _ q.op _; rw [HOP.out]; exact OpS.tn ⟨_, rfl, ha4, sz1, sz2⟩ T5 (fun b h => absurd (Option.some.inj h.2) (by decide)), OpS.zero w _⟩ hdl); have HD4 := Lib.hid D4; clear T5 D4 hT4 hW4 ha4))
            rw [HW5.out]
            refine HK5.out _ _ ?_
            obtain ⟨v6, w6, r6, S6, l6⟩ := HFIN.out
            have D5 := HD4.out
            have c5 := D5.cell
            have HP := Lib.hid (And.intro r6 (And.intro S6 l6))
            clear r6 S6 l6 HFIN HD4 HK5 HW5
            go_wp2_with (at_builtin; refine wpList_run rfl _ _ _ rfl rfl rfl HP.out.1 ?_)
            go_roundw
            case rel => exact ⟨rs', ts, done ++ [(some q, none)], HP.out.2.1, by rw [List.length_append, List.length_singleton]; omega, by rw [List.length_append, List.length_singleton]; omega, by rw [HST.out, List.length_append, List.length_singleton, show NN - (done.length + 1) = m by omega, List.append_assoc, List.singleton_append]⟩
            case measure => have h6 := HP.out.2.2; have h5 := hS.len; simp; omega
        · have hka4 : (KA == 4) = false := by simpa using hk4
          have hSP := stepP_two (ps := rs) (qs := ts) (by rw [hKB']; exact hk2) (by rw [hKA']; exact hk4)
          rw [hSP] at hslen k1 k2 HST
          rw [hLA', hLB'] at hslen k1 k2 HST
          dsimp only at hslen k1 k2 HST
          obtain ⟨X1, hX1⟩ : ∃ X, nextP rs (min LA LB) = X := ⟨_, rfl⟩
          obtain ⟨X2, hX2⟩ : ∃ X, nextP ts (min LA LB) = X := ⟨_, rfl⟩
          rw [hX1] at hslen k1 HST
          rw [hX2] at hslen k2 HST
          obtain ⟨p1, rs'⟩ := X1
          obtain ⟨q, ts'⟩ := X2
          dsimp only at hslen k1 k2 HST
          obtain ⟨ok, ot, ova, ovb, ovt, oc, oats, hop2⟩ := stp_dest q
          obtain ⟨pk, pt, pva, pvb, pvt, pcc, pats, hop1⟩ := stp_dest p1
          have HX1 := Lib.hid hX1; have HX2 := Lib.hid hX2; have HOP1 := Lib.hid hop1; have HOP2 := Lib.hid hop2; have HKB := Lib.hid hKB'; have HKA := Lib.hid hKA'
          have hLm : 1 ≤ min LA LB := by have := hl1.1; have := hl2.1; omega
          have HL := Lib.hid (And.intro hLA' hLB'); clear hX1 hX2 hop1 hop2 hKA' hKB' hLA' hLB' hSP
          clear hn1' hn2' hl1 hl2
          rcases hor1 with ⟨rfl, h2⟩ | h1
          · have h2' : (0 : Int) < n2 := by omega
            go_wp2_with (first
                         | (go_at_call 27; have _h := hgk2; refine (kind07_any g1 _ _ (Wk7.gr (w := wr) (W7.wk hS.one hS.gr) (by repeat (with_reducible first | assumption | exact Gr.refl _ | apply Gr.alloc | apply Gr.drewN | apply Gr.drew | apply Gr.iter | (refine Gr.setCell ?_ (by simp) _) | (refine Gr.trans ?_ (by assumption)))))).mono ?_; rw [HKL.out.1.1]; rintro e wk ⟨rfl, hgk3⟩)
                         | (go_at_call 27; have _h := hgk1; refine (kind07_any g2 _ _ (Wk7.gr (w := wr) (W7.wk hS.two hS.gr) (by repeat (with_reducible first | assumption | exact Gr.refl _ | apply Gr.alloc | apply Gr.drewN | apply Gr.drew | apply Gr.iter | (refine Gr.setCell ?_ (by simp) _) | (refine Gr.trans ?_ (by assumption)))))).mono ?_; rw [HKL.out.1.2]; rintro e w2 ⟨rfl, hgk2⟩)
                         | (go_at_call 27; rename_i K5 hK5 K4 hK4 K3 hK3; have HK5 := Lib.hid hK5; clear hK5; obtain ⟨W, hWq, B0, hgW⟩ := blkOne wr 62 #[.int .i64 0, .string ⟨#[]⟩, .int .i64 0, .int .i64 0, .string ⟨#[]⟩, .int .i64 0, .slice none 0 0, .int .i64 0, .string ⟨#[]⟩, .int .i64 0, .int .i64 0, .string ⟨#[]⟩, .int .i64 0, .slice none 0 0]; rw [hWq]; (try rw [hpz]); rw [hpz] at B0; have HWq := Lib.hid hWq; clear hWq; refine (kind07_any g2 _ _ (Wk7.gr (w := wr) (W7.wk hS.two hS.gr) (by repeat (with_reducible first | assumption | exact Gr.refl _ | apply Gr.alloc | apply Gr.drewN | apply Gr.drew | apply Gr.iter | (refine Gr.setCell ?_ (by simp) _) | (refine Gr.trans ?_ (by assumption)))))).mono ?_; rw [HKL.out.1.2]; rintro e w1 ⟨rfl, hgk1⟩)
                         | (go_at_call 29; have _h := hgl1; refine (left07_any g2 _ _ (Wk7.gr (w := wr) (W7.wk hS.two hS.gr) (by repeat (with_reducible first | assumption | exact Gr.refl _ | apply Gr.alloc | apply Gr.drewN | apply Gr.drew | apply Gr.iter | (refine Gr.setCell ?_ (by simp) _) | (refine Gr.trans ?_ (by assumption))))) hS.c2.ok.ops).mono ?_; rw [HKL.out.2.2]; rintro e w3 ⟨rfl, hg3⟩)
                         | (go_at_call 29; refine (left07_any g1 _ _ (Wk7.gr (w := wr) (W7.wk hS.one hS.gr) (by repeat (with_reducible first | assumption | exact Gr.refl _ | apply Gr.alloc | apply Gr.drewN | apply Gr.drew | apply Gr.iter | (refine Gr.setCell ?_ (by simp) _) | (refine Gr.trans ?_ (by assumption))))) hS.c1.ok.ops).mono ?_; rw [HKL.out.2.1]; rintro e wl ⟨rfl, hgl1⟩)
                         | (go_at_call 20; rename_i K7 hK7 K6 hK6; have HK7 := Lib.hid hK7; clear hK7; refine (next07_own w g1 (min LA LB) _ rs hLm (W7.gr (w := wr) hS.one (by repeat (with_reducible first | assumption | exact Gr.refl _ | apply Gr.alloc | apply Gr.drewN | apply Gr.drew | apply Gr.iter | (refine Gr.setCell ?_ (by simp) _) | (refine Gr.trans ?_ (by assumption))))) (Gr.trans hS.gr (by repeat (with_reducible first | assumption | exact Gr.refl _ | apply Gr.alloc | apply Gr.drewN | apply Gr.drew | apply Gr.iter | (refine Gr.setCell ?_ (by simp) _) | (refine Gr.trans ?_ (by assumption))))) hS.c1 hS.g10).mono ?_; rw [HX1.out, HOP1.out]; rintro e w4 ⟨s4, rfl, ha4, sz1, sz2, hW4, hT4⟩; obtain ⟨x1, x2, x3, rfl⟩ := opsl ha4; dsimp only [opV]; have B4 := Blk.tn (B0.gr (w' := w3) (by repeat (with_reducible first | assumption | exact Gr.refl _ | apply Gr.alloc | apply Gr.drewN | apply Gr.drew | apply Gr.iter | (refine Gr.setCell ?_ (by simp) _) | (refine Gr.trans ?_ (by assumption))))) hT4 (fun h => hp1 h.1.symm); have c4 := B4.cell; have f4 := B4.frozen; have z4 := B4.lt; obtain ⟨D4, T5⟩ := B4.a7 (.int .i64 pk) (.string pt) (.int .i64 pva) (.int .i64 pvb) (.string pvt) (.int .i64 pcc) (.slice x1 x2 x3); obtain ⟨w5, hw5⟩ : ∃ w5, Ve.set7 w4 p (.int .i64 pk) (.string pt) (.int .i64 pva) (.int .i64 pvb) (.string pvt) (.int .i64 pcc) (.slice x1 x2 x3) = w5 := ⟨_, rfl⟩; rw [hw5] at D4 T5; unfold Ve.set7 at hw5; have HW5 := Lib.hid hw5; clear hw5; have hgw4 : Gr w w4 := Gr.tn (w := w3) (Gr.trans hS.gr (by repeat (with_reducible first | assumption | exact Gr.refl _ | apply Gr.alloc | apply Gr.drewN | apply Gr.drew | apply Gr.iter | (refine Gr.setCell ?_ (by simp) _) | (refine Gr.trans ?_ (by assumption))))) hT4 (fun b t h => h.1 ▸ hS.g10); have HG5 := Lib.hid (Gr.tn hgw4 T5 (fun b t h => h.1 ▸ hwp)); have HV1 := Lib.hid (hW4.tn T5 (fun b h => absurd (Option.some.inj h.2) (by decide)) (fun b h => absurd (Option.some.inj h.2) (by decide)) (fun h => absurd (Option.some.inj h.2) (by decide))); have HV2 := Lib.hid ((W7.far (w := w3) (W7.gr (w := wr) hS.two (by repeat (with_reducible first | assumption | exact Gr.refl _ | apply Gr.alloc | apply Gr.drewN | apply Gr.drew | apply Gr.iter | (refine Gr.setCell ?_ (by simp) _) | (refine Gr.trans ?_ (by assumption))))) hT4 hS.ne.symm).tn T5 (fun b h => absurd (Option.some.inj h.2) (by decide)) (fun b h => absurd (Option.some.inj h.2) (by decide)) (fun h => absurd (Option.some.inj h.2) (by decide))); have HO5 := Lib.hid (OwnL.tn (w := w4) (OwnL.tn (w := w3) (OwnL.gr (w := wr) hS.own (fun _ _ h => StpR.gr h (by repeat (with_reducible first | assumption | exact Gr.refl _ | apply Gr.alloc | apply Gr.drewN | apply Gr.drew | apply Gr.iter | (refine Gr.setCell ?_ (by simp) _) | (refine Gr.trans ?_ (by assumption))))) (by repeat (with_reducible first | assumption | exact Gr.refl _ | apply Gr.alloc | apply Gr.drewN | apply Gr.drew | apply Gr.iter | (refine Gr.setCell ?_ (by simp) _) | (refine Gr.trans ?_ (by assumption))))) (fun _ _ h => StpR.tn h hT4 (fun b h => absurd (Option.some.inj h.2) (by decide))) hT4 (fun b _ h => absurd (Option.some.inj h.2) (by decide))) (fun _ _ h => StpR.tn h T5 (fun b h => absurd (Option.some.inj h.2) (by decide))) T5 (fun b hb h => hop b hb h.1)); have HX5 := Lib.hid (show OpS w w5 p1.op [.int .i64 pk, .string pt, .int .i64 pva, .int .i64 pvb, .string pvt, .int .i64 pcc, .slice x1 x2 x3] by rw [HOP1.out]; exact OpS.tn ⟨_, rfl, ha4, sz1, sz2⟩ T5 (fun b h => absurd (Option.some.inj h.2) (by decide))); have HD4 := Lib.hid D4; clear T5 D4 hT4 hW4 ha4))
            rw [HW5.out]
            refine HK7.out _ _ ?_
            have c5 := HD4.out.cell
            have f5 := HD4.out.frozen
            have z5 := HD4.out.lt
            go_wp2_with ((go_at_call 20; refine (next07_own w g2 (min LA LB) _ ts hLm HV2.out HG5.out hS.c2 hS.g20).mono ?_; rw [HX2.out, HOP2.out]; rintro e w6 ⟨s6, rfl, ha6, sz3, sz4, hW6, hT6⟩; obtain ⟨z1, z2, z3, rfl⟩ := opsl ha6; dsimp only [opV]; have B6 := Blk.tn HD4.out hT6 (fun h => hp2 h.1.symm); have c6 := B6.cell; have f6 := B6.frozen; have z6 := B6.lt; obtain ⟨D6, T7⟩ := B6.b7 (.int .i64 ok) (.string ot) (.int .i64 ova) (.int .i64 ovb) (.string ovt) (.int .i64 oc) (.slice z1 z2 z3); obtain ⟨w7, hw7⟩ : ∃ w7, Ve.set7b w6 p (.int .i64 ok) (.string ot) (.int .i64 ova) (.int .i64 ovb) (.string ovt) (.int .i64 oc) (.slice z1 z2 z3) = w7 := ⟨_, rfl⟩; rw [hw7] at D6 T7; unfold Ve.set7b at hw7; have HW7 := Lib.hid hw7; clear hw7; have HFIN := Lib.hid (StM.fin 56 (some p1, some q) (Gr.tn HG5.out hT6 (fun b t h => h.1 ▸ hS.g20)) (W7.far HV1.out hT6 hS.ne) hW6 k1 k2 (OwnL.tn (w := w5) HO5.out (fun _ _ h => StpR.tn h hT6 (fun b h => absurd (Option.some.inj h.2) (by decide))) hT6 (fun b _ h => absurd (Option.some.inj h.2) (by decide))) hS.ne hS.g10 hS.g20 T7 hwp hop (cs := [.int .i64 pk, .string pt, .int .i64 pva, .int .i64 pvb, .string pvt, .int .i64 pcc, .slice x1 x2 x3, .int .i64 ok, .string ot, .int .i64 ova, .int .i64 ovb, .string ovt, .int .i64 oc, .slice z1 z2 z3]) ⟨_, _, rfl, OpS.tn (OpS.tn HX5.out hT6 (fun b h => absurd (Option.some.inj h.2) (by decide))) T7 (fun b h => absurd (Option.some.inj h.2) (by decide)), by show OpS w _ q.op _; rw [HOP2.out]; exact OpS.tn ⟨_, rfl, ha6, sz3, sz4⟩ T7 (fun b h => absurd (Option.some.inj h.2) (by decide))⟩ hdl); have HD6 := Lib.hid D6; clear T7 D6 hT6 hW6 ha6))
            rw [HW7.out]
            refine HK5.out _ _ ?_
            obtain ⟨v6, w8, r6, S6, l6⟩ := HFIN.out
            have D7 := HD6.out
            have c7 := D7.cell
            have HP := Lib.hid (And.intro r6 (And.intro S6 l6))
            clear r6 S6 l6 HFIN HD4 HD6 HK5 HK7 HW5 HW7 HV1 HV2 HG5 HO5 HX5 c5 f5 z5 c6 f6 z6
            go_wp2_with (at_builtin; refine wpList_run rfl _ _ _ rfl rfl rfl HP.out.1 ?_)
            go_roundw
            case rel => exact ⟨rs', ts', done ++ [(some p1, some q)], HP.out.2.1, by rw [List.length_append, List.length_singleton]; omega, by rw [List.length_append, List.length_singleton]; omega, by rw [HST.out, List.length_append, List.length_singleton, show NN - (done.length + 1) = m by omega, List.append_assoc, List.singleton_append]⟩
            case measure => have h6 := HP.out.2.2; have h5 := hS.len; simp; omega
          · have h1' : (0 : Int) < n1 := by omega
            go_wp2_with (first
                         | (go_at_call 27; have _h := hgk2; refine (kind07_any g1 _ _ (Wk7.gr (w := wr) (W7.wk hS.one hS.gr) (by repeat (with_reducible first | assumption | exact Gr.refl _ | apply Gr.alloc | apply Gr.drewN | apply Gr.drew | apply Gr.iter | (refine Gr.setCell ?_ (by simp) _) | (refine Gr.trans ?_ (by assumption)))))).mono ?_; rw [HKL.out.1.1]; rintro e wk ⟨rfl, hgk3⟩)
                         | (go_at_call 27; have _h := hgk1; refine (kind07_any g2 _ _ (Wk7.gr (w := wr) (W7.wk hS.two hS.gr) (by repeat (with_reducible first | assumption | exact Gr.refl _ | apply Gr.alloc | apply Gr.drewN | apply Gr.drew | apply Gr.iter | (refine Gr.setCell ?_ (by simp) _) | (refine Gr.trans ?_ (by assumption)))))).mono ?_; rw [HKL.out.1.2]; rintro e w2 ⟨rfl, hgk2⟩)
                         | (go_at_call 27; rename_i K5 hK5 K4 hK4 K3 hK3; have HK5 := Lib.hid hK5; clear hK5; obtain ⟨W, hWq, B0, hgW⟩ := blkOne wr 62 #[.int .i64 0, .string ⟨#[]⟩, .int .i64 0, .int .i64 0, .string ⟨#[]⟩, .int .i64 0, .slice none 0 0, .int .i64 0, .string ⟨#[]⟩, .int .i64 0, .int .i64 0, .string ⟨#[]⟩, .int .i64 0, .slice none 0 0]; rw [hWq]; (try rw [hpz]); rw [hpz] at B0; have HWq := Lib.hid hWq; clear hWq; refine (kind07_any g2 _ _ (Wk7.gr (w := wr) (W7.wk hS.two hS.gr) (by repeat (with_reducible first | assumption | exact Gr.refl _ | apply Gr.alloc | apply Gr.drewN | apply Gr.drew | apply Gr.iter | (refine Gr.setCell ?_ (by simp) _) | (refine Gr.trans ?_ (by assumption)))))).mono ?_; rw [HKL.out.1.2]; rintro e w1 ⟨rfl, hgk1⟩)
                         | (go_at_call 29; have _h := hgl1; refine (left07_any g2 _ _ (Wk7.gr (w := wr) (W7.wk hS.two hS.gr) (by repeat (with_reducible first | assumption | exact Gr.refl _ | apply Gr.alloc | apply Gr.drewN | apply Gr.drew | apply Gr.iter | (refine Gr.setCell ?_ (by simp) _) | (refine Gr.trans ?_ (by assumption))))) hS.c2.ok.ops).mono ?_; rw [HKL.out.2.2]; rintro e w3 ⟨rfl, hg3⟩)
                         | (go_at_call 29; refine (left07_any g1 _ _ (Wk7.gr (w := wr) (W7.wk hS.one hS.gr) (by repeat (with_reducible first | assumption | exact Gr.refl _ | apply Gr.alloc | apply Gr.drewN | apply Gr.drew | apply Gr.iter | (refine Gr.setCell ?_ (by simp) _) | (refine Gr.trans ?_ (by assumption))))) hS.c1.ok.ops).mono ?_; rw [HKL.out.2.1]; rintro e wl ⟨rfl, hgl1⟩)
                         | (go_at_call 20; rename_i K7 hK7 K6 hK6; have HK7 := Lib.hid hK7; clear hK7; refine (next07_own w g1 (min LA LB) _ rs hLm (W7.gr (w := wr) hS.one (by repeat (with_reducible first | assumption | exact Gr.refl _ | apply Gr.alloc | apply Gr.drewN | apply Gr.drew | apply Gr.iter | (refine Gr.setCell ?_ (by simp) _) | (refine Gr.trans ?_ (by assumption))))) (Gr.trans hS.gr (by repeat (with_reducible first | assumption | exact Gr.refl _ | apply Gr.alloc | apply Gr.drewN | apply Gr.drew | apply Gr.iter | (refine Gr.setCell ?_ (by simp) _) | (refine Gr.trans ?_ (by assumption))))) hS.c1 hS.g10).mono ?_; rw [HX1.out, HOP1.out]; rintro e w4 ⟨s4, rfl, ha4, sz1, sz2, hW4, hT4⟩; obtain ⟨x1, x2, x3, rfl⟩ := opsl ha4; dsimp only [opV]; have B4 := Blk.tn (B0.gr (w' := w3) (by repeat (with_reducible first | assumption | exact Gr.refl _ | apply Gr.alloc | apply Gr.drewN | apply Gr.drew | apply Gr.iter | (refine Gr.setCell ?_ (by simp) _) | (refine Gr.trans ?_ (by assumption))))) hT4 (fun h => hp1 h.1.symm); have c4 := B4.cell; have f4 := B4.frozen; have z4 := B4.lt; obtain ⟨D4, T5⟩ := B4.a7 (.int .i64 pk) (.string pt) (.int .i64 pva) (.int .i64 pvb) (.string pvt) (.int .i64 pcc) (.slice x1 x2 x3); obtain ⟨w5, hw5⟩ : ∃ w5, Ve.set7 w4 p (.int .i64 pk) (.string pt) (.int .i64 pva) (.int .i64 pvb) (.string pvt) (.int .i64 pcc) (.slice x1 x2 x3) = w5 := ⟨_, rfl⟩; rw [hw5] at D4 T5; unfold Ve.set7 at hw5; have HW5 := Lib.hid hw5; clear hw5; have hgw4 : Gr w w4 := Gr.tn (w := w3) (Gr.trans hS.gr (by repeat (with_reducible first | assumption | exact Gr.refl _ | apply Gr.alloc | apply Gr.drewN | apply Gr.drew | apply Gr.iter | (refine Gr.setCell ?_ (by simp) _) | (refine Gr.trans ?_ (by assumption))))) hT4 (fun b t h => h.1 ▸ hS.g10); have HG5 := Lib.hid (Gr.tn hgw4 T5 (fun b t h => h.1 ▸ hwp)); have HV1 := Lib.hid (hW4.tn T5 (fun b h => absurd (Option.some.inj h.2) (by decide)) (fun b h => absurd (Option.some.inj h.2) (by decide)) (fun h => absurd (Option.some.inj h.2) (by decide))); have HV2 := Lib.hid ((W7.far (w := w3) (W7.gr (w := wr) hS.two (by repeat (with_reducible first | assumption | exact Gr.refl _ | apply Gr.alloc | apply Gr.drewN | apply Gr.drew | apply Gr.iter | (refine Gr.setCell ?_ (by simp) _) | (refine Gr.trans ?_ (by assumption))))) hT4 hS.ne.symm).tn T5 (fun b h => absurd (Option.some.inj h.2) (by decide)) (fun b h => absurd (Option.some.inj h.2) (by decide)) (fun h => absurd (Option.some.inj h.2) (by decide))); have HO5 := Lib.hid (OwnL.tn (w := w4) (OwnL.tn (w := w3) (OwnL.gr (w := wr) hS.own (fun _ _ h => StpR.gr h (by repeat (with_reducible first | assumption | exact Gr.refl _ | apply Gr.alloc | apply Gr.drewN | apply Gr.drew | apply Gr.iter | (refine Gr.setCell ?_ (by simp) _) | (refine Gr.trans ?_ (by assumption))))) (by repeat (with_reducible first | assumption | exact Gr.refl _ | apply Gr.alloc | apply Gr.drewN | apply Gr.drew | apply Gr.iter | (refine Gr.setCell ?_ (by simp) _) | (refine Gr.trans ?_ (by assumption))))) (fun _ _ h => StpR.tn h hT4 (fun b h => absurd (Option.some.inj h.2) (by decide))) hT4 (fun b _ h => absurd (Option.some.inj h.2) (by decide))) (fun _ _ h => StpR.tn h T5 (fun b h => absurd (Option.some.inj h.2) (by decide))) T5 (fun b hb h => hop b hb h.1)); have HX5 := Lib.hid (show OpS w w5 p1.op [.int .i64 pk, .string pt, .int .i64 pva, .int .i64 pvb, .string pvt, .int .i64 pcc, .slice x1 x2 x3] by rw [HOP1.out]; exact OpS.tn ⟨_, rfl, ha4, sz1, sz2⟩ T5 (fun b h => absurd (Option.some.inj h.2) (by decide))); have HD4 := Lib.hid D4; clear T5 D4 hT4 hW4 ha4))
            rw [HW5.out]
            refine HK7.out _ _ ?_
            have c5 := HD4.out.cell
            have f5 := HD4.out.frozen
            have z5 := HD4.out.lt
            go_wp2_with ((go_at_call 20; refine (next07_own w g2 (min LA LB) _ ts hLm HV2.out HG5.out hS.c2 hS.g20).mono ?_; rw [HX2.out, HOP2.out]; rintro e w6 ⟨s6, rfl, ha6, sz3, sz4, hW6, hT6⟩; obtain ⟨z1, z2, z3, rfl⟩ := opsl ha6; dsimp only [opV]; have B6 := Blk.tn HD4.out hT6 (fun h => hp2 h.1.symm); have c6 := B6.cell; have f6 := B6.frozen; have z6 := B6.lt; obtain ⟨D6, T7⟩ := B6.b7 (.int .i64 ok) (.string ot) (.int .i64 ova) (.int .i64 ovb) (.string ovt) (.int .i64 oc) (.slice z1 z2 z3); obtain ⟨w7, hw7⟩ : ∃ w7, Ve.set7b w6 p (.int .i64 ok) (.string ot) (.int .i64 ova) (.int .i64 ovb) (.string ovt) (.int .i64 oc) (.slice z1 z2 z3) = w7 := ⟨_, rfl⟩; rw [hw7] at D6 T7; unfold Ve.set7b at hw7; have HW7 := Lib.hid hw7; clear hw7; have HFIN := Lib.hid (StM.fin 56 (some p1, some q) (Gr.tn HG5.out hT6 (fun b t h => h.1 ▸ hS.g20)) (W7.far HV1.out hT6 hS.ne) hW6 k1 k2 (OwnL.tn (w := w5) HO5.out (fun _ _ h => StpR.tn h hT6 (fun b h => absurd (Option.some.inj h.2) (by decide))) hT6 (fun b _ h => absurd (Option.some.inj h.2) (by decide))) hS.ne hS.g10 hS.g20 T7 hwp hop (cs := [.int .i64 pk, .string pt, .int .i64 pva, .int .i64 pvb, .string pvt, .int .i64 pcc, .slice x1 x2 x3, .int .i64 ok, .string ot, .int .i64 ova, .int .i64 ovb, .string ovt, .int .i64 oc, .slice z1 z2 z3]) ⟨_, _, rfl, OpS.tn (OpS.tn HX5.out hT6 (fun b h => absurd (Option.some.inj h.2) (by decide))) T7 (fun b h => absurd (Option.some.inj h.2) (by decide)), by show OpS w _ q.op _; rw [HOP2.out]; exact OpS.tn ⟨_, rfl, ha6, sz3, sz4⟩ T7 (fun b h => absurd (Option.some.inj h.2) (by decide))⟩ hdl); have HD6 := Lib.hid D6; clear T7 D6 hT6 hW6 ha6))
            rw [HW7.out]
            refine HK5.out _ _ ?_
            obtain ⟨v6, w8, r6, S6, l6⟩ := HFIN.out
            have D7 := HD6.out
            have c7 := D7.cell
            have HP := Lib.hid (And.intro r6 (And.intro S6 l6))
            clear r6 S6 l6 HFIN HD4 HD6 HK5 HK7 HW5 HW7 HV1 HV2 HG5 HO5 HX5 c5 f5 z5 c6 f6 z6
            go_wp2_with (at_builtin; refine wpList_run rfl _ _ _ rfl rfl rfl HP.out.1 ?_)
            go_roundw
            case rel => exact ⟨rs', ts', done ++ [(some p1, some q)], HP.out.2.1, by rw [List.length_append, List.length_singleton]; omega, by rw [List.length_append, List.length_singleton]; omega, by rw [HST.out, List.length_append, List.length_singleton, show NN - (done.length + 1) = m by omega, List.append_assoc, List.singleton_append]⟩
            case measure => have h6 := HP.out.2.2; have h5 := hS.len; simp; omega
end Ve
