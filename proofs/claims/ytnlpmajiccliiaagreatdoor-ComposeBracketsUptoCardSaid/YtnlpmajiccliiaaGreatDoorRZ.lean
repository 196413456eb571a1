import Derived.Test.YtnlpmajiccliiaaGreatDoorRS
set_option linter.all false
/- Walks: the reference's walker: Cut, Next. -/
namespace Ve
open Go Go.RowKit Go.Proofs


def cutO (o : Op) (n : Int) : Op × Op :=
  if o.kind = 1 then ({ o with text := textL ((runes o.text).take n.toNat) }, { o with text := textL ((runes o.text).drop n.toNat) }) else ({ o with count := n }, { o with count := o.count - n })
end Ve
/- Walks: the reference's Cut of a text. -/
namespace Ve
open Go Go.RowKit Go.Proofs

/-- The operations of a cut piece. -/
theorem cut_op {p : Piece} {n : Int} (h : ∀ a t v, p ≠ .emb a t v) : (cutO p.op n).1 = (cutP p n).1.op ∧ (cutO p.op n).2 = (cutP p n).2.op := by
  cases p with
  | ins a t m => simp [cutO, cutP, Piece.op]
  | emb a t v => exact absurd rfl (h a t v)
  | ret a m => simp [cutO, cutP, Piece.op]
  | del m => simp [cutO, cutP, Piece.op]
end Ve
/- Walks: vellumlaw07.gathered. -/
namespace Ve
open Go Go.RowKit Go.Proofs

theorem OwnOps.at_ {base : Nat} {w : World} {a : Option Addr} {n cap : Nat} {l : List Op} (h : OwnOps base w (.slice a n cap) l) (hb : n ≤ 1099511627776) (i : Nat) (hi : i < n) :
    ∃ b off k t va vb vt c ats sl, l[i]? = some ⟨k, t, ⟨va, vb, vt⟩, c, ats⟩ ∧ a = some ⟨b, off, none⟩ ∧ OwnA w sl ats ∧ w.cell? ⟨b, off + i * 7, none⟩ = some (.int .i64 k) ∧ w.cell? ⟨b, off + i * 7 + 1, none⟩ = some (.string t) ∧
      w.cell? ⟨b, off + i * 7 + 2, none⟩ = some (.int .i64 va) ∧ w.cell? ⟨b, off + i * 7 + 3, none⟩ = some (.int .i64 vb) ∧ w.cell? ⟨b, off + i * 7 + 4, none⟩ = some (.string vt) ∧
      w.cell? ⟨b, off + i * 7 + 5, none⟩ = some (.int .i64 c) ∧ w.cell? ⟨b, off + i * 7 + 6, none⟩ = some sl ∧ szS t ∧ szS vt := by
  have hlen : l.length = n := by
    obtain ⟨a', n', cap', e, -, -, hn⟩ := h.sl
    injection e with _ e _
    rw [e]; exact hn.out
  obtain ⟨b, off, ⟨k, t, ⟨va, vb, vt⟩, c, ats⟩, cs, e, hx, ⟨sl, rfl, hr, s1, s2⟩, _, hc⟩ := RdList.get (OwnL.rd h (by omega)) i hi
  exact ⟨b, off, k, t, va, vb, vt, c, ats, sl, hx, e, hr, hc 0 _ (by omega) rfl, hc 1 _ (by omega) rfl, hc 2 _ (by omega) rfl, hc 3 _ (by omega) rfl, hc 4 _ (by omega) rfl, hc 5 _ (by omega) rfl, hc 6 _ (by omega) rfl, s1, s2⟩
end Ve
/- Walks: the reference's walker goes on (Walker.Next). -/
namespace Ve
open Go Go.RowKit Go.Proofs

/-- An operation whose attributes lie in the world w0, or in a block of one's own. -/
def OpS (w0 w : World) (x : Op) (cs : List Value) : Prop :=
  ∃ v, cs = [.int .i64 x.kind, .string x.text, .int .i64 x.val.kind, .int .i64 x.val.num, .string x.val.text, .int .i64 x.count, v] ∧ (RdAttrs w0 v x.attrs ∨ OwnA w v x.attrs) ∧ szS x.text ∧ szS x.val.text
theorem OpS.gr {w0 w w' : World} {x : Op} {cs : List Value} (h : OpS w0 w x cs) (g : Gr w w') : OpS w0 w' x cs := by
  obtain ⟨v, e, ha, hs⟩ := h
  exact ⟨v, e, ha.imp id fun h => h.gr g, hs⟩
theorem OpS.tn {Wr : Nat → Option TypeId → Prop} {w0 w w' : World} {x : Op} {cs : List Value} (h : OpS w0 w x cs) (g : Tn Wr w w') (h1 : ∀ b, ¬ Wr b (some 176)) : OpS w0 w' x cs := by
  obtain ⟨v, e, ha, hs⟩ := h
  exact ⟨v, e, ha.imp id fun h => h.tn g fun b _ => h1 b, hs⟩
theorem OpS.opR {w0 w : World} {x : Op} {cs : List Value} (h : OpS w0 w x cs) (g : Gr w0 w) : OpR w x cs := by
  obtain ⟨v, e, ha, hs⟩ := h
  refine ⟨v, e, ?_, hs⟩
  rcases ha with ha | ha
  · exact RdAttrs.gr ha g
  · exact ha.rd
theorem OpS.flat (w0 w : World) (x : Op) (cs : List Value) (h : OpS w0 w x cs) : ∀ u ∈ cs, u.oneCell' = true := by
  obtain ⟨v, rfl, ha, -⟩ := h
  obtain ⟨a, m, c, rfl⟩ : ∃ a m c, v = .slice a m c := by
    rcases ha with ha | ha
    · obtain ⟨a, cap, rfl, -⟩ := RdList.slice ha
      exact ⟨_, _, _, rfl⟩
    · obtain ⟨a, m, c, rfl, -⟩ := ha.1.sl
      exact ⟨_, _, _, rfl⟩
  simp [Value.oneCell']
/-- A walker's list: as it came in, or in a block of its own. -/
def Lst (w0 w : World) (sl : Value) (l : List Op) : Prop := RdOps w0 sl l ∨ (OwnL (OpS w0) 7 w0.heap.size 65 w sl l ∧ l.length ≤ 1099511627776)
theorem Lst.rd {w0 w : World} {sl : Value} {l : List Op} (h : Lst w0 w sl l) (g : Gr w0 w) : RdList (OpS w0) 7 w sl l := by
  rcases h with h | h
  · refine RdList.gr (w := w0) (RdList.weak h fun x cs hx => ?_) (fun _ _ h => OpS.gr (w := w0) h g) g
    obtain ⟨v, e, ha, hs⟩ := hx
    exact ⟨v, e, .inl ha, hs⟩
  · exact OwnL.rd h.1 h.2
theorem Lst.ops {w0 w : World} {sl : Value} {l : List Op} (h : Lst w0 w sl l) (g : Gr w0 w) : RdOps w sl l := (h.rd g).weak fun _ _ hx => hx.opR g
theorem Lst.gr {w0 w w' : World} {sl : Value} {l : List Op} (h : Lst w0 w sl l) (g : Gr w w') : Lst w0 w' sl l :=
  h.imp id fun h => ⟨OwnL.gr (w := w) h.1 (fun _ _ h => OpS.gr (w := w) h g) g, h.2⟩
theorem Lst.tn {Wr : Nat → Option TypeId → Prop} {w0 w w' : World} {sl : Value} {l : List Op} (h : Lst w0 w sl l) (g : Tn Wr w w') (h1 : ∀ b, ¬ Wr b (some 176)) (h2 : ∀ b, ¬ Wr b (some 65)) : Lst w0 w' sl l :=
  h.imp id fun h => ⟨OwnL.tn (w := w) h.1 (fun _ _ h => OpS.tn (w := w) h g h1) g fun b _ => h2 b, h.2⟩
theorem app_opS (w0 w : World) (base : Nat) (ty : TypeId) {v x : Value} {l m : List Op} (hown : OwnL (OpS w0) 7 base 65 w v l) (hx : RdList (OpS w0) 7 w x m) (hm : l.length + m.length ≤ 1099511627776) (hb : base ≤ w.heap.size) :
    ∃ v' w', (Builtin.append_ #[22, 22] ty #[v, x]).run Tryz.prog w = .ok v' w' ∧ OwnL (OpS w0) 7 base 65 w' v' (l ++ m) ∧ Kg (fun b => v.ownBlock = some b) opT w w' ∧ (v'.ownBlock = v.ownBlock ∨ v'.ownBlock = some w.heap.size) := by
  obtain ⟨xs, ho, hr⟩ := id hown
  have hk : ∀ w', w.grownBy w' v.ownBlock → Kg (fun b => v.ownBlock = some b) opT w w' := fun w' hg => Kg.of_own ho (by decide) (fun b h => h) hg
  obtain ⟨v', w', r1, r2, r3, r4⟩ := run_appL (P := Tryz.prog) (R := OpS w0) w base 22 ty 65 _ 7 88 Tryz.underlying22 info_op rfl (by omega) (by omega) (OpS.flat w0 w) hown hx hm hb
    (fun w' y cs hg h => OpS.tn h (Tn.of_kg (Wr := fun _ t => t = some 65) (hk w' hg) fun b t _ ht => by unfold opT at ht; rw [beq_iff_eq.1 ht]) fun b h => by injection h with h; exact absurd h (by decide))
  exact ⟨v', w', r1, r2, hk w' r3, r4⟩
end Ve
