import Derived.Test.YtnlpmajiccliiaaGreatDoorT3
import Derived.Test.YtnlpmajiccliiaaGreatDoorT7
set_option linter.all false
/- A walker in memory; walk.own, cut, New, Done, Kind, Left, inserts. -/
namespace Ve
open Go Go.RowKit Go.Proofs

/-- A list of pieces in a part of one block. -/
def SubP (w : World) (v : Value) (l : List Piece) : Prop :=
  ∃ a cap xs, v = .slice a l.length cap ∧ l.length ≤ cap ∧ cap ≤ maxLen ∧ l.length ≤ 1099511627776 ∧ RowsR PieceR 1 w l xs ∧
    (0 < l.length → ∃ b off cs, a = some ⟨b, off, none⟩ ∧ Blk w b 109 cs ∧ ∀ j u, xs[j]? = some u → cs[off + j]? = some u)
section
variable {w w' : World} {v : Value} {l : List Piece}
theorem SubP.rd (h : SubP w v l) : RdPieces w v l := by
  obtain ⟨a, cap, xs, hv, hc, hm, hb, hr, hx⟩ := h
  refine ⟨a, cap, xs, hv, hc, hm, hb, hr, fun hn => ?_⟩
  obtain ⟨b, off, cs, e, hB, hu⟩ := hx hn
  exact ⟨b, off, e, fun j u h => by rw [hB.cell]; exact hu j u h⟩
theorem SubP.of_own {base : Nat} (h : OwnL PieceR 1 base 109 w v l) (hb : l.length ≤ 1099511627776) : SubP w v l := by
  obtain ⟨xs, ho, hr⟩ := h
  have hl := ho.1
  obtain ⟨a, cap, rfl, hc, hm⟩ := own_shape ho
  refine ⟨a, cap, xs, rfl, hc, hm, hb, hr, fun hn => ?_⟩
  rcases ho.2 with ⟨e, h0⟩ | ⟨g, cap', cur, e, hg, hh, _, _, hsz, ht⟩
  · omega
  · injection e with e1 e2 e3
    refine ⟨g, 0, cur, e1, hh, fun j u hu => ?_⟩
    rw [← ht, List.getElem?_take] at hu
    split at hu
    · rw [Nat.zero_add]; simpa using hu
    · cases hu
theorem SubP.gr (h : SubP w v l) (g : Gr w w') : SubP w' v l := by
  obtain ⟨a, cap, xs, hv, hc, hm, hb, hr, hx⟩ := h
  refine ⟨a, cap, xs, hv, hc, hm, hb, hr.map fun _ _ h => h.gr g, fun hn => ?_⟩
  obtain ⟨b, off, cs, e, hB, hu⟩ := hx hn
  exact ⟨b, off, cs, e, hB.gr g, hu⟩
theorem SubP.kg {S : Nat → Prop} {E : TypeId → Bool} (h : SubP w v l) (g : Kg S E w w') (h1 : E 176 = false) (h2 : E 109 = false ∨ ∀ b, v.ownBlock = some b → ¬ S b) : SubP w' v l := by
  obtain ⟨a, cap, xs, rfl, hc, hm, hb, hr, hx⟩ := h
  refine ⟨a, cap, xs, rfl, hc, hm, hb, hr.map fun _ _ h => h.kg g h1, fun hn => ?_⟩
  obtain ⟨b, off, cs, rfl, hB, hu⟩ := hx hn
  refine ⟨b, off, cs, rfl, ?_, hu⟩
  rcases h2 with h2 | h2
  · exact hB.kg g h2
  · exact (g.blk b hB.lt (.inl (h2 b rfl))).trans hB
theorem SubP.sl (h : SubP w v l) : ∃ a n cap, v = .slice a n cap ∧ n ≤ cap ∧ cap ≤ 9223372036854775807 ∧ n ≤ 1099511627776 ∧ Hid (l.length = n) := h.rd.sl
theorem SubP.nil (w : World) : SubP w (.slice none 0 0) [] := ⟨none, 0, [], rfl, Nat.le_refl _, by simp [maxLen], by simp, rfl, fun h => absurd h (by simp)⟩
end
/-- The first piece, and the rest. -/
theorem SubP.cons {w : World} {v : Value} {p : Piece} {r : List Piece} (h : SubP w v (p :: r)) :
    ∃ b off cap pv, v = .slice (some ⟨b, off, none⟩) (r.length + 1) cap ∧ r.length + 1 ≤ cap ∧ cap ≤ 9223372036854775807 ∧ r.length + 1 ≤ 1099511627776 ∧ w.cell? ⟨b, off, none⟩ = some pv ∧ PieceV w p pv ∧ SubP w (.slice (some ⟨b, off + 1, none⟩) r.length (cap - 1)) r := by
  obtain ⟨a, cap, xs, rfl, hc, hm, hb, hr, hx⟩ := h
  obtain ⟨b, off, cs, rfl, hB, hu⟩ := hx (by simp)
  obtain ⟨ds, rest, rfl, hk, ⟨pv, rfl, hp⟩, hr⟩ := hr
  simp only [List.length_cons] at hc hb
  refine ⟨b, off, cap, pv, rfl, hc, by unfold maxLen at hm; omega, hb, ?_, hp, some ⟨b, off + 1, none⟩, cap - 1, rest, rfl, by omega, by omega, by omega, hr, fun _ => ⟨b, off + 1, cs, rfl, hB, fun j u h => ?_⟩⟩
  · rw [hB.cell]; exact hu 0 pv rfl
  · rw [Nat.add_assoc, Nat.add_comm 1 j]; exact hu (j + 1) u h
def wkT (t : TypeId) : Bool := t == 156
/-- The walker block g reads as these pieces; lb: the block that they lie in. -/
def WalkX (w : World) (g : Nat) (lb : Option Nat) (ps : List Piece) : Prop := ∃ sl, Blk w g 156 #[sl] ∧ SubP w sl ps ∧ sl.ownBlock = lb
section
variable {w w' : World} {g : Nat} {lb : Option Nat} {ps : List Piece}
theorem WalkX.gr (h : WalkX w g lb ps) (k : Gr w w') : WalkX w' g lb ps := by
  obtain ⟨sl, hB, hs, e⟩ := h
  exact ⟨sl, hB.gr k, hs.gr k, e⟩
theorem WalkX.kg {S : Nat → Prop} {E : TypeId → Bool} (h : WalkX w g lb ps) (k : Kg S E w w') (h1 : E 176 = false) (h2 : E 109 = false ∨ ∀ b, lb = some b → ¬ S b) (h3 : E 156 = false ∨ ¬ S g) : WalkX w' g lb ps := by
  obtain ⟨sl, hB, hs, e⟩ := h
  subst e
  refine ⟨sl, ?_, hs.kg k h1 h2, rfl⟩
  rcases h3 with h3 | h3
  · exact hB.kg k h3
  · exact (k.blk g hB.lt (.inl h3)).trans hB
theorem WalkX.lt (h : WalkX w g lb ps) : g < w.heap.size := by
  obtain ⟨sl, hB, -⟩ := h
  exact hB.lt
end
set_option maxHeartbeats 400000 in
theorem wown_any (l : List Attr) (v : Value) (w : World) (hl : RdAttrs w v l) :
    Calls Tryz.prog 180 #[.agg #[v]] w fun e w' => ∃ v', e = .returned (.agg #[v']) ∧ OwnL AttrR 4 w.heap.size 176 w' v' l ∧ Gr w w' := by
  obtain ⟨a, n, cap, rfl, -, -, hb, hn⟩ := hl.sl
  go_enter Tryz.func180, Tryz.ntmps180
  go_wp2_with (go_at_call 196; obtain ⟨W, hW, B1, B2, hg⟩ := blk2 w 111 #[.slice a n cap] 111 #[.slice none 0 0]; rw [hW]; have HW := Lib.hid hW; clear hW; refine (attrs_any l _ _ (RdAttrs.gr hl (by repeat (with_reducible first | assumption | exact Gr.refl _ | apply Gr.alloc | apply Gr.drewN | apply Gr.drew | apply Gr.iter | (refine Gr.setCell ?_ (by simp) _) | (refine Gr.trans ?_ (by assumption)))))).mono ?_; rintro e w3 ⟨v', rfl, ho, hg3⟩; obtain ⟨a', n', c', rfl, -⟩ := ho.sl; have b3 := (B2.gr (w' := w3) (by repeat (with_reducible first | assumption | exact Gr.refl _ | apply Gr.alloc | apply Gr.drewN | apply Gr.drew | apply Gr.iter | (refine Gr.setCell ?_ (by simp) _) | (refine Gr.trans ?_ (by assumption))))).cell; have f3 := (B2.gr (w' := w3) (by repeat (with_reducible first | assumption | exact Gr.refl _ | apply Gr.alloc | apply Gr.drewN | apply Gr.drew | apply Gr.iter | (refine Gr.setCell ?_ (by simp) _) | (refine Gr.trans ?_ (by assumption))))).frozen; have z3 := (B2.gr (w' := w3) (by repeat (with_reducible first | assumption | exact Gr.refl _ | apply Gr.alloc | apply Gr.drewN | apply Gr.drew | apply Gr.iter | (refine Gr.setCell ?_ (by simp) _) | (refine Gr.trans ?_ (by assumption))))).lt)
  have B3 := ((B2.gr (w' := w3) (by repeat (with_reducible first | assumption | exact Gr.refl _ | apply Gr.alloc | apply Gr.drewN | apply Gr.drew | apply Gr.iter | (refine Gr.setCell ?_ (by simp) _) | (refine Gr.trans ?_ (by assumption))))).set 0 (.slice a' n' c')).cell
  simp at B3
  refine bodyPost_ret (v := .agg #[.slice a' n' c']) (by simp [results, Tryz.results180, go_sem, B3]) rfl ⟨_, rfl, ?_, ?_⟩
  · have hlt : w.heap.size + 1 < W.heap.size := B2.lt
    refine OwnL.base_le (base := W.heap.size) ?_ hg.size
    refine OwnAL.setCell ?_ (show _ + 1 < _ from hlt) _
    exact ho
  · exact (by repeat (with_reducible first | assumption | exact Gr.refl _ | apply Gr.alloc | apply Gr.drewN | apply Gr.drew | apply Gr.iter | (refine Gr.setCell ?_ (by simp) _) | (refine Gr.trans ?_ (by assumption))))
set_option maxHeartbeats 400000 in
theorem wdone_any (g : Nat) (lb : Option Nat) (ps : List Piece) (w : World) (hW : WalkX w g lb ps) :
    Calls Tryz.prog 126 #[.pointer (some ⟨g, 0, none⟩)] w fun e w' => e = .returned (.bool (decide (ps = []))) ∧ Gr w w' := by
  obtain ⟨sl, hB, hs, -⟩ := hW
  obtain ⟨a, n, cap, rfl, -, -, -, hn⟩ := hs.sl
  have b0 := hB.cell
  go_enter Tryz.func126, Tryz.ntmps126
  go_wp2
  go_ret
  refine ⟨ret_bool ?_, (by repeat (with_reducible first | assumption | exact Gr.refl _ | apply Gr.alloc | apply Gr.drewN | apply Gr.drew | apply Gr.iter | (refine Gr.setCell ?_ (by simp) _) | (refine Gr.trans ?_ (by assumption))))⟩
  have := hn.out
  rw [Bool.eq_iff_iff]
  simp
  constructor
  · intro h; exact List.eq_nil_of_length_eq_zero (by omega)
  · intro h; subst h; simpa using this.symm
/-- The number of a piece's kind. -/
def Piece.k : Piece → Int
  | .ins _ _ _ => 1
  | .emb _ _ _ => 2
  | .ret _ _ => 3
  | .del _ => 4
set_option maxHeartbeats 1000000 in
theorem wkind_any (p : Piece) (v : Value) (w : World) (hp : PieceV w p v) :
    Calls Tryz.prog 187 #[v] w fun e w' => e = .returned (.int .i64 p.k) ∧ Gr w w' := by
  cases p with
  | ins l t n =>
    obtain ⟨sl, rfl, ho, -⟩ := hp
    obtain ⟨a, m, c, rfl, -⟩ := ho.1.sl
    go_enter Tryz.func187, Tryz.ntmps187
    go_wp2
    go_ret
    exact ⟨rfl, (by repeat (with_reducible first | assumption | exact Gr.refl _ | apply Gr.alloc | apply Gr.drewN | apply Gr.drew | apply Gr.iter | (refine Gr.setCell ?_ (by simp) _) | (refine Gr.trans ?_ (by assumption))))⟩
  | emb l t x =>
    obtain ⟨sl, rfl, ho, -⟩ := hp
    obtain ⟨a, m, c, rfl, -⟩ := ho.1.sl
    obtain ⟨T, y, hv⟩ := valV_form x
    rw [hv]
    clear hv
    go_enter Tryz.func187, Tryz.ntmps187
    go_wp2
    go_ret
    exact ⟨rfl, (by repeat (with_reducible first | assumption | exact Gr.refl _ | apply Gr.alloc | apply Gr.drewN | apply Gr.drew | apply Gr.iter | (refine Gr.setCell ?_ (by simp) _) | (refine Gr.trans ?_ (by assumption))))⟩
  | ret l n =>
    obtain ⟨sl, rfl, ho⟩ := hp
    obtain ⟨a, m, c, rfl, -⟩ := ho.1.sl
    go_enter Tryz.func187, Tryz.ntmps187
    go_wp2
    go_ret
    exact ⟨rfl, (by repeat (with_reducible first | assumption | exact Gr.refl _ | apply Gr.alloc | apply Gr.drewN | apply Gr.drew | apply Gr.iter | (refine Gr.setCell ?_ (by simp) _) | (refine Gr.trans ?_ (by assumption))))⟩
  | del n =>
    obtain rfl := hp
    go_enter Tryz.func187, Tryz.ntmps187
    go_wp2
    go_ret
    exact ⟨rfl, (by repeat (with_reducible first | assumption | exact Gr.refl _ | apply Gr.alloc | apply Gr.drewN | apply Gr.drew | apply Gr.iter | (refine Gr.setCell ?_ (by simp) _) | (refine Gr.trans ?_ (by assumption))))⟩
/-- What Kind and Left answer. -/
def kindP : List Piece → Int
  | [] => 3
  | p :: _ => p.k
def leftP : List Piece → Int
  | [] => 1099511627776
  | p :: _ => p.len
set_option maxHeartbeats 1000000 in
theorem wkindw_any (g : Nat) (lb : Option Nat) (ps : List Piece) (w : World) (hW : WalkX w g lb ps) :
    Calls Tryz.prog 170 #[.pointer (some ⟨g, 0, none⟩)] w fun e w' => e = .returned (.int .i64 (kindP ps)) ∧ Gr w w' := by
  cases ps with
  | nil =>
    go_enter Tryz.func170, Tryz.ntmps170
    go_wp2_with (go_at_call 126; refine (wdone_any g lb [] _ (hW.gr (by repeat (with_reducible first | assumption | exact Gr.refl _ | apply Gr.alloc | apply Gr.drewN | apply Gr.drew | apply Gr.iter | (refine Gr.setCell ?_ (by simp) _) | (refine Gr.trans ?_ (by assumption)))))).mono ?_; rw [decide_eq_true (rfl : ([] : List Piece) = [])]; rintro e w1 ⟨rfl, hg1⟩)
    go_ret
    exact ⟨rfl, (by repeat (with_reducible first | assumption | exact Gr.refl _ | apply Gr.alloc | apply Gr.drewN | apply Gr.drew | apply Gr.iter | (refine Gr.setCell ?_ (by simp) _) | (refine Gr.trans ?_ (by assumption))))⟩
  | cons p r =>
    have hW0 := hW
    obtain ⟨sl, hB, hs, -⟩ := hW
    obtain ⟨b, off, cap, pv, rfl, h1, h2, h3, hc, hp, -⟩ := hs.cons
    have hd : decide (p :: r = []) = false := by simp
    have HD := Lib.hid hd; clear hd
    have hp0 := hp
    obtain ⟨T, y, rfl⟩ := hp.form
    have HP := Lib.hid hp0; clear hp0 hp hs
    have b0 := hB.cell
    go_enter Tryz.func170, Tryz.ntmps170
    go_wp2_with (first
      | (go_at_call 126; refine (wdone_any g lb (p :: r) _ (hW0.gr (by repeat (with_reducible first | assumption | exact Gr.refl _ | apply Gr.alloc | apply Gr.drewN | apply Gr.drew | apply Gr.iter | (refine Gr.setCell ?_ (by simp) _) | (refine Gr.trans ?_ (by assumption)))))).mono ?_; rw [HD.out]; rintro e w1 ⟨rfl, hg1⟩; have b1 := (hB.gr (w' := w1) (by repeat (with_reducible first | assumption | exact Gr.refl _ | apply Gr.alloc | apply Gr.drewN | apply Gr.drew | apply Gr.iter | (refine Gr.setCell ?_ (by simp) _) | (refine Gr.trans ?_ (by assumption))))).cell; have c1 := Gr.cell (w := w) (w' := w1) (by repeat (with_reducible first | assumption | exact Gr.refl _ | apply Gr.alloc | apply Gr.drewN | apply Gr.drew | apply Gr.iter | (refine Gr.setCell ?_ (by simp) _) | (refine Gr.trans ?_ (by assumption)))) hc)
      | (go_at_call 187; refine (wkind_any p _ _ (PieceV.gr (w := w) HP.out (by repeat (with_reducible first | assumption | exact Gr.refl _ | apply Gr.alloc | apply Gr.drewN | apply Gr.drew | apply Gr.iter | (refine Gr.setCell ?_ (by simp) _) | (refine Gr.trans ?_ (by assumption)))))).mono ?_; rintro e w2 ⟨rfl, hg2⟩))
    go_ret
    exact ⟨rfl, (by repeat (with_reducible first | assumption | exact Gr.refl _ | apply Gr.alloc | apply Gr.drewN | apply Gr.drew | apply Gr.iter | (refine Gr.setCell ?_ (by simp) _) | (refine Gr.trans ?_ (by assumption))))⟩
set_option maxHeartbeats 1000000 in
theorem wleft_any (g : Nat) (lb : Option Nat) (ps : List Piece) (w : World) (hW : WalkX w g lb ps) :
    Calls Tryz.prog 169 #[.pointer (some ⟨g, 0, none⟩)] w fun e w' => e = .returned (.int .i64 (leftP ps)) ∧ Gr w w' := by
  cases ps with
  | nil =>
    go_enter Tryz.func169, Tryz.ntmps169
    go_wp2_with (go_at_call 126; refine (wdone_any g lb [] _ (hW.gr (by repeat (with_reducible first | assumption | exact Gr.refl _ | apply Gr.alloc | apply Gr.drewN | apply Gr.drew | apply Gr.iter | (refine Gr.setCell ?_ (by simp) _) | (refine Gr.trans ?_ (by assumption)))))).mono ?_; rw [decide_eq_true (rfl : ([] : List Piece) = [])]; rintro e w1 ⟨rfl, hg1⟩)
    go_ret
    exact ⟨rfl, (by repeat (with_reducible first | assumption | exact Gr.refl _ | apply Gr.alloc | apply Gr.drewN | apply Gr.drew | apply Gr.iter | (refine Gr.setCell ?_ (by simp) _) | (refine Gr.trans ?_ (by assumption))))⟩
  | cons p r =>
    have hW0 := hW
    obtain ⟨sl, hB, hs, -⟩ := hW
    obtain ⟨b, off, cap, pv, rfl, h1, h2, h3, hc, hp, -⟩ := hs.cons
    have hd : decide (p :: r = []) = false := by simp
    have HD := Lib.hid hd; clear hd
    obtain ⟨T, y, f, rfl, hm, he, hcall⟩ := len_meth hp
    have HC := Lib.hid hcall; clear hcall hp hs
    have b0 := hB.cell
    go_enter Tryz.func169, Tryz.ntmps169
    go_wp2_with (first
      | (go_at_call 126; refine (wdone_any g lb (p :: r) _ (hW0.gr (by repeat (with_reducible first | assumption | exact Gr.refl _ | apply Gr.alloc | apply Gr.drewN | apply Gr.drew | apply Gr.iter | (refine Gr.setCell ?_ (by simp) _) | (refine Gr.trans ?_ (by assumption)))))).mono ?_; rw [HD.out]; rintro e w1 ⟨rfl, hg1⟩; have b1 := (hB.gr (w' := w1) (by repeat (with_reducible first | assumption | exact Gr.refl _ | apply Gr.alloc | apply Gr.drewN | apply Gr.drew | apply Gr.iter | (refine Gr.setCell ?_ (by simp) _) | (refine Gr.trans ?_ (by assumption))))).cell; have c1 := Gr.cell (w := w) (w' := w1) (by repeat (with_reducible first | assumption | exact Gr.refl _ | apply Gr.alloc | apply Gr.drewN | apply Gr.drew | apply Gr.iter | (refine Gr.setCell ?_ (by simp) _) | (refine Gr.trans ?_ (by assumption)))) hc)
      | (go_at_fn f; refine (HC.out _).mono ?_; rintro e w2 ⟨rfl, hg2⟩))
    go_ret
    exact ⟨rfl, (by repeat (with_reducible first | assumption | exact Gr.refl _ | apply Gr.alloc | apply Gr.drewN | apply Gr.drew | apply Gr.iter | (refine Gr.setCell ?_ (by simp) _) | (refine Gr.trans ?_ (by assumption))))⟩
set_option maxHeartbeats 400000 in
theorem wnew_any {ea : Nat → Addr} (ps : List Piece) (v : Value) (w : World) (hE : Env ea w) (hD : DeltaR w v ps) (hok : PsOk ps) :
    Calls Tryz.prog 78 #[v] w fun e w' => ∃ g lb, e = .returned (.pointer (some ⟨g, 0, none⟩)) ∧ w.heap.size ≤ g ∧ WalkX w' g lb ps ∧ (∀ b, lb = some b → w.heap.size ≤ b) ∧ Gr w w' := by
  have hlen := hD.short
  obtain ⟨gd, sl, rfl, hB, hr⟩ := hD
  have hD : DeltaR w (.pointer (some ⟨gd, 0, none⟩)) ps := ⟨gd, sl, rfl, hB, hr⟩
  clear hB hr
  go_enter Tryz.func78, Tryz.ntmps78
  go_wp2_with (go_at_call 119; refine (dpieces_any ps _ _ (hE.gr (by repeat (with_reducible first | assumption | exact Gr.refl _ | apply Gr.alloc | apply Gr.drewN | apply Gr.drew | apply Gr.iter | (refine Gr.setCell ?_ (by simp) _) | (refine Gr.trans ?_ (by assumption))))) (hD.gr (by repeat (with_reducible first | assumption | exact Gr.refl _ | apply Gr.alloc | apply Gr.drewN | apply Gr.drew | apply Gr.iter | (refine Gr.setCell ?_ (by simp) _) | (refine Gr.trans ?_ (by assumption))))) hok).mono ?_; rintro e w1 ⟨v1, rfl, ho1, hg1⟩; obtain ⟨a1, n1, c1, rfl, -⟩ := ho1.sl; have HO := Lib.hid ho1; clear ho1)
  go_ret
  refine ⟨_, _, rfl, Gr.size (w := w) (w' := w1) (by repeat (with_reducible first | assumption | exact Gr.refl _ | apply Gr.alloc | apply Gr.drewN | apply Gr.drew | apply Gr.iter | (refine Gr.setCell ?_ (by simp) _) | (refine Gr.trans ?_ (by assumption)))), ⟨_, Blk.new _ _ _, (SubP.of_own HO.out hlen).gr ((Gr.refl w1).alloc _), rfl⟩, ?_, (by repeat (with_reducible first | assumption | exact Gr.refl _ | apply Gr.alloc | apply Gr.drewN | apply Gr.drew | apply Gr.iter | (refine Gr.setCell ?_ (by simp) _) | (refine Gr.trans ?_ (by assumption))))⟩
  intro b hb
  obtain ⟨xs, ho, -⟩ := HO.out
  exact own_fr ho b hb
theorem text_take_sz {t : ByteArray} (h : brk t = t.size) (hs : szS t) (k : Nat) : szS (textL ((runes t).take k)) ∧ szS (textL ((runes t).drop k)) := by
  have := cut_back_text h k
  unfold szS at *
  omega
theorem ret_pp {a b c d : Value} (h : a = c) (h' : b = d) : Ending.returned (.tuple #[a, b]) = .returned (.tuple #[c, d]) := by rw [h, h']
end Ve
/- Walks: walk.cut. -/
namespace Ve
open Go Go.RowKit Go.Proofs

set_option maxRecDepth 4000 in
set_option maxHeartbeats 4000000 in
theorem wcut_ins {ea : Nat → Addr} (l : List Attr) (t : ByteArray) (m : Int) (v : Value) (n : Nat) (w : World) (hE : Env ea w) (hp : PieceV w (Piece.ins l t m) v) (hok : pOk (Piece.ins l t m)) (h1 : 1 ≤ n) (h2 : (n : Int) < (Piece.ins l t m).len) :
    Calls Tryz.prog 158 #[v, .int .i64 n] w fun e w' => ∃ v1 v2, e = .returned (.tuple #[v1, v2]) ∧ PieceV w' (cutP (Piece.ins l t m) n).1 v1 ∧ PieceV w' (cutP (Piece.ins l t m) n).2 v2 ∧ Gr w w' := by
  obtain ⟨sl, rfl, ho, hs⟩ := hp
  obtain ⟨k1, k2, k3, k4⟩ := ins_ok.1 hok
  simp only [Piece.len] at h2
  have hle : n ≤ (runes t).length := by omega
  have hm : m ≤ 1099511627776 := by have := runes_le t; have := hs.le40; omega
  obtain ⟨z1, z2⟩ := text_take_sz k2 hs n
  obtain ⟨A, hA⟩ : ∃ A, textL ((runes t).take n) = A := ⟨_, rfl⟩
  obtain ⟨B, hB⟩ : ∃ B, textL ((runes t).drop n) = B := ⟨_, rfl⟩
  simp only [cutP, Int.toNat_natCast]
  rw [hA] at z1 ⊢
  rw [hB] at z2 ⊢
  have HT := Lib.hid (And.intro hA hB); clear hA hB
  have HK := Lib.hid k2; clear k1 k2 k3 k4 hok
  have hb := ho.2
  obtain ⟨a, an, ac, rfl, -⟩ := ho.1.sl
  have HO := Lib.hid ho; clear ho
  go_enter Tryz.func158, Tryz.ntmps158
  go_wp2_with (go_at_call 179; refine (scut_any t n _ (hE.gr (by repeat (with_reducible first | assumption | exact Gr.refl _ | apply Gr.alloc | apply Gr.drewN | apply Gr.drew | apply Gr.iter | (refine Gr.setCell ?_ (by simp) _) | (refine Gr.trans ?_ (by assumption))))) hs HK.out hle).mono ?_; rw [HT.out.1, HT.out.2]; rintro e w1 ⟨rfl, hg1⟩; have c0 := fun o => hg1.cells w.heap.size o (by simp); have z0 : w.heap.size < w1.heap.size := Gr.lt hg1)
  have hfirst : True := trivial
  have hw := Lib.hid (show IntKind.i64.wrap (m - n) = m - n from IntWalk.i64_in _ (by omega))
  go_region_with (first
    | (go_at_call 180; clear hfirst; refine (wown_any l _ _ (RdAttrs.gr (w := w) HO.out.rd (by repeat (with_reducible first | assumption | exact Gr.refl _ | apply Gr.alloc | apply Gr.drewN | apply Gr.drew | apply Gr.iter | (refine Gr.setCell ?_ (by simp) _) | (refine Gr.trans ?_ (by assumption)))))).mono ?_; rintro e w2 ⟨v2, rfl, ho2, hg2⟩; obtain ⟨a2, n2, c2, rfl, -⟩ := ho2.sl; have HA2 := Lib.hid (OwnAL.rd ho2 hb); clear ho2; have d2 := fun o => (Gr.cells (w := w1) (w' := w2) (by repeat (with_reducible first | assumption | exact Gr.refl _ | apply Gr.alloc | apply Gr.drewN | apply Gr.drew | apply Gr.iter | (refine Gr.setCell ?_ (by simp) _) | (refine Gr.trans ?_ (by assumption))))) w.heap.size o (by omega); have y2 : w1.heap.size ≤ w2.heap.size := Gr.size (w := w1) (w' := w2) (by repeat (with_reducible first | assumption | exact Gr.refl _ | apply Gr.alloc | apply Gr.drewN | apply Gr.drew | apply Gr.iter | (refine Gr.setCell ?_ (by simp) _) | (refine Gr.trans ?_ (by assumption)))))
    | (go_at_call 180; refine (wown_any l _ _ (RdAttrs.gr (w := w) HO.out.rd (by repeat (with_reducible first | assumption | exact Gr.refl _ | apply Gr.alloc | apply Gr.drewN | apply Gr.drew | apply Gr.iter | (refine Gr.setCell ?_ (by simp) _) | (refine Gr.trans ?_ (by assumption)))))).mono ?_; rintro e w3 ⟨v3, rfl, ho3, hg3⟩; obtain ⟨a3, n3, c3, rfl, -⟩ := ho3.sl; have HA3 := Lib.hid (OwnAL.rd ho3 hb); clear ho3; have d3 := fun o => (Gr.cells (w := w1) (w' := w3) (by repeat (with_reducible first | assumption | exact Gr.refl _ | apply Gr.alloc | apply Gr.drewN | apply Gr.drew | apply Gr.iter | (refine Gr.setCell ?_ (by simp) _) | (refine Gr.trans ?_ (by assumption))))) w.heap.size o (by omega); have y3 : w1.heap.size ≤ w3.heap.size := Gr.size (w := w1) (w' := w3) (by repeat (with_reducible first | assumption | exact Gr.refl _ | apply Gr.alloc | apply Gr.drewN | apply Gr.drew | apply Gr.iter | (refine Gr.setCell ?_ (by simp) _) | (refine Gr.trans ?_ (by assumption))))))
  all_goals go_wp2
  all_goals first
    | exact bodyPost_ret (v := .tuple #[.iface 190 (.agg #[.slice a2 n2 c2, .string A, .int .i64 n]), .iface 190 (.agg #[.slice a3 n3 c3, .string B, .int .i64 (m - n)])]) (by simp [results, Tryz.results158, go_sem, hw.out]; done) rfl ⟨_, _, rfl, ⟨_, rfl, OwnA.gr (w := w2) HA2.out (by repeat (with_reducible first | assumption | exact Gr.refl _ | apply Gr.alloc | apply Gr.drewN | apply Gr.drew | apply Gr.iter | (refine Gr.setCell ?_ (by simp) _) | (refine Gr.trans ?_ (by assumption)))), z1⟩, ⟨_, rfl, OwnA.gr (w := w3) HA3.out (by repeat (with_reducible first | assumption | exact Gr.refl _ | apply Gr.alloc | apply Gr.drewN | apply Gr.drew | apply Gr.iter | (refine Gr.setCell ?_ (by simp) _) | (refine Gr.trans ?_ (by assumption)))), z2⟩, (by repeat (with_reducible first | assumption | exact Gr.refl _ | apply Gr.alloc | apply Gr.drewN | apply Gr.drew | apply Gr.iter | (refine Gr.setCell ?_ (by simp) _) | (refine Gr.trans ?_ (by assumption))))⟩
    | exact bodyPost_ret (v := .tuple #[.iface 190 (.agg #[.slice a3 n3 c3, .string A, .int .i64 n]), .iface 190 (.agg #[.slice a2 n2 c2, .string B, .int .i64 (m - n)])]) (by simp [results, Tryz.results158, go_sem, hw.out]; done) rfl ⟨_, _, rfl, ⟨_, rfl, OwnA.gr (w := w3) HA3.out (by repeat (with_reducible first | assumption | exact Gr.refl _ | apply Gr.alloc | apply Gr.drewN | apply Gr.drew | apply Gr.iter | (refine Gr.setCell ?_ (by simp) _) | (refine Gr.trans ?_ (by assumption)))), z1⟩, ⟨_, rfl, OwnA.gr (w := w2) HA2.out (by repeat (with_reducible first | assumption | exact Gr.refl _ | apply Gr.alloc | apply Gr.drewN | apply Gr.drew | apply Gr.iter | (refine Gr.setCell ?_ (by simp) _) | (refine Gr.trans ?_ (by assumption)))), z2⟩, (by repeat (with_reducible first | assumption | exact Gr.refl _ | apply Gr.alloc | apply Gr.drewN | apply Gr.drew | apply Gr.iter | (refine Gr.setCell ?_ (by simp) _) | (refine Gr.trans ?_ (by assumption))))⟩
end Ve
/- Walks: walk.cut. -/
namespace Ve
open Go Go.RowKit Go.Proofs

set_option maxRecDepth 4000 in
set_option maxHeartbeats 4000000 in
theorem wcut_ret {ea : Nat → Addr} (l : List Attr) (m : Int) (v : Value) (n : Nat) (w : World) (hE : Env ea w) (hp : PieceV w (Piece.ret l m) v) (hok : pOk (Piece.ret l m)) (h1 : 1 ≤ n) (h2 : (n : Int) < (Piece.ret l m).len) :
    Calls Tryz.prog 158 #[v, .int .i64 n] w fun e w' => ∃ v1 v2, e = .returned (.tuple #[v1, v2]) ∧ PieceV w' (cutP (Piece.ret l m) n).1 v1 ∧ PieceV w' (cutP (Piece.ret l m) n).2 v2 ∧ Gr w w' := by
  obtain ⟨sl, rfl, ho⟩ := hp
  obtain ⟨k1, k2, k3⟩ := ret_ok.1 hok
  simp only [Piece.len] at h2
  simp only [cutP]
  have hb := ho.2
  obtain ⟨a, an, ac, rfl, -⟩ := ho.1.sl
  have HO := Lib.hid ho; clear ho hok k3
  go_enter Tryz.func158, Tryz.ntmps158
  go_wp2
  obtain ⟨W, hW, -, B1, hg⟩ := blk2 w 190 #[.slice none 0 0, .string ⟨#[]⟩, .int .i64 0] 113 #[.slice a an ac, .int .i64 m]
  rw [hW]
  have HW := Lib.hid hW; clear hW
  have b0 := B1.cell 0
  have b1 := B1.cell 1
  simp at b0 b1
  have q0 := B1.lt
  have hfirst : True := trivial
  have hw := Lib.hid (show IntKind.i64.wrap (m - n) = m - n from IntWalk.i64_in _ (by omega))
  go_region_with (first
    | (go_at_call 180; clear hfirst; refine (wown_any l _ _ (RdAttrs.gr (w := w) HO.out.rd (by repeat (with_reducible first | assumption | exact Gr.refl _ | apply Gr.alloc | apply Gr.drewN | apply Gr.drew | apply Gr.iter | (refine Gr.setCell ?_ (by simp) _) | (refine Gr.trans ?_ (by assumption)))))).mono ?_; rintro e w2 ⟨v2, rfl, ho2, hg2⟩; obtain ⟨a2, n2, c2, rfl, -⟩ := ho2.sl; have HA2 := Lib.hid (OwnAL.rd ho2 hb); clear ho2; have d2 := fun o => (Gr.cells (w := W) (w' := w2) (by repeat (with_reducible first | assumption | exact Gr.refl _ | apply Gr.alloc | apply Gr.drewN | apply Gr.drew | apply Gr.iter | (refine Gr.setCell ?_ (by simp) _) | (refine Gr.trans ?_ (by assumption))))) (w.heap.size + 1) o q0; have y2 : W.heap.size ≤ w2.heap.size := Gr.size (w := W) (w' := w2) (by repeat (with_reducible first | assumption | exact Gr.refl _ | apply Gr.alloc | apply Gr.drewN | apply Gr.drew | apply Gr.iter | (refine Gr.setCell ?_ (by simp) _) | (refine Gr.trans ?_ (by assumption)))))
    | (go_at_call 180; refine (wown_any l _ _ (RdAttrs.gr (w := w) HO.out.rd (by repeat (with_reducible first | assumption | exact Gr.refl _ | apply Gr.alloc | apply Gr.drewN | apply Gr.drew | apply Gr.iter | (refine Gr.setCell ?_ (by simp) _) | (refine Gr.trans ?_ (by assumption)))))).mono ?_; rintro e w3 ⟨v3, rfl, ho3, hg3⟩; obtain ⟨a3, n3, c3, rfl, -⟩ := ho3.sl; have HA3 := Lib.hid (OwnAL.rd ho3 hb); clear ho3; have d3 := fun o => (Gr.cells (w := W) (w' := w3) (by repeat (with_reducible first | assumption | exact Gr.refl _ | apply Gr.alloc | apply Gr.drewN | apply Gr.drew | apply Gr.iter | (refine Gr.setCell ?_ (by simp) _) | (refine Gr.trans ?_ (by assumption))))) (w.heap.size + 1) o q0; have y3 : W.heap.size ≤ w3.heap.size := Gr.size (w := W) (w' := w3) (by repeat (with_reducible first | assumption | exact Gr.refl _ | apply Gr.alloc | apply Gr.drewN | apply Gr.drew | apply Gr.iter | (refine Gr.setCell ?_ (by simp) _) | (refine Gr.trans ?_ (by assumption))))))
  all_goals go_wp2
  all_goals first
    | exact bodyPost_ret (v := .tuple #[.iface 113 (.agg #[.slice a2 n2 c2, .int .i64 n]), .iface 113 (.agg #[.slice a3 n3 c3, .int .i64 (m - n)])]) (by simp [results, Tryz.results158, go_sem, hw.out]; done) rfl ⟨_, _, rfl, ⟨_, rfl, OwnA.gr (w := w2) HA2.out (by repeat (with_reducible first | assumption | exact Gr.refl _ | apply Gr.alloc | apply Gr.drewN | apply Gr.drew | apply Gr.iter | (refine Gr.setCell ?_ (by simp) _) | (refine Gr.trans ?_ (by assumption))))⟩, ⟨_, rfl, OwnA.gr (w := w3) HA3.out (by repeat (with_reducible first | assumption | exact Gr.refl _ | apply Gr.alloc | apply Gr.drewN | apply Gr.drew | apply Gr.iter | (refine Gr.setCell ?_ (by simp) _) | (refine Gr.trans ?_ (by assumption))))⟩, (by repeat (with_reducible first | assumption | exact Gr.refl _ | apply Gr.alloc | apply Gr.drewN | apply Gr.drew | apply Gr.iter | (refine Gr.setCell ?_ (by simp) _) | (refine Gr.trans ?_ (by assumption))))⟩
    | exact bodyPost_ret (v := .tuple #[.iface 113 (.agg #[.slice a3 n3 c3, .int .i64 n]), .iface 113 (.agg #[.slice a2 n2 c2, .int .i64 (m - n)])]) (by simp [results, Tryz.results158, go_sem, hw.out]; done) rfl ⟨_, _, rfl, ⟨_, rfl, OwnA.gr (w := w3) HA3.out (by repeat (with_reducible first | assumption | exact Gr.refl _ | apply Gr.alloc | apply Gr.drewN | apply Gr.drew | apply Gr.iter | (refine Gr.setCell ?_ (by simp) _) | (refine Gr.trans ?_ (by assumption))))⟩, ⟨_, rfl, OwnA.gr (w := w2) HA2.out (by repeat (with_reducible first | assumption | exact Gr.refl _ | apply Gr.alloc | apply Gr.drewN | apply Gr.drew | apply Gr.iter | (refine Gr.setCell ?_ (by simp) _) | (refine Gr.trans ?_ (by assumption))))⟩, (by repeat (with_reducible first | assumption | exact Gr.refl _ | apply Gr.alloc | apply Gr.drewN | apply Gr.drew | apply Gr.iter | (refine Gr.setCell ?_ (by simp) _) | (refine Gr.trans ?_ (by assumption))))⟩
end Ve
