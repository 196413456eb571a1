/- The pieces gone over (walk.Each) and the four numbers (measure). -/
import Derived.RangeFuncNested
import Derived.RangeFuncBound
import Derived.RangeFuncCalls
import Derived.RangeFuncLeaves
import Derived.RangeFuncFrom
import Derived.Shelf.Abstract
import Derived.Shelf.RegionOpen
import Derived.WalkKit
import Derived.OwnWalkIn
import Derived.TacticsInMore
import Derived.LoopNIn
import Derived.LoopIn
import Derived.Test.YtnlpmajiccliiaaGreatDoorL0
set_option linter.all false
namespace Ve
open Go Go.RowKit Go.Proofs Go.Shelf

attribute [local go_sem] Oper.semAt_some

/-- Cells of the types that E does not name lie as they lay. -/
structure Kq (E : TypeId → Bool) (w w' : World) : Prop where
  size : w.heap.size ≤ w'.heap.size
  blk : ∀ (b : Nat) c t f, w.heap[b]? = some (.cells c t f) → E t = false → w'.heap[b]? = some (.cells c t f)
section
variable {E : TypeId → Bool} {a w w' : World}
theorem Kq.refl (w : World) : Kq E w w := ⟨Nat.le_refl _, fun _ _ _ _ h _ => h⟩
theorem Kq.trans (h : Kq E a w) (k : Kq E w w') : Kq E a w' := ⟨Nat.le_trans h.size k.size, fun b c t f hb ht => k.blk b c t f (h.blk b c t f hb ht) ht⟩
theorem Kq.of_gr (h : Gr w w') : Kq E w w' := ⟨h.size, fun b c t f hb _ => (h.block (Array.getElem?_eq_some_iff.1 hb).1).trans hb⟩
theorem Kq.alloc (h : Kq E a w) (o : Obj) : Kq E a (w.alloc o) := h.trans (Kq.of_gr ((Gr.refl w).alloc o))
theorem Kq.drew (h : Kq E a w) : Kq E a w.drew := h.trans (Kq.of_gr (Gr.refl w).drew)
theorem Kq.drewN (h : Kq E a w) (n : Nat) : Kq E a (w.drewN n) := h.trans (Kq.of_gr ((Gr.refl w).drewN n))
theorem Kq.put (W : World) (l : Nat) (o o' : Obj) (h : W.heap[l]? = some o) (ho : o.isCells = false) : Kq E W (W.putObj l o') :=
  ⟨by simp [World.putObj], fun b c t f hb _ => by
    rw [World.putObj_heap_other (fun e => by subst e; rw [h] at hb; injection hb with hb; subst hb; simp [Obj.isCells] at ho)]
    exact hb⟩
theorem Kq.set (h : Kq E a w) {g : Nat} {e : TypeId} {cs : Array Value} (hB : Blk w g e cs) (hE : E e = true) (i : Nat) (v : Value) : Kq E a (w.setCell ⟨g, i, none⟩ v) :=
  h.trans ⟨by simp [World.setCell], fun b c t f hb ht => (Below.heap_setCell _ _ _ _ fun e' => by
    subst e'
    (try simp only at hb)
    rw [show w.heap[b]? = some (.cells cs e (0, 0)) from hB] at hb
    injection hb with hb
    injection hb with _ hb
    subst hb
    rw [hE] at ht
    cases ht).trans hb⟩
theorem Kq.setNew (h : Kq E a w) {p : Addr} (hp : a.heap.size ≤ p.block) (v : Value) : Kq E a (w.setCell p v) :=
  ⟨by have := h.size; simpa [World.setCell] using this, fun b c t f hb ht => (Below.heap_setCell w p v b (by have := (Array.getElem?_eq_some_iff.1 hb).1; omega)).trans (h.blk b c t f hb ht)⟩
theorem Kq.own {α : Type} {R : World → α → List Value → Prop} {k base : Nat} {e : TypeId} {v : Value} {l : List α} (h : OwnL R k base e w v l) (hR : ∀ x cs, R w x cs → R w' x cs) (hg : Kq E w w') (hne : E e = false) : OwnL R k base e w' v l := by
  obtain ⟨xs, ⟨h1, h2⟩, hr⟩ := h
  refine ⟨xs, ⟨h1, ?_⟩, hr.map hR⟩
  rcases h2 with h2 | ⟨g, cap, cur, e1, e2, e3, rest⟩
  · exact .inl h2
  · exact .inr ⟨g, cap, cur, e1, e2, hg.blk g _ _ _ e3 hne, rest⟩
theorem Kq.ownA {v : Value} {l : List Attr} (h : OwnA w v l) (hg : Kq E w w') (hne : E 176 = false) : OwnA w' v l := ⟨Kq.own (w := w) h.1 (fun _ _ h => h.any) hg hne, h.2⟩
theorem Kq.piece {p : Piece} {cs : List Value} (h : PieceR w p cs) (g : Kq E w w') (hne : E 176 = false) : PieceR w' p cs := by
  obtain ⟨v, e, h⟩ := h
  refine ⟨v, e, ?_⟩
  cases p with
  | ins l t n => obtain ⟨sl, e, h, s⟩ := h; exact ⟨sl, e, Kq.ownA h g hne, s⟩
  | emb l t x => obtain ⟨sl, e, h, s⟩ := h; exact ⟨sl, e, Kq.ownA h g hne, s⟩
  | ret l n => obtain ⟨sl, e, h⟩ := h; exact ⟨sl, e, Kq.ownA h g hne⟩
  | del n => exact h
end
/-- A piece's value, as far as it can be said without a world. -/
def PieceS : Piece → Value → Prop
  | .ins _ t n, v => ∃ a m c, v = .iface 190 (.agg #[.slice a m c, .string t, .int .i64 n])
  | .emb _ t x, v => ∃ a m c, v = .iface 194 (.agg #[.slice a m c, .string t, valV x])
  | .ret _ n, v => ∃ a m c, v = .iface 113 (.agg #[.slice a m c, .int .i64 n])
  | .del n, v => v = .iface 118 (.agg #[.int .i64 n])
theorem PieceV.s {w : World} {p : Piece} {v : Value} (h : PieceV w p v) : PieceS p v := by
  cases p with
  | ins l t n => obtain ⟨sl, e, h, s⟩ := h; obtain ⟨a, m, c, rfl, -⟩ := h.1.sl; exact ⟨a, m, c, e⟩
  | emb l t x => obtain ⟨sl, e, h, s⟩ := h; obtain ⟨a, m, c, rfl, -⟩ := h.1.sl; exact ⟨a, m, c, e⟩
  | ret l n => obtain ⟨sl, e, h⟩ := h; obtain ⟨a, m, c, rfl, -⟩ := h.1.sl; exact ⟨a, m, c, e⟩
  | del n => exact h
/-- What a round is handed. -/
def Hand : Type := { x : Piece × Value // PieceS x.1 x.2 }
def intT : TypeId → Bool := fun t => t == 3
theorem abides_gr {β : Type} {B : Nat} {J : β → World → Prop} (h : AbidesFrom B J) {s : β} {w w' : World} (hs : J s w) (g : Gr w w') : J s w' :=
  h s w w' none hs ⟨g.os, g.tape, g.output, g.size, fun k hk _ => g.block hk⟩ (fun r e => by cases e)

theorem each_any (a : Option Addr) (w : World) : Calls Tryz.prog 82 #[.pointer a] w fun e w' => e = .returned (.func (.func 125) #[] #[.pointer (some ⟨w.heap.size, 0, none⟩)]) ∧ w' = w.alloc (.cells #[.pointer a] 24) := by
  go_enter Tryz.func82, Tryz.ntmps82
  go_wp2
  go_ret
  exact ⟨rfl, rfl⟩
set_option maxRecDepth 20000 in
set_option maxHeartbeats 4000000 in
theorem each_stops {ea : Nat → Addr} (n Bn : Nat) (hn : 1 ≤ n) (ps : List Piece) (dv : Value) (w : World) (hE : Env ea w) (hbx : w.cell? ⟨Bn, 0, none⟩ = some dv) (hBn : Bn < w.heap.size) (hD : DeltaR w dv ps) (hok : PsOk ps) :
    SeqStopsK Fence.wide n Tryz.prog 125 #[.pointer (some ⟨Bn, 0, none⟩)] (fun x : Hand => #[x.1.2]) (Kq intT) (fun xs => xs.map (·.1.1) = ps) (fun _ => True) ps.length w := fun l J Jx W hW hJ hJx hY h0 => by
  have hlen := hD.short
  refine callsIn_of_wp Tryz.func125 rfl trivial ?_ rfl
  simp only [Tryz.ntmps125, List.size_toArray, List.length_cons, List.length_nil, Nat.reduceAdd, Nat.reduceSub, Array.replicate_succ, Array.replicate_zero, List.push_toArray, List.append_toArray, List.nil_append, List.cons_append]
  have hb : W.cell? ⟨Bn, 0, none⟩ = some dv := (Gr.cell (w := w) (w' := W) hW hbx)
  have hE1 := hE.gr hW
  have hD1 := hD.gr hW
  obtain ⟨g, sl, rfl, hBD, hrd⟩ := hD1
  gi_wp2_with (refine ⟨trivial, ?_⟩; gi_at_call 119; refine (callsIn_wide.2 (dpieces_any ps _ _ hE1 ⟨g, sl, rfl, hBD, hrd⟩ hok)).mono ?_; rintro e w1 ⟨v1, rfl, ho1, hg1⟩; obtain ⟨a1, m, c1, rfl, hn1, hn2, hn3⟩ := ho1.sl)
  gi_loopw [8] (fun i wr => ∃ (k : Nat) (pre : List Hand), k ≤ m ∧ i = .int .i64 k ∧ pre.map (·.1.1) = ps.take k ∧ J pre wr ∧ Kq intT w1 wr) (fun i _ => m - (intOf i).toNat)
  case atStart => exact ⟨0, [], Nat.zero_le _, rfl, by simp, abides_gr hJ h0 hg1, Kq.refl _⟩
  case round =>
    obtain ⟨k, pre, hk, rfl, hpre, hJr, hkq⟩ := hrel
    have hpl : pre.length = k := by
      have := congrArg List.length hpre
      have h3 := hn3.out
      simp at this
      omega
    have Hpre := Lib.hid hpre; clear hpre
    by_cases hlt : k < m
    · have hlt' : (k : Int) < m := by omega
      have how := Kq.own ho1 (fun _ _ h => Kq.piece h hkq rfl) hkq rfl
      obtain ⟨g1, pc, pv, hx, rfl, hge, cx, fx, hpv⟩ := OwnP.at_ how k hlt
      obtain ⟨fn, tmps, assign, body, hy, hR⟩ := hY pre ⟨(pc, pv), hpv.s⟩ wr hJr (by have := hn3.out; omega)
      have Hx := Lib.hid hx; clear hx
      clear how
      dsimp only at hy
      gi_wp2
      refine hR.mono ?_
      rintro e W3 (⟨rfl, hJ3, hk3⟩ | ⟨rfl, hJx3⟩)
      · gi_wp2
        go_roundw
        case rel => exact ⟨k + 1, pre ++ [⟨(pc, pv), hpv.s⟩], by omega, by go_num, by rw [List.map_append, Hpre.out, List.take_succ, Hx.out]; rfl, hJ3, hkq.trans hk3⟩
        case measure => simp [intOf]; omega
      · gi_wp2
        refine bodyPost_ret (results_none rfl _ _ _) rfl ?_
        exact ⟨⟨_, rfl⟩, .inr ⟨pre ++ [⟨(pc, pv), hpv.s⟩], trivial, hJx3⟩⟩
    · obtain rfl : k = m := by omega
      gi_wp2
      go_end0
      exact ⟨⟨_, rfl⟩, .inl ⟨pre, by rw [Hpre.out, List.take_of_length_le (by have := hn3.out; omega)], hJr⟩⟩

theorem others_gr {W W' : World} (h : Gr W W') : KeepsOthers W W' := ⟨h.size, fun _ _ hk _ => (h.block (Array.getElem?_eq_some_iff.1 hk).1).trans hk⟩

/-- The three sums as the program gathers them. -/
def stepI (s : Int) : Piece → Int
  | .ins _ _ n => wrap64 (s + n)
  | .emb _ _ _ => wrap64 (s + 1)
  | .ret _ _ => s
  | .del _ => s
def stepR (s : Int) : Piece → Int
  | .ret _ n => wrap64 (s + n)
  | .ins _ _ _ => s
  | .emb _ _ _ => s
  | .del _ => s
def stepD (s : Int) : Piece → Int
  | .del n => wrap64 (s + n)
  | .ins _ _ _ => s
  | .emb _ _ _ => s
  | .ret _ _ => s
def Piece.t : Piece → Int
  | .ins _ _ _ => 0
  | .emb _ _ _ => 0
  | .ret _ n => n
  | .del _ => 0
def Piece.d : Piece → Int
  | .ins _ _ _ => 0
  | .emb _ _ _ => 0
  | .ret _ _ => 0
  | .del n => n
def dsum (l : List Piece) : Int := (l.map Piece.d).sum
def ksum (l : List Piece) : Int := (l.map Piece.t).sum
theorem ksum_cons (p : Piece) (l : List Piece) : ksum (p :: l) = p.t + ksum l := by simp [ksum]
theorem dsum_cons (p : Piece) (l : List Piece) : dsum (p :: l) = p.d + dsum l := by simp [dsum]
theorem t_nn {p : Piece} (h : 0 ≤ p.len) : 0 ≤ p.t := by cases p <;> simp_all [Piece.len, Piece.t]
theorem d_nn {p : Piece} (h : 0 ≤ p.len) : 0 ≤ p.d := by cases p <;> simp_all [Piece.len, Piece.d]
theorem sums_nn {l : List Piece} (h : ∀ p ∈ l, 0 ≤ p.len) : 0 ≤ isum l ∧ 0 ≤ ksum l ∧ 0 ≤ dsum l ∧ bsum l = ksum l + dsum l ∧ rsum l = isum l + ksum l := by
  induction l with
  | nil => simp [isum, ksum, dsum, bsum, rsum]
  | cons x l ih =>
    have hx := h x (by simp)
    have i := ih (fun p hp => h p (by simp [hp]))
    have h1 := i_nn hx
    have h2 := t_nn hx
    have h3 := d_nn hx
    have e1 : x.b = x.t + x.d := by cases x <;> simp [Piece.b, Piece.t, Piece.d]
    have e2 : x.r = x.i + x.t := by cases x <;> simp [Piece.r, Piece.i, Piece.t]
    rw [isum_cons, ksum_cons, dsum_cons, bsum_cons, rsum_cons]
    omega
theorem fold_sum (f : Int → Piece → Int) (g : Piece → Int) (hf : ∀ s p, 0 ≤ s → 0 ≤ g p → s + g p ≤ 1099511627776 → f s p = s + g p) (hg : ∀ p, 0 ≤ p.len → 0 ≤ g p) :
    ∀ (l : List Piece) (s : Int), (∀ p ∈ l, 0 ≤ p.len) → 0 ≤ s → s + (l.map g).sum ≤ 1099511627776 → l.foldl f s = s + (l.map g).sum
  | [], s, _, _, _ => by simp
  | x :: l, s, h, hs, hb => by
    have h1 := hg x (h x (by simp))
    have h2 : 0 ≤ (l.map g).sum := by
      have h' : ∀ p ∈ l, 0 ≤ p.len := fun p hp => h p (by simp [hp])
      clear hb h
      induction l with
      | nil => simp
      | cons y l ih => rw [List.map_cons, List.sum_cons]; have := hg y (h' y (by simp)); have := ih (fun p hp => h' p (by simp [hp])); omega
    rw [List.map_cons, List.sum_cons] at hb ⊢
    rw [List.foldl_cons, hf s x hs h1 (by omega), fold_sum f g hf hg l _ (fun p hp => h p (by simp [hp])) (by omega) (by omega)]
    omega
theorem foldI {l : List Piece} (h : ∀ p ∈ l, 0 ≤ p.len) (hb : isum l ≤ 1099511627776) : l.foldl stepI 0 = isum l := by
  rw [fold_sum stepI Piece.i (fun s p h1 h2 h3 => by cases p <;> simp only [stepI, Piece.i] at * <;> (first | (unfold wrap64; omega) | omega)) (fun _ h => i_nn h) l 0 h (by omega) (by rw [Int.zero_add]; exact hb), Int.zero_add]; rfl
theorem foldR {l : List Piece} (h : ∀ p ∈ l, 0 ≤ p.len) (hb : ksum l ≤ 1099511627776) : l.foldl stepR 0 = ksum l := by
  rw [fold_sum stepR Piece.t (fun s p h1 h2 h3 => by cases p <;> simp only [stepR, Piece.t] at * <;> (first | (unfold wrap64; omega) | omega)) (fun _ h => t_nn h) l 0 h (by omega) (by rw [Int.zero_add]; exact hb), Int.zero_add]; rfl
theorem foldD {l : List Piece} (h : ∀ p ∈ l, 0 ≤ p.len) (hb : dsum l ≤ 1099511627776) : l.foldl stepD 0 = dsum l := by
  rw [fold_sum stepD Piece.d (fun s p h1 h2 h3 => by cases p <;> simp only [stepD, Piece.d] at * <;> (first | (unfold wrap64; omega) | omega)) (fun _ h => d_nn h) l 0 h (by omega) (by rw [Int.zero_add]; exact hb), Int.zero_add]; rfl
/-- What the three boxes hold between two rounds. -/
def Sums (B : Nat) (pre : List Hand) (W : World) : Prop :=
  Blk W B 3 #[.int .i64 ((pre.map (·.1.1)).foldl stepI 0)] ∧ Blk W (B + 1) 3 #[.int .i64 ((pre.map (·.1.1)).foldl stepR 0)] ∧ Blk W (B + 1 + 1) 3 #[.int .i64 ((pre.map (·.1.1)).foldl stepD 0)]
theorem blk_kept {W W' : World} {g : Nat} {e : TypeId} {cs : Array Value} {row : Option Nat} (h : Blk W g e cs) (hg : W.grownBy W' row) (hr : ∀ r, row = some r → ∃ o : Obj, W.heap[r]? = some o ∧ o.isCells = false) : Blk W' g e cs := by
  refine (hg.block g h.lt fun e' => ?_).trans h
  obtain ⟨o, ho, hc⟩ := hr g e'.symm
  rw [show W.heap[g]? = some (.cells cs e (0, 0)) from h] at ho
  injection ho with ho
  subst ho
  simp [Obj.isCells] at hc
theorem Sums.own (B : Nat) : Own (Sums B) := fun s W W' row hs hg hr => ⟨blk_kept hs.1 hg hr, blk_kept hs.2.1 hg hr, blk_kept hs.2.2 hg hr⟩
set_option maxRecDepth 100000 in
set_option maxHeartbeats 4000000 in
theorem lengths_any {ea : Nat → Addr} (ps : List Piece) (v : Value) (w : World) (hE : Env ea w) (hD : DeltaR w v ps) (hok : PsOk ps) (hb : bsum ps ≤ 1099511627776) (hr : rsum ps ≤ 1099511627776) :
    Calls Tryz.prog 106 #[v] w fun e w' => e = .returned (.tuple #[.int .i64 (isum ps), .int .i64 (ksum ps), .int .i64 (dsum ps)]) ∧ Gr w w' := by
  obtain ⟨N, hN⟩ : ∃ N : Nat, N = 5 := ⟨5, rfl⟩
  refine (callsIn_wide (n := N)).1 ?_
  obtain ⟨g, sl, rfl, hBD, hrd⟩ := hD
  have hnn := hok.nn
  obtain ⟨s1, s2, s3, s4, s5⟩ := sums_nn hnn
  have r1 := foldI hnn (by omega)
  have r2 := foldR hnn (by omega)
  have r3 := foldD hnn (by omega)
  have R := Lib.hid (And.intro r1 (And.intro r2 r3)); clear r1 r2 r3
  have h1 : 1 ≤ N := by omega
  have hmx : Tryz.prog.follows .mixedOrders = true := by kernel_rfl
  refine callsIn_of_wp_marks Tryz.func106 rfl trivial ?_ rfl
  simp only [Tryz.ntmps106, List.size_toArray, List.length_cons, List.length_nil, Nat.reduceAdd, Nat.reduceSub, Array.replicate_succ, Array.replicate_zero, List.push_toArray, List.append_toArray, List.nil_append, List.cons_append]
  gi_wp2_with (refine ⟨trivial, ?_⟩; gi_at_call 82; refine (callsIn_wide.2 (each_any _ _)).mono ?_; rintro e w1 ⟨rfl, rfl⟩)
  have hB0 : Below w.heap.size w ((((w.alloc (.cells #[.int .i64 0] 3)).alloc (.cells #[.int .i64 0] 3)).alloc (.cells #[.int .i64 0] 3)).alloc (.cells #[.pointer (some ⟨g, 0, none⟩)] 24)) := ((((Gr.refl w).alloc _).alloc _).alloc _).alloc _
  have hS0 : Sums w.heap.size [] ((((w.alloc (.cells #[.int .i64 0] 3)).alloc (.cells #[.int .i64 0] 3)).alloc (.cells #[.int .i64 0] 3)).alloc (.cells #[.pointer (some ⟨g, 0, none⟩)] 24)) :=
    ⟨(((Blk.new w 3 #[.int .i64 0]).alloc _).alloc _).alloc _,
      by have h := Blk.new (w.alloc (.cells #[.int .i64 0] 3)) 3 #[.int .i64 0]; rw [World.size_alloc] at h; exact (h.alloc _).alloc _,
      by have h := Blk.new ((w.alloc (.cells #[.int .i64 0] 3)).alloc (.cells #[.int .i64 0] 3)) 3 #[.int .i64 0]; rw [World.size_alloc, World.size_alloc] at h; exact h.alloc _⟩
  have hX0 : Blk ((((w.alloc (.cells #[.int .i64 0] 3)).alloc (.cells #[.int .i64 0] 3)).alloc (.cells #[.int .i64 0] 3)).alloc (.cells #[.pointer (some ⟨g, 0, none⟩)] 24)) (w.heap.size + 1 + 1 + 1) 24 #[.pointer (some ⟨g, 0, none⟩)] := by
    have h := Blk.new (((w.alloc (.cells #[.int .i64 0] 3)).alloc (.cells #[.int .i64 0] 3)).alloc (.cells #[.int .i64 0] 3)) 24 #[.pointer (some ⟨g, 0, none⟩)]
    rw [World.size_alloc, World.size_alloc, World.size_alloc] at h
    exact h
  refine wpIn_rangeFunc_ownF rfl h1 (gf := 125) (lb := #[.pointer (some ⟨w.heap.size + 1 + 1 + 1, 0, none⟩)]) rfl trivial (enters_of Tryz.func125 (by kernel_rfl) rfl)
    (each_stops (N - 1) (w.heap.size + 1 + 1 + 1) (by omega) ps _ _ (hE.gr hB0) (hX0.cell 0) hX0.lt (DeltaR.gr (w := w) ⟨g, sl, rfl, hBD, hrd⟩ hB0) hok) (fun h k => h.trans k) (fun W l o o' _ h ho _ => Kq.put W l o o' h ho) (Below.refl _ _) (fun _ => rfl)
    (fun pre W => Sums w.heap.size pre W ∧ Below w.heap.size w W)
    (fun _ _ _ => False)
    (OwnFrom.and (Own.from (Sums.own _) _) (ownFrom_below (Nat.le_refl _) (by simp; omega)))
    (fun _ _ _ _ _ hs _ _ => hs)
    ⟨hS0, hB0⟩
    (fun x => { tmps := #[.pointer (some ⟨g, 0, none⟩), undef, .int .i64 0, .int .i64 0, .int .i64 0, .pointer (some ⟨w.heap.size, 0, none⟩), .pointer (some ⟨w.heap.size + 1, 0, none⟩), .pointer (some ⟨w.heap.size + 1 + 1, 0, none⟩), x.1.2, undef, undef, undef, .pointer (some ⟨g, 0, none⟩), .func (.func 125) #[] #[.pointer (some ⟨w.heap.size + 1 + 1 + 1, 0, none⟩)], x.1.2, undef, undef, undef, undef, undef, undef, undef, undef, undef, undef, undef, undef, undef, undef, undef, undef, undef, undef, undef, undef, undef, undef], defers := [] }) ?assign ?body ?done ?stop
  case assign =>
    intro l x W K hK
    gi_wp2
    exact hK
  case body =>
    rintro L pre x W ⟨⟨hb1, hb2, hb3⟩, hB⟩ _
    dsimp only
    obtain ⟨p, hp⟩ : ∃ p, x.1.1 = p := ⟨_, rfl⟩
    obtain ⟨pv, hpv⟩ : ∃ pv, x.1.2 = pv := ⟨_, rfl⟩
    have hs := x.2
    rw [hp, hpv] at hs
    rw [hpv]
    have hd : 1 ≤ N - 1 - 1 := by omega
    have hG : Gr w W := hB
    have HP := Lib.hid hp; clear hp hpv
    obtain ⟨S1, hS1⟩ : ∃ S1, (pre.map (·.1.1)).foldl stepI 0 = S1 := ⟨_, rfl⟩
    obtain ⟨S2, hS2⟩ : ∃ S2, (pre.map (·.1.1)).foldl stepR 0 = S2 := ⟨_, rfl⟩
    obtain ⟨S3, hS3⟩ : ∃ S3, (pre.map (·.1.1)).foldl stepD 0 = S3 := ⟨_, rfl⟩
    rw [hS1] at hb1
    rw [hS2] at hb2
    rw [hS3] at hb3
    have HS := Lib.hid (And.intro hS1 (And.intro hS2 hS3)); clear hS1 hS2 hS3
    have c1 := hb1.cell
    have c2 := hb2.cell
    have c3 := hb3.cell
    have f1 := hb1.frozen
    have f2 := hb2.frozen
    have f3 := hb3.frozen
    have z1 := hb1.lt
    have z2 := hb2.lt
    have z3 := hb3.lt
    have hsz := hB.size
    cases p with
    | ret l n =>
      obtain ⟨a, m, c, rfl⟩ := hs
      gi_wp2
      refine ⟨(KeepsOthers.setCell _ _ _).trans (KeepsOthers.alloc _ _), ((Kq.refl W).set hb2 rfl 0 _).alloc _, ⟨?_, ?_, ?_⟩, (hB.setCell (p := ⟨w.heap.size + 1, 0, none⟩) (by simp) _).alloc (by simpa [World.setCell] using hsz) _⟩
      · rw [List.map_append, List.foldl_append, HS.out.1]; simp only [List.map_cons, List.map_nil, List.foldl_cons, List.foldl_nil, HP.out, stepI]; exact (hb1.far (hp := by simp) _).alloc _
      · rw [List.map_append, List.foldl_append, HS.out.2.1]; simp only [List.map_cons, List.map_nil, List.foldl_cons, List.foldl_nil, HP.out, stepR]; exact (hb2.set 0 _).alloc _
      · rw [List.map_append, List.foldl_append, HS.out.2.2]; simp only [List.map_cons, List.map_nil, List.foldl_cons, List.foldl_nil, HP.out, stepD]; exact (hb3.far (hp := by simp) _).alloc _
    | del n =>
      obtain rfl := hs
      gi_wp2
      refine ⟨(KeepsOthers.setCell _ _ _).trans (KeepsOthers.alloc _ _), ((Kq.refl W).set hb3 rfl 0 _).alloc _, ⟨?_, ?_, ?_⟩, (hB.setCell (p := ⟨w.heap.size + 1 + 1, 0, none⟩) (by simp; omega) _).alloc (by simpa [World.setCell] using hsz) _⟩
      · rw [List.map_append, List.foldl_append, HS.out.1]; simp only [List.map_cons, List.map_nil, List.foldl_cons, List.foldl_nil, HP.out, stepI]; exact (hb1.far (hp := by simp; omega) _).alloc _
      · rw [List.map_append, List.foldl_append, HS.out.2.1]; simp only [List.map_cons, List.map_nil, List.foldl_cons, List.foldl_nil, HP.out, stepR]; exact (hb2.far (hp := by simp) _).alloc _
      · rw [List.map_append, List.foldl_append, HS.out.2.2]; simp only [List.map_cons, List.map_nil, List.foldl_cons, List.foldl_nil, HP.out, stepD]; exact (hb3.set 0 _).alloc _
    | ins l t n =>
      obtain ⟨a, m, c, rfl⟩ := hs
      gi_wp2
      gi_region_with_o (refine ⟨trivial, ?_⟩; gi_at_call 227; refine (CallsIn.inRound L (callsIn_wide.2 (insLen_any _ _ _ _ ⟨_, _, _, rfl⟩))).mono ?_; rintro e w' ⟨rfl, hg'⟩; have hb1' := Blk.gr (w' := w') hb1 (by repeat (with_reducible first | assumption | exact Gr.refl _ | apply Gr.alloc | apply Gr.drewN | apply Gr.drew | apply Gr.iter | (refine Gr.setCell ?_ (by simp) _) | (refine Gr.trans ?_ (by assumption)))); have c1' := hb1'.cell; have f1' := hb1'.frozen; have z1' := hb1'.lt)
      all_goals gi_wp2
      all_goals (try go_bits)
      all_goals refine ⟨(others_gr (W' := w') (by repeat (with_reducible first | assumption | exact Gr.refl _ | apply Gr.alloc | apply Gr.drewN | apply Gr.drew | apply Gr.iter | (refine Gr.setCell ?_ (by simp) _) | (refine Gr.trans ?_ (by assumption))))).trans (KeepsOthers.setCell _ _ _), (Kq.of_gr (w' := w') (by repeat (with_reducible first | assumption | exact Gr.refl _ | apply Gr.alloc | apply Gr.drewN | apply Gr.drew | apply Gr.iter | (refine Gr.setCell ?_ (by simp) _) | (refine Gr.trans ?_ (by assumption))))).set hb1' rfl 0 _, ⟨?_, ?_, ?_⟩, Below.setCell (p := ⟨w.heap.size, 0, none⟩) (show Gr w w' from (by repeat (with_reducible first | assumption | exact Gr.refl _ | apply Gr.alloc | apply Gr.drewN | apply Gr.drew | apply Gr.iter | (refine Gr.setCell ?_ (by simp) _) | (refine Gr.trans ?_ (by assumption))))) (Nat.le_refl _) _⟩
      all_goals rw [List.map_append, List.foldl_append]
      all_goals first | rw [HS.out.1] | rw [HS.out.2.1] | rw [HS.out.2.2]
      all_goals simp only [List.map_cons, List.map_nil, List.foldl_cons, List.foldl_nil, HP.out, stepI, stepR, stepD]
      all_goals first | exact hb1'.set 0 _ | exact (Blk.gr (w' := w') hb2 (by repeat (with_reducible first | assumption | exact Gr.refl _ | apply Gr.alloc | apply Gr.drewN | apply Gr.drew | apply Gr.iter | (refine Gr.setCell ?_ (by simp) _) | (refine Gr.trans ?_ (by assumption))))).far (hp := by simp) _ | exact (Blk.gr (w' := w') hb3 (by repeat (with_reducible first | assumption | exact Gr.refl _ | apply Gr.alloc | apply Gr.drewN | apply Gr.drew | apply Gr.iter | (refine Gr.setCell ?_ (by simp) _) | (refine Gr.trans ?_ (by assumption))))).far (hp := by simp; omega) _
    | emb l t x2 =>
      obtain ⟨a, m, c, rfl⟩ := hs
      obtain ⟨T, y, hv⟩ := valV_form x2
      rw [hv]
      clear hv
      gi_wp2
      gi_region_with_o (refine ⟨trivial, ?_⟩; gi_at_call 229; refine (CallsIn.inRound L (callsIn_wide.2 (embLen_any _ _ _ _ ⟨_, _, _, rfl⟩ ⟨_, _, rfl⟩))).mono ?_; rintro e w' ⟨rfl, hg'⟩; have hb1' := Blk.gr (w' := w') hb1 (by repeat (with_reducible first | assumption | exact Gr.refl _ | apply Gr.alloc | apply Gr.drewN | apply Gr.drew | apply Gr.iter | (refine Gr.setCell ?_ (by simp) _) | (refine Gr.trans ?_ (by assumption)))); have c1' := hb1'.cell; have f1' := hb1'.frozen; have z1' := hb1'.lt)
      all_goals gi_wp2
      all_goals (try go_bits)
      all_goals refine ⟨(others_gr (W' := w') (by repeat (with_reducible first | assumption | exact Gr.refl _ | apply Gr.alloc | apply Gr.drewN | apply Gr.drew | apply Gr.iter | (refine Gr.setCell ?_ (by simp) _) | (refine Gr.trans ?_ (by assumption))))).trans (KeepsOthers.setCell _ _ _), (Kq.of_gr (w' := w') (by repeat (with_reducible first | assumption | exact Gr.refl _ | apply Gr.alloc | apply Gr.drewN | apply Gr.drew | apply Gr.iter | (refine Gr.setCell ?_ (by simp) _) | (refine Gr.trans ?_ (by assumption))))).set hb1' rfl 0 _, ⟨?_, ?_, ?_⟩, Below.setCell (p := ⟨w.heap.size, 0, none⟩) (show Gr w w' from (by repeat (with_reducible first | assumption | exact Gr.refl _ | apply Gr.alloc | apply Gr.drewN | apply Gr.drew | apply Gr.iter | (refine Gr.setCell ?_ (by simp) _) | (refine Gr.trans ?_ (by assumption))))) (Nat.le_refl _) _⟩
      all_goals rw [List.map_append, List.foldl_append]
      all_goals first | rw [HS.out.1] | rw [HS.out.2.1] | rw [HS.out.2.2]
      all_goals simp only [List.map_cons, List.map_nil, List.foldl_cons, List.foldl_nil, HP.out, stepI, stepR, stepD]
      all_goals first | exact hb1'.set 0 _ | exact (Blk.gr (w' := w') hb2 (by repeat (with_reducible first | assumption | exact Gr.refl _ | apply Gr.alloc | apply Gr.drewN | apply Gr.drew | apply Gr.iter | (refine Gr.setCell ?_ (by simp) _) | (refine Gr.trans ?_ (by assumption))))).far (hp := by simp) _ | exact (Blk.gr (w' := w') hb3 (by repeat (with_reducible first | assumption | exact Gr.refl _ | apply Gr.alloc | apply Gr.drewN | apply Gr.drew | apply Gr.iter | (refine Gr.setCell ?_ (by simp) _) | (refine Gr.trans ?_ (by assumption))))).far (hp := by simp; omega) _
  case done =>
    rintro D ys W hD hys ⟨⟨hb1, hb2, hb3⟩, hB⟩ hK
    rw [hys, R.out.1] at hb1
    rw [hys, R.out.2.1] at hb2
    rw [hys, R.out.2.2] at hb3
    have c1 := hb1.cell
    have c2 := hb2.cell
    have c3 := hb3.cell
    gi_wp2
    gi_region
    all_goals gi_wp2
    have hK' := (KeepsOthers.drew W).same D _ hK rfl
    refine ⟨by simp, .inl ⟨_, _, rfl, run_takeDeferred hK', ?_⟩⟩
    refine ⟨.tuple #[.int .i64 (isum ps), .int .i64 (ksum ps), .int .i64 (dsum ps)], ?_, rfl, hB.drew.trans (belowK_b (w := w) (Nat.le_refl _) W.drew D _ _ (by simp at hD; omega) hK' rfl rfl)⟩
    simp [results, Tryz.f106, go_sem]
  case stop =>
    rintro D c pre W _ _ h _
    exact h.elim

end Ve
/- The four numbers of a delta: Base, Result, Inserted, Deleted; Document. -/
namespace Ve
open Go Go.RowKit Go.Proofs


set_option maxHeartbeats 400000 in
theorem base_any {ea : Nat → Addr} (ps : List Piece) (v : Value) (w : World) (hE : Env ea w) (hD : DeltaR w v ps) (hok : PsOk ps) (hb : bsum ps ≤ 1099511627776) (hr : rsum ps ≤ 1099511627776) :
    Calls Tryz.prog 52 #[v] w fun e w' => e = .returned (.int .i64 (bsum ps)) ∧ Gr w w' := by
  obtain ⟨g, sl, rfl, hBD, hrd⟩ := hD
  have hD : DeltaR w (.pointer (some ⟨g, 0, none⟩)) ps := ⟨g, sl, rfl, hBD, hrd⟩
  obtain ⟨s1, s2, s3, s4, s5⟩ := sums_nn hok.nn
  have HB := Lib.hid (And.intro hb hr)
  rw [s4] at hb; (try rw [s4])
  rw [s5] at hr; (try rw [s5])
  obtain ⟨I, hI⟩ : ∃ I, isum ps = I := ⟨_, rfl⟩
  obtain ⟨K, hK⟩ : ∃ K, ksum ps = K := ⟨_, rfl⟩
  obtain ⟨D, hDD⟩ : ∃ D, dsum ps = D := ⟨_, rfl⟩
  rw [hI] at s1 hr; (try rw [hI])
  rw [hK] at s2 hr hb; (try rw [hK])
  rw [hDD] at s3 hb; (try rw [hDD])
  have H := Lib.hid (And.intro hI (And.intro hK hDD)); clear hI hK hDD s4 s5 hBD hrd
  go_enter Tryz.func52, Tryz.ntmps52
  go_wp2_with (go_at_call 106; refine (lengths_any ps _ _ (hE.gr (by repeat (with_reducible first | assumption | exact Gr.refl _ | apply Gr.alloc | apply Gr.drewN | apply Gr.drew | apply Gr.iter | (refine Gr.setCell ?_ (by simp) _) | (refine Gr.trans ?_ (by assumption))))) (hD.gr (by repeat (with_reducible first | assumption | exact Gr.refl _ | apply Gr.alloc | apply Gr.drewN | apply Gr.drew | apply Gr.iter | (refine Gr.setCell ?_ (by simp) _) | (refine Gr.trans ?_ (by assumption))))) hok HB.out.1 HB.out.2).mono ?_; rw [H.out.1, H.out.2.1, H.out.2.2]; rintro e w1 ⟨rfl, hg1⟩)
  go_ret
  exact ⟨rfl, (by repeat (with_reducible first | assumption | exact Gr.refl _ | apply Gr.alloc | apply Gr.drewN | apply Gr.drew | apply Gr.iter | (refine Gr.setCell ?_ (by simp) _) | (refine Gr.trans ?_ (by assumption))))⟩


set_option maxHeartbeats 400000 in
theorem result_any {ea : Nat → Addr} (ps : List Piece) (v : Value) (w : World) (hE : Env ea w) (hD : DeltaR w v ps) (hok : PsOk ps) (hb : bsum ps ≤ 1099511627776) (hr : rsum ps ≤ 1099511627776) :
    Calls Tryz.prog 53 #[v] w fun e w' => e = .returned (.int .i64 (rsum ps)) ∧ Gr w w' := by
  obtain ⟨g, sl, rfl, hBD, hrd⟩ := hD
  have hD : DeltaR w (.pointer (some ⟨g, 0, none⟩)) ps := ⟨g, sl, rfl, hBD, hrd⟩
  obtain ⟨s1, s2, s3, s4, s5⟩ := sums_nn hok.nn
  have HB := Lib.hid (And.intro hb hr)
  rw [s4] at hb; (try rw [s4])
  rw [s5] at hr; (try rw [s5])
  obtain ⟨I, hI⟩ : ∃ I, isum ps = I := ⟨_, rfl⟩
  obtain ⟨K, hK⟩ : ∃ K, ksum ps = K := ⟨_, rfl⟩
  obtain ⟨D, hDD⟩ : ∃ D, dsum ps = D := ⟨_, rfl⟩
  rw [hI] at s1 hr; (try rw [hI])
  rw [hK] at s2 hr hb; (try rw [hK])
  rw [hDD] at s3 hb; (try rw [hDD])
  have H := Lib.hid (And.intro hI (And.intro hK hDD)); clear hI hK hDD s4 s5 hBD hrd
  go_enter Tryz.func53, Tryz.ntmps53
  go_wp2_with (go_at_call 106; refine (lengths_any ps _ _ (hE.gr (by repeat (with_reducible first | assumption | exact Gr.refl _ | apply Gr.alloc | apply Gr.drewN | apply Gr.drew | apply Gr.iter | (refine Gr.setCell ?_ (by simp) _) | (refine Gr.trans ?_ (by assumption))))) (hD.gr (by repeat (with_reducible first | assumption | exact Gr.refl _ | apply Gr.alloc | apply Gr.drewN | apply Gr.drew | apply Gr.iter | (refine Gr.setCell ?_ (by simp) _) | (refine Gr.trans ?_ (by assumption))))) hok HB.out.1 HB.out.2).mono ?_; rw [H.out.1, H.out.2.1, H.out.2.2]; rintro e w1 ⟨rfl, hg1⟩)
  go_ret
  exact ⟨rfl, (by repeat (with_reducible first | assumption | exact Gr.refl _ | apply Gr.alloc | apply Gr.drewN | apply Gr.drew | apply Gr.iter | (refine Gr.setCell ?_ (by simp) _) | (refine Gr.trans ?_ (by assumption))))⟩


set_option maxHeartbeats 400000 in
theorem inserted_any {ea : Nat → Addr} (ps : List Piece) (v : Value) (w : World) (hE : Env ea w) (hD : DeltaR w v ps) (hok : PsOk ps) (hb : bsum ps ≤ 1099511627776) (hr : rsum ps ≤ 1099511627776) :
    Calls Tryz.prog 54 #[v] w fun e w' => e = .returned (.int .i64 (isum ps)) ∧ Gr w w' := by
  obtain ⟨g, sl, rfl, hBD, hrd⟩ := hD
  have hD : DeltaR w (.pointer (some ⟨g, 0, none⟩)) ps := ⟨g, sl, rfl, hBD, hrd⟩
  obtain ⟨s1, s2, s3, s4, s5⟩ := sums_nn hok.nn
  have HB := Lib.hid (And.intro hb hr)
  rw [s4] at hb; (try rw [s4])
  rw [s5] at hr; (try rw [s5])
  obtain ⟨I, hI⟩ : ∃ I, isum ps = I := ⟨_, rfl⟩
  obtain ⟨K, hK⟩ : ∃ K, ksum ps = K := ⟨_, rfl⟩
  obtain ⟨D, hDD⟩ : ∃ D, dsum ps = D := ⟨_, rfl⟩
  rw [hI] at s1 hr; (try rw [hI])
  rw [hK] at s2 hr hb; (try rw [hK])
  rw [hDD] at s3 hb; (try rw [hDD])
  have H := Lib.hid (And.intro hI (And.intro hK hDD)); clear hI hK hDD s4 s5 hBD hrd
  go_enter Tryz.func54, Tryz.ntmps54
  go_wp2_with (go_at_call 106; refine (lengths_any ps _ _ (hE.gr (by repeat (with_reducible first | assumption | exact Gr.refl _ | apply Gr.alloc | apply Gr.drewN | apply Gr.drew | apply Gr.iter | (refine Gr.setCell ?_ (by simp) _) | (refine Gr.trans ?_ (by assumption))))) (hD.gr (by repeat (with_reducible first | assumption | exact Gr.refl _ | apply Gr.alloc | apply Gr.drewN | apply Gr.drew | apply Gr.iter | (refine Gr.setCell ?_ (by simp) _) | (refine Gr.trans ?_ (by assumption))))) hok HB.out.1 HB.out.2).mono ?_; rw [H.out.1, H.out.2.1, H.out.2.2]; rintro e w1 ⟨rfl, hg1⟩)
  go_ret
  exact ⟨rfl, (by repeat (with_reducible first | assumption | exact Gr.refl _ | apply Gr.alloc | apply Gr.drewN | apply Gr.drew | apply Gr.iter | (refine Gr.setCell ?_ (by simp) _) | (refine Gr.trans ?_ (by assumption))))⟩


set_option maxHeartbeats 400000 in
theorem mdeleted_any {ea : Nat → Addr} (ps : List Piece) (v : Value) (w : World) (hE : Env ea w) (hD : DeltaR w v ps) (hok : PsOk ps) (hb : bsum ps ≤ 1099511627776) (hr : rsum ps ≤ 1099511627776) :
    Calls Tryz.prog 55 #[v] w fun e w' => e = .returned (.int .i64 (dsum ps)) ∧ Gr w w' := by
  obtain ⟨g, sl, rfl, hBD, hrd⟩ := hD
  have hD : DeltaR w (.pointer (some ⟨g, 0, none⟩)) ps := ⟨g, sl, rfl, hBD, hrd⟩
  obtain ⟨s1, s2, s3, s4, s5⟩ := sums_nn hok.nn
  have HB := Lib.hid (And.intro hb hr)
  rw [s4] at hb; (try rw [s4])
  rw [s5] at hr; (try rw [s5])
  obtain ⟨I, hI⟩ : ∃ I, isum ps = I := ⟨_, rfl⟩
  obtain ⟨K, hK⟩ : ∃ K, ksum ps = K := ⟨_, rfl⟩
  obtain ⟨D, hDD⟩ : ∃ D, dsum ps = D := ⟨_, rfl⟩
  rw [hI] at s1 hr; (try rw [hI])
  rw [hK] at s2 hr hb; (try rw [hK])
  rw [hDD] at s3 hb; (try rw [hDD])
  have H := Lib.hid (And.intro hI (And.intro hK hDD)); clear hI hK hDD s4 s5 hBD hrd
  go_enter Tryz.func55, Tryz.ntmps55
  go_wp2_with (go_at_call 106; refine (lengths_any ps _ _ (hE.gr (by repeat (with_reducible first | assumption | exact Gr.refl _ | apply Gr.alloc | apply Gr.drewN | apply Gr.drew | apply Gr.iter | (refine Gr.setCell ?_ (by simp) _) | (refine Gr.trans ?_ (by assumption))))) (hD.gr (by repeat (with_reducible first | assumption | exact Gr.refl _ | apply Gr.alloc | apply Gr.drewN | apply Gr.drew | apply Gr.iter | (refine Gr.setCell ?_ (by simp) _) | (refine Gr.trans ?_ (by assumption))))) hok HB.out.1 HB.out.2).mono ?_; rw [H.out.1, H.out.2.1, H.out.2.2]; rintro e w1 ⟨rfl, hg1⟩)
  go_ret
  exact ⟨rfl, (by repeat (with_reducible first | assumption | exact Gr.refl _ | apply Gr.alloc | apply Gr.drewN | apply Gr.drew | apply Gr.iter | (refine Gr.setCell ?_ (by simp) _) | (refine Gr.trans ?_ (by assumption))))⟩

end Ve
