/- Each, told: of each piece, that its attributes lie in a block of their own, which the body may turn. -/
import Derived.Test.YtapolkhdikdjbaaGreatDoorRN
set_option linter.all false
namespace Ve
open Go Go.RowKit Go.Proofs Go.Shelf

/-- A row of pieces' values. -/
def PieceC (_ : World) (x : Piece × Value) (cs : List Value) : Prop := cs = [x.2]
theorem OwnC.at_ {base : Nat} {w : World} {a : Option Addr} {n cap : Nat} {l : List (Piece × Value)} (h : OwnL PieceC 1 base 37 w (.slice a n cap) l) (i : Nat) (hi : i < n) :
    ∃ g x, l[i]? = some x ∧ a = some ⟨g, 0, none⟩ ∧ base ≤ g ∧ w.cell? ⟨g, i, none⟩ = some x.2 ∧ w.frozen? ⟨g, i, none⟩ = false := by
  obtain ⟨xs, ho, hr⟩ := h
  have hl : l.length = n := by
    obtain ⟨a', cap', e, _⟩ := own_shape ho
    injection e with _ e _; exact e.symm
  obtain ⟨x, cs, hp, rfl, _, hc⟩ := hr.get i (by omega)
  rcases ho.2 with ⟨e, h0⟩ | ⟨g, cap', cur, e, hb, hh, _, _, _, ht⟩
  · omega
  · injection e with e1 e2 e3
    subst e1
    have h2 := hc 0 (by omega)
    rw [← ht, List.getElem?_take, if_pos (by omega)] at h2
    simp at h2
    exact ⟨g, x, hp, rfl, hb, by simp [World.cell?, hh, h2], by simp [World.frozen?, hh]⟩
/-- What a round's body may turn: records, numbers, the piece's own attributes. -/
def eachW (v : Value) (b : Nat) (t : Option TypeId) : Prop := t = none ∨ t = some 3 ∨ (t = some 83 ∧ ablk v = some b)
/-- What is told of a piece. -/
def EachT (ps : List Piece) (base k : Nat) (x : Hand) (w : World) : Prop := ps[k]? = some x.1.1 ∧ PieceV w x.1.1 x.1.2 ∧ ∀ b, ablk x.1.2 = some b → base ≤ b
/-- What the first k bodies may have turned. -/
def eachD (pl : List (Piece × Value)) (k b : Nat) (t : Option TypeId) : Prop := t = none ∨ t = some 3 ∨ (t = some 83 ∧ ∃ j u, j < k ∧ pl[j]? = some u ∧ ablk u.2 = some b)
theorem eachD.step {pl : List (Piece × Value)} {k b : Nat} {t : Option TypeId} {u : Piece × Value} (hu : pl[k]? = some u) (h : eachD pl k b t ∨ eachW u.2 b t) : eachD pl (k + 1) b t := by
  rcases h with (h | h | ⟨h, j, v, hj, h1, h2⟩) | (h | h | ⟨h, h1⟩)
  · exact .inl h
  · exact .inr (.inl h)
  · exact .inr (.inr ⟨h, j, v, by omega, h1, h2⟩)
  · exact .inl h
  · exact .inr (.inl h)
  · exact .inr (.inr ⟨h, k, u, by omega, hu, h1⟩)
theorem eachD.far {pl : List (Piece × Value)} {base k b : Nat} {u : Piece × Value} (h : ApartV base (pl.map (·.2))) (hu : pl[k]? = some u) (hb : ablk u.2 = some b) : ¬ eachD pl k b (some 83) := by
  rintro (h1 | h1 | ⟨-, j, v, hj, h2, h3⟩)
  · cases h1
  · exact absurd (Option.some.inj h1) (by decide)
  · obtain ⟨hk, rfl⟩ := List.getElem?_eq_some_iff.1 hu
    obtain ⟨hj', rfl⟩ := List.getElem?_eq_some_iff.1 h2
    have := List.pairwise_iff_getElem.1 h.2 j k (by rw [List.length_map]; exact hj') (by rw [List.length_map]; exact hk) hj b
    rw [List.getElem_map, List.getElem_map] at this
    exact this h3 hb
set_option maxRecDepth 20000 in
set_option maxHeartbeats 4000000 in
theorem each_told {ea : Nat → Addr} (n Bn : Nat) (hn : 1 ≤ n) (ps : List Piece) (dv : Value) (w : World) (hE : Env ea w) (hbx : w.cell? ⟨Bn, 0, none⟩ = some dv) (hD : DeltaR w dv ps) (hok : PsOk ps) :
    SeqTold Fence.wide n Tryz.prog 110 #[.pointer (some ⟨Bn, 0, none⟩)] (fun x : Hand => #[x.1.2]) (fun t => t = none) (EachT ps w.heap.size) (fun x W W' => Tn (eachW x.1.2) W W') (fun xs => xs.map (·.1.1) = ps) (fun _ => True) w := fun l J Jx W hW hJ hJx hY h0 => by
  refine callsIn_of_wp Tryz.func110 rfl trivial ?_ rfl
  simp only [Tryz.ntmps110, List.size_toArray, List.length_cons, List.length_nil, Nat.reduceAdd, Nat.reduceSub, Array.replicate_succ, Array.replicate_zero, List.push_toArray, List.append_toArray, List.nil_append, List.cons_append]
  have hb : W.cell? ⟨Bn, 0, none⟩ = some dv := (Gr.cell (w := w) (w' := W) hW hbx)
  have hE1 := hE.gr hW
  have hD1 := hD.gr hW
  obtain ⟨g, sl, rfl, hBD, hrd⟩ := hD1
  gi_wp2_with (refine ⟨trivial, ?_⟩; gi_at_call 41; refine (callsIn_wide.2 (dpieces_apart ps _ _ hE1 ⟨g, sl, rfl, hBD, hrd⟩ hok)).mono ?_; rintro e w1 ⟨v1, pl, rfl, ho1, hpl, hap, hg1⟩; obtain ⟨a1, m, c1, rfl, hn1, hn2, hn3⟩ := ho1.sl)
  have hpn : pl.length = m := hn3.out
  have hvs : ∀ (k : Nat) (u : Piece × Value), pl[k]? = some u → PieceV w1 u.1 u.2 ∧ ∀ b, ablk u.2 = some b → w.heap.size ≤ b := by
    intro k u hu
    have hm := List.mem_of_getElem? hu
    obtain ⟨xs, -, hr⟩ := ho1
    obtain ⟨cs, hc⟩ := hr.mem u hm
    exact ⟨hc.2, fun b hb => Nat.le_trans (Gr.size (w := w) (w' := W) hW) (hap.1 u.2 (List.mem_map.2 ⟨u, hm, rfl⟩) b hb)⟩
  have hoc : OwnL PieceC 1 W.heap.size 37 w1 (.slice a1 m c1) pl := by
    have := OwnL.via (R := PieceB) (R' := PieceC) id (fun x cs h => h.1) ho1
    rwa [List.map_id] at this
  have HPL := Lib.hid (And.intro hpl hap)
  clear hpl hap ho1
  gi_loopw [8] (fun i wr => ∃ (k : Nat) (pre : List Hand), k ≤ m ∧ i = .int .i64 k ∧ pre.map (·.1.1) = ps.take k ∧ J pre wr ∧ Tn (eachD pl k) w1 wr) (fun i _ => m - (intOf i).toNat)
  case atStart => exact ⟨0, [], Nat.zero_le _, rfl, by simp, hJ _ _ _ h0 (Tn.of_gr hg1), Tn.refl _ _⟩
  case round =>
    obtain ⟨k, pre, hk, rfl, hpre, hJr, hkq⟩ := hrel
    have hplen : ps.length = m := by rw [← HPL.out.1, List.length_map, hpn]
    have hprl : pre.length = k := by
      have := congrArg List.length hpre
      simp at this
      omega
    have Hpre := Lib.hid hpre; clear hpre
    by_cases hlt : k < m
    · have hlt' : (k : Int) < m := by omega
      have how : OwnL PieceC 1 W.heap.size 37 wr (.slice a1 m c1) pl := OwnL.tn (w := w1) hoc (fun _ _ h => h) hkq (fun b _ h => by
        rcases h with h | h | ⟨h, -⟩
        · cases h
        · exact absurd (Option.some.inj h) (by decide)
        · exact absurd (Option.some.inj h) (by decide))
      obtain ⟨g1, ⟨pc, pv⟩, hx, rfl, hge, cx, fx⟩ := OwnC.at_ how k hlt
      obtain ⟨hpv1, hpb⟩ := hvs k _ hx
      dsimp only at hpv1 hpb cx
      have hpv : PieceV wr pc pv := hpv1.tn hkq fun b hb => eachD.far HPL.out.2 hx hb
      have hxk : ps[k]? = some pc := by rw [← HPL.out.1, List.getElem?_map, hx]; rfl
      obtain ⟨fn, tmps, assign, body, hy, hR⟩ := hY pre ⟨(pc, pv), hpv.s⟩ wr hJr ⟨by rw [hprl]; exact hxk, hpv, hpb⟩
      have Hx := Lib.hid (And.intro hx hxk); clear hx hxk
      clear how
      dsimp only at hy
      gi_wp2
      refine hR.mono ?_
      rintro e W3 (⟨rfl, hJ3, hk3⟩ | ⟨rfl, hJx3⟩)
      · gi_wp2
        go_roundw
        case rel => exact ⟨k + 1, pre ++ [⟨(pc, pv), hpv.s⟩], by omega, by go_num, by rw [List.map_append, Hpre.out, List.take_succ, Hx.out.2]; rfl, hJ3, (hkq.mono fun b t h => eachD.step Hx.out.1 (.inl h)).trans (hk3.mono fun b t h => eachD.step Hx.out.1 (.inr h))⟩
        case measure => simp [intOf]; omega
      · gi_wp2
        refine bodyPost_ret (results_none rfl _ _ _) rfl ?_
        exact ⟨⟨_, rfl⟩, .inr ⟨pre ++ [⟨(pc, pv), hpv.s⟩], trivial, hJx3⟩⟩
    · obtain rfl : k = m := by omega
      gi_wp2
      go_end0
      exact ⟨⟨_, rfl⟩, .inl ⟨pre, by rw [Hpre.out, List.take_of_length_le (by omega)], hJr⟩⟩
end Ve
