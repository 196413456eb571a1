/- The law ComposeAll. -/
import Derived.Test.YtnlpmajiccliiaaGreatDoorGR
import Derived.Test.YtnlpmajiccliiaaGreatDoorNM
import Derived.Test.YtnlpmajiccliiaaGreatDoorB8
set_option linter.all false
namespace Ve
open Go Go.RowKit Go.Proofs

theorem DeltaT.kt {base : Nat} {e : TypeId} {w w' : World} {v : Value} {l : List Piece} (h : DeltaT w v l) (k : Kt base e w w') (h1 : 97 ≠ e) (h2 : 109 ≠ e) (h3 : 176 ≠ e) : DeltaT w' v l := by
  obtain ⟨b, sl, base, e, hb, ho, hl⟩ := h
  exact ⟨b, sl, base, e, hb.kt k h1, OwnL.kt (w := w) ho (fun _ _ h => PieceR.kt (w := w) h k h3) k h2, hl⟩
theorem DeltaT.ptr {w : World} {v : Value} {D : List Piece} (h : DeltaT w v D) : ∃ g, v = .pointer (some ⟨g, 0, none⟩) := h.r.ptr
def DlT (w : World) (D : List Piece) (cs : List Value) : Prop := ∃ g, cs = [.pointer (some ⟨g, 0, none⟩)] ∧ DeltaT w (.pointer (some ⟨g, 0, none⟩)) D
theorem DlT.gr {w w' : World} {D : List Piece} {cs : List Value} (h : DlT w D cs) (g : Gr w w') : DlT w' D cs := by
  obtain ⟨b, e, h⟩ := h
  exact ⟨b, e, h.gr g⟩
theorem DlT.kt {base : Nat} {e : TypeId} {w w' : World} {D : List Piece} {cs : List Value} (h : DlT w D cs) (k : Kt base e w w') (h1 : 97 ≠ e) (h2 : 109 ≠ e) (h3 : 176 ≠ e) : DlT w' D cs := by
  obtain ⟨b, e', h⟩ := h
  exact ⟨b, e', h.kt k h1 h2 h3⟩
theorem DlT.flat (w : World) (D : List Piece) (cs : List Value) (h : DlT w D cs) : ∀ u ∈ cs, u.oneCell' = true := by
  obtain ⟨g, rfl, -⟩ := h
  simp [Value.oneCell']
theorem DlT.r {w : World} {D : List Piece} {cs : List Value} (h : DlT w D cs) : DlR w D cs := by
  obtain ⟨g, e, h⟩ := h
  exact ⟨g, e, h.r⟩
def dlT (t : TypeId) : Bool := t == 24
theorem info_dl : (Tryz.prog.info? 24).map (fun i => (i.zero, i.size, i.bytes)) = some (some (.pointer none), 1, 8) := by kernel_rfl
abbrev OwnDl (base : Nat) (w : World) (v : Value) (l : List (List Piece)) : Prop := OwnL DlT 1 base 24 w v l
theorem OwnDl.gr {base : Nat} {w w' : World} {v : Value} {l : List (List Piece)} (h : OwnDl base w v l) (g : Gr w w') : OwnDl base w' v l := OwnL.gr (w := w) h (fun _ _ h => DlT.gr (w := w) h g) g
/-- A delta appended to a row of the call's own. -/
theorem push_dl (w : World) (base : Nat) (ty : TypeId) {v : Value} {l : List (List Piece)} {g : Nat} {D : List Piece} (hown : OwnDl base w v l) (hx : DeltaT w (.pointer (some ⟨g, 0, none⟩)) D) (hm : l.length + 1 ≤ 1099511627776) (hb : base ≤ w.heap.size) :
    ∃ v' w', (Builtin.append_ #[37, 37] ty #[v, .slice (some ⟨w.heap.size, 0, none⟩) 1 1]).run Tryz.prog (w.alloc (.cells #[.pointer (some ⟨g, 0, none⟩)] 24)) = .ok v' w' ∧ OwnDl base w' v' (l ++ [D]) ∧ Kg (Fr base) dlT w w' ∧ ∃ x1 x2 x3, v' = .slice x1 x2 x3 := by
  obtain ⟨xs, ho, -⟩ := id hown
  obtain ⟨v', w', h1, h2, h3, -, -, -, -⟩ := run_push (P := Tryz.prog) (R := DlT) w base 37 ty 24 _ 1 8 Tryz.underlying37 info_dl rfl (by omega) (by omega) DlT.flat (fun _ _ _ _ k h => DlT.kt h k (by decide) (by decide) (by decide)) hown (x := D) (cs := [.pointer (some ⟨g, 0, none⟩)]) ⟨g, rfl, hx⟩ rfl hm hb
  obtain ⟨x1, x2, x3, e, -⟩ := h2.sl
  exact ⟨v', w', h1, h2, Kg.of_own_alloc ho (by decide) (own_fr ho) h3, x1, x2, x3, e⟩
/-- A list of lists of operations. -/
def LsR (w : World) (l : List Op) (cs : List Value) : Prop := ∃ v, cs = [v] ∧ RdOps w v l
theorem LsR.gr {w w' : World} {l : List Op} {cs : List Value} (h : LsR w l cs) (g : Gr w w') : LsR w' l cs := by
  obtain ⟨v, e, h⟩ := h
  exact ⟨v, e, RdOps.gr h g⟩
abbrev RdLs (w : World) (v : Value) (ls : List (List Op)) : Prop := RdList LsR 1 w v ls
theorem RdLs.gr {w w' : World} {v : Value} {ls : List (List Op)} (h : RdLs w v ls) (g : Gr w w') : RdLs w' v ls := RdList.gr (w := w) h (fun _ _ h => h.gr g) g
theorem RdLs.at_ {w : World} {a : Option Addr} {n cap : Nat} {ls : List (List Op)} (h : RdLs w (.slice a n cap) ls) (i : Nat) (hi : i < n) :
    ∃ b off l a1 n1 c1, ls[i]? = some l ∧ a = some ⟨b, off, none⟩ ∧ w.cell? ⟨b, off + i, none⟩ = some (.slice a1 n1 c1) ∧ RdOps w (.slice a1 n1 c1) l := by
  obtain ⟨b, off, l, cs, e, hx, ⟨v, rfl, hl⟩, -, hc⟩ := RdList.get h i hi
  obtain ⟨a1, n1, c1, rfl, -⟩ := hl.sl
  have := hc 0 (.slice a1 n1 c1) (by omega) rfl
  rw [Nat.mul_one, Nat.add_zero] at this
  exact ⟨b, off, l, a1, n1, c1, hx, e, this, hl⟩
/-- Sizes of lists, together. -/
def lsum (ls : List (List Op)) : Nat := (ls.map fun l => opsum l + atsum l + l.length).sum
theorem SzL.of {ls : List (List Op)} (h : ∀ l ∈ ls, canonL l = true) : SzL (lsum ls) (ls.map (·.map toPiece)) := by
  induction ls with
  | nil => trivial
  | cons l ls ih =>
    refine ⟨_, _, Szd.of (h l (by simp)) (Nat.le_refl _), ih fun x hx => h x (by simp [hx]), ?_⟩
    simp [lsum]
theorem lsum_mem {l : List Op} {ls : List (List Op)} (h : l ∈ ls) : opsum l + atsum l + l.length ≤ lsum ls := by
  induction ls with
  | nil => simp at h
  | cons x r ih =>
    have e : lsum (x :: r) = opsum x + atsum x + x.length + lsum r := by simp [lsum]
    rcases List.mem_cons.1 h with rfl | h
    · omega
    · have := ih h; omega
/-- What the reference's All answers. -/
def FoldL (o : Option (List Piece)) (w : World) (v : Value) (E : Int) : Prop := (∃ D, o = some D ∧ E = 0 ∧ RdOps w v (D.map Piece.op)) ∨ (o = none ∧ E = 11)
theorem FoldL.gr {o : Option (List Piece)} {w w' : World} {v : Value} {E : Int} (h : FoldL o w v E) (g : Gr w w') : FoldL o w' v E :=
  h.imp (fun ⟨D, a, b, c⟩ => ⟨D, a, b, RdOps.gr c g⟩) id
theorem RUn.ok {ps qs : List Piece} {w : World} {v : Value} (hX : Cmp ps qs (putAll .new (compL ps qs)).delta) (h : RUn (units (putAll .new (compL ps qs)).delta) w v 0) : RdOps w v ((putAll .new (compL ps qs)).delta.map Piece.op) := by
  obtain ⟨R, hr, r1, r2, r3⟩ := h rfl
  obtain rfl := units_inj r1 hX.can.ok r2 hX.can.sep r3
  exact hr

theorem rall_nil (a : Option Addr) (c : Nat) (w : World) : Calls Tryz.prog 23 #[.slice a 0 c] w fun e w' => ∃ v', e = .returned (.tuple #[v', .int .i64 0]) ∧ RdOps w' v' [] ∧ Gr w w' := by
  go_enter Tryz.func23, Tryz.ntmps23
  go_wp2
  go_loopw [4, 5] (fun o i wr => o = .slice none 0 0 ∧ i = .int .i64 0 ∧ Gr w wr) (fun _ _ _ => 0)
  case atStart => exact ⟨rfl, rfl, Gr.refl _⟩
  case round =>
    obtain ⟨rfl, rfl, hg⟩ := hrel
    go_wp2
    go_ret2
    exact ⟨_, ret_two rfl rfl, RdList.nil .., grOf⟩
set_option maxHeartbeats 4000000 in
theorem rall_any {ea : Nat → Addr} (l0 : List Op) (ls : List (List Op)) (v : Value) (w : World) (n k : Nat) (hE : Env ea w) (hl : RdLs w v (l0 :: ls)) (hc0 : ∀ o ∈ l0, checkOp o = 0) (hc : ∀ l ∈ ls, ∀ o ∈ l, checkOp o = 0) (h0 : Szd n (l0.map toPiece)) (hr : SzL k (ls.map (·.map toPiece))) (hn : n + k ≤ 1048576) :
    Calls Tryz.prog 23 #[v] w fun e w' => ∃ v' E, e = .returned (.tuple #[v', .int .i64 E]) ∧ FoldL (foldC (l0.map toPiece) (ls.map (·.map toPiece))) w' v' E ∧ Gr w w' := by
  obtain ⟨a, cap, rfl, hcap, hmax, hlen⟩ := RdList.slice hl
  obtain ⟨m, hm⟩ : ∃ m, ls.length = m := ⟨_, rfl⟩
  simp only [List.length_cons, hm] at hl hcap hlen ⊢
  obtain ⟨r, hrr⟩ : ∃ r, ls.map (·.map toPiece) = r := ⟨_, rfl⟩
  have hm' : r.length = m := by rw [← hrr, List.length_map, hm]
  obtain ⟨D0, hD0⟩ : ∃ D0, l0.map toPiece = D0 := ⟨_, rfl⟩
  rw [hrr] at hr
  rw [hD0] at h0
  rw [hrr, hD0]
  have hop0 : D0.map Piece.op = l0 := by rw [← hD0]; exact map_op hc0
  have HRR := Lib.hid (And.intro hrr hD0); clear hrr hD0
  go_enter Tryz.func23, Tryz.ntmps23
  go_wp2
  go_loopw [4, 5] (fun o i wr => ∃ j : Nat, j ≤ m + 1 ∧ i = .int .i64 j ∧ Gr w wr ∧ ((j = 0 ∧ o = .slice none 0 0) ∨ (1 ≤ j ∧ ∃ (D : List Piece) (n' k' : Nat), RdOps wr o (D.map Piece.op) ∧ Szd n' D ∧ SzL k' (r.drop (j - 1)) ∧ n' + k' ≤ 1048576 ∧ foldC D (r.drop (j - 1)) = foldC D0 r))) (fun _ i _ => m + 1 - (intOf i).toNat)
  case atStart => exact ⟨0, Nat.zero_le _, rfl, Gr.refl _, .inl ⟨rfl, rfl⟩⟩
  case round =>
    obtain ⟨j, hj, rfl, hg, hcase⟩ := hrel
    rcases hcase with ⟨rfl, rfl⟩ | ⟨hj1, D, n', k', hd, hs, hL, hnk, hf⟩
    · obtain ⟨b, off, l, a1, n1, c1, hx, rfl, cc, hrd⟩ := RdLs.at_ (RdLs.gr hl hg) 0 (by omega)
      obtain rfl : l0 = l := by simpa using hx
      rw [Nat.add_zero] at cc
      have zz := cell_lt cc
      have hlt' : (0 : Int) < (m : Int) + 1 := by omega
      clear hx
      go_wp2
      go_roundw
      case rel => exact ⟨1, by omega, by go_num, grOf, .inr ⟨Nat.le_refl _, D0, n, k, by rw [hop0]; exact RdOps.gr hrd grOf, h0, hr, hn, rfl⟩⟩
      case measure => simp [intOf]
    · obtain ⟨oa, on, oc, rfl, -⟩ := hd.sl
      have HF := Lib.hid hf; clear hf
      have hj0 : ((j : Int) == 0) = false := by simp; omega
      by_cases hlt : j < m + 1
      · obtain ⟨b, off, l, a1, n1, c1, hx, rfl, cc, hrd⟩ := RdLs.at_ (RdLs.gr hl hg) j (by omega)
        have hx1 : ls[j - 1]? = some l := by
          obtain ⟨i, rfl⟩ : ∃ i, j = i + 1 := ⟨j - 1, by omega⟩
          simpa using hx
        have hlm : l ∈ ls := List.mem_of_getElem? hx1
        have hopl : (l.map toPiece).map Piece.op = l := map_op (hc l hlm)
        have hdr : r.drop (j - 1) = (l.map toPiece) :: r.drop (j + 1 - 1) := by
          have h1 : r[j - 1]? = some (l.map toPiece) := by rw [← HRR.out.1, List.getElem?_map, hx1]; rfl
          obtain ⟨h2, h3⟩ := List.getElem?_eq_some_iff.1 h1
          rw [List.drop_eq_getElem_cons h2, h3]
          congr 2
          omega
        rw [hdr] at hL
        obtain ⟨D1, hD1⟩ : ∃ D1, l.map toPiece = D1 := ⟨_, rfl⟩
        rw [hD1] at hL hopl hdr
        obtain ⟨s1, s2, m', k2, s3, s4, s5⟩ := fold_step hs hL hnk
        have hlt' : (j : Int) < (m : Int) + 1 := by omega
        have HP := Lib.hid s2; clear s2 hL hx hx1
        have hfd := HF.out
        rw [hdr] at hfd
        simp only [foldC] at hfd
        have HD := Lib.hid hfd; clear hfd hdr
        have HX := fun h => comp_cmp hs.can s1 HP.out.1 HP.out.2.1 h
        obtain ⟨E, hE1⟩ : ∃ E, catE (compL D D1) = E := ⟨_, rfl⟩
        have e1 := catE_or (compL D D1)
        rw [hE1] at s5 e1 HX
        have H1 := Lib.hid hE1; clear hE1
        have hrd1 : RdOps wr (.slice a1 n1 c1) (D1.map Piece.op) := by rw [hopl]; exact hrd
        have zz := cell_lt cc
        clear hD1 hopl hlm
        rcases e1 with rfl | rfl
        · have hSX := s5 rfl
          have HX := HX rfl
          clear s5
          go_wp2_with (go_at_call 19; refine (rcompose11_any D D1 _ _ _ (hE.gr grOf) (RdOps.gr hd grOf) (RdOps.gr hrd1 grOf) hs.can s1 HP.out.1 HP.out.2.1 HP.out.2.2).mono ?_; rw [H1.out]; rintro e w5 ⟨v5, rfl, hr5, hg5⟩; have hd5 := RUn.ok HX hr5; clear hr5; obtain ⟨va, vn, vc, rfl, -⟩ := hd5.sl)
          go_roundw
          case rel =>
            have h := HD.out
            rw [if_pos H1.out] at h
            exact ⟨j + 1, by omega, by go_num, grOf, .inr ⟨by omega, _, n' + m', k2, RdOps.gr hd5 grOf, hSX, s3, s4, h⟩⟩
          case measure => simp [intOf]; omega
        · clear s5 HX
          go_wp2_with (go_at_call 19; refine (rcompose11_any D D1 _ _ _ (hE.gr grOf) (RdOps.gr hd grOf) (RdOps.gr hrd1 grOf) hs.can s1 HP.out.1 HP.out.2.1 HP.out.2.2).mono ?_; rw [H1.out]; rintro e w5 ⟨v5, rfl, -, hg5⟩)
          go_ret2
          have h := HD.out
          rw [if_neg (by rw [H1.out]; decide)] at h
          exact ⟨_, 11, ret_two rfl rfl, .inr ⟨h.symm, rfl⟩, grOf⟩
      · obtain rfl : j = m + 1 := by omega
        go_wp2
        go_ret2
        have h := HF.out
        rw [Nat.add_sub_cancel, ← hm', List.drop_length] at h
        exact ⟨_, 0, ret_two rfl rfl, .inl ⟨D, h.symm, rfl, hd⟩, grOf⟩

theorem fold_can {r : List (List Piece)} : ∀ {D X : List Piece} {n k : Nat}, Szd n D → SzL k r → n + k ≤ 1048576 → foldC D r = some X → Can X := by
  induction r with
  | nil =>
    intro D X n k h _ _ e
    obtain rfl := Option.some.inj e
    exact h.can
  | cons x r ih =>
    intro D X n k h hL hn e
    obtain ⟨s1, s2, m', k2, s3, s4, s5⟩ := fold_step h hL hn
    simp only [foldC] at e
    split at e
    · rename_i hc
      exact ih (s5 hc) s3 s4 e
    · cases e

theorem call_nil' (a : Option Addr) (c : Nat) (w : World) : Calls Tryz.prog 22 #[.slice a 0 c] w fun e w' => ∃ v, e = .returned (.tuple #[v, .nilIface]) ∧ DeltaR w' v [] ∧ Gr w w' := by
  go_enter Tryz.func22, Tryz.ntmps22
  go_wp2_with (go_at_call 41; refine (empty_any _).mono ?_; rintro e w1 ⟨v1, rfl, hd1, hg1⟩; obtain ⟨g1, sl1, rfl, hd1⟩ := hd1)
  go_ret2
  exact ⟨_, rfl, ⟨_, _, rfl, hd1⟩, grOf⟩


set_option maxHeartbeats 1000000 in
theorem of11_t {ea : Nat → Addr} (l : List Op) (v : Value) (w : World) (hE : Env ea w) (hl : RdOps w v l) (hT : opsum l ≤ 1099511627776) (hN : 2 * l.length + 2 ≤ 1099511627776) (hc : canonL l = true) :
    Calls Tryz.prog 16 #[v] w fun e w' => ∃ v', e = .returned v' ∧ DeltaT w' v' (l.map toPiece) ∧ Gr w w' := by
  obtain ⟨a, n, cap, rfl, -, -, -, -⟩ := hl.sl
  obtain ⟨s, hs, hd⟩ := canon_push hc
  have HS := Lib.hid (And.intro hs hd); clear hs hd
  have HC := Lib.hid hc; clear hc
  go_enter Tryz.func16, Tryz.ntmps16
  go_wp2_with (first
    | (go_at_call 17; refine (rcanon_any l _ _ (hE.gr grOf) (RdOps.gr hl grOf)).mono ?_; rw [HC.out]; rintro e w1 ⟨rfl, hg1⟩)
    | (go_at_call 44; refine (bof_t l _ _ (hE.gr grOf) (RdOps.gr hl grOf) hT hN).mono ?_; unfold OfResT; rw [HS.out.1]; rintro e w2 ⟨v2, rfl, hg2, hdi, -⟩; have hd2 := hdi rfl; clear hdi; rw [HS.out.2] at hd2; obtain ⟨g2, hv2⟩ := hd2.r.ptr; subst hv2; dsimp only; rw [errOf_zero]))
  go_ret
  exact ⟨_, rfl, DeltaT.gr (w := w2) hd2 grOf, grOf⟩


set_option maxRecDepth 20000 in
set_option maxHeartbeats 8000000 in
theorem composeAll_law {ea : Nat → Addr} (ls : List (List Op)) (v : Value) (w : World) (hE : Env19 ea w) (hl : RdLs w v ls) (hs : lsum ls ≤ 1048576) (hs2 : ls.length ≤ 1048576) :
    Calls Tryz.prog 4 #[v] w fun e w' => e = .returned (.bool true) ∧ Gr w w' := by
  obtain ⟨a, cap, rfl, hcap, hmax, hlen⟩ := RdList.slice hl
  obtain ⟨m, hm⟩ : ∃ m, ls.length = m := ⟨_, rfl⟩
  rw [hm] at hl hcap hlen ⊢
  have HM := Lib.hid hm
  rw [hm] at hs2
  clear hm
  go_enter Tryz.func4, Tryz.ntmps4
  go_wp2_with (go_at_call 15; refine (fixed11_any _ (hE.env.gr grOf)).mono ?_; rintro e w1 ⟨rfl, hg1⟩)
  go_loopw [3, 15] (fun o i wr => ∃ j : Nat, j ≤ m ∧ i = .int .i64 j ∧ Gr w wr ∧ (∀ l ∈ ls.take j, canonL l = true) ∧ OwnDl w.heap.size wr o ((ls.take j).map (·.map toPiece))) (fun _ i _ => m - (intOf i).toNat)
  case atStart => exact ⟨0, Nat.zero_le _, rfl, hg1, by simp, OwnL.nil ..⟩
  case round =>
    obtain ⟨j, hj, rfl, hg, hc, hO⟩ := hrel
    obtain ⟨oa, on, oc, rfl, -, -, hon⟩ := hO.sl
    by_cases hlt : j < m
    · obtain ⟨b, off, l, a1, n1, c1, hx, rfl, cc, hrd⟩ := RdLs.at_ (RdLs.gr hl hg) j hlt
      have hlt' : (j : Int) < m := by omega
      have zz := cell_lt cc
      have hmem := lsum_mem (List.mem_of_getElem? hx)
      cases hcl : canonL l with
      | false =>
        have HC := Lib.hid hcl; clear hcl hx hmem hc hO
        go_wp2_with (first
          | (go_at_call 16; (with_reducible refine (of11_no l _ _ (hE.env.gr grOf) (RdOps.gr hrd grOf) HC.out).mono ?_); rintro e w2 ⟨rfl, hg2⟩)
          | (go_at_call 17; (with_reducible refine (rcanon_any l _ _ (hE.env.gr grOf) (RdOps.gr hrd grOf)).mono ?_); rw [HC.out]; rintro e w4 ⟨rfl, hg4⟩))
        go_ret
        exact ⟨rfl, grOf⟩
      | true =>
        have HC := Lib.hid hcl; clear hcl
        have HO := Lib.hid hO; clear hO
        have HH := Lib.hid (And.intro hx hc); clear hx hc
        have hlj : ((ls.take j).map (·.map toPiece)).length = j := by rw [List.length_map, List.length_take, HM.out]; omega
        go_wp2_with (first
          | (go_at_call 16; (with_reducible refine (of11_t l _ _ (hE.env.gr grOf) (RdOps.gr hrd grOf) (by omega) (by omega) HC.out).mono ?_); rintro e w2 ⟨v2, rfl, hd2, hg2⟩; obtain ⟨g2, hv2⟩ := hd2.ptr; subst hv2; obtain ⟨v', w', hrun, hO', hK, x1, x2, x3, rfl⟩ := push_dl w2 w.heap.size 37 (OwnDl.gr (w := wr) HO.out grOf) hd2 (by omega) (Gr.size (w := w) (w' := w2) grOf); have hG : Gr w w' := Gr.kg (w := w2) grOf hK (Nat.le_refl _); have HP := Lib.hid (And.intro hrun hO'); clear hrun hO' hK)
          | (at_builtin; refine wpList_run rfl _ _ _ rfl rfl rfl HP.out.1 ?_))
        go_roundw
        case rel =>
          refine ⟨j + 1, by omega, by go_num, grOf, fun x hxx => ?_, ?_⟩
          · rw [List.take_succ, HH.out.1] at hxx
            rcases List.mem_append.1 hxx with h | h
            · exact HH.out.2 x h
            · simp at h; rw [h]; exact HC.out
          · have h := HP.out.2
            rw [List.take_succ, HH.out.1, List.map_append]
            exact h
        case measure => simp [intOf]; omega
    · obtain rfl : j = m := by omega
      rw [show ls.take j = ls from List.take_of_length_le (by rw [HM.out]; exact Nat.le_refl _)] at hc hO hon
      have HON := Lib.hid hon; clear hon
      cases ls with
      | nil =>
        obtain rfl : on = 0 := by have := HON.out; simpa using this.symm
        obtain rfl : j = 0 := by have := HM.out; simpa using this.symm
        go_wp2_with (first
          | (go_at_call 22; refine (call_nil' _ _ _).mono ?_; rintro e w3 ⟨v3, rfl, hd3, hg3⟩)
          | (go_at_call 23; refine (rall_nil _ _ _).mono ?_; rintro e w4 ⟨v4, rfl, hr4, hg4⟩)
          | (go_at_call 20; rw [← errOf_zero ea]; refine (told11_any [] 0 v3 v4 _ (hE.gr grOf) (.inl ⟨rfl, [], hd3.gr grOf, by simp [PsOk], rfl, rfl⟩) (fun _ => ⟨[], RdOps.gr hr4 grOf, by simp [PsOk], rfl, rfl⟩)).mono ?_; rintro e w5 ⟨rfl, hg5⟩))
        go_ret
        exact ⟨rfl, grOf⟩
      | cons l0 ls =>
        have S0 := Szd.of (hc l0 (by simp)) (Nat.le_refl _)
        have SL := SzL.of (ls := ls) fun l h => hc l (by simp [h])
        have hsum : lsum (l0 :: ls) = opsum l0 + atsum l0 + l0.length + lsum ls := by simp [lsum]
        have hck : ∀ l ∈ l0 :: ls, ∀ o ∈ l, checkOp o = 0 := fun l h => (canon_ok (hc l h)).1
        have hlen2 : ((l0 :: ls).map (·.map toPiece)).length ≤ 1099511627776 := by rw [List.length_map, HM.out]; omega
        have hRD : RdDl wr (.slice oa on oc) ((l0 :: ls).map (·.map toPiece)) := (OwnL.rd hO hlen2).weak fun _ _ h => h.r
        rw [List.map_cons] at hRD
        have HFC := fun X h => fold_can (X := X) S0 SL (by omega) h
        obtain ⟨D0, hD0⟩ : ∃ D0, l0.map toPiece = D0 := ⟨_, rfl⟩
        obtain ⟨r, hr⟩ : ∃ r, ls.map (·.map toPiece) = r := ⟨_, rfl⟩
        rw [hD0, hr] at HFC hRD
        have HDR := Lib.hid (And.intro hD0 hr)
        have S0' := S0
        have SL' := SL
        rw [hD0] at S0; rw [hr] at SL
        clear hD0 hr hO hc HON
        have hck0 := hck l0 (by simp)
        have hckr : ∀ l ∈ ls, ∀ o ∈ l, checkOp o = 0 := fun l h => hck l (by simp [h])
        cases hF : foldC D0 r with
        | none =>
          have HF := Lib.hid hF; clear hF HFC
          go_wp2_with (first
            | (go_at_call 22; refine (call_any D0 r _ _ _ _ (hE.env.gr grOf) (hRD.gr grOf) S0 SL (by omega)).mono ?_; rw [HF.out]; rintro e w3 ⟨v3, E3, rfl, hf3, hg3⟩; obtain ⟨D3, hD3, -⟩ | ⟨-, rfl, rfl⟩ := hf3; (exact absurd hD3 (by simp)))
            | (go_at_call 23; refine (rall_any l0 ls _ _ _ _ (hE.env.gr grOf) (RdLs.gr hl grOf) hck0 hckr S0' SL' (by omega)).mono ?_; rw [HDR.out.1, HDR.out.2, HF.out]; rintro e w4 ⟨v4, E4, rfl, hf4, hg4⟩; obtain ⟨D4, hD4, -⟩ | ⟨-, rfl⟩ := hf4; (exact absurd hD4 (by simp)))
            | (go_at_call 20; refine (told11_any [] 11 _ v4 _ (hE.gr grOf) (.inr ⟨by omega, by omega, rfl⟩) (fun h => absurd h (by decide))).mono ?_; rintro e w5 ⟨rfl, hg5⟩))
          go_ret
          exact ⟨rfl, grOf⟩
        | some X =>
          have HX := HFC X hF
          have HF := Lib.hid hF; clear hF HFC
          go_wp2_with (first
            | (go_at_call 22; refine (call_any D0 r _ _ _ _ (hE.env.gr grOf) (hRD.gr grOf) S0 SL (by omega)).mono ?_; rw [HF.out]; rintro e w3 ⟨v3, E3, rfl, hf3, hg3⟩; obtain ⟨D3, hD3, rfl, hd3⟩ | ⟨hD3, -⟩ := hf3; rotate_left; (exact absurd hD3 (by simp)); obtain rfl := Option.some.inj hD3)
            | (go_at_call 23; refine (rall_any l0 ls _ _ _ _ (hE.env.gr grOf) (RdLs.gr hl grOf) hck0 hckr S0' SL' (by omega)).mono ?_; rw [HDR.out.1, HDR.out.2, HF.out]; rintro e w4 ⟨v4, E4, rfl, hf4, hg4⟩; obtain ⟨D4, hD4, rfl, hr4⟩ | ⟨hD4, -⟩ := hf4; rotate_left; (exact absurd hD4 (by simp)); obtain rfl := Option.some.inj hD4)
            | (go_at_call 20; refine (told11_any (units X) 0 v3 v4 _ (hE.gr grOf) (.inl ⟨rfl, X, hd3.gr grOf, HX.ok, HX.sep, rfl⟩) (fun _ => ⟨X, RdOps.gr hr4 grOf, HX.ok, HX.sep, rfl⟩)).mono ?_; rintro e w5 ⟨rfl, hg5⟩))
          go_ret
          exact ⟨rfl, grOf⟩

end Ve
