/- The law PlacesNeighbours. -/
import Derived.Test.YtmdakddgeagnmaaDoorF2
import Derived.Test.YtmdakddgeagnmaaDoorO1
set_option linter.all false
namespace Ve
open Go Go.RowKit Go.Proofs

/-- What law14.kept answers. -/
def keptO (p g : Int) : List Op → Bool
  | [] => true
  | o :: r => if o.kind = 3 then keptO p (g + o.count) r else if o.kind = 4 then (if g ≤ p ∧ p - g < o.count then false else keptO p (g + o.count) r) else keptO p g r
theorem rlen3 {k : Int} (t : ByteArray) (v : Plain) (c : Int) (a : List Attr) (h : k = 3 ∨ k = 4) : rlen ⟨k, t, v, c, a⟩ = c := by
  simp only [rlen]; rw [if_neg (by omega), if_neg (by omega)]
theorem keptO_P {p : Int} {l : List Op} : ∀ {g : Int}, (∀ o ∈ l, checkOp o = 0) → keptO p g l = keptP p g (l.map toPiece) := by
  induction l with
  | nil => intro g _; rfl
  | cons o l ih =>
    intro g hok
    have ho := hok o (by simp)
    have hr := fun {g} => @ih g (fun x hx => hok x (by simp [hx]))
    simp only [keptO, List.map_cons]
    rcases ok_kind ho with k | k | k | k
    · rw [piece1 ho k, if_neg (by omega), if_neg (by omega)]; simp only [keptP]; exact hr
    · rw [(piece2 ho k).1, if_neg (by omega), if_neg (by omega)]; simp only [keptP]; exact hr
    · rw [piece3 ho k, if_pos k, show rlen o = o.count from rlen3 _ _ _ _ (.inl k)]; simp only [keptP]; exact hr
    · rw [piece4 ho k, if_neg (by omega), if_pos k, show rlen o = o.count from rlen3 _ _ _ _ (.inr k)]; simp only [keptP]; rw [hr]
set_option maxHeartbeats 2000000 in
theorem kept_any (l : List Op) (v : Value) (p : Int) (w : World) (hl : RdOps w v l) (hok : ∀ o ∈ l, checkOp o = 0) (hB : sumB l ≤ 1099511627776) (hp0 : 0 ≤ p) (hp1 : p ≤ 1099511627776) :
    Calls Tryd.prog 21 #[v, .int .i64 p] w fun e w' => e = .returned (.bool (keptO p 0 l)) ∧ Gr w w' := by
  obtain ⟨a, n, cap, rfl, hcap, hm, hb, hn⟩ := hl.sl
  obtain ⟨K, hK⟩ : ∃ K, keptO p 0 l = K := ⟨_, rfl⟩
  rw [hK]
  have HK := Lib.hid hK; clear hK
  go_enter Tryd.func21, Tryd.ntmps21
  go_wp2
  go_loopw [5, 10] (fun x i wr => ∃ (k : Nat) (g : Int), k ≤ n ∧ i = .int .i64 k ∧ x = .int .i64 g ∧ 0 ≤ g ∧ g + sumB (l.drop k) ≤ 1099511627776 ∧ Gr w wr ∧ keptO p g (l.drop k) = K) (fun _ i _ => n - (intOf i).toNat)
  case atStart => exact ⟨0, 0, Nat.zero_le _, rfl, rfl, by omega, by simpa using hB, Gr.refl _, HK.out⟩
  case round =>
    obtain ⟨k, g, hk, rfl, rfl, hg0, hgb, hg, hc⟩ := hrel
    have Hc := Lib.hid hc; clear hc
    by_cases hlt : k < n
    · obtain ⟨blk, off, xk, xt, xa, xb, xv, xc, ats, sl, hx, rfl, hr, c0, c1, c2, c3, c4, c5, c6, s1, s2⟩ := (RdOps.gr hl hg).at_ k hlt
      have hck := hok _ (List.mem_of_getElem? hx)
      have hkind := ok_kind hck
      simp only at hkind
      have hbn := sumB_nn (ops_drop hok (k + 1))
      rw [drop_cons hx] at hgb
      simp only [sumB] at hgb
      obtain ⟨N0, N1⟩ := rlen_bound hck s1
      have HQ := (congrArg (keptO p g) (drop_cons hx)).symm.trans Hc.out
      clear hx hck
      have hlt' : (k : Int) < n := by omega
      simp only [keptO, baseO] at HQ hgb
      obtain ⟨sa, sc, hsl, -⟩ := RdList.slice hr
      subst hsl
      rcases hkind with rfl | rfl | rfl | rfl
      · rw [if_neg (by omega), if_neg (by omega)] at HQ
        simp at hgb
        have HC := Lib.hid HQ; clear HQ
        go_wp2
        go_roundw
        case rel => exact ⟨k + 1, g, by omega, by go_num, rfl, by omega, by omega, (by repeat (with_reducible first | assumption | exact Gr.refl _ | apply Gr.alloc | apply Gr.drewN | apply Gr.drew | apply Gr.iter | (refine Gr.setCell ?_ (by simp) _) | (refine Gr.trans ?_ (by assumption)))), HC.out⟩
        case measure => simp [intOf]; omega
      · rw [if_neg (by omega), if_neg (by omega)] at HQ
        simp at hgb
        have HC := Lib.hid HQ; clear HQ
        go_wp2
        go_roundw
        case rel => exact ⟨k + 1, g, by omega, by go_num, rfl, by omega, by omega, (by repeat (with_reducible first | assumption | exact Gr.refl _ | apply Gr.alloc | apply Gr.drewN | apply Gr.drew | apply Gr.iter | (refine Gr.setCell ?_ (by simp) _) | (refine Gr.trans ?_ (by assumption)))), HC.out⟩
        case measure => simp [intOf]; omega
      · rw [if_pos rfl] at HQ
        simp at hgb
        rw [rlen3 _ _ _ _ (.inl rfl)] at N0 N1 hgb
        have HC := Lib.hid HQ; clear HQ
        go_wp2
        go_roundw
        case rel => exact ⟨k + 1, g + xc, by omega, by go_num, rfl, by omega, by omega, (by repeat (with_reducible first | assumption | exact Gr.refl _ | apply Gr.alloc | apply Gr.drewN | apply Gr.drew | apply Gr.iter | (refine Gr.setCell ?_ (by simp) _) | (refine Gr.trans ?_ (by assumption)))), HC.out⟩
        case measure => simp [intOf]; omega
      · rw [if_neg (by omega), if_pos rfl] at HQ
        simp at hgb
        rw [rlen3 _ _ _ _ (.inr rfl)] at N0 N1 hgb
        by_cases h1 : g ≤ p
        · have h1' : decide (p ≥ g) = true := by simpa using h1
          by_cases h2 : p - g < xc
          · rw [if_pos ⟨h1, h2⟩] at HQ
            have HC := Lib.hid HQ; clear HQ
            go_wp2
            go_ret
            exact ⟨ret_bool HC.out, (by repeat (with_reducible first | assumption | exact Gr.refl _ | apply Gr.alloc | apply Gr.drewN | apply Gr.drew | apply Gr.iter | (refine Gr.setCell ?_ (by simp) _) | (refine Gr.trans ?_ (by assumption))))⟩
          · rw [if_neg (fun h => h2 h.2)] at HQ
            have HC := Lib.hid HQ; clear HQ
            go_wp2
            go_roundw
            case rel => exact ⟨k + 1, g + xc, by omega, by go_num, rfl, by omega, by omega, (by repeat (with_reducible first | assumption | exact Gr.refl _ | apply Gr.alloc | apply Gr.drewN | apply Gr.drew | apply Gr.iter | (refine Gr.setCell ?_ (by simp) _) | (refine Gr.trans ?_ (by assumption)))), HC.out⟩
            case measure => simp [intOf]; omega
        · rw [if_neg (fun h => h1 h.1)] at HQ
          have h1' : decide (p ≥ g) = false := by simpa using h1
          have HC := Lib.hid HQ; clear HQ
          go_wp2
          go_roundw
          case rel => exact ⟨k + 1, g + xc, by omega, by go_num, rfl, by omega, by omega, (by repeat (with_reducible first | assumption | exact Gr.refl _ | apply Gr.alloc | apply Gr.drewN | apply Gr.drew | apply Gr.iter | (refine Gr.setCell ?_ (by simp) _) | (refine Gr.trans ?_ (by assumption)))), HC.out⟩
          case measure => simp [intOf]; omega
    · obtain rfl : k = n := by omega
      have hl0 : l.drop k = [] := List.drop_eq_nil_of_le (by rw [hn.out]; exact Nat.le_refl _)
      have hf : true = K := by rw [← Hc.out, hl0]; rfl
      have HF := Lib.hid hf; clear hf hl0
      go_wp2
      go_ret
      exact ⟨ret_bool HF.out, (by repeat (with_reducible first | assumption | exact Gr.refl _ | apply Gr.alloc | apply Gr.drewN | apply Gr.drew | apply Gr.iter | (refine Gr.setCell ?_ (by simp) _) | (refine Gr.trans ?_ (by assumption))))⟩
theorem base14_any {ea : Nat → Addr} (l : List Op) (v : Value) (w : World) (hE : Env ea w) (hl : RdOps w v l) (hc : canonL l = true) :
    Calls Tryd.prog 40 #[v] w fun e w' => e = .returned (.int .i64 (sumB l)) ∧ Gr w w' := by
  obtain ⟨a, n, cap, rfl, -, -, -, -⟩ := hl.sl
  have HS := Lib.hid (canon_sums hc).2.2
  clear hc
  go_enter Tryd.func40, Tryd.ntmps40
  go_wp2_with (go_at_call 31; refine (rlens_any l _ _ (hE.gr (by repeat (with_reducible first | assumption | exact Gr.refl _ | apply Gr.alloc | apply Gr.drewN | apply Gr.drew | apply Gr.iter | (refine Gr.setCell ?_ (by simp) _) | (refine Gr.trans ?_ (by assumption))))) (RdOps.gr hl (by repeat (with_reducible first | assumption | exact Gr.refl _ | apply Gr.alloc | apply Gr.drewN | apply Gr.drew | apply Gr.iter | (refine Gr.setCell ?_ (by simp) _) | (refine Gr.trans ?_ (by assumption)))))).mono ?_; rw [HS.out]; rintro e w1 ⟨rfl, hg1⟩)
  go_ret
  exact ⟨rfl, (by repeat (with_reducible first | assumption | exact Gr.refl _ | apply Gr.alloc | apply Gr.drewN | apply Gr.drew | apply Gr.iter | (refine Gr.setCell ?_ (by simp) _) | (refine Gr.trans ?_ (by assumption))))⟩
theorem u64_nn (n : Int) : 0 ≤ IntKind.u64.wrap n := by
  unfold IntKind.wrap
  simp [IntKind.signed, IntKind.bits]
  omega
/-- What law14.at answers. -/
def atL (l : List Op) (n : Int) : Int := IntKind.u64.wrap n % min (sumB l + 5) 1099511627777
theorem atL_bounds {l : List Op} (n : Int) (hc : canonL l = true) : 0 ≤ atL l n ∧ atL l n ≤ 1099511627776 := by
  obtain ⟨h1, -, -, -, -⟩ := canon_ok hc
  have h2 := sumB_nn h1
  have h3 := Int.emod_nonneg (IntKind.u64.wrap n) (b := min (sumB l + 5) 1099511627777) (by omega)
  have h4 := Int.emod_lt_of_pos (IntKind.u64.wrap n) (b := min (sumB l + 5) 1099511627777) (by omega)
  unfold atL
  omega
theorem at14_any {ea : Nat → Addr} (l : List Op) (v : Value) (n : Int) (w : World) (hE : Env ea w) (hl : RdOps w v l) (hc : canonL l = true) :
    Calls Tryd.prog 20 #[v, .int .i64 n] w fun e w' => e = .returned (.int .i64 (atL l n)) ∧ Gr w w' := by
  obtain ⟨h1, -, -, -, -⟩ := canon_ok hc
  obtain ⟨s1, -, -⟩ := canon_sums hc
  have h2 := sumB_nn h1
  obtain ⟨b1, b2⟩ := atL_bounds n hc
  obtain ⟨a, m, cap, rfl, -, -, -, -⟩ := hl.sl
  obtain ⟨X, hX⟩ : ∃ X, atL l n = X := ⟨_, rfl⟩
  unfold atL at hX
  rw [show atL l n = X from hX] at b1 b2 ⊢
  obtain ⟨B, hB⟩ : ∃ B, sumB l = B := ⟨_, rfl⟩
  rw [hB] at hX s1 h2
  have HC := Lib.hid hc; clear hc h1
  go_enter Tryd.func20, Tryd.ntmps20
  go_wp2_with (go_at_call 40; refine (base14_any l _ _ (hE.gr (by repeat (with_reducible first | assumption | exact Gr.refl _ | apply Gr.alloc | apply Gr.drewN | apply Gr.drew | apply Gr.iter | (refine Gr.setCell ?_ (by simp) _) | (refine Gr.trans ?_ (by assumption))))) (RdOps.gr hl (by repeat (with_reducible first | assumption | exact Gr.refl _ | apply Gr.alloc | apply Gr.drewN | apply Gr.drew | apply Gr.iter | (refine Gr.setCell ?_ (by simp) _) | (refine Gr.trans ?_ (by assumption))))) HC.out).mono ?_; rw [hB]; rintro e w1 ⟨rfl, hg1⟩)
  go_ret
  refine ⟨ret_int ?_, (by repeat (with_reducible first | assumption | exact Gr.refl _ | apply Gr.alloc | apply Gr.drewN | apply Gr.drew | apply Gr.iter | (refine Gr.setCell ?_ (by simp) _) | (refine Gr.trans ?_ (by assumption))))⟩
  have h3 : 0 ≤ IntKind.u64.wrap n := u64_nn n
  rw [Int.tmod_eq_emod_of_nonneg h3, hX]
  unfold wrap64
  omega
set_option maxRecDepth 20000 in
set_option maxHeartbeats 8000000 in
theorem placesNeighbours_any {ea : Nat → Addr} (l : List Op) (v : Value) (m : Int) (w : World) (hE : Env19 ea w) (hl : RdOps w v l) (hT : opsum l ≤ 1099511627776) (hN : 2 * l.length + 2 ≤ 1099511627776) :
    Calls Tryd.prog 4 #[v, .int .i64 m] w fun e w' => e = .returned (.bool true) ∧ Gr w w' := by
  obtain ⟨a, n, cap, rfl, -, -, hnb, hn⟩ := hl.sl
  cases hc : canonL l with
  | false =>
    have HC := Lib.hid hc; clear hc
    go_enter Tryd.func4, Tryd.ntmps4
    go_wp2_with (first
      | (go_at_call 8; refine (fixed14_any _ (hE.env.gr (by repeat (with_reducible first | assumption | exact Gr.refl _ | apply Gr.alloc | apply Gr.drewN | apply Gr.drew | apply Gr.iter | (refine Gr.setCell ?_ (by simp) _) | (refine Gr.trans ?_ (by assumption)))))).mono ?_; rintro e w1 ⟨rfl, hg1⟩)
      | (go_at_call 9; refine (of14_no l _ _ (hE.env.gr (by repeat (with_reducible first | assumption | exact Gr.refl _ | apply Gr.alloc | apply Gr.drewN | apply Gr.drew | apply Gr.iter | (refine Gr.setCell ?_ (by simp) _) | (refine Gr.trans ?_ (by assumption))))) (RdOps.gr hl (by repeat (with_reducible first | assumption | exact Gr.refl _ | apply Gr.alloc | apply Gr.drewN | apply Gr.drew | apply Gr.iter | (refine Gr.setCell ?_ (by simp) _) | (refine Gr.trans ?_ (by assumption))))) HC.out).mono ?_; rintro e w2 ⟨rfl, hg2⟩))
    go_ret
    exact ⟨rfl, (by repeat (with_reducible first | assumption | exact Gr.refl _ | apply Gr.alloc | apply Gr.drewN | apply Gr.drew | apply Gr.iter | (refine Gr.setCell ?_ (by simp) _) | (refine Gr.trans ?_ (by assumption))))⟩
  | true =>
    obtain ⟨hok, h2, h3, h4, h5⟩ := canon_ok hc
    obtain ⟨s1, s2, -⟩ := canon_sums hc
    have HC := Lib.hid hc; clear hc
    obtain ⟨P, hP⟩ : ∃ P, atL l m = P := ⟨_, rfl⟩
    obtain ⟨b1, b2⟩ := atL_bounds m HC.out
    rw [hP] at b1 b2
    have HP := Lib.hid hP; clear hP
    obtain ⟨X, hX⟩ : ∃ X, carP P true 0 P (l.map toPiece) = X := ⟨_, rfl⟩
    have hNb := neighbours (p := P) (g := 0) (out := 0) (q := X) h2.nn b1 (by rw [← hX]; congr 1; omega)
    obtain ⟨K, hK⟩ : ∃ K, keptO P 0 l = K := ⟨_, rfl⟩
    rw [← keptO_P hok, hK] at hNb
    obtain ⟨B, hB⟩ : ∃ B, backP X 0 0 (l.map toPiece) = B := ⟨_, rfl⟩
    rw [hB] at hNb
    obtain ⟨n1, n2, n3, n4, n5⟩ := hNb
    have hsz := Lib.hid (And.intro h3 (And.intro h4 (And.intro s1 s2)))
    by_cases hx : 1099511627776 < X
    · have E := Lib.hid (show placeP (l.map toPiece) P true = (0, 11) by unfold placeP; rw [if_pos ⟨b1, b2⟩, hX, if_pos hx])
      clear hX hK hB h3 h4 s1 s2 n1 n2 n3 n4 n5 hx
      go_enter Tryd.func4, Tryd.ntmps4
      go_wp2_with (first
        | (go_at_call 8; refine (fixed14_any _ (hE.env.gr (by repeat (with_reducible first | assumption | exact Gr.refl _ | apply Gr.alloc | apply Gr.drewN | apply Gr.drew | apply Gr.iter | (refine Gr.setCell ?_ (by simp) _) | (refine Gr.trans ?_ (by assumption)))))).mono ?_; rintro e w1 ⟨rfl, hg1⟩)
        | (go_at_call 9; refine (of14_yes l _ _ (hE.env.gr (by repeat (with_reducible first | assumption | exact Gr.refl _ | apply Gr.alloc | apply Gr.drewN | apply Gr.drew | apply Gr.iter | (refine Gr.setCell ?_ (by simp) _) | (refine Gr.trans ?_ (by assumption))))) (RdOps.gr hl (by repeat (with_reducible first | assumption | exact Gr.refl _ | apply Gr.alloc | apply Gr.drewN | apply Gr.drew | apply Gr.iter | (refine Gr.setCell ?_ (by simp) _) | (refine Gr.trans ?_ (by assumption))))) hT hN HC.out).mono ?_; rintro e w2 ⟨v2, rfl, hd2, hg2⟩; obtain ⟨g1, sl1, hv1, hbr1⟩ := hd2; subst hv1; have hD : DeltaR w2 (.pointer (some ⟨g1, 0, none⟩)) (l.map toPiece) := ⟨g1, sl1, rfl, hbr1⟩; clear hbr1)
        | (go_at_call 20; refine (at14_any l _ m _ (hE.env.gr (by repeat (with_reducible first | assumption | exact Gr.refl _ | apply Gr.alloc | apply Gr.drewN | apply Gr.drew | apply Gr.iter | (refine Gr.setCell ?_ (by simp) _) | (refine Gr.trans ?_ (by assumption))))) (RdOps.gr hl (by repeat (with_reducible first | assumption | exact Gr.refl _ | apply Gr.alloc | apply Gr.drewN | apply Gr.drew | apply Gr.iter | (refine Gr.setCell ?_ (by simp) _) | (refine Gr.trans ?_ (by assumption))))) HC.out).mono ?_; rw [HP.out]; rintro e w3 ⟨rfl, hg3⟩)
        | (go_at_call 11; refine (place_any _ _ P true _ (hE.env.gr (by repeat (with_reducible first | assumption | exact Gr.refl _ | apply Gr.alloc | apply Gr.drewN | apply Gr.drew | apply Gr.iter | (refine Gr.setCell ?_ (by simp) _) | (refine Gr.trans ?_ (by assumption))))) (hD.gr (by repeat (with_reducible first | assumption | exact Gr.refl _ | apply Gr.alloc | apply Gr.drewN | apply Gr.drew | apply Gr.iter | (refine Gr.setCell ?_ (by simp) _) | (refine Gr.trans ?_ (by assumption))))) h2 hsz.out.1 hsz.out.2.1).mono ?_; rw [E.out]; rintro e w4 ⟨rfl, hg4⟩)
        | (go_at_call 13; refine (num_any 11 _ (hE.gr (by repeat (with_reducible first | assumption | exact Gr.refl _ | apply Gr.alloc | apply Gr.drewN | apply Gr.drew | apply Gr.iter | (refine Gr.setCell ?_ (by simp) _) | (refine Gr.trans ?_ (by assumption))))) (by decide) (by decide)).mono ?_; rintro e w5 ⟨rfl, hg5⟩))
      go_ret
      exact ⟨rfl, (by repeat (with_reducible first | assumption | exact Gr.refl _ | apply Gr.alloc | apply Gr.drewN | apply Gr.drew | apply Gr.iter | (refine Gr.setCell ?_ (by simp) _) | (refine Gr.trans ?_ (by assumption))))⟩
    · have E := Lib.hid (show placeP (l.map toPiece) P true = (X, 0) by unfold placeP; rw [if_pos ⟨b1, b2⟩, hX, if_neg hx])
      have E2 := Lib.hid (show backAt (l.map toPiece) X = (B, 0) by unfold backAt; rw [if_pos (by omega), hB, if_neg (by omega)])
      have HK := Lib.hid hK
      have hg : decide (B ≥ P) = true := by simpa using n2
      have hbk : (B == P) = K := by
        cases K with
        | true => simpa using n3 rfl
        | false => have := n4 rfl; simp; omega
      have hkk : (K == K) = true := by simp
      clear hX hK hB h3 h4 n1 n3 n4 n5 hx
      go_enter Tryd.func4, Tryd.ntmps4
      go_wp2_with (first
        | (go_at_call 8; refine (fixed14_any _ (hE.env.gr (by repeat (with_reducible first | assumption | exact Gr.refl _ | apply Gr.alloc | apply Gr.drewN | apply Gr.drew | apply Gr.iter | (refine Gr.setCell ?_ (by simp) _) | (refine Gr.trans ?_ (by assumption)))))).mono ?_; rintro e w1 ⟨rfl, hg1⟩)
        | (go_at_call 9; refine (of14_yes l _ _ (hE.env.gr (by repeat (with_reducible first | assumption | exact Gr.refl _ | apply Gr.alloc | apply Gr.drewN | apply Gr.drew | apply Gr.iter | (refine Gr.setCell ?_ (by simp) _) | (refine Gr.trans ?_ (by assumption))))) (RdOps.gr hl (by repeat (with_reducible first | assumption | exact Gr.refl _ | apply Gr.alloc | apply Gr.drewN | apply Gr.drew | apply Gr.iter | (refine Gr.setCell ?_ (by simp) _) | (refine Gr.trans ?_ (by assumption))))) hT hN HC.out).mono ?_; rintro e w2 ⟨v2, rfl, hd2, hg2⟩; obtain ⟨g1, sl1, hv1, hbr1⟩ := hd2; subst hv1; have hD : DeltaR w2 (.pointer (some ⟨g1, 0, none⟩)) (l.map toPiece) := ⟨g1, sl1, rfl, hbr1⟩; clear hbr1)
        | (go_at_call 20; refine (at14_any l _ m _ (hE.env.gr (by repeat (with_reducible first | assumption | exact Gr.refl _ | apply Gr.alloc | apply Gr.drewN | apply Gr.drew | apply Gr.iter | (refine Gr.setCell ?_ (by simp) _) | (refine Gr.trans ?_ (by assumption))))) (RdOps.gr hl (by repeat (with_reducible first | assumption | exact Gr.refl _ | apply Gr.alloc | apply Gr.drewN | apply Gr.drew | apply Gr.iter | (refine Gr.setCell ?_ (by simp) _) | (refine Gr.trans ?_ (by assumption))))) HC.out).mono ?_; rw [HP.out]; rintro e w3 ⟨rfl, hg3⟩)
        | (go_at_call 11; refine (place_any _ _ P true _ (hE.env.gr (by repeat (with_reducible first | assumption | exact Gr.refl _ | apply Gr.alloc | apply Gr.drewN | apply Gr.drew | apply Gr.iter | (refine Gr.setCell ?_ (by simp) _) | (refine Gr.trans ?_ (by assumption))))) (hD.gr (by repeat (with_reducible first | assumption | exact Gr.refl _ | apply Gr.alloc | apply Gr.drewN | apply Gr.drew | apply Gr.iter | (refine Gr.setCell ?_ (by simp) _) | (refine Gr.trans ?_ (by assumption))))) h2 hsz.out.1 hsz.out.2.1).mono ?_; rw [E.out]; rintro e w4 ⟨rfl, hg4⟩; dsimp only; rw [errOf_zero])
        | (go_at_call 14; refine (backAt_any _ _ X _ (hE.env.gr (by repeat (with_reducible first | assumption | exact Gr.refl _ | apply Gr.alloc | apply Gr.drewN | apply Gr.drew | apply Gr.iter | (refine Gr.setCell ?_ (by simp) _) | (refine Gr.trans ?_ (by assumption))))) (hD.gr (by repeat (with_reducible first | assumption | exact Gr.refl _ | apply Gr.alloc | apply Gr.drewN | apply Gr.drew | apply Gr.iter | (refine Gr.setCell ?_ (by simp) _) | (refine Gr.trans ?_ (by assumption))))) h2 hsz.out.1 hsz.out.2.1).mono ?_; rw [E2.out]; rintro e w5 ⟨rfl, hg5⟩; dsimp only; rw [errOf_zero])
        | (go_at_call 21; refine (kept_any l _ P _ (RdOps.gr hl (by repeat (with_reducible first | assumption | exact Gr.refl _ | apply Gr.alloc | apply Gr.drewN | apply Gr.drew | apply Gr.iter | (refine Gr.setCell ?_ (by simp) _) | (refine Gr.trans ?_ (by assumption))))) hok hsz.out.2.2.1 b1 b2).mono ?_; rw [HK.out]; rintro e w6 ⟨rfl, hg6⟩))
      all_goals go_ret
      all_goals exact ⟨rfl, (by repeat (with_reducible first | assumption | exact Gr.refl _ | apply Gr.alloc | apply Gr.drewN | apply Gr.drew | apply Gr.iter | (refine Gr.setCell ?_ (by simp) _) | (refine Gr.trans ?_ (by assumption))))⟩
end Ve
