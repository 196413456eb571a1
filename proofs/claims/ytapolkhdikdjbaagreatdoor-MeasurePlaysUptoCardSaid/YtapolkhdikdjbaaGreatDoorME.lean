/- Walks: the references of layers 6 and 8: Short, Concat, Shift; Slice where it is refused. -/
import Derived.Test.YtapolkhdikdjbaaGreatDoorMA
import Derived.Test.YtapolkhdikdjbaaGreatDoorT7
set_option linter.all false
namespace Ve
open Go Go.RowKit Go.Proofs

theorem flush_len (O G : List Op) (g : Int) : (flush06 O G g).length ≤ O.length + G.length + 1 := by
  have hf : ∀ (G O : List Op), (G.foldl push06 O).length ≤ O.length + G.length := by
    intro G
    induction G with
    | nil => intro O; simp
    | cons o G ih => intro O; have h1 := ih (push06 O o); have h2 := (push06_facts O o).2.2.1; rw [List.foldl_cons, List.length_cons]; omega
  have h1 := hf G O
  have h2 := (push06_facts (G.foldl push06 O) (delO g)).2.2.1
  unfold flush06
  split <;> omega
theorem canonFrom_len (l : List Op) : ∀ (O G : List Op) (g : Int), (canonFrom O G g l).length ≤ O.length + G.length + 1 + 2 * l.length := by
  induction l with
  | nil => intro O G g; have := flush_len O G g; simpa [canonFrom] using this
  | cons o l ih =>
    intro O G g
    simp only [canonFrom]
    split
    · have := ih O (G ++ [o]) g; simp only [List.length_append, List.length_cons, List.length_nil] at this ⊢; omega
    · split
      · have := ih O G (g + o.count); simp only [List.length_cons]; omega
      · have h1 := ih (push06 (flush06 O G g) o) [] 0
        have h2 := (push06_facts (flush06 O G g) o).2.2.1
        have h3 := flush_len O G g
        simp only [List.length_cons, List.length_nil] at h1 ⊢; omega
theorem canon06_len (l : List Op) : (canon06 l).length ≤ 2 * l.length + 1 := by
  have h := canonFrom_len l [] [] 0
  simp only [List.length_nil] at h
  unfold canon06 dropPlain
  split
  · split
    · rw [List.length_dropLast]; omega
    · omega
  · omega
/-- What a list that is put behind the empty one is refused for. -/
def catE (l : List Op) : Int := if sumB l ≤ 1099511627776 ∧ sumR l ≤ 1099511627776 then 0 else 11
theorem catE_push {l : List Op} (h : ∀ o ∈ l, checkOp o = 0) : (pushAll l).2.2 = catE l := by
  have hp := push_len (s := .new) (i := 0) h (by decide) (by decide)
  rw [show (Bld.new).base = 0 from rfl, show (Bld.new).result = 0 from rfl, Int.zero_add, Int.zero_add] at hp
  exact hp
theorem catE_long {l : List Op} (h : ∀ o ∈ l, checkOp o = 0) (he : endsOk l) : long06 (canon06 l) = decide (catE l ≠ 0) := by
  rw [← catE_push h]; exact (long_push h he).1
theorem catE_or (l : List Op) : catE l = 0 ∨ catE l = 11 := by unfold catE; split <;> simp
set_option maxHeartbeats 1000000 in
theorem rshort06_any (l : List Op) (v : Value) (w : World) (hl : RdOps w v l) (hok : ∀ o ∈ l, checkOp o = 0) (he : endsOk l) (hT : opsum l ≤ 1099511627776) (hC : sumB l ≤ 4611686018427387000) (hN : 2 * l.length + 4 ≤ 1099511627776) :
    Calls Tryz.prog 117 #[v] w fun e w' => ∃ v', e = .returned (.tuple #[v', .int .i64 (catE l)]) ∧ (catE l = 0 → RdOps w' v' (canon06 l)) ∧ Gr w w' := by
  obtain ⟨a, n, cap, rfl, -⟩ := hl.sl
  have h1 := catE_long hok he
  have hE := catE_or l
  obtain ⟨d1, -, -⟩ := delta_len_w hok he
  have hk : ∀ o ∈ canon06 l, (o.kind = 1 ∨ o.kind = 2 ∨ o.kind = 3 ∨ o.kind = 4) ∧ 0 ≤ len06 o := by
    rw [canon06_put hok]
    intro o ho
    obtain ⟨p, hp, rfl⟩ := List.mem_map.1 ho
    obtain ⟨e1, e2, e3⟩ := (d1 p hp).len
    exact ⟨e3, by rw [e1]; exact e2⟩
  have hcl := canon06_len l
  obtain ⟨c1, c2⟩ := csum_base hok
  rw [← c1] at hC
  obtain ⟨C, hCC⟩ : ∃ C, canon06 l = C := ⟨_, rfl⟩
  rw [hCC] at h1 hk hcl ⊢
  have HC := Lib.hid hCC; clear hCC c1 d1
  obtain ⟨E, hEE⟩ : ∃ E, catE l = E := ⟨_, rfl⟩
  rw [hEE] at h1 hE ⊢
  clear hEE
  rcases hE with rfl | rfl
  · have HL := Lib.hid (show long06 C = false by rw [h1]; rfl); clear h1
    go_enter Tryz.func117, Tryz.ntmps117
    go_wp2_with (first
      | (go_at_call 34; refine (rcanon06_any l _ _ (RdOps.gr hl (by repeat (with_reducible first | assumption | exact Gr.refl _ | apply Gr.alloc | apply Gr.drewN | apply Gr.drew | apply Gr.iter | (refine Gr.setCell ?_ (by simp) _) | (refine Gr.trans ?_ (by assumption))))) hok c2 hT hC hN).mono ?_; rw [HC.out]; rintro e w1 ⟨v1, rfl, ho1, hg1⟩; have hr1 := OwnR.rd ho1 hg1 (by omega); obtain ⟨a1, n1, c1, rfl, -⟩ := ho1.sl)
      | (go_at_call 157; refine (long06_any C _ _ (RdOps.gr hr1 (by repeat (with_reducible first | assumption | exact Gr.refl _ | apply Gr.alloc | apply Gr.drewN | apply Gr.drew | apply Gr.iter | (refine Gr.setCell ?_ (by simp) _) | (refine Gr.trans ?_ (by assumption))))) hk).mono ?_; rw [HL.out]; rintro e w2 ⟨rfl, hg2⟩))
    go_ret2
    exact ⟨_, rfl, fun _ => RdOps.gr hr1 (by repeat (with_reducible first | assumption | exact Gr.refl _ | apply Gr.alloc | apply Gr.drewN | apply Gr.drew | apply Gr.iter | (refine Gr.setCell ?_ (by simp) _) | (refine Gr.trans ?_ (by assumption)))), (by repeat (with_reducible first | assumption | exact Gr.refl _ | apply Gr.alloc | apply Gr.drewN | apply Gr.drew | apply Gr.iter | (refine Gr.setCell ?_ (by simp) _) | (refine Gr.trans ?_ (by assumption))))⟩
  · have HL := Lib.hid (show long06 C = true by rw [h1]; rfl); clear h1
    go_enter Tryz.func117, Tryz.ntmps117
    go_wp2_with (first
      | (go_at_call 34; refine (rcanon06_any l _ _ (RdOps.gr hl (by repeat (with_reducible first | assumption | exact Gr.refl _ | apply Gr.alloc | apply Gr.drewN | apply Gr.drew | apply Gr.iter | (refine Gr.setCell ?_ (by simp) _) | (refine Gr.trans ?_ (by assumption))))) hok c2 hT hC hN).mono ?_; rw [HC.out]; rintro e w1 ⟨v1, rfl, ho1, hg1⟩; have hr1 := OwnR.rd ho1 hg1 (by omega); obtain ⟨a1, n1, c1, rfl, -⟩ := ho1.sl)
      | (go_at_call 157; refine (long06_any C _ _ (RdOps.gr hr1 (by repeat (with_reducible first | assumption | exact Gr.refl _ | apply Gr.alloc | apply Gr.drewN | apply Gr.drew | apply Gr.iter | (refine Gr.setCell ?_ (by simp) _) | (refine Gr.trans ?_ (by assumption))))) hk).mono ?_; rw [HL.out]; rintro e w2 ⟨rfl, hg2⟩))
    go_ret2
    exact ⟨_, rfl, fun h => absurd h (by decide), (by repeat (with_reducible first | assumption | exact Gr.refl _ | apply Gr.alloc | apply Gr.drewN | apply Gr.drew | apply Gr.iter | (refine Gr.setCell ?_ (by simp) _) | (refine Gr.trans ?_ (by assumption))))⟩
theorem OpC.rdM {w0 w : World} {x : Value} {m : List Op} (hx : RdOps w0 x m) (g : Gr w0 w) : RdList (OpC w0) 7 w x m :=
  RdList.gr (R := OpC w0) (w := w0) (w' := w) (RdList.weak (R' := OpC w0) hx fun _ _ h => h) (fun _ _ h => h) g
/-- A list appended to an own row. -/
theorem app_opM (w0 w : World) (base : Nat) (ty : TypeId) {v x : Value} {l m : List Op} (hown : OwnR base w0 w v l) (hx : RdOps w0 x m) (g : Gr w0 w) (hm : l.length + m.length ≤ 1099511627776) (hb : base ≤ w.heap.size) :
    ∃ v' w', (Builtin.append_ #[22, 22] ty #[v, x]).run Tryz.prog w = .ok v' w' ∧ OwnR base w0 w' v' (l ++ m) ∧ w.grownBy w' v.ownBlock ∧ (∀ b, v.ownBlock = some b → base ≤ b) := by
  obtain ⟨xs, ho, -⟩ := id hown
  obtain ⟨v', w', r1, r2, r3, -⟩ := run_appL (P := Tryz.prog) (R := OpC w0) w base 22 ty 46 _ 7 88 Tryz.underlying22 info_op rfl (by omega) (by omega) (fun x cs h => OpR.flat w0 x cs h) hown (OpC.rdM hx g) hm hb (fun _ _ _ _ h => h)
  exact ⟨v', w', r1, r2, r3, fun b h => (ho.lt b h).1⟩
theorem made_opM (w : World) : OwnR w.heap.size w (w.alloc (.cells #[] 46)) (.slice (some ⟨w.heap.size, 0, none⟩) 0 0) [] := OwnL.made w (OpC w) 7 w.heap.size 46 (Nat.le_refl _)
set_option maxRecDepth 20000 in
set_option maxHeartbeats 2000000 in
theorem rconcat08_any (la lb : List Op) (va vb : Value) (w : World) (ha : RdOps w va la) (hb : RdOps w vb lb) (hok : ∀ o ∈ la ++ lb, checkOp o = 0) (he : endsOk (la ++ lb)) (hT : opsum (la ++ lb) ≤ 1099511627776) (hC : sumB (la ++ lb) ≤ 4611686018427387000) (hN : 2 * (la ++ lb).length + 4 ≤ 1099511627776) :
    Calls Tryz.prog 58 #[va, vb] w fun e w' => ∃ v', e = .returned (.tuple #[v', .int .i64 (catE (la ++ lb))]) ∧ (catE (la ++ lb) = 0 → RdOps w' v' (canon06 (la ++ lb))) ∧ Gr w w' := by
  obtain ⟨a1, n1, c1, rfl, -⟩ := ha.sl
  obtain ⟨a2, n2, c2, rfl, -⟩ := hb.sl
  have hlen : la.length + lb.length ≤ 1099511627776 := by rw [List.length_append] at hN; omega
  obtain ⟨v1, w1, r1, o1, g1, b1⟩ := app_opM w (w.alloc (.cells #[] 46)) w.heap.size 22 (made_opM w) ha (by repeat (with_reducible first | assumption | exact Gr.refl _ | apply Gr.alloc | apply Gr.drewN | apply Gr.drew | apply Gr.iter | (refine Gr.setCell ?_ (by simp) _) | (refine Gr.trans ?_ (by assumption)))) (by simp only [List.length_nil]; omega) (by simp)
  have hg1 : Gr w w1 := Gr.grown (w := w.alloc (.cells #[] 46)) (by repeat (with_reducible first | assumption | exact Gr.refl _ | apply Gr.alloc | apply Gr.drewN | apply Gr.drew | apply Gr.iter | (refine Gr.setCell ?_ (by simp) _) | (refine Gr.trans ?_ (by assumption)))) g1 b1
  rw [List.nil_append] at o1
  obtain ⟨v2, w2, r2, o2, g2, b2⟩ := app_opM w w1 w.heap.size 22 o1 hb hg1 hlen (Gr.size hg1)
  have hg2 : Gr w w2 := Gr.grown (w := w1) hg1 g2 b2
  have hr2 := OwnR.rd o2 hg2 (by rw [List.length_append]; exact hlen)
  obtain ⟨x1, y1, z1, rfl, -⟩ := o1.sl
  obtain ⟨x2, y2, z2, rfl, -⟩ := o2.sl
  have HR := Lib.hid (And.intro r1 (And.intro r2 (And.intro hg2 hr2))); clear r1 r2 o1 o2 g1 g2 b1 b2 hg1 hg2 hr2
  obtain ⟨E, hE⟩ : ∃ E, catE (la ++ lb) = E := ⟨_, rfl⟩
  obtain ⟨L, hL⟩ : ∃ L, la ++ lb = L := ⟨_, rfl⟩
  rw [hL] at hok he hT hC hN HR hE ⊢
  rw [hE]
  have HE := Lib.hid hE; clear hE hL
  go_enter Tryz.func58, Tryz.ntmps58
  go_wp2_with (first
    | (at_builtin; refine wpList_run rfl _ _ _ rfl rfl rfl HR.out.1 ?_)
    | (at_builtin; refine wpList_run rfl _ _ _ rfl rfl rfl HR.out.2.1 ?_)
    | (go_at_call 117; refine (rshort06_any L _ _ HR.out.2.2.2 hok he hT hC hN).mono ?_; rw [HE.out]; rintro e w3 ⟨v3, rfl, hr3, hg3⟩))
  go_ret2
  exact ⟨_, rfl, hr3, Gr.trans HR.out.2.2.1 hg3⟩
/-- The one retain ahead of a list. -/
def retL (n : Int) : List Op := [⟨3, es, ep, n, []⟩]
theorem retL_ok {n : Int} (h1 : 1 ≤ n) (h2 : n ≤ 1099511627776) : ∀ o ∈ retL n, checkOp o = 0 := by
  intro o ho
  rw [List.mem_singleton.1 ho]
  exact (ret_ok (a := []).2 ⟨h1, h2, rfl⟩).1
theorem retL_sum (n : Int) : opsum (retL n) = 0 := rfl
set_option maxHeartbeats 2000000 in
theorem rshift08_range (l : List Op) (v : Value) (n : Int) (w : World) (hl : RdOps w v l) (hn : n < 0 ∨ 1099511627776 < n) :
    Calls Tryz.prog 63 #[v, .int .i64 n] w fun e w' => ∃ v', e = .returned (.tuple #[v', .int .i64 12]) ∧ Gr w w' := by
  obtain ⟨a, m, cap, rfl, -⟩ := hl.sl
  by_cases h1 : n < 0
  · clear hn
    go_enter Tryz.func63, Tryz.ntmps63
    go_wp2
    go_ret2
    exact ⟨_, rfl, (by repeat (with_reducible first | assumption | exact Gr.refl _ | apply Gr.alloc | apply Gr.drewN | apply Gr.drew | apply Gr.iter | (refine Gr.setCell ?_ (by simp) _) | (refine Gr.trans ?_ (by assumption))))⟩
  · have h2 : 1099511627776 < n := by omega
    have h4 : (decide (n < 0)) = false := by simpa using h1
    clear hn
    go_enter Tryz.func63, Tryz.ntmps63
    go_wp2
    go_ret2
    first | exact ⟨_, rfl, (by repeat (with_reducible first | assumption | exact Gr.refl _ | apply Gr.alloc | apply Gr.drewN | apply Gr.drew | apply Gr.iter | (refine Gr.setCell ?_ (by simp) _) | (refine Gr.trans ?_ (by assumption))))⟩ | exact ⟨⟨_, rfl⟩, (by repeat (with_reducible first | assumption | exact Gr.refl _ | apply Gr.alloc | apply Gr.drewN | apply Gr.drew | apply Gr.iter | (refine Gr.setCell ?_ (by simp) _) | (refine Gr.trans ?_ (by assumption))))⟩
set_option maxHeartbeats 2000000 in
theorem rshift08_same (l : List Op) (v : Value) (n : Int) (w : World) (hl : RdOps w v l) (h0 : 0 ≤ n) (h1 : n ≤ 1099511627776) (hn : n = 0 ∨ l = []) :
    Calls Tryz.prog 63 #[v, .int .i64 n] w fun e w' => ∃ v', e = .returned (.tuple #[v', .int .i64 0]) ∧ RdOps w' v' l ∧ Gr w w' := by
  obtain ⟨a, m, cap, rfl, -, -, hb, hnl⟩ := hl.sl
  have hlen : l.length ≤ 1099511627776 := by rw [hnl.out]; exact hb
  obtain ⟨v1, w1, r1, o1, g1, b1⟩ := app_opM w (w.alloc (.cells #[] 46)) w.heap.size 22 (made_opM w) hl (by repeat (with_reducible first | assumption | exact Gr.refl _ | apply Gr.alloc | apply Gr.drewN | apply Gr.drew | apply Gr.iter | (refine Gr.setCell ?_ (by simp) _) | (refine Gr.trans ?_ (by assumption)))) (by simp only [List.length_nil]; omega) (by simp)
  have hg1 : Gr w w1 := Gr.grown (w := w.alloc (.cells #[] 46)) (by repeat (with_reducible first | assumption | exact Gr.refl _ | apply Gr.alloc | apply Gr.drewN | apply Gr.drew | apply Gr.iter | (refine Gr.setCell ?_ (by simp) _) | (refine Gr.trans ?_ (by assumption)))) g1 b1
  rw [List.nil_append] at o1
  have hr1 := OwnR.rd o1 hg1 hlen
  obtain ⟨x1, y1, z1, rfl, -⟩ := o1.sl
  have HR := Lib.hid (And.intro r1 (And.intro hg1 hr1)); clear r1 o1 g1 b1 hg1 hr1
  by_cases e0 : m = 0
  · subst e0
    clear hn
    have n1 : ¬ n < 0 := by omega
    have n2 : ¬ 1099511627776 < n := by omega
    go_enter Tryz.func63, Tryz.ntmps63
    go_wp2_with (at_builtin; refine wpList_run rfl _ _ _ rfl rfl rfl HR.out.1 ?_)
    go_ret2
    exact ⟨_, rfl, HR.out.2.2, HR.out.2.1⟩
  · have : n = 0 := by
      rcases hn with h | h
      · exact h
      · exact absurd (by rw [← hnl.out, h]; rfl) e0
    subst this
    have e1 : ((m : Int) == 0) = false := by simp; omega
    clear hn h0 h1
    go_enter Tryz.func63, Tryz.ntmps63
    go_wp2_with (at_builtin; refine wpList_run rfl _ _ _ rfl rfl rfl HR.out.1 ?_)
    go_ret2
    exact ⟨_, rfl, HR.out.2.2, HR.out.2.1⟩
set_option maxHeartbeats 2000000 in
theorem rshift08_any (l : List Op) (v : Value) (n : Int) (w : World) (hl : RdOps w v l) (h1 : 1 ≤ n) (h2 : n ≤ 1099511627776) (hne : l ≠ []) (hok : ∀ o ∈ l, checkOp o = 0) (he : endsOk l) (hT : opsum l ≤ 1099511627776) (hC : sumB l ≤ 1099511627776) (hN : 2 * l.length + 6 ≤ 1099511627776) :
    Calls Tryz.prog 63 #[v, .int .i64 n] w fun e w' => ∃ v', e = .returned (.tuple #[v', .int .i64 (catE (retL n ++ l))]) ∧ (catE (retL n ++ l) = 0 → RdOps w' v' (canon06 (retL n ++ l))) ∧ Gr w w' := by
  obtain ⟨a, m, cap, rfl, -, -, hb, hnl⟩ := hl.sl
  have e0 : m ≠ 0 := fun e => hne (List.eq_nil_of_length_eq_zero (by rw [hnl.out, e]))
  have e1 : ((m : Int) == 0) = false := by simp; omega
  have n0 : (n == 0) = false := by simp; omega
  have n1 : ¬ n < 0 := by omega
  have n2 : ¬ 1099511627776 < n := by omega
  have hlit := rd_lit w (retL n) 1 rfl (by omega) (fun o ho => by rw [List.mem_singleton.1 ho]; exact ⟨rfl, by simp only [szS]; decide, by simp only [szS]; decide⟩) #[.int .i64 3, .string ⟨#[]⟩, .int .i64 0, .int .i64 0, .string ⟨#[]⟩, .int .i64 n, .slice none 0 0] rfl 46
  have k1 : ∀ o ∈ retL n ++ l, checkOp o = 0 := fun o ho => (List.mem_append.1 ho).elim (retL_ok h1 h2 o) (hok o)
  have k2 : endsOk (retL n ++ l) := fun o ho => he o (by
    rcases List.eq_nil_or_concat l with rfl | ⟨q, x, rfl⟩
    · exact absurd rfl hne
    · simpa using ho)
  have k3 : opsum (retL n ++ l) ≤ 1099511627776 := by rw [opsum_app, retL_sum, Nat.zero_add]; exact hT
  have k4 : sumB (retL n ++ l) ≤ 4611686018427387000 := by
    rw [sumB_app]
    have : sumB (retL n) = n := by simp [retL, sumB, baseO, rlen]
    omega
  have k5 : 2 * (retL n ++ l).length + 4 ≤ 1099511627776 := by rw [List.length_append]; simp [retL]; omega
  obtain ⟨A, hA⟩ : ∃ A, retL n = A := ⟨_, rfl⟩
  rw [hA] at hlit k1 k2 k3 k4 k5 ⊢
  clear hA he hok hT hC hN hne
  go_enter Tryz.func63, Tryz.ntmps63
  go_wp2_with (go_at_call 58; refine (rconcat08_any A l _ _ _ (RdOps.gr hlit (by repeat (with_reducible first | assumption | exact Gr.refl _ | apply Gr.alloc | apply Gr.drewN | apply Gr.drew | apply Gr.iter | (refine Gr.setCell ?_ (by simp) _) | (refine Gr.trans ?_ (by assumption))))) (RdOps.gr hl (by repeat (with_reducible first | assumption | exact Gr.refl _ | apply Gr.alloc | apply Gr.drewN | apply Gr.drew | apply Gr.iter | (refine Gr.setCell ?_ (by simp) _) | (refine Gr.trans ?_ (by assumption))))) k1 k2 k3 k4 k5).mono ?_; rintro e w3 ⟨v3, rfl, hr3, hg3⟩)
  go_ret2
  exact ⟨_, rfl, hr3, (by repeat (with_reducible first | assumption | exact Gr.refl _ | apply Gr.alloc | apply Gr.drewN | apply Gr.drew | apply Gr.iter | (refine Gr.setCell ?_ (by simp) _) | (refine Gr.trans ?_ (by assumption))))⟩
set_option maxHeartbeats 2000000 in
theorem rslice08_doc {ea : Nat → Addr} (l : List Op) (v : Value) (f t : Int) (w : World) (hE : Env ea w) (hl : RdOps w v l) (hd : docL l = false) :
    Calls Tryz.prog 61 #[v, .int .i64 f, .int .i64 t] w fun e w' => ∃ v', e = .returned (.tuple #[v', .int .i64 9]) ∧ Gr w w' := by
  obtain ⟨a, m, cap, rfl, -⟩ := hl.sl
  have HD := Lib.hid hd; clear hd
  go_enter Tryz.func61, Tryz.ntmps61
  go_wp2_with (go_at_call 56; refine (rdoc08_any _ _ _ (RdOps.gr hl (by repeat (with_reducible first | assumption | exact Gr.refl _ | apply Gr.alloc | apply Gr.drewN | apply Gr.drew | apply Gr.iter | (refine Gr.setCell ?_ (by simp) _) | (refine Gr.trans ?_ (by assumption)))))).mono ?_; rw [HD.out]; rintro e w1 ⟨rfl, hg1⟩)
  go_ret2
  exact ⟨_, rfl, (by repeat (with_reducible first | assumption | exact Gr.refl _ | apply Gr.alloc | apply Gr.drewN | apply Gr.drew | apply Gr.iter | (refine Gr.setCell ?_ (by simp) _) | (refine Gr.trans ?_ (by assumption))))⟩
set_option maxHeartbeats 2000000 in
theorem rslice08_range {ea : Nat → Addr} (l : List Op) (v : Value) (f t : Int) (R : Int) (w : World) (hE : Env ea w) (hl : RdOps w v l) (hd : docL l = true) (hR : (lensL l).2.1 = R) (hne : f < 0 ∨ t < f ∨ R < t) :
    Calls Tryz.prog 61 #[v, .int .i64 f, .int .i64 t] w fun e w' => ∃ v', e = .returned (.tuple #[v', .int .i64 12]) ∧ Gr w w' := by
  obtain ⟨a, m, cap, rfl, -⟩ := hl.sl
  have HD := Lib.hid hd; have HR := Lib.hid hR; clear hd hR
  by_cases c1 : f < 0
  · clear hne
    go_enter Tryz.func61, Tryz.ntmps61
    go_wp2_with (go_at_call 56; refine (rdoc08_any _ _ _ (RdOps.gr hl (by repeat (with_reducible first | assumption | exact Gr.refl _ | apply Gr.alloc | apply Gr.drewN | apply Gr.drew | apply Gr.iter | (refine Gr.setCell ?_ (by simp) _) | (refine Gr.trans ?_ (by assumption)))))).mono ?_; rw [HD.out]; rintro e w1 ⟨rfl, hg1⟩)
    go_ret2
    exact ⟨_, rfl, (by repeat (with_reducible first | assumption | exact Gr.refl _ | apply Gr.alloc | apply Gr.drewN | apply Gr.drew | apply Gr.iter | (refine Gr.setCell ?_ (by simp) _) | (refine Gr.trans ?_ (by assumption))))⟩
  · by_cases c2 : t < f
    · clear hne
      go_enter Tryz.func61, Tryz.ntmps61
      go_wp2_with (go_at_call 56; refine (rdoc08_any _ _ _ (RdOps.gr hl (by repeat (with_reducible first | assumption | exact Gr.refl _ | apply Gr.alloc | apply Gr.drewN | apply Gr.drew | apply Gr.iter | (refine Gr.setCell ?_ (by simp) _) | (refine Gr.trans ?_ (by assumption)))))).mono ?_; rw [HD.out]; rintro e w1 ⟨rfl, hg1⟩)
      go_ret2
      exact ⟨_, rfl, (by repeat (with_reducible first | assumption | exact Gr.refl _ | apply Gr.alloc | apply Gr.drewN | apply Gr.drew | apply Gr.iter | (refine Gr.setCell ?_ (by simp) _) | (refine Gr.trans ?_ (by assumption))))⟩
    · have c3 : R < t := by omega
      clear hne
      go_enter Tryz.func61, Tryz.ntmps61
      go_wp2_with (first
        | (go_at_call 56; refine (rdoc08_any _ _ _ (RdOps.gr hl (by repeat (with_reducible first | assumption | exact Gr.refl _ | apply Gr.alloc | apply Gr.drewN | apply Gr.drew | apply Gr.iter | (refine Gr.setCell ?_ (by simp) _) | (refine Gr.trans ?_ (by assumption)))))).mono ?_; rw [HD.out]; rintro e w1 ⟨rfl, hg1⟩)
        | (go_at_call 50; refine (rresult08_any _ _ _ (hE.gr (by repeat (with_reducible first | assumption | exact Gr.refl _ | apply Gr.alloc | apply Gr.drewN | apply Gr.drew | apply Gr.iter | (refine Gr.setCell ?_ (by simp) _) | (refine Gr.trans ?_ (by assumption))))) (RdOps.gr hl (by repeat (with_reducible first | assumption | exact Gr.refl _ | apply Gr.alloc | apply Gr.drewN | apply Gr.drew | apply Gr.iter | (refine Gr.setCell ?_ (by simp) _) | (refine Gr.trans ?_ (by assumption)))))).mono ?_; rw [HR.out]; rintro e w2 ⟨rfl, hg2⟩))
      go_ret2
      exact ⟨_, rfl, (by repeat (with_reducible first | assumption | exact Gr.refl _ | apply Gr.alloc | apply Gr.drewN | apply Gr.drew | apply Gr.iter | (refine Gr.setCell ?_ (by simp) _) | (refine Gr.trans ?_ (by assumption))))⟩
end Ve
