/- Ranging over a function whose contract tells the body a fact of each item; the steps of two walkers told. -/
import Derived.Test.YtnlpmajiccliiaaGreatDoorRL
import Derived.Shelf.AbstractIn
set_option linter.all false
/- Ranging over a function whose contract tells the body a fact of each item; what such a contract may turn, what a body may: the law. -/
namespace Ve
open Go Go.RowKit Go.Proofs Go.Shelf

/-- An object's kind of cells; none: it is no cells. -/
def tyO : Obj → Option TypeId
  | .cells _ t _ => some t
  | _ => none
theorem tyO_none {o : Obj} (h : o.isCells = false) : tyO o = none := by cases o <;> first | rfl | simp [Obj.isCells] at h
/-- What Wr does not name lies as it lay. -/
structure Tn (Wr : Nat → Option TypeId → Prop) (w w' : World) : Prop where
  os : w'.os = w.os
  tape : w'.tape = w.tape
  output : w'.output = w.output
  size : w.heap.size ≤ w'.heap.size
  blk : ∀ (b : Nat) (o : Obj), w.heap[b]? = some o → ¬ Wr b (tyO o) → w'.heap[b]? = some o
/-- A fact that abides such a turn. -/
def Abd (Wr : Nat → Option TypeId → Prop) (J : World → Prop) : Prop := ∀ W W', J W → Tn Wr W W' → J W'
section
variable {Wr Wr' : Nat → Option TypeId → Prop} {a w w' : World}
theorem Tn.refl (Wr : Nat → Option TypeId → Prop) (w : World) : Tn Wr w w := ⟨rfl, rfl, rfl, Nat.le_refl _, fun _ _ h _ => h⟩
theorem Tn.trans (h : Tn Wr a w) (k : Tn Wr w w') : Tn Wr a w' :=
  ⟨k.os.trans h.os, k.tape.trans h.tape, k.output.trans h.output, Nat.le_trans h.size k.size, fun b o hb hn => k.blk b o (h.blk b o hb hn) hn⟩
theorem Tn.mono (h : Tn Wr w w') (hw : ∀ b t, Wr b t → Wr' b t) : Tn Wr' w w' := ⟨h.os, h.tape, h.output, h.size, fun b o hb hn => h.blk b o hb fun hh => hn (hw _ _ hh)⟩
theorem Tn.of_gr (h : Gr w w') : Tn Wr w w' := ⟨h.os, h.tape, h.output, h.size, fun b _ hb _ => (h.block (Array.getElem?_eq_some_iff.1 hb).1).trans hb⟩
theorem Tn.put (W : World) {l : Nat} {o : Obj} (o' : Obj) (h : W.heap[l]? = some o) (hw : Wr l (tyO o)) : Tn Wr W (W.putObj l o') :=
  ⟨rfl, rfl, rfl, by simp, fun b o2 hb hn => by
    rw [World.putObj_heap_other (fun e => by subst e; rw [h] at hb; injection hb with hb; subst hb; exact hn hw)]
    exact hb⟩
theorem Tn.set {g : Nat} {e : TypeId} {cs : Array Value} (hB : Blk w g e cs) (hw : Wr g (some e)) (i : Nat) (v : Value) : Tn Wr w (w.setCell ⟨g, i, none⟩ v) := by
  have hk := (Gr.refl w)
  refine ⟨rfl, rfl, rfl, by simp [World.setCell], fun b o hb hn => (Below.heap_setCell _ _ _ _ fun e' => ?_).trans hb⟩
  subst e'
  (try simp only at hb)
  rw [show w.heap[b]? = some (.cells cs e (0, 0)) from hB] at hb
  injection hb with hb
  subst hb
  exact hn hw
theorem Tn.of_kg {S : Nat → Prop} {E : TypeId → Bool} (h : Kg S E w w') (hw : ∀ b t, S b → E t = true → Wr b (some t)) : Tn Wr w w' :=
  ⟨h.os, h.tape, h.output, h.size, fun b o hb hn => (h.blk b (Array.getElem?_eq_some_iff.1 hb).1 (by
    by_cases hs : S b
    · refine .inr fun c t f hc => ?_
      rw [hb] at hc; injection hc with hc; subst hc
      cases hE : E t with
      | false => rfl
      | true => exact absurd (hw b t hs hE) hn
    · exact .inl hs)).trans hb⟩
theorem Tn.below {n : Nat} (h : Tn Wr w w') (hn : n ≤ w.heap.size) (hw : ∀ b t, b < n → ¬ Wr b t) : Below n w w' :=
  ⟨h.os, h.tape, h.output, h.size, fun k hk => by
    have hlt : k < w.heap.size := by omega
    rw [h.blk k w.heap[k] (by simp [hlt]) (hw _ _ hk)]
    simp [hlt]⟩
theorem Gr.tn (h : Gr a w) (k : Tn Wr w w') (hw : ∀ b t, Wr b t → a.heap.size ≤ b) : Gr a w' :=
  Below.trans h (k.below h.size fun b t hb hh => by have := hw b t hh; omega)
theorem Blk.tn {g : Nat} {e : TypeId} {cs : Array Value} (h : Blk w g e cs) (k : Tn Wr w w') (hn : ¬ Wr g (some e)) : Blk w' g e cs := k.blk g _ h hn
theorem OwnL.tn {α : Type} {R : World → α → List Value → Prop} {k base : Nat} {e : TypeId} {v : Value} {l : List α} (h : OwnL R k base e w v l) (hR : ∀ x cs, R w x cs → R w' x cs) (hg : Tn Wr w w') (hne : ∀ g, v.ownBlock = some g → ¬ Wr g (some e)) : OwnL R k base e w' v l := by
  obtain ⟨xs, ⟨h1, h2⟩, hr⟩ := h
  refine ⟨xs, ⟨h1, ?_⟩, hr.map hR⟩
  rcases h2 with h2 | ⟨g, cap, cur, rfl, e2, e3, rest⟩
  · exact .inl h2
  · exact .inr ⟨g, cap, cur, rfl, e2, hg.blk g _ e3 (hne g rfl), rest⟩
theorem OwnA.tn {v : Value} {l : List Attr} (h : OwnA w v l) (hg : Tn Wr w w') (hne : ∀ g, v.ownBlock = some g → ¬ Wr g (some 176)) : OwnA w' v l := ⟨OwnL.tn (w := w) h.1 (fun _ _ h => h.any) hg hne, h.2⟩
theorem PieceV.tn {p : Piece} {v : Value} (h : PieceV w p v) (g : Tn Wr w w') (hne : ∀ b, ablk v = some b → ¬ Wr b (some 176)) : PieceV w' p v := by
  cases p with
  | ins l t n => obtain ⟨sl, rfl, h, s⟩ := h; exact ⟨sl, rfl, h.tn g fun b hb => hne b (by simpa [ablk] using hb), s⟩
  | emb l t x => obtain ⟨sl, rfl, h, s⟩ := h; exact ⟨sl, rfl, h.tn g fun b hb => hne b (by simpa [ablk] using hb), s⟩
  | ret l n => obtain ⟨sl, rfl, h⟩ := h; exact ⟨sl, rfl, h.tn g fun b hb => hne b (by simpa [ablk] using hb)⟩
  | del n => exact h
theorem PieceV.tnA {p : Piece} {v : Value} (h : PieceV w p v) (g : Tn Wr w w') (hne : ∀ b, ¬ Wr b (some 176)) : PieceV w' p v := h.tn g fun b _ => hne b
theorem SubP.tn {v : Value} {l : List Piece} (h : SubP w v l) (g : Tn Wr w w') (h1 : ∀ b, ¬ Wr b (some 176)) (h2 : ∀ b, ¬ Wr b (some 109)) : SubP w' v l := by
  obtain ⟨a, cap, xs, rfl, hc, hm, hb, hr, hx⟩ := h
  refine ⟨a, cap, xs, rfl, hc, hm, hb, hr.map fun _ _ h => ?_, fun hn => ?_⟩
  · obtain ⟨v, e, h⟩ := h; exact ⟨v, e, h.tnA g h1⟩
  · obtain ⟨b, off, cs, rfl, hB, hu⟩ := hx hn
    exact ⟨b, off, cs, rfl, hB.tn g (h2 b), hu⟩
theorem WalkX.tn {g : Nat} {lb : Option Nat} {ps : List Piece} (h : WalkX w g lb ps) (k : Tn Wr w w') (h1 : ∀ b, ¬ Wr b (some 176)) (h2 : ∀ b, ¬ Wr b (some 109)) (h3 : ¬ Wr g (some 156)) : WalkX w' g lb ps := by
  obtain ⟨sl, hB, hs, e⟩ := h
  exact ⟨sl, hB.tn k h3, hs.tn k h1 h2, e⟩
end
/-- An iterator's contract: T is what it tells of the item of each round, Kp what a round that goes on keeps, Gt the kinds of objects of its own that it turns. -/
def SeqTold {α : Type} (F : Fence) (n : Nat) (P : Program) (g : Nat) (lb : Array Value) (encs : α → Array Value) (Gt : Option TypeId → Prop) (T : Nat → α → World → Prop) (Kp : α → World → World → Prop) (S Sp : List α → Prop) (w : World) : Prop :=
  ∀ (l : Nat) (J Jx : List α → World → Prop) (W : World), Below w.heap.size w W → (∀ s, Abd (fun b t => W.heap.size ≤ b ∧ Gt t) (J s)) → (∀ s, Abd (fun b t => W.heap.size ≤ b ∧ Gt t) (Jx s)) →
    (∀ pre x W1, J pre W1 → T pre.length x W1 → YieldAt F (n - 1) P l (encs x) W1 fun e W' =>
      (e = .returned (.bool true) ∧ J (pre ++ [x]) W' ∧ Kp x W1 W') ∨ (e = .returned (.bool false) ∧ Jx (pre ++ [x]) W')) →
    J [] W →
    CallsIn F n P g (#[.func (.yield l) #[] #[]] ++ lb) W fun e W' => (∃ v, e = .returned v) ∧ ((∃ xs, S xs ∧ J xs W') ∨ (∃ pre, Sp pre ∧ Jx pre W'))

/-- How a told round may be left. -/
def toldPost {α : Type} (Kp : World → World → Prop) (I : List α → World → Prop) (Ix : Code → List α → World → Prop) (xs : List α) (W : World) : Exit → Act → World → Prop
  | .normal, _, W' => KeepsOthers W W' ∧ Kp W W' ∧ I xs W'
  | .ret, _, W' => KeepsOthers W W' ∧ Ix .ret xs W'
  | .exit id, _, W' => KeepsOthers W W' ∧ Ix (.exit id) xs W'
  | .goto t, _, W' => KeepsOthers W W' ∧ Ix (.goto t) xs W'
  | .panic _, _, _ => False
  | .outgrown, _, _ => False

section
variable {F : Fence} {n : Nat} {P : Program}
set_option maxHeartbeats 1000000 in
/-- The law of ranging over a function, for a told contract. -/
theorem wpIn_told {α : Type} {g : Operand} {ps : Array Tmp} {assign body : Code} {Q : Exit → Act → World → Prop} {a : Act} {w : World}
    (hro : F.round = none) (h1 : 1 ≤ n) {gf : Nat} {lb : Array Value} (hg : a.eval g = .func (.func gf) #[] lb) (hFg : F.fn gf) (eg : ∀ args w, (callFunc gf args).run P w = .ok (.enter gf args) w)
    {encs : α → Array Value} {Gt : Option TypeId → Prop} {T : Nat → α → World → Prop} {Kp : α → World → World → Prop} {S Sp : List α → Prop} {w0 : World} (hseq : SeqTold F (n - 1) P gf lb encs Gt T Kp S Sp w0)
    (hGt : Gt none)
    (hKt : ∀ {x : α} {A B C : World}, Kp x A B → Kp x B C → Kp x A C) (hKb : ∀ (x : α) (W : World) (l : Nat) (o o' : Obj), w.heap.size ≤ l → W.heap[l]? = some o → o.isCells = false → o.isWalk = false → Kp x W (W.putObj l o'))
    (hTb : ∀ (k : Nat) (x : α), Abd (fun b t => w.heap.size ≤ b ∧ Gt t) (T k x))
    (hb0 : Below w0.heap.size w0 w) (hps : ∀ x, (encs x).size = ps.size)
    (I : List α → World → Prop) (Ix : Code → List α → World → Prop) (hI : ∀ s, Abd (fun b t => w.heap.size ≤ b ∧ Gt t) (I s)) (hIx : ∀ c s, Abd (fun b t => w.heap.size ≤ b ∧ Gt t) (Ix c s)) (h0 : I [] w) (a₁ : α → Act)
    (hassign : ∀ (l : Nat) (x : α) (W : World) (K : Act → World → Prop), K (a₁ x) W →
      assign.wpIn (F.inRound l) (n - 1 - 1) P (Exit.then K (fun _ _ _ => False)) { tmps := (ps.zip (encs x)).foldl (fun t (p, v) => t.setIfInBounds p v) a.tmps, defers := [] } W)
    (hbody : ∀ (l : Nat) (pre : List α) (x : α) (W : World), I pre W → T pre.length x W → body.wpIn (F.inRound l) (n - 1 - 1) P (toldPost (Kp x) I Ix (pre ++ [x]) W) (a₁ x) W)
    (hdone : ∀ (D : Nat) (xs : List α) (W : World), w.heap.size ≤ D → S xs → I xs W → W.heap[D]? = some (.deferred (some [])) → Q .normal { a with defers := { target := .collected D, args := #[] } :: a.defers } W)
    (hstop : ∀ (D : Nat) (c : Code) (pre : List α) (W : World), w.heap.size ≤ D → Sp pre → Ix c pre W → W.heap[D]? = some (.deferred (some [])) → c.wpIn F n P Q { a with defers := { target := .collected D, args := #[] } :: a.defers } W) :
    (Code.rangeFunc g ps assign body).wpIn F n P Q a w := by
  refine wpIn_rangeFunc fun fn hfn => ?_
  rw [hro]
  obtain ⟨H, hH⟩ : ∃ H, w.heap.size = H := ⟨_, rfl⟩
  obtain ⟨R, hR⟩ : ∃ R : LoopState → Option Code → Loop, R = fun st pe => { state := st, pending := pe, fn, tmps := a.tmps, params := ps, assign, body, defers := w.heap.size } := ⟨_, rfl⟩
  have hpar : ∀ st pe, (R st pe).params = ps := by intro st pe; rw [hR]
  have hst : ∀ st pe, (R st pe).state = st := by intro st pe; rw [hR]
  -- what the law carries beside the caller's own: the loop's record, the block of deferred calls
  let Rec : LoopState → Option Code → World → Prop := fun st pe W => W.heap[H + 1]? = some (.loop (R st pe)) ∧ W.heap[H]? = some (.deferred (some []))
  have recPut : ∀ {st pe st' pe' W}, Rec st pe W → Rec st' pe' (W.putObj (H + 1) (.loop (R st' pe'))) := fun {st pe st' pe' W} h =>
    ⟨World.putObj_heap_same (Array.getElem?_eq_some_iff.1 h.1).1, (World.putObj_heap_other (by omega)).trans h.2⟩
  have recKeep : ∀ {st pe W W'}, Rec st pe W → KeepsOthers W W' → Rec st pe W' := fun h k => ⟨k.same _ _ h.1 rfl, k.same _ _ h.2 rfl⟩
  have put : ∀ {J : World → Prop} {W : World} {l : Nat} {o : Obj} (o' : Obj), Abd (fun b t => H ≤ b ∧ Gt t) J → J W → H ≤ l → W.heap[l]? = some o → o.isCells = false → J (W.putObj l o') := fun o' hJ hj hl ho hc =>
    hJ _ _ hj (Tn.put _ o' ho ⟨hl, by rw [tyO_none hc]; exact hGt⟩)
  obtain ⟨W1, hW1⟩ : ∃ W1, (w.alloc (.deferred (some []))).alloc (.loop (R .ready none)) = W1 := ⟨_, rfl⟩
  have hz1 : W1.heap.size = H + 1 + 1 := by rw [← hW1, ← hH]; simp
  have hgr1 : Gr w W1 := by rw [← hW1]; exact ((Gr.refl w).alloc _).alloc _
  have hr1 : Rec .ready none W1 := by
    constructor
    · rw [← hW1, ← hH]; have := World.alloc_heap_new (w.alloc (.deferred (some []))) (.loop (R .ready none)); rwa [World.size_alloc] at this
    · rw [← hW1, ← hH]; exact (Below.heap_alloc _ _ _ (by simp)).trans (World.alloc_heap_new w _)
  have hi1 : I [] W1 := hI _ _ _ h0 (Tn.of_gr hgr1)
  have hb1 : Below w0.heap.size w0 W1 := hb0.trans (hgr1.mono hb0.size)
  refine ⟨w.heap.size + 1, [{ target := .collected w.heap.size, args := #[] }], W1, { target := .fn (.func gf) lb, args := #[.func (.yield (w.heap.size + 1)) #[] #[]] }, W1, gf,
    #[.func (.yield (w.heap.size + 1)) #[] #[]] ++ lb, W1, ?_, ?_, ?_, ?_, fun _ => h1, ?_⟩
  · rw [← hW1, hR]; exact run_enterLoop_outer _ _ _ _ _
  · simp only [resolve, hg]
    simp [go_sem]
  · intro f' hf'; simp [Target.leads] at hf'; subst hf'; exact hFg
  · simp [invoke, go_sem, eg]
  rw [hH] at hI hIx hKb hTb hdone hstop ⊢
  have up : ∀ {A B : World}, Tn (fun b t => W1.heap.size ≤ b ∧ Gt t) A B → Tn (fun b t => H ≤ b ∧ Gt t) A B := fun h => h.mono fun b t hh => ⟨by have := hh.1; omega, hh.2⟩
  have recTurn : ∀ {st pe A B}, Rec st pe A → Tn (fun b t => W1.heap.size ≤ b ∧ Gt t) A B → Rec st pe B := fun hs hg' =>
    ⟨hg'.blk _ _ hs.1 (fun h => by have := h.1; omega), hg'.blk _ _ hs.2 (fun h => by have := h.1; omega)⟩
  refine (hseq (H + 1) (fun pre W => I pre W ∧ Rec .ready none W) (fun pre W => ∃ c, Ix c pre W ∧ Rec .done (some c) W) W1 hb1
    (fun s A B hs hg' => ⟨hI s A B hs.1 (up hg'), recTurn hs.2 hg'⟩)
    (fun s A B hs hg' => by obtain ⟨c, hc, hs⟩ := hs; exact ⟨c, hIx c s A B hc (up hg'), recTurn hs hg'⟩) ?_ ⟨hi1, hr1⟩).mono ?_
  · rintro pre x W ⟨hi, hrec⟩ ht
    have hy := run_yield (P := P) (args := encs x) hrec.1 (by rw [hpar]; exact hps x)
    rw [hR] at hy
    refine ⟨fn, _, assign, body, hy, roundIn_of_wpIn hfn (hassign _ x W _ ⟨_, run_beginRound hrec.1 (hst _ _), ?_⟩)⟩
    have hrec' : Rec .busy none (W.putObj (H + 1) (.loop (R .busy none))) := recPut hrec
    have hk0 : Kp x W (W.putObj (H + 1) (.loop (R .busy none))) := hKb _ _ _ _ _ (by omega) hrec.1 rfl rfl
    have hbd := hbody (H + 1) pre x _ (put (.loop (R .busy none)) (hI _) hi (by omega) hrec.1 rfl) (put (.loop (R .busy none)) (hTb _ x) ht (by omega) hrec.1 rfl)
    rw [show ({ R .ready none with state := .busy } : Loop) = R .busy none by rw [hR]]
    have fin : ∀ (jump : Option Code) {W3 : World}, KeepsOthers (W.putObj (H + 1) (.loop (R .busy none))) W3 →
        (Instr.endRound (H + 1) jump).run P W3 = .ok (.bool jump.isNone) (W3.putObj (H + 1) (.loop (R (if jump.isNone then .ready else .done) jump))) ∧ Rec .busy none W3 := fun jump W3 hk => by
      have h3 := recKeep hrec' hk
      have := run_endRound (P := P) jump h3.1
      refine ⟨?_, h3⟩
      rw [hR] at this ⊢
      exact this
    have leave : ∀ (c : Code) {W3 : World}, KeepsOthers (W.putObj (H + 1) (.loop (R .busy none))) W3 → Ix c (pre ++ [x]) W3 →
        ∃ r W4, (Instr.endRound (H + 1) (some c)).run P W3 = .ok (.bool r) W4 ∧ r = false ∧ ∃ c', Ix c' (pre ++ [x]) W4 ∧ Rec .done (some c') W4 := fun c W3 hk hi3 => by
      obtain ⟨e1, h3⟩ := fin (some c) hk
      exact ⟨_, _, e1, rfl, c, put _ (hIx c _) hi3 (by omega) h3.1 rfl, recPut h3⟩
    refine wpIn_mono hbd ?_
    rintro e a3 W3 hp
    cases e with
    | normal =>
      obtain ⟨hk, hkp, hi3⟩ := hp
      obtain ⟨e1, h3⟩ := fin none hk
      exact ⟨_, _, e1, .inl ⟨rfl, ⟨put _ (hI _) hi3 (by omega) h3.1 rfl, recPut h3⟩, hKt (hKt hk0 hkp) (hKb _ _ _ _ _ (by omega) h3.1 rfl rfl)⟩⟩
    | ret => obtain ⟨r, W4, e1, rfl, h⟩ := leave _ hp.1 hp.2; exact ⟨_, _, e1, .inr ⟨rfl, h⟩⟩
    | exit id => obtain ⟨r, W4, e1, rfl, h⟩ := leave _ hp.1 hp.2; exact ⟨_, _, e1, .inr ⟨rfl, h⟩⟩
    | goto t => obtain ⟨r, W4, e1, rfl, h⟩ := leave _ hp.1 hp.2; exact ⟨_, _, e1, .inr ⟨rfl, h⟩⟩
    | panic ch => exact hp.elim
    | outgrown => exact hp.elim
  · rintro e W2 ⟨⟨v, rfl⟩, (⟨xs, hS, hi, hrec⟩ | ⟨pre, hSp, c, hi, hrec⟩)⟩
    · have e1 := run_endLoop (P := P) hrec.1 (by rw [hst]; simp)
      rw [hR] at e1
      exact ⟨none, _, e1, hdone H xs _ (Nat.le_refl _) hS (put _ (hI _) hi (by omega) hrec.1 rfl) ((World.putObj_heap_other (by omega)).trans hrec.2)⟩
    · have e1 := run_endLoop (P := P) hrec.1 (by rw [hst]; simp)
      rw [hR] at e1
      exact ⟨some c, _, e1, hstop H c pre _ (Nat.le_refl _) hSp (put _ (hIx c _) hi (by omega) hrec.1 rfl) ((World.putObj_heap_other (by omega)).trans hrec.2)⟩
end
end Ve
/- Walks: a step of two walkers, all cases; the steps one by one (walk.Steps), told. -/
namespace Ve
open Go Go.RowKit Go.Proofs Go.Shelf

attribute [local go_sem] Oper.semAt_some

/-- An operation appended; only the list's own block is written. -/
theorem push_opF (w : World) (base : Nat) (ty : TypeId) {v : Value} {l : List Op} (o : Op) (sl : Value) (hown : OwnOps base w v l) (hx : OwnA w sl o.attrs) (h1 : szS o.text) (h2 : szS o.val.text) (hm : l.length + 1 ≤ 1099511627776) (hb : base ≤ w.heap.size) :
    ∃ v' w', (Builtin.append_ #[22, 22] ty #[v, .slice (some ⟨w.heap.size, 0, none⟩) 1 1]).run Tryz.prog (w.alloc (.cells #[.int .i64 o.kind, .string o.text, .int .i64 o.val.kind, .int .i64 o.val.num, .string o.val.text, .int .i64 o.count, sl] 65)) = .ok v' w' ∧ OwnOps base w' v' (l ++ [o]) ∧
      Kg (fun b => v.ownBlock = some b) opT w w' ∧ ∀ b, v'.ownBlock = some b → v.ownBlock = some b ∨ w.heap.size ≤ b := by
  obtain ⟨v', w', r1, r2, r3, r4, r5, r6, r7⟩ := run_push (P := Tryz.prog) (R := OpO) w base 22 ty 65 _ 7 88 Tryz.underlying22 info_op rfl (by omega) (by omega) OpO.flat (fun _ _ _ _ k h => OpO.kt h k (by decide)) hown (x := o) (cs := [.int .i64 o.kind, .string o.text, .int .i64 o.val.kind, .int .i64 o.val.num, .string o.val.text, .int .i64 o.count, sl]) ⟨sl, rfl, hx, h1, h2⟩ rfl hm hb
  obtain ⟨xs, ho, hr⟩ := hown
  exact ⟨v', w', r1, r2, Kg.of_own_alloc ho (by decide) (fun b h => h) r3, r7⟩
/-- A piece or none. -/
def PieceO (w : World) : Option Piece → Value → Prop
  | none, v => v = .nilIface
  | some p, v => PieceV w p v
/-- A step: its two pieces, and what is left on both sides. -/
def stepP (ps qs : List Piece) : (Option Piece × Option Piece) × List Piece × List Piece :=
  if kindP qs = 1 ∨ kindP qs = 2 then ((none, some (nextP qs (leftP qs)).1), ps, (nextP qs (leftP qs)).2)
  else if kindP ps = 4 then ((some (nextP ps (leftP ps)).1, none), (nextP ps (leftP ps)).2, qs)
  else ((some (nextP ps (min (leftP ps) (leftP qs))).1, some (nextP qs (min (leftP ps) (leftP qs))).1), (nextP ps (min (leftP ps) (leftP qs))).2, (nextP qs (min (leftP ps) (leftP qs))).2)
/-- All steps, at most n. -/
def stepsP : Nat → List Piece → List Piece → List (Option Piece × Option Piece)
  | 0, _, _ => []
  | n + 1, ps, qs => if ps = [] ∧ qs = [] then [] else (stepP ps qs).1 :: stepsP n (stepP ps qs).2.1 (stepP ps qs).2.2
theorem next_left {ps : List Piece} : (nextP ps (leftP ps)).2 = ps.tail := by
  cases ps with
  | nil => rfl
  | cons p r => simp [nextP, leftP]
theorem next_len (ps : List Piece) (n : Int) : (nextP ps n).2.length ≤ ps.length := by
  cases ps with
  | nil => simp [nextP]
  | cons p r => simp only [nextP]; split <;> simp
theorem step_can {ps qs : List Piece} (hp : Can ps) (hq : Can qs) : Can (stepP ps qs).2.1 ∧ Can (stepP ps qs).2.2 := by
  obtain ⟨h1, h2⟩ := hp.left
  obtain ⟨h3, h4⟩ := hq.left
  unfold stepP
  split
  · exact ⟨hp, (hq.next h3).1⟩
  · split
    · exact ⟨(hp.next h1).1, hq⟩
    · exact ⟨(hp.next (n := min (leftP ps) (leftP qs)) (by omega)).1, (hq.next (n := min (leftP ps) (leftP qs)) (by omega)).1⟩
theorem step_len {ps qs : List Piece} (hp : Can ps) (hq : Can qs) (h : ¬ (ps = [] ∧ qs = [])) : (stepP ps qs).2.1.length + (stepP ps qs).2.2.length < ps.length + qs.length := by
  obtain ⟨h1, h2⟩ := hp.left
  obtain ⟨h3, h4⟩ := hq.left
  unfold stepP
  split
  · rename_i hk
    simp only [next_left]
    cases qs with
    | nil => simp [kindP] at hk
    | cons q s => simp
  · split
    · rename_i hk
      simp only [next_left]
      cases ps with
      | nil => simp [kindP] at hk
      | cons p r => simp
    · have e1 := next_len ps (min (leftP ps) (leftP qs))
      have e2 := next_len qs (min (leftP ps) (leftP qs))
      by_cases hle : leftP ps ≤ leftP qs
      · cases ps with
        | nil =>
          cases qs with
          | nil => simp at h
          | cons q s =>
            have : q.len = 1099511627776 := by simp only [leftP] at hle h4 h3; omega
            have : (nextP (q :: s) (min (leftP []) (leftP (q :: s)))).2 = s := by simp only [nextP]; rw [if_pos (by simp only [leftP]; omega)]
            simp only [this, List.length_cons]
            have e3 := next_len [] (min (leftP []) (leftP (q :: s)))
            simp only [List.length_nil] at e3 ⊢
            omega
        | cons p r =>
          have : (nextP (p :: r) (min (leftP (p :: r)) (leftP qs))).2 = r := by simp only [nextP]; rw [if_pos (by simp only [leftP] at hle ⊢; omega)]
          simp only [this, List.length_cons]
          omega
      · cases qs with
        | nil => simp only [leftP] at hle h2; omega
        | cons q s =>
          have : (nextP (q :: s) (min (leftP ps) (leftP (q :: s)))).2 = s := by simp only [nextP]; rw [if_pos (by simp only [leftP] at hle ⊢; omega)]
          simp only [this, List.length_cons]
          omega

theorem wstep_any {ea : Nat → Addr} (gx gy : Nat) (lx ly : Option Nat) (ps qs : List Piece) (w : World) (hE : Env ea w) (hX : WalkX w gx lx ps) (hY : WalkX w gy ly qs) (hp : Can ps) (hq : Can qs) (hne : gx ≠ gy) (hEs : ∀ w', Kg (fun b => b = gx) wkT w w' → Env ea w') :
    Calls Tryz.prog 146 #[.pointer (some ⟨gx, 0, none⟩), .pointer (some ⟨gy, 0, none⟩)] w fun e w' => ∃ pv qv lx' ly', e = .returned (.tuple #[pv, qv, .nilIface]) ∧ PieceO w' (stepP ps qs).1.1 pv ∧ PieceO w' (stepP ps qs).1.2 qv ∧
      WalkX w' gx lx' (stepP ps qs).2.1 ∧ WalkX w' gy ly' (stepP ps qs).2.2 ∧ Kg (fun b => b = gx ∨ b = gy) wkT w w' := by
  by_cases h1 : kindP qs = 1 ∨ kindP qs = 2
  · rw [show stepP ps qs = ((none, some (nextP qs (leftP qs)).1), ps, (nextP qs (leftP qs)).2) by unfold stepP; rw [if_pos h1]]
    refine (wstep_ins gx gy lx ly ps qs w hE hX hY hq hne h1).mono ?_
    rintro e w' ⟨pv, lb', rfl, a1, a2, a3, -, a5⟩
    exact ⟨_, _, _, _, rfl, rfl, a1, a2, a3, a5.sub fun b h => .inr h⟩
  · by_cases h2 : kindP ps = 4
    · rw [show stepP ps qs = ((some (nextP ps (leftP ps)).1, none), (nextP ps (leftP ps)).2, qs) by unfold stepP; rw [if_neg h1, if_pos h2]]
      refine (wstep_del gx gy lx ly ps qs w hE hX hY hp hne h1 h2).mono ?_
      rintro e w' ⟨pv, lb', rfl, a1, a2, a3, -, a5⟩
      exact ⟨_, _, _, _, rfl, a1, rfl, a2, a3, a5.sub fun b h => .inl h⟩
    · rw [show stepP ps qs = ((some (nextP ps (min (leftP ps) (leftP qs))).1, some (nextP qs (min (leftP ps) (leftP qs))).1), (nextP ps (min (leftP ps) (leftP qs))).2, (nextP qs (min (leftP ps) (leftP qs))).2) by unfold stepP; rw [if_neg h1, if_neg h2]]
      refine (wstep_two gx gy lx ly ps qs w hE hX hY hp hq hne h1 h2 hEs).mono ?_
      rintro e w' ⟨pv, qv, l1, l2, rfl, a1, a2, a3, a4, -, -, a7⟩
      exact ⟨_, _, _, _, rfl, a1, a2, a3, a4, a7⟩

/-- How many pieces a walker's slice has. -/
def wlen (w : World) (g : Nat) : Nat :=
  match w.cell? ⟨g, 0, none⟩ with
  | some (.slice _ n _) => n
  | _ => 0
theorem WalkX.wlen {w : World} {g : Nat} {lb : Option Nat} {ps : List Piece} (h : WalkX w g lb ps) : wlen w g = ps.length := by
  obtain ⟨sl, hB, hs, -⟩ := h
  obtain ⟨a, cap, xs, rfl, -⟩ := hs
  have := hB.cell 0
  simp at this
  simp [Ve.wlen, this]
/-- A step's two pieces, their values. -/
abbrev Stp : Type := (Option Piece × Option Piece) × (Value × Value)
/-- What a round of walk.Steps may turn. -/
def stW (H : Nat) (b : Nat) (t : Option TypeId) : Prop := H ≤ b ∧ t ≠ some 176 ∧ t ≠ some 109 ∧ t ≠ some 156
def wkG (t : Option TypeId) : Prop := t = none ∨ t = some 156
/-- What a round of walk.Steps is told. -/
def StpT (l : List (Option Piece × Option Piece)) (k : Nat) (x : Stp) (w : World) : Prop := l[k]? = some x.1 ∧ PieceO w x.1.1 x.2.1 ∧ PieceO w x.1.2 x.2.2
theorem PieceO.tn {Wr : Nat → Option TypeId → Prop} {w w' : World} {p : Option Piece} {v : Value} (h : PieceO w p v) (g : Tn Wr w w') (hne : ∀ b, ¬ Wr b (some 176)) : PieceO w' p v := by
  cases p with
  | none => exact h
  | some p => exact PieceV.tnA (w := w) h g hne
theorem StpT.tn {Wr : Nat → Option TypeId → Prop} {w w' : World} {l : List (Option Piece × Option Piece)} {k : Nat} {x : Stp} (h : StpT l k x w) (g : Tn Wr w w') (hne : ∀ b, ¬ Wr b (some 176)) : StpT l k x w' := ⟨h.1, h.2.1.tn g hne, h.2.2.tn g hne⟩

set_option maxRecDepth 20000 in
set_option maxHeartbeats 4000000 in
theorem steps_told {ea : Nat → Addr} (n B1 B2 : Nat) (hn : 1 ≤ n) (ps qs : List Piece) (dv fv : Value) (w0 w : World) (hE : Env ea w0) (h0w : Gr w0 w) (hb1 : w.cell? ⟨B1, 0, none⟩ = some dv) (hb2 : w.cell? ⟨B2, 0, none⟩ = some fv)
    (hD : DeltaR w0 dv ps) (hF : DeltaR w0 fv qs) (hp : Can ps) (hq : Can qs) :
    SeqTold Fence.wide n Tryz.prog 145 #[.pointer (some ⟨B1, 0, none⟩), .pointer (some ⟨B2, 0, none⟩)] (fun x : Stp => #[x.2.1, x.2.2]) wkG (StpT (stepsP (ps.length + qs.length) ps qs)) (fun _ W W' => Tn (stW w0.heap.size) W W')
      (fun xs => xs.map (·.1) = stepsP (ps.length + qs.length) ps qs) (fun _ => True) w := fun l J Jx W hW hJ hJx hY h0 => by
  refine callsIn_of_wp Tryz.func145 rfl trivial ?_ rfl
  simp only [Tryz.ntmps145, List.size_toArray, List.length_cons, List.length_nil, Nat.reduceAdd, Nat.reduceSub, Array.replicate_succ, Array.replicate_zero, List.push_toArray, List.append_toArray, List.nil_append, List.cons_append]
  have hgW : Gr w0 W := Gr.trans h0w hW
  have q1 : W.cell? ⟨B1, 0, none⟩ = some dv := (Gr.cell (w := w) (w' := W) hW hb1)
  have q2 : W.cell? ⟨B2, 0, none⟩ = some fv := (Gr.cell (w := w) (w' := W) hW hb2)
  have hE1 := hE.gr hgW
  have hD1 := hD.gr hgW
  have hF1 := hF.gr hgW
  obtain ⟨gd, sld, rfl, hBD, hrd⟩ := hD1
  obtain ⟨gf, slf, rfl, hBF, hrf⟩ := hF1
  have HD := Lib.hid (show DeltaR W (.pointer (some ⟨gd, 0, none⟩)) ps from ⟨gd, sld, rfl, hBD, hrd⟩)
  have HF := Lib.hid (show DeltaR W (.pointer (some ⟨gf, 0, none⟩)) qs from ⟨gf, slf, rfl, hBF, hrf⟩)
  clear hBD hrd hBF hrf hb1 hb2
  have hmx : Tryz.prog.follows .mixedOrders = true := by kernel_rfl
  gi_wp2
  gi_region_with_o (first
    | (refine ⟨trivial, ?_⟩; gi_at_call 78; have _h := hg1; refine (callsIn_wide.2 (wnew_any qs _ _ (hE1.gr (by repeat (with_reducible first | assumption | exact Gr.refl _ | apply Gr.alloc | apply Gr.drewN | apply Gr.drew | apply Gr.iter | (refine Gr.setCell ?_ (by simp) _) | (refine Gr.trans ?_ (by assumption))))) (HF.out.gr (by repeat (with_reducible first | assumption | exact Gr.refl _ | apply Gr.alloc | apply Gr.drewN | apply Gr.drew | apply Gr.iter | (refine Gr.setCell ?_ (by simp) _) | (refine Gr.trans ?_ (by assumption))))) hq.ok)).mono ?_; rintro e w2 ⟨gy, ly, rfl, hge2, hW2, -, hg2⟩)
    | (refine ⟨trivial, ?_⟩; gi_at_call 78; refine (callsIn_wide.2 (wnew_any ps _ _ (hE1.gr (by repeat (with_reducible first | assumption | exact Gr.refl _ | apply Gr.alloc | apply Gr.drewN | apply Gr.drew | apply Gr.iter | (refine Gr.setCell ?_ (by simp) _) | (refine Gr.trans ?_ (by assumption))))) (HD.out.gr (by repeat (with_reducible first | assumption | exact Gr.refl _ | apply Gr.alloc | apply Gr.drewN | apply Gr.drew | apply Gr.iter | (refine Gr.setCell ?_ (by simp) _) | (refine Gr.trans ?_ (by assumption))))) hp.ok)).mono ?_; rintro e w1 ⟨gx, lx, rfl, hge1, hW1, -, hg1⟩; have e2 := Gr.cell (w := W) (w' := w1) (by repeat (with_reducible first | assumption | exact Gr.refl _ | apply Gr.alloc | apply Gr.drewN | apply Gr.drew | apply Gr.iter | (refine Gr.setCell ?_ (by simp) _) | (refine Gr.trans ?_ (by assumption)))) q2))
  all_goals go_simp
  all_goals gi_wp2
  all_goals (have hlt1 := hW1.lt
             have hgw2 : Gr W w2 := (by repeat (with_reducible first | assumption | exact Gr.refl _ | apply Gr.alloc | apply Gr.drewN | apply Gr.drew | apply Gr.iter | (refine Gr.setCell ?_ (by simp) _) | (refine Gr.trans ?_ (by assumption))))
             have hgw1 : Gr w1 w2 := (by repeat (with_reducible first | assumption | exact Gr.refl _ | apply Gr.alloc | apply Gr.drewN | apply Gr.drew | apply Gr.iter | (refine Gr.setCell ?_ (by simp) _) | (refine Gr.trans ?_ (by assumption))))
             have hzx : W.heap.size ≤ gx := by simpa using hge1
             have hzy : w1.heap.size ≤ gy := by simpa using hge2
             have hzW : W.heap.size ≤ w1.heap.size := Gr.size (w := W) (w' := w1) (by repeat (with_reducible first | assumption | exact Gr.refl _ | apply Gr.alloc | apply Gr.drewN | apply Gr.drew | apply Gr.iter | (refine Gr.setCell ?_ (by simp) _) | (refine Gr.trans ?_ (by assumption))))
             have hne : gx ≠ gy := by omega
             have hz0 := Gr.size hgW
             have hzx0 : w0.heap.size ≤ gx := by omega
             have hwk : ∀ (b : Nat) (t : TypeId), (b = gx ∨ b = gy) → wkT t = true → W.heap.size ≤ b ∧ wkG (some t) := by
               rintro b t hb ht
               refine ⟨by omega, .inr ?_⟩
               unfold wkT at ht
               rw [beq_iff_eq.1 ht]
             clear hge1 hge2 q1 q2 e2
             obtain ⟨NN, hNN⟩ : ∃ NN, ps.length + qs.length = NN := ⟨_, rfl⟩
             rw [hNN] at hY
             gi_loopw [6] (fun _ wr => ∃ (pre : List Stp) (lx' ly' : Option Nat) (rp rq : List Piece), J pre wr ∧ WalkX wr gx lx' rp ∧ WalkX wr gy ly' rq ∧ Can rp ∧ Can rq ∧ rp.length + rq.length ≤ NN - pre.length ∧ pre.length ≤ NN ∧ stepsP NN ps qs = pre.map (·.1) ++ stepsP (NN - pre.length) rp rq ∧ Gr w0 wr) (fun _ wr => wlen wr gx + wlen wr gy)
             case atStart => exact ⟨[], lx, ly, ps, qs, hJ _ _ _ h0 (Tn.of_gr hgw2), hW1.gr hgw1, hW2, hp, hq, by simp; omega, by simp, by simp, Gr.trans hgW hgw2⟩
             case round =>
               obtain ⟨pre, lx', ly', rp, rq, hJr, hX, hYw, cp, cq, hlen, hle, hst, hg0⟩ := hrel
               by_cases he : rp = [] ∧ rq = []
               · obtain ⟨rfl, rfl⟩ := he
                 have HST := Lib.hid hst; clear hst
                 gi_wp2_with (first
                   | (refine ⟨trivial, ?_⟩; gi_at_call 126; have _h := hg3; refine (callsIn_wide.2 (wdone_any gy ly' [] _ (hYw.gr (by repeat (with_reducible first | assumption | exact Gr.refl _ | apply Gr.alloc | apply Gr.drewN | apply Gr.drew | apply Gr.iter | (refine Gr.setCell ?_ (by simp) _) | (refine Gr.trans ?_ (by assumption))))))).mono ?_; rw [decide_eq_true (rfl : ([] : List Piece) = [])]; rintro e w4 ⟨rfl, hg4⟩)
                   | (refine ⟨trivial, ?_⟩; gi_at_call 126; refine (callsIn_wide.2 (wdone_any gx lx' [] _ (hX.gr (by repeat (with_reducible first | assumption | exact Gr.refl _ | apply Gr.alloc | apply Gr.drewN | apply Gr.drew | apply Gr.iter | (refine Gr.setCell ?_ (by simp) _) | (refine Gr.trans ?_ (by assumption))))))).mono ?_; rw [decide_eq_true (rfl : ([] : List Piece) = [])]; rintro e w3 ⟨rfl, hg3⟩))
                 go_end0
                 exact ⟨⟨_, rfl⟩, .inl ⟨pre, by rw [hNN, HST.out, show stepsP (NN - pre.length) [] [] = [] by cases NN - pre.length <;> simp [stepsP], List.append_nil], hJ _ _ _ hJr (Tn.of_gr (by repeat (with_reducible first | assumption | exact Gr.refl _ | apply Gr.alloc | apply Gr.drewN | apply Gr.drew | apply Gr.iter | (refine Gr.setCell ?_ (by simp) _) | (refine Gr.trans ?_ (by assumption)))))⟩⟩
               · have hpos : 0 < rp.length + rq.length := by
                   cases rp with
                   | nil => cases rq with
                     | nil => simp at he
                     | cons q r => simp
                   | cons p r => simp; omega
                 obtain ⟨m, hm⟩ : ∃ m, NN - pre.length = m + 1 := ⟨NN - pre.length - 1, by omega⟩
                 rw [hm] at hst hlen
                 simp only [stepsP] at hst
                 rw [if_neg he] at hst
                 have hslen := step_len cp cq he
                 obtain ⟨c1, c2⟩ := step_can cp cq
                 obtain ⟨wl1, wl2⟩ : wlen wr gx = rp.length ∧ wlen wr gy = rq.length := ⟨hX.wlen, hYw.wlen⟩
                 obtain ⟨st, hstp⟩ : ∃ st, stepP rp rq = st := ⟨_, rfl⟩
                 obtain ⟨⟨o1, o2⟩, rp', rq'⟩ := st
                 rw [hstp] at hst hslen c1 c2
                 have hk : (stepsP NN ps qs)[pre.length]? = some (o1, o2) := by rw [hst]; simp
                 have HST := Lib.hid hst; clear hst
                 have HSP := Lib.hid hstp; clear hstp
                 have HK := Lib.hid hk; clear hk
                 have HW := Lib.hid hwk
                 by_cases hb : rp = []
                 · have hb2 : decide (rq = []) = false := by
                     simp only [decide_eq_false_iff_not]; exact fun h => he ⟨hb, h⟩
                   have hb1 : decide (rp = []) = true := by simpa using hb
                   have H1 := Lib.hid hb1; have H2 := Lib.hid hb2; clear hb1 hb2 he hb hpos
                   gi_wp2_with (first
                     | (refine ⟨trivial, ?_⟩; gi_at_call 126; have _h := hg3; refine (callsIn_wide.2 (wdone_any gy ly' rq _ (hYw.gr (by repeat (with_reducible first | assumption | exact Gr.refl _ | apply Gr.alloc | apply Gr.drewN | apply Gr.drew | apply Gr.iter | (refine Gr.setCell ?_ (by simp) _) | (refine Gr.trans ?_ (by assumption))))))).mono ?_; rw [H2.out]; rintro e w4 ⟨rfl, hg4⟩)
                     | (refine ⟨trivial, ?_⟩; gi_at_call 126; refine (callsIn_wide.2 (wdone_any gx lx' rp _ (hX.gr (by repeat (with_reducible first | assumption | exact Gr.refl _ | apply Gr.alloc | apply Gr.drewN | apply Gr.drew | apply Gr.iter | (refine Gr.setCell ?_ (by simp) _) | (refine Gr.trans ?_ (by assumption))))))).mono ?_; rw [H1.out]; rintro e w3 ⟨rfl, hg3⟩)
                     | (refine ⟨trivial, ?_⟩; go_at_K))
                   refine ⟨trivial, ?_⟩; gi_at_call 146; refine (callsIn_wide.2 (wstep_any gx gy lx' ly' rp rq _ (hE.gr (Gr.trans hg0 (by repeat (with_reducible first | assumption | exact Gr.refl _ | apply Gr.alloc | apply Gr.drewN | apply Gr.drew | apply Gr.iter | (refine Gr.setCell ?_ (by simp) _) | (refine Gr.trans ?_ (by assumption)))))) (hX.gr (by repeat (with_reducible first | assumption | exact Gr.refl _ | apply Gr.alloc | apply Gr.drewN | apply Gr.drew | apply Gr.iter | (refine Gr.setCell ?_ (by simp) _) | (refine Gr.trans ?_ (by assumption))))) (hYw.gr (by repeat (with_reducible first | assumption | exact Gr.refl _ | apply Gr.alloc | apply Gr.drewN | apply Gr.drew | apply Gr.iter | (refine Gr.setCell ?_ (by simp) _) | (refine Gr.trans ?_ (by assumption))))) cp cq hne (fun w' k => hE.gr (Gr.kgs (Gr.trans hg0 (by repeat (with_reducible first | assumption | exact Gr.refl _ | apply Gr.alloc | apply Gr.drewN | apply Gr.drew | apply Gr.iter | (refine Gr.setCell ?_ (by simp) _) | (refine Gr.trans ?_ (by assumption))))) k (fun b h => by subst h; exact hzx0))))).mono ?_; rw [HSP.out]; rintro e w5 ⟨pv, qv, lx2, ly2, rfl, hpv, hqv, hX5, hY5, hk5⟩; obtain ⟨fn, tmps, assign, body, hy, hR⟩ := hY pre ⟨(o1, o2), (pv, qv)⟩ w5 (hJ pre _ _ (hJ pre _ _ hJr (Tn.of_gr (by repeat (with_reducible first | assumption | exact Gr.refl _ | apply Gr.alloc | apply Gr.drewN | apply Gr.drew | apply Gr.iter | (refine Gr.setCell ?_ (by simp) _) | (refine Gr.trans ?_ (by assumption)))))) (Tn.of_kg hk5 HW.out)) ⟨HK.out, hpv, hqv⟩; dsimp only at hy
                   gi_wp2
                   refine hR.mono ?_
                   rintro e W3 (⟨rfl, hJ3, hk3⟩ | ⟨rfl, hJx3⟩)
                   · gi_wp2
                     have hG5 : Gr w0 w5 := Gr.kgs (Gr.trans hg0 (by repeat (with_reducible first | assumption | exact Gr.refl _ | apply Gr.alloc | apply Gr.drewN | apply Gr.drew | apply Gr.iter | (refine Gr.setCell ?_ (by simp) _) | (refine Gr.trans ?_ (by assumption))))) hk5 (fun b h => by rcases h with rfl | rfl <;> omega)
                     have hX6 : WalkX W3 gx lx2 rp' := WalkX.tn (w := w5) hX5 hk3 (fun b h => h.2.1 rfl) (fun b h => h.2.2.1 rfl) (fun h => h.2.2.2 rfl)
                     have hY6 : WalkX W3 gy ly2 rq' := WalkX.tn (w := w5) hY5 hk3 (fun b h => h.2.1 rfl) (fun b h => h.2.2.1 rfl) (fun h => h.2.2.2 rfl)
                     have hS6 := HST.out
                     have hlm : NN - (pre ++ [(((o1, o2), (pv, qv)) : Stp)]).length = m := by rw [List.length_append, List.length_singleton]; omega
                     go_roundw
                     case rel =>
                       refine ⟨pre ++ [((o1, o2), (pv, qv))], lx2, ly2, rp', rq', hJ3, hX6, hY6, c1, c2, by rw [hlm]; omega, by rw [List.length_append, List.length_singleton]; omega, ?_, Gr.tn hG5 hk3 fun b t h => h.1⟩
                       rw [hlm, hS6]
                       simp
                     case measure => rw [hX6.wlen, hY6.wlen, wl1, wl2]; exact hslen
                   · gi_wp2
                     refine bodyPost_ret (results_none rfl _ _ _) rfl ?_
                     exact ⟨⟨_, rfl⟩, .inr ⟨_, trivial, hJx3⟩⟩
                 · have hb1 : decide (rp = []) = false := by simpa using hb
                   have hb2 : True := trivial
                   have H1 := Lib.hid hb1; have H2 := Lib.hid (rfl : decide (rq = []) = decide (rq = [])); clear hb1 hb2 he hb hpos
                   gi_wp2_with (first
                     | (refine ⟨trivial, ?_⟩; gi_at_call 126; have _h := hg3; refine (callsIn_wide.2 (wdone_any gy ly' rq _ (hYw.gr (by repeat (with_reducible first | assumption | exact Gr.refl _ | apply Gr.alloc | apply Gr.drewN | apply Gr.drew | apply Gr.iter | (refine Gr.setCell ?_ (by simp) _) | (refine Gr.trans ?_ (by assumption))))))).mono ?_; rw [H2.out]; rintro e w4 ⟨rfl, hg4⟩)
                     | (refine ⟨trivial, ?_⟩; gi_at_call 126; refine (callsIn_wide.2 (wdone_any gx lx' rp _ (hX.gr (by repeat (with_reducible first | assumption | exact Gr.refl _ | apply Gr.alloc | apply Gr.drewN | apply Gr.drew | apply Gr.iter | (refine Gr.setCell ?_ (by simp) _) | (refine Gr.trans ?_ (by assumption))))))).mono ?_; rw [H1.out]; rintro e w3 ⟨rfl, hg3⟩)
                     | (refine ⟨trivial, ?_⟩; go_at_K))
                   refine ⟨trivial, ?_⟩; gi_at_call 146; refine (callsIn_wide.2 (wstep_any gx gy lx' ly' rp rq _ (hE.gr (Gr.trans hg0 (by repeat (with_reducible first | assumption | exact Gr.refl _ | apply Gr.alloc | apply Gr.drewN | apply Gr.drew | apply Gr.iter | (refine Gr.setCell ?_ (by simp) _) | (refine Gr.trans ?_ (by assumption)))))) (hX.gr (by repeat (with_reducible first | assumption | exact Gr.refl _ | apply Gr.alloc | apply Gr.drewN | apply Gr.drew | apply Gr.iter | (refine Gr.setCell ?_ (by simp) _) | (refine Gr.trans ?_ (by assumption))))) (hYw.gr (by repeat (with_reducible first | assumption | exact Gr.refl _ | apply Gr.alloc | apply Gr.drewN | apply Gr.drew | apply Gr.iter | (refine Gr.setCell ?_ (by simp) _) | (refine Gr.trans ?_ (by assumption))))) cp cq hne (fun w' k => hE.gr (Gr.kgs (Gr.trans hg0 (by repeat (with_reducible first | assumption | exact Gr.refl _ | apply Gr.alloc | apply Gr.drewN | apply Gr.drew | apply Gr.iter | (refine Gr.setCell ?_ (by simp) _) | (refine Gr.trans ?_ (by assumption))))) k (fun b h => by subst h; exact hzx0))))).mono ?_; rw [HSP.out]; rintro e w5 ⟨pv, qv, lx2, ly2, rfl, hpv, hqv, hX5, hY5, hk5⟩; obtain ⟨fn, tmps, assign, body, hy, hR⟩ := hY pre ⟨(o1, o2), (pv, qv)⟩ w5 (hJ pre _ _ (hJ pre _ _ hJr (Tn.of_gr (by repeat (with_reducible first | assumption | exact Gr.refl _ | apply Gr.alloc | apply Gr.drewN | apply Gr.drew | apply Gr.iter | (refine Gr.setCell ?_ (by simp) _) | (refine Gr.trans ?_ (by assumption)))))) (Tn.of_kg hk5 HW.out)) ⟨HK.out, hpv, hqv⟩; dsimp only at hy
                   gi_wp2
                   refine hR.mono ?_
                   rintro e W3 (⟨rfl, hJ3, hk3⟩ | ⟨rfl, hJx3⟩)
                   · gi_wp2
                     have hG5 : Gr w0 w5 := Gr.kgs (Gr.trans hg0 (by repeat (with_reducible first | assumption | exact Gr.refl _ | apply Gr.alloc | apply Gr.drewN | apply Gr.drew | apply Gr.iter | (refine Gr.setCell ?_ (by simp) _) | (refine Gr.trans ?_ (by assumption))))) hk5 (fun b h => by rcases h with rfl | rfl <;> omega)
                     have hX6 : WalkX W3 gx lx2 rp' := WalkX.tn (w := w5) hX5 hk3 (fun b h => h.2.1 rfl) (fun b h => h.2.2.1 rfl) (fun h => h.2.2.2 rfl)
                     have hY6 : WalkX W3 gy ly2 rq' := WalkX.tn (w := w5) hY5 hk3 (fun b h => h.2.1 rfl) (fun b h => h.2.2.1 rfl) (fun h => h.2.2.2 rfl)
                     have hS6 := HST.out
                     have hlm : NN - (pre ++ [(((o1, o2), (pv, qv)) : Stp)]).length = m := by rw [List.length_append, List.length_singleton]; omega
                     go_roundw
                     case rel =>
                       refine ⟨pre ++ [((o1, o2), (pv, qv))], lx2, ly2, rp', rq', hJ3, hX6, hY6, c1, c2, by rw [hlm]; omega, by rw [List.length_append, List.length_singleton]; omega, ?_, Gr.tn hG5 hk3 fun b t h => h.1⟩
                       rw [hlm, hS6]
                       simp
                     case measure => rw [hX6.wlen, hY6.wlen, wl1, wl2]; exact hslen
                   · gi_wp2
                     refine bodyPost_ret (results_none rfl _ _ _) rfl ?_
                     exact ⟨⟨_, rfl⟩, .inr ⟨_, trivial, hJx3⟩⟩)

end Ve
