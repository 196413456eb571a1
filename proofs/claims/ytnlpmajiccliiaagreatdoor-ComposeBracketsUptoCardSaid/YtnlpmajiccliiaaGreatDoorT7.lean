/- Plain laws of pieces cut in two; what a walker's Next answers. -/
import Derived.Test.YtnlpmajiccliiaaGreatDoorL0
import Derived.Test.YtnlpmajiccliiaaGreatDoorT3
import Derived.Test.YtnlpmajiccliiaaGreatDoorS3
set_option linter.all false
namespace Ve
open Go

theorem check_ins (t : ByteArray) (a : List Attr) : checkOp ⟨1, t, ep, 0, a⟩ = if t = es then 9 else if brk t ≠ t.size then 1 else checkAttrs false a := by
  simp [checkOp, hasOnly, refuse]
theorem check_ret (n : Int) (a : List Attr) : checkOp ⟨3, es, ep, n, a⟩ = if n < 1 then 9 else if 1099511627776 < n then 11 else checkAttrs true a := by
  simp [checkOp, hasOnly, maxLength]
theorem check_del (n : Int) : checkOp ⟨4, es, ep, n, []⟩ = if n < 1 then 9 else if 1099511627776 < n then 11 else 0 := by
  simp [checkOp, hasOnly, maxLength]
/-- A piece that a well formed operation makes. -/
def pOk (p : Piece) : Prop := checkOp p.op = 0 ∧ toPiece p.op = p
theorem ins_ok {a : List Attr} {t : ByteArray} {n : Int} : pOk (.ins a t n) ↔ t ≠ es ∧ brk t = t.size ∧ checkAttrs false a = 0 ∧ n = (runes t).length := by
  have hc := check_ins t a
  unfold pOk
  simp only [Piece.op]
  constructor
  · rintro ⟨h1, h2⟩
    rw [h1] at hc
    have h3 : Piece.ins a t (Lib.runeCount t) = .ins a t n := by simpa [toPiece] using h2
    injection h3 with _ _ h3
    split at hc
    · cases hc
    · split at hc
      · cases hc
      · rename_i c1 c2
        simp only [ne_eq, Decidable.not_not] at c2
        exact ⟨c1, c2, hc.symm, by rw [runes_count c2]; exact h3.symm⟩
  · rintro ⟨h1, h2, h3, h4⟩
    rw [hc, if_neg h1, if_neg (by simp [h2]), h3]
    refine ⟨rfl, ?_⟩
    simp only [toPiece, if_true]
    rw [h4, runes_count h2]
theorem ret_ok {a : List Attr} {n : Int} : pOk (.ret a n) ↔ 1 ≤ n ∧ n ≤ 1099511627776 ∧ checkAttrs true a = 0 := by
  have hc := check_ret n a
  unfold pOk
  simp only [Piece.op]
  constructor
  · rintro ⟨h1, h2⟩
    rw [h1] at hc
    split at hc
    · cases hc
    · split at hc
      · cases hc
      · exact ⟨by omega, by omega, hc.symm⟩
  · rintro ⟨h1, h2, h3⟩
    rw [hc, if_neg (by omega), if_neg (by omega), h3]
    exact ⟨rfl, by simp [toPiece]⟩
theorem del_ok {n : Int} : pOk (.del n) ↔ 1 ≤ n ∧ n ≤ 1099511627776 := by
  have hc := check_del n
  unfold pOk
  simp only [Piece.op]
  constructor
  · rintro ⟨h1, h2⟩
    rw [h1] at hc
    split at hc
    · cases hc
    · split at hc
      · cases hc
      · exact ⟨by omega, by omega⟩
  · rintro ⟨h1, h2⟩
    rw [hc, if_neg (by omega), if_neg (by omega)]
    exact ⟨rfl, by simp [toPiece]⟩
theorem pOk_pos {p : Piece} (h : pOk p) : 1 ≤ p.len := by
  cases p with
  | ins a t n =>
    obtain ⟨h1, h2, h3, h4⟩ := ins_ok.1 h
    simp only [Piece.len]
    have : runes t ≠ [] := fun e => h1 (by rw [← (text_of h2).1, e]; rfl)
    have := List.length_pos_iff.2 this
    omega
  | emb a t x => simp [Piece.len]
  | ret a n => exact (ret_ok.1 h).1
  | del n => exact (del_ok.1 h).1
/-- A piece behind its first n cells. -/
def cutP (p : Piece) (n : Int) : Piece × Piece :=
  match p with
  | .ins a t m => (.ins a (textL ((runes t).take n.toNat)) n, .ins a (textL ((runes t).drop n.toNat)) (m - n))
  | .ret a m => (.ret a n, .ret a (m - n))
  | .del m => (.del n, .del (m - n))
  | .emb a t x => (.emb a t x, .emb a t x)
/-- What Next answers, and what is left. -/
def nextP (ps : List Piece) (n : Int) : Piece × List Piece :=
  match ps with
  | [] => (.ret [] (min n 1099511627776), [])
  | p :: r => if p.len ≤ n then (p, r) else ((cutP p n).1, (cutP p n).2 :: r)
theorem take_ne {t : ByteArray} {k : Nat} (hk : 0 < k) (hl : k ≤ (runes t).length) : textL ((runes t).take k) ≠ es := fun h => by
  have := congrArg List.length (text_es h)
  rw [List.length_take, List.length_nil] at this
  omega
theorem drop_ne {t : ByteArray} {k : Nat} (hl : k < (runes t).length) : textL ((runes t).drop k) ≠ es := fun h => by
  have := congrArg List.length (text_es h)
  rw [List.length_drop, List.length_nil] at this
  omega
theorem cut_ok {p : Piece} {n : Int} (h : pOk p) (h1 : 1 ≤ n) (h2 : n < p.len) : pOk (cutP p n).1 ∧ pOk (cutP p n).2 ∧ (cutP p n).1.len = n ∧ (cutP p n).2.len = p.len - n := by
  cases p with
  | ins a t m =>
    obtain ⟨e1, e2, e3, e4⟩ := ins_ok.1 h
    simp only [Piece.len] at h2
    have hk : n.toNat < (runes t).length := by omega
    obtain ⟨t1, t2⟩ := take_runes e2 n.toNat
    obtain ⟨d1, d2⟩ := drop_runes e2 n.toNat
    refine ⟨ins_ok.2 ⟨take_ne (by omega) (by omega), t2, e3, ?_⟩, ins_ok.2 ⟨drop_ne hk, d2, e3, ?_⟩, rfl, rfl⟩
    · rw [t1, List.length_take]; omega
    · rw [d1, List.length_drop]; omega
  | emb a t x => simp only [Piece.len] at h2; omega
  | ret a m =>
    obtain ⟨e1, e2, e3⟩ := ret_ok.1 h
    simp only [Piece.len] at h2
    exact ⟨ret_ok.2 ⟨h1, by omega, e3⟩, ret_ok.2 ⟨by omega, by omega, e3⟩, rfl, rfl⟩
  | del m =>
    obtain ⟨e1, e2⟩ := del_ok.1 h
    simp only [Piece.len] at h2
    exact ⟨del_ok.2 ⟨h1, by omega⟩, del_ok.2 ⟨by omega, by omega⟩, rfl, rfl⟩
theorem next_ok {ps : List Piece} {n : Int} (h : PsOk ps) (h1 : 1 ≤ n) : pOk (nextP ps n).1 ∧ PsOk (nextP ps n).2 ∧ 1 ≤ (nextP ps n).1.len ∧ (nextP ps n).1.len ≤ n := by
  cases ps with
  | nil => exact ⟨ret_ok.2 ⟨by omega, by omega, rfl⟩, h, by simp only [nextP, Piece.len]; omega, by simp only [nextP, Piece.len]; omega⟩
  | cons p r =>
    have hp : pOk p := h p (by simp)
    have hr : PsOk r := fun x hx => h x (by simp [hx])
    simp only [nextP]
    by_cases c : p.len ≤ n
    · rw [if_pos c]; exact ⟨hp, hr, pOk_pos hp, c⟩
    · rw [if_neg c]
      obtain ⟨c1, c2, c3, c4⟩ := cut_ok hp h1 (by omega)
      refine ⟨c1, ?_, by rw [c3]; exact h1, by rw [c3]; omega⟩
      intro x hx
      rcases List.mem_cons.1 hx with rfl | hx
      · exact c2
      · exact hr x hx
theorem cut_back_text {t : ByteArray} (h : brk t = t.size) (k : Nat) : (textL ((runes t).take k)).size + (textL ((runes t).drop k)).size = t.size := by
  have hs := congrArg ByteArray.size (cut_at h k)
  rw [ByteArray.size_append] at hs
  exact hs
end Ve
/- Plain laws: deltas as units (one cell each); two separated lists of pieces with the same units are the same. -/
namespace Ve
open Go

/-- What a cell holds. -/
inductive Cel where
  | ch (r : Nat)
  | em (k : ByteArray) (v : Plain)
  deriving DecidableEq
/-- What is done at one cell. -/
inductive Un where
  | i (c : Cel) (a : List Attr)
  | r (a : List Attr)
  | d
  deriving DecidableEq
def unitsP : Piece → List Un
  | .ins a t _ => (runes t).map fun r => .i (.ch r) a
  | .emb a k v => [.i (.em k v) a]
  | .ret a n => List.replicate n.toNat (.r a)
  | .del n => List.replicate n.toNat .d
def units (l : List Piece) : List Un := l.flatMap unitsP
theorem units_nil : units [] = [] := rfl
theorem units_cons (p : Piece) (l : List Piece) : units (p :: l) = unitsP p ++ units l := rfl
theorem units_app (l m : List Piece) : units (l ++ m) = units l ++ units m := by simp [units]
theorem unitsP_len {p : Piece} (h : pOk p) : ((unitsP p).length : Int) = p.len := by
  cases p with
  | ins a t n => simp only [unitsP, List.length_map, Piece.len]; exact (ins_ok.1 h).2.2.2.symm
  | emb a k v => rfl
  | ret a n => have := ret_ok.1 h; simp only [unitsP, List.length_replicate, Piece.len]; omega
  | del n => have := del_ok.1 h; simp only [unitsP, List.length_replicate, Piece.len]; omega
theorem unitsP_ne {p : Piece} (h : pOk p) : unitsP p ≠ [] := fun e => by
  have h1 := unitsP_len h
  have h2 := pOk_pos h
  rw [e] at h1
  simp at h1; omega
/-- The unit belongs to the same run as the piece. -/
def runU : Piece → Un → Bool
  | .ins a _ _, .i (.ch _) a' => a == a'
  | .emb _ _ _, _ => false
  | .ret a _, .r a' => a == a'
  | .del _, .d => true
  | _, _ => false
/-- May p stand right behind q? -/
def sepP : Piece → Piece → Bool
  | .ins a _ _, .ins a' _ _ => a != a'
  | .ret a _, .ret a' _ => a != a'
  | .del _, .del _ => false
  | _, _ => true
def sepF : Piece → List Piece → Bool
  | _, [] => true
  | q, p :: r => sepP q p && sepF p r
def sepL : List Piece → Bool
  | [] => true
  | p :: r => sepF p r
theorem sepL_tail {p : Piece} {r : List Piece} (h : sepL (p :: r) = true) : sepL r = true := by
  cases r with
  | nil => rfl
  | cons q r => simp [sepL, sepF] at h; exact h.2
theorem head_un {p : Piece} (h : pOk p) (l : List Un) : ∃ x m, unitsP p ++ l = x :: m ∧ x ∈ unitsP p := by
  cases e : unitsP p with
  | nil => exact absurd e (unitsP_ne h)
  | cons x m => exact ⟨x, m ++ l, rfl, by simp⟩
theorem sep_run {q p : Piece} (hs : sepP q p = true) {x : Un} (hx : x ∈ unitsP p) : runU q x = false := by
  cases p with
  | ins a t n =>
    simp only [unitsP, List.mem_map] at hx
    obtain ⟨r, _, rfl⟩ := hx
    cases q <;> simp [runU, sepP] at hs ⊢
    exact hs
  | emb a k v =>
    simp only [unitsP, List.mem_singleton] at hx
    subst hx
    cases q <;> simp [runU]
  | ret a n =>
    have := List.eq_of_mem_replicate hx
    subst this
    cases q <;> simp [runU, sepP] at hs ⊢
    exact hs
  | del n =>
    have := List.eq_of_mem_replicate hx
    subst this
    cases q <;> simp [runU, sepP] at hs ⊢
theorem run_all {p : Piece} (hp : ∀ a k v, p ≠ .emb a k v) : ∀ x ∈ unitsP p, runU p x = true := by
  intro x hx
  cases p with
  | ins a t n =>
    simp only [unitsP, List.mem_map] at hx
    obtain ⟨r, _, rfl⟩ := hx
    simp [runU]
  | emb a k v => exact absurd rfl (hp a k v)
  | ret a n => rw [List.eq_of_mem_replicate hx]; simp [runU]
  | del n => rw [List.eq_of_mem_replicate hx]; simp [runU]
/-- Two runs, ended both by what belongs to none. -/
theorem run_split {P : Un → Bool} {l m U V : List Un} (hl : ∀ x ∈ l, P x = true) (hm : ∀ x ∈ m, P x = true) (hU : ∀ x r, U = x :: r → P x = false) (hV : ∀ x r, V = x :: r → P x = false) (h : l ++ U = m ++ V) : l = m ∧ U = V := by
  induction l generalizing m with
  | nil =>
    cases m with
    | nil => exact ⟨rfl, h⟩
    | cons y m =>
      have := hU y (m ++ V) h
      rw [hm y (by simp)] at this
      cases this
  | cons x l ih =>
    cases m with
    | nil =>
      have := hV x (l ++ U) h.symm
      rw [hl x (by simp)] at this
      cases this
    | cons y m =>
      simp only [List.cons_append, List.cons.injEq] at h
      obtain ⟨rfl, h⟩ := h
      obtain ⟨h1, h2⟩ := ih (fun z hz => hl z (by simp [hz])) (fun z hz => hm z (by simp [hz])) h
      exact ⟨by rw [h1], h2⟩
theorem map_ch_inj {l m : List Nat} {a : List Attr} (h : (l.map fun r => Un.i (.ch r) a) = m.map fun r => Un.i (.ch r) a) : l = m := by
  induction l generalizing m with
  | nil => cases m with
    | nil => rfl
    | cons y m => simp at h
  | cons x l ih => cases m with
    | nil => simp at h
    | cons y m =>
      simp only [List.map_cons, List.cons.injEq, Un.i.injEq, Cel.ch.injEq, and_true] at h
      rw [h.1, ih h.2]
/-- Pieces of one run with the same units. -/
theorem piece_of_units {p q : Piece} (hp : pOk p) (hq : pOk q) (h : unitsP p = unitsP q) : p = q := by
  have hne := unitsP_ne hp
  cases p with
  | ins a t n =>
    obtain ⟨p1, p2, p3, p4⟩ := ins_ok.1 hp
    cases q with
    | ins a' t' n' =>
      obtain ⟨q1, q2, q3, q4⟩ := ins_ok.1 hq
      have ha : a = a' := by
        simp only [unitsP] at h
        cases e : runes t with
        | nil => simp [unitsP, e] at hne
        | cons x l =>
          cases e' : runes t' with
          | nil => simp [e, e'] at h
          | cons y m => simp [e, e'] at h; exact h.1.2
      subst ha
      have hr := map_ch_inj h
      have ht := text_inj p2 q2 hr
      subst ht
      rw [p4, q4]
    | emb a' k v =>
      simp only [unitsP] at h
      cases e : runes t with
      | nil => simp [unitsP, e] at hne
      | cons x l => simp [e] at h
    | ret a' m =>
      simp only [unitsP] at h
      cases e : runes t with
      | nil => simp [unitsP, e] at hne
      | cons x l =>
        have : Un.i (.ch x) a ∈ List.replicate m.toNat (Un.r a') := by rw [← h, e]; simp
        cases List.eq_of_mem_replicate this
    | del m =>
      simp only [unitsP] at h
      cases e : runes t with
      | nil => simp [unitsP, e] at hne
      | cons x l =>
        have : Un.i (.ch x) a ∈ List.replicate m.toNat Un.d := by rw [← h, e]; simp
        cases List.eq_of_mem_replicate this
  | emb a k v =>
    cases q with
    | ins a' t' n' =>
      simp only [unitsP] at h
      cases e : runes t' with
      | nil => simp [e] at h
      | cons x l => simp [e] at h
    | emb a' k' v' => simp [unitsP] at h; obtain ⟨⟨rfl, rfl⟩, rfl⟩ := h; rfl
    | ret a' m =>
      simp only [unitsP] at h
      have : Un.i (.em k v) a ∈ List.replicate m.toNat (Un.r a') := by rw [← h]; simp
      cases List.eq_of_mem_replicate this
    | del m =>
      simp only [unitsP] at h
      have : Un.i (.em k v) a ∈ List.replicate m.toNat Un.d := by rw [← h]; simp
      cases List.eq_of_mem_replicate this
  | ret a n =>
    have hn := ret_ok.1 hp
    cases q with
    | ins a' t' n' =>
      simp only [unitsP] at h
      have : Un.r a ∈ (runes t').map fun r => Un.i (.ch r) a' := by rw [← h, List.mem_replicate]; exact ⟨by omega, rfl⟩
      simp at this
    | emb a' k' v' =>
      simp only [unitsP] at h
      have : Un.r a ∈ [Un.i (.em k' v') a'] := by rw [← h, List.mem_replicate]; exact ⟨by omega, rfl⟩
      simp at this
    | ret a' m =>
      have hm := ret_ok.1 hq
      simp only [unitsP] at h
      have h1 := congrArg List.length h
      simp only [List.length_replicate] at h1
      have h2 : Un.r a ∈ List.replicate m.toNat (Un.r a') := by rw [← h, List.mem_replicate]; exact ⟨by omega, rfl⟩
      have h3 := List.eq_of_mem_replicate h2
      injection h3 with h3
      subst h3
      rw [show n = m by omega]
    | del m =>
      simp only [unitsP] at h
      have : Un.r a ∈ List.replicate m.toNat Un.d := by rw [← h, List.mem_replicate]; exact ⟨by omega, rfl⟩
      cases List.eq_of_mem_replicate this
  | del n =>
    have hn := del_ok.1 hp
    cases q with
    | ins a' t' n' =>
      simp only [unitsP] at h
      have : Un.d ∈ (runes t').map fun r => Un.i (.ch r) a' := by rw [← h, List.mem_replicate]; exact ⟨by omega, rfl⟩
      simp at this
    | emb a' k' v' =>
      simp only [unitsP] at h
      have : Un.d ∈ [Un.i (.em k' v') a'] := by rw [← h, List.mem_replicate]; exact ⟨by omega, rfl⟩
      simp at this
    | ret a' m =>
      simp only [unitsP] at h
      have : Un.d ∈ List.replicate m.toNat (Un.r a') := by rw [← h, List.mem_replicate]; exact ⟨by omega, rfl⟩
      cases List.eq_of_mem_replicate this
    | del m =>
      have hm := del_ok.1 hq
      simp only [unitsP] at h
      have h1 := congrArg List.length h
      simp only [List.length_replicate] at h1
      rw [show n = m by omega]
theorem next_head {q : Piece} {r : List Piece} (hok : PsOk r) (hs : sepF q r = true) : ∀ x m, units r = x :: m → runU q x = false := by
  intro x m e
  cases r with
  | nil => cases e
  | cons p r =>
    have hp : pOk p := hok p (by simp)
    obtain ⟨y, k, e1, e2⟩ := head_un hp (units r)
    rw [units_cons, e1] at e
    injection e with e3 e4
    subst e3
    simp [sepF] at hs
    exact sep_run hs.1 e2
/-- The same run. -/
theorem same_run {p q : Piece} {x : Un} (hp : x ∈ unitsP p) (hq : x ∈ unitsP q) (hne : ∀ a k v, p ≠ .emb a k v) : (∀ a k v, q ≠ .emb a k v) ∧ ∀ y, runU p y = runU q y := by
  cases p with
  | emb a k v => exact absurd rfl (hne a k v)
  | ins a t n =>
    simp only [unitsP, List.mem_map] at hp
    obtain ⟨r, _, rfl⟩ := hp
    cases q with
    | ins a' t' n' =>
      simp only [unitsP, List.mem_map] at hq
      obtain ⟨r', _, e⟩ := hq
      injection e with _ e
      subst e
      exact ⟨by simp, fun y => by
        cases y with
        | i c b => cases c <;> rfl
        | r b => rfl
        | d => rfl⟩
    | emb a' k v => simp [unitsP] at hq
    | ret a' m => cases List.eq_of_mem_replicate hq
    | del m => cases List.eq_of_mem_replicate hq
  | ret a n =>
    have e := List.eq_of_mem_replicate hp
    subst e
    cases q with
    | ins a' t' n' => simp [unitsP] at hq
    | emb a' k v => simp [unitsP] at hq
    | ret a' m =>
      have e := List.eq_of_mem_replicate hq
      injection e with e
      subst e
      exact ⟨by simp, fun y => by cases y <;> rfl⟩
    | del m => cases List.eq_of_mem_replicate hq
  | del n =>
    have e := List.eq_of_mem_replicate hp
    subst e
    cases q with
    | ins a' t' n' => simp [unitsP] at hq
    | emb a' k v => simp [unitsP] at hq
    | ret a' m => cases List.eq_of_mem_replicate hq
    | del m => exact ⟨by simp, fun y => by cases y <;> rfl⟩
/-- Separated lists of well formed pieces are told by their units. -/
theorem units_inj {ps : List Piece} : ∀ {qs : List Piece}, PsOk ps → PsOk qs → sepL ps = true → sepL qs = true → units ps = units qs → ps = qs := by
  induction ps with
  | nil =>
    intro qs _ hq _ _ h
    cases qs with
    | nil => rfl
    | cons q qs =>
      obtain ⟨x, m, e, _⟩ := head_un (hq q (by simp)) (units qs)
      rw [units_cons, e] at h
      cases h
  | cons p ps ih =>
    intro qs hp hq sp sq h
    cases qs with
    | nil =>
      obtain ⟨x, m, e, _⟩ := head_un (hp p (by simp)) (units ps)
      rw [units_cons, e] at h
      cases h
    | cons q qs =>
      have hp0 : pOk p := hp p (by simp)
      have hq0 : pOk q := hq q (by simp)
      have hp' : PsOk ps := fun x hx => hp x (by simp [hx])
      have hq' : PsOk qs := fun x hx => hq x (by simp [hx])
      have key : unitsP p = unitsP q ∧ units ps = units qs := by
        rw [units_cons, units_cons] at h
        obtain ⟨x, m, e1, e2⟩ := head_un hp0 (units ps)
        obtain ⟨y, k, e3, e4⟩ := head_un hq0 (units qs)
        have hxy : x = y := by rw [e1, e3] at h; injection h
        subst hxy
        by_cases hem : ∃ a k v, p = .emb a k v
        · obtain ⟨a, k', v, rfl⟩ := hem
          simp only [unitsP, List.mem_singleton] at e2
          subst e2
          have : ∃ a' k'' v', q = .emb a' k'' v' := by
            cases q with
            | ins a' t' n' => simp [unitsP] at e4
            | emb a' k'' v' => exact ⟨_, _, _, rfl⟩
            | ret a' m => cases List.eq_of_mem_replicate e4
            | del m => cases List.eq_of_mem_replicate e4
          obtain ⟨a', k'', v', rfl⟩ := this
          simp only [unitsP, List.singleton_append, List.cons.injEq] at h ⊢
          exact ⟨⟨h.1, trivial⟩, h.2⟩
        · have hne : ∀ a k v, p ≠ .emb a k v := fun a k v e => hem ⟨a, k, v, e⟩
          obtain ⟨hne', hrun⟩ := same_run e2 e4 hne
          refine run_split (P := runU p) (run_all hne) (fun z hz => by rw [hrun]; exact run_all hne' z hz) (next_head hp' sp) (fun z r e => by rw [hrun]; exact next_head hq' sq z r e) h
      rw [piece_of_units hp0 hq0 key.1, ih hp' hq' (sepL_tail sp) (sepL_tail sq) key.2]
end Ve
/- Plain laws: the builder's pieces are separated and well formed; their units are those that were put, each gap in its order. -/
namespace Ve
open Go

theorem sepF_snoc {q : Piece} {m : List Piece} {p : Piece} : ∀ {x : Piece}, sepF x (m ++ [q, p]) = (sepF x (m ++ [q]) && sepP q p) := by
  induction m with
  | nil => intro x; simp [sepF]
  | cons y m ih => intro x; simp only [List.cons_append, sepF, ih, Bool.and_assoc]
theorem sepL_snoc {m : List Piece} {q p : Piece} : sepL (m ++ [q, p]) = (sepL (m ++ [q]) && sepP q p) := by
  cases m with
  | nil => simp [sepL, sepF]
  | cons x m => simp only [List.cons_append, sepL]; exact sepF_snoc
theorem sepF_init {q : Piece} {m : List Piece} : ∀ {x : Piece}, sepF x (m ++ [q]) = true → sepF x m = true := by
  induction m with
  | nil => intro x _; rfl
  | cons y m ih => intro x h; simp only [List.cons_append, sepF, Bool.and_eq_true] at h ⊢; exact ⟨h.1, ih h.2⟩
theorem sepL_init {m : List Piece} {q : Piece} (h : sepL (m ++ [q]) = true) : sepL m = true := by
  cases m with
  | nil => rfl
  | cons x m => exact sepF_init h
theorem joinTo_sep {q p : Piece} (h : joinTo q p = none) (hd : ∀ n k, ¬ (q = .del n ∧ p = .del k)) : sepP q p = true := by
  cases q <;> cases p <;> simp [joinTo, sepP] at h hd ⊢
  · exact h
  · exact h
theorem joinTo_key {q p r x : Piece} (h : joinTo q p = some r) : sepP x r = sepP x q := by
  cases q <;> cases p <;> simp [joinTo] at h
  all_goals
    obtain ⟨rfl, rfl⟩ := h
    cases x <;> rfl
theorem sep_joined {ps : List Piece} {p : Piece} (h : sepL ps = true) (hd : ∀ n k, ¬ (ps.getLast? = some (.del n) ∧ p = .del k)) : sepL (joinedL ps p) = true := by
  rcases snoc_cases ps with rfl | ⟨m, q, rfl⟩
  · rfl
  · rw [joinedL_snoc]
    cases hj : joinTo q p with
    | none =>
      simp only
      rw [sepL_snoc, h, joinTo_sep hj fun n k e => hd n k ⟨by simp [e.1], e.2⟩]; rfl
    | some r =>
      simp only
      rcases snoc_cases m with rfl | ⟨m, x, rfl⟩
      · rfl
      · simp only [List.append_assoc, List.singleton_append] at h ⊢
        rw [sepL_snoc] at h ⊢
        rw [joinTo_key hj]; exact h
theorem units_one (p : Piece) : units [p] = unitsP p := by simp [units]
theorem joinTo_units {q p r : Piece} (h : joinTo q p = some r) (hq : pOk q) (hp : pOk p) : unitsP r = unitsP q ++ unitsP p := by
  cases q <;> cases p <;> simp [joinTo] at h
  · obtain ⟨rfl, rfl⟩ := h
    simp only [unitsP]
    rw [(brk_app (ins_ok.1 hq).2.1 (ins_ok.1 hp).2.1).2, List.map_append]
  · obtain ⟨rfl, rfl⟩ := h
    have h1 := (ret_ok.1 hq).1
    have h2 := (ret_ok.1 hp).1
    simp only [unitsP]
    rw [List.replicate_append_replicate]
    congr 1; omega
theorem units_joined {ps : List Piece} {p : Piece} (h : PsOk ps) (hp : pOk p) : units (joinedL ps p) = units ps ++ unitsP p := by
  rcases snoc_cases ps with rfl | ⟨m, q, rfl⟩
  · simp [joinedL, units]
  · rw [joinedL_snoc]
    cases hj : joinTo q p with
    | none => simp [units]
    | some r => simp only; rw [units_app, units_app, units_one, units_one, joinTo_units hj (h q (by simp)) hp, List.append_assoc]
theorem joinTo_ok {q p r : Piece} (h : joinTo q p = some r) (hq : pOk q) (hp : pOk p) (hl : r.len ≤ 1099511627776) : pOk r := by
  cases q <;> cases p <;> simp [joinTo] at h
  · obtain ⟨rfl, rfl⟩ := h
    obtain ⟨q1, q2, q3, q4⟩ := ins_ok.1 hq
    obtain ⟨p1, p2, p3, p4⟩ := ins_ok.1 hp
    obtain ⟨b1, b2⟩ := brk_app q2 p2
    refine ins_ok.2 ⟨?_, b1, q3, ?_⟩
    · intro e
      have h2 := congrArg runes e
      rw [b2, show runes es = [] from rfl] at h2
      have h3 := congrArg List.length h2
      rw [List.length_append, List.length_nil] at h3
      have h4 := pOk_pos hq
      simp only [Piece.len] at h4
      omega
    · rw [b2, List.length_append, q4, p4]; omega
  · obtain ⟨rfl, rfl⟩ := h
    obtain ⟨q1, q2, q3⟩ := ret_ok.1 hq
    obtain ⟨p1, p2, p3⟩ := ret_ok.1 hp
    simp only [Piece.len] at hl
    exact ret_ok.2 ⟨by omega, hl, q3⟩
theorem ok_joined {ps : List Piece} {p : Piece} (h : PsOk ps) (hp : pOk p) (hl : ∀ q r, ps.getLast? = some q → joinTo q p = some r → r.len ≤ 1099511627776) : PsOk (joinedL ps p) := by
  intro x hx
  rcases joinedL_mem hx with hx | rfl | ⟨q, hq, hj⟩
  · exact h x hx
  · exact hp
  · rcases snoc_cases ps with rfl | ⟨m, y, rfl⟩
    · cases hq
    · rw [joinedL_snoc] at hx
      cases hj' : joinTo y p with
      | none =>
        rw [hj'] at hx
        simp only [List.mem_append, List.mem_cons, List.mem_nil_iff, or_false] at hx
        rcases hx with hx | rfl | rfl
        · exact h x (by simp [hx])
        · exact h x (by simp)
        · exact hp
      | some r =>
        rw [hj'] at hx
        simp only [List.mem_append, List.mem_singleton] at hx
        rcases hx with hx | rfl
        · exact h x (by simp [hx])
        · exact joinTo_ok hj' (h y (by simp)) hp (hl y x (by simp) hj')
/-- What holds of the builder's pieces at all times. -/
structure Bld.Good (s : Bld) : Prop where
  ok : PsOk s.pieces
  sep : sepL s.pieces = true
  last : ∀ n, s.pieces.getLast? ≠ some (.del n)
theorem Bld.Good.new : Bld.new.Good := ⟨by simp [Bld.new, PsOk], rfl, by simp [Bld.new]⟩
theorem ok_deleted {s : Bld} (h : s.Good) (g0 : 0 ≤ s.gone) (g1 : s.gone ≤ 1099511627776) : PsOk (deletedL s.pieces s.gone) ∧ sepL (deletedL s.pieces s.gone) = true ∧ units (deletedL s.pieces s.gone) = units s.pieces ++ List.replicate s.gone.toNat .d := by
  unfold deletedL
  by_cases c : s.gone = 0
  · rw [if_pos c, c]; exact ⟨h.ok, h.sep, by simp⟩
  · rw [if_neg c]
    refine ⟨?_, ?_, by rw [units_app, units_one]; rfl⟩
    · intro x hx
      rcases List.mem_append.1 hx with hx | hx
      · exact h.ok x hx
      · rw [List.mem_singleton.1 hx]; exact del_ok.2 ⟨by omega, g1⟩
    · have hs := h.sep
      have hl := h.last
      rcases snoc_cases s.pieces with e | ⟨m, q, e⟩
      · rw [e]; rfl
      · rw [e] at hs hl ⊢
        simp only [List.append_assoc, List.singleton_append]
        rw [sepL_snoc, hs]
        have : ∀ n, q ≠ .del n := fun n e => hl n (by simp [e])
        cases q <;> simp [sepP]
        exact absurd rfl (this _)
theorem last_len {s : Bld} {T N : Nat} (h : s.Inv T N) {q : Piece} (hq : s.pieces.getLast? = some q) : q.r ≤ s.result := by
  have := rsum_mem h.nn (List.mem_of_getLast? hq)
  have := h.rs
  omega
theorem Bld.Good.put {s : Bld} {T N : Nat} (h : s.Good) (hI : s.Inv T N) {p : Piece} (hp : pOk p) (hf : s.fits p = true) : (s.put p).Good := by
  have hf' := hf
  simp [Bld.fits] at hf
  obtain ⟨d1, d2, d3⟩ := ok_deleted h hI.g0 (by have := hI.g1; have := hI.b1; omega)
  cases p with
  | del n => exact ⟨h.ok, h.sep, h.last⟩
  | ins a t n =>
    refine ⟨ok_joined h.ok hp ?_, sep_joined h.sep (by simp), joined_last _ _ (by simp)⟩
    intro q r hq hj
    have := last_len hI hq
    cases q <;> simp [joinTo] at hj
    obtain ⟨rfl, rfl⟩ := hj
    simp only [Piece.r, Piece.len] at *
    omega
  | emb a k v => exact ⟨ok_joined h.ok hp (by intro q r hq hj; cases q <;> simp [joinTo] at hj), sep_joined h.sep (by simp), joined_last _ _ (by simp)⟩
  | ret a n =>
    refine ⟨ok_joined d1 hp ?_, sep_joined d2 (by simp), joined_last _ _ (by simp)⟩
    intro q r hq hj
    unfold deletedL at hq
    split at hq
    · have := last_len hI hq
      cases q <;> simp [joinTo] at hj
      obtain ⟨rfl, rfl⟩ := hj
      simp only [Piece.r, Piece.len] at *
      omega
    · simp at hq
      subst hq
      simp [joinTo] at hj
/-- Units in the order that the document asks for: in each gap what is inserted first, then what is deleted. -/
def nrmF (out : List Un) (g : Nat) : List Un → List Un
  | [] => out ++ List.replicate g .d
  | .i c a :: u => nrmF (out ++ [.i c a]) g u
  | .d :: u => nrmF out (g + 1) u
  | .r a :: u => nrmF (out ++ List.replicate g .d ++ [.r a]) 0 u
theorem nrm_ch (out : List Un) (g : Nat) (l : List Nat) (a : List Attr) (u : List Un) : nrmF out g ((l.map fun r => Un.i (.ch r) a) ++ u) = nrmF (out ++ l.map fun r => Un.i (.ch r) a) g u := by
  induction l generalizing out with
  | nil => simp
  | cons x l ih => simp only [List.map_cons, List.cons_append, nrmF, ih]; congr 1; simp
theorem nrm_del (out : List Un) (g n : Nat) (u : List Un) : nrmF out g (List.replicate n .d ++ u) = nrmF out (g + n) u := by
  induction n generalizing g with
  | zero => simp
  | succ n ih => simp only [List.replicate_succ, List.cons_append, nrmF, ih]; congr 1; omega
theorem nrm_ret0 (out : List Un) (n : Nat) (a : List Attr) (u : List Un) : nrmF out 0 (List.replicate n (.r a) ++ u) = nrmF (out ++ List.replicate n (.r a)) 0 u := by
  induction n generalizing out with
  | zero => simp
  | succ n ih => simp only [List.replicate_succ, List.cons_append, nrmF, ih]; congr 1; simp
theorem nrm_ret (out : List Un) (g n : Nat) (hn : 1 ≤ n) (a : List Attr) (u : List Un) : nrmF out g (List.replicate n (.r a) ++ u) = nrmF (out ++ List.replicate g .d ++ List.replicate n (.r a)) 0 u := by
  obtain ⟨n, rfl⟩ : ∃ m, n = m + 1 := ⟨n - 1, by omega⟩
  simp only [List.replicate_succ, List.cons_append, nrmF]
  rw [nrm_ret0]
  congr 1; simp
theorem put_units {s : Bld} {T N : Nat} (h : s.Good) (hI : s.Inv T N) {p : Piece} (hp : pOk p) (u : List Un) :
    nrmF (units s.pieces) s.gone.toNat (unitsP p ++ u) = nrmF (units (s.put p).pieces) (s.put p).gone.toNat u := by
  obtain ⟨d1, d2, d3⟩ := ok_deleted h hI.g0 (by have := hI.g1; have := hI.b1; omega)
  cases p with
  | del n =>
    have := del_ok.1 hp
    have g0 := hI.g0
    simp only [unitsP, Bld.put]
    rw [nrm_del]
    congr 1; omega
  | ins a t n =>
    simp only [Bld.put]
    rw [units_joined h.ok hp]
    simp only [unitsP]
    rw [nrm_ch]
  | emb a k v =>
    simp only [Bld.put]
    rw [units_joined h.ok hp]
    rfl
  | ret a n =>
    have := ret_ok.1 hp
    simp only [Bld.put]
    rw [units_joined d1 hp, d3]
    simp only [unitsP]
    rw [nrm_ret _ _ _ (by omega)]
    rfl
/-- The trailing retains that change nothing are left out. -/
def trimU (u : List Un) : List Un := (u.reverse.dropWhile (· == .r [])).reverse
theorem trimU_keep (u : List Un) (x : Un) (hx : x ≠ .r []) : trimU (u ++ [x]) = u ++ [x] := by
  unfold trimU
  simp [List.dropWhile, hx]
theorem trimU_ret (u : List Un) (n : Nat) : trimU (u ++ List.replicate n (.r [])) = trimU u := by
  unfold trimU
  rw [List.reverse_append, List.reverse_replicate]
  congr 1
  induction n with
  | zero => simp
  | succ n ih => simp [List.replicate_succ, List.dropWhile] <;> exact ih
theorem unitsP_last {p : Piece} (hp : pOk p) : ∃ m x, unitsP p = m ++ [x] ∧ x ∈ unitsP p := by
  have hne := unitsP_ne hp
  refine ⟨(unitsP p).dropLast, (unitsP p).getLast hne, (List.dropLast_concat_getLast hne).symm, List.getLast_mem hne⟩
theorem trimU_end {m : List Piece} {q : Piece} (hq : pOk q) (hn : ∀ n, q ≠ .ret [] n) : trimU (units (m ++ [q])) = units (m ++ [q]) := by
  obtain ⟨k, x, e, hx⟩ := unitsP_last hq
  rw [units_app, units_one, e, ← List.append_assoc]
  refine trimU_keep _ _ fun hr => ?_
  subst hr
  cases q with
  | ins a t n => simp [unitsP] at hx
  | emb a k v => simp [unitsP] at hx
  | ret a n =>
    have := List.eq_of_mem_replicate hx
    injection this with this
    subst this
    exact hn n rfl
  | del n => cases List.eq_of_mem_replicate hx
theorem trimmed_units {l : List Piece} (h : PsOk l) (hs : sepL l = true) : units (trimmed l) = trimU (units l) ∧ PsOk (trimmed l) ∧ sepL (trimmed l) = true := by
  rcases snoc_cases l with rfl | ⟨m, q, rfl⟩
  · exact ⟨rfl, h, hs⟩
  · have hq : pOk q := h q (by simp)
    have hm : PsOk m := fun x hx => h x (by simp [hx])
    by_cases hr : ∃ n, q = .ret [] n
    · obtain ⟨n, rfl⟩ := hr
      have e : trimmed (m ++ [Piece.ret [] n]) = m := by simp [trimmed]
      rw [e]
      refine ⟨?_, hm, sepL_init hs⟩
      rw [units_app, units_one]
      simp only [unitsP]
      rw [trimU_ret]
      rcases snoc_cases m with rfl | ⟨m, y, rfl⟩
      · rfl
      · refine (trimU_end (hm y (by simp)) ?_).symm
        rintro k rfl
        simp only [List.append_assoc, List.singleton_append] at hs
        rw [sepL_snoc] at hs
        simp [sepP] at hs
    · have hn : ∀ n, q ≠ .ret [] n := fun n e => hr ⟨n, e⟩
      have e : trimmed (m ++ [q]) = m ++ [q] := by
        unfold trimmed
        simp only [List.getLast?_append, List.getLast?_singleton, Option.some_or]
        cases q with
        | ret a n =>
          cases a with
          | nil => exact absurd rfl (hn n)
          | cons x a => rfl
        | _ => rfl
      rw [e]
      exact ⟨(trimU_end hq hn).symm, h, hs⟩
/-- The builder's delta: well formed, separated; its units are those put, in their order. -/
theorem delta_good {s : Bld} {T N : Nat} (h : s.Good) (hI : s.Inv T N) : PsOk s.delta ∧ sepL s.delta = true ∧ units s.delta = trimU (nrmF (units s.pieces) s.gone.toNat []) := by
  obtain ⟨d1, d2, d3⟩ := ok_deleted h hI.g0 (by have := hI.g1; have := hI.b1; omega)
  obtain ⟨t1, t2, t3⟩ := trimmed_units d1 d2
  refine ⟨t2, t3, ?_⟩
  show units (trimmed (deletedL s.pieces s.gone)) = _
  rw [t1, d3]; rfl
/-- All pushed. -/
theorem push_good {l : List Op} : ∀ {s s' : Bld} {i T N : Nat}, s.Good → s.Inv T N → (∀ o ∈ l, szS o.text) → pushFrom s i l = (s', 0, 0) →
    s'.Good ∧ s'.Inv (T + opsum l) (N + l.length) ∧ ∀ u, nrmF (units s.pieces) s.gone.toNat (units (l.map toPiece) ++ u) = nrmF (units s'.pieces) s'.gone.toNat u := by
  induction l with
  | nil =>
    intro s s' i T N h hI _ hp
    simp only [pushFrom, Prod.mk.injEq] at hp
    obtain ⟨rfl, -, -⟩ := hp
    exact ⟨h, hI, fun u => rfl⟩
  | cons o l ih =>
    intro s s' i T N h hI hs hp
    have hpo : (s.push o).2 = 0 := by
      by_cases c : (s.push o).2 = 0
      · exact c
      · rw [pushFrom_bad c] at hp; simp only [Prod.mk.injEq] at hp; exact absurd hp.2.2 c
    rw [pushFrom_ok hpo] at hp
    obtain ⟨c1, c2, c3⟩ := push_ok hpo
    have hpk : pOk (toPiece o) := ⟨by rw [op_toPiece c1]; exact c1, by rw [op_toPiece c1]⟩
    have hI' := hI.push hpo (hs o (by simp))
    have hG := h.put hI hpk c2
    rw [← c3] at hG
    obtain ⟨i1, i2, i3⟩ := ih hG hI' (fun x hx => hs x (by simp [hx])) hp
    refine ⟨i1, ?_, fun u => ?_⟩
    · have e1 : opsum (o :: l) = o.text.size + opsum l := by simp [opsum]
      rw [e1, List.length_cons, ← Nat.add_assoc, show N + (l.length + 1) = N + 1 + l.length by omega]
      exact i2
    · rw [List.map_cons, units_cons, List.append_assoc, put_units h hI hpk, ← c3]
      exact i3 u
theorem pushAll_good {l : List Op} {s : Bld} (hs : ∀ o ∈ l, szS o.text) (hp : pushAll l = (s, 0, 0)) : PsOk s.delta ∧ sepL s.delta = true ∧ units s.delta = trimU (nrmF [] 0 (units (l.map toPiece))) := by
  obtain ⟨h1, h2, h3⟩ := push_good Bld.Good.new Bld.Inv.new hs hp
  obtain ⟨d1, d2, d3⟩ := delta_good h1 h2
  refine ⟨d1, d2, ?_⟩
  have := h3 []
  rw [List.append_nil] at this
  rw [d3, ← this]; rfl
end Ve
/- Plain laws of slices: a document gone through piece by piece, its pieces gathered. -/
namespace Ve
open Go

/-- The bytes of a unit's text. -/
def szU : Un → Nat
  | .i (.ch r) _ => (encB r).size
  | _ => 0
def usz (u : List Un) : Nat := (u.map szU).sum
theorem usz_app (u v : List Un) : usz (u ++ v) = usz u + usz v := by simp [usz]
theorem textL_size (l : List Nat) (a : List Attr) : (textL l).size = usz (l.map fun r => Un.i (.ch r) a) := by
  induction l with
  | nil => rfl
  | cons x l ih =>
    simp only [textL]
    rw [ByteArray.size_append, ih]
    simp [usz, szU]
theorem usz_zero (n : Nat) (x : Un) (h : szU x = 0) : usz (List.replicate n x) = 0 := by
  unfold usz
  rw [List.map_replicate, h]
  simp
theorem tsize_usz {p : Piece} (h : pOk p) : tsize p = usz (unitsP p) := by
  cases p with
  | ins a t n =>
    have := (ins_ok.1 h).2.1
    simp only [tsize, unitsP]
    rw [← textL_size, (text_of this).1]
  | emb a k v => rfl
  | ret a n => simp only [tsize, unitsP]; rw [usz_zero _ _ rfl]
  | del n => simp only [tsize, unitsP]; rw [usz_zero _ _ rfl]
theorem tsum_usz {l : List Piece} (h : PsOk l) : tsum l = usz (units l) := by
  induction l with
  | nil => rfl
  | cons p l ih =>
    have e : tsum (p :: l) = tsize p + tsum l := by simp [tsum]
    rw [e, units_cons, usz_app, ← ih fun x hx => h x (by simp [hx]), tsize_usz (h p (by simp))]
theorem len_units {l : List Piece} (h : PsOk l) : l.length ≤ (units l).length := by
  induction l with
  | nil => simp
  | cons p l ih =>
    have h1 := ih fun x hx => h x (by simp [hx])
    have h2 := unitsP_len (h p (by simp))
    have h3 := pOk_pos (h p (by simp))
    rw [units_cons, List.length_append, List.length_cons]
    omega
theorem usz_take (u : List Un) (n : Nat) : usz (u.take n) ≤ usz u := by
  have := congrArg usz (List.take_append_drop n u)
  rw [usz_app] at this
  omega
theorem usz_drop (u : List Un) (n : Nat) : usz (u.drop n) ≤ usz u := by
  have := congrArg usz (List.take_append_drop n u)
  rw [usz_app] at this
  omega
/-- An insert? -/
def isI : Piece → Bool
  | .ins _ _ _ => true
  | .emb _ _ _ => true
  | _ => false
def docP (l : List Piece) : Prop := ∀ p ∈ l, isI p = true
theorem cut_units {p : Piece} {n : Int} (h : pOk p) (h1 : 1 ≤ n) (h2 : n < p.len) : unitsP (cutP p n).1 = (unitsP p).take n.toNat ∧ unitsP (cutP p n).2 = (unitsP p).drop n.toNat := by
  cases p with
  | ins a t m =>
    have hv := (ins_ok.1 h).2.1
    simp only [cutP, unitsP]
    rw [(take_runes hv _).1, (drop_runes hv _).1, List.map_take, List.map_drop]
    exact ⟨rfl, rfl⟩
  | emb a k v => simp only [Piece.len] at h2; omega
  | ret a m =>
    simp only [Piece.len] at h2
    simp only [cutP, unitsP, List.take_replicate, List.drop_replicate]
    refine ⟨by congr 1; omega, by congr 1; omega⟩
  | del m =>
    simp only [Piece.len] at h2
    simp only [cutP, unitsP, List.take_replicate, List.drop_replicate]
    refine ⟨by congr 1; omega, by congr 1; omega⟩
theorem cut_isI (p : Piece) (n : Int) : isI (cutP p n).1 = isI p ∧ isI (cutP p n).2 = isI p := by cases p <;> exact ⟨rfl, rfl⟩
theorem next_units {ps : List Piece} {n : Int} (h : PsOk ps) (hne : ps ≠ []) (h1 : 1 ≤ n) :
    unitsP (nextP ps n).1 = (units ps).take (nextP ps n).1.len.toNat ∧ units (nextP ps n).2 = (units ps).drop (nextP ps n).1.len.toNat ∧ (docP ps → isI (nextP ps n).1 = true ∧ docP (nextP ps n).2) := by
  cases ps with
  | nil => exact absurd rfl hne
  | cons p r =>
    have hp : pOk p := h p (by simp)
    have hl := unitsP_len hp
    simp only [nextP]
    by_cases c : p.len ≤ n
    · rw [if_pos c]
      simp only [units_cons]
      refine ⟨?_, ?_, fun hd => ⟨hd p (by simp), fun x hx => hd x (by simp [hx])⟩⟩
      · rw [List.take_append_of_le_length (by omega), List.take_of_length_le (by omega)]
      · rw [List.drop_append_of_le_length (by omega), List.drop_eq_nil_of_le (by omega), List.nil_append]
    · rw [if_neg c]
      obtain ⟨c1, c2, c3, c4⟩ := cut_ok hp h1 (by omega)
      obtain ⟨u1, u2⟩ := cut_units hp h1 (by omega)
      simp only [units_cons]
      rw [c3, u1, u2]
      refine ⟨?_, ?_, fun hd => ⟨(cut_isI p n).1.trans (hd p (by simp)), fun x hx => ?_⟩⟩
      · rw [List.take_append_of_le_length (by omega)]
      · rw [List.drop_append_of_le_length (by omega)]
      · rcases List.mem_cons.1 hx with rfl | hx
        · exact (cut_isI p n).2.trans (hd p (by simp))
        · exact hd x (by simp [hx])
theorem isI_br {p : Piece} (h : isI p = true) : p.b = 0 ∧ p.r = p.len := by cases p <;> simp [isI] at h <;> exact ⟨rfl, rfl⟩
/-- What holds between two rounds of measure.Slice. -/
structure SlI (U : List Un) (from_ a : Nat) (rest : List Piece) (s : Bld) : Prop where
  ok : PsOk rest
  doc : docP rest
  un : units rest = U.drop a
  good : s.Good
  inv : s.Inv (tsum s.pieces) s.pieces.length
  gone : s.gone = 0
  base : s.base = 0
  us : units s.pieces = (U.drop from_).take (a - from_)
  res : s.result = ((a - from_ : Nat) : Int)
theorem SlI.new {U : List Un} {f : Nat} {ps : List Piece} (h : PsOk ps) (hd : docP ps) (hu : units ps = U) : SlI U f 0 ps .new :=
  ⟨h, hd, by rw [hu, List.drop_zero], Bld.Good.new, Bld.Inv.new, rfl, rfl, by simp [Bld.new, units], by simp [Bld.new]⟩
theorem SlI.ne {U : List Un} {f a : Nat} {rest : List Piece} {s : Bld} (h : SlI U f a rest s) (ha : a < U.length) : rest ≠ [] := fun e => by
  have := congrArg List.length h.un
  rw [e, List.length_drop] at this
  simp [units] at this; omega
/-- What is passed over. -/
theorem SlI.skip {U : List Un} {f a : Nat} {rest : List Piece} {s : Bld} (h : SlI U f a rest s) (ha : a < U.length) (hf : a < f) :
    SlI U f (a + (nextP rest ((f : Int) - a)).1.len.toNat) (nextP rest ((f : Int) - a)).2 s ∧ 1 ≤ (nextP rest ((f : Int) - a)).1.len ∧ (nextP rest ((f : Int) - a)).1.len ≤ (f : Int) - a := by
  obtain ⟨n1, n2, n3, n4⟩ := next_ok h.ok (n := (f : Int) - a) (by omega)
  obtain ⟨m1, m2, m3⟩ := next_units h.ok (h.ne ha) (n := (f : Int) - a) (by omega)
  refine ⟨⟨n2, (m3 h.doc).2, ?_, h.good, h.inv, h.gone, h.base, ?_, ?_⟩, n3, n4⟩
  · rw [m2, h.un, List.drop_drop]
  · rw [h.us]; congr 1; omega
  · rw [h.res]; omega
/-- What is gathered. -/
theorem SlI.push {U : List Un} {f a t : Nat} {rest : List Piece} {s : Bld} (h : SlI U f a rest s) (ha : a < t) (ht : t ≤ U.length) (hf : f ≤ a) (hz : usz U ≤ 1099511627776) (hU : U.length + 2 ≤ 1099511627776) :
    1 ≤ (nextP rest ((t : Int) - a)).1.len ∧ (nextP rest ((t : Int) - a)).1.len ≤ (t : Int) - a ∧ pOk (nextP rest ((t : Int) - a)).1 ∧
    (s.push (nextP rest ((t : Int) - a)).1.op).2 = 0 ∧ SlI U f (a + (nextP rest ((t : Int) - a)).1.len.toNat) (nextP rest ((t : Int) - a)).2 (s.push (nextP rest ((t : Int) - a)).1.op).1 ∧
    JoinOk s.pieces (nextP rest ((t : Int) - a)).1 ∧ s.pieces.length + 2 ≤ 1099511627776 := by
  obtain ⟨n1, n2, n3, n4⟩ := next_ok h.ok (n := (t : Int) - a) (by omega)
  obtain ⟨m1, m2, m3⟩ := next_units h.ok (h.ne (by omega)) (n := (t : Int) - a) (by omega)
  obtain ⟨m4, m5⟩ := m3 h.doc
  generalize nextP rest ((t : Int) - a) = P at n1 n2 n3 n4 m1 m2 m4 m5 ⊢
  obtain ⟨p, r⟩ := P
  simp only at n1 n2 n3 n4 m1 m2 m4 m5 ⊢
  obtain ⟨hb, hr⟩ := isI_br m4
  have hlu := unitsP_len n1
  have hfit : s.fits p = true := by
    unfold Bld.fits
    rw [hb, hr, h.base, h.res]
    exact decide_eq_true ⟨by omega, by omega⟩
  have hpush : s.push p.op = (s.put p, 0) := by
    unfold Bld.push
    rw [n1.1, if_neg (by simp), n1.2, hfit]
    simp
  have hun : units (s.put p).pieces = units s.pieces ++ unitsP p ∧ (s.put p).gone = s.gone ∧ (s.put p).base = 0 ∧ (s.put p).result = s.result + p.len := by
    cases p with
    | ins x y z => exact ⟨units_joined h.good.ok n1, rfl, by simp only [Bld.put]; rw [h.base]; rfl, rfl⟩
    | emb x y z => exact ⟨units_joined h.good.ok n1, rfl, by simp only [Bld.put]; rw [h.base]; rfl, rfl⟩
    | ret x y => cases m4
    | del x => cases m4
  obtain ⟨u1, u2, u3, u4⟩ := hun
  have hU2 : units s.pieces ++ unitsP p = (U.drop f).take (a + p.len.toNat - f) := by
    rw [h.us, m1, h.un]
    have e : U.drop a = (U.drop f).drop (a - f) := by rw [List.drop_drop]; congr 1; omega
    rw [e, ← List.take_add]
    congr 1; omega
  have hsz : tsum s.pieces + tsize p ≤ usz U := by
    rw [tsum_usz h.good.ok, tsize_usz n1, ← usz_app, hU2]
    exact Nat.le_trans (usz_take _ _) (usz_drop _ _)
  have hlen : s.pieces.length + 2 ≤ 1099511627776 := by
    have h1 := len_units h.good.ok
    rw [h.us, List.length_take, List.length_drop] at h1
    omega
  have hI := h.inv.put hfit (by omega) (by have := n1.2; rw [← this]; exact good_of n1.1)
  have hG := h.good.put h.inv n1 hfit
  rw [hpush]
  refine ⟨n3, n4, n1, rfl, ⟨n2, m5, ?_, hG, ?_, by rw [u2, h.gone], u3, ?_, ?_⟩, h.inv.joinOk hfit (by omega) (by omega), hlen⟩
  · rw [m2, h.un, List.drop_drop]
  · exact { hI with ts := Nat.le_refl _, len := by omega }
  · rw [u1, hU2]
  · rw [u4, h.res]; omega
theorem SlI.delta {U : List Un} {f a : Nat} {rest : List Piece} {s : Bld} (h : SlI U f a rest s) : PsOk s.delta ∧ sepL s.delta = true ∧ units s.delta = trimU ((U.drop f).take (a - f)) := by
  obtain ⟨d1, d2, d3⟩ := delta_good h.good h.inv
  refine ⟨d1, d2, ?_⟩
  rw [d3, h.gone, h.us]
  simp [nrmF]
end Ve
