/- Arguments opened: a list of operations that came in reads as plain data, its sizes bounded by the bulk. -/
import Derived.Test.YtmdakddgeagnmaaDoorRows
import Derived.Test.YtmdakddgeagnmaaDoorMem3
import Derived.Test.YtmdakddgeagnmaaDoorS1
import Derived.Deep.Slices
import Derived.ChangeArms
import Derived.DataReads
set_option linter.all false
namespace Ve
open Go Go.RowKit Go.Proofs Go.Proofs.YtmdakddgeagnmaaDoor

section
variable {H : Type} {enc : TypeId × Value → H} {W : World} {base : Nat} {sp : Nat → Bool} {held : Bool}
theorem bulk_one (d : DataW H) : 1 ≤ Rows.uptoBulk d := by
  cases d with
  | lit l => cases l <;> simp [Rows.uptoBulk]
  | nil => simp [Rows.uptoBulk]
  | ptr d => simp [Rows.uptoBulk]
  | slice elems spare => simp [Rows.uptoBulk]
  | agg parts => simp [Rows.uptoBulk]
  | iface t d => simp [Rows.uptoBulk]
  | map entries => simp [Rows.uptoBulk]
  | held h => simp [Rows.uptoBulk]
theorem bulk_app (l r : List (DataW H)) : Rows.uptoBulkAll (l ++ r) = Rows.uptoBulkAll l + Rows.uptoBulkAll r := by
  induction l with
  | nil => simp [Rows.uptoBulkAll]
  | cons x l ih => simp only [List.cons_append, Rows.uptoBulkAll, ih]; omega
theorem bulk_mem {d : DataW H} {l : List (DataW H)} (h : d ∈ l) : Rows.uptoBulk d ≤ Rows.uptoBulkAll l := by
  induction l with
  | nil => cases h
  | cons x r ih =>
    simp only [Rows.uptoBulkAll]
    cases List.mem_cons.1 h with
    | inl e => subst e; omega
    | inr e => have := ih e; omega
theorem len2 {α : Type} {l : List α} (h : l.length = 2) : ∃ a b, l = [a, b] := by
  match l, h with
  | [a, b], _ => exact ⟨a, b, rfl⟩
theorem len3 {α : Type} {l : List α} (h : l.length = 3) : ∃ a b c, l = [a, b, c] := by
  match l, h with
  | [a, b, c], _ => exact ⟨a, b, c, rfl⟩
theorem len4 {α : Type} {l : List α} (h : l.length = 4) : ∃ a b c d, l = [a, b, c, d] := by
  match l, h with
  | [a, b, c, d], _ => exact ⟨a, b, c, d, rfl⟩
theorem len5 {α : Type} {l : List α} (h : l.length = 5) : ∃ a b c d e, l = [a, b, c, d, e] := by
  match l, h with
  | [a, b, c, d, e], _ => exact ⟨a, b, c, d, e, rfl⟩
theorem len7 {α : Type} {l : List α} (h : l.length = 7) : ∃ a b c d e f g, l = [a, b, c, d, e, f, g] := by
  match l, h with
  | [a, b, c, d, e, f, g], _ => exact ⟨a, b, c, d, e, f, g, rfl⟩
/-- A slice of rows of k cells each. -/
theorem trod_rows {α : Type} (R : World → α → List Value → Prop) (k : Nat) (μ : α → Nat) {t e : TypeId} (ht : Tryd.prog.underlying t = some (.slice e)) (hC : Tryd.prog.cellsOf e = k) (hk : 0 < k) (B : Nat) (hB : B ≤ 1099511627776)
    (el : ∀ fuel cs (y : DataW H × List MemPlace), DataW.trod enc Tryd.prog W base sp held fuel e cs = some y → Rows.uptoBulk y.1 ≤ B → ∃ x, R W x cs ∧ μ x + 1 ≤ Rows.uptoBulk y.1)
    {fuel : Nat} {v : Value} {x : DataW H × List MemPlace} (h : DataW.trod enc Tryd.prog W base sp held fuel t [v] = some x) (hb : Rows.uptoBulk x.1 ≤ B) :
    ∃ l, RdList R k W v l ∧ (l.map μ).sum + l.length ≤ Rows.uptoBulk x.1 := by
  rcases Go.Deep.open_slice ht h with ⟨hcs, hx⟩ | ⟨a, len, cap, m, n, D, Pl, hcs, hbase, hl, hm, hmm, hx, hi⟩
  · injection hcs with hv
    subst hv
    exact ⟨[], RdList.nil .., by simp⟩
  · injection hcs with hv
    subst hv
    have hlm : len ≤ m := by rw [hmm]; split <;> omega
    have hall : Rows.uptoBulkAll ((List.range len).map D) + 1 ≤ Rows.uptoBulk x.1 := by
      rw [hx]; simp only [Rows.uptoBulk]; omega
    rw [hC] at hi
    have key : ∀ j, j ≤ len → ∃ (l : List α) (xs : List Value), l.length = j ∧ RowsR R k W l xs ∧ (∀ q u, xs[q]? = some u → W.cell? (a.add q) = some u) ∧ (l.map μ).sum + l.length ≤ Rows.uptoBulkAll ((List.range j).map D) := by
      intro j
      induction j with
      | zero => intro _; exact ⟨[], [], rfl, rfl, fun q u h => by simp at h, by simp [Rows.uptoBulkAll]⟩
      | succ j ih =>
        intro hj
        obtain ⟨l, xs, h1, h2, h3, h4⟩ := ih (by omega)
        obtain ⟨cs', hc, htr⟩ := hi j (by omega)
        obtain ⟨_, hcl, hat⟩ := World.cells?_some hc
        have hDj : Rows.uptoBulk (D j) ≤ B := by
          have := bulk_mem (l := (List.range len).map D) (List.mem_map.2 ⟨j, List.mem_range.2 (by omega), rfl⟩)
          omega
        obtain ⟨y, hy, hμ⟩ := el n cs' _ htr hDj
        refine ⟨l ++ [y], xs ++ cs', by simp [h1], h2.app (RowsR.one hcl hy), ?_, ?_⟩
        · intro q u hq
          have hxl := h2.len
          rw [h1] at hxl
          by_cases c : q < xs.length
          · rw [List.getElem?_append_left c] at hq
            exact h3 q u hq
          · rw [List.getElem?_append_right (by omega)] at hq
            have hlt : q - xs.length < k := by
              have := (List.getElem?_eq_some_iff.1 hq).1
              omega
            have := hat (q - xs.length) hlt
            rw [Go.Deep.add_add, ← hxl, show xs.length + (q - xs.length) = q by omega] at this
            rw [this, hq]
        · have e1 : Rows.uptoBulkAll ((List.range (j + 1)).map D) = Rows.uptoBulkAll ((List.range j).map D) + (Rows.uptoBulk (D j) + 0) := by rw [List.range_succ, List.map_append, bulk_app]; rfl
          rw [e1]
          simp only [List.map_append, List.map_cons, List.map_nil, List.sum_append, List.sum_cons, List.sum_nil, List.length_append, List.length_cons, List.length_nil]
          dsimp only at hμ
          omega
    obtain ⟨l, xs, h1, h2, h3, h4⟩ := key len (Nat.le_refl _)
    refine ⟨l, ⟨some a, cap, xs, by rw [h1], by omega, hm, by omega, h2, fun hn => ?_⟩, by omega⟩
    have hlen : 0 < xs.length := by rw [h2.len]; exact Nat.mul_pos hn hk
    have hc0 := h3 0 xs[0] (List.getElem?_eq_getElem hlen)
    have hs : a.spot = none := by
      have e0 : a.add 0 = a := by simp [Addr.add]
      rw [e0] at hc0
      unfold World.cell? at hc0
      split at hc0
      · split at hc0
        · cases hc0
        · rename_i hsp
          simpa using hsp
      · cases hc0
    obtain ⟨b, off, s⟩ := a
    simp only at hs
    subst hs
    refine ⟨b, off, rfl, fun j u hu => ?_⟩
    have := h3 j u hu
    unfold Addr.add at this
    split at this
    · rename_i h0; subst h0; exact this
    · simpa using this
theorem trod_plain {fuel : Nat} {cs : List Value} {x : DataW H × List MemPlace} (h : DataW.trod enc Tryd.prog W base sp held fuel 48 cs = some x) :
    ∃ (k n : Int) (s : ByteArray), cs = [.int .i64 k, .int .i64 n, .string s] ∧ s.size + 3 ≤ Rows.uptoBulk x.1 := by
  obtain ⟨xs, n, _, hx, hl, hxs, hf⟩ := DataW.trod_struct Tryd.underlying48 h
  have hC : Tryd.prog.cellsOf 48 = 3 := by kernel_rfl
  have c1 : Tryd.prog.cellsOf 3 = 1 := by kernel_rfl
  have c2 : Tryd.prog.cellsOf 2 = 1 := by kernel_rfl
  have c3 : Tryd.prog.cellsOf 9 = 1 := by kernel_rfl
  rw [hC] at hl
  obtain ⟨v0, v1, v2, rfl⟩ := len3 hl
  obtain ⟨y0, y1, y2, rfl⟩ := len3 (hxs : xs.length = 3)
  have h0 := hf 0 _ rfl
  have h1 := hf 1 _ rfl
  have h2 := hf 2 _ rfl
  simp [c1, c2, c3] at h0 h1 h2
  obtain ⟨k, e0, -, -⟩ := DataW.trod_int Tryd.underlying3 h0
  obtain ⟨m, e1, -, -⟩ := DataW.trod_int Tryd.underlying2 h1
  obtain ⟨s, e2, e3, -⟩ := DataW.trod_string Tryd.underlying9 h2
  injection e0 with e0; injection e1 with e1; injection e2 with e2
  subst e0; subst e1; subst e2
  refine ⟨k, m, s, rfl, ?_⟩
  rw [hx, e3]
  have b0 := bulk_one y0.1
  have b1 := bulk_one y1.1
  simp only [List.map_cons, List.map_nil, Rows.uptoBulk, Rows.uptoBulkAll, Array.length_toList]
  show s.data.size + 3 ≤ _
  omega
theorem trod_attr {fuel : Nat} {cs : List Value} {x : DataW H × List MemPlace} (h : DataW.trod enc Tryd.prog W base sp held fuel 112 cs = some x) (hb : Rows.uptoBulk x.1 ≤ 1048576) :
    ∃ a : Attr, AttrR W a cs ∧ 0 + 1 ≤ Rows.uptoBulk x.1 := by
  obtain ⟨xs, n, _, hx, hl, hxs, hf⟩ := DataW.trod_struct Tryd.underlying112 h
  have hC : Tryd.prog.cellsOf 112 = 4 := by kernel_rfl
  have c1 : Tryd.prog.cellsOf 48 = 3 := by kernel_rfl
  have c3 : Tryd.prog.cellsOf 9 = 1 := by kernel_rfl
  rw [hC] at hl
  obtain ⟨v0, v1, v2, v3, rfl⟩ := len4 hl
  obtain ⟨y0, y1, rfl⟩ := len2 (hxs : xs.length = 2)
  have h0 := hf 0 _ rfl
  have h1 := hf 1 _ rfl
  simp [c1, c3] at h0 h1
  obtain ⟨key, e0, e3, -⟩ := DataW.trod_string Tryd.underlying9 h0
  obtain ⟨k, m, s, e1, hs⟩ := trod_plain h1
  injection e0 with e0
  injection e1 with e1 e2; injection e2 with e2 e4; injection e4 with e4
  subst e0; subst e1; subst e2; subst e4
  have b1 : key.size + 1 + Rows.uptoBulk y1.1 + 1 ≤ Rows.uptoBulk x.1 := by
    rw [hx, e3]
    simp only [List.map_cons, List.map_nil, Rows.uptoBulk, Rows.uptoBulkAll, Array.length_toList]
    show key.data.size + 1 + _ + 1 ≤ _
    omega
  exact ⟨⟨key, ⟨k, m, s⟩⟩, ⟨rfl, by simp only [szS]; omega, by simp only [szS]; omega⟩, by omega⟩
theorem trod_attrs {fuel : Nat} {v : Value} {x : DataW H × List MemPlace} (h : DataW.trod enc Tryd.prog W base sp held fuel 49 [v] = some x) (hb : Rows.uptoBulk x.1 ≤ 1048576) : ∃ l, RdAttrs W v l := by
  obtain ⟨l, hl, -⟩ := trod_rows AttrR 4 (fun _ => 0) Tryd.underlying49 (by kernel_rfl) (by omega) 1048576 (by omega) (fun fuel cs y h hb => trod_attr h hb) h hb
  exact ⟨l, hl⟩
theorem trod_op {fuel : Nat} {cs : List Value} {x : DataW H × List MemPlace} (h : DataW.trod enc Tryd.prog W base sp held fuel 51 cs = some x) (hb : Rows.uptoBulk x.1 ≤ 1048576) :
    ∃ o : Op, OpR W o cs ∧ o.text.size + 1 ≤ Rows.uptoBulk x.1 := by
  obtain ⟨xs, n, _, hx, hl, hxs, hf⟩ := DataW.trod_struct Tryd.underlying51 h
  have hC : Tryd.prog.cellsOf 51 = 7 := by kernel_rfl
  have c1 : Tryd.prog.cellsOf 48 = 3 := by kernel_rfl
  have c2 : Tryd.prog.cellsOf 3 = 1 := by kernel_rfl
  have c3 : Tryd.prog.cellsOf 9 = 1 := by kernel_rfl
  have c4 : Tryd.prog.cellsOf 49 = 1 := by kernel_rfl
  rw [hC] at hl
  obtain ⟨v0, v1, v2, v3, v4, v5, v6, rfl⟩ := len7 hl
  obtain ⟨y0, y1, y2, y3, y4, rfl⟩ := len5 (hxs : xs.length = 5)
  have h0 := hf 0 _ rfl
  have h1 := hf 1 _ rfl
  have h2 := hf 2 _ rfl
  have h3 := hf 3 _ rfl
  have h4 := hf 4 _ rfl
  simp [c1, c2, c3, c4] at h0 h1 h2 h3 h4
  obtain ⟨k, e0, f0, -⟩ := DataW.trod_int Tryd.underlying3 h0
  obtain ⟨t, e1, f1, -⟩ := DataW.trod_string Tryd.underlying9 h1
  obtain ⟨pk, pn, s, e2, hs⟩ := trod_plain h2
  obtain ⟨c, e3, f3, -⟩ := DataW.trod_int Tryd.underlying3 h3
  have hbs : t.size + 1 + Rows.uptoBulk y2.1 + Rows.uptoBulk y4.1 ≤ Rows.uptoBulk x.1 := by
    rw [hx, f1]
    simp only [List.map_cons, List.map_nil, Rows.uptoBulk, Rows.uptoBulkAll, Array.length_toList]
    show t.data.size + 1 + _ + _ ≤ _
    omega
  obtain ⟨l, hl4⟩ := trod_attrs h4 (by omega)
  injection e0 with e0; injection e1 with e1; injection e3 with e3
  injection e2 with e2 e5; injection e5 with e5 e6; injection e6 with e6
  subst e0; subst e1; subst e2; subst e5; subst e6; subst e3
  exact ⟨⟨k, t, ⟨pk, pn, s⟩, c, l⟩, ⟨v6, rfl, hl4, by simp only [szS]; omega, by simp only [szS]; omega⟩, by simp only; omega⟩
/-- A list of operations that came in. -/
theorem trod_ops {fuel : Nat} {v : Value} {x : DataW H × List MemPlace} (h : DataW.trod enc Tryd.prog W base sp held fuel 22 [v] = some x) (hb : Rows.uptoBulk x.1 ≤ 1048576) : ∃ l, RdOps W v l ∧ opsum l + l.length ≤ 1048576 := by
  obtain ⟨l, hl, hs⟩ := trod_rows OpR 7 (fun o : Op => o.text.size) Tryd.underlying22 (by kernel_rfl) (by omega) 1048576 (by omega) (fun fuel cs y h hb => trod_op h hb) h hb
  exact ⟨l, hl, by unfold opsum; omega⟩
end
end Ve
