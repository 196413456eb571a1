/- Arguments opened: a list of operations that came in reads as plain data, its sizes bounded by the bulk. -/
import Derived.Test.YtnlpmajiccliiaaGreatDoorRows
import Derived.Test.YtnlpmajiccliiaaGreatDoorMem3
import Derived.Test.YtnlpmajiccliiaaGreatDoorS3
import Derived.Deep.Slices
import Derived.ChangeArms
import Derived.DataReads
import Derived.Test.YtnlpmajiccliiaaGreatDoorN1
import Derived.LaidLaws
import Derived.Lib.LaidU8T
import Derived.PinnedBridge
import Derived.MakeChecks
import Derived.ProofKit
import Derived.OpenShut
import Derived.Deep.DeepHandedRow
import Derived.Deep.DeepWitnessRowRef
set_option linter.all false
namespace Ve
open Go Go.RowKit Go.Proofs Go.Proofs.YtnlpmajiccliiaaGreatDoor

section
variable {H : Type} {enc : TypeId × Value → H} {W : World} {base : Nat} {sp : Nat → Bool} {held : Bool}
theorem bulk_one (d : DataW H) : 1 ≤ Rows.uptoBulk d := by
  cases d with
  | lit l => cases l <;> simp [Rows.uptoBulk]
  | nil => simp [Rows.uptoBulk]
  | ptr d => simp [Rows.uptoBulk]
  | slice elems spare => simp [Rows.uptoBulk]
  | agg parts => simp [Rows.uptoBulk]
  | iface t d => simp [Rows.uptoBulk]
  | map entries => simp [Rows.uptoBulk]
  | held h => simp [Rows.uptoBulk]
theorem bulk_app (l r : List (DataW H)) : Rows.uptoBulkAll (l ++ r) = Rows.uptoBulkAll l + Rows.uptoBulkAll r := by
  induction l with
  | nil => simp [Rows.uptoBulkAll]
  | cons x l ih => simp only [List.cons_append, Rows.uptoBulkAll, ih]; omega
theorem bulk_mem {d : DataW H} {l : List (DataW H)} (h : d ∈ l) : Rows.uptoBulk d ≤ Rows.uptoBulkAll l := by
  induction l with
  | nil => cases h
  | cons x r ih =>
    simp only [Rows.uptoBulkAll]
    cases List.mem_cons.1 h with
    | inl e => subst e; omega
    | inr e => have := ih e; omega
theorem len2 {α : Type} {l : List α} (h : l.length = 2) : ∃ a b, l = [a, b] := by
  match l, h with
  | [a, b], _ => exact ⟨a, b, rfl⟩
theorem len3 {α : Type} {l : List α} (h : l.length = 3) : ∃ a b c, l = [a, b, c] := by
  match l, h with
  | [a, b, c], _ => exact ⟨a, b, c, rfl⟩
theorem len4 {α : Type} {l : List α} (h : l.length = 4) : ∃ a b c d, l = [a, b, c, d] := by
  match l, h with
  | [a, b, c, d], _ => exact ⟨a, b, c, d, rfl⟩
theorem len5 {α : Type} {l : List α} (h : l.length = 5) : ∃ a b c d e, l = [a, b, c, d, e] := by
  match l, h with
  | [a, b, c, d, e], _ => exact ⟨a, b, c, d, e, rfl⟩
theorem len7 {α : Type} {l : List α} (h : l.length = 7) : ∃ a b c d e f g, l = [a, b, c, d, e, f, g] := by
  match l, h with
  | [a, b, c, d, e, f, g], _ => exact ⟨a, b, c, d, e, f, g, rfl⟩
/-- A slice of rows of k cells each. -/
theorem trod_rows {α : Type} (R : World → α → List Value → Prop) (k : Nat) (μ : α → Nat) {t e : TypeId} (ht : Tryz.prog.underlying t = some (.slice e)) (hC : Tryz.prog.cellsOf e = k) (hk : 0 < k) (B : Nat) (hB : B ≤ 1099511627776)
    (el : ∀ fuel cs (y : DataW H × List MemPlace), DataW.trod enc Tryz.prog W base sp held fuel e cs = some y → Rows.uptoBulk y.1 ≤ B → ∃ x, R W x cs ∧ μ x + 1 ≤ Rows.uptoBulk y.1)
    {fuel : Nat} {v : Value} {x : DataW H × List MemPlace} (h : DataW.trod enc Tryz.prog W base sp held fuel t [v] = some x) (hb : Rows.uptoBulk x.1 ≤ B) :
    ∃ l, RdList R k W v l ∧ (l.map μ).sum + l.length ≤ Rows.uptoBulk x.1 := by
  rcases Go.Deep.open_slice ht h with ⟨hcs, hx⟩ | ⟨a, len, cap, m, n, D, Pl, hcs, hbase, hl, hm, hmm, hx, hi⟩
  · injection hcs with hv
    subst hv
    exact ⟨[], RdList.nil .., by simp⟩
  · injection hcs with hv
    subst hv
    have hlm : len ≤ m := by rw [hmm]; split <;> omega
    have hall : Rows.uptoBulkAll ((List.range len).map D) + 1 ≤ Rows.uptoBulk x.1 := by
      rw [hx]; simp only [Rows.uptoBulk]; omega
    rw [hC] at hi
    have key : ∀ j, j ≤ len → ∃ (l : List α) (xs : List Value), l.length = j ∧ RowsR R k W l xs ∧ (∀ q u, xs[q]? = some u → W.cell? (a.add q) = some u) ∧ (l.map μ).sum + l.length ≤ Rows.uptoBulkAll ((List.range j).map D) := by
      intro j
      induction j with
      | zero => intro _; exact ⟨[], [], rfl, rfl, fun q u h => by simp at h, by simp [Rows.uptoBulkAll]⟩
      | succ j ih =>
        intro hj
        obtain ⟨l, xs, h1, h2, h3, h4⟩ := ih (by omega)
        obtain ⟨cs', hc, htr⟩ := hi j (by omega)
        obtain ⟨_, hcl, hat⟩ := World.cells?_some hc
        have hDj : Rows.uptoBulk (D j) ≤ B := by
          have := bulk_mem (l := (List.range len).map D) (List.mem_map.2 ⟨j, List.mem_range.2 (by omega), rfl⟩)
          omega
        obtain ⟨y, hy, hμ⟩ := el n cs' _ htr hDj
        refine ⟨l ++ [y], xs ++ cs', by simp [h1], h2.app (RowsR.one hcl hy), ?_, ?_⟩
        · intro q u hq
          have hxl := h2.len
          rw [h1] at hxl
          by_cases c : q < xs.length
          · rw [List.getElem?_append_left c] at hq
            exact h3 q u hq
          · rw [List.getElem?_append_right (by omega)] at hq
            have hlt : q - xs.length < k := by
              have := (List.getElem?_eq_some_iff.1 hq).1
              omega
            have := hat (q - xs.length) hlt
            rw [Go.Deep.add_add, ← hxl, show xs.length + (q - xs.length) = q by omega] at this
            rw [this, hq]
        · have e1 : Rows.uptoBulkAll ((List.range (j + 1)).map D) = Rows.uptoBulkAll ((List.range j).map D) + (Rows.uptoBulk (D j) + 0) := by rw [List.range_succ, List.map_append, bulk_app]; rfl
          rw [e1]
          simp only [List.map_append, List.map_cons, List.map_nil, List.sum_append, List.sum_cons, List.sum_nil, List.length_append, List.length_cons, List.length_nil]
          dsimp only at hμ
          omega
    obtain ⟨l, xs, h1, h2, h3, h4⟩ := key len (Nat.le_refl _)
    refine ⟨l, ⟨some a, cap, xs, by rw [h1], by omega, hm, by omega, h2, fun hn => ?_⟩, by omega⟩
    have hlen : 0 < xs.length := by rw [h2.len]; exact Nat.mul_pos hn hk
    have hc0 := h3 0 xs[0] (List.getElem?_eq_getElem hlen)
    have hs : a.spot = none := by
      have e0 : a.add 0 = a := by simp [Addr.add]
      rw [e0] at hc0
      unfold World.cell? at hc0
      split at hc0
      · split at hc0
        · cases hc0
        · rename_i hsp
          simpa using hsp
      · cases hc0
    obtain ⟨b, off, s⟩ := a
    simp only at hs
    subst hs
    refine ⟨b, off, rfl, fun j u hu => ?_⟩
    have := h3 j u hu
    unfold Addr.add at this
    split at this
    · rename_i h0; subst h0; exact this
    · simpa using this
theorem trod_plain {fuel : Nat} {cs : List Value} {x : DataW H × List MemPlace} (h : DataW.trod enc Tryz.prog W base sp held fuel 60 cs = some x) :
    ∃ (k n : Int) (s : ByteArray), cs = [.int .i64 k, .int .i64 n, .string s] ∧ s.size + 3 ≤ Rows.uptoBulk x.1 := by
  obtain ⟨xs, n, _, hx, hl, hxs, hf⟩ := DataW.trod_struct Tryz.underlying60 h
  have hC : Tryz.prog.cellsOf 60 = 3 := by kernel_rfl
  have c1 : Tryz.prog.cellsOf 3 = 1 := by kernel_rfl
  have c2 : Tryz.prog.cellsOf 2 = 1 := by kernel_rfl
  have c3 : Tryz.prog.cellsOf 9 = 1 := by kernel_rfl
  rw [hC] at hl
  obtain ⟨v0, v1, v2, rfl⟩ := len3 hl
  obtain ⟨y0, y1, y2, rfl⟩ := len3 (hxs : xs.length = 3)
  have h0 := hf 0 _ rfl
  have h1 := hf 1 _ rfl
  have h2 := hf 2 _ rfl
  simp [c1, c2, c3] at h0 h1 h2
  obtain ⟨k, e0, -, -⟩ := DataW.trod_int Tryz.underlying3 h0
  obtain ⟨m, e1, -, -⟩ := DataW.trod_int Tryz.underlying2 h1
  obtain ⟨s, e2, e3, -⟩ := DataW.trod_string Tryz.underlying9 h2
  injection e0 with e0; injection e1 with e1; injection e2 with e2
  subst e0; subst e1; subst e2
  refine ⟨k, m, s, rfl, ?_⟩
  rw [hx, e3]
  have b0 := bulk_one y0.1
  have b1 := bulk_one y1.1
  simp only [List.map_cons, List.map_nil, Rows.uptoBulk, Rows.uptoBulkAll, Array.length_toList]
  show s.data.size + 3 ≤ _
  omega
theorem trod_attr {fuel : Nat} {cs : List Value} {x : DataW H × List MemPlace} (h : DataW.trod enc Tryz.prog W base sp held fuel 176 cs = some x) (hb : Rows.uptoBulk x.1 ≤ 1048576) :
    ∃ a : Attr, AttrR W a cs ∧ 0 + 1 ≤ Rows.uptoBulk x.1 := by
  obtain ⟨xs, n, _, hx, hl, hxs, hf⟩ := DataW.trod_struct Tryz.underlying176 h
  have hC : Tryz.prog.cellsOf 176 = 4 := by kernel_rfl
  have c1 : Tryz.prog.cellsOf 60 = 3 := by kernel_rfl
  have c3 : Tryz.prog.cellsOf 9 = 1 := by kernel_rfl
  rw [hC] at hl
  obtain ⟨v0, v1, v2, v3, rfl⟩ := len4 hl
  obtain ⟨y0, y1, rfl⟩ := len2 (hxs : xs.length = 2)
  have h0 := hf 0 _ rfl
  have h1 := hf 1 _ rfl
  simp [c1, c3] at h0 h1
  obtain ⟨key, e0, e3, -⟩ := DataW.trod_string Tryz.underlying9 h0
  obtain ⟨k, m, s, e1, hs⟩ := trod_plain h1
  injection e0 with e0
  injection e1 with e1 e2; injection e2 with e2 e4; injection e4 with e4
  subst e0; subst e1; subst e2; subst e4
  have b1 : key.size + 1 + Rows.uptoBulk y1.1 + 1 ≤ Rows.uptoBulk x.1 := by
    rw [hx, e3]
    simp only [List.map_cons, List.map_nil, Rows.uptoBulk, Rows.uptoBulkAll, Array.length_toList]
    show key.data.size + 1 + _ + 1 ≤ _
    omega
  exact ⟨⟨key, ⟨k, m, s⟩⟩, ⟨rfl, by simp only [szS]; omega, by simp only [szS]; omega⟩, by omega⟩
theorem trod_attrs {fuel : Nat} {v : Value} {x : DataW H × List MemPlace} (h : DataW.trod enc Tryz.prog W base sp held fuel 61 [v] = some x) (hb : Rows.uptoBulk x.1 ≤ 1048576) : ∃ l, RdAttrs W v l ∧ l.length ≤ Rows.uptoBulk x.1 := by
  obtain ⟨l, hl, hn⟩ := trod_rows AttrR 4 (fun _ => 0) Tryz.underlying61 (by kernel_rfl) (by omega) 1048576 (by omega) (fun fuel cs y h hb => trod_attr h hb) h hb
  exact ⟨l, hl, by omega⟩
theorem trod_op {fuel : Nat} {cs : List Value} {x : DataW H × List MemPlace} (h : DataW.trod enc Tryz.prog W base sp held fuel 65 cs = some x) (hb : Rows.uptoBulk x.1 ≤ 1048576) :
    ∃ o : Op, OpR W o cs ∧ o.text.size + o.attrs.length + 1 ≤ Rows.uptoBulk x.1 := by
  obtain ⟨xs, n, _, hx, hl, hxs, hf⟩ := DataW.trod_struct Tryz.underlying65 h
  have hC : Tryz.prog.cellsOf 65 = 7 := by kernel_rfl
  have c1 : Tryz.prog.cellsOf 60 = 3 := by kernel_rfl
  have c2 : Tryz.prog.cellsOf 3 = 1 := by kernel_rfl
  have c3 : Tryz.prog.cellsOf 9 = 1 := by kernel_rfl
  have c4 : Tryz.prog.cellsOf 61 = 1 := by kernel_rfl
  rw [hC] at hl
  obtain ⟨v0, v1, v2, v3, v4, v5, v6, rfl⟩ := len7 hl
  obtain ⟨y0, y1, y2, y3, y4, rfl⟩ := len5 (hxs : xs.length = 5)
  have h0 := hf 0 _ rfl
  have h1 := hf 1 _ rfl
  have h2 := hf 2 _ rfl
  have h3 := hf 3 _ rfl
  have h4 := hf 4 _ rfl
  simp [c1, c2, c3, c4] at h0 h1 h2 h3 h4
  obtain ⟨k, e0, f0, -⟩ := DataW.trod_int Tryz.underlying3 h0
  obtain ⟨t, e1, f1, -⟩ := DataW.trod_string Tryz.underlying9 h1
  obtain ⟨pk, pn, s, e2, hs⟩ := trod_plain h2
  obtain ⟨c, e3, f3, -⟩ := DataW.trod_int Tryz.underlying3 h3
  have hbs : t.size + 1 + Rows.uptoBulk y2.1 + Rows.uptoBulk y4.1 ≤ Rows.uptoBulk x.1 := by
    rw [hx, f1]
    simp only [List.map_cons, List.map_nil, Rows.uptoBulk, Rows.uptoBulkAll, Array.length_toList]
    show t.data.size + 1 + _ + _ ≤ _
    omega
  obtain ⟨l, hl4, hn4⟩ := trod_attrs h4 (by omega)
  injection e0 with e0; injection e1 with e1; injection e3 with e3
  injection e2 with e2 e5; injection e5 with e5 e6; injection e6 with e6
  subst e0; subst e1; subst e2; subst e5; subst e6; subst e3
  exact ⟨⟨k, t, ⟨pk, pn, s⟩, c, l⟩, ⟨v6, rfl, hl4, by simp only [szS]; omega, by simp only [szS]; omega⟩, by simp only; omega⟩
/-- A list of operations that came in. -/
theorem trod_opsA {fuel : Nat} {v : Value} {x : DataW H × List MemPlace} (h : DataW.trod enc Tryz.prog W base sp held fuel 22 [v] = some x) (hb : Rows.uptoBulk x.1 ≤ 1048576) : ∃ l, RdOps W v l ∧ opsum l + atsum l + l.length ≤ Rows.uptoBulk x.1 := by
  obtain ⟨l, hl, hs⟩ := trod_rows OpR 7 (fun o : Op => o.text.size + o.attrs.length) Tryz.underlying22 (by kernel_rfl) (by omega) 1048576 (by omega) (fun fuel cs y h hb => trod_op h hb) h hb
  rw [wsum_split] at hs
  exact ⟨l, hl, by omega⟩
end
end Ve
/- What the rows' lists of package-level variables give: the errors and UTF-8's tables; a world for the witness. -/
namespace Ve
open Go Go.RowKit Go.Proofs Go.ChangeShapes Go.WideShapes Go.Proofs.YtnlpmajiccliiaaGreatDoor

theorem row_errp (u : TypeId) (h : Tryz.prog.typeName? 3 u = some "*errors.errorString") : u = 245 :=
  typeName_ptr_named (nm := "errors.errorString") (by rw [show "*" ++ "errors.errorString" = "*errors.errorString" by decide]; kernel_rfl) (by kernel_rfl) (by decide) u (by rw [show "*" ++ "errors.errorString" = "*errors.errorString" by decide]; exact h)
def sent (x : String × List UInt8 × Nat) : String × DataW Unit := (x.1, .iface "*errors.errorString" (.ptr (.agg [.lit (.string x.2.1)])))
theorem under_es : ∃ f : Field, Tryz.prog.underlying 263 = some (.struct #[f]) ∧ f.type = 9 ∧ f.offset = 0 := ⟨_, Tryz.underlying263, rfl, rfl⟩
theorem under_errp' : Tryz.prog.underlying 245 = some (.pointer 263) := by kernel_rfl
theorem cells_es : Tryz.prog.cellsOf 263 = 1 := by kernel_rfl
theorem cells_str : Tryz.prog.cellsOf 9 = 1 := by kernel_rfl
set_option maxRecDepth 100000 in
/-- Listed sentinels: each variable holds a pointer of its own. -/
theorem sents {W : World} : ∀ (L : List (String × List UInt8 × Nat)) (rest : List (String × DataW Unit)) (ps : List MemPlace), DataW.LaidVars Tryz.prog W (L.map sent ++ rest) ps → ps.Nodup →
    (∀ b off, MemPlace.cell b off ∈ ps → (∃ c t, W.heap[b]? = some (.cells c t (0, 0))) ∧ ∀ u v, W.cell? ⟨b, off, none⟩ = some (.iface u v) → Value.okWide Tryz.prog W .any 0 u v) →
    (∀ x ∈ L, Tryz.prog.globalNamed x.1 = some x.2.2 ∧ (Tryz.prog.globals[x.2.2]?).map (·.type) = some 28) →
    ∃ ads : List Addr, ads.length = L.length ∧ (∀ (i : Nat) x a, L[i]? = some x → ads[i]? = some a → W.cell? ⟨x.2.2, 0, none⟩ = some (.iface 245 (.pointer (some a))) ∧ (∃ c t, W.heap[a.block]? = some (.cells c t (0, 0))) ∧ MemPlace.cell a.block a.off ∈ ps) ∧
      (∀ (i j : Nat) a, ads[i]? = some a → ads[j]? = some a → i = j)
  | [], rest, ps, _, _, _, _ => ⟨[], rfl, fun i x a h => by simp at h, fun i j a h => by simp at h⟩
  | x :: L, rest, ps, h, hnd, hrows, hg => by
    obtain ⟨g0, t0, cs0, f0, p0, q0, hg0, ht0, hv0, hd0, hq, e0⟩ := h
    obtain ⟨hx1, hx2⟩ := hg x (by simp)
    have e1 : g0 = x.2.2 := Option.some.inj (hg0.symm.trans hx1)
    subst e1
    have e2 : t0 = 28 := (Option.some.inj (hx2.symm.trans ht0)).symm
    subst e2
    subst e0
    obtain ⟨l0⟩ := cs0
    have hsz : 0 < (Array.mk l0).size ∨ l0 = [] := by cases l0 <;> simp
    have ok0 : ∀ u v, l0 = [.iface u v] → Value.okWide Tryz.prog W .any 0 u v := fun u v e => by
      subst e
      exact (hrows x.2.2 0 (by simp [MemPlace.row])).2 u v (by simpa using World.var?_cell hg0 hv0 0)
    obtain ⟨fld, u1, u2, u3⟩ := under_es
    obtain ⟨a0, s0, rfl, hc0, hs0, hz0, rfl⟩ := errorString_of_trod methods_error row_errp under_errp' u1 u2 u3 Tryz.underlying9 cells_es cells_str hd0 ok0
    have hnd2 : q0.Nodup := List.Nodup.sublist (List.sublist_append_right _ _) hnd
    obtain ⟨ads, h1, h2, h3⟩ := sents L rest q0 hq hnd2 (fun b off hm => hrows b off (List.mem_append_right _ hm)) (fun y hy => hg y (by simp [hy]))
    have hcell : W.cell? ⟨x.2.2, 0, none⟩ = some (.iface 245 (.pointer (some a0))) := by simpa using World.var?_cell hg0 hv0 0
    have ha0 : MemPlace.cell a0.block a0.off ∉ q0 := by
      intro hm
      simp only [List.append_assoc] at hnd
      have hnd3 := (List.nodup_append.1 hnd).2.1
      have := (List.nodup_append.1 hnd3).2.2 (MemPlace.cell a0.block a0.off) (by simp [MemPlace.row]) _ hm
      exact this rfl
    refine ⟨a0 :: ads, by simp [h1], ?_, ?_⟩
    · intro i y a hy ha
      cases i with
      | zero =>
        simp at hy ha
        subst hy; subst ha
        exact ⟨hcell, (hrows a0.block a0.off (by simp [MemPlace.row])).1, by simp [MemPlace.row]⟩
      | succ i =>
        simp at hy ha
        obtain ⟨k1, k2, k3⟩ := h2 i y a hy ha
        exact ⟨k1, k2, List.mem_append_right _ k3⟩
    · intro i j a hi hj
      have far : ∀ k : Nat, ads[k]? = some a0 → False := by
        intro k hk
        have hlt : k < L.length := by rw [← h1]; exact (List.getElem?_eq_some_iff.1 hk).1
        exact ha0 (h2 k L[k] a0 (List.getElem?_eq_getElem hlt) hk).2.2
      cases i with
      | zero =>
        cases j with
        | zero => rfl
        | succ j =>
          simp at hi hj
          subst hi
          exact absurd hj (far j)
      | succ i =>
        cases j with
        | zero =>
          simp at hi hj
          subst hj
          exact absurd hi (far i)
        | succ j =>
          simp at hi hj
          rw [h3 i j a hi hj]
theorem u8extra : U8Extra Tryz.prog Tryz.lays260_ren := ⟨by kernel_rfl, by kernel_rfl, by kernel_rfl, by kernel_rfl, by kernel_rfl, by kernel_rfl, by kernel_rfl⟩
theorem accept_eq : (Rows.laid_unicode_utf8_acceptRanges : DataW Unit) = Lib.acceptData := by kernel_rfl
theorem tabs_of {W : World} {l : List (String × DataW Unit)} (h : laidMet Tryz.prog l W) (h1 : ("unicode/utf8.first", Rows.laid_unicode_utf8_first) ∈ l) (h2 : ("unicode/utf8.acceptRanges", (Rows.laid_unicode_utf8_acceptRanges : DataW Unit)) ∈ l) :
    Lib.Utf8Tabs 19 20 W := by
  have r1 := Go.Lib.laidMet.reads h h1
  have r2 := Go.Lib.laidMet.reads h h2
  rw [show Rows.laid_unicode_utf8_first = Lib.firstData from Pinned.utf8First_eq] at r1
  rw [accept_eq] at r2
  exact utf8Tabs_of_readsT (U8Types.of260 Tryz.lays260) u8extra r1 r2
def lst9 : List (String × List UInt8 × Nat) := [("vellum/api.ErrUtf8", [118, 101, 108, 108, 117, 109, 58, 32, 117, 116, 102, 45, 56], 3), ("vellum/api.ErrKind", [118, 101, 108, 108, 117, 109, 58, 32, 107, 105, 110, 100], 7), ("vellum/api.ErrKey", [118, 101, 108, 108, 117, 109, 58, 32, 107, 101, 121], 8), ("vellum/api.ErrNull", [118, 101, 108, 108, 117, 109, 58, 32, 110, 117, 108, 108], 9), ("vellum/api.ErrAttrs", [118, 101, 108, 108, 117, 109, 58, 32, 97, 116, 116, 114, 105, 98, 117, 116, 101, 115], 10), ("vellum/api.ErrOp", [118, 101, 108, 108, 117, 109, 58, 32, 111, 112, 101, 114, 97, 116, 105, 111, 110], 1), ("vellum/api.ErrLimit", [118, 101, 108, 108, 117, 109, 58, 32, 108, 105, 109, 105, 116], 11), ("vellum/api.ErrLong", [118, 101, 108, 108, 117, 109, 58, 32, 108, 111, 110, 103], 0), ("vellum/api.ErrRange", [118, 101, 108, 108, 117, 109, 58, 32, 114, 97, 110, 103, 101], 2)]
theorem lst9_ok : ∀ x ∈ lst9, Tryz.prog.globalNamed x.1 = some x.2.2 ∧ (Tryz.prog.globals[x.2.2]?).map (·.type) = some 28 := by
  intro x hx
  simp only [lst9, List.mem_cons, List.mem_nil_iff, or_false] at hx
  rcases hx with rfl | rfl | rfl | rfl | rfl | rfl | rfl | rfl | rfl <;> exact ⟨by kernel_rfl, by kernel_rfl⟩
theorem env9_of {W : World} (h : laidMet Tryz.prog (("unicode/utf8.acceptRanges", Rows.laid_unicode_utf8_acceptRanges) :: (lst9.map sent ++ [("unicode/utf8.first", Rows.laid_unicode_utf8_first)])) W) : ∃ ea, Env ea W := by
  have ht := tabs_of h (by simp) (by simp)
  obtain ⟨ps, ⟨g0, t0, cs0, f0, p0, q0, hg0, ht0, hv0, hd0, hq, e0⟩, hnd, hrows⟩ := h
  subst e0
  obtain ⟨ads, h1, h2, h3⟩ := sents lst9 _ q0 hq (List.Nodup.sublist (List.sublist_append_right _ _) hnd) (fun b off hm => hrows b off (List.mem_append_right _ hm)) lst9_ok
  have hl : ads.length = 9 := h1
  match ads, hl with
  | [a1, a5, a6, a7, a8, a9, a10, a11, a12], _ =>
    refine ⟨fun i => match i with | 1 => a1 | 5 => a5 | 6 => a6 | 7 => a7 | 8 => a8 | 9 => a9 | 10 => a10 | 11 => a11 | 12 => a12 | _ => default, ?_⟩
    exact {
      tabs := ht
      e1 := by (have k := (h2 0 _ a1 rfl rfl).1; rw [show (1 : Int) = ((1 : Nat) : Int) from rfl, errOf_V _ 1 (by omega)]; exact k)
      e5 := by (have k := (h2 1 _ a5 rfl rfl).1; rw [show (5 : Int) = ((5 : Nat) : Int) from rfl, errOf_V _ 5 (by omega)]; exact k)
      e6 := by (have k := (h2 2 _ a6 rfl rfl).1; rw [show (6 : Int) = ((6 : Nat) : Int) from rfl, errOf_V _ 6 (by omega)]; exact k)
      e7 := by (have k := (h2 3 _ a7 rfl rfl).1; rw [show (7 : Int) = ((7 : Nat) : Int) from rfl, errOf_V _ 7 (by omega)]; exact k)
      e8 := by (have k := (h2 4 _ a8 rfl rfl).1; rw [show (8 : Int) = ((8 : Nat) : Int) from rfl, errOf_V _ 8 (by omega)]; exact k)
      e9 := by (have k := (h2 5 _ a9 rfl rfl).1; rw [show (9 : Int) = ((9 : Nat) : Int) from rfl, errOf_V _ 9 (by omega)]; exact k)
      e10 := by (have k := (h2 6 _ a10 rfl rfl).1; rw [show (10 : Int) = ((10 : Nat) : Int) from rfl, errOf_V _ 10 (by omega)]; exact k)
      e11 := by (have k := (h2 7 _ a11 rfl rfl).1; rw [show (11 : Int) = ((11 : Nat) : Int) from rfl, errOf_V _ 11 (by omega)]; exact k)
      e12 := by (have k := (h2 8 _ a12 rfl rfl).1; rw [show (12 : Int) = ((12 : Nat) : Int) from rfl, errOf_V _ 12 (by omega)]; exact k) }

def lst19 : List (String × List UInt8 × Nat) := [("vellum/api.ErrUtf8", [118, 101, 108, 108, 117, 109, 58, 32, 117, 116, 102, 45, 56], 3), ("vellum/api.ErrJson", [118, 101, 108, 108, 117, 109, 58, 32, 106, 115, 111, 110], 4), ("vellum/api.ErrNest", [118, 101, 108, 108, 117, 109, 58, 32, 110, 101, 115, 116, 105, 110, 103], 5), ("vellum/api.ErrNumber", [118, 101, 108, 108, 117, 109, 58, 32, 110, 117, 109, 98, 101, 114], 6), ("vellum/api.ErrKind", [118, 101, 108, 108, 117, 109, 58, 32, 107, 105, 110, 100], 7), ("vellum/api.ErrKey", [118, 101, 108, 108, 117, 109, 58, 32, 107, 101, 121], 8), ("vellum/api.ErrNull", [118, 101, 108, 108, 117, 109, 58, 32, 110, 117, 108, 108], 9), ("vellum/api.ErrAttrs", [118, 101, 108, 108, 117, 109, 58, 32, 97, 116, 116, 114, 105, 98, 117, 116, 101, 115], 10), ("vellum/api.ErrOp", [118, 101, 108, 108, 117, 109, 58, 32, 111, 112, 101, 114, 97, 116, 105, 111, 110], 1), ("vellum/api.ErrLimit", [118, 101, 108, 108, 117, 109, 58, 32, 108, 105, 109, 105, 116], 11), ("vellum/api.ErrLong", [118, 101, 108, 108, 117, 109, 58, 32, 108, 111, 110, 103], 0), ("vellum/api.ErrRange", [118, 101, 108, 108, 117, 109, 58, 32, 114, 97, 110, 103, 101], 2), ("vellum/api.ErrSchema", [118, 101, 108, 108, 117, 109, 58, 32, 115, 99, 104, 101, 109, 97], 12), ("vellum/api.ErrEnd", [118, 101, 108, 108, 117, 109, 58, 32, 101, 110, 100], 13), ("vellum/api.ErrEmpty", [118, 101, 108, 108, 117, 109, 58, 32, 101, 109, 112, 116, 121], 14), ("vellum/api.ErrMark", [118, 101, 108, 108, 117, 109, 58, 32, 109, 97, 114, 107], 15), ("vellum/api.ErrReplica", [118, 101, 108, 108, 117, 109, 58, 32, 114, 101, 112, 108, 105, 99, 97], 16), ("vellum/api.ErrBytes", [118, 101, 108, 108, 117, 109, 58, 32, 98, 121, 116, 101, 115], 17), ("vellum/api.ErrCommand", [118, 101, 108, 108, 117, 109, 58, 32, 99, 111, 109, 109, 97, 110, 100], 18)]
theorem lst19_ok : ∀ x ∈ lst19, Tryz.prog.globalNamed x.1 = some x.2.2 ∧ (Tryz.prog.globals[x.2.2]?).map (·.type) = some 28 := by
  intro x hx
  simp only [lst19, List.mem_cons, List.mem_nil_iff, or_false] at hx
  rcases hx with rfl | rfl | rfl | rfl | rfl | rfl | rfl | rfl | rfl | rfl | rfl | rfl | rfl | rfl | rfl | rfl | rfl | rfl | rfl <;> exact ⟨by kernel_rfl, by kernel_rfl⟩
theorem env19_of {W : World} (h : laidMet Tryz.prog (("unicode/utf8.acceptRanges", Rows.laid_unicode_utf8_acceptRanges) :: (lst19.map sent ++ [("unicode/utf8.first", Rows.laid_unicode_utf8_first)])) W) : ∃ ea, Env19 ea W := by
  have ht := tabs_of h (by simp) (by simp)
  obtain ⟨ps, ⟨g0, t0, cs0, f0, p0, q0, hg0, ht0, hv0, hd0, hq, e0⟩, hnd, hrows⟩ := h
  subst e0
  obtain ⟨ads, h1, h2, h3⟩ := sents lst19 _ q0 hq (List.Nodup.sublist (List.sublist_append_right _ _) hnd) (fun b off hm => hrows b off (List.mem_append_right _ hm)) lst19_ok
  have hl : ads.length = 19 := h1
  have key : ∀ i : Nat, 1 ≤ i → i ≤ 19 → ads[i - 1]? = some (ads.getD (i - 1) default) := by
    intro i k1 k2
    rw [List.getD, List.getElem?_eq_getElem (by omega)]
    rfl
  have cell : ∀ (i : Nat) (x : String × List UInt8 × Nat), 1 ≤ i → i ≤ 19 → lst19[i - 1]? = some x → W.cell? ⟨x.2.2, 0, none⟩ = some (errOf (fun i => ads.getD (i - 1) default) (i : Int)) := by
    intro i x k1 k2 hx
    rw [errOf_V _ i k1]
    exact (h2 (i - 1) x _ hx (key i k1 k2)).1
  refine ⟨fun i => ads.getD (i - 1) default, ?_⟩
  exact {
    env := {
      tabs := ht
      e1 := cell 1 _ (by omega) (by omega) rfl
      e5 := cell 5 _ (by omega) (by omega) rfl
      e6 := cell 6 _ (by omega) (by omega) rfl
      e7 := cell 7 _ (by omega) (by omega) rfl
      e8 := cell 8 _ (by omega) (by omega) rfl
      e9 := cell 9 _ (by omega) (by omega) rfl
      e10 := cell 10 _ (by omega) (by omega) rfl
      e11 := cell 11 _ (by omega) (by omega) rfl
      e12 := cell 12 _ (by omega) (by omega) rfl }
    e2 := cell 2 _ (by omega) (by omega) rfl
    e3 := cell 3 _ (by omega) (by omega) rfl
    e4 := cell 4 _ (by omega) (by omega) rfl
    e13 := cell 13 _ (by omega) (by omega) rfl
    e14 := cell 14 _ (by omega) (by omega) rfl
    e15 := cell 15 _ (by omega) (by omega) rfl
    e16 := cell 16 _ (by omega) (by omega) rfl
    e17 := cell 17 _ (by omega) (by omega) rfl
    e18 := cell 18 _ (by omega) (by omega) rfl
    e19 := cell 19 _ (by omega) (by omega) rfl
    apart := fun i j i1 i2 j1 j2 e => by
      have hi := key i i1 i2
      have hj := key j j1 j2
      have e' : ads.getD (i - 1) default = ads.getD (j - 1) default := e
      rw [← e'] at hj
      have := h3 _ _ _ hi hj
      omega
    block := fun i i1 i2 => by
      have hx : i - 1 < lst19.length := by rw [← h1]; omega
      exact (h2 (i - 1) lst19[i - 1] _ (List.getElem?_eq_getElem hx) (key i i1 i2)).2.1 }
/-- A world for the witness: the settled one, the tables and the errors ads their initialisers lay them. -/
noncomputable def laidWorld19 (os : Os) : World :=
  let N := (World.settled Tryz.prog os).heap.size
  let w0 := World.holding Tryz.prog os ⟨#[.cells #[.string ⟨#[118, 101, 108, 108, 117, 109, 58, 32, 117, 116, 102, 45, 56]⟩] 263, .cells #[.string ⟨#[118, 101, 108, 108, 117, 109, 58, 32, 106, 115, 111, 110]⟩] 263, .cells #[.string ⟨#[118, 101, 108, 108, 117, 109, 58, 32, 110, 101, 115, 116, 105, 110, 103]⟩] 263, .cells #[.string ⟨#[118, 101, 108, 108, 117, 109, 58, 32, 110, 117, 109, 98, 101, 114]⟩] 263, .cells #[.string ⟨#[118, 101, 108, 108, 117, 109, 58, 32, 107, 105, 110, 100]⟩] 263, .cells #[.string ⟨#[118, 101, 108, 108, 117, 109, 58, 32, 107, 101, 121]⟩] 263, .cells #[.string ⟨#[118, 101, 108, 108, 117, 109, 58, 32, 110, 117, 108, 108]⟩] 263, .cells #[.string ⟨#[118, 101, 108, 108, 117, 109, 58, 32, 97, 116, 116, 114, 105, 98, 117, 116, 101, 115]⟩] 263, .cells #[.string ⟨#[118, 101, 108, 108, 117, 109, 58, 32, 111, 112, 101, 114, 97, 116, 105, 111, 110]⟩] 263, .cells #[.string ⟨#[118, 101, 108, 108, 117, 109, 58, 32, 108, 105, 109, 105, 116]⟩] 263, .cells #[.string ⟨#[118, 101, 108, 108, 117, 109, 58, 32, 108, 111, 110, 103]⟩] 263, .cells #[.string ⟨#[118, 101, 108, 108, 117, 109, 58, 32, 114, 97, 110, 103, 101]⟩] 263, .cells #[.string ⟨#[118, 101, 108, 108, 117, 109, 58, 32, 115, 99, 104, 101, 109, 97]⟩] 263, .cells #[.string ⟨#[118, 101, 108, 108, 117, 109, 58, 32, 101, 110, 100]⟩] 263, .cells #[.string ⟨#[118, 101, 108, 108, 117, 109, 58, 32, 101, 109, 112, 116, 121]⟩] 263, .cells #[.string ⟨#[118, 101, 108, 108, 117, 109, 58, 32, 109, 97, 114, 107]⟩] 263, .cells #[.string ⟨#[118, 101, 108, 108, 117, 109, 58, 32, 114, 101, 112, 108, 105, 99, 97]⟩] 263, .cells #[.string ⟨#[118, 101, 108, 108, 117, 109, 58, 32, 98, 121, 116, 101, 115]⟩] 263, .cells #[.string ⟨#[118, 101, 108, 108, 117, 109, 58, 32, 99, 111, 109, 109, 97, 110, 100]⟩] 263], #[], []⟩
  let put (h : Array Obj) (g : Nat) (cs : Array Value) : Array Obj := h.modify g fun
    | .cells _ t frozen => .cells cs t frozen
    | o => o
  let h1 := put w0.heap 19 (Lib.firstTab.map fun z => Value.int .u8 z).toArray
  let h2 := put h1 20 ((List.range 16).flatMap fun i => [Value.int .u8 (Lib.accLo i), Value.int .u8 (Lib.accHi i)]).toArray
  let k1 := put h2 3 #[.iface 245 (.pointer (some ⟨N + 0, 0, none⟩))]
  let k2 := put k1 4 #[.iface 245 (.pointer (some ⟨N + 1, 0, none⟩))]
  let k3 := put k2 5 #[.iface 245 (.pointer (some ⟨N + 2, 0, none⟩))]
  let k4 := put k3 6 #[.iface 245 (.pointer (some ⟨N + 3, 0, none⟩))]
  let k5 := put k4 7 #[.iface 245 (.pointer (some ⟨N + 4, 0, none⟩))]
  let k6 := put k5 8 #[.iface 245 (.pointer (some ⟨N + 5, 0, none⟩))]
  let k7 := put k6 9 #[.iface 245 (.pointer (some ⟨N + 6, 0, none⟩))]
  let k8 := put k7 10 #[.iface 245 (.pointer (some ⟨N + 7, 0, none⟩))]
  let k9 := put k8 1 #[.iface 245 (.pointer (some ⟨N + 8, 0, none⟩))]
  let k10 := put k9 11 #[.iface 245 (.pointer (some ⟨N + 9, 0, none⟩))]
  let k11 := put k10 0 #[.iface 245 (.pointer (some ⟨N + 10, 0, none⟩))]
  let k12 := put k11 2 #[.iface 245 (.pointer (some ⟨N + 11, 0, none⟩))]
  let k13 := put k12 12 #[.iface 245 (.pointer (some ⟨N + 12, 0, none⟩))]
  let k14 := put k13 13 #[.iface 245 (.pointer (some ⟨N + 13, 0, none⟩))]
  let k15 := put k14 14 #[.iface 245 (.pointer (some ⟨N + 14, 0, none⟩))]
  let k16 := put k15 15 #[.iface 245 (.pointer (some ⟨N + 15, 0, none⟩))]
  let k17 := put k16 16 #[.iface 245 (.pointer (some ⟨N + 16, 0, none⟩))]
  let k18 := put k17 17 #[.iface 245 (.pointer (some ⟨N + 17, 0, none⟩))]
  let k19 := put k18 18 #[.iface 245 (.pointer (some ⟨N + 18, 0, none⟩))]
  { w0 with heap := k19 }

/-- A world for the witness: the settled one, the tables and the errors ads their initialisers lay them. -/
noncomputable def laidWorld9 (os : Os) : World :=
  let N := (World.settled Tryz.prog os).heap.size
  let w0 := World.holding Tryz.prog os ⟨#[.cells #[.string ⟨#[118, 101, 108, 108, 117, 109, 58, 32, 117, 116, 102, 45, 56]⟩] 263, .cells #[.string ⟨#[118, 101, 108, 108, 117, 109, 58, 32, 107, 105, 110, 100]⟩] 263, .cells #[.string ⟨#[118, 101, 108, 108, 117, 109, 58, 32, 107, 101, 121]⟩] 263, .cells #[.string ⟨#[118, 101, 108, 108, 117, 109, 58, 32, 110, 117, 108, 108]⟩] 263, .cells #[.string ⟨#[118, 101, 108, 108, 117, 109, 58, 32, 97, 116, 116, 114, 105, 98, 117, 116, 101, 115]⟩] 263, .cells #[.string ⟨#[118, 101, 108, 108, 117, 109, 58, 32, 111, 112, 101, 114, 97, 116, 105, 111, 110]⟩] 263, .cells #[.string ⟨#[118, 101, 108, 108, 117, 109, 58, 32, 108, 105, 109, 105, 116]⟩] 263, .cells #[.string ⟨#[118, 101, 108, 108, 117, 109, 58, 32, 108, 111, 110, 103]⟩] 263, .cells #[.string ⟨#[118, 101, 108, 108, 117, 109, 58, 32, 114, 97, 110, 103, 101]⟩] 263], #[], []⟩
  let put (h : Array Obj) (g : Nat) (cs : Array Value) : Array Obj := h.modify g fun
    | .cells _ t frozen => .cells cs t frozen
    | o => o
  let h1 := put w0.heap 19 (Lib.firstTab.map fun z => Value.int .u8 z).toArray
  let h2 := put h1 20 ((List.range 16).flatMap fun i => [Value.int .u8 (Lib.accLo i), Value.int .u8 (Lib.accHi i)]).toArray
  let k1 := put h2 3 #[.iface 245 (.pointer (some ⟨N + 0, 0, none⟩))]
  let k5 := put k1 7 #[.iface 245 (.pointer (some ⟨N + 1, 0, none⟩))]
  let k6 := put k5 8 #[.iface 245 (.pointer (some ⟨N + 2, 0, none⟩))]
  let k7 := put k6 9 #[.iface 245 (.pointer (some ⟨N + 3, 0, none⟩))]
  let k8 := put k7 10 #[.iface 245 (.pointer (some ⟨N + 4, 0, none⟩))]
  let k9 := put k8 1 #[.iface 245 (.pointer (some ⟨N + 5, 0, none⟩))]
  let k10 := put k9 11 #[.iface 245 (.pointer (some ⟨N + 6, 0, none⟩))]
  let k11 := put k10 0 #[.iface 245 (.pointer (some ⟨N + 7, 0, none⟩))]
  let k12 := put k11 2 #[.iface 245 (.pointer (some ⟨N + 8, 0, none⟩))]
  { w0 with heap := k12 }
end Ve
