/- What the rows' lists of package-level variables give: the errors and UTF-8's tables; a world for the witness. -/
import Derived.Test.YtmdakddgeagnmaaDoorRows
import Derived.Test.YtmdakddgeagnmaaDoorN1
import Derived.LaidLaws
import Derived.Lib.LaidU8T
import Derived.PinnedBridge
import Derived.MakeChecks
import Derived.ProofKit
import Derived.OpenShut
import Derived.Deep.DeepHandedRow
import Derived.Deep.DeepWitnessRowRef
set_option linter.all false
namespace Ve
open Go Go.RowKit Go.Proofs Go.ChangeShapes Go.WideShapes Go.Proofs.YtmdakddgeagnmaaDoor

theorem row_errp (u : TypeId) (h : Tryd.prog.typeName? 3 u = some "*errors.errorString") : u = 157 :=
  typeName_ptr_named (nm := "errors.errorString") (by rw [show "*" ++ "errors.errorString" = "*errors.errorString" by decide]; kernel_rfl) (by kernel_rfl) (by decide) u (by rw [show "*" ++ "errors.errorString" = "*errors.errorString" by decide]; exact h)
def sent (x : String × List UInt8 × Nat) : String × DataW Unit := (x.1, .iface "*errors.errorString" (.ptr (.agg [.lit (.string x.2.1)])))
theorem under_es : ∃ f : Field, Tryd.prog.underlying 176 = some (.struct #[f]) ∧ f.type = 9 ∧ f.offset = 0 := ⟨_, Tryd.underlying176, rfl, rfl⟩
theorem under_errp' : Tryd.prog.underlying 157 = some (.pointer 176) := by kernel_rfl
theorem cells_es : Tryd.prog.cellsOf 176 = 1 := by kernel_rfl
theorem cells_str : Tryd.prog.cellsOf 9 = 1 := by kernel_rfl
set_option maxRecDepth 100000 in
/-- Listed sentinels: each variable holds a pointer of its own. -/
theorem sents {W : World} : ∀ (L : List (String × List UInt8 × Nat)) (rest : List (String × DataW Unit)) (ps : List MemPlace), DataW.LaidVars Tryd.prog W (L.map sent ++ rest) ps → ps.Nodup →
    (∀ b off, MemPlace.cell b off ∈ ps → (∃ c t, W.heap[b]? = some (.cells c t (0, 0))) ∧ ∀ u v, W.cell? ⟨b, off, none⟩ = some (.iface u v) → Value.okWide Tryd.prog W .any 0 u v) →
    (∀ x ∈ L, Tryd.prog.globalNamed x.1 = some x.2.2 ∧ (Tryd.prog.globals[x.2.2]?).map (·.type) = some 28) →
    ∃ ads : List Addr, ads.length = L.length ∧ (∀ (i : Nat) x a, L[i]? = some x → ads[i]? = some a → W.cell? ⟨x.2.2, 0, none⟩ = some (.iface 157 (.pointer (some a))) ∧ (∃ c t, W.heap[a.block]? = some (.cells c t (0, 0))) ∧ MemPlace.cell a.block a.off ∈ ps) ∧
      (∀ (i j : Nat) a, ads[i]? = some a → ads[j]? = some a → i = j)
  | [], rest, ps, _, _, _, _ => ⟨[], rfl, fun i x a h => by simp at h, fun i j a h => by simp at h⟩
  | x :: L, rest, ps, h, hnd, hrows, hg => by
    obtain ⟨g0, t0, cs0, f0, p0, q0, hg0, ht0, hv0, hd0, hq, e0⟩ := h
    obtain ⟨hx1, hx2⟩ := hg x (by simp)
    have e1 : g0 = x.2.2 := Option.some.inj (hg0.symm.trans hx1)
    subst e1
    have e2 : t0 = 28 := (Option.some.inj (hx2.symm.trans ht0)).symm
    subst e2
    subst e0
    obtain ⟨l0⟩ := cs0
    have hsz : 0 < (Array.mk l0).size ∨ l0 = [] := by cases l0 <;> simp
    have ok0 : ∀ u v, l0 = [.iface u v] → Value.okWide Tryd.prog W .any 0 u v := fun u v e => by
      subst e
      exact (hrows x.2.2 0 (by simp [MemPlace.row])).2 u v (by simpa using World.var?_cell hg0 hv0 0)
    obtain ⟨fld, u1, u2, u3⟩ := under_es
    obtain ⟨a0, s0, rfl, hc0, hs0, hz0, rfl⟩ := errorString_of_trod methods_error row_errp under_errp' u1 u2 u3 Tryd.underlying9 cells_es cells_str hd0 ok0
    have hnd2 : q0.Nodup := List.Nodup.sublist (List.sublist_append_right _ _) hnd
    obtain ⟨ads, h1, h2, h3⟩ := sents L rest q0 hq hnd2 (fun b off hm => hrows b off (List.mem_append_right _ hm)) (fun y hy => hg y (by simp [hy]))
    have hcell : W.cell? ⟨x.2.2, 0, none⟩ = some (.iface 157 (.pointer (some a0))) := by simpa using World.var?_cell hg0 hv0 0
    have ha0 : MemPlace.cell a0.block a0.off ∉ q0 := by
      intro hm
      simp only [List.append_assoc] at hnd
      have hnd3 := (List.nodup_append.1 hnd).2.1
      have := (List.nodup_append.1 hnd3).2.2 (MemPlace.cell a0.block a0.off) (by simp [MemPlace.row]) _ hm
      exact this rfl
    refine ⟨a0 :: ads, by simp [h1], ?_, ?_⟩
    · intro i y a hy ha
      cases i with
      | zero =>
        simp at hy ha
        subst hy; subst ha
        exact ⟨hcell, (hrows a0.block a0.off (by simp [MemPlace.row])).1, by simp [MemPlace.row]⟩
      | succ i =>
        simp at hy ha
        obtain ⟨k1, k2, k3⟩ := h2 i y a hy ha
        exact ⟨k1, k2, List.mem_append_right _ k3⟩
    · intro i j a hi hj
      have far : ∀ k : Nat, ads[k]? = some a0 → False := by
        intro k hk
        have hlt : k < L.length := by rw [← h1]; exact (List.getElem?_eq_some_iff.1 hk).1
        exact ha0 (h2 k L[k] a0 (List.getElem?_eq_getElem hlt) hk).2.2
      cases i with
      | zero =>
        cases j with
        | zero => rfl
        | succ j =>
          simp at hi hj
          subst hi
          exact absurd hj (far j)
      | succ i =>
        cases j with
        | zero =>
          simp at hi hj
          subst hj
          exact absurd hi (far i)
        | succ j =>
          simp at hi hj
          rw [h3 i j a hi hj]
theorem u8extra : U8Extra Tryd.prog Tryd.lays260_ren := ⟨by kernel_rfl, by kernel_rfl, by kernel_rfl, by kernel_rfl, by kernel_rfl, by kernel_rfl, by kernel_rfl⟩
theorem accept_eq : (Rows.laid_unicode_utf8_acceptRanges : DataW Unit) = Lib.acceptData := by kernel_rfl
theorem tabs_of {W : World} {l : List (String × DataW Unit)} (h : laidMet Tryd.prog l W) (h1 : ("unicode/utf8.first", Rows.laid_unicode_utf8_first) ∈ l) (h2 : ("unicode/utf8.acceptRanges", (Rows.laid_unicode_utf8_acceptRanges : DataW Unit)) ∈ l) :
    Lib.Utf8Tabs 19 20 W := by
  have r1 := Go.Lib.laidMet.reads h h1
  have r2 := Go.Lib.laidMet.reads h h2
  rw [show Rows.laid_unicode_utf8_first = Lib.firstData from Pinned.utf8First_eq] at r1
  rw [accept_eq] at r2
  exact utf8Tabs_of_readsT (U8Types.of260 Tryd.lays260) u8extra r1 r2
def lst9 : List (String × List UInt8 × Nat) := [("vellum/api.ErrUtf8", [118, 101, 108, 108, 117, 109, 58, 32, 117, 116, 102, 45, 56], 2), ("vellum/api.ErrKind", [118, 101, 108, 108, 117, 109, 58, 32, 107, 105, 110, 100], 6), ("vellum/api.ErrKey", [118, 101, 108, 108, 117, 109, 58, 32, 107, 101, 121], 7), ("vellum/api.ErrNull", [118, 101, 108, 108, 117, 109, 58, 32, 110, 117, 108, 108], 8), ("vellum/api.ErrAttrs", [118, 101, 108, 108, 117, 109, 58, 32, 97, 116, 116, 114, 105, 98, 117, 116, 101, 115], 9), ("vellum/api.ErrOp", [118, 101, 108, 108, 117, 109, 58, 32, 111, 112, 101, 114, 97, 116, 105, 111, 110], 10), ("vellum/api.ErrLimit", [118, 101, 108, 108, 117, 109, 58, 32, 108, 105, 109, 105, 116], 11), ("vellum/api.ErrLong", [118, 101, 108, 108, 117, 109, 58, 32, 108, 111, 110, 103], 1), ("vellum/api.ErrRange", [118, 101, 108, 108, 117, 109, 58, 32, 114, 97, 110, 103, 101], 0)]
theorem lst9_ok : ∀ x ∈ lst9, Tryd.prog.globalNamed x.1 = some x.2.2 ∧ (Tryd.prog.globals[x.2.2]?).map (·.type) = some 28 := by
  intro x hx
  simp only [lst9, List.mem_cons, List.mem_nil_iff, or_false] at hx
  rcases hx with rfl | rfl | rfl | rfl | rfl | rfl | rfl | rfl | rfl <;> exact ⟨by kernel_rfl, by kernel_rfl⟩
theorem env9_of {W : World} (h : laidMet Tryd.prog (("unicode/utf8.acceptRanges", Rows.laid_unicode_utf8_acceptRanges) :: (lst9.map sent ++ [("unicode/utf8.first", Rows.laid_unicode_utf8_first)])) W) : ∃ ea, Env ea W := by
  have ht := tabs_of h (by simp) (by simp)
  obtain ⟨ps, ⟨g0, t0, cs0, f0, p0, q0, hg0, ht0, hv0, hd0, hq, e0⟩, hnd, hrows⟩ := h
  subst e0
  obtain ⟨ads, h1, h2, h3⟩ := sents lst9 _ q0 hq (List.Nodup.sublist (List.sublist_append_right _ _) hnd) (fun b off hm => hrows b off (List.mem_append_right _ hm)) lst9_ok
  have hl : ads.length = 9 := h1
  match ads, hl with
  | [a1, a5, a6, a7, a8, a9, a10, a11, a12], _ =>
    refine ⟨fun i => match i with | 1 => a1 | 5 => a5 | 6 => a6 | 7 => a7 | 8 => a8 | 9 => a9 | 10 => a10 | 11 => a11 | 12 => a12 | _ => default, ?_⟩
    exact {
      tabs := ht
      e1 := by (have k := (h2 0 _ a1 rfl rfl).1; rw [show (1 : Int) = ((1 : Nat) : Int) from rfl, errOf_V _ 1 (by omega)]; exact k)
      e5 := by (have k := (h2 1 _ a5 rfl rfl).1; rw [show (5 : Int) = ((5 : Nat) : Int) from rfl, errOf_V _ 5 (by omega)]; exact k)
      e6 := by (have k := (h2 2 _ a6 rfl rfl).1; rw [show (6 : Int) = ((6 : Nat) : Int) from rfl, errOf_V _ 6 (by omega)]; exact k)
      e7 := by (have k := (h2 3 _ a7 rfl rfl).1; rw [show (7 : Int) = ((7 : Nat) : Int) from rfl, errOf_V _ 7 (by omega)]; exact k)
      e8 := by (have k := (h2 4 _ a8 rfl rfl).1; rw [show (8 : Int) = ((8 : Nat) : Int) from rfl, errOf_V _ 8 (by omega)]; exact k)
      e9 := by (have k := (h2 5 _ a9 rfl rfl).1; rw [show (9 : Int) = ((9 : Nat) : Int) from rfl, errOf_V _ 9 (by omega)]; exact k)
      e10 := by (have k := (h2 6 _ a10 rfl rfl).1; rw [show (10 : Int) = ((10 : Nat) : Int) from rfl, errOf_V _ 10 (by omega)]; exact k)
      e11 := by (have k := (h2 7 _ a11 rfl rfl).1; rw [show (11 : Int) = ((11 : Nat) : Int) from rfl, errOf_V _ 11 (by omega)]; exact k)
      e12 := by (have k := (h2 8 _ a12 rfl rfl).1; rw [show (12 : Int) = ((12 : Nat) : Int) from rfl, errOf_V _ 12 (by omega)]; exact k) }
def lst19 : List (String × List UInt8 × Nat) := [("vellum/api.ErrUtf8", [118, 101, 108, 108, 117, 109, 58, 32, 117, 116, 102, 45, 56], 2), ("vellum/api.ErrJson", [118, 101, 108, 108, 117, 109, 58, 32, 106, 115, 111, 110], 3), ("vellum/api.ErrNest", [118, 101, 108, 108, 117, 109, 58, 32, 110, 101, 115, 116, 105, 110, 103], 4), ("vellum/api.ErrNumber", [118, 101, 108, 108, 117, 109, 58, 32, 110, 117, 109, 98, 101, 114], 5), ("vellum/api.ErrKind", [118, 101, 108, 108, 117, 109, 58, 32, 107, 105, 110, 100], 6), ("vellum/api.ErrKey", [118, 101, 108, 108, 117, 109, 58, 32, 107, 101, 121], 7), ("vellum/api.ErrNull", [118, 101, 108, 108, 117, 109, 58, 32, 110, 117, 108, 108], 8), ("vellum/api.ErrAttrs", [118, 101, 108, 108, 117, 109, 58, 32, 97, 116, 116, 114, 105, 98, 117, 116, 101, 115], 9), ("vellum/api.ErrOp", [118, 101, 108, 108, 117, 109, 58, 32, 111, 112, 101, 114, 97, 116, 105, 111, 110], 10), ("vellum/api.ErrLimit", [118, 101, 108, 108, 117, 109, 58, 32, 108, 105, 109, 105, 116], 11), ("vellum/api.ErrLong", [118, 101, 108, 108, 117, 109, 58, 32, 108, 111, 110, 103], 1), ("vellum/api.ErrRange", [118, 101, 108, 108, 117, 109, 58, 32, 114, 97, 110, 103, 101], 0), ("vellum/api.ErrSchema", [118, 101, 108, 108, 117, 109, 58, 32, 115, 99, 104, 101, 109, 97], 12), ("vellum/api.ErrEnd", [118, 101, 108, 108, 117, 109, 58, 32, 101, 110, 100], 13), ("vellum/api.ErrEmpty", [118, 101, 108, 108, 117, 109, 58, 32, 101, 109, 112, 116, 121], 14), ("vellum/api.ErrMark", [118, 101, 108, 108, 117, 109, 58, 32, 109, 97, 114, 107], 15), ("vellum/api.ErrReplica", [118, 101, 108, 108, 117, 109, 58, 32, 114, 101, 112, 108, 105, 99, 97], 16), ("vellum/api.ErrBytes", [118, 101, 108, 108, 117, 109, 58, 32, 98, 121, 116, 101, 115], 17), ("vellum/api.ErrCommand", [118, 101, 108, 108, 117, 109, 58, 32, 99, 111, 109, 109, 97, 110, 100], 18)]
theorem lst19_ok : ∀ x ∈ lst19, Tryd.prog.globalNamed x.1 = some x.2.2 ∧ (Tryd.prog.globals[x.2.2]?).map (·.type) = some 28 := by
  intro x hx
  simp only [lst19, List.mem_cons, List.mem_nil_iff, or_false] at hx
  rcases hx with rfl | rfl | rfl | rfl | rfl | rfl | rfl | rfl | rfl | rfl | rfl | rfl | rfl | rfl | rfl | rfl | rfl | rfl | rfl <;> exact ⟨by kernel_rfl, by kernel_rfl⟩
theorem env19_of {W : World} (h : laidMet Tryd.prog (("unicode/utf8.acceptRanges", Rows.laid_unicode_utf8_acceptRanges) :: (lst19.map sent ++ [("unicode/utf8.first", Rows.laid_unicode_utf8_first)])) W) : ∃ ea, Env19 ea W := by
  have ht := tabs_of h (by simp) (by simp)
  obtain ⟨ps, ⟨g0, t0, cs0, f0, p0, q0, hg0, ht0, hv0, hd0, hq, e0⟩, hnd, hrows⟩ := h
  subst e0
  obtain ⟨ads, h1, h2, h3⟩ := sents lst19 _ q0 hq (List.Nodup.sublist (List.sublist_append_right _ _) hnd) (fun b off hm => hrows b off (List.mem_append_right _ hm)) lst19_ok
  have hl : ads.length = 19 := h1
  have key : ∀ i : Nat, 1 ≤ i → i ≤ 19 → ads[i - 1]? = some (ads.getD (i - 1) default) := by
    intro i k1 k2
    rw [List.getD, List.getElem?_eq_getElem (by omega)]
    rfl
  have cell : ∀ (i : Nat) (x : String × List UInt8 × Nat), 1 ≤ i → i ≤ 19 → lst19[i - 1]? = some x → W.cell? ⟨x.2.2, 0, none⟩ = some (errOf (fun i => ads.getD (i - 1) default) (i : Int)) := by
    intro i x k1 k2 hx
    rw [errOf_V _ i k1]
    exact (h2 (i - 1) x _ hx (key i k1 k2)).1
  refine ⟨fun i => ads.getD (i - 1) default, ?_⟩
  exact {
    env := {
      tabs := ht
      e1 := cell 1 _ (by omega) (by omega) rfl
      e5 := cell 5 _ (by omega) (by omega) rfl
      e6 := cell 6 _ (by omega) (by omega) rfl
      e7 := cell 7 _ (by omega) (by omega) rfl
      e8 := cell 8 _ (by omega) (by omega) rfl
      e9 := cell 9 _ (by omega) (by omega) rfl
      e10 := cell 10 _ (by omega) (by omega) rfl
      e11 := cell 11 _ (by omega) (by omega) rfl
      e12 := cell 12 _ (by omega) (by omega) rfl }
    e2 := cell 2 _ (by omega) (by omega) rfl
    e3 := cell 3 _ (by omega) (by omega) rfl
    e4 := cell 4 _ (by omega) (by omega) rfl
    e13 := cell 13 _ (by omega) (by omega) rfl
    e14 := cell 14 _ (by omega) (by omega) rfl
    e15 := cell 15 _ (by omega) (by omega) rfl
    e16 := cell 16 _ (by omega) (by omega) rfl
    e17 := cell 17 _ (by omega) (by omega) rfl
    e18 := cell 18 _ (by omega) (by omega) rfl
    e19 := cell 19 _ (by omega) (by omega) rfl
    apart := fun i j i1 i2 j1 j2 e => by
      have hi := key i i1 i2
      have hj := key j j1 j2
      have e' : ads.getD (i - 1) default = ads.getD (j - 1) default := e
      rw [← e'] at hj
      have := h3 _ _ _ hi hj
      omega
    block := fun i i1 i2 => by
      have hx : i - 1 < lst19.length := by rw [← h1]; omega
      exact (h2 (i - 1) lst19[i - 1] _ (List.getElem?_eq_getElem hx) (key i i1 i2)).2.1 }
/-- A world for the witness: the settled one, the tables and the errors ads their initialisers lay them. -/
noncomputable def laidWorld19 (os : Os) : World :=
  let N := (World.settled Tryd.prog os).heap.size
  let w0 := World.holding Tryd.prog os ⟨#[.cells #[.string ⟨#[118, 101, 108, 108, 117, 109, 58, 32, 117, 116, 102, 45, 56]⟩] 176, .cells #[.string ⟨#[118, 101, 108, 108, 117, 109, 58, 32, 106, 115, 111, 110]⟩] 176, .cells #[.string ⟨#[118, 101, 108, 108, 117, 109, 58, 32, 110, 101, 115, 116, 105, 110, 103]⟩] 176, .cells #[.string ⟨#[118, 101, 108, 108, 117, 109, 58, 32, 110, 117, 109, 98, 101, 114]⟩] 176, .cells #[.string ⟨#[118, 101, 108, 108, 117, 109, 58, 32, 107, 105, 110, 100]⟩] 176, .cells #[.string ⟨#[118, 101, 108, 108, 117, 109, 58, 32, 107, 101, 121]⟩] 176, .cells #[.string ⟨#[118, 101, 108, 108, 117, 109, 58, 32, 110, 117, 108, 108]⟩] 176, .cells #[.string ⟨#[118, 101, 108, 108, 117, 109, 58, 32, 97, 116, 116, 114, 105, 98, 117, 116, 101, 115]⟩] 176, .cells #[.string ⟨#[118, 101, 108, 108, 117, 109, 58, 32, 111, 112, 101, 114, 97, 116, 105, 111, 110]⟩] 176, .cells #[.string ⟨#[118, 101, 108, 108, 117, 109, 58, 32, 108, 105, 109, 105, 116]⟩] 176, .cells #[.string ⟨#[118, 101, 108, 108, 117, 109, 58, 32, 108, 111, 110, 103]⟩] 176, .cells #[.string ⟨#[118, 101, 108, 108, 117, 109, 58, 32, 114, 97, 110, 103, 101]⟩] 176, .cells #[.string ⟨#[118, 101, 108, 108, 117, 109, 58, 32, 115, 99, 104, 101, 109, 97]⟩] 176, .cells #[.string ⟨#[118, 101, 108, 108, 117, 109, 58, 32, 101, 110, 100]⟩] 176, .cells #[.string ⟨#[118, 101, 108, 108, 117, 109, 58, 32, 101, 109, 112, 116, 121]⟩] 176, .cells #[.string ⟨#[118, 101, 108, 108, 117, 109, 58, 32, 109, 97, 114, 107]⟩] 176, .cells #[.string ⟨#[118, 101, 108, 108, 117, 109, 58, 32, 114, 101, 112, 108, 105, 99, 97]⟩] 176, .cells #[.string ⟨#[118, 101, 108, 108, 117, 109, 58, 32, 98, 121, 116, 101, 115]⟩] 176, .cells #[.string ⟨#[118, 101, 108, 108, 117, 109, 58, 32, 99, 111, 109, 109, 97, 110, 100]⟩] 176], #[], []⟩
  let put (h : Array Obj) (g : Nat) (cs : Array Value) : Array Obj := h.modify g fun
    | .cells _ t frozen => .cells cs t frozen
    | o => o
  let h1 := put w0.heap 19 (Lib.firstTab.map fun z => Value.int .u8 z).toArray
  let h2 := put h1 20 ((List.range 16).flatMap fun i => [Value.int .u8 (Lib.accLo i), Value.int .u8 (Lib.accHi i)]).toArray
  let k1 := put h2 2 #[.iface 157 (.pointer (some ⟨N + 0, 0, none⟩))]
  let k2 := put k1 3 #[.iface 157 (.pointer (some ⟨N + 1, 0, none⟩))]
  let k3 := put k2 4 #[.iface 157 (.pointer (some ⟨N + 2, 0, none⟩))]
  let k4 := put k3 5 #[.iface 157 (.pointer (some ⟨N + 3, 0, none⟩))]
  let k5 := put k4 6 #[.iface 157 (.pointer (some ⟨N + 4, 0, none⟩))]
  let k6 := put k5 7 #[.iface 157 (.pointer (some ⟨N + 5, 0, none⟩))]
  let k7 := put k6 8 #[.iface 157 (.pointer (some ⟨N + 6, 0, none⟩))]
  let k8 := put k7 9 #[.iface 157 (.pointer (some ⟨N + 7, 0, none⟩))]
  let k9 := put k8 10 #[.iface 157 (.pointer (some ⟨N + 8, 0, none⟩))]
  let k10 := put k9 11 #[.iface 157 (.pointer (some ⟨N + 9, 0, none⟩))]
  let k11 := put k10 1 #[.iface 157 (.pointer (some ⟨N + 10, 0, none⟩))]
  let k12 := put k11 0 #[.iface 157 (.pointer (some ⟨N + 11, 0, none⟩))]
  let k13 := put k12 12 #[.iface 157 (.pointer (some ⟨N + 12, 0, none⟩))]
  let k14 := put k13 13 #[.iface 157 (.pointer (some ⟨N + 13, 0, none⟩))]
  let k15 := put k14 14 #[.iface 157 (.pointer (some ⟨N + 14, 0, none⟩))]
  let k16 := put k15 15 #[.iface 157 (.pointer (some ⟨N + 15, 0, none⟩))]
  let k17 := put k16 16 #[.iface 157 (.pointer (some ⟨N + 16, 0, none⟩))]
  let k18 := put k17 17 #[.iface 157 (.pointer (some ⟨N + 17, 0, none⟩))]
  let k19 := put k18 18 #[.iface 157 (.pointer (some ⟨N + 18, 0, none⟩))]
  { w0 with heap := k19 }
/-- A world for the witness: the settled one, the tables and the errors ads their initialisers lay them. -/
noncomputable def laidWorld9 (os : Os) : World :=
  let N := (World.settled Tryd.prog os).heap.size
  let w0 := World.holding Tryd.prog os ⟨#[.cells #[.string ⟨#[118, 101, 108, 108, 117, 109, 58, 32, 117, 116, 102, 45, 56]⟩] 176, .cells #[.string ⟨#[118, 101, 108, 108, 117, 109, 58, 32, 107, 105, 110, 100]⟩] 176, .cells #[.string ⟨#[118, 101, 108, 108, 117, 109, 58, 32, 107, 101, 121]⟩] 176, .cells #[.string ⟨#[118, 101, 108, 108, 117, 109, 58, 32, 110, 117, 108, 108]⟩] 176, .cells #[.string ⟨#[118, 101, 108, 108, 117, 109, 58, 32, 97, 116, 116, 114, 105, 98, 117, 116, 101, 115]⟩] 176, .cells #[.string ⟨#[118, 101, 108, 108, 117, 109, 58, 32, 111, 112, 101, 114, 97, 116, 105, 111, 110]⟩] 176, .cells #[.string ⟨#[118, 101, 108, 108, 117, 109, 58, 32, 108, 105, 109, 105, 116]⟩] 176, .cells #[.string ⟨#[118, 101, 108, 108, 117, 109, 58, 32, 108, 111, 110, 103]⟩] 176, .cells #[.string ⟨#[118, 101, 108, 108, 117, 109, 58, 32, 114, 97, 110, 103, 101]⟩] 176], #[], []⟩
  let put (h : Array Obj) (g : Nat) (cs : Array Value) : Array Obj := h.modify g fun
    | .cells _ t frozen => .cells cs t frozen
    | o => o
  let h1 := put w0.heap 19 (Lib.firstTab.map fun z => Value.int .u8 z).toArray
  let h2 := put h1 20 ((List.range 16).flatMap fun i => [Value.int .u8 (Lib.accLo i), Value.int .u8 (Lib.accHi i)]).toArray
  let k1 := put h2 2 #[.iface 157 (.pointer (some ⟨N + 0, 0, none⟩))]
  let k5 := put k1 6 #[.iface 157 (.pointer (some ⟨N + 1, 0, none⟩))]
  let k6 := put k5 7 #[.iface 157 (.pointer (some ⟨N + 2, 0, none⟩))]
  let k7 := put k6 8 #[.iface 157 (.pointer (some ⟨N + 3, 0, none⟩))]
  let k8 := put k7 9 #[.iface 157 (.pointer (some ⟨N + 4, 0, none⟩))]
  let k9 := put k8 10 #[.iface 157 (.pointer (some ⟨N + 5, 0, none⟩))]
  let k10 := put k9 11 #[.iface 157 (.pointer (some ⟨N + 6, 0, none⟩))]
  let k11 := put k10 1 #[.iface 157 (.pointer (some ⟨N + 7, 0, none⟩))]
  let k12 := put k11 0 #[.iface 157 (.pointer (some ⟨N + 8, 0, none⟩))]
  { w0 with heap := k12 }
end Ve
