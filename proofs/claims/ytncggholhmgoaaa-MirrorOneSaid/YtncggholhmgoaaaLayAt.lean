/- A layout in memory; keys of its two maps. -/
import Derived.Test.YtncggholhmgoaaaLayName
import Derived.Test.YtncggholhmgoaaaKMap
import Derived.DeepKeys5
namespace Go.Proofs.Ytncggholhmgoaaa
set_option linter.unusedVariables false
set_option linter.unusedSimpArgs false
open Go.RowKit Go.Maps

theorem laid : laidOutB Try.prog = true := by kernel_rfl
theorem law32 : Go.WideMaps.KeyLaw Try.prog 32 := deep_law_gate laid (of_decide_eq_true (by kernel_rfl)) (of_decide_eq_true (by kernel_rfl)) (by kernel_rfl) (by kernel_rfl)
theorem law9 : Keyed Try.prog 9 := string_keyed Try.underlying9
theorem zero3 (w : World) : (zeroValue 3).run Try.prog w = .ok (.int .i64 0) w := by kernel_rfl
theorem ktype32 : Try.prog.keyType 32 = true := by kernel_rfl
theorem tsize : ∃ d, Try.prog.types.size + 1 = d + 2 := ⟨Try.prog.types.size - 1, by have : 1 ≤ Try.prog.types.size := of_decide_eq_true (by kernel_rfl); omega⟩

def i64ok (n : Int) : Prop := -9223372036854775808 ≤ n ∧ n ≤ 9223372036854775807
theorem wf_of {n : Int} (h : i64ok n) : (Lit.int .i64 n).wf = true := by
  simp [Lit.wf, IntKind.signed, IntKind.bits]; exact ⟨h.1, by have := h.2; omega⟩
theorem cells3 : Try.prog.cellsOf 3 = 1 := by kernel_rfl
theorem cells32 : Try.prog.cellsOf 32 = 2 := by kernel_rfl
theorem key32 (a b : Int) (ha : i64ok a) (hb : i64ok b) : ∃ kl, keyOf Try.prog 32 (.agg #[.int .i64 a, .int .i64 b]) = some kl := by
  obtain ⟨d, hd⟩ := tsize
  have hs : (keyOf Try.prog 32 (.agg #[.int .i64 a, .int .i64 b])).isSome = true := by
    unfold keyOf
    rw [Try.underlying32]
    simp only [ktype32, hd, Value.formed, Value.cells, Bool.true_and]
    simp [Program.keyLits, Try.underlying32, Try.underlying3, cells3, cells32, wf_of ha, wf_of hb, List.range_succ]
  exact Option.isSome_iff_exists.1 hs

def Nd.cells (x : Nd) : List Value := [.string x.name, .int .i64 x.kind, .int .i64 x.zone]
def ndCells (l : List Nd) : List Value := l.flatMap Nd.cells
def edCells (l : List (Int × Int)) : List Value := l.flatMap fun e => [.int .i64 e.1, .int .i64 e.2]

/-- The layout value '.agg #[.slice An _ cn, .slice Ae _ ce]' reads as l, in blocks below B. -/
structure LayAt (w : World) (B : Nat) (An Ae : Option Addr) (l : Lay) : Prop where
  hn : Reads w B [] 3 An l.nodes.length (ndCells l.nodes)
  he : Reads w B [] 2 Ae l.edges.length (edCells l.edges)
  hB : B ≤ w.heap.size
  names : ∀ x ∈ l.nodes, x.name.size ≤ 140737488351232
  ints : ∀ e ∈ l.edges, i64ok e.1 ∧ i64ok e.2
  kinds : ∀ x ∈ l.nodes, i64ok x.kind ∧ i64ok x.zone
  ln : l.nodes.length ≤ 140737488351232
  le : l.edges.length ≤ 140737488351232

theorem ndCells_get (l : List Nd) (i : Nat) (x : Nd) (hx : l[i]? = some x) : (ndCells l)[i * 3]? = some (.string x.name) ∧ (ndCells l)[i * 3 + 1]? = some (.int .i64 x.kind) ∧ (ndCells l)[i * 3 + 2]? = some (.int .i64 x.zone) := by
  induction l generalizing i with
  | nil => simp at hx
  | cons y l ih =>
    cases i with
    | zero =>
      simp only [List.getElem?_cons_zero, Option.some.injEq] at hx
      subst hx
      simp [ndCells, Nd.cells]
    | succ i =>
      have := ih i (by simpa using hx)
      simp only [ndCells, List.flatMap_cons, Nd.cells, List.cons_append, List.nil_append] at this ⊢
      rw [show (i + 1) * 3 = i * 3 + 3 by omega, show i * 3 + 3 + 1 = (i * 3 + 1) + 3 by omega, show i * 3 + 3 + 2 = (i * 3 + 2) + 3 by omega]
      simpa using this
theorem edCells_get (l : List (Int × Int)) (i : Nat) (x : Int × Int) (hx : l[i]? = some x) : (edCells l)[i * 2]? = some (.int .i64 x.1) ∧ (edCells l)[i * 2 + 1]? = some (.int .i64 x.2) := by
  induction l generalizing i with
  | nil => simp at hx
  | cons y l ih =>
    cases i with
    | zero =>
      simp only [List.getElem?_cons_zero, Option.some.injEq] at hx
      subst hx
      simp [edCells]
    | succ i =>
      have := ih i (by simpa using hx)
      simp only [edCells, List.flatMap_cons, List.cons_append, List.nil_append] at this ⊢
      rw [show (i + 1) * 2 = i * 2 + 2 by omega, show i * 2 + 2 + 1 = (i * 2 + 1) + 2 by omega]
      simpa using this

section
variable {w w' : World} {B : Nat} {An Ae : Option Addr} {l : Lay}
theorem LayAt.fr (h : LayAt w B An Ae l) (hf : Fr [] w w') : LayAt w' B An Ae l :=
  { h with hn := h.hn.fr hf h.hB, he := h.he.fr hf h.hB, hB := Nat.le_trans h.hB hf.size }
theorem LayAt.frS (h : LayAt w B An Ae l) {S : List Nat} (hf : Fr S w w') (hS : ∀ k, k ∈ S → B ≤ k) : LayAt w' B An Ae l :=
  { h with hn := h.hn.keep (fun p hp _ => hf.cell (Nat.lt_of_lt_of_le hp h.hB) (fun hm => by have := hS _ hm; omega)), he := h.he.keep (fun p hp _ => hf.cell (Nat.lt_of_lt_of_le hp h.hB) (fun hm => by have := hS _ hm; omega)), hB := Nat.le_trans h.hB hf.size }
theorem LayAt.node (h : LayAt w B An Ae l) {i : Nat} {x : Nd} (hx : l.nodes[i]? = some x) : ∃ ad, An = some ad ∧ ad.block < B ∧ w.cell? (ad.add (i * 3)) = some (.string x.name) ∧
    w.cell? ⟨(ad.add (i * 3)).block, (ad.add (i * 3)).off + 1, none⟩ = some (.int .i64 x.kind) ∧ w.cell? ⟨(ad.add (i * 3)).block, (ad.add (i * 3)).off + 2, none⟩ = some (.int .i64 x.zone) := by
  have hl := (List.getElem?_eq_some_iff.1 hx).1
  obtain ⟨ad, e, hb, _, hc⟩ := h.hn.2 (by omega)
  obtain ⟨c0, c1, c2⟩ := ndCells_get _ _ _ hx
  exact ⟨ad, e, hb, hc _ _ c0, by rw [← add_step _ _ _ (by omega)]; exact hc _ _ c1, by rw [← add_step _ _ _ (by omega)]; exact hc _ _ c2⟩
theorem LayAt.edge (h : LayAt w B An Ae l) {i : Nat} {x : Int × Int} (hx : l.edges[i]? = some x) : ∃ ad, Ae = some ad ∧ ad.block < B ∧ w.cell? (ad.add (i * 2)) = some (.int .i64 x.1) ∧
    w.cell? ⟨(ad.add (i * 2)).block, (ad.add (i * 2)).off + 1, none⟩ = some (.int .i64 x.2) := by
  have hl := (List.getElem?_eq_some_iff.1 hx).1
  obtain ⟨ad, e, hb, _, hc⟩ := h.he.2 (by omega)
  obtain ⟨c0, c1⟩ := edCells_get _ _ _ hx
  exact ⟨ad, e, hb, hc _ _ c0, by rw [← add_step _ _ _ (by omega)]; exact hc _ _ c1⟩
end
end Go.Proofs.Ytncggholhmgoaaa
