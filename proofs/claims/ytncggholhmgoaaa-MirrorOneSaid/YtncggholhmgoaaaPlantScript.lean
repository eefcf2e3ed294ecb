/- A script of the plant's laws in memory. -/
import Derived.Test.YtncggholhmgoaaaPlantAwake
import Derived.Test.YtncggholhmgoaaaPlantPlain
namespace Go.Proofs.Ytncggholhmgoaaa
set_option linter.unusedVariables false
set_option linter.unusedSimpArgs false
open Go.RowKit

structure POp where
  kind : Int
  a : Int
  b : Int
  t : Tl
def POp.cells (o : POp) : List Value := [.int .i64 o.kind, .int .i64 o.a, .int .i64 o.b, .int .u8 o.t.kind, .int .u16 o.t.dev, .int .u16 o.t.seq, .int .u16 o.t.a, .int .u16 o.t.b]
def opCells (l : List POp) : List Value := l.flatMap POp.cells

structure ScriptAt (w : World) (B : Nat) (As : Option Addr) (l : List POp) : Prop where
  hr : Reads w B [] 8 As l.length (opCells l)
  hB : B ≤ w.heap.size
  ln : l.length ≤ 140737488351232
  tele : ∀ o ∈ l, o.t.ok

theorem flat8_get (l : List POp) (i j : Nat) (o : POp) (ho : l[i]? = some o) (hj : j < 8) : (opCells l)[i * 8 + j]? = o.cells[j]? := by
  induction l generalizing i with
  | nil => simp at ho
  | cons y l ih =>
    have hlen : ∀ y : POp, y.cells.length = 8 := fun _ => rfl
    cases i with
    | zero =>
      simp only [List.getElem?_cons_zero, Option.some.injEq] at ho
      subst ho
      simp only [opCells, List.flatMap_cons, Nat.zero_mul, Nat.zero_add]
      rw [List.getElem?_append_left (by rw [hlen]; exact hj)]
    | succ i =>
      have := ih i (by simpa using ho)
      simp only [opCells, List.flatMap_cons] at this ⊢
      rw [List.getElem?_append_right (by rw [hlen]; omega), hlen, show (i + 1) * 8 + j - 8 = i * 8 + j by omega]
      exact this

section
variable {w w' : World} {B : Nat} {As : Option Addr} {l : List POp}
theorem ScriptAt.frS (h : ScriptAt w B As l) {S : List Nat} (hf : Fr S w w') (hS : ∀ k, k ∈ S → B ≤ k) : ScriptAt w' B As l :=
  { h with hr := h.hr.keep (fun p hp _ => hf.cell (Nat.lt_of_lt_of_le hp h.hB) (fun hm => by have := hS _ hm; omega)), hB := Nat.le_trans h.hB hf.size }
theorem ScriptAt.op (h : ScriptAt w B As l) {i : Nat} {o : POp} (ho : l[i]? = some o) : ∃ ad, As = some ad ∧ ad.block < B ∧ w.cell? (ad.add (i * 8)) = some (.int .i64 o.kind) ∧
    w.cell? ⟨(ad.add (i * 8)).block, (ad.add (i * 8)).off + 1, none⟩ = some (.int .i64 o.a) ∧ w.cell? ⟨(ad.add (i * 8)).block, (ad.add (i * 8)).off + 2, none⟩ = some (.int .i64 o.b) ∧
    w.cell? ⟨(ad.add (i * 8)).block, (ad.add (i * 8)).off + 3, none⟩ = some (.int .u8 o.t.kind) ∧ w.cell? ⟨(ad.add (i * 8)).block, (ad.add (i * 8)).off + 4, none⟩ = some (.int .u16 o.t.dev) ∧
    w.cell? ⟨(ad.add (i * 8)).block, (ad.add (i * 8)).off + 5, none⟩ = some (.int .u16 o.t.seq) ∧ w.cell? ⟨(ad.add (i * 8)).block, (ad.add (i * 8)).off + 6, none⟩ = some (.int .u16 o.t.a) ∧
    w.cell? ⟨(ad.add (i * 8)).block, (ad.add (i * 8)).off + 7, none⟩ = some (.int .u16 o.t.b) := by
  have hl := (List.getElem?_eq_some_iff.1 ho).1
  obtain ⟨ad, e, hb, _, hc⟩ := h.hr.2 (by omega)
  have key : ∀ j, j < 8 → j ≠ 0 → ∀ u, o.cells[j]? = some u → w.cell? ⟨(ad.add (i * 8)).block, (ad.add (i * 8)).off + j, none⟩ = some u := fun j hj hj0 u hu => by
    rw [← add_step _ _ _ hj0]; exact hc _ _ ((flat8_get l i j o ho hj).trans hu)
  exact ⟨ad, e, hb, hc _ _ ((flat8_get l i 0 o ho (by omega)).trans rfl), key 1 (by omega) (by omega) _ rfl, key 2 (by omega) (by omega) _ rfl, key 3 (by omega) (by omega) _ rfl, key 4 (by omega) (by omega) _ rfl, key 5 (by omega) (by omega) _ rfl, key 6 (by omega) (by omega) _ rfl, key 7 (by omega) (by omega) _ rfl⟩
end
end Go.Proofs.Ytncggholhmgoaaa
