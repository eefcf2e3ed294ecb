/- A struct of several cells stored into a block that stands. -/
import Derived.Test.YtncggholhmgoaaaBase
import Derived.Laws.CopyRow
import Derived.Laws.Tables
namespace Go.Proofs.Ytncggholhmgoaaa
set_option linter.unusedVariables false
set_option linter.unusedSimpArgs false
open Go.RowKit

theorem fr_setRow (w : World) (g : Nat) (cells : Array Value) : Fr [g] w (w.setRow g cells) := by
  refine ⟨rfl, rfl, rfl, ?_, ?_⟩
  · simp [World.setRow]
  · intro k hk hn
    simp only [List.mem_cons, List.not_mem_nil, or_false] at hn
    simp only [World.setRow, Array.getElem?_modify]
    rw [if_neg (fun e => hn e.symm)]

section
variable {P : Program} {w : World}
theorem run_store_at (g off : Nat) (t ty : TypeId) (cur vs : List Value) (hB : Blk w g t cur) (hi : (P.info? ty).map (·.size) = some vs.length) (hfit : off + vs.length ≤ cur.length) (h1 : ∀ v ∈ vs, v.oneCell' = true) :
    ∃ w', (storeVar ty ⟨g, off, none⟩ (.agg vs.toArray)).run P w = .ok () w' ∧ Blk w' g t (cur.take off ++ vs ++ cur.drop (off + vs.length)) ∧ Fr [g] w w' := by
  have hr := run_storeCells_at P g off t vs 0 cur.toArray w hB (by simpa using hfit) h1
  simp only [Nat.add_zero, List.toList_toArray] at hr
  refine ⟨_, ?_, setRow_heap w g _ _ t _ hB, fr_setRow w g _⟩
  cases hq : P.info? ty with
  | none => simp [hq] at hi
  | some i =>
    have hs : vs.length = i.size := by simp [hq] at hi; omega
    simp [storeVar, sizeOf, typeInfo, hq, Value.cells, hs, hr]

theorem wp_store_at {o : Oper} {a : Act} {K : Act → World → Prop} {Q : Exit → Act → World → Prop} (ty : TypeId) (x y : Operand) (ho : o.op = .store ty x y)
    (g off : Nat) (vs : List Value) (hx : a.eval x = .pointer (some ⟨g, off, none⟩)) (hy : a.eval y = .agg vs.toArray)
    (t : TypeId) (cur : List Value) (hB : Blk w g t cur) (hi : (P.info? ty).map (·.size) = some vs.length) (hfit : off + vs.length ≤ cur.length) (h1 : ∀ v ∈ vs, v.oneCell' = true)
    (h : ∀ w', Blk w' g t (cur.take off ++ vs ++ cur.drop (off + vs.length)) → Fr [g] w w' → K (a.put o.dst undef) w') : o.wp P a w K Q := by
  obtain ⟨w', hrun, h2, h3⟩ := run_store_at (P := P) g off t ty cur vs hB hi hfit h1
  unfold Oper.wp execOp
  simp only [ho, hx, hy, Instr.storeAt, Instr.sureAddr, Sem.run_bind, Sem.run_pure, Result.andThen_ok, hrun]
  exact h w' h2 h3

theorem wpList_store_at {ops : Array Oper} {rest : List Oper} {o : Oper} {a : Act} {Q : Exit → Act → World → Prop} (hgd : o.guard = none) (ty : TypeId) (x y : Operand) (ho : o.op = .store ty x y)
    (g off : Nat) (vs : List Value) (hx : a.eval x = .pointer (some ⟨g, off, none⟩)) (hy : a.eval y = .agg vs.toArray)
    (t : TypeId) (cur : List Value) (hB : Blk w g t cur) (hi : (P.info? ty).map (·.size) = some vs.length) (hfit : off + vs.length ≤ cur.length) (h1 : ∀ v ∈ vs, v.oneCell' = true)
    (h : ∀ w', Blk w' g t (cur.take off ++ vs ++ cur.drop (off + vs.length)) → Fr [g] w w' → wpList P ops Q rest (a.put o.dst undef) w') : wpList P ops Q (o :: rest) a w :=
  wpList_plain hgd fun _ hK => wp_store_at ty x y ho g off vs hx hy t cur hB hi hfit h1 fun w' h2 h3 => hK _ _ (h w' h2 h3)
end
end Go.Proofs.Ytncggholhmgoaaa
