/- The arguments of the mirror's laws, opened: notes, a pair, a list of numbers. -/
import Derived.Test.YtncggholhmgoaaaOpenArgs
import Derived.Test.YtncggholhmgoaaaMirrorApply
namespace Go.Proofs.Ytncggholhmgoaaa
set_option linter.unusedVariables false
set_option linter.unusedSimpArgs false
open Go.ChangeShapes Go.WideShapes Go.RowKit

structure NotesAt (w : World) (B : Nat) (As : Option Addr) (l : List Nt) : Prop where
  hr : Reads w B [] 4 As l.length (l.flatMap Nt.cells)
  hB : B ≤ w.heap.size
  ln : l.length ≤ 140737488351232
structure IntsAt (w : World) (B : Nat) (As : Option Addr) (l : List Int) : Prop where
  hr : Reads w B [] 1 As l.length (l.flatMap fun x => [.int .i64 x])
  hB : B ≤ w.heap.size
  ln : l.length ≤ 140737488351232

section
variable {w w' : World} {B : Nat} {As : Option Addr}
theorem NotesAt.fr {l : List Nt} (h : NotesAt w B As l) (hf : Fr [] w w') : NotesAt w' B As l :=
  { h with hr := h.hr.keep (fun p hp _ => hf.cell (Nat.lt_of_lt_of_le hp h.hB) (by simp)), hB := Nat.le_trans h.hB hf.size }
theorem IntsAt.fr {l : List Int} (h : IntsAt w B As l) (hf : Fr [] w w') : IntsAt w' B As l :=
  { h with hr := h.hr.keep (fun p hp _ => hf.cell (Nat.lt_of_lt_of_le hp h.hB) (by simp)), hB := Nat.le_trans h.hB hf.size }
theorem NotesAt.note {l : List Nt} (h : NotesAt w B As l) {i : Nat} {o : Nt} (ho : l[i]? = some o) : ∃ ad, As = some ad ∧ ad.block < B ∧ w.cell? (ad.add (i * 4)) = some (.int .i64 o.kind) ∧
    w.cell? ⟨(ad.add (i * 4)).block, (ad.add (i * 4)).off + 1, none⟩ = some (.int .i64 o.a) ∧ w.cell? ⟨(ad.add (i * 4)).block, (ad.add (i * 4)).off + 2, none⟩ = some (.int .i64 o.b) ∧
    w.cell? ⟨(ad.add (i * 4)).block, (ad.add (i * 4)).off + 3, none⟩ = some (.int .i64 o.c) := by
  have hl := (List.getElem?_eq_some_iff.1 ho).1
  obtain ⟨ad, e, hb, _, hc⟩ := h.hr.2 (by omega)
  have key : ∀ j, j < 4 → ∀ u, o.cells[j]? = some u → w.cell? (ad.add (i * 4 + j)) = some u := fun j hj u hu => hc _ _ ((flatc_get Nt.cells 4 (fun _ => rfl) l i j o ho hj).trans hu)
  exact ⟨ad, e, hb, key 0 (by omega) _ rfl, by rw [← add_step _ _ _ (by omega)]; exact key 1 (by omega) _ rfl, by rw [← add_step _ _ _ (by omega)]; exact key 2 (by omega) _ rfl, by rw [← add_step _ _ _ (by omega)]; exact key 3 (by omega) _ rfl⟩
theorem IntsAt.int {l : List Int} (h : IntsAt w B As l) {i : Nat} {x : Int} (ho : l[i]? = some x) : ∃ ad, As = some ad ∧ ad.block < B ∧ w.cell? (ad.add i) = some (.int .i64 x) := by
  have hl := (List.getElem?_eq_some_iff.1 ho).1
  obtain ⟨ad, e, hb, _, hc⟩ := h.hr.2 (by omega)
  have := hc (i * 1 + 0) (.int .i64 x) (flatc_get (fun x => [Value.int .i64 x]) 1 (fun _ => rfl) l i 0 x ho (by omega))
  simp only [Nat.mul_one, Nat.add_zero] at this
  exact ⟨ad, e, hb, this⟩
end

theorem cells80 : Try.prog.cellsOf 80 = 4 := by kernel_rfl
theorem bytes80 : 1 ≤ Try.prog.bytesOf 80 := of_decide_eq_true (by kernel_rfl)
theorem bytes3 : 1 ≤ Try.prog.bytesOf 3 := of_decide_eq_true (by kernel_rfl)
theorem split4 {cs : List Value} {a b c d : Value} (h : cs.length = 4) (h0 : (cs.drop 0).take 1 = [a]) (h1 : (cs.drop 1).take 1 = [b]) (h2 : (cs.drop 2).take 1 = [c]) (h3 : (cs.drop 3).take 1 = [d]) : cs = [a, b, c, d] := by
  match cs, h with
  | [x0, x1, x2, x3], _ => simp_all

section
variable {H : Type} {enc : TypeId × Value → H} {w : World} {base : Nat} {spare : Nat → Bool} {held : Bool}
set_option maxRecDepth 100000 in
theorem note_of {fuel : Nat} {cs : List Value} {x : DataW H × List MemPlace} (h : DataW.trod enc Try.prog w base spare held fuel 80 cs = some x) :
    ∃ o : Nt, cs = o.cells ∧ (i64ok o.kind ∧ i64ok o.a ∧ i64ok o.b ∧ i64ok o.c) := by
  obtain ⟨xs, n, _, hx, hcl, hxl, hf⟩ := DataW.trod_struct Try.underlying80 h
  have f0 : DataW.trod enc Try.prog w base spare held n 3 ((cs.drop 0).take (Try.prog.cellsOf 3)) = xs[0]? := hf 0 _ rfl
  have f1 : DataW.trod enc Try.prog w base spare held n 3 ((cs.drop 1).take (Try.prog.cellsOf 3)) = xs[1]? := hf 1 _ rfl
  have f2 : DataW.trod enc Try.prog w base spare held n 3 ((cs.drop 2).take (Try.prog.cellsOf 3)) = xs[2]? := hf 2 _ rfl
  have f3 : DataW.trod enc Try.prog w base spare held n 3 ((cs.drop 3).take (Try.prog.cellsOf 3)) = xs[3]? := hf 3 _ rfl
  rw [cells3] at f0 f1 f2 f3
  rw [cells80] at hcl
  match xs, hxl with
  | [y0, y1, y2, y3], _ =>
    simp only [List.getElem?_cons_zero, List.getElem?_cons_succ] at f0 f1 f2 f3
    obtain ⟨a, e0, hy0, wa⟩ := DataW.trod_int Try.underlying3 f0
    obtain ⟨b, e1, hy1, wb⟩ := DataW.trod_int Try.underlying3 f1
    obtain ⟨c, e2, hy2, wc⟩ := DataW.trod_int Try.underlying3 f2
    obtain ⟨d, e3, hy3, wd⟩ := DataW.trod_int Try.underlying3 f3
    exact ⟨⟨a, b, c, d⟩, split4 hcl e0 e1 e2 e3, bounds_i64 wa, bounds_i64 wb, bounds_i64 wc, bounds_i64 wd⟩

theorem int1_of {fuel : Nat} {cs : List Value} {x : DataW H × List MemPlace} (h : DataW.trod enc Try.prog w base spare held fuel 3 cs = some x) : ∃ o : Int, cs = [.int .i64 o] ∧ True := by
  obtain ⟨a, e0, hy0, wa⟩ := DataW.trod_int Try.underlying3 h
  exact ⟨a, e0, trivial⟩

set_option maxRecDepth 100000 in
theorem scriptM_of {v : Value} {d : DataW H} {p : List MemPlace} (hv : Value.okWide Try.prog w .any base 76 v) (h : DataW.Trod enc Try.prog w 0 (fun _ => true) true 76 v d p) (hw : ∀ m ∈ d.weights Try.prog 76, m ≤ reachBytes) :
    ∃ (As : Option Addr) (cs : Nat) (l : List Nt), v = .slice As l.length cs ∧ NotesAt w w.heap.size As l := by
  obtain ⟨a0, len0, cap0, rfl⟩ := okWide_slice Try.underlying76 hv
  obtain ⟨fuel, hf⟩ := h
  obtain ⟨As, l, cs, e0, _, r0, b0, q0⟩ := open_rows Nt.cells 4 (by omega) (fun _ => rfl) (fun o _ => (i64ok o.kind ∧ i64ok o.a ∧ i64ok o.b ∧ i64ok o.c)) ⟨0, 0, 0, 0⟩ Try.underlying76 cells80 bytes80 (fun _ _ _ h => note_of h) hf hw
  exact ⟨As, cs, l, by simpa [Value.cells] using e0, ⟨r0, Nat.le_refl _, b0⟩⟩

set_option maxRecDepth 100000 in
theorem ints_of {v : Value} {d : DataW H} {p : List MemPlace} (hv : Value.okWide Try.prog w .any base 57 v) (h : DataW.Trod enc Try.prog w 0 (fun _ => true) true 57 v d p) (hw : ∀ m ∈ d.weights Try.prog 57, m ≤ reachBytes) :
    ∃ (As : Option Addr) (cs : Nat) (l : List Int), v = .slice As l.length cs ∧ IntsAt w w.heap.size As l := by
  obtain ⟨a0, len0, cap0, rfl⟩ := okWide_slice Try.underlying57 hv
  obtain ⟨fuel, hf⟩ := h
  obtain ⟨As, l, cs, e0, _, r0, b0, q0⟩ := open_rows (fun x => [Value.int .i64 x]) 1 (by omega) (fun _ => rfl) (fun _ _ => True) 0 Try.underlying57 cells3 bytes3 (fun _ _ _ h => int1_of h) hf hw
  exact ⟨As, cs, l, by simpa [Value.cells] using e0, ⟨r0, Nat.le_refl _, b0⟩⟩

set_option maxRecDepth 100000 in
theorem pair_of {v : Value} {d : DataW H} {p : List MemPlace} (hv : Value.okWide Try.prog w .any base 32 v) (h : DataW.Trod enc Try.prog w 0 (fun _ => true) true 32 v d p) :
    ∃ a b : Int, v = .agg #[.int .i64 a, .int .i64 b] := by
  simp only [Value.okWide, Try.underlying32] at hv
  obtain ⟨cs, rfl, hsz, _⟩ := hv
  obtain ⟨fuel, hf⟩ := h
  obtain ⟨e, he, _⟩ := edge_of hf
  refine ⟨e.1, e.2, ?_⟩
  congr 1
  apply Array.ext'
  simpa [Value.cells] using he

set_option maxRecDepth 100000 in
theorem noteArg_of {v : Value} {d : DataW H} {p : List MemPlace} (hv : Value.okWide Try.prog w .any base 80 v) (h : DataW.Trod enc Try.prog w 0 (fun _ => true) true 80 v d p) :
    ∃ o : Nt, v = .agg #[.int .i64 o.kind, .int .i64 o.a, .int .i64 o.b, .int .i64 o.c] := by
  simp only [Value.okWide, Try.underlying80] at hv
  obtain ⟨cs, rfl, hsz, _⟩ := hv
  obtain ⟨fuel, hf⟩ := h
  obtain ⟨e, he, _⟩ := note_of hf
  refine ⟨e, ?_⟩
  congr 1
  apply Array.ext'
  simpa [Value.cells, Nt.cells] using he
end
end Go.Proofs.Ytncggholhmgoaaa
