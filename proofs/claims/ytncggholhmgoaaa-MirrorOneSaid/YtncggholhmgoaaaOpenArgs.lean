/- The laws' arguments opened: a layout by value, a script of the plant's laws. -/
import Derived.Test.YtncggholhmgoaaaPlantScript
import Derived.ProofKit
import Derived.OpenShut
import Derived.SizedLaws
import Derived.Deep.Slices
import Derived.Lib.SmallJoins
namespace Go.Proofs.Ytncggholhmgoaaa
set_option linter.unusedVariables false
set_option linter.unusedSimpArgs false
open Go.RowKit Go.ChangeShapes Go.WideShapes Go.Deep Go.Joins

theorem cell_lt {w : World} {a : Addr} {v : Value} (h : w.cell? a = some v) : a.block < w.heap.size := by
  rcases Nat.lt_or_ge a.block w.heap.size with h' | h'
  · exact h'
  · simp [World.cell?, Array.getElem?_eq_none h'] at h

theorem flatc_get {α : Type} (cells : α → List Value) (c : Nat) (hlen : ∀ x, (cells x).length = c) (l : List α) (i j : Nat) (x : α) (hx : l[i]? = some x) (hj : j < c) : (l.flatMap cells)[i * c + j]? = (cells x)[j]? := by
  induction l generalizing i with
  | nil => simp at hx
  | cons y l ih =>
    cases i with
    | zero =>
      simp only [List.getElem?_cons_zero, Option.some.injEq] at hx
      subst hx
      rw [List.flatMap_cons, Nat.zero_mul, Nat.zero_add, List.getElem?_append_left (by rw [hlen]; exact hj)]
    | succ i =>
      have := ih i (by simpa using hx)
      have e : (i + 1) * c + j = c + (i * c + j) := by rw [Nat.succ_mul]; omega
      rw [List.flatMap_cons, List.getElem?_append_right (by rw [hlen, e]; omega), hlen, e, show c + (i * c + j) - c = i * c + j by omega]
      exact this

theorem flatc_len {α : Type} (cells : α → List Value) (c : Nat) (hlen : ∀ x, (cells x).length = c) (l : List α) : (l.flatMap cells).length = l.length * c := by
  induction l with
  | nil => simp
  | cons y l ih => simp only [List.flatMap_cons, List.length_append, hlen, ih, List.length_cons, Nat.succ_mul]; omega

/-- Elements of c cells each, read one by one, read as one row. -/
theorem reads_of {α : Type} (cells : α → List Value) (c : Nat) (hc0 : 0 < c) (hlen : ∀ x, (cells x).length = c) (w : World) (a : Addr) (n : Nat) (f : Nat → α) (h : ∀ i, i < n → w.cells? 0 (a.add (i * c)) c = some (cells (f i))) :
    Reads w w.heap.size [] c (some a) n (((List.range n).map f).flatMap cells) := by
  have hcell : ∀ i, i < n → ∀ j, j < c → w.cell? (a.add (i * c + j)) = (cells (f i))[j]? := fun i hi j hj => by
    rw [← add_add]; exact (World.cells?_some (h i hi)).2.2 j hj
  refine ⟨by rw [flatc_len _ c hlen]; simp, fun hn => ⟨a, rfl, ?_, by simp, fun p u hp => ?_⟩⟩
  · have := hcell 0 hn 0 hc0
    have hl := hlen (f 0)
    rw [List.getElem?_eq_getElem (by omega)] at this
    simpa [Addr.add] using cell_lt this
  · have hpl := (List.getElem?_eq_some_iff.1 hp).1
    rw [flatc_len _ c hlen] at hpl
    simp only [List.length_map, List.length_range] at hpl
    have hi : p / c < n := Nat.div_lt_of_lt_mul (by rw [Nat.mul_comm]; exact hpl)
    have hj : p % c < c := Nat.mod_lt _ hc0
    have e : p / c * c + p % c = p := by rw [Nat.mul_comm]; exact Nat.div_add_mod p c
    have h1 := hcell _ hi _ hj
    have h2 := flatc_get cells c hlen ((List.range n).map f) (p / c) (p % c) (f (p / c)) (by rw [List.getElem?_map, List.getElem?_range hi]; rfl) hj
    rw [e] at h1 h2
    rw [h1, ← h2, hp]

theorem cells31 : Try.prog.cellsOf 31 = 3 := by kernel_rfl
theorem cells48 : Try.prog.cellsOf 48 = 8 := by kernel_rfl
theorem cells39 : Try.prog.cellsOf 39 = 5 := by kernel_rfl
theorem cells5 : Try.prog.cellsOf 5 = 1 := by kernel_rfl
theorem cells9 : Try.prog.cellsOf 9 = 1 := by kernel_rfl
theorem cells22 : Try.prog.cellsOf 22 = 1 := by kernel_rfl
theorem cells28 : Try.prog.cellsOf 28 = 2 := by kernel_rfl
theorem bytes31 : 1 ≤ Try.prog.bytesOf 31 := of_decide_eq_true (by kernel_rfl)
theorem bytes32 : 1 ≤ Try.prog.bytesOf 32 := of_decide_eq_true (by kernel_rfl)
theorem bytes48 : 1 ≤ Try.prog.bytesOf 48 := of_decide_eq_true (by kernel_rfl)

section
variable {H : Type} {enc : TypeId × Value → H} {w : World} {base : Nat} {spare : Nat → Bool} {held : Bool}

theorem split3 {cs : List Value} {a b c : Value} (h : cs.length = 3) (h0 : (cs.drop 0).take 1 = [a]) (h1 : (cs.drop 1).take 1 = [b]) (h2 : (cs.drop 2).take 1 = [c]) : cs = [a, b, c] := by
  match cs, h with
  | [x, y, z], _ => simp_all
theorem split2 {cs : List Value} {a b : Value} (h : cs.length = 2) (h0 : (cs.drop 0).take 1 = [a]) (h1 : (cs.drop 1).take 1 = [b]) : cs = [a, b] := by
  match cs, h with
  | [x, y], _ => simp_all
theorem split5 {cs : List Value} {a b c d e : Value} (h : cs.length = 5) (h0 : (cs.drop 0).take 1 = [a]) (h1 : (cs.drop 1).take 1 = [b]) (h2 : (cs.drop 2).take 1 = [c]) (h3 : (cs.drop 3).take 1 = [d]) (h4 : (cs.drop 4).take 1 = [e]) : cs = [a, b, c, d, e] := by
  match cs, h with
  | [x, y, z, u, v], _ => simp_all
theorem split8 {cs : List Value} {a b c : Value} {r : List Value} (h : cs.length = 8) (h0 : (cs.drop 0).take 1 = [a]) (h1 : (cs.drop 1).take 1 = [b]) (h2 : (cs.drop 2).take 1 = [c]) (h3 : (cs.drop 3).take 5 = r) : cs = a :: b :: c :: r := by
  match cs, h with
  | [x, y, z, u, v, p, q, t], _ => simp_all

theorem node_of {fuel : Nat} {cs : List Value} {x : DataW H × List MemPlace} (h : DataW.trod enc Try.prog w base spare held fuel 31 cs = some x) :
    ∃ nd : Nd, cs = nd.cells ∧ i64ok nd.kind ∧ i64ok nd.zone ∧ ((∀ m ∈ x.1.weights Try.prog 31, m ≤ reachBytes) → nd.name.size ≤ reachBytes) := by
  obtain ⟨xs, n, _, hx, hcl, hxl, hf⟩ := DataW.trod_struct Try.underlying31 h
  have f0 : DataW.trod enc Try.prog w base spare held n 9 ((cs.drop 0).take (Try.prog.cellsOf 9)) = xs[0]? := hf 0 _ rfl
  have f1 : DataW.trod enc Try.prog w base spare held n 3 ((cs.drop 1).take (Try.prog.cellsOf 3)) = xs[1]? := hf 1 _ rfl
  have f2 : DataW.trod enc Try.prog w base spare held n 3 ((cs.drop 2).take (Try.prog.cellsOf 3)) = xs[2]? := hf 2 _ rfl
  rw [cells9] at f0
  rw [cells3] at f1 f2
  rw [cells31] at hcl
  match xs, hxl with
  | [y0, y1, y2], _ =>
    simp only [List.getElem?_cons_zero, List.getElem?_cons_succ] at f0 f1 f2
    obtain ⟨s, e0, hy0, _⟩ := DataW.trod_string Try.underlying9 f0
    obtain ⟨a, e1, hy1, wa⟩ := DataW.trod_int Try.underlying3 f1
    obtain ⟨b, e2, hy2, wb⟩ := DataW.trod_int Try.underlying3 f2
    refine ⟨⟨s, a, b⟩, split3 hcl e0 e1 e2, bounds_i64 wa, bounds_i64 wb, fun hm => ?_⟩
    subst hx
    have := hm s.data.toList.length (by simp [DataW.weights, DataW.weightsEach, Try.underlying31, hy0])
    simpa using this

set_option maxRecDepth 100000 in
theorem edge_of {fuel : Nat} {cs : List Value} {x : DataW H × List MemPlace} (h : DataW.trod enc Try.prog w base spare held fuel 32 cs = some x) :
    ∃ e : Int × Int, cs = [.int .i64 e.1, .int .i64 e.2] ∧ i64ok e.1 ∧ i64ok e.2 := by
  obtain ⟨xs, n, _, hx, hcl, hxl, hf⟩ := DataW.trod_array Try.underlying32 h
  have f0 := hf 0 (by omega)
  have f1 := hf 1 (by omega)
  rw [cells3] at f0 f1
  rw [cells32] at hcl
  match xs, hxl with
  | [y0, y1], _ =>
    simp only [List.getElem?_cons_zero, List.getElem?_cons_succ] at f0 f1
    obtain ⟨a, e1, hy1, wa⟩ := DataW.trod_int Try.underlying3 f0
    obtain ⟨b, e2, hy2, wb⟩ := DataW.trod_int Try.underlying3 f1
    exact ⟨(a, b), split2 hcl e1 e2, bounds_i64 wa, bounds_i64 wb⟩

theorem tele_of {fuel : Nat} {cs : List Value} {x : DataW H × List MemPlace} (h : DataW.trod enc Try.prog w base spare held fuel 39 cs = some x) :
    ∃ t : Tl, cs = t.cells ∧ t.ok := by
  obtain ⟨xs, n, _, hx, hcl, hxl, hf⟩ := DataW.trod_struct Try.underlying39 h
  have f0 : DataW.trod enc Try.prog w base spare held n 5 ((cs.drop 0).take (Try.prog.cellsOf 5)) = xs[0]? := hf 0 _ rfl
  have f1 : DataW.trod enc Try.prog w base spare held n 22 ((cs.drop 1).take (Try.prog.cellsOf 22)) = xs[1]? := hf 1 _ rfl
  have f2 : DataW.trod enc Try.prog w base spare held n 22 ((cs.drop 2).take (Try.prog.cellsOf 22)) = xs[2]? := hf 2 _ rfl
  have f3 : DataW.trod enc Try.prog w base spare held n 22 ((cs.drop 3).take (Try.prog.cellsOf 22)) = xs[3]? := hf 3 _ rfl
  have f4 : DataW.trod enc Try.prog w base spare held n 22 ((cs.drop 4).take (Try.prog.cellsOf 22)) = xs[4]? := hf 4 _ rfl
  rw [cells5] at f0
  rw [cells22] at f1 f2 f3 f4
  rw [cells39] at hcl
  match xs, hxl with
  | [y0, y1, y2, y3, y4], _ =>
    simp only [List.getElem?_cons_zero, List.getElem?_cons_succ] at f0 f1 f2 f3 f4
    obtain ⟨a, e0, hy0, wa⟩ := DataW.trod_int Try.underlying5 f0
    obtain ⟨b, e1, hy1, wb⟩ := DataW.trod_int Try.underlying22 f1
    obtain ⟨c, e2, hy2, wc⟩ := DataW.trod_int Try.underlying22 f2
    obtain ⟨d, e3, hy3, wd⟩ := DataW.trod_int Try.underlying22 f3
    obtain ⟨e, e4, hy4, we⟩ := DataW.trod_int Try.underlying22 f4
    exact ⟨⟨a, b, c, d, e⟩, split5 hcl e0 e1 e2 e3 e4, bounds_u8 wa, bounds_u16 wb, bounds_u16 wc, bounds_u16 wd, bounds_u16 we⟩

theorem op_of {fuel : Nat} {cs : List Value} {x : DataW H × List MemPlace} (h : DataW.trod enc Try.prog w base spare held fuel 48 cs = some x) :
    ∃ o : POp, cs = o.cells ∧ o.t.ok := by
  obtain ⟨xs, n, _, hx, hcl, hxl, hf⟩ := DataW.trod_struct Try.underlying48 h
  have f0 : DataW.trod enc Try.prog w base spare held n 3 ((cs.drop 0).take (Try.prog.cellsOf 3)) = xs[0]? := hf 0 _ rfl
  have f1 : DataW.trod enc Try.prog w base spare held n 3 ((cs.drop 1).take (Try.prog.cellsOf 3)) = xs[1]? := hf 1 _ rfl
  have f2 : DataW.trod enc Try.prog w base spare held n 3 ((cs.drop 2).take (Try.prog.cellsOf 3)) = xs[2]? := hf 2 _ rfl
  have f3 : DataW.trod enc Try.prog w base spare held n 39 ((cs.drop 3).take (Try.prog.cellsOf 39)) = xs[3]? := hf 3 _ rfl
  rw [cells3] at f0 f1 f2
  rw [cells39] at f3
  rw [cells48] at hcl
  match xs, hxl with
  | [y0, y1, y2, y3], _ =>
    simp only [List.getElem?_cons_zero, List.getElem?_cons_succ] at f0 f1 f2 f3
    obtain ⟨a, e0, hy0, wa⟩ := DataW.trod_int Try.underlying3 f0
    obtain ⟨b, e1, hy1, wb⟩ := DataW.trod_int Try.underlying3 f1
    obtain ⟨c, e2, hy2, wc⟩ := DataW.trod_int Try.underlying3 f2
    obtain ⟨t, e3, ht⟩ := tele_of f3
    exact ⟨⟨a, b, c, t⟩, split8 hcl e0 e1 e2 e3, ht⟩

theorem weightsAll_mem {P : Program} {e : TypeId} {d : DataW H} {m : Nat} : ∀ {l : List (DataW H)}, d ∈ l → m ∈ d.weights P e → m ∈ DataW.weightsAll P e l
  | x :: l, hd, hm => by
    simp only [DataW.weightsAll, List.mem_append]
    rcases List.mem_cons.1 hd with rfl | hd
    · exact .inl hm
    · exact .inr (weightsAll_mem hd hm)

/-- A slice of elements of c cells, opened: the list of its elements (to its length), each with what is known of it. -/
theorem open_rows {α : Type} (cells : α → List Value) (c : Nat) (hc0 : 0 < c) (hlen : ∀ x, (cells x).length = c) (Q : α → DataW H → Prop) (o0 : α) {t e : TypeId} (ht : Try.prog.underlying t = some (.slice e)) (hc : Try.prog.cellsOf e = c) (hb : 1 ≤ Try.prog.bytesOf e)
    (hone : ∀ (n : Nat) (cs : List Value) (x : DataW H × List MemPlace), DataW.trod enc Try.prog w 0 (fun _ => true) held n e cs = some x → ∃ o : α, cs = cells o ∧ Q o x.1)
    {fuel : Nat} {cs : List Value} {x : DataW H × List MemPlace} (h : DataW.trod enc Try.prog w 0 (fun _ => true) held fuel t cs = some x) (hw : ∀ m ∈ x.1.weights Try.prog t, m ≤ reachBytes) :
    ∃ (A : Option Addr) (l : List α) (cap : Nat), cs = [.slice A l.length cap] ∧ (A = none → cap = 0) ∧ Reads w w.heap.size [] c A l.length (l.flatMap cells) ∧ l.length ≤ 140737488351232 ∧
      ∀ o ∈ l, ∃ d : DataW H, Q o d ∧ ∀ m ∈ d.weights Try.prog e, m ≤ reachBytes := by
  rcases open_slice ht h with ⟨hcs, hx⟩ | ⟨a, len, cap, m, n, D, Pl, hcs, _, hl, hm, hmm, hx, hi⟩
  · exact ⟨none, [], 0, hcs, fun _ => rfl, Reads.none_, by simp, by simp⟩
  · simp only [if_true] at hmm
    subst hmm
    have hpick : ∀ i, ∃ o : α, i < len → w.cells? 0 (a.add (i * c)) c = some (cells o) ∧ Q o (D i) := fun i => by
      by_cases hil : i < len
      · obtain ⟨cs', h1, h2⟩ := hi i (by omega)
        rw [hc] at h1
        obtain ⟨o, e1, e2⟩ := hone _ _ _ h2
        exact ⟨o, fun _ => ⟨by rw [h1, e1], e2⟩⟩
      · exact ⟨o0, fun h => absurd h hil⟩
    obtain ⟨f, hf⟩ := Classical.axiomOfChoice hpick
    have hreach : ∀ i, i < len → ∀ m ∈ (D i).weights Try.prog e, m ≤ reachBytes := fun i hil m hm => by
      refine hw m ?_
      rw [hx]
      simp only [DataW.weights, ht, List.mem_cons, List.mem_append]
      exact .inr (.inl (weightsAll_mem (List.mem_map.2 ⟨i, List.mem_range.2 hil, rfl⟩) hm))
    have hcap : len ≤ 140737488351232 := by
      have := hw ((len + (m - len)) * Try.prog.bytesOf e) (by rw [hx]; simp [DataW.weights, ht])
      have h2 : (len + (m - len)) * 1 ≤ (len + (m - len)) * Try.prog.bytesOf e := Nat.mul_le_mul_left _ hb
      simp only [reachBytes] at this
      omega
    refine ⟨some a, (List.range len).map f, m, by simpa using hcs, (fun h => by cases h), ?_, by simpa using hcap, fun o ho => ?_⟩
    · have := reads_of cells c hc0 hlen w a len f (fun i hil => (hf i hil).1)
      simpa using this
    · obtain ⟨i, hi', rfl⟩ := List.mem_map.1 ho
      have hil := List.mem_range.1 hi'
      exact ⟨D i, (hf i hil).2, hreach i hil⟩

set_option maxRecDepth 100000 in
theorem layout_of {v : Value} {d : DataW H} {p : List MemPlace} (hv : Value.okWide Try.prog w .any base 28 v) (h : DataW.Trod enc Try.prog w 0 (fun _ => true) true 28 v d p) (hw : ∀ m ∈ d.weights Try.prog 28, m ≤ reachBytes) :
    ∃ (An Ae : Option Addr) (cn ce : Nat) (l : Lay), v = .agg #[.slice An l.nodes.length cn, .slice Ae l.edges.length ce] ∧ (Ae = none → ce = 0) ∧ LayAt w w.heap.size An Ae l := by
  obtain ⟨v0, v1, y0, y1, n, rfl, rfl, rfl, h0, h1⟩ := open_agg2 Try.underlying28 (by kernel_rfl) cells28 hv h
  obtain ⟨An, ln, cn, e0, _, r0, b0, q0⟩ := open_rows Nd.cells 3 (by omega) (fun _ => rfl) (fun nd d => i64ok nd.kind ∧ i64ok nd.zone ∧ ((∀ m ∈ d.weights Try.prog 31, m ≤ reachBytes) → nd.name.size ≤ reachBytes)) ⟨ByteArray.empty, 0, 0⟩ Try.underlying25 cells31 bytes31
    (fun _ _ _ h => node_of h) h0 (fun m hm => hw m (by simp only [DataW.weights, Try.underlying28, List.map, DataW.weightsEach, List.mem_append]; exact .inl hm))
  obtain ⟨Ae, le, ce, e1, z1, r1, b1, q1⟩ := open_rows (fun e : Int × Int => [.int .i64 e.1, .int .i64 e.2]) 2 (by omega) (fun _ => rfl) (fun e _ => i64ok e.1 ∧ i64ok e.2) (0, 0) Try.underlying26 cells32 bytes32
    (fun _ _ _ h => edge_of h) h1 (fun m hm => hw m (by simp only [DataW.weights, Try.underlying28, List.map, DataW.weightsEach, List.mem_append]; exact .inr (.inl hm)))
  simp only [List.cons.injEq, and_true] at e0 e1
  refine ⟨An, Ae, cn, ce, ⟨ln, le⟩, by rw [e0, e1], z1, ⟨r0, r1, Nat.le_refl _, fun x hx => ?_, fun x hx => ?_, fun x hx => ?_, b0, b1⟩⟩
  · obtain ⟨d, ⟨_, _, h3⟩, h4⟩ := q0 x hx
    exact h3 h4
  · obtain ⟨d, h3, _⟩ := q1 x hx
    exact h3
  · obtain ⟨d, ⟨h1, h2, _⟩, _⟩ := q0 x hx
    exact ⟨h1, h2⟩

set_option maxRecDepth 100000 in
theorem script_of {v : Value} {d : DataW H} {p : List MemPlace} (hv : Value.okWide Try.prog w .any base 45 v) (h : DataW.Trod enc Try.prog w 0 (fun _ => true) true 45 v d p) (hw : ∀ m ∈ d.weights Try.prog 45, m ≤ reachBytes) :
    ∃ (As : Option Addr) (cs : Nat) (l : List POp), v = .slice As l.length cs ∧ ScriptAt w w.heap.size As l := by
  obtain ⟨a0, len0, cap0, rfl⟩ := okWide_slice Try.underlying45 hv
  obtain ⟨fuel, hf⟩ := h
  obtain ⟨As, l, cs, e0, _, r0, b0, q0⟩ := open_rows POp.cells 8 (by omega) (fun _ => rfl) (fun o _ => o.t.ok) ⟨0, 0, 0, Tl.zero⟩ Try.underlying45 cells48 bytes48 (fun _ _ _ h => op_of h) hf hw
  refine ⟨As, cs, l, by simpa [Value.cells] using e0, ⟨r0, Nat.le_refl _, b0, fun o ho => ?_⟩⟩
  obtain ⟨d, h3, _⟩ := q0 o ho
  exact h3

/-- 'Fr []' over the world at the call: 'Below'. -/
theorem Fr.below0 {w w' : World} (h : Fr [] w w') : Below w.heap.size w w' := ⟨h.os, h.tape, h.output, h.size, fun k hk => h.block k hk (by simp)⟩
end
end Go.Proofs.Ytncggholhmgoaaa
