/- The mirror in memory. -/
import Derived.Test.YtncggholhmgoaaaPlantAt
import Derived.Test.YtncggholhmgoaaaMirrorModel
namespace Go.Proofs.Ytncggholhmgoaaa
set_option linter.unusedVariables false
set_option linter.unusedSimpArgs false
open Go.RowKit

def MD.cells (d : MD) : List Value := [.int .i64 d.tote, .int .i64 d.seq, .bool d.ever, .bool d.down]
def mdCells (l : List MD) : List Value := l.flatMap MD.cells
def mmCells (S : MM) (A : Option Addr) (ce bn bd : Nat) : List Value :=
  .slice A S.edges.length ce :: (intCells S.wh ++ [.slice (some ⟨bn, 0, none⟩) S.nodes.length S.nodes.length, .slice (some ⟨bd, 0, none⟩) S.devs.length S.devs.length])

structure MirrorAt (w : World) (L : PL) (S : MM) : Prop where
  hp : Blk w L.p 122 (mmCells S L.A L.ce L.bn L.bd)
  hn : Blk w L.bn 3 (intCells S.nodes)
  hd : Blk w L.bd 125 (mdCells S.devs)
  he : Reads w L.hi [L.p, L.bn, L.bd] 2 L.A S.edges.length (edgeCells S.edges)
  hhi : L.hi ≤ w.heap.size
  pn : L.p ≠ L.bn
  pd : L.p ≠ L.bd
  nd : L.bn ≠ L.bd
  p1 : L.lo ≤ L.p ∧ L.p < L.hi
  n1 : L.lo ≤ L.bn ∧ L.bn < L.hi
  d1 : L.lo ≤ L.bd ∧ L.bd < L.hi
  lw : S.wh.length = 31
  ln : S.nodes.length ≤ 40
  le : S.edges.length ≤ 120
  ld : S.devs.length = S.edges.length + 1
  ends : ∀ e ∈ S.edges, (0 ≤ e.1 ∧ e.1 < S.nodes.length) ∧ (0 ≤ e.2 ∧ e.2 < S.nodes.length) ∧ e.1 ≠ e.2
  dok : ∀ d ∈ S.devs, d.ok
  d0 : (S.devs.getD 0 MD.zero).tote = 0
  wok : ∀ x ∈ S.wh, 0 ≤ x ∧ x ≤ 40

theorem mdCells_get (l : List MD) (i j : Nat) (hj : j < 4) : (mdCells l)[i * 4 + j]? = (l[i]?).bind fun d => d.cells[j]? := by
  induction l generalizing i with
  | nil => simp [mdCells]
  | cons d l ih =>
    cases i with
    | zero =>
      have hl : j < d.cells.length := by simp [MD.cells]; omega
      simp [mdCells, List.getElem?_append_left hl]
    | succ i =>
      have hl : d.cells.length ≤ (i + 1) * 4 + j := by simp [MD.cells]; omega
      simp only [mdCells, List.flatMap_cons] at ih ⊢
      rw [List.getElem?_append_right hl]
      have : (i + 1) * 4 + j - d.cells.length = i * 4 + j := by simp [MD.cells]; omega
      rw [this, ih]; simp
theorem mdCells_set (l : List MD) (i : Nat) (d : MD) (j : Nat) (v : Value) (hj : j < 4) (hd : l[i]? = some d) (d' : MD) (hv : d'.cells = d.cells.set j v) :
    (mdCells l).set (i * 4 + j) v = mdCells (l.set i d') := by
  induction l generalizing i with
  | nil => simp at hd
  | cons x l ih =>
    have hlen : ∀ y : MD, y.cells.length = 4 := fun y => rfl
    cases i with
    | zero =>
      simp only [List.getElem?_cons_zero, Option.some.injEq] at hd
      subst hd
      simp only [mdCells, List.flatMap_cons, List.set_cons_zero, hv, Nat.zero_mul, Nat.zero_add]
      rw [List.set_append, if_pos (by rw [hlen]; exact hj)]
    | succ i =>
      simp only [List.getElem?_cons_succ] at hd
      simp only [mdCells, List.flatMap_cons, List.set_cons_succ] at ih ⊢
      rw [List.set_append, if_neg (by rw [hlen]; omega), hlen, show (i + 1) * 4 + j - 4 = i * 4 + j by omega, ih i hd]

section
variable {w w' : World} {L : PL} {S : MM}
theorem MirrorAt.c0 (h : MirrorAt w L S) : w.cell? ⟨L.p, 0, none⟩ = some (.slice L.A S.edges.length L.ce) := by rw [h.hp.cell]; rfl
theorem MirrorAt.cw (h : MirrorAt w L S) {t : Nat} (ht : t < 31) : ∃ x, S.wh[t]? = some x ∧ w.cell? ⟨L.p, 1 + t, none⟩ = some (.int .i64 x) := by
  have hl : t < S.wh.length := by rw [h.lw]; exact ht
  refine ⟨S.wh[t], List.getElem?_eq_getElem hl, ?_⟩
  rw [h.hp.cell, mmCells, Nat.add_comm, List.getElem?_cons_succ, List.getElem?_append_left (by simpa [intCells] using hl)]
  simp [intCells, List.getElem?_eq_getElem hl]
theorem MirrorAt.c2 (h : MirrorAt w L S) : w.cell? ⟨L.p, 32, none⟩ = some (.slice (some ⟨L.bn, 0, none⟩) S.nodes.length S.nodes.length) := by
  have := h.lw
  rw [h.hp.cell, mmCells, List.getElem?_cons_succ, List.getElem?_append_right (by simp [intCells]; omega)]; simp [intCells, this]
theorem MirrorAt.c3 (h : MirrorAt w L S) : w.cell? ⟨L.p, 33, none⟩ = some (.slice (some ⟨L.bd, 0, none⟩) S.devs.length S.devs.length) := by
  have := h.lw
  rw [h.hp.cell, mmCells, List.getElem?_cons_succ, List.getElem?_append_right (by simp [intCells]; omega)]; simp [intCells, this]
theorem MirrorAt.node (h : MirrorAt w L S) {i : Nat} (hi : i < S.nodes.length) : ∃ x, S.nodes[i]? = some x ∧ w.cell? ⟨L.bn, i, none⟩ = some (.int .i64 x) := by
  refine ⟨S.nodes[i], List.getElem?_eq_getElem hi, ?_⟩
  rw [h.hn.cell]; simp [intCells, List.getElem?_map, List.getElem?_eq_getElem hi]
theorem MirrorAt.dev_get (h : MirrorAt w L S) {i : Nat} (hi : i < S.devs.length) : ∃ d, S.devs[i]? = some d ∧ w.cell? ⟨L.bd, i * 4, none⟩ = some (.int .i64 d.tote) ∧ w.cell? ⟨L.bd, i * 4 + 1, none⟩ = some (.int .i64 d.seq) ∧ w.cell? ⟨L.bd, i * 4 + 2, none⟩ = some (.bool d.ever) ∧ w.cell? ⟨L.bd, i * 4 + 3, none⟩ = some (.bool d.down) := by
  have hd := List.getElem?_eq_getElem hi
  refine ⟨_, hd, ?_, ?_, ?_, ?_⟩
  · have := mdCells_get S.devs i 0 (by omega); rw [h.hd.cell, show i * 4 = i * 4 + 0 from rfl, this, hd]; rfl
  · have := mdCells_get S.devs i 1 (by omega); rw [h.hd.cell, this, hd]; rfl
  · have := mdCells_get S.devs i 2 (by omega); rw [h.hd.cell, this, hd]; rfl
  · have := mdCells_get S.devs i 3 (by omega); rw [h.hd.cell, this, hd]; rfl
theorem MirrorAt.fr (h : MirrorAt w L S) {T : List Nat} (hf : Fr T w w') (hT : ∀ k, k ∈ T → L.hi ≤ k) : MirrorAt w' L S := by
  have n1 : ∀ k, k < L.hi → k ∉ T := fun k hk hm => by have := hT k hm; omega
  refine { h with hp := h.hp.fr hf (n1 _ h.p1.2), hn := h.hn.fr hf (n1 _ h.n1.2), hd := h.hd.fr hf (n1 _ h.d1.2), he := ?_, hhi := Nat.le_trans h.hhi hf.size }
  exact h.he.keep fun p hp _ => hf.cell (Nat.lt_of_lt_of_le hp h.hhi) (n1 _ hp)
theorem MirrorAt.fr0 (h : MirrorAt w L S) (hf : Fr [] w w') : MirrorAt w' L S := h.fr hf (by simp)
theorem MirrorAt.drewN (h : MirrorAt w L S) (n : Nat) : MirrorAt (w.drewN n) L S := h.fr0 ((Fr.refl [] w).drewN n)
theorem MirrorAt.drew (h : MirrorAt w L S) : MirrorAt w.drew L S := h.fr0 ((Fr.refl [] w).drew)
theorem MirrorAt.alloc (h : MirrorAt w L S) (o : Obj) : MirrorAt (w.alloc o) L S := h.fr0 ((Fr.refl [] w).alloc o)
theorem MirrorAt.keepE (h : MirrorAt w L S) {q : Addr} (hq : q.block ∈ L.own) (u : Value) : Reads (w.setCell q u) L.hi [L.p, L.bn, L.bd] 2 L.A S.edges.length (edgeCells S.edges) :=
  h.he.keep fun p _ hn => World.cell?_setCell_other w q p u (fun e => hn (by rw [← e]; exact hq))
theorem MirrorAt.setNode (h : MirrorAt w L S) {i : Nat} (t : Int) : MirrorAt (w.setCell ⟨L.bn, i, none⟩ (.int .i64 t)) L { S with nodes := S.nodes.set i t } := by
  refine { h with hp := ?_, hn := ?_, hd := h.hd.far (Ne.symm h.nd) _, he := h.keepE (by simp [PL.own]) _, hhi := by simpa using h.hhi, ln := by simpa using h.ln, ends := by simpa using h.ends }
  · simpa [mmCells] using h.hp.far (p := ⟨L.bn, i, none⟩) h.pn _
  · have := h.hn.set_ i (.int .i64 t)
    rw [intCells, ← List.map_set] at this
    exact this
theorem MirrorAt.setWh (h : MirrorAt w L S) {t : Nat} (ht : t < 31) (x : Int) (hx : 0 ≤ x ∧ x ≤ 40) : MirrorAt (w.setCell ⟨L.p, 1 + t, none⟩ (.int .i64 x)) L { S with wh := S.wh.set t x } := by
  refine { h with hp := ?_, hn := h.hn.far (Ne.symm h.pn) _, hd := h.hd.far (Ne.symm h.pd) _, he := h.keepE (by simp [PL.own]) _, hhi := by simpa using h.hhi, lw := by simpa using h.lw, wok := ?_ }
  · have := h.hp.set_ (1 + t) (.int .i64 x)
    rw [mmCells, Nat.add_comm, List.set_cons_succ, List.set_append, if_pos (by simpa [intCells, h.lw] using ht), intCells, ← List.map_set] at this
    rw [Nat.add_comm]
    exact this
  · intro y hy
    rcases List.mem_or_eq_of_mem_set hy with h1 | h1
    · exact h.wok y h1
    · subst h1; exact hx
theorem MirrorAt.setDev (h : MirrorAt w L S) {i : Nat} {d : MD} (hi : 1 ≤ i) (hd : S.devs[i]? = some d) (j : Nat) (hj : j < 4) (v : Value) (d' : MD) (hv : d'.cells = d.cells.set j v) (hk : d'.ok) :
    MirrorAt (w.setCell ⟨L.bd, i * 4 + j, none⟩ v) L { S with devs := S.devs.set i d' } := by
  refine { h with hp := ?_, hn := h.hn.far h.nd _, hd := ?_, he := h.keepE (by simp [PL.own]) _, hhi := by simpa using h.hhi, ld := by simpa using h.ld, dok := ?_, d0 := ?_ }
  · simpa [mmCells] using h.hp.far (p := ⟨L.bd, i * 4 + j, none⟩) h.pd _
  · have := h.hd.set_ (i * 4 + j) v
    rw [mdCells_set S.devs i d j v hj hd d' hv] at this
    exact this
  · intro x hx
    rcases List.mem_or_eq_of_mem_set hx with h1 | h1
    · exact h.dok x h1
    · subst h1; exact hk
  · have := h.d0
    simp only [List.getD, List.getElem?_set] at this ⊢
    rw [if_neg (by omega)]; exact this
theorem MirrorAt.lts (h : MirrorAt w L S) : (L.p < w.heap.size ∧ L.bn < w.heap.size ∧ L.bd < w.heap.size) ∧ (∀ n, L.p < w.heap.size + n) ∧ (∀ n, L.bn < w.heap.size + n) ∧ (∀ n, L.bd < w.heap.size + n) := by
  have := h.hp.lt
  have := h.hn.lt
  have := h.hd.lt
  exact ⟨⟨by omega, by omega, by omega⟩, fun n => by omega, fun n => by omega, fun n => by omega⟩
theorem MirrorAt.own_ge (h : MirrorAt w L S) : ∀ k, k ∈ L.own → L.lo ≤ k := by
  intro k hk
  simp only [PL.own, List.mem_cons, List.not_mem_nil, or_false] at hk
  rcases hk with rfl | rfl | rfl
  · exact h.p1.1
  · exact h.n1.1
  · exact h.d1.1
theorem MirrorAt.fresh (h : MirrorAt w L S) {k : Nat} (hk : w.heap.size ≤ k) : k ∉ L.own := by
  intro hm
  have := h.hp.lt
  have := h.hn.lt
  have := h.hd.lt
  simp only [PL.own, List.mem_cons, List.not_mem_nil, or_false] at hm
  omega
theorem MirrorAt.edge (h : MirrorAt w L S) {i : Nat} (hi : i < S.edges.length) : ∃ ad e, S.edges[i]? = some e ∧ L.A = some ad ∧ ad.block < L.hi ∧ w.cell? (ad.add (i * 2)) = some (.int .i64 e.1) ∧ w.cell? ⟨(ad.add (i * 2)).block, (ad.add (i * 2)).off + 1, none⟩ = some (.int .i64 e.2) := by
  obtain ⟨ad, e, hb, _, hc⟩ := h.he.2 (by omega)
  have key : ∀ (l : List (Int × Int)) (i : Nat) (hi : i < l.length), (edgeCells l)[i * 2]? = some (.int .i64 l[i].1) ∧ (edgeCells l)[i * 2 + 1]? = some (.int .i64 l[i].2) := by
    intro l
    induction l with
    | nil => intro i hi; simp at hi
    | cons x l ih =>
      intro i hi
      cases i with
      | zero => simp [edgeCells]
      | succ i =>
        have := ih i (by simpa using hi)
        simp only [edgeCells, List.flatMap_cons, List.cons_append, List.nil_append] at this ⊢
        rw [show (i + 1) * 2 = i * 2 + 2 by omega, show i * 2 + 2 + 1 = (i * 2 + 1) + 2 by omega]
        simpa using this
  exact ⟨ad, S.edges[i], List.getElem?_eq_getElem hi, e, hb, hc _ _ (key S.edges i hi).1, by rw [← add_step _ _ _ (by omega)]; exact hc _ _ (key S.edges i hi).2⟩
end
end Go.Proofs.Ytncggholhmgoaaa
