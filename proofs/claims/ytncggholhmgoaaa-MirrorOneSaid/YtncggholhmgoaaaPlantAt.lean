/- The plant in memory. -/
import Derived.Test.YtncggholhmgoaaaBase
import Derived.Test.YtncggholhmgoaaaPlantModel
import Derived.Test.YtncggholhmgoaaaProg
import Derived.WalkKit
import Derived.Outline
import Derived.KernelRfl
namespace Go.Proofs.Ytncggholhmgoaaa
set_option linter.unusedVariables false
set_option linter.unusedSimpArgs false
open Go.RowKit

def Dv.cells (d : Dv) : List Value := [.bool d.broken, .bool d.did, .int .u16 d.seq, .int .u16 d.tote]
def devCells (l : List Dv) : List Value := l.flatMap Dv.cells
def edgeCells (l : List (Int × Int)) : List Value := l.flatMap fun e => [.int .i64 e.1, .int .i64 e.2]
def intCells (l : List Int) : List Value := l.map (.int .i64)

def Tl.cells (t : Tl) : List Value := [.int .u8 t.kind, .int .u16 t.dev, .int .u16 t.seq, .int .u16 t.a, .int .u16 t.b]

/-- Where its blocks lie: all below hi, those that are written from lo on. -/
structure PL where
  p : Nat
  bn : Nat
  bd : Nat
  A : Option Addr
  ce : Nat
  lo : Nat
  hi : Nat

structure PlantAt (w : World) (L : PL) (S : PM) : Prop where
  hp : Blk w L.p 105 [.slice L.A S.edges.length L.ce, .slice (some ⟨L.bn, 0, none⟩) S.nodes.length S.nodes.length, .slice (some ⟨L.bd, 0, none⟩) S.devs.length S.devs.length, .int .i64 S.moves]
  hn : Blk w L.bn 3 (intCells S.nodes)
  hd : Blk w L.bd 108 (devCells S.devs)
  he : Reads w L.hi [L.p, L.bn, L.bd] 2 L.A S.edges.length (edgeCells S.edges)
  hhi : L.hi ≤ w.heap.size
  pn : L.p ≠ L.bn
  pd : L.p ≠ L.bd
  nd : L.bn ≠ L.bd
  p1 : L.lo ≤ L.p ∧ L.p < L.hi
  n1 : L.lo ≤ L.bn ∧ L.bn < L.hi
  d1 : L.lo ≤ L.bd ∧ L.bd < L.hi
  ln : S.nodes.length ≤ 40
  le : S.edges.length ≤ 120
  ld : S.devs.length = S.edges.length + 1
  ends : ∀ e ∈ S.edges, (0 ≤ e.1 ∧ e.1 < S.nodes.length) ∧ (0 ≤ e.2 ∧ e.2 < S.nodes.length) ∧ e.1 ≠ e.2
  dok : ∀ d ∈ S.devs, d.ok

/-- The blocks that its calls write. -/
def PL.own (L : PL) : List Nat := [L.p, L.bn, L.bd]

theorem ret_int {k : IntKind} {a b : Int} (h : a = b) : Ending.returned (.int k a) = .returned (.int k b) := by rw [h]
theorem ret_bool {a b : Bool} (h : a = b) : Ending.returned (.bool a) = .returned (.bool b) := by rw [h]

theorem devCells_get (l : List Dv) (i j : Nat) (hj : j < 4) : (devCells l)[i * 4 + j]? = (l[i]?).bind fun d => d.cells[j]? := by
  induction l generalizing i with
  | nil => simp [devCells]
  | cons d l ih =>
    cases i with
    | zero => 
      have hl : j < d.cells.length := by simp [Dv.cells]; omega
      simp [devCells, List.getElem?_append_left hl]
    | succ i =>
      have hl : d.cells.length ≤ (i + 1) * 4 + j := by simp [Dv.cells]; omega
      simp only [devCells, List.flatMap_cons] at ih ⊢
      rw [List.getElem?_append_right hl]
      have : (i + 1) * 4 + j - d.cells.length = i * 4 + j := by simp [Dv.cells]; omega
      rw [this, ih]; simp

section
variable {w : World} {L : PL} {S : PM}
theorem PlantAt.c0 (h : PlantAt w L S) : w.cell? ⟨L.p, 0, none⟩ = some (.slice L.A S.edges.length L.ce) := by rw [h.hp.cell]; rfl
theorem PlantAt.c1 (h : PlantAt w L S) : w.cell? ⟨L.p, 1, none⟩ = some (.slice (some ⟨L.bn, 0, none⟩) S.nodes.length S.nodes.length) := by rw [h.hp.cell]; rfl
theorem PlantAt.c2 (h : PlantAt w L S) : w.cell? ⟨L.p, 2, none⟩ = some (.slice (some ⟨L.bd, 0, none⟩) S.devs.length S.devs.length) := by rw [h.hp.cell]; rfl
theorem PlantAt.c3 (h : PlantAt w L S) : w.cell? ⟨L.p, 3, none⟩ = some (.int .i64 S.moves) := by rw [h.hp.cell]; rfl
theorem PlantAt.node (h : PlantAt w L S) {i : Nat} (hi : i < S.nodes.length) : w.cell? ⟨L.bn, i, none⟩ = some (.int .i64 S.nodes[i]) := by
  rw [h.hn.cell]; simp [intCells, List.getElem?_map, List.getElem?_eq_getElem hi]
theorem PlantAt.dev_get (h : PlantAt w L S) {i : Nat} (hi : i < S.devs.length) : ∃ d, S.devs[i]? = some d ∧ w.cell? ⟨L.bd, i * 4, none⟩ = some (.bool d.broken) ∧ w.cell? ⟨L.bd, i * 4 + 1, none⟩ = some (.bool d.did) ∧ w.cell? ⟨L.bd, i * 4 + 2, none⟩ = some (.int .u16 d.seq) ∧ w.cell? ⟨L.bd, i * 4 + 3, none⟩ = some (.int .u16 d.tote) := by
  have hd := List.getElem?_eq_getElem hi
  refine ⟨_, hd, ?_, ?_, ?_, ?_⟩
  · have := devCells_get S.devs i 0 (by omega); rw [h.hd.cell, show i * 4 = i * 4 + 0 from rfl, this, hd]; rfl
  · have := devCells_get S.devs i 1 (by omega); rw [h.hd.cell, this, hd]; rfl
  · have := devCells_get S.devs i 2 (by omega); rw [h.hd.cell, this, hd]; rfl
  · have := devCells_get S.devs i 3 (by omega); rw [h.hd.cell, this, hd]; rfl
theorem PlantAt.dev (h : PlantAt w L S) {i j : Nat} {d : Dv} (hi : S.devs[i]? = some d) (hj : j < 4) : w.cell? ⟨L.bd, i * 4 + j, none⟩ = d.cells[j]? := by
  rw [h.hd.cell, devCells_get _ _ _ hj, hi]; rfl
end


section
variable {w w' : World} {L : PL} {S : PM}
theorem PlantAt.fr (h : PlantAt w L S) {T : List Nat} (hf : Fr T w w') (hT : ∀ k, k ∈ T → L.hi ≤ k) : PlantAt w' L S := by
  have n1 : ∀ k, k < L.hi → k ∉ T := fun k hk hm => by have := hT k hm; omega
  refine { h with hp := h.hp.fr hf (n1 _ h.p1.2), hn := h.hn.fr hf (n1 _ h.n1.2), hd := h.hd.fr hf (n1 _ h.d1.2), he := ?_, hhi := Nat.le_trans h.hhi hf.size }
  exact h.he.keep fun p hp _ => hf.cell (Nat.lt_of_lt_of_le hp h.hhi) (n1 _ hp)
theorem PlantAt.fr0 (h : PlantAt w L S) (hf : Fr [] w w') : PlantAt w' L S := h.fr hf (by simp)
theorem PlantAt.drewN (h : PlantAt w L S) (n : Nat) : PlantAt (w.drewN n) L S := h.fr0 ((Fr.refl [] w).drewN n)
theorem PlantAt.alloc (h : PlantAt w L S) (o : Obj) : PlantAt (w.alloc o) L S := h.fr0 ((Fr.refl [] w).alloc o)
theorem PlantAt.keepE (h : PlantAt w L S) {q : Addr} (hq : q.block ∈ L.own) (u : Value) : Reads (w.setCell q u) L.hi [L.p, L.bn, L.bd] 2 L.A S.edges.length (edgeCells S.edges) :=
  h.he.keep fun p _ hn => World.cell?_setCell_other w q p u (fun e => hn (by rw [← e]; exact hq))
theorem PlantAt.far (h : PlantAt w L S) {q : Addr} (hq : L.hi ≤ q.block) (u : Value) : PlantAt (w.setCell q u) L S :=
  h.fr (T := [q.block]) ((Fr.refl _ w).setIn (by simp) u) (by simpa using hq)

theorem PlantAt.setNode (h : PlantAt w L S) {i : Nat} (t : Int) : PlantAt (w.setCell ⟨L.bn, i, none⟩ (.int .i64 t)) L { S with nodes := S.nodes.set i t } := by
  refine { h with hp := ?_, hn := ?_, hd := h.hd.far (Ne.symm h.nd) _, he := h.keepE (by simp [PL.own]) _, hhi := by simpa using h.hhi, ln := by simpa using h.ln, ends := by simpa using h.ends }
  · simpa using h.hp.far (p := ⟨L.bn, i, none⟩) h.pn _
  · have := h.hn.set_ i (.int .i64 t)
    rw [intCells, ← List.map_set] at this
    exact this
theorem PlantAt.setMoves (h : PlantAt w L S) (m : Int) : PlantAt (w.setCell ⟨L.p, 3, none⟩ (.int .i64 m)) L { S with moves := m } :=
  { h with hp := h.hp.set_ 3 _, hn := h.hn.far (Ne.symm h.pn) _, hd := h.hd.far (Ne.symm h.pd) _, he := h.keepE (by simp [PL.own]) _, hhi := by simpa using h.hhi }
theorem devCells_set (l : List Dv) (i : Nat) (d : Dv) (j : Nat) (v : Value) (hj : j < 4) (hd : l[i]? = some d) (d' : Dv) (hv : d'.cells = d.cells.set j v) :
    (devCells l).set (i * 4 + j) v = devCells (l.set i d') := by
  induction l generalizing i with
  | nil => simp at hd
  | cons x l ih =>
    have hlen : ∀ y : Dv, y.cells.length = 4 := fun y => rfl
    cases i with
    | zero =>
      simp only [List.getElem?_cons_zero, Option.some.injEq] at hd
      subst hd
      simp only [devCells, List.flatMap_cons, List.set_cons_zero, hv, Nat.zero_mul, Nat.zero_add]
      rw [List.set_append, if_pos (by rw [hlen]; exact hj)]
    | succ i =>
      simp only [List.getElem?_cons_succ] at hd
      simp only [devCells, List.flatMap_cons, List.set_cons_succ] at ih ⊢
      rw [List.set_append, if_neg (by rw [hlen]; omega), hlen, show (i + 1) * 4 + j - 4 = i * 4 + j by omega, ih i hd]
theorem PlantAt.setDev (h : PlantAt w L S) {i : Nat} {d : Dv} (hd : S.devs[i]? = some d) (j : Nat) (hj : j < 4) (v : Value) (d' : Dv) (hv : d'.cells = d.cells.set j v) (hk : d'.ok) :
    PlantAt (w.setCell ⟨L.bd, i * 4 + j, none⟩ v) L { S with devs := S.devs.set i d' } := by
  refine { h with hp := ?_, hn := h.hn.far h.nd _, hd := ?_, he := h.keepE (by simp [PL.own]) _, hhi := by simpa using h.hhi, ld := by simpa using h.ld, dok := ?_ }
  · simpa using h.hp.far (p := ⟨L.bd, i * 4 + j, none⟩) h.pd _
  · have := h.hd.set_ (i * 4 + j) v
    rw [devCells_set S.devs i d j v hj hd d' hv] at this
    exact this
  · intro x hx
    rcases List.mem_or_eq_of_mem_set hx with h1 | h1
    · exact h.dok x h1
    · subst h1; exact hk
theorem PlantAt.drew (h : PlantAt w L S) : PlantAt w.drew L S := h.fr0 ((Fr.refl [] w).drew)
theorem PlantAt.moved (h : PlantAt w L S) {i : Nat} {bk did : Bool} {sq tt : Int} (hd : S.devs[i]? = some ⟨bk, did, sq, tt⟩) (ea eb : Nat) (ts ta m : Int) (ts0 : 0 ≤ ts) (ts1 : ts ≤ 65535) (ta0 : 0 ≤ ta) (ta1 : ta ≤ 65535) :
    PlantAt ((((((w.setCell ⟨L.bn, ea, none⟩ (.int .i64 0)).setCell ⟨L.bn, eb, none⟩ (.int .i64 ta)).setCell ⟨L.bd, i * 4 + 1, none⟩ (.bool true)).setCell ⟨L.bd, i * 4 + 2, none⟩ (.int .u16 ts)).setCell ⟨L.bd, i * 4 + 3, none⟩ (.int .u16 ta)).setCell ⟨L.p, 3, none⟩ (.int .i64 m)) L
      { S with nodes := (S.nodes.set ea 0).set eb ta, devs := S.devs.set i ⟨bk, true, ts, ta⟩, moves := m } := by
  have hk := h.dok _ (List.mem_of_getElem? hd)
  have hl := (List.getElem?_eq_some_iff.1 hd).1
  have h1 := (h.setNode (i := ea) 0).setNode (i := eb) ta
  have h2 := h1.setDev (d := ⟨bk, did, sq, tt⟩) hd 1 (by omega) (.bool true) ⟨bk, true, sq, tt⟩ rfl hk
  have h3 := h2.setDev (i := i) (d := ⟨bk, true, sq, tt⟩) (by simp [hl]) 2 (by omega) (.int .u16 ts) ⟨bk, true, ts, tt⟩ rfl ⟨⟨ts0, ts1⟩, hk.2⟩
  have h4 := h3.setDev (i := i) (d := ⟨bk, true, ts, tt⟩) (by simp [hl]) 3 (by omega) (.int .u16 ta) ⟨bk, true, ts, ta⟩ rfl ⟨⟨ts0, ts1⟩, ta0, ta1⟩
  have h5 := h4.setMoves m
  simpa only [List.set_set] using h5
theorem PlantAt.unfrozen (h : PlantAt w L S) {g : Nat} (hg : g ∈ L.own) (i : Nat) : w.frozen? ⟨g, i, none⟩ = false := by
  simp only [PL.own, List.mem_cons, List.not_mem_nil, or_false] at hg
  rcases hg with rfl | rfl | rfl
  · exact h.hp.frozen i
  · exact h.hn.frozen i
  · exact h.hd.frozen i
/-- Its blocks lie below the heap's size, and however many are laid: in the walk's own spelling. -/
theorem PlantAt.lts (h : PlantAt w L S) : (L.p < w.heap.size ∧ L.bn < w.heap.size ∧ L.bd < w.heap.size) ∧ (∀ n, L.p < w.heap.size + n) ∧ (∀ n, L.bn < w.heap.size + n) ∧ (∀ n, L.bd < w.heap.size + n) := by
  have := h.hp.lt
  have := h.hn.lt
  have := h.hd.lt
  exact ⟨⟨by omega, by omega, by omega⟩, fun n => by omega, fun n => by omega, fun n => by omega⟩
theorem PlantAt.edge (h : PlantAt w L S) {i : Nat} (hi : i < S.edges.length) : ∃ ad, L.A = some ad ∧ ad.block < L.hi ∧ w.cell? (ad.add (i * 2)) = some (.int .i64 S.edges[i].1) ∧ w.cell? ⟨(ad.add (i * 2)).block, (ad.add (i * 2)).off + 1, none⟩ = some (.int .i64 S.edges[i].2) := by
  obtain ⟨ad, e, hb, _, hc⟩ := h.he.2 (by omega)
  have key : ∀ (l : List (Int × Int)) (i : Nat) (hi : i < l.length), (edgeCells l)[i * 2]? = some (.int .i64 l[i].1) ∧ (edgeCells l)[i * 2 + 1]? = some (.int .i64 l[i].2) := by
    intro l
    induction l with
    | nil => intro i hi; simp at hi
    | cons x l ih =>
      intro i hi
      cases i with
      | zero => simp [edgeCells]
      | succ i =>
        have := ih i (by simpa using hi)
        simp only [edgeCells, List.flatMap_cons, List.cons_append, List.nil_append] at this ⊢
        rw [show (i + 1) * 2 = i * 2 + 2 by omega, show i * 2 + 2 + 1 = (i * 2 + 1) + 2 by omega]
        simpa using this
  exact ⟨ad, e, hb, hc _ _ (key S.edges i hi).1, by rw [← add_step _ _ _ (by omega)]; exact hc _ _ (key S.edges i hi).2⟩
end
end Go.Proofs.Ytncggholhmgoaaa
