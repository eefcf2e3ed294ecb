/- stillagelaw20.awake and few. -/
import Derived.Test.YtncggholhmgoaaaPlantNew
import Derived.Test.YtncggholhmgoaaaPlantHear
namespace Go.Proofs.Ytncggholhmgoaaa
set_option linter.unusedVariables false
set_option linter.unusedSimpArgs false
open Go.RowKit

theorem PlantAt.own_ge {w : World} {L : PL} {S : PM} (h : PlantAt w L S) : ∀ k, k ∈ L.own → L.lo ≤ k := by
  intro k hk
  simp only [PL.own, List.mem_cons, List.not_mem_nil, or_false] at hk
  rcases hk with rfl | rfl | rfl
  · exact h.p1.1
  · exact h.n1.1
  · exact h.d1.1

theorem PlantAt.fresh {w : World} {L : PL} {S : PM} (h : PlantAt w L S) {k : Nat} (hk : w.heap.size ≤ k) : k ∉ L.own := by
  intro hm
  have := h.hp.lt
  have := h.hn.lt
  have := h.hd.lt
  simp only [PL.own, List.mem_cons, List.not_mem_nil, or_false] at hm
  omega
theorem few_any (w : World) (An Ae : Option Addr) (n m cn ce : Nat) (hn : n ≤ 140737488351232) (hm : m ≤ 140737488351232) :
    Calls Try.prog 22 #[.agg #[.slice An n cn, .slice Ae m ce]] w fun e w' => e = .returned (.bool (decide (n ≤ 60) && decide (m ≤ 200))) ∧ Fr [] w w' := by
  by_cases h : n ≤ 60
  · go_enter Try.func22, Try.ntmps22
    go_wp2
    go_ret
    exact ⟨ret_bool (by rw [decide_eq_true h, Bool.true_and, decide_eq_decide]; omega), (Fr.refl _ w).alloc _⟩
  · go_enter Try.func22, Try.ntmps22
    go_wp2
    go_ret
    exact ⟨ret_bool (by simp [h]), (Fr.refl _ w).alloc _⟩

def nameA : ByteArray := ⟨#[97]⟩
def nameB : ByteArray := ⟨#[98]⟩
def nameC : ByteArray := ⟨#[99]⟩
def lay0 : Lay := ⟨[⟨nameA, 1, 0⟩, ⟨nameB, 1, 0⟩, ⟨nameC, 1, 0⟩], [(0, 1), (1, 2), (2, 0)]⟩
theorem lay0_ok : lay0.ok = true := by decide +kernel

def dv0 : Dv := ⟨false, false, 0, 0⟩
def dv1 : Dv := ⟨false, true, 9, 5⟩
def pm0 : PM := ⟨[(0, 1), (1, 2), (2, 0)], [0, 0, 0], [dv0, dv0, dv0, dv0], 0⟩
def pm1 : PM := ⟨[(0, 1), (1, 2), (2, 0)], [5, 0, 0], [dv0, dv0, dv0, dv0], 0⟩
def pm2 : PM := ⟨[(0, 1), (1, 2), (2, 0)], [0, 5, 0], [dv0, dv1, dv0, dv0], 1⟩
theorem pm_init : PM.init lay0 = pm0 := rfl
theorem pm_put : pm0.put 5 0 = (0, pm1) := rfl
theorem pm_hear1 : pm1.hear ⟨1, 1, 9, 5, 0⟩ = (pm2, ⟨2, 1, 9, 5, 0⟩, true) := rfl
theorem pm_hear2 : pm2.hear ⟨1, 1, 8, 5, 0⟩ = (pm2, Tl.zero, false) := rfl
theorem pm_hear3 : pm2.hear ⟨1, 1, 10, 5, 0⟩ = (pm2, ⟨3, 1, 10, 5, 1⟩, true) := rfl
theorem pm_where : pm2.whereIs 5 = 1 := rfl

theorem Reads.of_blk {w : World} {g t B size n : Nat} {S : List Nat} {cs : List Value} (h : Blk w g t cs) (hl : cs.length = n * size) (hB : g < B) (hS : g ∉ S) : Reads w B S size (some ⟨g, 0, none⟩) n cs := by
  refine ⟨hl, fun _ => ⟨_, rfl, hB, hS, fun j u hu => ?_⟩⟩
  have : (⟨g, 0, none⟩ : Addr).add j = ⟨g, j, none⟩ := by unfold Addr.add; split <;> simp_all
  rw [this, h.cell, hu]
theorem lay_of_blk {w : World} {l : Lay} {g h : Nat} (hg : Blk w g 31 (ndCells l.nodes)) (hh : Blk w h 32 (edCells l.edges)) (h1 : ∀ x ∈ l.nodes, x.name.size ≤ 140737488351232) (h2 : ∀ e ∈ l.edges, i64ok e.1 ∧ i64ok e.2) (h3 : ∀ x ∈ l.nodes, i64ok x.kind ∧ i64ok x.zone)
    (h4 : l.nodes.length ≤ 1000) (h5 : l.edges.length ≤ 1000) : LayAt w w.heap.size (some ⟨g, 0, none⟩) (some ⟨h, 0, none⟩) l := by
  have e1 : ∀ l : List Nd, (ndCells l).length = l.length * 3 := by intro l; induction l with | nil => rfl | cons x l ih => simp only [ndCells, List.flatMap_cons, List.length_append, List.length_cons] at ih ⊢; rw [ih]; simp [Nd.cells]; omega
  have e2 : ∀ l : List (Int × Int), (edCells l).length = l.length * 2 := by intro l; induction l with | nil => rfl | cons x l ih => simp only [edCells, List.flatMap_cons, List.length_append, List.length_cons] at ih ⊢; rw [ih]; simp; omega
  exact { hn := Reads.of_blk hg (e1 _) hg.lt (by simp), he := Reads.of_blk hh (e2 _) hh.lt (by simp), hB := Nat.le_refl _, names := h1, ints := h2, kinds := h3, ln := by omega, le := by omega }

def NewOk (l : Lay) (w : World) (en : Ending) (w' : World) : Prop :=
  ∃ L, en = .returned (.tuple #[.pointer (some ⟨L.p, 0, none⟩), .int .i64 0]) ∧ PlantAt w' L (PM.init l) ∧ Fr [] w w' ∧ L.lo = w.heap.size ∧ L.hi ≤ w'.heap.size
theorem new_ok (w : World) (B : Nat) (An Ae : Option Addr) (cn ce : Nat) (l : Lay) (hL : LayAt w B An Ae l) (hk : l.ok = true) (hce : Ae = none → ce = 0) (n m : Nat) (hn : n = l.nodes.length) (hm : m = l.edges.length) :
    Calls Try.prog 17 #[.agg #[.slice An n cn, .slice Ae m ce]] w (NewOk l w) := by
  subst hn hm
  refine (new_good w B An Ae cn ce l hL hk hce).mono ?_
  rintro e w' (⟨h, _⟩ | ⟨_, h⟩)
  · rw [hk] at h; cases h
  · exact h

theorem hear1 (w : World) (L : PL) (hP : PlantAt w L pm1) : Calls Try.prog 19 #[.pointer (some ⟨L.p, 0, none⟩), .agg #[.int .u8 1, .int .u16 1, .int .u16 9, .int .u16 5, .int .u16 0]] w fun e w' =>
    e = .returned (.tuple #[.agg #[.int .u8 2, .int .u16 1, .int .u16 9, .int .u16 5, .int .u16 0], .bool true]) ∧ PlantAt w' L pm2 ∧ Fr L.own w w' :=
  hear_any w L pm1 hP (by decide) (by decide) ⟨1, 1, 9, 5, 0⟩ (by unfold Tl.ok; decide)
theorem hear2 (w : World) (L : PL) (hP : PlantAt w L pm2) : Calls Try.prog 19 #[.pointer (some ⟨L.p, 0, none⟩), .agg #[.int .u8 1, .int .u16 1, .int .u16 8, .int .u16 5, .int .u16 0]] w fun e w' =>
    e = .returned (.tuple #[.agg #[.int .u8 0, .int .u16 0, .int .u16 0, .int .u16 0, .int .u16 0], .bool false]) ∧ PlantAt w' L pm2 ∧ Fr L.own w w' :=
  hear_any w L pm2 hP (by decide) (by decide) ⟨1, 1, 8, 5, 0⟩ (by unfold Tl.ok; decide)
theorem hear3 (w : World) (L : PL) (hP : PlantAt w L pm2) : Calls Try.prog 19 #[.pointer (some ⟨L.p, 0, none⟩), .agg #[.int .u8 1, .int .u16 1, .int .u16 10, .int .u16 5, .int .u16 0]] w fun e w' =>
    e = .returned (.tuple #[.agg #[.int .u8 3, .int .u16 1, .int .u16 10, .int .u16 5, .int .u16 1], .bool true]) ∧ PlantAt w' L pm2 ∧ Fr L.own w w' :=
  hear_any w L pm2 hP (by decide) (by decide) ⟨1, 1, 10, 5, 0⟩ (by unfold Tl.ok; decide)
theorem put1 (w : World) (L : PL) (hP : PlantAt w L pm0) : Calls Try.prog 18 #[.pointer (some ⟨L.p, 0, none⟩), .int .i64 5, .int .i64 0] w fun e w' => e = .returned (.int .i64 0) ∧ PlantAt w' L pm1 ∧ Fr L.own w w' :=
  put_any w L pm0 hP 5 0

theorem where1 (w : World) (L : PL) (hP : PlantAt w L pm2) : Calls Try.prog 20 #[.pointer (some ⟨L.p, 0, none⟩), .int .i64 5] w fun e w' => e = .returned (.int .i64 1) ∧ w' = w := where_any w L pm2 hP 5
theorem moves1 (w : World) (L : PL) (hP : PlantAt w L pm2) : Calls Try.prog 21 #[.pointer (some ⟨L.p, 0, none⟩)] w fun e w' => e = .returned (.int .i64 1) ∧ w' = w := moves_any w L pm2 hP

set_option maxHeartbeats 4000000 in
set_option maxRecDepth 100000 in
theorem awake_any (w : World) : Calls Try.prog 16 #[] w fun e w' => e = .returned (.bool true) ∧ Fr [] w w' := by
  have hb1 := Blk.new w 31 [.string nameA, .int .i64 1, .int .i64 0, .string nameB, .int .i64 1, .int .i64 0, .string nameC, .int .i64 1, .int .i64 0]
  have hb2 := Blk.new_at (w.alloc (.cells #[.string nameA, .int .i64 1, .int .i64 0, .string nameB, .int .i64 1, .int .i64 0, .string nameC, .int .i64 1, .int .i64 0] 31)) 32 #[.int .i64 0, .int .i64 1, .int .i64 1, .int .i64 2, .int .i64 2, .int .i64 0] (w.heap.size + 1) (by simp)
  have hL := lay_of_blk (l := lay0) (hb1.alloc (.cells #[.int .i64 0, .int .i64 1, .int .i64 1, .int .i64 2, .int .i64 2, .int .i64 0] 32)) hb2 (by decide) (by unfold i64ok; decide) (by unfold i64ok; decide) (by decide) (by decide)
  have HL := Lib.hid hL
  clear hL hb1 hb2
  go_enter Try.func16, Try.ntmps16
  go_wp2_with fail
  refine (new_ok _ _ _ _ 3 3 lay0 HL.out lay0_ok (by simp) 3 3 rfl rfl).mono ?_
  rintro e w1 ⟨L, rfl, hP1, hf1, hlo, hhi⟩
  rw [pm_init] at hP1
  have HLO := Lib.hid hlo; clear hlo
  go_wp2_with fail
  refine (put1 _ L hP1).mono ?_
  rintro e w2 ⟨rfl, hP2, hf2⟩
  go_wp2_with fail
  refine (hear1 _ L hP2).mono ?_
  rintro e w3 ⟨rfl, hP3, hf3⟩
  have b3 := Blk.new w3 39 [.int .u8 2, .int .u16 1, .int .u16 9, .int .u16 5, .int .u16 0]
  have n3 : w3.heap.size ∉ L.own := hP3.fresh (Nat.le_refl _)
  go_wp2_with fail
  refine (hear2 _ L (hP3.alloc _)).mono ?_
  rintro e w4 ⟨rfl, hP4, hf4⟩
  have c3 := b3.fr hf4 n3
  go_wp2_with fail
  refine (hear3 _ L (hP4.alloc _)).mono ?_
  rintro e w5 ⟨rfl, hP5, hf5⟩
  have d3 := (c3.alloc (.cells #[.int .u8 0, .int .u16 0, .int .u16 0, .int .u16 0, .int .u16 0] 39)).fr hf5 n3
  have y0 := d3.cell 0
  have y1 := d3.cell 1
  have y2 := d3.cell 2
  have y3 := d3.cell 3
  have y4 := d3.cell 4
  have yl : w3.heap.size < w5.heap.size := d3.lt
  simp only [List.getElem?_cons_zero, List.getElem?_cons_succ] at y0 y1 y2 y3 y4
  go_wp2_with fail
  refine (where1 _ L (hP5.alloc _)).mono ?_
  rintro e w6 ⟨rfl, rfl⟩
  go_wp2_with fail
  refine (moves1 _ L (hP5.alloc _)).mono ?_
  rintro e w6 ⟨rfl, rfl⟩
  go_wp2_with fail
  go_ret
  refine ⟨rfl, ?_⟩
  have g0 := hP1.own_ge
  rw [HLO.out] at g0
  have f0 : Fr [] w w1 := (((Fr.refl _ w).alloc _).alloc _).trans hf1
  have f2 := f0.trans' hf2 (fun i hi => .inr (by have := g0 i hi; simp at this; omega))
  have f3 := f2.trans' hf3 (fun i hi => .inr (by have := g0 i hi; simp at this; omega))
  have f4 := (f3.alloc _).trans' hf4 (fun i hi => .inr (by have := g0 i hi; simp at this; omega))
  have f5 := (f4.alloc _).trans' hf5 (fun i hi => .inr (by have := g0 i hi; simp at this; omega))
  exact f5.alloc _
end Go.Proofs.Ytncggholhmgoaaa
