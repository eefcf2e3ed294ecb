/- slices.Clone of edges; plant.New. -/
import Derived.Test.YtncggholhmgoaaaLayCheck
import Derived.Test.YtncggholhmgoaaaAppendAny
import Derived.Test.YtncggholhmgoaaaPlantAt
import Derived.WalkSpells
import Derived.Deep.RegionHeld3
namespace Go.Proofs.Ytncggholhmgoaaa
set_option linter.unusedVariables false
set_option linter.unusedSimpArgs false
open Go.RowKit

theorem info32 : (Try.prog.info? 32).map (fun i => (i.zero, i.size, i.bytes)) = some (some (.agg #[.int .i64 0, .int .i64 0]), 2, 16) := by kernel_rfl

def ClonePost (w : World) (e : TypeId) (size n : Nat) (xs : List Value) (en : Ending) (w' : World) : Prop :=
  ∃ A c, en = .returned (.slice A n c) ∧ w'.ownsRow w.heap.size e size (.slice A n c) n xs ∧ Fr [] w w'

set_option maxHeartbeats 1000000 in
set_option maxRecDepth 100000 in
theorem clone_any (w : World) (B : Nat) (S : List Nat) (A : Option Addr) (n c : Nat) (xs : List Value) (hr : Reads w B S 2 A n xs) (hB : B ≤ w.heap.size) (h1 : ∀ u ∈ xs, u.oneCell' = true) (hn : n ≤ 1000000) (hc0 : A = none → c = 0) :
    Calls Try.prog 55 #[.slice A n c] w (ClonePost w 32 2 n xs) := by
  obtain ⟨i0, hi0, hz0, hz1, hz2⟩ := info_parts info32
  cases A with
  | none =>
    obtain rfl := hc0 rfl
    have hn0 : n = 0 := by
      rcases Nat.eq_zero_or_pos n with h | h
      · exact h
      · obtain ⟨ad, h, _⟩ := hr.2 h; cases h
    subst hn0
    have hx : xs = [] := List.eq_nil_of_length_eq_zero (by simpa using hr.1)
    subst hx
    have hq := fun W => Lib.run_eql_slice_nil (P := Try.prog) W 26 32 none 0 0 0 0 Try.underlying26
    go_enter Try.func55, Try.ntmps55
    go_wp2
    go_ret
    exact ⟨none, 0, rfl, World.ownsRow_nil w _ _ _, Fr.refl _ w⟩
  | some ad =>
    have hq := fun W => Lib.run_eql_slice_nil (P := Try.prog) W 26 32 (some ad) n c 0 0 Try.underlying26
    go_enter Try.func55, Try.ntmps55
    have hown0 : (w.alloc (.cells #[] 32)).ownsRow w.heap.size 32 2 (.slice (some ⟨w.heap.size, 0, none⟩) 0 0) 0 [] :=
      ⟨by simp, .inr ⟨w.heap.size, 0, #[], rfl, Nat.le_refl _, heap_alloc_new w _, Nat.le_refl _, by simp, by simp, by simp⟩⟩
    have hr' : Reads (w.alloc (.cells #[] 32)) B S 2 (some ad) n xs := hr.alloc hB _
    have HC := Lib.hid hc0
    clear hc0
    go_wp2_with (at_builtin; refine wpList_append_any _ rfl (.tmp 5) (.tmp 6) 26 rfl w.heap.size 32 i0 _ 2 16 Try.underlying26 hi0 hz0 hz1 hz2 rfl (by omega) (.slice (some ⟨w.heap.size, 0, none⟩) 0 0) 0 [] rfl hown0 B S (some ad) n c xs rfl hr' h1 (by simp only [maxLen]; omega) (by omega) (by simp) ?_; intro v' w1 hown1 hg1 hat1)
    go_ret
    obtain ⟨A', c', hv, _⟩ := own_form hown1
    rw [Nat.zero_add] at hv
    refine ⟨A', c', by rw [← hv]; rfl, by rw [← hv]; simpa using hown1, ((Fr.refl [] w).alloc _).grown hg1 (fun k hk => .inr ?_)⟩
    simp [Value.ownBlock] at hk
    omega

def ClonePost2 (w1 w : World) (e : TypeId) (size n : Nat) (xs : List Value) (en : Ending) (w' : World) : Prop :=
  ∃ A c, en = .returned (.slice A n c) ∧ w'.ownsRow w.heap.size e size (.slice A n c) n xs ∧ Fr [] w w' ∧ Fr [] w1 w'
theorem clone_from {w1 w : World} {v : Value} {e : TypeId} {size n : Nat} {xs : List Value} (hF : Fr [] w1 w) (h : Calls Try.prog 55 #[v] w (ClonePost w e size n xs)) : Calls Try.prog 55 #[v] w (ClonePost2 w1 w e size n xs) :=
  h.mono fun _ _ ⟨A, c, he, ho, hf⟩ => ⟨A, c, he, ho, hf, hF.trans hf⟩

theorem info3 : (Try.prog.info? 3).map (fun i => (i.zero, i.size, i.bytes)) = some (some (.int .i64 0), 1, 8) := by kernel_rfl
theorem info108 : (Try.prog.info? 108).map (fun i => (i.zero, i.size, i.bytes)) = some (some (.agg #[.bool false, .bool false, .int .u16 0, .int .u16 0]), 4, 6) := by kernel_rfl

/-- A new plant of a layout. -/
def PM.init (l : Lay) : PM := ⟨l.edges, List.replicate l.nodes.length 0, List.replicate (l.edges.length + 1) ⟨false, false, 0, 0⟩, 0⟩

theorem Blk.new_at (w : World) (t : TypeId) (cs : Array Value) (n : Nat) (hn : n = w.heap.size) : Blk (w.alloc (.cells cs t)) n t cs.toList := by
  subst hn; exact heap_alloc_new w _
theorem made3 (n : Nat) : (madeCells #[.int .i64 0] n).toList = intCells (List.replicate n 0) := by
  have := made_flat #[Value.int .i64 0] n (by simp)
  simp only [List.size_toArray, List.length_cons, List.length_nil, Nat.zero_add, Nat.mul_one] at this
  rw [this, intCells, List.map_replicate]
  induction n with
  | zero => rfl
  | succ n ih => simp [List.replicate_succ]
theorem made108 (n : Nat) : (madeCells #[.bool false, .bool false, .int .u16 0, .int .u16 0] (n * 4)).toList = devCells (List.replicate n ⟨false, false, 0, 0⟩) := by
  have h1 := made_flat #[Value.bool false, .bool false, .int .u16 0, .int .u16 0] n (by simp)
  rw [show n * 4 = n * (#[Value.bool false, .bool false, .int .u16 0, .int .u16 0] : Array Value).size from rfl, h1]
  clear h1
  induction n with
  | zero => rfl
  | succ n ih =>
    rw [List.replicate_succ, List.flatten_cons, ih, List.replicate_succ]
    rfl
theorem Lay.ok_ends' {l : Lay} (h : l.ok = true) : ∀ e ∈ (PM.init l).edges, (0 ≤ e.1 ∧ e.1 < ((PM.init l).nodes.length : Int)) ∧ (0 ≤ e.2 ∧ e.2 < ((PM.init l).nodes.length : Int)) ∧ e.1 ≠ e.2 := by
  have hl : (PM.init l).nodes.length = l.nodes.length := by simp [PM.init]
  rw [hl]
  exact Lay.ok_ends h
theorem plant_made {w w2 wx : World} {l : Lay} {A' : Option Addr} {c' p bn bd base : Nat} (hk : l.ok = true) (hfx : Fr [] w2 wx)
    (hp : Blk wx p 105 [.slice A' l.edges.length c', .slice (some ⟨bn, 0, none⟩) l.nodes.length l.nodes.length, .slice (some ⟨bd, 0, none⟩) (l.edges.length + 1) (l.edges.length + 1), .int .i64 0])
    (hn : Blk wx bn 3 (madeCells #[.int .i64 0] l.nodes.length).toList) (hd : Blk wx bd 108 (madeCells #[.bool false, .bool false, .int .u16 0, .int .u16 0] ((l.edges.length + 1) * 4)).toList)
    (hown : w2.ownsRow base 32 2 (.slice A' l.edges.length c') l.edges.length (edCells l.edges))
    (pn : p ≠ bn) (pd : p ≠ bd) (nd : bn ≠ bd) (lp : w.heap.size ≤ p) (ln : w.heap.size ≤ bn) (ld : w.heap.size ≤ bd)
    (gp : ∀ g, base ≤ g → g < w2.heap.size → g ≠ p) (gn : ∀ g, base ≤ g → g < w2.heap.size → g ≠ bn) (gd : ∀ g, base ≤ g → g < w2.heap.size → g ≠ bd) :
    ∃ L : PL, L.p = p ∧ PlantAt wx L (PM.init l) ∧ L.lo = w.heap.size ∧ L.hi ≤ wx.heap.size := by
  obtain ⟨_, h2, h3, _, _⟩ := Lay.ok_parts hk
  refine ⟨⟨p, bn, bd, A', c', w.heap.size, wx.heap.size⟩, rfl, ?_, rfl, Nat.le_refl _⟩
  rw [made3] at hn
  rw [made108] at hd
  have hR := Reads.of_own hown
  refine { hp := by simp only [PM.init, List.length_replicate]; exact hp, hn := hn, hd := hd, he := ?_, hhi := Nat.le_refl _, pn := pn, pd := pd, nd := nd, p1 := ⟨lp, hp.lt⟩, n1 := ⟨ln, hn.lt⟩, d1 := ⟨ld, hd.lt⟩, ln := by simpa [PM.init] using h2, le := h3, ld := by simp only [PM.init, List.length_replicate], ends := Lay.ok_ends' hk, dok := ?_ }
  · refine ⟨hR.1, fun h0 => ?_⟩
    obtain ⟨ad, hA, hb, _, hc⟩ := hR.2 h0
    have hg : base ≤ ad.block ∧ ad.block < w2.heap.size := own_lt hown (by rw [hA]; rfl)
    refine ⟨ad, hA, Nat.lt_of_lt_of_le hb hfx.size, ?_, fun j u hu => ?_⟩
    · simp only [List.mem_cons, List.not_mem_nil, or_false, not_or]
      exact ⟨gp _ hg.1 hg.2, gn _ hg.1 hg.2, gd _ hg.1 hg.2⟩
    · rw [hfx.cell (by rw [block_of_add]; exact hb) (by simp)]
      exact hc j u hu
  · intro d hd
    simp only [PM.init] at hd
    rw [List.eq_of_mem_replicate hd]
    exact ⟨⟨by simp, by simp⟩, by simp, by simp⟩

theorem new_post {w w2 wx : World} {l : Lay} {A' : Option Addr} {c' p bn bd base : Nat} (hk : l.ok = true) (hfx : Fr [] w2 wx) (hFx : Fr [] w wx)
    (hp : Blk wx p 105 [.slice A' l.edges.length c', .slice (some ⟨bn, 0, none⟩) l.nodes.length l.nodes.length, .slice (some ⟨bd, 0, none⟩) (l.edges.length + 1) (l.edges.length + 1), .int .i64 0])
    (hn : Blk wx bn 3 (madeCells #[.int .i64 0] l.nodes.length).toList) (hd : Blk wx bd 108 (madeCells #[.bool false, .bool false, .int .u16 0, .int .u16 0] ((l.edges.length + 1) * 4)).toList)
    (hown : w2.ownsRow base 32 2 (.slice A' l.edges.length c') l.edges.length (edCells l.edges))
    (pn : p ≠ bn) (pd : p ≠ bd) (nd : bn ≠ bd) (lp : w.heap.size ≤ p) (ln : w.heap.size ≤ bn) (ld : w.heap.size ≤ bd)
    (gp : ∀ g, base ≤ g → g < w2.heap.size → g ≠ p) (gn : ∀ g, base ≤ g → g < w2.heap.size → g ≠ bn) (gd : ∀ g, base ≤ g → g < w2.heap.size → g ≠ bd) :
    ∃ L : PL, Ending.returned (.tuple #[.pointer (some ⟨p, 0, none⟩), .int .i64 0]) = Ending.returned (.tuple #[.pointer (some ⟨L.p, 0, none⟩), .int .i64 0]) ∧ PlantAt wx L (PM.init l) ∧ Fr [] w wx ∧ L.lo = w.heap.size ∧ L.hi ≤ wx.heap.size := by
  obtain ⟨L, h1, h2, h3, h4⟩ := plant_made hk hfx hp hn hd hown pn pd nd lp ln ld gp gn gd
  exact ⟨L, by rw [h1], h2, hFx, h3, h4⟩

def NewPost (l : Lay) (w : World) (en : Ending) (w' : World) : Prop :=
  (l.ok = false ∧ en = .returned (.tuple #[.pointer none, .int .i64 61]) ∧ Fr [] w w') ∨
  (l.ok = true ∧ ∃ L, en = .returned (.tuple #[.pointer (some ⟨L.p, 0, none⟩), .int .i64 0]) ∧ PlantAt w' L (PM.init l) ∧ Fr [] w w' ∧ L.lo = w.heap.size ∧ L.hi ≤ w'.heap.size)

set_option maxHeartbeats 1000000 in
set_option maxRecDepth 100000 in
theorem new_bad (w : World) (B : Nat) (An Ae : Option Addr) (cn ce : Nat) (l : Lay) (hL : LayAt w B An Ae l) (hk : l.ok = false) :
    Calls Try.prog 17 #[.agg #[.slice An l.nodes.length cn, .slice Ae l.edges.length ce]] w (NewPost l w) := by
  have hL' := fun o => hL.fr ((Fr.refl [] w).alloc o)
  have HK := Lib.hid hk
  have hc := fun o => check_any _ B An Ae cn ce l (hL' o)
  unfold CheckPost at hc
  rw [hk] at hc
  have HC := Lib.hid hc
  clear hc hk
  go_enter Try.func17, Try.ntmps17
  go_wp2_with (go_at_call 54; refine (HC.out _).mono ?_; rintro e w1 ⟨rfl, hf1⟩; simp only [errOf])
  go_ret2
  exact .inl ⟨HK.out, rfl, ((Fr.refl _ _).alloc _).trans hf1⟩

set_option maxHeartbeats 2000000 in
set_option maxRecDepth 100000 in
theorem new_good (w : World) (B : Nat) (An Ae : Option Addr) (cn ce : Nat) (l : Lay) (hL : LayAt w B An Ae l) (hk : l.ok = true) (hce : Ae = none → ce = 0) :
    Calls Try.prog 17 #[.agg #[.slice An l.nodes.length cn, .slice Ae l.edges.length ce]] w (NewPost l w) := by
  have hL' := fun o => hL.fr ((Fr.refl [] w).alloc o)
  have HK := Lib.hid hk
  have hc := fun o => check_any _ B An Ae cn ce l (hL' o)
  unfold CheckPost at hc
  rw [hk] at hc
  have HC := Lib.hid hc
  obtain ⟨h1, h2, h3, _, _⟩ := Lay.ok_parts hk
  have Hce := Lib.hid hce
  clear hc hk hce
  obtain ⟨i3, hi3, hz3, hs3, hb3⟩ := info_parts info3
  obtain ⟨i8, hi8, hz8, hs8, hb8⟩ := info_parts info108
  have hmk1 := fun W => run_make_rowN (P := Try.prog) 57 3 i3 _ Try.underlying57 hi3 hz3 .i64 .i64 l.nodes.length l.nodes.length (Nat.le_refl _) (by rw [hb3]; omega) (by omega) W
  have hmk2 := fun W => run_make_rowN (P := Try.prog) 103 108 i8 _ Try.underlying103 hi8 hz8 .i64 .i64 (l.edges.length + 1) (l.edges.length + 1) (Nat.le_refl _) (by rw [hb8]; omega) (by omega) W
  simp only [Int.natCast_add, Int.natCast_one] at hmk2
  have hb0 := (Blk.new w 28 [.slice An l.nodes.length cn, .slice Ae l.edges.length ce])
  go_enter Try.func17, Try.ntmps17
  have hcl := fun w1 (hL1 : LayAt w1 B An Ae l) W (hF : Fr [] w1 W) => clone_from hF (clone_any W B [] Ae l.edges.length ce (edCells l.edges) (hL1.he.fr hF hL1.hB) (Nat.le_trans hL1.hB hF.size) (by intro u hu; simp only [edCells, List.mem_flatMap] at hu; obtain ⟨x, _, hx⟩ := hu; simp at hx; rcases hx with rfl | rfl <;> rfl) (by omega) Hce.out)
  have HCL0 := Lib.hid hcl
  clear hcl
  go_wp2_with (go_at_call 54; refine (HC.out _).mono ?_; rintro e w1 ⟨rfl, hf1⟩; simp only [errOf]; have b1 := hb0.fr hf1 (by simp); have y0 := b1.cell 0; have y1 := b1.cell 1; simp only [List.getElem?_cons_zero, List.getElem?_cons_succ] at y0 y1; have hw1 := ((Fr.refl [] w).alloc (.cells #[.slice An l.nodes.length cn, .slice Ae l.edges.length ce] 28)).trans hf1; have hL1 := hL.fr hw1; have HCL := Lib.hid (HCL0.out w1 hL1); have q0 := b1.lt; have q1 := fun n => Nat.lt_add_right n q0)
  have hwr : IntKind.i64.wrap ((l.edges.length : Int) + 1) = (l.edges.length : Int) + 1 := IntWalk.i64_in _ (by omega)
  go_region_held3 (fun w' => w'.cell? ⟨w.heap.size, 0, none⟩ = some (.slice An l.nodes.length cn) ∧ w'.cell? ⟨w.heap.size, 1, none⟩ = some (.slice Ae l.edges.length ce)) (go_keep) (first | (go_at_call 55; refine (HCL.out _ ?hr).mono ?_; (case hr => (repeat (first | (with_reducible exact Fr.refl _ _) | (with_reducible refine Fr.drew ?_) | (with_reducible refine Fr.alloc ?_ _)))); rintro e w2 ⟨A', c', rfl, hown, hf2, hf3⟩; have b2 := b1.fr hf3 (by simp); have z0 := b2.cell 0; have z1 := b2.cell 1; simp only [List.getElem?_cons_zero, List.getElem?_cons_succ] at z0 z1; have r0 := b2.lt; have r1 := fun n => Nat.lt_add_right n r0))
  all_goals clear hwr hmk1 hmk2
  all_goals
    go_wp2
    go_ret2
    have s1 := hw1.size
    have s2 := hf2.size
    simp only [World.size_alloc, World.size_drew] at s1 s2
    have hfw := hw1.trans hf3
    refine .inr ⟨HK.out, ?_⟩
    apply new_post (w2 := w2) (A' := A') (c' := c') HK.out
    case hfx => (repeat (first | (with_reducible exact Fr.refl _ _) | (with_reducible exact hfw) | (with_reducible refine Fr.drew ?_) | (with_reducible refine Fr.alloc ?_ _)))
    case hFx => (repeat (first | (with_reducible exact Fr.refl _ _) | (with_reducible exact hfw) | (with_reducible refine Fr.drew ?_) | (with_reducible refine Fr.alloc ?_ _)))
    case hp => (refine Blk.new_at _ _ _ _ ?_; first | rfl | simp)
    case hn => (repeat (first | ((with_reducible refine Blk.new_at _ _ _ _ ?_); first | rfl | (simp; done)) | (with_reducible refine Blk.drew ?_) | ((with_reducible refine Blk.fr ?_ hf2 ?h); case h => simp) | (with_reducible refine Blk.alloc ?_ _)))
    case hd => (repeat (first | ((with_reducible refine Blk.new_at _ _ _ _ ?_); first | rfl | (simp; done)) | (with_reducible refine Blk.drew ?_) | ((with_reducible refine Blk.fr ?_ hf2 ?h); case h => simp) | (with_reducible refine Blk.alloc ?_ _)))
    case hown => exact hown
    all_goals first | omega | (simp; done) | (simp; omega)

theorem new_any (w : World) (B : Nat) (An Ae : Option Addr) (cn ce : Nat) (l : Lay) (hL : LayAt w B An Ae l) (hce : Ae = none → ce = 0) :
    Calls Try.prog 17 #[.agg #[.slice An l.nodes.length cn, .slice Ae l.edges.length ce]] w (NewPost l w) := by
  cases hk : l.ok with
  | false => exact new_bad w B An Ae cn ce l hL hk
  | true => exact new_good w B An Ae cn ce l hL hk hce
end Go.Proofs.Ytncggholhmgoaaa
