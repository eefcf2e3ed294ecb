/- The mirror's Apply and Down; stillagelaw17.awake and few. -/
import Derived.Test.YtncggholhmgoaaaMirrorSend
import Derived.Test.YtncggholhmgoaaaMirrorNew
import Derived.Test.YtncggholhmgoaaaPlantAwake
namespace Go.Proofs.Ytncggholhmgoaaa
set_option linter.unusedVariables false
set_option linter.unusedSimpArgs false
open Go.RowKit

def Nt.cells (n : Nt) : List Value := [.int .i64 n.kind, .int .i64 n.a, .int .i64 n.b, .int .i64 n.c]

theorem mpost_alloc {w : World} {o : Obj} {L : PL} {r : Int × MM} {e : Ending} {w' : World} (h : MPost L r (w.alloc o) e w') : MPost L r w e w' :=
  ⟨h.1, h.2.1, ((Fr.refl L.own w).alloc o).trans h.2.2⟩

set_option maxHeartbeats 2000000 in
theorem mApply_any (w : World) (L : PL) (S : MM) (h : MirrorAt w L S) (k a b c : Int) :
    Calls Try.prog 43 #[.pointer (some ⟨L.p, 0, none⟩), .agg #[.int .i64 k, .int .i64 a, .int .i64 b, .int .i64 c]] w (MPost L (S.apply ⟨k, a, b, c⟩) w) := by
  have HA := Lib.hid h.alloc
  have HP := Lib.hid h
  clear h
  rcases (show k = 1 ∨ k = 4 ∨ k = 5 ∨ k = 7 ∨ k = 8 ∨ (k ≠ 1 ∧ k ≠ 4 ∧ k ≠ 5 ∧ k ≠ 7 ∧ k ≠ 8) by omega) with rfl | rfl | rfl | rfl | rfl | ⟨k1, k2, k3, k4, k5⟩
  · have HF := Lib.hid (show S.apply ⟨1, a, b, c⟩ = S.put a b by simp [MM.apply])
    go_enter Try.func43, Try.ntmps43
    go_wp2_with fail
    refine (mPut_any _ L S (HA.out _) a b).mono ?_
    rintro e w1 ⟨rfl, h1, h2⟩
    go_wp2_with fail
    go_ret
    unfold MPost
    rw [HF.out]
    exact ⟨rfl, h1, ((Fr.refl L.own w).alloc _).trans h2⟩
  · have HF := Lib.hid (show S.apply ⟨4, a, b, c⟩ = S.send a b c by simp [MM.apply])
    go_enter Try.func43, Try.ntmps43
    go_wp2_with fail
    refine (mSend_any _ L S (HA.out _) a b c).mono ?_
    rintro e w1 ⟨rfl, h1, h2⟩
    go_wp2_with fail
    go_ret
    unfold MPost
    rw [HF.out]
    exact ⟨rfl, h1, ((Fr.refl L.own w).alloc _).trans h2⟩
  · have HF := Lib.hid (show S.apply ⟨5, a, b, c⟩ = S.moved a b by simp [MM.apply])
    go_enter Try.func43, Try.ntmps43
    go_wp2_with fail
    refine (mMoved_any _ L S (HA.out _) a b).mono ?_
    rintro e w1 ⟨rfl, h1, h2⟩
    go_wp2_with fail
    go_ret
    unfold MPost
    rw [HF.out]
    exact ⟨rfl, h1, ((Fr.refl L.own w).alloc _).trans h2⟩
  · have HF := Lib.hid (show S.apply ⟨7, a, b, c⟩ = S.drop a by simp [MM.apply])
    go_enter Try.func43, Try.ntmps43
    go_wp2_with fail
    refine (mDrop_any _ L S (HA.out _) a).mono ?_
    rintro e w1 ⟨rfl, h1, h2⟩
    go_wp2_with fail
    go_ret
    unfold MPost
    rw [HF.out]
    exact ⟨rfl, h1, ((Fr.refl L.own w).alloc _).trans h2⟩
  · have HF := Lib.hid (show S.apply ⟨8, a, b, c⟩ = S.mask a (b == 1) by simp [MM.apply])
    have hm := fun W (h : MirrorAt W L S) y (hy : y = (b == 1)) => by
      have := mMask_any W L S h a y
      rw [hy] at this
      exact this
    have HM := Lib.hid hm
    clear hm
    go_enter Try.func43, Try.ntmps43
    go_wp2_with fail
    refine (HM.out _ (HA.out _) (b == 1) rfl).mono ?_
    rintro e w1 ⟨rfl, h1, h2⟩
    go_wp2_with fail
    go_ret
    unfold MPost
    rw [HF.out]
    exact ⟨rfl, h1, ((Fr.refl L.own w).alloc _).trans h2⟩
  · have HF := Lib.hid (show S.apply ⟨k, a, b, c⟩ = (23, S) by simp [MM.apply, k1, k2, k3, k4, k5])
    have q1 : (k == 1) = false := by simp [k1]
    have q2 : (k == 4) = false := by simp [k2]
    have q3 : (k == 5) = false := by simp [k3]
    have q4 : (k == 7) = false := by simp [k4]
    have q5 : (k == 8) = false := by simp [k5]
    clear k1 k2 k3 k4 k5
    go_enter Try.func43, Try.ntmps43
    go_wp2_with fail
    go_ret
    unfold MPost
    rw [HF.out]
    exact ⟨rfl, HA.out _, (Fr.refl L.own w).alloc _⟩

theorem mFew_any (w : World) (An Ae : Option Addr) (n m cn ce : Nat) (hn : n ≤ 140737488351232) (hm : m ≤ 140737488351232) :
    Calls Try.prog 35 #[.agg #[.slice An n cn, .slice Ae m ce]] w fun e w' => e = .returned (.bool (decide (n ≤ 60) && decide (m ≤ 200))) ∧ Fr [] w w' := by
  by_cases h : n ≤ 60
  · go_enter Try.func35, Try.ntmps35
    go_wp2
    go_ret
    exact ⟨ret_bool (by rw [decide_eq_true h, Bool.true_and, decide_eq_decide]; omega), (Fr.refl _ w).alloc _⟩
  · go_enter Try.func35, Try.ntmps35
    go_wp2
    go_ret
    exact ⟨ret_bool (by simp [h]), (Fr.refl _ w).alloc _⟩

def mm0 : MM := MM.init lay0
def mm1 : MM := (mm0.put 5 0).2
def mm2 : MM := (mm1.send 1 5 9).2
def mm3 : MM := (mm2.moved 1 5).2
theorem mm_put : mm0.put 5 0 = (0, mm1) := rfl
theorem mm_send : mm1.send 1 5 9 = (0, mm2) := rfl
theorem mm_taken : mm2.taken 1 = true := rfl
theorem mm_where : mm2.whereIs 5 = 0 := rfl
theorem mm_moved : mm2.moved 1 5 = (0, mm3) := rfl
theorem mm_where3 : mm3.whereIs 5 = 1 := rfl
theorem mm_send3 : mm3.send 1 5 10 = (160, mm3) := rfl

def MNewOk (l : Lay) (w : World) (en : Ending) (w' : World) : Prop :=
  ∃ L, en = .returned (.tuple #[.pointer (some ⟨L.p, 0, none⟩), .int .i64 0]) ∧ MirrorAt w' L (MM.init l) ∧ Fr [] w w' ∧ L.lo = w.heap.size ∧ L.hi ≤ w'.heap.size
theorem mNew_ok (w : World) (B : Nat) (An Ae : Option Addr) (cn ce : Nat) (l : Lay) (hL : LayAt w B An Ae l) (hk : l.ok = true) (hce : Ae = none → ce = 0) (n m : Nat) (hn : n = l.nodes.length) (hm : m = l.edges.length) :
    Calls Try.prog 36 #[.agg #[.slice An n cn, .slice Ae m ce]] w (MNewOk l w) := by
  subst hn hm
  refine (mNew_good w B An Ae cn ce l hL hk hce).mono ?_
  rintro e w' (⟨h, _⟩ | ⟨_, h⟩)
  · rw [hk] at h; cases h
  · exact h

set_option maxHeartbeats 4000000 in
set_option maxRecDepth 100000 in
theorem mAwake_any (w : World) : Calls Try.prog 34 #[] w fun e w' => e = .returned (.bool true) ∧ Fr [] w w' := by
  have hb1 := Blk.new w 31 [.string nameA, .int .i64 1, .int .i64 0, .string nameB, .int .i64 1, .int .i64 0, .string nameC, .int .i64 1, .int .i64 0]
  have hb2 := Blk.new_at (w.alloc (.cells #[.string nameA, .int .i64 1, .int .i64 0, .string nameB, .int .i64 1, .int .i64 0, .string nameC, .int .i64 1, .int .i64 0] 31)) 32 #[.int .i64 0, .int .i64 1, .int .i64 1, .int .i64 2, .int .i64 2, .int .i64 0] (w.heap.size + 1) (by simp)
  have hL := lay_of_blk (l := lay0) (hb1.alloc (.cells #[.int .i64 0, .int .i64 1, .int .i64 1, .int .i64 2, .int .i64 2, .int .i64 0] 32)) hb2 (by decide) (by unfold i64ok; decide) (by unfold i64ok; decide) (by decide) (by decide)
  have HL := Lib.hid hL
  clear hL hb1 hb2
  go_enter Try.func34, Try.ntmps34
  go_wp2_with fail
  refine (mNew_ok _ _ _ _ 3 3 lay0 HL.out lay0_ok (by simp) 3 3 rfl rfl).mono ?_
  rintro e w1 ⟨L, rfl, hP1, hf1, hlo, hhi⟩
  have HLO := Lib.hid hlo; clear hlo
  have hp := fun W (h : MirrorAt W L mm0) => mPut_any W L mm0 h 5 0
  rw [mm_put] at hp
  have H1 := Lib.hid hp
  have hp2 := fun W (h : MirrorAt W L mm1) => mSend_any W L mm1 h 1 5 9
  rw [mm_send] at hp2
  have H2 := Lib.hid hp2
  have hp3 := fun W (h : MirrorAt W L mm2) => mTaken_any W L mm2 h 1
  rw [mm_taken] at hp3
  have H3 := Lib.hid hp3
  have hp4 := fun W (h : MirrorAt W L mm2) => mWhere_any W L mm2 h 5
  rw [mm_where] at hp4
  have H4 := Lib.hid hp4
  have hp5 := fun W (h : MirrorAt W L mm2) => mMoved_any W L mm2 h 1 5
  rw [mm_moved] at hp5
  have H5 := Lib.hid hp5
  have hp6 := fun W (h : MirrorAt W L mm3) => mWhere_any W L mm3 h 5
  rw [mm_where3] at hp6
  have H6 := Lib.hid hp6
  have hp7 := fun W (h : MirrorAt W L mm3) => mSend_any W L mm3 h 1 5 10
  rw [mm_send3] at hp7
  have H7 := Lib.hid hp7
  clear hp hp2 hp3 hp4 hp5 hp6 hp7
  have hP1 : MirrorAt w1 L mm0 := hP1
  go_wp2_with fail
  refine (H1.out _ hP1).mono ?_
  rintro e w2 ⟨rfl, hP2, hf2⟩
  go_wp2_with fail
  refine (H2.out _ hP2).mono ?_
  rintro e w3 ⟨rfl, hP3, hf3⟩
  go_wp2_with fail
  refine (H3.out _ hP3).mono ?_
  rintro e w4 ⟨rfl, hf4⟩
  have hP4 := hP3.fr0 hf4
  go_wp2_with fail
  refine (H4.out _ hP4).mono ?_
  rintro e w5 ⟨rfl, rfl⟩
  go_wp2_with fail
  refine (H5.out _ hP4).mono ?_
  rintro e w6 ⟨rfl, hP6, hf6⟩
  go_wp2_with fail
  refine (H6.out _ hP6).mono ?_
  rintro e w7 ⟨rfl, rfl⟩
  go_wp2_with fail
  refine (H7.out _ hP6).mono ?_
  rintro e w8 ⟨rfl, hP8, hf8⟩
  go_wp2_with fail
  go_ret
  refine ⟨rfl, ?_⟩
  have g0 := hP1.own_ge
  rw [HLO.out] at g0
  have f0 : Fr [] w w1 := (((Fr.refl _ w).alloc _).alloc _).trans hf1
  have f2 := f0.trans' hf2 (fun i hi => .inr (by have := g0 i hi; simp at this; omega))
  have f3 := f2.trans' hf3 (fun i hi => .inr (by have := g0 i hi; simp at this; omega))
  have f4 := f3.trans hf4
  have f5 := f4.trans' hf6 (fun i hi => .inr (by have := g0 i hi; simp at this; omega))
  exact f5.trans' hf8 (fun i hi => .inr (by have := g0 i hi; simp at this; omega))
end Go.Proofs.Ytncggholhmgoaaa
