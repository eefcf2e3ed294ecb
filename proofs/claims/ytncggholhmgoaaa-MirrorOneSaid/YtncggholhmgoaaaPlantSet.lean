/- The plant's calls that write: Break, Mend, Put; the distance of two numbers that go round. -/
import Derived.Test.YtncggholhmgoaaaPlantGet
import Derived.RegionTactic
import Derived.Deep.QuietTactic
import Derived.BigQuiet
namespace Go.Proofs.Ytncggholhmgoaaa
set_option linter.unusedVariables false
set_option linter.unusedSimpArgs false
open Go.RowKit

theorem dist_wrap (a b : Int) : wrap64 (IntKind.i16.wrap (IntKind.u16.wrap (b - a))) = dist a b := by
  have h1 : IntKind.u16.wrap (b - a) = (b - a) % 65536 := by simp [IntKind.wrap, IntKind.signed, IntKind.bits]
  have h2 : ∀ x : Int, IntKind.i16.wrap x = (x + 32768) % 65536 - 32768 := by
    intro x; simp [IntKind.wrap, IntKind.signed, IntKind.bits]; split <;> omega
  rw [h1, h2]
  unfold dist wrap64
  split <;> omega
theorem dist_any (w : World) (a b : Int) :
    Calls Try.prog 88 #[.int .u16 a, .int .u16 b] w fun e w' => e = .returned (.int .i64 (dist a b)) ∧ w' = w := by
  have H := Lib.hid (dist_wrap a b)
  go_enter Try.func88, Try.ntmps88
  go_wp2
  go_ret
  exact ⟨ret_int H.out, rfl⟩
theorem behind_any (w : World) (a b : Int) :
    Calls Try.prog 84 #[.int .u16 a, .int .u16 b] w fun e w' => e = .returned (.bool (decide (0 < dist a b))) ∧ w' = w := by
  go_enter Try.func84, Try.ntmps84
  go_wp2_with (go_at_call 88; refine (dist_any _ _ _).mono ?_; rintro e w' ⟨rfl, rfl⟩)
  go_ret
  exact ⟨rfl, rfl⟩

theorem break_any (w : World) (L : PL) (S : PM) (h : PlantAt w L S) (d : Int) :
    Calls Try.prog 24 #[.pointer (some ⟨L.p, 0, none⟩), .int .i64 d] w fun e w' =>
      e = .returned (.tuple #[.agg (S.fault d true).2.1.cells.toArray, .int .i64 (S.fault d true).2.2]) ∧ PlantAt w' L (S.fault d true).1 ∧ Fr L.own w w' := by
  have c2 := h.c2
  cases hb : S.noDev d with
  | true =>
    have h' := h.alloc
    go_enter Try.func24, Try.ntmps24
    go_wp2_with (go_at_call 58; refine (noDev_any _ L S (h' _) _).mono ?_; rintro e w' ⟨rfl, rfl⟩)
    refine bodyPost_ret (v := .tuple #[.agg Tl.zero.cells.toArray, .int .i64 1]) (by simp [results, Try.results24, go_sem, Tl.cells, Tl.zero]) rfl ?_
    simp only [PM.fault, hb, if_true]
    exact ⟨trivial, h' _, (Fr.refl _ w).alloc _⟩
  | false =>
    have h2 : 1 ≤ d ∧ d < S.devs.length := by simpa [PM.noDev] using hb
    obtain ⟨h2, h3⟩ := h2
    obtain ⟨i, rfl⟩ := Int.eq_ofNat_of_zero_le (show 0 ≤ d by omega)
    obtain ⟨dv, hdv, e0, e1, e2, e3⟩ := h.dev_get (i := i) (by omega)
    have hw : IntKind.u16.wrap (i : Int) = i := by rw [IntWalk.u16_in]; have := h.ld; have := h.le; omega
    have hs := h.setDev hdv 0 (by omega) (.bool true) { dv with broken := true } rfl (by have := h.dok dv (List.mem_of_getElem? hdv); exact this)
    have H := Lib.hid hdv; clear hdv
    have HW := Lib.hid hw; clear hw
    have fz := h.unfrozen (g := L.bd) (by simp [PL.own]) (i * 4)
    have h' := h.alloc
    obtain ⟨⟨lp, ln, ld⟩, lp', ln', ld'⟩ := h.lts
    go_enter Try.func24, Try.ntmps24
    go_wp2_with (go_at_call 58; refine (noDev_any _ L S (h' _) _).mono ?_; rintro e w' ⟨rfl, rfl⟩)
    refine bodyPost_ret (v := .tuple #[.agg (Tl.mk 4 (IntKind.u16.wrap i) 0 0 0).cells.toArray, .int .i64 0]) (by simp [results, Try.results24, go_sem, Tl.cells]) rfl ?_
    have hf : S.fault i true = ({ S with devs := S.devs.set i { dv with broken := true } }, ⟨4, i, 0, 0, 0⟩, 0) := by
      simp [PM.fault, hb, PM.setBroken, H.out]
    rw [hf, HW.out]
    exact ⟨rfl, hs.alloc _, ((Fr.refl _ w).setIn (by simp [PL.own]) _).alloc _⟩

theorem mend_any (w : World) (L : PL) (S : PM) (h : PlantAt w L S) (d : Int) :
    Calls Try.prog 25 #[.pointer (some ⟨L.p, 0, none⟩), .int .i64 d] w fun e w' =>
      e = .returned (.tuple #[.agg (S.fault d false).2.1.cells.toArray, .int .i64 (S.fault d false).2.2]) ∧ PlantAt w' L (S.fault d false).1 ∧ Fr L.own w w' := by
  have c2 := h.c2
  cases hb : S.noDev d with
  | true =>
    have h' := h.alloc
    go_enter Try.func25, Try.ntmps25
    go_wp2_with (go_at_call 58; refine (noDev_any _ L S (h' _) _).mono ?_; rintro e w' ⟨rfl, rfl⟩)
    refine bodyPost_ret (v := .tuple #[.agg Tl.zero.cells.toArray, .int .i64 1]) (by simp [results, Try.results25, go_sem, Tl.cells, Tl.zero]) rfl ?_
    simp only [PM.fault, hb, if_true]
    exact ⟨trivial, h' _, (Fr.refl _ w).alloc _⟩
  | false =>
    have h2 : 1 ≤ d ∧ d < S.devs.length := by simpa [PM.noDev] using hb
    obtain ⟨h2, h3⟩ := h2
    obtain ⟨i, rfl⟩ := Int.eq_ofNat_of_zero_le (show 0 ≤ d by omega)
    obtain ⟨dv, hdv, e0, e1, e2, e3⟩ := h.dev_get (i := i) (by omega)
    have hw : IntKind.u16.wrap (i : Int) = i := by rw [IntWalk.u16_in]; have := h.ld; have := h.le; omega
    have hs := h.setDev hdv 0 (by omega) (.bool false) { dv with broken := false } rfl (by have := h.dok dv (List.mem_of_getElem? hdv); exact this)
    have H := Lib.hid hdv; clear hdv
    have HW := Lib.hid hw; clear hw
    have fz := h.unfrozen (g := L.bd) (by simp [PL.own]) (i * 4)
    have h' := h.alloc
    obtain ⟨⟨lp, ln, ld⟩, lp', ln', ld'⟩ := h.lts
    go_enter Try.func25, Try.ntmps25
    go_wp2_with (go_at_call 58; refine (noDev_any _ L S (h' _) _).mono ?_; rintro e w' ⟨rfl, rfl⟩)
    refine bodyPost_ret (v := .tuple #[.agg (Tl.mk 5 (IntKind.u16.wrap i) 0 0 0).cells.toArray, .int .i64 0]) (by simp [results, Try.results25, go_sem, Tl.cells]) rfl ?_
    have hf : S.fault i false = ({ S with devs := S.devs.set i { dv with broken := false } }, ⟨5, i, 0, 0, 0⟩, 0) := by
      simp [PM.fault, hb, PM.setBroken, H.out]
    rw [hf, HW.out]
    exact ⟨rfl, hs.alloc _, ((Fr.refl _ w).setIn (by simp [PL.own]) _).alloc _⟩

theorem put_any (w : World) (L : PL) (S : PM) (hP : PlantAt w L S) (t n : Int) :
    Calls Try.prog 18 #[.pointer (some ⟨L.p, 0, none⟩), .int .i64 t, .int .i64 n] w fun e w' =>
      e = .returned (.int .i64 (S.put t n).1) ∧ PlantAt w' L (S.put t n).2 ∧ Fr L.own w w' := by
  have c1 := hP.c1
  by_cases h1 : t < 1 ∨ 30 < t ∨ n < 0 ∨ (S.nodes.length : Int) ≤ n
  · have HE := Lib.hid (show S.put t n = (1, S) by simp only [PM.put, h1, if_true])
    rw [HE.out]
    by_cases h2 : t < 1
    · clear h1
      go_enter Try.func18, Try.ntmps18
      go_wp2
      go_ret
      exact ⟨rfl, hP, Fr.refl _ w⟩
    by_cases h3 : 30 < t
    · clear h1
      go_enter Try.func18, Try.ntmps18
      go_wp2
      go_ret
      exact ⟨rfl, hP, Fr.refl _ w⟩
    by_cases h4 : n < 0
    · clear h1
      go_enter Try.func18, Try.ntmps18
      go_wp2
      go_ret
      exact ⟨rfl, hP, Fr.refl _ w⟩
    · have h5 : (S.nodes.length : Int) ≤ n := by omega
      clear h1
      go_enter Try.func18, Try.ntmps18
      go_wp2
      go_ret
      exact ⟨rfl, hP, Fr.refl _ w⟩
  · have h2 : 1 ≤ t := by omega
    have h3 : t ≤ 30 := by omega
    obtain ⟨i, rfl⟩ := Int.eq_ofNat_of_zero_le (show 0 ≤ n by omega)
    have hi : i < S.nodes.length := by omega
    have hc := hP.node hi
    have HE := Lib.hid (show S.put t i = if 0 ≤ S.whereIs t then (2, S) else if 0 < S.nodes[i] then (100, S) else (0, { S with nodes := S.nodes.set i t }) by simp only [PM.put, h1, if_false, PM.nd_in hi, Int.toNat_natCast])
    clear h1
    by_cases h4 : 0 ≤ S.whereIs t
    · rw [HE.out, if_pos h4]
      go_enter Try.func18, Try.ntmps18
      go_wp2_with (go_at_call 20; refine (where_any _ L S hP _).mono ?_; rintro e w' ⟨rfl, rfl⟩)
      go_ret
      exact ⟨rfl, hP, Fr.refl _ _⟩
    · by_cases h5 : 0 < S.nodes[i]
      · rw [HE.out, if_neg h4, if_pos h5]
        go_enter Try.func18, Try.ntmps18
        go_wp2_with (go_at_call 20; refine (where_any _ L S hP _).mono ?_; rintro e w' ⟨rfl, rfl⟩)
        go_ret
        exact ⟨rfl, hP, Fr.refl _ _⟩
      · have fz := hP.unfrozen (g := L.bn) (by simp [PL.own]) i
        have hs := hP.setNode (i := i) t
        rw [HE.out, if_neg h4, if_neg h5]
        go_enter Try.func18, Try.ntmps18
        go_wp2_with (go_at_call 20; refine (where_any _ L S hP _).mono ?_; rintro e w' ⟨rfl, rfl⟩)
        go_ret
        exact ⟨rfl, hs, (Fr.refl _ _).setIn (by simp [PL.own]) _⟩
end Go.Proofs.Ytncggholhmgoaaa
