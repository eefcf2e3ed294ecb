/- The mirror's calls that only read. -/
import Derived.Test.YtncggholhmgoaaaMirrorAt
import Derived.Lib.Hide
import Derived.Deep.QuietTactic
import Derived.BigQuiet
namespace Go.Proofs.Ytncggholhmgoaaa
set_option linter.unusedVariables false
set_option linter.unusedSimpArgs false
open Go.RowKit

theorem mNoTote_any (w : World) (t : Int) : Calls Try.prog 65 #[.int .i64 t] w fun e w' => e = .returned (.bool (noTote t)) ∧ w' = w := by
  by_cases h1 : t < 1
  · go_enter Try.func65, Try.ntmps65
    go_wp2
    go_ret
    simp [noTote, h1]
  · go_enter Try.func65, Try.ntmps65
    go_wp2
    go_ret
    have : decide (t < 1) = false := by simp; omega
    simp [noTote, this]

theorem mNoDev_any (w : World) (L : PL) (S : MM) (h : MirrorAt w L S) (d : Int) :
    Calls Try.prog 67 #[.pointer (some ⟨L.p, 0, none⟩), .int .i64 d] w fun e w' => e = .returned (.bool (S.noDev d)) ∧ w' = w := by
  have c3 := h.c3
  by_cases h1 : d < 1
  · go_enter Try.func67, Try.ntmps67
    go_wp2
    go_ret
    simp [MM.noDev, h1]
  · go_enter Try.func67, Try.ntmps67
    go_wp2
    go_ret
    have : decide (d < 1) = false := by simp; omega
    simp [MM.noDev, this]

theorem mNoNode_any (w : World) (L : PL) (S : MM) (h : MirrorAt w L S) (n : Int) :
    Calls Try.prog 66 #[.pointer (some ⟨L.p, 0, none⟩), .int .i64 n] w fun e w' => e = .returned (.bool (S.noNode n)) ∧ w' = w := by
  have c2 := h.c2
  by_cases h1 : n < 0
  · go_enter Try.func66, Try.ntmps66
    go_wp2
    go_ret
    simp [MM.noNode, h1]
  · go_enter Try.func66, Try.ntmps66
    go_wp2
    go_ret
    have : decide (n < 0) = false := by simp; omega
    simp [MM.noNode, this]

theorem mWhere_any (w : World) (L : PL) (S : MM) (h : MirrorAt w L S) (t : Int) :
    Calls Try.prog 42 #[.pointer (some ⟨L.p, 0, none⟩), .int .i64 t] w fun e w' => e = .returned (.int .i64 (S.whereIs t)) ∧ w' = w := by
  cases hb : noTote t with
  | true =>
    have HF := Lib.hid (show S.whereIs t = -1 by simp [MM.whereIs, hb])
    have hc := mNoTote_any w t
    rw [hb] at hc
    have HC := Lib.hid hc
    clear hc hb
    go_enter Try.func42, Try.ntmps42
    go_wp2_with (go_at_call 65; refine (HC.out).mono ?_; rintro e w' ⟨rfl, rfl⟩)
    go_ret
    exact ⟨ret_int HF.out.symm, rfl⟩
  | false =>
    obtain ⟨h1, h2⟩ := noTote_of hb
    obtain ⟨i, rfl⟩ := Int.eq_ofNat_of_zero_le (show 0 ≤ t by omega)
    obtain ⟨x, hx, hc⟩ := h.cw (t := i) (by omega)
    have hok := h.wok x (List.mem_of_getElem? hx)
    obtain ⟨hx0, hx1⟩ := hok
    have HF := Lib.hid (show S.whereIs i = x - 1 by simp [MM.whereIs, hb, List.getD, hx])
    have hcc := mNoTote_any w i
    rw [hb] at hcc
    have HC := Lib.hid hcc
    clear hcc hb hx
    have hi0 : (0 : Int) ≤ (i : Int) := by omega
    have hi1 : (i : Int) < 31 := by omega
    go_enter Try.func42, Try.ntmps42
    go_wp2_with (go_at_call 65; refine (HC.out).mono ?_; rintro e w' ⟨rfl, rfl⟩)
    go_ret
    exact ⟨ret_int HF.out.symm, rfl⟩

theorem mAt_any (w : World) (L : PL) (S : MM) (h : MirrorAt w L S) (n : Int) :
    Calls Try.prog 41 #[.pointer (some ⟨L.p, 0, none⟩), .int .i64 n] w fun e w' => e = .returned (.int .i64 (S.at_ n)) ∧ w' = w := by
  have hcc := mNoNode_any w L S h n
  have c2 := h.c2
  cases hb : S.noNode n with
  | true =>
    have HF := Lib.hid (show S.at_ n = 0 by simp [MM.at_, hb])
    rw [hb] at hcc
    have HC := Lib.hid hcc
    clear hcc hb
    go_enter Try.func41, Try.ntmps41
    go_wp2_with (go_at_call 66; refine (HC.out).mono ?_; rintro e w' ⟨rfl, rfl⟩)
    go_ret
    exact ⟨ret_int HF.out.symm, rfl⟩
  | false =>
    obtain ⟨h1, h2⟩ := MM.noNode_of hb
    obtain ⟨i, rfl⟩ := Int.eq_ofNat_of_zero_le h1
    obtain ⟨x, hx, hc⟩ := h.node (i := i) (by omega)
    have HF := Lib.hid (show S.at_ i = x by simp [MM.at_, hb, MM.nd_get hx])
    rw [hb] at hcc
    have HC := Lib.hid hcc
    clear hcc hb hx
    go_enter Try.func41, Try.ntmps41
    go_wp2_with (go_at_call 66; refine (HC.out).mono ?_; rintro e w' ⟨rfl, rfl⟩)
    go_ret
    exact ⟨ret_int HF.out.symm, rfl⟩

def ToldPost (S : MM) (d : Int) (w : World) (e : Ending) (w' : World) : Prop := e = .returned (.tuple #[.int .i64 (S.told d).1, .int .i64 (S.told d).2.1, .bool (S.told d).2.2]) ∧ Fr [] w w' ∧ ∃ n, w' = w.drewN n

theorem mTold_any (w : World) (L : PL) (S : MM) (h : MirrorAt w L S) (d : Int) :
    Calls Try.prog 44 #[.pointer (some ⟨L.p, 0, none⟩), .int .i64 d] w (ToldPost S d w) := by
  have hcc := mNoDev_any w L S h d
  have c3 := h.c3
  cases hb : S.noDev d with
  | true =>
    have HF := Lib.hid (show S.told d = (0, 0, false) by simp [MM.told, hb])
    rw [hb] at hcc
    have HC := Lib.hid hcc
    clear hcc hb
    go_enter Try.func44, Try.ntmps44
    go_wp2_with (go_at_call 67; refine (HC.out).mono ?_; rintro e w' ⟨rfl, rfl⟩)
    go_ret3
    unfold ToldPost
    rw [HF.out]
    exact ⟨rfl, Fr.refl _ _, 0, rfl⟩
  | false =>
    obtain ⟨h1, h2⟩ := MM.noDev_of hb
    obtain ⟨i, rfl⟩ := Int.eq_ofNat_of_zero_le (show 0 ≤ d by omega)
    obtain ⟨x, hx, e0, e1, e2, e3⟩ := h.dev_get (i := i) (by omega)
    rw [hb] at hcc
    have HC := Lib.hid hcc
    have hdv := MM.dv_get hx
    by_cases hz : x.tote = 0
    · have HF := Lib.hid (show S.told i = (0, 0, false) by simp [MM.told, hb, hdv, hz])
      have hq : (x.tote == 0) = true := by simp [hz]
      clear hcc hb hx hdv hz
      go_enter Try.func44, Try.ntmps44
      go_wp2_with (go_at_call 67; refine (HC.out).mono ?_; rintro e w' ⟨rfl, rfl⟩)
      go_ret3
      unfold ToldPost
      rw [HF.out]
      exact ⟨rfl, Fr.refl _ _, 0, rfl⟩
    · have HF := Lib.hid (show S.told i = (x.tote, x.seq, true) by simp [MM.told, hb, hdv, hz])
      have hq : (x.tote == 0) = false := by simp [hz]
      have hi0 : (0 : Int) ≤ (i : Int) := by omega
      have hi1 : (i : Int) < (S.devs.length : Int) := by omega
      clear hcc hb hx hdv hz
      go_enter Try.func44, Try.ntmps44
      go_wp2_with (go_at_call 67; refine (HC.out).mono ?_; rintro e w' ⟨rfl, rfl⟩)
      go_quiet (fail)
      go_wp2
      go_ret3
      unfold ToldPost
      rw [HF.out]
      exact ⟨rfl, (Fr.refl _ _).drewN _, _, rfl⟩

theorem mLast_any (w : World) (L : PL) (S : MM) (h : MirrorAt w L S) (d : Int) :
    Calls Try.prog 51 #[.pointer (some ⟨L.p, 0, none⟩), .int .i64 d] w fun e w' => e = .returned (.tuple #[.int .i64 (S.last d).1, .bool (S.last d).2]) ∧ w' = w := by
  have hcc := mNoDev_any w L S h d
  have c3 := h.c3
  cases hb : S.noDev d with
  | true =>
    have HF := Lib.hid (show S.last d = (0, false) by simp [MM.last, hb])
    rw [hb] at hcc
    have HC := Lib.hid hcc
    clear hcc hb
    go_enter Try.func51, Try.ntmps51
    go_wp2_with (go_at_call 67; refine (HC.out).mono ?_; rintro e w' ⟨rfl, rfl⟩)
    go_ret2
    rw [HF.out]
    exact ⟨rfl, rfl⟩
  | false =>
    obtain ⟨h1, h2⟩ := MM.noDev_of hb
    obtain ⟨i, rfl⟩ := Int.eq_ofNat_of_zero_le (show 0 ≤ d by omega)
    obtain ⟨x, hx, e0, e1, e2, e3⟩ := h.dev_get (i := i) (by omega)
    rw [hb] at hcc
    have HC := Lib.hid hcc
    have hdv := MM.dv_get hx
    have HF := Lib.hid (show S.last i = if x.ever then (x.seq, true) else (0, false) by simp only [MM.last, hb, hdv]; cases x.ever <;> rfl)
    clear hcc hb hx hdv
    cases hv : x.ever with
    | true =>
      rw [hv] at e2 HF
      go_enter Try.func51, Try.ntmps51
      go_wp2_with (go_at_call 67; refine (HC.out).mono ?_; rintro e w' ⟨rfl, rfl⟩)
      go_ret2
      rw [HF.out]
      exact ⟨rfl, rfl⟩
    | false =>
      rw [hv] at e2 HF
      go_enter Try.func51, Try.ntmps51
      go_wp2_with (go_at_call 67; refine (HC.out).mono ?_; rintro e w' ⟨rfl, rfl⟩)
      go_ret2
      rw [HF.out]
      exact ⟨rfl, rfl⟩
end Go.Proofs.Ytncggholhmgoaaa
