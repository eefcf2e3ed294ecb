/- The mirror's Moved. -/
import Derived.Test.YtncggholhmgoaaaMirrorPut
import Derived.BigRegion
namespace Go.Proofs.Ytncggholhmgoaaa
set_option linter.unusedVariables false
set_option linter.unusedSimpArgs false
open Go.RowKit

set_option maxHeartbeats 2000000 in
theorem mMoved_no (w : World) (L : PL) (S : MM) (h : MirrorAt w L S) (d t : Int) (hno : noTote t = true ∨ S.noDev d = true ∨ (S.dv d).tote ≠ t) :
    Calls Try.prog 39 #[.pointer (some ⟨L.p, 0, none⟩), .int .i64 d, .int .i64 t] w (MPost L (S.moved d t) w) := by
  have hc1 := mNoTote_any w t
  have hc2 := mNoDev_any w L S h d
  have c3 := h.c3
  cases hb : noTote t with
  | true =>
    have HF := Lib.hid (show S.moved d t = (1, S) by simp [MM.moved, hb])
    rw [hb] at hc1
    have HC1 := Lib.hid hc1
    have HP := Lib.hid h
    clear hc1 hc2 hb h hno
    go_enter Try.func39, Try.ntmps39
    go_wp2_with (go_at_call 65; refine (HC1.out).mono ?_; rintro e w' ⟨rfl, rfl⟩)
    go_ret
    unfold MPost
    rw [HF.out]
    exact ⟨rfl, HP.out, Fr.refl _ _⟩
  | false =>
    cases hb2 : S.noDev d with
    | true =>
      have HF := Lib.hid (show S.moved d t = (1, S) by simp [MM.moved, hb2])
      rw [hb] at hc1
      rw [hb2] at hc2
      have HC1 := Lib.hid hc1
      have HC2 := Lib.hid hc2
      have HP := Lib.hid h
      clear hc1 hc2 hb hb2 h hno
      go_enter Try.func39, Try.ntmps39
      go_wp2_with (first | (go_at_call 65; refine (HC1.out).mono ?_; rintro e w' ⟨rfl, rfl⟩) | (go_at_call 67; refine (HC2.out).mono ?_; rintro e w' ⟨rfl, rfl⟩))
      go_ret
      unfold MPost
      rw [HF.out]
      exact ⟨rfl, HP.out, Fr.refl _ _⟩
    | false =>
      obtain ⟨h1, h2⟩ := MM.noDev_of hb2
      obtain ⟨i, rfl⟩ := Int.eq_ofNat_of_zero_le (show 0 ≤ d by omega)
      obtain ⟨x, hx, e0, e1, e2, e3⟩ := h.dev_get (i := i) (by omega)
      have hdv := MM.dv_get hx
      rw [hb, hb2, hdv] at hno
      have hne : x.tote ≠ t := by simpa using hno
      rw [hb] at hc1
      rw [hb2] at hc2
      have HC1 := Lib.hid hc1
      have HC2 := Lib.hid hc2
      have HP := Lib.hid h
      have hle : S.devs.length ≤ 121 := by have := h.le; have := h.ld; omega
      have hq2 : (x.tote == t) = false := by simp [hne]
      by_cases hz : x.tote = 0
      · have HF := Lib.hid (show S.moved i t = (4, S) by simp [MM.moved, hb, hb2, hdv, hz])
        have hq : (x.tote == 0) = true := by simp [hz]
        clear hc1 hc2 hb hb2 h hx hdv hz hno hne
        go_enter Try.func39, Try.ntmps39
        go_wp2_with (first | (go_at_call 65; refine (HC1.out).mono ?_; rintro e w' ⟨rfl, rfl⟩) | (go_at_call 67; refine (HC2.out).mono ?_; rintro e w' ⟨rfl, rfl⟩))
        go_ret
        unfold MPost
        rw [HF.out]
        exact ⟨rfl, HP.out, Fr.refl _ _⟩
      · have HF := Lib.hid (show S.moved i t = (160, S) by simp [MM.moved, hb, hb2, hdv, hz, hne])
        have hq : (x.tote == 0) = false := by simp [hz]
        clear hc1 hc2 hb hb2 h hx hdv hz hno hne
        go_enter Try.func39, Try.ntmps39
        go_wp2_with (first | (go_at_call 65; refine (HC1.out).mono ?_; rintro e w' ⟨rfl, rfl⟩) | (go_at_call 67; refine (HC2.out).mono ?_; rintro e w' ⟨rfl, rfl⟩))
        go_ret
        unfold MPost
        rw [HF.out]
        exact ⟨rfl, HP.out, Fr.refl _ _⟩

set_option maxHeartbeats 4000000 in
set_option maxRecDepth 100000 in
theorem mMoved_ok (w : World) (L : PL) (S : MM) (h : MirrorAt w L S) (d t : Int) (hb : noTote t = false) (hb2 : S.noDev d = false) (hto : (S.dv d).tote = t) :
    Calls Try.prog 39 #[.pointer (some ⟨L.p, 0, none⟩), .int .i64 d, .int .i64 t] w (MPost L (S.moved d t) w) := by
  have hc1 := mNoTote_any w t
  have hc2 := mNoDev_any w L S h d
  rw [hb] at hc1
  rw [hb2] at hc2
  obtain ⟨h1, h2⟩ := MM.noDev_of hb2
  obtain ⟨h3, h4⟩ := noTote_of hb
  obtain ⟨m, rfl⟩ : ∃ m : Nat, d = (m : Int) + 1 := ⟨(d - 1).toNat, by omega⟩
  obtain ⟨a, rfl⟩ := Int.eq_ofNat_of_zero_le (show 0 ≤ t by omega)
  have hld := h.ld
  have hle := h.le
  have hln := h.ln
  obtain ⟨⟨xt, xs, xe, xd⟩, hx, e0, e1, e2, e3⟩ := h.dev_get (i := m + 1) (by omega)
  have hdv : S.dv ((m : Int) + 1) = ⟨xt, xs, xe, xd⟩ := MM.dv_get hx
  rw [hdv] at hto
  simp only at hto e0 e1 e2 e3
  subst hto
  obtain ⟨ad, ⟨ea, eb⟩, hed, hA, hadb, f0, f1⟩ := h.edge (i := m) (by omega)
  have hede : S.ed ((m : Int) + 1) = (ea, eb) := MM.ed_get (i := m + 1) hed
  obtain ⟨⟨n1, n2⟩, ⟨n3, n4⟩, n5⟩ := h.ends _ (List.mem_of_getElem? hed)
  simp only at f0 f1 n1 n2 n3 n4 n5
  obtain ⟨na, rfl⟩ := Int.eq_ofNat_of_zero_le n1
  obtain ⟨nb, rfl⟩ := Int.eq_ofNat_of_zero_le n3
  obtain ⟨y1, hy1, cy1⟩ := h.node (i := na) (by omega)
  obtain ⟨y2, hy2, cy2⟩ := h.node (i := nb) (by omega)
  obtain ⟨z, hz, cz⟩ := h.cw (t := a) (by omega)
  have hne : na ≠ nb := by omega
  have HF := Lib.hid (show S.moved ((m : Int) + 1) (a : Int) = (0, { S with wh := S.wh.set a ((nb : Int) + 1), nodes := (S.nodes.set na 0).set nb (a : Int), devs := S.devs.set (m + 1) ⟨0, xs, xe, xd⟩ }) by
    unfold MM.moved
    rw [hdv, hede, if_neg (by simp [hb, hb2]), if_neg (by simp only; omega), if_pos rfl]
    simp only [Int.toNat_natCast]
    rw [show ((m : Int) + 1).toNat = m + 1 by omega])
  have hK1 := ((h.setNode (i := na) 0).setNode (i := nb) (a : Int)).setWh (t := a) (by omega) ((nb : Int) + 1) (by omega)
  have hK2 := hK1.setDev (i := m + 1) (d := ⟨(a : Int), xs, xe, xd⟩) (by omega) hx 0 (by omega) (.int .i64 0) ⟨0, xs, xe, xd⟩ rfl (by have := h.dok _ (List.mem_of_getElem? hx); exact ⟨⟨by simp, by simp⟩, this.2⟩)
  have HK := Lib.hid hK2
  have HC1 := Lib.hid hc1
  have HC2 := Lib.hid hc2
  have c0 := h.c0
  rw [hA] at c0
  have c2 := h.c2
  have c3 := h.c3
  obtain ⟨fp, fn, fd⟩ := h.unfrozen
  obtain ⟨⟨lp, ln, ld⟩, lp', ln', ld'⟩ := h.lts
  have hcl : ∀ q, (ad.add q).block < w.heap.size := fun q => by have := h.hhi; rw [block_of_add]; omega
  have hpn := h.pn
  have hnp := Ne.symm hpn
  have hpd := h.pd
  have hdp := Ne.symm hpd
  have hnd := h.nd
  have hdn := Ne.symm hnd
  have hq1 : ((a : Int) == 0) = false := by simp; omega
  have hq2 : ((a : Int) == (a : Int)) = true := by simp
  have hi0 : (0 : Int) ≤ (a : Int) := by omega
  have hi1 : (a : Int) < 31 := by omega
  have hnb : ¬ nb = na := by omega
  have HDL := Lib.hid hld
  have hdl : m + 1 < S.devs.length := by omega
  have hdl2 : m < S.edges.length := by omega
  have hq3 : na < S.nodes.length := by omega
  have hq4 : nb < S.nodes.length := by omega
  have HP := Lib.hid h
  clear hc1 hc2 hb hb2 hx hdv hed hA hede hy1 hy2 hz hK1 hK2 hld h
  go_enter Try.func39, Try.ntmps39
  go_wp2_with (first | (go_at_call 65; refine (HC1.out).mono ?_; rintro e w' ⟨rfl, hw⟩; have hw := hw.symm; subst hw) | (go_at_call 67; refine (HC2.out).mono ?_; rintro e w' ⟨rfl, hw⟩; have hw := hw.symm; subst hw))
  go_region
  go_wp2_with fail
  go_region
  go_wp2_with fail
  go_ret
  unfold MPost
  rw [HF.out]
  refine ⟨rfl, ?_, ?_⟩
  · exact ((HK.out.alloc _).drew).drew
  · exact ((((((((Fr.refl L.own w).setIn (by simp [PL.own]) _).setIn (by simp [PL.own]) _).setIn (by simp [PL.own]) _).setIn (by simp [PL.own]) _).alloc _).drew).drew)

theorem mMoved_any (w : World) (L : PL) (S : MM) (h : MirrorAt w L S) (d t : Int) :
    Calls Try.prog 39 #[.pointer (some ⟨L.p, 0, none⟩), .int .i64 d, .int .i64 t] w (MPost L (S.moved d t) w) := by
  by_cases h1 : noTote t = true
  · exact mMoved_no w L S h d t (.inl h1)
  · by_cases h2 : S.noDev d = true
    · exact mMoved_no w L S h d t (.inr (.inl h2))
    · by_cases h3 : (S.dv d).tote = t
      · exact mMoved_ok w L S h d t (by simpa using h1) (by simpa using h2) h3
      · exact mMoved_no w L S h d t (.inr (.inr h3))
end Go.Proofs.Ytncggholhmgoaaa
