/- The mirror's Put, Drop, Mask. -/
import Derived.Test.YtncggholhmgoaaaMirrorTaken
import Derived.RegionTactic
namespace Go.Proofs.Ytncggholhmgoaaa
set_option linter.unusedVariables false
set_option linter.unusedSimpArgs false
open Go.RowKit

def MPost (L : PL) (r : Int × MM) (w : World) (e : Ending) (w' : World) : Prop := e = .returned (.int .i64 r.1) ∧ MirrorAt w' L r.2 ∧ Fr L.own w w'

theorem MirrorAt.unfrozen {w : World} {L : PL} {S : MM} (h : MirrorAt w L S) : (∀ i, w.frozen? ⟨L.p, i, none⟩ = false) ∧ (∀ i, w.frozen? ⟨L.bn, i, none⟩ = false) ∧ (∀ i, w.frozen? ⟨L.bd, i, none⟩ = false) := ⟨h.hp.frozen, h.hn.frozen, h.hd.frozen⟩

set_option maxHeartbeats 2000000 in
theorem mPut_any (w : World) (L : PL) (S : MM) (h : MirrorAt w L S) (t n : Int) :
    Calls Try.prog 37 #[.pointer (some ⟨L.p, 0, none⟩), .int .i64 t, .int .i64 n] w (MPost L (S.put t n) w) := by
  have hc1 := mNoTote_any w t
  have hc2 := mNoNode_any w L S h n
  cases hb : noTote t with
  | true =>
    have HF := Lib.hid (show S.put t n = (1, S) by simp [MM.put, hb])
    rw [hb] at hc1
    have HC1 := Lib.hid hc1
    have HP := Lib.hid h
    clear hc1 hc2 hb h
    go_enter Try.func37, Try.ntmps37
    go_wp2_with (go_at_call 65; refine (HC1.out).mono ?_; rintro e w' ⟨rfl, rfl⟩)
    go_ret
    unfold MPost
    rw [HF.out]
    exact ⟨rfl, HP.out, Fr.refl _ _⟩
  | false =>
    cases hb2 : S.noNode n with
    | true =>
      have HF := Lib.hid (show S.put t n = (1, S) by simp [MM.put, hb2])
      rw [hb] at hc1
      rw [hb2] at hc2
      have HC1 := Lib.hid hc1
      have HC2 := Lib.hid hc2
      have HP := Lib.hid h
      clear hc1 hc2 hb hb2 h
      go_enter Try.func37, Try.ntmps37
      go_wp2_with (first | (go_at_call 65; refine (HC1.out).mono ?_; rintro e w' ⟨rfl, rfl⟩) | (go_at_call 66; refine (HC2.out).mono ?_; rintro e w' ⟨rfl, rfl⟩))
      go_ret
      unfold MPost
      rw [HF.out]
      exact ⟨rfl, HP.out, Fr.refl _ _⟩
    | false =>
      obtain ⟨h1, h2⟩ := noTote_of hb
      obtain ⟨h3, h4⟩ := MM.noNode_of hb2
      obtain ⟨i, rfl⟩ := Int.eq_ofNat_of_zero_le (show 0 ≤ t by omega)
      obtain ⟨j, rfl⟩ := Int.eq_ofNat_of_zero_le h3
      obtain ⟨x, hx, cx⟩ := h.cw (t := i) (by omega)
      have hi0 : (0 : Int) ≤ (i : Int) := by omega
      have hi1 : (i : Int) < 31 := by omega
      rw [hb] at hc1
      rw [hb2] at hc2
      have HC1 := Lib.hid hc1
      have HC2 := Lib.hid hc2
      have HP := Lib.hid h
      have hw : S.wh.getD i 0 = x := by simp [List.getD, hx]
      by_cases hx0 : 0 < x
      · have HF := Lib.hid (show S.put i j = (2, S) by unfold MM.put; rw [if_neg (by simp [hb, hb2]), Int.toNat_natCast, hw, if_pos hx0])
        have hd : decide (0 < x) = true := by simpa using hx0
        clear hc1 hc2 hb hb2 h hx hw
        go_enter Try.func37, Try.ntmps37
        go_wp2_with (first | (go_at_call 65; refine (HC1.out).mono ?_; rintro e w' ⟨rfl, rfl⟩) | (go_at_call 66; refine (HC2.out).mono ?_; rintro e w' ⟨rfl, rfl⟩))
        go_ret
        unfold MPost
        rw [HF.out]
        exact ⟨rfl, HP.out, Fr.refl _ _⟩
      · have hd : decide (0 < x) = false := by simpa using hx0
        have hc3 := mTaken_any w L S h j
        cases ht : S.taken j with
        | true =>
          have HF := Lib.hid (show S.put i j = (100, S) by unfold MM.put; rw [if_neg (by simp [hb, hb2]), Int.toNat_natCast, hw, if_neg hx0, if_pos ht])
          rw [ht] at hc3
          have HC3 := Lib.hid hc3
          clear hc1 hc2 hc3 hb hb2 h hx hw ht
          go_enter Try.func37, Try.ntmps37
          go_wp2_with (first | (go_at_call 65; refine (HC1.out).mono ?_; rintro e w' ⟨rfl, rfl⟩) | (go_at_call 66; refine (HC2.out).mono ?_; rintro e w' ⟨rfl, rfl⟩) | (go_at_call 40; refine (HC3.out).mono ?_; rintro e w1 ⟨rfl, hf1⟩))
          go_ret
          unfold MPost
          rw [HF.out]
          exact ⟨rfl, HP.out.fr0 hf1, hf1.of_nil _⟩
        | false =>
          have HF := Lib.hid (show S.put i j = (0, { S with wh := S.wh.set i ((j : Int) + 1), nodes := S.nodes.set j (i : Int) }) by unfold MM.put; rw [if_neg (by simp [hb, hb2]), Int.toNat_natCast, hw, if_neg hx0, if_neg (by rw [ht]; simp), Int.toNat_natCast])
          rw [ht] at hc3
          have HC3 := Lib.hid hc3
          have hnl := h.ln
          have HJ := Lib.hid (show j < S.nodes.length by omega)
          clear hc1 hc2 hc3 hb hb2 h hx hw ht
          go_enter Try.func37, Try.ntmps37
          go_wp2_with fail
          refine (HC1.out).mono ?_
          rintro e w' ⟨rfl, rfl⟩
          go_wp2_with fail
          refine (HC2.out).mono ?_
          rintro e w' ⟨rfl, rfl⟩
          go_wp2_with fail
          refine (HC3.out).mono ?_
          rintro e w1 ⟨rfl, hf1⟩
          have hr := HP.out.fr0 hf1
          have c2 := hr.c2
          obtain ⟨x1, hx1, cx1⟩ := hr.cw (t := i) (by omega)
          obtain ⟨y1, hy1, cy1⟩ := hr.node HJ.out
          obtain ⟨fp, fn, fd⟩ := hr.unfrozen
          obtain ⟨⟨lp, ln, ld⟩, lp', ln', ld'⟩ := hr.lts
          have hpn := hr.pn
          have hnp := Ne.symm hpn
          have hj0 : (0 : Int) ≤ (j : Int) := by omega
          have hj1 : (j : Int) < (S.nodes.length : Int) := by omega
          have HX1 := Lib.hid (And.intro hx1 hy1)
          clear hx1 hy1
          go_wp2_with fail
          go_region
          go_wp2
          go_ret
          unfold MPost
          rw [HF.out]
          refine ⟨rfl, ?_, ?_⟩
          · exact ((hr.setWh (t := i) (by omega) ((j : Int) + 1) (by omega)).setNode (i : Int)).drew
          · exact (((hf1.of_nil L.own).setIn (by simp [PL.own]) _).setIn (by simp [PL.own]) _).drew

set_option maxHeartbeats 2000000 in
theorem mDrop_any (w : World) (L : PL) (S : MM) (h : MirrorAt w L S) (d : Int) :
    Calls Try.prog 46 #[.pointer (some ⟨L.p, 0, none⟩), .int .i64 d] w (MPost L (S.drop d) w) := by
  have hc1 := mNoDev_any w L S h d
  have c3 := h.c3
  cases hb : S.noDev d with
  | true =>
    have HF := Lib.hid (show S.drop d = (1, S) by simp [MM.drop, hb])
    rw [hb] at hc1
    have HC1 := Lib.hid hc1
    have HP := Lib.hid h
    clear hc1 hb h
    go_enter Try.func46, Try.ntmps46
    go_wp2_with (go_at_call 67; refine (HC1.out).mono ?_; rintro e w' ⟨rfl, rfl⟩)
    go_ret
    unfold MPost
    rw [HF.out]
    exact ⟨rfl, HP.out, Fr.refl _ _⟩
  | false =>
    obtain ⟨h1, h2⟩ := MM.noDev_of hb
    obtain ⟨i, rfl⟩ := Int.eq_ofNat_of_zero_le (show 0 ≤ d by omega)
    obtain ⟨x, hx, e0, e1, e2, e3⟩ := h.dev_get (i := i) (by omega)
    rw [hb] at hc1
    have HC1 := Lib.hid hc1
    have hdv := MM.dv_get hx
    have hle := h.le
    by_cases hz : x.tote = 0
    · have HF := Lib.hid (show S.drop i = (4, S) by simp [MM.drop, hb, hdv, hz])
      have hq : (x.tote == 0) = true := by simp [hz]
      have HP := Lib.hid h
      clear hc1 hb hx hdv hz h
      go_enter Try.func46, Try.ntmps46
      go_wp2_with (go_at_call 67; refine (HC1.out).mono ?_; rintro e w' ⟨rfl, rfl⟩)
      go_ret
      unfold MPost
      rw [HF.out]
      exact ⟨rfl, HP.out, Fr.refl _ _⟩
    · have HF := Lib.hid (show S.drop i = (0, { S with devs := S.devs.set i { x with tote := 0 } }) by simp [MM.drop, hb, hdv, hz])
      have hq : (x.tote == 0) = false := by simp [hz]
      have HK := Lib.hid (h.setDev (d := x) (by omega) hx 0 (by omega) (.int .i64 0) { x with tote := 0 } rfl (by have := h.dok x (List.mem_of_getElem? hx); exact ⟨⟨by simp, by simp⟩, this.2⟩))
      obtain ⟨fp, fn, fd⟩ := h.unfrozen
      obtain ⟨⟨lp, ln, ld⟩, lp', ln', ld'⟩ := h.lts
      clear hc1 hb hx hdv hz h
      go_enter Try.func46, Try.ntmps46
      go_wp2_with (go_at_call 67; refine (HC1.out).mono ?_; rintro e w' ⟨rfl, rfl⟩)
      go_ret
      unfold MPost
      rw [HF.out]
      exact ⟨rfl, HK.out, (Fr.refl _ _).setIn (by simp [PL.own]) _⟩

set_option maxHeartbeats 2000000 in
theorem mMask_any (w : World) (L : PL) (S : MM) (h : MirrorAt w L S) (d : Int) (y : Bool) :
    Calls Try.prog 47 #[.pointer (some ⟨L.p, 0, none⟩), .int .i64 d, .bool y] w (MPost L (S.mask d y) w) := by
  have hc1 := mNoDev_any w L S h d
  have c3 := h.c3
  cases hb : S.noDev d with
  | true =>
    have HF := Lib.hid (show S.mask d y = (1, S) by simp [MM.mask, hb])
    rw [hb] at hc1
    have HC1 := Lib.hid hc1
    have HP := Lib.hid h
    clear hc1 hb h
    go_enter Try.func47, Try.ntmps47
    go_wp2_with (go_at_call 67; refine (HC1.out).mono ?_; rintro e w' ⟨rfl, rfl⟩)
    go_ret
    unfold MPost
    rw [HF.out]
    exact ⟨rfl, HP.out, Fr.refl _ _⟩
  | false =>
    obtain ⟨h1, h2⟩ := MM.noDev_of hb
    obtain ⟨i, rfl⟩ := Int.eq_ofNat_of_zero_le (show 0 ≤ d by omega)
    obtain ⟨x, hx, e0, e1, e2, e3⟩ := h.dev_get (i := i) (by omega)
    rw [hb] at hc1
    have HC1 := Lib.hid hc1
    have hdv := MM.dv_get hx
    have hle := h.le
    have HF := Lib.hid (show S.mask i y = (0, { S with devs := S.devs.set i { x with down := y } }) by simp [MM.mask, hb, hdv])
    have HK := Lib.hid (h.setDev (d := x) (by omega) hx 3 (by omega) (.bool y) { x with down := y } rfl (by have := h.dok x (List.mem_of_getElem? hx); exact this))
    obtain ⟨fp, fn, fd⟩ := h.unfrozen
    obtain ⟨⟨lp, ln, ld⟩, lp', ln', ld'⟩ := h.lts
    clear hc1 hb hx hdv h
    go_enter Try.func47, Try.ntmps47
    go_wp2_with (go_at_call 67; refine (HC1.out).mono ?_; rintro e w' ⟨rfl, rfl⟩)
    go_ret
    unfold MPost
    rw [HF.out]
    exact ⟨rfl, HK.out, (Fr.refl _ _).setIn (by simp [PL.own]) _⟩
end Go.Proofs.Ytncggholhmgoaaa
