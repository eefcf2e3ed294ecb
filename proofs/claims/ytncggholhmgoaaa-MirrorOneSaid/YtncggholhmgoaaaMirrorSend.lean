/- The mirror's Send. -/
import Derived.Test.YtncggholhmgoaaaMirrorMoved
import Derived.Deep.RegionHeld3
namespace Go.Proofs.Ytncggholhmgoaaa
set_option linter.unusedVariables false
set_option linter.unusedSimpArgs false
open Go.RowKit

set_option maxHeartbeats 4000000 in
set_option maxRecDepth 100000 in
theorem mSend_range (w : World) (L : PL) (S : MM) (h : MirrorAt w L S) (d t s : Int) (hno : (noTote t = true ∨ S.noDev d = true) ∨ (s < 0 ∨ 65535 < s)) :
    Calls Try.prog 38 #[.pointer (some ⟨L.p, 0, none⟩), .int .i64 d, .int .i64 t, .int .i64 s] w (MPost L (S.send d t s) w) := by
  have HF := Lib.hid (show S.send d t s = (1, S) by unfold MM.send; rw [if_pos hno])
  have hc1 := fun W => mNoTote_any W t
  have hc2 := fun W (h : MirrorAt W L S) => mNoDev_any W L S h d
  have HA := Lib.hid (h.alloc)
  have HP := Lib.hid h
  cases hb : noTote t with
  | true =>
    rw [hb] at hc1
    have HC1 := Lib.hid hc1
    clear hc1 hc2 hb h hno
    go_enter Try.func38, Try.ntmps38
    go_wp2_with (go_at_call 65; refine (HC1.out _).mono ?_; rintro e w' ⟨rfl, rfl⟩)
    go_ret
    unfold MPost
    rw [HF.out]
    exact ⟨rfl, HP.out.alloc _, (Fr.refl _ _).alloc _⟩
  | false =>
    rw [hb] at hc1
    have HC1 := Lib.hid hc1
    cases hb2 : S.noDev d with
    | true =>
      rw [hb2] at hc2
      have HC2 := Lib.hid hc2
      clear hc1 hc2 hb hb2 h hno
      go_enter Try.func38, Try.ntmps38
      go_wp2_with (first | (go_at_call 65; refine (HC1.out _).mono ?_; rintro e w' ⟨rfl, rfl⟩) | (go_at_call 67; refine (HC2.out _ (HA.out _)).mono ?_; rintro e w' ⟨rfl, rfl⟩))
      go_ret
      unfold MPost
      rw [HF.out]
      exact ⟨rfl, HP.out.alloc _, (Fr.refl _ _).alloc _⟩
    | false =>
      rw [hb2] at hc2
      have HC2 := Lib.hid hc2
      have hs : s < 0 ∨ (¬ s < 0 ∧ 65535 < s) := by
        rw [hb, hb2] at hno
        have : s < 0 ∨ 65535 < s := by simpa using hno
        omega
      clear hc1 hc2 hb hb2 h hno
      rcases hs with hs | ⟨hs0, hs⟩
      · have hd1 : decide (s < 0) = true := by simpa using hs
        go_enter Try.func38, Try.ntmps38
        go_wp2_with (first | (go_at_call 65; refine (HC1.out _).mono ?_; rintro e w' ⟨rfl, rfl⟩) | (go_at_call 67; refine (HC2.out _ (HA.out _)).mono ?_; rintro e w' ⟨rfl, rfl⟩))
        go_ret
        unfold MPost
        rw [HF.out]
        exact ⟨rfl, HP.out.alloc _, (Fr.refl _ _).alloc _⟩
      · have hd1 : decide (s < 0) = false := by simpa using hs0
        have hd2 : decide (65535 < s) = true := by simpa using hs
        go_enter Try.func38, Try.ntmps38
        go_wp2_with (first | (go_at_call 65; refine (HC1.out _).mono ?_; rintro e w' ⟨rfl, rfl⟩) | (go_at_call 67; refine (HC2.out _ (HA.out _)).mono ?_; rintro e w' ⟨rfl, rfl⟩))
        go_ret
        unfold MPost
        rw [HF.out]
        exact ⟨rfl, HP.out.alloc _, (Fr.refl _ _).alloc _⟩

theorem quiet_same4 {P : Program} {f : FuncId} {args : Array Value} {w : World} {n : Nat} {v : Value}
    (h : Calls P f args (w.drewN n) fun e w' => e = .returned v ∧ w' = w.drewN n) :
    Calls P f args (w.drewN n) fun e w'' => e = .returned v ∧ ∃ m, w'' = w.drewN m :=
  h.mono fun _ _ ⟨he, hm⟩ => ⟨he, n, hm⟩
theorem decide_lo {s : Int} (h : 0 ≤ s) : decide (s < 0) = false := by simpa using h
theorem decide_hi {s : Int} (h : s ≤ 65535) : decide (65535 < s) = false := by simpa using h

set_option maxHeartbeats 4000000 in
set_option maxRecDepth 100000 in
theorem mSend_state (w : World) (L : PL) (S : MM) (h : MirrorAt w L S) (d t s : Int) (hb : noTote t = false) (hb2 : S.noDev d = false) (hs0 : 0 ≤ s) (hs1 : s ≤ 65535) (hno : (S.dv d).down = true ∨ 0 < (S.dv d).tote) :
    Calls Try.prog 38 #[.pointer (some ⟨L.p, 0, none⟩), .int .i64 d, .int .i64 t, .int .i64 s] w (MPost L (S.send d t s) w) := by
  have HF := Lib.hid (show S.send d t s = (140, S) by unfold MM.send; rw [if_neg (by rw [hb, hb2]; simp; omega), if_pos hno])
  have hc1 := fun W => mNoTote_any W t
  have hc2 := fun W (h : MirrorAt W L S) => mNoDev_any W L S h d
  rw [hb] at hc1
  rw [hb2] at hc2
  have HC1 := Lib.hid hc1
  have HC2 := Lib.hid hc2
  have HA := Lib.hid (h.alloc)
  have HP := Lib.hid h
  obtain ⟨h1, h2⟩ := MM.noDev_of hb2
  obtain ⟨i, rfl⟩ := Int.eq_ofNat_of_zero_le (show 0 ≤ d by omega)
  obtain ⟨⟨xt, xs, xe, xd⟩, hx, e0, e1, e2, e3⟩ := h.dev_get (i := i) (by omega)
  have hdv := MM.dv_get hx
  rw [hdv] at hno
  simp only at e0 e1 e2 e3 hno
  have c3 := h.c3
  have hdl : S.devs.length ≤ 121 := by have := h.ld; have := h.le; omega
  obtain ⟨⟨lp, ln, ld⟩, lp', ln', ld'⟩ := h.lts
  have hd1 := decide_lo hs0
  have hd2 := decide_hi hs1
  cases hxd : xd with
  | true =>
    rw [hxd] at e3
    clear hc1 hc2 hb hb2 h hx hdv hno
    go_enter Try.func38, Try.ntmps38
    go_wp2_with (first | (go_at_call 65; refine (HC1.out _).mono ?_; rintro e w' ⟨rfl, rfl⟩) | (go_at_call 67; refine (HC2.out _ (HA.out _)).mono ?_; rintro e w' ⟨rfl, rfl⟩))
    go_ret
    unfold MPost
    rw [HF.out]
    exact ⟨rfl, HP.out.alloc _, (Fr.refl _ _).alloc _⟩
  | false =>
    rw [hxd] at e3 hno
    have hxt : decide (0 < xt) = true := by simpa using hno
    clear hc1 hc2 hb hb2 h hx hdv hno
    go_enter Try.func38, Try.ntmps38
    go_wp2_with (first | (go_at_call 65; refine (HC1.out _).mono ?_; rintro e w' ⟨rfl, rfl⟩) | (go_at_call 67; refine (HC2.out _ (HA.out _)).mono ?_; rintro e w' ⟨rfl, rfl⟩))
    go_ret
    unfold MPost
    rw [HF.out]
    exact ⟨rfl, HP.out.alloc _, (Fr.refl _ _).alloc _⟩

set_option maxHeartbeats 4000000 in
set_option maxRecDepth 100000 in
theorem mSend_tote (w : World) (L : PL) (S : MM) (h : MirrorAt w L S) (d t s : Int) (hb : noTote t = false) (hb2 : S.noDev d = false) (hs0 : 0 ≤ s) (hs1 : s ≤ 65535) (hst : ¬ ((S.dv d).down = true ∨ 0 < (S.dv d).tote)) (hwh : S.whereIs t ≠ (S.ed d).1) :
    Calls Try.prog 38 #[.pointer (some ⟨L.p, 0, none⟩), .int .i64 d, .int .i64 t, .int .i64 s] w (MPost L (S.send d t s) w) := by
  have HF := Lib.hid (show S.send d t s = (160, S) by unfold MM.send; rw [if_neg (by rw [hb, hb2]; simp; omega), if_neg hst, if_pos (.inl hwh)])
  have hc1 := fun W => mNoTote_any W t
  have hc2 := fun W (h : MirrorAt W L S) => mNoDev_any W L S h d
  have hc3 := fun W (h : MirrorAt W L S) => mWhere_any W L S h t
  rw [hb] at hc1
  rw [hb2] at hc2
  have HC1 := Lib.hid hc1
  have HC2 := Lib.hid hc2
  have HC3 := Lib.hid hc3
  have HA := Lib.hid (h.alloc)
  have HP := Lib.hid h
  obtain ⟨h1, h2⟩ := MM.noDev_of hb2
  obtain ⟨m, rfl⟩ : ∃ m : Nat, d = (m : Int) + 1 := ⟨(d - 1).toNat, by omega⟩
  have hld := h.ld
  have hle := h.le
  obtain ⟨⟨xt, xs, xe, xd⟩, hx, e0, e1, e2, e3⟩ := h.dev_get (i := m + 1) (by omega)
  have hdv : S.dv ((m : Int) + 1) = ⟨xt, xs, xe, xd⟩ := MM.dv_get hx
  rw [hdv] at hst
  simp only at hst e0 e1 e2 e3
  obtain ⟨ad, ⟨ea, eb⟩, hed, hA, hadb, f0, f1⟩ := h.edge (i := m) (by omega)
  have hede : S.ed ((m : Int) + 1) = (ea, eb) := MM.ed_get (i := m + 1) hed
  rw [hede] at hwh
  simp only at f0 f1 hwh
  have hxd : xd = false := by cases xd with | true => exact absurd (.inl rfl) hst | false => rfl
  subst hxd
  have hxt : decide (0 < xt) = false := by simp; omega
  have hq : (S.whereIs t == ea) = false := by simp [hwh]
  have hq2 : (S.whereIs t != ea) = true := by simp [hwh]
  have c0 := h.c0
  rw [hA] at c0
  have c3 := h.c3
  obtain ⟨⟨lp, ln, ld⟩, lp', ln', ld'⟩ := h.lts
  have hcl : ∀ q, (ad.add q).block < w.heap.size := fun q => by have := h.hhi; rw [block_of_add]; omega
  have hd1 := decide_lo hs0
  have hd2 := decide_hi hs1
  have hdl : m + 1 < S.devs.length := by omega
  have hdl2 : m < S.edges.length := by omega
  have hdl3 : S.devs.length ≤ 121 := by omega
  have hel : S.edges.length ≤ 120 := by omega
  have hb1 := (Blk.new w 3 [.int .i64 t])
  have cb := hb1.cell 0
  simp only [List.getElem?_cons_zero] at cb
  clear hc1 hc2 hc3 hb hb2 h hx hdv hst hed hA hede hwh hld hb1
  generalize S.whereIs t = wt at *
  go_enter Try.func38, Try.ntmps38
  go_wp2_with (first | (go_at_call 65; refine (HC1.out _).mono ?_; rintro e w' ⟨rfl, hw⟩; have hw := hw.symm; subst hw) | (go_at_call 67; refine (HC2.out _ (HA.out _)).mono ?_; rintro e w' ⟨rfl, hw⟩; have hw := hw.symm; subst hw))
  have hi1 : IntKind.i64.wrap ((m : Int) + 1 - 1) = (m : Int) := by rw [show (m : Int) + 1 - 1 = m by omega]; exact IntWalk.i64_in _ (by omega)
  have hi2 : IntKind.i64.wrap (m : Int) = (m : Int) := IntWalk.i64_in _ (by omega)
  have hm0 : (0 : Int) ≤ (m : Int) := by omega
  have hm1 : (m : Int) < (S.edges.length : Int) := by omega
  go_quiet ((go_at_call 42; exact quiet_same4 (HC3.out _ ((HA.out _).drewN _))))
  clear hi1 hi2
  go_wp2_with fail
  go_ret
  unfold MPost
  rw [HF.out]
  exact ⟨rfl, (HP.out.alloc _).drewN _, ((Fr.refl _ _).alloc _).drewN _⟩

set_option maxHeartbeats 8000000 in
set_option maxRecDepth 100000 in
theorem mSend_rest (w : World) (L : PL) (S : MM) (h : MirrorAt w L S) (d t s : Int) (hb : noTote t = false) (hb2 : S.noDev d = false) (hs0 : 0 ≤ s) (hs1 : s ≤ 65535) (hst : ¬ ((S.dv d).down = true ∨ 0 < (S.dv d).tote)) (hwh : S.whereIs t = (S.ed d).1) :
    Calls Try.prog 38 #[.pointer (some ⟨L.p, 0, none⟩), .int .i64 d, .int .i64 t, .int .i64 s] w (MPost L (S.send d t s) w) := by
  have hc1 := fun W => mNoTote_any W t
  have hc2 := fun W (h : MirrorAt W L S) => mNoDev_any W L S h d
  have hc3 := fun W (h : MirrorAt W L S) => mWhere_any W L S h t
  rw [hb] at hc1
  rw [hb2] at hc2
  have HC1 := Lib.hid hc1
  have HC2 := Lib.hid hc2
  have HC3 := Lib.hid hc3
  have HA := Lib.hid (h.alloc)
  have HP := Lib.hid h
  obtain ⟨h1, h2⟩ := MM.noDev_of hb2
  obtain ⟨m, rfl⟩ : ∃ m : Nat, d = (m : Int) + 1 := ⟨(d - 1).toNat, by omega⟩
  have hld := h.ld
  have hle := h.le
  obtain ⟨⟨xt, xs, xe, xd⟩, hx, e0, e1, e2, e3⟩ := h.dev_get (i := m + 1) (by omega)
  have hdv : S.dv ((m : Int) + 1) = ⟨xt, xs, xe, xd⟩ := MM.dv_get hx
  rw [hdv] at hst
  simp only at hst e0 e1 e2 e3
  obtain ⟨ad, ⟨ea, eb⟩, hed, hA, hadb, f0, f1⟩ := h.edge (i := m) (by omega)
  have hede : S.ed ((m : Int) + 1) = (ea, eb) := MM.ed_get (i := m + 1) hed
  rw [hede] at hwh
  simp only at f0 f1 hwh
  have hxd : xd = false := by cases xd with | true => exact absurd (.inl rfl) hst | false => rfl
  subst hxd
  have hxt : decide (0 < xt) = false := by simp; omega
  have hst0 : ¬ ((S.dv ((m : Int) + 1)).down = true ∨ 0 < (S.dv ((m : Int) + 1)).tote) := by rw [hdv]; exact hst
  have HFM := Lib.hid (fun hm : S.moves t = true => show S.send ((m : Int) + 1) t s = (160, S) by unfold MM.send; rw [if_neg (by rw [hb, hb2]; simp; omega), if_neg hst0, if_pos (.inr hm)])
  have HFT := Lib.hid (fun (hm : S.moves t = false) (ht : S.taken eb = true) => show S.send ((m : Int) + 1) t s = (100, S) by unfold MM.send; rw [if_neg (by rw [hb, hb2]; simp; omega), if_neg hst0, if_neg (by rw [hede, hm]; simp [hwh]), hede, if_pos ht])
  have HFO := Lib.hid (fun (hm : S.moves t = false) (ht : S.taken eb = false) => show S.send ((m : Int) + 1) t s = (0, { S with devs := S.devs.set (m + 1) ⟨t, s, true, false⟩ }) by unfold MM.send; rw [if_neg (by rw [hb, hb2]; simp; omega), if_neg hst0, if_neg (by rw [hede, hm]; simp [hwh]), hede, if_neg (by rw [ht]; simp), hdv]; simp only; rw [show ((m : Int) + 1).toNat = m + 1 by omega])
  obtain ⟨t1, t2⟩ := noTote_of hb
  have hK1 := fun W (hW : MirrorAt W L S) => ((hW.setDev (i := m + 1) (d := ⟨xt, xs, xe, false⟩) (by omega) hx 0 (by omega) (.int .i64 t) ⟨t, xs, xe, false⟩ rfl (by have := hW.dok _ (List.mem_of_getElem? hx); exact ⟨⟨by simp only; omega, by simp only; omega⟩, this.2⟩)).setDev (i := m + 1) (d := ⟨t, xs, xe, false⟩) (by omega) (by have := (List.getElem?_eq_some_iff.1 hx).1; simp [this]) 1 (by omega) (.int .i64 s) ⟨t, s, xe, false⟩ rfl ⟨⟨by simp only; omega, by simp only; omega⟩, hs0, hs1⟩).setDev (i := m + 1) (d := ⟨t, s, xe, false⟩) (by omega) (by have := (List.getElem?_eq_some_iff.1 hx).1; simp [this]) 2 (by omega) (.bool true) ⟨t, s, true, false⟩ rfl ⟨⟨by simp only; omega, by simp only; omega⟩, hs0, hs1⟩
  simp only [List.set_set] at hK1
  have HK := Lib.hid hK1
  have hq : (S.whereIs t == ea) = true := by simp [hwh]
  have hq2 : (S.whereIs t != ea) = false := by simp [hwh]
  have c0 := h.c0
  rw [hA] at c0
  have c3 := h.c3
  obtain ⟨⟨lp, ln, ld⟩, lp', ln', ld'⟩ := h.lts
  have hcl : ∀ q, (ad.add q).block < w.heap.size := fun q => by have := h.hhi; rw [block_of_add]; omega
  have hd1 := decide_lo hs0
  have hd2 := decide_hi hs1
  have hdl : m + 1 < S.devs.length := by omega
  have hdl2 : m < S.edges.length := by omega
  have hdl3 : S.devs.length ≤ 121 := by omega
  have hel : S.edges.length ≤ 120 := by omega
  have hb1 := (Blk.new w 3 [.int .i64 t])
  have cb := hb1.cell 0
  simp only [List.getElem?_cons_zero] at cb
  have HC4 := Lib.hid (fun W (hF : Fr [] (w.alloc (.cells #[.int .i64 t] 3)) W) => contains_any W L S ((h.alloc _).fr0 hF) ⟨w.heap.size, 0, none⟩ t ((hF.cell (by simp) (by simp)).trans cb) (by have := hF.size; simp at this; simp only; omega))
  have HC5 := Lib.hid (fun W (hF : Fr [] w W) => mTaken_any W L S (h.fr0 hF) eb)
  have HW := Lib.hid (fun W (hF : Fr [] w W) => mWhere_any W L S (h.fr0 hF) t)
  obtain ⟨fp, fn, fd⟩ := h.unfrozen
  have hi1 : IntKind.i64.wrap ((m : Int) + 1 - 1) = (m : Int) := by rw [show (m : Int) + 1 - 1 = m by omega]; exact IntWalk.i64_in _ (by omega)
  have hi2 : IntKind.i64.wrap (m : Int) = (m : Int) := IntWalk.i64_in _ (by omega)
  have HI := Lib.hid (And.intro hi1 hi2)
  have hm0 : (0 : Int) ≤ (m : Int) := by omega
  have hm1 : (m : Int) < (S.edges.length : Int) := by omega
  have HE := Lib.hid (fun W (hF : Fr [] (w.alloc (.cells #[.int .i64 t] 3)) W) => (show W.cell? ⟨w.heap.size, 0, none⟩ = some (.int .i64 t) ∧ W.cell? ⟨L.p, 0, none⟩ = some (.slice (some ad) S.edges.length L.ce) ∧ W.cell? ⟨L.p, 33, none⟩ = some (.slice (some ⟨L.bd, 0, none⟩) S.devs.length S.devs.length) ∧ W.cell? (ad.add (m * 2)) = some (.int .i64 ea) from by
    have hF2 := ((Fr.refl [] w).alloc (.cells #[.int .i64 t] 3)).trans hF
    refine ⟨(hF.cell (by simp) (by simp)).trans cb, ?_, (h.fr0 hF2).c3, (hF2.cell (by rw [block_of_add]; have := h.hhi; omega) (by simp)).trans f0⟩
    have := (h.fr0 hF2).c0
    rw [hA] at this
    exact this))
  have HMA := Lib.hid (fun W (hF : Fr [] w W) => h.fr0 hF)
  clear hc1 hc2 hc3 hb hb2 h hx hdv hst hst0 hed hA hede hwh hld hb1 hi1 hi2 hK1 HC3
  generalize S.whereIs t = wt at *
  cases hmv : S.moves t with
  | true =>
    rw [hmv] at HC4
    have HMV := Lib.hid hmv
    clear hmv
    go_enter Try.func38, Try.ntmps38
    go_wp2_with (first | (go_at_call 65; refine (HC1.out _).mono ?_; rintro e w' ⟨rfl, hw⟩; have hw := hw.symm; subst hw) | (go_at_call 67; refine (HC2.out _ (HA.out _)).mono ?_; rintro e w' ⟨rfl, hw⟩; have hw := hw.symm; subst hw))
    obtain ⟨hi1, hi2⟩ := HI.out
    go_region_held3 (fun w' => w'.cell? ⟨w.heap.size, 0, none⟩ = some (.int .i64 t) ∧ w'.cell? ⟨L.p, 0, none⟩ = some (.slice (some ad) S.edges.length L.ce) ∧ w'.cell? ⟨L.p, 33, none⟩ = some (.slice (some ⟨L.bd, 0, none⟩) S.devs.length S.devs.length) ∧ w'.cell? (ad.add (m * 2)) = some (.int .i64 ea)) (go_keep) (first | (go_at_call 42; refine (HW.out _ ?hr).mono ?_; (case hr => (repeat (first | (with_reducible exact Fr.refl _ _) | (with_reducible refine Fr.drew ?_) | (with_reducible refine Fr.alloc ?_ _)))); rintro e w2 ⟨rfl, hw⟩; have hw := hw.symm; subst hw) | (go_at_call 68; refine (HC4.out _ ?hr2).mono ?_; (case hr2 => (repeat (first | (with_reducible exact Fr.refl _ _) | (with_reducible refine Fr.drew ?_)))); rintro e w2 ⟨rfl, hf2⟩; obtain ⟨z1, z2, z3, z4⟩ := HE.out w2 ((Fr.refl [] _).drew.trans hf2); have zs := hf2.size; have zs2 : w.heap.size < w2.heap.size := by simp at zs; omega))
    clear hi1 hi2
    go_wp2_with fail
    go_ret
    unfold MPost
    rw [HFM.out HMV.out]
    have hF := (((Fr.refl [] w).alloc (.cells #[.int .i64 t] 3)).drew).trans hf2
    exact ⟨rfl, HMA.out _ hF, hF.of_nil _⟩
  | false =>
    rw [hmv] at HC4
    have HMV := Lib.hid hmv
    clear hmv
    cases htk : S.taken eb with
    | true =>
      rw [htk] at HC5
      have HTK := Lib.hid htk
      clear htk
      go_enter Try.func38, Try.ntmps38
      go_wp2_with (first | (go_at_call 65; refine (HC1.out _).mono ?_; rintro e w' ⟨rfl, hw⟩; have hw := hw.symm; subst hw) | (go_at_call 67; refine (HC2.out _ (HA.out _)).mono ?_; rintro e w' ⟨rfl, hw⟩; have hw := hw.symm; subst hw))
      obtain ⟨hi1, hi2⟩ := HI.out
      go_region_held3 (fun w' => w'.cell? ⟨w.heap.size, 0, none⟩ = some (.int .i64 t) ∧ w'.cell? ⟨L.p, 0, none⟩ = some (.slice (some ad) S.edges.length L.ce) ∧ w'.cell? ⟨L.p, 33, none⟩ = some (.slice (some ⟨L.bd, 0, none⟩) S.devs.length S.devs.length) ∧ w'.cell? (ad.add (m * 2)) = some (.int .i64 ea)) (go_keep) (first | (go_at_call 42; refine (HW.out _ ?hr).mono ?_; (case hr => (repeat (first | (with_reducible exact Fr.refl _ _) | (with_reducible refine Fr.drew ?_) | (with_reducible refine Fr.alloc ?_ _)))); rintro e w2 ⟨rfl, hw⟩; have hw := hw.symm; subst hw) | (go_at_call 68; refine (HC4.out _ ?hr2).mono ?_; (case hr2 => (repeat (first | (with_reducible exact Fr.refl _ _) | (with_reducible refine Fr.drew ?_)))); rintro e w2 ⟨rfl, hf2⟩; obtain ⟨z1, z2, z3, z4⟩ := HE.out w2 ((Fr.refl [] _).drew.trans hf2); have zs := hf2.size; have zs2 : w.heap.size < w2.heap.size := by simp at zs; omega))
      clear hi1 hi2
      have hF := (((Fr.refl [] w).alloc (.cells #[.int .i64 t] 3)).drew).trans hf2
      have k5 := (hF.cell (p := ⟨(ad.add (m * 2)).block, (ad.add (m * 2)).off + 1, none⟩) (hcl _) (by simp)).trans f1
      have hcl2 : ∀ q, (ad.add q).block < w2.heap.size := fun q => Nat.lt_of_lt_of_le (hcl q) hF.size
      go_wp2_with fail
      refine (HC5.out _ hF).mono ?_
      rintro e w3 ⟨rfl, hf3⟩
      go_wp2_with fail
      go_ret
      unfold MPost
      rw [HFT.out HMV.out HTK.out]
      exact ⟨rfl, HMA.out _ (hF.trans hf3), (hF.trans hf3).of_nil _⟩
    | false =>
      rw [htk] at HC5
      have HTK := Lib.hid htk
      clear htk
      go_enter Try.func38, Try.ntmps38
      go_wp2_with (first | (go_at_call 65; refine (HC1.out _).mono ?_; rintro e w' ⟨rfl, hw⟩; have hw := hw.symm; subst hw) | (go_at_call 67; refine (HC2.out _ (HA.out _)).mono ?_; rintro e w' ⟨rfl, hw⟩; have hw := hw.symm; subst hw))
      obtain ⟨hi1, hi2⟩ := HI.out
      go_region_held3 (fun w' => w'.cell? ⟨w.heap.size, 0, none⟩ = some (.int .i64 t) ∧ w'.cell? ⟨L.p, 0, none⟩ = some (.slice (some ad) S.edges.length L.ce) ∧ w'.cell? ⟨L.p, 33, none⟩ = some (.slice (some ⟨L.bd, 0, none⟩) S.devs.length S.devs.length) ∧ w'.cell? (ad.add (m * 2)) = some (.int .i64 ea)) (go_keep) (first | (go_at_call 42; refine (HW.out _ ?hr).mono ?_; (case hr => (repeat (first | (with_reducible exact Fr.refl _ _) | (with_reducible refine Fr.drew ?_) | (with_reducible refine Fr.alloc ?_ _)))); rintro e w2 ⟨rfl, hw⟩; have hw := hw.symm; subst hw) | (go_at_call 68; refine (HC4.out _ ?hr2).mono ?_; (case hr2 => (repeat (first | (with_reducible exact Fr.refl _ _) | (with_reducible refine Fr.drew ?_)))); rintro e w2 ⟨rfl, hf2⟩; obtain ⟨z1, z2, z3, z4⟩ := HE.out w2 ((Fr.refl [] _).drew.trans hf2); have zs := hf2.size; have zs2 : w.heap.size < w2.heap.size := by simp at zs; omega))
      clear hi1 hi2
      have hF := (((Fr.refl [] w).alloc (.cells #[.int .i64 t] 3)).drew).trans hf2
      have k5 := (hF.cell (p := ⟨(ad.add (m * 2)).block, (ad.add (m * 2)).off + 1, none⟩) (hcl _) (by simp)).trans f1
      have hcl2 : ∀ q, (ad.add q).block < w2.heap.size := fun q => Nat.lt_of_lt_of_le (hcl q) hF.size
      go_wp2_with fail
      refine (HC5.out _ hF).mono ?_
      rintro e w3 ⟨rfl, hf3⟩
      have hM3 := HMA.out _ (hF.trans hf3)
      obtain ⟨gp, gn, gd⟩ := hM3.unfrozen
      obtain ⟨d1, hd1', g0, g1, g2, g3⟩ := hM3.dev_get (i := m + 1) hdl
      have q1 := (hf3.cell (p := ⟨w.heap.size, 0, none⟩) zs2 (by simp)).trans z1
      obtain ⟨⟨lp3, ln3, ld3⟩, lp3', ln3', ld3'⟩ := hM3.lts
      have HK3 := Lib.hid (HK.out _ hM3)
      have HM3 := Lib.hid hM3
      clear hd1' hM3
      go_wp2_with fail
      go_ret
      unfold MPost
      rw [HFO.out HMV.out HTK.out]
      refine ⟨rfl, ?_, ?_⟩
      · trace_state
        exact HK3.out
      · exact ((((hF.trans hf3).of_nil L.own).setIn (by simp [PL.own]) _).setIn (by simp [PL.own]) _).setIn (by simp [PL.own]) _

theorem mSend_any (w : World) (L : PL) (S : MM) (h : MirrorAt w L S) (d t s : Int) :
    Calls Try.prog 38 #[.pointer (some ⟨L.p, 0, none⟩), .int .i64 d, .int .i64 t, .int .i64 s] w (MPost L (S.send d t s) w) := by
  by_cases h1 : (noTote t = true ∨ S.noDev d = true) ∨ (s < 0 ∨ 65535 < s)
  · exact mSend_range w L S h d t s h1
  · have a1 : noTote t = false := by cases hq : noTote t with | true => exact absurd (.inl (.inl hq)) h1 | false => rfl
    have a2 : S.noDev d = false := by cases hq : S.noDev d with | true => exact absurd (.inl (.inr hq)) h1 | false => rfl
    have a3 : 0 ≤ s ∧ s ≤ 65535 := by
      have : ¬ (s < 0 ∨ 65535 < s) := fun hh => h1 (.inr hh)
      omega
    by_cases h2 : (S.dv d).down = true ∨ 0 < (S.dv d).tote
    · exact mSend_state w L S h d t s a1 a2 a3.1 a3.2 h2
    · by_cases h3 : S.whereIs t = (S.ed d).1
      · exact mSend_rest w L S h d t s a1 a2 a3.1 a3.2 h2 h3
      · exact mSend_tote w L S h d t s a1 a2 a3.1 a3.2 h2 h3
end Go.Proofs.Ytncggholhmgoaaa
