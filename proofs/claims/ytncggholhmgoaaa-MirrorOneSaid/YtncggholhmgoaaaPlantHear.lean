/- The plant hears a telegram. -/
import Derived.Test.YtncggholhmgoaaaPlantMove
import Derived.Deep.RegionWith
import Derived.StillTailTactics
namespace Go.Proofs.Ytncggholhmgoaaa
set_option linter.unusedVariables false
set_option linter.unusedSimpArgs false
open Go.RowKit

def HearPost (L : PL) (S : PM) (t : Tl) (w : World) (en : Ending) (w' : World) : Prop :=
  en = .returned (.tuple #[.agg (S.hear t).2.1.cells.toArray, .bool (S.hear t).2.2]) ∧ PlantAt w' L (S.hear t).1 ∧ Fr L.own w w'

set_option maxHeartbeats 2000000 in
theorem hear_off (w : World) (L : PL) (S : PM) (hP : PlantAt w L S) (tk td ts ta tb : Int) (td0 : 0 ≤ td) (td1 : td ≤ 65535) (h1 : S.works td = false) :
    Calls Try.prog 19 #[.pointer (some ⟨L.p, 0, none⟩), .agg (Tl.mk tk td ts ta tb).cells.toArray] w (HearPost L S ⟨tk, td, ts, ta, tb⟩ w) := by
  have HM := Lib.hid (show S.hear ⟨tk, td, ts, ta, tb⟩ = (S, Tl.zero, false) by simp [PM.hear, h1])
  have hA : ∀ o1 o2, PlantAt ((w.alloc o1).alloc o2) L S := fun o1 o2 => (hP.alloc _).alloc _
  simp only [Tl.cells]
  go_enter Try.func19, Try.ntmps19
  go_wp2_with (go_at_call 23; refine (works_any _ L S (hA _ _) _).mono ?_; rintro e w' ⟨rfl, rfl⟩)
  refine bodyPost_ret (v := .tuple #[.agg #[.int .u8 0, .int .u16 0, .int .u16 0, .int .u16 0, .int .u16 0], .bool false]) (by simp [results, Try.results19, go_sem]) rfl ?_
  unfold HearPost
  rw [HM.out]
  refine ⟨rfl, quiet_end hP ?_⟩
  repeat (first | (with_reducible exact Fr.refl _ _) | (with_reducible refine Fr.drewN ?_ _) | (with_reducible refine Fr.drew ?_) | (with_reducible refine Fr.alloc ?_ _) | ((with_reducible refine Fr.setNew ?_ ?h _); case h => (simp; try omega)))

theorem PM.works_dev {S : PM} {i : Nat} (h : S.works i = true) : ∃ d, S.devs[i]? = some d ∧ 1 ≤ i ∧ i < S.devs.length := by
  unfold PM.works at h
  split at h
  · cases h
  · rename_i hn
    have h2 : 1 ≤ (i : Int) ∧ (i : Int) < S.devs.length := by simpa [PM.noDev] using hn
    have hi : i < S.devs.length := by omega
    exact ⟨_, List.getElem?_eq_getElem hi, by omega, hi⟩

set_option maxHeartbeats 2000000 in
theorem hear_other (w : World) (L : PL) (S : PM) (hP : PlantAt w L S) (tk : Int) (td : Nat) (ts ta tb : Int) (td1 : td ≤ 65535) (h1 : S.works td = true) (h2 : tk ≠ 1) (h3 : tk ≠ 6) :
    Calls Try.prog 19 #[.pointer (some ⟨L.p, 0, none⟩), .agg (Tl.mk tk td ts ta tb).cells.toArray] w (HearPost L S ⟨tk, td, ts, ta, tb⟩ w) := by
  obtain ⟨d, hd, hi1, hi2⟩ := PM.works_dev h1
  have hle : td - 1 < S.edges.length := by have := hP.ld; omega
  have HM := Lib.hid (show S.hear ⟨tk, td, ts, ta, tb⟩ = (S, Tl.zero, false) by simp [PM.hear, h1, h2, h3]; split <;> rfl)
  have hA : ∀ o1 o2, PlantAt ((w.alloc o1).alloc o2) L S := fun o1 o2 => (hP.alloc _).alloc _
  obtain ⟨⟨lp, ln, ld⟩, lp', ln', ld'⟩ := hP.lts
  have c2 := hP.c2
  have q1 : (tk == 1) = false := by simp [h2]
  have q2 : (tk == 6) = false := by simp [h3]
  clear hd h2 h3
  simp only [Tl.cells]
  go_enter Try.func19, Try.ntmps19
  go_wp2_with (go_at_call 23; refine (works_any _ L S (hA _ _) _).mono ?_; rintro e w' ⟨rfl, rfl⟩)
  go_quiet (fail)
  go_wp2
  refine bodyPost_ret (v := .tuple #[.agg #[.int .u8 0, .int .u16 0, .int .u16 0, .int .u16 0, .int .u16 0], .bool false]) (by simp [results, Try.results19, go_sem]) rfl ?_
  unfold HearPost
  rw [HM.out]
  refine ⟨rfl, quiet_end hP ?_⟩
  repeat (first | (with_reducible exact Fr.refl _ _) | (with_reducible refine Fr.drewN ?_ _) | (with_reducible refine Fr.drew ?_) | (with_reducible refine Fr.alloc ?_ _) | ((with_reducible refine Fr.setNew ?_ ?h _); case h => (simp; try omega)))

set_option maxHeartbeats 2000000 in
theorem hear_ask (w : World) (L : PL) (S : PM) (hP : PlantAt w L S) (tk : Int) (td : Nat) (ts ta tb : Int) (td1 : td ≤ 65535) (h1 : S.works td = true) (h2 : tk = 6) :
    Calls Try.prog 19 #[.pointer (some ⟨L.p, 0, none⟩), .agg (Tl.mk tk td ts ta tb).cells.toArray] w (HearPost L S ⟨tk, td, ts, ta, tb⟩ w) := by
  obtain ⟨d, hd, hi1, hi2⟩ := PM.works_dev h1
  have hle : td - 1 < S.edges.length := by have := hP.ld; omega
  have HM := Lib.hid (show S.hear ⟨tk, td, ts, ta, tb⟩ = (S, ⟨7, td, ts, d.seq, d.tote⟩, true) by simp [PM.hear, h1, h2, hd, List.getElem?_eq_getElem hle])
  have hA : ∀ o1 o2, PlantAt ((w.alloc o1).alloc o2) L S := fun o1 o2 => (hP.alloc _).alloc _
  obtain ⟨⟨lp, ln, ld⟩, lp', ln', ld'⟩ := hP.lts
  obtain ⟨dv, hdv, e0, e1, e2, e3⟩ := hP.dev_get (i := td) hi2
  obtain rfl : d = dv := Option.some.inj (hd.symm.trans hdv)
  have c2 := hP.c2
  subst h2
  clear hd hdv hle
  simp only [Tl.cells]
  go_enter Try.func19, Try.ntmps19
  go_wp2_with (go_at_call 23; refine (works_any _ L S (hA _ _) _).mono ?_; rintro e w' ⟨rfl, rfl⟩)
  go_quiet (fail)
  go_wp2
  go_region
  go_wp2
  refine bodyPost_ret (v := .tuple #[.agg #[.int .u8 7, .int .u16 td, .int .u16 ts, .int .u16 d.seq, .int .u16 d.tote], .bool true]) (by simp [results, Try.results19, go_sem]) rfl ?_
  unfold HearPost
  rw [HM.out]
  refine ⟨rfl, quiet_end hP ?_⟩
  repeat (first | (with_reducible exact Fr.refl _ _) | (with_reducible refine Fr.drewN ?_ _) | (with_reducible refine Fr.drew ?_) | (with_reducible refine Fr.alloc ?_ _) | ((with_reducible refine Fr.setNew ?_ ?h _); case h => (simp; try omega)))

set_option maxHeartbeats 2000000 in
set_option maxRecDepth 100000 in
theorem hear_move (w : World) (L : PL) (S : PM) (hP : PlantAt w L S) (hm0 : 0 ≤ S.moves) (hm1 : S.moves ≤ 1000000) (tk : Int) (k : Nat) (ts ta tb : Int) (ht : (Tl.mk tk (k + 1) ts ta tb).ok) (h1 : S.works (k + 1) = true) (h2 : tk = 1) :
    Calls Try.prog 19 #[.pointer (some ⟨L.p, 0, none⟩), .agg (Tl.mk tk (k + 1) ts ta tb).cells.toArray] w (HearPost L S ⟨tk, k + 1, ts, ta, tb⟩ w) := by
  obtain ⟨d, hd, hi1, hi2⟩ := PM.works_dev (i := k + 1) h1
  have hle : k < S.edges.length := by have := hP.ld; omega
  have HM := Lib.hid (show S.hear ⟨tk, k + 1, ts, ta, tb⟩ = S.move (k + 1) d S.edges[k] ⟨tk, k + 1, ts, ta, tb⟩ by
    have e1 : ((k : Int) + 1).toNat = k + 1 := by omega
    simp [PM.hear, h1, h2, e1, hd, List.getElem?_eq_getElem hle])
  have hA : ∀ o1 o2, PlantAt ((w.alloc o1).alloc o2) L S := fun o1 o2 => (hP.alloc _).alloc _
  obtain ⟨⟨lp, ln, ld⟩, lp', ln', ld'⟩ := hP.lts
  obtain ⟨ad, hA0, hab, ee0, ee1⟩ := hP.edge hle
  have c2 := hP.c2
  have c0 := hP.c0
  rw [hA0] at c0
  have HD := Lib.hid hd
  have hmv := fun W (h : PlantAt W L S) => move_any W L S h (k + 1) d hd S.edges[k] (List.getElem_mem hle) ⟨tk, k + 1, ts, ta, tb⟩ ht hm0 hm1
  unfold MovePost at hmv
  generalize S.move (k + 1) d S.edges[k] ⟨tk, k + 1, ts, ta, tb⟩ = r at *
  obtain ⟨S', ⟨rk, rd, rs, ra, rb⟩, ok⟩ := r
  simp only [moveArgs, Tl.cells] at hmv
  have HV := Lib.hid hmv
  subst h2
  have td1 : k < 65535 := by have := ht.2.1.2; simp only at this; omega
  clear hd hmv hA0
  have HT := Lib.hid ht
  clear ht
  have hw1 : IntKind.u16.wrap (k : Int) = k := by rw [IntWalk.u16_in]; omega
  have hads : ∀ n, (ad.add n).block < w.heap.size := fun n => by have := hP.hhi; rw [block_of_add]; omega
  have hads' : ∀ n m, (ad.add n).block < w.heap.size + m := fun n m => by have := hads n; omega
  simp only [Tl.cells]
  go_enter Try.func19, Try.ntmps19
  go_wp2_with (go_at_call 23; refine (works_any _ L S (hA _ _) _).mono ?_; rintro e w' ⟨rfl, rfl⟩)
  go_quiet (fail)
  go_wp2
  obtain ⟨wx, hwx⟩ : ∃ wx, wx = ((w.alloc (.cells #[.int .u8 1, .int .u16 (k + 1), .int .u16 ts, .int .u16 ta, .int .u16 tb] 39)).alloc (.cells #[.int .u8 0, .int .u16 0, .int .u16 0, .int .u16 0, .int .u16 0] 39)).drewN nq := ⟨_, rfl⟩
  rw [← hwx]
  have hPx : PlantAt wx L S := by rw [hwx]; exact (hA _ _).drewN _
  have hFx : Fr [] w wx := by rw [hwx]; exact (((Fr.refl _ _).alloc _).alloc _).drewN _
  have b0 : Blk wx w.heap.size 39 [.int .u8 1, .int .u16 (k + 1), .int .u16 ts, .int .u16 ta, .int .u16 tb] := by rw [hwx]; exact ((Blk.new w 39 [.int .u8 1, .int .u16 (k + 1), .int .u16 ts, .int .u16 ta, .int .u16 tb]).alloc _).drewN _
  have b1 : Blk wx (w.heap.size + 1) 39 [.int .u8 0, .int .u16 0, .int .u16 0, .int .u16 0, .int .u16 0] := by
    rw [hwx]
    have := Blk.new (w.alloc (.cells #[.int .u8 1, .int .u16 (k + 1), .int .u16 ts, .int .u16 ta, .int .u16 tb] 39)) 39 [.int .u8 0, .int .u16 0, .int .u16 0, .int .u16 0, .int .u16 0]
    simp only [World.size_alloc] at this
    exact this.drewN _
  clear hwx ee0 ee1 c0 c2
  have x0 := b0.cell 0
  have x1 := b0.cell 1
  have x2 := b0.cell 2
  have x3 := b0.cell 3
  have x4 := b0.cell 4
  simp only [List.getElem?_cons_zero, List.getElem?_cons_succ] at x0 x1 x2 x3 x4
  have c0 := hPx.c0
  obtain ⟨ad, hA0, hab, ee0, ee1⟩ := hPx.edge hle
  rw [hA0] at c0
  have nq0 : w.heap.size ∉ L.own := by simp [PL.own]; omega
  have nq1 : w.heap.size + 1 ∉ L.own := by simp [PL.own]; omega
  clear hA hA0 hads hads'
  go_region_with (go_at_call 56; refine (HV.out _ ?hp).mono ?_; (case hp => exact hPx.drew); rintro e w2 ⟨rfl, hp2, hf2⟩; have b2 := b1.drew.fr hf2 nq1; have y0 := b2.cell 0; have y1 := b2.cell 1; have y2 := b2.cell 2; have y3 := b2.cell 3; have y4 := b2.cell 4; have z0 := b2.frozen 0; have z1 := b2.frozen 1; have z2 := b2.frozen 2; have z3 := b2.frozen 3; have z4 := b2.frozen 4; simp only [List.getElem?_cons_zero, List.getElem?_cons_succ] at y0 y1 y2 y3 y4)
  all_goals
    go_wp2
    refine bodyPost_ret (v := .tuple #[.agg #[.int .u8 rk, .int .u16 rd, .int .u16 rs, .int .u16 ra, .int .u16 rb], .bool ok]) (by simp [results, Try.results19, go_sem, y0, y1, y2, y3, y4]) rfl ?_
    unfold HearPost
    rw [HM.out]
    have hhi := hP.hhi
    refine ⟨rfl, ?_, ?_⟩
    · repeat (first | (with_reducible exact hp2) | (with_reducible refine PlantAt.drew ?_) | ((with_reducible refine PlantAt.far ?_ ?h _); case h => (simp; omega)))
    · repeat (first | (with_reducible exact ((hFx.of_nil _).drew).trans hf2) | (with_reducible refine Fr.drewN ?_ _) | (with_reducible refine Fr.drew ?_) | (with_reducible refine Fr.alloc ?_ _) | ((with_reducible refine Fr.setNew ?_ ?h _); case h => (simp; try omega)))

theorem hear_any (w : World) (L : PL) (S : PM) (hP : PlantAt w L S) (hm0 : 0 ≤ S.moves) (hm1 : S.moves ≤ 1000000) (t : Tl) (ht : t.ok) :
    Calls Try.prog 19 #[.pointer (some ⟨L.p, 0, none⟩), .agg t.cells.toArray] w (HearPost L S t w) := by
  have ht' := ht
  obtain ⟨_, ⟨td0, td1⟩, _, _, _⟩ := ht
  obtain ⟨tk, td, ts, ta, tb⟩ := t
  simp only at td0 td1
  cases h1 : S.works td with
  | false => exact hear_off w L S hP tk td ts ta tb td0 td1 h1
  | true =>
    obtain ⟨td, rfl⟩ := Int.eq_ofNat_of_zero_le td0
    by_cases h2 : tk = 1
    · obtain ⟨d, hd, hi1, hi2⟩ := PM.works_dev h1
      obtain ⟨k, rfl⟩ : ∃ k, td = k + 1 := ⟨td - 1, by omega⟩
      exact hear_move w L S hP hm0 hm1 tk k ts ta tb ht' h1 h2
    · by_cases h3 : tk = 6
      · exact hear_ask w L S hP tk td ts ta tb (by omega) h1 h3
      · exact hear_other w L S hP tk td ts ta tb (by omega) h1 h2 h3
end Go.Proofs.Ytncggholhmgoaaa
