/- The plant hears a move. -/
import Derived.Test.YtncggholhmgoaaaPlantSet
namespace Go.Proofs.Ytncggholhmgoaaa
set_option linter.unusedVariables false
set_option linter.unusedSimpArgs false
open Go.RowKit

def moveArgs (L : PL) (i : Nat) (e : Int × Int) (t : Tl) : Array Value :=
  #[.pointer (some ⟨L.p, 0, none⟩), .pointer (some ⟨L.bd, i * 4, none⟩), .agg #[.int .i64 e.1, .int .i64 e.2], .agg t.cells.toArray]
def MovePost (L : PL) (S : PM) (i : Nat) (d : Dv) (e : Int × Int) (t : Tl) (w : World) (en : Ending) (w' : World) : Prop :=
  en = .returned (.tuple #[.agg (S.move i d e t).2.1.cells.toArray, .bool (S.move i d e t).2.2]) ∧ PlantAt w' L (S.move i d e t).1 ∧ Fr L.own w w'
theorem quiet_end {w w' : World} {L : PL} {S : PM} (hP : PlantAt w L S) (hf : Fr [] w w') : PlantAt w' L S ∧ Fr L.own w w' := ⟨hP.fr0 hf, hf.of_nil _⟩
theorem dist_self (a : Int) : dist a a = 0 := by unfold dist; simp

set_option maxHeartbeats 2000000 in
theorem move_same (w : World) (L : PL) (S : PM) (hP : PlantAt w L S) (i : Nat) (bk did : Bool) (sq tt : Int) (hd : S.devs[i]? = some ⟨bk, did, sq, tt⟩) (ea eb : Nat) (tk td ts ta tb : Int)
    (ts0 : 0 ≤ ts) (ts1 : ts ≤ 65535) (ta0 : 0 ≤ ta) (ta1 : ta ≤ 65535) (ha : ea < S.nodes.length) (hb : eb < S.nodes.length) (hne : ea ≠ eb) (hm0 : 0 ≤ S.moves) (hm1 : S.moves ≤ 1000000)
    (h1 : did = true) (h2 : sq = ts) (h3 : tt = ta) :
    Calls Try.prog 56 (moveArgs L i (ea, eb) ⟨tk, td, ts, ta, tb⟩) w (MovePost L S i ⟨bk, did, sq, tt⟩ (ea, eb) ⟨tk, td, ts, ta, tb⟩ w) := by
  obtain ⟨⟨lp, ln, ld⟩, lp', ln', ld'⟩ := hP.lts
  obtain ⟨dv, hdv, e0, e1, e2, e3⟩ := hP.dev_get (i := i) (List.getElem?_eq_some_iff.1 hd).1
  obtain rfl : (⟨bk, did, sq, tt⟩ : Dv) = dv := Option.some.inj (hd.symm.trans hdv)
  have na := hP.node ha
  have nb := hP.node hb
  have c1 := hP.c1
  have n1 := PM.nd_in (S := S) ha
  have n2 := PM.nd_in (S := S) hb
  have HM := Lib.hid (show S.move i ⟨bk, did, sq, tt⟩ (ea, eb) ⟨tk, td, ts, ta, tb⟩ = (S, PM.done ⟨tk, td, ts, ta, tb⟩, true) by simp [PM.move, h1, h2, h3])
  have HN := Lib.hid hne
  have HD := Lib.hid hd
  clear hdv hd n1 n2 hne
  subst h1 h2 h3
  unfold moveArgs
  simp only [Tl.cells]
  go_enter Try.func56, Try.ntmps56
  go_wp2
  go_quiet (fail)
  go_wp2
  refine bodyPost_ret (v := .tuple #[.agg #[.int .u8 2, .int .u16 td, .int .u16 sq, .int .u16 tt, .int .u16 0], .bool true]) (by simp [results, Try.results56, go_sem]) rfl ?_
  unfold MovePost
  rw [HM.out]
  refine ⟨rfl, quiet_end hP ?_⟩
  repeat (first | (with_reducible exact Fr.refl _ _) | (with_reducible refine Fr.drewN ?_ _) | (with_reducible refine Fr.drew ?_) | (with_reducible refine Fr.alloc ?_ _) | ((with_reducible refine Fr.setNew ?_ ?h _); case h => (simp; try omega)))

set_option maxHeartbeats 2000000 in
theorem move_late_eq (w : World) (L : PL) (S : PM) (hP : PlantAt w L S) (i : Nat) (bk did : Bool) (sq tt : Int) (hd : S.devs[i]? = some ⟨bk, did, sq, tt⟩) (ea eb : Nat) (tk td ts ta tb : Int)
    (ts0 : 0 ≤ ts) (ts1 : ts ≤ 65535) (ta0 : 0 ≤ ta) (ta1 : ta ≤ 65535) (ha : ea < S.nodes.length) (hb : eb < S.nodes.length) (hne : ea ≠ eb) (hm0 : 0 ≤ S.moves) (hm1 : S.moves ≤ 1000000)
    (h1 : did = true) (h2 : sq = ts) (h3 : tt ≠ ta) :
    Calls Try.prog 56 (moveArgs L i (ea, eb) ⟨tk, td, ts, ta, tb⟩) w (MovePost L S i ⟨bk, did, sq, tt⟩ (ea, eb) ⟨tk, td, ts, ta, tb⟩ w) := by
  obtain ⟨⟨lp, ln, ld⟩, lp', ln', ld'⟩ := hP.lts
  obtain ⟨dv, hdv, e0, e1, e2, e3⟩ := hP.dev_get (i := i) (List.getElem?_eq_some_iff.1 hd).1
  obtain rfl : (⟨bk, did, sq, tt⟩ : Dv) = dv := Option.some.inj (hd.symm.trans hdv)
  have na := hP.node ha
  have nb := hP.node hb
  have c1 := hP.c1
  have n1 := PM.nd_in (S := S) ha
  have n2 := PM.nd_in (S := S) hb
  have HM := Lib.hid (show S.move i ⟨bk, did, sq, tt⟩ (ea, eb) ⟨tk, td, ts, ta, tb⟩ = (S, Tl.zero, false) by subst h1 h2; simp [PM.move, h3, dist_self])
  have HN := Lib.hid hne
  have HD := Lib.hid hd
  clear hdv hd n1 n2 hne
  subst h1 h2
  have q1 : (tt == ta) = false := by simp [h3]
  have q2 : decide (0 < dist sq sq) = false := by simp [dist_self]
  clear h3
  unfold moveArgs
  simp only [Tl.cells]
  go_enter Try.func56, Try.ntmps56
  go_wp2
  go_quiet (fail)
  go_wp2
  go_quiet ((go_at_call 84; exact quiet_add_same (behind_any _ _ _)))
  go_wp2
  refine bodyPost_ret (v := .tuple #[.agg #[.int .u8 0, .int .u16 0, .int .u16 0, .int .u16 0, .int .u16 0], .bool false]) (by simp [results, Try.results56, go_sem]) rfl ?_
  unfold MovePost
  rw [HM.out]
  refine ⟨rfl, quiet_end hP ?_⟩
  repeat (first | (with_reducible exact Fr.refl _ _) | (with_reducible refine Fr.drewN ?_ _) | (with_reducible refine Fr.drew ?_) | (with_reducible refine Fr.alloc ?_ _) | ((with_reducible refine Fr.setNew ?_ ?h _); case h => (simp; try omega)))

set_option maxHeartbeats 2000000 in
theorem move_late_ne (w : World) (L : PL) (S : PM) (hP : PlantAt w L S) (i : Nat) (bk did : Bool) (sq tt : Int) (hd : S.devs[i]? = some ⟨bk, did, sq, tt⟩) (ea eb : Nat) (tk td ts ta tb : Int)
    (ts0 : 0 ≤ ts) (ts1 : ts ≤ 65535) (ta0 : 0 ≤ ta) (ta1 : ta ≤ 65535) (ha : ea < S.nodes.length) (hb : eb < S.nodes.length) (hne : ea ≠ eb) (hm0 : 0 ≤ S.moves) (hm1 : S.moves ≤ 1000000)
    (h1 : did = true) (h2 : sq ≠ ts) (h3 : ¬ 0 < dist sq ts) :
    Calls Try.prog 56 (moveArgs L i (ea, eb) ⟨tk, td, ts, ta, tb⟩) w (MovePost L S i ⟨bk, did, sq, tt⟩ (ea, eb) ⟨tk, td, ts, ta, tb⟩ w) := by
  obtain ⟨⟨lp, ln, ld⟩, lp', ln', ld'⟩ := hP.lts
  obtain ⟨dv, hdv, e0, e1, e2, e3⟩ := hP.dev_get (i := i) (List.getElem?_eq_some_iff.1 hd).1
  obtain rfl : (⟨bk, did, sq, tt⟩ : Dv) = dv := Option.some.inj (hd.symm.trans hdv)
  have na := hP.node ha
  have nb := hP.node hb
  have c1 := hP.c1
  have n1 := PM.nd_in (S := S) ha
  have n2 := PM.nd_in (S := S) hb
  have HM := Lib.hid (show S.move i ⟨bk, did, sq, tt⟩ (ea, eb) ⟨tk, td, ts, ta, tb⟩ = (S, Tl.zero, false) by subst h1; simp [PM.move, h2, Int.not_lt.1 h3])
  have HN := Lib.hid hne
  have HD := Lib.hid hd
  clear hdv hd n1 n2 hne
  subst h1
  have q1 : (sq == ts) = false := by simp [h2]
  have q2 : decide (0 < dist sq ts) = false := by simp; omega
  clear h3 h2
  unfold moveArgs
  simp only [Tl.cells]
  go_enter Try.func56, Try.ntmps56
  go_wp2
  go_quiet (fail)
  go_wp2
  go_quiet ((go_at_call 84; exact quiet_add_same (behind_any _ _ _)))
  go_wp2
  refine bodyPost_ret (v := .tuple #[.agg #[.int .u8 0, .int .u16 0, .int .u16 0, .int .u16 0, .int .u16 0], .bool false]) (by simp [results, Try.results56, go_sem]) rfl ?_
  unfold MovePost
  rw [HM.out]
  refine ⟨rfl, quiet_end hP ?_⟩
  repeat (first | (with_reducible exact Fr.refl _ _) | (with_reducible refine Fr.drewN ?_ _) | (with_reducible refine Fr.drew ?_) | (with_reducible refine Fr.alloc ?_ _) | ((with_reducible refine Fr.setNew ?_ ?h _); case h => (simp; try omega)))

set_option maxHeartbeats 2000000 in
theorem move_off1 (w : World) (L : PL) (S : PM) (hP : PlantAt w L S) (i : Nat) (bk did : Bool) (sq tt : Int) (hd : S.devs[i]? = some ⟨bk, did, sq, tt⟩) (ea eb : Nat) (tk td ts ta tb : Int)
    (ts0 : 0 ≤ ts) (ts1 : ts ≤ 65535) (ta0 : 0 ≤ ta) (ta1 : ta ≤ 65535) (ha : ea < S.nodes.length) (hb : eb < S.nodes.length) (hne : ea ≠ eb) (hm0 : 0 ≤ S.moves) (hm1 : S.moves ≤ 1000000)
    (h1 : did = false) (h4 : S.nodes[ea] ≠ ta) :
    Calls Try.prog 56 (moveArgs L i (ea, eb) ⟨tk, td, ts, ta, tb⟩) w (MovePost L S i ⟨bk, did, sq, tt⟩ (ea, eb) ⟨tk, td, ts, ta, tb⟩ w) := by
  obtain ⟨⟨lp, ln, ld⟩, lp', ln', ld'⟩ := hP.lts
  obtain ⟨dv, hdv, e0, e1, e2, e3⟩ := hP.dev_get (i := i) (List.getElem?_eq_some_iff.1 hd).1
  obtain rfl : (⟨bk, did, sq, tt⟩ : Dv) = dv := Option.some.inj (hd.symm.trans hdv)
  have na := hP.node ha
  have nb := hP.node hb
  have c1 := hP.c1
  have n1 := PM.nd_in (S := S) ha
  have n2 := PM.nd_in (S := S) hb
  have HM := Lib.hid (show S.move i ⟨bk, did, sq, tt⟩ (ea, eb) ⟨tk, td, ts, ta, tb⟩ = (S, ⟨3, td, ts, ta, 1⟩, true) by subst h1; simp [PM.move, n1, h4])
  have HN := Lib.hid hne
  have HD := Lib.hid hd
  clear hdv hd n1 n2 hne
  subst h1
  have q3 : (S.nodes[ea] != ta) = true := by simp [h4]
  clear h4
  unfold moveArgs
  simp only [Tl.cells]
  go_enter Try.func56, Try.ntmps56
  go_wp2
  go_quiet (fail)
  go_wp2
  go_quiet (fail)
  go_wp2
  go_quiet (fail)
  go_wp2
  refine bodyPost_ret (v := .tuple #[.agg #[.int .u8 3, .int .u16 td, .int .u16 ts, .int .u16 ta, .int .u16 1], .bool true]) (by simp [results, Try.results56, go_sem]) rfl ?_
  unfold MovePost
  rw [HM.out]
  refine ⟨rfl, quiet_end hP ?_⟩
  repeat (first | (with_reducible exact Fr.refl _ _) | (with_reducible refine Fr.drewN ?_ _) | (with_reducible refine Fr.drew ?_) | (with_reducible refine Fr.alloc ?_ _) | ((with_reducible refine Fr.setNew ?_ ?h _); case h => (simp; try omega)))

set_option maxHeartbeats 2000000 in
theorem move_zero1 (w : World) (L : PL) (S : PM) (hP : PlantAt w L S) (i : Nat) (bk did : Bool) (sq tt : Int) (hd : S.devs[i]? = some ⟨bk, did, sq, tt⟩) (ea eb : Nat) (tk td ts ta tb : Int)
    (ts0 : 0 ≤ ts) (ts1 : ts ≤ 65535) (ta0 : 0 ≤ ta) (ta1 : ta ≤ 65535) (ha : ea < S.nodes.length) (hb : eb < S.nodes.length) (hne : ea ≠ eb) (hm0 : 0 ≤ S.moves) (hm1 : S.moves ≤ 1000000)
    (h1 : did = false) (h4 : S.nodes[ea] = ta) (h5 : ta = 0) :
    Calls Try.prog 56 (moveArgs L i (ea, eb) ⟨tk, td, ts, ta, tb⟩) w (MovePost L S i ⟨bk, did, sq, tt⟩ (ea, eb) ⟨tk, td, ts, ta, tb⟩ w) := by
  obtain ⟨⟨lp, ln, ld⟩, lp', ln', ld'⟩ := hP.lts
  obtain ⟨dv, hdv, e0, e1, e2, e3⟩ := hP.dev_get (i := i) (List.getElem?_eq_some_iff.1 hd).1
  obtain rfl : (⟨bk, did, sq, tt⟩ : Dv) = dv := Option.some.inj (hd.symm.trans hdv)
  have na := hP.node ha
  have nb := hP.node hb
  have c1 := hP.c1
  have n1 := PM.nd_in (S := S) ha
  have n2 := PM.nd_in (S := S) hb
  have HM := Lib.hid (show S.move i ⟨bk, did, sq, tt⟩ (ea, eb) ⟨tk, td, ts, ta, tb⟩ = (S, ⟨3, td, ts, ta, 1⟩, true) by subst h1; simp [PM.move, n1, h4, h5])
  have HN := Lib.hid hne
  have HD := Lib.hid hd
  clear hdv hd n1 n2 hne
  subst h1
  have q3 : (S.nodes[ea] != ta) = false := by simp [h4]
  have q4 : (ta == 0) = true := by simp [h5]
  clear h4 h5
  unfold moveArgs
  simp only [Tl.cells]
  go_enter Try.func56, Try.ntmps56
  go_wp2
  go_quiet (fail)
  go_wp2
  go_quiet (fail)
  go_wp2
  go_quiet (fail)
  go_wp2
  refine bodyPost_ret (v := .tuple #[.agg #[.int .u8 3, .int .u16 td, .int .u16 ts, .int .u16 ta, .int .u16 1], .bool true]) (by simp [results, Try.results56, go_sem]) rfl ?_
  unfold MovePost
  rw [HM.out]
  refine ⟨rfl, quiet_end hP ?_⟩
  repeat (first | (with_reducible exact Fr.refl _ _) | (with_reducible refine Fr.drewN ?_ _) | (with_reducible refine Fr.drew ?_) | (with_reducible refine Fr.alloc ?_ _) | ((with_reducible refine Fr.setNew ?_ ?h _); case h => (simp; try omega)))

set_option maxHeartbeats 2000000 in
theorem move_held1 (w : World) (L : PL) (S : PM) (hP : PlantAt w L S) (i : Nat) (bk did : Bool) (sq tt : Int) (hd : S.devs[i]? = some ⟨bk, did, sq, tt⟩) (ea eb : Nat) (tk td ts ta tb : Int)
    (ts0 : 0 ≤ ts) (ts1 : ts ≤ 65535) (ta0 : 0 ≤ ta) (ta1 : ta ≤ 65535) (ha : ea < S.nodes.length) (hb : eb < S.nodes.length) (hne : ea ≠ eb) (hm0 : 0 ≤ S.moves) (hm1 : S.moves ≤ 1000000)
    (h1 : did = false) (h4 : S.nodes[ea] = ta) (h5 : ta ≠ 0) (h6 : 0 < S.nodes[eb]) :
    Calls Try.prog 56 (moveArgs L i (ea, eb) ⟨tk, td, ts, ta, tb⟩) w (MovePost L S i ⟨bk, did, sq, tt⟩ (ea, eb) ⟨tk, td, ts, ta, tb⟩ w) := by
  obtain ⟨⟨lp, ln, ld⟩, lp', ln', ld'⟩ := hP.lts
  obtain ⟨dv, hdv, e0, e1, e2, e3⟩ := hP.dev_get (i := i) (List.getElem?_eq_some_iff.1 hd).1
  obtain rfl : (⟨bk, did, sq, tt⟩ : Dv) = dv := Option.some.inj (hd.symm.trans hdv)
  have na := hP.node ha
  have nb := hP.node hb
  have c1 := hP.c1
  have n1 := PM.nd_in (S := S) ha
  have n2 := PM.nd_in (S := S) hb
  have HM := Lib.hid (show S.move i ⟨bk, did, sq, tt⟩ (ea, eb) ⟨tk, td, ts, ta, tb⟩ = (S, ⟨3, td, ts, ta, 2⟩, true) by subst h1; simp [PM.move, n1, n2, h4, h5, h6])
  have HN := Lib.hid hne
  have HD := Lib.hid hd
  clear hdv hd n1 n2 hne
  subst h1
  have q3 : (S.nodes[ea] != ta) = false := by simp [h4]
  have q4 : (ta == 0) = false := by simp [h5]
  clear h4 h5
  unfold moveArgs
  simp only [Tl.cells]
  go_enter Try.func56, Try.ntmps56
  go_wp2
  go_quiet (fail)
  go_wp2
  go_quiet (fail)
  go_wp2
  go_quiet (fail)
  go_wp2
  go_quiet (fail)
  go_wp2
  refine bodyPost_ret (v := .tuple #[.agg #[.int .u8 3, .int .u16 td, .int .u16 ts, .int .u16 ta, .int .u16 2], .bool true]) (by simp [results, Try.results56, go_sem]) rfl ?_
  unfold MovePost
  rw [HM.out]
  refine ⟨rfl, quiet_end hP ?_⟩
  repeat (first | (with_reducible exact Fr.refl _ _) | (with_reducible refine Fr.drewN ?_ _) | (with_reducible refine Fr.drew ?_) | (with_reducible refine Fr.alloc ?_ _) | ((with_reducible refine Fr.setNew ?_ ?h _); case h => (simp; try omega)))

set_option maxHeartbeats 2000000 in
theorem move_ok1 (w : World) (L : PL) (S : PM) (hP : PlantAt w L S) (i : Nat) (bk did : Bool) (sq tt : Int) (hd : S.devs[i]? = some ⟨bk, did, sq, tt⟩) (ea eb : Nat) (tk td ts ta tb : Int)
    (ts0 : 0 ≤ ts) (ts1 : ts ≤ 65535) (ta0 : 0 ≤ ta) (ta1 : ta ≤ 65535) (ha : ea < S.nodes.length) (hb : eb < S.nodes.length) (hne : ea ≠ eb) (hm0 : 0 ≤ S.moves) (hm1 : S.moves ≤ 1000000)
    (h1 : did = false) (h4 : S.nodes[ea] = ta) (h5 : ta ≠ 0) (h6 : ¬ 0 < S.nodes[eb]) :
    Calls Try.prog 56 (moveArgs L i (ea, eb) ⟨tk, td, ts, ta, tb⟩) w (MovePost L S i ⟨bk, did, sq, tt⟩ (ea, eb) ⟨tk, td, ts, ta, tb⟩ w) := by
  obtain ⟨⟨lp, ln, ld⟩, lp', ln', ld'⟩ := hP.lts
  obtain ⟨dv, hdv, e0, e1, e2, e3⟩ := hP.dev_get (i := i) (List.getElem?_eq_some_iff.1 hd).1
  obtain rfl : (⟨bk, did, sq, tt⟩ : Dv) = dv := Option.some.inj (hd.symm.trans hdv)
  have na := hP.node ha
  have nb := hP.node hb
  have c1 := hP.c1
  have n1 := PM.nd_in (S := S) ha
  have n2 := PM.nd_in (S := S) hb
  have HM := Lib.hid (show S.move i ⟨bk, did, sq, tt⟩ (ea, eb) ⟨tk, td, ts, ta, tb⟩ = ({ S with nodes := (S.nodes.set ea 0).set eb ta, devs := S.devs.set i ⟨bk, true, ts, ta⟩, moves := S.moves + 1 }, PM.done ⟨tk, td, ts, ta, tb⟩, true) by subst h1; simp [PM.move, n1, n2, h4, h5, h6])
  have HN := Lib.hid hne
  have HD := Lib.hid hd
  clear hdv hd n1 n2 hne
  subst h1
  have q3 : (S.nodes[ea] != ta) = false := by simp [h4]
  have q4 : (ta == 0) = false := by simp [h5]
  clear h4 h5
  have fa := hP.unfrozen (g := L.bn) (by simp [PL.own]) ea
  have fb := hP.unfrozen (g := L.bn) (by simp [PL.own]) eb
  have f1 := hP.unfrozen (g := L.bd) (by simp [PL.own]) (i * 4 + 1)
  have f2 := hP.unfrozen (g := L.bd) (by simp [PL.own]) (i * 4 + 2)
  have f3 := hP.unfrozen (g := L.bd) (by simp [PL.own]) (i * 4 + 3)
  have fm := hP.unfrozen (g := L.p) (by simp [PL.own]) 3
  have c3 := hP.c3
  have hne := HN.out
  have hne2 : ¬ eb = ea := fun h => hne h.symm
  have x1 := hP.nd
  have x2 := hP.pn
  have x3 := hP.pd
  have x4 := Ne.symm hP.nd
  have x5 := Ne.symm hP.pn
  have x6 := Ne.symm hP.pd
  simp only [ne_eq] at x1 x2 x3 x4 x5 x6
  unfold moveArgs
  simp only [Tl.cells]
  go_enter Try.func56, Try.ntmps56
  go_wp2
  go_quiet (fail)
  go_wp2
  go_quiet (fail)
  go_wp2
  go_quiet (fail)
  go_wp2
  go_quiet (fail)
  go_wp2
  go_region
  all_goals go_wp2
  all_goals go_region
  all_goals go_wp2
  refine bodyPost_ret (v := .tuple #[.agg #[.int .u8 2, .int .u16 td, .int .u16 ts, .int .u16 ta, .int .u16 0], .bool true]) (by simp [results, Try.results56, go_sem]) rfl ?_
  unfold MovePost
  rw [HM.out]
  have hhi := hP.hhi
  refine ⟨rfl, ?_, ?_⟩
  · repeat (first | (with_reducible refine PlantAt.drew ?_) | ((with_reducible refine PlantAt.far ?_ ?h _); case h => (simp; omega)))
    refine PlantAt.moved ?_ HD.out _ _ _ _ _ ts0 ts1 ta0 ta1
    refine hP.fr0 ?_
    repeat (first | (with_reducible exact Fr.refl _ _) | (with_reducible refine Fr.drewN ?_ _) | (with_reducible refine Fr.drew ?_) | (with_reducible refine Fr.alloc ?_ _) | ((with_reducible refine Fr.setNew ?_ ?h _); case h => (simp; try omega)) | ((with_reducible refine Fr.setIn ?_ ?h _); case h => simp [PL.own]))
  · repeat (first | (with_reducible exact Fr.refl _ _) | (with_reducible refine Fr.drewN ?_ _) | (with_reducible refine Fr.drew ?_) | (with_reducible refine Fr.alloc ?_ _) | ((with_reducible refine Fr.setNew ?_ ?h _); case h => (simp; try omega)) | ((with_reducible refine Fr.setIn ?_ ?h _); case h => simp [PL.own]))

set_option maxHeartbeats 2000000 in
theorem move_off2 (w : World) (L : PL) (S : PM) (hP : PlantAt w L S) (i : Nat) (bk did : Bool) (sq tt : Int) (hd : S.devs[i]? = some ⟨bk, did, sq, tt⟩) (ea eb : Nat) (tk td ts ta tb : Int)
    (ts0 : 0 ≤ ts) (ts1 : ts ≤ 65535) (ta0 : 0 ≤ ta) (ta1 : ta ≤ 65535) (ha : ea < S.nodes.length) (hb : eb < S.nodes.length) (hne : ea ≠ eb) (hm0 : 0 ≤ S.moves) (hm1 : S.moves ≤ 1000000)
    (h1 : did = true) (h2 : sq ≠ ts) (h3 : 0 < dist sq ts) (h4 : S.nodes[ea] ≠ ta) :
    Calls Try.prog 56 (moveArgs L i (ea, eb) ⟨tk, td, ts, ta, tb⟩) w (MovePost L S i ⟨bk, did, sq, tt⟩ (ea, eb) ⟨tk, td, ts, ta, tb⟩ w) := by
  obtain ⟨⟨lp, ln, ld⟩, lp', ln', ld'⟩ := hP.lts
  obtain ⟨dv, hdv, e0, e1, e2, e3⟩ := hP.dev_get (i := i) (List.getElem?_eq_some_iff.1 hd).1
  obtain rfl : (⟨bk, did, sq, tt⟩ : Dv) = dv := Option.some.inj (hd.symm.trans hdv)
  have na := hP.node ha
  have nb := hP.node hb
  have c1 := hP.c1
  have n1 := PM.nd_in (S := S) ha
  have n2 := PM.nd_in (S := S) hb
  have HM := Lib.hid (show S.move i ⟨bk, did, sq, tt⟩ (ea, eb) ⟨tk, td, ts, ta, tb⟩ = (S, ⟨3, td, ts, ta, 1⟩, true) by subst h1; simp [PM.move, h2, h3, n1, h4])
  have HN := Lib.hid hne
  have HD := Lib.hid hd
  clear hdv hd n1 n2 hne
  subst h1
  have q1 : (sq == ts) = false := by simp [h2]
  have q2 : decide (0 < dist sq ts) = true := by simp; omega
  clear h2 h3
  have q3 : (S.nodes[ea] != ta) = true := by simp [h4]
  clear h4
  unfold moveArgs
  simp only [Tl.cells]
  go_enter Try.func56, Try.ntmps56
  go_wp2
  go_quiet (fail)
  go_wp2
  go_quiet ((go_at_call 84; exact quiet_add_same (behind_any _ _ _)))
  go_wp2
  go_quiet (fail)
  go_wp2
  refine bodyPost_ret (v := .tuple #[.agg #[.int .u8 3, .int .u16 td, .int .u16 ts, .int .u16 ta, .int .u16 1], .bool true]) (by simp [results, Try.results56, go_sem]) rfl ?_
  unfold MovePost
  rw [HM.out]
  refine ⟨rfl, quiet_end hP ?_⟩
  repeat (first | (with_reducible exact Fr.refl _ _) | (with_reducible refine Fr.drewN ?_ _) | (with_reducible refine Fr.drew ?_) | (with_reducible refine Fr.alloc ?_ _) | ((with_reducible refine Fr.setNew ?_ ?h _); case h => (simp; try omega)))

set_option maxHeartbeats 2000000 in
theorem move_zero2 (w : World) (L : PL) (S : PM) (hP : PlantAt w L S) (i : Nat) (bk did : Bool) (sq tt : Int) (hd : S.devs[i]? = some ⟨bk, did, sq, tt⟩) (ea eb : Nat) (tk td ts ta tb : Int)
    (ts0 : 0 ≤ ts) (ts1 : ts ≤ 65535) (ta0 : 0 ≤ ta) (ta1 : ta ≤ 65535) (ha : ea < S.nodes.length) (hb : eb < S.nodes.length) (hne : ea ≠ eb) (hm0 : 0 ≤ S.moves) (hm1 : S.moves ≤ 1000000)
    (h1 : did = true) (h2 : sq ≠ ts) (h3 : 0 < dist sq ts) (h4 : S.nodes[ea] = ta) (h5 : ta = 0) :
    Calls Try.prog 56 (moveArgs L i (ea, eb) ⟨tk, td, ts, ta, tb⟩) w (MovePost L S i ⟨bk, did, sq, tt⟩ (ea, eb) ⟨tk, td, ts, ta, tb⟩ w) := by
  obtain ⟨⟨lp, ln, ld⟩, lp', ln', ld'⟩ := hP.lts
  obtain ⟨dv, hdv, e0, e1, e2, e3⟩ := hP.dev_get (i := i) (List.getElem?_eq_some_iff.1 hd).1
  obtain rfl : (⟨bk, did, sq, tt⟩ : Dv) = dv := Option.some.inj (hd.symm.trans hdv)
  have na := hP.node ha
  have nb := hP.node hb
  have c1 := hP.c1
  have n1 := PM.nd_in (S := S) ha
  have n2 := PM.nd_in (S := S) hb
  have HM := Lib.hid (show S.move i ⟨bk, did, sq, tt⟩ (ea, eb) ⟨tk, td, ts, ta, tb⟩ = (S, ⟨3, td, ts, ta, 1⟩, true) by subst h1; simp [PM.move, h2, h3, n1, h4, h5])
  have HN := Lib.hid hne
  have HD := Lib.hid hd
  clear hdv hd n1 n2 hne
  subst h1
  have q1 : (sq == ts) = false := by simp [h2]
  have q2 : decide (0 < dist sq ts) = true := by simp; omega
  clear h2 h3
  have q3 : (S.nodes[ea] != ta) = false := by simp [h4]
  have q4 : (ta == 0) = true := by simp [h5]
  clear h4 h5
  unfold moveArgs
  simp only [Tl.cells]
  go_enter Try.func56, Try.ntmps56
  go_wp2
  go_quiet (fail)
  go_wp2
  go_quiet ((go_at_call 84; exact quiet_add_same (behind_any _ _ _)))
  go_wp2
  go_quiet (fail)
  go_wp2
  refine bodyPost_ret (v := .tuple #[.agg #[.int .u8 3, .int .u16 td, .int .u16 ts, .int .u16 ta, .int .u16 1], .bool true]) (by simp [results, Try.results56, go_sem]) rfl ?_
  unfold MovePost
  rw [HM.out]
  refine ⟨rfl, quiet_end hP ?_⟩
  repeat (first | (with_reducible exact Fr.refl _ _) | (with_reducible refine Fr.drewN ?_ _) | (with_reducible refine Fr.drew ?_) | (with_reducible refine Fr.alloc ?_ _) | ((with_reducible refine Fr.setNew ?_ ?h _); case h => (simp; try omega)))

set_option maxHeartbeats 2000000 in
theorem move_held2 (w : World) (L : PL) (S : PM) (hP : PlantAt w L S) (i : Nat) (bk did : Bool) (sq tt : Int) (hd : S.devs[i]? = some ⟨bk, did, sq, tt⟩) (ea eb : Nat) (tk td ts ta tb : Int)
    (ts0 : 0 ≤ ts) (ts1 : ts ≤ 65535) (ta0 : 0 ≤ ta) (ta1 : ta ≤ 65535) (ha : ea < S.nodes.length) (hb : eb < S.nodes.length) (hne : ea ≠ eb) (hm0 : 0 ≤ S.moves) (hm1 : S.moves ≤ 1000000)
    (h1 : did = true) (h2 : sq ≠ ts) (h3 : 0 < dist sq ts) (h4 : S.nodes[ea] = ta) (h5 : ta ≠ 0) (h6 : 0 < S.nodes[eb]) :
    Calls Try.prog 56 (moveArgs L i (ea, eb) ⟨tk, td, ts, ta, tb⟩) w (MovePost L S i ⟨bk, did, sq, tt⟩ (ea, eb) ⟨tk, td, ts, ta, tb⟩ w) := by
  obtain ⟨⟨lp, ln, ld⟩, lp', ln', ld'⟩ := hP.lts
  obtain ⟨dv, hdv, e0, e1, e2, e3⟩ := hP.dev_get (i := i) (List.getElem?_eq_some_iff.1 hd).1
  obtain rfl : (⟨bk, did, sq, tt⟩ : Dv) = dv := Option.some.inj (hd.symm.trans hdv)
  have na := hP.node ha
  have nb := hP.node hb
  have c1 := hP.c1
  have n1 := PM.nd_in (S := S) ha
  have n2 := PM.nd_in (S := S) hb
  have HM := Lib.hid (show S.move i ⟨bk, did, sq, tt⟩ (ea, eb) ⟨tk, td, ts, ta, tb⟩ = (S, ⟨3, td, ts, ta, 2⟩, true) by subst h1; simp [PM.move, h2, h3, n1, n2, h4, h5, h6])
  have HN := Lib.hid hne
  have HD := Lib.hid hd
  clear hdv hd n1 n2 hne
  subst h1
  have q1 : (sq == ts) = false := by simp [h2]
  have q2 : decide (0 < dist sq ts) = true := by simp; omega
  clear h2 h3
  have q3 : (S.nodes[ea] != ta) = false := by simp [h4]
  have q4 : (ta == 0) = false := by simp [h5]
  clear h4 h5
  unfold moveArgs
  simp only [Tl.cells]
  go_enter Try.func56, Try.ntmps56
  go_wp2
  go_quiet (fail)
  go_wp2
  go_quiet ((go_at_call 84; exact quiet_add_same (behind_any _ _ _)))
  go_wp2
  go_quiet (fail)
  go_wp2
  go_quiet (fail)
  go_wp2
  refine bodyPost_ret (v := .tuple #[.agg #[.int .u8 3, .int .u16 td, .int .u16 ts, .int .u16 ta, .int .u16 2], .bool true]) (by simp [results, Try.results56, go_sem]) rfl ?_
  unfold MovePost
  rw [HM.out]
  refine ⟨rfl, quiet_end hP ?_⟩
  repeat (first | (with_reducible exact Fr.refl _ _) | (with_reducible refine Fr.drewN ?_ _) | (with_reducible refine Fr.drew ?_) | (with_reducible refine Fr.alloc ?_ _) | ((with_reducible refine Fr.setNew ?_ ?h _); case h => (simp; try omega)))

set_option maxHeartbeats 2000000 in
theorem move_ok2 (w : World) (L : PL) (S : PM) (hP : PlantAt w L S) (i : Nat) (bk did : Bool) (sq tt : Int) (hd : S.devs[i]? = some ⟨bk, did, sq, tt⟩) (ea eb : Nat) (tk td ts ta tb : Int)
    (ts0 : 0 ≤ ts) (ts1 : ts ≤ 65535) (ta0 : 0 ≤ ta) (ta1 : ta ≤ 65535) (ha : ea < S.nodes.length) (hb : eb < S.nodes.length) (hne : ea ≠ eb) (hm0 : 0 ≤ S.moves) (hm1 : S.moves ≤ 1000000)
    (h1 : did = true) (h2 : sq ≠ ts) (h3 : 0 < dist sq ts) (h4 : S.nodes[ea] = ta) (h5 : ta ≠ 0) (h6 : ¬ 0 < S.nodes[eb]) :
    Calls Try.prog 56 (moveArgs L i (ea, eb) ⟨tk, td, ts, ta, tb⟩) w (MovePost L S i ⟨bk, did, sq, tt⟩ (ea, eb) ⟨tk, td, ts, ta, tb⟩ w) := by
  obtain ⟨⟨lp, ln, ld⟩, lp', ln', ld'⟩ := hP.lts
  obtain ⟨dv, hdv, e0, e1, e2, e3⟩ := hP.dev_get (i := i) (List.getElem?_eq_some_iff.1 hd).1
  obtain rfl : (⟨bk, did, sq, tt⟩ : Dv) = dv := Option.some.inj (hd.symm.trans hdv)
  have na := hP.node ha
  have nb := hP.node hb
  have c1 := hP.c1
  have n1 := PM.nd_in (S := S) ha
  have n2 := PM.nd_in (S := S) hb
  have HM := Lib.hid (show S.move i ⟨bk, did, sq, tt⟩ (ea, eb) ⟨tk, td, ts, ta, tb⟩ = ({ S with nodes := (S.nodes.set ea 0).set eb ta, devs := S.devs.set i ⟨bk, true, ts, ta⟩, moves := S.moves + 1 }, PM.done ⟨tk, td, ts, ta, tb⟩, true) by subst h1; simp [PM.move, h2, h3, n1, n2, h4, h5, h6])
  have HN := Lib.hid hne
  have HD := Lib.hid hd
  clear hdv hd n1 n2 hne
  subst h1
  have q1 : (sq == ts) = false := by simp [h2]
  have q2 : decide (0 < dist sq ts) = true := by simp; omega
  clear h2 h3
  have q3 : (S.nodes[ea] != ta) = false := by simp [h4]
  have q4 : (ta == 0) = false := by simp [h5]
  clear h4 h5
  have fa := hP.unfrozen (g := L.bn) (by simp [PL.own]) ea
  have fb := hP.unfrozen (g := L.bn) (by simp [PL.own]) eb
  have f1 := hP.unfrozen (g := L.bd) (by simp [PL.own]) (i * 4 + 1)
  have f2 := hP.unfrozen (g := L.bd) (by simp [PL.own]) (i * 4 + 2)
  have f3 := hP.unfrozen (g := L.bd) (by simp [PL.own]) (i * 4 + 3)
  have fm := hP.unfrozen (g := L.p) (by simp [PL.own]) 3
  have c3 := hP.c3
  have hne := HN.out
  have hne2 : ¬ eb = ea := fun h => hne h.symm
  have x1 := hP.nd
  have x2 := hP.pn
  have x3 := hP.pd
  have x4 := Ne.symm hP.nd
  have x5 := Ne.symm hP.pn
  have x6 := Ne.symm hP.pd
  simp only [ne_eq] at x1 x2 x3 x4 x5 x6
  unfold moveArgs
  simp only [Tl.cells]
  go_enter Try.func56, Try.ntmps56
  go_wp2
  go_quiet (fail)
  go_wp2
  go_quiet ((go_at_call 84; exact quiet_add_same (behind_any _ _ _)))
  go_wp2
  go_quiet (fail)
  go_wp2
  go_quiet (fail)
  go_wp2
  go_region
  all_goals go_wp2
  all_goals go_region
  all_goals go_wp2
  refine bodyPost_ret (v := .tuple #[.agg #[.int .u8 2, .int .u16 td, .int .u16 ts, .int .u16 ta, .int .u16 0], .bool true]) (by simp [results, Try.results56, go_sem]) rfl ?_
  unfold MovePost
  rw [HM.out]
  have hhi := hP.hhi
  refine ⟨rfl, ?_, ?_⟩
  · repeat (first | (with_reducible refine PlantAt.drew ?_) | ((with_reducible refine PlantAt.far ?_ ?h _); case h => (simp; omega)))
    refine PlantAt.moved ?_ HD.out _ _ _ _ _ ts0 ts1 ta0 ta1
    refine hP.fr0 ?_
    repeat (first | (with_reducible exact Fr.refl _ _) | (with_reducible refine Fr.drewN ?_ _) | (with_reducible refine Fr.drew ?_) | (with_reducible refine Fr.alloc ?_ _) | ((with_reducible refine Fr.setNew ?_ ?h _); case h => (simp; try omega)) | ((with_reducible refine Fr.setIn ?_ ?h _); case h => simp [PL.own]))
  · repeat (first | (with_reducible exact Fr.refl _ _) | (with_reducible refine Fr.drewN ?_ _) | (with_reducible refine Fr.drew ?_) | (with_reducible refine Fr.alloc ?_ _) | ((with_reducible refine Fr.setNew ?_ ?h _); case h => (simp; try omega)) | ((with_reducible refine Fr.setIn ?_ ?h _); case h => simp [PL.own]))

theorem move_any (w : World) (L : PL) (S : PM) (hP : PlantAt w L S) (i : Nat) (d : Dv) (hd : S.devs[i]? = some d) (e : Int × Int) (he : e ∈ S.edges) (t : Tl) (ht : t.ok) (hm0 : 0 ≤ S.moves) (hm1 : S.moves ≤ 1000000) :
    Calls Try.prog 56 (moveArgs L i e t) w (MovePost L S i d e t w) := by
  obtain ⟨⟨h1, h2⟩, ⟨h3, h4⟩, h5⟩ := hP.ends e he
  obtain ⟨_, _, ⟨ts0, ts1⟩, ⟨ta0, ta1⟩, _⟩ := ht
  obtain ⟨ea, eb⟩ := e
  simp only at h1 h2 h3 h4 h5
  obtain ⟨ea, rfl⟩ := Int.eq_ofNat_of_zero_le h1
  obtain ⟨eb, rfl⟩ := Int.eq_ofNat_of_zero_le h3
  have ha : ea < S.nodes.length := by omega
  have hb : eb < S.nodes.length := by omega
  have hne : ea ≠ eb := by omega
  obtain ⟨tk, td, ts, ta, tb⟩ := t
  obtain ⟨bk, did, sq, tt⟩ := d
  simp only at ts0 ts1 ta0 ta1
  by_cases g1 : did = true
  · by_cases g2 : sq = ts
    · by_cases g3 : tt = ta
      · exact move_same w L S hP i bk did sq tt hd ea eb tk td ts ta tb ts0 ts1 ta0 ta1 ha hb hne hm0 hm1 g1 g2 g3
      · exact move_late_eq w L S hP i bk did sq tt hd ea eb tk td ts ta tb ts0 ts1 ta0 ta1 ha hb hne hm0 hm1 g1 g2 g3
    · by_cases g3 : 0 < dist sq ts
      · by_cases g4 : S.nodes[ea] = ta
        · by_cases g5 : ta = 0
          · exact move_zero2 w L S hP i bk did sq tt hd ea eb tk td ts ta tb ts0 ts1 ta0 ta1 ha hb hne hm0 hm1 g1 g2 g3 g4 g5
          · by_cases g6 : 0 < S.nodes[eb]
            · exact move_held2 w L S hP i bk did sq tt hd ea eb tk td ts ta tb ts0 ts1 ta0 ta1 ha hb hne hm0 hm1 g1 g2 g3 g4 g5 g6
            · exact move_ok2 w L S hP i bk did sq tt hd ea eb tk td ts ta tb ts0 ts1 ta0 ta1 ha hb hne hm0 hm1 g1 g2 g3 g4 g5 g6
        · exact move_off2 w L S hP i bk did sq tt hd ea eb tk td ts ta tb ts0 ts1 ta0 ta1 ha hb hne hm0 hm1 g1 g2 g3 g4
      · exact move_late_ne w L S hP i bk did sq tt hd ea eb tk td ts ta tb ts0 ts1 ta0 ta1 ha hb hne hm0 hm1 g1 g2 g3
  · replace g1 : did = false := by simpa using g1
    by_cases g4 : S.nodes[ea] = ta
    · by_cases g5 : ta = 0
      · exact move_zero1 w L S hP i bk did sq tt hd ea eb tk td ts ta tb ts0 ts1 ta0 ta1 ha hb hne hm0 hm1 g1 g4 g5
      · by_cases g6 : 0 < S.nodes[eb]
        · exact move_held1 w L S hP i bk did sq tt hd ea eb tk td ts ta tb ts0 ts1 ta0 ta1 ha hb hne hm0 hm1 g1 g4 g5 g6
        · exact move_ok1 w L S hP i bk did sq tt hd ea eb tk td ts ta tb ts0 ts1 ta0 ta1 ha hb hne hm0 hm1 g1 g4 g5 g6
    · exact move_off1 w L S hP i bk did sq tt hd ea eb tk td ts ta tb ts0 ts1 ta0 ta1 ha hb hne hm0 hm1 g1 g4
end Go.Proofs.Ytncggholhmgoaaa
