/- stillagelaw20.PlantStill: the walk. -/
import Derived.Test.YtncggholhmgoaaaPlantScript
import Derived.Test.YtncggholhmgoaaaStillPlain
namespace Go.Proofs.Ytncggholhmgoaaa
set_option linter.unusedVariables false
set_option linter.unusedSimpArgs false
open Go.RowKit

theorem quiet_same3 {P : Program} {f : FuncId} {args : Array Value} {w : World} {n : Nat} {v : Value}
    (h : Calls P f args (w.drewN n) fun e w' => e = .returned v ∧ w' = w.drewN n) :
    Calls P f args (w.drewN n) fun e w'' => e = .returned v ∧ ∃ m, w'' = w.drewN m :=
  h.mono fun _ _ ⟨he, hm⟩ => ⟨he, n, hm⟩

theorem was_set : ∀ k, k < 31 → (List.replicate k (-1 : Int) ++ List.replicate (31 - k) 0).set k (-1) = List.replicate (k + 1) (-1) ++ List.replicate (31 - (k + 1)) 0 := by decide
theorem was_get : ∀ k, k < 31 → (List.replicate k (-1 : Int) ++ List.replicate (31 - k) 0)[k]? = some 0 := by decide
theorem was_end {w : World} {G k : Nat} (hk : k ≤ 31) (hlt : ¬ k < 31) (h : Blk w G 70 (List.map (Value.int .i64) (List.replicate k (-1) ++ List.replicate (31 - k) 0))) : Blk w G 70 (List.map (Value.int .i64) (List.replicate 31 (-1))) := by
  have h31 : k = 31 := by omega
  rw [h31] at h
  exact h
theorem int_set (l : List Int) (k : Nat) (x : Int) : (intCells l).set k (.int .i64 x) = intCells (l.set k x) := by rw [intCells, ← List.map_set]; rfl
theorem int_get {l : List Int} {k : Nat} {x : Int} (h : l[k]? = some x) : (intCells l)[k]? = some (.int .i64 x) := by simp [intCells, h]

theorem still_end {w W : World} {L : PL} {S : PM} {was : List Int} {E : List (Int × Int)} {n k G : Nat} {cs : List Value} (hs : PM.Still S was E n k) (hP : PlantAt W L S) (hA : Blk W G 70 (intCells was)) (hB : Blk W w.heap.size 28 cs) (hF : Fr [] w W)
    (hG : w.heap.size ≤ G) (hL : L.hi ≤ G) :
    PlantAt (W.alloc (.cells (madeCells #[.int .i64 0] n) 3)) L S ∧ PM.Still S was E n k ∧ Blk (W.alloc (.cells (madeCells #[.int .i64 0] n) 3)) G 70 (intCells was) ∧ Blk (W.alloc (.cells (madeCells #[.int .i64 0] n) 3)) w.heap.size 28 cs ∧
      Fr [] w (W.alloc (.cells (madeCells #[.int .i64 0] n) 3)) ∧ Blk (W.alloc (.cells (madeCells #[.int .i64 0] n) 3)) W.heap.size 3 (intCells (List.replicate n 0)) ∧
      (w.heap.size ≤ W.heap.size ∧ G ≠ W.heap.size ∧ w.heap.size ≠ W.heap.size ∧ L.hi ≤ W.heap.size) := by
  have h1 := hA.lt
  have h2 := hB.lt
  refine ⟨hP.alloc _, hs, hA.alloc _, hB.alloc _, hF.alloc _, ?_, by omega, by omega, by omega, by omega⟩
  have := Blk.new_at W 3 (madeCells #[.int .i64 0] n) W.heap.size rfl
  rwa [made3] at this

set_option maxHeartbeats 8000000 in
set_option maxRecDepth 100000 in
theorem still_any (w : World) (B : Nat) (An Ae As : Option Addr) (cn ce cs : Nat) (l : Lay) (ops : List POp) (hL : LayAt w B An Ae l) (hS : ScriptAt w B As ops) (hce : Ae = none → ce = 0) :
    Calls Try.prog 8 #[.agg #[.slice An l.nodes.length cn, .slice Ae l.edges.length ce], .slice As ops.length cs] w fun e w' => e = .returned (.bool true) ∧ Fr [] w w' := by
  have ln := hL.ln
  have le := hL.le
  have ls := hS.ln
  have hBw := hL.hB
  have hb0 := Blk.new w 28 [.slice An l.nodes.length cn, .slice Ae l.edges.length ce]
  have Hce := Lib.hid hce
  clear hce
  go_enter Try.func8, Try.ntmps8
  go_wp2_with fail
  refine (awake_any _).mono ?_
  rintro e w1 ⟨rfl, hf1⟩
  have b1 := hb0.fr hf1 (by simp)
  have y0 := b1.cell 0
  have y1 := b1.cell 1
  simp only [List.getElem?_cons_zero, List.getElem?_cons_succ] at y0 y1
  go_wp2_with fail
  refine (few_any _ _ _ _ _ _ _ ln le).mono ?_
  rintro e w2 ⟨rfl, hf2⟩
  have b2 := b1.fr hf2 (by simp)
  have z0 := b2.cell 0
  have z1 := b2.cell 1
  simp only [List.getElem?_cons_zero, List.getElem?_cons_succ] at z0 z1
  have g2 := (((Fr.refl [] w).alloc (.cells #[.slice An l.nodes.length cn, .slice Ae l.edges.length ce] 28)).trans hf1).trans hf2
  cases hfew : (decide (l.nodes.length ≤ 60) && decide (l.edges.length ≤ 200)) with
  | false =>
    go_wp2_with (go_at_call 16; refine (awake_any _).mono ?_; rintro e w3 ⟨rfl, hf3⟩)
    go_ret
    exact ⟨rfl, g2.trans hf3⟩
  | true =>
    have le2 : l.nodes.length ≤ 60 ∧ l.edges.length ≤ 200 := by simpa only [Bool.and_eq_true, decide_eq_true_eq] using hfew
    obtain ⟨ln2, le2⟩ := le2
    go_wp2_with fail
    refine (new_any _ B An Ae cn ce l (hL.fr g2) Hce.out).mono ?_
    rintro e w3 (⟨hk, rfl, hf3⟩ | ⟨hk, L, rfl, hP, hf3, hlo, hhi⟩)
    · go_wp2_with fail
      go_ret
      exact ⟨rfl, g2.trans hf3⟩
    · have hg3 := g2.trans hf3
      have b3 := b2.fr hf3 (by simp)
      have hown := hP.own_ge
      rw [hlo] at hown
      have hsz2 := g2.size
      have HOWN := Lib.hid (show ∀ k, k ∈ L.own → k ∈ ([] : List Nat) ∨ w.heap.size ≤ k from fun k hk => .inr (Nat.le_trans hsz2 (hown k hk)))
      have HOWN2 := Lib.hid (show ∀ k, k ∈ L.own → k ≠ w.heap.size from fun k hk => by have := hown k hk; have := b2.lt; omega)
      have HHI := Lib.hid hhi
      have HST := Lib.hid (PM.Still.init l hk)
      clear hown hlo hhi hf3 z0 z1 y0 y1 b1 b2 hb0 hf1 hf2
      have hgL : w3.heap.size ∉ L.own := hP.fresh (Nat.le_refl _)
      have hgB : w3.heap.size ≠ w.heap.size := by have := b3.lt; omega
      go_wp2_with fail
      have hg4 := hg3.alloc (.cells #[.int .i64 0, .int .i64 0, .int .i64 0, .int .i64 0, .int .i64 0, .int .i64 0, .int .i64 0, .int .i64 0, .int .i64 0, .int .i64 0, .int .i64 0, .int .i64 0, .int .i64 0, .int .i64 0, .int .i64 0, .int .i64 0, .int .i64 0, .int .i64 0, .int .i64 0, .int .i64 0, .int .i64 0, .int .i64 0, .int .i64 0, .int .i64 0, .int .i64 0, .int .i64 0, .int .i64 0, .int .i64 0, .int .i64 0, .int .i64 0, .int .i64 0] 70)
      have hsz3 := hg3.size
      have HG0 := Lib.hid hg4
      have HP0 := Lib.hid (fun o => hP.alloc o)
      have HB0 := Lib.hid (fun o => b3.alloc o)
      have HA0 := Lib.hid (show Blk (w3.alloc (.cells #[.int .i64 0, .int .i64 0, .int .i64 0, .int .i64 0, .int .i64 0, .int .i64 0, .int .i64 0, .int .i64 0, .int .i64 0, .int .i64 0, .int .i64 0, .int .i64 0, .int .i64 0, .int .i64 0, .int .i64 0, .int .i64 0, .int .i64 0, .int .i64 0, .int .i64 0, .int .i64 0, .int .i64 0, .int .i64 0, .int .i64 0, .int .i64 0, .int .i64 0, .int .i64 0, .int .i64 0, .int .i64 0, .int .i64 0, .int .i64 0, .int .i64 0] 70)) w3.heap.size 70 (intCells (List.replicate 0 (-1) ++ List.replicate (31 - 0) 0)) from Blk.new w3 70 _)
      have HS := Lib.hid hS
      have HL := Lib.hid hL
      clear hg3 hg4 hP b3 hS hL hfew
      generalize hG : w3.heap.size = G at *
      go_loopw [36] (fun i wr => ∃ k : Nat, k ≤ 31 ∧ i = .int .i64 k ∧ Blk wr G 70 (intCells (List.replicate k (-1) ++ List.replicate (31 - k) 0)) ∧ PlantAt wr L (PM.init l) ∧
        Blk wr w.heap.size 28 [.slice An l.nodes.length cn, .slice Ae l.edges.length ce] ∧ Fr [] w wr) (fun i _ => 31 - (intOf i).toNat)
      case atStart => exact ⟨0, by omega, rfl, HA0.out, HP0.out _, HB0.out _, HG0.out⟩
      case round =>
        clear HA0 HP0 HB0 HG0
        obtain ⟨k, hk, rfl, hA, hP, hB, hgr⟩ := hrel
        have lG := hA.lt
        have fG := hA.frozen
        by_cases hlt : k < 31
        · have cG := hA.cell k
          rw [int_get (was_get k hlt)] at cG
          have hd31 : decide ((k : Int) < 31) = true := by simp; omega
          go_wp2_with fail
          have hA2 := hA.set_ k (.int .i64 (-1))
          rw [int_set, was_set k hlt] at hA2
          exact ⟨⟨k + 1, by omega, by go_num, hA2, hP.fr ((Fr.refl [G] wr).setIn (by simp) _) (by intro i hi; simp only [List.mem_cons, List.not_mem_nil, or_false] at hi; rw [hi]; exact HHI.out), hB.far (Ne.symm hgB) _, hgr.setNew hsz3 _⟩, by simp [intOf]; omega⟩
        · have hd31 : decide ((k : Int) < 31) = false := by simp; omega
          obtain ⟨i3, hi3, hz3, hs3, hb3⟩ := info_parts info3
          have hmk := fun W => run_make_rowN (P := Try.prog) 57 3 i3 _ Try.underlying57 hi3 hz3 .i64 .i64 l.nodes.length l.nodes.length (Nat.le_refl _) (by rw [hb3]; omega) (by omega) W
          rw [hs3, Nat.mul_one] at hmk
          simp only [Value.cells] at hmk
          clear hi3 hz3 hs3 hb3
          have HMK := Lib.hid hmk
          clear hmk
          have HA := Lib.hid (was_end hk hlt hA)
          have HP := Lib.hid hP
          obtain ⟨bcs, hbcs, hB⟩ : ∃ bcs, bcs = [.slice An l.nodes.length cn, .slice Ae l.edges.length ce] ∧ Blk wr w.heap.size 28 bcs := ⟨_, rfl, hB⟩
          have HBC := Lib.hid hbcs
          have HB := Lib.hid hB
          have HG := Lib.hid hgr
          clear hA hP hB hgr lG fG hlt hbcs
          go_wp2_with fail
          go_loopw [9] (fun i wr => ∃ (k : Nat) (S : PM) (was : List Int), k ≤ ops.length ∧ k ≤ 150 ∧ i = .int .i64 k ∧ PlantAt wr L S ∧ PM.Still S was l.edges l.nodes.length k ∧ Blk wr G 70 (intCells was) ∧
            Blk wr w.heap.size 28 bcs ∧ Fr [] w wr) (fun i _ => ops.length - (intOf i).toNat)
          case atStart => exact ⟨0, _, _, Nat.zero_le _, by omega, rfl, HP.out, HST.out, HA.out, HB.out, HG.out⟩
          case round =>
            clear HA HP HB HG
            obtain ⟨k, S, was, hk, hk2, rfl, hPr, hSt, hTr, hBr, hgr⟩ := hrel
            by_cases hlt : k < ops.length ∧ k < 150
            · obtain ⟨hlt, hlt2⟩ := hlt
              have hk150 : decide ((k : Int) < 150) = true := by simp; omega
              obtain ⟨o, ho⟩ : ∃ o, ops[k]? = some o := ⟨_, List.getElem?_eq_getElem hlt⟩
              have hSr := HS.out.frS hgr (by simp)
              obtain ⟨ad, hAs, hadb, c0, c1, c2, c3, c4, c5, c6, c7⟩ := hSr.op ho
              have ht := hSr.tele o (List.mem_of_getElem? ho)
              subst hAs
              obtain ⟨kd, oa, ob, tk, td, ts, ta, tb⟩ := o
              simp only at c0 c1 c2 c3 c4 c5 c6 c7 ht
              have td1 : 0 ≤ td ∧ td ≤ 65535 := ht.2.1
              have ta1 : 0 ≤ ta ∧ ta ≤ 65535 := ht.2.2.2.1
              obtain ⟨td1, td2⟩ := td1
              obtain ⟨ta1, ta2⟩ := ta1
              have hcl : ∀ n, (ad.add n).block < wr.heap.size := fun n => by have := hSr.hB; rw [block_of_add]; omega
              have HM := Lib.hid (And.intro hSt.m0 hSt.m1)
              have HSt := Lib.hid hSt
              have HT := Lib.hid ht
              have HTr := Lib.hid hTr
              have HBr := Lib.hid hBr
              have hmk := HMK.out
              clear ho ht hSr hSt hTr hBr
              have hBr0 := Lib.hid (HBr.out)
              rcases (show kd = 3 ∨ kd = 4 ∨ (kd ≠ 1 ∧ kd ≠ 2 ∧ kd ≠ 3 ∧ kd ≠ 4) ∨ kd = 1 ∨ kd = 2 from by omega) with k1 | k1 | k1 | k1 | k1
              case' inl =>
                subst k1
                go_wp2_with fail
                refine (moves_any _ L S (hPr.alloc _)).mono ?_
                rintro e wz ⟨rfl, rfl⟩
                have HBL := Lib.hid (fun W (hF : Fr [] wr W) => HBr.out.fr hF (by simp))
                have Q0 := Lib.hid (hBr0.out.alloc (.cells #[.int .i64 3, .int .i64 oa, .int .i64 ob, .int .u8 tk, .int .u16 td, .int .u16 ts, .int .u16 ta, .int .u16 tb] 48))
                go_wp2_with fail
                refine (break_any _ L S (hPr.alloc _) _).mono ?_
                rintro e w4 ⟨rfl, hP4, hf4⟩
                have bx := (Q0.out).fr hf4 (fun h => HOWN2.out _ h rfl)
                have x0 := bx.cell 0
                rw [HBC.out] at x0
                have lx := bx.lt
                simp only [List.getElem?_cons_zero] at x0
                go_wp2_with fail
                obtain ⟨S1, was1, H, wq, hwq, hH, hAll⟩ : ∃ S1 was1 H wq, wq = w4.alloc (.cells (madeCells #[.int .i64 0] l.nodes.length) 3) ∧ H = w4.heap.size ∧ PlantAt wq L S1 ∧ PM.Still S1 was1 l.edges l.nodes.length (k + 1) ∧ Blk wq G 70 (intCells was1) ∧
                Blk wq w.heap.size 28 bcs ∧ Fr [] w wq ∧ Blk wq H 3 (intCells (List.replicate l.nodes.length 0)) ∧ (w.heap.size ≤ H ∧ G ≠ H ∧ w.heap.size ≠ H ∧ L.hi ≤ H) :=
                  ⟨_, _, _, _, rfl, rfl, still_end (HSt.out.fault oa true) hP4 ((HTr.out.alloc _).fr hf4 hgL) bx ((hgr.alloc _).trans' hf4 HOWN.out) hsz3 HHI.out⟩
                rw [← hwq, ← hH]
                clear hwq hH hP4 hf4 bx x0 lx HBL Q0
              case' inr.inl =>
                subst k1
                go_wp2_with fail
                refine (moves_any _ L S (hPr.alloc _)).mono ?_
                rintro e wz ⟨rfl, rfl⟩
                have HBL := Lib.hid (fun W (hF : Fr [] wr W) => HBr.out.fr hF (by simp))
                have Q0 := Lib.hid (hBr0.out.alloc (.cells #[.int .i64 4, .int .i64 oa, .int .i64 ob, .int .u8 tk, .int .u16 td, .int .u16 ts, .int .u16 ta, .int .u16 tb] 48))
                go_wp2_with fail
                refine (mend_any _ L S (hPr.alloc _) _).mono ?_
                rintro e w4 ⟨rfl, hP4, hf4⟩
                have bx := (Q0.out).fr hf4 (fun h => HOWN2.out _ h rfl)
                have x0 := bx.cell 0
                rw [HBC.out] at x0
                have lx := bx.lt
                simp only [List.getElem?_cons_zero] at x0
                go_wp2_with fail
                obtain ⟨S1, was1, H, wq, hwq, hH, hAll⟩ : ∃ S1 was1 H wq, wq = w4.alloc (.cells (madeCells #[.int .i64 0] l.nodes.length) 3) ∧ H = w4.heap.size ∧ PlantAt wq L S1 ∧ PM.Still S1 was1 l.edges l.nodes.length (k + 1) ∧ Blk wq G 70 (intCells was1) ∧
                Blk wq w.heap.size 28 bcs ∧ Fr [] w wq ∧ Blk wq H 3 (intCells (List.replicate l.nodes.length 0)) ∧ (w.heap.size ≤ H ∧ G ≠ H ∧ w.heap.size ≠ H ∧ L.hi ≤ H) :=
                  ⟨_, _, _, _, rfl, rfl, still_end (HSt.out.fault oa false) hP4 ((HTr.out.alloc _).fr hf4 hgL) bx ((hgr.alloc _).trans' hf4 HOWN.out) hsz3 HHI.out⟩
                rw [← hwq, ← hH]
                clear hwq hH hP4 hf4 bx x0 lx HBL Q0
              case' inr.inr.inl =>
                obtain ⟨k1, k2, k3, k4⟩ := k1
                have q1 : (kd == 1) = false := by simp [k1]
                have q2 : (kd == 2) = false := by simp [k2]
                have q3 : (kd == 3) = false := by simp [k3]
                have q4 : (kd == 4) = false := by simp [k4]
                clear k1 k2 k3 k4
                go_wp2_with fail
                refine (moves_any _ L S (hPr.alloc _)).mono ?_
                rintro e wz ⟨rfl, rfl⟩
                have bx := hBr0.out.alloc (.cells #[.int .i64 kd, .int .i64 oa, .int .i64 ob, .int .u8 tk, .int .u16 td, .int .u16 ts, .int .u16 ta, .int .u16 tb] 48)
                have x0 := bx.cell 0
                rw [HBC.out] at x0
                have lx := bx.lt
                simp only [List.getElem?_cons_zero] at x0
                go_wp2_with fail
                obtain ⟨S1, was1, H, wq, hwq, hH, hAll⟩ : ∃ S1 was1 H wq, wq = (wr.alloc (.cells #[.int .i64 kd, .int .i64 oa, .int .i64 ob, .int .u8 tk, .int .u16 td, .int .u16 ts, .int .u16 ta, .int .u16 tb] 48)).alloc (.cells (madeCells #[.int .i64 0] l.nodes.length) 3) ∧ H = wr.heap.size + 1 ∧ PlantAt wq L S1 ∧ PM.Still S1 was1 l.edges l.nodes.length (k + 1) ∧ Blk wq G 70 (intCells was1) ∧
                Blk wq w.heap.size 28 bcs ∧ Fr [] w wq ∧ Blk wq H 3 (intCells (List.replicate l.nodes.length 0)) ∧ (w.heap.size ≤ H ∧ G ≠ H ∧ w.heap.size ≠ H ∧ L.hi ≤ H) :=
                  ⟨_, _, _, _, rfl, (by simp), still_end HSt.out.mono (hPr.alloc _) (HTr.out.alloc _) bx (hgr.alloc _) hsz3 HHI.out⟩
                rw [← hwq, ← hH]
                clear hwq hH bx x0 lx q1 q2 q3 q4
              case' inr.inr.inr.inl =>
                subst k1
                go_wp2_with fail
                refine (moves_any _ L S (hPr.alloc _)).mono ?_
                rintro e wz ⟨rfl, rfl⟩
                have Q0 := Lib.hid (hBr0.out.alloc (.cells #[.int .i64 1, .int .i64 oa, .int .i64 ob, .int .u8 tk, .int .u16 td, .int .u16 ts, .int .u16 ta, .int .u16 tb] 48))
                have QT := Lib.hid (HTr.out.alloc (.cells #[.int .i64 1, .int .i64 oa, .int .i64 ob, .int .u8 tk, .int .u16 td, .int .u16 ts, .int .u16 ta, .int .u16 tb] 48))
                have OB := Blk.new wr 48 [.int .i64 1, .int .i64 oa, .int .i64 ob, .int .u8 tk, .int .u16 td, .int .u16 ts, .int .u16 ta, .int .u16 tb]
                have nb : wr.heap.size ∉ L.own := hPr.fresh (Nat.le_refl _)
                have hput := fun W (h : PlantAt W L S) => put_any W L S h oa ob
                have hcs := HSt.out.put oa ob
                generalize hr : S.put oa ob = r at hput hcs
                obtain ⟨pe, S'⟩ := r
                simp only at hput hcs
                have HPUT := Lib.hid hput
                clear hput hr
                go_wp2_with fail
                refine (HPUT.out _ (hPr.alloc _)).mono ?_
                rintro e w4 ⟨rfl, hP4, hf4⟩
                have bx := Q0.out.fr hf4 (fun h => HOWN2.out _ h rfl)
                have bt := QT.out.fr hf4 hgL
                have x0 := bx.cell 0
                rw [HBC.out] at x0
                have lx := bx.lt
                have lt4 := bt.lt
                have ft4 := bt.frozen
                have bo := OB.fr hf4 nb
                have o1 := bo.cell 1
                have o2 := bo.cell 2
                have lo4 := bo.lt
                simp only [List.getElem?_cons_zero, List.getElem?_cons_succ] at x0 o1 o2
                have hg4 := (hgr.alloc (.cells #[.int .i64 1, .int .i64 oa, .int .i64 ob, .int .u8 tk, .int .u16 td, .int .u16 ts, .int .u16 ta, .int .u16 tb] 48)).trans' hf4 HOWN.out
                rcases hcs with ⟨hne, rfl⟩ | ⟨rfl, hoa, hwn, hwb, hob, hSn⟩
                case' inl =>
                  have hq : (pe == 0) = false := by simp [hne]
                  clear hne
                  go_wp2_with fail
                  obtain ⟨S1, was1, H, wq, hwq, hH, hAll⟩ : ∃ S1 was1 H wq, wq = w4.alloc (.cells (madeCells #[.int .i64 0] l.nodes.length) 3) ∧ H = w4.heap.size ∧ PlantAt wq L S1 ∧ PM.Still S1 was1 l.edges l.nodes.length (k + 1) ∧ Blk wq G 70 (intCells was1) ∧
                Blk wq w.heap.size 28 bcs ∧ Fr [] w wq ∧ Blk wq H 3 (intCells (List.replicate l.nodes.length 0)) ∧ (w.heap.size ≤ H ∧ G ≠ H ∧ w.heap.size ≠ H ∧ L.hi ≤ H) :=
                    ⟨_, _, _, _, rfl, rfl, still_end HSt.out.mono hP4 bt bx hg4 hsz3 HHI.out⟩
                  rw [← hwq, ← hH]
                  clear hwq hH hP4 hf4 bx x0 lx bt lt4 ft4 bo o1 o2 lo4 hq Q0 QT OB
                case' inr =>
                  obtain ⟨a, rfl⟩ := Int.eq_ofNat_of_zero_le (show 0 ≤ oa by omega)
                  simp only [Int.toNat_natCast] at hSn
                  have d1 : decide ((a : Int) < 1) = false := by simp; omega
                  have d2 : decide ((30 : Int) < (a : Int)) = false := by simp; omega
                  have a1 : a ≤ 30 := by omega
                  have a2 : 1 ≤ a := by omega
                  have ca := bt.cell a
                  rw [int_get (HSt.out.w a a2 a1), hwn] at ca
                  have hwh := fun W (h : PlantAt W L S') => where_any W L S' h a
                  rw [hwb] at hwh
                  have HWH := Lib.hid hwh
                  have HSN := Lib.hid hSn
                  clear hwh hSn hwb hwn hoa
                  have hi0 : (0 : Int) ≤ (a : Int) := by omega
                  have hi1 : (a : Int) < 31 := by omega
                  go_wp2_with fail
                  go_quiet ((go_at_call 20; exact quiet_same3 (HWH.out _ (hP4.drewN _))))
                  go_wp2_with fail
                  obtain ⟨S1, was1, H, wq, hwq, hH, hAll⟩ : ∃ S1 was1 H wq, wq = ((w4.drewN nq).setCell ⟨G, a, none⟩ (.int .i64 ob)).alloc (.cells (madeCells #[.int .i64 0] l.nodes.length) 3) ∧ H = w4.heap.size ∧ PlantAt wq L S1 ∧ PM.Still S1 was1 l.edges l.nodes.length (k + 1) ∧ Blk wq G 70 (intCells was1) ∧
                Blk wq w.heap.size 28 bcs ∧ Fr [] w wq ∧ Blk wq H 3 (intCells (List.replicate l.nodes.length 0)) ∧ (w.heap.size ≤ H ∧ G ≠ H ∧ w.heap.size ≠ H ∧ L.hi ≤ H) := by
                    have hA2 := (bt.drewN nq).set_ a (.int .i64 ob)
                    rw [int_set] at hA2
                    have hz : ((w4.drewN nq).setCell ⟨G, a, none⟩ (.int .i64 ob)).heap.size = w4.heap.size := by simp [World.setCell]
                    have := still_end (n := l.nodes.length) HSN.out ((hP4.drewN nq).fr ((Fr.refl [G] _).setIn (by simp) (.int .i64 ob)) (by intro i hi; simp only [List.mem_cons, List.not_mem_nil, or_false] at hi; rw [hi]; exact HHI.out)) hA2 ((bx.drewN nq).far (p := ⟨G, a, none⟩) (Ne.symm hgB) (.int .i64 ob)) ((hg4.drewN nq).setNew (p := ⟨G, a, none⟩) hsz3 (.int .i64 ob)) hsz3 HHI.out
                    rw [hz] at this
                    exact ⟨_, _, _, _, rfl, rfl, this⟩
                  rw [← hwq, ← hH]
                  clear hwq hH hP4 hf4 bx x0 lx bt lt4 ft4 bo o1 o2 lo4 Q0 QT OB ca d1 d2 hi0 hi1
              case' inr.inr.inr.inr =>
                subst k1
                go_wp2_with fail
                refine (moves_any _ L S (hPr.alloc _)).mono ?_
                rintro e wz ⟨rfl, rfl⟩
                have Q0 := Lib.hid (hBr0.out.alloc (.cells #[.int .i64 2, .int .i64 oa, .int .i64 ob, .int .u8 tk, .int .u16 td, .int .u16 ts, .int .u16 ta, .int .u16 tb] 48))
                have QT := Lib.hid (HTr.out.alloc (.cells #[.int .i64 2, .int .i64 oa, .int .i64 ob, .int .u8 tk, .int .u16 td, .int .u16 ts, .int .u16 ta, .int .u16 tb] 48))
                have OB := Blk.new wr 48 [.int .i64 2, .int .i64 oa, .int .i64 ob, .int .u8 tk, .int .u16 td, .int .u16 ts, .int .u16 ta, .int .u16 tb]
                have nb : wr.heap.size ∉ L.own := hPr.fresh (Nat.le_refl _)
                have hc1 := fun W (h : PlantAt W L S) => hear_any W L S h HM.out.1 (by have := HM.out.2; omega) ⟨tk, td, ts, ta, tb⟩ HT.out
                unfold HearPost at hc1
                have hcs := HSt.out.hear ⟨tk, td, ts, ta, tb⟩ td1
                generalize hr : S.hear ⟨tk, td, ts, ta, tb⟩ = r at hc1 hcs
                obtain ⟨S', ⟨rk, rd, rs, ra, rb⟩, ok⟩ := r
                simp only [Tl.cells] at hc1 hcs
                have HC1 := Lib.hid hc1
                clear hc1 hr
                go_wp2_with fail
                refine (HC1.out _ (hPr.alloc _)).mono ?_
                rintro e w5 ⟨rfl, hP5, hf5⟩
                have bx := Q0.out.fr hf5 (fun h => HOWN2.out _ h rfl)
                have bt := QT.out.fr hf5 hgL
                have bo := OB.fr hf5 nb
                have x0 := bx.cell 0
                rw [HBC.out] at x0
                have x1 := bx.cell 1
                rw [HBC.out] at x1
                have lx := bx.lt
                have lt4 := bt.lt
                have ft4 := bt.frozen
                have o3 := bo.cell 3
                have o4 := bo.cell 4
                have o6 := bo.cell 6
                have lo4 := bo.lt
                simp only [List.getElem?_cons_zero, List.getElem?_cons_succ] at x0 x1 o3 o4 o6
                have hg5 := (hgr.alloc (.cells #[.int .i64 2, .int .i64 oa, .int .i64 ob, .int .u8 tk, .int .u16 td, .int .u16 ts, .int .u16 ta, .int .u16 tb] 48)).trans' hf5 HOWN.out
                go_wp2_with fail
                refine (moves_any _ L S' (hP5.alloc _)).mono ?_
                rintro e wz ⟨rfl, rfl⟩
                rcases hcs with ⟨rfl, _⟩ | ⟨hmv, rfl, hdn, ⟨hd1, hd2⟩, ⟨ha1, ha2⟩, ⟨e1, e2⟩, hE, hwa, hwb, ⟨he3, he4⟩, hSn⟩
                case' inl =>
                  have hno : ¬ S'.moves < S'.moves := by omega
                  go_wp2_with fail
                  obtain ⟨S1, was1, H, wq, hwq, hH, hAll⟩ : ∃ S1 was1 H wq, wq = (w5.alloc (.cells #[.int .u8 rk, .int .u16 rd, .int .u16 rs, .int .u16 ra, .int .u16 rb] 39)).alloc (.cells (madeCells #[.int .i64 0] l.nodes.length) 3) ∧ H = w5.heap.size + 1 ∧ PlantAt wq L S1 ∧ PM.Still S1 was1 l.edges l.nodes.length (k + 1) ∧ Blk wq G 70 (intCells was1) ∧
                Blk wq w.heap.size 28 bcs ∧ Fr [] w wq ∧ Blk wq H 3 (intCells (List.replicate l.nodes.length 0)) ∧ (w.heap.size ≤ H ∧ G ≠ H ∧ w.heap.size ≠ H ∧ L.hi ≤ H) :=
                    ⟨_, _, _, _, rfl, (by simp), still_end HSt.out.mono (hP5.alloc _) (bt.alloc _) (bx.alloc _) (hg5.alloc _) hsz3 HHI.out⟩
                  rw [← hwq, ← hH]
                  clear hwq hH hP5 hf5 bx x0 x1 lx bt lt4 ft4 bo o3 o4 o6 lo4 hno Q0 QT OB
                case' inr =>
                  simp only [PM.done, Prod.mk.injEq, Tl.mk.injEq] at hdn
                  obtain ⟨⟨rfl, rfl, rfl, rfl, rfl⟩, rfl⟩ := hdn
                  have hgt : S.moves < S'.moves := by omega
                  have hne : (S'.moves == S.moves + 1) = true := by simp [hmv]
                  obtain ⟨m, rfl⟩ : ∃ m : Nat, rd = (m : Int) + 1 := ⟨(rd - 1).toNat, by omega⟩
                  obtain ⟨a, rfl⟩ := Int.eq_ofNat_of_zero_le (show 0 ≤ ra by omega)
                  rw [show ((m : Int) + 1).toNat - 1 = m by omega] at hE
                  simp only [Int.toNat_natCast] at hSn hwa
                  have hml := (List.getElem?_eq_some_iff.1 hE).1
                  obtain ⟨ade, hAe, hade, f0, f1⟩ := (HL.out.fr hg5).edge hE
                  subst hAe
                  have hcle : ∀ n, (ade.add n).block < w5.heap.size := fun n => by have := (HL.out.fr hg5).hB; rw [block_of_add]; omega
                  simp only at f0 f1
                  have g1 : decide ((m : Int) + 1 < 1) = false := by simp; omega
                  have g2 : decide ((l.edges.length : Int) < (m : Int) + 1) = false := by simp; omega
                  have g3 : decide ((a : Int) < 1) = false := by simp; omega
                  have g4 : decide ((30 : Int) < (a : Int)) = false := by simp; omega
                  have a1 : a ≤ 30 := by omega
                  have a2 : 1 ≤ a := by omega
                  have ca := bt.cell a
                  rw [int_get hwa] at ca
                  have hwh := fun W (h : PlantAt W L S') => where_any W L S' h a
                  rw [hwb] at hwh
                  have HWH := Lib.hid hwh
                  have HSN := Lib.hid hSn
                  have HMV := Lib.hid hmv
                  clear hwh hSn hwb hwa hE hmv
                  have hi0 : (0 : Int) ≤ (a : Int) := by omega
                  have hi1 : (a : Int) < 31 := by omega
                  go_wp2_with fail
                  refine (moves_any _ L S' (hP5.alloc _)).mono ?_
                  rintro e wz ⟨rfl, rfl⟩
                  have hmv := HMV.out
                  have hb := HM.out
                  have hM0 : 0 ≤ S.moves := hb.1
                  have hM1 : S.moves ≤ 151 := by have := hb.2; omega
                  clear hne hgt hb
                  go_wp2_with fail
                  clear hmv
                  have hP7 := (hP5.alloc (.cells #[.int .u8 2, .int .u16 ((m : Int) + 1), .int .u16 rs, .int .u16 a, .int .u16 0] 39)).alloc (.cells #[.int .i64 e1, .int .i64 e2] 32)
                  go_quiet ((go_at_call 20; exact quiet_same3 (HWH.out _ (hP7.drewN _))))
                  go_wp2_with fail
                  obtain ⟨S1, was1, H, wq, hwq, hH, hAll⟩ : ∃ S1 was1 H wq, wq = ((((w5.alloc (.cells #[.int .u8 2, .int .u16 ((m : Int) + 1), .int .u16 rs, .int .u16 a, .int .u16 0] 39)).alloc (.cells #[.int .i64 e1, .int .i64 e2] 32)).drewN nq).setCell ⟨G, a, none⟩ (.int .i64 e2)).alloc (.cells (madeCells #[.int .i64 0] l.nodes.length) 3) ∧ H = w5.heap.size + 1 + 1 ∧ PlantAt wq L S1 ∧ PM.Still S1 was1 l.edges l.nodes.length (k + 1) ∧ Blk wq G 70 (intCells was1) ∧
                Blk wq w.heap.size 28 bcs ∧ Fr [] w wq ∧ Blk wq H 3 (intCells (List.replicate l.nodes.length 0)) ∧ (w.heap.size ≤ H ∧ G ≠ H ∧ w.heap.size ≠ H ∧ L.hi ≤ H) := by
                    have hA2 := (((bt.alloc (.cells #[.int .u8 2, .int .u16 ((m : Int) + 1), .int .u16 rs, .int .u16 a, .int .u16 0] 39)).alloc (.cells #[.int .i64 e1, .int .i64 e2] 32)).drewN nq).set_ a (.int .i64 e2)
                    rw [int_set] at hA2
                    have hz : ((((w5.alloc (.cells #[.int .u8 2, .int .u16 ((m : Int) + 1), .int .u16 rs, .int .u16 a, .int .u16 0] 39)).alloc (.cells #[.int .i64 e1, .int .i64 e2] 32)).drewN nq).setCell ⟨G, a, none⟩ (.int .i64 e2)).heap.size = w5.heap.size + 1 + 1 := by simp [World.setCell]
                    have := still_end (n := l.nodes.length) HSN.out ((hP7.drewN nq).fr ((Fr.refl [G] _).setIn (by simp) (.int .i64 e2)) (by intro i hi; simp only [List.mem_cons, List.not_mem_nil, or_false] at hi; rw [hi]; exact HHI.out)) hA2 ((((bx.alloc _).alloc _).drewN nq).far (p := ⟨G, a, none⟩) (Ne.symm hgB) (.int .i64 e2)) ((((hg5.alloc _).alloc _).drewN nq).setNew (p := ⟨G, a, none⟩) hsz3 (.int .i64 e2)) hsz3 HHI.out
                    rw [hz] at this
                    exact ⟨_, _, _, _, rfl, rfl, this⟩
                  rw [← hwq, ← hH]
                  clear hwq hH hP5 hf5 bx x0 x1 lx bt lt4 ft4 bo o3 o4 o6 lo4 Q0 QT OB ca g1 g2 g3 g4 hi0 hi1 hcle f0 f1 hP7
              all_goals as_aux_lemma =>
                obtain ⟨hP1, hS1, hA1, hB1, hF1, hE1, hH1, hH2, hH3, hH4⟩ := hAll
                have HE0 := Lib.hid (show Blk wq H 3 (intCells (S1.endsAt 1)) by rw [PM.ends_one hS1.solo, hS1.nlen]; exact hE1)
                have HS1 := Lib.hid hS1
                have HP1 := Lib.hid hP1
                have HA1 := Lib.hid hA1
                have HB1 := Lib.hid hB1
                have HF1 := Lib.hid hF1
                clear hP1 hS1 hA1 hB1 hF1 hE1 c0 c1 c2 c3 c4 c5 c6 c7 hcl hmk
                go_loopw [16] (fun i wi => ∃ (t : Nat), 1 ≤ t ∧ t ≤ 31 ∧ i = .int .i64 t ∧ PlantAt wi L S1 ∧ Blk wi G 70 (intCells was1) ∧ Blk wi H 3 (intCells (S1.endsAt t)) ∧ Blk wi w.heap.size 28 bcs ∧ Fr [] w wi) (fun i _ => 31 - (intOf i).toNat)
                case atStart => exact ⟨1, by omega, by omega, rfl, HP1.out, HA1.out, HE0.out, HB1.out, HF1.out⟩
                case round =>
                  clear HP1 HA1 HE0 HB1 HF1
                  obtain ⟨t, ht1, ht2, rfl, hPi, hAi, hEi, hBi, hFi⟩ := hrel
                  by_cases ht : t ≤ 30
                  · have hd30 : decide ((t : Int) ≤ 30) = true := by simp; omega
                    have ca := hAi.cell t
                    rw [int_get (HS1.out.w t ht1 ht)] at ca
                    have lA := hAi.lt
                    have lE := hEi.lt
                    have fE := hEi.frozen
                    have hwh := fun W (h : PlantAt W L S1) => where_any W L S1 h t
                    rcases HS1.out.count t ht1 ht with ⟨hw1, hnx⟩ | ⟨j, hw1, hjn, hej, hnx, hat⟩
                    · rw [hw1] at ca hwh
                      have HWH := Lib.hid hwh
                      have HNX := Lib.hid hnx
                      clear hwh hw1 hnx
                      go_wp2_with fail
                      go_quiet ((go_at_call 20; exact quiet_same3 (HWH.out _ (hPi.drewN _))))
                      go_wp2_with fail
                      exact ⟨⟨t + 1, by omega, by omega, by go_num, hPi.drewN _, hAi.drewN _, by rw [HNX.out]; exact hEi.drewN _, hBi.drewN _, hFi.drewN _⟩, by simp [intOf]; omega⟩
                    · rw [hw1] at ca hwh
                      have HWH := Lib.hid hwh
                      have HNX := Lib.hid hnx
                      have ce := hEi.cell j
                      rw [int_get hej] at ce
                      have hatc := fun W (h : PlantAt W L S1) => at_any W L S1 h j
                      rw [hat] at hatc
                      have HAT := Lib.hid hatc
                      clear hwh hw1 hnx hatc hat hej
                      go_wp2_with fail
                      go_quiet ((go_at_call 20; exact quiet_same3 (HWH.out _ (hPi.drewN _))))
                      go_wp2_with fail
                      have hP9 := (hPi.drewN nq).fr ((Fr.refl [H] _).setIn (p := ⟨H, j, none⟩) (by simp) (.int .i64 1)) (by intro i hi; simp only [List.mem_cons, List.not_mem_nil, or_false] at hi; rw [hi]; exact hH4)
                      refine (HAT.out _ hP9).mono ?_
                      rintro e wz ⟨rfl, rfl⟩
                      go_wp2_with fail
                      have hE9 := (hEi.drewN nq).set_ j (.int .i64 1)
                      rw [int_set, ← HNX.out] at hE9
                      exact ⟨⟨t + 1, by omega, by omega, by go_num, hP9, (hAi.drewN nq).far hH2 _, hE9, (hBi.drewN nq).far hH3 _, (hFi.drewN nq).setNew hH1 _⟩, by simp [intOf]; omega⟩
                  · have ht31 : decide ((t : Int) ≤ 30) = false := by simp; omega
                    go_wp2_with fail
                    exact ⟨⟨k + 1, _, _, by omega, by omega, by go_num, hPi, HS1.out, hAi, hBi, hFi⟩, by simp [intOf]; omega⟩
            · have fin0 : ¬ k < ops.length ∨ (k < ops.length ∧ ¬ (k : Int) < 150) := by omega
              clear hlt
              rcases fin0 with h100 | ⟨hlt1, h100⟩
              all_goals
                go_wp2_with fail
                go_ret
                exact ⟨rfl, hgr⟩
end Go.Proofs.Ytncggholhmgoaaa
