/- stillagelaw20.PlantFaults: the walk. -/
import Derived.Test.YtncggholhmgoaaaPlantScript
import Derived.Test.YtncggholhmgoaaaPlantPlain2
namespace Go.Proofs.Ytncggholhmgoaaa
set_option linter.unusedVariables false
set_option linter.unusedSimpArgs false
open Go.RowKit

theorem dev_of (dev : Int) (n : Nat) (h0 : ¬ n = 0) (h1 : n ≤ 200) : ∃ D : Nat, 1 ≤ D ∧ D ≤ n ∧ wrap64 (wrap64 ((IntKind.u64.wrap dev).tmod (n : Int)) + 1) = (D : Int) := by
  have hu : 0 ≤ IntKind.u64.wrap dev := by
    simp [IntKind.wrap, IntKind.signed, IntKind.bits]; omega
  have h2 := Int.tmod_nonneg (n : Int) hu
  have h3 := Int.tmod_lt_of_pos (IntKind.u64.wrap dev) (show (0 : Int) < n by omega)
  generalize (IntKind.u64.wrap dev).tmod (n : Int) = r at *
  refine ⟨r.toNat + 1, by omega, by omega, ?_⟩
  have e1 : wrap64 r = r := by simp [wrap64, IntKind.wrap, IntKind.signed, IntKind.bits]; omega
  have e2 : wrap64 (r + 1) = r + 1 := by simp [wrap64, IntKind.wrap, IntKind.signed, IntKind.bits]; omega
  rw [e1, e2]; omega

set_option maxHeartbeats 4000000 in
set_option maxRecDepth 100000 in
theorem faults_any (w : World) (B : Nat) (An Ae As : Option Addr) (cn ce cs : Nat) (l : Lay) (ops : List POp) (dev : Int) (hL : LayAt w B An Ae l) (hS : ScriptAt w B As ops) (hce : Ae = none → ce = 0) :
    Calls Try.prog 5 #[.agg #[.slice An l.nodes.length cn, .slice Ae l.edges.length ce], .slice As ops.length cs, .int .i64 dev] w fun e w' => e = .returned (.bool true) ∧ Fr [] w w' := by
  have ln := hL.ln
  have le := hL.le
  have ls := hS.ln
  have hBw := hL.hB
  have hb0 := Blk.new w 28 [.slice An l.nodes.length cn, .slice Ae l.edges.length ce]
  have Hce := Lib.hid hce
  clear hce
  go_enter Try.func5, Try.ntmps5
  go_wp2_with fail
  refine (awake_any _).mono ?_
  rintro e w1 ⟨rfl, hf1⟩
  have b1 := hb0.fr hf1 (by simp)
  have y0 := b1.cell 0
  have y1 := b1.cell 1
  simp only [List.getElem?_cons_zero, List.getElem?_cons_succ] at y0 y1
  go_wp2_with fail
  refine (few_any _ _ _ _ _ _ _ ln le).mono ?_
  rintro e w2 ⟨rfl, hf2⟩
  have b2 := b1.fr hf2 (by simp)
  have z0 := b2.cell 0
  have z1 := b2.cell 1
  simp only [List.getElem?_cons_zero, List.getElem?_cons_succ] at z0 z1
  have g2 := (((Fr.refl [] w).alloc (.cells #[.slice An l.nodes.length cn, .slice Ae l.edges.length ce] 28)).trans hf1).trans hf2
  cases hfew : (decide (l.nodes.length ≤ 60) && decide (l.edges.length ≤ 200)) with
  | false =>
    go_wp2_with (go_at_call 16; refine (awake_any _).mono ?_; rintro e w3 ⟨rfl, hf3⟩)
    go_ret
    exact ⟨rfl, g2.trans hf3⟩
  | true =>
    have le2 : l.edges.length ≤ 200 := by simp only [Bool.and_eq_true, decide_eq_true_eq] at hfew; exact hfew.2
    go_wp2_with fail
    refine (new_any _ B An Ae cn ce l (hL.fr g2) Hce.out).mono ?_
    rintro e w3 (⟨hk, rfl, hf3⟩ | ⟨hk, L, rfl, hP, hf3, hlo, hhi⟩)
    · go_wp2_with fail
      go_ret
      exact ⟨rfl, g2.trans hf3⟩
    · have hg3 := g2.trans hf3
      have b3 := b2.fr hf3 (by simp)
      have x1 := b3.cell 1
      simp only [List.getElem?_cons_zero, List.getElem?_cons_succ] at x1
      have hS3 := hS.frS hg3 (by simp)
      have hown := hP.own_ge
      rw [hlo] at hown
      have hsz2 := g2.size
      have HOWN := Lib.hid (show ∀ k, k ∈ L.own → k ∈ ([] : List Nat) ∨ w.heap.size ≤ k from fun k hk => .inr (Nat.le_trans hsz2 (hown k hk)))
      clear hown hlo hhi hf3 z0 z1 y0 y1 b1 b2 hb0 hf1 hf2
      by_cases he0 : l.edges.length = 0
      · have q : ((l.edges.length : Int) == 0) = true := by simp [he0]
        have HE := Lib.hid he0
        clear he0
        go_wp2_with fail
        go_ret
        exact ⟨rfl, hg3⟩
      · have q : ((l.edges.length : Int) == 0) = false := by simp [he0]
        go_wp2_with fail
        obtain ⟨D, hD1, hD2, hDe⟩ := dev_of dev l.edges.length he0 le2
        clear he0
        rw [hDe]
        clear hDe q b3 x1
        refine (break_any _ L _ hP D).mono ?_
        obtain ⟨hdv, hft⟩ := PM.fault_same (PM.init l) true D ⟨false, false, 0, 0⟩ (by show (List.replicate (l.edges.length + 1) _)[D]? = _; rw [List.getElem?_replicate, if_pos (by omega)]) hD1
        obtain ⟨he1, _, hm1⟩ := PM.fault_keep (PM.init l) D true
        rw [hft]
        have hI : PM.Idle ((PM.init l).fault D true).1 D l.edges 0 := ⟨hdv, he1, by rw [hm1]; simp [PM.init], by rw [hm1]; simp [PM.init]⟩
        generalize ((PM.init l).fault D true).1 = S1 at *
        clear hdv hft he1 hm1
        rintro e w4 ⟨rfl, hP4, hf4⟩
        have hg4 := hg3.trans' hf4 HOWN.out
        simp only [Tl.cells]
        have hD3 : D ≤ 200 := by omega
        go_wp2_with fail
        have HS := Lib.hid hS
        clear hS hS3 hL hk hP hf4 hg3 hfew
        go_loopw [11] (fun i wr => ∃ (k : Nat) (S : PM), k ≤ ops.length ∧ k ≤ 100 ∧ i = .int .i64 k ∧ PlantAt wr L S ∧ PM.Idle S D l.edges k ∧ Fr [] w wr) (fun i _ => ops.length - (intOf i).toNat)
        case atStart => exact ⟨0, _, Nat.zero_le _, by omega, rfl, hP4.alloc _, hI, hg4.alloc _⟩
        case round =>
          obtain ⟨k, S, hk, hk2, rfl, hPr, hIr, hgr⟩ := hrel
          by_cases hlt : k < ops.length ∧ k < 100
          · obtain ⟨hlt, hlt2⟩ := hlt
            obtain ⟨o, ho⟩ : ∃ o, ops[k]? = some o := ⟨_, List.getElem?_eq_getElem hlt⟩
            have hSr := HS.out.frS hgr (by simp)
            obtain ⟨ad, hAs, hadb, c0, c1, c2, c3, c4, c5, c6, c7⟩ := hSr.op ho
            have ht := hSr.tele o (List.mem_of_getElem? ho)
            subst hAs
            obtain ⟨kd, oa, ob, tk, td, ts, ta, tb⟩ := o
            simp only at c0 c1 c2 c3 c4 c5 c6 c7 ht
            have HT := Lib.hid ht
            have td1 : 0 ≤ td ∧ td ≤ 65535 := ht.2.1
            obtain ⟨td1, td2⟩ := td1
            have hcl : ∀ n, (ad.add n).block < wr.heap.size := fun n => by have := hSr.hB; rw [block_of_add]; omega
            clear ho ht hSr hI hg4 hP4
            have FIN := Lib.hid (show ∀ W S', PlantAt W L S' → PM.Idle S' D l.edges (k + 1) → Calls Try.prog 23 #[.pointer (some ⟨L.p, 0, none⟩), .int .i64 D] W fun e w' => e = .returned (.bool false) ∧ w' = W from
              fun W S' hp hi => by have hc := works_any W L S' hp D; rw [hi.works hD1] at hc; exact hc)
            have HM := Lib.hid (And.intro hIr.m0 hIr.m1)
            have HI := Lib.hid hIr
            clear hIr
            by_cases k1 : kd = 1
            · subst k1
              go_wp2_with fail
              refine (put_any _ L S (hPr.alloc _) _ _).mono ?_
              rintro e w4 ⟨rfl, hP4, hf4⟩
              go_wp2_with fail
              refine (FIN.out _ _ hP4 (HI.out.put _ _)).mono ?_
              rintro e w5 ⟨rfl, rfl⟩
              go_wp2_with fail
              go_roundw
              case rel => exact ⟨k + 1, _, by omega, by omega, by go_num, hP4, HI.out.put _ _, (hgr.alloc _).trans' hf4 HOWN.out⟩
              case measure => simp [intOf]; omega
            by_cases k3 : kd = 3
            · subst k3
              go_wp2_with fail
              refine (break_any _ L S (hPr.alloc _) _).mono ?_
              rintro e w4 ⟨rfl, hP4, hf4⟩
              go_wp2_with fail
              refine (FIN.out _ _ hP4 (HI.out.brk hD1 _)).mono ?_
              rintro e w5 ⟨rfl, rfl⟩
              go_wp2_with fail
              go_roundw
              case rel => exact ⟨k + 1, _, by omega, by omega, by go_num, hP4, HI.out.brk hD1 _, (hgr.alloc _).trans' hf4 HOWN.out⟩
              case measure => simp [intOf]; omega
            by_cases k4 : kd = 4
            · subst k4
              by_cases hoa : oa = (D : Int)
              · have q : (oa != (D : Int)) = false := by simp [hoa]
                clear hoa
                go_wp2_with fail
                refine (FIN.out _ _ (hPr.alloc _) HI.out.mono).mono ?_
                rintro e w5 ⟨rfl, rfl⟩
                go_wp2_with fail
                go_roundw
                case rel => exact ⟨k + 1, _, by omega, by omega, by go_num, hPr.alloc _, HI.out.mono, hgr.alloc _⟩
                case measure => simp [intOf]; omega
              · have q : (oa != (D : Int)) = true := by simp [hoa]
                have HOA := Lib.hid hoa
                clear hoa
                go_wp2_with fail
                refine (mend_any _ L S (hPr.alloc _) _).mono ?_
                rintro e w4 ⟨rfl, hP4, hf4⟩
                go_wp2_with fail
                refine (FIN.out _ _ hP4 (HI.out.mend _ HOA.out)).mono ?_
                rintro e w5 ⟨rfl, rfl⟩
                go_wp2_with fail
                go_roundw
                case rel => exact ⟨k + 1, _, by omega, by omega, by go_num, hP4, HI.out.mend _ HOA.out, (hgr.alloc _).trans' hf4 HOWN.out⟩
                case measure => simp [intOf]; omega
            by_cases k2 : kd = 2
            · subst k2
              have hc1 := fun W (h : PlantAt W L S) => hear_any W L S h HM.out.1 (by have := HM.out.2; omega) ⟨tk, td, ts, ta, tb⟩ HT.out
              have HI2 := Lib.hid (HI.out.hear hD1 ⟨tk, td, ts, ta, tb⟩ td1)
              unfold HearPost at hc1
              go_wp2_with fail
              refine (moves_any _ L S (hPr.alloc _)).mono ?_
              rintro e w5 ⟨rfl, rfl⟩
              have HB := Blk.new wr 48 [.int .i64 2, .int .i64 oa, .int .i64 ob, .int .u8 tk, .int .u16 td, .int .u16 ts, .int .u16 ta, .int .u16 tb]
              have nb : wr.heap.size ∉ L.own := hPr.fresh (Nat.le_refl _)
              by_cases htd : td = (D : Int)
              · have q : (td == (D : Int)) = true := by simp [htd]
                have hoff := PM.hear_off' S ⟨tk, td, ts, ta, tb⟩ (by show S.works td = false; rw [htd]; exact HI.out.works hD1)
                rw [hoff] at hc1
                simp only [Tl.cells, Tl.zero] at hc1
                have HC1 := Lib.hid hc1
                clear hc1 hoff htd HI2
                go_wp2_with fail
                refine (HC1.out _ (hPr.alloc _)).mono ?_
                rintro e w5 ⟨rfl, hP5, hf5⟩
                have HB5 := HB.fr hf5 nb
                have e4 := HB5.cell 4
                have l5 := HB5.lt
                simp only [List.getElem?_cons_zero, List.getElem?_cons_succ] at e4
                go_wp2_with (first | (go_at_call 21; refine (moves_any _ L S (hP5.alloc _)).mono ?_; rintro e w6 ⟨rfl, rfl⟩) | (go_at_call 23; refine (FIN.out _ _ (hP5.alloc _) HI.out.mono).mono ?_; rintro e w6 ⟨rfl, rfl⟩))
                go_roundw
                case rel => exact ⟨k + 1, _, by omega, by omega, by go_num, hP5.alloc _, HI.out.mono, ((hgr.alloc _).trans' hf5 HOWN.out).alloc _⟩
                case measure => simp [intOf]; omega
              · have q : (td == (D : Int)) = false := by simp [htd]
                clear htd
                generalize S.hear ⟨tk, td, ts, ta, tb⟩ = r at *
                obtain ⟨S', ⟨rk, rd, rs, ra, rb⟩, ok⟩ := r
                simp only [Tl.cells] at hc1 HI2
                have HC1 := Lib.hid hc1
                clear hc1
                go_wp2_with fail
                refine (HC1.out _ (hPr.alloc _)).mono ?_
                rintro e w5 ⟨rfl, hP5, hf5⟩
                have HB5 := HB.fr hf5 nb
                have e4 := HB5.cell 4
                have l5 := HB5.lt
                simp only [List.getElem?_cons_zero, List.getElem?_cons_succ] at e4
                go_wp2_with (go_at_call 23; refine (FIN.out _ _ (hP5.alloc _) HI2.out).mono ?_; rintro e w6 ⟨rfl, rfl⟩)
                go_roundw
                case rel => exact ⟨k + 1, _, by omega, by omega, by go_num, hP5.alloc _, HI2.out, ((hgr.alloc _).trans' hf5 HOWN.out).alloc _⟩
                case measure => simp [intOf]; omega
            · have q1 : (kd == 1) = false := by simp [k1]
              have q2 : (kd == 2) = false := by simp [k2]
              have q3 : (kd == 3) = false := by simp [k3]
              have q4 : (kd == 4) = false := by simp [k4]
              clear k1 k2 k3 k4
              go_wp2_with fail
              refine (FIN.out _ _ (hPr.alloc _) HI.out.mono).mono ?_
              rintro e w5 ⟨rfl, rfl⟩
              go_wp2_with fail
              go_roundw
              case rel => exact ⟨k + 1, _, by omega, by omega, by go_num, hPr.alloc _, HI.out.mono, hgr.alloc _⟩
              case measure => simp [intOf]; omega
          · have fin0 : ¬ k < ops.length ∨ (k < ops.length ∧ ¬ (k : Int) < 100) := by omega
            obtain ⟨hdv, hft⟩ := PM.fault_same S false D _ hIr.dev hD1
            obtain ⟨he1, _, hm1⟩ := PM.fault_keep S D false
            have hm := hIr.m0
            have hm2 := hIr.m1
            rw [hIr.edges] at he1
            have hc1 := fun W (h : PlantAt W L S) => mend_any W L S h D
            rw [hft] at hc1
            generalize (S.fault D false).1 = S2 at *
            have hm3 : 0 ≤ S2.moves ∧ S2.moves ≤ 1000 := by omega
            have hw2 := PM.works_of hdv hD1
            have hask := PM.hear_ask S2 D _ (l.edges[D - 1]'(by omega)) 4 hdv rfl (by rw [he1]; exact List.getElem?_eq_getElem _) hD1
            have hc2 := fun W (h : PlantAt W L S2) => hear_any W L S2 h hm3.1 (by have := hm3.2; omega) ⟨6, D, 4, 0, 0⟩ ⟨⟨by simp, by simp⟩, ⟨by simp only; omega, by simp only; omega⟩, ⟨by simp, by simp⟩, ⟨by simp, by simp⟩, ⟨by simp, by simp⟩⟩
            unfold HearPost at hc2
            rw [hask] at hc2
            have hc3 := fun W (h : PlantAt W L S2) => works_any W L S2 h D
            rw [hw2] at hc3
            simp only [Tl.cells, Bool.false_eq_true, if_false, Bool.not_false] at hc1 hc2 hc3
            have HC1 := Lib.hid hc1
            have HC2 := Lib.hid hc2
            have HC3 := Lib.hid hc3
            clear hlt hI hg4 hP4 hc1 hc2 hc3 hask hw2 hdv hft he1 hm1 hm hm2 hm3 hIr
            rcases fin0 with h100 | ⟨hlt1, h100⟩
            all_goals
              go_wp2_with fail
              refine (HC1.out _ hPr).mono ?_
              rintro e w5 ⟨rfl, hP5, hf5⟩
              have TB := Blk.new w5 39 [.int .u8 5, .int .u16 D, .int .u16 0, .int .u16 0, .int .u16 0]
              have nt : w5.heap.size ∉ L.own := hP5.fresh (Nat.le_refl _)
              go_wp2_with fail
              refine (HC2.out _ (hP5.alloc _)).mono ?_
              rintro e w6 ⟨rfl, hP6, hf6⟩
              have TB6 := TB.fr hf6 nt
              have t0 := TB6.cell 0
              have t1 := TB6.cell 1
              have t2 := TB6.cell 2
              have t3 := TB6.cell 3
              have t4 := TB6.cell 4
              have l6 := TB6.lt
              simp only [List.getElem?_cons_zero, List.getElem?_cons_succ] at t0 t1 t2 t3 t4
              go_wp2_with (go_at_call 23; refine (HC3.out _ (hP6.alloc _)).mono ?_; rintro e w7 ⟨rfl, rfl⟩)
              go_ret
              exact ⟨rfl, (((hgr.trans' hf5 HOWN.out).alloc _).trans' hf6 HOWN.out).alloc _⟩
end Go.Proofs.Ytncggholhmgoaaa
