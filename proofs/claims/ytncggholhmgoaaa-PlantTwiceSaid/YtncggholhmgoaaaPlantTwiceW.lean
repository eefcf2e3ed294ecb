/- stillagelaw20.PlantTwice: the walk. -/
import Derived.Test.YtncggholhmgoaaaPlantScript
namespace Go.Proofs.Ytncggholhmgoaaa
set_option linter.unusedVariables false
set_option linter.unusedSimpArgs false
open Go.RowKit

set_option maxHeartbeats 4000000 in
set_option maxRecDepth 100000 in
theorem twice_any (w : World) (B : Nat) (An Ae As : Option Addr) (cn ce cs : Nat) (l : Lay) (ops : List POp) (hL : LayAt w B An Ae l) (hS : ScriptAt w B As ops) (hce : Ae = none → ce = 0) :
    Calls Try.prog 4 #[.agg #[.slice An l.nodes.length cn, .slice Ae l.edges.length ce], .slice As ops.length cs] w fun e w' => e = .returned (.bool true) ∧ Fr [] w w' := by
  have hL1 := fun o => hL.fr ((Fr.refl [] w).alloc o)
  have ln := hL.ln
  have le := hL.le
  have ls := hS.ln
  have hBw := hL.hB
  have hb0 := Blk.new w 28 [.slice An l.nodes.length cn, .slice Ae l.edges.length ce]
  have Hce := Lib.hid hce
  clear hce
  go_enter Try.func4, Try.ntmps4
  go_wp2_with fail
  refine (awake_any _).mono ?_
  rintro e w1 ⟨rfl, hf1⟩
  have b1 := hb0.fr hf1 (by simp)
  have y0 := b1.cell 0
  have y1 := b1.cell 1
  simp only [List.getElem?_cons_zero, List.getElem?_cons_succ] at y0 y1
  go_wp2_with fail
  refine (few_any _ _ _ _ _ _ _ ln le).mono ?_
  rintro e w2 ⟨rfl, hf2⟩
  have b2 := b1.fr hf2 (by simp)
  have z0 := b2.cell 0
  have z1 := b2.cell 1
  simp only [List.getElem?_cons_zero, List.getElem?_cons_succ] at z0 z1
  have g2 := (((Fr.refl [] w).alloc (.cells #[.slice An l.nodes.length cn, .slice Ae l.edges.length ce] 28)).trans hf1).trans hf2
  cases hfew : (decide (l.nodes.length ≤ 60) && decide (l.edges.length ≤ 200)) with
  | false =>
    go_wp2_with (go_at_call 16; refine (awake_any _).mono ?_; rintro e w3 ⟨rfl, hf3⟩)
    go_ret
    exact ⟨rfl, g2.trans hf3⟩
  | true =>
    go_wp2_with fail
    refine (new_any _ B An Ae cn ce l (hL.fr g2) Hce.out).mono ?_
    rintro e w3 (⟨hk, rfl, hf3⟩ | ⟨hk, L, rfl, hP, hf3, hlo, hhi⟩)
    · go_wp2_with fail
      go_ret
      exact ⟨rfl, g2.trans hf3⟩
    · have hg3 := g2.trans hf3
      have hS3 := hS.frS hg3 (by simp)
      have hown := hP.own_ge
      rw [hlo] at hown
      have hsz2 := g2.size
      have HOWN := Lib.hid (show ∀ k, k ∈ L.own → k ∈ ([] : List Nat) ∨ w.heap.size ≤ k from fun k hk => .inr (Nat.le_trans hsz2 (hown k hk)))
      clear hown hlo hhi hf3 z0 z1 y0 y1 b1 b2 hb0 hL1 hf1 hf2
      go_wp2_with fail
      go_loopw [7] (fun i wr => ∃ (k : Nat) (S : PM), k ≤ ops.length ∧ k ≤ 150 ∧ i = .int .i64 k ∧ PlantAt wr L S ∧ (0 ≤ S.moves ∧ S.moves ≤ k) ∧ Fr [] w wr) (fun i _ => ops.length - (intOf i).toNat)
      case atStart => exact ⟨0, _, Nat.zero_le _, by omega, rfl, hP, ⟨by simp [PM.init], by simp [PM.init]⟩, hg3⟩
      case round =>
        obtain ⟨k, S, hk, hk2, rfl, hPr, ⟨hm0, hm1⟩, hgr⟩ := hrel
        by_cases hlt : k < ops.length ∧ k < 150
        · obtain ⟨hlt, hlt2⟩ := hlt
          obtain ⟨o, ho⟩ : ∃ o, ops[k]? = some o := ⟨_, List.getElem?_eq_getElem hlt⟩
          have hSr := hS.frS hgr (by simp)
          obtain ⟨ad, hAs, hadb, c0, c1, c2, c3, c4, c5, c6, c7⟩ := hSr.op ho
          have ht := hS.tele o (List.mem_of_getElem? ho)
          subst hAs
          obtain ⟨kd, oa, ob, tk, td, ts, ta, tb⟩ := o
          simp only at c0 c1 c2 c3 c4 c5 c6 c7 ht
          have HT := Lib.hid ht
          have td1 : 0 ≤ td ∧ td ≤ 65535 := ht.2.1
          obtain ⟨td1, td2⟩ := td1
          have hcl : ∀ n, (ad.add n).block < wr.heap.size := fun n => by have := hSr.hB; rw [block_of_add]; omega
          clear ho ht hSr
          by_cases k1 : kd = 1
          · subst k1
            go_wp2_with (go_at_call 18; refine (put_any _ L S (hPr.alloc _) _ _).mono ?_; rintro e w4 ⟨rfl, hP4, hf4⟩)
            go_roundw
            case rel =>
              refine ⟨k + 1, _, by omega, by omega, by go_num, hP4, ?_, (hgr.alloc _).trans' hf4 HOWN.out⟩
              rw [PM.put_moves]; exact ⟨hm0, by omega⟩
            case measure => simp [intOf]; omega
          by_cases k3 : kd = 3
          · subst k3
            go_wp2_with (go_at_call 24; refine (break_any _ L S (hPr.alloc _) _).mono ?_; rintro e w4 ⟨rfl, hP4, hf4⟩)
            go_roundw
            case rel =>
              refine ⟨k + 1, _, by omega, by omega, by go_num, hP4, ?_, (hgr.alloc _).trans' hf4 HOWN.out⟩
              rw [PM.fault_moves]; exact ⟨hm0, by omega⟩
            case measure => simp [intOf]; omega
          by_cases k4 : kd = 4
          · subst k4
            go_wp2_with (go_at_call 25; refine (mend_any _ L S (hPr.alloc _) _).mono ?_; rintro e w4 ⟨rfl, hP4, hf4⟩)
            go_roundw
            case rel =>
              refine ⟨k + 1, _, by omega, by omega, by go_num, hP4, ?_, (hgr.alloc _).trans' hf4 HOWN.out⟩
              rw [PM.fault_moves]; exact ⟨hm0, by omega⟩
            case measure => simp [intOf]; omega
          by_cases k2 : kd = 2
          · subst k2
            have hc1 := fun W (h : PlantAt W L S) => hear_any W L S h hm0 (by omega) ⟨tk, td, ts, ta, tb⟩ HT.out
            have hag := PM.hear_again S ⟨tk, td, ts, ta, tb⟩
            have hmv := PM.hear_moves S ⟨tk, td, ts, ta, tb⟩
            have hdv := PM.hear_dev S ⟨tk, td, ts, ta, tb⟩
            have hwk := PM.hear_works S ⟨tk, td, ts, ta, tb⟩ td
            have hoff := PM.hear_off' S ⟨tk, td, ts, ta, tb⟩
            have hc2 := fun W (h : PlantAt W L (S.hear ⟨tk, td, ts, ta, tb⟩).1) => hear_any W L _ h (by rcases hmv with h | h <;> omega) (by rcases hmv with h | h <;> omega) ⟨tk, td, ts, ta, tb⟩ HT.out
            unfold HearPost at hc1 hc2
            simp only [hag] at hc2
            simp only at hoff hdv
            have hmv2 : 0 ≤ (S.hear ⟨tk, td, ts, ta, tb⟩).1.moves ∧ (S.hear ⟨tk, td, ts, ta, tb⟩).1.moves ≤ k + 1 := by rcases hmv with h | h <;> omega
            clear hmv hag
            generalize S.hear ⟨tk, td, ts, ta, tb⟩ = r at *
            obtain ⟨S', ⟨rk, rd, rs, ra, rb⟩, ok⟩ := r
            simp only at hc1 hc2 hmv2 hdv hwk
            have hok : S.works td = false → ok = false := fun h => by have := hoff h; simp only [Prod.mk.injEq] at this; exact this.2.2
            clear hoff
            obtain ⟨hmv2, hmv3⟩ := hmv2
            simp only [Tl.cells] at hc1 hc2
            have HC1 := Lib.hid hc1
            have HC2 := Lib.hid hc2
            clear hc1 hc2
            have HB := Blk.new wr 48 [.int .i64 2, .int .i64 oa, .int .i64 ob, .int .u8 tk, .int .u16 td, .int .u16 ts, .int .u16 ta, .int .u16 tb]
            have nb : wr.heap.size ∉ L.own := hPr.fresh (Nat.le_refl _)
            go_wp2_with fail
            refine (HC1.out _ (hPr.alloc _)).mono ?_
            rintro e w4 ⟨rfl, hP4, hf4⟩
            have HB4 := HB.fr hf4 nb
            have e0 := HB4.cell 0
            have e3 := HB4.cell 3
            have e4 := HB4.cell 4
            have e5 := HB4.cell 5
            have e6 := HB4.cell 6
            have e7 := HB4.cell 7
            have l4 := HB4.lt
            simp only [List.getElem?_cons_zero, List.getElem?_cons_succ] at e0 e3 e4 e5 e6 e7
            have TB := Blk.new w4 39 [.int .u8 rk, .int .u16 rd, .int .u16 rs, .int .u16 ra, .int .u16 rb]
            have nt : w4.heap.size ∉ L.own := hP4.fresh (Nat.le_refl _)
            go_wp2_with fail
            refine (moves_any _ L S' (hP4.alloc _)).mono ?_
            rintro e w5 ⟨rfl, rfl⟩
            go_wp2_with fail
            refine (HC2.out _ (hP4.alloc _)).mono ?_
            rintro e w5 ⟨rfl, hP5, hf5⟩
            have HB5 := (HB4.alloc (.cells #[.int .u8 rk, .int .u16 rd, .int .u16 rs, .int .u16 ra, .int .u16 rb] 39)).fr hf5 nb
            have TB5 := TB.fr hf5 nt
            clear e0 e3 e4 e5 e6 e7 l4
            have l5 := TB5.lt
            have l5' := HB5.lt
            have d4 := HB5.cell 4
            have d5 := HB5.cell 5
            have t0 := TB5.cell 0
            have t1 := TB5.cell 1
            have t2 := TB5.cell 2
            have t3 := TB5.cell 3
            have t4 := TB5.cell 4
            simp only [List.getElem?_cons_zero, List.getElem?_cons_succ] at d4 d5 t0 t1 t2 t3 t4
            go_wp2_with fail
            refine (moves_any _ L S' (hP5.alloc _)).mono ?_
            rintro e w6 ⟨rfl, rfl⟩
            have hFw := ((hgr.alloc (.cells #[.int .i64 2, .int .i64 oa, .int .i64 ob, .int .u8 tk, .int .u16 td, .int .u16 ts, .int .u16 ta, .int .u16 tb] 48)).trans' hf4 HOWN.out)
            have hFw2 := (hFw.alloc (.cells #[.int .u8 rk, .int .u16 rd, .int .u16 rs, .int .u16 ra, .int .u16 rb] 39)).trans' hf5 HOWN.out
            cases ok with
            | true =>
              obtain ⟨rfl, rfl⟩ := hdv rfl
              clear hdv
              have hws : S'.works rd = true := by
                rw [hwk]
                cases h : S.works rd with
                | true => rfl
                | false => have := hok h; cases this
              clear hok hwk
              by_cases hrk : rk = 2
              · have q : (rk == 2) = true := by simp [hrk]
                have HRK := Lib.hid hrk; clear hrk
                go_wp2_with (go_at_call 23; refine (works_any _ L S' (hP5.alloc _) _).mono ?_; rintro e w6 ⟨rfl, rfl⟩)
                go_roundw
                case rel => exact ⟨k + 1, _, by omega, by omega, by go_num, hP5.alloc _, ⟨hmv2, by omega⟩, hFw2.alloc _⟩
                case measure => simp [intOf]; omega
              · have q : (rk == 2) = false := by simp [hrk]
                clear hrk
                go_wp2_with (go_at_call 23; refine (works_any _ L S' (hP5.alloc _) _).mono ?_; rintro e w6 ⟨rfl, rfl⟩)
                go_roundw
                case rel => exact ⟨k + 1, _, by omega, by omega, by go_num, hP5.alloc _, ⟨hmv2, by omega⟩, hFw2.alloc _⟩
                case measure => simp [intOf]; omega
            | false =>
              clear hdv hok hwk
              go_wp2_with (go_at_call 23; refine (works_any _ L S' (hP5.alloc _) _).mono ?_; rintro e w6 ⟨rfl, rfl⟩)
              all_goals
                go_roundw
                case rel => exact ⟨k + 1, _, by omega, by omega, by go_num, hP5.alloc _, ⟨hmv2, by omega⟩, hFw2.alloc _⟩
                case measure => simp [intOf]; omega
          · have q1 : (kd == 1) = false := by simp [k1]
            have q2 : (kd == 2) = false := by simp [k2]
            have q3 : (kd == 3) = false := by simp [k3]
            have q4 : (kd == 4) = false := by simp [k4]
            clear k1 k2 k3 k4
            go_wp2
            go_roundw
            case rel => exact ⟨k + 1, _, by omega, by omega, by go_num, hPr.alloc _, ⟨hm0, by omega⟩, hgr.alloc _⟩
            case measure => simp [intOf]; omega
        · by_cases hlt1 : k < ops.length
          · have : k = 150 := by omega
            have h150 : ¬ (k : Int) < 150 := by omega
            clear hlt this
            go_wp2
            go_ret
            exact ⟨rfl, hgr⟩
          · clear hlt
            go_wp2
            go_ret
            exact ⟨rfl, hgr⟩
end Go.Proofs.Ytncggholhmgoaaa
