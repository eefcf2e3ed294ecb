/- stillagelaw17.MirrorWalks: the walk. -/
import Derived.Test.YtncggholhmgoaaaOpenMirror
import Derived.Test.YtncggholhmgoaaaWalksPlain
namespace Go.Proofs.Ytncggholhmgoaaa
set_option linter.unusedVariables false
set_option linter.unusedSimpArgs false
open Go.RowKit

set_option maxHeartbeats 8000000 in
set_option maxRecDepth 100000 in
theorem walks_any (w : World) (B : Nat) (An Ae As : Option Addr) (cn ce cs : Nat) (l : Lay) (t0 a0 : Int) (ps : List Int) (hL : LayAt w B An Ae l) (hS : IntsAt w B As ps) (hce : Ae = none → ce = 0) :
    Calls Try.prog 9 #[.agg #[.slice An l.nodes.length cn, .slice Ae l.edges.length ce], .agg #[.int .i64 t0, .int .i64 a0], .slice As ps.length cs] w fun e w' => e = .returned (.bool true) ∧ Fr [] w w' := by
  have ln := hL.ln
  have le := hL.le
  have ls := hS.ln
  have hBw := hL.hB
  have hb0 := (Blk.new w 28 [.slice An l.nodes.length cn, .slice Ae l.edges.length ce]).alloc (.cells #[.int .i64 t0, .int .i64 a0] 32)
  have ht0 := Blk.new_at (w.alloc (.cells #[.slice An l.nodes.length cn, .slice Ae l.edges.length ce] 28)) 32 #[.int .i64 t0, .int .i64 a0] (w.heap.size + 1) (by simp)
  have Hce := Lib.hid hce
  clear hce
  go_enter Try.func9, Try.ntmps9
  go_wp2_with fail
  refine (mAwake_any _).mono ?_
  rintro e w1 ⟨rfl, hf1⟩
  have b1 := hb0.fr hf1 (by simp)
  have t1 := ht0.fr hf1 (by simp)
  have y0 := b1.cell 0
  have y1 := b1.cell 1
  simp only [List.getElem?_cons_zero, List.getElem?_cons_succ] at y0 y1
  go_wp2_with fail
  refine (mFew_any _ _ _ _ _ _ _ ln le).mono ?_
  rintro e w2 ⟨rfl, hf2⟩
  have b2 := b1.fr hf2 (by simp)
  have t2 := t1.fr hf2 (by simp)
  have z0 := b2.cell 0
  have z1 := b2.cell 1
  have v0 := t2.cell 0
  have v1 := t2.cell 1
  simp only [List.getElem?_cons_zero, List.getElem?_cons_succ] at z0 z1 v0 v1
  have g2 := ((((Fr.refl [] w).alloc (.cells #[.slice An l.nodes.length cn, .slice Ae l.edges.length ce] 28)).alloc (.cells #[.int .i64 t0, .int .i64 a0] 32)).trans hf1).trans hf2
  cases hfew : (decide (l.nodes.length ≤ 60) && decide (l.edges.length ≤ 200)) with
  | false =>
    go_wp2_with (go_at_call 34; refine (mAwake_any _).mono ?_; rintro e w3 ⟨rfl, hf3⟩)
    go_ret
    exact ⟨rfl, g2.trans hf3⟩
  | true =>
    have le2 : l.edges.length ≤ 200 := by simp only [Bool.and_eq_true, decide_eq_true_eq] at hfew; exact hfew.2
    go_wp2_with fail
    go_quiet (fail)
    have g2 := g2.drewN nq
    have b2 := b2.drewN nq
    have z0 := b2.cell 0
    have z1 := b2.cell 1
    simp only [List.getElem?_cons_zero, List.getElem?_cons_succ] at z0 z1
    clear hf2 t2 v0 v1
    generalize w2.drewN nq = w2' at *
    go_wp2_with fail
    refine (mNew_any _ B An Ae cn ce l (hL.fr g2) Hce.out).mono ?_
    rintro e w3 (⟨hk, rfl, hf3⟩ | ⟨hk, L, rfl, hP, hf3, hlo, hhi⟩)
    · go_wp2_with fail
      go_ret
      exact ⟨rfl, g2.trans hf3⟩
    · have hg3 := g2.trans hf3
      have b3 := b2.fr hf3 (by simp)
      have hown := hP.own_ge
      rw [hlo] at hown
      have hsz2 := g2.size
      have HOWN := Lib.hid (show ∀ k, k ∈ L.own → k ∈ ([] : List Nat) ∨ w.heap.size ≤ k from fun k hk => .inr (Nat.le_trans hsz2 (hown k hk)))
      have HOWN2 := Lib.hid (show ∀ k, k ∈ L.own → k ≠ w.heap.size from fun k hk => by have := hown k hk; have := b2.lt; omega)
      have hput := fun W (h : MirrorAt W L (MM.init l)) => mPut_any W L _ h t0 a0
      have hst := MM.Lone.start l hk t0 a0
      generalize hr : (MM.init l).put t0 a0 = r at hput hst
      obtain ⟨pe, S0⟩ := r
      simp only at hput hst
      have HPUT := Lib.hid hput
      clear hput hr hown hlo hhi hf3 z0 z1 y0 y1 b1 b2 hb0 hf1 ht0 t1
      go_wp2_with fail
      refine (HPUT.out _ hP).mono ?_
      rintro e w4 ⟨rfl, hP4, hf4⟩
      have hg4 := hg3.trans' hf4 HOWN.out
      have b4 := b3.fr hf4 (fun h => HOWN2.out _ h rfl)
      rcases hst with hne | ⟨rfl, t, a, rfl, rfl, hLo⟩
      · have hq : (pe == 0) = false := by simp [hne]
        have hq2 : (pe != 0) = true := by simp [hne]
        clear hne
        go_wp2_with fail
        go_ret
        exact ⟨rfl, hg4⟩
      · have HP4 := Lib.hid hP4
        have HLO := Lib.hid hLo
        have HG4 := Lib.hid hg4
        have HB4 := Lib.hid b4
        have HS := Lib.hid hS
        have HL := Lib.hid hL
        clear hP4 hLo hg4 hf4 b4 b3 hP hg3 hS hL hk hfew
        go_wp2_with fail
        go_loopw [11, 12] (fun at' i wr => ∃ (k a : Nat) (S : MM), k ≤ ps.length ∧ k ≤ 50 ∧ at' = .int .i64 a ∧ i = .int .i64 k ∧ MirrorAt wr L S ∧ MM.Lone S l.edges l.nodes.length t a ∧
          Blk wr w.heap.size 28 [.slice An l.nodes.length cn, .slice Ae l.edges.length ce] ∧ Fr [] w wr) (fun at' i _ => ps.length - (intOf i).toNat)
        case atStart => exact ⟨0, a, S0, Nat.zero_le _, by omega, rfl, rfl, HP4.out, HLO.out, HB4.out, HG4.out⟩
        case round =>
          clear HP4 HLO HG4 HB4
          obtain ⟨k, b, S, hk, hk2, rfl, rfl, hPr, hLr, hBr, hgr⟩ := hrel
          by_cases hlt : k < ps.length ∧ k < 50
          · obtain ⟨hlt, hlt2⟩ := hlt
            have hk50 : decide ((k : Int) < 50) = true := by simp; omega
            obtain ⟨d, hd⟩ : ∃ d, ps[k]? = some d := ⟨_, List.getElem?_eq_getElem hlt⟩
            obtain ⟨ad, hAs, hadb, cd⟩ := (HS.out.fr hgr).int hd
            subst hAs
            have hcl : ∀ n, (ad.add n).block < wr.heap.size := fun n => by have := (HS.out.fr hgr).hB; rw [block_of_add]; omega
            clear hd
            by_cases hok : MM.okDev l.edges b d
            · have hok' := hok
              obtain ⟨o1, o2, o3⟩ := hok
              obtain ⟨m, rfl⟩ : ∃ m : Nat, d = (m : Int) + 1 := ⟨(d - 1).toNat, by omega⟩
              obtain ⟨c, hE, hcb, hs0, hm0, hLn⟩ := hLr.send_ok m k (by omega) hok'
              have hml := (List.getElem?_eq_some_iff.1 hE).1
              obtain ⟨ade, hAe, hade, f0, f1⟩ := HL.out.edge hE
              simp only at f0 f1
              subst hAe
              have HEC := Lib.hid (fun W (hF : Fr [] w W) => (show W.cell? (ade.add (m * 2)) = some (.int .i64 b) ∧ W.cell? ⟨(ade.add (m * 2)).block, (ade.add (m * 2)).off + 1, none⟩ = some (.int .i64 c) ∧ (∀ q, (ade.add q).block < W.heap.size) from
                ⟨(hF.cell (by rw [block_of_add]; omega) (by simp)).trans f0, (hF.cell (by simp only [block_of_add]; omega) (by simp)).trans f1, fun q => by rw [block_of_add]; have := hF.size; omega⟩))
              have hsend := fun W (h : MirrorAt W L S) => mSend_any W L S h ((m : Int) + 1) t k
              generalize hr : S.send ((m : Int) + 1) t k = r at hsend hs0 hm0 hLn
              obtain ⟨pe, S1⟩ := r
              simp only at hs0 hm0 hLn hsend
              subst hs0
              have hmoved := fun W (h : MirrorAt W L S1) => mMoved_any W L S1 h ((m : Int) + 1) t
              generalize hr2 : S1.moved ((m : Int) + 1) t = r2 at hmoved hm0 hLn
              obtain ⟨pe2, S2⟩ := r2
              simp only at hm0 hLn hmoved
              subst hm0
              have htk := fun W (h : MirrorAt W L S2) => mTaken_any W L S2 h b
              rw [hLn.taken_other (Ne.symm hcb)] at htk
              have hat1 := fun W (h : MirrorAt W L S2) => mAt_any W L S2 h b
              rw [hLn.at_other (Ne.symm hcb)] at hat1
              have hat2 := fun W (h : MirrorAt W L S2) => mAt_any W L S2 h c
              rw [hLn.at_here] at hat2
              have hwh := fun W (h : MirrorAt W L S2) => mWhere_any W L S2 h t
              rw [hLn.where_] at hwh
              have H1 := Lib.hid hsend
              have H2 := Lib.hid hmoved
              have H3 := Lib.hid htk
              have H4 := Lib.hid hat1
              have H5 := Lib.hid hat2
              have H6 := Lib.hid hwh
              have HLN := Lib.hid hLn
              have HBr := Lib.hid hBr
              have hbx := hBr.cell 1
              have lbx := hBr.lt
              simp only [List.getElem?_cons_zero, List.getElem?_cons_succ] at hbx
              obtain ⟨k0, k1, kcl⟩ := HEC.out _ hgr
              have hd1 : decide ((1 : Int) ≤ (m : Int) + 1) = true := decide_eq_true (by omega)
              have hd2 : decide ((m : Int) + 1 ≤ (l.edges.length : Int)) = true := decide_eq_true (by omega)
              have hq : ((b : Int) == (b : Int)) = true := by simp
              have hq2 : ((c : Int) == (c : Int)) = true := by simp
              clear hsend hmoved htk hat1 hat2 hwh hr hr2 hLn hok' o1 o2 o3 hE hLr hBr f0 f1
              go_wp2_with fail
              refine (H1.out _ hPr).mono ?_
              rintro e w5 ⟨rfl, hP5, hf5⟩
              have hg5 := hgr.trans' hf5 HOWN.out
              go_wp2_with fail
              refine (H2.out _ hP5).mono ?_
              rintro e w6 ⟨rfl, hP6, hf6⟩
              have hg6 := hg5.trans' hf6 HOWN.out
              go_wp2_with fail
              refine (H3.out _ hP6).mono ?_
              rintro e w7 ⟨rfl, hf7⟩
              have hg7 := hg6.trans hf7
              have hP7 := hP6.fr0 hf7
              have hB7 := ((HBr.out.fr hf5 (fun h => HOWN2.out _ h rfl)).fr hf6 (fun h => HOWN2.out _ h rfl)).fr hf7 (by simp)
              have hbx7 := hB7.cell 1
              have lbx7 := hB7.lt
              simp only [List.getElem?_cons_zero, List.getElem?_cons_succ] at hbx7
              obtain ⟨k70, k71, k7cl⟩ := HEC.out _ hg7
              go_wp2_with fail
              refine (H4.out _ hP7).mono ?_
              rintro e w8 ⟨rfl, hw⟩
              have hw := hw.symm
              subst hw
              go_wp2_with fail
              refine (H6.out _ hP7).mono ?_
              rintro e w8 ⟨rfl, hw⟩
              have hw := hw.symm
              subst hw
              go_wp2_with fail
              refine (H5.out _ hP7).mono ?_
              rintro e w8 ⟨rfl, hw⟩
              have hw := hw.symm
              subst hw
              go_wp2_with fail
              exact ⟨⟨k + 1, c, S2, by omega, by omega, rfl, by go_num, hP7, HLN.out, hB7, hg7⟩, by simp [intOf]; omega⟩
            · obtain ⟨hs0, hs1⟩ := hLr.send_no d k (by omega) hok
              have hsend := fun W (h : MirrorAt W L S) => mSend_any W L S h d t k
              generalize hr : S.send d t k = r at hsend hs0 hs1
              obtain ⟨pe, S1⟩ := r
              simp only at hs0 hs1 hsend
              subst hs1
              have hq : (pe == 0) = false := by simp [hs0]
              have H1 := Lib.hid hsend
              have HLr := Lib.hid hLr
              have HBr := Lib.hid hBr
              have hbx := hBr.cell 1
              have lbx := hBr.lt
              simp only [List.getElem?_cons_zero, List.getElem?_cons_succ] at hbx
              have hcases : decide ((1 : Int) ≤ d) = false ∨ (decide ((1 : Int) ≤ d) = true ∧ decide (d ≤ (l.edges.length : Int)) = false) ∨ (1 ≤ d ∧ d ≤ l.edges.length) := by simp; omega
              clear hsend hr hs0 hBr hLr
              rcases hcases with h1 | ⟨h1, h2⟩ | ⟨h1, h2⟩
              · clear hok
                go_wp2_with fail
                refine (H1.out _ hPr).mono ?_
                rintro e w5 ⟨rfl, hP5, hf5⟩
                go_wp2_with fail
                exact ⟨⟨k + 1, b, S1, by omega, by omega, rfl, by go_num, hP5, HLr.out, HBr.out.fr hf5 (fun h => HOWN2.out _ h rfl), hgr.trans' hf5 HOWN.out⟩, by simp [intOf]; omega⟩
              · clear hok
                go_wp2_with fail
                refine (H1.out _ hPr).mono ?_
                rintro e w5 ⟨rfl, hP5, hf5⟩
                go_wp2_with fail
                exact ⟨⟨k + 1, b, S1, by omega, by omega, rfl, by go_num, hP5, HLr.out, HBr.out.fr hf5 (fun h => HOWN2.out _ h rfl), hgr.trans' hf5 HOWN.out⟩, by simp [intOf]; omega⟩
              · obtain ⟨m, rfl⟩ : ∃ m : Nat, d = (m : Int) + 1 := ⟨(d - 1).toNat, by omega⟩
                have hml : m < l.edges.length := by omega
                have hE : l.edges[m]? = some l.edges[m] := List.getElem?_eq_getElem hml
                have hne : (l.edges[m].1 == (b : Int)) = false := by
                  rw [beq_eq_false_iff_ne]
                  intro e
                  apply hok
                  refine ⟨h1, h2, ?_⟩
                  rw [show ((m : Int) + 1).toNat - 1 = m by omega]
                  simp [List.getD, hE, e]
                obtain ⟨ade, hAe, hade, f0, f1⟩ := (HL.out.fr hgr).edge hE
                generalize l.edges[m].1 = ev at *
                subst hAe
                have hcle : ∀ n, (ade.add n).block < wr.heap.size := fun n => by have := (HL.out.fr hgr).hB; rw [block_of_add]; omega
                have hd1 : decide ((1 : Int) ≤ (m : Int) + 1) = true := decide_eq_true (by omega)
                have hd2 : decide ((m : Int) + 1 ≤ (l.edges.length : Int)) = true := decide_eq_true (by omega)
                clear hok hE f1
                go_wp2_with fail
                refine (H1.out _ hPr).mono ?_
                rintro e w5 ⟨rfl, hP5, hf5⟩
                go_wp2_with fail
                exact ⟨⟨k + 1, b, S1, by omega, by omega, rfl, by go_num, hP5, HLr.out, HBr.out.fr hf5 (fun h => HOWN2.out _ h rfl), hgr.trans' hf5 HOWN.out⟩, by simp [intOf]; omega⟩
          · have fin0 : ¬ k < ps.length ∨ (k < ps.length ∧ ¬ (k : Int) < 50) := by omega
            have hwh := fun W (h : MirrorAt W L S) => mWhere_any W L S h t
            rw [hLr.where_] at hwh
            have HWH := Lib.hid hwh
            have hq : ((b : Int) == (b : Int)) = true := by simp
            clear hlt hwh
            rcases fin0 with h100 | ⟨hlt1, h100⟩
            all_goals
              go_wp2_with fail
              refine (HWH.out _ hPr).mono ?_
              rintro e w' ⟨rfl, hw⟩
              have hw := hw.symm
              subst hw
              go_wp2_with fail
              go_ret
              exact ⟨rfl, hgr⟩
end Go.Proofs.Ytncggholhmgoaaa
