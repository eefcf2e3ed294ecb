/- stillagelaw17.MirrorMasks: the walk. -/
import Derived.Test.YtncggholhmgoaaaOpenMirror
import Derived.Test.YtncggholhmgoaaaMirrorDown
import Derived.Test.YtncggholhmgoaaaMasksPlain
namespace Go.Proofs.Ytncggholhmgoaaa
set_option linter.unusedVariables false
set_option linter.unusedSimpArgs false
open Go.RowKit

theorem dev_ofM (dev : Int) (n : Nat) (h0 : ¬ n = 0) (h1 : n ≤ 200) : ∃ m : Nat, m < n ∧ wrap64 (wrap64 ((IntKind.u64.wrap dev).tmod (n : Int)) + 1) = (m : Int) + 1 := by
  have hu : 0 ≤ IntKind.u64.wrap dev := by
    simp [IntKind.wrap, IntKind.signed, IntKind.bits]; omega
  have h2 := Int.tmod_nonneg (n : Int) hu
  have h3 := Int.tmod_lt_of_pos (IntKind.u64.wrap dev) (show (0 : Int) < n by omega)
  generalize (IntKind.u64.wrap dev).tmod (n : Int) = r at *
  refine ⟨r.toNat, by omega, ?_⟩
  have e1 : wrap64 r = r := by simp [wrap64, IntKind.wrap, IntKind.signed, IntKind.bits]; omega
  have e2 : wrap64 (r + 1) = r + 1 := by simp [wrap64, IntKind.wrap, IntKind.signed, IntKind.bits]; omega
  rw [e1, e2]; omega

theorem int_getM {l : List Int} {k : Nat} {x : Int} (h : l[k]? = some x) : (intCells l)[k]? = some (.int .i64 x) := by simp [intCells, h]
theorem any_succL {l : List Int} {f : Int → Bool} {k : Nat} {y : Int} (hy : l[k]? = some y) : (l.take (k + 1)).any f = ((l.take k).any f || f y) := by
  have hl := (List.getElem?_eq_some_iff.1 hy).1
  have he : l[k] = y := by rw [List.getElem?_eq_getElem hl] at hy; simpa using hy
  rw [List.take_succ_eq_append_getElem hl, List.any_append, he]; simp
theorem filter_succL {l : List Int} {f : Int → Bool} {k : Nat} {y : Int} (hy : l[k]? = some y) : ((l.take (k + 1)).filter f).length = ((l.take k).filter f).length + if f y then 1 else 0 := by
  have hl := (List.getElem?_eq_some_iff.1 hy).1
  have he : l[k] = y := by rw [List.getElem?_eq_getElem hl] at hy; simpa using hy
  rw [List.take_succ_eq_append_getElem hl, List.filter_append, List.length_append, he]
  cases h : f y <;> simp [List.filter_cons, h]
theorem MM.mask_len (S : MM) (d : Int) (x : Bool) : (S.mask d x).2.devs.length = S.devs.length := by
  unfold MM.mask; split <;> simp
theorem MM.moved_len (S : MM) (d t : Int) : (S.moved d t).2.devs.length = S.devs.length := by
  unfold MM.moved
  repeat' split
  all_goals simp
theorem MM.apply_edges (S : MM) (n : Nt) : (S.apply n).2.edges = S.edges := by
  unfold MM.apply MM.put MM.send MM.moved MM.drop MM.mask
  repeat' split
  all_goals rfl

set_option maxHeartbeats 8000000 in
set_option maxRecDepth 100000 in
theorem masks_any (w : World) (B : Nat) (An Ae As : Option Addr) (cn ce cs : Nat) (l : Lay) (ops : List Nt) (dev : Int) (hL : LayAt w B An Ae l) (hS : NotesAt w B As ops) (hce : Ae = none → ce = 0) :
    Calls Try.prog 12 #[.agg #[.slice An l.nodes.length cn, .slice Ae l.edges.length ce], .slice As ops.length cs, .int .i64 dev] w fun e w' => e = .returned (.bool true) ∧ Fr [] w w' := by
  have ln := hL.ln
  have le := hL.le
  have ls := hS.ln
  have hBw := hL.hB
  have hb0 := Blk.new w 28 [.slice An l.nodes.length cn, .slice Ae l.edges.length ce]
  have Hce := Lib.hid hce
  clear hce
  go_enter Try.func12, Try.ntmps12
  go_wp2_with fail
  refine (mAwake_any _).mono ?_
  rintro e w1 ⟨rfl, hf1⟩
  have b1 := hb0.fr hf1 (by simp)
  have y0 := b1.cell 0
  have y1 := b1.cell 1
  simp only [List.getElem?_cons_zero, List.getElem?_cons_succ] at y0 y1
  go_wp2_with fail
  refine (mFew_any _ _ _ _ _ _ _ ln le).mono ?_
  rintro e w2 ⟨rfl, hf2⟩
  have b2 := b1.fr hf2 (by simp)
  have z0 := b2.cell 0
  have z1 := b2.cell 1
  simp only [List.getElem?_cons_zero, List.getElem?_cons_succ] at z0 z1
  have g2 := (((Fr.refl [] w).alloc (.cells #[.slice An l.nodes.length cn, .slice Ae l.edges.length ce] 28)).trans hf1).trans hf2
  cases hfew : (decide (l.nodes.length ≤ 60) && decide (l.edges.length ≤ 200)) with
  | false =>
    go_wp2_with (go_at_call 34; refine (mAwake_any _).mono ?_; rintro e w3 ⟨rfl, hf3⟩)
    go_ret
    exact ⟨rfl, g2.trans hf3⟩
  | true =>
    have le2 : l.edges.length ≤ 200 := by simp only [Bool.and_eq_true, decide_eq_true_eq] at hfew; exact hfew.2
    go_wp2_with fail
    refine (mNew_any _ B An Ae cn ce l (hL.fr g2) Hce.out).mono ?_
    rintro e w3 (⟨hk, rfl, hf3⟩ | ⟨hk, L, rfl, hP, hf3, hlo, hhi⟩)
    · go_wp2_with fail
      go_ret
      exact ⟨rfl, g2.trans hf3⟩
    · have hg3 := g2.trans hf3
      have b3 := b2.fr hf3 (by simp)
      have hown := hP.own_ge
      rw [hlo] at hown
      have hsz2 := g2.size
      have HOWN := Lib.hid (show ∀ k, k ∈ L.own → k ∈ ([] : List Nat) ∨ w.heap.size ≤ k from fun k hk => .inr (Nat.le_trans hsz2 (hown k hk)))
      have HOWN2 := Lib.hid (show ∀ k, k ∈ L.own → k ≠ w.heap.size from fun k hk => by have := hown k hk; have := b2.lt; omega)
      have x1 := b3.cell 1
      simp only [List.getElem?_cons_zero, List.getElem?_cons_succ] at x1
      clear hown hlo hhi hf3 z0 z1 y0 y1 b1 b2 hb0 hf1 hf2
      by_cases he0 : l.edges.length = 0
      · have q : ((l.edges.length : Int) == 0) = true := by simp [he0]
        have HE := Lib.hid he0
        clear he0
        go_wp2_with fail
        go_ret
        exact ⟨rfl, hg3⟩
      · have q : ((l.edges.length : Int) == 0) = false := by simp [he0]
        go_wp2_with fail
        obtain ⟨m, hml, hDe⟩ := dev_ofM dev l.edges.length he0 le2
        clear he0
        rw [hDe]
        have HS := Lib.hid hS
        have HL := Lib.hid hL
        have HP := Lib.hid hP
        have HB := Lib.hid b3
        have HG := Lib.hid hg3
        clear hDe q b3 x1 hS hL hP hg3 hfew hk
        go_loopw [9] (fun i wr => ∃ (k : Nat) (S : MM), k ≤ ops.length ∧ k ≤ 100 ∧ i = .int .i64 k ∧ MirrorAt wr L S ∧ Hid (S.edges = l.edges) ∧
          Blk wr w.heap.size 28 [.slice An l.nodes.length cn, .slice Ae l.edges.length ce] ∧ Fr [] w wr) (fun i _ => ops.length - (intOf i).toNat)
        case atStart => exact ⟨0, _, Nat.zero_le _, by omega, rfl, HP.out, Lib.hid rfl, HB.out, HG.out⟩
        case round =>
          clear HP HB HG
          obtain ⟨k, S, hk, hk2, rfl, hPr, HEr, hBr, hgr⟩ := hrel
          by_cases hlt : k < ops.length ∧ k < 100
          · obtain ⟨hlt, hlt2⟩ := hlt
            have hk100 : decide ((k : Int) < 100) = true := by simp; omega
            obtain ⟨o, ho⟩ : ∃ o, ops[k]? = some o := ⟨_, List.getElem?_eq_getElem hlt⟩
            obtain ⟨ad, hAs, hadb, c0, c1, c2, c3⟩ := (HS.out.fr hgr).note ho
            subst hAs
            have hcl : ∀ n, (ad.add n).block < wr.heap.size := fun n => by have := (HS.out.fr hgr).hB; rw [block_of_add]; omega
            obtain ⟨kd, oa, ob, oc⟩ := o
            simp only at c0 c1 c2 c3
            have hap := fun W (h : MirrorAt W L S) => mApply_any W L S h kd oa ob oc
            have HAP := Lib.hid hap
            have HAE := Lib.hid (MM.apply_edges S ⟨kd, oa, ob, oc⟩)
            clear ho hap
            go_wp2_with fail
            refine (HAP.out _ hPr).mono ?_
            rintro e w5 ⟨rfl, hP5, hf5⟩
            go_wp2_with fail
            exact ⟨⟨k + 1, _, by omega, by omega, by go_num, hP5, Lib.hid (HAE.out.trans HEr.out), hBr.fr hf5 (fun h => HOWN2.out _ h rfl), hgr.trans' hf5 HOWN.out⟩, by simp [intOf]; omega⟩
          · have fin0 : (¬ k < ops.length) ∨ (k < ops.length ∧ decide ((k : Int) < 100) = false) := by simp; omega
            clear hlt
            have HP := Lib.hid hPr
            have HB := Lib.hid hBr
            have HG := Lib.hid hgr
            clear hPr hBr hgr
            rcases fin0 with h100 | ⟨hlt1, h100⟩
            all_goals
              have hle' : S.devs.length = l.edges.length + 1 := by rw [HP.out.ld, HEr.out]
              obtain ⟨x, hx, _⟩ := HP.out.dev_get (i := m + 1) (by omega)
              obtain ⟨⟨ea, eb⟩, hE⟩ : ∃ e, l.edges[m]? = some e := ⟨_, List.getElem?_eq_getElem (by omega)⟩
              obtain ⟨S1, S2, S3, hm1, hsd, htd, hmv, hdm, hm3, hdw⟩ := MM.masks_facts S (m + 1) x (ea, eb) hx (by omega) (HP.out.dok _ (List.mem_of_getElem? hx)) (by rw [HEr.out]; exact hE) HP.out.lw
              simp only [Int.natCast_add, Int.natCast_one] at hm1 hsd htd hmv hdm hm3 hdw
              have hdl := S.downsTo_len S.devs.length
              rw [MM.downsTo_all] at hdl
              have hdl2 : S.downs.length ≤ 201 := by omega
              have k1 := fun W (h : MirrorAt W L S) => mDown_any W L S h
              have k2 := fun W (h : MirrorAt W L S) => mTold_any W L S h ((m : Int) + 1)
              have k3 := fun W (h : MirrorAt W L S) => mMask_any W L S h ((m : Int) + 1) true
              have k4 := fun W (h : MirrorAt W L S1) => mSend_any W L S1 h ((m : Int) + 1) 1 0
              have k5 := fun W (h : MirrorAt W L S1) => mTold_any W L S1 h ((m : Int) + 1)
              have k6 := fun W (h : MirrorAt W L S2) => mDown_any W L S2 h
              have k7 := fun W (h : MirrorAt W L S2) => mMask_any W L S2 h ((m : Int) + 1) false
              have k8 := fun W (h : MirrorAt W L S3) => mDown_any W L S3 h
              rw [hm1] at k3
              rw [hsd] at k4
              rw [hm3] at k7
              rw [hdw] at k8
              unfold ToldPost at k2 k5
              rw [htd] at k5
              have k9 := fun W (h : MirrorAt W L S1) => mMoved_any W L S1 h ((m : Int) + 1) (S.told ((m : Int) + 1)).1
              have k10 := fun W (h : MirrorAt W L S2) => mWhere_any W L S2 h (S.told ((m : Int) + 1)).1
              generalize htt : S.told ((m : Int) + 1) = tl at *
              obtain ⟨tt, ts, tb⟩ := tl
              simp only at hmv k2 k5 k9 k10
              generalize hdd : S.downs = dl at *
              have hS2l : S2.downs.length ≤ 201 := by
                have := S2.downsTo_len S2.devs.length
                rw [MM.downsTo_all] at this
                have hq : S2.devs.length = l.edges.length + 1 := by
                  have h3 : S1.devs.length = S.devs.length := by have := congrArg (fun r => r.2.devs.length) hm1; simp only [MM.mask_len] at this; omega
                  rcases hmv with ⟨_, h1, _⟩ | ⟨_, h1⟩
                  · have := congrArg (fun r => r.2.devs.length) h1; simp only [MM.moved_len] at this; omega
                  · rw [h1]; omega
                omega
              generalize hdd2 : S2.downs = dl2 at *
              have K1 := Lib.hid k1
              have K2 := Lib.hid k2
              have K3 := Lib.hid k3
              have K4 := Lib.hid k4
              have K5 := Lib.hid k5
              have K6 := Lib.hid k6
              have K7 := Lib.hid k7
              have K8 := Lib.hid k8
              have HDM := Lib.hid hdm
              have HEE := Lib.hid hE
              clear k1 k2 k3 k4 k5 k6 k7 k8 hm1 hsd htd hm3 hdw htt hdd hdd2 hx hle' hdm hE hdl
              go_wp2_with fail
              refine (K1.out _ HP.out).mono ?_
              rintro e w5 ⟨A5, c5, rfl, ho5, hf5⟩
              have hP5 := HP.out.fr0 hf5
              have hg5 := HG.out.trans hf5
              have b5 := HB.out.fr hf5 (by simp)
              have hfo : ∀ g, (Value.slice A5 dl.length c5).ownBlock = some g → g ∉ L.own := fun g hg => HP.out.fresh (own_lt ho5 hg).1
              have HFO := Lib.hid hfo
              have HBS := Lib.hid (show ∀ g, (Value.slice A5 dl.length c5).ownBlock = some g → w.heap.size ≤ g from fun g hg => Nat.le_trans HG.out.size (own_lt ho5 hg).1)
              have HO5 := Lib.hid ho5
              clear hfo ho5
              go_wp2_with fail
              refine (K2.out _ hP5).mono ?_
              rintro e w6 ⟨rfl, hf6, _⟩
              have hP6 := hP5.fr0 hf6
              have hg6 := hg5.trans hf6
              have b6 := b5.fr hf6 (by simp)
              go_wp2_with fail
              refine (K3.out _ hP6).mono ?_
              rintro e w7 ⟨rfl, hP7, hf7⟩
              have hg7 := hg6.trans' hf7 HOWN.out
              have b7 := b6.fr hf7 (fun h => HOWN2.out _ h rfl)
              go_wp2_with fail
              refine (K4.out _ hP7).mono ?_
              rintro e w8 ⟨rfl, hP8, hf8⟩
              have hg8 := hg7.trans' hf8 HOWN.out
              have b8 := b7.fr hf8 (fun h => HOWN2.out _ h rfl)
              go_wp2_with fail
              refine (K5.out _ hP8).mono ?_
              rintro e w9 ⟨rfl, hf9, _⟩
              have hP9 := hP8.fr0 hf9
              have hg9 := hg8.trans hf9
              have b9 := b8.fr hf9 (by simp)
              have hF59 : Fr L.own w5 w9 := (((hf6.of_nil L.own).trans hf7).trans hf8).trans (hf9.of_nil _)
              have HO9 := Lib.hid (own_fr HO5.out hF59 HFO.out)
              clear hP5 hP6 hP7 hP8 hg5 hg6 hg7 hg8 b5 b6 b7 b8 hF59 HO5 hf5 hf6 hf7 hf8 hf9
              have HFIN : ∀ w10, MirrorAt w10 L S2 → Fr [] w w10 → Fr L.own w9 w10 → True := fun _ _ _ _ => trivial
              clear HFIN
              rcases hmv with ⟨rfl, hmo, hwh⟩ | ⟨rfl, rfl⟩
              case' inl =>
                rw [hmo] at k9
                rw [hwh] at k10
                have K9 := Lib.hid k9
                have K10 := Lib.hid k10
                obtain ⟨ade, hAe, hade, f0, f1⟩ := HL.out.edge HEE.out
                simp only at f0 f1
                subst hAe
                have HEC := Lib.hid (fun W (hF : Fr [] w W) (hB : Blk W w.heap.size 28 [.slice An l.nodes.length cn, .slice (some ade) l.edges.length ce]) => (show W.cell? ⟨w.heap.size, 1, none⟩ = some (.slice (some ade) l.edges.length ce) ∧ W.cell? ⟨(ade.add (m * 2)).block, (ade.add (m * 2)).off + 1, none⟩ = some (.int .i64 eb) ∧ (∀ q, (ade.add q).block < W.heap.size) ∧ w.heap.size < W.heap.size from
                  ⟨by have := hB.cell 1; simpa using this, (hF.cell (by simp only [block_of_add]; omega) (by simp)).trans f1, fun q => by rw [block_of_add]; have := hF.size; omega, hB.lt⟩))
                obtain ⟨z1, z2, z3, z4⟩ := HEC.out _ hg9 b9
                have HB9 := Lib.hid b9
                have hi1 : IntKind.i64.wrap ((m : Int) + 1 - 1) = (m : Int) := by rw [show (m : Int) + 1 - 1 = m by omega]; exact IntWalk.i64_in _ (by omega)
                have hi2 : IntKind.i64.wrap (m : Int) = (m : Int) := IntWalk.i64_in _ (by omega)
                have hm0 : (0 : Int) ≤ (m : Int) := by omega
                have hmm1 : (m : Int) < (l.edges.length : Int) := by omega
                clear f0 f1 hmo hwh k9 k10 b9
                go_wp2_with fail
                go_region_held3 (fun w' => w'.cell? ⟨w.heap.size, 1, none⟩ = some (.slice (some ade) l.edges.length ce) ∧ w'.cell? ⟨(ade.add (m * 2)).block, (ade.add (m * 2)).off + 1, none⟩ = some (.int .i64 eb)) (go_keep) (first | (go_at_call 39; refine (K9.out _ hP9.drew).mono ?_; rintro e w10 ⟨rfl, hP10, hf10⟩; have hg10 := hg9.drew.trans' hf10 HOWN.out; have b10 := (HB9.out.drew).fr hf10 (fun h => HOWN2.out _ h rfl); obtain ⟨y1, y2, y3, y4⟩ := HEC.out _ hg10 b10) | (go_at_call 42; refine (K10.out _ hP10).mono ?_; rintro e wz ⟨rfl, hw⟩; have hw := hw.symm; subst hw))
                obtain ⟨wA, hwA, hPA, hgA, hOA⟩ : ∃ wA, wA = w10 ∧ MirrorAt wA L S2 ∧ Fr [] w wA ∧ wA.ownsRow w.heap.size 3 1 (.slice A5 dl.length c5) dl.length (intCells dl) :=
                  ⟨_, rfl, hP10, hg10, own_base (own_fr HO9.out ((Fr.refl L.own w9).drew.trans hf10) HFO.out) HBS.out⟩
                rw [← hwA]
                clear hwA
              case' inr =>
                clear k9 k10
                go_wp2_with fail
                go_quiet (fail)
                obtain ⟨wA, hwA, hPA, hgA, hOA⟩ : ∃ wA, wA = w9.drewN nq ∧ MirrorAt wA L S2 ∧ Fr [] w wA ∧ wA.ownsRow w.heap.size 3 1 (.slice A5 dl.length c5) dl.length (intCells dl) :=
                  ⟨_, rfl, hP9.drewN _, hg9.drewN _, own_base (own_fr HO9.out ((Fr.refl L.own w9).drewN nq) HFO.out) HBS.out⟩
                rw [← hwA]
                clear hwA
              all_goals as_aux_lemma =>
                have HPA := Lib.hid hPA
                have HGA := Lib.hid hgA
                have HOA := Lib.hid hOA
                clear hOA hgA hPA
                go_wp2_with fail
                refine (K6.out _ HPA.out).mono ?_
                rintro e w11 ⟨A11, c11, rfl, ho11, hf11⟩
                have HR11 := Lib.hid (Reads.of_own ho11)
                have hPB := HPA.out.fr0 hf11
                have HOB := Lib.hid (own_fr HOA.out hf11 (by simp))
                have hgB := HGA.out.trans hf11
                clear ho11
                go_wp2_with fail
                go_loop [17, 136] (fun f i => ∃ k : Nat, k ≤ dl2.length ∧ i = .int .i64 k ∧ f = .bool ((dl2.take k).any fun y => y == (m : Int) + 1)) (fun _ i => dl2.length - (intOf i).toNat)
                case atStart => exact ⟨0, Nat.zero_le _, rfl, rfl⟩
                case round =>
                  obtain ⟨k2, hk22, rfl, rfl⟩ := hrel
                  by_cases hlt2 : k2 < dl2.length
                  · obtain ⟨ad, u, hA, _, hu, hc⟩ := HR11.out.at_ (k := k2) (by simpa [intCells] using hlt2)
                    obtain ⟨y, hy⟩ : ∃ y, dl2[k2]? = some y := ⟨_, List.getElem?_eq_getElem hlt2⟩
                    rw [int_getM hy] at hu
                    simp only [Option.some.injEq] at hu
                    subst hu
                    subst hA
                    have HN := Lib.hid (any_succL (f := fun y => y == (m : Int) + 1) hy)
                    clear hy
                    cases hb : ((dl2.take k2).any fun y => y == (m : Int) + 1) with
                    | true =>
                      rw [hb] at HN
                      clear hb
                      go_wp2_with fail
                      go_round
                      case rel => exact ⟨k2 + 1, by omega, by go_num, by rw [HN.out]; rfl⟩
                      case measure => simp [intOf]; omega
                    | false =>
                      rw [hb] at HN
                      clear hb
                      go_wp2_with fail
                      go_round
                      case rel => exact ⟨k2 + 1, by omega, by go_num, by rw [HN.out]; rfl⟩
                      case measure => simp [intOf]; omega
                  · have hb : ((dl2.take k2).any fun y => y == (m : Int) + 1) = true := by
                      rw [List.take_of_length_le (by omega), List.any_eq_true]
                      exact ⟨_, HDM.out, by simp⟩
                    rw [hb]
                    clear hb
                    go_wp2_with fail
                    refine (K7.out _ hPB).mono ?_
                    rintro e w12 ⟨rfl, hPC, hf12⟩
                    have hgC := hgB.trans' hf12 HOWN.out
                    have HR12 := Lib.hid (Reads.of_own (own_fr HOB.out hf12 HFO.out))
                    go_wp2_with fail
                    go_loop [20, 157] (fun c i => ∃ k : Nat, k ≤ dl.length ∧ i = .int .i64 k ∧ c = .int .i64 (((dl.take k).filter fun y => y != (m : Int) + 1).length)) (fun _ i => dl.length - (intOf i).toNat)
                    case atStart => exact ⟨0, Nat.zero_le _, rfl, rfl⟩
                    case round =>
                      obtain ⟨k3, hk3, rfl, rfl⟩ := hrel
                      have hcl3 : ((dl.take k3).filter fun y => y != (m : Int) + 1).length ≤ k3 := Nat.le_trans (List.length_filter_le _ _) (List.length_take_le _ _)
                      by_cases hlt3 : k3 < dl.length
                      · obtain ⟨ad, u, hA, _, hu, hc⟩ := HR12.out.at_ (k := k3) (by simpa [intCells] using hlt3)
                        obtain ⟨y, hy⟩ : ∃ y, dl[k3]? = some y := ⟨_, List.getElem?_eq_getElem hlt3⟩
                        rw [int_getM hy] at hu
                        simp only [Option.some.injEq] at hu
                        subst hu
                        subst hA
                        have HN := Lib.hid (filter_succL (f := fun y => y != (m : Int) + 1) hy)
                        clear hy
                        generalize hcnt : ((dl.take k3).filter fun y => y != (m : Int) + 1).length = cnt at *
                        clear hcnt
                        cases hq : (y == (m : Int) + 1) with
                        | true =>
                          have hq2 : (y != (m : Int) + 1) = false := by rw [bne, hq]; rfl
                          rw [hq2] at HN
                          have HQ := Lib.hid hq2
                          go_wp2_with fail
                          go_round
                          case rel => exact ⟨k3 + 1, by omega, by go_num, by rw [HN.out]; rfl⟩
                          case measure => simp [intOf]; omega
                        | false =>
                          have hq2 : (y != (m : Int) + 1) = true := by rw [bne, hq]; rfl
                          rw [hq2] at HN
                          have HQ := Lib.hid hq2
                          go_wp2_with fail
                          go_round
                          case rel => exact ⟨k3 + 1, by omega, by go_num, by rw [HN.out]; go_num⟩
                          case measure => simp [intOf]; omega
                      · rw [List.take_of_length_le (by omega)] at hcl3 ⊢
                        have k8 := K8.out
                        generalize (dl.filter fun y => y != (m : Int) + 1) = fl at *
                        have HK := Lib.hid k8
                        clear k8
                        go_wp2_with fail
                        refine (HK.out _ hPC).mono ?_
                        rintro e w13 ⟨A13, c13, rfl, ho13, hf13⟩
                        clear ho13
                        go_wp2_with fail
                        go_ret
                        exact ⟨rfl, hgC.trans hf13⟩
end Go.Proofs.Ytncggholhmgoaaa
