/- stillagelaw17.MirrorOne: the walk. -/
import Derived.Test.YtncggholhmgoaaaOpenMirror
import Derived.Test.YtncggholhmgoaaaOneCount
namespace Go.Proofs.Ytncggholhmgoaaa
set_option linter.unusedVariables false
set_option linter.unusedSimpArgs false
open Go.RowKit

theorem quiet_same5 {P : Program} {f : FuncId} {args : Array Value} {w : World} {n : Nat} {v : Value}
    (h : Calls P f args (w.drewN n) fun e w' => e = .returned v ∧ w' = w.drewN n) :
    Calls P f args (w.drewN n) fun e w'' => e = .returned v ∧ ∃ m, w'' = w.drewN m :=
  h.mono fun _ _ ⟨he, hm⟩ => ⟨he, n, hm⟩
def boolCells (l : List Bool) : List Value := l.map .bool
theorem bool_set (l : List Bool) (k : Nat) (x : Bool) : (boolCells l).set k (.bool x) = boolCells (l.set k x) := by rw [boolCells, ← List.map_set]; rfl
theorem bool_get {l : List Bool} {k : Nat} {x : Bool} (h : l[k]? = some x) : (boolCells l)[k]? = some (.bool x) := by simp [boolCells, h]
theorem int_set2 (l : List Int) (k : Nat) (x : Int) : (intCells l).set k (.int .i64 x) = intCells (l.set k x) := by rw [intCells, ← List.map_set]; rfl
theorem int_get2 {l : List Int} {k : Nat} {x : Int} (h : l[k]? = some x) : (intCells l)[k]? = some (.int .i64 x) := by simp [intCells, h]

theorem MM.told_no {S : MM} {d : Nat} {x : MD} (hx : S.devs[d]? = some x) (h : x.tote = 0) : S.told d = (0, 0, false) := by
  unfold MM.told; rw [if_pos (.inr (by rw [MM.dv_get hx]; exact h))]
theorem MM.told_yes {S : MM} {d : Nat} {x : MD} (hx : S.devs[d]? = some x) (h : x.tote ≠ 0) (hd : 1 ≤ d) : S.told d = (x.tote, x.seq, true) := by
  unfold MM.told; rw [if_neg (by rw [MM.dv_get hx, MM.noDev_at hx hd]; simp [h]), MM.dv_get hx]
theorem one_end {w W : World} {L : PL} {S : MM} {pb : List Bool} {E : List (Int × Int)} {n G : Nat} {cs : List Value} (hs : MM.One S pb E n) (hP : MirrorAt W L S) (hA : Blk W G 77 (boolCells pb)) (hB : Blk W w.heap.size 28 cs) (hF : Fr [] w W)
    (hG : w.heap.size ≤ G) (hL : L.hi ≤ G) :
    MirrorAt (W.alloc (.cells (madeCells #[.int .i64 0] n) 3)) L S ∧ MM.One S pb E n ∧ Blk (W.alloc (.cells (madeCells #[.int .i64 0] n) 3)) G 77 (boolCells pb) ∧ Blk (W.alloc (.cells (madeCells #[.int .i64 0] n) 3)) w.heap.size 28 cs ∧
      Fr [] w (W.alloc (.cells (madeCells #[.int .i64 0] n) 3)) ∧ Blk (W.alloc (.cells (madeCells #[.int .i64 0] n) 3)) W.heap.size 3 (intCells (List.replicate n 0)) ∧
      (w.heap.size ≤ W.heap.size ∧ G ≠ W.heap.size ∧ w.heap.size ≠ W.heap.size ∧ L.hi ≤ W.heap.size) := by
  have h1 := hA.lt
  have h2 := hB.lt
  refine ⟨hP.alloc _, hs, hA.alloc _, hB.alloc _, hF.alloc _, ?_, by omega, by omega, by omega, by omega⟩
  have := Blk.new_at W 3 (madeCells #[.int .i64 0] n) W.heap.size rfl
  rwa [made3] at this

set_option maxHeartbeats 8000000 in
set_option maxRecDepth 100000 in
theorem one_any (w : World) (B : Nat) (An Ae As : Option Addr) (cn ce cs : Nat) (l : Lay) (ops : List Nt) (hL : LayAt w B An Ae l) (hS : NotesAt w B As ops) (hce : Ae = none → ce = 0) :
    Calls Try.prog 10 #[.agg #[.slice An l.nodes.length cn, .slice Ae l.edges.length ce], .slice As ops.length cs] w fun e w' => e = .returned (.bool true) ∧ Fr [] w w' := by
  have ln := hL.ln
  have le := hL.le
  have ls := hS.ln
  have hBw := hL.hB
  have hb0 := Blk.new w 28 [.slice An l.nodes.length cn, .slice Ae l.edges.length ce]
  have Hce := Lib.hid hce
  clear hce
  go_enter Try.func10, Try.ntmps10
  go_wp2_with fail
  refine (mAwake_any _).mono ?_
  rintro e w1 ⟨rfl, hf1⟩
  have b1 := hb0.fr hf1 (by simp)
  have y0 := b1.cell 0
  have y1 := b1.cell 1
  simp only [List.getElem?_cons_zero, List.getElem?_cons_succ] at y0 y1
  go_wp2_with fail
  refine (mFew_any _ _ _ _ _ _ _ ln le).mono ?_
  rintro e w2 ⟨rfl, hf2⟩
  have b2 := b1.fr hf2 (by simp)
  have z0 := b2.cell 0
  have z1 := b2.cell 1
  simp only [List.getElem?_cons_zero, List.getElem?_cons_succ] at z0 z1
  have g2 := (((Fr.refl [] w).alloc (.cells #[.slice An l.nodes.length cn, .slice Ae l.edges.length ce] 28)).trans hf1).trans hf2
  cases hfew : (decide (l.nodes.length ≤ 60) && decide (l.edges.length ≤ 200)) with
  | false =>
    go_wp2_with (go_at_call 34; refine (mAwake_any _).mono ?_; rintro e w3 ⟨rfl, hf3⟩)
    go_ret
    exact ⟨rfl, g2.trans hf3⟩
  | true =>
    have le2 : l.nodes.length ≤ 60 ∧ l.edges.length ≤ 200 := by simpa only [Bool.and_eq_true, decide_eq_true_eq] using hfew
    obtain ⟨ln2, le2⟩ := le2
    go_wp2_with fail
    refine (mNew_any _ B An Ae cn ce l (hL.fr g2) Hce.out).mono ?_
    rintro e w3 (⟨hk, rfl, hf3⟩ | ⟨hk, L, rfl, hP, hf3, hlo, hhi⟩)
    · go_wp2_with fail
      go_ret
      exact ⟨rfl, g2.trans hf3⟩
    · have hg3 := g2.trans hf3
      have b3 := b2.fr hf3 (by simp)
      have hown := hP.own_ge
      rw [hlo] at hown
      have hsz2 := g2.size
      have HOWN := Lib.hid (show ∀ k, k ∈ L.own → k ∈ ([] : List Nat) ∨ w.heap.size ≤ k from fun k hk => .inr (Nat.le_trans hsz2 (hown k hk)))
      have HOWN2 := Lib.hid (show ∀ k, k ∈ L.own → k ≠ w.heap.size from fun k hk => by have := hown k hk; have := b2.lt; omega)
      have HHI := Lib.hid hhi
      have HST := Lib.hid (MM.One.init l hk)
      clear hown hlo hhi hf3 z0 z1 y0 y1 b1 b2 hb0 hf1 hf2
      have hgL : w3.heap.size ∉ L.own := hP.fresh (Nat.le_refl _)
      have hgB : w3.heap.size ≠ w.heap.size := by have := b3.lt; omega
      have hsz3 := hg3.size
      obtain ⟨bcs, hbcs, b3⟩ : ∃ bcs, bcs = [.slice An l.nodes.length cn, .slice Ae l.edges.length ce] ∧ Blk w3 w.heap.size 28 bcs := ⟨_, rfl, b3⟩
      have HBC := Lib.hid hbcs
      have HP := Lib.hid (hP.alloc (.cells #[.bool false, .bool false, .bool false, .bool false, .bool false, .bool false, .bool false, .bool false, .bool false, .bool false, .bool false, .bool false, .bool false, .bool false, .bool false, .bool false, .bool false, .bool false, .bool false, .bool false, .bool false, .bool false, .bool false, .bool false, .bool false, .bool false, .bool false, .bool false, .bool false, .bool false, .bool false] 77))
      have HB := Lib.hid (b3.alloc (.cells #[.bool false, .bool false, .bool false, .bool false, .bool false, .bool false, .bool false, .bool false, .bool false, .bool false, .bool false, .bool false, .bool false, .bool false, .bool false, .bool false, .bool false, .bool false, .bool false, .bool false, .bool false, .bool false, .bool false, .bool false, .bool false, .bool false, .bool false, .bool false, .bool false, .bool false, .bool false] 77))
      have HG := Lib.hid (hg3.alloc (.cells #[.bool false, .bool false, .bool false, .bool false, .bool false, .bool false, .bool false, .bool false, .bool false, .bool false, .bool false, .bool false, .bool false, .bool false, .bool false, .bool false, .bool false, .bool false, .bool false, .bool false, .bool false, .bool false, .bool false, .bool false, .bool false, .bool false, .bool false, .bool false, .bool false, .bool false, .bool false] 77))
      have HA := Lib.hid (show Blk (w3.alloc (.cells #[.bool false, .bool false, .bool false, .bool false, .bool false, .bool false, .bool false, .bool false, .bool false, .bool false, .bool false, .bool false, .bool false, .bool false, .bool false, .bool false, .bool false, .bool false, .bool false, .bool false, .bool false, .bool false, .bool false, .bool false, .bool false, .bool false, .bool false, .bool false, .bool false, .bool false, .bool false] 77)) w3.heap.size 77 (boolCells (List.replicate 31 false)) from Blk.new w3 77 _)
      have HS := Lib.hid hS
      have HL := Lib.hid hL
      obtain ⟨i3, hi3, hz3, hs3, hb3⟩ := info_parts info3
      have hmk := fun W => run_make_rowN (P := Try.prog) 57 3 i3 _ Try.underlying57 hi3 hz3 .i64 .i64 l.nodes.length l.nodes.length (Nat.le_refl _) (by rw [hb3]; omega) (by omega) W
      rw [hs3, Nat.mul_one] at hmk
      simp only [Value.cells] at hmk
      clear hi3 hz3 hs3 hb3
      have HMK := Lib.hid hmk
      clear hmk hP b3 hg3 hS hL hfew hbcs hk
      go_wp2_with fail
      generalize hGe : w3.heap.size = G at *
      clear hGe
      go_loopw [8] (fun i wr => ∃ (k : Nat) (S : MM) (pb : List Bool), k ≤ ops.length ∧ k ≤ 120 ∧ i = .int .i64 k ∧ MirrorAt wr L S ∧ MM.One S pb l.edges l.nodes.length ∧ Blk wr G 77 (boolCells pb) ∧ Blk wr w.heap.size 28 bcs ∧ Fr [] w wr) (fun i _ => ops.length - (intOf i).toNat)
      case atStart => exact ⟨0, _, _, Nat.zero_le _, by omega, rfl, HP.out, HST.out, HA.out, HB.out, HG.out⟩
      case round =>
        clear HP HA HB HG HST
        obtain ⟨k, S, pb, hk, hk2, rfl, hPr, hOr, hAr, hBr, hgr⟩ := hrel
        by_cases hlt : k < ops.length ∧ k < 120
        · obtain ⟨hlt, hlt2⟩ := hlt
          have hk120 : decide ((k : Int) < 120) = true := by simp; omega
          obtain ⟨o, ho⟩ : ∃ o, ops[k]? = some o := ⟨_, List.getElem?_eq_getElem hlt⟩
          obtain ⟨ad, hAs, hadb, c0, c1, c2, c3⟩ := (HS.out.fr hgr).note ho
          have HNC := Lib.hid (fun W (hF : Fr [] w W) => (HS.out.fr hF).note ho)
          subst hAs
          have HCL := Lib.hid (show ∀ W, Fr [] w W → ∀ n, (ad.add n).block < W.heap.size from fun W hF n => by have := (HS.out.fr hF).hB; rw [block_of_add]; omega)
          have hcl := HCL.out wr hgr
          obtain ⟨kd, oa, ob, oc⟩ := o
          simp only at c0 c1 c2 c3
          have hap := fun W (h : MirrorAt W L S) => mApply_any W L S h kd oa ob oc
          have hcs := hOr.apply (fun x hx => (hPr.wok x hx).1) (fun x hx => (hPr.dok x hx).1.1) ⟨kd, oa, ob, oc⟩
          generalize hr : S.apply ⟨kd, oa, ob, oc⟩ = r at hap hcs
          obtain ⟨pe, S1⟩ := r
          simp only at hap hcs
          have HAP := Lib.hid hap
          clear ho hap hr
          go_wp2_with fail
          refine (HAP.out _ hPr).mono ?_
          rintro e w5 ⟨rfl, hP5, hf5⟩
          have hg5 := hgr.trans' hf5 HOWN.out
          have b5 := hBr.fr hf5 (fun h => HOWN2.out _ h rfl)
          have a5 := hAr.fr hf5 hgL
          obtain ⟨ad', hAs', _, d0, d1, _, _⟩ := HNC.out w5 hg5
          simp only [Option.some.injEq] at hAs'
          subst hAs'
          have hcl5 := HCL.out w5 hg5
          have x0 := b5.cell 0
          rw [HBC.out] at x0
          simp only [List.getElem?_cons_zero] at x0
          have lx := b5.lt
          have la5 := a5.lt
          have fa5 := a5.frozen
          have hmk := HMK.out
          clear hPr hAr hBr hgr c0 c1 c2 c3 hcl hOr
          rcases hcs with ⟨⟨rfl, rfl⟩, oa1, oa2, hO1⟩ | ⟨hno, hO1⟩
          case' inl =>
            obtain ⟨a, rfl⟩ := Int.eq_ofNat_of_zero_le (show 0 ≤ oa by omega)
            simp only [Int.toNat_natCast] at hO1
            have hi0 : (0 : Int) ≤ (a : Int) := by omega
            have hi1 : (a : Int) < 31 := by omega
            have ca := a5.cell a
            obtain ⟨pv, hpv⟩ : ∃ pv, pb[a]? = some pv := by
              have h31 := hO1.plen
              simp at h31
              exact ⟨_, List.getElem?_eq_getElem (by omega)⟩
            rw [bool_get hpv] at ca
            have HO1 := Lib.hid hO1
            clear hO1 hpv
            go_wp2_with fail
            obtain ⟨pb1, H, wq, hwq, hH, hAll⟩ : ∃ pb1 H wq, wq = (w5.setCell ⟨G, a, none⟩ (.bool true)).alloc (.cells (madeCells #[.int .i64 0] l.nodes.length) 3) ∧ H = w5.heap.size ∧ MirrorAt wq L S1 ∧ MM.One S1 pb1 l.edges l.nodes.length ∧ Blk wq G 77 (boolCells pb1) ∧ Blk wq w.heap.size 28 bcs ∧ Fr [] w wq ∧ Blk wq H 3 (intCells (List.replicate l.nodes.length 0)) ∧ (w.heap.size ≤ H ∧ G ≠ H ∧ w.heap.size ≠ H ∧ L.hi ≤ H) := by
              have hA2 := a5.set_ a (.bool true)
              rw [bool_set] at hA2
              have hz : (w5.setCell ⟨G, a, none⟩ (.bool true)).heap.size = w5.heap.size := by simp [World.setCell]
              have := one_end (n := l.nodes.length) HO1.out (hP5.fr ((Fr.refl [G] w5).setIn (by simp) (.bool true)) (by intro i hi; simp only [List.mem_cons, List.not_mem_nil, or_false] at hi; rw [hi]; exact HHI.out)) hA2 (b5.far (p := ⟨G, a, none⟩) (Ne.symm hgB) (.bool true)) (hg5.setNew (p := ⟨G, a, none⟩) hsz3 (.bool true)) hsz3 HHI.out
              rw [hz] at this
              exact ⟨_, _, _, rfl, rfl, this⟩
            rw [← hwq, ← hH]
            clear hwq hH hi0 hi1 ca
          case' inr =>
            have hno' : pe ≠ 0 ∨ (pe = 0 ∧ kd ≠ 1) := by
              by_cases h0 : pe = 0
              · exact .inr ⟨h0, fun h1 => hno ⟨h0, h1⟩⟩
              · exact .inl h0
            clear hno
            have HO1 := Lib.hid hO1
            clear hO1
            rcases hno' with hne | ⟨rfl, hkd⟩
            case' inl =>
              have hq : (pe == 0) = false := by simp [hne]
              clear hne
              go_wp2_with fail
              obtain ⟨pb1, H, wq, hwq, hH, hAll⟩ : ∃ pb1 H wq, wq = w5.alloc (.cells (madeCells #[.int .i64 0] l.nodes.length) 3) ∧ H = w5.heap.size ∧ MirrorAt wq L S1 ∧ MM.One S1 pb1 l.edges l.nodes.length ∧ Blk wq G 77 (boolCells pb1) ∧ Blk wq w.heap.size 28 bcs ∧ Fr [] w wq ∧ Blk wq H 3 (intCells (List.replicate l.nodes.length 0)) ∧ (w.heap.size ≤ H ∧ G ≠ H ∧ w.heap.size ≠ H ∧ L.hi ≤ H) :=
                ⟨_, _, _, rfl, rfl, one_end HO1.out hP5 a5 b5 hg5 hsz3 HHI.out⟩
              rw [← hwq, ← hH]
              clear hwq hH hq
            case' inr =>
              have hq : (kd == 1) = false := by simp [hkd]
              clear hkd
              go_wp2_with fail
              obtain ⟨pb1, H, wq, hwq, hH, hAll⟩ : ∃ pb1 H wq, wq = w5.alloc (.cells (madeCells #[.int .i64 0] l.nodes.length) 3) ∧ H = w5.heap.size ∧ MirrorAt wq L S1 ∧ MM.One S1 pb1 l.edges l.nodes.length ∧ Blk wq G 77 (boolCells pb1) ∧ Blk wq w.heap.size 28 bcs ∧ Fr [] w wq ∧ Blk wq H 3 (intCells (List.replicate l.nodes.length 0)) ∧ (w.heap.size ≤ H ∧ G ≠ H ∧ w.heap.size ≠ H ∧ L.hi ≤ H) :=
                ⟨_, _, _, rfl, rfl, one_end HO1.out hP5 a5 b5 hg5 hsz3 HHI.out⟩
              rw [← hwq, ← hH]
              clear hwq hH hq
          all_goals as_aux_lemma =>
            obtain ⟨hP1, hO1, hA1, hB1, hF1, hE1, hH1, hH2, hH3, hH4⟩ := hAll
            have HW0 := Lib.hid (show ∀ x ∈ S1.wh, 0 ≤ x from fun x hx => (hP1.wok x hx).1)
            have HD0 := Lib.hid (show ∀ x ∈ S1.devs, 0 ≤ x.tote from fun x hx => (hP1.dok x hx).1.1)
            have HE0 := Lib.hid (show Blk wq H 3 (intCells (MM.endsL S1.nodes 1)) by rw [MM.endsL_one, hO1.nlen]; exact hE1)
            have HO2 := Lib.hid hO1
            have HP1 := Lib.hid hP1
            have HA1 := Lib.hid hA1
            have HB1 := Lib.hid hB1
            have HF1 := Lib.hid hF1
            clear hP1 hO1 hA1 hB1 hF1 hE1 d0 d1 hcl5 hmk x0 lx la5 fa5 b5 a5 hg5 hf5 hP5
            go_loopw [10] (fun i wi => ∃ (t : Nat), 1 ≤ t ∧ t ≤ 31 ∧ i = .int .i64 t ∧ MirrorAt wi L S1 ∧ Blk wi G 77 (boolCells pb1) ∧ Blk wi H 3 (intCells (MM.endsL S1.nodes t)) ∧ Blk wi w.heap.size 28 bcs ∧ Fr [] w wi) (fun i _ => 31 - (intOf i).toNat)
            case atStart => exact ⟨1, by omega, by omega, rfl, HP1.out, HA1.out, HE0.out, HB1.out, HF1.out⟩
            case round =>
              clear HP1 HA1 HE0 HB1 HF1
              obtain ⟨t, ht1, ht2, rfl, hPi, hAi, hEi, hBi, hFi⟩ := hrel
              by_cases ht : t ≤ 30
              · have hd30 : decide ((t : Int) ≤ 30) = true := by simp; omega
                have lA := hAi.lt
                have lE := hEi.lt
                have fE := hEi.frozen
                have lB := hBi.lt
                have x0 := hBi.cell 0
                rw [HBC.out] at x0
                simp only [List.getElem?_cons_zero] at x0
                have ca := hAi.cell t
                have hwh := fun W (h : MirrorAt W L S1) => mWhere_any W L S1 h t
                rcases HO2.out.see HW0.out t ht1 ht with ⟨hw1, hpb, hnx⟩ | ⟨j, hw1, hpb, hjn, hej, hnx, hat⟩
                · rw [bool_get hpb] at ca
                  rw [hw1] at hwh
                  have HWH := Lib.hid hwh
                  have HNX := Lib.hid hnx
                  clear hwh hw1 hnx hpb
                  go_wp2_with fail
                  refine (HWH.out _ hPi).mono ?_
                  rintro e wz ⟨rfl, hw⟩
                  have hw := hw.symm
                  subst hw
                  have hd1 : decide ((l.nodes.length : Int) ≤ -1) = false := by simp; omega
                  go_wp2_with fail
                  exact ⟨⟨t + 1, by omega, by omega, by go_num, hPi, hAi, by rw [HNX.out]; exact hEi, hBi, hFi⟩, by simp [intOf]; omega⟩
                · rw [bool_get hpb] at ca
                  rw [hw1] at hwh
                  have HWH := Lib.hid hwh
                  have HNX := Lib.hid hnx
                  have ce := hEi.cell j
                  rw [int_get2 hej] at ce
                  have hatc := fun W (h : MirrorAt W L S1) => mAt_any W L S1 h j
                  rw [hat] at hatc
                  have HAT := Lib.hid hatc
                  clear hwh hw1 hnx hpb hatc hat hej
                  go_wp2_with fail
                  refine (HWH.out _ hPi).mono ?_
                  rintro e wz ⟨rfl, hw⟩
                  have hw := hw.symm
                  subst hw
                  have hd1 : decide ((l.nodes.length : Int) ≤ (j : Int)) = false := by simp; omega
                  have hd2 : decide ((0 : Int) ≤ (j : Int)) = true := by simp
                  go_wp2_with fail
                  have hP9 := hPi.fr ((Fr.refl [H] _).setIn (p := ⟨H, j, none⟩) (by simp) (.int .i64 1)) (by intro i hi; simp only [List.mem_cons, List.not_mem_nil, or_false] at hi; rw [hi]; exact hH4)
                  refine (HAT.out _ hP9).mono ?_
                  rintro e wz ⟨rfl, hw⟩
                  have hw := hw.symm
                  subst hw
                  go_wp2_with fail
                  have hE9 := hEi.set_ j (.int .i64 1)
                  rw [int_set2, ← HNX.out] at hE9
                  exact ⟨⟨t + 1, by omega, by omega, by go_num, hP9, hAi.far hH2 _, hE9, hBi.far hH3 _, hFi.setNew hH1 _⟩, by simp [intOf]; omega⟩
              · have ht31 : decide ((t : Int) ≤ 30) = false := by simp; omega
                have HE3 := Lib.hid (show Blk wr H 3 (intCells (MM.endsB S1 l.nodes.length 1)) from by
                  have h31 : t = 31 := by omega
                  rw [HO2.out.endsB_one, ← h31]; exact hEi)
                have HE3 := Lib.hid (HE3.out.alloc (.cells #[.int .i64 0, .int .i64 0, .int .i64 0, .int .i64 0, .int .i64 0, .int .i64 0, .int .i64 0, .int .i64 0, .int .i64 0, .int .i64 0, .int .i64 0, .int .i64 0, .int .i64 0, .int .i64 0, .int .i64 0, .int .i64 0, .int .i64 0, .int .i64 0, .int .i64 0, .int .i64 0, .int .i64 0, .int .i64 0, .int .i64 0, .int .i64 0, .int .i64 0, .int .i64 0, .int .i64 0, .int .i64 0, .int .i64 0, .int .i64 0, .int .i64 0] 70))
                have HP3 := Lib.hid (hPi.alloc (.cells #[.int .i64 0, .int .i64 0, .int .i64 0, .int .i64 0, .int .i64 0, .int .i64 0, .int .i64 0, .int .i64 0, .int .i64 0, .int .i64 0, .int .i64 0, .int .i64 0, .int .i64 0, .int .i64 0, .int .i64 0, .int .i64 0, .int .i64 0, .int .i64 0, .int .i64 0, .int .i64 0, .int .i64 0, .int .i64 0, .int .i64 0, .int .i64 0, .int .i64 0, .int .i64 0, .int .i64 0, .int .i64 0, .int .i64 0, .int .i64 0, .int .i64 0] 70))
                have HB3 := Lib.hid (hBi.alloc (.cells #[.int .i64 0, .int .i64 0, .int .i64 0, .int .i64 0, .int .i64 0, .int .i64 0, .int .i64 0, .int .i64 0, .int .i64 0, .int .i64 0, .int .i64 0, .int .i64 0, .int .i64 0, .int .i64 0, .int .i64 0, .int .i64 0, .int .i64 0, .int .i64 0, .int .i64 0, .int .i64 0, .int .i64 0, .int .i64 0, .int .i64 0, .int .i64 0, .int .i64 0, .int .i64 0, .int .i64 0, .int .i64 0, .int .i64 0, .int .i64 0, .int .i64 0] 70))
                have HA3 := Lib.hid (hAi.alloc (.cells #[.int .i64 0, .int .i64 0, .int .i64 0, .int .i64 0, .int .i64 0, .int .i64 0, .int .i64 0, .int .i64 0, .int .i64 0, .int .i64 0, .int .i64 0, .int .i64 0, .int .i64 0, .int .i64 0, .int .i64 0, .int .i64 0, .int .i64 0, .int .i64 0, .int .i64 0, .int .i64 0, .int .i64 0, .int .i64 0, .int .i64 0, .int .i64 0, .int .i64 0, .int .i64 0, .int .i64 0, .int .i64 0, .int .i64 0, .int .i64 0, .int .i64 0] 70))
                have HF3 := Lib.hid (hFi.alloc (.cells #[.int .i64 0, .int .i64 0, .int .i64 0, .int .i64 0, .int .i64 0, .int .i64 0, .int .i64 0, .int .i64 0, .int .i64 0, .int .i64 0, .int .i64 0, .int .i64 0, .int .i64 0, .int .i64 0, .int .i64 0, .int .i64 0, .int .i64 0, .int .i64 0, .int .i64 0, .int .i64 0, .int .i64 0, .int .i64 0, .int .i64 0, .int .i64 0, .int .i64 0, .int .i64 0, .int .i64 0, .int .i64 0, .int .i64 0, .int .i64 0, .int .i64 0] 70))
                have HM3 := Lib.hid (show Blk (wr.alloc (.cells #[.int .i64 0, .int .i64 0, .int .i64 0, .int .i64 0, .int .i64 0, .int .i64 0, .int .i64 0, .int .i64 0, .int .i64 0, .int .i64 0, .int .i64 0, .int .i64 0, .int .i64 0, .int .i64 0, .int .i64 0, .int .i64 0, .int .i64 0, .int .i64 0, .int .i64 0, .int .i64 0, .int .i64 0, .int .i64 0, .int .i64 0, .int .i64 0, .int .i64 0, .int .i64 0, .int .i64 0, .int .i64 0, .int .i64 0, .int .i64 0, .int .i64 0] 70)) wr.heap.size 70 (intCells (MM.movB S1 1)) from by
                  rw [HO2.out.movB_one]; exact Blk.new wr 70 _)
                have hHM : H < wr.heap.size := hEi.lt
                have hBM : w.heap.size < wr.heap.size := hBi.lt
                have hGM : G < wr.heap.size := hAi.lt
                have hLM : L.hi ≤ wr.heap.size := hPi.hhi
                clear hPi hAi hEi hBi hFi
                go_wp2_with fail
                generalize hMe : wr.heap.size = M at *
                clear hMe
                go_loopw [13] (fun i wi => ∃ (d : Nat), 1 ≤ d ∧ d ≤ l.edges.length + 1 ∧ i = .int .i64 d ∧ MirrorAt wi L S1 ∧ Blk wi G 77 (boolCells pb1) ∧ Blk wi H 3 (intCells (MM.endsB S1 l.nodes.length d)) ∧ Blk wi M 70 (intCells (MM.movB S1 d)) ∧ Blk wi w.heap.size 28 bcs ∧ Fr [] w wi) (fun i _ => l.edges.length + 1 - (intOf i).toNat)
                case atStart => exact ⟨1, by omega, by omega, rfl, HP3.out, HA3.out, HE3.out, HM3.out, HB3.out, HF3.out⟩
                case round =>
                  clear HP3 HA3 HE3 HM3 HB3 HF3
                  obtain ⟨d, hd1, hd2, rfl, hPi, hAi, hEi, hMi, hBi, hFi⟩ := hrel
                  have lB := hBi.lt
                  have x1 := hBi.cell 1
                  rw [HBC.out] at x1
                  simp only [List.getElem?_cons_zero, List.getElem?_cons_succ] at x1
                  have lE := hEi.lt
                  have fE := hEi.frozen
                  have lM := hMi.lt
                  have fM := hMi.frozen
                  by_cases hdl : d ≤ l.edges.length
                  · have hdd : decide ((d : Int) ≤ (l.edges.length : Int)) = true := by simp; omega
                    have hdv : d < S1.devs.length := by rw [HO2.out.dlen]; omega
                    obtain ⟨x, hx⟩ : ∃ x, S1.devs[d]? = some x := ⟨_, List.getElem?_eq_getElem hdv⟩
                    have htd := fun W (h : MirrorAt W L S1) => mTold_any W L S1 h d
                    unfold ToldPost at htd
                    by_cases hx0 : x.tote = 0
                    · obtain ⟨s1, s2⟩ := HO2.out.silent hx hx0
                      rw [MM.told_no hx hx0] at htd
                      have HTD := Lib.hid htd
                      have HS1 := Lib.hid (And.intro s1 s2)
                      clear s1 s2 htd hx hx0 hdv
                      go_wp2_with fail
                      refine (HTD.out _ hPi).mono ?_
                      rintro e w7 ⟨rfl, hf7, _⟩
                      go_wp2_with fail
                      exact ⟨⟨d + 1, by omega, by omega, by go_num, hPi.fr0 hf7, hAi.fr hf7 (by simp), by rw [HS1.out.1]; exact hEi.fr hf7 (by simp), by rw [HS1.out.2]; exact hMi.fr hf7 (by simp), hBi.fr hf7 (by simp), hFi.trans hf7⟩, by simp [intOf]; omega⟩
                    · obtain ⟨t', j, ⟨ev1, ev2⟩, ht', ht1', ht2', hd1', hE, hj, hjn, hwh, hm0, hm1, he0, he1⟩ := HO2.out.speaks HD0.out hx hx0
                      simp only at hj hwh
                      subst hj
                      rw [MM.told_yes hx hx0 hd1, ht'] at htd
                      obtain ⟨q, rfl⟩ : ∃ q, d = q + 1 := ⟨d - 1, by omega⟩
                      simp only [Int.natCast_add, Int.natCast_one] at htd
                      obtain ⟨ade, hAe, hade, f0, f1⟩ := HL.out.edge hE
                      simp only [Nat.add_sub_cancel] at f0 f1
                      have HEC := Lib.hid (fun W (hF : Fr [] w W) => (show W.cell? (ade.add (q * 2)) = some (.int .i64 ev1) ∧ W.cell? ⟨(ade.add (q * 2)).block, (ade.add (q * 2)).off + 1, none⟩ = some (.int .i64 j) ∧ (∀ n, (ade.add n).block < W.heap.size) from
                        ⟨(hF.cell (by rw [block_of_add]; omega) (by simp)).trans f0, (hF.cell (by simp only [block_of_add]; omega) (by simp)).trans f1, fun n => by rw [block_of_add]; have := hF.size; omega⟩))
                      have hW := fun W (h : MirrorAt W L S1) => mWhere_any W L S1 h t'
                      rw [hwh] at hW
                      have HWH := Lib.hid hW
                      have HTD := Lib.hid htd
                      have HMB := Lib.hid hm1
                      have HEB := Lib.hid he1
                      clear hW htd hm1 he1 hx hx0 ht' hwh hE f0 f1 hdv
                      go_wp2_with fail
                      refine (HTD.out _ hPi).mono ?_
                      rintro e w7 ⟨rfl, hf7, _⟩
                      have hP7 := hPi.fr0 hf7
                      have hg7 := hFi.trans hf7
                      have A7 := hAi.fr hf7 (by simp)
                      have E7 := hEi.fr hf7 (by simp)
                      have M7 := hMi.fr hf7 (by simp)
                      have B7 := hBi.fr hf7 (by simp)
                      have x17 := B7.cell 1
                      rw [HBC.out] at x17
                      simp only [List.getElem?_cons_zero, List.getElem?_cons_succ] at x17
                      subst hAe
                      obtain ⟨k0, k1, kcl⟩ := HEC.out _ hg7
                      have cm := M7.cell t'
                      rw [int_get2 hm0] at cm
                      have ce7 := E7.cell j
                      rw [int_get2 he0] at ce7
                      have lB7 := B7.lt
                      have lE7 := E7.lt
                      have fE7 := E7.frozen
                      have lM7 := M7.lt
                      have fM7 := M7.frozen
                      have hne1 : ¬ H = M := by omega
                      have hne2 : ¬ M = H := by omega
                      have hne3 : ¬ w.heap.size = M := by omega
                      have hne4 : ¬ M = w.heap.size := by omega
                      have hne5 : ∀ n, ¬ (ade.add n).block = M := fun n => by rw [block_of_add]; omega
                      have hne6 : ∀ n, ¬ M = (ade.add n).block := fun n => by rw [block_of_add]; omega
                      have i0 : (0 : Int) ≤ (t' : Int) := by omega
                      have i1 : (t' : Int) < 31 := by omega
                      have i2 : decide ((t' : Int) < 1) = false := by simp; omega
                      have i3' : decide ((30 : Int) < (t' : Int)) = false := by simp; omega
                      have hql : q < l.edges.length := by omega
                      have i4 : IntKind.i64.wrap ((q : Int) + 1 - 1) = (q : Int) := by rw [show (q : Int) + 1 - 1 = q by omega]; exact IntWalk.i64_in _ (by omega)
                      have i5 : IntKind.i64.wrap (q : Int) = (q : Int) := IntWalk.i64_in _ (by omega)
                      have i6 : (0 : Int) ≤ (q : Int) := by omega
                      have i7 : (q : Int) < (l.edges.length : Int) := by omega
                      go_wp2_with fail
                      go_quiet ((go_at_call 42; exact quiet_same5 (HWH.out _ (hP7.drewN _))))
                      clear i4 i5
                      go_wp2_with fail
                      have E9 := ((E7.drewN nq).far (p := ⟨M, t', none⟩) hne1 (.int .i64 1)).set_ j (.int .i64 1)
                      rw [int_set2, ← HEB.out] at E9
                      have M9 := ((M7.drewN nq).set_ t' (.int .i64 1)).far (p := ⟨H, j, none⟩) hne2 (.int .i64 1)
                      rw [int_set2, ← HMB.out] at M9
                      have P9 := (hP7.drewN nq).fr (((Fr.refl [M, H] _).setIn (p := ⟨M, t', none⟩) (by simp) (.int .i64 1)).setIn (p := ⟨H, j, none⟩) (by simp) (.int .i64 1)) (by intro i hi; simp only [List.mem_cons, List.not_mem_nil, or_false] at hi; rcases hi with rfl | rfl; exact hLM; exact hH4)
                      exact ⟨⟨q + 1 + 1, by omega, by omega, by go_num, P9, ((A7.drewN nq).far (p := ⟨M, t', none⟩) (by simp only; omega) _).far (p := ⟨H, j, none⟩) hH2 _, E9, M9, ((B7.drewN nq).far (p := ⟨M, t', none⟩) hne3 _).far (p := ⟨H, j, none⟩) hH3 _, ((hg7.drewN nq).setNew (p := ⟨M, t', none⟩) (by simp only; omega) _).setNew (p := ⟨H, j, none⟩) hH1 _⟩, by simp [intOf]; omega⟩
                  · have hdd : decide ((d : Int) ≤ (l.edges.length : Int)) = false := by simp; omega
                    have HE5 := Lib.hid (show Blk wr H 3 (intCells (MM.endsB S1 l.nodes.length S1.devs.length)) from by
                      have h5 : S1.devs.length = d := by rw [HO2.out.dlen]; omega
                      rw [h5]; exact hEi)
                    have HP5 := Lib.hid hPi
                    have HA5 := Lib.hid hAi
                    have HB5 := Lib.hid hBi
                    have HF5 := Lib.hid hFi
                    clear hPi hAi hEi hMi hBi hFi lE fE lM fM
                    go_wp2_with fail
                    go_loopw [165] (fun i wi => ∃ (c : Nat), c ≤ l.nodes.length ∧ i = .int .i64 c ∧ MirrorAt wi L S1 ∧ Blk wi G 77 (boolCells pb1) ∧ Blk wi H 3 (intCells (MM.endsB S1 l.nodes.length S1.devs.length)) ∧ Blk wi w.heap.size 28 bcs ∧ Fr [] w wi) (fun i _ => l.nodes.length - (intOf i).toNat)
                    case atStart => exact ⟨0, Nat.zero_le _, rfl, HP5.out, HA5.out, HE5.out, HB5.out, HF5.out⟩
                    case round =>
                      clear HP5 HA5 HE5 HB5 HF5
                      obtain ⟨c, hc1, rfl, hPi, hAi, hEi, hBi, hFi⟩ := hrel
                      by_cases hcn : c < l.nodes.length
                      · have hcd : decide ((c : Int) < (l.nodes.length : Int)) = true := by simp; omega
                        have hfin := HO2.out.final c hcn
                        have htk := fun W (h : MirrorAt W L S1) => mTaken_any W L S1 h c
                        have ce := hEi.cell c
                        rw [int_get2 hfin] at ce
                        have hcc := fun W (hW : Blk W H 3 (intCells (MM.endsB S1 l.nodes.length S1.devs.length))) => (hW.cell c).trans (int_get2 hfin)
                        have lE := hEi.lt
                        have HEI := Lib.hid hEi
                        have j0 : (0 : Int) ≤ (c : Int) := by omega
                        have j1 : (c : Int) < (l.nodes.length : Int) := by omega
                        cases htt : S1.taken c with
                        | true =>
                          rw [htt] at htk ce hcc
                          have HTK := Lib.hid htk
                          have HCC := Lib.hid hcc
                          replace ce : wr.cell? ⟨H, c, none⟩ = some (.int .i64 1) := ce
                          clear htk hfin htt hEi hcc
                          go_wp2_with fail
                          go_region_held3 (fun w' => w'.cell? ⟨H, c, none⟩ = some (.int .i64 1)) (go_keep) ((go_at_call 40; refine (HTK.out _ hPi.drew).mono ?_; rintro e w7 ⟨rfl, hf7⟩; have q1 : w7.cell? ⟨H, c, none⟩ = some (.int .i64 1) := HCC.out _ ((HEI.out.drew).fr hf7 (by simp))))
                          go_wp2_with fail
                          exact ⟨⟨c + 1, by omega, by go_num, hPi.drew.fr0 hf7, hAi.drew.fr hf7 (by simp), HEI.out.drew.fr hf7 (by simp), hBi.drew.fr hf7 (by simp), hFi.drew.trans hf7⟩, by simp [intOf]; omega⟩
                        | false =>
                          rw [htt] at htk ce hcc
                          have HTK := Lib.hid htk
                          have HCC := Lib.hid hcc
                          replace ce : wr.cell? ⟨H, c, none⟩ = some (.int .i64 0) := ce
                          clear htk hfin htt hEi hcc
                          go_wp2_with fail
                          go_region_held3 (fun w' => w'.cell? ⟨H, c, none⟩ = some (.int .i64 0)) (go_keep) ((go_at_call 40; refine (HTK.out _ hPi.drew).mono ?_; rintro e w7 ⟨rfl, hf7⟩; have q1 : w7.cell? ⟨H, c, none⟩ = some (.int .i64 0) := HCC.out _ ((HEI.out.drew).fr hf7 (by simp))))
                          go_wp2_with fail
                          exact ⟨⟨c + 1, by omega, by go_num, hPi.drew.fr0 hf7, hAi.drew.fr hf7 (by simp), HEI.out.drew.fr hf7 (by simp), hBi.drew.fr hf7 (by simp), hFi.drew.trans hf7⟩, by simp [intOf]; omega⟩
                      · have hcd : decide ((c : Int) < (l.nodes.length : Int)) = false := by simp; omega
                        go_wp2_with fail
                        exact ⟨⟨k + 1, S1, pb1, by omega, by omega, by go_num, hPi, HO2.out, hAi, hBi, hFi⟩, by simp [intOf]; omega⟩
        · have fin0 : (¬ k < ops.length) ∨ (k < ops.length ∧ decide ((k : Int) < 120) = false) := by simp; omega
          clear hlt
          rcases fin0 with h100 | ⟨hlt1, h100⟩
          all_goals
            go_wp2_with fail
            go_ret
            exact ⟨rfl, hgr⟩
end Go.Proofs.Ytncggholhmgoaaa
