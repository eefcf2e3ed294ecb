/- stillagelaw20.PlantAsks: the walk. -/
import Derived.Test.YtncggholhmgoaaaPlantScript
import Derived.Test.YtncggholhmgoaaaPlantPlain3
import Derived.Test.YtncggholhmgoaaaStoreAt
namespace Go.Proofs.Ytncggholhmgoaaa
set_option linter.unusedVariables false
set_option linter.unusedSimpArgs false
open Go.RowKit

theorem quiet_same {P : Program} {f : FuncId} {args : Array Value} {w : World} {n : Nat} {v : Value}
    (h : Calls P f args (w.drewN n) fun e w' => e = .returned v ∧ w' = w.drewN n) :
    Calls P f args (w.drewN n) fun e w'' => e = .returned v ∧ ∃ m, w'' = w.drewN m :=
  h.mono fun _ _ ⟨he, hm⟩ => ⟨he, n, hm⟩

def tlCells (l : List Tl) : List Value := l.flatMap Tl.cells
theorem info39 : (Try.prog.info? 39).map (fun i => (i.zero, i.size, i.bytes)) = some (some (.agg #[.int .u8 0, .int .u16 0, .int .u16 0, .int .u16 0, .int .u16 0]), 5, 10) := by kernel_rfl
theorem made39 (n : Nat) : (madeCells #[.int .u8 0, .int .u16 0, .int .u16 0, .int .u16 0, .int .u16 0] (n * 5)).toList = tlCells (List.replicate n Tl.zero) := by
  have h1 := made_flat #[Value.int .u8 0, .int .u16 0, .int .u16 0, .int .u16 0, .int .u16 0] n (by simp)
  rw [show n * 5 = n * (#[Value.int .u8 0, .int .u16 0, .int .u16 0, .int .u16 0, .int .u16 0] : Array Value).size from rfl, h1]
  clear h1
  induction n with
  | zero => rfl
  | succ n ih =>
    rw [List.replicate_succ, List.flatten_cons, ih, List.replicate_succ]
    rfl
theorem tl_get (l : List Tl) (i j : Nat) (t : Tl) (ht : l[i]? = some t) (hj : j < 5) : (tlCells l)[i * 5 + j]? = t.cells[j]? := by
  induction l generalizing i with
  | nil => simp at ht
  | cons y l ih =>
    have hlen : ∀ y : Tl, y.cells.length = 5 := fun _ => rfl
    cases i with
    | zero =>
      simp only [List.getElem?_cons_zero, Option.some.injEq] at ht
      subst ht
      rw [tlCells, List.flatMap_cons, Nat.zero_mul, Nat.zero_add, List.getElem?_append_left (by rw [hlen]; exact hj)]
    | succ i =>
      have := ih i (by simpa using ht)
      rw [tlCells, List.flatMap_cons, List.getElem?_append_right (by rw [hlen]; omega), hlen, show (i + 1) * 5 + j - 5 = i * 5 + j by omega]
      exact this

theorem tl_len (l : List Tl) : (tlCells l).length = l.length * 5 := by
  induction l with
  | nil => rfl
  | cons y l ih =>
    have hlen : y.cells.length = 5 := rfl
    rw [tlCells, List.flatMap_cons, List.length_append, hlen, ← tlCells, ih, List.length_cons]; omega
theorem tl_set (l : List Tl) (i : Nat) (t : Tl) (h : i < l.length) : (tlCells l).take (i * 5) ++ t.cells ++ (tlCells l).drop (i * 5 + t.cells.length) = tlCells (l.set i t) := by
  have hlen : ∀ y : Tl, y.cells.length = 5 := fun _ => rfl
  rw [hlen]
  induction l generalizing i with
  | nil => simp at h
  | cons y l ih =>
    cases i with
    | zero =>
      rw [List.set_cons_zero, tlCells, tlCells, List.flatMap_cons, List.flatMap_cons, Nat.zero_mul, List.take_zero, List.nil_append, Nat.zero_add, List.drop_append, hlen]
      rw [List.drop_eq_nil_of_le (by rw [hlen]; omega)]
      simp
    | succ i =>
      have := ih i (by simpa using h)
      rw [List.set_cons_succ]
      simp only [tlCells, List.flatMap_cons] at this ⊢
      rw [show (i + 1) * 5 = 5 + i * 5 by omega, List.take_append, List.drop_append, hlen, List.take_of_length_le (by rw [hlen]; omega), List.drop_eq_nil_of_le (by rw [hlen]; omega),
        show 5 + i * 5 - 5 = i * 5 by omega, show 5 + i * 5 + 5 - 5 = i * 5 + 5 by omega, List.nil_append, List.append_assoc, List.append_assoc, ← List.append_assoc (List.take _ _), this]

set_option maxHeartbeats 8000000 in
set_option maxRecDepth 100000 in
theorem asks_any (w : World) (B : Nat) (An Ae As : Option Addr) (cn ce cs : Nat) (l : Lay) (ops : List POp) (hL : LayAt w B An Ae l) (hS : ScriptAt w B As ops) (hce : Ae = none → ce = 0) :
    Calls Try.prog 6 #[.agg #[.slice An l.nodes.length cn, .slice Ae l.edges.length ce], .slice As ops.length cs] w fun e w' => e = .returned (.bool true) ∧ Fr [] w w' := by
  have ln := hL.ln
  have le := hL.le
  have ls := hS.ln
  have hBw := hL.hB
  have hb0 := Blk.new w 28 [.slice An l.nodes.length cn, .slice Ae l.edges.length ce]
  have Hce := Lib.hid hce
  clear hce
  go_enter Try.func6, Try.ntmps6
  go_wp2_with fail
  refine (awake_any _).mono ?_
  rintro e w1 ⟨rfl, hf1⟩
  have b1 := hb0.fr hf1 (by simp)
  have y0 := b1.cell 0
  have y1 := b1.cell 1
  simp only [List.getElem?_cons_zero, List.getElem?_cons_succ] at y0 y1
  go_wp2_with fail
  refine (few_any _ _ _ _ _ _ _ ln le).mono ?_
  rintro e w2 ⟨rfl, hf2⟩
  have b2 := b1.fr hf2 (by simp)
  have z0 := b2.cell 0
  have z1 := b2.cell 1
  simp only [List.getElem?_cons_zero, List.getElem?_cons_succ] at z0 z1
  have g2 := (((Fr.refl [] w).alloc (.cells #[.slice An l.nodes.length cn, .slice Ae l.edges.length ce] 28)).trans hf1).trans hf2
  cases hfew : (decide (l.nodes.length ≤ 60) && decide (l.edges.length ≤ 200)) with
  | false =>
    go_wp2_with (go_at_call 16; refine (awake_any _).mono ?_; rintro e w3 ⟨rfl, hf3⟩)
    go_ret
    exact ⟨rfl, g2.trans hf3⟩
  | true =>
    have le2 : l.edges.length ≤ 200 := by simp only [Bool.and_eq_true, decide_eq_true_eq] at hfew; exact hfew.2
    go_wp2_with fail
    refine (new_any _ B An Ae cn ce l (hL.fr g2) Hce.out).mono ?_
    rintro e w3 (⟨hk, rfl, hf3⟩ | ⟨hk, L, rfl, hP, hf3, hlo, hhi⟩)
    · go_wp2_with fail
      go_ret
      exact ⟨rfl, g2.trans hf3⟩
    · have hg3 := g2.trans hf3
      have b3 := b2.fr hf3 (by simp)
      have x1 := b3.cell 1
      simp only [List.getElem?_cons_zero, List.getElem?_cons_succ] at x1
      have hS3 := hS.frS hg3 (by simp)
      have hown := hP.own_ge
      rw [hlo] at hown
      have hsz2 := g2.size
      have HOWN := Lib.hid (show ∀ k, k ∈ L.own → k ∈ ([] : List Nat) ∨ w.heap.size ≤ k from fun k hk => .inr (Nat.le_trans hsz2 (hown k hk)))
      have HOWN2 := Lib.hid (show ∀ k, k ∈ L.own → k ≠ w.heap.size from fun k hk => by have := hown k hk; have := b2.lt; omega)
      have HHI := Lib.hid hhi
      clear hown hlo hhi hf3 z0 z1 y0 y1 b1 b2 hb0 hf1 hf2
      obtain ⟨i9, hi9, hz9, hs9, hb9⟩ := info_parts info39
      have hmk := fun W => run_make_rowN (P := Try.prog) 54 39 i9 _ Try.underlying54 hi9 hz9 .i64 .i64 (l.edges.length + 1) (l.edges.length + 1) (Nat.le_refl _) (by rw [hb9]; omega) (by omega) W
      simp only [Int.natCast_add, Int.natCast_one] at hmk
      rw [hs9] at hmk
      have hT0 := Blk.new w3 39 (madeCells #[.int .u8 0, .int .u16 0, .int .u16 0, .int .u16 0, .int .u16 0] ((l.edges.length + 1) * 5)).toList
      simp only [made39] at hT0
      rw [← made39] at hT0
      simp only [Array.toArray_toList] at hT0
      rw [made39] at hT0
      have hgL : w3.heap.size ∉ L.own := hP.fresh (Nat.le_refl _)
      have hgB : w3.heap.size ≠ w.heap.size := by have := b3.lt; omega
      go_wp2_with fail
      have hi9' := Lib.hid (show (Try.prog.info? 39).map (·.size) = some 5 by rw [hi9]; simp [hs9])
      clear hmk hi9 hz9 hs9 hb9
      have HS := Lib.hid hS
      have HP := Lib.hid (hP.alloc (.cells (madeCells #[.int .u8 0, .int .u16 0, .int .u16 0, .int .u16 0, .int .u16 0] ((l.edges.length + 1) * 5)) 39))
      have HT0 := Lib.hid hT0
      have HB0 := Lib.hid (b3.alloc (.cells (madeCells #[.int .u8 0, .int .u16 0, .int .u16 0, .int .u16 0, .int .u16 0] ((l.edges.length + 1) * 5)) 39))
      have HG0 := Lib.hid (hg3.alloc (.cells (madeCells #[.int .u8 0, .int .u16 0, .int .u16 0, .int .u16 0, .int .u16 0] ((l.edges.length + 1) * 5)) 39))
      have HGL := Lib.hid hgL
      have HGB := Lib.hid hgB
      have hgw : w.heap.size ≤ w3.heap.size := hg3.size
      clear hS hS3 hL hk hP hg3 hfew hT0 b3 x1 hgL hgB
      generalize hG : w3.heap.size = G at *
      go_loopw [8] (fun i wr => ∃ (k : Nat) (S : PM) (lst : List Tl), k ≤ ops.length ∧ k ≤ 100 ∧ i = .int .i64 k ∧ PlantAt wr L S ∧ PM.Lasts S lst l.edges.length k ∧ Blk wr G 39 (tlCells lst) ∧
        Blk wr w.heap.size 28 [.slice An l.nodes.length cn, .slice Ae l.edges.length ce] ∧ Fr [] w wr) (fun i _ => ops.length - (intOf i).toNat)
      case atStart => exact ⟨0, _, _, Nat.zero_le _, by omega, rfl, HP.out, PM.Lasts.init l, HT0.out, HB0.out, HG0.out⟩
      case round =>
        clear HP HT0 HB0 HG0 hG
        obtain ⟨k, S, lst, hk, hk2, rfl, hPr, hLr, hTr, hBr, hgr⟩ := hrel
        by_cases hlt : k < ops.length ∧ k < 100
        · obtain ⟨hlt, hlt2⟩ := hlt
          have hk100 : decide ((k : Int) < 100) = true := by simp; omega
          obtain ⟨o, ho⟩ : ∃ o, ops[k]? = some o := ⟨_, List.getElem?_eq_getElem hlt⟩
          have hSr := HS.out.frS hgr (by simp)
          obtain ⟨ad, hAs, hadb, c0, c1, c2, c3, c4, c5, c6, c7⟩ := hSr.op ho
          have ht := hSr.tele o (List.mem_of_getElem? ho)
          subst hAs
          obtain ⟨kd, oa, ob, tk, td, ts, ta, tb⟩ := o
          simp only at c0 c1 c2 c3 c4 c5 c6 c7 ht
          have HT := Lib.hid ht
          have td1 : 0 ≤ td ∧ td ≤ 65535 := ht.2.1
          obtain ⟨td1, td2⟩ := td1
          have hcl : ∀ n, (ad.add n).block < wr.heap.size := fun n => by have := hSr.hB; rw [block_of_add]; omega
          have HM := Lib.hid (And.intro hLr.m0 hLr.m1)
          have HL := Lib.hid hLr
          have HT := Lib.hid ht
          have HTr := Lib.hid hTr
          have HBr := Lib.hid hBr
          clear ho ht hSr hLr hTr hBr
          rcases (show kd = 1 ∨ kd = 3 ∨ kd = 4 ∨ kd = 2 ∨ (kd ≠ 1 ∧ kd ≠ 2 ∧ kd ≠ 3 ∧ kd ≠ 4) from by omega) with k1 | k1 | k1 | k1 | k1
          case' inl =>
            subst k1
            go_wp2_with fail
            refine (put_any _ L S (hPr.alloc _) _ _).mono ?_
            rintro e wq ⟨rfl, hP4, hf4⟩
            go_wp2_with fail
            obtain ⟨S1, lst1, hPq, hLq, hTq, hBq, hFq⟩ : ∃ S1 lst1, PlantAt wq L S1 ∧ PM.Lasts S1 lst1 l.edges.length (k + 1) ∧ Blk wq G 39 (tlCells lst1) ∧
              Blk wq w.heap.size 28 [.slice An l.nodes.length cn, .slice Ae l.edges.length ce] ∧ Fr [] w wq :=
              ⟨_, _, hP4, HL.out.put oa ob, (HTr.out.alloc _).fr hf4 HGL.out, (HBr.out.alloc _).fr hf4 (fun h => HOWN2.out _ h rfl), (hgr.alloc _).trans' hf4 HOWN.out⟩
            clear hP4 hf4
          case' inr.inl =>
            subst k1
            go_wp2_with fail
            refine (break_any _ L S (hPr.alloc _) _).mono ?_
            rintro e wq ⟨rfl, hP4, hf4⟩
            go_wp2_with fail
            obtain ⟨S1, lst1, hPq, hLq, hTq, hBq, hFq⟩ : ∃ S1 lst1, PlantAt wq L S1 ∧ PM.Lasts S1 lst1 l.edges.length (k + 1) ∧ Blk wq G 39 (tlCells lst1) ∧
              Blk wq w.heap.size 28 [.slice An l.nodes.length cn, .slice Ae l.edges.length ce] ∧ Fr [] w wq :=
              ⟨_, _, hP4, HL.out.fault oa true, (HTr.out.alloc _).fr hf4 HGL.out, (HBr.out.alloc _).fr hf4 (fun h => HOWN2.out _ h rfl), (hgr.alloc _).trans' hf4 HOWN.out⟩
            clear hP4 hf4
          case' inr.inr.inl =>
            subst k1
            go_wp2_with fail
            refine (mend_any _ L S (hPr.alloc _) _).mono ?_
            rintro e wq ⟨rfl, hP4, hf4⟩
            go_wp2_with fail
            obtain ⟨S1, lst1, hPq, hLq, hTq, hBq, hFq⟩ : ∃ S1 lst1, PlantAt wq L S1 ∧ PM.Lasts S1 lst1 l.edges.length (k + 1) ∧ Blk wq G 39 (tlCells lst1) ∧
              Blk wq w.heap.size 28 [.slice An l.nodes.length cn, .slice Ae l.edges.length ce] ∧ Fr [] w wq :=
              ⟨_, _, hP4, HL.out.fault oa false, (HTr.out.alloc _).fr hf4 HGL.out, (HBr.out.alloc _).fr hf4 (fun h => HOWN2.out _ h rfl), (hgr.alloc _).trans' hf4 HOWN.out⟩
            clear hP4 hf4
          case' inr.inr.inr.inr =>
            obtain ⟨k1, k2, k3, k4⟩ := k1
            have q1 : (kd == 1) = false := by simp [k1]
            have q2 : (kd == 2) = false := by simp [k2]
            have q3 : (kd == 3) = false := by simp [k3]
            have q4 : (kd == 4) = false := by simp [k4]
            clear k1 k2 k3 k4
            go_wp2_with fail
            generalize hwq : wr.alloc (.cells #[.int .i64 kd, .int .i64 oa, .int .i64 ob, .int .u8 tk, .int .u16 td, .int .u16 ts, .int .u16 ta, .int .u16 tb] 48) = wq
            obtain ⟨S1, lst1, hPq, hLq, hTq, hBq, hFq⟩ : ∃ S1 lst1, PlantAt wq L S1 ∧ PM.Lasts S1 lst1 l.edges.length (k + 1) ∧ Blk wq G 39 (tlCells lst1) ∧
              Blk wq w.heap.size 28 [.slice An l.nodes.length cn, .slice Ae l.edges.length ce] ∧ Fr [] w wq := by
              subst hwq
              exact ⟨_, _, hPr.alloc _, HL.out.mono, HTr.out.alloc _, HBr.out.alloc _, hgr.alloc _⟩
            clear hwq q1 q2 q3 q4
          case' inr.inr.inr.inl =>
            subst k1
            have hc1 := fun W (h : PlantAt W L S) => hear_any W L S h HM.out.1 (by have := HM.out.2; omega) ⟨tk, td, ts, ta, tb⟩ HT.out
            unfold HearPost at hc1
            go_wp2_with fail
            refine (moves_any _ L S (hPr.alloc _)).mono ?_
            rintro e w5 ⟨rfl, rfl⟩
            have hcs := HL.out.hear ⟨tk, td, ts, ta, tb⟩ td1
            generalize hr : S.hear ⟨tk, td, ts, ta, tb⟩ = r at hc1 hcs
            obtain ⟨S', ⟨rk, rd, rs, ra, rb⟩, ok⟩ := r
            simp only [Tl.cells] at hc1 hcs
            have HC1 := Lib.hid hc1
            clear hc1 hr
            rcases hcs with ⟨rfl, _⟩ | ⟨hmv, hdn, hlt3, hLn⟩
            case' inl =>
              go_wp2_with fail
              refine (HC1.out _ (hPr.alloc _)).mono ?_
              rintro e w5 ⟨rfl, hP5, hf5⟩
              go_wp2_with fail
              refine (moves_any _ L S' (hP5.alloc _)).mono ?_
              rintro e w6 ⟨rfl, rfl⟩
              have hno : ¬ S'.moves < S'.moves := by omega
              go_wp2_with fail
              generalize hwq : w5.alloc (.cells #[.int .u8 rk, .int .u16 rd, .int .u16 rs, .int .u16 ra, .int .u16 rb] 39) = wq
              obtain ⟨S1, lst1, hPq, hLq, hTq, hBq, hFq⟩ : ∃ S1 lst1, PlantAt wq L S1 ∧ PM.Lasts S1 lst1 l.edges.length (k + 1) ∧ Blk wq G 39 (tlCells lst1) ∧
                Blk wq w.heap.size 28 [.slice An l.nodes.length cn, .slice Ae l.edges.length ce] ∧ Fr [] w wq := by
                subst hwq
                exact ⟨_, _, hP5.alloc _, HL.out.mono, ((HTr.out.alloc _).fr hf5 HGL.out).alloc _, ((HBr.out.alloc _).fr hf5 (fun h => HOWN2.out _ h rfl)).alloc _, ((hgr.alloc _).trans' hf5 HOWN.out).alloc _⟩
              clear hwq hP5 hf5
            case' inr =>
              simp only [PM.done, Prod.mk.injEq, Tl.mk.injEq] at hdn hLn
              obtain ⟨⟨rfl, rfl, rfl, rfl, rfl⟩, rfl⟩ := hdn
              have hgt : S.moves < S'.moves := by omega
              obtain ⟨tn, rfl⟩ := Int.eq_ofNat_of_zero_le td1
              simp only [Int.toNat_natCast] at hlt3 hLn
              have hge : ¬ ((l.edges.length : Int) + 1 ≤ (tn : Int)) := by omega
              have HLn := Lib.hid hLn
              clear hmv hLn
              go_wp2_with fail
              refine (HC1.out _ (hPr.alloc _)).mono ?_
              rintro e w5 ⟨rfl, hP5, hf5⟩
              have hT5 := ((HTr.out.alloc (.cells #[.int .i64 2, .int .i64 oa, .int .i64 ob, .int .u8 tk, .int .u16 tn, .int .u16 rs, .int .u16 ra, .int .u16 tb] 48)).fr hf5 HGL.out)
              have hT6 := hT5.alloc (.cells #[.int .u8 2, .int .u16 tn, .int .u16 rs, .int .u16 ra, .int .u16 0] 39)
              have hll := HL.out.llen
              have hfit : tn * 5 + (Tl.cells ⟨2, tn, rs, ra, 0⟩).length ≤ (tlCells lst).length := by rw [tl_len, hll]; simp [Tl.cells]; omega
              have HFIT := Lib.hid hfit
              have HSET := Lib.hid (tl_set lst tn ⟨2, tn, rs, ra, 0⟩ (by omega))
              have H39 := Lib.hid (show (Try.prog.info? 39).map (·.size) = some (Tl.cells ⟨2, tn, rs, ra, 0⟩).length from hi9'.out)
              clear hfit hll
              have HT6 := Lib.hid hT6
              clear hT6
              have lG5 := hT5.lt
              have HT5 := Lib.hid hT5
              clear hT5
              go_wp2_with fail
              refine (moves_any _ L S' (hP5.alloc _)).mono ?_
              rintro e w6 ⟨rfl, rfl⟩
              go_wp2_with (refine wpList_store_at rfl 39 (.tmp 94) (.tmp 93) rfl G (tn * 5) (Tl.cells ⟨2, tn, rs, ra, 0⟩) rfl rfl 39 (tlCells lst) HT6.out H39.out HFIT.out ?_ ?_; (case refine_1 => intro u hu; simp only [Tl.cells, List.mem_cons, List.not_mem_nil, or_false] at hu; rcases hu with rfl | rfl | rfl | rfl | rfl <;> rfl); intro wq hT7 hF7)
              rw [HSET.out] at hT7
              obtain ⟨S1, lst1, hPq, hLq, hTq, hBq, hFq⟩ : ∃ S1 lst1, PlantAt wq L S1 ∧ PM.Lasts S1 lst1 l.edges.length (k + 1) ∧ Blk wq G 39 (tlCells lst1) ∧
                Blk wq w.heap.size 28 [.slice An l.nodes.length cn, .slice Ae l.edges.length ce] ∧ Fr [] w wq := by
                refine ⟨_, _, (hP5.alloc _).fr hF7 ?_, HLn.out, hT7, (((HBr.out.alloc _).fr hf5 (fun h => HOWN2.out _ h rfl)).alloc _).fr hF7 ?_, (((hgr.alloc _).trans' hf5 HOWN.out).alloc _).trans' hF7 ?_⟩
                · intro i hi; simp only [List.mem_cons, List.not_mem_nil, or_false] at hi; rw [hi]; exact HHI.out
                · simp only [List.mem_cons, List.not_mem_nil, or_false]; exact fun h => HGB.out h.symm
                · intro i hi; simp only [List.mem_cons, List.not_mem_nil, or_false] at hi; rw [hi]; exact .inr hgw
              clear hP5 hf5 hT7 hF7 HLn HSET H39 HFIT HT6 HT5 lG5
          all_goals
            clear hcl c0 c1 c2 c3 c4 c5 c6 c7
            have HLq := Lib.hid hLq
            have HPq := Lib.hid hPq
            have HTq := Lib.hid hTq
            have HBq := Lib.hid hBq
            have HFq := Lib.hid hFq
            clear hLq hPq hTq hBq hFq
            go_loopw [13] (fun i wi => ∃ (d : Nat), 1 ≤ d ∧ d ≤ l.edges.length + 1 ∧ i = .int .i64 d ∧ PlantAt wi L S1 ∧ Blk wi G 39 (tlCells lst1) ∧
              Blk wi w.heap.size 28 [.slice An l.nodes.length cn, .slice Ae l.edges.length ce] ∧ Fr [] w wi) (fun i _ => l.edges.length + 1 - (intOf i).toNat)
            case atStart => exact ⟨1, by omega, by omega, rfl, HPq.out, HTq.out, HBq.out, HFq.out⟩
            case round =>
              obtain ⟨d, hd1, hd2, rfl, hPi, hTi, hBi, hFi⟩ := hrel
              have x1 := hBi.cell 1
              have lx := hBi.lt
              simp only [List.getElem?_cons_zero, List.getElem?_cons_succ] at x1
              by_cases hdn : d ≤ l.edges.length
              · obtain ⟨t, htl, hask⟩ := HLq.out.ask d k hd1 hdn
                have hc1 := fun W (h : PlantAt W L S1) => hear_any W L S1 h HLq.out.m0 (by have := HLq.out.m1; omega) ⟨6, d, k, 0, 0⟩ ⟨⟨by simp, by simp⟩, ⟨by simp only; omega, by simp only; omega⟩, ⟨by simp only; omega, by simp only; omega⟩, ⟨by simp, by simp⟩, ⟨by simp, by simp⟩⟩
                have hc3 := fun W (h : PlantAt W L S1) => works_any W L S1 h d
                unfold HearPost at hc1
                rw [hask] at hc1
                have s2 := tl_get lst1 d 2 t htl (by omega)
                have s3 := tl_get lst1 d 3 t htl (by omega)
                simp only [Tl.cells, List.getElem?_cons_zero, List.getElem?_cons_succ] at s2 s3
                have hd3 : d ≤ 200 := by omega
                cases hw : S1.works d with
                | true =>
                  rw [hw] at hc1 hc3
                  simp only [if_true, Tl.cells] at hc1
                  have HC1 := Lib.hid hc1
                  have HC3 := Lib.hid hc3
                  clear hc1 hc3 hask hw htl
                  go_wp2_with fail
                  refine (moves_any _ L S1 hPi).mono ?_
                  rintro e w5 ⟨rfl, rfl⟩
                  go_wp2_with fail
                  refine (HC1.out _ hPi).mono ?_
                  rintro e w5 ⟨rfl, hP5, hf5⟩
                  have TB := Blk.new w5 39 [.int .u8 7, .int .u16 d, .int .u16 k, .int .u16 t.seq, .int .u16 t.a]
                  have hT5 := hTi.fr hf5 HGL.out
                  have hT6 := hT5.alloc (.cells #[.int .u8 7, .int .u16 d, .int .u16 k, .int .u16 t.seq, .int .u16 t.a] 39)
                  have t0 := TB.cell 0
                  have t1 := TB.cell 1
                  have t2 := TB.cell 2
                  have t3 := TB.cell 3
                  have t4 := TB.cell 4
                  have lG := hT6.lt
                  have lG5 := hT5.lt
                  have r2 := hT5.cell (d * 5 + 2)
                  have r3 := hT5.cell (d * 5 + 3)
                  rw [s2] at r2
                  rw [s3] at r3
                  simp only [List.getElem?_cons_zero, List.getElem?_cons_succ] at t0 t1 t2 t3 t4
                  clear s2 s3
                  have hP6 := hP5.alloc
                  go_wp2_with fail
                  go_quiet ((first | (go_at_call 21; exact quiet_same (moves_any _ L S1 ((hP6 _).drewN _))) | (go_at_call 23; exact quiet_same (HC3.out _ ((hP6 _).drewN _)))))
                  clear hP6
                  go_wp2_with fail
                  exact ⟨⟨d + 1, by omega, by omega, by go_num, (hP5.alloc _).drewN _, hT6.drewN _, ((hBi.fr hf5 (fun h => HOWN2.out _ h rfl)).alloc _).drewN _, ((hFi.trans' hf5 HOWN.out).alloc _).drewN _⟩, by simp [intOf]; omega⟩
                | false =>
                  rw [hw] at hc1 hc3
                  simp only [Bool.false_eq_true, if_false, Tl.cells, Tl.zero] at hc1
                  have HC1 := Lib.hid hc1
                  have HC3 := Lib.hid hc3
                  clear hc1 hc3 hask hw htl s2 s3
                  go_wp2_with fail
                  refine (moves_any _ L S1 hPi).mono ?_
                  rintro e w5 ⟨rfl, rfl⟩
                  go_wp2_with fail
                  refine (HC1.out _ hPi).mono ?_
                  rintro e w5 ⟨rfl, hP5, hf5⟩
                  have hT5 := hTi.fr hf5 HGL.out
                  have hP6 := hP5.alloc
                  go_wp2_with fail
                  go_quiet ((first | (go_at_call 21; exact quiet_same (moves_any _ L S1 ((hP6 _).drewN _))) | (go_at_call 23; exact quiet_same (HC3.out _ ((hP6 _).drewN _)))))
                  clear hP6
                  go_wp2_with fail
                  exact ⟨⟨d + 1, by omega, by omega, by go_num, (hP5.alloc _).drewN _, (hT5.alloc _).drewN _, ((hBi.fr hf5 (fun h => HOWN2.out _ h rfl)).alloc _).drewN _, ((hFi.trans' hf5 HOWN.out).alloc _).drewN _⟩, by simp [intOf]; omega⟩
              · go_wp2_with fail
                exact ⟨⟨k + 1, _, _, by omega, by omega, by go_num, hPi, HLq.out, hTi, hBi, hFi⟩, by simp [intOf]; omega⟩
        · have fin0 : ¬ k < ops.length ∨ (k < ops.length ∧ ¬ (k : Int) < 100) := by omega
          clear hlt
          rcases fin0 with h100 | ⟨hlt1, h100⟩
          all_goals
            go_wp2_with fail
            go_ret
            exact ⟨rfl, hgr⟩
end Go.Proofs.Ytncggholhmgoaaa
