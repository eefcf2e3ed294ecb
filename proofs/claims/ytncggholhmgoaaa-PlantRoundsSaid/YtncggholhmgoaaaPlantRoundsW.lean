/- stillagelaw20.PlantRounds: the walk. -/
import Derived.Test.YtncggholhmgoaaaPlantScript
import Derived.Test.YtncggholhmgoaaaRingPlain
import Derived.Laws.IdiomStrings
import Derived.Deep.RegionLaw
namespace Go.Proofs.Ytncggholhmgoaaa
set_option linter.unusedVariables false
set_option linter.unusedSimpArgs false
open Go.RowKit

theorem quiet_same2 {P : Program} {f : FuncId} {args : Array Value} {w : World} {n : Nat} {v : Value}
    (h : Calls P f args (w.drewN n) fun e w' => e = .returned v ∧ w' = w.drewN n) :
    Calls P f args (w.drewN n) fun e w'' => e = .returned v ∧ ∃ m, w'' = w.drewN m :=
  h.mono fun _ _ ⟨he, hm⟩ => ⟨he, n, hm⟩

theorem u16_of {n : Int} (h : (Lit.int .u16 n).wf = true) : 0 ≤ n ∧ n ≤ 65535 := by
  simp [Lit.wf, IntKind.signed, IntKind.bits, IntKind.min, IntKind.max] at h
  omega
theorem n_of (n : Int) : ∃ N : Nat, 2 ≤ N ∧ N ≤ 7 ∧ wrap64 (wrap64 ((IntKind.u64.wrap n).tmod 6) + 2) = (N : Int) := by
  have hu : 0 ≤ IntKind.u64.wrap n := by
    simp [IntKind.wrap, IntKind.signed, IntKind.bits]; omega
  have h2 := Int.tmod_nonneg (6 : Int) hu
  have h3 := Int.tmod_lt_of_pos (IntKind.u64.wrap n) (show (0 : Int) < 6 by omega)
  generalize (IntKind.u64.wrap n).tmod 6 = r at *
  refine ⟨r.toNat + 2, by omega, by omega, ?_⟩
  have e1 : wrap64 r = r := by simp [wrap64, IntKind.wrap, IntKind.signed, IntKind.bits]; omega
  have e2 : wrap64 (r + 2) = r + 2 := by simp [wrap64, IntKind.wrap, IntKind.signed, IntKind.bits]; omega
  rw [e1, e2]; omega
theorem steps_of (n : Int) : ∃ N : Nat, N < 60 ∧ wrap64 ((IntKind.u64.wrap n).tmod 60) = (N : Int) := by
  have hu : 0 ≤ IntKind.u64.wrap n := by
    simp [IntKind.wrap, IntKind.signed, IntKind.bits]; omega
  have h2 := Int.tmod_nonneg (60 : Int) hu
  have h3 := Int.tmod_lt_of_pos (IntKind.u64.wrap n) (show (0 : Int) < 60 by omega)
  generalize (IntKind.u64.wrap n).tmod 60 = r at *
  refine ⟨r.toNat, by omega, ?_⟩
  have e1 : wrap64 r = r := by simp [wrap64, IntKind.wrap, IntKind.signed, IntKind.bits]; omega
  rw [e1]; omega

theorem info31 : (Try.prog.info? 31).map (fun i => (i.zero, i.size, i.bytes)) = some (some (.agg #[.string ⟨#[]⟩, .int .i64 0, .int .i64 0]), 3, 32) := by kernel_rfl

theorem ndCells_snoc (l : List Nd) (x : Nd) : ndCells (l ++ [x]) = ndCells l ++ x.cells := by simp [ndCells]
theorem edCells_snoc (l : List (Int × Int)) (x : Int × Int) : edCells (l ++ [x]) = edCells l ++ [.int .i64 x.1, .int .i64 x.2] := by simp [edCells]

/-- The layout under way: i nodes, j edges. -/
structure Rings (w wr : World) (G : Nat) (vN vE : Value) (N i j : Nat) : Prop where
  blk : Blk wr G 28 [vN, vE]
  nodes : wr.ownsRow (G + 1) 31 3 vN i (ndCells (ringNodes i))
  edges : wr.ownsRow (G + 1) 32 2 vE j (edCells (ringEdges N j))
  apart : ∀ g, vN.ownBlock = some g → vE.ownBlock ≠ some g
  fr : Fr [] w wr
  ge : w.heap.size ≤ G

theorem Rings.addNode {w wr wa w2 : World} {G N k j : Nat} {vN vE v' : Value} (h : Rings w wr G vN vE N k j) (ha : Fr [] wr wa) (hg : wa.grownBy w2 vN.ownBlock) (hat : v'.ownBlock = vN.ownBlock ∨ v'.ownBlock = some wa.heap.size)
    (ho : w2.ownsRow (G + 1) 31 3 v' (k + 1) (ndCells (ringNodes k) ++ [.string ((⟨#[110]⟩ : ByteArray) ++ ⟨#[ringByte k]⟩), .int .i64 1, .int .i64 0])) :
    Rings w (w2.setCell ⟨G, 0, none⟩ v') G v' vE N (k + 1) j := by
  have hNG : ∀ g, vN.ownBlock = some g → G + 1 ≤ g ∧ g < wr.heap.size := fun g hg => own_lt h.nodes hg
  have hEG : ∀ g, vE.ownBlock = some g → G + 1 ≤ g ∧ g < wr.heap.size := fun g hg => own_lt h.edges hg
  have hF : Fr (G :: vN.ownBlock.toList) wr (w2.setCell ⟨G, 0, none⟩ v') :=
    ((ha.of_nil _).grown hg (fun i hi => .inl (by rw [hi]; simp))).setIn (by simp) v'
  have hF2 : Fr vN.ownBlock.toList wr w2 := (ha.of_nil _).grown hg (fun i hi => .inl (by rw [hi]; simp))
  refine ⟨?_, ?_, ?_, ?_, ?_, h.ge⟩
  · exact (h.blk.fr hF2 (by intro hm; simp [Option.mem_toList] at hm; have := hNG _ hm; omega)).set_ 0 v'
  · rw [ringNodes_succ, ndCells_snoc]
    rw [ringName_app] at ho
    refine own_fr ho ((Fr.refl [G] w2).setIn (by simp) v') ?_
    intro g hv hm
    simp at hm; subst hm
    have := own_lt ho hv
    omega
  · refine own_fr h.edges hF ?_
    intro g hv hm
    simp only [List.mem_cons, Option.mem_toList] at hm
    rcases hm with rfl | hm
    · have := hEG _ hv; omega
    · exact h.apart g hm hv
  · intro g hv he
    rcases hat with h1 | h1
    · exact h.apart g (h1 ▸ hv) he
    · rw [h1] at hv
      simp at hv
      have := hEG _ he
      have := ha.size
      omega
  · refine h.fr.trans' hF ?_
    intro i hi
    simp only [List.mem_cons, Option.mem_toList] at hi
    have := h.ge
    rcases hi with rfl | hi
    · right; exact h.ge
    · right; have := hNG _ hi; omega

theorem Rings.addEdge {w wr wa w2 : World} {G N i k : Nat} {vN vE v' : Value} (h : Rings w wr G vN vE N i k) (ha : Fr [] wr wa) (hg : wa.grownBy w2 vE.ownBlock) (hat : v'.ownBlock = vE.ownBlock ∨ v'.ownBlock = some wa.heap.size)
    (ho : w2.ownsRow (G + 1) 32 2 v' (k + 1) (edCells (ringEdges N k) ++ [.int .i64 (k : Int), .int .i64 (((k + 1) % N : Nat) : Int)])) :
    Rings w (w2.setCell ⟨G, 1, none⟩ v') G vN v' N i (k + 1) := by
  have hNG : ∀ g, vN.ownBlock = some g → G + 1 ≤ g ∧ g < wr.heap.size := fun g hg => own_lt h.nodes hg
  have hEG : ∀ g, vE.ownBlock = some g → G + 1 ≤ g ∧ g < wr.heap.size := fun g hg => own_lt h.edges hg
  have hF : Fr (G :: vE.ownBlock.toList) wr (w2.setCell ⟨G, 1, none⟩ v') :=
    ((ha.of_nil _).grown hg (fun i hi => .inl (by rw [hi]; simp))).setIn (by simp) v'
  have hF2 : Fr vE.ownBlock.toList wr w2 := (ha.of_nil _).grown hg (fun i hi => .inl (by rw [hi]; simp))
  refine ⟨?_, ?_, ?_, ?_, ?_, h.ge⟩
  · exact (h.blk.fr hF2 (by intro hm; simp [Option.mem_toList] at hm; have := hEG _ hm; omega)).set_ 1 v'
  · refine own_fr h.nodes hF ?_
    intro g hv hm
    simp only [List.mem_cons, Option.mem_toList] at hm
    rcases hm with rfl | hm
    · have := hNG _ hv; omega
    · exact h.apart g hv hm
  · rw [ringEdges_succ, edCells_snoc]
    refine own_fr ho ((Fr.refl [G] w2).setIn (by simp) v') ?_
    intro g hv hm
    simp at hm; subst hm
    have := own_lt ho hv
    omega
  · intro g hv he
    rcases hat with h1 | h1
    · exact h.apart g hv (h1 ▸ he)
    · rw [h1] at he
      simp at he
      have := hNG _ hv
      have := ha.size
      omega
  · refine h.fr.trans' hF ?_
    intro i hi
    simp only [List.mem_cons, Option.mem_toList] at hi
    have := h.ge
    rcases hi with rfl | hi
    · right; exact h.ge
    · right; have := hEG _ hi; omega

theorem ring_lay {w wr : World} {G N : Nat} {An Ae : Option Addr} {cn ce : Nat} (h : Rings w wr G (.slice An N cn) (.slice Ae N ce) N N N) (h7 : N ≤ 7) : LayAt wr wr.heap.size An Ae (ringLay N) := by
  have hn : (ringNodes N).length = N := by simp [ringNodes]
  have he : (ringEdges N N).length = N := by simp [ringEdges]
  have r1 := Reads.of_own h.nodes
  have r2 := Reads.of_own h.edges
  have hl1 := r1.len
  refine { hn := by simp only [ringLay, hn]; exact r1, he := by simp only [ringLay, he]; exact r2, hB := Nat.le_refl _, names := ?_, ints := ?_, kinds := ?_, ln := ?_, le := ?_ }
  · intro x hx
    simp only [ringLay, ringNodes, List.mem_map] at hx
    obtain ⟨i, _, rfl⟩ := hx
    simp [ringName, ByteArray.size]
  · intro e he
    simp only [ringLay, ringEdges, List.mem_map, List.mem_range] at he
    obtain ⟨i, hi, rfl⟩ := he
    have : (i + 1) % N < N := Nat.mod_lt _ (by omega)
    simp only [i64ok]
    omega
  · intro x hx
    simp only [ringLay, ringNodes, List.mem_map] at hx
    obtain ⟨i, _, rfl⟩ := hx
    simp [i64ok]
  · simp only [ringLay, hn]; omega
  · simp only [ringLay, he]; omega

set_option maxHeartbeats 4000000 in
set_option maxRecDepth 100000 in
theorem rounds_any (w : World) (n0 f s0 : Int) (f0 : 0 ≤ f) (f1 : f ≤ 65535) :
    Calls Try.prog 3 #[.int .i64 n0, .int .u16 f, .int .i64 s0] w fun e w' => e = .returned (.bool true) ∧ Fr [] w w' := by
  go_enter Try.func3, Try.ntmps3
  go_wp2_with fail
  refine (awake_any _).mono ?_
  rintro e w1 ⟨rfl, hf1⟩
  go_wp2_with fail
  obtain ⟨N, hN2, hN7, hN⟩ := n_of n0
  obtain ⟨T, hT, hTe⟩ := steps_of s0
  rw [hN, hTe]
  clear hN hTe
  have hb := Blk.new w1 28 [.slice none 0 0, .slice none 0 0]
  have hg1 := hf1.alloc (.cells #[.slice none 0 0, .slice none 0 0] 28)
  obtain ⟨i31, hi31, hz31, hs31, hb31⟩ := info_parts info31
  obtain ⟨i32, hi32, hz32, hs32, hb32⟩ := info_parts info32
  have hsz := hf1.size
  generalize hG : w1.heap.size = G at *
  go_loopw [8] (fun i wr => ∃ (k : Nat) (vN vE : Value), k ≤ N ∧ i = .int .i64 k ∧ Rings w wr G vN vE N k k) (fun i _ => N - (intOf i).toNat)
  case atStart => exact ⟨0, _, _, Nat.zero_le _, rfl, hb, World.ownsRow_nil _ _ _ _, World.ownsRow_nil _ _ _ _, by simp [Value.ownBlock], hg1, hsz⟩
  case round =>
    obtain ⟨k, vN, vE, hk, rfl, hR⟩ := hrel
    have hbr := hR.blk
    have hoN := hR.nodes
    by_cases hlt : k < N
    · have x0 := hbr.cell 0
      have x1 := hbr.cell 1
      simp only [List.getElem?_cons_zero, List.getElem?_cons_succ] at x0 x1
      have hu8 := ringByte_nat k (by omega)
      have hcv := run_convert_bytes_back (P := Try.prog) (wr.alloc (.cells #[.int .u8 (97 + (k : Int))] 5)) 29 9 5 ⟨wr.heap.size, 0, none⟩ 1 [ringByte k] Try.underlying29 Try.underlying5 Try.underlying9 (by
        intro j hj
        have hj0 : j = 0 := by simpa using hj
        subst hj0
        have := (Blk.new wr 5 [.int .u8 (97 + (k : Int))]).cell 0
        simp only [List.getElem?_cons_zero] at this
        rw [show (⟨wr.heap.size, 0, none⟩ : Addr).add 0 = ⟨wr.heap.size, 0, none⟩ from rfl, this]
        rw [List.getElem_cons_zero, hu8])
      simp only [List.length_cons, List.length_nil, Nat.zero_add] at hcv
      clear hu8
      have hB2 := Blk.new_at (wr.alloc (.cells #[.int .u8 (97 + (k : Int))] 5)) 31 #[.string ((⟨#[110]⟩ : ByteArray) ++ ⟨#[ringByte k]⟩), .int .i64 1, .int .i64 0] (wr.heap.size + 1) (by simp)
      have hrd := Reads.of_blk (B := wr.heap.size + 2) (S := []) (n := 1) (size := 3) hB2 rfl (by omega) (by simp)
      have hbr2 := (hbr.alloc (.cells #[.int .u8 (97 + (k : Int))] 5)).alloc (.cells #[.string ((⟨#[110]⟩ : ByteArray) ++ ⟨#[ringByte k]⟩), .int .i64 1, .int .i64 0] 31)
      have hNG : some G ≠ vN.ownBlock := fun h => by have := own_lt hoN h.symm; omega
      have hoN2 := own_fr hoN (((Fr.refl [] wr).alloc (.cells #[.int .u8 (97 + (k : Int))] 5)).alloc (.cells #[.string ((⟨#[110]⟩ : ByteArray) ++ ⟨#[ringByte k]⟩), .int .i64 1, .int .i64 0] 31)) (by simp)
      have hGl := hbr.lt
      have HRD := Lib.hid hrd
      have HON := Lib.hid hoN2
      have HBR := Lib.hid hbr2
      have HNG := Lib.hid hNG
      clear hB2 hrd hbr2 hNG hoN2
      go_wp2_with (at_builtin; refine wpList_append_any _ rfl (.tmp 36) (.tmp 44) 25 rfl (G + 1) 31 i31 _ 3 32 Try.underlying25 hi31 hz31 hs31 hb31 rfl (by omega) vN k (ndCells (ringNodes k)) rfl HON.out (wr.heap.size + 2) [] (some ⟨wr.heap.size + 1, 0, none⟩) 1 1 [.string ((⟨#[110]⟩ : ByteArray) ++ ⟨#[ringByte k]⟩), .int .i64 1, .int .i64 0] rfl HRD.out (by simp [Value.oneCell']) (by simp only [maxLen]; omega) (by omega) (by simp; omega) ?_; intro vN2 w2 hoN2 hg2 hat2; obtain ⟨A2, c2, rfl, _⟩ := own_form hoN2; have b2 := HBR.out.grown hg2 HNG.out; have y0 := b2.cell 0; have y1 := b2.cell 1; simp only [List.getElem?_cons_zero, List.getElem?_cons_succ] at y0 y1; have yf := b2.frozen 0; have yl := b2.lt)
      have hR3 := hR.addNode (((Fr.refl [] wr).alloc _).alloc _) hg2 (by assumption) hoN2
      generalize w2.setCell ⟨G, 0, none⟩ (.slice A2 (k + 1) c2) = w3 at *
      clear hg2 hoN2 b2 y0 y1 yf yl HRD HON HBR HNG hcv hR hbr hoN x0 x1 hGl
      have b3 := hR3.blk
      have y1 := b3.cell 1
      simp only [List.getElem?_cons_zero, List.getElem?_cons_succ] at y1
      have yf := b3.frozen 1
      have yl := b3.lt
      have hz3 : ¬ N = 0 := by omega
      have hz1 : ¬ (N : Int) = 0 := by omega
      have hz2 : ((N : Int) == 0) = false := by simp; omega
      have hml : (k + 1) % N < N := Nat.mod_lt _ (by omega)
      have htm : ((k : Int) + 1).tmod (N : Int) = (((k + 1) % N : Nat) : Int) := by rw [Int.tmod_eq_emod_of_nonneg (by omega)]; simp
      have hadd : ∀ wa w2 v', Fr [] w3 wa → wa.grownBy w2 vE.ownBlock → (v'.ownBlock = vE.ownBlock ∨ v'.ownBlock = some wa.heap.size) → w2.ownsRow (G + 1) 32 2 v' (k + 1) (edCells (ringEdges N k) ++ [.int .i64 (k : Int), .int .i64 (((k + 1) % N : Nat) : Int)]) → Rings w (w2.setCell ⟨G, 1, none⟩ v') G (.slice A2 (k + 1) c2) v' N (k + 1) (k + 1) := fun wa w2 v' h1 h2 h3 h4 => hR3.addEdge h1 h2 h3 h4
      generalize hq : (k + 1) % N = q at *
      have HADD := Lib.hid hadd
      clear hadd
      have hw2 : IntKind.i64.wrap (q : Int) = (q : Int) := IntWalk.i64_in _ (by omega)
      clear hq
      have HEG := Lib.hid (show some G ≠ vE.ownBlock from fun h => by have := own_lt hR3.edges h.symm; omega)
      have hw1 : IntKind.i64.wrap ((k : Int) + 1) = (k : Int) + 1 := IntWalk.i64_in _ (by omega)
      have HO4 := Lib.hid (own_fr hR3.edges ((Fr.refl [] w3).drew.alloc (.cells #[.int .i64 (k : Int), .int .i64 (q : Int)] 32)) (by simp))
      have HR4 := Lib.hid (Reads.of_blk (B := w3.heap.size + 1) (S := []) (n := 1) (size := 2) (Blk.new_at w3.drew 32 #[.int .i64 (k : Int), .int .i64 (q : Int)] w3.heap.size (by simp)) rfl (by omega) (by simp))
      have HB4 := Lib.hid (b3.drew.alloc (.cells #[.int .i64 (k : Int), .int .i64 (q : Int)] 32))
      have HQ1 := Lib.hid (show ∀ u ∈ [Value.int .i64 (k : Int), .int .i64 (q : Int)], u.oneCell' = true by simp [Value.oneCell'])
      have HQ2 := Lib.hid (show k + 1 ≤ maxLen by simp only [maxLen]; omega)
      have HQ3 := Lib.hid (show (k + 1) * 16 ≤ 140737488355328 by omega)
      have HQ4 := Lib.hid (show G + 1 ≤ (w3.drew.alloc (.cells #[.int .i64 (k : Int), .int .i64 (q : Int)] 32)).heap.size by simp; omega)
      go_region_law ((refine step_append_any _ (by rfl) (.tmp 48) (.tmp 55) 26 (by rfl) (G + 1) 32 i32 _ 2 16 Try.underlying26 hi32 hz32 hs32 hb32 (by rfl) (by decide) vE k (edCells (ringEdges N k)) (by rfl) HO4.out (w3.heap.size + 1) [] (some ⟨w3.heap.size, 0, none⟩) 1 1 [.int .i64 (k : Int), .int .i64 (q : Int)] (by rfl) HR4.out HQ1.out HQ2.out HQ3.out HQ4.out ?_; intro vE2 w4 hoE2 hg4 hat4; obtain ⟨A4, c4, rfl, _⟩ := own_form hoE2; have b4 := HB4.out.grown hg4 HEG.out; have y4 := b4.cell 1; simp only [List.getElem?_cons_zero, List.getElem?_cons_succ] at y4; have yf4 := b4.frozen 1; have yl4 := b4.lt))
      all_goals
        clear hw1 htm hw2 hz1 hz2 hz3
        go_wp2_with fail
        go_roundw
        case rel => exact ⟨k + 1, _, _, by omega, by go_num, HADD.out _ _ _ ((Fr.refl [] w3).drew.alloc _) hg4 (by assumption) hoE2⟩
        case measure => simp [intOf]; omega
    · have hkN : N = k := by omega
      subst hkN
      obtain ⟨An, cn, rfl, _⟩ := own_form hR.nodes
      obtain ⟨Ae, ce, rfl, hce⟩ := own_form hR.edges
      have hL := ring_lay hR hN7
      have x0 := hbr.cell 0
      have x1 := hbr.cell 1
      simp only [List.getElem?_cons_zero, List.getElem?_cons_succ] at x0 x1
      have HL := Lib.hid hL
      have HCE := Lib.hid hce
      have hgr := hR.fr
      clear hL hce hoN
      go_wp2_with fail
      refine (new_ok _ _ _ _ cn ce (ringLay N) HL.out (ring_ok N hN2 hN7) HCE.out N N (by simp [ringLay, ringNodes]) (by simp [ringLay, ringEdges])).mono ?_
      rintro e w3 ⟨L, rfl, hP, hf3, hlo, hhi⟩
      go_wp2_with fail
      have hpt := fun W (h : PlantAt W L (PM.init (ringLay N))) => put_any W L _ h 1 0
      rw [ring_put N (by omega) hN2] at hpt
      refine (hpt _ hP).mono ?_
      rintro e w4 ⟨rfl, hP4, hf4⟩
      have hown := hP.own_ge
      have hsz3 := hgr.size
      rw [hlo] at hown
      have HOWN := Lib.hid (show ∀ k, k ∈ L.own → k ∈ ([] : List Nat) ∨ w.heap.size ≤ k from fun k hk => .inr (Nat.le_trans hsz3 (hown k hk)))
      have hg4 := (hgr.trans hf3).trans' hf4 HOWN.out
      have HP4 := Lib.hid hP4
      clear hpt hP hf3 hf4 hlo hhi hown hsz3 hgr hR hbr HL HCE x0 x1 hP4
      go_wp2_with fail
      go_loopw [11] (fun x wr => ∃ (i : Nat) (S : PM), i ≤ T ∧ x = .int .i64 i ∧ PlantAt wr L S ∧ Ring S N f i ∧ Fr [] w wr) (fun x _ => T - (intOf x).toNat)
      case atStart => exact ⟨0, _, Nat.zero_le _, rfl, HP4.out, Ring.start N f, hg4⟩
      case round =>
        clear HP4 hg4
        obtain ⟨i, S, hi, rfl, hPr, hRr, hgr⟩ := hrel
        by_cases hlt : i < T
        · obtain ⟨S', hh, hR', hlate⟩ := hRr.step hN2 hN7
          have hwh := hR'.where_ hN2 hN7
          have hm1 := hRr.moves
          have hm2 := hR'.moves
          have hj6 : i % N ≤ 6 := by have := Nat.mod_lt i (show 0 < N by omega); omega
          have hjc : (i : Int) % (N : Int) = ((i % N : Nat) : Int) := by simp
          generalize hj : i % N = j at *
          have hjm : (i + 1) % N < N := Nat.mod_lt _ (by omega)
          have htm : ((i : Int) + 1).tmod (N : Int) = (((i + 1) % N : Nat) : Int) := by rw [Int.tmod_eq_emod_of_nonneg (by omega)]; simp
          have htm2 : ((i : Int) + 1) % (N : Int) = (((i + 1) % N : Nat) : Int) := by simp
          generalize hj2 : (i + 1) % N = j2 at *
          have q1 : IntKind.u16.wrap (f + i) = (f + i) % 65536 := by simp [IntKind.wrap, IntKind.signed, IntKind.bits]
          have q2 : IntKind.u16.wrap ((f + i) % 65536 - N) = (f + i - N) % 65536 := by simp [IntKind.wrap, IntKind.signed, IntKind.bits]
          have b1 : 0 ≤ (f + i) % 65536 ∧ (f + i) % 65536 ≤ 65535 := by omega
          have b2 : 0 ≤ (f + i - N) % 65536 ∧ (f + i - N) % 65536 ≤ 65535 := by omega
          generalize hq : (f + i) % 65536 = q at *
          generalize hq2 : (f + i - N) % 65536 = q' at *
          obtain ⟨b1, b1'⟩ := b1
          obtain ⟨b2, b2'⟩ := b2
          have hc1 := fun W (h : PlantAt W L S) => hear_any W L S h (by omega) (by omega) ⟨1, ((j + 1 : Nat) : Int), q, 1, 0⟩ ⟨⟨by simp, by simp⟩, ⟨by simp only; omega, by simp only; omega⟩, ⟨by simp only; omega, by simp only; omega⟩, ⟨by simp, by simp⟩, ⟨by simp, by simp⟩⟩
          have hc2 := fun W (h : PlantAt W L S') => hear_any W L S' h (by omega) (by omega) ⟨1, ((j + 1 : Nat) : Int), q', 1, 0⟩ ⟨⟨by simp, by simp⟩, ⟨by simp only; omega, by simp only; omega⟩, ⟨by simp only; omega, by simp only; omega⟩, ⟨by simp, by simp⟩, ⟨by simp, by simp⟩⟩
          have hc3 := fun W (h : PlantAt W L S') => where_any W L S' h 1
          rw [hwh] at hc3
          unfold HearPost at hc1 hc2
          rw [hh] at hc1
          simp only [Tl.cells, Int.natCast_add, Int.natCast_one] at hc1 hc2 hlate
          have HC1 := Lib.hid hc1
          have HC2 := Lib.hid hc2
          have HC3 := Lib.hid hc3
          have HRR := Lib.hid hR'
          have HL := Lib.hid hlate
          have HT := Lib.hid (And.intro htm htm2)
          have HQ2 := Lib.hid q2
          clear hc1 hc2 hc3 hR' hlate hh hwh hm1 hm2 hj hq hq2 hj2 hRr htm htm2 q2
          go_wp2_with fail
          refine (HC1.out _ hPr).mono ?_
          rintro e w5 ⟨rfl, hP5, hf5⟩
          have hg5 := hgr.trans' hf5 HOWN.out
          have TB := Blk.new w5 39 [.int .u8 2, .int .u16 ((j : Int) + 1), .int .u16 q, .int .u16 1, .int .u16 0]
          have t0 := TB.cell 0
          have t1 := TB.cell 1
          have t2 := TB.cell 2
          have t3 := TB.cell 3
          have t4 := TB.cell 4
          simp only [List.getElem?_cons_zero, List.getElem?_cons_succ] at t0 t1 t2 t3 t4
          have hP6 := hP5.alloc (.cells #[.int .u8 2, .int .u16 ((j : Int) + 1), .int .u16 q, .int .u16 1, .int .u16 0] 39)
          have hg6 := hg5.alloc (.cells #[.int .u8 2, .int .u16 ((j : Int) + 1), .int .u16 q, .int .u16 1, .int .u16 0] 39)
          have hz3 : ¬ N = 0 := by omega
          have hz1 : ¬ (N : Int) = 0 := by omega
          obtain ⟨htm, htm2⟩ := HT.out
          have hw1 : IntKind.i64.wrap ((i : Int) + 1) = (i : Int) + 1 := IntWalk.i64_in _ (by omega)
          go_wp2_with fail
          go_quiet ((go_at_call 20; exact quiet_same2 (HC3.out _ (hP6.drewN _))))
          clear hw1 hz1 hz3 htm htm2 t0 t1 t2 t3 t4 TB
          have hP7 := hP6.drewN nq
          have hg7 := hg6.drewN nq
          have hgen : ∃ w7, w7 = (w5.alloc (.cells #[.int .u8 2, .int .u16 ((j : Int) + 1), .int .u16 q, .int .u16 1, .int .u16 0] 39)).drewN nq := ⟨_, rfl⟩
          obtain ⟨w7, hw7⟩ := hgen
          rw [← hw7] at hP7 hg7 ⊢
          clear hw7
          have hq3 := HQ2.out
          by_cases hNi : N ≤ i
          · have hl := HL.out hNi
            have hc2 := HC2.out
            rw [hl] at hc2
            simp only [Tl.zero] at hc2
            have HC4 := Lib.hid hc2
            clear hc2 hl
            go_wp2_with fail
            refine (HC4.out _ hP7).mono ?_
            rintro e w8 ⟨rfl, hP8, hf8⟩
            go_wp2_with fail
            exact ⟨⟨i + 1, _, by omega, by go_num, hP8.alloc _, HRR.out, (hg7.trans' hf8 HOWN.out).alloc _⟩, by simp [intOf]; omega⟩
          · clear hq3
            go_wp2_with fail
            exact ⟨⟨i + 1, _, by omega, by go_num, hP7, HRR.out, hg7⟩, by simp [intOf]; omega⟩
        · have hiT : T = i := by omega
          subst hiT
          have hwh := hRr.where_ hN2 hN7
          have hmv := hRr.moves
          have hc1 := fun W (h : PlantAt W L S) => moves_any W L S h
          have hc2 := fun W (h : PlantAt W L S) => where_any W L S h 1
          rw [hmv] at hc1
          rw [hwh] at hc2
          have HC1 := Lib.hid hc1
          have HC2 := Lib.hid hc2
          have hz3 : ¬ N = 0 := by omega
          have hz1 : ¬ (N : Int) = 0 := by omega
          have hjm : T % N < N := Nat.mod_lt _ (by omega)
          have htm : (T : Int).tmod (N : Int) = ((T % N : Nat) : Int) := by rw [Int.tmod_eq_emod_of_nonneg (by omega)]; simp
          have htm2 : (T : Int) % (N : Int) = ((T % N : Nat) : Int) := by simp
          generalize T % N = j2 at *
          clear hc1 hc2 hmv hwh hRr
          have hd : ((T : Int) == (T : Int)) = true := by simp
          go_wp2_with fail
          go_quiet ((first | (go_at_call 21; exact quiet_same2 (HC1.out _ (hPr.drewN _))) | (go_at_call 20; exact quiet_same2 (HC2.out _ (hPr.drewN _)))))
          go_wp2_with fail
          go_ret
          exact ⟨rfl, hgr.drewN _⟩
end Go.Proofs.Ytncggholhmgoaaa
