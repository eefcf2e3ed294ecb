/- layout.Check. -/
import Derived.Test.YtncggholhmgoaaaLayAt
import Derived.RegionTactic
import Derived.BigRegion
import Derived.Deep.RegionWith
import Derived.Deep.LoopGhost
namespace Go.Proofs.Ytncggholhmgoaaa
set_option linter.unusedVariables false
set_option linter.unusedSimpArgs false
open Go.RowKit Go.Maps
open Go.ChangeMaps (setBlock)

def errOf (b : Bool) : Int := if b then 0 else 61
theorem ret_err {l : Lay} (h : l.ok = false) : Ending.returned (.int .i64 61) = .returned (.int .i64 (errOf l.ok)) := by rw [h]; rfl

def CheckPost (l : Lay) (w : World) (e : Ending) (w' : World) : Prop := e = .returned (.int .i64 (errOf l.ok)) ∧ Fr [] w w'

set_option maxHeartbeats 1000000 in
theorem check_few (w : World) (B : Nat) (An Ae : Option Addr) (cn ce : Nat) (l : Lay) (hL : LayAt w B An Ae l) (h : ¬ (1 ≤ l.nodes.length ∧ l.nodes.length ≤ 40 ∧ l.edges.length ≤ 120)) :
    Calls Try.prog 54 #[.agg #[.slice An l.nodes.length cn, .slice Ae l.edges.length ce]] w (CheckPost l w) := by
  have HE := Lib.hid (Lay.ok_few h)
  have ln := hL.ln
  have le := hL.le
  by_cases h1 : l.nodes.length < 1
  · clear h
    go_enter Try.func54, Try.ntmps54
    go_wp2
    go_ret
    exact ⟨ret_err HE.out, ((Fr.refl _ _).alloc _).alloc _⟩
  by_cases h2 : 40 < l.nodes.length
  · clear h
    go_enter Try.func54, Try.ntmps54
    go_wp2
    go_ret
    exact ⟨ret_err HE.out, ((Fr.refl _ _).alloc _).alloc _⟩
  · have h3 : 120 < l.edges.length := by omega
    clear h
    go_enter Try.func54, Try.ntmps54
    go_wp2
    go_ret
    exact ⟨ret_err HE.out, ((Fr.refl _ _).alloc _).alloc _⟩

/-- The first k names, each once. -/
noncomputable def seenF (l : List ByteArray) : Value → Option Value := by
  classical exact fun v => match v with
    | .string s => if s ∈ l then some (.int .i64 1) else none
    | _ => none

theorem seenF_in {l : List ByteArray} {s : ByteArray} (h : s ∈ l) : seenF l (.string s) = some (.int .i64 1) := by simp [seenF, h]
theorem seenF_out {l : List ByteArray} {s : ByteArray} (h : s ∉ l) : seenF l (.string s) = none := by simp [seenF, h]
theorem seenF_nil : seenF [] = fun _ => none := by
  funext v; unfold seenF; cases v <;> simp
theorem seenF_step {l : List ByteArray} {k : Nat} {s : ByteArray} (hs : l[k]? = some s) : putF (seenF (l.take k)) (.string s) (.int .i64 1) = seenF (l.take (k + 1)) := by
  have hl := (List.getElem?_eq_some_iff.1 hs).1
  have hs' := (List.getElem?_eq_some_iff.1 hs).2
  funext v
  by_cases hv : v = .string s
  · subst hv
    rw [putF_same, seenF_in]
    rw [List.take_succ_eq_append_getElem hl, hs']; simp
  · rw [putF_other _ hv]
    unfold seenF
    cases v with
    | string x =>
      have hx : x ≠ s := fun e => hv (by rw [e])
      have : x ∈ l.take (k + 1) ↔ x ∈ l.take k := by
        rw [List.take_succ_eq_append_getElem hl, hs', List.mem_append]; simp [hx]
      classical
      show (if x ∈ l.take k then some (Value.int IntKind.i64 1) else none) = if x ∈ l.take (k + 1) then some (Value.int IntKind.i64 1) else none
      by_cases hm : x ∈ l.take k
      · rw [if_pos hm, if_pos (this.2 hm)]
      · rw [if_neg hm, if_neg (fun h => hm (this.1 h))]
    | _ => rfl

/-- The first k edges, each once. -/
noncomputable def pairF (l : List (Int × Int)) : Value → Option Value := by
  classical exact fun v => if ∃ e ∈ l, v = .agg #[.int .i64 e.1, .int .i64 e.2] then some (.int .i64 1) else none
theorem pairF_in {l : List (Int × Int)} {a b : Int} (h : (a, b) ∈ l) : pairF l (.agg #[.int .i64 a, .int .i64 b]) = some (.int .i64 1) := by
  unfold pairF; rw [if_pos ⟨_, h, rfl⟩]
theorem pairF_out {l : List (Int × Int)} {a b : Int} (h : (a, b) ∉ l) : pairF l (.agg #[.int .i64 a, .int .i64 b]) = none := by
  unfold pairF
  rw [if_neg]
  rintro ⟨e, he, hv⟩
  simp only [Value.agg.injEq, Array.mk.injEq, List.cons.injEq, Value.int.injEq, true_and, and_true] at hv
  apply h; rw [show (a, b) = e from Prod.ext hv.1 hv.2]; exact he
theorem pairF_nil : pairF [] = fun _ => none := by
  funext v; unfold pairF; rw [if_neg]; simp
theorem pairF_step {l : List (Int × Int)} {k : Nat} {a b : Int} (hs : l[k]? = some (a, b)) : putF (pairF (l.take k)) (.agg #[.int .i64 a, .int .i64 b]) (.int .i64 1) = pairF (l.take (k + 1)) := by
  have hl := (List.getElem?_eq_some_iff.1 hs).1
  have hs' := (List.getElem?_eq_some_iff.1 hs).2
  have ht : l.take (k + 1) = l.take k ++ [(a, b)] := by rw [List.take_succ_eq_append_getElem hl, hs']
  funext v
  by_cases hv : v = .agg #[.int .i64 a, .int .i64 b]
  · subst hv
    rw [putF_same, pairF_in]
    rw [ht]; simp
  · rw [putF_other _ hv, ht]
    unfold pairF
    by_cases hm : ∃ e ∈ l.take k, v = .agg #[.int .i64 e.1, .int .i64 e.2]
    · rw [if_pos hm, if_pos]
      obtain ⟨e, he, h⟩ := hm
      exact ⟨e, List.mem_append_left _ he, h⟩
    · rw [if_neg hm, if_neg]
      rintro ⟨e, he, h⟩
      rcases List.mem_append.1 he with h1 | h1
      · exact hm ⟨e, h1, h⟩
      · simp only [List.mem_singleton] at h1
        subst h1; exact hv h

set_option maxHeartbeats 4000000 in
set_option maxRecDepth 100000 in
theorem check_main (w : World) (B : Nat) (An Ae : Option Addr) (cn ce : Nat) (l : Lay) (hL : LayAt w B An Ae l) (h1 : 1 ≤ l.nodes.length) (h2 : l.nodes.length ≤ 40) (h3 : l.edges.length ≤ 120) :
    Calls Try.prog 54 #[.agg #[.slice An l.nodes.length cn, .slice Ae l.edges.length ce]] w (CheckPost l w) := by
  have hmm := @run_makeMap Try.prog
  go_enter Try.func54, Try.ntmps54
  go_wp2
  obtain ⟨ws, hws⟩ : ∃ ws, ws = ((w.alloc (.cells #[.slice An l.nodes.length cn, .slice Ae l.edges.length ce] 28)).alloc (.cells #[.int .i64 l.nodes.length] 3)).alloc (.map #[] 0) := ⟨_, rfl⟩
  rw [← hws]
  have hM0 : KMap Try.prog 9 ws (w.heap.size + 1 + 1) 0 (fun _ => none) := by
    have := KMap.made ((w.alloc (.cells #[.slice An l.nodes.length cn, .slice Ae l.edges.length ce] 28)).alloc (.cells #[.int .i64 l.nodes.length] 3)) Try.prog 9
    rw [hws]; simpa using this
  have hF0 : Fr [] w ws := by rw [hws]; exact (((Fr.refl _ _).alloc _).alloc _).alloc _
  have hb0 : Blk ws w.heap.size 28 [.slice An l.nodes.length cn, .slice Ae l.edges.length ce] := by rw [hws]; exact ((Blk.new w 28 [_, _]).alloc _).alloc _
  have hb1 : Blk ws (w.heap.size + 1) 3 [.int .i64 l.nodes.length] := by
    have := (Blk.new (w.alloc (.cells #[.slice An l.nodes.length cn, .slice Ae l.edges.length ce] 28)) 3 [.int .i64 l.nodes.length]).alloc (.map #[] 0)
    rw [hws]; simpa using this
  have hLs : LayAt ws B An Ae l := hL.fr hF0
  have hsz : w.heap.size + 1 + 1 < ws.heap.size := hM0.lt
  have hBw := hL.hB
  clear hws
  go_loopw [30] (fun i wr => ∃ k : Nat, k ≤ l.nodes.length ∧ i = .int .i64 k ∧ (∀ j, j < k → nodeOk l.nodes j = true) ∧ KMap Try.prog 9 wr (w.heap.size + 1 + 1) k (seenF ((names l.nodes).take k)) ∧ Fr [w.heap.size + 1 + 1] ws wr) (fun i _ => l.nodes.length - (intOf i).toNat)
  case atStart => exact ⟨0, Nat.zero_le _, rfl, by intro j hj; omega, by rw [List.take_zero, seenF_nil]; exact hM0, Fr.refl _ _⟩
  case round =>
    obtain ⟨k, hk, rfl, hall, hM, hF⟩ := hrel
    have HA := Lib.hid hall; clear hall
    by_cases hlt : k < l.nodes.length
    · obtain ⟨x, hx⟩ : ∃ x, l.nodes[k]? = some x := ⟨_, List.getElem?_eq_getElem hlt⟩
      have hLr : LayAt wr B An Ae l := hLs.frS hF (by simp; omega)
      obtain ⟨ad, hAn, hadb, c0, c1, c2⟩ := hLr.node hx
      have hs := hL.names x (List.mem_of_getElem? hx)
      have HX := Lib.hid hx; clear hx
      subst hAn
      obtain ⟨nm, kd, zn⟩ := x
      simp only at c0 c1 c2 hs
      have hMo : ∀ o, KMap Try.prog 9 (wr.alloc o) (w.heap.size + 1 + 1) k (seenF ((names l.nodes).take k)) := fun o => hM.fr ((Fr.refl [] wr).alloc o) (by simp)
      have hkey := Go.WideMaps.keyOf_string_mk Try.underlying9 (s := nm) (by unfold maxLen; omega)
      have hlk0 := fun o => (hMo o).lookup law9 Try.underlying138 (zero3 _) hkey
      have hnm : (names l.nodes)[k]? = some nm := by rw [names, List.getElem?_map, HX.out]; rfl
      have HNM := Lib.hid hnm; clear hnm
      have HK := Lib.hid hkey; clear hkey
      have hsr := hF.size
      by_cases hin : nm ∈ (names l.nodes).take k
      · have HIN := Lib.hid hin
        rw [seenF_in hin, Option.getD_some] at hlk0
        clear hin
        go_wp2
        go_ret
        exact ⟨ret_err (Lay.ok_node hlt (nodeOk_no HX.out (.inl HIN.out))), (hF0.trans' hF (by simp; omega)).alloc _⟩
      · have HIN := Lib.hid hin
        rw [seenF_out hin, Option.getD_none] at hlk0
        clear hin
        cases hno : nameOk nm with
        | false =>
          go_wp2_with (go_at_call 82; refine (name_any _ nm hs).mono ?_; rintro e w1 ⟨rfl, hf1⟩)
          go_ret
          exact ⟨ret_err (Lay.ok_node hlt (nodeOk_no HX.out (.inr (.inl hno)))), ((hF0.trans' hF (by simp; omega)).alloc _).trans hf1⟩
        | true =>
          have HB2 := Blk.new wr 31 [.string nm, .int .i64 kd, .int .i64 zn]
          go_wp2_with (go_at_call 82; refine (name_any _ nm hs).mono ?_; rintro e w1 ⟨rfl, hf1⟩; have b2 := HB2.fr hf1 (by simp); have y0 := b2.cell 0; have y1 := b2.cell 1; have y2 := b2.cell 2; simp only [List.getElem?_cons_zero, List.getElem?_cons_succ] at y0 y1 y2; have hM1 := (hMo _).fr hf1 (by simp); have hlk1 := hM1.lookup law9 Try.underlying138 (zero3 _) HK.out; rw [seenF_out HIN.out, Option.getD_none] at hlk1; obtain ⟨w2, hu, hM2, hF2⟩ := hM1.update law9 Try.underlying138 HK.out (.int .i64 1))
          all_goals first
            | (go_ret
               refine ⟨ret_err (Lay.ok_node hlt (nodeOk_no HX.out (.inr (.inr ?_)))), ((hF0.trans' hF (by simp; omega)).alloc _).trans hf1⟩
               simp only
               omega)
            | (go_roundw
               case rel =>
                 refine ⟨k + 1, by omega, by go_num, fun j hj => ?_, ?_, ((hF.alloc _).trans (hf1.of_nil _)).trans hF2⟩
                 · rcases Nat.lt_succ_iff_lt_or_eq.1 hj with h | h
                   · exact HA.out j h
                   · subst h
                     exact nodeOk_yes HX.out HIN.out hno (by assumption) (by assumption) (by assumption) (by simp only; omega)
                 · rw [← seenF_step HNM.out]; exact hM2
               case measure => simp [intOf]; omega)
    · obtain rfl : k = l.nodes.length := by omega
      clear hlt hk
      have hfw : Fr [] w wr := hF0.trans' hF (by simp; omega)
      have hsr := hF.size
      have hLr : LayAt wr B An Ae l := hLs.frS hF (by simp; omega)
      have hb0r := hb0.fr hF (by simp; omega)
      have hb1r := hb1.fr hF (by simp)
      clear hM hF hM0 hb0 hb1 hLs hL
      obtain ⟨wo, rfl⟩ : ∃ wo : World, wo = wr := ⟨_, rfl⟩
      have z0 := hb0r.cell 0
      have z1 := hb0r.cell 1
      simp only [List.getElem?_cons_zero, List.getElem?_cons_succ] at z0 z1
      have zl : w.heap.size < wo.heap.size := by omega
      have zl' : ∀ n, w.heap.size < wo.heap.size + n := fun n => by omega
      go_wp2
      obtain ⟨ws2, hws2⟩ : ∃ ws2, ws2 = wo.alloc (.map #[] 0) := ⟨_, rfl⟩
      rw [← hws2]
      have hM0 : KMap Try.prog 32 ws2 wo.heap.size 0 (fun _ => none) := by rw [hws2]; exact KMap.made wo Try.prog 32
      have hF0' : Fr [] wo ws2 := by rw [hws2]; exact (Fr.refl _ _).alloc _
      have hb0s := hb0r.fr hF0' (by simp)
      have hb1s := hb1r.fr hF0' (by simp)
      have hLs := hLr.fr hF0'
      have hsz2 := hM0.lt
      clear hws2 z0 z1 hb0r hb1r hLr
      go_loopw [75] (fun i wr => ∃ k : Nat, k ≤ l.edges.length ∧ i = .int .i64 k ∧ (∀ j, j < k → edgeOk l.nodes l.edges j = true) ∧ KMap Try.prog 32 wr wo.heap.size k (pairF (l.edges.take k)) ∧ Fr [wo.heap.size] ws2 wr) (fun i _ => l.edges.length - (intOf i).toNat)
      case atStart => exact ⟨0, Nat.zero_le _, rfl, by intro j hj; omega, by rw [List.take_zero, pairF_nil]; exact hM0, Fr.refl _ _⟩
      case round =>
        obtain ⟨k, hk, rfl, hall, hM, hF⟩ := hrel
        have HA2 := Lib.hid hall; clear hall
        have hfr : Fr [] w wr := hfw.trans (hF0'.trans' hF (by simp))
        by_cases hlt : k < l.edges.length
        · obtain ⟨x, hx⟩ : ∃ x, l.edges[k]? = some x := ⟨_, List.getElem?_eq_getElem hlt⟩
          have hLr : LayAt wr B An Ae l := hLs.frS hF (by simp; omega)
          obtain ⟨ad, hAe, hadb, c0, c1⟩ := hLr.edge hx
          have hi := hLr.ints x (List.mem_of_getElem? hx)
          have HX := Lib.hid hx; clear hx
          subst hAe
          obtain ⟨a, b⟩ := x
          simp only at c0 c1 hi
          obtain ⟨ia, ib⟩ := hi
          have b0 := hb0s.fr hF (by simp; omega)
          have b1 := hb1s.fr hF (by simp; omega)
          have z0 := b0.cell 0
          have z1 := b0.cell 1
          have z2 := b1.cell 0
          simp only [List.getElem?_cons_zero, List.getElem?_cons_succ] at z0 z1 z2
          have hsr2 := hF.size
          have y0 : w.heap.size < wr.heap.size := by omega
          have y1 : ∀ n, w.heap.size < wr.heap.size + n := fun n => by omega
          have y2 : w.heap.size + 1 < wr.heap.size := by omega
          have y3 : ∀ n, w.heap.size + 1 < wr.heap.size + n := fun n => by omega
          have z2' : ∀ o, (wr.alloc o).cell? ⟨w.heap.size + 1, 0, none⟩ = some (.int .i64 l.nodes.length) := fun o => by rw [World.cell?_alloc_lt wr o _ (by simpa using y2)]; exact z2
          clear hb0s hb1s b0 b1 hM0
          by_cases hA : 0 ≤ a ∧ a < l.nodes.length
          · obtain ⟨a, rfl⟩ := Int.eq_ofNat_of_zero_le hA.1
            have hA1 : a < l.nodes.length := by omega
            clear hA
            have hAb : (decide ((a : Int) < 0) || decide ((l.nodes.length : Int) ≤ a)) = false := by simp; omega
            have HAb := Lib.hid hAb; clear hAb
            have hoa := fun W (h : W.cell? ⟨w.heap.size + 1, 0, none⟩ = some (.int .i64 l.nodes.length)) => out_any W ⟨w.heap.size + 1, 0, none⟩ l.nodes.length a h
            rw [HAb.out] at hoa
            have HO := Lib.hid hoa; clear hoa
            by_cases hB : 0 ≤ b ∧ b < l.nodes.length
            · obtain ⟨b, rfl⟩ := Int.eq_ofNat_of_zero_le hB.1
              have hB1 : b < l.nodes.length := by omega
              clear hB
              have hBb : (decide ((b : Int) < 0) || decide ((l.nodes.length : Int) ≤ b)) = false := by simp; omega
              have HBb := Lib.hid hBb; clear hBb
              have hob := fun W (h : W.cell? ⟨w.heap.size + 1, 0, none⟩ = some (.int .i64 l.nodes.length)) => out_any W ⟨w.heap.size + 1, 0, none⟩ l.nodes.length b h
              rw [HBb.out] at hob
              have HP := Lib.hid hob; clear hob
              by_cases hne : a = b
              · have hq : ((a : Int) == (b : Int)) = true := by simp [hne]
                have HNE := Lib.hid hne; clear hne
                go_wp2_with (first | (go_at_call_of 83 (Value.int IntKind.i64 (a : Int)); refine (HO.out _ (z2' _)).mono ?_; rintro e w1 ⟨rfl, rfl⟩) | (go_at_call_of 83 (Value.int IntKind.i64 (b : Int)); refine (HP.out _ (z2' _)).mono ?_; rintro e w1 ⟨rfl, rfl⟩))
                go_ret
                exact ⟨ret_err (Lay.ok_edge hlt (edgeOk_no HX.out (.inr (.inr (.inl (by simp [HNE.out])))))), hfr.alloc _⟩
              · have hq : ((a : Int) == (b : Int)) = false := by simp; omega
                have HNE := Lib.hid hne; clear hne
                obtain ⟨kl, hkey⟩ := key32 a b ia ib
                have hMo : ∀ o, KMap Try.prog 32 (wr.alloc o) wo.heap.size k (pairF (l.edges.take k)) := fun o => hM.fr ((Fr.refl [] wr).alloc o) (by simp)
                have hlk := fun o => (hMo o).lookup (Keyed.of_law law32) Try.underlying140 (zero3 _) hkey
                by_cases hin : ((a : Int), (b : Int)) ∈ l.edges.take k
                · rw [pairF_in hin, Option.getD_some] at hlk
                  have HIN := Lib.hid hin; clear hin hkey
                  go_wp2_with (first | (go_at_call_of 83 (Value.int IntKind.i64 (a : Int)); refine (HO.out _ (z2' _)).mono ?_; rintro e w1 ⟨rfl, rfl⟩) | (go_at_call_of 83 (Value.int IntKind.i64 (b : Int)); refine (HP.out _ (z2' _)).mono ?_; rintro e w1 ⟨rfl, rfl⟩))
                  go_ret
                  exact ⟨ret_err (Lay.ok_edge hlt (edgeOk_no HX.out (.inr (.inr (.inr (.inl HIN.out)))))), hfr.alloc _⟩
                · rw [pairF_out hin, Option.getD_none] at hlk
                  obtain ⟨adn, hAn, hnb, d0, d1, d2⟩ := hLr.node (List.getElem?_eq_getElem hA1)
                  obtain ⟨adn', hAn', hnb', e0, e1, e2⟩ := hLr.node (List.getElem?_eq_getElem hB1)
                  obtain rfl : adn = adn' := Option.some.inj (hAn.symm.trans hAn')
                  clear hAn' hnb'
                  subst hAn
                  have nb0 : ∀ n, (adn.add n).block < wr.heap.size := fun n => by rw [block_of_add]; omega
                  have HIN := Lib.hid hin
                  have HKEY := Lib.hid hkey
                  clear hin hkey
                  by_cases hk1 : l.nodes[a].kind = 1 ∨ l.nodes[b].kind = 1
                  · by_cases hka : l.nodes[a].kind = 1
                    · have q1 : (l.nodes[a].kind != 1) = false := by simp [hka]
                      have HKA := Lib.hid hka; have HKB := Lib.hid hk1; clear hka hk1
                      have hD : KMap Try.prog 32 (wr.alloc (.cells #[.int .i64 a, .int .i64 b] 32)).drew wo.heap.size k (pairF (l.edges.take k)) := (hMo _).fr ((Fr.refl [] _).drew) (by simp)
                      have hlkd := hD.lookup (Keyed.of_law law32) Try.underlying140 (zero3 _) HKEY.out
                      rw [pairF_out HIN.out, Option.getD_none] at hlkd
                      obtain ⟨st, o1, hme, hM1, hat, hes⟩ := hD.entryNew law32 Try.underlying140 zero3 HKEY.out (by unfold maxLen; omega) (pairF_out HIN.out)
                      have hlke := hM1.lookup (Keyed.of_law law32) Try.underlying140 (zero3 _) HKEY.out
                      rw [putF_same, Option.getD_some] at hlke
                      obtain ⟨o2, hst, hM2⟩ := hes _ (.int .i64 1) hat
                      rw [pairF_step HX.out] at hM2
                      unfold goInt at hst hme
                      have hxc : ∀ o, (setBlock (wr.alloc (.cells #[.int .i64 a, .int .i64 b] 32)).drew wo.heap.size o).cell? ⟨wr.heap.size, 0, none⟩ = some (.int .i64 a) := fun o => by
                        rw [(fr_setBlock _ _ _).cell (by simp) (by simp; omega)]; simp
                      have hxc1 : ∀ o, (setBlock (wr.alloc (.cells #[.int .i64 a, .int .i64 b] 32)).drew wo.heap.size o).cell? ⟨wr.heap.size, 1, none⟩ = some (.int .i64 b) := fun o => by
                        rw [(fr_setBlock _ _ _).cell (by simp) (by simp; omega)]; simp
                      have hF2 : Fr [wo.heap.size] wr (setBlock (setBlock (wr.alloc (.cells #[.int .i64 a, .int .i64 b] 32)).drew wo.heap.size o1) wo.heap.size o2) := (((((Fr.refl _ wr).alloc _).drew).trans (fr_setBlock _ _ _)).trans (fr_setBlock _ _ _))
                      clear hes hat hM1 hD
                      go_wp2_with (first | (go_at_call_of 83 (Value.int IntKind.i64 (a : Int)); refine (HO.out _ (z2' _)).mono ?_; rintro e w1 ⟨rfl, rfl⟩) | (go_at_call_of 83 (Value.int IntKind.i64 (b : Int)); refine (HP.out _ (z2' _)).mono ?_; rintro e w1 ⟨rfl, rfl⟩))
                      go_region
                      go_wp2
                      go_roundw
                      case rel =>
                        refine ⟨k + 1, by omega, by go_num, fun j hj => ?_, hM2, hF.trans hF2⟩
                        rcases Nat.lt_succ_iff_lt_or_eq.1 hj with h | h
                        · exact HA2.out j h
                        · subst h
                          exact edgeOk_yes HX.out hA1 hB1 HNE.out HIN.out HKB.out
                      case measure => simp [intOf]; omega
                    · have q1 : (l.nodes[a].kind != 1) = true := by simp [hka]
                      have q2 : (l.nodes[b].kind != 1) = false := by rcases hk1 with h | h; exact absurd h hka; simp [h]
                      have HKB := Lib.hid hk1; clear hka hk1
                      have hD : KMap Try.prog 32 (wr.alloc (.cells #[.int .i64 a, .int .i64 b] 32)).drew wo.heap.size k (pairF (l.edges.take k)) := (hMo _).fr ((Fr.refl [] _).drew) (by simp)
                      have hlkd := hD.lookup (Keyed.of_law law32) Try.underlying140 (zero3 _) HKEY.out
                      rw [pairF_out HIN.out, Option.getD_none] at hlkd
                      obtain ⟨st, o1, hme, hM1, hat, hes⟩ := hD.entryNew law32 Try.underlying140 zero3 HKEY.out (by unfold maxLen; omega) (pairF_out HIN.out)
                      have hlke := hM1.lookup (Keyed.of_law law32) Try.underlying140 (zero3 _) HKEY.out
                      rw [putF_same, Option.getD_some] at hlke
                      obtain ⟨o2, hst, hM2⟩ := hes _ (.int .i64 1) hat
                      rw [pairF_step HX.out] at hM2
                      unfold goInt at hst hme
                      have hxc : ∀ o, (setBlock (wr.alloc (.cells #[.int .i64 a, .int .i64 b] 32)).drew wo.heap.size o).cell? ⟨wr.heap.size, 0, none⟩ = some (.int .i64 a) := fun o => by
                        rw [(fr_setBlock _ _ _).cell (by simp) (by simp; omega)]; simp
                      have hxc1 : ∀ o, (setBlock (wr.alloc (.cells #[.int .i64 a, .int .i64 b] 32)).drew wo.heap.size o).cell? ⟨wr.heap.size, 1, none⟩ = some (.int .i64 b) := fun o => by
                        rw [(fr_setBlock _ _ _).cell (by simp) (by simp; omega)]; simp
                      have hF2 : Fr [wo.heap.size] wr (setBlock (setBlock (wr.alloc (.cells #[.int .i64 a, .int .i64 b] 32)).drew wo.heap.size o1) wo.heap.size o2) := (((((Fr.refl _ wr).alloc _).drew).trans (fr_setBlock _ _ _)).trans (fr_setBlock _ _ _))
                      clear hes hat hM1 hD
                      go_wp2_with (first | (go_at_call_of 83 (Value.int IntKind.i64 (a : Int)); refine (HO.out _ (z2' _)).mono ?_; rintro e w1 ⟨rfl, rfl⟩) | (go_at_call_of 83 (Value.int IntKind.i64 (b : Int)); refine (HP.out _ (z2' _)).mono ?_; rintro e w1 ⟨rfl, rfl⟩))
                      go_region
                      go_wp2
                      go_roundw
                      case rel =>
                        refine ⟨k + 1, by omega, by go_num, fun j hj => ?_, hM2, hF.trans hF2⟩
                        rcases Nat.lt_succ_iff_lt_or_eq.1 hj with h | h
                        · exact HA2.out j h
                        · subst h
                          exact edgeOk_yes HX.out hA1 hB1 HNE.out HIN.out HKB.out
                      case measure => simp [intOf]; omega
                  · have q1 : (l.nodes[a].kind != 1) = true := by simp; exact fun h => hk1 (.inl h)
                    have q2 : (l.nodes[b].kind != 1) = true := by simp; exact fun h => hk1 (.inr h)
                    have HK1 := Lib.hid hk1; clear hk1
                    go_wp2_with (first | (go_at_call_of 83 (Value.int IntKind.i64 (a : Int)); refine (HO.out _ (z2' _)).mono ?_; rintro e w1 ⟨rfl, rfl⟩) | (go_at_call_of 83 (Value.int IntKind.i64 (b : Int)); refine (HP.out _ (z2' _)).mono ?_; rintro e w1 ⟨rfl, rfl⟩))
                    go_ret
                    exact ⟨ret_err (Lay.ok_edge hlt (edgeOk_no HX.out (.inr (.inr (.inr (.inr ⟨by rw [kindAt_in hA1]; exact fun h => HK1.out (.inl h), by rw [kindAt_in hB1]; exact fun h => HK1.out (.inr h)⟩)))))), hfr.alloc _⟩
            · have hBb : (decide (b < 0) || decide ((l.nodes.length : Int) ≤ b)) = true := by simp; omega
              have HBb := Lib.hid hBb; clear hBb
              have hob := fun W (h : W.cell? ⟨w.heap.size + 1, 0, none⟩ = some (.int .i64 l.nodes.length)) => out_any W ⟨w.heap.size + 1, 0, none⟩ l.nodes.length b h
              rw [HBb.out] at hob
              have HP := Lib.hid hob; clear hob
              have HN := Lib.hid hB; clear hB
              go_wp2_with (first | (go_at_call_of 83 (Value.int IntKind.i64 (a : Int)); refine (HO.out _ (z2' _)).mono ?_; rintro e w1 ⟨rfl, rfl⟩) | (go_at_call_of 83 (Value.int IntKind.i64 b); refine (HP.out _ (z2' _)).mono ?_; rintro e w1 ⟨rfl, rfl⟩))
              go_ret
              exact ⟨ret_err (Lay.ok_edge hlt (edgeOk_no HX.out (.inr (.inl HN.out)))), hfr.alloc _⟩
          · have hAb : (decide (a < 0) || decide ((l.nodes.length : Int) ≤ a)) = true := by simp; omega
            have HAb := Lib.hid hAb; clear hAb
            have hoa := fun W (h : W.cell? ⟨w.heap.size + 1, 0, none⟩ = some (.int .i64 l.nodes.length)) => out_any W ⟨w.heap.size + 1, 0, none⟩ l.nodes.length a h
            rw [HAb.out] at hoa
            have HO := Lib.hid hoa; clear hoa
            have HN := Lib.hid hA; clear hA
            go_wp2_with (go_at_call 83; refine (HO.out _ (z2' _)).mono ?_; rintro e w1 ⟨rfl, rfl⟩)
            go_ret
            exact ⟨ret_err (Lay.ok_edge hlt (edgeOk_no HX.out (.inl HN.out))), hfr.alloc _⟩
        · obtain rfl : k = l.edges.length := by omega
          have hz := Lay.ok_yes h1 h2 h3 HA.out HA2.out
          have HZ := Lib.hid hz; clear hz
          go_wp2
          go_ret
          exact ⟨by rw [HZ.out]; rfl, hfr⟩

theorem check_any (w : World) (B : Nat) (An Ae : Option Addr) (cn ce : Nat) (l : Lay) (hL : LayAt w B An Ae l) :
    Calls Try.prog 54 #[.agg #[.slice An l.nodes.length cn, .slice Ae l.edges.length ce]] w (CheckPost l w) := by
  by_cases h : 1 ≤ l.nodes.length ∧ l.nodes.length ≤ 40 ∧ l.edges.length ≤ 120
  · exact check_main w B An Ae cn ce l hL h.1 h.2.1 h.2.2
  · exact check_few w B An Ae cn ce l hL h
end Go.Proofs.Ytncggholhmgoaaa
