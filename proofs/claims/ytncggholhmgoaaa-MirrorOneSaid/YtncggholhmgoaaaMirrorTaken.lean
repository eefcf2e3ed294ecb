/- The mirror's calls that go through its devices: Taken, ContainsFunc, Down. -/
import Derived.Test.YtncggholhmgoaaaMirrorGet
import Derived.Test.YtncggholhmgoaaaAppendAny
import Derived.Test.YtncggholhmgoaaaPlantNew
namespace Go.Proofs.Ytncggholhmgoaaa
set_option linter.unusedVariables false
set_option linter.unusedSimpArgs false
open Go.RowKit

namespace MM
theorem any_succ {f : Nat → Bool} {k : Nat} (h : (List.range k).any f = false) (hk : f k = false) : (List.range (k + 1)).any f = false := by
  rw [List.range_succ, List.any_append, h]; simp [hk]
theorem any_hit {f : Nat → Bool} {k n : Nat} (hk : k < n) (h : f k = true) : (List.range n).any f = true := by
  rw [List.any_eq_true]; exact ⟨k, List.mem_range.2 hk, h⟩
theorem taken_in {S : MM} {n : Int} (h : S.noNode n = false) : S.taken n = ((List.range S.devs.length).any (S.hit n) || decide (0 < S.nd n)) := by simp [taken, h]
end MM

set_option maxHeartbeats 1000000 in
theorem mTaken_any (w : World) (L : PL) (S : MM) (h : MirrorAt w L S) (n : Int) :
    Calls Try.prog 40 #[.pointer (some ⟨L.p, 0, none⟩), .int .i64 n] w fun e w' => e = .returned (.bool (S.taken n)) ∧ Fr [] w w' := by
  have hcc := mNoNode_any w L S h n
  have c3 := h.c3
  cases hb : S.noNode n with
  | true =>
    have HF := Lib.hid (show S.taken n = false by simp [MM.taken, hb])
    rw [hb] at hcc
    have HC := Lib.hid hcc
    clear hcc hb
    go_enter Try.func40, Try.ntmps40
    go_wp2_with (go_at_call 66; refine (HC.out).mono ?_; rintro e w' ⟨rfl, rfl⟩)
    go_ret
    exact ⟨ret_bool HF.out.symm, Fr.refl _ _⟩
  | false =>
    obtain ⟨h1, h2⟩ := MM.noNode_of hb
    obtain ⟨j, rfl⟩ := Int.eq_ofNat_of_zero_le h1
    have HT := Lib.hid (MM.taken_in hb)
    rw [hb] at hcc
    have HC := Lib.hid hcc
    clear hcc hb
    have hld := h.ld
    have hle := h.le
    have HH := Lib.hid h
    clear h
    go_enter Try.func40, Try.ntmps40
    go_wp2_with (go_at_call 66; refine (HC.out).mono ?_; rintro e w' ⟨rfl, hw⟩; have hw := hw.symm; subst hw)
    go_loopw [15] (fun i wr => ∃ k : Nat, k ≤ S.devs.length ∧ i = .int .i64 k ∧ Fr [] w wr ∧ Hid ((List.range k).any (S.hit j) = false)) (fun i _ => S.devs.length - (intOf i).toNat)
    case atStart => exact ⟨0, Nat.zero_le _, rfl, Fr.refl _ _, Lib.hid (by rfl)⟩
    case round =>
      obtain ⟨k, hk, rfl, hfr, HN⟩ := hrel
      have hr := HH.out.fr0 hfr
      have c0 := hr.c0
      have c2 := hr.c2
      obtain ⟨⟨lp, ln, ld⟩, lp', ln', ld'⟩ := hr.lts
      by_cases hlt : k < S.devs.length
      · obtain ⟨x, hx, e0, e1, e2, e3⟩ := hr.dev_get hlt
        obtain ⟨xt, xs, xe, xd⟩ := x
        simp only at e0 e1 e2 e3
        have hdv : S.devs.getD k MD.zero = ⟨xt, xs, xe, xd⟩ := by simp [List.getD, hx]
        by_cases ht : 0 < xt
        · have hk1 : k ≠ 0 := by
            intro e
            have := HH.out.d0
            rw [← e, hdv] at this
            simp at this
            omega
          obtain ⟨m, rfl⟩ := Nat.exists_eq_succ_of_ne_zero hk1
          obtain ⟨ad, ⟨ea, eb⟩, hed, hA, hadb, f0, f1⟩ := hr.edge (i := m) (by omega)
          have hhit : S.hit j (m + 1) = (eb == (j : Int)) := by
            simp only [MM.hit, Nat.succ_eq_add_one] at hdv ⊢
            rw [hdv]
            simp [ht, List.getD, hed]
          rw [hA] at c0
          have hcl : ∀ q, (ad.add q).block < wr.heap.size := fun q => by have := hr.hhi; rw [block_of_add]; omega
          simp only [Nat.succ_eq_add_one] at *
          cases hq : (eb == (j : Int)) with
          | true =>
            have HHIT := Lib.hid (show S.hit j (m + 1) = true by rw [hhit, hq])
            clear hdv hhit hx hed hA
            have hd1 : decide (0 < xt) = true := by simpa using ht
            go_wp2
            go_ret
            exact ⟨ret_bool (by rw [HT.out, MM.any_hit hlt HHIT.out]; rfl), hfr.alloc _⟩
          | false =>
            have HHIT := Lib.hid (show S.hit j (m + 1) = false by rw [hhit, hq])
            clear hdv hhit hx hed hA
            have hd1 : decide (0 < xt) = true := by simpa using ht
            go_wp2
            go_roundw
            case rel => exact ⟨m + 1 + 1, by omega, by go_num, hfr.alloc _, Lib.hid (MM.any_succ HN.out HHIT.out)⟩
            case measure => simp [intOf]; omega
        · have HHIT := Lib.hid (show S.hit j k = false by simp only [MM.hit]; rw [hdv]; simp [ht])
          have hd1 : decide (0 < xt) = false := by simpa using ht
          clear hdv hx
          go_wp2
          go_roundw
          case rel => exact ⟨k + 1, by omega, by go_num, hfr.alloc _, Lib.hid (MM.any_succ HN.out HHIT.out)⟩
          case measure => simp [intOf]; omega
      · have hkl : k = S.devs.length := by omega
        obtain ⟨x, hx, hc⟩ := hr.node (i := j) (by omega)
        have HF := Lib.hid (show S.taken j = decide (0 < x) by rw [HT.out, ← hkl, HN.out, MM.nd_get hx]; rfl)
        clear hx hkl
        go_wp2
        go_ret
        exact ⟨ret_bool HF.out.symm, hfr⟩

theorem send1_any (w : World) (a : Addr) (t xt xs : Int) (xe xd : Bool) (hc : w.cell? a = some (.int .i64 t)) (ha : a.block < w.heap.size) :
    Calls Try.prog 69 #[.agg #[.int .i64 xt, .int .i64 xs, .bool xe, .bool xd], .pointer (some a)] w fun e w' => e = .returned (.bool (xt == t)) ∧ Fr [] w w' := by
  go_enter Try.func69, Try.ntmps69
  go_wp2
  go_ret
  exact ⟨rfl, (Fr.refl _ _).alloc _⟩

namespace MM
theorem any_take {l : List MD} {f : MD → Bool} {k : Nat} {x : MD} (h : (l.take k).any f = false) (hx : l[k]? = some x) (hf : f x = false) : (l.take (k + 1)).any f = false := by
  have hl := (List.getElem?_eq_some_iff.1 hx).1
  have he : l[k] = x := by rw [List.getElem?_eq_getElem hl] at hx; simpa using hx
  rw [List.take_succ_eq_append_getElem hl, List.any_append, h, he]; simp [hf]
theorem any_here {l : List MD} {f : MD → Bool} {k : Nat} {x : MD} (hx : l[k]? = some x) (hf : f x = true) : l.any f = true := by
  rw [List.any_eq_true]; exact ⟨x, List.mem_of_getElem? hx, hf⟩
end MM

def IdxPost (b : Bool) (w : World) (e : Ending) (w' : World) : Prop := ∃ i : Int, e = .returned (.int .i64 i) ∧ decide (0 ≤ i) = b ∧ Fr [] w w'

set_option maxHeartbeats 1000000 in
theorem idx_any (w : World) (L : PL) (S : MM) (h : MirrorAt w L S) (a : Addr) (t : Int) (hc : w.cell? a = some (.int .i64 t)) (ha : a.block < w.heap.size) :
    Calls Try.prog 87 #[.slice (some ⟨L.bd, 0, none⟩) S.devs.length S.devs.length, .func (.func 69) #[] #[.pointer (some a)]] w (IdxPost (S.moves t) w) := by
  have hdl : S.devs.length ≤ 121 := by have := h.ld; have := h.le; omega
  have HH := Lib.hid h
  have HC := Lib.hid hc
  clear h hc
  go_enter Try.func87, Try.ntmps87
  go_wp2_with fail
  go_loopw [8] (fun i wr => ∃ k : Nat, k ≤ S.devs.length ∧ i = .int .i64 k ∧ Fr [] w wr ∧ Hid ((S.devs.take k).any (fun x => x.tote == t) = false)) (fun i _ => S.devs.length - (intOf i).toNat)
  case atStart => exact ⟨0, Nat.zero_le _, rfl, Fr.refl _ _, Lib.hid (by rfl)⟩
  case round =>
    obtain ⟨k, hk, rfl, hfr, HN⟩ := hrel
    by_cases hlt : k < S.devs.length
    · have hr := HH.out.fr0 hfr
      obtain ⟨⟨xt, xs, xe, xd⟩, hx, e0, e1, e2, e3⟩ := hr.dev_get hlt
      simp only at e0 e1 e2 e3
      have hc := fun W (hF : Fr [] w W) => send1_any W a t xt xs xe xd ((hF.cell ha (by simp)).trans HC.out) (Nat.lt_of_lt_of_le ha hF.size)
      have HS := Lib.hid hc
      have HX := Lib.hid hx
      clear hc hx hr
      cases hq : (xt == t) with
      | true =>
        rw [hq] at HS
        go_wp2_with (go_at_call 69; refine (HS.out _ hfr).mono ?_; rintro e w1 ⟨rfl, hf1⟩)
        go_ret
        exact ⟨k, rfl, by rw [show S.moves t = true from MM.any_here HX.out hq]; simp, hfr.trans hf1⟩
      | false =>
        rw [hq] at HS
        go_wp2_with (go_at_call 69; refine (HS.out _ hfr).mono ?_; rintro e w1 ⟨rfl, hf1⟩)
        go_roundw
        case rel => exact ⟨k + 1, by omega, by go_num, hfr.trans hf1, Lib.hid (MM.any_take HN.out HX.out hq)⟩
        case measure => simp [intOf]; omega
    · have hno : S.moves t = false := by
        have := HN.out
        rwa [List.take_of_length_le (by omega)] at this
      have HNO := Lib.hid hno
      clear hno
      go_wp2_with fail
      go_ret
      exact ⟨-1, rfl, by rw [HNO.out]; rfl, hfr⟩

theorem contains_any (w : World) (L : PL) (S : MM) (h : MirrorAt w L S) (a : Addr) (t : Int) (hc : w.cell? a = some (.int .i64 t)) (ha : a.block < w.heap.size) :
    Calls Try.prog 68 #[.slice (some ⟨L.bd, 0, none⟩) S.devs.length S.devs.length, .func (.func 69) #[] #[.pointer (some a)]] w fun e w' => e = .returned (.bool (S.moves t)) ∧ Fr [] w w' := by
  have HI := Lib.hid (idx_any w L S h a t hc ha)
  clear h hc
  go_enter Try.func68, Try.ntmps68
  go_wp2_with fail
  refine HI.out.mono ?_
  rintro e w1 ⟨i, rfl, hi, hf⟩
  have HB := Lib.hid hi
  clear hi
  go_wp2_with fail
  go_ret
  exact ⟨ret_bool HB.out, hf⟩
end Go.Proofs.Ytncggholhmgoaaa
