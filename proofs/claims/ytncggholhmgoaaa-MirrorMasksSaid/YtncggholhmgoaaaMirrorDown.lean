/- The mirror's Down. -/
import Derived.Test.YtncggholhmgoaaaMirrorApply
namespace Go.Proofs.Ytncggholhmgoaaa
set_option linter.unusedVariables false
set_option linter.unusedSimpArgs false
open Go.RowKit

def MM.downsTo (S : MM) (k : Nat) : List Int := ((List.range k).filter fun d => (S.devs.getD d MD.zero).down).map fun (d : Nat) => (d : Int)
theorem MM.downsTo_all (S : MM) : S.downsTo S.devs.length = S.downs := rfl
theorem MM.downsTo_yes {S : MM} {k : Nat} {x : MD} (hx : S.devs[k]? = some x) (h : x.down = true) : S.downsTo (k + 1) = S.downsTo k ++ [(k : Int)] := by
  have : (S.devs.getD k MD.zero).down = true := by simp [List.getD, hx, h]
  simp only [downsTo, List.range_succ, List.filter_append, List.filter_cons, List.filter_nil, this, if_true, List.map_append, List.map_cons, List.map_nil]
theorem MM.downsTo_no {S : MM} {k : Nat} {x : MD} (hx : S.devs[k]? = some x) (h : x.down = false) : S.downsTo (k + 1) = S.downsTo k := by
  have : (S.devs.getD k MD.zero).down = false := by simp [List.getD, hx, h]
  simp only [downsTo, List.range_succ, List.filter_append, List.filter_cons, List.filter_nil, this, Bool.false_eq_true, if_false, List.map_append, List.map_cons, List.map_nil, List.append_nil]
theorem MM.downsTo_len (S : MM) (k : Nat) : (S.downsTo k).length ≤ k := by
  have := List.length_filter_le (fun d => (S.devs.getD d MD.zero).down) (List.range k)
  simpa [downsTo] using this

def DownPost (l : List Int) (w : World) (e : Ending) (w' : World) : Prop :=
  ∃ A c, e = .returned (.slice A l.length c) ∧ w'.ownsRow w.heap.size 3 1 (.slice A l.length c) l.length (intCells l) ∧ Fr [] w w'

def DownRel (w : World) (S : MM) (v i : Value) (wr : World) : Prop :=
  ∃ k : Nat, k ≤ S.devs.length ∧ i = .int .i64 k ∧ wr.ownsRow w.heap.size 3 1 v (S.downsTo k).length (intCells (S.downsTo k)) ∧ Fr [] w wr

set_option maxHeartbeats 2000000 in
set_option maxRecDepth 100000 in
theorem mDown_any (w : World) (L : PL) (S : MM) (h : MirrorAt w L S) :
    Calls Try.prog 50 #[.pointer (some ⟨L.p, 0, none⟩)] w (DownPost S.downs w) := by
  have c3 := h.c3
  have hdl : S.devs.length ≤ 121 := by have := h.ld; have := h.le; omega
  have HH := Lib.hid h
  obtain ⟨i3, hi3, hz3, hs3, hb3⟩ := info_parts info3
  clear h
  go_enter Try.func50, Try.ntmps50
  go_wp2_with fail
  go_loopw [3, 11] (fun v i wr => DownRel w S v i wr) (fun _ i _ => S.devs.length - (intOf i).toNat)
  case atStart => exact ⟨0, Nat.zero_le _, rfl, World.ownsRow_nil _ _ _ _, Fr.refl _ _⟩
  case round =>
    obtain ⟨k, hk, rfl, hown, hfr⟩ := hrel
    obtain ⟨A, c, hv, hcA⟩ := own_form hown
    rename_i v _
    subst hv
    by_cases hlt : k < S.devs.length
    · have hr := HH.out.fr0 hfr
      obtain ⟨⟨xt, xs, xe, xd⟩, hx, e0, e1, e2, e3⟩ := hr.dev_get hlt
      simp only at e0 e1 e2 e3
      have hlen := S.downsTo_len k
      cases hxd : xd with
      | true =>
        subst hxd
        have HY := Lib.hid (MM.downsTo_yes hx rfl)
        have HO := Lib.hid (own_fr hown (((Fr.refl [] wr).alloc (.cells #[.int .i64 xt, .int .i64 xs, .bool xe, .bool true] 125)).alloc (.cells #[.int .i64 (k : Int)] 3)) (by simp))
        have HR := Lib.hid (Reads.of_blk (B := wr.heap.size + 2) (S := []) (n := 1) (size := 1) (Blk.new_at (wr.alloc (.cells #[.int .i64 xt, .int .i64 xs, .bool xe, .bool true] 125)) 3 #[.int .i64 (k : Int)] (wr.heap.size + 1) (by simp)) rfl (by omega) (by simp))
        have HQ2 := Lib.hid (show (S.downsTo k).length + 1 ≤ maxLen by simp only [maxLen]; omega)
        have HQ3 := Lib.hid (show ((S.downsTo k).length + 1) * 8 ≤ 140737488355328 by omega)
        have HQ4 := Lib.hid (show w.heap.size ≤ ((wr.alloc (.cells #[.int .i64 xt, .int .i64 xs, .bool xe, .bool true] 125)).alloc (.cells #[.int .i64 (k : Int)] 3)).heap.size by have := hfr.size; simp; omega)
        have HB := Lib.hid (fun g (hg : (Value.slice A (S.downsTo k).length c).ownBlock = some g) => (own_lt hown hg).1)
        clear hx hr hown hlen
        generalize hL : (S.downsTo k).length = n at *
        go_wp2_with (at_builtin; refine wpList_append_any _ rfl (.tmp 18) (.tmp 20) 57 rfl w.heap.size 3 i3 _ 1 8 Try.underlying57 hi3 hz3 hs3 hb3 rfl (by decide) (.slice A n c) n (intCells (S.downsTo k)) rfl HO.out (wr.heap.size + 2) [] (some ⟨wr.heap.size + 1, 0, none⟩) 1 1 [.int .i64 (k : Int)] rfl HR.out (by simp [Value.oneCell']) HQ2.out HQ3.out HQ4.out ?_; intro v2 w2 hown2 hg2 hat2)
        go_roundw
        case rel =>
          have hd := HY.out
          refine ⟨k + 1, by omega, by go_num, ?_, ((hfr.alloc _).alloc _).grown hg2 (fun g hg => .inr (HB.out g hg))⟩
          rw [hd, List.length_append, hL]
          have : intCells (S.downsTo k ++ [(k : Int)]) = intCells (S.downsTo k) ++ [.int .i64 (k : Int)] := by simp [intCells]
          rw [this]
          exact hown2
        case measure => simp [intOf]; omega
      | false =>
        subst hxd
        have HY := Lib.hid (MM.downsTo_no hx rfl)
        have HO := Lib.hid hown
        clear hx hr hown hlen
        go_wp2_with fail
        go_roundw
        case rel => exact ⟨k + 1, by omega, by go_num, by rw [HY.out]; exact own_fr HO.out ((Fr.refl [] wr).alloc _) (by simp), hfr.alloc _⟩
        case measure => simp [intOf]; omega
    · have hkl : k = S.devs.length := by omega
      have HO := Lib.hid (show wr.ownsRow w.heap.size 3 1 (.slice A (S.downsTo k).length c) S.downs.length (intCells S.downs) by rw [← MM.downsTo_all, ← hkl]; exact hown)
      have HL := Lib.hid (show (S.downsTo k).length = S.downs.length by rw [hkl]; rfl)
      clear hkl hown
      go_wp2_with fail
      go_ret
      exact ⟨A, c, by rw [HL.out]; rfl, by have := HO.out; rw [HL.out] at this; exact this, hfr⟩
end Go.Proofs.Ytncggholhmgoaaa
