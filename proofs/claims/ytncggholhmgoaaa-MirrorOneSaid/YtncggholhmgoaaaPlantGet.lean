/- The plant's calls that only read. -/
import Derived.Test.YtncggholhmgoaaaPlantAt
import Derived.Lib.Hide
namespace Go.Proofs.Ytncggholhmgoaaa
set_option linter.unusedVariables false
set_option linter.unusedSimpArgs false
open Go.RowKit

theorem noDev_any (w : World) (L : PL) (S : PM) (h : PlantAt w L S) (d : Int) :
    Calls Try.prog 58 #[.pointer (some ⟨L.p, 0, none⟩), .int .i64 d] w fun e w' => e = .returned (.bool (S.noDev d)) ∧ w' = w := by
  have c2 := h.c2
  go_enter Try.func58, Try.ntmps58
  by_cases h1 : d < 1
  · go_wp2
    go_ret
    simp [PM.noDev, h1]
  · go_wp2
    go_ret
    have : decide (d < 1) = false := by simp; omega
    simp [PM.noDev, this]

theorem moves_any (w : World) (L : PL) (S : PM) (h : PlantAt w L S) :
    Calls Try.prog 21 #[.pointer (some ⟨L.p, 0, none⟩)] w fun e w' => e = .returned (.int .i64 S.moves) ∧ w' = w := by
  have c3 := h.c3
  go_enter Try.func21, Try.ntmps21
  go_wp2
  go_ret
  exact ⟨rfl, rfl⟩

theorem works_any (w : World) (L : PL) (S : PM) (h : PlantAt w L S) (d : Int) :
    Calls Try.prog 23 #[.pointer (some ⟨L.p, 0, none⟩), .int .i64 d] w fun e w' => e = .returned (.bool (S.works d)) ∧ w' = w := by
  have c2 := h.c2
  cases hb : S.noDev d with
  | true =>
    go_enter Try.func23, Try.ntmps23
    go_wp2_with (go_at_call 58; refine (noDev_any _ L S h _).mono ?_; rintro e w' ⟨rfl, rfl⟩)
    go_ret
    simp [PM.works, hb]
  | false =>
    have h2 : 1 ≤ d ∧ d < S.devs.length := by simpa [PM.noDev] using hb
    obtain ⟨h2, h3⟩ := h2
    obtain ⟨i, rfl⟩ := Int.eq_ofNat_of_zero_le (show 0 ≤ d by omega)
    obtain ⟨dv, hdv, e0, e1, e2, e3⟩ := h.dev_get (i := i) (by omega)
    have H := Lib.hid hdv; clear hdv
    go_enter Try.func23, Try.ntmps23
    go_wp2_with (go_at_call 58; refine (noDev_any _ L S h _).mono ?_; rintro e w' ⟨rfl, rfl⟩)
    go_ret
    have := H.out
    simp [PM.works, hb, this]

theorem index_any (w : World) (g n : Nat) (l : List Int) (hg : Blk w g 3 (intCells l)) (hn : n = l.length) (hl : l.length ≤ 1000) (t : Int) :
    Calls Try.prog 57 #[.slice (some ⟨g, 0, none⟩) n n, .int .i64 t] w fun e w' => e = .returned (.int .i64 (findIdx l t)) ∧ w' = w := by
  subst hn
  go_enter Try.func57, Try.ntmps57
  go_wp2
  go_loop [8] (fun i => ∃ k : Nat, k ≤ l.length ∧ i = .int .i64 k ∧ t ∉ l.take k) (fun i => l.length - (intOf i).toNat)
  case atStart => exact ⟨0, Nat.zero_le _, rfl, by simp⟩
  case round =>
    obtain ⟨k, hk, rfl, hno⟩ := hrel
    by_cases hlt : k < l.length
    · have hc : w.cell? ⟨g, k, none⟩ = some (.int .i64 l[k]) := by rw [hg.cell]; simp [intCells, hlt]
      have HN := Lib.hid hno; clear hno
      by_cases he : t = l[k]
      · have hb : (t == l[k]) = true := by simp [he]
        have HE := Lib.hid he; clear he
        go_wp2
        go_ret
        exact ⟨ret_int (findIdx_of hlt HE.out HN.out).symm, rfl⟩
      · have hb : (t == l[k]) = false := by simp [he]
        have HE := Lib.hid he; clear he
        go_wp2
        go_round
        case rel =>
          exact ⟨k + 1, by omega, by go_num, not_take_succ hlt HE.out HN.out⟩
        case measure => simp [intOf]; omega
    · have hm : t ∉ l := by rw [List.take_of_length_le (by omega)] at hno; exact hno
      have HN := Lib.hid hm; clear hm hno
      go_wp2
      go_ret
      exact ⟨ret_int (findIdx_no HN.out).symm, rfl⟩

theorem where_any (w : World) (L : PL) (S : PM) (h : PlantAt w L S) (t : Int) :
    Calls Try.prog 20 #[.pointer (some ⟨L.p, 0, none⟩), .int .i64 t] w fun e w' => e = .returned (.int .i64 (S.whereIs t)) ∧ w' = w := by
  have c1 := h.c1
  have hl := h.ln
  by_cases h1 : t < 1
  · go_enter Try.func20, Try.ntmps20
    go_wp2
    go_ret
    simp [PM.whereIs, h1]
  · go_enter Try.func20, Try.ntmps20
    go_wp2_with (go_at_call 57; refine (index_any _ L.bn _ S.nodes h.hn rfl (by omega) _).mono ?_; rintro e w' ⟨rfl, rfl⟩)
    go_ret
    have : ¬ t < 1 := by omega
    simp [PM.whereIs, this]

theorem at_any (w : World) (L : PL) (S : PM) (h : PlantAt w L S) (n : Int) :
    Calls Try.prog 33 #[.pointer (some ⟨L.p, 0, none⟩), .int .i64 n] w fun e w' => e = .returned (.int .i64 (S.at_ n)) ∧ w' = w := by
  have c1 := h.c1
  by_cases h1 : n < 0 ∨ (S.nodes.length : Int) ≤ n
  · have HS := Lib.hid (PM.at_out h1)
    by_cases h2 : n < 0
    · clear h1
      go_enter Try.func33, Try.ntmps33
      go_wp2
      go_ret
      exact ⟨ret_int HS.out.symm, rfl⟩
    · have h3 : (S.nodes.length : Int) ≤ n := by omega
      clear h1
      go_enter Try.func33, Try.ntmps33
      go_wp2
      go_ret
      exact ⟨ret_int HS.out.symm, rfl⟩
  · have h2 : 0 ≤ n := by omega
    obtain ⟨i, rfl⟩ := Int.eq_ofNat_of_zero_le h2
    have hi : i < S.nodes.length := by omega
    have hc := h.node hi
    have HS := Lib.hid (PM.at_in hi)
    clear h1
    go_enter Try.func33, Try.ntmps33
    go_wp2
    go_ret
    exact ⟨ret_int HS.out.symm, rfl⟩
end Go.Proofs.Ytncggholhmgoaaa
