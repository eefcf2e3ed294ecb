/- layout.name, and the closure 'out' of layout.Check. -/
import Derived.Test.YtncggholhmgoaaaBase
import Derived.Test.YtncggholhmgoaaaLayModel
import Derived.Test.YtncggholhmgoaaaProg
import Derived.WalkKit
import Derived.Outline
import Derived.KernelRfl
import Derived.Lib.ConvBytes
namespace Go.Proofs.Ytncggholhmgoaaa
set_option linter.unusedVariables false
set_option linter.unusedSimpArgs false
open Go.RowKit

theorem ret_bool' {a b : Bool} (h : a = b) : Ending.returned (.bool a) = .returned (.bool b) := by rw [h]

theorem fr_bytes (w : World) (e : TypeId) (s : ByteArray) : Fr [] w (Lib.bytesWorld w e s) :=
  ⟨rfl, rfl, rfl, by rw [Lib.bytesWorld_size]; omega, fun k hk _ => Lib.bytesWorld_at_old w e s k hk⟩

set_option maxHeartbeats 1000000 in
theorem name_any (w : World) (s : ByteArray) (hs : s.size ≤ 140737488351232) :
    Calls Try.prog 82 #[.string s] w fun e w' => e = .returned (.bool (nameOk s)) ∧ Fr [] w w' := by
  have kc := fun W => Lib.run_convert_string_bytes (P := Try.prog) W 9 29 5 s Try.underlying9 Try.underlying29 Try.underlying5
  have hF := fr_bytes w 5 s
  go_enter Try.func82, Try.ntmps82
  go_wp2
  go_loop [8] (fun i => ∃ k : Nat, k ≤ s.size ∧ i = .int .i64 k ∧ ∀ j, j < k → byteOk j (byteAt s j) = true) (fun i => s.size - (intOf i).toNat)
  case atStart => exact ⟨0, Nat.zero_le _, rfl, by intro j hj; omega⟩
  case round =>
    obtain ⟨k, hk, rfl, hall⟩ := hrel
    have HA := Lib.hid hall; clear hall
    by_cases hlt : k < s.size
    · have hc := Lib.bytesWorld_cell w 5 s k hlt
      obtain ⟨b, hb⟩ : ∃ b : Int, b = byteAt s k := ⟨_, rfl⟩
      rw [show (((s.data.toList.getD k 0).toNat : Nat) : Int) = b by rw [hb]; rfl] at hc
      have HB := Lib.hid hb; clear hb
      go_wp2
      all_goals first
        | (go_round
           case rel =>
             refine ⟨k + 1, by omega, by go_num, fun j hj => ?_⟩
             rcases Nat.lt_succ_iff_lt_or_eq.1 hj with h | h
             · exact HA.out j h
             · subst h; rw [← HB.out, byteOk_iff]; omega
           case measure => simp [intOf]; omega)
        | (go_ret
           refine ⟨ret_bool' (nameOk_no hlt ?_).symm, hF⟩
           rw [← HB.out]; exact byteOk_no (by (try simp only [beq_iff_eq] at *); omega))
    · go_wp2
      all_goals
        go_ret
        refine ⟨ret_bool' ?_, hF⟩
        rw [nameOk_of (fun j hj => HA.out j (by omega))]
        have e1 : decide (1 ≤ s.size) = decide (1 ≤ (s.size : Int)) := by rw [decide_eq_decide]; omega
        have e2 : decide (s.size ≤ 8) = decide ((s.size : Int) ≤ 8) := by rw [decide_eq_decide]; omega
        rw [e1, e2]
        first
          | (rw [decide_eq_true (show 1 ≤ (s.size : Int) by assumption)]; rfl)
          | (rw [decide_eq_false (show ¬ 1 ≤ (s.size : Int) by omega)]; rfl)

theorem out_any (w : World) (a : Addr) (n i : Int) (hn : w.cell? a = some (.int .i64 n)) :
    Calls Try.prog 83 #[.int .i64 i, .pointer (some a)] w fun e w' => e = .returned (.bool (decide (i < 0) || decide (n ≤ i))) ∧ w' = w := by
  by_cases h : i < 0
  · go_enter Try.func83, Try.ntmps83
    go_wp2
    go_ret
    exact ⟨ret_bool' (by simp [h]), rfl⟩
  · go_enter Try.func83, Try.ntmps83
    go_wp2
    go_ret
    have h' : decide (i < 0) = false := by simp; omega
    exact ⟨ret_bool' (by simp [h']), rfl⟩
end Go.Proofs.Ytncggholhmgoaaa
