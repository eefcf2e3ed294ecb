/- Plain facts on the plant's model. No program in sight. -/
import Derived.Test.YtncggholhmgoaaaPlantModel
namespace Go.Proofs.Ytncggholhmgoaaa
set_option linter.unusedVariables false
set_option linter.unusedSimpArgs false
namespace PM

theorem move_cases (S : PM) (i : Nat) (d : Dv) (e : Int × Int) (t : Tl) :
    ((S.move i d e t).1 = S ∧ ((S.move i d e t).2.2 = true → (S.move i d e t).2.1.dev = t.dev ∧ (S.move i d e t).2.1.seq = t.seq)) ∨
    (S.move i d e t = ({ S with nodes := (S.nodes.set e.1.toNat 0).set e.2.toNat t.a, devs := S.devs.set i { d with did := true, seq := t.seq, tote := t.a }, moves := S.moves + 1 }, done t, true) ∧
      S.nd e.1 = t.a ∧ t.a ≠ 0 ∧ ¬ 0 < S.nd e.2) := by
  unfold move
  split
  · left; exact ⟨rfl, fun _ => ⟨rfl, rfl⟩⟩
  · split
    · left; exact ⟨rfl, fun h => by cases h⟩
    · split
      · left; exact ⟨rfl, fun _ => ⟨rfl, rfl⟩⟩
      · split
        · left; exact ⟨rfl, fun _ => ⟨rfl, rfl⟩⟩
        · right
          rename_i h1 h2
          refine ⟨rfl, ?_, ?_, h2⟩
          · exact Classical.byContradiction fun h => h1 (.inl h)
          · exact fun h => h1 (.inr h)

theorem works_set (S : PM) {i : Nat} {d d' : Dv} (hd : S.devs[i]? = some d) (hb : d'.broken = d.broken) (n : List Int) (m : Int) (x : Int) :
    ({ S with nodes := n, devs := S.devs.set i d', moves := m } : PM).works x = S.works x := by
  unfold works noDev
  simp only [List.length_set]
  split
  · rfl
  · congr 1
    rw [List.getElem?_set]
    split
    · rename_i h
      rw [← h]
      split
      · rw [hd]; simp [hb]
      · rename_i h2; exact absurd (List.getElem?_eq_some_iff.1 hd).1 h2
    · rfl

/-- A telegram that is heard does one of these. -/
theorem hear_cases (S : PM) (t : Tl) :
    ((S.hear t).1 = S ∧ ((S.hear t).2.2 = true → (S.hear t).2.1.dev = t.dev ∧ (S.hear t).2.1.seq = t.seq)) ∨
    ∃ d e, S.devs[t.dev.toNat]? = some d ∧ S.edges[t.dev.toNat - 1]? = some e ∧ S.works t.dev = true ∧ t.kind = 1 ∧
      S.hear t = ({ S with nodes := (S.nodes.set e.1.toNat 0).set e.2.toNat t.a, devs := S.devs.set t.dev.toNat { d with did := true, seq := t.seq, tote := t.a }, moves := S.moves + 1 }, done t, true) ∧
      S.nd e.1 = t.a ∧ t.a ≠ 0 ∧ ¬ 0 < S.nd e.2 := by
  unfold hear
  split
  · left; exact ⟨rfl, fun h => by cases h⟩
  · rename_i hw
    split
    · rename_i d e hd he
      split
      · rename_i hk
        rcases move_cases S t.dev.toNat d e t with h | ⟨h1, h2, h3, h4⟩
        · left; exact h
        · right; exact ⟨d, e, hd, he, by simpa using hw, hk, h1, h2, h3, h4⟩
      · split
        · left; exact ⟨rfl, fun _ => ⟨rfl, rfl⟩⟩
        · left; exact ⟨rfl, fun h => by cases h⟩
    · left; exact ⟨rfl, fun h => by cases h⟩

theorem hear_moves (S : PM) (t : Tl) : (S.hear t).1.moves = S.moves ∨ (S.hear t).1.moves = S.moves + 1 := by
  rcases hear_cases S t with ⟨h, _⟩ | ⟨d, e, _, _, _, _, h, _⟩
  · rw [h]; exact .inl rfl
  · rw [h]; exact .inr rfl
theorem hear_works (S : PM) (t : Tl) (x : Int) : (S.hear t).1.works x = S.works x := by
  rcases hear_cases S t with ⟨h, _⟩ | ⟨d, e, hd, _, _, _, h, _⟩
  · rw [h]
  · rw [h]; exact works_set S hd (d' := { d with did := true, seq := t.seq, tote := t.a }) rfl _ _ x
theorem hear_dev (S : PM) (t : Tl) (h : (S.hear t).2.2 = true) : (S.hear t).2.1.dev = t.dev ∧ (S.hear t).2.1.seq = t.seq := by
  rcases hear_cases S t with ⟨_, h1⟩ | ⟨d, e, _, _, _, _, h1, _⟩
  · exact h1 h
  · rw [h1]; exact ⟨rfl, rfl⟩
theorem hear_off' (S : PM) (t : Tl) (h : S.works t.dev = false) : S.hear t = (S, Tl.zero, false) := by simp [hear, h]
/-- Heard again: the same answer, and nothing more is done. -/
theorem hear_again (S : PM) (t : Tl) : (S.hear t).1.hear t = S.hear t := by
  rcases hear_cases S t with ⟨h, _⟩ | ⟨d, e, hd, he, hw, hk, h, _⟩
  · rw [h]
  · have hw' := hear_works S t t.dev
    rw [hw] at hw'
    generalize hr : S.hear t = r at *
    subst h
    have hl := (List.getElem?_eq_some_iff.1 hd).1
    simp only at hw'
    unfold hear
    rw [if_neg (by rw [hw']; simp)]
    simp only [List.getElem?_set, if_pos, hl, he, hk]
    simp [move]
theorem put_moves (S : PM) (t n : Int) : (S.put t n).2.moves = S.moves := by unfold put; split; rfl; split; rfl; split <;> rfl
theorem fault_moves (S : PM) (d : Int) (x : Bool) : (S.fault d x).1.moves = S.moves := by
  unfold fault; split
  · rfl
  · unfold setBroken; split <;> rfl
end PM
end Go.Proofs.Ytncggholhmgoaaa
