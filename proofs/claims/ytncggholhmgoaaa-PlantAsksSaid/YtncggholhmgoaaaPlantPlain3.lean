/- Plain facts on the plant's model: what a device tells when it is asked. No program in sight. -/
import Derived.Test.YtncggholhmgoaaaPlantPlain2
import Derived.Test.YtncggholhmgoaaaPlantNew
namespace Go.Proofs.Ytncggholhmgoaaa
set_option linter.unusedVariables false
set_option linter.unusedSimpArgs false
namespace PM

/-- What PlantAsks keeps: lst holds each device's last move. -/
structure Lasts (S : PM) (lst : List Tl) (n k : Nat) : Prop where
  len : S.devs.length = n + 1
  elen : S.edges.length = n
  llen : lst.length = n + 1
  last : ∀ (d : Nat) (dv : Dv), S.devs[d]? = some dv → ∃ t : Tl, lst[d]? = some t ∧ t.seq = dv.seq ∧ t.a = dv.tote
  m0 : 0 ≤ S.moves
  m1 : S.moves ≤ k

variable {S : PM} {lst : List Tl} {n k : Nat}
theorem Lasts.mono (h : Lasts S lst n k) : Lasts S lst n (k + 1) := { h with m1 := by have := h.m1; omega }
theorem Lasts.put (h : Lasts S lst n k) (t x : Int) : Lasts (S.put t x).2 lst n (k + 1) := by
  obtain ⟨a, b, c⟩ := put_keep S t x
  have := h.m0
  have := h.m1
  exact ⟨by rw [a]; exact h.len, by rw [b]; exact h.elen, h.llen, by rw [a]; exact h.last, by omega, by omega⟩
theorem Lasts.fault (h : Lasts S lst n k) (d : Int) (x : Bool) : Lasts (S.fault d x).1 lst n (k + 1) := by
  obtain ⟨a, b, c⟩ := fault_keep S d x
  have := h.m0
  have := h.m1
  have hd : (S.fault d x).1.devs = S.devs ∨ ∃ dv, S.devs[d.toNat]? = some dv ∧ (S.fault d x).1.devs = S.devs.set d.toNat { dv with broken := x } := by
    unfold PM.fault; split
    · exact .inl rfl
    · unfold setBroken; split
      · rename_i dv hdv; exact .inr ⟨dv, hdv, rfl⟩
      · exact .inl rfl
  refine ⟨?_, by rw [a]; exact h.elen, h.llen, ?_, by omega, by omega⟩
  · rcases hd with hd | ⟨dv, _, hd⟩
    · rw [hd]; exact h.len
    · rw [hd, List.length_set]; exact h.len
  · rcases hd with hd | ⟨dv, h1, hd⟩
    · rw [hd]; exact h.last
    · rw [hd]
      intro i dv' hi
      rw [List.getElem?_set] at hi
      split at hi
      · rename_i e
        split at hi
        · simp only [Option.some.injEq] at hi
          subst hi e
          obtain ⟨t, a1, a2, a3⟩ := h.last _ _ h1
          exact ⟨t, a1, a2, a3⟩
        · cases hi
      · exact h.last i dv' hi
/-- A telegram is heard: nothing moves, or its device's last move is told. -/
theorem Lasts.hear (h : Lasts S lst n k) (t : Tl) (h0 : 0 ≤ t.dev) :
    ((S.hear t).1 = S ∧ (S.hear t).1.moves = S.moves) ∨
    ((S.hear t).1.moves = S.moves + 1 ∧ (S.hear t).2 = (done t, true) ∧ t.dev.toNat < n + 1 ∧ Lasts (S.hear t).1 (lst.set t.dev.toNat (done t)) n (k + 1)) := by
  have h3 := h.m0
  have h4 := h.m1
  rcases hear_cases S t with ⟨h1, _⟩ | ⟨d, e, hd, _, _, _, h1, _⟩
  · exact .inl ⟨h1, by rw [h1]⟩
  · have hl := (List.getElem?_eq_some_iff.1 hd).1
    rw [h.len] at hl
    refine .inr ?_
    rw [h1]
    refine ⟨rfl, rfl, hl, ⟨by simp only [List.length_set]; exact h.len, h.elen, by rw [List.length_set]; exact h.llen, ?_, by simp only; omega, by simp only; omega⟩⟩
    intro i dv hi
    simp only at hi
    rw [List.getElem?_set] at hi
    rw [List.getElem?_set]
    split at hi
    · rename_i e2
      split at hi
      · simp only [Option.some.injEq] at hi
        subst hi
        rw [if_pos e2, if_pos (by rw [h.llen]; exact hl)]
        exact ⟨_, rfl, rfl, rfl⟩
      · cases hi
    · rename_i e2
      rw [if_neg e2]
      exact h.last i dv hi
/-- A device is asked: it tells its last move, or nothing. -/
theorem Lasts.ask (h : Lasts S lst n k) (d : Nat) (q : Int) (h1 : 1 ≤ d) (h2 : d ≤ n) :
    ∃ t, lst[d]? = some t ∧ S.hear ⟨6, d, q, 0, 0⟩ = (S, if S.works d = true then ⟨7, d, q, t.seq, t.a⟩ else Tl.zero, S.works d) := by
  have hd : S.devs[d]? = some (S.devs[d]'(by rw [h.len]; omega)) := List.getElem?_eq_getElem _
  obtain ⟨t, ht, hs, ha⟩ := h.last _ _ hd
  refine ⟨t, ht, ?_⟩
  have hw := works_of hd h1
  have he : S.edges[d - 1]? = some (S.edges[d - 1]'(by rw [h.elen]; omega)) := List.getElem?_eq_getElem _
  cases hb : (S.devs[d]'(by rw [h.len]; omega)).broken with
  | true =>
    rw [hb] at hw
    rw [hear_off' S _ hw, hw]
    simp
  | false =>
    rw [hb] at hw
    rw [hear_ask S d _ _ q hd hb he h1, hw, hs, ha]
    simp
theorem Lasts.init (l : Lay) : Lasts (PM.init l) (List.replicate (l.edges.length + 1) Tl.zero) l.edges.length 0 := by
  refine ⟨by simp [PM.init], rfl, by simp, ?_, by simp [PM.init], by simp [PM.init]⟩
  intro d dv hd
  simp only [PM.init, List.getElem?_replicate] at hd
  split at hd
  · rename_i h
    simp only [Option.some.injEq] at hd
    subst hd
    exact ⟨Tl.zero, by rw [List.getElem?_replicate, if_pos h], rfl, rfl⟩
  · cases hd
end PM
end Go.Proofs.Ytncggholhmgoaaa
