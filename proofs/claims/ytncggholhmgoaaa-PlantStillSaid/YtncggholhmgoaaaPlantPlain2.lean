/- More plain facts on the plant's model: what stays at one device. No program in sight. -/
import Derived.Test.YtncggholhmgoaaaPlantPlain
namespace Go.Proofs.Ytncggholhmgoaaa
set_option linter.unusedVariables false
set_option linter.unusedSimpArgs false
namespace PM

theorem put_keep (S : PM) (t n : Int) : (S.put t n).2.devs = S.devs ∧ (S.put t n).2.edges = S.edges ∧ (S.put t n).2.moves = S.moves := by
  unfold put; split
  · exact ⟨rfl, rfl, rfl⟩
  · split
    · exact ⟨rfl, rfl, rfl⟩
    · split <;> exact ⟨rfl, rfl, rfl⟩
theorem setBroken_keep (S : PM) (i : Nat) (x : Bool) : (S.setBroken i x).edges = S.edges ∧ (S.setBroken i x).nodes = S.nodes ∧ (S.setBroken i x).moves = S.moves := by
  unfold setBroken; split <;> exact ⟨rfl, rfl, rfl⟩
theorem fault_keep (S : PM) (d : Int) (x : Bool) : (S.fault d x).1.edges = S.edges ∧ (S.fault d x).1.nodes = S.nodes ∧ (S.fault d x).1.moves = S.moves := by
  unfold fault; split
  · exact ⟨rfl, rfl, rfl⟩
  · exact setBroken_keep _ _ _
theorem fault_other (S : PM) (d : Int) (x : Bool) (D : Nat) (h : d ≠ (D : Int)) : (S.fault d x).1.devs[D]? = S.devs[D]? := by
  unfold fault; split
  · rfl
  · rename_i hn
    have h1 : 1 ≤ d := by
      have : S.noDev d = false := by simpa using hn
      simp [noDev] at this; omega
    unfold setBroken
    split
    · simp only
      rw [List.getElem?_set, if_neg (by omega)]
    · rfl
theorem noDev_of {S : PM} {D : Nat} {d : Dv} (h : S.devs[D]? = some d) (hD : 1 ≤ D) : S.noDev D = false := by
  have := (List.getElem?_eq_some_iff.1 h).1
  simp [noDev]; omega
theorem fault_same (S : PM) (x : Bool) (D : Nat) (d : Dv) (h : S.devs[D]? = some d) (hD : 1 ≤ D) :
    (S.fault D x).1.devs[D]? = some { d with broken := x } ∧ (S.fault D x).2 = (⟨if x then 4 else 5, D, 0, 0, 0⟩, 0) := by
  have hn := noDev_of h hD
  have hl := (List.getElem?_eq_some_iff.1 h).1
  unfold fault
  simp only [hn, Bool.false_eq_true, if_false, Int.toNat_natCast, setBroken, h, and_true]
  rw [List.getElem?_set, if_pos rfl, if_pos hl]
theorem works_of {S : PM} {D : Nat} {d : Dv} (h : S.devs[D]? = some d) (hD : 1 ≤ D) : S.works D = !d.broken := by
  unfold works
  rw [if_neg (by rw [noDev_of h hD]; simp), Int.toNat_natCast, h]
  rfl
theorem hear_edges (S : PM) (t : Tl) : (S.hear t).1.edges = S.edges := by
  rcases hear_cases S t with ⟨h, _⟩ | ⟨d, e, _, _, _, _, h, _⟩
  · rw [h]
  · rw [h]
theorem hear_other (S : PM) (t : Tl) (D : Nat) (h0 : 0 ≤ t.dev) (h : t.dev ≠ (D : Int)) : (S.hear t).1.devs[D]? = S.devs[D]? := by
  rcases hear_cases S t with ⟨h1, _⟩ | ⟨d, e, _, _, _, _, h1, _⟩
  · rw [h1]
  · rw [h1]
    simp only
    rw [List.getElem?_set, if_neg (by omega)]
theorem hear_ask (S : PM) (D : Nat) (d : Dv) (e : Int × Int) (q : Int) (h : S.devs[D]? = some d) (hb : d.broken = false) (he : S.edges[D - 1]? = some e) (hD : 1 ≤ D) :
    S.hear ⟨6, D, q, 0, 0⟩ = (S, ⟨7, D, q, d.seq, d.tote⟩, true) := by
  have hw := works_of h hD
  rw [hb] at hw
  unfold hear
  simp only [hw, Bool.not_false, Bool.true_eq_false, if_false, Int.toNat_natCast, h, he]
  rfl

/-- What PlantFaults keeps: the device is out of order and did nothing yet. -/
structure Idle (S : PM) (D : Nat) (E : List (Int × Int)) (k : Nat) : Prop where
  dev : S.devs[D]? = some ⟨true, false, 0, 0⟩
  edges : S.edges = E
  m0 : 0 ≤ S.moves
  m1 : S.moves ≤ k

theorem Idle.works {S : PM} {D : Nat} {E : List (Int × Int)} {k : Nat} (h : Idle S D E k) (hD : 1 ≤ D) : S.works D = false := by rw [works_of h.dev hD]; rfl
theorem Idle.put {S : PM} {D : Nat} {E : List (Int × Int)} {k : Nat} (h : Idle S D E k) (t n : Int) : Idle (S.put t n).2 D E (k + 1) := by
  obtain ⟨a, b, c⟩ := put_keep S t n
  have := h.m0
  have := h.m1
  exact ⟨by rw [a]; exact h.dev, by rw [b]; exact h.edges, by omega, by omega⟩
theorem Idle.brk {S : PM} {D : Nat} {E : List (Int × Int)} {k : Nat} (h : Idle S D E k) (hD : 1 ≤ D) (d : Int) : Idle (S.fault d true).1 D E (k + 1) := by
  obtain ⟨a, b, c⟩ := fault_keep S d true
  have := h.m0
  have := h.m1
  refine ⟨?_, by rw [a]; exact h.edges, by omega, by omega⟩
  by_cases hd : d = (D : Int)
  · rw [hd]; exact (fault_same S true D _ h.dev hD).1
  · rw [fault_other S d true D hd]; exact h.dev
theorem Idle.mend {S : PM} {D : Nat} {E : List (Int × Int)} {k : Nat} (h : Idle S D E k) (d : Int) (hd : d ≠ (D : Int)) : Idle (S.fault d false).1 D E (k + 1) := by
  obtain ⟨a, b, c⟩ := fault_keep S d false
  have := h.m0
  have := h.m1
  exact ⟨by rw [fault_other S d false D hd]; exact h.dev, by rw [a]; exact h.edges, by omega, by omega⟩
theorem Idle.hear {S : PM} {D : Nat} {E : List (Int × Int)} {k : Nat} (h : Idle S D E k) (hD : 1 ≤ D) (t : Tl) (h0 : 0 ≤ t.dev) : Idle (S.hear t).1 D E (k + 1) := by
  have := h.m0
  have := h.m1
  have hm := hear_moves S t
  refine ⟨?_, by rw [hear_edges]; exact h.edges, by omega, by omega⟩
  by_cases hd : t.dev = (D : Int)
  · rw [hear_off' S t (by rw [hd]; exact h.works hD)]; exact h.dev
  · rw [hear_other S t D h0 hd]; exact h.dev
theorem Idle.mono {S : PM} {D : Nat} {E : List (Int × Int)} {k : Nat} (h : Idle S D E k) : Idle S D E (k + 1) := ⟨h.dev, h.edges, h.m0, by have := h.m1; omega⟩
end PM
end Go.Proofs.Ytncggholhmgoaaa
