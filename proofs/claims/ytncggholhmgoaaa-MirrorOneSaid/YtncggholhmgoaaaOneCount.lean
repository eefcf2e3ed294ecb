/- What MirrorOne counts, as lists. No program in sight. -/
import Derived.Test.YtncggholhmgoaaaOnePlain
namespace Go.Proofs.Ytncggholhmgoaaa
set_option linter.unusedVariables false
set_option linter.unusedSimpArgs false
namespace MM

def endsL (l : List Int) (t : Nat) : List Int := l.map fun (x : Int) => if 1 ≤ x ∧ x < (t : Int) then (1 : Int) else 0
def b1 (b : Bool) : Int := if b = true then 1 else 0
def endsB (S : MM) (n d : Nat) : List Int := (List.range n).map fun (j : Nat) => b1 (decide (S.nodes.getD j 0 ≠ 0) || (List.range d).any (S.hit (j : Int)))
def told1 (S : MM) (t d : Nat) : Bool := (S.devs.getD d MD.zero).tote == (t : Int) && decide (0 < t)
def movB (S : MM) (d : Nat) : List Int := (List.range 31).map fun (t : Nat) => b1 ((List.range d).any (S.told1 t))

variable {S : MM} {pb : List Bool} {E : List (Int × Int)} {n : Nat}

theorem endsL_one (l : List Int) : endsL l 1 = List.replicate l.length 0 := by
  apply List.ext_getElem?
  intro i
  rw [endsL, List.getElem?_map, List.getElem?_replicate]
  split
  · rename_i hl
    rw [List.getElem?_eq_getElem hl]
    simp only [Option.map_some]
    rw [if_neg (by omega)]
  · rename_i hl
    rw [List.getElem?_eq_none (by omega)]; rfl
theorem endsL_no {l : List Int} {t : Nat} (h : (t : Int) ∉ l) : endsL l (t + 1) = endsL l t := by
  unfold endsL
  apply List.map_congr_left
  intro x hx
  have : x ≠ t := fun e => h (e ▸ hx)
  split
  · rw [if_pos (by omega)]
  · rw [if_neg (by omega)]
theorem endsL_yes {l : List Int} {t j : Nat} (ht : 1 ≤ t) (hj : l[j]? = some (t : Int)) (hu : ∀ i, l[i]? = some (t : Int) → i = j) : (endsL l t)[j]? = some 0 ∧ endsL l (t + 1) = (endsL l t).set j 1 := by
  have hl := (List.getElem?_eq_some_iff.1 hj).1
  refine ⟨by rw [endsL, List.getElem?_map, hj, Option.map_some, if_neg (by omega)], ?_⟩
  unfold endsL
  apply List.ext_getElem?
  intro i
  rw [List.getElem?_set, List.getElem?_map, List.getElem?_map]
  split
  · rename_i e
    subst e
    rw [if_pos (by simpa using hl), hj, Option.map_some, if_pos (by omega)]
  · rename_i e
    cases hi : l[i]? with
    | none => rfl
    | some x =>
      simp only [Option.map_some]
      congr 1
      have : x ≠ t := fun e2 => e (hu i (by rw [hi, e2])).symm
      split
      · rw [if_pos (by omega)]
      · rw [if_neg (by omega)]

/-- A tote, seen from Where, the flag and the node. -/
theorem One.see (h : One S pb E n) (hw : ∀ x ∈ S.wh, 0 ≤ x) (t : Nat) (t1 : 1 ≤ t) (t2 : t ≤ 30) :
    (S.whereIs t = -1 ∧ pb[t]? = some false ∧ endsL S.nodes (t + 1) = endsL S.nodes t) ∨
    (∃ j : Nat, S.whereIs t = j ∧ pb[t]? = some true ∧ j < n ∧ (endsL S.nodes t)[j]? = some 0 ∧ endsL S.nodes (t + 1) = (endsL S.nodes t).set j 1 ∧ S.at_ j = t) := by
  have hwt : S.whereIs t = S.wh.getD t 0 - 1 := by
    rw [whereIs, if_neg (by rw [noTote_no (by omega) (by omega)]; simp), Int.toNat_natCast]
  have h0 := h.wh_nonneg hw t
  have hp := h.was t t1 t2
  by_cases hz : 0 < S.wh.getD t 0
  · obtain ⟨j, j1, j2⟩ := h.toNode t t1 t2 hz
    have hl := (List.getElem?_eq_some_iff.1 j2).1
    rw [h.nlen] at hl
    obtain ⟨q1, q2⟩ := endsL_yes t1 j2 (fun i hi => by
      have := (h.toWh i t hi (by omega)).2.2
      rw [Int.toNat_natCast] at this
      omega)
    refine .inr ⟨j, by omega, by rw [hp, decide_eq_true hz], hl, q1, q2, ?_⟩
    rw [at_, if_neg (by rw [noNode_no (by omega) (by rw [h.nlen]; omega)]; simp), nd_get j2]
  · refine .inl ⟨by omega, by rw [hp, decide_eq_false hz], endsL_no ?_⟩
    intro hm
    obtain ⟨i, hi⟩ := List.getElem?_of_mem hm
    have := (h.toWh i t hi (by omega)).2.2
    rw [Int.toNat_natCast] at this
    omega

theorem One.dev0 (h : One S pb E n) : (S.devs.getD 0 MD.zero).tote = 0 := by
  cases hx : S.devs[0]? with
  | none => simp [List.getD, hx, MD.zero]
  | some x =>
    have : S.devs.getD 0 MD.zero = x := by simp [List.getD, hx]
    rw [this]
    by_cases h0 : x.tote = 0
    · exact h0
    · have := (h.told 0 x hx h0).1
      omega
theorem One.hit0 (h : One S pb E n) (j : Int) : S.hit j 0 = false := by
  unfold hit; rw [h.dev0]; simp

/-- Behind the totes: nobody was told yet. -/
theorem One.endsB_one (h : One S pb E n) : endsB S n 1 = endsL S.nodes 31 := by
  apply List.ext_getElem?
  intro i
  rw [endsB, endsL, List.getElem?_map, List.getElem?_map]
  by_cases hi : i < n
  · have hl : i < S.nodes.length := by rw [h.nlen]; exact hi
    have hg := List.getElem?_eq_getElem hl
    rw [List.getElem?_range hi, hg]
    simp only [Option.map_some]
    congr 1
    have hd : S.nodes.getD i 0 = S.nodes[i] := by simp [List.getD, hl]
    rw [hd]
    have hr : (List.range 1).any (S.hit (i : Int)) = false := by simp [List.range_succ, h.hit0]
    rw [hr, Bool.or_false]
    by_cases h0 : S.nodes[i] = 0
    · rw [h0]; rfl
    · obtain ⟨a, b, _⟩ := h.toWh i _ hg h0
      rw [if_pos (by omega), decide_eq_true h0]; rfl
  · rw [List.getElem?_eq_none (by simp; omega), List.getElem?_eq_none (by rw [h.nlen]; omega)]; rfl
theorem One.movB_one (h : One S pb E n) : movB S 1 = List.replicate 31 0 := by
  apply List.ext_getElem?
  intro i
  rw [movB, List.getElem?_map, List.getElem?_replicate]
  by_cases hi : i < 31
  · rw [List.getElem?_range hi, if_pos hi, Option.map_some]
    congr 1
    have : S.told1 i 0 = false := by
      unfold told1; rw [h.dev0]
      by_cases h0 : i = 0
      · subst h0; rfl
      · simp; omega
    simp [List.range_succ, this, b1]
  · rw [List.getElem?_eq_none (by simp; omega), if_neg hi]; rfl

theorem getD_dev {d : Nat} {x : MD} (hx : S.devs[d]? = some x) : S.devs.getD d MD.zero = x := by simp [List.getD, hx]

theorem One.silent (h : One S pb E n) {d : Nat} {x : MD} (hx : S.devs[d]? = some x) (h0 : x.tote = 0) : endsB S n (d + 1) = endsB S n d ∧ movB S (d + 1) = movB S d := by
  constructor
  · unfold endsB
    apply List.map_congr_left
    intro j _
    have : S.hit (j : Int) d = false := by unfold hit; rw [getD_dev hx, h0]; simp
    rw [List.range_succ, List.any_append]
    simp [this]
  · unfold movB
    apply List.map_congr_left
    intro t _
    have : S.told1 t d = false := by
      unfold told1; rw [getD_dev hx, h0]
      by_cases ht : t = 0
      · subst ht; rfl
      · simp; omega
    rw [List.range_succ, List.any_append]
    simp [this]

theorem One.speaks (h : One S pb E n) (hdn : ∀ x ∈ S.devs, 0 ≤ x.tote) {d : Nat} {x : MD} (hx : S.devs[d]? = some x) (h0 : x.tote ≠ 0) :
    ∃ (t j : Nat) (e : Int × Int), x.tote = t ∧ 1 ≤ t ∧ t ≤ 30 ∧ 1 ≤ d ∧ E[d - 1]? = some e ∧ e.2 = j ∧ j < n ∧ S.whereIs t = e.1 ∧ (movB S d)[t]? = some 0 ∧ movB S (d + 1) = (movB S d).set t 1 ∧ (endsB S n d)[j]? = some 0 ∧ endsB S n (d + 1) = (endsB S n d).set j 1 := by
  obtain ⟨d1, t1, t2, e, he, hw, hz⟩ := h.told d x hx h0
  obtain ⟨⟨e1, e2⟩, ⟨e3, e4⟩, e5⟩ := h.ends e (List.mem_of_getElem? he)
  obtain ⟨t, ht⟩ := Int.eq_ofNat_of_zero_le (show 0 ≤ x.tote by omega)
  obtain ⟨j, hj⟩ := Int.eq_ofNat_of_zero_le e3
  have htn : x.tote.toNat = t := by omega
  have hjn : e.2.toNat = j := by omega
  rw [htn] at hw
  rw [hjn] at hz
  have hnt : ∀ d', d' < d → S.told1 t d' = false := by
    intro d' hd'
    unfold told1
    cases hx' : S.devs[d']? with
    | none =>
      have : S.devs.getD d' MD.zero = MD.zero := by simp [List.getD, hx']
      rw [this]; simp [MD.zero]; omega
    | some x' =>
      rw [getD_dev hx']
      have : x'.tote ≠ t := by
        intro e'
        have := h.oneTote d d' x x' hx hx' h0 (by omega)
        omega
      simp [this]
  have hnh : ∀ d', d' < d → S.hit (j : Int) d' = false := by
    intro d' hd'
    cases hx' : S.devs[d']? with
    | none =>
      have : S.devs.getD d' MD.zero = MD.zero := by simp [List.getD, hx']
      unfold hit; rw [this]; simp [MD.zero]
    | some x' =>
      unfold hit
      rw [getD_dev hx']
      by_cases hx0 : x'.tote = 0
      · rw [hx0]; simp
      · obtain ⟨_, _, _, e', he', _, _⟩ := h.told d' x' hx' hx0
        have hE : S.edges.getD (d' - 1) (0, 0) = e' := by rw [h.edges]; simp [List.getD, he']
        rw [hE]
        have : e'.2 ≠ (j : Int) := by
          intro e''
          have := h.oneNode d d' x x' e e' hx hx' h0 hx0 he he' (by omega)
          omega
        simp [this]
  have hyt : S.told1 t d = true := by unfold told1; rw [getD_dev hx, ht]; simp; omega
  have hyh : S.hit (j : Int) d = true := by
    have := hit_of (S := S) hx (by omega) (by rw [h.edges]; exact he)
    rw [hj] at this; exact this
  have ha1 : (List.range d).any (S.told1 t) = false := by
    rw [List.any_eq_false]; intro d' hd'; rw [hnt d' (List.mem_range.1 hd')]; simp
  have ha2 : (List.range d).any (S.hit (j : Int)) = false := by
    rw [List.any_eq_false]; intro d' hd'; rw [hnh d' (List.mem_range.1 hd')]; simp
  have hnz : S.nodes.getD j 0 = 0 := getD_of hz
  refine ⟨t, j, e, ht, by omega, by omega, d1, he, hj, by omega, ?_, ?_, ?_, ?_, ?_⟩
  · rw [whereIs, if_neg (by rw [noTote_no (by omega) (by omega)]; simp), Int.toNat_natCast]; omega
  · rw [movB, List.getElem?_map, List.getElem?_range (by omega), Option.map_some, ha1]; rfl
  · apply List.ext_getElem?
    intro i
    rw [List.getElem?_set, movB, movB, List.getElem?_map, List.getElem?_map]
    split
    · rename_i ei
      subst ei
      rw [if_pos (by simp; omega), List.getElem?_range (by omega), Option.map_some, List.range_succ, List.any_append]
      simp [hyt, b1]
    · rename_i ei
      by_cases hi : i < 31
      · rw [List.getElem?_range hi, Option.map_some, Option.map_some, List.range_succ, List.any_append]
        have : S.told1 i d = false := by unfold told1; rw [getD_dev hx, ht]; simp; omega
        simp [this]
      · rw [List.getElem?_eq_none (by simp; omega)]; rfl
  · rw [endsB, List.getElem?_map, List.getElem?_range (by omega), Option.map_some, ha2, hnz]; rfl
  · apply List.ext_getElem?
    intro i
    rw [List.getElem?_set, endsB, endsB, List.getElem?_map, List.getElem?_map]
    split
    · rename_i ei
      subst ei
      rw [if_pos (by simp; omega), List.getElem?_range (by omega), Option.map_some, List.range_succ, List.any_append]
      simp [hyh, b1]
    · rename_i ei
      by_cases hi : i < n
      · rw [List.getElem?_range hi, Option.map_some, Option.map_some, List.range_succ, List.any_append]
        have : S.hit (i : Int) d = false := by
          unfold hit
          rw [getD_dev hx]
          have hE : S.edges.getD (d - 1) (0, 0) = e := by rw [h.edges]; simp [List.getD, he]
          rw [hE, hj]
          have : ¬ ((j : Int) = (i : Int)) := by omega
          simp; omega
        simp [this]
      · rw [List.getElem?_eq_none (by simp; omega)]; rfl

/-- At the end each node's count tells whether it is taken. -/
theorem One.final (h : One S pb E n) (i : Nat) (hi : i < n) : (endsB S n S.devs.length)[i]? = some (b1 (S.taken i)) := by
  have hl : i < S.nodes.length := by rw [h.nlen]; exact hi
  have hg := List.getElem?_eq_getElem hl
  rw [endsB, List.getElem?_map, List.getElem?_range hi, Option.map_some]
  congr 2
  rw [taken, if_neg (by rw [noNode_no (by omega) (by rw [h.nlen]; omega)]; simp), Bool.or_comm]
  congr 1
  have hd : S.nodes.getD i 0 = S.nodes[i] := by simp [List.getD, hl]
  have hnd : S.nd i = S.nodes[i] := nd_get hg
  rw [hd, hnd]
  by_cases h0 : S.nodes[i] = 0
  · rw [h0]; rfl
  · have := (h.toWh i _ hg h0).1
    rw [decide_eq_true h0, decide_eq_true (by omega)]
end MM
end Go.Proofs.Ytncggholhmgoaaa
