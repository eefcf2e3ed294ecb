/- Plain facts on the plant's model for PlantStill: each tote is at one node. No program in sight. -/
import Derived.Test.YtncggholhmgoaaaPlantPlain2
import Derived.Test.YtncggholhmgoaaaPlantNew
namespace Go.Proofs.Ytncggholhmgoaaa
set_option linter.unusedVariables false
set_option linter.unusedSimpArgs false

theorem findIdx_get {l : List Int} {t : Int} (h : t ∈ l) : ∃ i : Nat, l[i]? = some t ∧ findIdx l t = (i : Int) := by
  refine ⟨l.idxOf t, ?_, by simp [findIdx, h]⟩
  have hl : l.idxOf t < l.length := List.idxOf_lt_length_of_mem h
  rw [List.getElem?_eq_getElem hl]
  congr 1
  exact List.getElem_idxOf hl

def SoloL (l : List Int) : Prop := ∀ (i j : Nat) (x : Int), 0 < x → l[i]? = some x → l[j]? = some x → i = j

theorem SoloL.find {l : List Int} (h : SoloL l) {i : Nat} {t : Int} (ht : 0 < t) (hi : l[i]? = some t) : findIdx l t = (i : Int) := by
  obtain ⟨j, hj, e⟩ := findIdx_get (List.mem_of_getElem? hi)
  rw [e, h j i t ht hj hi]

namespace PM
structure Still (S : PM) (was : List Int) (E : List (Int × Int)) (n k : Nat) : Prop where
  edges : S.edges = E
  dlen : S.devs.length = E.length + 1
  nlen : S.nodes.length = n
  wlen : was.length = 31
  w : ∀ t : Nat, 1 ≤ t → t ≤ 30 → was[t]? = some (S.whereIs t)
  rng : ∀ x ∈ S.nodes, 0 ≤ x ∧ x ≤ 30
  solo : SoloL S.nodes
  ends : ∀ e ∈ E, (0 ≤ e.1 ∧ e.1 < n) ∧ (0 ≤ e.2 ∧ e.2 < n) ∧ e.1 ≠ e.2
  m0 : 0 ≤ S.moves
  m1 : S.moves ≤ k

variable {S : PM} {was : List Int} {E : List (Int × Int)} {n k : Nat}

theorem where_pos {S : PM} {t : Int} (h : 1 ≤ t) : S.whereIs t = findIdx S.nodes t := by unfold whereIs; rw [if_neg (by omega)]

theorem Still.mono (h : Still S was E n k) : Still S was E n (k + 1) := { h with m1 := by have := h.m1; omega }

theorem Still.fault (h : Still S was E n k) (d : Int) (x : Bool) : Still (S.fault d x).1 was E n (k + 1) := by
  obtain ⟨a, b, c⟩ := fault_keep S d x
  have := h.m0
  have := h.m1
  have hd : (S.fault d x).1.devs.length = S.devs.length := by
    unfold PM.fault; split
    · rfl
    · unfold setBroken; split
      · simp
      · rfl
  refine ⟨by rw [a]; exact h.edges, by rw [hd]; exact h.dlen, by rw [b]; exact h.nlen, h.wlen, ?_, by rw [b]; exact h.rng, by rw [b]; exact h.solo, h.ends, by omega, by omega⟩
  intro t h1 h2
  rw [h.w t h1 h2, where_pos (by omega), where_pos (by omega), b]

/-- What a node's change does: from (put) an empty node. -/
theorem solo_set {l : List Int} (h : SoloL l) (i : Nat) (v : Int) (hv : ∀ j, l[j]? = some v → 0 < v → j = i) : SoloL (l.set i v) := by
  intro a b x hx ha hb
  rw [List.getElem?_set] at ha hb
  split at ha
  · split at ha
    · rename_i e _
      subst e
      simp only [Option.some.injEq] at ha
      subst ha
      split at hb
      · rename_i e; exact e
      · exact (hv b hb hx).symm
    · cases ha
  · split at hb
    · split at hb
      · rename_i e _
        subst e
        simp only [Option.some.injEq] at hb
        subst hb
        exact hv a ha hx
      · cases hb
    · exact h a b x hx ha hb

theorem find_set_same {l : List Int} {i : Nat} {v : Int} (h : SoloL (l.set i v)) (hi : i < l.length) (hv : 0 < v) : findIdx (l.set i v) v = (i : Int) := h.find hv (by rw [List.getElem?_set, if_pos rfl, if_pos hi])

theorem find_set_other {l : List Int} {i : Nat} {v t : Int} (h1 : SoloL l) (h : SoloL (l.set i v)) (ht : 0 < t) (hv : t ≠ v) (hold : l[i]? ≠ some t) : findIdx (l.set i v) t = findIdx l t := by
  by_cases hm : t ∈ l
  · obtain ⟨j, hj, e⟩ := findIdx_get hm
    rw [e]
    refine h.find ht ?_
    rw [List.getElem?_set, if_neg ?_]
    · exact hj
    · intro e2; subst e2; exact hold hj
  · rw [findIdx_no hm, findIdx_no]
    intro h2
    rcases List.mem_or_eq_of_mem_set h2 with h3 | h3
    · exact hm h3
    · exact hv h3

theorem Still.put (h : Still S was E n k) (a b : Int) :
    ((S.put a b).1 ≠ 0 ∧ (S.put a b).2 = S) ∨
    ((S.put a b).1 = 0 ∧ (1 ≤ a ∧ a ≤ 30) ∧ S.whereIs a = -1 ∧ (S.put a b).2.whereIs a = b ∧ (0 ≤ b ∧ b < n) ∧ Still (S.put a b).2 (was.set a.toNat b) E n (k + 1)) := by
  have hm0 := h.m0
  have hm1 := h.m1
  unfold PM.put
  split
  · left; exact ⟨by simp, rfl⟩
  · rename_i h1
    split
    · left; exact ⟨by simp, rfl⟩
    · rename_i h2
      split
      · left; exact ⟨by simp, rfl⟩
      · rename_i h3
        right
        have hn := h.nlen
        have ha : 1 ≤ a ∧ a ≤ 30 := by omega
        have hb : 0 ≤ b ∧ b < n := by omega
        have hbl : b.toNat < S.nodes.length := by omega
        have hno : a ∉ S.nodes := by
          intro hm
          apply h2
          obtain ⟨i, _, e⟩ := findIdx_get hm
          rw [where_pos ha.1, e]; omega
        have hz : S.nodes[b.toNat]? = some 0 := by
          have h4 := List.getElem?_eq_getElem hbl
          have h5 := h.rng _ (List.getElem_mem hbl)
          have h6 : S.nd b = S.nodes[b.toNat] := by simp [nd, List.getD, h4]
          rw [h4]; congr 1; omega
        have hs : SoloL (S.nodes.set b.toNat a) := solo_set h.solo _ _ (fun j hj _ => absurd (List.mem_of_getElem? hj) hno)
        have hfa : findIdx (S.nodes.set b.toNat a) a = b := by rw [find_set_same hs hbl (by omega)]; omega
        refine ⟨rfl, ha, ?_, ?_, hb, ?_⟩
        · rw [where_pos ha.1, findIdx_no hno]
        · rw [where_pos ha.1]; exact hfa
        · refine ⟨h.edges, h.dlen, by simpa using h.nlen, by simpa using h.wlen, ?_, ?_, hs, h.ends, hm0, by simp only; omega⟩
          · intro t t1 t2
            rw [List.getElem?_set, where_pos (by omega)]
            split
            · rename_i e
              rw [if_pos (by rw [h.wlen]; omega)]
              congr 1
              have : (t : Int) = a := by omega
              rw [this]; exact hfa.symm
            · rename_i e
              rw [h.w t t1 t2, where_pos (by omega)]
              congr 1
              exact (find_set_other h.solo hs (by omega) (by omega) (by rw [hz]; intro h7; simp at h7; omega)).symm
          · intro x hx
            rcases List.mem_or_eq_of_mem_set hx with h7 | h7
            · exact h.rng x h7
            · omega

theorem Still.hear (h : Still S was E n k) (t : Tl) (h0 : 0 ≤ t.dev) :
    ((S.hear t).1 = S ∧ (S.hear t).1.moves = S.moves) ∨
    ((S.hear t).1.moves = S.moves + 1 ∧ t.kind = 1 ∧ (S.hear t).2 = (done t, true) ∧ (1 ≤ t.dev ∧ t.dev ≤ E.length) ∧ (1 ≤ t.a ∧ t.a ≤ 30) ∧ ∃ e, E[t.dev.toNat - 1]? = some e ∧ was[t.a.toNat]? = some e.1 ∧
      (S.hear t).1.whereIs t.a = e.2 ∧ (0 ≤ e.2 ∧ e.2 < n) ∧ Still (S.hear t).1 (was.set t.a.toNat e.2) E n (k + 1)) := by
  have hm0 := h.m0
  have hm1 := h.m1
  rcases hear_cases S t with ⟨h1, _⟩ | ⟨d, e, hd, he, hw, hk, h1, h2, h3, h4⟩
  · exact .inl ⟨h1, by rw [h1]⟩
  · refine .inr ?_
    rw [h1]
    rw [h.edges] at he
    have hl := (List.getElem?_eq_some_iff.1 hd).1
    rw [h.dlen] at hl
    have hd1 : 1 ≤ t.dev := by
      unfold works at hw
      split at hw
      · cases hw
      · rename_i hh
        have : S.noDev t.dev = false := by simpa using hh
        simp [noDev] at this; omega
    obtain ⟨⟨e1, e2⟩, ⟨e3, e4⟩, e5⟩ := h.ends e (List.mem_of_getElem? he)
    have hn := h.nlen
    have l1 : e.1.toNat < S.nodes.length := by omega
    have l2 : e.2.toNat < S.nodes.length := by omega
    have g1 : S.nodes[e.1.toNat]? = some t.a := by
      have h5 := List.getElem?_eq_getElem l1
      have h6 : S.nd e.1 = S.nodes[e.1.toNat] := by simp [nd, List.getD, h5]
      rw [h5, ← h6, h2]
    have hr := h.rng _ (List.mem_of_getElem? g1)
    have ha : 1 ≤ t.a ∧ t.a ≤ 30 := by omega
    have g2 : S.nodes[e.2.toNat]? = some 0 := by
      have h5 := List.getElem?_eq_getElem l2
      have h7 := h.rng _ (List.getElem_mem l2)
      have h6 : S.nd e.2 = S.nodes[e.2.toNat] := by simp [nd, List.getD, h5]
      rw [h5]; congr 1; omega
    have s1 : SoloL (S.nodes.set e.1.toNat 0) := solo_set h.solo _ _ (fun j hj hp => absurd hp (by omega))
    have hgone : ∀ j : Nat, (S.nodes.set e.1.toNat 0)[j]? ≠ some t.a := by
      intro j hj
      rw [List.getElem?_set] at hj
      split at hj
      · first
          | (simp at hj; omega)
          | (split at hj; (simp at hj; omega); cases hj)
      · rename_i hne
        exact hne (h.solo _ _ _ (by omega) g1 hj)
    have s2 : SoloL ((S.nodes.set e.1.toNat 0).set e.2.toNat t.a) := solo_set s1 _ _ (fun j hj _ => absurd hj (hgone j))
    have hfa : findIdx ((S.nodes.set e.1.toNat 0).set e.2.toNat t.a) t.a = e.2 := by
      rw [find_set_same s2 (by simpa using l2) (by omega)]; omega
    have hwa : was[t.a.toNat]? = some e.1 := by
      have h5 := h.w t.a.toNat (by omega) (by omega)
      have h6 : ((t.a.toNat : Nat) : Int) = t.a := by omega
      rw [h6, where_pos ha.1, h.solo.find (by omega) g1] at h5
      rw [h5]; congr 1; omega
    refine ⟨rfl, hk, rfl, ⟨hd1, by omega⟩, ha, e, he, hwa, ?_, ⟨e3, e4⟩, ?_⟩
    · rw [where_pos ha.1]; exact hfa
    · refine ⟨h.edges, by simpa using h.dlen, by simpa using h.nlen, by simpa using h.wlen, ?_, ?_, s2, h.ends, by simp only; omega, by simp only; omega⟩
      · intro u u1 u2
        rw [List.getElem?_set, where_pos (by omega)]
        split
        · rename_i e9
          rw [if_pos (by rw [h.wlen]; omega)]
          congr 1
          have : (u : Int) = t.a := by omega
          rw [this]; exact hfa.symm
        · rename_i e9
          rw [h.w u u1 u2, where_pos (by omega)]
          congr 1
          rw [find_set_other s1 s2 (by omega) (by omega), find_set_other h.solo s1 (by omega) (by omega)]
          · rw [g1]; intro h7; simp at h7; omega
          · rw [List.getElem?_set, if_neg (by omega), g2]; intro h7; simp at h7; omega
      · intro x hx
        rcases List.mem_or_eq_of_mem_set hx with h7 | h7
        · rcases List.mem_or_eq_of_mem_set h7 with h8 | h8
          · exact h.rng x h8
          · omega
        · omega

theorem Still.init (l : Lay) (hk : l.ok = true) : Still (PM.init l) (List.replicate 31 (-1)) l.edges l.nodes.length 0 := by
  refine ⟨rfl, by simp [PM.init], by simp [PM.init], by simp, ?_, ?_, ?_, ?_, by simp [PM.init], by simp [PM.init]⟩
  · intro t t1 t2
    rw [List.getElem?_replicate, if_pos (by omega), where_pos (by omega), findIdx_no]
    simp only [PM.init]
    intro hm
    have := List.eq_of_mem_replicate hm
    omega
  · intro x hx
    simp only [PM.init] at hx
    have := List.eq_of_mem_replicate hx
    omega
  · intro i j x hx hi _
    simp only [PM.init, List.getElem?_replicate] at hi
    split at hi
    · simp at hi; omega
    · cases hi
  · have := Lay.ok_ends hk
    simpa using this

/-- How many of the totes 1 .. t - 1 are at each node. -/
def endsAt (S : PM) (t : Nat) : List Int := S.nodes.map fun (x : Int) => if 1 ≤ x ∧ x < (t : Int) then (1 : Int) else 0
theorem ends_one (h : SoloL S.nodes) : S.endsAt 1 = List.replicate S.nodes.length 0 := by
  unfold endsAt
  apply List.ext_getElem?
  intro i
  rw [List.getElem?_map, List.getElem?_replicate]
  split
  · rename_i hl
    rw [List.getElem?_eq_getElem hl]
    simp only [Option.map_some]
    rw [if_neg (by omega)]
  · rename_i hl
    rw [List.getElem?_eq_none (by omega)]; rfl
/-- A tote that is nowhere, or at a node that nobody was counted at. -/
theorem Still.count (h : Still S was E n k) (t : Nat) (t1 : 1 ≤ t) (t2 : t ≤ 30) :
    (S.whereIs t = -1 ∧ S.endsAt (t + 1) = S.endsAt t) ∨
    (∃ j : Nat, S.whereIs t = j ∧ j < n ∧ (S.endsAt t)[j]? = some 0 ∧ S.endsAt (t + 1) = (S.endsAt t).set j 1 ∧ S.at_ j = t) := by
  by_cases hm : (t : Int) ∈ S.nodes
  · obtain ⟨j, hj, e⟩ := findIdx_get hm
    have hl := (List.getElem?_eq_some_iff.1 hj).1
    have hg : S.nodes[j] = t := by rw [List.getElem?_eq_getElem hl] at hj; simpa using hj
    refine .inr ⟨j, by rw [where_pos (by omega), e], by rw [← h.nlen]; exact hl, ?_, ?_, ?_⟩
    · rw [endsAt, List.getElem?_map, hj, Option.map_some, if_neg (by omega)]
    · unfold endsAt
      apply List.ext_getElem?
      intro i
      rw [List.getElem?_set, List.getElem?_map, List.getElem?_map]
      split
      · rename_i e2
        subst e2
        rw [if_pos (by simpa using hl), hj, Option.map_some, if_pos (by omega)]
      · rename_i e2
        cases hi : S.nodes[i]? with
        | none => rfl
        | some x =>
          simp only [Option.map_some]
          congr 1
          have : x ≠ t := by
            intro e3
            rw [e3] at hi
            exact e2 (h.solo _ _ _ (by omega) hj hi)
          split
          · rw [if_pos (by omega)]
          · rw [if_neg (by omega)]
    · rw [at_in hl, hg]
  · refine .inl ⟨by rw [where_pos (by omega), findIdx_no hm], ?_⟩
    unfold endsAt
    apply List.ext_getElem?
    intro i
    rw [List.getElem?_map, List.getElem?_map]
    cases hi : S.nodes[i]? with
    | none => rfl
    | some x =>
      simp only [Option.map_some]
      congr 1
      have : x ≠ t := by
        intro e3
        rw [e3] at hi
        exact hm (List.mem_of_getElem? hi)
      split
      · rw [if_pos (by omega)]
      · rw [if_neg (by omega)]
end PM
end Go.Proofs.Ytncggholhmgoaaa
