/- Plain facts on the mirror's model for MirrorWalks: one tote alone, moved device by device. No program in sight. -/
import Derived.Test.YtncggholhmgoaaaMirrorModel
import Derived.Test.YtncggholhmgoaaaMirrorNew
namespace Go.Proofs.Ytncggholhmgoaaa
set_option linter.unusedVariables false
set_option linter.unusedSimpArgs false
namespace MM

structure Lone (S : MM) (E : List (Int × Int)) (n t at' : Nat) : Prop where
  edges : S.edges = E
  nodes : S.nodes = (List.replicate n 0).set at' (t : Int)
  wh : S.wh = (List.replicate 31 0).set t ((at' : Int) + 1)
  dlen : S.devs.length = E.length + 1
  devs : ∀ x ∈ S.devs, x.tote = 0 ∧ x.down = false
  t1 : 1 ≤ t
  t2 : t ≤ 30
  hat : at' < n
  ends : ∀ e ∈ E, (0 ≤ e.1 ∧ e.1 < n) ∧ (0 ≤ e.2 ∧ e.2 < n) ∧ e.1 ≠ e.2

variable {S : MM} {E : List (Int × Int)} {n t a : Nat}

theorem getD_set_ne {l : List Int} {i j : Nat} (h : i ≠ j) (x d : Int) : (l.set i x).getD j d = l.getD j d := by
  simp [List.getD, List.getElem?_set, h]
theorem getD_set_eq {l : List Int} {i : Nat} (h : i < l.length) (x d : Int) : (l.set i x).getD i d = x := by
  simp [List.getD, h]
theorem getD_zeros (n i : Nat) : (List.replicate n (0 : Int)).getD i 0 = 0 := by
  simp [List.getD, List.getElem?_replicate]; split <;> rfl
theorem set_zeros (n i : Nat) : (List.replicate n (0 : Int)).set i 0 = List.replicate n 0 := List.set_replicate_self ..

theorem Lone.where_ (h : Lone S E n t a) : S.whereIs t = a := by
  have h1 := h.t1
  have h2 := h.t2
  unfold whereIs
  rw [if_neg (by rw [noTote_no (by omega) (by omega)]; simp), Int.toNat_natCast, h.wh, getD_set_eq (by simp; omega)]
  omega
theorem Lone.at_here (h : Lone S E n t a) : S.at_ a = t := by
  have h1 := h.hat
  have hl : S.nodes.length = n := by rw [h.nodes]; simp
  unfold at_ nd
  rw [if_neg (by rw [noNode_no (by omega) (by omega)]; simp), Int.toNat_natCast, h.nodes, getD_set_eq (by simpa using h1)]
theorem Lone.nd_other (h : Lone S E n t a) {m : Nat} (hm : m ≠ a) : S.nd m = 0 := by
  unfold nd
  rw [Int.toNat_natCast, h.nodes, getD_set_ne (Ne.symm hm), getD_zeros]
theorem Lone.at_other (h : Lone S E n t a) {m : Nat} (hm : m ≠ a) : S.at_ m = 0 := by
  unfold at_
  split
  · rfl
  · exact h.nd_other hm
theorem Lone.dev0 (h : Lone S E n t a) (d : Nat) : (S.devs.getD d MD.zero).tote = 0 ∧ (S.devs.getD d MD.zero).down = false := by
  by_cases hd : d < S.devs.length
  · have : S.devs.getD d MD.zero = S.devs[d] := by simp [List.getD, hd]
    rw [this]; exact h.devs _ (List.getElem_mem hd)
  · have : S.devs.getD d MD.zero = MD.zero := by simp [List.getD, hd]
    rw [this]; exact ⟨rfl, rfl⟩
theorem Lone.taken_other (h : Lone S E n t a) {m : Nat} (hm : m ≠ a) : S.taken m = false := by
  unfold taken
  split
  · rfl
  · rw [h.nd_other hm]
    have : (List.range S.devs.length).any (S.hit m) = false := by
      rw [List.any_eq_false]
      intro d _
      have := (h.dev0 d).1
      simp only [hit]
      rw [this]
      simp
    rw [this]; rfl
theorem Lone.moves_no (h : Lone S E n t a) : S.moves t = false := by
  have h1 := h.t1
  unfold moves
  rw [List.any_eq_false]
  intro x hx
  rw [(h.devs x hx).1]
  simp; omega

/-- May device d take it? -/
def okDev (E : List (Int × Int)) (a : Int) (d : Int) : Prop := 1 ≤ d ∧ d ≤ E.length ∧ (E.getD (d.toNat - 1) (0, 0)).1 = a

theorem Lone.send_no (h : Lone S E n t a) (d s : Int) (hs : 0 ≤ s ∧ s ≤ 65535) (hno : ¬ okDev E a d) : (S.send d t s).1 ≠ 0 ∧ (S.send d t s).2 = S := by
  have h1 := h.t1
  have h2 := h.t2
  unfold send
  split
  · exact ⟨by simp, rfl⟩
  · rename_i hr
    have hb : noTote t = false := noTote_no (by omega) (by omega)
    have hd : S.noDev d = false := by
      cases hq : S.noDev d with
      | true => exact absurd (.inl (.inr hq)) hr
      | false => rfl
    obtain ⟨d1, d2⟩ := noDev_of hd
    rw [h.dlen] at d2
    rw [if_neg ?_]
    · rw [if_pos ?_]
      · exact ⟨by simp, rfl⟩
      · left
        rw [h.where_]
        intro he
        apply hno
        refine ⟨d1, by omega, ?_⟩
        rw [← h.edges]
        exact he.symm
    · have := h.dev0 d.toNat
      unfold dv
      rw [this.1, this.2]; simp
theorem Lone.send_ok (h : Lone S E n t a) (d : Nat) (s : Int) (hs : 0 ≤ s ∧ s ≤ 65535) (hok : okDev E a ((d : Int) + 1)) :
    ∃ b : Nat, E[d]? = some ((a : Int), (b : Int)) ∧ b ≠ a ∧ (S.send ((d : Int) + 1) t s).1 = 0 ∧ ((S.send ((d : Int) + 1) t s).2.moved ((d : Int) + 1) t).1 = 0 ∧ Lone ((S.send ((d : Int) + 1) t s).2.moved ((d : Int) + 1) t).2 E n t b := by
  have h1 := h.t1
  have h2 := h.t2
  obtain ⟨o1, o2, o3⟩ := hok
  rw [show ((d : Int) + 1).toNat - 1 = d by omega] at o3
  have hl : d < E.length := by omega
  have hE : E[d]? = some E[d] := List.getElem?_eq_getElem hl
  have hEg : E.getD d (0, 0) = E[d] := by simp [List.getD, hE]
  rw [hEg] at o3
  obtain ⟨⟨e1, e2⟩, ⟨e3, e4⟩, e5⟩ := h.ends _ (List.getElem_mem hl)
  obtain ⟨b, hb⟩ := Int.eq_ofNat_of_zero_le e3
  have hEd : E[d] = ((a : Int), (b : Int)) := by
    rw [← o3, ← hb]
  have hba : b ≠ a := by
    intro e
    apply e5
    rw [hEd]
    simp [e]
  have hT : noTote t = false := noTote_no (by omega) (by omega)
  have hD : S.noDev ((d : Int) + 1) = false := noDev_no (by omega) (by rw [h.dlen]; omega)
  have hed : S.ed ((d : Int) + 1) = ((a : Int), (b : Int)) := by
    unfold ed
    rw [h.edges, show ((d : Int) + 1).toNat - 1 = d by omega, hEg, hEd]
  have hdv := h.dev0 (d + 1)
  have hdvT : (S.dv ((d : Int) + 1)).tote = 0 ∧ (S.dv ((d : Int) + 1)).down = false := by
    unfold dv; rw [show ((d : Int) + 1).toNat = d + 1 by omega]; exact hdv
  have hsend : S.send ((d : Int) + 1) t s = (0, { S with devs := S.devs.set (d + 1) { S.dv ((d : Int) + 1) with tote := t, seq := s, ever := true } }) := by
    unfold send
    rw [if_neg (by rw [hT, hD]; simp; omega), if_neg (by rw [hdvT.1, hdvT.2]; simp), if_neg (by rw [h.where_, hed, h.moves_no]; simp), hed, if_neg (by rw [h.taken_other hba]; simp)]
    simp only [show ((d : Int) + 1).toNat = d + 1 by omega]
  have hlen : d + 1 < S.devs.length := by rw [h.dlen]; omega
  rw [hsend]
  simp only
  have hD2 : ({ S with devs := S.devs.set (d + 1) { S.dv ((d : Int) + 1) with tote := t, seq := s, ever := true } } : MM).noDev ((d : Int) + 1) = false := noDev_no (by omega) (by simp; omega)
  have hdv2 : ({ S with devs := S.devs.set (d + 1) { S.dv ((d : Int) + 1) with tote := t, seq := s, ever := true } } : MM).dv ((d : Int) + 1) = { S.dv ((d : Int) + 1) with tote := t, seq := s, ever := true } :=
    dv_get (i := d + 1) (by simp only; rw [List.getElem?_set, if_pos rfl, if_pos hlen])
  have hed2 : ({ S with devs := S.devs.set (d + 1) { S.dv ((d : Int) + 1) with tote := t, seq := s, ever := true } } : MM).ed ((d : Int) + 1) = ((a : Int), (b : Int)) := hed
  have hmoved : ({ S with devs := S.devs.set (d + 1) { S.dv ((d : Int) + 1) with tote := t, seq := s, ever := true } } : MM).moved ((d : Int) + 1) t =
      (0, { S with wh := S.wh.set t ((b : Int) + 1), nodes := (S.nodes.set a 0).set b (t : Int), devs := S.devs.set (d + 1) { S.dv ((d : Int) + 1) with tote := 0, seq := s, ever := true } }) := by
    unfold moved
    rw [if_neg (by rw [hT, hD2]; simp), hdv2, hed2, if_neg (by simp only; omega), if_pos rfl]
    simp only [Int.toNat_natCast, show ((d : Int) + 1).toNat = d + 1 by omega, List.set_set]
  refine ⟨b, by rw [hE, hEd], hba, trivial, ?_, ?_⟩
  · rw [hmoved]
  · rw [hmoved]
    refine ⟨h.edges, ?_, ?_, by simpa using h.dlen, ?_, h1, h2, ?_, h.ends⟩
    · simp only
      rw [h.nodes, List.set_set, set_zeros]
    · simp only
      rw [h.wh, List.set_set]
    · intro x hx
      simp only at hx
      rcases List.mem_or_eq_of_mem_set hx with h3 | h3
      · exact h.devs x h3
      · subst h3; exact ⟨rfl, hdvT.2⟩
    · have hb' : (E[d]).2 = (b : Int) := by rw [hEd]
      rw [hb'] at e4; omega

theorem Lone.start (l : Lay) (hk : l.ok = true) (t a : Int) :
    ((MM.init l).put t a).1 ≠ 0 ∨ (((MM.init l).put t a).1 = 0 ∧ ∃ t' a' : Nat, t = t' ∧ a = a' ∧ Lone ((MM.init l).put t a).2 l.edges l.nodes.length t' a') := by
  have hn : (MM.init l).nodes.length = l.nodes.length := by simp [MM.init]
  unfold put
  split
  · left; simp
  · rename_i h1
    split
    · left; simp
    · split
      · left; simp
      · right
        have hT : noTote t = false := by cases hq : noTote t with | true => exact absurd (.inl hq) h1 | false => rfl
        have hN : (MM.init l).noNode a = false := by cases hq : (MM.init l).noNode a with | true => exact absurd (.inr hq) h1 | false => rfl
        obtain ⟨t1, t2⟩ := noTote_of hT
        obtain ⟨a1, a2⟩ := noNode_of hN
        rw [hn] at a2
        obtain ⟨t', rfl⟩ := Int.eq_ofNat_of_zero_le (show 0 ≤ t by omega)
        obtain ⟨a', rfl⟩ := Int.eq_ofNat_of_zero_le a1
        refine ⟨rfl, t', a', rfl, rfl, rfl, rfl, rfl, by simp [MM.init], ?_, by omega, by omega, by omega, ?_⟩
        · intro x hx
          simp only [MM.init] at hx
          rw [List.eq_of_mem_replicate hx]; exact ⟨rfl, rfl⟩
        · have := Lay.ok_ends hk
          simpa using this
end MM
end Go.Proofs.Ytncggholhmgoaaa
