/- Plain facts on the mirror's model for MirrorMasks. No program in sight. -/
import Derived.Test.YtncggholhmgoaaaMirrorModel
namespace Go.Proofs.Ytncggholhmgoaaa
set_option linter.unusedVariables false
set_option linter.unusedSimpArgs false
namespace MM

theorem noDev_at {S : MM} {D : Nat} {x : MD} (hx : S.devs[D]? = some x) (hD : 1 ≤ D) : S.noDev D = false := by
  have := (List.getElem?_eq_some_iff.1 hx).1
  exact noDev_no (by omega) (by omega)
theorem mask_at {S : MM} {D : Nat} {x : MD} (hx : S.devs[D]? = some x) (hD : 1 ≤ D) (y : Bool) : S.mask D y = (0, { S with devs := S.devs.set D { x with down := y } }) := by
  unfold mask
  rw [if_neg (by rw [noDev_at hx hD]; simp), Int.toNat_natCast, dv_get hx]
theorem set_get {S : MM} {D : Nat} {x : MD} (hx : S.devs[D]? = some x) (y : MD) : (S.devs.set D y)[D]? = some y := by
  have := (List.getElem?_eq_some_iff.1 hx).1
  rw [List.getElem?_set, if_pos rfl, if_pos this]
theorem getD_set {l : List MD} {D d : Nat} {x y : MD} (hx : l[D]? = some x) : (l.set D y).getD d MD.zero = if d = D then y else l.getD d MD.zero := by
  have := (List.getElem?_eq_some_iff.1 hx).1
  simp only [List.getD, List.getElem?_set]
  by_cases h : D = d
  · subst h; simp [this]
  · rw [if_neg h, if_neg (Ne.symm h)]
theorem downs_set {S : MM} {D : Nat} {x y : MD} (hx : S.devs[D]? = some x) (hy : y.down = x.down) (w n : List Int) : ({ S with wh := w, nodes := n, devs := S.devs.set D y } : MM).downs = S.downs := by
  unfold downs
  simp only [List.length_set]
  congr 1
  apply List.filter_congr
  intro d _
  rw [getD_set hx]
  split
  · rename_i e
    rw [hy, e]
    simp [List.getD, hx]
  · rfl
theorem downs_false {S : MM} {D : Nat} {x y : MD} (hx : S.devs[D]? = some x) (hy : y.down = false) : ({ S with devs := S.devs.set D y } : MM).downs = S.downs.filter fun d => d != (D : Int) := by
  unfold downs
  simp only [List.length_set]
  rw [List.filter_map, List.filter_filter]
  congr 1
  apply List.filter_congr
  intro d _
  rw [getD_set hx]
  by_cases h : d = D
  · rw [if_pos h, hy, h]
    simp
  · rw [if_neg h]
    have : ((fun d => d != (D : Int)) ∘ fun (d : Nat) => (d : Int)) d = true := by
      simp; omega
    rw [this, Bool.true_and]
theorem downs_mem {S : MM} {D : Nat} {x : MD} (hx : S.devs[D]? = some x) (hd : x.down = true) : (D : Int) ∈ S.downs := by
  unfold downs
  rw [List.mem_map]
  refine ⟨D, ?_, rfl⟩
  rw [List.mem_filter, List.mem_range]
  exact ⟨(List.getElem?_eq_some_iff.1 hx).1, by simp [List.getD, hx, hd]⟩

theorem masks_facts (S : MM) (D : Nat) (x : MD) (e : Int × Int) (hx : S.devs[D]? = some x) (hD : 1 ≤ D) (hok : x.ok) (he : S.edges[D - 1]? = some e) (hl : S.wh.length = 31) :
    ∃ S1 S2 S3, S.mask D true = (0, S1) ∧ S1.send D 1 0 = (140, S1) ∧ S1.told D = S.told D ∧
      (((S.told D).2.2 = true ∧ S1.moved D (S.told D).1 = (0, S2) ∧ S2.whereIs (S.told D).1 = e.2) ∨ ((S.told D).2.2 = false ∧ S2 = S1)) ∧
      (D : Int) ∈ S2.downs ∧ S2.mask D false = (0, S3) ∧ S3.downs = S.downs.filter fun d => d != (D : Int) := by
  have hx1 : (S.devs.set D { x with down := true })[D]? = some { x with down := true } := set_get hx _
  have hlen := (List.getElem?_eq_some_iff.1 hx).1
  have hn1 : ({ S with devs := S.devs.set D { x with down := true } } : MM).noDev D = false := noDev_at hx1 hD
  have hd1 : ({ S with devs := S.devs.set D { x with down := true } } : MM).dv D = { x with down := true } := dv_get hx1
  have hed : S.ed D = e := ed_get he
  have htold1 : ({ S with devs := S.devs.set D { x with down := true } } : MM).told D = S.told D := by
    unfold told
    rw [hn1, hd1, noDev_at hx hD, dv_get hx]
  have hsend : ({ S with devs := S.devs.set D { x with down := true } } : MM).send D 1 0 = (140, { S with devs := S.devs.set D { x with down := true } }) := by
    unfold send
    rw [if_neg (by rw [hn1]; simp [noTote]), if_pos (.inl (by rw [hd1]))]
  by_cases ht : x.tote = 0
  · have htf : S.told D = (0, 0, false) := by unfold told; rw [dv_get hx, if_pos (.inr ht)]
    refine ⟨{ S with devs := S.devs.set D { x with down := true } }, { S with devs := S.devs.set D { x with down := true } }, { S with devs := S.devs.set D { x with down := false } }, mask_at hx hD true, hsend, htold1, .inr ⟨by rw [htf], rfl⟩, downs_mem hx1 rfl, ?_, downs_false hx rfl⟩
    rw [mask_at (S := { S with devs := S.devs.set D { x with down := true } }) hx1 hD false]
    simp only [List.set_set]
  · have htt : S.told D = (x.tote, x.seq, true) := by unfold told; rw [dv_get hx, if_neg (by rw [noDev_at hx hD]; simp [ht])]
    obtain ⟨⟨t0, t30⟩, _⟩ := hok
    obtain ⟨t, hte⟩ := Int.eq_ofNat_of_zero_le t0
    have hmoved : ({ S with devs := S.devs.set D { x with down := true } } : MM).moved D x.tote = (0, { S with wh := S.wh.set x.tote.toNat (e.2 + 1), nodes := (S.nodes.set e.1.toNat 0).set e.2.toNat x.tote, devs := S.devs.set D { x with down := true, tote := 0 } }) := by
      unfold moved
      rw [if_neg (by rw [hn1, noTote_no (by omega) t30]; simp), hd1, if_neg (by simpa using ht), if_pos rfl]
      have : ({ S with devs := S.devs.set D { x with down := true } } : MM).ed D = e := hed
      rw [this]
      simp only [List.set_set, Int.toNat_natCast]
    have hx2 : (S.devs.set D { x with down := true, tote := 0 })[D]? = some { x with down := true, tote := 0 } := set_get hx _
    refine ⟨{ S with devs := S.devs.set D { x with down := true } }, { S with wh := S.wh.set x.tote.toNat (e.2 + 1), nodes := (S.nodes.set e.1.toNat 0).set e.2.toNat x.tote, devs := S.devs.set D { x with down := true, tote := 0 } },
      { S with wh := S.wh.set x.tote.toNat (e.2 + 1), nodes := (S.nodes.set e.1.toNat 0).set e.2.toNat x.tote, devs := S.devs.set D { x with down := false, tote := 0 } }, mask_at hx hD true, hsend, htold1, .inl ⟨by rw [htt], ?_, ?_⟩, ?_, ?_, ?_⟩
    · rw [htt]; exact hmoved
    · rw [htt]
      unfold whereIs
      rw [if_neg (by rw [noTote_no (by omega) t30]; simp)]
      simp only [List.getD, List.getElem?_set]
      rw [if_pos trivial, if_pos (by omega)]
      simp
    · exact downs_mem (S := { S with wh := S.wh.set x.tote.toNat (e.2 + 1), nodes := (S.nodes.set e.1.toNat 0).set e.2.toNat x.tote, devs := S.devs.set D { x with down := true, tote := 0 } }) hx2 rfl
    · rw [mask_at (S := { S with wh := S.wh.set x.tote.toNat (e.2 + 1), nodes := (S.nodes.set e.1.toNat 0).set e.2.toNat x.tote, devs := S.devs.set D { x with down := true, tote := 0 } }) hx2 hD false]
      simp only [List.set_set]
    · have := downs_false (S := S) (y := { x with down := false, tote := 0 }) hx rfl
      exact this
end MM
end Go.Proofs.Ytncggholhmgoaaa
