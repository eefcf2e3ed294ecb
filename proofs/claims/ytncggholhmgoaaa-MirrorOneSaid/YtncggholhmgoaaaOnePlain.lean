/- Plain facts on the mirror's model for MirrorOne: totes and nodes belong together, told devices don't meet. No program in sight. -/
import Derived.Test.YtncggholhmgoaaaMasksPlain
import Derived.Test.YtncggholhmgoaaaMirrorNew
namespace Go.Proofs.Ytncggholhmgoaaa
set_option linter.unusedVariables false
set_option linter.unusedSimpArgs false
theorem get_set {α : Type} {l : List α} {i j : Nat} {x y : α} (h : (l.set i x)[j]? = some y) : (i = j ∧ y = x) ∨ (i ≠ j ∧ l[j]? = some y) := by
  by_cases e : i = j
  · subst e
    have hl := (List.getElem?_eq_some_iff.1 h).1
    rw [List.getElem?_set, if_pos rfl, if_pos (by simpa using hl)] at h
    exact .inl ⟨rfl, by simpa using h.symm⟩
  · rw [List.getElem?_set, if_neg e] at h
    exact .inr ⟨e, h⟩
namespace MM

/-- What stands in 'where' and at the nodes belongs together; what is told does not meet. -/
structure One (S : MM) (put : List Bool) (E : List (Int × Int)) (n : Nat) : Prop where
  edges : S.edges = E
  nlen : S.nodes.length = n
  dlen : S.devs.length = E.length + 1
  wlen : S.wh.length = 31
  plen : put.length = 31
  ends : ∀ e ∈ E, (0 ≤ e.1 ∧ e.1 < n) ∧ (0 ≤ e.2 ∧ e.2 < n) ∧ e.1 ≠ e.2
  was : ∀ t : Nat, 1 ≤ t → t ≤ 30 → put[t]? = some (decide (0 < S.wh.getD t 0))
  toNode : ∀ t : Nat, 1 ≤ t → t ≤ 30 → 0 < S.wh.getD t 0 → ∃ j : Nat, S.wh.getD t 0 = (j : Int) + 1 ∧ S.nodes[j]? = some (t : Int)
  toWh : ∀ (j : Nat) (x : Int), S.nodes[j]? = some x → x ≠ 0 → 1 ≤ x ∧ x ≤ 30 ∧ S.wh.getD x.toNat 0 = (j : Int) + 1
  told : ∀ (d : Nat) (x : MD), S.devs[d]? = some x → x.tote ≠ 0 → 1 ≤ d ∧ 1 ≤ x.tote ∧ x.tote ≤ 30 ∧ ∃ e, E[d - 1]? = some e ∧ S.wh.getD x.tote.toNat 0 = e.1 + 1 ∧ S.nodes[e.2.toNat]? = some 0
  oneTote : ∀ (d d' : Nat) (x x' : MD), S.devs[d]? = some x → S.devs[d']? = some x' → x.tote ≠ 0 → x.tote = x'.tote → d = d'
  oneNode : ∀ (d d' : Nat) (x x' : MD) (e e' : Int × Int), S.devs[d]? = some x → S.devs[d']? = some x' → x.tote ≠ 0 → x'.tote ≠ 0 → E[d - 1]? = some e → E[d' - 1]? = some e' → e.2 = e'.2 → d = d'

variable {S : MM} {pb : List Bool} {E : List (Int × Int)} {n : Nat}

theorem getD_of {l : List Int} {i : Nat} {x : Int} (h : l[i]? = some x) : l.getD i 0 = x := by simp [List.getD, h]
theorem gset_eq {l : List Int} {i : Nat} (h : i < l.length) (x : Int) : (l.set i x).getD i 0 = x := by simp [List.getD, h]
theorem gset_ne {l : List Int} {i j : Nat} (h : i ≠ j) (x : Int) : (l.set i x).getD j 0 = l.getD j 0 := by simp [List.getD, List.getElem?_set, h]

theorem Lone_init_nodes (l : Lay) : (MM.init l).nodes = List.replicate l.nodes.length 0 := rfl

theorem One.init (l : Lay) (hk : l.ok = true) : One (MM.init l) (List.replicate 31 false) l.edges l.nodes.length := by
  have hz : ∀ t, (MM.init l).wh.getD t 0 = 0 := by
    intro t
    simp only [MM.init, List.getD, List.getElem?_replicate]
    split <;> rfl
  have hd : ∀ (d : Nat) (x : MD), (MM.init l).devs[d]? = some x → x.tote = 0 := by
    intro d x hx
    simp only [MM.init, List.getElem?_replicate] at hx
    split at hx
    · simp only [Option.some.injEq] at hx; subst hx; rfl
    · cases hx
  refine ⟨rfl, by simp [MM.init], by simp [MM.init], by simp [MM.init], by simp, by simpa using Lay.ok_ends hk, ?_, ?_, ?_, ?_, ?_, ?_⟩
  · intro t t1 t2
    rw [hz, List.getElem?_replicate, if_pos (by omega)]; rfl
  · intro t t1 t2 h
    rw [hz] at h; omega
  · intro j x hx h0
    simp only [MM.init, List.getElem?_replicate] at hx
    split at hx
    · simp only [Option.some.injEq] at hx; exact absurd hx.symm h0
    · cases hx
  · intro d x hx h0; exact absurd (hd d x hx) h0
  · intro d d' x x' hx _ h0; exact absurd (hd d x hx) h0
  · intro d d' x x' e e' hx _ h0; exact absurd (hd d x hx) h0

/-- A device's change that leaves what is told, or takes it away. -/
theorem One.setDev (h : One S pb E n) {D : Nat} {x y : MD} (hx : S.devs[D]? = some x) (hy : y.tote = x.tote ∨ y.tote = 0) : One { S with devs := S.devs.set D y } pb E n := by
  have hg : ∀ (d : Nat) (z : MD), (S.devs.set D y)[d]? = some z → z.tote ≠ 0 → ∃ z', S.devs[d]? = some z' ∧ z'.tote = z.tote := by
    intro d z hz h0
    rw [List.getElem?_set] at hz
    split at hz
    · rename_i e
      split at hz
      · simp only [Option.some.injEq] at hz
        subst hz e
        rcases hy with hy | hy
        · exact ⟨x, hx, hy.symm⟩
        · exact absurd hy h0
      · cases hz
    · exact ⟨z, hz, rfl⟩
  refine { h with dlen := by simpa using h.dlen, told := ?_, oneTote := ?_, oneNode := ?_ }
  · intro d z hz h0
    obtain ⟨z', h1, h2⟩ := hg d z hz h0
    have := h.told d z' h1 (by rw [h2]; exact h0)
    rw [h2] at this
    exact this
  · intro d d' z z' hz hz' h0 he
    obtain ⟨a, a1, a2⟩ := hg d z hz h0
    obtain ⟨b, b1, b2⟩ := hg d' z' hz' (by rw [← he]; exact h0)
    exact h.oneTote d d' a b a1 b1 (by rw [a2]; exact h0) (by rw [a2, b2, he])
  · intro d d' z z' e e' hz hz' h0 h0' he he' heq
    obtain ⟨a, a1, a2⟩ := hg d z hz h0
    obtain ⟨b, b1, b2⟩ := hg d' z' hz' h0'
    exact h.oneNode d d' a b e e' a1 b1 (by rw [a2]; exact h0) (by rw [b2]; exact h0') he he' heq

theorem dv_some {d : Int} (h : S.noDev d = false) : ∃ x, S.devs[d.toNat]? = some x ∧ S.dv d = x := by
  obtain ⟨h1, h2⟩ := noDev_of h
  have hl : d.toNat < S.devs.length := by omega
  refine ⟨S.devs[d.toNat], List.getElem?_eq_getElem hl, ?_⟩
  simp [dv, List.getD, hl]
theorem bool_no {b : Bool} (h : ¬ b = true) : b = false := by cases b <;> simp_all

theorem One.mask (h : One S pb E n) (d : Int) (y : Bool) : One (S.mask d y).2 pb E n := by
  unfold MM.mask
  split
  · exact h
  · rename_i hn
    obtain ⟨x, hx, hd⟩ := dv_some (bool_no hn)
    exact h.setDev hx (.inl (by rw [hd]))
theorem One.drop (h : One S pb E n) (d : Int) : One (S.drop d).2 pb E n := by
  unfold MM.drop
  split
  · exact h
  · rename_i hn
    split
    · exact h
    · obtain ⟨x, hx, hd⟩ := dv_some (bool_no hn)
      exact h.setDev hx (.inr rfl)

theorem hit_of {d : Nat} {x : MD} {e : Int × Int} (hx : S.devs[d]? = some x) (h0 : 0 < x.tote) (he : S.edges[d - 1]? = some e) : S.hit e.2 d = true := by
  unfold hit
  have h1 : S.devs.getD d MD.zero = x := by simp [List.getD, hx]
  have h2 : S.edges.getD (d - 1) (0, 0) = e := by simp [List.getD, he]
  rw [h1, h2]; simp [h0]
theorem not_taken {m : Int} (hm : S.noNode m = false) (h : S.taken m = false) : (∀ d, d < S.devs.length → S.hit m d = false) ∧ S.nd m ≤ 0 := by
  rw [taken, if_neg (by rw [hm]; simp)] at h
  simp only [Bool.or_eq_false_iff, decide_eq_false_iff_not] at h
  refine ⟨fun d hd => ?_, by omega⟩
  have := List.any_eq_false.1 h.1 d (List.mem_range.2 hd)
  exact bool_no this
theorem One.node_zero (h : One S pb E n) {m : Int} (h1 : 0 ≤ m ∧ m < n) (h2 : S.nd m ≤ 0) : S.nodes[m.toNat]? = some 0 := by
  have hl : m.toNat < S.nodes.length := by have := h.nlen; omega
  have hg := List.getElem?_eq_getElem hl
  have hd : S.nd m = S.nodes[m.toNat] := by simp [nd, List.getD, hg]
  rw [hg]
  congr 1
  by_cases h0 : S.nodes[m.toNat] = 0
  · exact h0
  · have := (h.toWh _ _ hg h0).1
    omega
theorem One.wh_nonneg (h : One S pb E n) (hw : ∀ x ∈ S.wh, 0 ≤ x) (t : Nat) : 0 ≤ S.wh.getD t 0 := by
  by_cases hl : t < S.wh.length
  · have : S.wh.getD t 0 = S.wh[t] := by simp [List.getD, hl]
    rw [this]; exact hw _ (List.getElem_mem hl)
  · have : S.wh.getD t 0 = 0 := by simp [List.getD, hl]
    omega

theorem One.put (h : One S pb E n) (hw : ∀ x ∈ S.wh, 0 ≤ x) (t m : Int) :
    ((S.put t m).1 ≠ 0 ∧ (S.put t m).2 = S) ∨ ((S.put t m).1 = 0 ∧ 1 ≤ t ∧ t ≤ 30 ∧ One (S.put t m).2 (pb.set t.toNat true) E n) := by
  unfold MM.put
  split
  · left; exact ⟨by simp, rfl⟩
  · rename_i h1
    split
    · left; exact ⟨by simp, rfl⟩
    · rename_i h2
      split
      · left; exact ⟨by simp, rfl⟩
      · rename_i h3
        right
        have hT := bool_no (fun hh => h1 (.inl hh))
        have hN := bool_no (fun hh => h1 (.inr hh))
        have hK := bool_no h3
        obtain ⟨t1, t2⟩ := noTote_of hT
        obtain ⟨m1, m2⟩ := noNode_of hN
        rw [h.nlen] at m2
        obtain ⟨hh, hnd⟩ := not_taken hN hK
        obtain ⟨a, rfl⟩ := Int.eq_ofNat_of_zero_le (show 0 ≤ t by omega)
        obtain ⟨b, rfl⟩ := Int.eq_ofNat_of_zero_le m1
        have hz := h.node_zero ⟨m1, m2⟩ hnd
        simp only [Int.toNat_natCast] at h2 hz ⊢
        have hwa : S.wh.getD a 0 = 0 := by have := h.wh_nonneg hw a; omega
        have hal : a < S.wh.length := by rw [h.wlen]; omega
        have hbl : b < S.nodes.length := by rw [h.nlen]; omega
        refine ⟨trivial, by omega, by omega, ?_⟩
        refine { h with nlen := by simpa using h.nlen, wlen := by simpa using h.wlen, plen := by simpa using h.plen, was := ?_, toNode := ?_, toWh := ?_, told := ?_ }
        · intro u u1 u2
          by_cases e : a = u
          · subst e
            rw [List.getElem?_set, if_pos rfl, if_pos (by rw [h.plen]; omega), gset_eq hal]
            congr 1
            symm
            exact decide_eq_true (by omega)
          · rw [List.getElem?_set, if_neg e, gset_ne e]
            exact h.was u u1 u2
        · intro u u1 u2 hu
          by_cases e : a = u
          · subst e
            exact ⟨b, gset_eq hal _, by rw [List.getElem?_set, if_pos rfl, if_pos hbl]⟩
          · simp only at hu ⊢
            rw [gset_ne e] at hu ⊢
            obtain ⟨j, j1, j2⟩ := h.toNode u u1 u2 hu
            refine ⟨j, j1, ?_⟩
            rw [List.getElem?_set, if_neg ?_]
            · exact j2
            · intro e2; subst e2
              rw [hz] at j2; simp at j2; omega
        · intro j x hx h0
          simp only at hx ⊢
          rcases get_set hx with ⟨rfl, rfl⟩ | ⟨_, hx⟩
          · exact ⟨by omega, by omega, by rw [Int.toNat_natCast]; exact gset_eq hal _⟩
          · obtain ⟨x1, x2, x3⟩ := h.toWh j x hx h0
            refine ⟨x1, x2, ?_⟩
            rw [gset_ne ?_]
            · exact x3
            · intro e; rw [← e, hwa] at x3; omega
        · intro d x hx h0
          obtain ⟨d1, x1, x2, e, e1, e2, e3⟩ := h.told d x hx h0
          refine ⟨d1, x1, x2, e, e1, ?_, ?_⟩
          · rw [gset_ne ?_]
            · exact e2
            · intro e4
              rw [← e4, hwa] at e2
              have := (h.ends e (List.mem_of_getElem? e1)).1.1
              omega
          · simp only
            rw [List.getElem?_set, if_neg ?_]
            · exact e3
            · intro e4
              have hl := (List.getElem?_eq_some_iff.1 hx).1
              have hf := hh d hl
              have he2 := (h.ends e (List.mem_of_getElem? e1)).2.1.1
              have : S.hit e.2 d = true := hit_of hx (by omega) (by rw [h.edges]; exact e1)
              rw [show e.2 = (b : Int) by omega, hf] at this
              cases this

theorem One.ed_of (h : One S pb E n) {d : Int} (hd : S.noDev d = false) : ∃ e, E[d.toNat - 1]? = some e ∧ S.ed d = e ∧ 1 ≤ d.toNat := by
  obtain ⟨h1, h2⟩ := noDev_of hd
  rw [h.dlen] at h2
  have hl : d.toNat - 1 < E.length := by omega
  refine ⟨E[d.toNat - 1], List.getElem?_eq_getElem hl, ?_, by omega⟩
  rw [ed, h.edges]
  simp [List.getD, hl]

theorem One.send (h : One S pb E n) (hdn : ∀ x ∈ S.devs, 0 ≤ x.tote) (d t s : Int) : One (S.send d t s).2 pb E n := by
  unfold MM.send
  split
  · exact h
  · rename_i h1
    split
    · exact h
    · rename_i h2
      split
      · exact h
      · rename_i h3
        split
        · exact h
        · rename_i h4
          have hT := bool_no (fun hh => h1 (.inl (.inl hh)))
          have hD := bool_no (fun hh => h1 (.inl (.inr hh)))
          have hM := bool_no (fun hh => h3 (.inr hh))
          have hK := bool_no h4
          have hW : S.whereIs t = (S.ed d).1 := Classical.byContradiction fun hh => h3 (.inl hh)
          obtain ⟨t1, t2⟩ := noTote_of hT
          obtain ⟨x, hx, hdv⟩ := dv_some hD
          obtain ⟨e, he, hed, hd1⟩ := h.ed_of hD
          rw [hdv] at h2 ⊢
          rw [hed] at hW hK
          obtain ⟨⟨e1, e2⟩, ⟨e3, e4⟩, e5⟩ := h.ends e (List.mem_of_getElem? he)
          have hx0 : x.tote = 0 := by
            have := hdn x (List.mem_of_getElem? hx)
            have : ¬ 0 < x.tote := fun hh => h2 (.inr hh)
            omega
          have hwt : S.wh.getD t.toNat 0 = e.1 + 1 := by
            rw [whereIs, if_neg (by rw [hT]; simp)] at hW
            omega
          have hN : S.noNode e.2 = false := noNode_no e3 (by rw [h.nlen]; exact e4)
          obtain ⟨hh, hnd⟩ := not_taken hN hK
          have hz := h.node_zero ⟨e3, e4⟩ hnd
          have hmv : ∀ z ∈ S.devs, z.tote ≠ t := by
            intro z hz' hzt
            have := List.any_eq_false.1 hM z hz'
            simp [hzt] at this
          have hnohit : ∀ (d' : Nat) (z : MD) (e' : Int × Int), S.devs[d']? = some z → z.tote ≠ 0 → E[d' - 1]? = some e' → e'.2 ≠ e.2 := by
            intro d' z e' hz' h0 he' heq
            have hf := hh d' (List.getElem?_eq_some_iff.1 hz').1
            have := hdn z (List.mem_of_getElem? hz')
            have ht := hit_of (S := S) hz' (by omega) (by rw [h.edges]; exact he')
            rw [heq, hf] at ht
            cases ht
          refine { h with dlen := by simpa using h.dlen, told := ?_, oneTote := ?_, oneNode := ?_ }
          · intro d' z hz' h0
            rcases get_set hz' with ⟨rfl, rfl⟩ | ⟨_, hz'⟩
            · exact ⟨hd1, t1, t2, e, he, hwt, hz⟩
            · exact h.told d' z hz' h0
          · intro d1 d2 z1 z2 g1 g2 h0 heq
            rcases get_set g1 with ⟨rfl, rfl⟩ | ⟨_, g1⟩
            · rcases get_set g2 with ⟨rfl, rfl⟩ | ⟨_, g2⟩
              · rfl
              · exact absurd heq.symm (hmv _ (List.mem_of_getElem? g2))
            · rcases get_set g2 with ⟨rfl, rfl⟩ | ⟨_, g2⟩
              · exact absurd heq (hmv _ (List.mem_of_getElem? g1))
              · exact h.oneTote d1 d2 z1 z2 g1 g2 h0 heq
          · intro d1 d2 z1 z2 f1 f2 g1 g2 h0 h0' hf1 hf2 heq
            rcases get_set g1 with ⟨rfl, rfl⟩ | ⟨_, g1⟩
            · rcases get_set g2 with ⟨rfl, rfl⟩ | ⟨_, g2⟩
              · rfl
              · rw [he] at hf1
                simp only [Option.some.injEq] at hf1
                subst hf1
                exact absurd heq.symm (hnohit _ _ _ g2 h0' hf2)
            · rcases get_set g2 with ⟨rfl, rfl⟩ | ⟨_, g2⟩
              · rw [he] at hf2
                simp only [Option.some.injEq] at hf2
                subst hf2
                exact absurd heq (hnohit _ _ _ g1 h0 hf1)
              · exact h.oneNode d1 d2 z1 z2 f1 f2 g1 g2 h0 h0' hf1 hf2 heq

theorem One.moved (h : One S pb E n) (d t : Int) : One (S.moved d t).2 pb E n := by
  unfold MM.moved
  split
  · exact h
  · rename_i h1
    split
    · exact h
    · rename_i h2
      split
      · rename_i h3
        have hT := bool_no (fun hh => h1 (.inl hh))
        have hD := bool_no (fun hh => h1 (.inr hh))
        obtain ⟨x, hx, hdv⟩ := dv_some hD
        obtain ⟨e, he, hed, hd1⟩ := h.ed_of hD
        rw [hdv] at h2 h3 ⊢
        rw [hed]
        subst h3
        obtain ⟨_, t1, t2, e', he', hw, hz⟩ := h.told _ x hx h2
        rw [he] at he'
        simp only [Option.some.injEq] at he'
        subst he'
        obtain ⟨⟨e1, e2⟩, ⟨e3, e4⟩, e5⟩ := h.ends e (List.mem_of_getElem? he)
        obtain ⟨t, ht⟩ := Int.eq_ofNat_of_zero_le (show 0 ≤ x.tote by omega)
        have htn : x.tote.toNat = t := by omega
        obtain ⟨a, ha⟩ := Int.eq_ofNat_of_zero_le e1
        obtain ⟨b, hb⟩ := Int.eq_ofNat_of_zero_le e3
        have han : e.1.toNat = a := by omega
        have hbn : e.2.toNat = b := by omega
        have hab : a ≠ b := by omega
        simp only [htn, han, hbn] at hw hz ⊢
        have htl : t < S.wh.length := by rw [h.wlen]; omega
        have hal : a < S.nodes.length := by rw [h.nlen]; omega
        have hbl : b < S.nodes.length := by rw [h.nlen]; omega
        obtain ⟨j, j1, j2⟩ := h.toNode t (by omega) (by omega) (by omega)
        have hja : j = a := by omega
        rw [hja] at j2
        have h0 := h.setDev (y := { x with tote := 0 }) hx (.inr rfl)
        have hno : ∀ (d' : Nat) (z : MD), (S.devs.set d.toNat { x with tote := 0 })[d']? = some z → z.tote ≠ 0 → d' ≠ d.toNat ∧ S.devs[d']? = some z := by
          intro d' z hz' hz0
          rcases get_set hz' with ⟨rfl, rfl⟩ | ⟨hne, hz'⟩
          · exact absurd rfl hz0
          · exact ⟨Ne.symm hne, hz'⟩
        refine { h0 with nlen := by simpa using h.nlen, wlen := by simpa using h.wlen, was := ?_, toNode := ?_, toWh := ?_, told := ?_ }
        · intro u u1 u2
          by_cases eu : t = u
          · subst eu
            rw [gset_eq htl, h.was t u1 u2]
            congr 1
            rw [decide_eq_true (by omega), decide_eq_true (by omega)]
          · rw [gset_ne eu]
            exact h.was u u1 u2
        · intro u u1 u2 hu
          simp only at hu ⊢
          by_cases eu : t = u
          · subst eu
            refine ⟨b, by rw [gset_eq htl, hb], ?_⟩
            rw [List.getElem?_set, if_pos rfl, if_pos (by simpa using hbl), ht]
          · rw [gset_ne eu] at hu ⊢
            obtain ⟨k, k1, k2⟩ := h.toNode u u1 u2 hu
            refine ⟨k, k1, ?_⟩
            have hka : a ≠ k := by
              intro ek
              rw [← ek, j2] at k2
              simp at k2; omega
            have hkb : b ≠ k := by
              intro ek
              rw [← ek, hz] at k2
              simp at k2; omega
            rw [List.getElem?_set, if_neg hkb, List.getElem?_set, if_neg hka]
            exact k2
        · intro k y hy hy0
          simp only at hy ⊢
          rcases get_set hy with ⟨rfl, rfl⟩ | ⟨hne, hy⟩
          · refine ⟨t1, t2, ?_⟩
            rw [htn, gset_eq htl, hb]
          · rcases get_set hy with ⟨rfl, rfl⟩ | ⟨hne2, hy⟩
            · exact absurd rfl hy0
            · obtain ⟨y1, y2, y3⟩ := h.toWh k y hy hy0
              refine ⟨y1, y2, ?_⟩
              rw [gset_ne ?_]
              · exact y3
              · intro eq
                rw [← eq, hw] at y3
                omega
        · intro d' z hz' hz0
          obtain ⟨hne, hzo⟩ := hno d' z hz' hz0
          obtain ⟨d1, z1, z2, f, f1, f2, f3⟩ := h.told d' z hzo hz0
          refine ⟨d1, z1, z2, f, f1, ?_, ?_⟩
          · simp only
            rw [gset_ne ?_]
            · exact f2
            · intro eq
              apply hne
              exact (h.oneTote _ _ _ _ hx hzo h2 (by omega)).symm
          · simp only
            have hf2 : f.2.toNat ≠ b := by
              intro eq
              apply hne
              have hf0 := (h.ends f (List.mem_of_getElem? f1)).2.1.1
              exact (h.oneNode _ _ _ _ _ _ hx hzo h2 hz0 he f1 (by omega)).symm
            rw [List.getElem?_set, if_neg (Ne.symm hf2), List.getElem?_set, if_neg ?_]
            · exact f3
            · intro eq
              rw [← eq, j2] at f3
              simp at f3; omega
      · exact h

/-- A note is applied: a tote is put, or none. -/
theorem One.apply (h : One S pb E n) (hw : ∀ x ∈ S.wh, 0 ≤ x) (hdn : ∀ x ∈ S.devs, 0 ≤ x.tote) (o : Nt) :
    (((S.apply o).1 = 0 ∧ o.kind = 1) ∧ 1 ≤ o.a ∧ o.a ≤ 30 ∧ One (S.apply o).2 (pb.set o.a.toNat true) E n) ∨ (¬ ((S.apply o).1 = 0 ∧ o.kind = 1) ∧ One (S.apply o).2 pb E n) := by
  unfold MM.apply
  split
  · rename_i hk
    rcases h.put hw o.a o.b with ⟨a, b⟩ | ⟨a, b, c, e⟩
    · right
      refine ⟨fun hh => a hh.1, ?_⟩
      rw [b]; exact h
    · left; exact ⟨⟨a, hk⟩, b, c, e⟩
  · rename_i hk
    right
    refine ⟨fun hh => hk hh.2, ?_⟩
    split
    · exact h.send hdn _ _ _
    · split
      · exact h.moved _ _
      · split
        · exact h.drop _
        · split
          · exact h.mask _ _
          · exact h
end MM
end Go.Proofs.Ytncggholhmgoaaa
