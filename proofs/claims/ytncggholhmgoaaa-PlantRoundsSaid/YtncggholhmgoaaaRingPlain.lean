/- A ring of tracks, and a tote that goes round it: plain facts for PlantRounds. No program in sight. -/
import Derived.Test.YtncggholhmgoaaaPlantPlain2
import Derived.Test.YtncggholhmgoaaaPlantNew
namespace Go.Proofs.Ytncggholhmgoaaa
set_option linter.unusedVariables false
set_option linter.unusedSimpArgs false

def ringByte (i : Nat) : UInt8 := UInt8.ofNat (97 + i)
def ringName (i : Nat) : ByteArray := ⟨#[110, ringByte i]⟩
theorem ringByte_nat : ∀ i, i < 8 → ((ringByte i).toNat : Int) = 97 + (i : Int) := by decide
theorem ringName_app (i : Nat) : (⟨#[110]⟩ : ByteArray) ++ ⟨#[ringByte i]⟩ = ringName i := by
  apply ByteArray.ext; simp [ringName]
def ringNodes (k : Nat) : List Nd := (List.range k).map fun i => ⟨ringName i, 1, 0⟩
def ringEdges (n k : Nat) : List (Int × Int) := (List.range k).map fun (i : Nat) => ((i : Int), (((i + 1) % n : Nat) : Int))
theorem ringNodes_succ (k : Nat) : ringNodes (k + 1) = ringNodes k ++ [⟨ringName k, 1, 0⟩] := by simp [ringNodes, List.range_succ]
theorem ringEdges_succ (n k : Nat) : ringEdges n (k + 1) = ringEdges n k ++ [((k : Int), (((k + 1) % n : Nat) : Int))] := by simp [ringEdges, List.range_succ]
def ringLay (n : Nat) : Lay := ⟨ringNodes n, ringEdges n n⟩
theorem ring_ok (n : Nat) (h2 : 2 ≤ n) (h7 : n ≤ 7) : (ringLay n).ok = true := by
  have : n = 2 ∨ n = 3 ∨ n = 4 ∨ n = 5 ∨ n = 6 ∨ n = 7 := by omega
  rcases this with rfl | rfl | rfl | rfl | rfl | rfl <;> decide +kernel
theorem ring_where : ∀ n, n < 8 → ∀ q, q < n → findIdx ((List.replicate n (0 : Int)).set q 1) 1 = q := by decide
theorem ring_nd1 : ∀ n, n < 8 → ∀ j, j < n → ((List.replicate n (0 : Int)).set j 1).getD j 0 = 1 := by decide
theorem ring_nd2 : ∀ n, n < 8 → 2 ≤ n → ∀ j, j < n → ((List.replicate n (0 : Int)).set j 1).getD ((j + 1) % n) 0 = 0 := by decide
theorem ring_set : ∀ n, n < 8 → ∀ j, j < n → ((((List.replicate n (0 : Int)).set j 1).set j 0).set ((j + 1) % n) 1) = (List.replicate n (0 : Int)).set ((j + 1) % n) 1 := by decide
theorem ring_put : ∀ n, n < 8 → 2 ≤ n → (PM.init (ringLay n)).put 1 0 = (0, { PM.init (ringLay n) with nodes := (List.replicate n 0).set 0 1 }) := by
  intro n h7 h2
  have : n = 2 ∨ n = 3 ∨ n = 4 ∨ n = 5 ∨ n = 6 ∨ n = 7 := by omega
  rcases this with rfl | rfl | rfl | rfl | rfl | rfl <;> rfl
theorem ring_edge {n j : Nat} (h : j < n) : (ringEdges n n)[j]? = some ((j : Int), (((j + 1) % n : Nat) : Int)) := by
  simp [ringEdges, h]

structure Ring (S : PM) (n : Nat) (f : Int) (i : Nat) : Prop where
  edges : S.edges = ringEdges n n
  nodes : S.nodes = (List.replicate n 0).set (i % n) 1
  len : S.devs.length = n + 1
  devs : ∀ j, j < n → ∃ dv, S.devs[j + 1]? = some dv ∧ dv.broken = false ∧ ((dv.did = false ∧ i ≤ j) ∨ (dv.did = true ∧ dv.tote = 1 ∧ ∃ m, m < i ∧ i ≤ m + n ∧ m % n = j ∧ dv.seq = (f + m) % 65536))
  moves : S.moves = i

theorem Ring.start (n : Nat) (f : Int) : Ring { PM.init (ringLay n) with nodes := (List.replicate n 0).set 0 1 } n f 0 := by
  have hl : (ringLay n).edges.length = n := by simp [ringLay, ringEdges]
  refine ⟨rfl, by simp, by simp [PM.init, hl], ?_, rfl⟩
  intro j hj
  refine ⟨⟨false, false, 0, 0⟩, ?_, rfl, .inl ⟨rfl, Nat.zero_le _⟩⟩
  simp [PM.init, hl, hj]

theorem Ring.where_ {S : PM} {n : Nat} {f : Int} {i : Nat} (h : Ring S n f i) (h2 : 2 ≤ n) (h7 : n ≤ 7) : S.whereIs 1 = ((i % n : Nat) : Int) := by
  unfold PM.whereIs
  rw [if_neg (by omega), h.nodes]
  exact ring_where n (by omega) _ (Nat.mod_lt _ (by omega))

theorem Ring.step {S : PM} {n : Nat} {f : Int} {i : Nat} (h : Ring S n f i) (h2 : 2 ≤ n) (h7 : n ≤ 7) :
    ∃ S', S.hear ⟨1, ((i % n + 1 : Nat) : Int), (f + i) % 65536, 1, 0⟩ = (S', ⟨2, ((i % n + 1 : Nat) : Int), (f + i) % 65536, 1, 0⟩, true) ∧ Ring S' n f (i + 1) ∧
      (n ≤ i → S'.hear ⟨1, ((i % n + 1 : Nat) : Int), (f + i - n) % 65536, 1, 0⟩ = (S', Tl.zero, false)) := by
  have hj : i % n < n := Nat.mod_lt _ (by omega)
  obtain ⟨dv, hdv, hb, hc⟩ := h.devs _ hj
  have hw := PM.works_of hdv (by omega)
  rw [hb] at hw
  have he : S.edges[i % n + 1 - 1]? = some (((i % n : Nat) : Int), (((i % n + 1) % n : Nat) : Int)) := by
    rw [h.edges, Nat.add_sub_cancel]; exact ring_edge hj
  have hq : (i % n + 1) % n = (i + 1) % n := Nat.mod_add_mod _ _ _
  have hnd1 : S.nd ((i % n : Nat) : Int) = 1 := by unfold PM.nd; rw [h.nodes, Int.toNat_natCast]; exact ring_nd1 n (by omega) _ hj
  have hnd2 : S.nd (((i % n + 1) % n : Nat) : Int) = 0 := by unfold PM.nd; rw [h.nodes, Int.toNat_natCast]; exact ring_nd2 n (by omega) h2 _ hj
  have hl := (List.getElem?_eq_some_iff.1 hdv).1
  have hm : S.move (i % n + 1) dv (((i % n : Nat) : Int), (((i % n + 1) % n : Nat) : Int)) ⟨1, ((i % n + 1 : Nat) : Int), (f + i) % 65536, 1, 0⟩ =
      ({ S with nodes := (S.nodes.set (i % n) 0).set ((i % n + 1) % n) 1, devs := S.devs.set (i % n + 1) { dv with did := true, seq := (f + i) % 65536, tote := 1 }, moves := S.moves + 1 }, ⟨2, ((i % n + 1 : Nat) : Int), (f + i) % 65536, 1, 0⟩, true) := by
    have c1 : ¬ (dv.did = true ∧ dv.seq = (f + i) % 65536 ∧ dv.tote = 1) := by
      rintro ⟨a, b, _⟩
      rcases hc with ⟨c, _⟩ | ⟨_, _, m, m1, m2, m3, m4⟩
      · rw [a] at c; cases c
      · rw [m4] at b
        have : i - m ≤ n := by omega
        omega
    have c2 : ¬ (dv.did = true ∧ ¬ 0 < dist dv.seq ((f + i) % 65536)) := by
      rintro ⟨a, b⟩
      rcases hc with ⟨c, _⟩ | ⟨_, _, m, m1, m2, m3, m4⟩
      · rw [a] at c; cases c
      · rw [m4] at b
        apply b
        unfold dist
        split <;> omega
    unfold PM.move
    simp only
    rw [if_neg c1, if_neg c2, if_neg (by rw [hnd1]; simp), if_neg (by rw [hnd2]; simp)]
    simp only [PM.done, Int.toNat_natCast]
  refine ⟨{ S with nodes := (S.nodes.set (i % n) 0).set ((i % n + 1) % n) 1, devs := S.devs.set (i % n + 1) { dv with did := true, seq := (f + i) % 65536, tote := 1 }, moves := S.moves + 1 }, ?_, ?_, ?_⟩
  · unfold PM.hear
    simp only [hw, Bool.not_false, Bool.true_eq_false, if_false, Int.toNat_natCast, hdv, he]
    exact hm
  · refine ⟨h.edges, ?_, by simpa using h.len, ?_, by simp only [h.moves]; omega⟩
    · simp only
      rw [h.nodes, ring_set n (by omega) _ hj, hq]
    · intro j' hj'
      simp only
      by_cases e : j' = i % n
      · subst e
        refine ⟨{ dv with did := true, seq := (f + i) % 65536, tote := 1 }, ?_, hb, .inr ⟨rfl, rfl, i, by omega, by omega, rfl, rfl⟩⟩
        rw [List.getElem?_set, if_pos rfl, if_pos hl]
      · obtain ⟨dv', h1, h3, h4⟩ := h.devs j' hj'
        refine ⟨dv', ?_, h3, ?_⟩
        · rw [List.getElem?_set, if_neg (by omega)]; exact h1
        · rcases h4 with ⟨a, b⟩ | ⟨a, b, m, m1, m2, m3, m4⟩
          · refine .inl ⟨a, ?_⟩
            rcases Nat.lt_or_ge i j' with h5 | h5
            · omega
            · have : i = j' := by omega
              subst this
              exact absurd (Nat.mod_eq_of_lt hj').symm e
          · refine .inr ⟨a, b, m, by omega, ?_, m3, m4⟩
            rcases Nat.lt_or_ge i (m + n) with h5 | h5
            · omega
            · have : i = m + n := by omega
              subst this
              exact absurd (by rw [Nat.add_mod_right]; exact m3.symm) e
  · intro hni
    have hd' : (S.devs.set (i % n + 1) { dv with did := true, seq := (f + i) % 65536, tote := 1 })[i % n + 1]? = some { dv with did := true, seq := (f + i) % 65536, tote := 1 } := by
      rw [List.getElem?_set, if_pos rfl, if_pos hl]
    have hw' : ({ S with nodes := (S.nodes.set (i % n) 0).set ((i % n + 1) % n) 1, devs := S.devs.set (i % n + 1) { dv with did := true, seq := (f + i) % 65536, tote := 1 }, moves := S.moves + 1 } : PM).works ((i % n + 1 : Nat) : Int) = true := by
      rw [PM.works_of (D := i % n + 1) hd' (by omega)]; simp [hb]
    unfold PM.hear
    simp only [hw', Bool.true_eq_false, if_false, Int.toNat_natCast, hd', he]
    simp only [if_true]
    unfold PM.move
    simp only
    rw [if_neg (by rintro ⟨_, a, _⟩; omega), if_pos]
    refine ⟨by first | rfl | trivial, ?_⟩
    unfold dist
    split <;> omega
end Go.Proofs.Ytncggholhmgoaaa
