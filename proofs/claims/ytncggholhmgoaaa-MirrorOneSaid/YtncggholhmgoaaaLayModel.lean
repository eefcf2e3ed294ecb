/- A layout as plain data, and when it is one. No program in sight. -/
namespace Go.Proofs.Ytncggholhmgoaaa
set_option linter.unusedVariables false
set_option linter.unusedSimpArgs false

structure Nd where
  name : ByteArray
  kind : Int
  zone : Int

structure Lay where
  nodes : List Nd
  edges : List (Int × Int)

def byteAt (s : ByteArray) (k : Nat) : Int := ((s.data.toList.getD k 0).toNat : Int)
def byteOk (k : Nat) (b : Int) : Bool := !((decide (b < 97) || decide (122 < b)) && (decide (k = 0) || decide (b < 48) || decide (57 < b)))
def nameOk (s : ByteArray) : Bool := (decide (1 ≤ s.size) && decide (s.size ≤ 8)) && (List.range s.size).all fun k => byteOk k (byteAt s k)
def nodeOk (l : List Nd) (i : Nat) : Bool := match l[i]? with
  | none => true
  | some x => !((l.take i).any fun y => decide (y.name = x.name)) && nameOk x.name && decide (1 ≤ x.kind) && decide (x.kind ≤ 4) && decide (0 ≤ x.zone) && decide (x.zone < 8)
def kindAt (l : List Nd) (i : Int) : Int := ((l[i.toNat]?).map (·.kind)).getD 0
def inR (l : List Nd) (i : Int) : Bool := decide (0 ≤ i) && decide (i < l.length)
def edgeOk (l : List Nd) (es : List (Int × Int)) (i : Nat) : Bool := match es[i]? with
  | none => true
  | some e => inR l e.1 && inR l e.2 && !(e.1 == e.2) && !((es.take i).contains e) && (kindAt l e.1 == 1 || kindAt l e.2 == 1)
def Lay.ok (l : Lay) : Bool :=
  (decide (1 ≤ l.nodes.length) && decide (l.nodes.length ≤ 40) && decide (l.edges.length ≤ 120)) &&
  ((List.range l.nodes.length).all (nodeOk l.nodes)) && ((List.range l.edges.length).all (edgeOk l.nodes l.edges))

theorem byteOk_iff (k : Nat) (b : Int) : byteOk k b = true ↔ ((97 ≤ b ∧ b ≤ 122) ∨ (1 ≤ k ∧ 48 ≤ b ∧ b ≤ 57)) := by
  simp only [byteOk, Bool.not_eq_true', Bool.and_eq_false_iff, Bool.or_eq_false_iff, decide_eq_false_iff_not]
  constructor
  · rintro (⟨h1, h2⟩ | ⟨⟨h1, h2⟩, h3⟩)
    · left; omega
    · right; omega
  · rintro (⟨h1, h2⟩ | ⟨h1, h2, h3⟩)
    · left; omega
    · right; omega
theorem byteOk_no {k : Nat} {b : Int} (h : ¬ ((97 ≤ b ∧ b ≤ 122) ∨ (1 ≤ k ∧ 48 ≤ b ∧ b ≤ 57))) : byteOk k b = false := by
  rw [Bool.eq_false_iff]; exact fun hh => h ((byteOk_iff k b).1 hh)
theorem nameOk_of {s : ByteArray} (h : ∀ k, k < s.size → byteOk k (byteAt s k) = true) : nameOk s = (decide (1 ≤ s.size) && decide (s.size ≤ 8)) := by
  have : ((List.range s.size).all fun k => byteOk k (byteAt s k)) = true := by
    rw [List.all_eq_true]; intro k hk; exact h k (List.mem_range.1 hk)
  simp [nameOk, this]
theorem nameOk_no {s : ByteArray} {k : Nat} (hk : k < s.size) (h : byteOk k (byteAt s k) = false) : nameOk s = false := by
  have : ((List.range s.size).all fun k => byteOk k (byteAt s k)) = false := by
    rw [Bool.eq_false_iff]; intro hh; rw [List.all_eq_true] at hh; have := hh k (List.mem_range.2 hk); rw [h] at this; cases this
  simp [nameOk, this]
theorem Lay.ok_few {l : Lay} (h : ¬ (1 ≤ l.nodes.length ∧ l.nodes.length ≤ 40 ∧ l.edges.length ≤ 120)) : l.ok = false := by
  unfold Lay.ok
  have : (decide (1 ≤ l.nodes.length) && decide (l.nodes.length ≤ 40) && decide (l.edges.length ≤ 120)) = false := by
    rw [Bool.eq_false_iff]; intro hh; simp only [Bool.and_eq_true, decide_eq_true_eq] at hh; exact h ⟨hh.1.1, hh.1.2, hh.2⟩
  rw [this]; rfl
theorem Lay.ok_node {l : Lay} {i : Nat} (hi : i < l.nodes.length) (h : nodeOk l.nodes i = false) : l.ok = false := by
  unfold Lay.ok
  have : ((List.range l.nodes.length).all (nodeOk l.nodes)) = false := by
    rw [Bool.eq_false_iff]; intro hh; rw [List.all_eq_true] at hh; have := hh i (List.mem_range.2 hi); rw [h] at this; cases this
  rw [this, Bool.and_false, Bool.false_and]
theorem Lay.ok_edge {l : Lay} {i : Nat} (hi : i < l.edges.length) (h : edgeOk l.nodes l.edges i = false) : l.ok = false := by
  unfold Lay.ok
  have : ((List.range l.edges.length).all (edgeOk l.nodes l.edges)) = false := by
    rw [Bool.eq_false_iff]; intro hh; rw [List.all_eq_true] at hh; have := hh i (List.mem_range.2 hi); rw [h] at this; cases this
  rw [this, Bool.and_false]
theorem Lay.ok_yes {l : Lay} (h1 : 1 ≤ l.nodes.length) (h2 : l.nodes.length ≤ 40) (h3 : l.edges.length ≤ 120) (h4 : ∀ i, i < l.nodes.length → nodeOk l.nodes i = true) (h5 : ∀ i, i < l.edges.length → edgeOk l.nodes l.edges i = true) : l.ok = true := by
  unfold Lay.ok
  have e4 : ((List.range l.nodes.length).all (nodeOk l.nodes)) = true := by rw [List.all_eq_true]; intro k hk; exact h4 k (List.mem_range.1 hk)
  have e5 : ((List.range l.edges.length).all (edgeOk l.nodes l.edges)) = true := by rw [List.all_eq_true]; intro k hk; exact h5 k (List.mem_range.1 hk)
  rw [e4, e5]; simp [h1, h2, h3]
theorem Lay.ok_parts {l : Lay} (h : l.ok = true) : 1 ≤ l.nodes.length ∧ l.nodes.length ≤ 40 ∧ l.edges.length ≤ 120 ∧ (∀ i, i < l.nodes.length → nodeOk l.nodes i = true) ∧ (∀ i, i < l.edges.length → edgeOk l.nodes l.edges i = true) := by
  unfold Lay.ok at h
  simp only [Bool.and_eq_true, decide_eq_true_eq, List.all_eq_true, List.mem_range] at h
  exact ⟨h.1.1.1.1, h.1.1.1.2, h.1.1.2, h.1.2, h.2⟩
theorem Lay.ok_ends {l : Lay} (h : l.ok = true) : ∀ e ∈ l.edges, (0 ≤ e.1 ∧ e.1 < l.nodes.length) ∧ (0 ≤ e.2 ∧ e.2 < l.nodes.length) ∧ e.1 ≠ e.2 := by
  obtain ⟨_, _, _, _, h5⟩ := Lay.ok_parts h
  intro e he
  obtain ⟨i, hi, hei⟩ := List.getElem_of_mem he
  have := h5 i hi
  simp only [edgeOk, List.getElem?_eq_getElem hi, hei, inR, Bool.and_eq_true, decide_eq_true_eq, Bool.not_eq_true', beq_eq_false_iff_ne, ne_eq] at this
  exact ⟨this.1.1.1.1, this.1.1.1.2, this.1.1.2⟩

def names (l : List Nd) : List ByteArray := l.map (·.name)
theorem nodeOk_yes {l : List Nd} {i : Nat} {x : Nd} (hx : l[i]? = some x) (h1 : x.name ∉ (names l).take i) (h2 : nameOk x.name = true) (h3 : 1 ≤ x.kind) (h4 : x.kind ≤ 4) (h5 : 0 ≤ x.zone) (h6 : x.zone < 8) : nodeOk l i = true := by
  unfold nodeOk
  rw [hx]
  have : ((l.take i).any fun y => decide (y.name = x.name)) = false := by
    rw [Bool.eq_false_iff]
    intro hh
    rw [List.any_eq_true] at hh
    obtain ⟨y, hy, he⟩ := hh
    apply h1
    rw [names, ← List.map_take]
    exact List.mem_map.2 ⟨y, hy, by simpa using he⟩
  simp [this, h2, h3, h4, h5, h6]
theorem nodeOk_no {l : List Nd} {i : Nat} {x : Nd} (hx : l[i]? = some x) (h : x.name ∈ (names l).take i ∨ nameOk x.name = false ∨ ¬ (1 ≤ x.kind ∧ x.kind ≤ 4 ∧ 0 ≤ x.zone ∧ x.zone < 8)) : nodeOk l i = false := by
  rw [Bool.eq_false_iff]
  intro hh
  unfold nodeOk at hh
  rw [hx] at hh
  simp only [Bool.and_eq_true, decide_eq_true_eq, Bool.not_eq_true'] at hh
  obtain ⟨⟨⟨⟨⟨h1, h2⟩, h3⟩, h4⟩, h5⟩, h6⟩ := hh
  rcases h with h | h | h
  · rw [names, ← List.map_take] at h
    obtain ⟨y, hy, he⟩ := List.mem_map.1 h
    have : ((l.take i).any fun y => decide (y.name = x.name)) = true := List.any_eq_true.2 ⟨y, hy, by simpa using he⟩
    rw [this] at h1; cases h1
  · rw [h] at h2; cases h2
  · exact h ⟨h3, h4, h5, h6⟩
theorem edgeOk_yes {l : List Nd} {es : List (Int × Int)} {i : Nat} {a b : Nat} (he : es[i]? = some ((a : Int), (b : Int))) (ha : a < l.length) (hb : b < l.length) (hne : a ≠ b) (h1 : ((a : Int), (b : Int)) ∉ es.take i) (h2 : l[a].kind = 1 ∨ l[b].kind = 1) : edgeOk l es i = true := by
  unfold edgeOk
  rw [he]
  have e1 : (es.take i).contains ((a : Int), (b : Int)) = false := by
    rw [Bool.eq_false_iff]; intro hh; exact h1 (by simpa using hh)
  have k1 : kindAt l (a : Int) = l[a].kind := by simp [kindAt, ha]
  have k2 : kindAt l (b : Int) = l[b].kind := by simp [kindAt, hb]
  have hne' : ((a : Int) == (b : Int)) = false := by simp; omega
  simp only [inR, e1, k1, k2, hne']
  rcases h2 with h2 | h2 <;> simp [h2, ha, hb]
theorem edgeOk_no {l : List Nd} {es : List (Int × Int)} {i : Nat} {e : Int × Int} (he : es[i]? = some e) (h : ¬ (0 ≤ e.1 ∧ e.1 < l.length) ∨ ¬ (0 ≤ e.2 ∧ e.2 < l.length) ∨ e.1 = e.2 ∨ e ∈ es.take i ∨ (kindAt l e.1 ≠ 1 ∧ kindAt l e.2 ≠ 1)) : edgeOk l es i = false := by
  rw [Bool.eq_false_iff]
  intro hh
  unfold edgeOk at hh
  rw [he] at hh
  simp only [inR, Bool.and_eq_true, decide_eq_true_eq, Bool.not_eq_true', Bool.or_eq_true, beq_iff_eq, beq_eq_false_iff_ne, ne_eq] at hh
  obtain ⟨⟨⟨⟨h1, h2⟩, h3⟩, h4⟩, h5⟩ := hh
  rcases h with h | h | h | h | h
  · exact h h1
  · exact h h2
  · exact h3 h
  · have : (es.take i).contains e = true := by simpa using h
    rw [this] at h4; cases h4
  · rcases h5 with h5 | h5
    · exact h.1 h5
    · exact h.2 h5
theorem kindAt_in {l : List Nd} {a : Nat} (ha : a < l.length) : kindAt l (a : Int) = l[a].kind := by simp [kindAt, ha]
end Go.Proofs.Ytncggholhmgoaaa
