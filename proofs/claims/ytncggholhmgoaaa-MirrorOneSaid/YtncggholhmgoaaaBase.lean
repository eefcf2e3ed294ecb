/-
  Shared words for memory of this seat's proofs: frames ('Fr'), whole blocks ('Blk'), slices that read as a list ('Reads'). Plain lemmas, no program in sight.
-/
import Derived.Below
import Derived.Laws.OwnMore
import Derived.Deep.AppendLies
import Derived.Deep.Draws
import Derived.Laws.Rows
import Derived.Maps.AppendAt
import Derived.Lib.Hide
import Derived.Deep.QuietTactic
import Derived.StillTailTactics
namespace Go.Proofs.Ytncggholhmgoaaa
set_option linter.unusedVariables false
set_option linter.unusedSimpArgs false
open Go.RowKit

/-- All old blocks but those of S are as they were; the streams too; no block has gone. -/
structure Fr (S : List Nat) (w w' : World) : Prop where
  os : w'.os = w.os
  tape : w'.tape = w.tape
  output : w'.output = w.output
  size : w.heap.size ≤ w'.heap.size
  block : ∀ k, k < w.heap.size → k ∉ S → w'.heap[k]? = w.heap[k]?

section
variable {S T : List Nat} {w w' w'' : World}
theorem Fr.refl (S : List Nat) (w : World) : Fr S w w := ⟨rfl, rfl, rfl, Nat.le_refl _, fun _ _ _ => rfl⟩
theorem Fr.trans (h : Fr S w w') (k : Fr S w' w'') : Fr S w w'' :=
  ⟨k.os.trans h.os, k.tape.trans h.tape, k.output.trans h.output, Nat.le_trans h.size k.size, fun i hi hn => (k.block i (Nat.lt_of_lt_of_le hi h.size) hn).trans (h.block i hi hn)⟩
/-- What the second step writes is in S, or new since the first world. -/
theorem Fr.trans' (h : Fr S w w') (k : Fr T w' w'') (hT : ∀ i, i ∈ T → i ∈ S ∨ w.heap.size ≤ i) : Fr S w w'' :=
  ⟨k.os.trans h.os, k.tape.trans h.tape, k.output.trans h.output, Nat.le_trans h.size k.size, fun i hi hn => (k.block i (Nat.lt_of_lt_of_le hi h.size) (fun hm => by rcases hT i hm with h1 | h1; exact hn h1; omega)).trans (h.block i hi hn)⟩
theorem Fr.mono (h : Fr S w w') (hS : ∀ i, i ∈ S → i ∈ T) : Fr T w w' := ⟨h.os, h.tape, h.output, h.size, fun k hk hn => h.block k hk (fun hm => hn (hS k hm))⟩
theorem Fr.of_nil (h : Fr [] w w') (S : List Nat) : Fr S w w' := h.mono (by simp)
theorem Fr.old (h : Fr S w w') (hS : ∀ i, i ∈ S → w.heap.size ≤ i) : Fr [] w w' := ⟨h.os, h.tape, h.output, h.size, fun k hk _ => h.block k hk (fun hm => by have := hS k hm; omega)⟩
theorem Fr.drew (h : Fr S w w') : Fr S w w'.drew := ⟨h.os, h.tape, h.output, h.size, h.block⟩
theorem Fr.drewN (h : Fr S w w') (n : Nat) : Fr S w (w'.drewN n) := ⟨h.os, h.tape, h.output, h.size, h.block⟩
theorem Fr.alloc (h : Fr S w w') (o : Obj) : Fr S w (w'.alloc o) :=
  h.trans ⟨rfl, rfl, rfl, by simp, fun k hk _ => Below.heap_alloc _ _ _ hk⟩
theorem Fr.setIn (h : Fr S w w') {p : Addr} (hp : p.block ∈ S) (u : Value) : Fr S w (w'.setCell p u) :=
  h.trans ⟨rfl, rfl, rfl, by simp [World.setCell], fun k _ hn => Below.heap_setCell _ _ _ _ (fun e => hn (e ▸ hp))⟩
theorem Fr.setNew (h : Fr S w w') {p : Addr} (hp : w.heap.size ≤ p.block) (u : Value) : Fr S w (w'.setCell p u) :=
  h.trans' (T := [p.block]) ⟨rfl, rfl, rfl, by simp [World.setCell], fun k _ hn => Below.heap_setCell _ _ _ _ (fun e => hn (by simp [e]))⟩ (by simp; exact .inr hp)
theorem Fr.grown (h : Fr S w w') {row : Option Nat} (hg : w'.grownBy w'' row) (hr : ∀ k, row = some k → k ∈ S ∨ w.heap.size ≤ k) : Fr S w w'' :=
  h.trans' (T := row.toList) ⟨hg.os, hg.tape, hg.output, hg.size, fun k hk hn => hg.block k hk (fun e => hn (by simp [← e]))⟩ (fun i hi => hr i (by simpa [Option.mem_toList] using hi))
theorem Fr.cell (h : Fr S w w') {p : Addr} (hp : p.block < w.heap.size) (hn : p.block ∉ S) : w'.cell? p = w.cell? p := World.cell?_of_block (w := w) (h.block _ hp hn)
theorem Fr.frozen (h : Fr S w w') {p : Addr} (hp : p.block < w.heap.size) (hn : p.block ∉ S) : w'.frozen? p = w.frozen? p := World.frozen?_of_block (w := w) (h.block _ hp hn)
theorem Fr.below (h : Fr S w w') {B : Nat} (hB : B ≤ w.heap.size) (hS : ∀ i, i ∈ S → B ≤ i) : Below B w w' :=
  ⟨h.os, h.tape, h.output, h.size, fun k hk => h.block k (by omega) (fun hm => by have := hS k hm; omega)⟩
theorem Fr.of_below (h : Below w.heap.size w w') : Fr [] w w' := ⟨h.os, h.tape, h.output, h.size, fun k hk _ => h.block k hk⟩
end

/-- Block g is just the cells cs, of element type t, none frozen. -/
def Blk (w : World) (g : Nat) (t : TypeId) (cs : List Value) : Prop := w.heap[g]? = some (.cells cs.toArray t (0, 0))

section
variable {w w' : World} {g : Nat} {t : TypeId} {cs : List Value} {S : List Nat}
theorem Blk.lt (h : Blk w g t cs) : g < w.heap.size := by
  rcases Nat.lt_or_ge g w.heap.size with hlt | hge
  · exact hlt
  · unfold Blk at h; rw [Array.getElem?_eq_none hge] at h; cases h
theorem Blk.cell (h : Blk w g t cs) (i : Nat) : w.cell? ⟨g, i, none⟩ = cs[i]? := by rw [cell_of_row w g i cs.toArray t (0, 0) h]; simp
theorem Blk.frozen (h : Blk w g t cs) (i : Nat) : w.frozen? ⟨g, i, none⟩ = false := by
  unfold Blk at h
  simp [World.frozen?, h]
theorem Blk.new (w : World) (t : TypeId) (cs : List Value) : Blk (w.alloc (.cells cs.toArray t)) w.heap.size t cs := heap_alloc_new w _
theorem Blk.drewN (h : Blk w g t cs) (n : Nat) : Blk (w.drewN n) g t cs := h
theorem Blk.drew (h : Blk w g t cs) : Blk w.drew g t cs := h
theorem Blk.alloc (h : Blk w g t cs) (o : Obj) : Blk (w.alloc o) g t cs := (Below.heap_alloc w o g h.lt).trans h
theorem Blk.set_ (h : Blk w g t cs) (i : Nat) (u : Value) : Blk (w.setCell ⟨g, i, none⟩ u) g t (cs.set i u) := by
  unfold Blk at h ⊢
  simp [World.setCell, Array.getElem?_modify, h]
theorem Blk.far (h : Blk w g t cs) {p : Addr} (hp : g ≠ p.block) (u : Value) : Blk (w.setCell p u) g t cs := (Below.heap_setCell w p u g hp).trans h
theorem Blk.fr (h : Blk w g t cs) (hb : Fr S w w') (hg : g ∉ S) : Blk w' g t cs := (hb.block g h.lt hg).trans h
theorem Blk.grown {row : Option Nat} (h : Blk w g t cs) (hb : w.grownBy w' row) (hg : some g ≠ row) : Blk w' g t cs := (hb.block g h.lt hg).trans h
theorem Blk.same {cs' : List Value} {t' : TypeId} (h : Blk w g t cs) (h' : Blk w g t' cs') : cs = cs' := by
  unfold Blk at h h'
  rw [h] at h'
  injection h' with h'
  injection h' with h1 _
  exact List.toArray_inj h1
end

theorem block_of_add (a : Addr) (n : Nat) : (a.add n).block = a.block := by unfold Addr.add; split <;> rfl
theorem add_of_add (a : Addr) (i j : Nat) : (a.add i).add j = a.add (i + j) := by
  unfold Addr.add
  by_cases hi : i = 0 <;> by_cases hj : j = 0 <;> simp [hi, hj, Nat.add_assoc]

/-- A field's address behind an element's, in the walk's spelling. -/
theorem add_step (a : Addr) (n m : Nat) (hm : m ≠ 0) : a.add (n + m) = ⟨(a.add n).block, (a.add n).off + m, none⟩ := by
  rw [← add_of_add]; conv => lhs; unfold Addr.add
  rw [if_neg hm]; rfl

/-- The slice value '.slice A n _' reads as the cells xs ('size' cells an element), in a block below B and outside S. -/
def Reads (w : World) (B : Nat) (S : List Nat) (size : Nat) (A : Option Addr) (n : Nat) (xs : List Value) : Prop :=
  xs.length = n * size ∧ (0 < n → ∃ ad, A = some ad ∧ ad.block < B ∧ ad.block ∉ S ∧ ∀ j u, xs[j]? = some u → w.cell? (ad.add j) = some u)

section
variable {w w' : World} {B B' size n : Nat} {A : Option Addr} {xs : List Value} {S T : List Nat}
theorem Reads.none_ : Reads w B S size A 0 [] := ⟨by simp, fun h => absurd h (by omega)⟩
theorem Reads.len (h : Reads w B S size A n xs) : xs.length = n * size := h.1
theorem Reads.at_ {k : Nat} (h : Reads w B S size A n xs) (hk : k < xs.length) : ∃ ad u, A = some ad ∧ ad.block < B ∧ xs[k]? = some u ∧ w.cell? (ad.add k) = some u := by
  have hn : 0 < n := by
    rcases Nat.eq_zero_or_pos n with h0 | h0
    · have := h.1; rw [h0] at this; simp at this; subst this; simp at hk
    · exact h0
  obtain ⟨ad, e, hb, _, hc⟩ := h.2 hn
  exact ⟨ad, xs[k], e, hb, List.getElem?_eq_getElem hk, hc k _ (List.getElem?_eq_getElem hk)⟩
theorem Reads.keep (h : Reads w B S size A n xs) (hk : ∀ p : Addr, p.block < B → p.block ∉ S → w'.cell? p = w.cell? p) : Reads w' B S size A n xs :=
  ⟨h.1, fun hn => by
    obtain ⟨ad, e, hb, hS, hc⟩ := h.2 hn
    exact ⟨ad, e, hb, hS, fun j u hu => (hk _ (by rw [block_of_add]; exact hb) (by rw [block_of_add]; exact hS)).trans (hc j u hu)⟩⟩
theorem Reads.more (h : Reads w B S size A n xs) (hB : B ≤ B') : Reads w B' S size A n xs :=
  ⟨h.1, fun hn => by
    obtain ⟨ad, e, hb, hS, hc⟩ := h.2 hn
    exact ⟨ad, e, by omega, hS, hc⟩⟩
theorem Reads.avoid (h : Reads w B S size A n xs) (hT : ∀ i, i ∈ T → i ∈ S ∨ B ≤ i) : Reads w B T size A n xs :=
  ⟨h.1, fun hn => by
    obtain ⟨ad, e, hb, hS, hc⟩ := h.2 hn
    exact ⟨ad, e, hb, fun hm => by rcases hT _ hm with h1 | h1; exact hS h1; omega, hc⟩⟩
theorem Reads.fr (h : Reads w B S size A n xs) (hf : Fr S w w') (hB : B ≤ w.heap.size) : Reads w' B S size A n xs := h.keep fun p hp hn => hf.cell (by omega) hn
theorem Reads.below (h : Reads w B S size A n xs) (hb : Below B w w') : Reads w' B S size A n xs := h.keep fun _ hp _ => hb.cell hp
theorem Reads.drewN (h : Reads w B S size A n xs) (k : Nat) : Reads (w.drewN k) B S size A n xs := h
theorem Reads.alloc (h : Reads w B S size A n xs) (hB : B ≤ w.heap.size) (o : Obj) : Reads (w.alloc o) B S size A n xs := h.keep fun p hp _ => World.cell?_alloc_lt w o p (by omega)
theorem Reads.of_own {base : Nat} {e : TypeId} {c : Nat} (h : w.ownsRow base e size (.slice A n c) n xs) : Reads w w.heap.size [] size A n xs := by
  refine ⟨h.1, fun hn => ?_⟩
  obtain ⟨g, cap, hv, _, hlt⟩ := h.form hn
  have hA : A = some ⟨g, 0, none⟩ := by injection hv
  subst hA
  exact ⟨_, rfl, hlt, by simp, h.cells (g := g) rfl⟩
end

theorem quiet_add {P : Program} {f : FuncId} {args : Array Value} {w : World} {a n : Nat} {v : Value}
    (h : Calls P f args (w.drewN (a + n)) fun e w' => e = .returned v ∧ ∃ m, w' = (w.drewN (a + n)).drewN m) :
    Calls P f args (w.drewN (a + n)) fun e w'' => e = .returned v ∧ ∃ m, w'' = w.drewN (a + m) :=
  h.mono fun _ _ ⟨he, m, hm⟩ => ⟨he, n + m, by rw [hm, World.drewN_drewN, Nat.add_assoc]⟩
theorem quiet_add_same {P : Program} {f : FuncId} {args : Array Value} {w : World} {a n : Nat} {v : Value}
    (h : Calls P f args (w.drewN (a + n)) fun e w' => e = .returned v ∧ w' = w.drewN (a + n)) :
    Calls P f args (w.drewN (a + n)) fun e w'' => e = .returned v ∧ ∃ m, w'' = w.drewN (a + m) :=
  h.mono fun _ _ ⟨he, hm⟩ => ⟨he, n, hm⟩

theorem region_still_tail {P : Program} {id : Nat} {Q : Exit → Act → World → Prop} {a : Act} {w : World} {l : List Oper} (n : Nat) (hm : P.follows .mixedOrders = true) (hB : Region.lexTailB .any l.toArray n = true)
    (h : wpStill P l.toArray w.drew (fun a' => wpList P l.toArray Q (l.drop n) a' w.drew) (l.take n) a) : (Code.region id l.toArray true).wp P Q a w := wp_region_still_tail n hm hB h

/-- The block of a slice value of the call's own, as a list. -/
def blkOf (v : Value) : List Nat := v.ownBlock.toList

theorem own_fr {w w' : World} {base size n : Nat} {e : TypeId} {v : Value} {xs : List Value} {S : List Nat} (h : w.ownsRow base e size v n xs) (hf : Fr S w w') (hS : ∀ g, v.ownBlock = some g → g ∉ S) : w'.ownsRow base e size v n xs := by
  refine ⟨h.1, ?_⟩
  rcases h.2 with h2 | ⟨g, cap, cur, hv, hg, hh, r⟩
  · exact Or.inl h2
  · refine Or.inr ⟨g, cap, cur, hv, hg, ?_, r⟩
    have hlt : g < w.heap.size := (Array.getElem?_eq_some_iff.1 hh).1
    rw [hf.block g hlt (hS g (by rw [hv]; rfl))]; exact hh
theorem own_base {w : World} {base base' size n : Nat} {e : TypeId} {v : Value} {xs : List Value} (h : w.ownsRow base e size v n xs) (hb : ∀ g, v.ownBlock = some g → base' ≤ g) : w.ownsRow base' e size v n xs := by
  refine ⟨h.1, ?_⟩
  rcases h.2 with h2 | ⟨g, cap, cur, hv, hg, r⟩
  · exact Or.inl h2
  · exact Or.inr ⟨g, cap, cur, hv, hb g (by rw [hv]; rfl), r⟩
theorem own_zero {w : World} {base size n : Nat} {e : TypeId} {v : Value} {xs : List Value} (h : w.ownsRow base e size v n xs) : w.ownsRow 0 e size v n xs := own_base h (fun _ _ => Nat.zero_le _)
theorem own_lt {w : World} {base size n : Nat} {e : TypeId} {v : Value} {xs : List Value} (h : w.ownsRow base e size v n xs) {g : Nat} (hg : v.ownBlock = some g) : base ≤ g ∧ g < w.heap.size := by
  rcases h.2 with ⟨rfl, _⟩ | ⟨g', cap, cur, rfl, hb, hh, _⟩
  · simp [Value.ownBlock] at hg
  · simp [Value.ownBlock] at hg
    subst hg
    exact ⟨hb, (Array.getElem?_eq_some_iff.1 hh).1⟩
theorem own_of_blk {w : World} {g : Nat} {e : TypeId} {size n cap : Nat} {cs xs : List Value} (h : Blk w g e cs) (hl : cs.length = cap * size) (hn : n ≤ cap) (hc : cap ≤ maxLen) (hx : cs.take (n * size) = xs) : w.ownsRow g e size (.slice (some ⟨g, 0, none⟩) n cap) n xs := by
  refine ⟨?_, Or.inr ⟨g, cap, cs.toArray, rfl, Nat.le_refl _, h, hn, hc, by simpa using hl, by simpa using hx⟩⟩
  rw [← hx, List.length_take, hl, Nat.min_eq_left (Nat.mul_le_mul_right _ hn)]
end Go.Proofs.Ytncggholhmgoaaa
