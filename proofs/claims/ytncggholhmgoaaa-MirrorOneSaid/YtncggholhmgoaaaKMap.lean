/-
  A map of the program's memory as a function from key values to element values: made, asked, stored into. Over any program and any type of key that the library's bundle 'Keyed' serves.
-/
import Derived.Test.YtncggholhmgoaaaBase
import Derived.Maps.Keyed
import Derived.WideKeyEntry
namespace Go.Proofs.Ytncggholhmgoaaa
set_option linter.unusedVariables false
set_option linter.unusedSimpArgs false
open Go.RowKit Go.MapKept
open Go.Maps (Keyed)
open Go.ChangeMaps (setBlock modify_eq_set)
open Go.WideElems (findIdx_arr modify_last set_self findIdx_born)

/-- Block b is a map of at most n entries that holds f key at each key. -/
def KMap (P : Program) (k : TypeId) (w : World) (b n : Nat) (f : Value → Option Value) : Prop :=
  ∃ es clock, w.heap[b]? = some (.map es clock) ∧ es.size ≤ n ∧ Stamped es clock ∧ (∀ x ∈ es.toList, ∃ l, keyOf P k x.key = some l) ∧
    (∀ x ∈ es.toList, f x.key = some x.val) ∧ (∀ key, f key ≠ none → ∃ x ∈ es.toList, x.key = key)

/-- f with v at key. -/
noncomputable def putF (f : Value → Option Value) (key v : Value) : Value → Option Value := by
  classical exact fun x => if x = key then some v else f x
theorem putF_same (f : Value → Option Value) (key v : Value) : putF f key v key = some v := by simp [putF]
theorem putF_other (f : Value → Option Value) {key v x : Value} (h : x ≠ key) : putF f key v x = f x := by simp [putF, h]

section
variable {P : Program} {k e t : TypeId} {w w' : World} {b n : Nat} {f : Value → Option Value} {S : List Nat}
theorem KMap.lt (h : KMap P k w b n f) : b < w.heap.size := by
  obtain ⟨es, c, hb, _⟩ := h
  exact (Array.getElem?_eq_some_iff.1 hb).1
theorem KMap.fr (h : KMap P k w b n f) (hf : Fr S w w') (hb : b ∉ S) : KMap P k w' b n f := by
  have hl := h.lt
  obtain ⟨es, c, h1, h2⟩ := h
  exact ⟨es, c, (hf.block b hl hb).trans h1, h2⟩
theorem KMap.made (w : World) (P : Program) (k : TypeId) : KMap P k (w.alloc (.map #[] 0)) w.heap.size 0 (fun _ => none) :=
  ⟨#[], 0, (heap_alloc w _).1, by simp, stamped_empty 0, by simp, by simp, by simp⟩
theorem KMap.lookup (h : KMap P k w b n f) (K : Keyed P k) (ht : P.underlying t = some (.map k e)) {z : Value} (hz : (zeroValue e).run P w = .ok z w) {key : Value} {kl : Lit} (hkey : keyOf P k key = some kl) :
    (Instr.lookup t (.map (some b)) key false).run P w = .ok ((f key).getD z) w := by
  obtain ⟨es, c, hb, _, _, hk, hv, hn⟩ := h
  rcases K.find w hkey es.toList hk with ⟨h1, h2⟩ | ⟨j, e0, h1, h2, h3⟩
  · have : f key = none := by
      cases hf : f key with
      | none => rfl
      | some v => obtain ⟨x, hx, hxk⟩ := hn key (by rw [hf]; simp); exact absurd hxk (h2 x hx)
    simp [Instr.lookup, run_underlying ht, MapKept.run_getObj_map hb, K.check w _ hkey, h1, hz, Result.andThen, this]
  · have : f key = some e0.val := by rw [← h3]; exact hv e0 (List.mem_of_getElem? h2)
    simp [Instr.lookup, run_underlying ht, MapKept.run_getObj_map hb, K.check w _ hkey, h1, Result.andThen, this]
theorem KMap.lookupOk (h : KMap P k w b n f) (K : Keyed P k) (ht : P.underlying t = some (.map k e)) {z : Value} (hz : (zeroValue e).run P w = .ok z w) {key : Value} {kl : Lit} (hkey : keyOf P k key = some kl) :
    (Instr.lookup t (.map (some b)) key true).run P w = .ok (.tuple #[(f key).getD z, .bool (f key).isSome]) w := by
  obtain ⟨es, c, hb, _, _, hk, hv, hn⟩ := h
  rcases K.find w hkey es.toList hk with ⟨h1, h2⟩ | ⟨j, e0, h1, h2, h3⟩
  · have : f key = none := by
      cases hf : f key with
      | none => rfl
      | some v => obtain ⟨x, hx, hxk⟩ := hn key (by rw [hf]; simp); exact absurd hxk (h2 x hx)
    simp [Instr.lookup, run_underlying ht, MapKept.run_getObj_map hb, K.check w _ hkey, h1, hz, Result.andThen, this]
  · have : f key = some e0.val := by rw [← h3]; exact hv e0 (List.mem_of_getElem? h2)
    simp [Instr.lookup, run_underlying ht, MapKept.run_getObj_map hb, K.check w _ hkey, h1, Result.andThen, this]

theorem fr_setBlock (w : World) (b : Nat) (o : Obj) : Fr [b] w (setBlock w b o) :=
  ⟨rfl, rfl, rfl, by simp [setBlock], fun k _ hk => by
    have : b ≠ k := fun h => hk (by simp [h])
    simp [setBlock, this]⟩
theorem at_setBlock {w : World} {b : Nat} {o o' : Obj} (h : w.heap[b]? = some o') : (setBlock w b o).heap[b]? = some o := by
  have hl := (Array.getElem?_eq_some_iff.1 h).1
  simp [setBlock, hl]

/-- A store: the new block's content, whatever it is called. -/
theorem KMap.update (h : KMap P k w b n f) (K : Keyed P k) (ht : P.underlying t = some (.map k e)) {key : Value} {kl : Lit} (hkey : keyOf P k key = some kl) (val : Value) :
    ∃ w', (Instr.mapUpdate t (.map (some b)) key val).run P w = .ok () w' ∧ KMap P k w' b (n + 1) (putF f key val) ∧ Fr [b] w w' := by
  obtain ⟨es, c, hb, hsz, hst, hk, hv, hn⟩ := h
  rcases K.find w hkey es.toList hk with ⟨h1, h2⟩ | ⟨j, e0, h1, h2, h3⟩
  · refine ⟨setBlock w b (.map (es.push ⟨key, val, c⟩) (c + 1)), ?_, ⟨es.push ⟨key, val, c⟩, c + 1, at_setBlock hb, by simp; omega, stamped_push hst h2, ?_, ?_, ?_⟩, fr_setBlock _ _ _⟩
    · simp [Instr.mapUpdate, run_underlying ht, MapKept.run_getObj_map hb, K.check w false hkey, h1, MapKept.run_setObj_map _ hb, Result.andThen, setBlock]
    · intro x hx
      simp only [Array.toList_push, List.mem_append, List.mem_singleton] at hx
      rcases hx with hx | rfl
      · exact hk x hx
      · exact ⟨kl, hkey⟩
    · intro x hx
      simp only [Array.toList_push, List.mem_append, List.mem_singleton] at hx
      rcases hx with hx | rfl
      · rw [putF_other _ (h2 x hx)]; exact hv x hx
      · exact putF_same _ _ _
    · intro key' hne
      by_cases e : key' = key
      · exact ⟨⟨key, val, c⟩, by simp, e.symm⟩
      · rw [putF_other _ e] at hne
        obtain ⟨x, hx, hxk⟩ := hn key' hne
        exact ⟨x, by simp [Array.mem_toList_iff.1 hx], hxk⟩
  · have hj : es[j]? = some e0 := by simpa using h2
    have hkeyf : ∀ e', es[j]? = some e' → ({ e' with key := key, val := val } : MapEntry).key = e'.key := fun e' he' => by rw [hj] at he'; cases he'; exact h3.symm
    have hlist : (es.modify j (fun e' => { e' with key := key, val := val })).toList = es.toList.set j { e0 with key := key, val := val } := by
      rw [Array.toList_modify, modify_eq_set _ _ _ _ h2]
    refine ⟨setBlock w b (.map (es.modify j (fun e' => { e' with key := key, val := val })) c), ?_, ⟨es.modify j (fun e' => { e' with key := key, val := val }), c, at_setBlock hb, by simp; omega, stamped_modify hst _ _ (fun _ _ => rfl) (fun e' _ he' => hkeyf e' he'), ?_, ?_, ?_⟩, fr_setBlock _ _ _⟩
    · simp [Instr.mapUpdate, run_underlying ht, MapKept.run_getObj_map hb, K.check w false hkey, h1, hj, h3, K.stays w hkey, MapKept.run_setObj_map _ hb, Result.andThen, setBlock]
    · intro x hx
      rw [hlist] at hx
      rcases List.mem_or_eq_of_mem_set hx with hx | rfl
      · exact hk x hx
      · exact ⟨kl, hkey⟩
    · intro x hx
      rw [hlist] at hx
      obtain ⟨_, _, hnd⟩ := hst
      by_cases e : x.key = key
      · -- the entry at key is the new one
        rw [List.mem_iff_getElem?] at hx
        obtain ⟨i, hi⟩ := hx
        rw [List.getElem?_set] at hi
        by_cases hij : j = i
        · rw [if_pos hij] at hi
          split at hi
          · cases hi; exact putF_same _ _ _
          · cases hi
        · rw [if_neg hij] at hi
          exfalso
          have q1 : (es.toList.map (·.key))[i]? = some key := by rw [List.getElem?_map, hi]; simp [e]
          have q2 : (es.toList.map (·.key))[j]? = some key := by rw [List.getElem?_map, h2]; simp [h3]
          exact hij ((List.getElem?_inj (List.getElem?_eq_some_iff.1 q2).1 hnd).1 (q2.trans q1.symm))
      · rcases List.mem_or_eq_of_mem_set hx with hx | rfl
        · rw [putF_other _ e]; exact hv x hx
        · exact absurd rfl e
    · intro key' hne
      by_cases e : key' = key
      · refine ⟨{ e0 with key := key, val := val }, ?_, e.symm⟩
        rw [hlist]; exact List.mem_iff_getElem?.2 ⟨j, by rw [List.getElem?_set, if_pos rfl, if_pos (List.getElem?_eq_some_iff.1 h2).1]⟩
      · rw [putF_other _ e] at hne
        obtain ⟨x, hx, hxk⟩ := hn key' hne
        refine ⟨x, ?_, hxk⟩
        rw [hlist]
        rw [List.mem_iff_getElem?] at hx ⊢
        obtain ⟨i, hi⟩ := hx
        refine ⟨i, ?_⟩
        rw [List.getElem?_set, if_neg, hi]
        rintro rfl
        rw [hi] at h2
        cases h2
        exact e (hxk.symm.trans h3)

/-- 'm[k] op= v' in the model's two steps: the entry is laid, then stored into. -/
theorem KMap.entry (h : KMap P k w b n f) (K : Go.WideMaps.KeyLaw P k) (ht : P.underlying t = some (.map k e)) {z : Value} (hz : ∀ u : World, (zeroValue e).run P u = .ok z u) {key : Value} {kl : Lit} (hkey : keyOf P k key = some kl) (hN : n ≤ maxLen) :
    ∃ (v0 : Value) (st : Nat) (o1 : Obj), (Instr.mapEntry t (.map (some b)) key).run P w = .ok (.tuple #[v0, goInt st]) (setBlock w b o1) ∧
      ∀ (w2 : World) (val : Value), w2.heap[b]? = some o1 → ∃ o2, (Instr.entryStore t (.map (some b)) (goInt st) val).run P w2 = .ok () (setBlock w2 b o2) ∧
        KMap P k (setBlock w2 b o2) b (n + 1) (putF f key val) := by
  have h0 := h
  obtain ⟨es, c, hb, hsz, hst, hk, hv, hn⟩ := h
  have F : Go.WideElems.Fit (H := Unit) P k (fun _ => some (.nil, [])) es c := ⟨by omega, hst, fun x hx => by
    obtain ⟨l, hl⟩ := hk x hx
    exact ⟨(l, .nil), by simp [Go.WideElems.rd, hl]⟩⟩
  obtain ⟨v0, st, es1, c1, hrun, _, hstore⟩ := Go.WideElems.entry_then_store K ht hz hb F hkey
  refine ⟨v0, st, .map es1 c1, hrun, fun w2 val hw2 => ?_⟩
  obtain ⟨es', c', hs, hu⟩ := hstore w2 val hw2
  obtain ⟨w', hu', hm, _⟩ := h0.update (Keyed.of_law K) ht hkey val
  rw [hu] at hu'
  injection hu' with _ hw'
  subst hw'
  refine ⟨.map es' c', hs, ?_⟩
  obtain ⟨e2, c2, q1, q2⟩ := hm
  rw [at_setBlock hb] at q1
  exact ⟨e2, c2, by rw [at_setBlock hw2]; exact q1, q2⟩

theorem setBlock_inj {w : World} {b : Nat} {o o1 o2 : Obj} (hb : w.heap[b]? = some o) (h : setBlock w b o1 = setBlock w b o2) : o1 = o2 := by
  have h1 := at_setBlock (o := o1) hb
  have h2 := at_setBlock (o := o2) hb
  rw [h] at h1
  exact Option.some.inj (h1.symm.trans h2)
/-- .. at a key that isn't there: whatever the order of the look-up and the laying of the entry. -/
theorem KMap.entryNew (h : KMap P k w b n f) (K : Go.WideMaps.KeyLaw P k) (ht : P.underlying t = some (.map k e)) {z : Value} (hz : ∀ u : World, (zeroValue e).run P u = .ok z u) {key : Value} {kl : Lit} (hkey : keyOf P k key = some kl) (hN : n ≤ maxLen) (hf : f key = none) :
    ∃ (st : Nat) (o1 : Obj), (Instr.mapEntry t (.map (some b)) key).run P w = .ok (.tuple #[z, goInt st]) (setBlock w b o1) ∧
      KMap P k (setBlock w b o1) b (n + 1) (putF f key z) ∧ (setBlock w b o1).heap[b]? = some o1 ∧
      ∀ (w2 : World) (val : Value), w2.heap[b]? = some o1 → ∃ o2, (Instr.entryStore t (.map (some b)) (goInt st) val).run P w2 = .ok () (setBlock w2 b o2) ∧
        KMap P k (setBlock w2 b o2) b (n + 1) (putF f key val) := by
  obtain ⟨v0, st, o1, hrun, hst⟩ := h.entry K ht hz hkey hN
  have h' := h
  obtain ⟨es, c, hb, hsz, hst0, hk, hv, hn⟩ := h'
  rcases (Keyed.of_law K).find w hkey es.toList hk with ⟨h1, h2⟩ | ⟨j, e0, h1, h2, h3⟩
  · have hr2 : (Instr.mapEntry t (.map (some b)) key).run P w = .ok (.tuple #[z, goInt c]) (setBlock w b (.map (es.push ⟨key, z, c⟩) (c + 1))) := by
      simp [Instr.mapEntry, run_underlying ht, MapKept.run_getObj_map hb, K.check w false hkey, h1, hz, MapKept.run_setObj_map _ hb, Result.andThen, setBlock]
    have hu : (Instr.mapUpdate t (.map (some b)) key z).run P w = .ok () (setBlock w b (.map (es.push ⟨key, z, c⟩) (c + 1))) := by
      simp [Instr.mapUpdate, run_underlying ht, MapKept.run_getObj_map hb, K.check w false hkey, h1, MapKept.run_setObj_map _ hb, Result.andThen, setBlock]
    rw [hr2] at hrun
    injection hrun with q1 q2
    have ho := setBlock_inj hb q2
    injection q1 with q1
    simp only [Array.mk.injEq, List.cons.injEq, and_true] at q1
    refine ⟨st, o1, ?_, ?_, at_setBlock hb, hst⟩
    · rw [hr2, q2]; congr 1; rw [q1.2]
    · obtain ⟨w', hu', hm, _⟩ := h.update (Keyed.of_law K) ht hkey z
      rw [hu] at hu'
      injection hu' with _ hw'
      rw [← q2, hw']; exact hm
  · exfalso
    have := hv e0 (List.mem_of_getElem? h2)
    rw [h3, hf] at this
    cases this
end
end Go.Proofs.Ytncggholhmgoaaa
