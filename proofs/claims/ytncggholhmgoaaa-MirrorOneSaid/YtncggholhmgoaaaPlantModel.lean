/- The plant as plain data: what each call answers and what becomes of it. No program in sight. -/
namespace Go.Proofs.Ytncggholhmgoaaa
set_option linter.unusedVariables false
set_option linter.unusedSimpArgs false

/-- A device: out of order? did it move? the last Seq, the last tote. -/
structure Dv where
  broken : Bool
  did : Bool
  seq : Int
  tote : Int

structure PM where
  edges : List (Int × Int)
  nodes : List Int
  devs : List Dv
  moves : Int

def findIdx (l : List Int) (t : Int) : Int := if t ∈ l then (l.idxOf t : Int) else -1

theorem findIdx_of {l : List Int} {t : Int} {k : Nat} (hk : k < l.length) (he : t = l[k]) (hn : t ∉ l.take k) : findIdx l t = k := by
  have hm : t ∈ l := by rw [he]; simp
  simp only [findIdx, hm, if_true]
  have : l.idxOf t = k := by
    subst he
    have h0 : l.take k ++ l[k] :: l.drop (k + 1) = l := by rw [← List.drop_eq_getElem_cons hk, List.take_append_drop]
    have h1 : (l.take k ++ l[k] :: l.drop (k + 1)).idxOf l[k] = k := by
      rw [List.idxOf_append, if_neg hn, List.idxOf_cons_self, List.length_take]; omega
    rw [h0] at h1
    exact h1
  rw [this]
theorem findIdx_no {l : List Int} {t : Int} (hn : t ∉ l) : findIdx l t = -1 := by simp [findIdx, hn]
theorem not_take_succ {l : List Int} {t : Int} {k : Nat} (hk : k < l.length) (he : ¬ t = l[k]) (hn : t ∉ l.take k) : t ∉ l.take (k + 1) := by
  rw [List.take_succ_eq_append_getElem hk, List.mem_append, not_or]
  exact ⟨hn, by simp [he]⟩

/-- From a to b, round 65536. -/
def dist (a b : Int) : Int := if 32768 ≤ (b - a) % 65536 then (b - a) % 65536 - 65536 else (b - a) % 65536

/-- A telegram. -/
structure Tl where
  kind : Int
  dev : Int
  seq : Int
  a : Int
  b : Int
def Tl.zero : Tl := ⟨0, 0, 0, 0, 0⟩
def Tl.ok (t : Tl) : Prop := (0 ≤ t.kind ∧ t.kind ≤ 255) ∧ (0 ≤ t.dev ∧ t.dev ≤ 65535) ∧ (0 ≤ t.seq ∧ t.seq ≤ 65535) ∧ (0 ≤ t.a ∧ t.a ≤ 65535) ∧ (0 ≤ t.b ∧ t.b ≤ 65535)
def Dv.ok (d : Dv) : Prop := (0 ≤ d.seq ∧ d.seq ≤ 65535) ∧ (0 ≤ d.tote ∧ d.tote ≤ 65535)

namespace PM
def noDev (S : PM) (d : Int) : Bool := decide (d < 1) || decide ((S.devs.length : Int) ≤ d)
def whereIs (S : PM) (t : Int) : Int := if t < 1 then -1 else findIdx S.nodes t
def at_ (S : PM) (n : Int) : Int := if n < 0 ∨ (S.nodes.length : Int) ≤ n then 0 else S.nodes.getD n.toNat 0
def works (S : PM) (d : Int) : Bool := if S.noDev d = true then false else !((S.devs[d.toNat]?).map (·.broken)).getD true
/-- The node's tote, 0 outside. -/
def nd (S : PM) (n : Int) : Int := S.nodes.getD n.toNat 0
def put (S : PM) (t n : Int) : Int × PM :=
  if t < 1 ∨ 30 < t ∨ n < 0 ∨ (S.nodes.length : Int) ≤ n then (1, S)
  else if 0 ≤ S.whereIs t then (2, S)
  else if 0 < S.nd n then (100, S)
  else (0, { S with nodes := S.nodes.set n.toNat t })
def setBroken (S : PM) (i : Nat) (x : Bool) : PM := match S.devs[i]? with
  | some d => { S with devs := S.devs.set i { d with broken := x } }
  | none => S
/-- Break (x true), Mend (x false): the new state, the telegram, the error. -/
def fault (S : PM) (d : Int) (x : Bool) : PM × Tl × Int :=
  if S.noDev d = true then (S, Tl.zero, 1) else (S.setBroken d.toNat x, ⟨if x then 4 else 5, d, 0, 0, 0⟩, 0)
def done (t : Tl) : Tl := ⟨2, t.dev, t.seq, t.a, 0⟩
def move (S : PM) (i : Nat) (d : Dv) (e : Int × Int) (t : Tl) : PM × Tl × Bool :=
  if d.did = true ∧ d.seq = t.seq ∧ d.tote = t.a then (S, done t, true)
  else if d.did = true ∧ ¬ 0 < dist d.seq t.seq then (S, Tl.zero, false)
  else if S.nd e.1 ≠ t.a ∨ t.a = 0 then (S, ⟨3, t.dev, t.seq, t.a, 1⟩, true)
  else if 0 < S.nd e.2 then (S, ⟨3, t.dev, t.seq, t.a, 2⟩, true)
  else ({ S with nodes := (S.nodes.set e.1.toNat 0).set e.2.toNat t.a, devs := S.devs.set i { d with did := true, seq := t.seq, tote := t.a }, moves := S.moves + 1 }, done t, true)
def hear (S : PM) (t : Tl) : PM × Tl × Bool :=
  if S.works t.dev = false then (S, Tl.zero, false)
  else match S.devs[t.dev.toNat]?, S.edges[t.dev.toNat - 1]? with
    | some d, some e =>
      if t.kind = 1 then S.move t.dev.toNat d e t
      else if t.kind = 6 then (S, ⟨7, t.dev, t.seq, d.seq, d.tote⟩, true)
      else (S, Tl.zero, false)
    | _, _ => (S, Tl.zero, false)
theorem at_out {S : PM} {n : Int} (h : n < 0 ∨ (S.nodes.length : Int) ≤ n) : S.at_ n = 0 := by simp [at_, h]
theorem at_in {S : PM} {i : Nat} (h : i < S.nodes.length) : S.at_ i = S.nodes[i] := by
  have h1 : ¬ ((i : Int) < 0 ∨ (S.nodes.length : Int) ≤ (i : Int)) := by omega
  rw [at_, if_neg h1]; simp [List.getD, h]
theorem nd_in {S : PM} {i : Nat} (h : i < S.nodes.length) : S.nd i = S.nodes[i] := by simp [nd, List.getD, h]
end PM
end Go.Proofs.Ytncggholhmgoaaa
