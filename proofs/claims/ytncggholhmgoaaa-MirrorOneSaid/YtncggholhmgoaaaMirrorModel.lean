/- The mirror as plain data: what each call answers and what becomes of it. No program in sight. -/
import Derived.Test.YtncggholhmgoaaaPlantModel
namespace Go.Proofs.Ytncggholhmgoaaa
set_option linter.unusedVariables false
set_option linter.unusedSimpArgs false

/-- A device: the tote that it was told (0: nothing), the Seq, was it ever told, is it out of order? -/
structure MD where
  tote : Int
  seq : Int
  ever : Bool
  down : Bool
def MD.zero : MD := ⟨0, 0, false, false⟩
def MD.ok (d : MD) : Prop := (0 ≤ d.tote ∧ d.tote ≤ 30) ∧ (0 ≤ d.seq ∧ d.seq ≤ 65535)

structure MM where
  edges : List (Int × Int)
  wh : List Int
  nodes : List Int
  devs : List MD

def noTote (t : Int) : Bool := decide (t < 1) || decide (30 < t)
namespace MM
def noDev (S : MM) (d : Int) : Bool := decide (d < 1) || decide ((S.devs.length : Int) ≤ d)
def noNode (S : MM) (n : Int) : Bool := decide (n < 0) || decide ((S.nodes.length : Int) ≤ n)
def whereIs (S : MM) (t : Int) : Int := if noTote t = true then -1 else S.wh.getD t.toNat 0 - 1
def nd (S : MM) (n : Int) : Int := S.nodes.getD n.toNat 0
def at_ (S : MM) (n : Int) : Int := if S.noNode n = true then 0 else S.nd n
def dv (S : MM) (d : Int) : MD := S.devs.getD d.toNat MD.zero
def ed (S : MM) (d : Int) : Int × Int := S.edges.getD (d.toNat - 1) (0, 0)
/-- Is device d told to move something to node n? -/
def hit (S : MM) (n : Int) (d : Nat) : Bool := decide (0 < (S.devs.getD d MD.zero).tote) && ((S.edges.getD (d - 1) (0, 0)).2 == n)
def taken (S : MM) (n : Int) : Bool := if S.noNode n = true then false else (List.range S.devs.length).any (S.hit n) || decide (0 < S.nd n)
def moves (S : MM) (t : Int) : Bool := S.devs.any fun x => x.tote == t
def put (S : MM) (t n : Int) : Int × MM :=
  if noTote t = true ∨ S.noNode n = true then (1, S)
  else if 0 < S.wh.getD t.toNat 0 then (2, S)
  else if S.taken n = true then (100, S)
  else (0, { S with wh := S.wh.set t.toNat (n + 1), nodes := S.nodes.set n.toNat t })
def send (S : MM) (d t s : Int) : Int × MM :=
  if (noTote t = true ∨ S.noDev d = true) ∨ (s < 0 ∨ 65535 < s) then (1, S)
  else if (S.dv d).down = true ∨ 0 < (S.dv d).tote then (140, S)
  else if S.whereIs t ≠ (S.ed d).1 ∨ S.moves t = true then (160, S)
  else if S.taken (S.ed d).2 = true then (100, S)
  else (0, { S with devs := S.devs.set d.toNat { S.dv d with tote := t, seq := s, ever := true } })
def moved (S : MM) (d t : Int) : Int × MM :=
  if noTote t = true ∨ S.noDev d = true then (1, S)
  else if (S.dv d).tote = 0 then (4, S)
  else if (S.dv d).tote = t then (0, { S with wh := S.wh.set t.toNat ((S.ed d).2 + 1), nodes := (S.nodes.set (S.ed d).1.toNat 0).set (S.ed d).2.toNat t, devs := S.devs.set d.toNat { S.dv d with tote := 0 } })
  else (160, S)
def drop (S : MM) (d : Int) : Int × MM :=
  if S.noDev d = true then (1, S)
  else if (S.dv d).tote = 0 then (4, S)
  else (0, { S with devs := S.devs.set d.toNat { S.dv d with tote := 0 } })
def mask (S : MM) (d : Int) (x : Bool) : Int × MM :=
  if S.noDev d = true then (1, S)
  else (0, { S with devs := S.devs.set d.toNat { S.dv d with down := x } })
def told (S : MM) (d : Int) : Int × Int × Bool :=
  if S.noDev d = true ∨ (S.dv d).tote = 0 then (0, 0, false) else ((S.dv d).tote, (S.dv d).seq, true)
def last (S : MM) (d : Int) : Int × Bool :=
  if S.noDev d = true ∨ (S.dv d).ever = false then (0, false) else ((S.dv d).seq, true)
def downs (S : MM) : List Int := ((List.range S.devs.length).filter fun d => (S.devs.getD d MD.zero).down).map fun (d : Nat) => (d : Int)
end MM

/-- A note. -/
structure Nt where
  kind : Int
  a : Int
  b : Int
  c : Int
def MM.apply (S : MM) (n : Nt) : Int × MM :=
  if n.kind = 1 then S.put n.a n.b
  else if n.kind = 4 then S.send n.a n.b n.c
  else if n.kind = 5 then S.moved n.a n.b
  else if n.kind = 7 then S.drop n.a
  else if n.kind = 8 then S.mask n.a (n.b == 1)
  else (23, S)

theorem noTote_no {t : Int} (h1 : 1 ≤ t) (h2 : t ≤ 30) : noTote t = false := by simp [noTote]; omega
theorem noTote_of {t : Int} (h : noTote t = false) : 1 ≤ t ∧ t ≤ 30 := by simp [noTote] at h; omega
namespace MM
variable {S : MM}
theorem noDev_of {d : Int} (h : S.noDev d = false) : 1 ≤ d ∧ d < S.devs.length := by simp [noDev] at h; omega
theorem noDev_no {d : Int} (h1 : 1 ≤ d) (h2 : d < S.devs.length) : S.noDev d = false := by simp [noDev]; omega
theorem noNode_of {n : Int} (h : S.noNode n = false) : 0 ≤ n ∧ n < S.nodes.length := by simp [noNode] at h; omega
theorem noNode_no {n : Int} (h1 : 0 ≤ n) (h2 : n < S.nodes.length) : S.noNode n = false := by simp [noNode]; omega
theorem dv_get {i : Nat} {x : MD} (h : S.devs[i]? = some x) : S.dv i = x := by simp [dv, List.getD, h]
theorem ed_get {i : Nat} {e : Int × Int} (h : S.edges[i - 1]? = some e) : S.ed i = e := by simp [ed, List.getD, h]
theorem nd_get {i : Nat} {x : Int} (h : S.nodes[i]? = some x) : S.nd i = x := by simp [nd, List.getD, h]
end MM
end Go.Proofs.Ytncggholhmgoaaa
