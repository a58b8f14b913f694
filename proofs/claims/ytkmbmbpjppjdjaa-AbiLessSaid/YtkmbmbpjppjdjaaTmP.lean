/- Plain: memory with tags as a value (sorted pages, bytes and tags by address), and what is done to it. No Go, no program. -/
namespace Go.Proofs.Ytkmbmbpjppjdjaa.TmP

/-- A memory: its pages, rising; its bytes by address; its tags by granule; how many pages there may be. -/
structure PM where
  keys : List Int
  byte : Int → Int
  tag : Int → Bool
  budget : Int

/-- One more page, rising. -/
def insK (k : Int) : List Int → List Int
  | [] => [k]
  | y :: r => if k < y then k :: y :: r else y :: insK k r

structure PM.WF (M : PM) : Prop where
  sorted : M.keys.Pairwise (· < ·)
  range : ∀ k ∈ M.keys, 0 ≤ k ∧ k < 65536
  lo : ∀ a, 0 ≤ M.byte a
  hi : ∀ a, M.byte a ≤ 255
  bz : ∀ a, a / 256 ∉ M.keys → M.byte a = 0
  tz : ∀ g, g / 8 ∉ M.keys → M.tag g = false
  few : (M.keys.length : Int) ≤ M.budget
  most : M.budget ≤ 256

def someB (f n : Int) : Bool := decide (1 ≤ n ∧ n ≤ 65536 ∧ f < 65536 ∧ f + n ≤ 65536)

/-- Are all of so many pages mapped (or none)? -/
def allB (keys : List Int) (f : Int) (n : Nat) (b : Bool) : Bool := (List.range n).all fun i => decide (f + (i : Int) ∈ keys) == b

def PM.new (budget : Int) : PM := ⟨[], fun _ => 0, fun _ => false, budget⟩

def insAll (f : Int) : Nat → List Int → List Int
  | 0, ks => ks
  | n + 1, ks => insK (f + n) (insAll f n ks)

def PM.mapE (M : PM) (f n : Int) : Int :=
  if someB f n = false then 1 else if allB M.keys f n.toNat false = false then 32 else if (M.keys.length : Int) + n > M.budget then 33 else 0

def PM.map (M : PM) (f n : Int) : PM := if M.mapE f n = 0 then { M with keys := insAll f n.toNat M.keys } else M

def PM.unmapE (M : PM) (f n : Int) : Int :=
  if someB f n = false then 1 else if allB M.keys f n.toNat true = false then 30 else 0

/-- Without the pages from f on, n of them. -/
def PM.drop (M : PM) (f : Int) (n : Nat) : PM :=
  { M with
    keys := M.keys.filter fun k => !(decide (f ≤ k) && decide (k < f + n))
    byte := fun a => if f ≤ a / 256 ∧ a / 256 < f + n then 0 else M.byte a
    tag := fun g => if f ≤ g / 8 ∧ g / 8 < f + n then false else M.tag g }

def PM.unmap (M : PM) (f n : Int) : PM := if M.unmapE f n = 0 then M.drop f n.toNat else M

/-- One byte is written; its granule has no tag. -/
def PM.put1 (M : PM) (a b : Int) : PM :=
  { M with byte := fun x => if x = a then b else M.byte x, tag := fun g => if g = a / 32 then false else M.tag g }

/-- Bytes are written, one behind the other. -/
def PM.putL (M : PM) (a : Int) : List Int → PM
  | [] => M
  | b :: r => (M.put1 a b).putL (a + 1) r

def PM.setTag (M : PM) (g : Int) (t : Bool) : PM := { M with tag := fun x => if x = g then t else M.tag x }

/-- So many bytes. -/
def PM.get (M : PM) (a : Int) : Nat → List Int
  | 0 => []
  | n + 1 => M.byte a :: M.get (a + 1) n

/-- The number that bytes are, the lowest first. -/
def ofB : List Int → Int
  | [] => 0
  | b :: r => b + 256 * ofB r

/-- A number's bytes, the lowest first. -/
def leB (w : Int) : Nat → List Int
  | 0 => []
  | n + 1 => w % 256 :: leB (w / 256) n

def numE (keys : List Int) (at_ n : Int) : Int :=
  if n ≠ 1 ∧ n ≠ 2 ∧ n ≠ 4 ∧ n ≠ 8 then 1 else if at_ % n ≠ 0 then 31 else if at_ / 256 ∉ keys then 30 else 0

def granE (keys : List Int) (at_ : Int) : Int := if at_ % 32 ≠ 0 then 31 else if at_ / 256 ∉ keys then 30 else 0

def PM.store (M : PM) (at_ n w : Int) : PM := if numE M.keys at_ n = 0 then M.putL at_ (leB w n.toNat) else M

def PM.loadV (M : PM) (at_ n : Int) : Int := if numE M.keys at_ n = 0 then ofB (M.get at_ n.toNat) else 0

/-- A capability. -/
structure Cap where
  base : Int
  top : Int
  at_ : Int
  perms : Int
  typ : Int
  tag : Bool
  deriving DecidableEq

def Cap.zero : Cap := ⟨0, 0, 0, 0, 0, false⟩

def PM.capAt (M : PM) (a : Int) : Cap :=
  ⟨ofB (M.get a 8), ofB (M.get (a + 8) 8), ofB (M.get (a + 16) 8), M.byte (a + 24), if M.byte (a + 25) ≥ 64 then -1 else M.byte (a + 25), M.tag (a / 32)⟩

def PM.loadCap (M : PM) (a : Int) : Cap := if granE M.keys a = 0 then M.capAt a else Cap.zero

/-- A capability's 32 bytes. -/
def capB (c : Cap) : List Int := leB c.base 8 ++ leB c.top 8 ++ leB c.at_ 8 ++ [c.perms % 256, c.typ % 256, 0, 0, 0, 0, 0, 0]

def PM.storeCap (M : PM) (a : Int) (c : Cap) : PM := if granE M.keys a = 0 then (M.putL a (capB c)).setTag (a / 32) c.tag else M

/-- Are all of these bytes mapped? (at and n below 2^64) -/
def mappedB (keys : List Int) (a : Int) (n : Nat) : Bool :=
  decide (a + n < 18446744073709551616) && (List.range n).all fun i => decide ((a + (i : Int)) / 256 ∈ keys)

def PM.putE (M : PM) (a : Int) (b : List Int) : Int := if mappedB M.keys a b.length then 0 else 30

def PM.put (M : PM) (a : Int) (b : List Int) : PM := if mappedB M.keys a b.length then M.putL a b else M

def PM.bytes (M : PM) (a n : Int) : List Int := if n < 1 ∨ n > 65536 ∨ mappedB M.keys a n.toNat = false then [] else M.get a n.toNat

def PM.tagsOf (M : PM) (p : Int) : List Int := (List.range 8).filterMap fun j : Nat => if M.tag (8 * p + (j : Int)) then some (256 * p + 32 * (j : Int)) else none

def PM.tags (M : PM) : List Int := M.keys.flatMap M.tagsOf

end Go.Proofs.Ytkmbmbpjppjdjaa.TmP
