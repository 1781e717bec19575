/- The plain model of facts and of lists of them. No program in sight. -/
import Derived.Test.YtbdmnmjdnfpfbaaBytes
namespace Go.Proofs.Ytbdmnmjdnfpfbaa
open Go.RowKit

/-- A fact. -/
structure FK where
  kind : Int
  epoch : Int
  node : Int
  size : Int
  chunk : Int
  chunks : List (List Int)
  whole : List Int

def zeros32 : List Int := List.replicate 32 0
theorem zeros32_len : zeros32.length = 32 := by simp [zeros32]

/-- Whose an epoch is, and which of its. -/
def ofN (e : Int) : Int × Int := if e < 16 ∨ 1099511627776 < e then (0, 0) else (e % 16, e / 16)

/-- How many chunks an image has; 0: it may not be. -/
def chunksN (size chunk : Int) : Int := if size < 1 ∨ 65536 < size ∨ chunk < 1 ∨ 4096 < chunk then 0 else if 64 < (size + chunk - 1) / chunk then 0 else (size + chunk - 1) / chunk

def FK.manOk (f : FK) : Bool := decide (chunksN f.size f.chunk ≠ 0) && decide ((f.chunks.length : Int) = chunksN f.size f.chunk)
def FK.none (f : FK) : Bool := decide (f.size = 0) && decide (f.chunk = 0) && decide (f.chunks.length = 0) && decide (f.whole = zeros32)

/-- May a fact be, of so many nodes? -/
def FK.ok (nodes : Int) (f : FK) : Bool :=
  decide (1 ≤ nodes) && decide (nodes ≤ 9) && decide (0 ≤ f.node) && decide (f.node < nodes) && decide (0 < (ofN f.epoch).2) && decide ((ofN f.epoch).1 < nodes) &&
    (if f.kind = 1 then decide (f.node = (ofN f.epoch).1) && f.manOk else if f.kind = 2 ∨ f.kind = 3 then f.none else false)

def FK.less (a b : FK) : Bool := decide (a.epoch < b.epoch) || (decide (a.epoch = b.epoch) && (decide (a.kind < b.kind) || (decide (a.kind = b.kind) && decide (a.node < b.node))))

/-- The key of a fact. -/
def FK.is (f : FK) (kind epoch : Int) : Bool := decide (f.kind = kind) && decide (f.epoch = epoch)
def allL (l : List FK) (kind epoch : Int) : List FK := l.filter (fun f => f.is kind epoch)
def hasL (l : List FK) (kind epoch node : Int) : Bool := (allL l kind epoch).any (fun f => decide (f.node = node))
/-- The place of a new fact. -/
def placeL (l : List FK) (f : FK) : Nat := (l.takeWhile (fun x => x.less f)).length
def insL (l : List FK) (f : FK) : List FK := l.take (placeL l f) ++ f :: l.drop (placeL l f)

def addCode (nodes : Int) (l : List FK) (f : FK) : Int :=
  if f.ok nodes = false then 100 else if hasL l f.kind f.epoch f.node = true then 0 else if 200 ≤ l.length then 110 else 0
def addL (nodes : Int) (l : List FK) (f : FK) : List FK :=
  if f.ok nodes = false then l else if hasL l f.kind f.epoch f.node = true then l else if 200 ≤ l.length then l else insL l f
def mergeL (nodes : Int) (a : List FK) : List FK → List FK
  | [] => a
  | f :: t => mergeL nodes (addL nodes a f) t
def whoL (l : List FK) (kind epoch : Int) : List Int := (allL l kind epoch).map (·.node)
def abortedL (l : List FK) (epoch majority : Int) : Bool := decide (majority ≤ ((whoL l 3 epoch).length : Int))
def bestStep (l : List FK) (majority best : Int) (f : FK) : Int := if f.kind = 1 ∧ best < f.epoch ∧ abortedL l f.epoch majority = false then f.epoch else best
def bestL (l : List FK) (majority : Int) : Int := l.foldl (bestStep l majority) 0
def nextL (l : List FK) : Int := l.foldl (fun n f => max n ((ofN f.epoch).2 + 1)) 1

end Go.Proofs.Ytbdmnmjdnfpfbaa
