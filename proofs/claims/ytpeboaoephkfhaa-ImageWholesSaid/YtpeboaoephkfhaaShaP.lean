/- The plain model of digests: what the program's code computes. No program in sight. -/
import Derived.Test.YtpeboaoephkfhaaBytes
namespace Go.Proofs.Ytpeboaoephkfhaa
open Go.RowKit

/-- Words as cells. -/
def U32 (l : List Int) : Array Value := (l.map (Value.int .u32)).toArray
theorem U32_size (l : List Int) : (U32 l).size = l.length := by simp [U32]
theorem U32_get (l : List Int) (i : Nat) (h : i < l.length) : (U32 l)[i]? = some (.int .u32 (l.getD i 0)) := by
  unfold U32; simp [List.getElem?_map, List.getD_eq_getElem?_getD, List.getElem?_eq_getElem h]
theorem U32_set (l : List Int) (i : Nat) (x : Int) : (U32 l).setIfInBounds i (.int .u32 x) = U32 (l.set i x) := by
  unfold U32
  rw [List.setIfInBounds_toArray, ← List.map_set]

/-- A word, turned to the left. -/
def rotl (s : Nat) (x : Int) : Int := bits .or .u32 (x * 2 ^ s % 4294967296) (x / 2 ^ (32 - s))
def sig0 (x : Int) : Int := bits .xor .u32 (bits .xor .u32 (rotl 25 x) (rotl 14 x)) (x / 8)
def sig1 (x : Int) : Int := bits .xor .u32 (bits .xor .u32 (rotl 15 x) (rotl 13 x)) (x / 1024)
def big1 (x : Int) : Int := bits .xor .u32 (bits .xor .u32 (rotl 26 x) (rotl 21 x)) (rotl 7 x)
def big0 (x : Int) : Int := bits .xor .u32 (bits .xor .u32 (rotl 30 x) (rotl 19 x)) (rotl 10 x)
def chF (f g h : Int) : Int := bits .xor .u32 (bits .and .u32 f g) (bits .and .u32 (bits .xor .u32 4294967295 f) h)
def majF (a c d : Int) : Int := bits .xor .u32 (bits .xor .u32 (bits .and .u32 a c) (bits .and .u32 a d)) (bits .and .u32 c d)

/-- Word t of a block of bytes. -/
def wordF (b : List Int) (t : Nat) : Int :=
  bits .or .u32 (bits .or .u32 (bits .or .u32 (b.getD (4 * t) 0 * 16777216 % 4294967296) (b.getD (4 * t + 1) 0 * 65536 % 4294967296)) (b.getD (4 * t + 2) 0 * 256 % 4294967296)) (b.getD (4 * t + 3) 0)
/-- The first m words of sixteen, of sixty-four. -/
def firstF (b : List Int) : Nat → List Int
  | 0 => List.replicate 64 0
  | m + 1 => (firstF b m).set m (wordF b m)
def nextW (w : List Int) (t : Nat) : Int := (((sig1 (w.getD (t - 2) 0) + w.getD (t - 7) 0) % 4294967296 + sig0 (w.getD (t - 15) 0)) % 4294967296 + w.getD (t - 16) 0) % 4294967296
/-- m words more than sixteen. -/
def schedF (b : List Int) : Nat → List Int
  | 0 => firstF b 16
  | m + 1 => (schedF b m).set (m + 16) (nextW (schedF b m) (m + 16))

theorem firstF_len (b : List Int) : ∀ m, (firstF b m).length = 64
  | 0 => by simp [firstF]
  | m + 1 => by rw [firstF, List.length_set, firstF_len b m]
theorem schedF_len (b : List Int) : ∀ m, (schedF b m).length = 64
  | 0 => firstF_len b 16
  | m + 1 => by rw [schedF, List.length_set, schedF_len b m]

structure S8 where
  a : Int
  c : Int
  d : Int
  e : Int
  f : Int
  g : Int
  h : Int
  i : Int

def t1F (s : S8) (k w : Int) : Int := ((((s.i + big1 s.f) % 4294967296 + chF s.f s.g s.h) % 4294967296 + k) % 4294967296 + w) % 4294967296
def t2F (s : S8) : Int := (big0 s.a + majF s.a s.c s.d) % 4294967296
def roundF (s : S8) (k w : Int) : S8 := ⟨(t1F s k w + t2F s) % 4294967296, s.a, s.c, s.d, (s.e + t1F s k w) % 4294967296, s.f, s.g, s.h⟩
def roundsF (ks ws : List Int) (s : S8) : Nat → S8
  | 0 => s
  | m + 1 => roundF (roundsF ks ws s m) (ks.getD m 0) (ws.getD m 0)

def toS (l : List Int) : S8 := ⟨l.getD 0 0, l.getD 1 0, l.getD 2 0, l.getD 3 0, l.getD 4 0, l.getD 5 0, l.getD 6 0, l.getD 7 0⟩
def addS (l : List Int) (s : S8) : List Int :=
  [(l.getD 0 0 + s.a) % 4294967296, (l.getD 1 0 + s.c) % 4294967296, (l.getD 2 0 + s.d) % 4294967296, (l.getD 3 0 + s.e) % 4294967296, (l.getD 4 0 + s.f) % 4294967296, (l.getD 5 0 + s.g) % 4294967296, (l.getD 6 0 + s.h) % 4294967296, (l.getD 7 0 + s.i) % 4294967296]

/-- A state behind one more block. -/
def blockF (ks s b : List Int) : List Int := addS s (roundsF ks (schedF b 48) (toS s) 64)
theorem blockF_len (ks s b : List Int) : (blockF ks s b).length = 8 := rfl

end Go.Proofs.Ytpeboaoephkfhaa
