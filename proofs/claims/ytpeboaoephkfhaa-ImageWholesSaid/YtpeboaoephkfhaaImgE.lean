/- The bytes of a disk; what a machine starts; the walk of Start. -/
import Derived.Test.YtpeboaoephkfhaaImgD
namespace Go.Proofs.Ytpeboaoephkfhaa
open Go.ChangeShapes Go.WideShapes Go.ChangeAt Go.RowKit

/-- All bytes of a disk are bytes. -/
def DK.Byt (d : DK) : Prop := (∀ b ∈ d.last, U8L b) ∧ ∀ p ∈ d.fresh, U8L p.2

theorem zeros_u8 : U8L DK.zeros := fun x hx => by rw [List.eq_of_mem_replicate hx]; omega

theorem DK.Byt.get {d : DK} (h : d.Byt) (n : Int) : U8L (d.get n) := by
  unfold DK.get
  cases hm : mget d.fresh n with
  | some b => exact h.2 _ (mget_mem hm)
  | none =>
    show U8L (d.last.getD n.toNat [])
    rw [List.getD_eq_getElem?_getD]
    cases hl : d.last[n.toNat]? with
    | none => exact U8L.nil
    | some b => exact h.1 b (List.mem_of_getElem? hl)

theorem DK.Byt.rd {d : DK} (h : d.Byt) (n : Int) : U8L (d.rd n) := by
  unfold DK.rd; split
  · exact h.get n
  · exact zeros_u8

theorem DK.Byt.new (n : Nat) : (DK.new n).Byt := ⟨fun b hb => by rw [List.eq_of_mem_replicate hb]; exact zeros_u8, fun p hp => by simp [DK.new] at hp⟩

theorem DK.Byt.write {d : DK} (h : d.Byt) (n : Int) {x : Blok} (hx : U8L x) : (d.write n x).Byt := by
  unfold DK.write; split
  · refine ⟨h.1, fun p hp => ?_⟩
    rcases mset_mem hp with hp | rfl
    · exact h.2 p hp
    · exact hx
  · exact h

theorem lay_u8 {k : Nat} {b old : Blok} (hb : U8L b) (ho : U8L old) : U8L (DK.lay k b old) := (hb.take k).append (ho.drop k)

theorem getD_u8 {l : List Blok} (h : ∀ b ∈ l, U8L b) (n : Nat) : U8L (l.getD n []) := by
  rw [List.getD_eq_getElem?_getD]
  cases hl : l[n]? with
  | none => exact U8L.nil
  | some b => exact h b (List.mem_of_getElem? hl)

theorem settleL_u8 (many : Nat → Int) : ∀ (f : List (Int × Blok)) (i : Nat) (l : List Blok), (∀ b ∈ l, U8L b) → (∀ p ∈ f, U8L p.2) → ∀ b ∈ DK.settleL many i f l, U8L b := by
  intro f
  induction f with
  | nil => intro i l h _; exact h
  | cons p t ih =>
    intro i l h hf
    simp only [DK.settleL]
    refine ih _ _ ?_ (fun q hq => hf q (List.mem_cons_of_mem _ hq))
    intro b hb
    rcases List.mem_or_eq_of_mem_set hb with hb | hb
    · exact h b hb
    · rw [hb]; exact lay_u8 (hf p List.mem_cons_self) (getD_u8 h _)

theorem DK.Byt.settle {d : DK} (h : d.Byt) (many : Nat → Int) : (d.settle many).Byt := ⟨settleL_u8 many d.fresh 0 d.last h.1 h.2, fun p hp => by simp [DK.settle] at hp⟩

theorem DK.Byt.flush {d : DK} (h : d.Byt) : d.flush.Byt := by
  unfold DK.flush; split
  · exact h
  · exact h.settle _

theorem DK.Byt.crash {d : DK} (h : d.Byt) (f : List Int) : (d.crash f).Byt := by
  unfold DK.crash; split
  · exact h
  · exact ⟨(h.settle (DK.fate f)).1, (h.settle (DK.fate f)).2⟩

theorem DK.Byt.start {d : DK} (h : d.Byt) : d.start.Byt := ⟨h.1, h.2⟩


theorem readB_len {x : List Int} (h : x.length = 64) : (readB x).1.whole.length = 32 := by
  unfold readB
  split
  · exact zer32_len
  · exact sl_len (i := 21) (by omega)

/-- The better of two. -/
def better (p r : BK × Int) : BK × Int := if p.2 < r.2 then r else p
/-- The better of the first m boot blocks. -/
def bestB (d : DK) (at_ : Int) : Nat → BK × Int
  | 0 => (BK.zero, 0)
  | m + 1 => better (bestB d at_ m) (readB (d.rd (at_ + m)))
theorem bestB_len {d : DK} (hd : d.WF) (at_ : Int) : ∀ m, (bestB d at_ m).1.whole.length = 32
  | 0 => zer32_len
  | m + 1 => by
    unfold bestB better
    split
    · exact readB_len (DK.rd_len hd _)
    · exact bestB_len hd at_ m
/-- What a machine starts: the boot, its count, the error's number. -/
def startF (d : DK) (at_ : Int) : BK × Int × Int :=
  if areaB d.last.length at_ 2 = false then (BK.zero, 0, 1) else if d.down = true then (BK.zero, 0, 60)
  else if (bestB d at_ 2).2 = 0 then (BK.zero, 0, 81) else ((bestB d at_ 2).1, (bestB d at_ 2).2, 0)

theorem area_code {d : DK} {at_ : Int} (h : areaB d.last.length at_ 2 = true) {i : Nat} (hi : i < 2) : d.code (at_ + i) = if d.down = true then 60 else 0 := by
  unfold areaB at h
  simp only [Bool.and_eq_true, decide_eq_true_eq] at h
  unfold DK.code
  split
  · rfl
  · rw [if_neg (by omega)]
theorem results_boot3 {fn : Func} {p q r : Tmp} (h : fn.results = #[.cell p 40, .tmp q, .tmp r]) {tmps : Array Value} {w : World} {g : Nat} {T : TypeId} {b : BK} (hp : tmps.getD p undef = .pointer (some ⟨g, 0, none⟩)) (hb : Blk w g (encK b).toArray T) (hl : b.whole.length = 32) :
    (results fn tmps).run Try.prog w = .ok (.tuple #[.agg (encK b).toArray, tmps.getD q undef, tmps.getD r undef]) w := by
  have hlv := run_loadVar_row (P := Try.prog) w g T 40 (encK b).toArray (0, 0) _ hb Try.underlying40 rfl (by rw [info_boot, encK_size hl])
  have hp' : tmps[p]?.getD undef = .pointer (some ⟨g, 0, none⟩) := by simpa using hp
  simp [results, h, hp', asAddr, hlv, Sem.run_bind, Result.andThen]

end Go.Proofs.Ytpeboaoephkfhaa
