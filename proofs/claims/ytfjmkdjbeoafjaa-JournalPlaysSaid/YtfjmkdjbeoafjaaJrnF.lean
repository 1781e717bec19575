/- The walk of the block that Append lays (Append's closure). -/
import Derived.Test.YtfjmkdjbeoafjaaJrnE
namespace Go.Proofs.Ytfjmkdjbeoafjaa
open Go.ChangeShapes Go.WideShapes Go.ChangeAt Go.RowKit

/-- 'copy' of one-cell elements, the source known by its cells. -/
theorem exec_copyC {P : Program} {a : Act} {w : World} {o : Oper} (x y : Operand) (t s : TypeId) (ho : o.op = .call { callee := .builtin .copy, args := #[x, y], argTypes := #[t, s] }) {e : TypeId} (hu : P.underlying t = some (.slice e)) (hi : (P.info? e).map (·.size) = some 1)
    {g off n cp m cph : Nat} {ad : Addr} {c : Array Value} {T : TypeId} (hx : a.eval x = .slice (some ⟨g, off, none⟩) n cp) (hy : a.eval y = .slice (some ad) m cph)
    (hb : Blk w g c T) (news : List Value) (hl : news.length = Nat.min m n) (hf : off + n ≤ c.size) (hnews : ∀ j v, news[j]? = some v → w.cell? (ad.add j) = some v) (h1 : ∀ v ∈ news, v.oneCell' = true) :
    (execOp a.eval o).run P w = .ok (.value (.int .i64 (Nat.min m n))) (w.setRow g (splice c.toList off news).toArray) := by
  have hmn : Nat.min m n ≤ m ∧ Nat.min m n ≤ n := ⟨Nat.min_le_left _ _, Nat.min_le_right _ _⟩
  have hr := run_copy_row (P := P) w t s o.type e g off n cp ad m cph c T news hu hi hb hl hnews (by omega) h1
  unfold execOp
  simp only [ho, resolve, invoke, builtin, Sem.run_bind, Sem.run_pure, Result.andThen_ok, List.map_toArray, List.map_cons, List.map_nil, hx, hy, hr]
  simp only [splice, hl]; rfl

/-- A byte of a life: the k-th of eight. -/
def lifeByte (l : Int) (k : Nat) : Int := (l / 2 ^ (56 - 8 * k)) % 256

/-- The lives' bytes are laid, up to the k-th. -/
def layL (l : Int) (m : Blok) : Nat → Blok
  | 0 => m
  | k + 1 => ((layL l m k).set k (lifeByte l k)).set (56 + k) (lifeByte l k)

theorem layL_len (l : Int) (m : Blok) : ∀ k, (layL l m k).length = m.length
  | 0 => rfl
  | k + 1 => by simp [layL, layL_len l m k]

def headJ (rest : List Int) : Blok :=
  let m := (splice DK.zeros 12 (rest.take 44)).set 9 (min (rest.length : Int) 44)
  if rest.length ≤ 44 then m.set 10 1 else m

/-- The block of a record's bytes. -/
def blockJ (l : Int) (rest : List Int) : Blok := layL l (headJ rest) 8

theorem headJ_len (rest : List Int) : (headJ rest).length = 64 := by
  have h : (splice DK.zeros 12 (rest.take 44)).length = 64 := by
    rw [splice_len (by simp [DK.zeros]; omega)]; exact DK.zeros_len
  unfold headJ
  simp only
  split <;> simp [h]

theorem blockJ_len (l : Int) (rest : List Int) : (blockJ l rest).length = 64 := by unfold blockJ; rw [layL_len, headJ_len]

theorem wpList_copyB {ops : Array Oper} {Q : Exit → Act → World → Prop} {rest : List Oper} {a : Act} {o : Oper} {w : World} (hgd : o.guard = none) (x y : Operand) (ho : o.op = .call { callee := .builtin .copy, args := #[x, y], argTypes := #[31, 31] })
    {g off n cp h offh m cph mn : Nat} {c l : List Int} {T : TypeId} (hx : a.eval x = .slice (some ⟨g, off, none⟩) n cp) (hy : a.eval y = .slice (some ⟨h, offh, none⟩) m cph)
    (hb : Blk w g (U8 c) T) (hf : off + n ≤ c.length) (hs : ∀ i, i < m → w.cell? ⟨h, offh + i, none⟩ = some (.int .u8 (l.getD i 0))) (hl : l.length = m) (hmn : Nat.min m n = mn)
    (hk : ∀ w', Blk w' g (U8 (splice c off (l.take mn))) T → Upd [g] w w' → w'.heap.size = w.heap.size → wpList Try.prog ops Q rest (a.put o.dst (.int .i64 mn)) w') : wpList Try.prog ops Q (o :: rest) a w := by
  have hi : (Try.prog.info? 5).map (·.size) = some 1 := by kernel_rfl
  have hm1 : mn ≤ m := by rw [← hmn]; exact Nat.min_le_left _ _
  have hr := exec_copyC (P := Try.prog) x y 31 31 ho Try.underlying31 hi hx hy hb ((l.take mn).map (Value.int .u8)) (by rw [List.length_map, List.length_take, hmn]; omega) (by rw [U8_size]; exact hf) (fun j v hv => by
    have hjl : j < mn := by have := (List.getElem?_eq_some_iff.1 hv).1; simp at this; omega
    have hadd : (⟨h, offh, none⟩ : Addr).add j = ⟨h, offh + j, none⟩ := by unfold Addr.add; split <;> simp_all
    rw [hadd, hs j (by omega), ← hv]
    simp [List.getD_eq_getElem?_getD, List.getElem?_take, hjl, List.getElem?_eq_getElem (show j < l.length by omega)]) (fun v hv => by obtain ⟨x, _, rfl⟩ := List.mem_map.1 hv; rfl)
  have e : (splice (U8 c).toList off ((l.take mn).map (Value.int .u8))).toArray = U8 (splice c off (l.take mn)) := by rw [U8_toList, ← splice_map]; rfl
  rw [e, hmn] at hr
  exact wpList_run hgd hr (hk _ (setRow_blk hb _) (setRow_upd (Upd.refl _ _) (.inl (by simp)) _) (by simp))

theorem headJ_lo (rest : List Int) (h : rest.length ≤ 44) : headJ rest = ((splice DK.zeros 12 (rest.take 44)).set 9 rest.length).set 10 1 := by
  unfold headJ; simp only; rw [if_pos h, show min (rest.length : Int) 44 = rest.length by omega]
theorem headJ_hi (rest : List Int) (h : 44 < rest.length) : headJ rest = (splice DK.zeros 12 (rest.take 44)).set 9 44 := by
  unfold headJ; simp only; rw [if_neg (by omega), show min (rest.length : Int) 44 = 44 by omega]

set_option maxHeartbeats 1000000 in
theorem blockf_any (g off cap bx jb : Nat) (rest : List Int) (life : Int) (w : World) (hr : ∀ i, i < rest.length → w.cell? ⟨g, off + i, none⟩ = some (.int .u8 (rest.getD i 0))) (hg : g < w.heap.size) (hne : 0 < rest.length) (hrl : rest.length ≤ 2000)
    (hbx : w.cell? ⟨bx, 0, none⟩ = some (.pointer (some ⟨jb, 0, none⟩))) (hli : w.cell? ⟨jb, 3, none⟩ = some (.int .i64 life)) (h0 : 0 ≤ life) (h1 : life ≤ 1099511627777) :
    Calls Try.prog 38 #[.slice (some ⟨g, off, none⟩) rest.length cap, .pointer (some ⟨bx, 0, none⟩)] w fun e w' => e = .returned (.agg (U8 (blockJ life rest))) ∧ Upd [] w w' := by
  have hbxl := World.block_lt_of_cell? w _ hbx
  have hjbl := World.block_lt_of_cell? w _ hli
  have HR := Lib.hid hr
  have HBX := Lib.hid hbx
  have HLI := Lib.hid hli
  obtain ⟨rl, hrlx⟩ : ∃ rl, rl = rest.length := ⟨_, rfl⟩
  rw [← hrlx] at hne hrl HR ⊢
  have HRL := Lib.hid hrlx
  clear hr hbx hli hrlx
  have key : (Nat.min rl 44 = rl ∧ rl ≤ 44 ∧ (decide (rl = rl) = true)) ∨ (Nat.min rl 44 = 44 ∧ 44 < rl) := by
    by_cases h : rl ≤ 44
    · left; exact ⟨Nat.min_eq_left h, h, by simp⟩
    · right; exact ⟨Nat.min_eq_right (by omega), by omega⟩
  rcases key with ⟨hmn, h44, -⟩ | ⟨hmn, h44⟩
  · have HMN := Lib.hid hmn
    clear hmn
    go_enter Try.func38, Try.ntmps38
    go_upto_region 2 with (first
      | ((with_reducible show wpList _ _ _ (⟨some 3, _, _, _, _, _⟩ :: _) _ _); refine wpList_alloc rfl 54 rfl zero_arr fun w1 hb1 hu1 hs1 => ?_)
      | ((with_reducible show wpList _ _ _ (⟨some 9, _, _, _, _, _⟩ :: _) _ _); go_loud (refine wpList_copyB rfl (.tmp 7) (.tmp 8) rfl (mn := rl) (l := rest) rfl rfl hb1 (by rw [DK.zeros_len]; omega) (fun i hi => (World.cell?_of_block (a := ⟨g, off + i, none⟩) (hu1.block g hg (by simp))).trans (HR.out i hi)) HRL.out.symm HMN.out fun w2 hb2 hu2 hs2 => ?_)))
    have hu02 : Upd [] w w2 := hu1.then hu2 (by simp)
    obtain ⟨c, hc⟩ : ∃ c, c = splice DK.zeros 12 (rest.take rl) := ⟨_, rfl⟩
    have hcl : c.length = 64 := by rw [hc, splice_len (by simp [DK.zeros]; omega)]; exact DK.zeros_len
    obtain ⟨B, hB⟩ : ∃ B, B = w.heap.size := ⟨_, rfl⟩
    have hhd : (c.set 9 (rl : Int)).set 10 1 = headJ rest := by
      rw [headJ_lo rest (by rw [← HRL.out]; exact h44), ← HRL.out, hc, List.take_of_length_le (by rw [← HRL.out]; exact Nat.le_refl _), List.take_of_length_le (by rw [← HRL.out]; exact h44)]
    rw [← hc] at hb2
    rw [← hB] at hb2 ⊢
    have c9 := hb2.cell (U8_get c 9 (by omega))
    have c10 := hb2.cell (U8_get c 10 (by omega))
    have f9 := hb2.free 9
    have f10 := hb2.free 10
    have hBz : w.heap.size ≤ B := by omega
    have hb4 := (hb2.set 9 (.int .u8 (rl : Int))).set 10 (.int .u8 1)
    rw [U8_set, U8_set, hhd] at hb4
    have hu04 : Upd [] w ((w2.setCell ⟨B, 9, none⟩ (.int .u8 (rl : Int))).setCell ⟨B, 10, none⟩ (.int .u8 1)) := (hu02.setCell (.inr hBz) _).setCell (.inr hBz) _
    have HB4 := Lib.hid hb4
    have HU4 := Lib.hid hu04
    have hx255 : (rl : Int) ≤ 2000 := by omega
    have hbxn : bx ≠ B := by have : bx < w.heap.size := hbxl; omega
    have hjbn : jb ≠ B := by have : jb < w.heap.size := hjbl; omega
    clear hb1 hu1 hs1 hb2 hu2 hs2 hu02 hc hcl hB hhd hb4 hu04
    go_upto_region 5 with fail
    generalize hw4 : (w2.setCell ⟨B, 9, none⟩ (.int .u8 (rl : Int))).setCell ⟨B, 10, none⟩ (.int .u8 1) = w4
    rw [hw4] at HB4 HU4
    clear hw4 c9 c10 f9 f10
    obtain ⟨m0, hm0⟩ : ∃ m0, m0 = headJ rest := ⟨_, rfl⟩
    have hml : m0.length = 64 := by rw [hm0]; exact headJ_len _
    rw [← hm0] at HB4
    have HM0 := Lib.hid hm0
    have HML := Lib.hid hml
    clear hm0 hml
    go_wp2_with fail
    go_loopw [18] (fun i wx => ∃ k : Nat, k ≤ 8 ∧ i = .int .i64 k ∧ Blk wx B (U8 (layL life m0 k)) 54 ∧ Upd [] w wx) (fun i _ => 8 - (intOf i).toNat)
    case atStart => exact ⟨0, by omega, rfl, HB4.out, HU4.out⟩
    case round =>
      obtain ⟨k, hk, rfl, hb, hu⟩ := hrel
      clear HB4 HU4
      by_cases hlt : k < 8
      · have hx8 : (k : Int) < 8 := by omega
        have hx0 : (0 : Int) ≤ (k : Int) := by omega
        have hlen : (layL life m0 k).length = 64 := by rw [layL_len]; exact HML.out
        have ck := hb.cell (U8_get _ k (by omega))
        have ck6 := hb.cell (U8_get (layL life m0 k) (56 + k) (by omega))
        have fk := hb.free k
        have fk6 := hb.free (56 + k)
        have cbx := (World.cell?_of_block (a := ⟨bx, 0, none⟩) (hu.block bx hbxl (by simp))).trans HBX.out
        have cli := (World.cell?_of_block (a := ⟨jb, 3, none⟩) (hu.block jb hjbl (by simp))).trans HLI.out
        have HB := Lib.hid hb
        have HU := Lib.hid hu
        clear hb hu
        go_wp2
        have hb5 := (HB.out.set k (.int .u8 (lifeByte life k))).set (56 + k) (.int .u8 (lifeByte life k))
        rw [U8_set, U8_set] at hb5
        have hu5 : Upd [] w ((wr.setCell ⟨B, k, none⟩ (.int .u8 (lifeByte life k))).setCell ⟨B, 56 + k, none⟩ (.int .u8 (lifeByte life k))) := (HU.out.setCell (.inr hBz) _).setCell (.inr hBz) _
        go_roundw
        case rel => exact ⟨k + 1, by omega, by go_num, hb5, hu5⟩
        case measure => simp [intOf]; omega
      · obtain rfl : k = 8 := by omega
        have hlen : (layL life m0 8).length = 64 := by rw [layL_len]; exact HML.out
        have HB := Lib.hid hb
        have HU := Lib.hid hu
        have HX := Lib.hid (show blockJ life rest = layL life m0 8 by unfold blockJ; rw [HM0.out])
        clear hb hu
        go_wp2_with (first
          | ((with_reducible show wpList _ _ _ (⟨some 38, _, _, _, _, _⟩ :: _) _ _); refine wpList_loadW (.tmp 3) rfl rfl rfl HB.out hlen ?_)
          | (refine wpList_store rfl (.tmp 3) (.tmp 38) rfl rfl rfl HB.out hlen hlen fun w6 hb6 hu6 hs6 => ?_))
        exact bodyPost_ret (results_arr rfl rfl hb6 hlen) rfl ⟨by rw [HX.out], HU.out.then hu6 (by simp; omega)⟩
  · have HMN := Lib.hid hmn
    clear hmn
    go_enter Try.func38, Try.ntmps38
    go_upto_region 2 with (first
      | ((with_reducible show wpList _ _ _ (⟨some 3, _, _, _, _, _⟩ :: _) _ _); refine wpList_alloc rfl 54 rfl zero_arr fun w1 hb1 hu1 hs1 => ?_)
      | ((with_reducible show wpList _ _ _ (⟨some 9, _, _, _, _, _⟩ :: _) _ _); go_loud (refine wpList_copyB rfl (.tmp 7) (.tmp 8) rfl (mn := 44) (l := rest) rfl rfl hb1 (by rw [DK.zeros_len]; omega) (fun i hi => (World.cell?_of_block (a := ⟨g, off + i, none⟩) (hu1.block g hg (by simp))).trans (HR.out i hi)) HRL.out.symm HMN.out fun w2 hb2 hu2 hs2 => ?_)))
    have hu02 : Upd [] w w2 := hu1.then hu2 (by simp)
    obtain ⟨c, hc⟩ : ∃ c, c = splice DK.zeros 12 (rest.take 44) := ⟨_, rfl⟩
    have hcl : c.length = 64 := by rw [hc, splice_len (by simp [DK.zeros]; omega)]; exact DK.zeros_len
    obtain ⟨B, hB⟩ : ∃ B, B = w.heap.size := ⟨_, rfl⟩
    have hhd : c.set 9 44 = headJ rest := by
      rw [headJ_hi rest (by rw [← HRL.out]; exact h44), hc]
    rw [← hc] at hb2
    rw [← hB] at hb2 ⊢
    have c9 := hb2.cell (U8_get c 9 (by omega))
    have c10 := hb2.cell (U8_get c 10 (by omega))
    have f9 := hb2.free 9
    have f10 := hb2.free 10
    have hBz : w.heap.size ≤ B := by omega
    have hb4 := hb2.set 9 (.int .u8 44)
    rw [U8_set, hhd] at hb4
    have hu04 : Upd [] w (w2.setCell ⟨B, 9, none⟩ (.int .u8 44)) := hu02.setCell (.inr hBz) _
    have HB4 := Lib.hid hb4
    have HU4 := Lib.hid hu04
    have hx255 : (rl : Int) ≤ 2000 := by omega
    have hbxn : bx ≠ B := by have : bx < w.heap.size := hbxl; omega
    have hjbn : jb ≠ B := by have : jb < w.heap.size := hjbl; omega
    clear hb1 hu1 hs1 hb2 hu2 hs2 hu02 hc hcl hB hhd hb4 hu04
    go_upto_region 5 with fail
    generalize hw4 : w2.setCell ⟨B, 9, none⟩ (.int .u8 44) = w4
    rw [hw4] at HB4 HU4
    clear hw4 c9 c10 f9 f10
    obtain ⟨m0, hm0⟩ : ∃ m0, m0 = headJ rest := ⟨_, rfl⟩
    have hml : m0.length = 64 := by rw [hm0]; exact headJ_len _
    rw [← hm0] at HB4
    have HM0 := Lib.hid hm0
    have HML := Lib.hid hml
    clear hm0 hml
    go_wp2_with fail
    go_loopw [18] (fun i wx => ∃ k : Nat, k ≤ 8 ∧ i = .int .i64 k ∧ Blk wx B (U8 (layL life m0 k)) 54 ∧ Upd [] w wx) (fun i _ => 8 - (intOf i).toNat)
    case atStart => exact ⟨0, by omega, rfl, HB4.out, HU4.out⟩
    case round =>
      obtain ⟨k, hk, rfl, hb, hu⟩ := hrel
      clear HB4 HU4
      by_cases hlt : k < 8
      · have hx8 : (k : Int) < 8 := by omega
        have hx0 : (0 : Int) ≤ (k : Int) := by omega
        have hlen : (layL life m0 k).length = 64 := by rw [layL_len]; exact HML.out
        have ck := hb.cell (U8_get _ k (by omega))
        have ck6 := hb.cell (U8_get (layL life m0 k) (56 + k) (by omega))
        have fk := hb.free k
        have fk6 := hb.free (56 + k)
        have cbx := (World.cell?_of_block (a := ⟨bx, 0, none⟩) (hu.block bx hbxl (by simp))).trans HBX.out
        have cli := (World.cell?_of_block (a := ⟨jb, 3, none⟩) (hu.block jb hjbl (by simp))).trans HLI.out
        have HB := Lib.hid hb
        have HU := Lib.hid hu
        clear hb hu
        go_wp2
        have hb5 := (HB.out.set k (.int .u8 (lifeByte life k))).set (56 + k) (.int .u8 (lifeByte life k))
        rw [U8_set, U8_set] at hb5
        have hu5 : Upd [] w ((wr.setCell ⟨B, k, none⟩ (.int .u8 (lifeByte life k))).setCell ⟨B, 56 + k, none⟩ (.int .u8 (lifeByte life k))) := (HU.out.setCell (.inr hBz) _).setCell (.inr hBz) _
        go_roundw
        case rel => exact ⟨k + 1, by omega, by go_num, hb5, hu5⟩
        case measure => simp [intOf]; omega
      · obtain rfl : k = 8 := by omega
        have hlen : (layL life m0 8).length = 64 := by rw [layL_len]; exact HML.out
        have HB := Lib.hid hb
        have HU := Lib.hid hu
        have HX := Lib.hid (show blockJ life rest = layL life m0 8 by unfold blockJ; rw [HM0.out])
        clear hb hu
        go_wp2_with (first
          | ((with_reducible show wpList _ _ _ (⟨some 38, _, _, _, _, _⟩ :: _) _ _); refine wpList_loadW (.tmp 3) rfl rfl rfl HB.out hlen ?_)
          | (refine wpList_store rfl (.tmp 3) (.tmp 38) rfl rfl rfl HB.out hlen hlen fun w6 hb6 hu6 hs6 => ?_))
        exact bodyPost_ret (results_arr rfl rfl hb6 hlen) rfl ⟨by rw [HX.out], HU.out.then hu6 (by simp; omega)⟩

end Go.Proofs.Ytfjmkdjbeoafjaa
