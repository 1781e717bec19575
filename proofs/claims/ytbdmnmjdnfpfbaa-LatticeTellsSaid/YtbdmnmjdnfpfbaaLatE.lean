/- The walks of slices.Clone at facts and at digests, and of own. -/
import Derived.Test.YtbdmnmjdnfpfbaaLatD
namespace Go.Proofs.Ytbdmnmjdnfpfbaa
open Go.ChangeShapes Go.WideShapes Go.ChangeAt Go.RowKit

theorem info_factB : (Try.prog.info? 31).map (fun i => (i.zero, i.size, i.bytes)) = some (some (.agg (encF FK.zero (.slice none 0 0)).toArray), 38, 96) := by kernel_rfl
theorem info_32B : (Try.prog.info? 27).map (fun i => (i.zero, i.size, i.bytes)) = some (some (.agg (U8 zeros32)), 32, 32) := by kernel_rfl

theorem FsAt.news {w : World} {T : List Nat} {ad : Addr} {n cap : Nat} {L : List FK} (h : FsAt w T (.slice (some ad) n cap) L) : ∃ cvs, ChunksL w T L cvs ∧ (∀ j u, (encL L cvs)[j]? = some u → w.cell? (ad.add j) = some u) ∧ (L ≠ [] → ad.block < w.heap.size) := by
  obtain ⟨a, c, cvs, e, h1, h2, h3, h4, h⟩ := h
  cases e
  refine ⟨cvs, h4, fun j u hj => ?_, fun hne => ?_⟩
  · have hne : L ≠ [] := by
      intro e; subst e
      have : cvs = [] := List.eq_nil_of_length_eq_zero h4.1
      subst this; simp [encL] at hj
    obtain ⟨g, off, e, hg, -, hc⟩ := h hne
    cases e
    have hadd : (⟨g, off, none⟩ : Addr).add j = ⟨g, off + j, none⟩ := by unfold Addr.add; split <;> simp_all
    rw [hadd]; exact hc j u hj
  · obtain ⟨g, off, e, hg, -, hc⟩ := h hne
    cases e; exact hg

set_option maxHeartbeats 1000000 in
theorem cloneF_any (v : Value) (T : List Nat) (L : List FK) (w : World) (h : FsAt w T v L) (hl : L.length ≤ 1000) :
    Calls Try.prog 39 #[v] w fun e w' => ∃ v' cvs, e = .returned v' ∧ OL w' w.heap.size v' L cvs T ∧ Upd [] w w' := by
  have hwf := h.wf
  have HF := Lib.hid h
  have hnil : ∀ (w : World) (a : Option Addr) (n c n' c' : Nat), (binOp .eql 23 (.slice a n c) (.slice none n' c')).run Try.prog w = .ok (.bool a.isNone) w := fun w a n c n' c' => Lib.run_eql_slice_nil w _ _ a n c n' c' Try.underlying23
  obtain ⟨a, cap, cvs0, rfl, -, -, -, -, hc⟩ := h
  cases a with
  | none =>
    have hL : L = [] := by
      cases L with
      | nil => rfl
      | cons f t => obtain ⟨g, off, e, -⟩ := hc (by simp); cases e
    subst hL
    clear hc
    go_enter Try.func39, Try.ntmps39
    go_wp2
    go_ret
    exact ⟨.slice none 0 0, [], rfl, ⟨World.ownsRow_nil _ _ _ _, ChunksL.nil _ _, hwf⟩, Upd.refl _ _⟩
  | some ad =>
    obtain ⟨cvs, hch, hnews, hblk⟩ := HF.out.news
    obtain ⟨i0, hi, hz0, hz1, hz2⟩ := info_parts info_factB
    have hnews' : ∀ j u, (encL L cvs)[j]? = some u → (w.alloc (.cells #[] 31)).cell? (ad.add j) = some u := by
      intro j u hj
      have hne : L ≠ [] := by
        intro e; subst e
        have : cvs = [] := List.eq_nil_of_length_eq_zero hch.1
        subst this; simp [encL] at hj
      have hb := hblk hne
      have e1 : (ad.add j).block = ad.block := by unfold Addr.add; split <;> rfl
      rw [World.cell?_alloc_old _ _ _ (by rw [e1]; omega)]
      exact hnews j u hj
    obtain ⟨n, hn⟩ : ∃ n, n = L.length := ⟨_, rfl⟩
    have hel := encL_len L cvs hch.1 hwf
    have hone := encL_one' hch
    rw [← hn] at hl hel ⊢
    have HN := Lib.hid hn
    have HC := Lib.hid hch
    have HNEWS := Lib.hid hnews'
    have HEL := Lib.hid hel
    have HONE := Lib.hid hone
    clear hc hnews hnews' hblk hch hel hone hn
    go_enter Try.func39, Try.ntmps39
    go_wp2_with (at_builtin; go_loud (refine wpList_append_own _ rfl (.tmp 5) (.tmp 6) 23 rfl w.heap.size 31 i0 (.agg (encF FK.zero (.slice none 0 0)).toArray) 38 96 Try.underlying23 hi hz0 hz1 hz2 rfl (by decide) (.slice (some ⟨w.heap.size, 0, none⟩) 0 0) 0 [] rfl (World.ownsRow_made w #[] 0 (Nat.le_refl _) (by unfold maxLen; omega) rfl) ad n cap (encL L cvs) rfl HEL.out HNEWS.out HONE.out (by unfold maxLen; omega) (by omega) (by simp) fun v' w1 ho' hg _ => ?_)
                 have hu : Upd [] w w1 := ((Upd.refl _ _).alloc _).grown hg (fun k hk => .inr (by simp [Value.ownBlock] at hk; omega))
                 have HO := Lib.hid ho'
                 have HU := Lib.hid hu
                 clear ho' hg hu)
    go_ret
    refine ⟨_, cvs, rfl, ⟨?_, HC.out.upd0 HU.out, hwf⟩, HU.out⟩
    rw [← HN.out]; simpa using HO.out

theorem flatten32_len {l : List (List Int)} (h : ∀ b ∈ l, b.length = 32) : l.flatten.length = 32 * l.length := by
  induction l with
  | nil => rfl
  | cons b t ih =>
    rw [List.flatten_cons, List.length_append, ih (fun x hx => h x (List.mem_cons_of_mem _ hx)), h b List.mem_cons_self, List.length_cons]; omega

theorem flatten32_cut {l : List (List Int)} (h : ∀ b ∈ l, b.length = 32) : ∀ {n : Nat}, n < l.length → (l.flatten.drop (32 * n)).take 32 = l.getD n [] := by
  induction l with
  | nil => intro n hn; simp at hn
  | cons b t ih =>
    intro n hn
    have hb := h b List.mem_cons_self
    rw [List.flatten_cons]
    rcases n with _ | n
    · rw [Nat.mul_zero, List.drop_zero, List.take_append_of_le_length (by omega), List.take_of_length_le (by omega)]; rfl
    · rw [List.drop_append, List.drop_of_length_le (by omega), List.nil_append, hb, show 32 * (n + 1) - 32 = 32 * n by omega, ih (fun x hx => h x (List.mem_cons_of_mem _ hx)) (by simpa using hn)]
      rfl

theorem ChunksAt.news {w : World} {T : List Nat} {ad : Addr} {n cap : Nat} {cs : List (List Int)} (h : ChunksAt w T (.slice (some ad) n cap) cs) (h32 : ∀ c ∈ cs, c.length = 32) : (∀ j u, ((cs.flatten).map (Value.int .u8))[j]? = some u → w.cell? (ad.add j) = some u) ∧ (cs ≠ [] → ad.block < w.heap.size) := by
  obtain ⟨a, c, e, h1, h2, h⟩ := h
  cases e
  refine ⟨fun j u hj => ?_, fun hne => ?_⟩
  · have hne : cs ≠ [] := by intro e; subst e; simp at hj
    obtain ⟨g, off, e, hg, -, hc⟩ := h hne
    cases e
    have hadd : (⟨g, off, none⟩ : Addr).add j = ⟨g, off + j, none⟩ := by unfold Addr.add; split <;> simp_all
    have hjl : j < cs.flatten.length := by
      have := (List.getElem?_eq_some_iff.1 hj).1
      rw [List.length_map] at this; exact this
    have hfl : cs.flatten.length = 32 * cs.length := flatten32_len h32
    have hq : j / 32 < cs.length := by omega
    rw [hadd]
    have := hc (j / 32) hq (j % 32) u (by
      rw [← flatten32_cut h32 hq, List.getElem?_map, List.getElem?_take, if_pos (by omega), List.getElem?_drop, show 32 * (j / 32) + j % 32 = j by omega, ← List.getElem?_map]; exact hj)
    rwa [show off + j / 32 * 32 + j % 32 = off + j by omega] at this
  · obtain ⟨g, off, e, hg, -, hc⟩ := h hne
    cases e; exact hg

theorem ChunksAt.of_own {w : World} {base n : Nat} {v : Value} {cs : List (List Int)} (h : w.ownsRow base 27 32 v n ((cs.flatten).map (Value.int .u8))) (hn : n = cs.length) (h32 : ∀ c ∈ cs, c.length = 32) : ChunksAt w v.ownBlock.toList v cs := by
  subst hn
  rcases h.2 with ⟨rfl, hn⟩ | ⟨g, cap, cur, rfl, hb, hg, hnc, hcm, hcs, htk⟩
  · have : cs = [] := List.eq_nil_of_length_eq_zero hn
    subst this; exact ChunksAt.nil _ _
  · refine ⟨_, cap, rfl, hnc, hcm, fun _ => ⟨g, 0, rfl, Blk.lt hg, by simp [Value.ownBlock], fun i hi j u hj => ?_⟩⟩
    have hjl : j < 32 := by
      have h1 := (List.getElem?_eq_some_iff.1 hj).1
      rw [List.length_map, h32 _ (by rw [List.getD_eq_getElem?_getD, List.getElem?_eq_getElem hi]; exact List.getElem_mem hi)] at h1; exact h1
    have := h.cells (g := g) rfl (i * 32 + j) u (by
      rw [← flatten32_cut h32 hi, List.getElem?_map, List.getElem?_take, if_pos hjl, List.getElem?_drop, ← List.getElem?_map] at hj
      rw [show i * 32 + j = 32 * i + j by omega]; exact hj)
    have hadd : (⟨g, 0, none⟩ : Addr).add (i * 32 + j) = ⟨g, 0 + i * 32 + j, none⟩ := by unfold Addr.add; split <;> simp_all [Nat.add_assoc]
    rwa [hadd] at this

set_option maxHeartbeats 1000000 in
theorem cloneC_any (cv : Value) (T : List Nat) (cs : List (List Int)) (w : World) (h : ChunksAt w T cv cs) (h32 : ∀ c ∈ cs, c.length = 32) (hl : cs.length ≤ 1000) :
    Calls Try.prog 57 #[cv] w fun e w' => ∃ v', e = .returned v' ∧ ChunksAt w' v'.ownBlock.toList v' cs ∧ (∀ g, v'.ownBlock = some g → w.heap.size ≤ g ∧ g < w'.heap.size) ∧ Upd [] w w' := by
  have HF := Lib.hid h
  have hnil : ∀ (w : World) (a : Option Addr) (n c n' c' : Nat), (binOp .eql 26 (.slice a n c) (.slice none n' c')).run Try.prog w = .ok (.bool a.isNone) w := fun w a n c n' c' => Lib.run_eql_slice_nil w _ _ a n c n' c' Try.underlying26
  obtain ⟨a, cap, rfl, -, -, hc⟩ := h
  cases a with
  | none =>
    have hL : cs = [] := by
      cases cs with
      | nil => rfl
      | cons f t => obtain ⟨g, off, e, -⟩ := hc (by simp); cases e
    subst hL
    clear hc
    go_enter Try.func57, Try.ntmps57
    go_wp2
    go_ret
    exact ⟨.slice none 0 0, rfl, ChunksAt.nil _ _, by simp [Value.ownBlock], Upd.refl _ _⟩
  | some ad =>
    obtain ⟨hnews, hblk⟩ := HF.out.news h32
    obtain ⟨i0, hi, hz0, hz1, hz2⟩ := info_parts info_32B
    have hnews' : ∀ j u, ((cs.flatten).map (Value.int .u8))[j]? = some u → (w.alloc (.cells #[] 27)).cell? (ad.add j) = some u := by
      intro j u hj
      have hne : cs ≠ [] := by intro e; subst e; simp at hj
      have hb := hblk hne
      have e1 : (ad.add j).block = ad.block := by unfold Addr.add; split <;> rfl
      rw [World.cell?_alloc_old _ _ _ (by rw [e1]; omega)]
      exact hnews j u hj
    obtain ⟨n, hn⟩ : ∃ n, n = cs.length := ⟨_, rfl⟩
    have hel : ((cs.flatten).map (Value.int .u8)).length = n * 32 := by rw [List.length_map, flatten32_len h32, hn]; omega
    rw [← hn] at hl ⊢
    have HN := Lib.hid hn
    have HNEWS := Lib.hid hnews'
    have HEL := Lib.hid hel
    clear hc hnews hnews' hblk hel hn
    go_enter Try.func57, Try.ntmps57
    go_wp2_with (at_builtin; go_loud (refine wpList_append_own _ rfl (.tmp 5) (.tmp 6) 26 rfl w.heap.size 27 i0 (.agg (U8 zeros32)) 32 32 Try.underlying26 hi hz0 hz1 hz2 rfl (by decide) (.slice (some ⟨w.heap.size, 0, none⟩) 0 0) 0 [] rfl (World.ownsRow_made w #[] 0 (Nat.le_refl _) (by unfold maxLen; omega) rfl) ad n cap ((cs.flatten).map (Value.int .u8)) rfl HEL.out HNEWS.out (fun u hu => by obtain ⟨x, _, rfl⟩ := List.mem_map.1 hu; rfl) (by unfold maxLen; omega) (by omega) (by simp) fun v' w1 ho' hg _ => ?_)
                 have hu : Upd [] w w1 := ((Upd.refl _ _).alloc _).grown hg (fun k hk => .inr (by simp [Value.ownBlock] at hk; omega))
                 have HO := Lib.hid ho'
                 have HU := Lib.hid hu
                 clear ho' hg hu)
    go_ret
    exact ⟨_, rfl, ChunksAt.of_own HO.out (by rw [HN.out]; omega) h32, fun g hg => HO.out.lt g hg, HU.out⟩

end Go.Proofs.Ytbdmnmjdnfpfbaa
