/- The walks of the digest's constants, and of bytes.Join of one part. -/
import Derived.Test.YtpeboaoephkfhaaShaB
import Derived.Test.YtpeboaoephkfhaaPush
namespace Go.Proofs.Ytpeboaoephkfhaa
open Go.ChangeShapes Go.WideShapes Go.ChangeAt Go.RowKit

def KK : List Int := [1116352408, 1899447441, 3049323471, 3921009573, 961987163, 1508970993, 2453635748, 2870763221, 3624381080, 310598401, 607225278, 1426881987, 1925078388, 2162078206, 2614888103, 3248222580, 3835390401, 4022224774, 264347078, 604807628, 770255983, 1249150122, 1555081692, 1996064986, 2554220882, 2821834349, 2952996808, 3210313671, 3336571891, 3584528711, 113926993, 338241895, 666307205, 773529912, 1294757372, 1396182291, 1695183700, 1986661051, 2177026350, 2456956037, 2730485921, 2820302411, 3259730800, 3345764771, 3516065817, 3600352804, 4094571909, 275423344, 430227734, 506948616, 659060556, 883997877, 958139571, 1322822218, 1537002063, 1747873779, 1955562222, 2024104815, 2227730452, 2361852424, 2428436474, 2756734187, 3204031479, 3329325298]
def HH : List Int := [1779033703, 3144134277, 1013904242, 2773480762, 1359893119, 2600822924, 528734635, 1541459225]
theorem KK_len : KK.length = 64 := rfl
theorem HH_len : HH.length = 8 := rfl

theorem info_64w : (Try.prog.info? 70).map (·.size) = some 64 := by kernel_rfl
theorem info_u8B : (Try.prog.info? 5).map (fun i => (i.zero, i.size, i.bytes)) = some (some (.int .u8 0), 1, 1) := by kernel_rfl

theorem results_64w {fn : Func} {p : Tmp} (h : fn.results = #[.cell p 70]) {tmps : Array Value} {w : World} {g : Nat} {T : TypeId} {l : List Int} (hp : tmps.getD p undef = .pointer (some ⟨g, 0, none⟩)) (hb : Blk w g (U32 l) T) (hl : l.length = 64) :
    (results fn tmps).run Try.prog w = .ok (.agg (U32 l)) w :=
  results_cell_row h tmps w g T (U32 l) (0, 0) _ hp hb Try.underlying70 rfl (by rw [info_64w, U32_size, hl])

set_option maxRecDepth 100000 in
set_option maxHeartbeats 1000000 in
theorem begun_any (w : World) : Calls Try.prog 32 #[] w fun e w' => e = .returned (.agg (U32 HH)) ∧ Upd [] w w' := by
  go_enter Try.func32, Try.ntmps32
  go_wp2_with (first
    | (refine wpList_alloc rfl 73 rfl zero_state fun w2 hb2 hu2 hs2 => ?_)
    | ((with_reducible show wpList _ _ _ (⟨some 1, _, _, _, _, _⟩ :: _) _ _); refine wpList_run rfl (exec_build8 rfl rfl rfl rfl rfl rfl rfl rfl rfl) ?_)
    | (refine wpList_storeA rfl 73 (.tmp 0) (.tmp 1) rfl rfl rfl hb2 info_state rfl rfl (U32_one _) fun w3 hb3 hu3 hs3 => ?_))
  exact bodyPost_ret (results_state rfl rfl hb3 HH_len) rfl ⟨rfl, hu2.then hu3 (by simp)⟩

set_option maxRecDepth 100000 in
set_option maxHeartbeats 4000000 in
theorem constants_any (w : World) : Calls Try.prog 31 #[] w fun e w' => e = .returned (.agg (U32 KK)) ∧ Upd [] w w' := by
  go_enter Try.func31, Try.ntmps31
  go_wp2_with (first
    | (refine wpList_alloc rfl 70 rfl zero_64w fun w2 hb2 hu2 hs2 => ?_)
    | (refine wpList_storeA rfl 70 (.tmp 0) (.tmp 1) rfl rfl (news := U32 KK) rfl hb2 info_64w rfl rfl (U32_one _) fun w3 hb3 hu3 hs3 => ?_))
  exact bodyPost_ret (results_64w rfl rfl hb3 KK_len) rfl ⟨rfl, hu2.then hu3 (by simp)⟩

end Go.Proofs.Ytpeboaoephkfhaa
