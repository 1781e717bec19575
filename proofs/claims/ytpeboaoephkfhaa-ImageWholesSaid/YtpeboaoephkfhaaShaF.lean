/- Two digests, worked out by the kernel. -/
import Derived.Test.YtpeboaoephkfhaaShaE
namespace Go.Proofs.Ytpeboaoephkfhaa

def abc : List Int := [97, 98, 99]
set_option maxRecDepth 100000 in
theorem sum_abc : sumF abc = [186, 120, 22, 191, 143, 1, 207, 234, 65, 65, 64, 222, 93, 174, 34, 35, 176, 3, 97, 163, 150, 23, 122, 156, 180, 16, 255, 97, 242, 0, 21, 173] := by decide +kernel
set_option maxRecDepth 100000 in
theorem sum_000 : (sumF [0, 0, 0] == sumF abc) = false := by decide +kernel

end Go.Proofs.Ytpeboaoephkfhaa
