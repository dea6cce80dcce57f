/- What an insertion among chunks comes to. -/
import Derived.Test.YtiabjkihebhfkaaGreatGAN
import Derived.Test.YtiabjkihebhfkaaGreatAeL6
namespace Go.Ae.GB
def natRInsC : List AV → List Heap → Option Res := natIns 6 64
end Go.Ae.GB
