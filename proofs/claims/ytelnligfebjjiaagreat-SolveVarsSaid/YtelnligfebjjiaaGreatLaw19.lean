/- Contracts: laws of chapter 19 return true at every input. No conditions. -/
import Derived.Test.YtelnligfebjjiaaGreatCertF
namespace Go.Proofs.YtelnligfebjjiaaGreat
open Go Go.Cpl

def oneC (n : Int) : Cfg := ⟨1, [0], [(0, 9)], [⟨n, 0, 0, 0, 1, 0, false⟩], [(0, 0)], [0], [0], 1, 5, 0⟩

def nd1 : Nd := ⟨3, 0, 1, brk0⟩

theorem treeOK_nil : TreeOK [] := ⟨by simp, by simp⟩

end Go.Proofs.YtelnligfebjjiaaGreat
