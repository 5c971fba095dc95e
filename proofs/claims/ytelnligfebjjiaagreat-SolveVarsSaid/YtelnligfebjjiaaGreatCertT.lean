/- Contracts: the reference's Feasible, Refuted, Check; certificates as arguments. Conditions: those ahead of each theorem. -/
import Derived.Test.YtelnligfebjjiaaGreatCertS
import Derived.Test.YtelnligfebjjiaaGreatArgs
import Derived.Test.YtelnligfebjjiaaGreatLaw19
namespace Go.Proofs.YtelnligfebjjiaaGreat
open Go Go.Cpl Go.ChangeShapes Go.WideShapes Go.ChangeAt Go.RowKit

theorem open17_c (c : Cfg) (u : Int) (hd : Bool) (hT : c.tenants.length ≤ 1000) : CallsH Tryz.prog 26 [probV c u hd] [] (.c (.gs 0)) [.arr 64 (r2 (openL c.tenants.length))] := by
  have hlT := rT_len c.tenants
  refine callsR_of tab mixed Tryz.func26 rfl (by decide) rfl rfl ?_
  conv => whnf
  refine loopN tab mixed (fun i => i ≤ c.tenants.length) c.tenants.length (fun i => [(4, I i), (3, .c (.gs 50))]) (fun i => [(50, .arr 64 (r2 (openL i)))]) 51 [(50, none)] (by omega) ?_
  conv => whnf
  refine ⟨?_, fun i hi => ?_⟩
  · repeat' (first | exact trivial | rfl | refine And.intro ?_ ?_)
    all_goals (conv => whnf)
    repeat' (first | exact trivial | rfl | refine And.intro ?_ ?_)
  conv => whnf
  have hol : (r2 (openL i)).length = i := by rw [r2_len]; simp [openL]
  refine spD (fun h => ?_) (fun h => ?_) <;> conv => whnf
  · have hi' : i < c.tenants.length := by omega
    refine ⟨row2 _ _ rfl rfl, ⟨by simp; omega⟩, ?_⟩
    conv => whnf
    refine gv (by first | omega | (simp only []; omega) | (simp; omega)) (by first | omega | (simp only []; omega) | (simp; omega)) ?_
    conv => whnf
    refine ⟨⟨hi', hi'⟩, [(50, some 52)], ?_⟩
    repeat' (first | exact trivial | rfl | refine And.intro ?_ ?_)
    all_goals (conv => whnf)
    repeat' (first | exact trivial | rfl | refine And.intro ?_ ?_)
    simp [openL, r2, List.replicate_succ']
  · have hi' : i = c.tenants.length := by omega
    refine ⟨[(0, some 50)], rfl, ?_⟩
    rw [hi']
    repeat' (first | exact trivial | rfl | refine And.intro ?_ ?_)
    all_goals (conv => whnf)
    repeat' (first | exact trivial | rfl | refine And.intro ?_ ?_)

end Go.Proofs.YtelnligfebjjiaaGreat
