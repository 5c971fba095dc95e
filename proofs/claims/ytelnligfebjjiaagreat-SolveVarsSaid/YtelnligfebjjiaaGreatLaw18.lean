/- Contracts: laws of chapter 18 return true at every input. No conditions. -/
import Derived.Test.YtelnligfebjjiaaGreatBoundR
namespace Go.Proofs.YtelnligfebjjiaaGreat
open Go Go.Cpl

theorem Made.fit {c : Cfg} (hm : Made c) (more : List Int) : Fit c (pl more c c.tenants.length) := by
  have := hm.cells
  have := hm.zones
  have := hm.regions
  exact ⟨hm.valid5, pl_len more c _, pl_rng more c (by omega) _⟩

theorem Made.places {c : Cfg} (hm : Made c) (more : List Int) : CallsH Tryz.prog 22 [.c (.d (.sl (r1 more))), cfgV c] [] (plV (pl more c c.tenants.length)) [] := by
  have := hm.cells
  have := hm.zones
  have := hm.regions
  have := hm.tenants
  exact (mkPlaces_c more c hm.laid (by omega) (by omega)).frozen

end Go.Proofs.YtelnligfebjjiaaGreat
