/- Arguments of the laws: configurations read from the heap. No conditions. -/
import Derived.Test.YtelnligfebjjiaaGreatBase
import Derived.Test.YtelnligfebjjiaaGreatCplZ
namespace Go.Proofs.YtelnligfebjjiaaGreat
open Go Go.Cpl Go.ChangeShapes Go.WideShapes Go.ChangeAt Go.RowKit

set_option maxRecDepth 100000 in
theorem rd_i : Rd Tryz.prog 3 (fun a : Int => [i64 a]) := rd_int Tryz.underlying3

set_option maxRecDepth 100000 in
theorem rd_b : Rd Tryz.prog 4 (fun a : Bool => [.bool a]) := rd_bool Tryz.underlying4

set_option maxRecDepth 100000 in
theorem rd_ints : Rd Tryz.prog 22 (fun l : List Int => [.sl (r1 l)]) := rd_slice (s := 1) Tryz.underlying22 (by kernel_rfl) (by decide) (fun _ => rfl) rd_i

set_option maxRecDepth 100000 in
theorem rd_zone : Rd Tryz.prog 88 (fun a : Int => [i64 a]) :=
  (rd_struct (L := [(3, 0, 1)]) (by kernel_rfl) rfl (rdF_cons rd_i rdF_nil)).map (fun x => x.1) fun _ => rfl

set_option maxRecDepth 100000 in
theorem rd_cell : Rd Tryz.prog 90 (fun a : Int × Int => [i64 a.1, i64 a.2]) :=
  (rd_struct (L := [(3, 0, 1), (3, 1, 1)]) (by kernel_rfl) rfl (rdF_cons rd_i (rdF_cons rd_i rdF_nil))).map (fun x => (x.1, x.2.1)) fun _ => rfl

set_option maxRecDepth 100000 in
theorem rd_version : Rd Tryz.prog 92 (fun a : Int × Int => [i64 a.1, i64 a.2]) :=
  (rd_struct (L := [(3, 0, 1), (3, 1, 1)]) (by kernel_rfl) rfl (rdF_cons rd_i (rdF_cons rd_i rdF_nil))).map (fun x => (x.1, x.2.1)) fun _ => rfl

set_option maxRecDepth 100000 in
theorem rd_tenant : Rd Tryz.prog 94 (fun x : Tenant => [i64 x.load, i64 x.shadow, i64 x.priority, i64 x.lag, i64 x.allowed, i64 x.group, .bool x.noisy]) :=
  (rd_struct (L := [(3, 0, 1), (3, 1, 1), (3, 2, 1), (3, 3, 1), (3, 4, 1), (3, 5, 1), (4, 6, 1)]) (by kernel_rfl) rfl
    (rdF_cons rd_i (rdF_cons rd_i (rdF_cons rd_i (rdF_cons rd_i (rdF_cons rd_i (rdF_cons rd_i (rdF_cons rd_b rdF_nil)))))))).map
    (fun x => ⟨x.1, x.2.1, x.2.2.1, x.2.2.2.1, x.2.2.2.2.1, x.2.2.2.2.2.1, x.2.2.2.2.2.2.1⟩) fun _ => rfl

set_option maxRecDepth 100000 in
theorem rd_zones : Rd Tryz.prog 30 (fun l : List Int => [.sl (r1 l)]) := rd_slice (s := 1) Tryz.underlying30 (by kernel_rfl) (by decide) (fun _ => rfl) rd_zone

set_option maxRecDepth 100000 in
theorem rd_cells : Rd Tryz.prog 31 (fun l : List (Int × Int) => [.sl (r2 l)]) := rd_slice (s := 2) Tryz.underlying31 (by kernel_rfl) (by decide) (fun _ => rfl) rd_cell

set_option maxRecDepth 100000 in
theorem rd_versions : Rd Tryz.prog 33 (fun l : List (Int × Int) => [.sl (r2 l)]) := rd_slice (s := 2) Tryz.underlying33 (by kernel_rfl) (by decide) (fun _ => rfl) rd_version

set_option maxRecDepth 100000 in
theorem rd_tenants : Rd Tryz.prog 32 (fun l : List Tenant => [.sl (rT l)]) := rd_slice (s := 7) Tryz.underlying32 (by kernel_rfl) (by decide) (fun _ => rfl) rd_tenant

def cfgD (c : Cfg) : List D := [i64 c.regions, .sl (r1 c.zones), .sl (r2 c.cells), .sl (rT c.tenants), .sl (r2 c.versions), .sl (r1 c.replicas), .sl (r1 c.observers), i64 c.blast, i64 c.lease, i64 c.bake]

set_option maxRecDepth 100000 in
theorem rd_cfg : Rd Tryz.prog 35 cfgD :=
  (rd_struct (L := [(3, 0, 1), (30, 1, 1), (31, 2, 1), (32, 3, 1), (33, 4, 1), (22, 5, 1), (22, 6, 1), (3, 7, 1), (3, 8, 1), (3, 9, 1)]) (by kernel_rfl) rfl
    (rdF_cons rd_i (rdF_cons rd_zones (rdF_cons rd_cells (rdF_cons rd_tenants (rdF_cons rd_versions (rdF_cons rd_ints (rdF_cons rd_ints (rdF_cons rd_i (rdF_cons rd_i (rdF_cons rd_i rdF_nil))))))))))).map
    (fun x => ⟨x.1, x.2.1, x.2.2.1, x.2.2.2.1, x.2.2.2.2.1, x.2.2.2.2.2.1, x.2.2.2.2.2.2.1, x.2.2.2.2.2.2.2.1, x.2.2.2.2.2.2.2.2.1, x.2.2.2.2.2.2.2.2.2.1⟩) fun _ => rfl

set_option maxRecDepth 100000 in
theorem arg_cfg {H : Type} {enc : TypeId × Value → H} {w : World} {base : Nat} {spare : Nat → Bool} {held : Bool} {b0 : Nat} {r : Reach} {v : Value} {d : DataW H} {ps : List MemPlace} (hval : Value.okWide Tryz.prog w r b0 35 v) (hd : DataW.Trod enc Tryz.prog w base spare held 35 v d ps) :
    ∃ c : Cfg, AVRep (memOf w) (fun _ => ⟨0, 0, 0, false⟩) (hpOf []) (cfgV c) v :=
  arg_agg (x := ([(3, 0, 1), (30, 1, 1), (31, 2, 1), (32, 3, 1), (33, 4, 1), (22, 5, 1), (22, 6, 1), (3, 7, 1), (3, 8, 1), (3, 9, 1)], 10)) (by kernel_rfl) rd_cfg hval hd _ _

end Go.Proofs.YtelnligfebjjiaaGreat
