/- Arguments of the laws: configurations read from the heap. No conditions. -/
import Derived.Test.YtladepmfgbfkpaaBase
import Derived.Test.YtladepmfgbfkpaaCplZ
namespace Go.Proofs.Ytladepmfgbfkpaa
open Go Go.Cpl Go.ChangeShapes Go.WideShapes Go.ChangeAt Go.RowKit

set_option maxRecDepth 100000 in
theorem rd_i : Rd Try.prog 3 (fun a : Int => [i64 a]) := rd_int Try.underlying3

set_option maxRecDepth 100000 in
theorem rd_b : Rd Try.prog 4 (fun a : Bool => [.bool a]) := rd_bool Try.underlying4

set_option maxRecDepth 100000 in
theorem rd_ints : Rd Try.prog 22 (fun l : List Int => [.sl (r1 l)]) := rd_slice (s := 1) Try.underlying22 (by kernel_rfl) (by decide) (fun _ => rfl) rd_i

set_option maxRecDepth 100000 in
theorem rd_zone : Rd Try.prog 69 (fun a : Int => [i64 a]) :=
  (rd_struct (L := [(3, 0, 1)]) (by kernel_rfl) rfl (rdF_cons rd_i rdF_nil)).map (fun x => x.1) fun _ => rfl

set_option maxRecDepth 100000 in
theorem rd_cell : Rd Try.prog 67 (fun a : Int × Int => [i64 a.1, i64 a.2]) :=
  (rd_struct (L := [(3, 0, 1), (3, 1, 1)]) (by kernel_rfl) rfl (rdF_cons rd_i (rdF_cons rd_i rdF_nil))).map (fun x => (x.1, x.2.1)) fun _ => rfl

set_option maxRecDepth 100000 in
theorem rd_version : Rd Try.prog 82 (fun a : Int × Int => [i64 a.1, i64 a.2]) :=
  (rd_struct (L := [(3, 0, 1), (3, 1, 1)]) (by kernel_rfl) rfl (rdF_cons rd_i (rdF_cons rd_i rdF_nil))).map (fun x => (x.1, x.2.1)) fun _ => rfl

set_option maxRecDepth 100000 in
theorem rd_tenant : Rd Try.prog 80 (fun x : Tenant => [i64 x.load, i64 x.shadow, i64 x.priority, i64 x.lag, i64 x.allowed, i64 x.group, .bool x.noisy]) :=
  (rd_struct (L := [(3, 0, 1), (3, 1, 1), (3, 2, 1), (3, 3, 1), (3, 4, 1), (3, 5, 1), (4, 6, 1)]) (by kernel_rfl) rfl
    (rdF_cons rd_i (rdF_cons rd_i (rdF_cons rd_i (rdF_cons rd_i (rdF_cons rd_i (rdF_cons rd_i (rdF_cons rd_b rdF_nil)))))))).map
    (fun x => ⟨x.1, x.2.1, x.2.2.1, x.2.2.2.1, x.2.2.2.2.1, x.2.2.2.2.2.1, x.2.2.2.2.2.2.1⟩) fun _ => rfl

set_option maxRecDepth 100000 in
theorem rd_zones : Rd Try.prog 29 (fun l : List Int => [.sl (r1 l)]) := rd_slice (s := 1) Try.underlying29 (by kernel_rfl) (by decide) (fun _ => rfl) rd_zone

set_option maxRecDepth 100000 in
theorem rd_cells : Rd Try.prog 30 (fun l : List (Int × Int) => [.sl (r2 l)]) := rd_slice (s := 2) Try.underlying30 (by kernel_rfl) (by decide) (fun _ => rfl) rd_cell

set_option maxRecDepth 100000 in
theorem rd_versions : Rd Try.prog 32 (fun l : List (Int × Int) => [.sl (r2 l)]) := rd_slice (s := 2) Try.underlying32 (by kernel_rfl) (by decide) (fun _ => rfl) rd_version

set_option maxRecDepth 100000 in
theorem rd_tenants : Rd Try.prog 31 (fun l : List Tenant => [.sl (rT l)]) := rd_slice (s := 7) Try.underlying31 (by kernel_rfl) (by decide) (fun _ => rfl) rd_tenant

def cfgD (c : Cfg) : List D := [i64 c.regions, .sl (r1 c.zones), .sl (r2 c.cells), .sl (rT c.tenants), .sl (r2 c.versions), .sl (r1 c.replicas), .sl (r1 c.observers), i64 c.blast, i64 c.lease, i64 c.bake]

set_option maxRecDepth 100000 in
theorem rd_cfg : Rd Try.prog 34 cfgD :=
  (rd_struct (L := [(3, 0, 1), (29, 1, 1), (30, 2, 1), (31, 3, 1), (32, 4, 1), (22, 5, 1), (22, 6, 1), (3, 7, 1), (3, 8, 1), (3, 9, 1)]) (by kernel_rfl) rfl
    (rdF_cons rd_i (rdF_cons rd_zones (rdF_cons rd_cells (rdF_cons rd_tenants (rdF_cons rd_versions (rdF_cons rd_ints (rdF_cons rd_ints (rdF_cons rd_i (rdF_cons rd_i (rdF_cons rd_i rdF_nil))))))))))).map
    (fun x => ⟨x.1, x.2.1, x.2.2.1, x.2.2.2.1, x.2.2.2.2.1, x.2.2.2.2.2.1, x.2.2.2.2.2.2.1, x.2.2.2.2.2.2.2.1, x.2.2.2.2.2.2.2.2.1, x.2.2.2.2.2.2.2.2.2.1⟩) fun _ => rfl

set_option maxRecDepth 100000 in
theorem arg_cfg {H : Type} {enc : TypeId × Value → H} {w : World} {base : Nat} {spare : Nat → Bool} {held : Bool} {b0 : Nat} {r : Reach} {v : Value} {d : DataW H} {ps : List MemPlace} (hval : Value.okWide Try.prog w r b0 34 v) (hd : DataW.Trod enc Try.prog w base spare held 34 v d ps) :
    ∃ c : Cfg, AVRep (memOf w) (fun _ => ⟨0, 0, 0, false⟩) (hpOf []) (cfgV c) v :=
  arg_agg (x := ([(3, 0, 1), (29, 1, 1), (30, 2, 1), (31, 3, 1), (32, 4, 1), (22, 5, 1), (22, 6, 1), (3, 7, 1), (3, 8, 1), (3, 9, 1)], 10)) (by kernel_rfl) rd_cfg hval hd _ _

def probD (x : Cfg × Int × Bool) : List D := [i64 x.1.regions, .sl (r1 x.1.zones), .sl (r2 x.1.cells), .sl (rT x.1.tenants), .sl (r2 x.1.versions), .sl (r1 x.1.replicas), .sl (r1 x.1.observers), i64 x.1.blast, i64 x.1.lease, i64 x.1.bake, i64 x.2.1, .bool x.2.2]

set_option maxRecDepth 100000 in
theorem rd_pol : Rd Try.prog 24 (fun a : Int × Int => [i64 a.1, i64 a.2]) :=
  (rd_struct (L := [(3, 0, 1), (3, 1, 1)]) (by kernel_rfl) rfl (rdF_cons rd_i (rdF_cons rd_i rdF_nil))).map (fun x => (x.1, x.2.1)) fun _ => rfl

set_option maxRecDepth 100000 in
theorem arg_pol {H : Type} {enc : TypeId × Value → H} {w : World} {base : Nat} {spare : Nat → Bool} {held : Bool} {b0 : Nat} {r : Reach} {v : Value} {d : DataW H} {ps : List MemPlace} (hval : Value.okWide Try.prog w r b0 24 v) (hd : DataW.Trod enc Try.prog w base spare held 24 v d ps) :
    ∃ x : Int × Int, AVRep (memOf w) (fun _ => ⟨0, 0, 0, false⟩) (hpOf []) (.agg [.d (i64 x.1), .d (i64 x.2)]) v :=
  arg_agg (x := ([(3, 0, 1), (3, 1, 1)], 2)) (by kernel_rfl) rd_pol hval hd _ _

def rS (l : List (Int × Int × Int × Int × Bool)) : List (List D) := l.map fun x => [i64 x.1, i64 x.2.1, i64 x.2.2.1, i64 x.2.2.2.1, .bool x.2.2.2.2]

set_option maxRecDepth 100000 in
theorem rd_rep : Rd Try.prog 45 (fun x : Int × Int × Int × Bool => [i64 x.1, i64 x.2.1, i64 x.2.2.1, .bool x.2.2.2]) :=
  (rd_struct (L := [(3, 0, 1), (3, 1, 1), (3, 2, 1), (4, 3, 1)]) (by kernel_rfl) rfl (rdF_cons rd_i (rdF_cons rd_i (rdF_cons rd_i (rdF_cons rd_b rdF_nil))))).map (fun x => (x.1, x.2.1, x.2.2.1, x.2.2.2.1)) fun _ => rfl

set_option maxRecDepth 100000 in
theorem rd_step : Rd Try.prog 47 (fun x : Int × Int × Int × Int × Bool => [i64 x.1, i64 x.2.1, i64 x.2.2.1, i64 x.2.2.2.1, .bool x.2.2.2.2]) :=
  (rd_struct (L := [(3, 0, 1), (45, 1, 4)]) (by kernel_rfl) rfl (rdF_cons rd_i (rdF_cons rd_rep rdF_nil))).map (fun x => (x.1, x.2.1.1, x.2.1.2.1, x.2.1.2.2.1, x.2.1.2.2.2)) fun _ => rfl

set_option maxRecDepth 100000 in
theorem arg_steps {H : Type} {enc : TypeId × Value → H} {w : World} {base : Nat} {spare : Nat → Bool} {held : Bool} {b0 : Nat} {r : Reach} {v : Value} {d : DataW H} {ps : List MemPlace} (hval : Value.okWide Try.prog w r b0 25 v) (hd : DataW.Trod enc Try.prog w base spare held 25 v d ps) :
    ∃ l : List (Int × Int × Int × Int × Bool), DRep (memOf w) (.sl (rS l)) v :=
  arg_rows (s := 5) Try.underlying25 (by kernel_rfl) (by decide) (fun _ => rfl) rd_step hval hd

end Go.Proofs.Ytladepmfgbfkpaa
