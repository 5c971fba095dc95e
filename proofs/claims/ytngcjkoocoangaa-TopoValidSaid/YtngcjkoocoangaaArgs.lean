/- Arguments of the laws: configurations read from the heap. No conditions. -/
import Derived.Test.YtngcjkoocoangaaBase
import Derived.Test.YtngcjkoocoangaaCplZ
namespace Go.Proofs.Ytngcjkoocoangaa
open Go Go.Cpl Go.ChangeShapes Go.WideShapes Go.ChangeAt Go.RowKit

theorem rd_i : Rd Try.prog 3 (fun a : Int => [i64 a]) := rd_int Try.underlying3
theorem rd_b : Rd Try.prog 4 (fun a : Bool => [.bool a]) := rd_bool Try.underlying4
theorem rd_ints : Rd Try.prog 26 (fun l : List Int => [.sl (r1 l)]) := rd_slice (s := 1) Try.underlying26 (by kernel_rfl) (by decide) (fun _ => rfl) rd_i
theorem rd_zone : Rd Try.prog 48 (fun a : Int => [i64 a]) :=
  (rd_struct (L := [(3, 0, 1)]) (by kernel_rfl) rfl (rdF_cons rd_i rdF_nil)).map (fun x => x.1) fun _ => rfl
theorem rd_cell : Rd Try.prog 50 (fun a : Int × Int => [i64 a.1, i64 a.2]) :=
  (rd_struct (L := [(3, 0, 1), (3, 1, 1)]) (by kernel_rfl) rfl (rdF_cons rd_i (rdF_cons rd_i rdF_nil))).map (fun x => (x.1, x.2.1)) fun _ => rfl
theorem rd_version : Rd Try.prog 59 (fun a : Int × Int => [i64 a.1, i64 a.2]) :=
  (rd_struct (L := [(3, 0, 1), (3, 1, 1)]) (by kernel_rfl) rfl (rdF_cons rd_i (rdF_cons rd_i rdF_nil))).map (fun x => (x.1, x.2.1)) fun _ => rfl
theorem rd_tenant : Rd Try.prog 57 (fun x : Tenant => [i64 x.load, i64 x.shadow, i64 x.priority, i64 x.lag, i64 x.allowed, i64 x.group, .bool x.noisy]) :=
  (rd_struct (L := [(3, 0, 1), (3, 1, 1), (3, 2, 1), (3, 3, 1), (3, 4, 1), (3, 5, 1), (4, 6, 1)]) (by kernel_rfl) rfl
    (rdF_cons rd_i (rdF_cons rd_i (rdF_cons rd_i (rdF_cons rd_i (rdF_cons rd_i (rdF_cons rd_i (rdF_cons rd_b rdF_nil)))))))).map
    (fun x => ⟨x.1, x.2.1, x.2.2.1, x.2.2.2.1, x.2.2.2.2.1, x.2.2.2.2.2.1, x.2.2.2.2.2.2.1⟩) fun _ => rfl
theorem rd_zones : Rd Try.prog 22 (fun l : List Int => [.sl (r1 l)]) := rd_slice (s := 1) Try.underlying22 (by kernel_rfl) (by decide) (fun _ => rfl) rd_zone
theorem rd_cells : Rd Try.prog 23 (fun l : List (Int × Int) => [.sl (r2 l)]) := rd_slice (s := 2) Try.underlying23 (by kernel_rfl) (by decide) (fun _ => rfl) rd_cell
theorem rd_versions : Rd Try.prog 25 (fun l : List (Int × Int) => [.sl (r2 l)]) := rd_slice (s := 2) Try.underlying25 (by kernel_rfl) (by decide) (fun _ => rfl) rd_version
theorem rd_tenants : Rd Try.prog 24 (fun l : List Tenant => [.sl (rT l)]) := rd_slice (s := 7) Try.underlying24 (by kernel_rfl) (by decide) (fun _ => rfl) rd_tenant

def cfgD (c : Cfg) : List D := [i64 c.regions, .sl (r1 c.zones), .sl (r2 c.cells), .sl (rT c.tenants), .sl (r2 c.versions), .sl (r1 c.replicas), .sl (r1 c.observers), i64 c.blast, i64 c.lease, i64 c.bake]

theorem rd_cfg : Rd Try.prog 28 cfgD :=
  (rd_struct (L := [(3, 0, 1), (22, 1, 1), (23, 2, 1), (24, 3, 1), (25, 4, 1), (26, 5, 1), (26, 6, 1), (3, 7, 1), (3, 8, 1), (3, 9, 1)]) (by kernel_rfl) rfl
    (rdF_cons rd_i (rdF_cons rd_zones (rdF_cons rd_cells (rdF_cons rd_tenants (rdF_cons rd_versions (rdF_cons rd_ints (rdF_cons rd_ints (rdF_cons rd_i (rdF_cons rd_i (rdF_cons rd_i rdF_nil))))))))))).map
    (fun x => ⟨x.1, x.2.1, x.2.2.1, x.2.2.2.1, x.2.2.2.2.1, x.2.2.2.2.2.1, x.2.2.2.2.2.2.1, x.2.2.2.2.2.2.2.1, x.2.2.2.2.2.2.2.2.1, x.2.2.2.2.2.2.2.2.2.1⟩) fun _ => rfl

theorem arg_cfg {H : Type} {enc : TypeId × Value → H} {w : World} {base : Nat} {spare : Nat → Bool} {held : Bool} {b0 : Nat} {r : Reach} {v : Value} {d : DataW H} {ps : List MemPlace} (hval : Value.okWide Try.prog w r b0 28 v) (hd : DataW.Trod enc Try.prog w base spare held 28 v d ps) :
    ∃ c : Cfg, AVRep (memOf w) (fun _ => ⟨0, 0, 0, false⟩) (hpOf []) (cfgV c) v :=
  arg_agg (x := ([(3, 0, 1), (22, 1, 1), (23, 2, 1), (24, 3, 1), (25, 4, 1), (26, 5, 1), (26, 6, 1), (3, 7, 1), (3, 8, 1), (3, 9, 1)], 10)) (by kernel_rfl) rd_cfg hval hd _ _

end Go.Proofs.Ytngcjkoocoangaa
