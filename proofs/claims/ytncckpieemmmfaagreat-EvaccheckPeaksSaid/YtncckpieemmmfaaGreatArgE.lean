/- Arguments of the laws: plans read from the heap, and lists of plans. No conditions. -/
import Derived.Test.YtncckpieemmmfaaGreatEvU
namespace Go.Proofs.YtncckpieemmmfaaGreat
open Go Go.Cpl Go.ChangeShapes Go.WideShapes Go.ChangeAt Go.RowKit

abbrev Ev := Int × List Stp × List Int

def rEv (l : List Ev) : List (List D) := l.map fun e => [i64 e.1, .sl (rSt e.2.1), .sl (r1 e.2.2)]

theorem rEv_get {l : List Ev} {i : Nat} {e : Ev} (h : l[i]? = some e) : (rEv l)[i]? = some [i64 e.1, .sl (rSt e.2.1), .sl (r1 e.2.2)] := by simp [rEv, h]

theorem evs4 {b : Nat} (e1 e2 e3 e4 : Ev) (h1 : e1.2.1.length ≤ b) (h2 : e2.2.1.length ≤ b) (h3 : e3.2.1.length ≤ b) (h4 : e4.2.1.length ≤ b) :
    ∃ E : List Ev, rEv E = [[i64 e1.1, .sl (rSt e1.2.1), .sl (r1 e1.2.2)], [i64 e2.1, .sl (rSt e2.2.1), .sl (r1 e2.2.2)], [i64 e3.1, .sl (rSt e3.2.1), .sl (r1 e3.2.2)], [i64 e4.1, .sl (rSt e4.2.1), .sl (r1 e4.2.2)]] ∧ (rEv E).length = 4 ∧ E.length = 4 ∧ ∀ e ∈ E, e.2.1.length ≤ b :=
  ⟨[e1, e2, e3, e4], rfl, rfl, rfl, by simp [h1, h2, h3, h4]⟩

set_option maxRecDepth 100000 in
theorem rd_i : Rd Tryz.prog 3 (fun a : Int => [i64 a]) := rd_int Tryz.underlying3

set_option maxRecDepth 100000 in
theorem rd_ints : Rd Tryz.prog 22 (fun l : List Int => [.sl (r1 l)]) := rd_slice (s := 1) Tryz.underlying22 (by kernel_rfl) (by decide) (fun _ => rfl) rd_i

set_option maxRecDepth 100000 in
theorem rd_stp : Rd Tryz.prog 60 stD :=
  (rd_struct (L := [(3, 0, 1), (3, 1, 1), (3, 2, 1)]) (by kernel_rfl) rfl (rdF_cons rd_i (rdF_cons rd_i (rdF_cons rd_i rdF_nil)))).map (fun x => ⟨x.1, x.2.1, x.2.2.1⟩) fun _ => rfl

set_option maxRecDepth 100000 in
theorem rd_stps : Rd Tryz.prog 37 (fun l : List Stp => [.sl (rSt l)]) := rd_slice (s := 3) Tryz.underlying37 (by kernel_rfl) (by decide) (fun _ => rfl) rd_stp

set_option maxRecDepth 100000 in
theorem rd_evac : Rd Tryz.prog 39 (fun e : Ev => [i64 e.1, .sl (rSt e.2.1), .sl (r1 e.2.2)]) :=
  (rd_struct (L := [(3, 0, 1), (37, 1, 1), (22, 2, 1)]) (by kernel_rfl) rfl (rdF_cons rd_i (rdF_cons rd_stps (rdF_cons rd_ints rdF_nil)))).map (fun x => (x.1, x.2.1, x.2.2.1)) fun _ => rfl

set_option maxRecDepth 100000 in
theorem arg_evac {H : Type} {enc : TypeId × Value → H} {w : Go.World} {base : Nat} {spare : Nat → Bool} {held : Bool} {b0 : Nat} {r : Reach} {v : Value} {d : DataW H} {ps : List MemPlace} (hval : Value.okWide Tryz.prog w r b0 39 v) (hd : DataW.Trod enc Tryz.prog w base spare held 39 v d ps) :
    ∃ e : Ev, AVRep (memOf w) (fun _ => ⟨0, 0, 0, false⟩) (hpOf []) (evV e.1 e.2.1 e.2.2) v :=
  arg_agg (x := ([(3, 0, 1), (37, 1, 1), (22, 2, 1)], 3)) (by kernel_rfl) rd_evac hval hd _ _

end Go.Proofs.YtncckpieemmmfaaGreat
