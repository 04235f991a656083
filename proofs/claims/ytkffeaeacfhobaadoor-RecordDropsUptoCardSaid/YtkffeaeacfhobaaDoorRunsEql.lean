/- a failure is itself. -/
import Derived.Test.YtkffeaeacfhobaaDoorRunsSpec
import Derived.LaidEql
namespace Go.Proofs.YtkffeaeacfhobaaDoor
open Go.RowKit
theorem tES_comp : (Tryd.prog.info? tES).map (fun i => i.comparable) = some true := by kernel_rfl
theorem tE_size : (Tryd.prog.info? 181).map (fun i => i.size) = some 1 := by kernel_rfl
theorem eql_same (a : Addr) (wz : World) : (binOp .eql tErr (.iface tES (.pointer (some a))) (.iface tES (.pointer (some a)))).run Tryd.prog wz = .ok (.bool true) wz := by
  obtain ⟨i, hi, hc⟩ := Option.map_eq_some_iff.1 tES_comp
  obtain ⟨j, hj, _⟩ := Option.map_eq_some_iff.1 tE_size
  exact run_eql_iface_ptr_same wz a Tryd.underlying25 Tryd.underlying167 hi hc hj
end Go.Proofs.YtkffeaeacfhobaaDoor
