/- scrub.Clean. -/
import Derived.Test.YtjdmgpefjehkaaaGreatDoorRLines
namespace Go.Proofs.YtjdmgpefjehkaaaGreatDoor
open Go.RowKit
attribute [local go_sem] Instr.field asAgg
set_option maxRecDepth 100000

theorem p_Clean (f u : Int) (s2 s3 s4 : Option Addr) (l2 c2 l3 c3 l4 c4 : Nat) (h3 : (l3 : Int) ≤ 8796093022208) (h4 : (l4 : Int) ≤ 8796093022208) (w : World) :
    Calls Tryz.prog 15 #[.agg #[.int .i64 f, .int .i64 u, .slice s2 l2 c2, .slice s3 l3 c3, .slice s4 l4 c4]] w fun e w' => e = .returned (.bool ((l3 : Int) + l4 == 0)) ∧ Ext w w' := by
  have hu := Tryz.underlying29
  go_enter Tryz.func15, Tryz.ntmps15
  go_wp2
  go_ret
  exact ⟨rfl, (Ext.refl _).alloc _⟩
end Go.Proofs.YtjdmgpefjehkaaaGreatDoor
