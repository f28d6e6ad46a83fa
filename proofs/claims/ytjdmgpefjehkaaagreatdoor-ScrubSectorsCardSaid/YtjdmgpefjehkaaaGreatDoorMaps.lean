/- Maps with integer keys at their block: the update and the look-up, as runs. -/
import Derived.Test.YtjdmgpefjehkaaaGreatDoorStrs
import Derived.Maps.OwnOps
import Derived.WideMake
import Derived.Carry
import Derived.Laws.EntriesVeiled
namespace Go.Proofs.YtjdmgpefjehkaaaGreatDoor
open Go.RowKit
open Go.Instr (findNow)

theorem run_func (fn : Fn) (first cap : Array Value) (w : World) : (Instr.makeFunc fn first cap).run Tryz.prog w = .ok (.func fn first cap) w := rfl
theorem run_mk (t : TypeId) (w : World) : (Instr.makeMap t none).run Tryz.prog w = .ok (.map (some w.heap.size)) (w.alloc (.map #[] 0)) := run_makeMap t w

theorem run_get {t kt et : TypeId} {ik : IntKind} (hm : Tryz.prog.underlying t = some (.map kt et)) (hk : Tryz.prog.underlying kt = some (.int ik)) {w : World} {r : Nat} {es : Array MapEntry} {ck : Nat} (hb : w.heap[r]? = some (.map es ck)) (n : Int) (i : Nat) (v : Value) (hf : findNow (.int ik) (.int ik n) es.toList 0 = some (some (i, v))) (c : Bool) :
    (Instr.lookup t (.map (some r)) (.int ik n) c).run Tryz.prog w = .ok (if c then .tuple #[v, .bool true] else v) w := by
  have hc : (Instr.checkKey es.isEmpty 10000 kt (.int ik n)).run Tryz.prog w = .ok () w := MapKept.run_checkKey (k := .int ik n) hk (by simp [MapKept.IsKey]) _ 9999
  simp [Instr.lookup, run_underlying hm, MapKept.run_getObj_map hb, hc, MapKept.run_findKey hk hf, Result.andThen]
theorem run_miss {t kt et : TypeId} {ik : IntKind} (hm : Tryz.prog.underlying t = some (.map kt et)) (hk : Tryz.prog.underlying kt = some (.int ik)) {w : World} {r : Nat} {es : Array MapEntry} {ck : Nat} (hb : w.heap[r]? = some (.map es ck)) (n : Int) {z : Value} (hz : (zeroValue et).run Tryz.prog w = .ok z w) (hf : findNow (.int ik) (.int ik n) es.toList 0 = some none) (c : Bool) :
    (Instr.lookup t (.map (some r)) (.int ik n) c).run Tryz.prog w = .ok (if c then .tuple #[z, .bool false] else z) w := by
  have hc : (Instr.checkKey es.isEmpty 10000 kt (.int ik n)).run Tryz.prog w = .ok () w := MapKept.run_checkKey (k := .int ik n) hk (by simp [MapKept.IsKey]) _ 9999
  simp [Instr.lookup, run_underlying hm, MapKept.run_getObj_map hb, hc, MapKept.run_findKey hk hf, Result.andThen, hz]
theorem run_add {t kt et : TypeId} {ik : IntKind} (hm : Tryz.prog.underlying t = some (.map kt et)) (hk : Tryz.prog.underlying kt = some (.int ik)) {w : World} {r : Nat} {es : Array MapEntry} {ck : Nat} (hb : w.heap[r]? = some (.map es ck)) (n : Int) (v : Value) (hf : findNow (.int ik) (.int ik n) es.toList 0 = some none) :
    (Instr.mapUpdate t (.map (some r)) (.int ik n) v).run Tryz.prog w = .ok () { w with heap := w.heap.setIfInBounds r (.map (es.push ⟨.int ik n, v, ck⟩) (ck + 1)) } := by
  have hc : (Instr.checkKey false 10000 kt (.int ik n)).run Tryz.prog w = .ok () w := MapKept.run_checkKey (k := .int ik n) hk (by simp [MapKept.IsKey]) _ 9999
  simp [Instr.mapUpdate, run_underlying hm, MapKept.run_getObj_map hb, hc, MapKept.run_findKey hk hf, MapKept.run_setObj_map _ hb, Result.andThen]
theorem run_upd {t kt et : TypeId} {ik : IntKind} (hm : Tryz.prog.underlying t = some (.map kt et)) (hk : Tryz.prog.underlying kt = some (.int ik)) {w : World} {r : Nat} {es : Array MapEntry} {ck : Nat} (hb : w.heap[r]? = some (.map es ck)) (n : Int) (v : Value) (i : Nat) (old : Value) (hf : findNow (.int ik) (.int ik n) es.toList 0 = some (some (i, old))) (hi : (es[i]?).map (·.key) = some (.int ik n)) :
    (Instr.mapUpdate t (.map (some r)) (.int ik n) v).run Tryz.prog w = .ok () { w with heap := w.heap.setIfInBounds r (.map (es.modify i fun e => { e with key := .int ik n, val := v }) ck) } := by
  have hc : (Instr.checkKey false 10000 kt (.int ik n)).run Tryz.prog w = .ok () w := MapKept.run_checkKey (k := .int ik n) hk (by simp [MapKept.IsKey]) _ 9999
  have hs : (Instr.keyThatStays (.int ik n) (.int ik n)).run Tryz.prog w = .ok (.int ik n) w := by
    simp [Instr.keyThatStays, Instr.sameBits]
  simp [Instr.mapUpdate, run_underlying hm, MapKept.run_getObj_map hb, hc, MapKept.run_findKey hk hf, MapKept.run_setObj_map _ hb, Result.andThen, hi, hs]

/-- A look-up at the operation, by its run. -/
theorem wpList_look {w : World} {ops : Array Oper} {rest : List Oper} {o : Oper} {a : Act} {Q : Exit → Act → World → Prop} (hg : o.guard = none) (m x : Operand) (t : TypeId) (c : Bool) (hop : o.op = Op.lookup t m x c) {mv xv v : Value} (hm : a.eval m = mv) (hx : a.eval x = xv)
    (hrun : (Instr.lookup t mv xv c).run Tryz.prog w = .ok v w) (hK : wpList Tryz.prog ops Q rest (a.put o.dst v) w) : wpList Tryz.prog ops Q (o :: rest) a w := by
  refine wpList_plain hg fun K' hK' => ?_
  unfold Oper.wp
  simp [execOp, hop, hm, hx, hrun, Result.andThen]
  exact hK' _ _ hK
end Go.Proofs.YtjdmgpefjehkaaaGreatDoor
