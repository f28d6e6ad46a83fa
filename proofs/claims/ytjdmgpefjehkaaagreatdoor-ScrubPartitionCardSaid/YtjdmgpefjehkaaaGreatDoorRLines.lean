/- dasdref15.Lines returns the report. -/
import Derived.Test.YtjdmgpefjehkaaaGreatDoorStrs
import Derived.Deep.RegionHeld3
namespace Go.Proofs.YtjdmgpefjehkaaaGreatDoor
open Go.RowKit
attribute [local go_sem] Instr.field asAgg
set_option maxRecDepth 100000

structure ScrubOk (w : World) (x : Scrub) (A2 A3 A4 : Option Addr) : Prop where
  free : I64 x.free
  used : I64 x.used
  tent : Refs w A2 x.tent
  shared : Ints w A3 x.shared
  bad : Bads w A4 x.bad
theorem ScrubOk.ext {w w' : World} {x : Scrub} {A2 A3 A4 : Option Addr} (h : ScrubOk w x A2 A3 A4) (k : Ext w w') : ScrubOk w' x A2 A3 A4 := ⟨h.free, h.used, h.tent.ext k, h.shared.ext k, h.bad.ext k⟩

theorem map_take {α β : Type} (f : α → β) (l : List α) (k : Nat) (h : k < l.length) : (l.take (k + 1)).map f = (l.take k).map f ++ [f l[k]] := by
  rw [List.take_succ_eq_append_getElem h, List.map_append]; rfl
theorem own_ext {w w' : World} {base : Nat} {e : TypeId} {size n : Nat} {v : Value} {xs : List Value} (h : w.ownsRow base e size v n xs) (k : Ext w w') : w'.ownsRow base e size v n xs :=
  h.kept (row := none) ⟨k.os, k.tape, k.output, k.size, fun i hi _ => k.block i hi⟩ (by cases v.ownBlock <;> simp)

theorem neqR (a b c d : Int) (w : World) : (binOp .neq 40 (.agg #[.int .i64 a, .int .i64 b]) (.agg #[.int .i64 c, .int .i64 d])).run Tryz.prog w = .ok (.bool (!(a == c && b == d))) w := by
  have hu := Tryz.underlying40
  simp [go_sem, Op.eqFields, hu, Program.fieldsOf]
  cases h : (a == c) <;> cases h2 : (b == d) <;> simp_all

theorem cutD : (⟨#[58, 32, 100, 97, 109, 97, 103, 101, 100]⟩ : ByteArray) = bColon ++ bDamaged := (mk_append [58, 32] [100, 97, 109, 97, 103, 101, 100]).symm
theorem cutO : (⟨#[58, 32, 111, 108, 100]⟩ : ByteArray) = bColon ++ bOld := (mk_append [58, 32] [111, 108, 100]).symm
theorem cutE : (⟨#[58, 32, 101, 114, 114, 111, 114, 32]⟩ : ByteArray) = bColon ++ bError := (mk_append [58, 32] [101, 114, 114, 111, 114, 32]).symm
theorem nil_app (a : ByteArray) : (⟨#[]⟩ : ByteArray) ++ a = a := by
  apply ByteArray.ext
  rw [ByteArray.data_append]
  simp
theorem app_nil (a : ByteArray) : a ++ (⟨#[]⟩ : ByteArray) = a := by
  apply ByteArray.ext
  rw [ByteArray.data_append]
  simp
theorem own_str {W : World} {base : Nat} {v : Value} {n : Nat} {xs : List Value} {S S' : ByteArray} (h : W.ownsRow base 9 1 v n (xs ++ [.string S])) (hS : S = S') : W.ownsRow base 9 1 v n (xs ++ [.string S']) := hS ▸ h

end Go.Proofs.YtjdmgpefjehkaaaGreatDoor
