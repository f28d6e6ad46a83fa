/- Lists of strings: dasdref10.Same; the report's lines as plain data; the table that Itoa reads; Itoa. -/
import Derived.Test.YtjdmgpefjehkaaaGreatDoorNum
import Derived.Test.YtjdmgpefjehkaaaGreatDoorShelf
import Derived.Test.YtjdmgpefjehkaaaGreatDoorRef05
import Derived.Test.YtjdmgpefjehkaaaGreatDoorCmp
import Derived.WalkSmall
namespace Go.Proofs.YtjdmgpefjehkaaaGreatDoor
open Go.RowKit
attribute [local go_sem] Instr.field asAgg
set_option maxRecDepth 100000

theorem str_info : (Tryz.prog.info? 9).map (fun i => (i.zero, i.size, i.bytes)) = some (some (.string ⟨#[]⟩), 1, 16) := by kernel_rfl
def strCells (l : List ByteArray) : List Value := l.map .string
theorem strCells_snoc (l : List ByteArray) (x : ByteArray) : strCells l ++ [.string x] = strCells (l ++ [x]) := by simp [strCells]
structure Strs (w : World) (A : Option Addr) (l : List ByteArray) : Prop where
  sl : Sl w A (strCells l)
  len : (l.length : Int) ≤ 8796093022208
theorem Strs.ext {w w' : World} {A : Option Addr} {l : List ByteArray} (h : Strs w A l) (k : Ext w w') : Strs w' A l := ⟨h.sl.ext k, h.len⟩
theorem Strs.at_ {w : World} {A : Option Addr} {l : List ByteArray} (h : Strs w A l) {i : Nat} (hi : i < l.length) : ∃ b o, A = some ⟨b, o, none⟩ ∧ w.cell? ⟨b, o + i, none⟩ = some (.string l[i]) := by
  obtain ⟨b, o, e, hc⟩ := h.sl (by intro hn; have : (strCells l).length = l.length := by simp [strCells]
                                   rw [hn] at this; simp at this; omega)
  exact ⟨b, o, e, hc i _ (by simp [strCells, hi])⟩

theorem toList_inj {a b : ByteArray} (h : a.toList = b.toList) : a = b := by
  rw [ByteArray.toList_eq, ByteArray.toList_eq] at h
  obtain ⟨⟨x⟩⟩ := a
  obtain ⟨⟨y⟩⟩ := b
  simp at h
  rw [h]
/-! ### Itoa and its table -/
def Tab10 (w : World) : Prop := Lib.TabIs Tryz.prog w "internal/strconv.uint64pow10" .u64 Lib.pow10Tab
theorem Tab10.ext {w w' : World} (h : Tab10 w) (k : Ext w w') : Tab10 w' := by
  unfold Tab10 Lib.TabIs at *
  cases hg : Tryz.prog.globalNamed "internal/strconv.uint64pow10" with
  | none => simp [World.var?, hg] at h
  | some g =>
    refine var?_below k hg ?_ h
    rcases Nat.lt_or_ge g w.heap.size with hl | hl
    · exact hl
    · simp [World.var?, hg, Array.getElem?_eq_none hl] at h
theorem Ext.growN (w : World) (k : Nat) (os : Array Obj) : Ext w (Sort.grow (w.drewN k) os) :=
  ⟨rfl, rfl, rfl, by simp [Sort.grow], fun i hi => by show (w.heap ++ os)[i]? = _; rw [Array.getElem?_append_left hi]⟩
theorem p_itoa (n : Int) (hn : I64 n) (w : World) (ht : Tab10 w) : Calls Tryz.prog 56 #[.int .i64 n] w fun e w' => e = .returned (.string (itoaB n)) ∧ Ext w w' :=
  (Tryz.strconv_Itoa n hn.1 hn.2 w ht).mono fun _ _ ⟨he, k, os, hw⟩ => ⟨he, hw ▸ Ext.growN w k os⟩

/-! ### results of a scrub -/
structure Bad where
  id : Int
  unit : Int
  sector : Int
  code : Int
deriving DecidableEq
structure Scrub where
  free : Int
  used : Int
  tent : List Ref
  shared : List Int
  bad : List Bad
def refCells (r : Ref) : List Value := [.int .i64 r.id, .int .i64 r.unit]
def badCells (b : Bad) : List Value := [.int .i64 b.id, .int .i64 b.unit, .int .i64 b.sector, .int .i64 b.code]
structure Refs (w : World) (A : Option Addr) (l : List Ref) : Prop where
  sl : Sl w A (l.flatMap refCells)
  ok : ∀ r ∈ l, I64 r.id ∧ I64 r.unit
  len : (l.length : Int) ≤ 8796093022208
structure Bads (w : World) (A : Option Addr) (l : List Bad) : Prop where
  sl : Sl w A (l.flatMap badCells)
  ok : ∀ r ∈ l, I64 r.id ∧ I64 r.unit ∧ I64 r.sector ∧ I64 r.code
  len : (l.length : Int) ≤ 4398046511104
theorem Refs.ext {w w' : World} {A : Option Addr} {l : List Ref} (h : Refs w A l) (k : Ext w w') : Refs w' A l := ⟨h.sl.ext k, h.ok, h.len⟩
theorem Bads.ext {w w' : World} {A : Option Addr} {l : List Bad} (h : Bads w A l) (k : Ext w w') : Bads w' A l := ⟨h.sl.ext k, h.ok, h.len⟩
theorem Refs.at_ {w : World} {A : Option Addr} {l : List Ref} (h : Refs w A l) {i : Nat} (hi : i < l.length) :
    ∃ b o, A = some ⟨b, o, none⟩ ∧ w.cell? ⟨b, o + i * 2, none⟩ = some (.int .i64 l[i].id) ∧ w.cell? ⟨b, o + i * 2 + 1, none⟩ = some (.int .i64 l[i].unit) := by
  obtain ⟨b, o, e, hc⟩ := h.sl.at_ (s := 2) (fun _ => rfl) (by omega) hi
  exact ⟨b, o, e, hc 0 _ rfl, by have := hc 1 _ rfl; rwa [← Nat.add_assoc] at this⟩
theorem Bads.at_ {w : World} {A : Option Addr} {l : List Bad} (h : Bads w A l) {i : Nat} (hi : i < l.length) :
    ∃ b o, A = some ⟨b, o, none⟩ ∧ w.cell? ⟨b, o + i * 4, none⟩ = some (.int .i64 l[i].id) ∧ w.cell? ⟨b, o + i * 4 + 1, none⟩ = some (.int .i64 l[i].unit) ∧
      w.cell? ⟨b, o + i * 4 + 2, none⟩ = some (.int .i64 l[i].sector) ∧ w.cell? ⟨b, o + i * 4 + 3, none⟩ = some (.int .i64 l[i].code) := by
  obtain ⟨b, o, e, hc⟩ := h.sl.at_ (s := 4) (fun _ => rfl) (by omega) hi
  refine ⟨b, o, e, ?_, ?_, ?_, ?_⟩
  · have := hc 0 _ rfl; simpa using this
  · have := hc 1 _ rfl; rwa [← Nat.add_assoc] at this
  · have := hc 2 _ rfl; rwa [← Nat.add_assoc] at this
  · have := hc 3 _ rfl; rwa [← Nat.add_assoc] at this

/-! ### the report -/
def bFree : ByteArray := ⟨#[102, 114, 101, 101, 32]⟩
def bUsed : ByteArray := ⟨#[117, 115, 101, 100, 32]⟩
def bTent : ByteArray := ⟨#[116, 101, 110, 116, 97, 116, 105, 118, 101, 32]⟩
def bOfUnit : ByteArray := ⟨#[32, 111, 102, 32, 117, 110, 105, 116, 32]⟩
def bShared : ByteArray := ⟨#[115, 104, 97, 114, 101, 100, 32, 116, 114, 97, 99, 107, 32]⟩
def bBad : ByteArray := ⟨#[98, 97, 100, 32, 115, 101, 99, 116, 111, 114, 32]⟩
def bOf : ByteArray := ⟨#[32, 111, 102, 32]⟩
def bColon : ByteArray := ⟨#[58, 32]⟩
def bDamaged : ByteArray := ⟨#[100, 97, 109, 97, 103, 101, 100]⟩
def bOld : ByteArray := ⟨#[111, 108, 100]⟩
def bError : ByteArray := ⟨#[101, 114, 114, 111, 114, 32]⟩
def lTent (r : Ref) : ByteArray := bTent ++ itoaB r.id ++ bOfUnit ++ itoaB r.unit
def lShared (k : Int) : ByteArray := bShared ++ itoaB k
def lUnit (k : Int) : ByteArray := if k = 0 then ⟨#[]⟩ else bOfUnit ++ itoaB k
def lWho (b : Bad) : ByteArray := if b.id = 0 ∧ b.unit = 0 then ⟨#[]⟩ else bOf ++ itoaB b.id ++ lUnit b.unit
def lWord (c : Int) : ByteArray := if c = 11 then bDamaged else if c = 12 then bOld else bError ++ itoaB c
def lBad (b : Bad) : ByteArray := bBad ++ itoaB b.sector ++ lWho b ++ bColon ++ lWord b.code
def linesS (x : Scrub) : List ByteArray := [bFree ++ itoaB x.free, bUsed ++ itoaB x.used] ++ x.tent.map lTent ++ x.shared.map lShared ++ x.bad.map lBad
end Go.Proofs.YtjdmgpefjehkaaaGreatDoor
