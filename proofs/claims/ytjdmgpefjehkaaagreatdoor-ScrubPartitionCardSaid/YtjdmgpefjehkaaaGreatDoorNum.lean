/- Decimal numerals in the reference: digits, Decimal. -/
import Derived.Test.YtjdmgpefjehkaaaGreatDoorProg
import Derived.Test.YtjdmgpefjehkaaaGreatDoorBase
import Derived.Lib.ItoaNum
import Derived.Laws.BytesArg
import Derived.Laws.IdiomStrings
namespace Go.Proofs.YtjdmgpefjehkaaaGreatDoor
open Go.RowKit
attribute [local go_sem] Instr.field asAgg
set_option maxRecDepth 100000

def decB (u : Nat) : ByteArray := ⟨(Lib.decDigits u).toArray⟩
def itoaB (n : Int) : ByteArray := ⟨(Lib.itoa n).toArray⟩
theorem mk_append (a b : List UInt8) : (⟨a.toArray⟩ : ByteArray) ++ (⟨b.toArray⟩ : ByteArray) = ⟨(a ++ b).toArray⟩ := by
  apply ByteArray.ext
  rw [ByteArray.data_append]
  simp
theorem ofNat48 (k : Nat) : UInt8.ofNat (48 + k) = 48 + UInt8.ofNat k := by rw [UInt8.ofNat_add]; rfl
theorem decB_step (u : Nat) (h : 10 ≤ u) : decB (u / 10) ++ (⟨#[48 + UInt8.ofNat (u % 10)]⟩ : ByteArray) = decB u := by
  unfold decB
  rw [← ofNat48]
  rw [show (#[UInt8.ofNat (48 + u % 10)] : Array UInt8) = [UInt8.ofNat (48 + u % 10)].toArray from rfl, mk_append]
  conv => rhs; rw [Lib.decDigits, dif_neg (by omega)]
theorem decB_small (u : Nat) (h : u < 10) : decB u = ⟨#[48 + UInt8.ofNat (u % 10)]⟩ := by
  unfold decB
  rw [← ofNat48, Nat.mod_eq_of_lt h]
  rw [Lib.decDigits, dif_pos h]
theorem decDigits_len (k : Nat) : ∀ u, u < 10 ^ k → (Lib.decDigits u).length ≤ max 1 k := by
  induction k with
  | zero => intro u h; rw [Lib.decDigits, dif_pos (by simp at h; omega)]; simp
  | succ k ih =>
    intro u h
    rw [Lib.decDigits]
    split
    · simp
    · have := ih (u / 10) (by rw [Nat.pow_succ] at h; omega)
      have hk : 1 ≤ k := by
        rcases Nat.eq_zero_or_pos k with h0 | h0
        · subst h0; simp at h; omega
        · exact h0
      simp
      omega
theorem decB_size (u : Nat) (h : u < 18446744073709551616) : (decB u).size ≤ 20 := by
  have := decDigits_len 20 u (by omega)
  simpa [decB, ByteArray.size] using this
theorem itoaB_size (n : Int) (h : I64 n) : (itoaB n).size ≤ 21 := by
  obtain ⟨h1, h2⟩ := h
  unfold itoaB Lib.itoa
  split
  · have := decDigits_len 20 n.natAbs (by omega)
    simp [ByteArray.size]
    omega
  · have := decDigits_len 20 n.toNat (by omega)
    simp [ByteArray.size]
    omega

theorem conv1 (W : World) (g : Nat) (x : Int) (h0 : 0 ≤ x) (h1 : x ≤ 255) (hg : g = W.heap.size) : (convert 144 9 (.slice (some ⟨g, 0, none⟩) 1 1)).run Tryz.prog (W.alloc (.cells #[.int .u8 x] 5)) = .ok (.string ⟨#[UInt8.ofNat x.toNat]⟩) (W.alloc (.cells #[.int .u8 x] 5)) := by
  subst hg
  have hB := Blk.new W 5 [.int .u8 x]
  have := run_convert_bytes_back (P := Tryz.prog) (W.alloc (.cells #[.int .u8 x] 5)) 144 9 5 ⟨W.heap.size, 0, none⟩ 1 [UInt8.ofNat x.toNat] Tryz.underlying144 Tryz.underlying5 Tryz.underlying9
    (fun j hj => by
      have : j = 0 := by simp at hj; omega
      subst this
      have hc := hB.cell 0 rfl
      rw [show (⟨W.heap.size, 0, none⟩ : Addr).add 0 = ⟨W.heap.size, 0, none⟩ from rfl, hc]
      simp
      omega)
  exact this

end Go.Proofs.YtjdmgpefjehkaaaGreatDoor
