/- Decimal numerals in the reference: digits, Decimal. -/
import Derived.Test.YtjdmgpefjehkaaaDoorProg
import Derived.Test.YtjdmgpefjehkaaaDoorBase
import Derived.Lib.ItoaNum
import Derived.Laws.BytesArg
import Derived.Laws.IdiomStrings
namespace Go.Proofs.YtjdmgpefjehkaaaDoor
open Go.RowKit
attribute [local go_sem] Instr.field asAgg
set_option maxRecDepth 100000

def decB (u : Nat) : ByteArray := ⟨(Lib.decDigits u).toArray⟩
def itoaB (n : Int) : ByteArray := ⟨(Lib.itoa n).toArray⟩
theorem mk_append (a b : List UInt8) : (⟨a.toArray⟩ : ByteArray) ++ (⟨b.toArray⟩ : ByteArray) = ⟨(a ++ b).toArray⟩ := by
  apply ByteArray.ext
  rw [ByteArray.data_append]
  simp
theorem ofNat48 (k : Nat) : UInt8.ofNat (48 + k) = 48 + UInt8.ofNat k := by rw [UInt8.ofNat_add]; rfl
theorem decB_step (u : Nat) (h : 10 ≤ u) : decB (u / 10) ++ (⟨#[48 + UInt8.ofNat (u % 10)]⟩ : ByteArray) = decB u := by
  unfold decB
  rw [← ofNat48]
  rw [show (#[UInt8.ofNat (48 + u % 10)] : Array UInt8) = [UInt8.ofNat (48 + u % 10)].toArray from rfl, mk_append]
  conv => rhs; rw [Lib.decDigits, dif_neg (by omega)]
theorem decB_small (u : Nat) (h : u < 10) : decB u = ⟨#[48 + UInt8.ofNat (u % 10)]⟩ := by
  unfold decB
  rw [← ofNat48, Nat.mod_eq_of_lt h]
  rw [Lib.decDigits, dif_pos h]
theorem decDigits_len (k : Nat) : ∀ u, u < 10 ^ k → (Lib.decDigits u).length ≤ max 1 k := by
  induction k with
  | zero => intro u h; rw [Lib.decDigits, dif_pos (by simp at h; omega)]; simp
  | succ k ih =>
    intro u h
    rw [Lib.decDigits]
    split
    · simp
    · have := ih (u / 10) (by rw [Nat.pow_succ] at h; omega)
      have hk : 1 ≤ k := by
        rcases Nat.eq_zero_or_pos k with h0 | h0
        · subst h0; simp at h; omega
        · exact h0
      simp
      omega
theorem decB_size (u : Nat) (h : u < 18446744073709551616) : (decB u).size ≤ 20 := by
  have := decDigits_len 20 u (by omega)
  simpa [decB, ByteArray.size] using this
theorem itoaB_size (n : Int) (h : I64 n) : (itoaB n).size ≤ 21 := by
  obtain ⟨h1, h2⟩ := h
  unfold itoaB Lib.itoa
  split
  · have := decDigits_len 20 n.natAbs (by omega)
    simp [ByteArray.size]
    omega
  · have := decDigits_len 20 n.toNat (by omega)
    simp [ByteArray.size]
    omega

theorem conv1 (W : World) (g : Nat) (x : Int) (h0 : 0 ≤ x) (h1 : x ≤ 255) (hg : g = W.heap.size) : (convert 84 9 (.slice (some ⟨g, 0, none⟩) 1 1)).run Tryd.prog (W.alloc (.cells #[.int .u8 x] 5)) = .ok (.string ⟨#[UInt8.ofNat x.toNat]⟩) (W.alloc (.cells #[.int .u8 x] 5)) := by
  subst hg
  have hB := Blk.new W 5 [.int .u8 x]
  have := run_convert_bytes_back (P := Tryd.prog) (W.alloc (.cells #[.int .u8 x] 5)) 84 9 5 ⟨W.heap.size, 0, none⟩ 1 [UInt8.ofNat x.toNat] Tryd.underlying84 Tryd.underlying5 Tryd.underlying9
    (fun j hj => by
      have : j = 0 := by simp at hj; omega
      subst this
      have hc := hB.cell 0 rfl
      rw [show (⟨W.heap.size, 0, none⟩ : Addr).add 0 = ⟨W.heap.size, 0, none⟩ from rfl, hc]
      simp
      omega)
  exact this

theorem r_digits : ∀ (u : Nat), u < 18446744073709551616 → ∀ w : World,
    Calls Tryd.prog 36 #[.int .u64 u] w fun e w' => e = .returned (.string (decB u)) ∧ Ext w w' := by
  intro u
  induction u using Nat.strongRecOn with
  | _ u ih =>
    intro hu w
    have hcv := fun (W : World) (g : Nat) (hg : g = W.heap.size) => conv1 W g (48 + (u : Int) % 10) (by omega) (by omega) hg
    have hsz := decB_size (u / 10) (by omega)
    by_cases h : u < 10
    · have he := Lib.hid (decB_small u h)
      clear ih
      go_enter Tryd.func36, Tryd.ntmps36
      go_wp2
      go_ret
      exact ⟨by rw [he.out, ← ofNat48]; rfl, (Ext.refl w).alloc _⟩
    · have he := Lib.hid (decB_step u (by omega))
      have ih := Lib.hid (ih (u / 10) (by omega) (by omega))
      go_enter Tryd.func36, Tryd.ntmps36
      go_wp2_with fail
      refine (ih.out _).mono ?_
      rintro e w1 ⟨rfl, hx⟩
      clear ih
      go_wp2
      go_ret
      refine ⟨?_, ((Ext.refl w).alloc _).trans hx⟩
      rw [← he.out]
      rfl

theorem r_Decimal (n : Int) (hn : I64 n) (w : World) : Calls Tryd.prog 22 #[.int .i64 n] w fun e w' => e = .returned (.string (itoaB n)) ∧ Ext w w' := by
  obtain ⟨h1, h2⟩ := hn
  by_cases hneg : n < 0
  · have he : Hid (itoaB n = (⟨#[45]⟩ : ByteArray) ++ decB n.natAbs) := by
      show itoaB n = _
      unfold itoaB Lib.itoa
      rw [if_pos hneg]
      unfold decB
      rw [show (#[45] : Array UInt8) = [45].toArray from rfl, mk_append]
      rfl
    have hsz := decB_size n.natAbs (by omega)
    go_enter Tryd.func22, Tryd.ntmps22
    go_wp2_with fail
    rw [show (-(n + 1) + 1 : Int) = ((n.natAbs : Nat) : Int) by omega]
    refine (r_digits n.natAbs (by omega) _).mono ?_
    rintro e w1 ⟨rfl, hx⟩
    go_wp2
    go_ret
    exact ⟨by rw [he.out]; rfl, hx⟩
  · obtain ⟨m, rfl⟩ := Int.eq_ofNat_of_zero_le (show 0 ≤ n by omega)
    have he : Hid (itoaB (m : Int) = decB m) := by
      show itoaB m = _
      unfold itoaB Lib.itoa
      rw [if_neg hneg]
      rfl
    clear hneg
    go_enter Tryd.func22, Tryd.ntmps22
    go_wp2_with fail
    refine (r_digits m (by omega) _).mono ?_
    rintro e w1 ⟨rfl, hx⟩
    go_wp2
    go_ret
    exact ⟨by rw [he.out]; rfl, hx⟩
end Go.Proofs.YtjdmgpefjehkaaaDoor
