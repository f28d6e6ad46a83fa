/- The contracts of package dasdref05 that compare: Ints, Same; Index and Disjoint over the sequence. -/
import Derived.Test.YtjdmgpefjehkaaaGreatDoorRef05a
import Derived.Deep.QuietTactic
import Derived.BigQuiet
import Derived.Laws.StructEq
namespace Go.Proofs.YtjdmgpefjehkaaaGreatDoor
open Go.RowKit
attribute [local go_sem] Instr.field asAgg
set_option maxRecDepth 100000

theorem all_snoc {α : Type} {l : List α} {k : Nat} {P : α → Prop} (h : ∀ j (hj : j < l.length), j < k → P l[j]) (hk : k < l.length) (q : P l[k]) : ∀ j (hj : j < l.length), j < k + 1 → P l[j] := by
  intro j hj hjk
  rcases Nat.lt_or_ge j k with h1 | h1
  · exact h j hj h1
  · obtain rfl : j = k := by omega
    exact q
theorem take_snoc {α : Type} {a b : List α} {k : Nat} (h : a.take k = b.take k) (ha : k < a.length) (hb : k < b.length) (he : a[k] = b[k]) : a.take (k + 1) = b.take (k + 1) := by
  rw [List.take_succ_eq_append_getElem ha, List.take_succ_eq_append_getElem hb, h, he]

theorem eql2 (a b c d : Int) (w : World) : (binOp .eql 68 (.agg #[.int .i64 a, .int .i64 b]) (.agg #[.int .i64 c, .int .i64 d])).run Tryz.prog w = .ok (.bool (a == c && b == d)) w := by
  have hu := Tryz.underlying68
  simp [go_sem, Op.eqFields, hu, Program.fieldsOf]
  cases h : (a == c) <;> cases h2 : (b == d) <;> simp_all
theorem neq2 (a b c d : Int) (w : World) : (binOp .neq 68 (.agg #[.int .i64 a, .int .i64 b]) (.agg #[.int .i64 c, .int .i64 d])).run Tryz.prog w = .ok (.bool (!(a == c && b == d))) w := by
  have hu := Tryz.underlying68
  simp [go_sem, Op.eqFields, hu, Program.fieldsOf]
  cases h : (a == c) <;> cases h2 : (b == d) <;> simp_all
theorem r_ints (A B : Option Addr) (ca cb : Nat) (a b : List Int) (w : World) (hA : Ints w A a) (hB : Ints w B b) :
    Calls Tryz.prog 12 #[.slice A a.length ca, .slice B b.length cb] w fun e w' => e = .returned (.bool (decide (a = b))) ∧ Ext w w' := by
  have hla := hA.len
  have hlb := hB.len
  by_cases hlen : a.length = b.length
  · have l1 : a.length ≤ b.length := by omega
    have l2 : b.length ≤ a.length := by omega
    clear hlen
    go_enter Tryz.func12, Tryz.ntmps12
    go_wp2
    go_loopg [5] a.length (fun g i wr => ∃ k : Nat, k + g = a.length ∧ i = .int .i64 k ∧ Hid (a.take k = b.take k) ∧ Ext w wr)
    case atStart => exact ⟨0, by omega, rfl, rfl, Ext.refl _⟩
    case round =>
      obtain ⟨k, hk, rfl, hn, hx⟩ := hrel
      have hk := Lib.hid hk
      rcases Nat.lt_or_ge k a.length with hlt | hge
      · obtain ⟨b1, o1, rfl, h1⟩ := (hA.ext hx).at_ hlt
        obtain ⟨b2, o2, rfl, h2⟩ := (hB.ext hx).at_ (show k < b.length by omega)
        go_wp2_with fail
        go_quiet (fail)
        go_wp2
        · go_ret
          have hd : a[k] ≠ b[k] := by simpa using (‹(a[k] != b[k]) = true› : (a[k] != b[k]) = true)
          exact ⟨by have : a ≠ b := (fun h => hd (by subst h; rfl)); simp [this], hx.drewN _⟩
        · have hd : a[k] = b[k] := by simpa using (‹(a[k] != b[k]) = false› : (a[k] != b[k]) = false)
          go_roundg (a.length - k - 1)
          case measure => have := hk.out; omega
          case rel => exact ⟨k + 1, by omega, by go_num, take_snoc hn.out hlt _ hd, hx.drewN _⟩
      · go_wp2
        go_ret
        have h := hn.out
        rw [List.take_of_length_le hge, List.take_of_length_le (by omega)] at h
        exact ⟨by rw [h]; simp, hx⟩
  · have hlen := Lib.hid hlen
    rcases Nat.lt_or_gt_of_ne hlen.out with l1 | l1
    all_goals
      go_enter Tryz.func12, Tryz.ntmps12
      go_wp2
      go_ret
      exact ⟨by have : a ≠ b := fun h => hlen.out (by rw [h]); simp [this], Ext.refl _⟩

theorem r_same (A B : Option Addr) (ca cb : Nat) (a b : List Run) (w : World) (hA : Runs w A a) (hB : Runs w B b) :
    Calls Tryz.prog 112 #[.slice A a.length ca, .slice B b.length cb] w fun e w' => e = .returned (.bool (decide (a = b))) ∧ Ext w w' := by
  have hla := hA.len
  have hlb := hB.len
  have hq := neq2
  by_cases hlen : a.length = b.length
  · have l1 : a.length ≤ b.length := by omega
    have l2 : b.length ≤ a.length := by omega
    clear hlen
    go_enter Tryz.func112, Tryz.ntmps112
    go_wp2
    go_loopg [5] a.length (fun g i wr => ∃ k : Nat, k + g = a.length ∧ i = .int .i64 k ∧ Hid (a.take k = b.take k) ∧ Ext w wr)
    case atStart => exact ⟨0, by omega, rfl, rfl, Ext.refl _⟩
    case round =>
      obtain ⟨k, hk, rfl, hn, hx⟩ := hrel
      have hk := Lib.hid hk
      rcases Nat.lt_or_ge k a.length with hlt | hge
      · obtain ⟨b1, o1, rfl, h1, h1'⟩ := (hA.ext hx).at_ hlt
        obtain ⟨b2, o2, rfl, h2, h2'⟩ := (hB.ext hx).at_ (show k < b.length by omega)
        go_wp2_with fail
        go_quiet (fail)
        go_wp2
        · go_ret
          rename_i q
          have hd : a[k] ≠ b[k] := by
            intro h
            rw [h] at q
            simp at q
          exact ⟨by have : a ≠ b := (fun h => hd (by subst h; rfl)); simp [this], hx.drewN _⟩
        · rename_i q
          have hd : a[k] = b[k] := by
            cases h1 : a[k]; cases h2 : b[k]
            rw [h1, h2] at q
            simpa using q
          go_roundg (a.length - k - 1)
          case measure => have := hk.out; omega
          case rel => exact ⟨k + 1, by omega, by go_num, take_snoc hn.out hlt _ hd, hx.drewN _⟩
      · go_wp2
        go_ret
        have h := hn.out
        rw [List.take_of_length_le hge, List.take_of_length_le (by omega)] at h
        exact ⟨by rw [h]; simp, hx⟩
  · have hlen := Lib.hid hlen
    rcases Nat.lt_or_gt_of_ne hlen.out with l1 | l1
    all_goals
      go_enter Tryz.func112, Tryz.ntmps112
      go_wp2
      go_ret
      exact ⟨by have : a ≠ b := fun h => hlen.out (by rw [h]); simp [this], Ext.refl _⟩

theorem r_disjoint (A : Option Addr) (cap : Nat) (rs : List Run) (w : World) (hs : (rs.length : Int) ≤ 4294967296) (hA : Runs w A rs) :
    Calls Tryz.prog 106 #[.slice A rs.length cap] w fun e w' => e = .returned (.bool (decide (seq rs).Nodup)) ∧ Ext w w' := by
  have HC := fun w => r_seq A cap rs w hs
  generalize seq rs = l at *
  go_enter Tryz.func106, Tryz.ntmps106
  go_wp2_with fail
  refine (HC _ hA).mono ?_
  clear HC
  rintro e w1 ⟨B, c, rfl, hB, hx⟩
  have hl := hB.len
  go_wp2
  go_loopg [4] l.length (fun g i wr => ∃ k : Nat, k + g = l.length ∧ i = .int .i64 k ∧ Hid ((l.take k).Nodup) ∧ Ext w1 wr)
  case atStart => exact ⟨0, by omega, rfl, by simp [Hid], Ext.refl _⟩
  case round =>
    obtain ⟨k, hk, rfl, hn, hx1⟩ := hrel
    have hk := Lib.hid hk
    obtain ⟨wo, rfl⟩ : ∃ wo : World, wo = wr := ⟨_, rfl⟩
    rcases Nat.lt_or_ge k l.length with hlt | hge
    · obtain ⟨b1, o1, rfl, h1⟩ := hB.at_ hlt
      go_wp2
      go_loopg [5] k (fun g i wr => ∃ j : Nat, j + g = k ∧ i = .int .i64 j ∧ Hid (∀ j' (h : j' < l.length), j' < j → l[j'] ≠ l[k]) ∧ Ext w1 wr)
      case atStart => exact ⟨0, by omega, rfl, fun j _ h => by omega, hx1⟩
      case round =>
        obtain ⟨j, hj, rfl, hm, hx2⟩ := hrel
        have hj := Lib.hid hj
        have e1 := hx2.cell h1
        rcases Nat.lt_or_ge j k with hjl | hjg
        · obtain ⟨b2, o2, he, h2⟩ := hB.at_ (show j < l.length by omega)
          cases he
          have e2 := hx2.cell h2
          go_wp2_with fail
          go_quiet (fail)
          go_wp2
          · go_ret
            rename_i q
            have q : l[k] = l[j] := by simpa using q
            refine ⟨?_, hx.trans (hx2.drewN _)⟩
            have : ¬ l.Nodup := fun hd => (List.pairwise_iff_getElem.1 hd j k (by omega) hlt hjl) q.symm
            simp [this]
          · rename_i q
            have q : l[j] ≠ l[k] := by intro h; rw [h] at q; simp at q
            go_roundg (k - j - 1)
            case measure => have := hj.out; omega
            case rel => exact ⟨j + 1, by omega, by go_num, all_snoc (P := (· ≠ l[k])) hm.out (by omega) q, hx2.drewN _⟩
        · go_wp2
          go_roundg (l.length - k - 1)
          case measure => have := hk.out; omega
          case rel =>
            refine ⟨k + 1, by omega, by go_num, ?_, hx2⟩
            show (l.take (k + 1)).Nodup
            rw [List.take_succ_eq_append_getElem hlt, List.nodup_append]
            refine ⟨hn.out, by simp, fun a ha b hb => ?_⟩
            obtain rfl : b = l[k] := by simpa using hb
            obtain ⟨j', hj', rfl⟩ := List.getElem_of_mem ha
            rw [List.length_take] at hj'
            rw [List.getElem_take]
            exact hm.out j' (by omega) (by omega)
    · go_wp2
      go_ret
      have h := hn.out
      rw [List.take_of_length_le hge] at h
      exact ⟨by simp [h], hx.trans hx1⟩
end Go.Proofs.YtjdmgpefjehkaaaGreatDoor
