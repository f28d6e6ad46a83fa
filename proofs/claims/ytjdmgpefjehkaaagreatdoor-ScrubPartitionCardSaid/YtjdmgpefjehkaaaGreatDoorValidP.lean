/- What a valid table is, as plain data, and what follows from it: owners, free tracks, bytes. No walk. -/
import Derived.Test.YtjdmgpefjehkaaaGreatDoorCValid
import Derived.Test.YtjdmgpefjehkaaaGreatDoorIns
import Derived.Test.YtjdmgpefjehkaaaGreatDoorBytes
import Derived.Test.YtjdmgpefjehkaaaGreatDoorSector
import Derived.Test.YtjdmgpefjehkaaaGreatDoorMap
import Derived.Test.YtjdmgpefjehkaaaGreatDoorFree
namespace Go.Proofs.YtjdmgpefjehkaaaGreatDoor
open Go.RowKit
set_option maxRecDepth 100000

theorem seq_append (a b : List Run) : seq (a ++ b) = seq a ++ seq b := by unfold seq; rw [List.flatMap_append]
theorem seq_extU : ∀ ls : List Label, seq (extU ls) = allT ls
  | [] => rfl
  | l :: r => by
    have ih := seq_extU r
    have ha : allT (l :: r) = seq l.ext ++ allT r := by simp [allT]
    rw [ha, ← ih]
    unfold extU usedL
    cases hq : emptyL l with
    | true =>
      have hz := (emptyL_iff l).1 hq
      rw [List.filter_cons_of_neg (by rw [hq]; decide)]
      subst hz
      rfl
    | false =>
      rw [List.filter_cons_of_pos (by rw [hq]; decide), List.flatMap_cons, seq_append]
theorem seq_flat : ∀ ls : List Label, seq (ls.flatMap (·.ext)) = allT ls
  | [] => rfl
  | l :: r => by
    have ih := seq_flat r
    have ha : allT (l :: r) = seq l.ext ++ allT r := by simp [allT]
    rw [ha, ← ih, List.flatMap_cons, seq_append]

structure VT (tr : Int) (ls : List Label) : Prop where
  lo : 4 ≤ tr
  hi : tr ≤ 128
  vl : ∀ l ∈ ls, emptyL l = false → validL tr l = true
  key : ((usedL ls).map keyL).Nodup
  nd : (allT ls).Nodup
theorem vt_of {nm : ByteArray} {tr : Int} {ls : List Label} (h : validT nm tr ls = true) : VT tr ls := by
  simp only [validT, Bool.and_eq_true, Bool.not_eq_true', beq_eq_false_iff_ne, decide_eq_true_eq] at h
  obtain ⟨⟨⟨h1, _⟩, _⟩, ⟨h4, h5⟩, h6⟩ := h
  have hok : okT tr = true := by
    cases hk : okT tr with
    | true => rfl
    | false => exact absurd (by simp [tt, hk]) h1
  have hb := okT_yes hok
  rw [seq_extU] at h6
  refine ⟨hb.1, hb.2, fun l hl he => ?_, h5, h6⟩
  exact List.all_eq_true.1 h4 l (List.mem_filter.2 ⟨hl, by rw [he]; rfl⟩)
theorem VT.tt {tr : Int} {ls : List Label} (h : VT tr ls) : tt tr = (tr + 3) / 4 := by
  have h1 := h.lo
  have h2 := h.hi
  have : okT tr = true := by simp [okT]; omega
  simp [Go.Proofs.YtjdmgpefjehkaaaGreatDoor.tt, this]
theorem VT.trk {tr : Int} {ls : List Label} (h : VT tr ls) : trk tr = tr := by
  have h1 := h.lo
  have h2 := h.hi
  have : okT tr = true := by simp [okT]; omega
  simp [Go.Proofs.YtjdmgpefjehkaaaGreatDoor.trk, this]
theorem valid_id {tr : Int} {l : Label} (h : validL tr l = true) : 1 ≤ l.id ∧ 0 ≤ l.unit := by
  simp only [validL, c2, Bool.and_eq_true, decide_eq_true_eq] at h
  omega
theorem valid_in {tr : Int} {l : Label} (h : validL tr l = true) : ∀ t ∈ seq l.ext, tt tr ≤ t ∧ t < tr := by
  intro t ht
  have h0 := seq_bd l.ext t ht
  simp only [validL, Bool.and_eq_true] at h
  have h6 := h.2
  simp only [c6, Bool.not_eq_true', List.any_eq_false] at h6
  obtain ⟨r, hr, hm⟩ := List.mem_flatMap.1 ht
  have h7 := h6 r hr
  simp only [outR, Bool.or_eq_true, decide_eq_true_eq] at h7
  rw [mem_seqR] at hm
  simp only [has, Bool.and_eq_true, decide_eq_true_eq] at hm
  have := (clip_mem r t h0.1 h0.2).1 hm
  omega
theorem VT.inn {tr : Int} {ls : List Label} (h : VT tr ls) : ∀ t ∈ allT ls, Go.Proofs.YtjdmgpefjehkaaaGreatDoor.tt tr ≤ t ∧ t < tr := by
  intro t ht
  obtain ⟨l, hl, hm⟩ := List.mem_flatMap.1 ht
  cases he : emptyL l with
  | true => rw [(emptyL_iff l).1 he] at hm; exact absurd hm (by simp [zeroL, seq])
  | false => exact valid_in (h.vl l hl he) t hm

/-! ### counts -/
theorem countP_split (a : Int) (n : Nat) : ∀ L : List Int, L.countP (fun t => decide (a ≤ t) && decide (t < a + (n + 1 : Nat))) = L.countP (fun t => decide (a ≤ t) && decide (t < a + n)) + L.count (a + n)
  | [] => rfl
  | x :: r => by
    have ih := countP_split a n r
    rw [List.countP_cons, List.countP_cons, List.count_cons, ih]
    by_cases h1 : x = a + n
    · subst h1
      have e1 : (decide (a ≤ a + (n : Int)) && decide (a + (n : Int) < a + ((n + 1 : Nat) : Int))) = true := by simp; omega
      have e2 : (decide (a ≤ a + (n : Int)) && decide (a + (n : Int) < a + (n : Int))) = false := by simp
      rw [e1, e2]
      simp
      omega
    · have e1 : (decide (a ≤ x) && decide (x < a + ((n + 1 : Nat) : Int))) = (decide (a ≤ x) && decide (x < a + (n : Int))) := by
        rw [Bool.eq_iff_iff]; simp; omega
      have e2 : (x == a + (n : Int)) = false := by simpa using h1
      rw [e1, e2]
      simp
      omega
theorem count_range (a : Int) (L : List Int) (hn : L.Nodup) : ∀ n : Nat, (List.range n).countP (fun i : Nat => decide (0 < L.count (a + i))) = L.countP (fun t => decide (a ≤ t) && decide (t < a + n))
  | 0 => by
    symm
    rw [List.range_zero, List.countP_nil, List.countP_eq_zero]
    intro t _
    simp
  | n + 1 => by
    rw [List.range_succ, List.countP_append, count_range a L hn n, countP_split, List.countP_singleton]
    have h1 : L.count (a + n) ≤ 1 := List.nodup_iff_count.1 hn _
    by_cases h : 0 < L.count (a + n)
    · rw [if_pos (by simpa using h)]; omega
    · rw [if_neg (by simpa using h)]; omega
theorem span_of {tr : Int} {ls : List Label} (h : VT tr ls) : (spanN tr : Int) = tr - tt tr := by
  have h1 := h.lo
  have h2 := h.hi
  unfold spanN
  rw [h.trk, h.tt]
  omega
theorem used_of {tr : Int} {ls : List Label} (h : VT tr ls) : cntU ls (tt tr) (spanN tr) = (allT ls).length := by
  have hs := span_of h
  have hp : (fun i : Nat => (ownerT ls (tt tr + i)).isSome) = fun i : Nat => decide (0 < (allT ls).count (tt tr + i)) := funext fun i => ownerT_isSome _ _
  unfold cntU
  rw [hp, count_range _ _ h.nd, hs]
  congr 1
  rw [List.countP_eq_length]
  intro t ht
  have := h.inn t ht
  simp
  omega
theorem shared_of {tr : Int} {ls : List Label} (h : VT tr ls) : sharedS ls = [] := by
  unfold sharedS
  rw [List.map_eq_nil_iff, List.filter_eq_nil_iff]
  intro i _
  have := List.nodup_iff_count.1 h.nd (i : Int)
  simp
  omega

/-! ### free tracks -/
def freeP (tr : Int) (ls : List Label) (t : Int) : Bool := decide (tt tr ≤ t) && decide (t < tr) && !(ixT (ls.flatMap (·.ext)) t).isSome
def freeT (tr : Int) (ls : List Label) : List Run := norm (freeP tr ls)
theorem freeP_eq (tr : Int) (ls : List Label) (t : Int) : freeP tr ls t = (decide (tt tr ≤ t) && decide (t < tr) && !(ownerT ls t).isSome) := by
  unfold freeP
  rw [ixT_isSome, seq_flat, ownerT_isSome]
  congr 2
  rw [Bool.eq_iff_iff, List.contains_iff_mem, decide_eq_true_iff, List.count_pos_iff]
theorem count_win (q : Nat → Bool) (a b : Nat) (hab : a ≤ b) : ∀ N : Nat, (List.range N).countP (fun i => decide (a ≤ i) && decide (i < b) && q i) = (List.range (min b N - a)).countP (fun i => q (a + i))
  | 0 => by simp
  | N + 1 => by
    rw [List.range_succ, List.countP_append, count_win q a b hab N, List.countP_singleton]
    by_cases h1 : a ≤ N
    · by_cases h2 : N < b
      · have e1 : min b N - a = N - a := by omega
        have e2 : min b (N + 1) - a = (N - a) + 1 := by omega
        have e3 : a + (N - a) = N := by omega
        rw [e1, e2, List.range_succ, List.countP_append, List.countP_singleton, e3]
        have e4 : (decide (a ≤ N) && decide (N < b) && q N) = q N := by simp [h1, h2]
        rw [e4]
      · have e1 : min b N = min b (N + 1) := by omega
        have e4 : (decide (a ≤ N) && decide (N < b) && q N) = false := by simp [h2]
        rw [e1, e4]
        simp
    · have e1 : min b N - a = 0 := by omega
      have e2 : min b (N + 1) - a = 0 := by omega
      have e4 : (decide (a ≤ N) && decide (N < b) && q N) = false := by simp [h1]
      rw [e1, e2, e4]
      simp
theorem free_len {tr : Int} {ls : List Label} (h : VT tr ls) : ((seq (freeT tr ls)).length : Int) = spanN tr - cntU ls (tt tr) (spanN tr) := by
  have h1 := h.lo
  have h2 := h.hi
  have h3 := h.tt
  have hs := span_of h
  obtain ⟨a, ha⟩ : ∃ a : Nat, tt tr = a := ⟨(tt tr).toNat, by omega⟩
  obtain ⟨b, hb⟩ : ∃ b : Nat, tr = b := ⟨tr.toNat, by omega⟩
  unfold freeT
  rw [seq_norm, List.length_map, ← List.countP_eq_length_filter]
  have hp : (fun i : Nat => freeP tr ls (i : Int)) = fun i : Nat => decide (a ≤ i) && decide (i < b) && !(ownerT ls (i : Int)).isSome := by
    funext i
    rw [freeP_eq, ha, hb]
    congr 2 <;> simp
  rw [hp, count_win (fun i => !(ownerT ls (i : Int)).isSome) a b (by omega) 128]
  have e1 : min b 128 - a = spanN tr := by omega
  rw [e1]
  unfold cntU
  rw [ha]
  have hl := List.length_eq_countP_add_countP (l := List.range (spanN tr)) (fun i : Nat => (ownerT ls ((a : Int) + i)).isSome)
  rw [List.length_range] at hl
  have e2 : (List.range (spanN tr)).countP (fun i => !(ownerT ls ((a + i : Nat) : Int)).isSome) = (List.range (spanN tr)).countP (fun i : Nat => decide ¬(ownerT ls ((a : Int) + i)).isSome = true) := by
    congr 1
    funext i
    rw [Int.natCast_add]
    cases (ownerT ls ((a : Int) + i)).isSome <;> simp
  rw [e2]
  omega
theorem map_free {tr : Int} {ls : List Label} (h : VT tr ls) (i : Nat) (hi : (i : Int) < tr) : (mapI tr ls i == 0) = (ixT (freeT tr ls) i).isSome ∧ (mapI tr ls i == -1) = decide ((i : Int) < tt tr) := by
  have h1 := h.lo
  have h2 := h.hi
  have hf : (ixT (freeT tr ls) i).isSome = freeP tr ls i := by
    rw [ixT_isSome]
    exact in_norm _ _ (by omega) (by omega)
  rw [hf, freeP_eq]
  unfold mapI
  by_cases hlt : (i : Int) < tt tr
  · rw [if_pos hlt]
    have : decide (tt tr ≤ (i : Int)) = false := by simp; omega
    rw [this, decide_eq_true hlt]
    exact ⟨rfl, rfl⟩
  · rw [if_neg hlt]
    have e1 : decide (tt tr ≤ (i : Int)) = true := by simp; omega
    have e2 : decide ((i : Int) < tr) = true := by simpa using hi
    rw [e1, e2, decide_eq_false hlt]
    have e8 : (8 * (i : Int)) / 8 = i := by omega
    cases ho : ownerT ls (i : Int) with
    | none =>
      rw [ownS_none ls (8 * i) (by omega) (by rw [e8]; exact ho)]
      exact ⟨rfl, rfl⟩
    | some p =>
      obtain ⟨k, m⟩ := p
      obtain ⟨hk, hx⟩ := ownerT_at _ _ _ _ ho
      rw [ownS_some ls (8 * i) (by omega) hk (by rw [e8]; exact ho)]
      have hne : emptyL ls[k] = false := by
        cases he : emptyL ls[k] with
        | false => rfl
        | true =>
          rw [(emptyL_iff _).1 he] at hx
          exact absurd hx (by simp [zeroL, ixT, seq])
      have hid := valid_id (h.vl _ (List.getElem_mem hk) hne)
      refine ⟨?_, ?_⟩
      · simp; omega
      · simp; omega

theorem freeC_eq {nm : ByteArray} {tr : Int} {ls : List Label} (hv : validT nm tr ls = true) : freeC nm tr ls = freeT tr ls := by
  have h := vt_of hv
  have h1 := h.lo
  have h2 := h.hi
  have h3 := h.tt
  unfold freeC
  rw [if_pos hv]
  unfold sfree
  rw [if_neg (by omega)]
  have e1 : max 0 (tt tr) = tt tr := by omega
  have e2 : min 128 tr = tr := by omega
  rw [e1, e2]
  unfold minusT freeT norm
  refine normTo_congr 128 fun i hi => ?_
  unfold freeP
  refine congrArg (· && _) ?_
  rw [ixT_isSome, seq_one, Bool.eq_iff_iff, List.contains_iff_mem, mem_seqR]
  simp only [has, Bool.and_eq_true, decide_eq_true_eq]
  have := clip_mem ⟨tt tr, tr - tt tr⟩ i (by omega) (by omega)
  rw [this]
  dsimp only
  omega

/-! ### the owner of a label's sector -/
theorem nodup_owner (t : Int) : ∀ (ls : List Label) (k : Nat) (hk : k < ls.length), (allT ls).Nodup → t ∈ seq ls[k].ext → ∀ j (hj : j < ls.length), j < k → ixT ls[j].ext t = none
  | l :: r, 0, _, _, _, _, _, h => by omega
  | l :: r, k + 1, hk, hn, hm, j, hj, hjk => by
    have ha : allT (l :: r) = seq l.ext ++ allT r := by simp [allT]
    rw [ha, List.nodup_append] at hn
    have hk' : k < r.length := by simpa using hk
    have hm' : t ∈ seq r[k].ext := hm
    have hin : t ∈ allT r := List.mem_flatMap.2 ⟨r[k], List.getElem_mem hk', hm'⟩
    cases j with
    | zero =>
      show ixT l.ext t = none
      unfold ixT
      rw [List.idxOf?_eq_none_iff]
      intro h
      exact hn.2.2 t h t hin rfl
    | succ j => exact nodup_owner t r k hk' hn.2.1 hm' j (by simpa using hj) (by omega)
theorem nodup_seq : ∀ (ls : List Label) (l : Label), l ∈ ls → (allT ls).Nodup → (seq l.ext).Nodup
  | x :: r, l, hl, hn => by
    have ha : allT (x :: r) = seq x.ext ++ allT r := by simp [allT]
    rw [ha, List.nodup_append] at hn
    rcases List.mem_cons.1 hl with rfl | h
    · exact hn.1
    · exact nodup_seq r l h hn.2.1
theorem idx_nodup {L : List Int} (hn : L.Nodup) {m : Nat} {t : Int} (h : L[m]? = some t) : L.idxOf? t = some m := by
  obtain ⟨hm, rfl⟩ := List.getElem?_eq_some_iff.1 h
  rw [List.idxOf?, List.findIdx?_eq_some_iff_getElem]
  refine ⟨hm, by simp, fun j hj => ?_⟩
  rw [List.nodup_iff_pairwise_ne, List.pairwise_iff_getElem] at hn
  have := hn j m (by omega) hm hj
  simpa using this
theorem find_is {tr : Int} {ls : List Label} (h : VT tr ls) (r : Ref) (hr : r ∈ refsS ls) : ∃ (k : Nat) (hk : k < ls.length), findL ls r = ls[k] ∧ refL ls[k] = r ∧ emptyL ls[k] = false ∧ isF ls r = true := by
  have hr' : r ∈ refsOf ls := sortR_mem.1 hr
  obtain ⟨l, hl, rfl⟩ := List.mem_map.1 hr'
  obtain ⟨hl, he⟩ := List.mem_filter.1 hl
  have he : emptyL l = false := by simpa using he
  have hid := valid_id (h.vl l hl he)
  obtain ⟨k0, hk0, rfl⟩ := List.getElem_of_mem hl
  have hyes : isR (refL ls[k0]) ls[k0] = true := by
    simp [isR, refL]
    omega
  cases hx : ixR ls (refL ls[k0]) with
  | none =>
    unfold ixR at hx
    rw [List.findIdx?_eq_none_iff] at hx
    have := hx _ (List.getElem_mem hk0)
    rw [hyes] at this
    cases this
  | some j =>
    have hj := ixR_lt hx
    have hf := findL_some hx hj
    unfold ixR at hx
    rw [List.findIdx?_eq_some_iff_getElem] at hx
    obtain ⟨_, h2, _⟩ := hx
    have h2' := h2
    simp only [isR, refL, Bool.and_eq_true, Bool.not_eq_true', beq_eq_false_iff_ne, beq_iff_eq] at h2'
    refine ⟨j, hj, hf, ?_, ?_, ?_⟩
    · unfold refL
      rw [h2'.2.1, h2'.2.2]
    · cases hq : emptyL ls[j] with
      | false => rfl
      | true =>
        have hz := (emptyL_iff _).1 hq
        have : ls[j].id = 0 := by rw [hz]; rfl
        omega
    · unfold isF ixR
      rw [List.findIdx?_eq_some_iff_getElem.2 ⟨hj, h2, by assumption⟩]
      rfl
theorem sector_own {tr : Int} {ls : List Label} (h : VT tr ls) (r : Ref) (hr : r ∈ refsS ls) (s n : Int) (hs : sectorT (findL ls r).ext s = some n) : ownS ls n = ⟨r.id, r.unit, s, true⟩ := by
  obtain ⟨k, hk, hf, hr2, he, _⟩ := find_is h r hr
  rw [hf] at hs
  unfold sectorT at hs
  split at hs
  · cases hs
  · rename_i h0
    obtain ⟨t, ht, rfl⟩ := Option.map_eq_some_iff.1 hs
    have hb := atT_bd ht
    unfold atT at ht
    rw [if_pos (by omega)] at ht
    have hm : t ∈ seq ls[k].ext := List.mem_of_getElem? ht
    have hi := idx_nodup (nodup_seq ls _ (List.getElem_mem hk) h.nd) ht
    have ho := ownerT_some t _ ls k hk (nodup_owner t ls k hk h.nd hm) hi
    have e8 : (t * 8 + s % 8) / 8 = t := by omega
    have e9 : (t * 8 + s % 8) % 8 = s % 8 := by omega
    rw [ownS_some ls (t * 8 + s % 8) (by omega) hk (by rw [e8]; exact ho), e9]
    have : refL ls[k] = ⟨ls[k].id, ls[k].unit⟩ := rfl
    rw [this] at hr2
    subst hr2
    simp only [Own.mk.injEq, true_and, and_true]
    omega

/-! ### sums -/
def sumZ : List Int → Int
  | [] => 0
  | x :: r => x + sumZ r
theorem sumZ_append : ∀ a b : List Int, sumZ (a ++ b) = sumZ a + sumZ b
  | [], b => by simp [sumZ]
  | x :: r, b => by rw [List.cons_append, sumZ, sumZ, sumZ_append r b]; omega
theorem sumZ_perm {a b : List Int} (h : List.Perm a b) : sumZ a = sumZ b := by
  induction h with
  | nil => rfl
  | cons x _ ih => rw [sumZ, sumZ, ih]
  | swap x y l => simp only [sumZ]; omega
  | trans _ _ h1 h2 => rw [h1, h2]
theorem sumZ_take (l : List Int) (k : Nat) (h : k < l.length) : sumZ (l.take (k + 1)) = sumZ (l.take k) + l[k] := by
  rw [List.take_succ_eq_append_getElem h, sumZ_append]
  simp [sumZ]
theorem map_inj {α β : Type} (f : α → β) : ∀ (l : List α), (l.map f).Nodup → ∀ x ∈ l, ∀ y ∈ l, f x = f y → x = y
  | [], _, x, hx, _, _, _ => by cases hx
  | a :: r, hn, x, hx, y, hy, he => by
    rw [List.map_cons, List.nodup_cons] at hn
    rcases List.mem_cons.1 hx with h1 | h1
    · rcases List.mem_cons.1 hy with h2 | h2
      · rw [h1, h2]
      · exact absurd (List.mem_map.2 ⟨y, h2, by rw [← he, h1]⟩) hn.1
    · rcases List.mem_cons.1 hy with h2 | h2
      · exact absurd (List.mem_map.2 ⟨x, h1, by rw [he, h2]⟩) hn.1
      · exact map_inj f r hn.2 x h1 y h2 he
theorem find_self {tr : Int} {ls : List Label} (h : VT tr ls) (l : Label) (hl : l ∈ usedL ls) : findL ls (refL l) = l := by
  obtain ⟨k, hk, hf, hr, he, _⟩ := find_is h (refL l) (sortR_mem.2 (List.mem_map.2 ⟨l, hl, rfl⟩))
  rw [hf]
  refine map_inj keyL (usedL ls) h.key _ (List.mem_filter.2 ⟨List.getElem_mem hk, by rw [he]; rfl⟩) _ hl ?_
  unfold refL at hr
  simp only [Ref.mk.injEq] at hr
  unfold keyL
  rw [hr.1, hr.2]
theorem sum_used (f : Label → Int) (g : Ref → Int) : ∀ l : List Label, (∀ x ∈ l, g (refL x) = f x) → sumZ ((l.map refL).map g) = sumZ (l.map f)
  | [], _ => rfl
  | x :: r, h => by
    rw [List.map_cons, List.map_cons, List.map_cons, sumZ, sumZ, sum_used f g r fun y hy => h y (by simp [hy]), h x (by simp)]
theorem sum_len : ∀ ls : List Label, sumZ ((usedL ls).map fun l => 1024 * ((seq l.ext).length : Int)) = 1024 * ((allT ls).length : Int)
  | [] => rfl
  | l :: r => by
    have ih := sum_len r
    have ha : allT (l :: r) = seq l.ext ++ allT r := by simp [allT]
    rw [ha, List.length_append]
    unfold usedL at *
    cases hq : emptyL l with
    | true =>
      rw [List.filter_cons_of_neg (by rw [hq]; decide), ih, (emptyL_iff l).1 hq]
      simp [zeroL, seq]
    | false =>
      rw [List.filter_cons_of_pos (by rw [hq]; decide), List.map_cons, sumZ, ih]
      omega
theorem bytes_sum {tr : Int} {ls : List Label} (h : VT tr ls) : sumZ (bytesS ls) = 1024 * (scrubS tr ls).used := by
  have hp : List.Perm (bytesS ls) ((refsOf ls).map (byteI ls)) := (List.mergeSort_perm _ _).map _
  rw [sumZ_perm hp]
  show sumZ (((usedL ls).map refL).map (byteI ls)) = 1024 * cntU ls (tt tr) (spanN tr)
  rw [used_of h, ← sum_len, sum_used (fun l => 1024 * ((seq l.ext).length : Int)) (byteI ls)]
  intro x hx
  unfold byteI
  rw [find_self h x hx]
end Go.Proofs.YtjdmgpefjehkaaaGreatDoor
