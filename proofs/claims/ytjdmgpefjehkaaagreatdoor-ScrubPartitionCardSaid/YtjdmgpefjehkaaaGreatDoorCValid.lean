/- What label.ValidName tells depends on the name alone. contents.Valid: its first test. (Under way.) Maps of any kind of key at their block: what a map says of each key, as a function; look-up and update as runs. contents.Valid: the walk. -/
import Derived.Test.YtjdmgpefjehkaaaGreatDoorProg
import Derived.Test.YtjdmgpefjehkaaaGreatDoorBase
import Derived.Test.YtjdmgpefjehkaaaGreatDoorLValid
import Derived.Test.YtjdmgpefjehkaaaGreatDoorExValid
import Derived.Deep.QuietTactic
import Derived.BigQuiet
import Derived.Test.YtjdmgpefjehkaaaGreatDoorMaps
import Derived.Maps.Keyed
import Derived.Test.YtjdmgpefjehkaaaGreatDoorApp
import Derived.DeepKeys4
import Derived.WalkArith
import Derived.Deep.RegionLaw
namespace Go.Proofs.YtjdmgpefjehkaaaGreatDoor
open Go.RowKit
attribute [local go_sem] Instr.field asAgg
set_option maxRecDepth 100000

def okC (c : Nat) : Prop := (65 ≤ c ∧ c ≤ 90) ∨ (48 ≤ c ∧ c ≤ 57)
def NameP (nm : ByteArray) : Prop := ∃ h : 0 < nm.size, nm.size ≤ 8 ∧ 65 ≤ nm[0].toNat ∧ ∀ k (h : k < nm.size), okC nm[k].toNat
open Classical in
noncomputable def nameOk (nm : ByteArray) : Bool := decide (NameP nm)
theorem nameOk_yes {nm : ByteArray} (h : NameP nm) : nameOk nm = true := by simp [nameOk, h]
theorem nameOk_no {nm : ByteArray} (h : ¬ NameP nm) : nameOk nm = false := by simp [nameOk, h]
theorem p_ValidName (nm : ByteArray) (w : World) : Calls Tryz.prog 39 #[.string nm] w fun e w' => e = .returned (.bool (nameOk nm)) ∧ w = w' := by
  by_cases h0 : nm.size < 1
  · have he := Lib.hid (nameOk_no (nm := nm) fun ⟨h, _⟩ => by omega)
    go_enter Tryz.func39, Tryz.ntmps39
    go_wp2
    go_ret
    exact ⟨by rw [he.out]; rfl, rfl⟩
  · by_cases h8 : 8 < nm.size
    · have he := Lib.hid (nameOk_no (nm := nm) fun ⟨h, h1, _⟩ => by omega)
      go_enter Tryz.func39, Tryz.ntmps39
      go_wp2
      go_ret
      exact ⟨by rw [he.out]; rfl, rfl⟩
    · have h1 : 0 < nm.size := by omega
      clear h0
      go_enter Tryz.func39, Tryz.ntmps39
      go_wp2
      · rename_i q
        have he := Lib.hid (nameOk_no (nm := nm) fun ⟨h, _, h2, _⟩ => by omega)
        go_ret
        exact ⟨by rw [he.out]; rfl, rfl⟩
      · rename_i qa qb qc K hK
        have q0 := Lib.hid qc
        clear qc qa qb
        go_loopg [20] nm.size (fun g i wr => ∃ k : Nat, k + g = nm.size ∧ i = .int .i64 k ∧ Hid (∀ j (h : j < nm.size), j < k → okC nm[j].toNat) ∧ w = wr)
        case atStart => exact ⟨0, by omega, rfl, fun j _ h => by omega, rfl⟩
        case round =>
          obtain ⟨k, hk, rfl, hn, hx⟩ := hrel
          have hk := Lib.hid hk
          rcases Nat.lt_or_ge k nm.size with hlt | hge
          · go_wp2
            all_goals first
              | (have hno : ¬ okC nm[k].toNat := (by simp only [okC]; omega)
                 have he := Lib.hid (nameOk_no (nm := nm) fun ⟨_, _, _, h⟩ => hno (h k hlt))
                 clear hno
                 go_ret
                 exact ⟨by rw [he.out]; rfl, by first | exact hx | rfl⟩)
              | (have hy : okC nm[k].toNat := (by simp only [okC]; omega)
                 go_roundg (nm.size - k - 1)
                 case measure => have := hk.out; omega
                 case rel =>
                   refine ⟨k + 1, by omega, by go_num, fun j hj hj2 => ?_, by first | exact hx | rfl⟩
                   rcases Nat.lt_or_ge j k with h3 | h3
                   · exact hn.out j hj h3
                   · have : j = k := by omega
                     subst this
                     exact hy)
          · have he := Lib.hid (nameOk_yes (nm := nm) ⟨h1, by omega, by have := q0.out.2; omega, fun j hj => hn.out j hj (by omega)⟩)
            go_wp2
            go_ret
            exact ⟨by rw [he.out]; rfl, hx⟩
end Go.Proofs.YtjdmgpefjehkaaaGreatDoor
namespace Go.Proofs.YtjdmgpefjehkaaaGreatDoor
open Go.RowKit
attribute [local go_sem] Instr.field asAgg
set_option maxRecDepth 100000

def slotsT (tr : Int) : Int := max 0 (tt tr - 1)
theorem p_Slots (tr : Int) (w : World) : Calls Tryz.prog 40 #[.int .i64 tr] w fun e w' => e = .returned (.int .i64 (slotsT tr)) ∧ w = w' := by
  have HT := fun w => p_tt tr w
  have hb := tt_bd tr
  obtain ⟨b1, b2⟩ := hb
  unfold slotsT
  generalize tt tr = z at *
  go_enter Tryz.func40, Tryz.ntmps40
  go_wp2_with (go_at_call 30; refine (HT _).mono ?_; rintro e w' ⟨rfl, rfl⟩)
  go_ret
  refine ⟨congrArg (fun n => Ending.returned (Value.int IntKind.i64 n)) (?_ : _ = max 0 (z - 1)), rfl⟩
  first | rfl | (split <;> omega) | omega
theorem p_CV0 (nm : ByteArray) (tr : Int) (A : Option Addr) (c : Nat) (ls : List Label) (h : tt tr = 0) (w : World) :
    Calls Tryz.prog 16 #[.agg #[.string nm, .int .i64 tr, .slice A ls.length c]] w fun e w' => e = .returned (.bool false) ∧ Ext w w' := by
  have hu := Tryz.underlying24
  have HT := fun w => p_tt tr w
  rw [h] at HT
  have hx := (Ext.refl w).alloc (.cells #[.string nm, .int .i64 tr, .slice A ls.length c] 24)
  go_enter Tryz.func16, Tryz.ntmps16
  go_wp2_with fail
  go_quiet (first | (go_at_call 30; exact quietC (HT _)))
  go_wp2
  go_ret
  exact ⟨rfl, hx.drewN _⟩
theorem p_CV1 (nm : ByteArray) (tr : Int) (A : Option Addr) (c : Nat) (ls : List Label) (h : tt tr ≠ 0) (hn : nameOk nm = false) (w : World) :
    Calls Tryz.prog 16 #[.agg #[.string nm, .int .i64 tr, .slice A ls.length c]] w fun e w' => e = .returned (.bool false) ∧ Ext w w' := by
  have hu := Tryz.underlying24
  have HT := fun w => p_tt tr w
  have HN := fun w => p_ValidName nm w
  rw [hn] at HN
  have hx := (Ext.refl w).alloc (.cells #[.string nm, .int .i64 tr, .slice A ls.length c] 24)
  have h1 : (tt tr == 0) = false := by simp [h]
  clear hn h
  generalize tt tr = z at *
  go_enter Tryz.func16, Tryz.ntmps16
  go_wp2_with fail
  go_quiet (first | (go_at_call 30; exact quietC (HT _)) | (go_at_call 39; exact quietC (HN _)))
  go_wp2
  go_ret
  exact ⟨rfl, hx.drewN _⟩
theorem p_CV2 (nm : ByteArray) (tr : Int) (A : Option Addr) (c : Nat) (ls : List Label) (h : tt tr ≠ 0) (hn : nameOk nm = true) (hl : (ls.length : Int) ≠ slotsT tr) (w : World) :
    Calls Tryz.prog 16 #[.agg #[.string nm, .int .i64 tr, .slice A ls.length c]] w fun e w' => e = .returned (.bool false) ∧ Ext w w' := by
  have hu := Tryz.underlying24
  have HT := fun w => p_tt tr w
  have HN := fun w => p_ValidName nm w
  have HS := fun w => p_Slots tr w
  rw [hn] at HN
  have hx := (Ext.refl w).alloc (.cells #[.string nm, .int .i64 tr, .slice A ls.length c] 24)
  have h1 : (tt tr == 0) = false := by simp [h]
  have h2 : ((ls.length : Int) != slotsT tr) = true := by simp [hl]
  clear hn h hl
  generalize slotsT tr = y at *
  generalize tt tr = z at *
  go_enter Tryz.func16, Tryz.ntmps16
  go_wp2_with fail
  go_quiet (first | (go_at_call 30; exact quietC (HT _)) | (go_at_call 39; exact quietC (HN _)) | (go_at_call 40; exact quietC (HS _)))
  go_wp2
  go_ret
  exact ⟨rfl, hx.drewN _⟩
end Go.Proofs.YtjdmgpefjehkaaaGreatDoor
namespace Go.Proofs.YtjdmgpefjehkaaaGreatDoor
open Go.RowKit
open Go.Maps (Keyed)

/-- The map at block r says f of the keys of type k. -/
def MAt (P : Program) (k : TypeId) (w : World) (r : Nat) (f : Value → Option Value) : Prop :=
  ∃ (es : Array MapEntry) (ck : Nat), w.heap[r]? = some (.map es ck) ∧ (∀ e ∈ es.toList, ∃ l, keyOf P k e.key = some l) ∧ es.toList.Pairwise (fun a b => a.key ≠ b.key) ∧
    (∀ e ∈ es.toList, f e.key = some e.val) ∧ ∀ x, f x ≠ none → ∃ e ∈ es.toList, e.key = x
section
variable {P : Program} {k t et : TypeId} {w : World} {r : Nat} {f : Value → Option Value}
theorem MAt.new (P : Program) (k : TypeId) (w : World) : MAt P k (w.alloc (.map #[] 0)) w.heap.size (fun _ => none) :=
  ⟨#[], 0, heap_alloc_new w _, by simp, by simp, by simp, by simp⟩
theorem MAt.kept {w' : World} (h : MAt P k w r f) (hk : w'.heap[r]? = w.heap[r]?) : MAt P k w' r f := by
  obtain ⟨es, ck, h1, h2⟩ := h
  exact ⟨es, ck, hk.trans h1, h2⟩
theorem MAt.lt (h : MAt P k w r f) : r < w.heap.size := by
  obtain ⟨es, ck, h1, _⟩ := h
  exact (Array.getElem?_eq_some_iff.1 h1).1
theorem MAt.ext {w' : World} (h : MAt P k w r f) (hx : Ext w w') : MAt P k w' r f := h.kept (hx.block r h.lt)
theorem MAt.drewN (h : MAt P k w r f) (n : Nat) : MAt P k (w.drewN n) r f := h
theorem MAt.far (h : MAt P k w r f) {p : Addr} (hp : r ≠ p.block) (u : Value) : MAt P k (w.setCell p u) r f := h.kept (Below.heap_setCell w p u r hp)
theorem MAt.grown {w' : World} (h : MAt P k w r f) {row : Option Nat} (hb : w.grownBy w' row) (hg : some r ≠ row) : MAt P k w' r f := h.kept (hb.block r h.lt hg)
theorem MAt.notBlk {t : TypeId} {cs : List Value} (h : MAt P k w r f) {g : Nat} (hB : Blk w g t cs) : g ≠ r := by
  rintro rfl
  obtain ⟨es, ck, h1, _⟩ := h
  unfold Blk at hB
  rw [h1] at hB
  cases hB
theorem MAt.notRow {base n size : Nat} {e : TypeId} {v : Value} {xs : List Value} (h : MAt P k w r f) (ho : w.ownsRow base e size v n xs) : some r ≠ v.ownBlock := by
  rcases ho.2 with ⟨rfl, _⟩ | ⟨g', cap, cur, rfl, _, hh, _⟩
  · simp [Value.ownBlock]
  · intro he
    have : r = g' := by simpa [Value.ownBlock] using he
    subst this
    obtain ⟨es, ck, h1, _⟩ := h
    rw [hh] at h1
    cases h1
theorem MAt.get (h : MAt P k w r f) (K : Keyed P k) (hm : P.underlying t = some (.map k et)) {x : Value} {l : Lit} (hx : keyOf P k x = some l) {v : Value} (hv : f x = some v) (c : Bool) :
    (Instr.lookup t (.map (some r)) x c).run P w = .ok (if c then .tuple #[v, .bool true] else v) w := by
  obtain ⟨es, ck, h1, h2, h3, h4, h5⟩ := h
  have hc := K.check w es.isEmpty hx
  rcases K.find w hx es.toList h2 with ⟨_, hn⟩ | ⟨j, e, hf, hj, he⟩
  · obtain ⟨e, he, hk⟩ := h5 x (by rw [hv]; simp)
    exact absurd hk (hn e he)
  · have hev := h4 e (List.mem_of_getElem? hj)
    rw [he, hv] at hev
    injection hev with hev
    subst hev
    simp [Instr.lookup, run_underlying hm, MapKept.run_getObj_map h1, hc, hf, Result.andThen]
theorem MAt.miss (h : MAt P k w r f) (K : Keyed P k) (hm : P.underlying t = some (.map k et)) {x : Value} {l : Lit} (hx : keyOf P k x = some l) {z : Value} (hz : (zeroValue et).run P w = .ok z w) (hv : f x = none) (c : Bool) :
    (Instr.lookup t (.map (some r)) x c).run P w = .ok (if c then .tuple #[z, .bool false] else z) w := by
  obtain ⟨es, ck, h1, h2, h3, h4, h5⟩ := h
  have hc := K.check w es.isEmpty hx
  rcases K.find w hx es.toList h2 with ⟨hf, _⟩ | ⟨j, e, _, hj, he⟩
  · simp [Instr.lookup, run_underlying hm, MapKept.run_getObj_map h1, hc, hf, hz, Result.andThen]
  · have hev := h4 e (List.mem_of_getElem? hj)
    rw [he, hv] at hev
    cases hev
open Classical in
noncomputable def putF (f : Value → Option Value) (x v : Value) : Value → Option Value := fun y => if y = x then some v else f y
theorem putF_same (f : Value → Option Value) (x v : Value) : putF f x v x = some v := by simp [putF]
theorem putF_other (f : Value → Option Value) {x y : Value} (v : Value) (h : y ≠ x) : putF f x v y = f y := by simp [putF, h]
theorem MAt.put (h : MAt P k w r f) (K : Keyed P k) (hm : P.underlying t = some (.map k et)) {x : Value} {l : Lit} (hx : keyOf P k x = some l) (v : Value) :
    ∃ o, (Instr.mapUpdate t (.map (some r)) x v).run P w = .ok () { w with heap := w.heap.setIfInBounds r o } ∧ MAt P k { w with heap := w.heap.setIfInBounds r o } r (putF f x v) := by
  obtain ⟨es, ck, h1, h2, h3, h4, h5⟩ := h
  have hlt : r < w.heap.size := (Array.getElem?_eq_some_iff.1 h1).1
  have hset : ∀ o : Obj, (w.heap.setIfInBounds r o)[r]? = some o := fun o => by rw [Array.getElem?_setIfInBounds, if_pos rfl, if_pos hlt]
  have hc := K.check w false hx
  rcases K.find w hx es.toList h2 with ⟨hf, hn⟩ | ⟨j, e, hf, hj, he⟩
  · refine ⟨.map (es.push ⟨x, v, ck⟩) (ck + 1), ?_, es.push ⟨x, v, ck⟩, ck + 1, hset _, ?_, ?_, ?_, ?_⟩
    · simp [Instr.mapUpdate, run_underlying hm, MapKept.run_getObj_map h1, hc, hf, MapKept.run_setObj_map _ h1, Result.andThen]
    · intro e he
      rw [Array.toList_push] at he
      rcases List.mem_append.1 he with he | he
      · exact h2 e he
      · obtain rfl := List.mem_singleton.1 he
        exact ⟨l, hx⟩
    · rw [Array.toList_push, List.pairwise_append]
      refine ⟨h3, by simp, fun a ha b hb => ?_⟩
      obtain rfl := List.mem_singleton.1 hb
      exact hn a ha
    · intro e he
      rw [Array.toList_push] at he
      rcases List.mem_append.1 he with he | he
      · rw [putF_other f v (hn e he)]; exact h4 e he
      · obtain rfl := List.mem_singleton.1 he
        exact putF_same f x v
    · intro y hy
      rw [Array.toList_push]
      by_cases hyx : y = x
      · exact ⟨⟨x, v, ck⟩, by simp, hyx.symm⟩
      · rw [putF_other f v hyx] at hy
        obtain ⟨e, he, hk⟩ := h5 y hy
        exact ⟨e, List.mem_append_left _ he, hk⟩
  · have hjs : es[j]? = some e := by rw [← Array.getElem?_toList]; exact hj
    have hst := K.stays w (v := x) hx
    obtain ⟨hjl, hje⟩ := List.getElem?_eq_some_iff.1 hj
    have hmod : (es.modify j fun e => { e with key := x, val := v }).toList = es.toList.set j { e with key := x, val := v } := by
      apply List.ext_getElem?
      intro i
      rw [Array.getElem?_toList, Array.getElem?_modify, List.getElem?_set, ← Array.getElem?_toList]
      by_cases hij : j = i
      · subst hij
        have hjl' : j < es.size := by simpa using hjl
        rw [if_pos rfl, if_pos rfl, hj]
        simp [hjl']
      · rw [if_neg hij, if_neg hij]
    have huniq : ∀ i (a : MapEntry), es.toList[i]? = some a → a.key = x → i = j := by
      intro i a hi ha
      obtain ⟨hil, hia⟩ := List.getElem?_eq_some_iff.1 hi
      rw [List.pairwise_iff_getElem] at h3
      rcases Nat.lt_trichotomy i j with hlt | heq | hgt
      · exact absurd (by rw [hia, hje, ha, he]) (h3 i j hil hjl hlt)
      · exact heq
      · exact absurd (by rw [hia, hje, ha, he]) (h3 j i hjl hil hgt)
    refine ⟨.map (es.modify j fun e => { e with key := x, val := v }) ck, ?_, es.modify j fun e => { e with key := x, val := v }, ck, hset _, ?_, ?_, ?_, ?_⟩
    · simp [Instr.mapUpdate, run_underlying hm, MapKept.run_getObj_map h1, hc, hf, MapKept.run_setObj_map _ h1, Result.andThen, hjs, he, hst]
    · intro a ha
      rw [hmod] at ha
      rcases List.mem_or_eq_of_mem_set ha with ha | rfl
      · exact h2 a ha
      · exact ⟨l, hx⟩
    · rw [hmod]
      rw [List.pairwise_iff_getElem] at h3 ⊢
      intro i i2 hi hi2 hlt
      have hi' : i < es.toList.length := by simpa using hi
      have hi2' : i2 < es.toList.length := by simpa using hi2
      rw [List.getElem_set, List.getElem_set]
      have := h3 i i2 hi' hi2' hlt
      split
      · rename_i e1
        subst e1
        rw [if_neg (by omega)]
        rw [hje, he] at this
        exact this
      · split
        · rename_i e1
          subst e1
          rw [hje, he] at this
          exact this
        · exact this
    · intro a ha
      rw [hmod] at ha
      obtain ⟨i, hi⟩ := List.getElem?_of_mem ha
      rw [List.getElem?_set] at hi
      by_cases hij : j = i
      · rw [if_pos hij] at hi
        split at hi
        · injection hi with hi
          subst hi
          exact putF_same f x v
        · rename_i hh
          exact absurd hjl hh
      · rw [if_neg hij] at hi
        rw [putF_other f v (fun hk => hij (huniq i a hi hk).symm)]
        exact h4 a (List.mem_of_getElem? hi)
    · intro y hy
      rw [hmod]
      by_cases hyx : y = x
      · exact ⟨_, List.mem_of_getElem? (by rw [List.getElem?_set, if_pos rfl, if_pos hjl]), hyx.symm⟩
      · rw [putF_other f v hyx] at hy
        obtain ⟨a, ha, hk⟩ := h5 y hy
        obtain ⟨i, hi⟩ := List.getElem?_of_mem ha
        have hij : j ≠ i := by
          rintro rfl
          rw [hj] at hi
          injection hi with hi
          subst hi
          exact hyx (hk.symm.trans he)
        exact ⟨a, List.mem_of_getElem? (by rw [List.getElem?_set, if_neg hij]; exact hi), hk⟩
end
theorem grown_put (w : World) (r : Nat) (o : Obj) : w.grownBy { w with heap := w.heap.setIfInBounds r o } (some r) :=
  ⟨rfl, rfl, rfl, by show w.heap.size ≤ (w.heap.setIfInBounds r o).size; simp, fun i _ hi => by
    show (w.heap.setIfInBounds r o)[i]? = _
    rw [Array.getElem?_setIfInBounds, if_neg (fun e => hi (by rw [e]))]⟩
theorem MAt.store {P : Program} {k t et : TypeId} {w : World} {r : Nat} {f : Value → Option Value} (h : MAt P k w r f) (K : Keyed P k) (hm : P.underlying t = some (.map k et)) {x : Value} {l : Lit} (hx : keyOf P k x = some l) (v : Value) :
    ∃ w', (Instr.mapUpdate t (.map (some r)) x v).run P w = .ok () w' ∧ MAt P k w' r (putF f x v) ∧ w.grownBy w' (some r) := by
  obtain ⟨o, h1, h2⟩ := h.put K hm hx v
  exact ⟨_, h1, h2, grown_put w r o⟩
theorem MAt.congr {P : Program} {k : TypeId} {w : World} {r : Nat} {f g : Value → Option Value} (h : MAt P k w r f) (e : ∀ x, f x = g x) : MAt P k w r g := by
  have : f = g := funext e
  exact this ▸ h
end Go.Proofs.YtjdmgpefjehkaaaGreatDoor
namespace Go.Proofs.YtjdmgpefjehkaaaGreatDoor
open Go.RowKit
open Go.Maps (Keyed)
attribute [local go_sem] Instr.field asAgg
set_option maxRecDepth 100000

def kindV (p : Int × Bool) : Value := .agg #[.int .i64 p.1, .bool p.2]
theorem kindV_inj {p q : Int × Bool} (h : kindV p = kindV q) : p = q := by
  unfold kindV at h
  injection h with h
  have h1 := congrArg (fun a : Array Value => a.toList) h
  simp at h1
  exact Prod.ext h1.1 h1.2
theorem kind_laid : laidOutB Tryz.prog = true := by kernel_rfl
theorem kind_row : 75 < Tryz.prog.types.size := of_decide_eq_true (by kernel_rfl)
theorem kind_law : Keyed Tryz.prog 75 := Keyed.of_law (deep_law_laid kind_laid (m := 2) (by omega) kind_row (by kernel_rfl) (by kernel_rfl))
theorem keyOf_kind (p : Int × Bool) (h : I64 p.1) : ∃ l, keyOf Tryz.prog 75 (kindV p) = some l := by
  have hk : Tryz.prog.keyType 75 = true := by kernel_rfl
  have hc : Tryz.prog.cellsOf 75 = 2 := by kernel_rfl
  have c3 : Tryz.prog.cellsOf 3 = 1 := by kernel_rfl
  have c4 : Tryz.prog.cellsOf 4 = 1 := by kernel_rfl
  have hs : ∃ m, Tryz.prog.types.size = m + 1 := ⟨Tryz.prog.types.size - 1, by have := kind_row; omega⟩
  obtain ⟨m, hm⟩ := hs
  have hwf : (Lit.int .i64 p.1).wf = true := WalkArith.wf_i64 h
  unfold keyOf
  simp only [Tryz.underlying75]
  rw [if_pos (by simp [hk, kindV, Value.formed, Tryz.underlying75, hc]), hm]
  unfold Program.keyLits
  simp only [Tryz.underlying75, kindV, Value.cells]
  rw [if_pos (by rw [hc]; exact ⟨rfl, by kernel_rfl⟩)]
  simp [c3, c4, Program.keyLits, Tryz.underlying3, Tryz.underlying4, hwf]
open Classical in
noncomputable def seenF (L : List (Int × Bool)) : Value → Option Value := fun x => if ∃ p ∈ L, kindV p = x then some (.bool true) else none
theorem seenF_yes {L : List (Int × Bool)} {p : Int × Bool} (h : p ∈ L) : seenF L (kindV p) = some (.bool true) := if_pos ⟨p, h, rfl⟩
theorem seenF_no {L : List (Int × Bool)} {p : Int × Bool} (h : p ∉ L) : seenF L (kindV p) = none := if_neg fun ⟨_, hq, e⟩ => h (kindV_inj e ▸ hq)
theorem seenF_nil (x : Value) : seenF [] x = none := if_neg fun ⟨_, h, _⟩ => by cases h
theorem seenF_put (L : List (Int × Bool)) (p : Int × Bool) (x : Value) : putF (seenF L) (kindV p) (.bool true) x = seenF (L ++ [p]) x := by
  unfold putF seenF
  by_cases h1 : x = kindV p
  · rw [if_pos h1, if_pos ⟨p, by simp, h1.symm⟩]
  · rw [if_neg h1]
    by_cases h2 : ∃ p ∈ L, kindV p = x
    · obtain ⟨q, hq, e⟩ := h2
      rw [if_pos ⟨q, hq, e⟩, if_pos ⟨q, by simp [hq], e⟩]
    · rw [if_neg h2, if_neg]
      rintro ⟨q, hq, e⟩
      rcases List.mem_append.1 hq with hq | hq
      · exact h2 ⟨q, hq, e⟩
      · rw [List.mem_singleton.1 hq] at e
        exact h1 e.symm
abbrev Seen (w : World) (r : Nat) (L : List (Int × Bool)) : Prop := MAt Tryz.prog 75 w r (seenF L)
theorem zero_bool (w : World) : (zeroValue 4).run Tryz.prog w = .ok (.bool false) w := by kernel_rfl
theorem seen_get {w : World} {r : Nat} {L : List (Int × Bool)} (h : Seen w r L) (p : Int × Bool) (hp : I64 p.1) : (Instr.lookup 73 (.map (some r)) (.agg #[.int .i64 p.1, .bool p.2]) false).run Tryz.prog w = .ok (.bool (decide (p ∈ L))) w := by
  obtain ⟨l, hl⟩ := keyOf_kind p hp
  by_cases hm : p ∈ L
  · rw [decide_eq_true hm]
    exact h.get kind_law Tryz.underlying73 hl (seenF_yes hm) false
  · rw [decide_eq_false hm]
    exact h.miss kind_law Tryz.underlying73 hl (zero_bool w) (seenF_no hm) false
theorem seen_put {w : World} {r : Nat} {L : List (Int × Bool)} (h : Seen w r L) (p : Int × Bool) (hp : I64 p.1) : ∃ w', (Instr.mapUpdate 73 (.map (some r)) (.agg #[.int .i64 p.1, .bool p.2]) (.bool true)).run Tryz.prog w = .ok () w' ∧ Seen w' r (L ++ [p]) ∧ w.grownBy w' (some r) := by
  obtain ⟨l, hl⟩ := keyOf_kind p hp
  obtain ⟨w', h1, h2, h3⟩ := h.store kind_law Tryz.underlying73 hl (.bool true)
  exact ⟨w', h1, h2.congr (seenF_put L p), h3⟩

/-! ### what it tells -/
def usedL (ls : List Label) : List Label := ls.filter fun l => !emptyL l
def keyL (l : Label) : Int × Bool := (l.id, decide (0 < l.unit))
def extU (ls : List Label) : List Run := (usedL ls).flatMap (·.ext)
noncomputable def validT (nm : ByteArray) (tr : Int) (ls : List Label) : Bool :=
  !(tt tr == 0) && nameOk nm && decide ((ls.length : Int) = slotsT tr) && ((usedL ls).all (validL tr) && decide ((usedL ls).map keyL).Nodup && decide (seq (extU ls)).Nodup)
theorem used_yes (ls : List Label) (k : Nat) (hk : k < ls.length) (h : emptyL ls[k] = true) : usedL (ls.take (k + 1)) = usedL (ls.take k) := by
  unfold usedL; rw [List.take_succ_eq_append_getElem hk, List.filter_append, List.filter_cons_of_neg (by rw [h]; decide), List.filter_nil]; exact List.append_nil _
theorem used_no (ls : List Label) (k : Nat) (hk : k < ls.length) (h : emptyL ls[k] = false) : usedL (ls.take (k + 1)) = usedL (ls.take k) ++ [ls[k]] := by
  unfold usedL; rw [List.take_succ_eq_append_getElem hk, List.filter_append, List.filter_cons_of_pos (by rw [h]; rfl), List.filter_nil]
theorem used_in (ls : List Label) (k : Nat) (hk : k < ls.length) (h : emptyL ls[k] = false) : ∃ r, usedL ls = usedL (ls.take k) ++ ls[k] :: r := by
  refine ⟨usedL (ls.drop (k + 1)), ?_⟩
  have : ls = ls.take (k + 1) ++ ls.drop (k + 1) := (List.take_append_drop _ _).symm
  conv => lhs; rw [this]
  unfold usedL at *
  rw [List.filter_append]
  have h2 := used_no ls k hk h
  unfold usedL at h2
  rw [h2, List.append_assoc]
  rfl
theorem valid_bad {nm : ByteArray} {tr : Int} {ls : List Label} {k : Nat} (hk : k < ls.length) (h : emptyL ls[k] = false) (hv : validL tr ls[k] = false) : validT nm tr ls = false := by
  obtain ⟨r, hr⟩ := used_in ls k hk h
  have : (usedL ls).all (validL tr) = false := by rw [hr]; simp [hv]
  simp [validT, this]
theorem valid_twice {nm : ByteArray} {tr : Int} {ls : List Label} {k : Nat} (hk : k < ls.length) (h : emptyL ls[k] = false) (hv : keyL ls[k] ∈ (usedL (ls.take k)).map keyL) : validT nm tr ls = false := by
  obtain ⟨r, hr⟩ := used_in ls k hk h
  have : ¬ ((usedL ls).map keyL).Nodup := by
    rw [hr, List.map_append, List.map_cons, List.nodup_append]
    intro hn
    exact hn.2.2 _ hv _ (by simp) rfl
  simp [validT, this]
theorem extU_len : ∀ (l : List Label), (∀ x ∈ l, x.ext.length ≤ 16) → (l.flatMap (·.ext)).length ≤ 16 * l.length
  | [], _ => by simp
  | x :: r, h => by
    have := extU_len r fun y hy => h y (by simp [hy])
    have h2 := h x (by simp)
    rw [List.flatMap_cons, List.length_append, List.length_cons]
    omega
theorem valid16 {tr : Int} {l : Label} (h : validL tr l = true) : l.ext.length ≤ 16 := by
  simp only [validL, c4, Bool.and_eq_true, decide_eq_true_eq] at h
  omega
theorem slots_bd (tr : Int) : 0 ≤ slotsT tr ∧ slotsT tr ≤ 31 := by
  have := tt_bd tr
  unfold slotsT
  omega

set_option maxHeartbeats 4000000 in
theorem p_CV3 (nm : ByteArray) (tr : Int) (A : Option Addr) (c : Nat) (ls : List Label) (hse : ∀ l ∈ ls, (l.ext.length : Int) ≤ 1000000) (h : tt tr ≠ 0) (hn : nameOk nm = true) (hl : (ls.length : Int) = slotsT tr) (w : World) (hA : Labels w A ls) :
    Calls Tryz.prog 16 #[.agg #[.string nm, .int .i64 tr, .slice A ls.length c]] w fun e w' => e = .returned (.bool (validT nm tr ls)) ∧ Ext w w' := by
  have hu := Tryz.underlying24
  have hu2 := Tryz.underlying43
  have hu3 := Tryz.underlying75
  have hmm := run_mk
  have HT := fun w => p_tt tr w
  have HN := fun w => p_ValidName nm w
  have HS := fun w => p_Slots tr w
  rw [hn] at HN
  rw [← hl] at HS
  have hln : (ls.length : Int) ≤ 31 := by have := slots_bd tr; omega
  have hV := Lib.hid (show validT nm tr ls = ((usedL ls).all (validL tr) && decide ((usedL ls).map keyL).Nodup && decide (seq (extU ls)).Nodup) by simp [validT, h, hn, hl])
  have hxA := (Ext.refl w).alloc (.cells #[.string nm, .int .i64 tr, .slice A ls.length c] 24)
  have hTA := Blk.new w 24 [.string nm, .int .i64 tr, .slice A ls.length c]
  have h1 : (tt tr == 0) = false := by simp [h]
  clear hn h hl
  generalize hz : tt tr = z at HT h1
  clear hz
  go_enter Tryz.func16, Tryz.ntmps16
  go_wp2_with fail
  go_quiet (first | (go_at_call 30; exact quietC (HT _)) | (go_at_call 39; exact quietC (HN _)) | (go_at_call 40; exact quietC (HS _)))
  clear HT HN HS h1
  have hxB := hxA.drewN nq
  have hTB := hTA.drewN nq
  clear hxA hTA
  generalize World.drewN _ nq = w1 at hxB hTB ⊢
  have hM0 : Seen (w1.alloc (.map #[] 0)) w1.heap.size [] := (MAt.new Tryz.prog 75 w1).congr fun x => (seenF_nil x).symm
  have hx2 := hxB.alloc (.map #[] 0)
  have hT2 := hTB.alloc (.map #[] 0)
  have hwl := hxB.le
  have dd2 := hTB.cell 2 rfl
  have dl := hTB.lt
  go_wp2
  generalize hmb : w1.heap.size = mb at *
  clear hmb
  go_loopg [3, 31] ls.length (fun g v i wr => ∃ k : Nat, k + g = ls.length ∧ i = .int .i64 k ∧ wr.ownsRow w.heap.size 68 2 v (extU (ls.take k)).length ((extU (ls.take k)).flatMap runCells) ∧ Seen wr mb ((usedL (ls.take k)).map keyL) ∧ Hid ((∀ l ∈ usedL (ls.take k), validL tr l = true) ∧ ((usedL (ls.take k)).map keyL).Nodup) ∧ Blk wr w.heap.size 24 [.string nm, .int .i64 tr, .slice A ls.length c] ∧ Ext w wr)
  case atStart => exact ⟨0, by omega, rfl, World.ownsRow_nil _ _ _ _, hM0, ⟨by simp [usedL], by simp [usedL]⟩, hT2, hx2⟩
  case round =>
    clear hxB hTB hM0 hx2 hT2 dd2
    obtain ⟨k, hk, rfl, ho, hM, hP, hT, hx⟩ := hrel
    have hk := Lib.hid hk
    have d2 := hT.cell 2 rfl
    have d1 := hT.cell 1 rfl
    rcases Nat.lt_or_ge k ls.length with hlt | hge
    · obtain ⟨b, o, B, cB, rfl, a0, a1, a2, a3, a4, hR, hc⟩ := hA.at_ hlt
      have h0 := hx.cell a0
      have h1 := hx.cell a1
      have h2 := hx.cell a2
      have h3 := hx.cell a3
      have h4 := hx.cell a4
      have hlk := hA.okAt hlt
      have hsk := hse _ (List.getElem_mem hlt)
      have hy := Lib.hid (used_yes ls k hlt)
      have hn := Lib.hid (used_no ls k hlt)
      have hbad := Lib.hid (fun h h' => valid_bad (nm := nm) (tr := tr) hlt h h')
      have htw := Lib.hid (fun h h' => valid_twice (nm := nm) (tr := tr) hlt h h')
      have hel := extU_len (usedL (ls.take k)) (fun x hx => valid16 (hP.out.1 x hx))
      have hul : (usedL (ls.take k)).length ≤ k := Nat.le_trans (List.length_filter_le _ _) (by simp; omega)
      change (extU (ls.take k)).length ≤ _ at hel
      have HE := fun w => p_empty ls[k] B cB w
      have HV := fun w => p_LValid ls[k] B cB tr w
      cases hq : emptyL ls[k] with
      | true =>
        rw [hq] at HE
        have hq := Lib.hid hq
        go_wp2_with (go_at_call 41; refine (HE _ (hR.ext ((hx.alloc _)))).mono ?_; rintro e w2 ⟨rfl, eB⟩; have hxx := ((Ext.refl wr).alloc (.cells #[.int .i64 ls[k].id, .int .i64 ls[k].unit, .string ls[k].name, .string ls[k].note, .slice B ls[k].ext.length cB] 43)).trans eB)
        go_roundg (ls.length - k - 1)
        case measure => have := hk.out; omega
        case rel => exact ⟨k + 1, by omega, by go_num, by unfold extU; rw [hy.out hq.out]; exact own_ext ho hxx, by rw [hy.out hq.out]; exact hM.ext hxx, by unfold Hid; rw [hy.out hq.out]; exact hP, hT.ext hxx, hx.trans hxx⟩
      | false =>
        rw [hq] at HE
        have hq := Lib.hid hq
        have hxl := hx.alloc (.cells #[.int .i64 ls[k].id, .int .i64 ls[k].unit, .string ls[k].name, .string ls[k].note, .slice B ls[k].ext.length cB] 43)
        have hL := Blk.new wr 43 [.int .i64 ls[k].id, .int .i64 ls[k].unit, .string ls[k].name, .string ls[k].note, .slice B ls[k].ext.length cB]
        have hel1 := (Ext.refl wr).alloc (.cells #[.int .i64 ls[k].id, .int .i64 ls[k].unit, .string ls[k].name, .string ls[k].note, .slice B ls[k].ext.length cB] 43)
        go_wp2_with fail
        refine (HE _ (hR.ext hxl)).mono ?_
        rintro e w2 ⟨rfl, eB⟩
        have hL2 := hL.ext eB
        have ex2 := hel1.trans eB
        have hx2 := hx.trans ex2
        have hT2 := hT.ext ex2
        have hM2 := hM.ext ex2
        have ho2 := own_ext ho ex2
        clear hxl hL hel1 eB h0 h1 h2 h3 h4 d1 d2 hT hM ho hx
        have l0 := hL2.cell 0 rfl
        have l1 := hL2.cell 1 rfl
        have l2 := hL2.cell 2 rfl
        have l3 := hL2.cell 3 rfl
        have l4 := hL2.cell 4 rfl
        have t1 := hT2.cell 1 rfl
        have lt1 := hT2.lt
        have lt2 := hL2.lt
        have hxk := hx2.alloc (.cells #[.int .i64 ls[k].id, .bool (decide (0 < ls[k].unit))] 75)
        have hK := Blk.new w2 75 [.int .i64 ls[k].id, .bool (decide (0 < ls[k].unit))]
        have ek := (Ext.refl w2).alloc (.cells #[.int .i64 ls[k].id, .bool (decide (0 < ls[k].unit))] 75)
        cases hv : validL tr ls[k] with
        | false =>
          rw [hv] at HV
          have hV2 := Lib.hid (hbad.out hq.out hv)
          clear hv
          go_wp2_with (go_at_call 42; refine (HV _ (hR.ext hxk) (by omega)).mono ?_; rintro e w3 ⟨rfl, eC⟩)
          go_ret
          exact ⟨by rw [hV2.out]; rfl, hx2.trans (ek.trans eC)⟩
        | true =>
          rw [hv] at HV
          have hv2 := Lib.hid hv
          clear hv
          go_wp2_with fail
          refine (HV _ (hR.ext hxk) (by omega)).mono ?_
          rintro e w3 ⟨rfl, eC⟩
          have e3 := ek.trans eC
          have hL3 := hL2.ext e3
          have hT3 := hT2.ext e3
          have hM3 := hM2.ext e3
          have ho3 := own_ext ho2 e3
          have hx3 := hx2.trans e3
          have hK3 := hK.ext eC
          have k0 := hK3.cell 0 rfl
          have k1 := hK3.cell 1 rfl
          have hget : (Instr.lookup 73 (.map (some mb)) (.agg #[.int .i64 ls[k].id, .bool (decide (0 < ls[k].unit))]) false).run Tryz.prog w3 = .ok (.bool (decide (keyL ls[k] ∈ (usedL (ls.take k)).map keyL))) w3 := seen_get hM3 (keyL ls[k]) hlk.1
          by_cases hm : keyL ls[k] ∈ (usedL (ls.take k)).map keyL
          · have hV2 := Lib.hid (htw.out hq.out hm)
            rw [decide_eq_true hm] at hget
            clear hm
            go_wp2
            go_ret
            exact ⟨by rw [hV2.out]; rfl, hx3⟩
          · rw [decide_eq_false hm] at hget
            have hm := Lib.hid hm
            go_wp2
            have lt3 := hM3.lt
            have m4 := hL3.cell 4 rfl
            have lb : ((extU (ls.take k)).length : Int) ≤ 16 * 31 := by omega
            have hlow := fun q hq => (ho3.lt q hq).1
            have hfk := own_far ho3 hK3 (by decide)
            have hft := own_far ho3 hT3 (by decide)
            go_region_law ((refine step_src w.heap.size rfl _ _ _ 68 (.agg #[.int .i64 0, .int .i64 0]) 2 16 rfl Tryz.underlying41 run_info rfl (by omega) (by omega) u3 _ _ B ls[k].ext.length cB (ls[k].ext.flatMap runCells) rfl rfl (runs_len _) (runs_one _) (hR.ext hx3.drew).sl (own_ext ho3 (Ext.refl _).drew) (by have := hx3.le; exact this) (by omega) ?_; intro v1 w4 oB gA _; have hM4 := MAt.grown (w' := w4) (MAt.drewN hM3 1) gA (hM3.notRow ho3); obtain ⟨w5, hput, hM5, gB⟩ := seen_put hM4 (keyL ls[k]) hlk.1; have hO5 := oB.kept gB (.inr (fun e => hM4.notRow oB e.symm)); have hT4 := Blk.grown (Blk.drewN hT3 1) gA hft; have hT5 := hT4.grown gB (fun e => hM4.notBlk hT4 (Option.some.inj e)); have hx5 := (hx3.drew.grown gA hlow).grown gB (fun q hq => by obtain rfl := Option.some.inj hq; omega); have hK4 := Blk.grown (Blk.drewN hK3 1) gA hfk; have k0 := hK4.cell 0 rfl; have k1 := hK4.cell 1 rfl; simp only [keyL] at hput))
            all_goals
              go_wp2
              go_roundg (ls.length - k - 1)
              case measure => have := hk.out; omega
              case rel =>
                refine ⟨k + 1, by omega, by go_num, ?_, ?_, ?_, hT5, hx5⟩
                · unfold extU at hO5 ⊢
                  rw [hn.out hq.out, List.flatMap_append, List.flatMap_append, List.length_append]
                  simpa using hO5
                · rw [hn.out hq.out, List.map_append]
                  exact hM5
                · unfold Hid
                  rw [hn.out hq.out, List.map_append]
                  refine ⟨fun x hx => ?_, ?_⟩
                  · rcases List.mem_append.1 hx with hx | hx
                    · exact hP.out.1 x hx
                    · rw [List.mem_singleton.1 hx]
                      exact hv2.out
                  · rw [List.nodup_append]
                    refine ⟨hP.out.2, by simp, fun a ha b hb => ?_⟩
                    rw [List.map_singleton, List.mem_singleton] at hb
                    rintro rfl
                    exact hm.out (hb ▸ ha)
    · have hkk : k = ls.length := by have := hk.out; omega
      rw [List.take_of_length_le hge] at ho hM hP
      have hel := extU_len (usedL ls) (fun x hx => valid16 (hP.out.1 x hx))
      have hul : (usedL ls).length ≤ ls.length := List.length_filter_le _ _
      change (extU ls).length ≤ _ at hel
      have hok : ∀ r ∈ extU ls, r.ok := fun r hr => by
        obtain ⟨l, hl, hm⟩ := List.mem_flatMap.1 hr
        obtain ⟨j, hj, rfl⟩ := List.getElem_of_mem (List.mem_filter.1 hl).1
        obtain ⟨_, _, B, cB, _, _, _, _, _, _, hR, _⟩ := hA.at_ hj
        exact hR.ok r hm
      obtain ⟨B, cB, rfl, hBR⟩ : ∃ B cB, u3 = .slice B (extU ls).length cB ∧ Runs wr B (extU ls) := by
        obtain ⟨B, cB, hv, _⟩ := own_slice ho
        subst hv
        exact ⟨B, cB, rfl, Sl.own ho, hok, by omega⟩
      have hV2 : Hid (validT nm tr ls = decide (seq (extU ls)).Nodup) := by
        have h1 : (usedL ls).all (validL tr) = true := List.all_eq_true.2 hP.out.1
        unfold Hid
        rw [hV.out, h1, decide_eq_true hP.out.2]
        rfl
      have HD := fun w => p_Disjoint B cB (extU ls) w
      go_wp2_with fail
      refine (HD _ hBR).mono ?_
      rintro e w4 ⟨rfl, hx4⟩
      go_wp2
      go_ret
      exact ⟨by rw [hV2.out]; rfl, hx.trans hx4⟩
theorem p_CValid (nm : ByteArray) (tr : Int) (A : Option Addr) (c : Nat) (ls : List Label) (hse : ∀ l ∈ ls, (l.ext.length : Int) ≤ 1000000) (w : World) (hA : Labels w A ls) :
    Calls Tryz.prog 16 #[.agg #[.string nm, .int .i64 tr, .slice A ls.length c]] w fun e w' => e = .returned (.bool (validT nm tr ls)) ∧ Ext w w' := by
  by_cases h : tt tr = 0
  · have : validT nm tr ls = false := by simp [validT, h]
    rw [this]
    exact p_CV0 nm tr A c ls h w
  · cases hn : nameOk nm with
    | false =>
      have : validT nm tr ls = false := by simp [validT, hn]
      rw [this]
      exact p_CV1 nm tr A c ls h hn w
    | true =>
      by_cases hl : (ls.length : Int) = slotsT tr
      · exact p_CV3 nm tr A c ls hse h hn hl w hA
      · have : validT nm tr ls = false := by simp [validT, hl]
        rw [this]
        exact p_CV2 nm tr A c ls h hn hl w
end Go.Proofs.YtjdmgpefjehkaaaGreatDoor
