/- How arguments read as my plain data, and how a law's row closes: the arguments read behind the call as before. No walk. -/
import Derived.Test.YtjdmgpefjehkaaaGreatDoorTab
import Derived.Test.YtjdmgpefjehkaaaGreatDoorStrs
import Derived.ProofKit
import Derived.OpenShut
import Derived.Lib.SmallJoins
import Derived.SizedLaws
import Derived.Deep.Slices
import Derived.Carry
import Derived.Lib.LaidTab
import Derived.LaidMore
import Derived.Stop.Joined
namespace Go.Proofs.YtjdmgpefjehkaaaGreatDoor
open Go.ChangeShapes Go.WideShapes Go.ChangeAt Go.RowKit Go.Deep
set_option maxRecDepth 100000

section
variable {H : Type} {enc : TypeId × Value → H} {P : Program} {w : World}

/-- What the form's reach says of one datum. -/
def Wt (P : Program) (t : TypeId) (d : DataW H) : Prop := ∀ n ∈ d.weights P t, n ≤ reachBytes
theorem Wt.of_each {ts : List TypeId} {ds : List (DataW H)} (h : (DataW.weightsEach P ts ds).all (· ≤ reachBytes) = true) {j : Nat} {t : TypeId} {d : DataW H} (ht : ts[j]? = some t) (hd : ds[j]? = some d) : Wt P t d :=
  fun n hn => by simpa using List.all_eq_true.1 h n (DataW.weights_mem_each ht hd n hn)
theorem Wt.field {t : TypeId} {fs : Array Field} {parts : List (DataW H)} (h : Wt P t (.agg parts)) (hu : P.underlying t = some (.struct fs)) {j : Nat} {f : Field} {d : DataW H} (hf : fs[j]? = some f) (hd : parts[j]? = some d) : Wt P f.type d :=
  fun n hn => h n (by
    simp only [DataW.weights, hu]
    exact DataW.weights_mem_each (j := j) (by simp [hf]) hd n hn)
theorem weights_mem_all {e : TypeId} {n : Nat} : ∀ {l : List (DataW H)} {d : DataW H}, d ∈ l → n ∈ d.weights P e → n ∈ DataW.weightsAll P e l
  | a :: r, d, hd, hn => by
    rw [DataW.weightsAll, List.mem_append]
    rcases List.mem_cons.1 hd with rfl | hd
    · exact .inl hn
    · exact .inr (weights_mem_all hd hn)
theorem Wt.elem {t e : TypeId} {elems spare : List (DataW H)} (h : Wt P t (.slice elems spare)) (hu : P.underlying t = some (.slice e)) {d : DataW H} (hd : d ∈ elems) : Wt P e d :=
  fun n hn => h n (by
    simp only [DataW.weights, hu, List.mem_cons, List.mem_append]
    exact .inr (.inl (weights_mem_all hd hn)))
theorem Wt.count {t e : TypeId} {elems spare : List (DataW H)} (h : Wt P t (.slice elems spare)) (hu : P.underlying t = some (.slice e)) : elems.length * P.bytesOf e ≤ reachBytes := by
  have := h ((elems.length + spare.length) * P.bytesOf e) (by simp [DataW.weights, hu])
  exact Nat.le_trans (Nat.mul_le_mul_right _ (Nat.le_add_right _ _)) this
theorem Wt.str {t : TypeId} {b : List UInt8} (h : Wt P t (.lit (.string b) : DataW H)) : b.length ≤ reachBytes := h _ (by simp [DataW.weights])

theorem choose_list {α : Type} {Q : Nat → α → Prop} : ∀ n : Nat, (∀ i, i < n → ∃ x, Q i x) → ∃ l : List α, l.length = n ∧ ∀ i (h : i < l.length), Q i l[i]
  | 0, _ => ⟨[], rfl, fun i h => by simp at h⟩
  | n + 1, h => by
    obtain ⟨l, hl, hq⟩ := choose_list n fun i hi => h i (by omega)
    obtain ⟨x, hx⟩ := h n (by omega)
    refine ⟨l ++ [x], by simp [hl], fun i hi => ?_⟩
    by_cases h1 : i < l.length
    · rw [List.getElem_append_left h1]; exact hq i h1
    · have : i = l.length := by simp at hi; omega
      subst this
      rw [List.getElem_append_right (Nat.le_refl _)]
      simp
      rw [hl]; exact hx
theorem Sl.mk_at {α : Type} {f : α → List Value} {s : Nat} (hs : ∀ x, (f x).length = s) (h0 : 0 < s) {b o : Nat} {l : List α} (h : ∀ i (hi : i < l.length) (j : Nat) (v : Value), (f l[i])[j]? = some v → w.cell? ⟨b, o + (i * s + j), none⟩ = some v) : Sl w (some ⟨b, o, none⟩) (l.flatMap f) := by
  intro _
  refine ⟨b, o, rfl, fun j v hv => ?_⟩
  have hlt : j < l.length * s := by
    have := (List.getElem?_eq_some_iff.1 hv).1
    rwa [flatMap_len f s hs] at this
  have hq : j / s < l.length := (Nat.div_lt_iff_lt_mul h0).2 hlt
  have hf := flatMap_at f s hs l (j / s) (j % s) hq (Nat.mod_lt _ h0)
  have hj : j / s * s + j % s = j := Nat.div_add_mod' j s
  rw [hj, hv] at hf
  have := h (j / s) hq (j % s) v hf.symm
  rwa [hj] at this
/-- A slice that came in, its elements read by 'dec'. -/
theorem open_list {α : Type} (f : α → List Value) (s : Nat) (hs : ∀ x, (f x).length = s) (h0 : 0 < s) (ok : α → Prop) {t e : TypeId} (ht : P.underlying t = some (.slice e)) (hC : P.cellsOf e = s)
    (dec : ∀ (n : Nat) (cs : List Value) (x : DataW H × List MemPlace), DataW.trod enc P w 0 (fun _ => true) true n e cs = some x → Wt P e x.1 → ∃ a, cs = f a ∧ ok a)
    {n : Nat} {v : Value} {x : DataW H × List MemPlace} (h : DataW.trod enc P w 0 (fun _ => true) true n t [v] = some x) (hw : Wt P t x.1) :
    ∃ (A : Option Addr) (l : List α) (c : Nat), v = .slice A l.length c ∧ l.length ≤ c ∧ Sl w A (l.flatMap f) ∧ (∀ a ∈ l, ok a) ∧ l.length * P.bytesOf e ≤ reachBytes := by
  rcases open_slice ht h with ⟨hcs, _⟩ | ⟨a, len, cap, m, k, D, Pl, hcs, _, hl, hm, hmm, hx, hi⟩
  · simp at hcs
    exact ⟨none, [], 0, hcs, Nat.le_refl _, Sl.nil _ _, by simp, by simp⟩
  · simp at hcs
    subst hcs
    simp only [if_true] at hmm
    subst hmm
    rw [hx] at hw
    have hex : ∀ i, i < len → ∃ y : α, w.cells? 0 (a.add (i * s)) s = some (f y) ∧ ok y := fun i hil => by
      obtain ⟨cs', h1, h2⟩ := hi i (by omega)
      rw [hC] at h1
      have hwt : Wt P e (D i) := hw.elem ht (List.mem_map.2 ⟨i, List.mem_range.2 hil, rfl⟩)
      obtain ⟨y, rfl, hy⟩ := dec k cs' _ h2 hwt
      exact ⟨y, h1, hy⟩
    obtain ⟨l, rfl, hq⟩ := choose_list len hex
    have hcount := hw.count ht
    simp only [List.length_map, List.length_range] at hcount
    refine ⟨some a, l, m, rfl, hl, ?_, fun y hy => ?_, hcount⟩
    · intro hne
      have hlpos : 0 < l.length := by
        rcases Nat.eq_zero_or_pos l.length with h1 | h1
        · rw [List.eq_nil_of_length_eq_zero h1] at hne; exact absurd rfl hne
        · exact h1
      obtain ⟨b, o, spot⟩ := a
      have hspot : spot = none := by
        obtain ⟨_, hcl, hat⟩ := World.cells?_some (hq 0 hlpos).1
        have h2 := hat 0 h0
        rw [List.getElem?_eq_getElem (by omega)] at h2
        simpa [Addr.add] using World.cell?_spot h2
      subst hspot
      have hadd : ∀ j : Nat, (⟨b, o, none⟩ : Addr).add j = ⟨b, o + j, none⟩ := fun j => by unfold Addr.add; split <;> simp_all
      have hadd2 : ∀ b o j : Nat, (⟨b, o, none⟩ : Addr).add j = ⟨b, o + j, none⟩ := fun b o j => by unfold Addr.add; split <;> simp_all
      refine Sl.mk_at hs h0 (fun i hi j u hu => ?_) hne
      obtain ⟨_, hcl, hat⟩ := World.cells?_some (hq i hi).1
      have hj : j < s := by
        have := (List.getElem?_eq_some_iff.1 hu).1
        rwa [hs] at this
      have h2 := hat j hj
      rw [hadd, hadd2, hu] at h2
      rw [← Nat.add_assoc]
      exact h2
    · obtain ⟨i, hi, rfl⟩ := List.getElem_of_mem hy
      exact (hq i hi).2
theorem wf_I64 {n : Int} (h : (Lit.int .i64 n).wf = true) : I64 n := bounds_i64 h

/-! ### elements -/
theorem dec_int {n : Nat} {cs : List Value} {x : DataW H × List MemPlace} (h : DataW.trod enc Tryz.prog w 0 (fun _ => true) true n 3 cs = some x) : ∃ k : Int, cs = [.int .i64 k] ∧ I64 k := by
  obtain ⟨k, hk, _, hw⟩ := DataW.trod_int Tryz.underlying3 h
  exact ⟨k, hk, wf_I64 hw⟩
theorem dec_run {n : Nat} {cs : List Value} {x : DataW H × List MemPlace} (h : DataW.trod enc Tryz.prog w 0 (fun _ => true) true n 68 cs = some x) : ∃ r : Run, cs = runCells r ∧ r.ok := by
  have hC : Tryz.prog.cellsOf 68 = 2 := by kernel_rfl
  have c3 : Tryz.prog.cellsOf 3 = 1 := by kernel_rfl
  obtain ⟨xs, n', _, _, hlen, hxl, hf⟩ := DataW.trod_struct Tryz.underlying68 h
  match cs, hlen.trans hC with
  | [v0, v1], _ =>
    match xs, hxl with
    | [y0, y1], _ =>
      have h0 := hf 0 _ rfl
      have h1 := hf 1 _ rfl
      simp [c3] at h0 h1
      obtain ⟨a, ha, wa⟩ := dec_int h0
      obtain ⟨b, hb, wb⟩ := dec_int h1
      simp at ha hb
      subst ha hb
      exact ⟨⟨a, b⟩, rfl, wa, wb⟩
theorem dec_ref {n : Nat} {cs : List Value} {x : DataW H × List MemPlace} (h : DataW.trod enc Tryz.prog w 0 (fun _ => true) true n 40 cs = some x) : ∃ r : Ref, cs = refCells r ∧ I64 r.id ∧ I64 r.unit := by
  have hC : Tryz.prog.cellsOf 40 = 2 := by kernel_rfl
  have c3 : Tryz.prog.cellsOf 3 = 1 := by kernel_rfl
  obtain ⟨xs, n', _, _, hlen, hxl, hf⟩ := DataW.trod_struct Tryz.underlying40 h
  match cs, hlen.trans hC with
  | [v0, v1], _ =>
    match xs, hxl with
    | [y0, y1], _ =>
      have h0 := hf 0 _ rfl
      have h1 := hf 1 _ rfl
      simp [c3] at h0 h1
      obtain ⟨a, ha, wa⟩ := dec_int h0
      obtain ⟨b, hb, wb⟩ := dec_int h1
      simp at ha hb
      subst ha hb
      exact ⟨⟨a, b⟩, rfl, wa, wb⟩
theorem dec_bad {n : Nat} {cs : List Value} {x : DataW H × List MemPlace} (h : DataW.trod enc Tryz.prog w 0 (fun _ => true) true n 61 cs = some x) : ∃ b : Bad, cs = badCells b ∧ I64 b.id ∧ I64 b.unit ∧ I64 b.sector ∧ I64 b.code := by
  have hC : Tryz.prog.cellsOf 61 = 4 := by kernel_rfl
  have c3 : Tryz.prog.cellsOf 3 = 1 := by kernel_rfl
  have c2 : Tryz.prog.cellsOf 40 = 2 := by kernel_rfl
  have ce : Tryz.prog.cellsOf 59 = 1 := by kernel_rfl
  obtain ⟨xs, n', _, _, hlen, hxl, hf⟩ := DataW.trod_struct Tryz.underlying61 h
  match cs, hlen.trans hC with
  | [v0, v1, v2, v3], _ =>
    match xs, hxl with
    | [y0, y1, y2], _ =>
      have h0 := hf 0 _ rfl
      have h1 := hf 1 _ rfl
      have h2 := hf 2 _ rfl
      simp [c3, c2, ce] at h0 h1 h2
      obtain ⟨r, hr, wr⟩ := dec_ref h0
      obtain ⟨b, hb, wb⟩ := dec_int h1
      obtain ⟨e, he, _, we⟩ := DataW.trod_int Tryz.underlying59 h2
      simp [refCells] at hr hb he
      obtain ⟨rfl, rfl⟩ := hr
      subst hb he
      exact ⟨⟨r.id, r.unit, b, e⟩, rfl, wr.1, wr.2, wb, wf_I64 we⟩
theorem open_runs {n : Nat} {v : Value} {x : DataW H × List MemPlace} (h : DataW.trod enc Tryz.prog w 0 (fun _ => true) true n 41 [v] = some x) (hw : Wt Tryz.prog 41 x.1) :
    ∃ A rs c, v = .slice A (List.length rs) c ∧ rs.length ≤ c ∧ Runs w A rs := by
  obtain ⟨A, l, c, hv, hc, hS, hok, hn⟩ := open_list (P := Tryz.prog) runCells 2 runCells_len (by decide) Run.ok Tryz.underlying41 (by kernel_rfl) (fun n cs x h _ => dec_run h) h hw
  have hb : Tryz.prog.bytesOf 68 = 16 := by kernel_rfl
  rw [hb, show reachBytes = 140737488351232 from rfl] at hn
  exact ⟨A, l, c, hv, hc, hS, hok, by omega⟩
theorem dec_label {n : Nat} {cs : List Value} {x : DataW H × List MemPlace} (h : DataW.trod enc Tryz.prog w 0 (fun _ => true) true n 43 cs = some x) (hw : Wt Tryz.prog 43 x.1) :
    ∃ y : LAt, cs = lCells y ∧ (Runs w y.A y.l.ext ∧ y.l.ext.length ≤ y.c) ∧ y.l.ok := by
  have hC : Tryz.prog.cellsOf 43 = 5 := by kernel_rfl
  have c3 : Tryz.prog.cellsOf 3 = 1 := by kernel_rfl
  have cs9 : Tryz.prog.cellsOf 9 = 1 := by kernel_rfl
  have cR : Tryz.prog.cellsOf 41 = 1 := by kernel_rfl
  obtain ⟨xs, n', _, hx, hlen, hxl, hf⟩ := DataW.trod_struct Tryz.underlying43 h
  subst hx
  match cs, hlen.trans hC with
  | [v0, v1, v2, v3, v4], _ =>
    match xs, hxl with
    | [y0, y1, y2, y3, y4], _ =>
      have h0 := hf 0 _ rfl
      have h1 := hf 1 _ rfl
      have h2 := hf 2 _ rfl
      have h3 := hf 3 _ rfl
      have h4 := hf 4 _ rfl
      have w2 := hw.field Tryz.underlying43 (j := 2) rfl rfl
      have w3 := hw.field Tryz.underlying43 (j := 3) rfl rfl
      have w4 := hw.field Tryz.underlying43 (j := 4) rfl rfl
      simp [c3, cs9, cR] at h0 h1 h2 h3 h4
      obtain ⟨a, ha, wa⟩ := dec_int h0
      obtain ⟨b, hb, wb⟩ := dec_int h1
      obtain ⟨s, hs, hxs, _⟩ := DataW.trod_string Tryz.underlying9 h2
      obtain ⟨t, ht, hxt, _⟩ := DataW.trod_string Tryz.underlying9 h3
      obtain ⟨A, rs, c, hr, hc, hR⟩ := open_runs h4 w4
      simp at ha hb hs ht
      subst ha hb hs ht hr hxs hxt
      have q2 := w2.str
      have q3 := w3.str
      rw [show reachBytes = 140737488351232 from rfl] at q2 q3
      refine ⟨⟨⟨a, b, s, t, rs⟩, A, c⟩, rfl, ⟨hR, hc⟩, wa, wb, ?_, ?_⟩
      · have : s.size = s.data.toList.length := by rw [Array.length_toList]; rfl
        dsimp only
        omega
      · have : t.size = t.data.toList.length := by rw [Array.length_toList]; rfl
        dsimp only
        omega
theorem open_labels {n : Nat} {v : Value} {x : DataW H × List MemPlace} (h : DataW.trod enc Tryz.prog w 0 (fun _ => true) true n 22 [v] = some x) (hw : Wt Tryz.prog 22 x.1) :
    ∃ A ls c, v = .slice A (List.length ls) c ∧ Labels w A ls := by
  obtain ⟨A, l, c, hv, hc, hS, hok, hn⟩ := open_list (P := Tryz.prog) lCells 5 lCells_len (by decide) (fun y : LAt => (Runs w y.A y.l.ext ∧ y.l.ext.length ≤ y.c) ∧ y.l.ok) Tryz.underlying22 (by kernel_rfl) (fun n cs x h hw => dec_label h hw) h hw
  have hb : Tryz.prog.bytesOf 43 = 72 := by kernel_rfl
  rw [hb, show reachBytes = 140737488351232 from rfl] at hn
  refine ⟨A, l.map (·.l), c, by rw [List.length_map]; exact hv, ⟨l, rfl, hS, fun y hy => (hok y hy).1⟩, fun q hq => ?_, by rw [List.length_map]; omega⟩
  obtain ⟨y, hy, rfl⟩ := List.mem_map.1 hq
  exact (hok y hy).2
theorem open_refs {n : Nat} {v : Value} {x : DataW H × List MemPlace} (h : DataW.trod enc Tryz.prog w 0 (fun _ => true) true n 25 [v] = some x) (hw : Wt Tryz.prog 25 x.1) :
    ∃ A l c, v = .slice A (List.length l) c ∧ Refs w A l := by
  obtain ⟨A, l, c, hv, _, hS, hok, hn⟩ := open_list (P := Tryz.prog) refCells 2 (fun _ => rfl) (by decide) (fun r : Ref => I64 r.id ∧ I64 r.unit) Tryz.underlying25 (by kernel_rfl) (fun n cs x h _ => dec_ref h) h hw
  have hb : Tryz.prog.bytesOf 40 = 16 := by kernel_rfl
  rw [hb, show reachBytes = 140737488351232 from rfl] at hn
  exact ⟨A, l, c, hv, hS, hok, by omega⟩
theorem ints_flat : ∀ l : List Int, l.flatMap (fun k : Int => [Value.int .i64 k]) = intCells l
  | [] => rfl
  | a :: r => by rw [List.flatMap_cons, ints_flat r]; rfl
theorem open_ints' {n : Nat} {v : Value} {x : DataW H × List MemPlace} (h : DataW.trod enc Tryz.prog w 0 (fun _ => true) true n 26 [v] = some x) (hw : Wt Tryz.prog 26 x.1) :
    ∃ A l c, v = .slice A (List.length l) c ∧ Ints w A l := by
  obtain ⟨A, l, c, hv, _, hS, hok, hn⟩ := open_list (P := Tryz.prog) (fun k : Int => [Value.int .i64 k]) 1 (fun _ => rfl) (by decide) I64 Tryz.underlying26 (by kernel_rfl) (fun n cs x h _ => dec_int h) h hw
  have hb : Tryz.prog.bytesOf 3 = 8 := by kernel_rfl
  rw [hb, show reachBytes = 140737488351232 from rfl] at hn
  rw [ints_flat] at hS
  exact ⟨A, l, c, hv, hS, hok, by omega⟩
theorem open_bads {n : Nat} {v : Value} {x : DataW H × List MemPlace} (h : DataW.trod enc Tryz.prog w 0 (fun _ => true) true n 27 [v] = some x) (hw : Wt Tryz.prog 27 x.1) :
    ∃ A l c, v = .slice A (List.length l) c ∧ Bads w A l := by
  obtain ⟨A, l, c, hv, _, hS, hok, hn⟩ := open_list (P := Tryz.prog) badCells 4 (fun _ => rfl) (by decide) (fun r : Bad => I64 r.id ∧ I64 r.unit ∧ I64 r.sector ∧ I64 r.code) Tryz.underlying27 (by kernel_rfl) (fun n cs x h _ => dec_bad h) h hw
  have hb : Tryz.prog.bytesOf 61 = 32 := by kernel_rfl
  rw [hb, show reachBytes = 140737488351232 from rfl] at hn
  exact ⟨A, l, c, hv, hS, hok, by omega⟩
end

/-! ### arguments -/
section
variable {H : Type} {enc : TypeId × Value → H} {w : World} {r : Reach} {b0 : Nat}
theorem open_table {v : Value} {d : DataW H} {p : List MemPlace} (hv : Value.okWide Tryz.prog w r b0 24 v) (h : DataW.Trod enc Tryz.prog w 0 (fun _ => true) true 24 v d p) (hw : Wt Tryz.prog 24 d) :
    ∃ nm t A ls c, v = .agg #[.string nm, .int .i64 t, .slice A (List.length ls) c] ∧ Labels w A ls ∧ I64 t ∧ (nm.size : Int) ≤ 140737488351232 := by
  obtain ⟨v0, v1, v2, y0, y1, y2, n, rfl, rfl, _, h0, h1, h2⟩ := Joins.open_agg3 Tryz.underlying24 (by kernel_rfl) (by kernel_rfl) hv h
  have w0 := hw.field Tryz.underlying24 (j := 0) rfl rfl
  have w2 := hw.field Tryz.underlying24 (j := 2) rfl rfl
  obtain ⟨s, hs, hxs, _⟩ := DataW.trod_string Tryz.underlying9 h0
  obtain ⟨b, hb, wb⟩ := dec_int h1
  obtain ⟨A, ls, c, hl, hL⟩ := open_labels h2 w2
  simp at hs hb
  subst hs hb hl hxs
  have q0 := w0.str
  rw [show reachBytes = 140737488351232 from rfl] at q0
  refine ⟨s, b, A, ls, c, rfl, hL, wb, ?_⟩
  have : s.size = s.data.toList.length := by rw [Array.length_toList]; rfl
  omega
theorem open_scrub {v : Value} {d : DataW H} {p : List MemPlace} (hv : Value.okWide Tryz.prog w r b0 29 v) (h : DataW.Trod enc Tryz.prog w 0 (fun _ => true) true 29 v d p) (hw : Wt Tryz.prog 29 d) :
    ∃ (x : Scrub) (A2 A3 A4 : Option Addr) (c2 c3 c4 : Nat), v = .agg #[.int .i64 x.free, .int .i64 x.used, .slice A2 x.tent.length c2, .slice A3 x.shared.length c3, .slice A4 x.bad.length c4] ∧
      I64 x.free ∧ I64 x.used ∧ Refs w A2 x.tent ∧ Ints w A3 x.shared ∧ Bads w A4 x.bad := by
  have hC : Tryz.prog.cellsOf 29 = 5 := by kernel_rfl
  have c3 : Tryz.prog.cellsOf 3 = 1 := by kernel_rfl
  have cA : Tryz.prog.cellsOf 25 = 1 := by kernel_rfl
  have cB : Tryz.prog.cellsOf 26 = 1 := by kernel_rfl
  have cC : Tryz.prog.cellsOf 27 = 1 := by kernel_rfl
  obtain ⟨cs, rfl, hsz⟩ := okWide_struct Tryz.underlying29 hv
  obtain ⟨fuel, h⟩ := h
  obtain ⟨xs, n', _, hx, hlen, hxl, hf⟩ := DataW.trod_struct Tryz.underlying29 h
  simp only [Prod.mk.injEq] at hx
  obtain ⟨rfl, _⟩ := hx
  obtain ⟨l⟩ := cs
  match l, hsz.trans hC with
  | [v0, v1, v2, v3, v4], _ =>
    match xs, hxl with
    | [y0, y1, y2, y3, y4], _ =>
      have h0 := hf 0 _ rfl
      have h1 := hf 1 _ rfl
      have h2 := hf 2 _ rfl
      have h3 := hf 3 _ rfl
      have h4 := hf 4 _ rfl
      have w2 := hw.field Tryz.underlying29 (j := 2) rfl rfl
      have w3 := hw.field Tryz.underlying29 (j := 3) rfl rfl
      have w4 := hw.field Tryz.underlying29 (j := 4) rfl rfl
      simp [Value.cells, c3, cA, cB, cC] at h0 h1 h2 h3 h4
      obtain ⟨a, ha, wa⟩ := dec_int h0
      obtain ⟨b, hb, wb⟩ := dec_int h1
      obtain ⟨A2, l2, k2, h2', hR2⟩ := open_refs h2 w2
      obtain ⟨A3, l3, k3, h3', hR3⟩ := open_ints' h3 w3
      obtain ⟨A4, l4, k4, h4', hR4⟩ := open_bads h4 w4
      simp at ha hb
      subst ha hb h2' h3' h4'
      exact ⟨⟨a, b, l2, l3, l4⟩, A2, A3, A4, k2, k3, k4, rfl, wa, wb, hR2, hR3, hR4⟩
theorem open_int64 {v : Value} {d : DataW H} {p : List MemPlace} (hv : Value.okWide Tryz.prog w r b0 3 v) (h : DataW.Trod enc Tryz.prog w 0 (fun _ => true) true 3 v d p) : ∃ k : Int, v = .int .i64 k ∧ I64 k := by
  obtain ⟨a, rfl, _, _, wa⟩ := open_int Tryz.underlying3 hv h
  exact ⟨a, rfl, wf_I64 wa⟩
end
end Go.Proofs.YtjdmgpefjehkaaaGreatDoor
