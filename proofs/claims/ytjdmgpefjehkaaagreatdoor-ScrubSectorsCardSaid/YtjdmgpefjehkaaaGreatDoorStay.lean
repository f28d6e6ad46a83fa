/- What holds of a world and goes on holding whatever becomes of some blocks. No program in sight. -/
import Derived.Test.YtjdmgpefjehkaaaGreatDoorTab
namespace Go.Proofs.YtjdmgpefjehkaaaGreatDoor
open Go.RowKit

/-- Every block of w but those of K stays. -/
structure KS (K : Nat → Prop) (w w' : World) : Prop where
  size : w.heap.size ≤ w'.heap.size
  block : ∀ k, k < w.heap.size → ¬ K k → w'.heap[k]? = w.heap[k]?
theorem KS.refl (K : Nat → Prop) (w : World) : KS K w w := ⟨Nat.le_refl _, fun _ _ _ => rfl⟩
theorem KS.trans {K : Nat → Prop} {a b c : World} (h : KS K a b) (k : KS K b c) : KS K a c :=
  ⟨Nat.le_trans h.size k.size, fun i hi hk => (k.block i (by have := h.size; omega) hk).trans (h.block i hi hk)⟩
theorem KS.ext {K : Nat → Prop} {a b : World} (h : Ext a b) : KS K a b := ⟨h.size, fun i hi _ => h.block i hi⟩
theorem KS.set {K : Nat → Prop} {a b : World} (h : KS K a b) {p : Addr} (hp : K p.block) (v : Value) : KS K a (b.setCell p v) :=
  ⟨by simpa [World.setCell] using h.size, fun k hk hg => (Below.heap_setCell b p v k (fun e => hg (e ▸ hp))).trans (h.block k hk hg)⟩
theorem KS.cell {K : Nat → Prop} {w w' : World} (h : KS K w w') {p : Addr} {v : Value} (hp : w.cell? p = some v) (hk : ¬ K p.block) : w'.cell? p = some v := by
  have hl := World.block_lt_of_cell? w p hp
  rw [World.cell?_of_block (h.block p.block hl hk)]
  exact hp
/-- R holds, and goes on holding whatever becomes of the blocks of K and of new ones. -/
def Stays (K : Nat → Prop) (w : World) (R : World → Prop) : Prop := ∀ w', KS K w w' → R w'
theorem Stays.here {K : Nat → Prop} {w : World} {R : World → Prop} (h : Stays K w R) : R w := h w (KS.refl K w)
theorem Stays.go {K : Nat → Prop} {w w1 : World} {R : World → Prop} (h : Stays K w R) (k : KS K w w1) : Stays K w1 R := fun w' h' => h w' (k.trans h')
theorem Stays.ext {K : Nat → Prop} {w w1 : World} {R : World → Prop} (h : Stays K w R) (k : Ext w w1) : Stays K w1 R := h.go (KS.ext k)
theorem Stays.widen {K K' : Nat → Prop} {w w1 : World} {R : World → Prop} (h : Stays K w R) (hx : Ext w w1) (hk : ∀ b, K' b → K b ∨ w.heap.size ≤ b) : Stays K' w1 R := fun w' h' =>
  h w' ⟨Nat.le_trans hx.size h'.size, fun i hi hn => (h'.block i (by have := hx.size; omega) (fun hb => by rcases hk i hb with h1 | h1; exact hn h1; omega)).trans (hx.block i hi)⟩
theorem Stays.sub {K K' : Nat → Prop} {w : World} {R : World → Prop} (h : Stays K w R) (hk : ∀ b, K' b → K b) : Stays K' w R := h.widen (Ext.refl w) fun b hb => .inl (hk b hb)
/-- What lies in blocks that are outside of K. -/
def SlOut (K : Nat → Prop) (w : World) (A : Option Addr) (cs : List Value) : Prop :=
  cs ≠ [] → ∃ b o, A = some ⟨b, o, none⟩ ∧ ¬ K b ∧ ∀ j v, cs[j]? = some v → w.cell? ⟨b, o + j, none⟩ = some v
theorem SlOut.stays {K : Nat → Prop} {w : World} {A : Option Addr} {cs : List Value} (h : SlOut K w A cs) : Stays K w (Sl · A cs) := fun w' hk hn => by
  obtain ⟨b, o, e, hb, hc⟩ := h hn
  exact ⟨b, o, e, fun j v hv => hk.cell (hc j v hv) hb⟩
theorem Sl.new {w : World} {A : Option Addr} {cs : List Value} (h : Sl w A cs) : SlOut (fun b => w.heap.size ≤ b) w A cs := fun hn => by
  obtain ⟨b, o, e, hc⟩ := h hn
  obtain ⟨v, hv⟩ : ∃ v, cs[0]? = some v := by
    cases cs with
    | nil => exact absurd rfl hn
    | cons a l => exact ⟨a, rfl⟩
  have := World.block_lt_of_cell? w _ (hc 0 v hv)
  exact ⟨b, o, e, by dsimp only at this; omega, hc⟩
theorem SlOut.own {w : World} {base : Nat} {e : TypeId} {size n : Nat} {A : Option Addr} {cap : Nat} {cs : List Value} (h : w.ownsRow base e size (.slice A n cap) n cs) {K : Nat → Prop} (hK : ∀ b, base ≤ b → ¬ K b) : SlOut K w A cs := by
  intro hn
  rcases h.2 with ⟨h1, h2⟩ | ⟨g, cap', cur, h1, hb, hh, _, _, _, ht⟩
  · have := h.1
    subst h2
    simp at this
    exact absurd this hn
  · injection h1 with h1 _ h3
    subst h1
    refine ⟨g, 0, rfl, hK g hb, fun j v hv => ?_⟩
    have := h.cells (g := g) rfl j v hv
    have hadd : (⟨g, 0, none⟩ : Addr).add j = ⟨g, 0 + j, none⟩ := by unfold Addr.add; split <;> simp_all
    rwa [hadd] at this
theorem Runs.stays {K : Nat → Prop} {w : World} {A : Option Addr} {rs : List Run} (h : SlOut K w A (rs.flatMap runCells)) (hR : Runs w A rs) : Stays K w (Runs · A rs) := fun w' hk => ⟨h.stays w' hk, hR.ok, hR.len⟩
theorem Runs.new {w : World} {A : Option Addr} {rs : List Run} (hR : Runs w A rs) : Stays (fun b => w.heap.size ≤ b) w (Runs · A rs) := Runs.stays hR.sl.new hR
theorem Ints.stays {K : Nat → Prop} {w : World} {A : Option Addr} {l : List Int} (h : SlOut K w A (intCells l)) (hR : Ints w A l) : Stays K w (Ints · A l) := fun w' hk => ⟨h.stays w' hk, hR.ok, hR.len⟩
theorem Ints.new {w : World} {A : Option Addr} {l : List Int} (hR : Ints w A l) : Stays (fun b => w.heap.size ≤ b) w (Ints · A l) := Ints.stays hR.sl.new hR
theorem SlOut.widen {K K' : Nat → Prop} {w w1 : World} {A : Option Addr} {cs : List Value} (h : SlOut K w A cs) (hx : Ext w w1) (hk : ∀ b, K' b → K b ∨ w.heap.size ≤ b) : SlOut K' w1 A cs := fun hn => by
  obtain ⟨b, o, e, hb, hc⟩ := h hn
  obtain ⟨v, hv⟩ : ∃ v, cs[0]? = some v := by
    cases cs with
    | nil => exact absurd rfl hn
    | cons a l => exact ⟨a, rfl⟩
  have hlt := World.block_lt_of_cell? w _ (hc 0 v hv)
  dsimp only at hlt
  exact ⟨b, o, e, fun h' => by rcases hk b h' with h1 | h1; exact hb h1; omega, fun j v hv => hx.cell (hc j v hv)⟩
theorem SlOut.go {K : Nat → Prop} {w w1 : World} {A : Option Addr} {cs : List Value} (h : SlOut K w A cs) (k : KS K w w1) : SlOut K w1 A cs := fun hn => by
  obtain ⟨b, o, e, hb, hc⟩ := h hn
  exact ⟨b, o, e, hb, fun j v hv => k.cell (hc j v hv) hb⟩
theorem SlOut.sl {K : Nat → Prop} {w : World} {A : Option Addr} {cs : List Value} (h : SlOut K w A cs) : Sl w A cs := h.stays.here
/-- Labels that stay whatever becomes of the blocks of K. -/
structure LabS (K : Nat → Prop) (w : World) (A : Option Addr) (ls : List Label) : Prop where
  ex : ∃ xs : List LAt, xs.map (·.l) = ls ∧ SlOut K w A (xs.flatMap lCells) ∧ ∀ x ∈ xs, Stays K w (Runs · x.A x.l.ext) ∧ x.l.ext.length ≤ x.c
  ok : ∀ l ∈ ls, l.ok
  len : (ls.length : Int) ≤ 1954687338211
theorem LabS.lab {K : Nat → Prop} {w : World} {A : Option Addr} {ls : List Label} (h : LabS K w A ls) : Labels w A ls := by
  obtain ⟨xs, rfl, h2, h3⟩ := h.ex
  exact ⟨⟨xs, rfl, h2.sl, fun x hx => ⟨(h3 x hx).1.here, (h3 x hx).2⟩⟩, h.ok, h.len⟩
theorem LabS.go {K : Nat → Prop} {w w1 : World} {A : Option Addr} {ls : List Label} (h : LabS K w A ls) (k : KS K w w1) : LabS K w1 A ls := by
  obtain ⟨xs, rfl, h2, h3⟩ := h.ex
  exact ⟨⟨xs, rfl, h2.go k, fun x hx => ⟨(h3 x hx).1.go k, (h3 x hx).2⟩⟩, h.ok, h.len⟩
theorem LabS.ext {K : Nat → Prop} {w w1 : World} {A : Option Addr} {ls : List Label} (h : LabS K w A ls) (k : Ext w w1) : LabS K w1 A ls := h.go (KS.ext k)
theorem LabS.widen {K K' : Nat → Prop} {w w1 : World} {A : Option Addr} {ls : List Label} (h : LabS K w A ls) (hx : Ext w w1) (hk : ∀ b, K' b → K b ∨ w.heap.size ≤ b) : LabS K' w1 A ls := by
  obtain ⟨xs, rfl, h2, h3⟩ := h.ex
  exact ⟨⟨xs, rfl, h2.widen hx hk, fun x hm => ⟨(h3 x hm).1.widen hx hk, (h3 x hm).2⟩⟩, h.ok, h.len⟩
theorem LabS.sub {K K' : Nat → Prop} {w : World} {A : Option Addr} {ls : List Label} (h : LabS K w A ls) (hk : ∀ b, K' b → K b) : LabS K' w A ls := h.widen (Ext.refl w) fun b hb => .inl (hk b hb)
theorem Labels.new {w : World} {A : Option Addr} {ls : List Label} (hR : Labels w A ls) : LabS (fun b => w.heap.size ≤ b) w A ls := by
  obtain ⟨xs, rfl, h2, h3⟩ := hR.ex
  exact ⟨⟨xs, rfl, h2.new, fun x hm => ⟨(h3 x hm).1.new, (h3 x hm).2⟩⟩, hR.ok, hR.len⟩
end Go.Proofs.YtjdmgpefjehkaaaGreatDoor
