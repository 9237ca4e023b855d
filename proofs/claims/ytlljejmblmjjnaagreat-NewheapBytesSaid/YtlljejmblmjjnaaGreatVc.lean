/- NewheapApart: what its walk keeps. -/
import Derived.Test.YtlljejmblmjjnaaGreatVb
import Derived.WalkKit
import Derived.WalkSpells
import Derived.WalkLawsBesides
import Derived.BigQuiet
import Derived.Lib.Hide
namespace Go.Proofs.YtlljejmblmjjnaaGreat
set_option linter.unusedVariables false
set_option linter.unusedSimpArgs false
open Go.RowKit Go.ChangeMaps

theorem greatB_no {n : Int} {cs : List CallM} (h : greatB n cs = false) : n ≤ 40 ∧ cs.length ≤ 40 := by
  unfold greatB at h
  simp only [Bool.or_eq_false_iff, decide_eq_false_iff_not] at h
  omega
theorem tail_two {α β : Type} {P G : α → β → Prop} {Goal : Prop} (h1 : (∀ a b, P a b → G a b) → Goal) (h2 : ∀ a b, P a b → G a b) : Goal := h1 h2
theorem QuietI.turned {F : Nat → Prop} {w w1 w2 : World} {x : Nat} {H : HL} {pages : Nat} {s : HP} (h : QuietI w w1 x H pages s) (t : Turned F w1 w2) (hF : ∀ k, H.F k → ¬ F k) (hx : ¬ F x) (hB : ∀ k, F k → w.heap.size ≤ k) : QuietI w w2 x H pages s :=
  ⟨⟨(t.block _ (lt_of_block h.at_.obj) hx).trans h.at_.obj, h.at_.heap.turned t hF⟩, h.good, h.left, h.foot, h.x, h.below.trans (t.below hB h.below.size)⟩
/-- No block of the heap lies above what there is. -/
theorem HeapAt.fresh {pages : Nat} {s : HP} {H : HL} : ∀ (n : Nat) {w : World}, HeapAt w H pages s → ¬ H.F (w.heap.size + n)
  | 0, w, h => (h.below (Below.alloc (Below.refl _ _) (Nat.le_refl _) (.cells #[] 3))).offT (heap_alloc_new w _) (by decide)
  | n + 1, w, h => by
    have := HeapAt.fresh n (h.below (Below.alloc (Below.refl _ _) (Nat.le_refl _) (.cells #[] 3)))
    have e : (w.alloc (.cells #[] 3)).heap.size + n = w.heap.size + (n + 1) := by simp; omega
    rw [← e]
    exact this
theorem HeapAt.lt {w : World} {pages : Nat} {s : HP} {H : HL} (h : HeapAt w H pages s) {k : Nat} (hk : H.F k) : k < w.heap.size := by
  apply Nat.lt_of_not_le
  intro hle
  have := h.fresh (k - w.heap.size)
  rw [show w.heap.size + (k - w.heap.size) = k by omega] at this
  exact this hk
/-- The heap stands, and the law's own map beside it. -/
structure ApartI (w wr : World) (x : Nat) (H : HL) (pages : Nat) (s : HP) (mb : Nat) (f : Int → Value) (E : List ME) : Prop where
  q : QuietI w wr x H pages s
  map : MapAt' wr mb f E
  off : ¬ H.F mb
  ne : mb ≠ x
  low : w.heap.size ≤ mb
theorem ApartI.below' {w w1 w2 : World} {x : Nat} {H : HL} {pages : Nat} {s : HP} {mb : Nat} {f : Int → Value} {E : List ME} (h : ApartI w w1 x H pages s mb f E) (hb : Below w1.heap.size w1 w2) : ApartI w w2 x H pages s mb f E :=
  ⟨h.q.below' hb, h.map.below hb, h.off, h.ne, h.low⟩
/-- A call on the heap. -/
theorem ApartI.done {w w1 w2 : World} {x : Nat} {H : HL} {pages : Nat} {s s' : HP} {mb : Nat} {f : Int → Value} {E : List ME} {res : List Int} {err : Int} {e : Ending} (h : ApartI w w1 x H pages s mb f E) (hg : HGood pages s') (hp : DoPost w1 x H pages s s' res err e w2) :
    ∃ v H', e = .returned (.tuple #[v, .int .i64 err]) ∧ Ints w2 w1.heap.size v res ∧ ApartI w w2 x H' pages s' mb f E ∧ H'.h = H.h ∧ H'.gr = H.gr ∧ Turned H.F w1 w2 := by
  obtain ⟨v, H', p1, p2, p3, p4, p5, p6⟩ := hp
  exact ⟨v, H', p1, p2, ⟨h.q.next p3 hg p4 p5 p6, h.map.turned p6 h.off, fun hk => (p5.foot _ hk).elim h.off (fun hh => by have := h.map.lt; omega), h.ne, h.low⟩, p5.h, p5.gr, p6⟩
/-- A write into the map. -/
theorem ApartI.wrote {w w1 : World} {x : Nat} {H : HL} {pages : Nat} {s : HP} {mb : Nat} {f : Int → Value} {E E' : List ME} {blk : Obj} (h : ApartI w w1 x H pages s mb f E) (hm : MapAt' (setBlock w1 mb blk) mb f E') : ApartI w (setBlock w1 mb blk) x H pages s mb f E' := by
  have t : Turned (fun k => k = mb) w1 (setBlock w1 mb blk) := Turned.setBlock (F := fun k => k = mb) (Turned.refl _ _) (.inl rfl) _
  exact ⟨h.q.turned t (fun k hk e => h.off (e ▸ hk)) (fun e => h.ne e.symm) (fun k e => by have := h.low; omega), hm, h.off, h.ne, h.low⟩
theorem ApartI.start {w w1 : World} {x : Nat} {H : HL} {pages : Nat} {s : HP} (h : QuietI w w1 x H pages s) (f : Int → Value) : ApartI w (w1.alloc (.map #[] 0)) x H pages s w1.heap.size f [] := by
  have hb : Below w1.heap.size w1 (w1.alloc (.map #[] 0)) := Below.alloc (Below.refl _ _) (Nat.le_refl _) _
  refine ⟨h.below' hb, ⟨0, heap_alloc_new _ _⟩, fun hk => ?_, ?_, h.below.size⟩
  · have := h.at_.heap.lt hk
    omega
  · have := lt_of_block h.at_.obj
    omega
theorem taken_bound {w w1 : World} {x : Nat} {H : HL} {pages : Nat} {s : HP} (h : QuietI w w1 x H pages s) : (takenP s.A).length ≤ 10000 := by
  obtain ⟨bd1, bd2, bd3⟩ := h.at_.heap.bound
  have h1 := sum_bound' h.good.inv.each
  have h2 := takenP_sum h.good.inv.each
  omega
theorem s0_ok (pages : Nat) : MapOk (s0 pages) [] ∧ SizesOk (s0 pages) [] :=
  ⟨⟨List.nodup_nil, fun a => ⟨fun ⟨x, hx, _⟩ => (by cases hx), fun ⟨x, hx, _⟩ => (by cases hx)⟩⟩, fun x hx => (by cases hx)⟩

end Go.Proofs.YtlljejmblmjjnaaGreat
