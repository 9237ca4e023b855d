/- ring: links and ends in memory; item, list, In, First, Next, Len. -/
import Derived.Test.YtlljejmblmjjnaaGreatDoorZB
import Derived.WalkKit
import Derived.WalkSpells
import Derived.WalkLawsBesides
import Derived.BigQuiet
import Derived.Lib.Hide
import Derived.Deep.Cut
import Derived.Laws.AppendOwnNone
namespace Go.Proofs.YtlljejmblmjjnaaGreatDoor
set_option linter.unusedVariables false
set_option linter.unusedSimpArgs false
open Go.RowKit Go.ChangeMaps

/-- A link (or a list's ends): three whole numbers. -/
structure Tri where
  a : Int
  b : Int
  c : Int
def triV (t : Tri) : List Value := [.int .i64 t.a, .int .i64 t.b, .int .i64 t.c]
def trisC (l : List Tri) : Array Value := (l.flatMap triV).toArray
theorem trisC_get : ∀ (l : List Tri) (i : Nat) (h : i < l.length) (j : Nat), j < 3 → (trisC l)[i * 3 + j]? = (triV l[i])[j]?
  | [], _, h, _, _ => absurd h (Nat.not_lt_zero _)
  | t :: l, 0, _, j, hj => by
    unfold trisC
    rw [List.getElem?_toArray, List.flatMap_cons, List.getElem?_append_left (by show 0 * 3 + j < 3; omega), Nat.zero_mul, Nat.zero_add]
    rfl
  | t :: l, i + 1, h, j, hj => by
    have ih := trisC_get l i (Nat.lt_of_succ_lt_succ h) j hj
    unfold trisC at *
    rw [List.getElem?_toArray] at ih ⊢
    rw [List.flatMap_cons, List.getElem?_append_right (by show 3 ≤ (i + 1) * 3 + j; omega), show (i + 1) * 3 + j - (triV t).length = i * 3 + j by show (i + 1) * 3 + j - 3 = _; omega, ih]
    rfl
/-- Rings in memory: the links' row and the ends' row. -/
structure RingAt (w : World) (r ib lb : Nat) (it ls : List Tri) : Prop where
  obj : w.heap[r]? = some (.cells #[.slice (some ⟨ib, 0, none⟩) it.length it.length, .slice (some ⟨lb, 0, none⟩) ls.length ls.length] 191 (0, 0))
  items : w.heap[ib]? = some (.cells (trisC it) 187 (0, 0))
  lists : w.heap[lb]? = some (.cells (trisC ls) 166 (0, 0))
  ilen : it.length ≤ 4096
  llen : ls.length ≤ 256
theorem RingAt.turned {F : Nat → Prop} {w w' : World} {r ib lb : Nat} {it ls : List Tri} (h : RingAt w r ib lb it ls) (t : Turned F w w') (h1 : ¬ F r) (h2 : ¬ F ib) (h3 : ¬ F lb) : RingAt w' r ib lb it ls :=
  ⟨(t.block _ (lt_of_block h.obj) h1).trans h.obj, (t.block _ (lt_of_block h.items) h2).trans h.items, (t.block _ (lt_of_block h.lists) h3).trans h.lists, h.ilen, h.llen⟩
theorem RingAt.below {w w' : World} {r ib lb : Nat} {it ls : List Tri} (h : RingAt w r ib lb it ls) (hb : Below w.heap.size w w') : RingAt w' r ib lb it ls :=
  h.turned (Turned.of_below (F := fun _ => False) hb (Nat.le_refl _)) (fun h => h) (fun h => h) (fun h => h)
theorem RingAt.cells {w : World} {r ib lb : Nat} {it ls : List Tri} (h : RingAt w r ib lb it ls) : w.cell? ⟨r, 0, none⟩ = some (.slice (some ⟨ib, 0, none⟩) it.length it.length) ∧ w.cell? ⟨r, 1, none⟩ = some (.slice (some ⟨lb, 0, none⟩) ls.length ls.length) := ⟨cell_of_block h.obj 0, cell_of_block h.obj 1⟩
theorem RingAt.item {w : World} {r ib lb : Nat} {it ls : List Tri} (h : RingAt w r ib lb it ls) {i : Nat} (hi : i < it.length) : w.cell? ⟨ib, i * 3, none⟩ = some (.int .i64 it[i].a) ∧ w.cell? ⟨ib, i * 3 + 1, none⟩ = some (.int .i64 it[i].b) ∧ w.cell? ⟨ib, i * 3 + 2, none⟩ = some (.int .i64 it[i].c) :=
  ⟨(cell_of_block h.items _).trans (trisC_get it i hi 0 (by decide)), (cell_of_block h.items _).trans (trisC_get it i hi 1 (by decide)), (cell_of_block h.items _).trans (trisC_get it i hi 2 (by decide))⟩
theorem RingAt.list {w : World} {r ib lb : Nat} {it ls : List Tri} (h : RingAt w r ib lb it ls) {i : Nat} (hi : i < ls.length) : w.cell? ⟨lb, i * 3, none⟩ = some (.int .i64 ls[i].a) ∧ w.cell? ⟨lb, i * 3 + 1, none⟩ = some (.int .i64 ls[i].b) ∧ w.cell? ⟨lb, i * 3 + 2, none⟩ = some (.int .i64 ls[i].c) :=
  ⟨(cell_of_block h.lists _).trans (trisC_get ls i hi 0 (by decide)), (cell_of_block h.lists _).trans (trisC_get ls i hi 1 (by decide)), (cell_of_block h.lists _).trans (trisC_get ls i hi 2 (by decide))⟩

set_option maxHeartbeats 400000 in
theorem ritem_no {w : World} {r ib lb : Nat} {it ls : List Tri} (h : RingAt w r ib lb it ls) (i : Int) (hi : ¬ (0 ≤ i ∧ i < it.length)) : Calls Tryz.prog 142 #[.pointer (some ⟨r, 0, none⟩), .int .i64 i] w fun e w' => e = .returned (.pointer none) ∧ w = w' := by
  obtain ⟨c0, -⟩ := h.cells
  clear h
  by_cases h0 : i < 0
  · clear hi
    go_enter Tryz.func142, Tryz.ntmps142
    go_wp2
    go_ret
    exact ⟨rfl, rfl⟩
  · have h1 : (it.length : Int) ≤ i := by omega
    clear hi
    go_enter Tryz.func142, Tryz.ntmps142
    go_wp2
    go_ret
    exact ⟨rfl, rfl⟩
set_option maxHeartbeats 400000 in
theorem ritem_yes {w : World} {r ib lb : Nat} {it ls : List Tri} (h : RingAt w r ib lb it ls) (i : Nat) (hi : i < it.length) : Calls Tryz.prog 142 #[.pointer (some ⟨r, 0, none⟩), .int .i64 i] w fun e w' => e = .returned (.pointer (some ⟨ib, i * 3, none⟩)) ∧ w = w' := by
  obtain ⟨c0, -⟩ := h.cells
  clear h
  have h0 : ¬ (i : Int) < 0 := by omega
  have h1 : ¬ (it.length : Int) ≤ (i : Int) := by omega
  have h2 : (0 : Int) ≤ (i : Int) ∧ (i : Int) < it.length := by omega
  have h3 : ¬ it.length ≤ i := by omega
  go_enter Tryz.func142, Tryz.ntmps142
  go_wp2
  go_ret
  exact ⟨rfl, rfl⟩
set_option maxHeartbeats 400000 in
theorem rlist_yes {w : World} {r ib lb : Nat} {it ls : List Tri} (h : RingAt w r ib lb it ls) (i : Nat) (hi : i < ls.length) : Calls Tryz.prog 107 #[.pointer (some ⟨r, 0, none⟩), .int .i64 i] w fun e w' => e = .returned (.pointer (some ⟨lb, i * 3, none⟩)) ∧ w = w' := by
  obtain ⟨-, c1⟩ := h.cells
  clear h
  have h0 : ¬ (i : Int) < 0 := by omega
  have h1 : ¬ (ls.length : Int) ≤ (i : Int) := by omega
  have h2 : (0 : Int) ≤ (i : Int) ∧ (i : Int) < ls.length := by omega
  have h3 : ¬ ls.length ≤ i := by omega
  go_enter Tryz.func107, Tryz.ntmps107
  go_wp2
  go_ret
  exact ⟨rfl, rfl⟩
set_option maxHeartbeats 400000 in
theorem rin_yes {w : World} {r ib lb : Nat} {it ls : List Tri} (h : RingAt w r ib lb it ls) (i : Nat) (hi : i < it.length) : Calls Tryz.prog 105 #[.pointer (some ⟨r, 0, none⟩), .int .i64 i] w fun e w' => e = .returned (.int .i64 it[i].a) ∧ w = w' := by
  have HI := Lib.hid (ritem_yes h i hi)
  obtain ⟨g0, -, -⟩ := h.item hi
  clear h
  generalize it[i].a = z at *
  go_enter Tryz.func105, Tryz.ntmps105
  go_wp2_with (fail)
  refine HI.out.mono ?_
  rintro e w' ⟨rfl, rfl⟩
  go_wp2
  go_ret
  exact ⟨rfl, rfl⟩
set_option maxHeartbeats 400000 in
theorem rnext_yes {w : World} {r ib lb : Nat} {it ls : List Tri} (h : RingAt w r ib lb it ls) (i : Nat) (hi : i < it.length) : Calls Tryz.prog 134 #[.pointer (some ⟨r, 0, none⟩), .int .i64 i] w fun e w' => e = .returned (.int .i64 it[i].c) ∧ w = w' := by
  have HI := Lib.hid (ritem_yes h i hi)
  obtain ⟨-, -, g2⟩ := h.item hi
  clear h
  generalize it[i].c = z at *
  go_enter Tryz.func134, Tryz.ntmps134
  go_wp2_with (fail)
  refine HI.out.mono ?_
  rintro e w' ⟨rfl, rfl⟩
  go_wp2
  go_ret
  exact ⟨rfl, rfl⟩
set_option maxHeartbeats 400000 in
theorem rfirst_yes {w : World} {r ib lb : Nat} {it ls : List Tri} (h : RingAt w r ib lb it ls) (i : Nat) (hi : i < ls.length) : Calls Tryz.prog 112 #[.pointer (some ⟨r, 0, none⟩), .int .i64 i] w fun e w' => e = .returned (.int .i64 ls[i].a) ∧ w = w' := by
  have HI := Lib.hid (rlist_yes h i hi)
  obtain ⟨g0, -, -⟩ := h.list hi
  clear h
  generalize ls[i].a = z at *
  go_enter Tryz.func112, Tryz.ntmps112
  go_wp2_with (fail)
  refine HI.out.mono ?_
  rintro e w' ⟨rfl, rfl⟩
  go_wp2
  go_ret
  exact ⟨rfl, rfl⟩
set_option maxHeartbeats 400000 in
theorem rglen_yes {w : World} {r ib lb : Nat} {it ls : List Tri} (h : RingAt w r ib lb it ls) (i : Nat) (hi : i < ls.length) : Calls Tryz.prog 58 #[.pointer (some ⟨r, 0, none⟩), .int .i64 i] w fun e w' => e = .returned (.int .i64 ls[i].c) ∧ w = w' := by
  have HI := Lib.hid (rlist_yes h i hi)
  obtain ⟨-, -, g2⟩ := h.list hi
  clear h
  generalize ls[i].c = z at *
  go_enter Tryz.func58, Tryz.ntmps58
  go_wp2_with (fail)
  refine HI.out.mono ?_
  rintro e w' ⟨rfl, rfl⟩
  go_wp2
  go_ret
  exact ⟨rfl, rfl⟩

end Go.Proofs.YtlljejmblmjjnaaGreatDoor

/- ring: a write into a link, or into a list's ends. -/
namespace Go.Proofs.YtlljejmblmjjnaaGreatDoor
set_option linter.unusedVariables false
set_option linter.unusedSimpArgs false
open Go.RowKit Go.ChangeMaps

def triSet (t : Tri) (j : Nat) (z : Int) : Tri := if j = 0 then { t with a := z } else if j = 1 then { t with b := z } else { t with c := z }
def setT (l : List Tri) (i j : Nat) (z : Int) : List Tri := l.set i (triSet (l.getD i ⟨0, 0, 0⟩) j z)
theorem setT_length (l : List Tri) (i j : Nat) (z : Int) : (setT l i j z).length = l.length := List.length_set
theorem tris_set : ∀ (l : List Tri) (i j : Nat) (z : Int), i < l.length → j < 3 → (l.flatMap triV).set (i * 3 + j) (.int .i64 z) = (setT l i j z).flatMap triV
  | [], _, _, _, h, _ => absurd h (Nat.not_lt_zero _)
  | t :: l, 0, j, z, _, hj => by
    obtain rfl | rfl | rfl : j = 0 ∨ j = 1 ∨ j = 2 := by omega
    all_goals rfl
  | t :: l, i + 1, j, z, h, hj => by
    have ih := tris_set l i j z (Nat.lt_of_succ_lt_succ h) hj
    have e : setT (t :: l) (i + 1) j z = t :: setT l i j z := rfl
    rw [e, List.flatMap_cons, List.flatMap_cons, List.set_append, if_neg (show ¬ (i + 1) * 3 + j < (triV t).length by show ¬ (i + 1) * 3 + j < 3; omega), ← ih, show (i + 1) * 3 + j - (triV t).length = i * 3 + j by show (i + 1) * 3 + j - 3 = _; omega]
theorem trisC_set (l : List Tri) (i j : Nat) (z : Int) (h : i < l.length) (hj : j < 3) : (trisC l).setIfInBounds (i * 3 + j) (.int .i64 z) = trisC (setT l i j z) := by
  unfold trisC
  rw [← tris_set l i j z h hj]
  apply Array.toList_inj.1
  simp
theorem RingAt.setI {w : World} {r ib lb : Nat} {it ls : List Tri} (h : RingAt w r ib lb it ls) (hne : r ≠ ib ∧ lb ≠ ib) {i j : Nat} (hi : i < it.length) (hj : j < 3) (z : Int) : RingAt (w.setCell ⟨ib, i * 3 + j, none⟩ (.int .i64 z)) r ib lb (setT it i j z) ls := by
  refine ⟨?_, ?_, ?_, by rw [setT_length]; exact h.ilen, h.llen⟩
  · rw [Below.heap_setCell _ _ _ _ hne.1, setT_length]
    exact h.obj
  · rw [heap_setCell_eq h.items, trisC_set _ _ _ _ hi hj]
  · rw [Below.heap_setCell _ _ _ _ hne.2]
    exact h.lists
theorem RingAt.setL {w : World} {r ib lb : Nat} {it ls : List Tri} (h : RingAt w r ib lb it ls) (hne : r ≠ lb ∧ ib ≠ lb) {i j : Nat} (hi : i < ls.length) (hj : j < 3) (z : Int) : RingAt (w.setCell ⟨lb, i * 3 + j, none⟩ (.int .i64 z)) r ib lb it (setT ls i j z) := by
  refine ⟨?_, ?_, ?_, h.ilen, by rw [setT_length]; exact h.llen⟩
  · rw [Below.heap_setCell _ _ _ _ hne.1, setT_length]
    exact h.obj
  · rw [Below.heap_setCell _ _ _ _ hne.2]
    exact h.items
  · rw [heap_setCell_eq h.lists, trisC_set _ _ _ _ hi hj]
theorem RingAt.ne {w : World} {r ib lb : Nat} {it ls : List Tri} (h : RingAt w r ib lb it ls) : (r ≠ ib ∧ lb ≠ ib) ∧ (r ≠ lb ∧ ib ≠ lb) := by
  have hT : ∀ {x y : Nat} {cs cs' : Array Value} {T T' : TypeId}, w.heap[x]? = some (.cells cs T (0, 0)) → w.heap[y]? = some (.cells cs' T' (0, 0)) → T ≠ T' → x ≠ y := by
    intro x y cs cs' T T' hx hy hne e
    rw [e, hy] at hx
    have h3 := Option.some.inj hx
    injection h3 with h4 h5 h6
    exact hne h5.symm
  exact ⟨⟨hT h.obj h.items (by decide), hT h.lists h.items (by decide)⟩, hT h.obj h.lists (by decide), hT h.items h.lists (by decide)⟩

end Go.Proofs.YtlljejmblmjjnaaGreatDoor

/- ring: join at a list's front. -/
namespace Go.Proofs.YtlljejmblmjjnaaGreatDoor
set_option linter.unusedVariables false
set_option linter.unusedSimpArgs false
open Go.RowKit Go.ChangeMaps

def frontI (it : List Tri) (k i : Nat) (f : Int) : List Tri := setT (setT (setT it i 0 k) i 1 (-1)) i 2 f
set_option maxRecDepth 8000 in
set_option maxHeartbeats 2000000 in
/-- Into an empty list. -/
theorem rjoin_first {w : World} {r ib lb : Nat} {it ls : List Tri} (h : RingAt w r ib lb it ls) (k i : Nat) (hk : k < ls.length) (hi : i < it.length) (hn : 0 ≤ ls[k].c ∧ ls[k].c ≤ 4096) :
    Calls Tryz.prog 171 #[.pointer (some ⟨r, 0, none⟩), .int .i64 k, .int .i64 (-1), .int .i64 i, .int .i64 (-1)] w fun e w' => e = .returned (.tuple #[]) ∧ RingAt w' r ib lb (frontI it k i (-1)) (setT (setT (setT ls k 0 i) k 1 i) k 2 (ls[k].c + 1)) ∧ Turned (fun j => j = ib ∨ j = lb) w w' := by
  obtain ⟨c0, c1⟩ := h.cells
  obtain ⟨n1, n2⟩ := h.ne
  have HH := Lib.hid h
  obtain ⟨g0, g1, g2⟩ := h.item hi
  have f0 : w.frozen? ⟨ib, i * 3, none⟩ = false := frozen_of_row _ _ _ _ _ h.items
  have f1 : w.frozen? ⟨ib, i * 3 + 1, none⟩ = false := frozen_of_row _ _ _ _ _ h.items
  have f2 : w.frozen? ⟨ib, i * 3 + 2, none⟩ = false := frozen_of_row _ _ _ _ _ h.items
  have hk1 : (0 : Int) ≤ (k : Int) ∧ (k : Int) < ls.length := by omega
  have hi1 : (0 : Int) ≤ (i : Int) ∧ (i : Int) < it.length := by omega
  have HN := Lib.hid hn
  clear h hn
  generalize it[i].a = z0 at *
  generalize it[i].b = z1 at *
  generalize it[i].c = z2 at *
  go_enter Tryz.func171, Tryz.ntmps171
  go_upto_region 3 with (fail)
  obtain ⟨W1, hW1⟩ : ∃ W1, W1 = ((w.setCell ⟨ib, i * 3, none⟩ (.int .i64 (k : Int))).setCell ⟨ib, i * 3 + 1, none⟩ (.int .i64 (-1))).setCell ⟨ib, i * 3 + 2, none⟩ (.int .i64 (-1)) := ⟨_, rfl⟩
  have hr1 : RingAt W1 r ib lb (frontI it k i (-1)) ls := by
    rw [hW1]
    exact ((HH.out.setI n1 hi (by decide : 0 < 3) (k : Int)).setI n1 (by rw [setT_length]; exact hi) (by decide : 1 < 3) (-1)).setI n1 (by rw [setT_length, setT_length]; exact hi) (by decide : 2 < 3) (-1)
  have HT1 : Hid (Turned (fun j => j = ib ∨ j = lb) w W1) := by
    rw [hW1]
    exact Turned.setCell (F := fun j => j = ib ∨ j = lb) (p := ⟨ib, i * 3 + 2, none⟩) (Turned.setCell (F := fun j => j = ib ∨ j = lb) (p := ⟨ib, i * 3 + 1, none⟩) (Turned.setCell (F := fun j => j = ib ∨ j = lb) (p := ⟨ib, i * 3, none⟩) (Turned.refl _ _) (.inl (.inl rfl)) _) (.inl (.inl rfl)) _) (.inl (.inl rfl)) _
  rw [← hW1]
  have HR1 := Lib.hid hr1
  obtain ⟨d0, -, -⟩ := hr1.list hk
  have e0 : W1.frozen? ⟨lb, k * 3, none⟩ = false := frozen_of_row _ _ _ _ _ hr1.lists
  clear hW1 hr1 c0 c1 g0 g1 g2 f0 f1 f2
  generalize ls[k].a = y0 at *
  go_upto_region 6 with (fail)
  obtain ⟨W2, hW2⟩ : ∃ W2, W2 = W1.setCell ⟨lb, k * 3, none⟩ (.int .i64 (i : Int)) := ⟨_, rfl⟩
  have hr2 : RingAt W2 r ib lb (frontI it k i (-1)) (setT ls k 0 i) := by
    rw [hW2]
    exact HR1.out.setL n2 hk (by decide : 0 < 3) (i : Int)
  have HT2 : Hid (Turned (fun j => j = ib ∨ j = lb) w W2) := by
    rw [hW2]
    exact Turned.setCell (F := fun j => j = ib ∨ j = lb) (p := ⟨lb, k * 3, none⟩) HT1.out (.inl (.inr rfl)) _
  rw [← hW2]
  have HR2 := Lib.hid hr2
  have hk2 : k < (setT ls k 0 i).length := by rw [setT_length]; exact hk
  obtain ⟨-, d1, -⟩ := hr2.list hk2
  have e1 : W2.frozen? ⟨lb, k * 3 + 1, none⟩ = false := frozen_of_row _ _ _ _ _ hr2.lists
  clear hW2 hr2 d0 e0
  generalize (setT ls k 0 i)[k].b = y1 at *
  go_upto_region 8 with (fail)
  obtain ⟨W3, hW3⟩ : ∃ W3, W3 = W2.setCell ⟨lb, k * 3 + 1, none⟩ (.int .i64 (i : Int)) := ⟨_, rfl⟩
  have hr3 : RingAt W3 r ib lb (frontI it k i (-1)) (setT (setT ls k 0 i) k 1 i) := by
    rw [hW3]
    exact HR2.out.setL n2 hk2 (by decide : 1 < 3) (i : Int)
  have HT3 : Hid (Turned (fun j => j = ib ∨ j = lb) w W3) := by
    rw [hW3]
    exact Turned.setCell (F := fun j => j = ib ∨ j = lb) (p := ⟨lb, k * 3 + 1, none⟩) HT2.out (.inl (.inr rfl)) _
  rw [← hW3]
  have HR3 := Lib.hid hr3
  have hk3 : k < (setT (setT ls k 0 i) k 1 i).length := by rw [setT_length, setT_length]; exact hk
  obtain ⟨-, -, d2⟩ := hr3.list hk3
  have hc : (setT (setT ls k 0 i) k 1 i)[k].c = ls[k].c := by
    unfold setT
    simp [triSet, List.getD, hk]
  rw [hc] at d2
  have e2 : W3.frozen? ⟨lb, k * 3 + 2, none⟩ = false := frozen_of_row _ _ _ _ _ hr3.lists
  have hnw : IntKind.i64.wrap (ls[k].c + 1) = ls[k].c + 1 := by have := HN.out; rw [IntKind.wrap_i64]; omega
  have HF : Hid (RingAt (W3.setCell ⟨lb, k * 3 + 2, none⟩ (.int .i64 (ls[k].c + 1))) r ib lb (frontI it k i (-1)) (setT (setT (setT ls k 0 i) k 1 i) k 2 (ls[k].c + 1)) ∧ Turned (fun j => j = ib ∨ j = lb) w (W3.setCell ⟨lb, k * 3 + 2, none⟩ (.int .i64 (ls[k].c + 1)))) :=
    ⟨HR3.out.setL n2 hk3 (by decide : 2 < 3) (ls[k].c + 1), Turned.setCell (F := fun j => j = ib ∨ j = lb) (p := ⟨lb, k * 3 + 2, none⟩) HT3.out (.inl (.inr rfl)) _⟩
  clear hW3 hr3 d1 e1 hc
  generalize hy2 : ls[k].c = y2 at *
  have HY2 := Lib.hid hy2
  clear hy2
  go_wp2
  go_end0
  rw [HY2.out]
  exact ⟨rfl, HF.out⟩

end Go.Proofs.YtlljejmblmjjnaaGreatDoor

/- ring: join ahead of a list's first item. -/
namespace Go.Proofs.YtlljejmblmjjnaaGreatDoor
set_option linter.unusedVariables false
set_option linter.unusedSimpArgs false
open Go.RowKit Go.ChangeMaps

set_option maxRecDepth 8000 in
set_option maxHeartbeats 2000000 in
/-- Ahead of a list's first item. -/
theorem rjoin_more {w : World} {r ib lb : Nat} {it ls : List Tri} (h : RingAt w r ib lb it ls) (k i f : Nat) (hk : k < ls.length) (hi : i < it.length) (hf : f < it.length) (hn : 0 ≤ ls[k].c ∧ ls[k].c ≤ 4096) :
    Calls Tryz.prog 171 #[.pointer (some ⟨r, 0, none⟩), .int .i64 k, .int .i64 (-1), .int .i64 i, .int .i64 f] w fun e w' => e = .returned (.tuple #[]) ∧ RingAt w' r ib lb (setT (frontI it k i f) f 1 i) (setT (setT ls k 0 i) k 2 (ls[k].c + 1)) ∧ Turned (fun j => j = ib ∨ j = lb) w w' := by
  obtain ⟨c0, c1⟩ := h.cells
  obtain ⟨n1, n2⟩ := h.ne
  have HH := Lib.hid h
  obtain ⟨g0, g1, g2⟩ := h.item hi
  have f0 : w.frozen? ⟨ib, i * 3, none⟩ = false := frozen_of_row _ _ _ _ _ h.items
  have f1 : w.frozen? ⟨ib, i * 3 + 1, none⟩ = false := frozen_of_row _ _ _ _ _ h.items
  have f2 : w.frozen? ⟨ib, i * 3 + 2, none⟩ = false := frozen_of_row _ _ _ _ _ h.items
  have hk1 : (0 : Int) ≤ (k : Int) ∧ (k : Int) < ls.length := by omega
  have hf1 : (0 : Int) ≤ (f : Int) ∧ (f : Int) < it.length := by omega
  have hfn : ¬ (f : Int) = -1 := by omega
  have hfb : ((f : Int) == -1) = false := beq_eq_false_iff_ne.2 hfn
  have hi1 : (0 : Int) ≤ (i : Int) ∧ (i : Int) < it.length := by omega
  have HN := Lib.hid hn
  clear h hn
  generalize it[i].a = z0 at *
  generalize it[i].b = z1 at *
  generalize it[i].c = z2 at *
  go_enter Tryz.func171, Tryz.ntmps171
  go_upto_region 3 with (fail)
  obtain ⟨W1, hW1⟩ : ∃ W1, W1 = ((w.setCell ⟨ib, i * 3, none⟩ (.int .i64 (k : Int))).setCell ⟨ib, i * 3 + 1, none⟩ (.int .i64 (-1))).setCell ⟨ib, i * 3 + 2, none⟩ (.int .i64 (f : Int)) := ⟨_, rfl⟩
  have hr1 : RingAt W1 r ib lb (frontI it k i f) ls := by
    rw [hW1]
    exact ((HH.out.setI n1 hi (by decide : 0 < 3) (k : Int)).setI n1 (by rw [setT_length]; exact hi) (by decide : 1 < 3) (-1)).setI n1 (by rw [setT_length, setT_length]; exact hi) (by decide : 2 < 3) (f : Int)
  have HT1 : Hid (Turned (fun j => j = ib ∨ j = lb) w W1) := by
    rw [hW1]
    exact Turned.setCell (F := fun j => j = ib ∨ j = lb) (p := ⟨ib, i * 3 + 2, none⟩) (Turned.setCell (F := fun j => j = ib ∨ j = lb) (p := ⟨ib, i * 3 + 1, none⟩) (Turned.setCell (F := fun j => j = ib ∨ j = lb) (p := ⟨ib, i * 3, none⟩) (Turned.refl _ _) (.inl (.inl rfl)) _) (.inl (.inl rfl)) _) (.inl (.inl rfl)) _
  rw [← hW1]
  have HR1 := Lib.hid hr1
  obtain ⟨d0, -, -⟩ := hr1.list hk
  have e0 : W1.frozen? ⟨lb, k * 3, none⟩ = false := frozen_of_row _ _ _ _ _ hr1.lists
  clear hW1 hr1 c0 c1 g0 g1 g2 f0 f1 f2
  generalize ls[k].a = y0 at *
  go_upto_region 7 with (fail)
  obtain ⟨W2, hW2⟩ : ∃ W2, W2 = W1.setCell ⟨lb, k * 3, none⟩ (.int .i64 (i : Int)) := ⟨_, rfl⟩
  have hr2 : RingAt W2 r ib lb (frontI it k i f) (setT ls k 0 i) := by
    rw [hW2]
    exact HR1.out.setL n2 hk (by decide : 0 < 3) (i : Int)
  have HT2 : Hid (Turned (fun j => j = ib ∨ j = lb) w W2) := by
    rw [hW2]
    exact Turned.setCell (F := fun j => j = ib ∨ j = lb) (p := ⟨lb, k * 3, none⟩) HT1.out (.inl (.inr rfl)) _
  rw [← hW2]
  have HR2 := Lib.hid hr2
  have hk2 : k < (setT ls k 0 i).length := by rw [setT_length]; exact hk
  have hf2 : f < (frontI it k i f).length := by unfold frontI; rw [setT_length, setT_length, setT_length]; exact hf
  obtain ⟨c0, -⟩ := hr2.cells
  have hfl : (frontI it k i f).length = it.length := by unfold frontI; rw [setT_length, setT_length, setT_length]
  rw [hfl] at c0
  obtain ⟨-, d1, -⟩ := hr2.item hf2
  have e1 : W2.frozen? ⟨ib, f * 3 + 1, none⟩ = false := frozen_of_row _ _ _ _ _ hr2.items
  clear hW2 hr2 d0 e0 hfl
  generalize (frontI it k i f)[f].b = y1 at *
  go_upto_region 8 with (fail)
  obtain ⟨W3, hW3⟩ : ∃ W3, W3 = W2.setCell ⟨ib, f * 3 + 1, none⟩ (.int .i64 (i : Int)) := ⟨_, rfl⟩
  have hr3 : RingAt W3 r ib lb (setT (frontI it k i f) f 1 i) (setT ls k 0 i) := by
    rw [hW3]
    exact HR2.out.setI n1 hf2 (by decide : 1 < 3) (i : Int)
  have HT3 : Hid (Turned (fun j => j = ib ∨ j = lb) w W3) := by
    rw [hW3]
    exact Turned.setCell (F := fun j => j = ib ∨ j = lb) (p := ⟨ib, f * 3 + 1, none⟩) HT2.out (.inl (.inl rfl)) _
  rw [← hW3]
  have HR3 := Lib.hid hr3
  obtain ⟨-, -, d2⟩ := hr3.list hk2
  have hc : (setT ls k 0 i)[k].c = ls[k].c := by
    unfold setT
    simp [triSet, List.getD, hk]
  rw [hc] at d2
  have e2 : W3.frozen? ⟨lb, k * 3 + 2, none⟩ = false := frozen_of_row _ _ _ _ _ hr3.lists
  have hnw : IntKind.i64.wrap (ls[k].c + 1) = ls[k].c + 1 := by have := HN.out; rw [IntKind.wrap_i64]; omega
  have HF : Hid (RingAt (W3.setCell ⟨lb, k * 3 + 2, none⟩ (.int .i64 (ls[k].c + 1))) r ib lb (setT (frontI it k i f) f 1 i) (setT (setT ls k 0 i) k 2 (ls[k].c + 1)) ∧ Turned (fun j => j = ib ∨ j = lb) w (W3.setCell ⟨lb, k * 3 + 2, none⟩ (.int .i64 (ls[k].c + 1)))) :=
    ⟨HR3.out.setL n2 hk2 (by decide : 2 < 3) (ls[k].c + 1), Turned.setCell (F := fun j => j = ib ∨ j = lb) (p := ⟨lb, k * 3 + 2, none⟩) HT3.out (.inl (.inr rfl)) _⟩
  clear hW3 hr3 d1 e1 hc c0
  generalize hy2 : ls[k].c = y2 at *
  have HY2 := Lib.hid hy2
  clear hy2
  go_wp2
  go_end0
  rw [HY2.out]
  exact ⟨rfl, HF.out⟩

end Go.Proofs.YtlljejmblmjjnaaGreatDoor

/- ring: Push. -/
namespace Go.Proofs.YtlljejmblmjjnaaGreatDoor
set_option linter.unusedVariables false
set_option linter.unusedSimpArgs false
open Go.RowKit Go.ChangeMaps

/-- The rows behind a Push. -/
def pushI (it : List Tri) (k i : Nat) (f : Int) : List Tri := if f = -1 then frontI it k i (-1) else setT (frontI it k i f.toNat) f.toNat 1 i
def pushL (ls : List Tri) (k i : Nat) (f n : Int) : List Tri := if f = -1 then setT (setT (setT ls k 0 i) k 1 i) k 2 (n + 1) else setT (setT ls k 0 i) k 2 (n + 1)
theorem rjoin_any {w : World} {r ib lb : Nat} {it ls : List Tri} (h : RingAt w r ib lb it ls) (k i : Nat) (f : Int) (hk : k < ls.length) (hi : i < it.length) (hf : f = -1 ∨ ∃ q : Nat, f = q ∧ q < it.length) (hn : 0 ≤ ls[k].c ∧ ls[k].c ≤ 4096) :
    Calls Tryz.prog 171 #[.pointer (some ⟨r, 0, none⟩), .int .i64 k, .int .i64 (-1), .int .i64 i, .int .i64 f] w fun e w' => e = .returned (.tuple #[]) ∧ RingAt w' r ib lb (pushI it k i f) (pushL ls k i f ls[k].c) ∧ Turned (fun j => j = ib ∨ j = lb) w w' := by
  rcases hf with rfl | ⟨q, rfl, hq⟩
  · unfold pushI pushL
    rw [if_pos rfl, if_pos rfl]
    exact rjoin_first h k i hk hi hn
  · unfold pushI pushL
    rw [if_neg (by omega), if_neg (by omega), Int.toNat_natCast]
    exact rjoin_more h k i q hk hi hq hn

set_option maxRecDepth 8000 in
set_option maxHeartbeats 1000000 in
theorem rpush_any {w : World} {r ib lb : Nat} {it ls : List Tri} (h : RingAt w r ib lb it ls) (k i : Nat) (hk : k < ls.length) (hi : i < it.length) (ha : it[i].a = -1) (hf : ls[k].a = -1 ∨ ∃ q : Nat, ls[k].a = q ∧ q < it.length) (hn : 0 ≤ ls[k].c ∧ ls[k].c ≤ 4096) :
    Calls Tryz.prog 109 #[.pointer (some ⟨r, 0, none⟩), .int .i64 k, .int .i64 i] w fun e w' => e = .returned (.int .i64 0) ∧ RingAt w' r ib lb (pushI it k i ls[k].a) (pushL ls k i ls[k].a ls[k].c) ∧ Turned (fun j => j = ib ∨ j = lb) w w' := by
  have HP : Hid (Calls Tryz.prog 143 #[.pointer (some ⟨r, 0, none⟩), .int .i64 k, .int .i64 i, .bool true] w fun e w' => e = .returned (.int .i64 0) ∧ RingAt w' r ib lb (pushI it k i ls[k].a) (pushL ls k i ls[k].a ls[k].c) ∧ Turned (fun j => j = ib ∨ j = lb) w w') := by
    show Calls _ _ _ _ _
    have HL := Lib.hid (rlist_yes h k hk)
    have HI := Lib.hid (ritem_yes h i hi)
    have HJ := Lib.hid (rjoin_any h k i ls[k].a hk hi hf hn)
    obtain ⟨g0, -, -⟩ := h.item hi
    obtain ⟨d0, -, -⟩ := h.list hk
    rw [ha] at g0
    clear h ha hf hn
    generalize ls[k].a = f at *
    generalize ls[k].c = n at *
    go_enter Tryz.func143, Tryz.ntmps143
    go_wp2_with (fail)
    refine HL.out.mono ?_
    rintro e w1 ⟨rfl, rfl⟩
    go_wp2_with (fail)
    refine HI.out.mono ?_
    rintro e w1 ⟨rfl, rfl⟩
    go_wp2_with (fail)
    refine HJ.out.mono ?_
    rintro e w1 ⟨rfl, hr, ht⟩
    have HR := Lib.hid (And.intro hr ht)
    clear hr ht
    go_wp2
    go_ret
    exact ⟨rfl, HR.out⟩
  clear h ha hf hn
  go_enter Tryz.func109, Tryz.ntmps109
  go_wp2_with (fail)
  refine HP.out.mono ?_
  rintro e w1 ⟨rfl, hr⟩
  have HR := Lib.hid hr
  clear hr
  go_wp2
  go_ret
  exact ⟨rfl, HR.out⟩

end Go.Proofs.YtlljejmblmjjnaaGreatDoor

/- ring: All: a list's items in order. -/
namespace Go.Proofs.YtlljejmblmjjnaaGreatDoor
set_option linter.unusedVariables false
set_option linter.unusedSimpArgs false
open Go.RowKit Go.ChangeMaps

/-- From an item on, along the links. -/
def Chain (it : List Tri) : Int → List Nat → Prop
  | f, [] => f = -1
  | f, q :: l => f = q ∧ ∃ h : q < it.length, Chain it it[q].c l
def slN : Value → Nat | .slice _ n _ => n | _ => 0
theorem chain_le {it : List Tri} : ∀ {l : List Nat} {f : Int}, Chain it f l → ∀ q ∈ l, q < it.length
  | [], _, _, _, hq => absurd hq List.not_mem_nil
  | a :: l, f, h, q, hq => by
    obtain ⟨-, h1, h2⟩ := h
    rcases List.mem_cons.1 hq with rfl | hq
    · exact h1
    · exact chain_le h2 q hq

set_option maxRecDepth 100000 in
set_option maxHeartbeats 2000000 in
theorem rall_any {w : World} {r ib lb : Nat} {it ls : List Tri} (h : RingAt w r ib lb it ls) (k : Nat) (hk : k < ls.length) (l : List Nat) (hl : Chain it ls[k].a l) (hll : l.length ≤ 4096) :
    Calls Tryz.prog 93 #[.pointer (some ⟨r, 0, none⟩), .int .i64 k] w fun e w' => ∃ v, e = .returned v ∧ w'.ownsRow w.heap.size 3 1 v l.length (intsV (intsN l)) ∧ Below w.heap.size w w' := by
  obtain ⟨i0, hi, hz0, hz1, hz2⟩ := info_parts info_int2
  have HF := Lib.hid (rfirst_yes h k hk)
  have HN : Hid (∀ W, Below w.heap.size w W → ∀ (q : Nat) (hq : q < it.length), Calls Tryz.prog 134 #[.pointer (some ⟨r, 0, none⟩), .int .i64 q] W fun e w' => e = .returned (.int .i64 it[q].c) ∧ W = w') := fun W hW q hq => rnext_yes (h.below hW) q hq
  have HC := Lib.hid hl
  clear h hl
  generalize ls[k].a = f0 at *
  go_enter Tryz.func93, Tryz.ntmps93
  go_wp2_with (fail)
  refine HF.out.mono ?_
  rintro e w1 ⟨rfl, rfl⟩
  go_wp2
  go_loopw [5, 6] (fun v kv wr => ∃ (done rest : List Nat) (z : Int), l = done ++ rest ∧ kv = .int .i64 z ∧ Chain it z rest ∧ wr.ownsRow w.heap.size 3 1 v done.length (intsV (intsN done)) ∧ Below w.heap.size w wr) (fun v _ _ => l.length - slN v)
  case atStart => exact ⟨[], l, f0, rfl, rfl, HC.out, World.ownsRow_nil _ _ _ _, Below.refl _ _⟩
  case round =>
    obtain ⟨done, rest, z, hdr, rfl, hch, hown, hbw⟩ := hrel
    have HBW := Lib.hid hbw
    have hsw := hbw.size
    cases rest with
    | nil =>
      have hz : z = -1 := hch
      subst hz
      have HD : Hid (l = done) := by show _ = _; rw [hdr, List.append_nil]
      clear hdr hch hbw
      go_wp2
      go_ret
      rw [HD.out]
      exact ⟨_, rfl, hown, HBW.out⟩
    | cons q rest =>
      obtain ⟨hzq, hq, hch2⟩ := hch
      subst hzq
      have hzn : ¬ (q : Int) = -1 := by omega
      have hzb : ((q : Int) != -1) = true := by simp
      have hdl : done.length + 1 ≤ l.length := by rw [hdr, List.length_append, List.length_cons]; omega
      have HD : Hid (l = (done ++ [q]) ++ rest) := by show _ = _; rw [hdr]; simp
      have HCH := Lib.hid hch2
      have hlt2 := fun j e => (hown.lt j e).1
      have HLT2 := Lib.hid hlt2
      obtain ⟨pv, cv, rfl⟩ := own_slice2 hown
      clear hlt2 hdr hch2 hbw
      go_wp2_with (at_builtin; refine wpList_append_own _ rfl _ _ 38 rfl _ 3 i0 (.int .i64 0) 1 8 und_ints2 hi hz0 hz1 hz2 rfl (by decide) _ _ _ rfl (World.ownsRow.alloc hown _) ⟨_, 0, none⟩ 1 1 [_] rfl rfl (cell_one_new _ _ _) (fun u hu => by simp at hu; rcases hu with rfl; rfl) (by unfold maxLen; omega) (by omega) (by simp; omega) ?_; intro v9 w9 hown9 hgrow9 hnil9)
      have HB9 := Lib.hid (Below.grown (HBW.out.alloc hsw _) hgrow9 (by simp; omega) HLT2.out)
      have HOWN9 := Lib.hid hown9
      have HNX := Lib.hid (HN.out w9 HB9.out q hq)
      obtain ⟨p9, c9, rfl⟩ := own_slice2 hown9
      clear hgrow9 hnil9 hown9 hown
      generalize it[q].c = z2 at *
      go_wp2_with (fail)
      refine HNX.out.mono ?_
      rintro e w2 ⟨rfl, rfl⟩
      go_wp2
      go_roundw
      case rel => exact ⟨done ++ [q], rest, z2, HD.out, by go_num, HCH.out, by rw [List.length_append, intsV_snoc]; exact HOWN9.out, HB9.out⟩
      case measure => simp [slN]; omega

end Go.Proofs.YtlljejmblmjjnaaGreatDoor
