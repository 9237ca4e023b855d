/- ring: Remove. -/
import Derived.Test.YtlljejmblmjjnaaGreatDoorZr
import Derived.Deep.Cut
import Derived.BigRegion
import Derived.WalkKit
import Derived.WalkSpells
import Derived.WalkLawsBesides
import Derived.BigQuiet
import Derived.Lib.Hide
namespace Go.Proofs.YtlljejmblmjjnaaGreatDoor
set_option linter.unusedVariables false
set_option linter.unusedSimpArgs false
open Go.RowKit Go.ChangeMaps

def stI (it : List Tri) (b c : Int) : List Tri := if b = -1 then it else setT it b.toNat 2 c
def stL (ls : List Tri) (k : Nat) (b c : Int) : List Tri := if b = -1 then setT ls k 0 c else ls
def sdI (it : List Tri) (b c : Int) : List Tri := if c = -1 then it else setT it c.toNat 1 b
def sdL (ls : List Tri) (k : Nat) (b c : Int) : List Tri := if c = -1 then setT ls k 1 b else ls
theorem rem_eq (it ls : List Tri) (i k : Nat) (b c n : Int) : remI it i b c = setT (setT (setT (sdI (stI it b c) b c) i 0 (-1)) i 1 (-1)) i 2 (-1) ∧ remL ls k b c n = setT (sdL (stL ls k b c) k b c) k 2 (n - 1) := ⟨rfl, rfl⟩
theorem setT_ne {l : List Tri} {p j i : Nat} {z : Int} (h : i ≠ p) : (setT l p j z)[i]? = l[i]? := by rw [getSet, if_neg h]
theorem setT_c {l : List Tri} {k j : Nat} {z : Int} (hk : k < l.length) (hj : j < 2) : (setT l k j z)[k]?.map (·.c) = l[k]?.map (·.c) := by
  rw [getSet, if_pos rfl, List.getElem?_eq_getElem hk]
  obtain rfl | rfl : j = 0 ∨ j = 1 := by omega
  all_goals rfl

/-- Where the first half of a Remove has come to. -/
structure HalfR (w w1 : World) (r ib lb : Nat) (it1 ls1 : List Tri) (it ls : List Tri) (i k : Nat) : Prop where
  ring : RingAt w1 r ib lb it1 ls1
  item : it1[i]? = it[i]?
  cnt : ls1[k]?.map (·.c) = ls[k]?.map (·.c)
  il : it1.length = it.length
  ll : ls1.length = ls.length
  t : Turned (fun j => j = ib ∨ j = lb) w w1
theorem HalfR.l {w w1 : World} {r ib lb : Nat} {it1 ls1 it ls : List Tri} {i k : Nat} (h : HalfR w w1 r ib lb it1 ls1 it ls i k) (hk : k < ls.length) {j : Nat} (hj : j < 2) (z : Int) : HalfR w (w1.setCell ⟨lb, k * 3 + j, none⟩ (.int .i64 z)) r ib lb it1 (setT ls1 k j z) it ls i k :=
  ⟨h.ring.setL h.ring.ne.2 (by rw [h.ll]; exact hk) (by omega) z, h.item, (setT_c (by rw [h.ll]; exact hk) hj).trans h.cnt, h.il, by rw [setT_length]; exact h.ll, Turned.setCell (F := fun j => j = ib ∨ j = lb) (p := ⟨lb, k * 3 + j, none⟩) h.t (.inl (.inr rfl)) _⟩
theorem HalfR.i {w w1 : World} {r ib lb : Nat} {it1 ls1 it ls : List Tri} {i k : Nat} (h : HalfR w w1 r ib lb it1 ls1 it ls i k) {p : Nat} (hp : p < it.length) (hpi : i ≠ p) {j : Nat} (hj : j < 3) (z : Int) : HalfR w (w1.setCell ⟨ib, p * 3 + j, none⟩ (.int .i64 z)) r ib lb (setT it1 p j z) ls1 it ls i k :=
  ⟨h.ring.setI h.ring.ne.1 (by rw [h.il]; exact hp) hj z, (setT_ne hpi).trans h.item, h.cnt, by rw [setT_length]; exact h.il, h.ll, Turned.setCell (F := fun j => j = ib ∨ j = lb) (p := ⟨ib, p * 3 + j, none⟩) h.t (.inl (.inl rfl)) _⟩
theorem HalfR.drew {w w1 : World} {r ib lb : Nat} {it1 ls1 it ls : List Tri} {i k : Nat} (h : HalfR w w1 r ib lb it1 ls1 it ls i k) : HalfR w w1.drew r ib lb it1 ls1 it ls i k :=
  ⟨h.ring.below (Below.drew (Below.refl _ _)), h.item, h.cnt, h.il, h.ll, h.t.drew⟩
theorem HalfR.at {w w1 : World} {r ib lb : Nat} {it1 ls1 it ls : List Tri} {i k : Nat} {b c : Int} (h : HalfR w w1 r ib lb it1 ls1 it ls i k) (he : it[i]? = some ⟨k, b, c⟩) :
    w1.cell? ⟨r, 0, none⟩ = some (.slice (some ⟨ib, 0, none⟩) it.length it.length) ∧ w1.cell? ⟨r, 1, none⟩ = some (.slice (some ⟨lb, 0, none⟩) ls.length ls.length) ∧ w1.cell? ⟨ib, i * 3, none⟩ = some (.int .i64 k) ∧ w1.cell? ⟨ib, i * 3 + 1, none⟩ = some (.int .i64 b) ∧ w1.cell? ⟨ib, i * 3 + 2, none⟩ = some (.int .i64 c) := by
  obtain ⟨c0, c1⟩ := h.ring.cells
  rw [h.il] at c0
  rw [h.ll] at c1
  obtain ⟨hi, e⟩ := List.getElem?_eq_some_iff.1 (h.item.trans he)
  obtain ⟨g0, g1, g2⟩ := h.ring.item hi
  rw [e] at g0 g1 g2
  exact ⟨c0, c1, g0, g1, g2⟩
theorem HalfR.l_at {w w1 : World} {r ib lb : Nat} {it1 ls1 it ls : List Tri} {i k : Nat} {n : Int} (h : HalfR w w1 r ib lb it1 ls1 it ls i k) (hk : k < ls.length) (hn : ls[k]?.map (·.c) = some n) :
    (∃ v, w1.cell? ⟨lb, k * 3, none⟩ = some v) ∧ (∃ v, w1.cell? ⟨lb, k * 3 + 1, none⟩ = some v) ∧ w1.cell? ⟨lb, k * 3 + 2, none⟩ = some (.int .i64 n) ∧ ∀ j, w1.frozen? ⟨lb, j, none⟩ = false := by
  obtain ⟨d0, d1, d2⟩ := h.ring.list (i := k) (by rw [h.ll]; exact hk)
  have hc := h.cnt.trans hn
  rw [List.getElem?_eq_getElem (by rw [h.ll]; exact hk)] at hc
  have hkl : k < ls1.length := by rw [h.ll]; exact hk
  rw [show (ls1[k]'hkl).c = n from Option.some.inj hc] at d2
  exact ⟨⟨_, d0⟩, ⟨_, d1⟩, d2, fun j => frozen_of_row _ _ _ _ _ h.ring.lists⟩
theorem HalfR.i_at {w w1 : World} {r ib lb : Nat} {it1 ls1 it ls : List Tri} {i k : Nat} (h : HalfR w w1 r ib lb it1 ls1 it ls i k) {p : Nat} (hp : p < it.length) :
    (∃ v, w1.cell? ⟨ib, p * 3, none⟩ = some v) ∧ (∃ v, w1.cell? ⟨ib, p * 3 + 1, none⟩ = some v) ∧ (∃ v, w1.cell? ⟨ib, p * 3 + 2, none⟩ = some v) ∧ ∀ j, w1.frozen? ⟨ib, j, none⟩ = false := by
  obtain ⟨d0, d1, d2⟩ := h.ring.item (i := p) (by rw [h.il]; exact hp)
  exact ⟨⟨_, d0⟩, ⟨_, d1⟩, ⟨_, d2⟩, fun j => frozen_of_row _ _ _ _ _ h.ring.items⟩

-- WALKS

set_option maxRecDepth 8000 in
set_option maxHeartbeats 2000000 in
theorem rrem_ll {w : World} {r ib lb : Nat} {it ls : List Tri} (h : RingAt w r ib lb it ls) (k i : Nat) (n : Int) (hk : k < ls.length) (hi : i < it.length) (he : it[i]? = some ⟨k, (-1), (-1)⟩) (hn : ls[k]?.map (·.c) = some n) (h0 : 0 ≤ n) (h1 : n ≤ 4096) :
    Calls Tryz.prog 108 #[.pointer (some ⟨r, 0, none⟩), .int .i64 i] w fun e w' => e = .returned (.int .i64 0) ∧ RingAt w' r ib lb (setT (setT (setT it i 0 (-1)) i 1 (-1)) i 2 (-1)) (setT (setT (setT ls k 0 (-1)) k 1 (-1)) k 2 (n - 1)) ∧ Turned (fun j => j = ib ∨ j = lb) w w' := by
  have HI := Lib.hid (ritem_yes h i hi)
  have HH := Lib.hid h
  have HE : Hid (it[i]? = some ⟨k, (-1), (-1)⟩) := he
  have HNN : Hid (ls[k]?.map (·.c) = some n) := hn
  have hr00 : HalfR w w r ib lb it ls it ls i k := ⟨h, rfl, rfl, rfl, rfl, Turned.refl _ _⟩
  obtain ⟨c0, c1, g0, g1, g2⟩ := hr00.at he
  have hk1 : (0 : Int) ≤ (k : Int) ∧ (k : Int) < ls.length := by omega
  have hi1 : (0 : Int) ≤ (i : Int) ∧ (i : Int) < it.length := by omega
  have hkn : ¬ (k : Int) = -1 := by omega
  have hkb : ((k : Int) == -1) = false := beq_eq_false_iff_ne.2 hkn
  have hnw : IntKind.i64.wrap (n - 1) = n - 1 := by rw [IntKind.wrap_i64]; omega
  clear hr00 h he hn h0 h1
  go_enter Tryz.func108, Tryz.ntmps108
  go_wp2_with (fail)
  refine HI.out.mono ?_
  rintro e w1 ⟨rfl, rfl⟩
  go_upto_region 6 with (fail)
  (refine wp_region_quiet_ext (by kernel_rfl) (by kernel_rfl) ?_; (repeat (first | go_big_quiet_step ((fail)) | quiet_step ((fail)))); refine wpQuiet_nil ?_; intro w3 hw3; obtain hb3 := below_of_ext hw3; clear hw3; obtain ⟨hc3, hf3⟩ := bcell hb3; have hz3 := hb3.size; (try simp at hz3))
  have hr0 : HalfR w w3 r ib lb it ls it ls i k := ⟨HH.out.below hb3, rfl, rfl, rfl, rfl, Turned.of_below hb3 (Nat.le_refl _)⟩
  have HR0 := Lib.hid hr0
  clear hc3 hf3 hb3 c0 c1 g0 g1 g2 hz3
  obtain ⟨c0, c1, g0, g1, g2⟩ := hr0.at HE.out
  obtain ⟨⟨v0, d0⟩, -, -, fl⟩ := hr0.l_at hk HNN.out
  have e0 := fl (k * 3)
  clear hr0 fl
  go_upto_region 10 with (fail)
  obtain ⟨W1, hW1⟩ : ∃ W1, W1 = w3.setCell ⟨lb, k * 3, none⟩ (.int .i64 (-1)) := ⟨_, rfl⟩
  have hr1 : HalfR w W1 r ib lb it (setT ls k 0 (-1)) it ls i k := by rw [hW1]; exact HR0.out.l hk (by decide : 0 < 2) (-1)
  rw [← hW1]
  clear hW1 c0 c1 g0 g1 g2 d0 e0
  have HR1 := Lib.hid hr1
  obtain ⟨c0, c1, g0, g1, g2⟩ := hr1.at HE.out
  obtain ⟨-, ⟨v1, d1⟩, -, fl⟩ := hr1.l_at hk HNN.out
  have e1 := fl (k * 3 + 1)
  clear hr1 fl
  go_upto_region 13 with (fail)
  obtain ⟨W2, hW2⟩ : ∃ W2, W2 = W1.setCell ⟨lb, k * 3 + 1, none⟩ (.int .i64 (-1)) := ⟨_, rfl⟩
  have hr2 : HalfR w W2 r ib lb it (setT (setT ls k 0 (-1)) k 1 (-1)) it ls i k := by rw [hW2]; exact HR1.out.l hk (by decide : 1 < 2) (-1)
  rw [← hW2]
  clear hW2 c0 c1 g0 g1 g2 d1 e1
  obtain ⟨-, -, d2, fl⟩ := hr2.l_at hk HNN.out
  obtain ⟨-, -, m0, m1, m2⟩ := hr2.at HE.out
  obtain ⟨-, -, -, fi⟩ := hr2.i_at hi
  have e2 := fl (k * 3 + 2)
  have f0 := fi (i * 3)
  have f1 := fi (i * 3 + 1)
  have f2 := fi (i * 3 + 2)
  have n1 : ¬ ib = lb := hr2.ring.ne.2.2
  have n2 : ¬ lb = ib := fun e => n1 e.symm
  have HF : Hid (RingAt ((((W2.setCell ⟨lb, k * 3 + 2, none⟩ (.int .i64 (n - 1))).setCell ⟨ib, i * 3, none⟩ (.int .i64 (-1))).setCell ⟨ib, i * 3 + 1, none⟩ (.int .i64 (-1))).setCell ⟨ib, i * 3 + 2, none⟩ (.int .i64 (-1))) r ib lb (setT (setT (setT it i 0 (-1)) i 1 (-1)) i 2 (-1)) (setT (setT (setT ls k 0 (-1)) k 1 (-1)) k 2 (n - 1)) ∧ Turned (fun j => j = ib ∨ j = lb) w ((((W2.setCell ⟨lb, k * 3 + 2, none⟩ (.int .i64 (n - 1))).setCell ⟨ib, i * 3, none⟩ (.int .i64 (-1))).setCell ⟨ib, i * 3 + 1, none⟩ (.int .i64 (-1))).setCell ⟨ib, i * 3 + 2, none⟩ (.int .i64 (-1)))) := by
    have hne := hr2.ring.ne
    have hi2 : i < it.length := by rw [hr2.il]; exact hi
    exact ⟨(((hr2.ring.setL hne.2 (by rw [hr2.ll]; exact hk) (by decide : 2 < 3) (n - 1)).setI hne.1 hi2 (by decide : 0 < 3) (-1)).setI hne.1 (by rw [setT_length]; exact hi2) (by decide : 1 < 3) (-1)).setI hne.1 (by rw [setT_length, setT_length]; exact hi2) (by decide : 2 < 3) (-1),
      Turned.setCell (F := fun j => j = ib ∨ j = lb) (p := ⟨ib, i * 3 + 2, none⟩) (Turned.setCell (F := fun j => j = ib ∨ j = lb) (p := ⟨ib, i * 3 + 1, none⟩) (Turned.setCell (F := fun j => j = ib ∨ j = lb) (p := ⟨ib, i * 3, none⟩) (Turned.setCell (F := fun j => j = ib ∨ j = lb) (p := ⟨lb, k * 3 + 2, none⟩) hr2.t (.inl (.inr rfl)) _) (.inl (.inl rfl)) _) (.inl (.inl rfl)) _) (.inl (.inl rfl)) _⟩
  clear hr2 fl fi
  go_wp2
  go_ret
  exact ⟨rfl, HF.out⟩

set_option maxRecDepth 8000 in
set_option maxHeartbeats 2000000 in
theorem rrem_li {w : World} {r ib lb : Nat} {it ls : List Tri} (h : RingAt w r ib lb it ls) (k i : Nat) (n : Int) (hk : k < ls.length) (hi : i < it.length) (q : Nat) (hq : q < it.length) (hqi : i ≠ q) (he : it[i]? = some ⟨k, (-1), q⟩) (hn : ls[k]?.map (·.c) = some n) (h0 : 0 ≤ n) (h1 : n ≤ 4096) :
    Calls Tryz.prog 108 #[.pointer (some ⟨r, 0, none⟩), .int .i64 i] w fun e w' => e = .returned (.int .i64 0) ∧ RingAt w' r ib lb (setT (setT (setT (setT it q 1 (-1)) i 0 (-1)) i 1 (-1)) i 2 (-1)) (setT (setT ls k 0 q) k 2 (n - 1)) ∧ Turned (fun j => j = ib ∨ j = lb) w w' := by
  have HI := Lib.hid (ritem_yes h i hi)
  have HH := Lib.hid h
  have HE : Hid (it[i]? = some ⟨k, (-1), q⟩) := he
  have HNN : Hid (ls[k]?.map (·.c) = some n) := hn
  have hr00 : HalfR w w r ib lb it ls it ls i k := ⟨h, rfl, rfl, rfl, rfl, Turned.refl _ _⟩
  obtain ⟨c0, c1, g0, g1, g2⟩ := hr00.at he
  have hk1 : (0 : Int) ≤ (k : Int) ∧ (k : Int) < ls.length := by omega
  have hi1 : (0 : Int) ≤ (i : Int) ∧ (i : Int) < it.length := by omega
  have hkn : ¬ (k : Int) = -1 := by omega
  have hkb : ((k : Int) == -1) = false := beq_eq_false_iff_ne.2 hkn
  have hnw : IntKind.i64.wrap (n - 1) = n - 1 := by rw [IntKind.wrap_i64]; omega
  clear hr00 h he hn h0 h1
  go_enter Tryz.func108, Tryz.ntmps108
  go_wp2_with (fail)
  refine HI.out.mono ?_
  rintro e w1 ⟨rfl, rfl⟩
  go_upto_region 6 with (fail)
  (refine wp_region_quiet_ext (by kernel_rfl) (by kernel_rfl) ?_; (repeat (first | go_big_quiet_step ((fail)) | quiet_step ((fail)))); refine wpQuiet_nil ?_; intro w3 hw3; obtain hb3 := below_of_ext hw3; clear hw3; obtain ⟨hc3, hf3⟩ := bcell hb3; have hz3 := hb3.size; (try simp at hz3))
  have hr0 : HalfR w w3 r ib lb it ls it ls i k := ⟨HH.out.below hb3, rfl, rfl, rfl, rfl, Turned.of_below hb3 (Nat.le_refl _)⟩
  have HR0 := Lib.hid hr0
  clear hc3 hf3 hb3 c0 c1 g0 g1 g2 hz3
  obtain ⟨c0, c1, g0, g1, g2⟩ := hr0.at HE.out
  obtain ⟨⟨v0, d0⟩, -, -, fl⟩ := hr0.l_at hk HNN.out
  have e0 := fl (k * 3)
  clear hr0 fl
  go_upto_region 10 with (fail)
  obtain ⟨W1, hW1⟩ : ∃ W1, W1 = w3.setCell ⟨lb, k * 3, none⟩ (.int .i64 q) := ⟨_, rfl⟩
  have hr1 : HalfR w W1 r ib lb it (setT ls k 0 q) it ls i k := by rw [hW1]; exact HR0.out.l hk (by decide : 0 < 2) q
  rw [← hW1]
  clear hW1 c0 c1 g0 g1 g2 d0 e0
  have HR1 := Lib.hid hr1
  obtain ⟨c0, c1, g0, g1, g2⟩ := hr1.at HE.out
  obtain ⟨-, ⟨v1, d1⟩, -, fi⟩ := hr1.i_at hq
  have e1 := fi (q * 3 + 1)
  have hq1 : (0 : Int) ≤ (q : Int) ∧ (q : Int) < it.length := by omega
  have hqn : ¬ (q : Int) = -1 := by omega
  have hqb : ((q : Int) == -1) = false := beq_eq_false_iff_ne.2 hqn
  clear hr1 fi
  go_upto_region 12 with (fail)
  go_region
  go_upto_region 13 with (fail)
  obtain ⟨W2, hW2⟩ : ∃ W2, W2 = (W1.setCell ⟨ib, q * 3 + 1, none⟩ (.int .i64 (-1))).drew := ⟨_, rfl⟩
  have hr2 : HalfR w W2 r ib lb (setT it q 1 (-1)) (setT ls k 0 q) it ls i k := by rw [hW2]; exact (HR1.out.i hq hqi (by decide : 1 < 3) (-1)).drew
  rw [← hW2]
  clear hW2 c0 c1 g0 g1 g2 d1 e1
  obtain ⟨-, -, d2, fl⟩ := hr2.l_at hk HNN.out
  obtain ⟨-, -, m0, m1, m2⟩ := hr2.at HE.out
  obtain ⟨-, -, -, fi⟩ := hr2.i_at hi
  have e2 := fl (k * 3 + 2)
  have f0 := fi (i * 3)
  have f1 := fi (i * 3 + 1)
  have f2 := fi (i * 3 + 2)
  have n1 : ¬ ib = lb := hr2.ring.ne.2.2
  have n2 : ¬ lb = ib := fun e => n1 e.symm
  have HF : Hid (RingAt ((((W2.setCell ⟨lb, k * 3 + 2, none⟩ (.int .i64 (n - 1))).setCell ⟨ib, i * 3, none⟩ (.int .i64 (-1))).setCell ⟨ib, i * 3 + 1, none⟩ (.int .i64 (-1))).setCell ⟨ib, i * 3 + 2, none⟩ (.int .i64 (-1))) r ib lb (setT (setT (setT (setT it q 1 (-1)) i 0 (-1)) i 1 (-1)) i 2 (-1)) (setT (setT ls k 0 q) k 2 (n - 1)) ∧ Turned (fun j => j = ib ∨ j = lb) w ((((W2.setCell ⟨lb, k * 3 + 2, none⟩ (.int .i64 (n - 1))).setCell ⟨ib, i * 3, none⟩ (.int .i64 (-1))).setCell ⟨ib, i * 3 + 1, none⟩ (.int .i64 (-1))).setCell ⟨ib, i * 3 + 2, none⟩ (.int .i64 (-1)))) := by
    have hne := hr2.ring.ne
    have hi2 : i < (setT it q 1 (-1)).length := by rw [hr2.il]; exact hi
    exact ⟨(((hr2.ring.setL hne.2 (by rw [hr2.ll]; exact hk) (by decide : 2 < 3) (n - 1)).setI hne.1 hi2 (by decide : 0 < 3) (-1)).setI hne.1 (by rw [setT_length]; exact hi2) (by decide : 1 < 3) (-1)).setI hne.1 (by rw [setT_length, setT_length]; exact hi2) (by decide : 2 < 3) (-1),
      Turned.setCell (F := fun j => j = ib ∨ j = lb) (p := ⟨ib, i * 3 + 2, none⟩) (Turned.setCell (F := fun j => j = ib ∨ j = lb) (p := ⟨ib, i * 3 + 1, none⟩) (Turned.setCell (F := fun j => j = ib ∨ j = lb) (p := ⟨ib, i * 3, none⟩) (Turned.setCell (F := fun j => j = ib ∨ j = lb) (p := ⟨lb, k * 3 + 2, none⟩) hr2.t (.inl (.inr rfl)) _) (.inl (.inl rfl)) _) (.inl (.inl rfl)) _) (.inl (.inl rfl)) _⟩
  clear hr2 fl fi
  go_wp2
  go_ret
  exact ⟨rfl, HF.out⟩

set_option maxRecDepth 8000 in
set_option maxHeartbeats 2000000 in
theorem rrem_il {w : World} {r ib lb : Nat} {it ls : List Tri} (h : RingAt w r ib lb it ls) (k i : Nat) (n : Int) (hk : k < ls.length) (hi : i < it.length) (p : Nat) (hp : p < it.length) (hpi : i ≠ p) (he : it[i]? = some ⟨k, p, (-1)⟩) (hn : ls[k]?.map (·.c) = some n) (h0 : 0 ≤ n) (h1 : n ≤ 4096) :
    Calls Tryz.prog 108 #[.pointer (some ⟨r, 0, none⟩), .int .i64 i] w fun e w' => e = .returned (.int .i64 0) ∧ RingAt w' r ib lb (setT (setT (setT (setT it p 2 (-1)) i 0 (-1)) i 1 (-1)) i 2 (-1)) (setT (setT ls k 1 p) k 2 (n - 1)) ∧ Turned (fun j => j = ib ∨ j = lb) w w' := by
  have HI := Lib.hid (ritem_yes h i hi)
  have HH := Lib.hid h
  have HE : Hid (it[i]? = some ⟨k, p, (-1)⟩) := he
  have HNN : Hid (ls[k]?.map (·.c) = some n) := hn
  have hr00 : HalfR w w r ib lb it ls it ls i k := ⟨h, rfl, rfl, rfl, rfl, Turned.refl _ _⟩
  obtain ⟨c0, c1, g0, g1, g2⟩ := hr00.at he
  have hk1 : (0 : Int) ≤ (k : Int) ∧ (k : Int) < ls.length := by omega
  have hi1 : (0 : Int) ≤ (i : Int) ∧ (i : Int) < it.length := by omega
  have hkn : ¬ (k : Int) = -1 := by omega
  have hkb : ((k : Int) == -1) = false := beq_eq_false_iff_ne.2 hkn
  have hnw : IntKind.i64.wrap (n - 1) = n - 1 := by rw [IntKind.wrap_i64]; omega
  clear hr00 h he hn h0 h1
  go_enter Tryz.func108, Tryz.ntmps108
  go_wp2_with (fail)
  refine HI.out.mono ?_
  rintro e w1 ⟨rfl, rfl⟩
  go_upto_region 6 with (fail)
  (refine wp_region_quiet_ext (by kernel_rfl) (by kernel_rfl) ?_; (repeat (first | go_big_quiet_step ((fail)) | quiet_step ((fail)))); refine wpQuiet_nil ?_; intro w3 hw3; obtain hb3 := below_of_ext hw3; clear hw3; obtain ⟨hc3, hf3⟩ := bcell hb3; have hz3 := hb3.size; (try simp at hz3))
  have hr0 : HalfR w w3 r ib lb it ls it ls i k := ⟨HH.out.below hb3, rfl, rfl, rfl, rfl, Turned.of_below hb3 (Nat.le_refl _)⟩
  have HR0 := Lib.hid hr0
  clear hc3 hf3 hb3 c0 c1 g0 g1 g2 hz3
  obtain ⟨c0, c1, g0, g1, g2⟩ := hr0.at HE.out
  obtain ⟨-, -, ⟨v0, d0⟩, fi⟩ := hr0.i_at hp
  have e0 := fi (p * 3 + 2)
  have hp1 : (0 : Int) ≤ (p : Int) ∧ (p : Int) < it.length := by omega
  have hpn : ¬ (p : Int) = -1 := by omega
  have hpb : ((p : Int) == -1) = false := beq_eq_false_iff_ne.2 hpn
  clear hr0 fi
  go_upto_region 9 with (fail)
  go_region
  go_upto_region 10 with (fail)
  obtain ⟨W1, hW1⟩ : ∃ W1, W1 = (w3.setCell ⟨ib, p * 3 + 2, none⟩ (.int .i64 (-1))).drew := ⟨_, rfl⟩
  have hr1 : HalfR w W1 r ib lb (setT it p 2 (-1)) ls it ls i k := by rw [hW1]; exact (HR0.out.i hp hpi (by decide : 2 < 3) (-1)).drew
  rw [← hW1]
  clear hW1 c0 c1 g0 g1 g2 d0 e0
  have HR1 := Lib.hid hr1
  obtain ⟨c0, c1, g0, g1, g2⟩ := hr1.at HE.out
  obtain ⟨-, ⟨v1, d1⟩, -, fl⟩ := hr1.l_at hk HNN.out
  have e1 := fl (k * 3 + 1)
  clear hr1 fl
  go_upto_region 13 with (fail)
  obtain ⟨W2, hW2⟩ : ∃ W2, W2 = W1.setCell ⟨lb, k * 3 + 1, none⟩ (.int .i64 p) := ⟨_, rfl⟩
  have hr2 : HalfR w W2 r ib lb (setT it p 2 (-1)) (setT ls k 1 p) it ls i k := by rw [hW2]; exact HR1.out.l hk (by decide : 1 < 2) p
  rw [← hW2]
  clear hW2 c0 c1 g0 g1 g2 d1 e1
  obtain ⟨-, -, d2, fl⟩ := hr2.l_at hk HNN.out
  obtain ⟨-, -, m0, m1, m2⟩ := hr2.at HE.out
  obtain ⟨-, -, -, fi⟩ := hr2.i_at hi
  have e2 := fl (k * 3 + 2)
  have f0 := fi (i * 3)
  have f1 := fi (i * 3 + 1)
  have f2 := fi (i * 3 + 2)
  have n1 : ¬ ib = lb := hr2.ring.ne.2.2
  have n2 : ¬ lb = ib := fun e => n1 e.symm
  have HF : Hid (RingAt ((((W2.setCell ⟨lb, k * 3 + 2, none⟩ (.int .i64 (n - 1))).setCell ⟨ib, i * 3, none⟩ (.int .i64 (-1))).setCell ⟨ib, i * 3 + 1, none⟩ (.int .i64 (-1))).setCell ⟨ib, i * 3 + 2, none⟩ (.int .i64 (-1))) r ib lb (setT (setT (setT (setT it p 2 (-1)) i 0 (-1)) i 1 (-1)) i 2 (-1)) (setT (setT ls k 1 p) k 2 (n - 1)) ∧ Turned (fun j => j = ib ∨ j = lb) w ((((W2.setCell ⟨lb, k * 3 + 2, none⟩ (.int .i64 (n - 1))).setCell ⟨ib, i * 3, none⟩ (.int .i64 (-1))).setCell ⟨ib, i * 3 + 1, none⟩ (.int .i64 (-1))).setCell ⟨ib, i * 3 + 2, none⟩ (.int .i64 (-1)))) := by
    have hne := hr2.ring.ne
    have hi2 : i < (setT it p 2 (-1)).length := by rw [hr2.il]; exact hi
    exact ⟨(((hr2.ring.setL hne.2 (by rw [hr2.ll]; exact hk) (by decide : 2 < 3) (n - 1)).setI hne.1 hi2 (by decide : 0 < 3) (-1)).setI hne.1 (by rw [setT_length]; exact hi2) (by decide : 1 < 3) (-1)).setI hne.1 (by rw [setT_length, setT_length]; exact hi2) (by decide : 2 < 3) (-1),
      Turned.setCell (F := fun j => j = ib ∨ j = lb) (p := ⟨ib, i * 3 + 2, none⟩) (Turned.setCell (F := fun j => j = ib ∨ j = lb) (p := ⟨ib, i * 3 + 1, none⟩) (Turned.setCell (F := fun j => j = ib ∨ j = lb) (p := ⟨ib, i * 3, none⟩) (Turned.setCell (F := fun j => j = ib ∨ j = lb) (p := ⟨lb, k * 3 + 2, none⟩) hr2.t (.inl (.inr rfl)) _) (.inl (.inl rfl)) _) (.inl (.inl rfl)) _) (.inl (.inl rfl)) _⟩
  clear hr2 fl fi
  go_wp2
  go_ret
  exact ⟨rfl, HF.out⟩

set_option maxRecDepth 8000 in
set_option maxHeartbeats 2000000 in
theorem rrem_ii {w : World} {r ib lb : Nat} {it ls : List Tri} (h : RingAt w r ib lb it ls) (k i : Nat) (n : Int) (hk : k < ls.length) (hi : i < it.length) (p : Nat) (hp : p < it.length) (hpi : i ≠ p) (q : Nat) (hq : q < it.length) (hqi : i ≠ q) (he : it[i]? = some ⟨k, p, q⟩) (hn : ls[k]?.map (·.c) = some n) (h0 : 0 ≤ n) (h1 : n ≤ 4096) :
    Calls Tryz.prog 108 #[.pointer (some ⟨r, 0, none⟩), .int .i64 i] w fun e w' => e = .returned (.int .i64 0) ∧ RingAt w' r ib lb (setT (setT (setT (setT (setT it p 2 q) q 1 p) i 0 (-1)) i 1 (-1)) i 2 (-1)) (setT ls k 2 (n - 1)) ∧ Turned (fun j => j = ib ∨ j = lb) w w' := by
  have HI := Lib.hid (ritem_yes h i hi)
  have HH := Lib.hid h
  have HE : Hid (it[i]? = some ⟨k, p, q⟩) := he
  have HNN : Hid (ls[k]?.map (·.c) = some n) := hn
  have hr00 : HalfR w w r ib lb it ls it ls i k := ⟨h, rfl, rfl, rfl, rfl, Turned.refl _ _⟩
  obtain ⟨c0, c1, g0, g1, g2⟩ := hr00.at he
  have hk1 : (0 : Int) ≤ (k : Int) ∧ (k : Int) < ls.length := by omega
  have hi1 : (0 : Int) ≤ (i : Int) ∧ (i : Int) < it.length := by omega
  have hkn : ¬ (k : Int) = -1 := by omega
  have hkb : ((k : Int) == -1) = false := beq_eq_false_iff_ne.2 hkn
  have hnw : IntKind.i64.wrap (n - 1) = n - 1 := by rw [IntKind.wrap_i64]; omega
  clear hr00 h he hn h0 h1
  go_enter Tryz.func108, Tryz.ntmps108
  go_wp2_with (fail)
  refine HI.out.mono ?_
  rintro e w1 ⟨rfl, rfl⟩
  go_upto_region 6 with (fail)
  (refine wp_region_quiet_ext (by kernel_rfl) (by kernel_rfl) ?_; (repeat (first | go_big_quiet_step ((fail)) | quiet_step ((fail)))); refine wpQuiet_nil ?_; intro w3 hw3; obtain hb3 := below_of_ext hw3; clear hw3; obtain ⟨hc3, hf3⟩ := bcell hb3; have hz3 := hb3.size; (try simp at hz3))
  have hr0 : HalfR w w3 r ib lb it ls it ls i k := ⟨HH.out.below hb3, rfl, rfl, rfl, rfl, Turned.of_below hb3 (Nat.le_refl _)⟩
  have HR0 := Lib.hid hr0
  clear hc3 hf3 hb3 c0 c1 g0 g1 g2 hz3
  obtain ⟨c0, c1, g0, g1, g2⟩ := hr0.at HE.out
  obtain ⟨-, -, ⟨v0, d0⟩, fi⟩ := hr0.i_at hp
  have e0 := fi (p * 3 + 2)
  have hp1 : (0 : Int) ≤ (p : Int) ∧ (p : Int) < it.length := by omega
  have hpn : ¬ (p : Int) = -1 := by omega
  have hpb : ((p : Int) == -1) = false := beq_eq_false_iff_ne.2 hpn
  clear hr0 fi
  go_upto_region 9 with (fail)
  go_region
  go_upto_region 10 with (fail)
  obtain ⟨W1, hW1⟩ : ∃ W1, W1 = (w3.setCell ⟨ib, p * 3 + 2, none⟩ (.int .i64 q)).drew := ⟨_, rfl⟩
  have hr1 : HalfR w W1 r ib lb (setT it p 2 q) ls it ls i k := by rw [hW1]; exact (HR0.out.i hp hpi (by decide : 2 < 3) q).drew
  rw [← hW1]
  clear hW1 c0 c1 g0 g1 g2 d0 e0
  have HR1 := Lib.hid hr1
  obtain ⟨c0, c1, g0, g1, g2⟩ := hr1.at HE.out
  obtain ⟨-, ⟨v1, d1⟩, -, fi⟩ := hr1.i_at hq
  have e1 := fi (q * 3 + 1)
  have hq1 : (0 : Int) ≤ (q : Int) ∧ (q : Int) < it.length := by omega
  have hqn : ¬ (q : Int) = -1 := by omega
  have hqb : ((q : Int) == -1) = false := beq_eq_false_iff_ne.2 hqn
  clear hr1 fi
  go_upto_region 12 with (fail)
  go_region
  go_upto_region 13 with (fail)
  obtain ⟨W2, hW2⟩ : ∃ W2, W2 = (W1.setCell ⟨ib, q * 3 + 1, none⟩ (.int .i64 p)).drew := ⟨_, rfl⟩
  have hr2 : HalfR w W2 r ib lb (setT (setT it p 2 q) q 1 p) ls it ls i k := by rw [hW2]; exact (HR1.out.i hq hqi (by decide : 1 < 3) p).drew
  rw [← hW2]
  clear hW2 c0 c1 g0 g1 g2 d1 e1
  obtain ⟨-, -, d2, fl⟩ := hr2.l_at hk HNN.out
  obtain ⟨-, -, m0, m1, m2⟩ := hr2.at HE.out
  obtain ⟨-, -, -, fi⟩ := hr2.i_at hi
  have e2 := fl (k * 3 + 2)
  have f0 := fi (i * 3)
  have f1 := fi (i * 3 + 1)
  have f2 := fi (i * 3 + 2)
  have n1 : ¬ ib = lb := hr2.ring.ne.2.2
  have n2 : ¬ lb = ib := fun e => n1 e.symm
  have HF : Hid (RingAt ((((W2.setCell ⟨lb, k * 3 + 2, none⟩ (.int .i64 (n - 1))).setCell ⟨ib, i * 3, none⟩ (.int .i64 (-1))).setCell ⟨ib, i * 3 + 1, none⟩ (.int .i64 (-1))).setCell ⟨ib, i * 3 + 2, none⟩ (.int .i64 (-1))) r ib lb (setT (setT (setT (setT (setT it p 2 q) q 1 p) i 0 (-1)) i 1 (-1)) i 2 (-1)) (setT ls k 2 (n - 1)) ∧ Turned (fun j => j = ib ∨ j = lb) w ((((W2.setCell ⟨lb, k * 3 + 2, none⟩ (.int .i64 (n - 1))).setCell ⟨ib, i * 3, none⟩ (.int .i64 (-1))).setCell ⟨ib, i * 3 + 1, none⟩ (.int .i64 (-1))).setCell ⟨ib, i * 3 + 2, none⟩ (.int .i64 (-1)))) := by
    have hne := hr2.ring.ne
    have hi2 : i < (setT (setT it p 2 q) q 1 p).length := by rw [hr2.il]; exact hi
    exact ⟨(((hr2.ring.setL hne.2 (by rw [hr2.ll]; exact hk) (by decide : 2 < 3) (n - 1)).setI hne.1 hi2 (by decide : 0 < 3) (-1)).setI hne.1 (by rw [setT_length]; exact hi2) (by decide : 1 < 3) (-1)).setI hne.1 (by rw [setT_length, setT_length]; exact hi2) (by decide : 2 < 3) (-1),
      Turned.setCell (F := fun j => j = ib ∨ j = lb) (p := ⟨ib, i * 3 + 2, none⟩) (Turned.setCell (F := fun j => j = ib ∨ j = lb) (p := ⟨ib, i * 3 + 1, none⟩) (Turned.setCell (F := fun j => j = ib ∨ j = lb) (p := ⟨ib, i * 3, none⟩) (Turned.setCell (F := fun j => j = ib ∨ j = lb) (p := ⟨lb, k * 3 + 2, none⟩) hr2.t (.inl (.inr rfl)) _) (.inl (.inl rfl)) _) (.inl (.inl rfl)) _) (.inl (.inl rfl)) _⟩
  clear hr2 fl fi
  go_wp2
  go_ret
  exact ⟨rfl, HF.out⟩


theorem rrem_any {w : World} {r ib lb : Nat} {it ls : List Tri} (h : RingAt w r ib lb it ls) (k i : Nat) (b c n : Int) (hk : k < ls.length) (hi : i < it.length) (he : it[i]? = some ⟨k, b, c⟩) (hn : ls[k]?.map (·.c) = some n) (h0 : 0 ≤ n) (h1 : n ≤ 4096)
    (hb : b = -1 ∨ ∃ p : Nat, b = p ∧ p < it.length ∧ i ≠ p) (hc : c = -1 ∨ ∃ q : Nat, c = q ∧ q < it.length ∧ i ≠ q) :
    Calls Tryz.prog 108 #[.pointer (some ⟨r, 0, none⟩), .int .i64 i] w fun e w' => e = .returned (.int .i64 0) ∧ RingAt w' r ib lb (remI it i b c) (remL ls k b c n) ∧ Turned (fun j => j = ib ∨ j = lb) w w' := by
  rw [(rem_eq it ls i k b c n).1, (rem_eq it ls i k b c n).2]
  rcases hb with rfl | ⟨p, rfl, hp, hpi⟩ <;> rcases hc with rfl | ⟨q, rfl, hq, hqi⟩
  · exact rrem_ll h k i n hk hi he hn h0 h1
  · unfold stI stL sdI sdL
    have hqn : ¬ (q : Int) = -1 := by omega
    simp only [hqn, ↓reduceIte, Int.toNat_natCast]
    exact rrem_li h k i n hk hi q hq hqi he hn h0 h1
  · unfold stI stL sdI sdL
    have hpn : ¬ (p : Int) = -1 := by omega
    simp only [hpn, ↓reduceIte, Int.toNat_natCast]
    exact rrem_il h k i n hk hi p hp hpi he hn h0 h1
  · unfold stI stL sdI sdL
    have hqn : ¬ (q : Int) = -1 := by omega
    have hpn : ¬ (p : Int) = -1 := by omega
    simp only [hpn, hqn, ↓reduceIte, Int.toNat_natCast]
    exact rrem_ii h k i n hk hi p hp hpi q hq hqi he hn h0 h1

set_option maxRecDepth 8000 in
set_option maxHeartbeats 1000000 in
/-- An item that is in no list. -/
theorem rrem_no {w : World} {r ib lb : Nat} {it ls : List Tri} (h : RingAt w r ib lb it ls) (i : Nat) (hi : i < it.length) (he : it[i].a = -1) :
    Calls Tryz.prog 108 #[.pointer (some ⟨r, 0, none⟩), .int .i64 i] w fun e w' => e = .returned (.int .i64 16) ∧ w = w' := by
  have HI := Lib.hid (ritem_yes h i hi)
  obtain ⟨g0, -, -⟩ := h.item hi
  rw [he] at g0
  clear h he
  go_enter Tryz.func108, Tryz.ntmps108
  go_wp2_with (fail)
  refine HI.out.mono ?_
  rintro e w1 ⟨rfl, rfl⟩
  go_wp2
  go_ret
  exact ⟨rfl, rfl⟩

end Go.Proofs.YtlljejmblmjjnaaGreatDoor
