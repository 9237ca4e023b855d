/- ring: New; Each. -/
import Derived.Test.YtlljejmblmjjnaaGreatDoorZv
import Derived.Great.Walk
import Derived.WalkKit
import Derived.WalkSpells
import Derived.WalkLawsBesides
import Derived.BigQuiet
import Derived.Lib.Hide
namespace Go.Proofs.YtlljejmblmjjnaaGreatDoor
set_option linter.unusedVariables false
set_option linter.unusedSimpArgs false
open Go.RowKit Go.ChangeMaps

theorem ring_new_ok (n : Nat) : RingOk (List.replicate n ⟨-1, -1, -1⟩) (List.replicate 64 ⟨-1, -1, 0⟩) (fun _ => []) := by
  refine ⟨fun k _ => trivial, fun k hk => ⟨-1, ?_⟩, fun k _ => List.nodup_nil, fun i hi _ => ?_⟩
  · rw [List.getElem?_replicate, if_pos (by rw [List.length_replicate] at hk; exact hk)]
    rfl
  · rw [List.getElem?_replicate, if_pos (by rw [List.length_replicate] at hi; exact hi)]
    rfl
set_option maxRecDepth 8000 in
set_option maxHeartbeats 2000000 in
theorem rNew_yes (n : Nat) (hn : n ≤ 4096) (w : World) :
    Calls Tryz.prog 79 #[.int .i64 n, .int .i64 64] w fun e w' => ∃ r ib lb, e = .returned (.tuple #[.pointer (some ⟨r, 0, none⟩), .int .i64 0]) ∧ RingIn w' r ib lb n (fun _ => []) ∧ w.heap.size ≤ r ∧ w.heap.size ≤ ib ∧ w.heap.size ≤ lb ∧ Below w.heap.size w w' := by
  have h1 : ¬ (n : Int) < 0 := by omega
  have h2 : ¬ (4096 : Int) < (n : Int) := by omega
  have HL := Lib.hid (fun g w => repeat_link ⟨-1, -1, -1⟩ n hn g w)
  have HE := Lib.hid (fun g w => repeat_ends ⟨-1, -1, 0⟩ 64 (by decide) g w)
  have HN := Lib.hid hn
  go_enter Tryz.func79, Tryz.ntmps79
  go_upto_region 3 with (fail)
  go_wp2_with (fail)
  refine (HL.out _ _ (by rw [heap_alloc_new]; rfl)).mono ?_
  rintro e w1 ⟨ib, rfl, hib, hi1, hb1⟩
  have hs0 : w.heap.size ≤ (w.alloc (.cells #[.int .i64 (-1), .int .i64 (-1), .int .i64 (-1)] 187)).heap.size := by simp
  have HB1 : Hid (Below w.heap.size w w1) := Below.via hb1 hs0 ((Below.refl _ _).alloc (Nat.le_refl _) _)
  have HI1 := Lib.hid hi1
  have HIB : Hid (w.heap.size ≤ ib) := Nat.le_trans hs0 hib
  clear hb1 hi1 hib hs0
  go_wp2_with (fail)
  refine (HE.out _ _ (by rw [heap_alloc_new]; rfl)).mono ?_
  rintro e w2 ⟨lb, rfl, hlb, hl2, hb2⟩
  have hs1 : w1.heap.size ≤ (w1.alloc (.cells #[.int .i64 (-1), .int .i64 (-1), .int .i64 0] 166)).heap.size := by simp
  have hz1 := HB1.out.size
  have hb12 : Below w1.heap.size w1 w2 := Below.via hb2 hs1 ((Below.refl _ _).alloc (Nat.le_refl _) _)
  have HB2 : Hid (Below w.heap.size w w2) := Below.via hb12 hz1 HB1.out
  have HI2 := Lib.hid ((hb12.block _ (lt_of_block HI1.out)).trans HI1.out)
  have HL2 := Lib.hid hl2
  have HLB : Hid (w.heap.size ≤ lb) := Nat.le_trans hz1 (Nat.le_trans hs1 hlb)
  clear hb2 hb12 hl2 hlb hs1
  go_wp2
  go_ret2
  have hbx : Below w2.heap.size w2 (w2.alloc (.cells #[.slice (some ⟨ib, 0, none⟩) n n, .slice (some ⟨lb, 0, none⟩) 64 64] 191)) := (Below.refl _ _).alloc (Nat.le_refl _) _
  refine ⟨w2.heap.size, ib, lb, rfl, ⟨_, _, ⟨?_, (hbx.block _ (lt_of_block HI2.out)).trans HI2.out, (hbx.block _ (lt_of_block HL2.out)).trans HL2.out, ?_, ?_⟩, ring_new_ok n, List.length_replicate, List.length_replicate⟩, HB2.out.size, HIB.out, HLB.out, HB2.out.alloc HB2.out.size _⟩
  · rw [heap_alloc_new, List.length_replicate, List.length_replicate]
  · rw [List.length_replicate]; exact HN.out
  · rw [List.length_replicate]; decide

set_option maxHeartbeats 400000 in
/-- Each: the receiver and the list's number are boxed; the function value captures the boxes. -/
theorem each_any (p : Option Addr) (z : Int) (w : World) :
    Calls Tryz.prog 45 #[.pointer p, .int .i64 z] w fun e w' => e = .returned (.func (.func 92) #[] #[.pointer (some ⟨w.heap.size, 0, none⟩), .pointer (some ⟨w.heap.size + 1, 0, none⟩)]) ∧ w' = (w.alloc (.cells #[.pointer p] 78)).alloc (.cells #[.int .i64 z] 3) := by
  go_enter Tryz.func45, Tryz.ntmps45
  go_wp2
  go_ret
  exact ⟨rfl, rfl⟩

end Go.Proofs.YtlljejmblmjjnaaGreatDoor
