/- tablea: the old layout's sizes. -/
import Derived.Test.YtlljejmblmjjnaaGreatDoorZA
import Derived.Deep.Cut
import Derived.WalkKit
import Derived.WalkSpells
import Derived.WalkLawsBesides
import Derived.BigQuiet
import Derived.Lib.Hide
namespace Go.Proofs.YtlljejmblmjjnaaGreatDoor
set_option linter.unusedVariables false
set_option linter.unusedSimpArgs false
open Go.RowKit Go.ChangeMaps

def mkA (k : Nat) : Array Value := ((List.range 16).map fun i => Value.int .i64 ((if i < k then tabA.getD i 0 else 0 : Nat) : Int)).toArray
theorem mkA_get {k i : Nat} (hi : i < 16) : (mkA k)[i]? = some (.int .i64 ((if i < k then tabA.getD i 0 else 0 : Nat) : Int)) := by
  unfold mkA
  rw [List.getElem?_toArray, List.getElem?_map, List.getElem?_range hi]
  rfl
theorem mkA_set {k : Nat} (hk : k < 16) : (mkA k).setIfInBounds k (.int .i64 (tabA.getD k 0 : Nat)) = mkA (k + 1) := by
  have : ∀ k, k < 16 → (mkA k).setIfInBounds k (.int .i64 (tabA.getD k 0 : Nat)) = mkA (k + 1) := by
    intro k hk
    obtain rfl | rfl | rfl | rfl | rfl | rfl | rfl | rfl | rfl | rfl | rfl | rfl | rfl | rfl | rfl | rfl : k = 0 ∨ k = 1 ∨ k = 2 ∨ k = 3 ∨ k = 4 ∨ k = 5 ∨ k = 6 ∨ k = 7 ∨ k = 8 ∨ k = 9 ∨ k = 10 ∨ k = 11 ∨ k = 12 ∨ k = 13 ∨ k = 14 ∨ k = 15 := by omega
    all_goals rfl
  exact this k hk
/-- The table, half laid. -/
structure TabI (w wr : World) (k : Nat) : Prop where
  out : wr.heap[w.heap.size]? = some (.cells (mkA 0) 192 (0, 0))
  row : wr.heap[w.heap.size + 1]? = some (.cells (mkA k) 192 (0, 0))
  below : Below w.heap.size w wr
theorem TabI.put {w wr : World} {k : Nat} (h : TabI w wr k) (hk : k < 16) {z : Int} (hz : z = (tabA.getD k 0 : Nat)) : TabI w (wr.setCell ⟨w.heap.size + 1, k, none⟩ (.int .i64 z)) (k + 1) := by
  refine ⟨?_, ?_, Below.setCell h.below (by show w.heap.size ≤ w.heap.size + 1; omega) _⟩
  · rw [Below.heap_setCell _ _ _ _ (by show w.heap.size ≠ w.heap.size + 1; omega)]
    exact h.out
  · rw [heap_setCell_eq h.row, hz, mkA_set hk]

set_option maxRecDepth 8000 in
set_option maxHeartbeats 4000000 in
theorem atable_any (w : World) : Calls Tryz.prog 118 #[] w fun e w' => e = .returned (.agg (mkA 16)) ∧ Below w.heap.size w w' := by
  go_enter Tryz.func118, Tryz.ntmps118
  go_wp2
  go_loopw [2, 3] (fun kv nv wr => ∃ (k : Nat) (z : Int), k ≤ 8 ∧ kv = .int .i64 k ∧ nv = .int .i64 z ∧ z = 16 * ((k : Int) + 1) ∧ TabI w wr k) (fun kv _ _ => 8 - (intOf kv).toNat)
  case atStart =>
    refine ⟨0, 16, by decide, rfl, rfl, rfl, ⟨?_, ?_, ?_⟩⟩
    · exact heap_alloc2_old _ _ _
    · exact heap_alloc2_new _ _ _
    · exact (by repeat (first | exact Below.refl _ _ | assumption | refine Below.alloc ?_ (by first | omega | (simp <;> omega)) _ | refine Below.drew ?_ | refine Below.setCell ?_ (by first | omega | (simp <;> omega)) _ | refine Below.via (by assumption) (by first | omega | (simp <;> omega)) ?_))
  case round =>
    obtain ⟨k, z, hk, rfl, rfl, hz, hI⟩ := hrel
    have HI := Lib.hid hI
    by_cases hlt : k < 8
    · have g0 : wr.cell? ⟨w.heap.size + 1, k, none⟩ = some (.int .i64 ((if k < k then tabA.getD k 0 else 0 : Nat) : Int)) := (cell_of_block hI.row k).trans (mkA_get (by omega))
      have f0 : wr.frozen? ⟨w.heap.size + 1, k, none⟩ = false := frozen_of_row _ _ _ _ _ hI.row
      have HP := Lib.hid (hI.put (z := z) (by omega) (by
        have : ∀ k, k < 8 → tabA.getD k 0 = 16 * (k + 1) := by decide
        rw [this k hlt]
        omega))
      have hkw : IntKind.i64.wrap ((k : Int) + 1) = (k : Int) + 1 := by rw [IntKind.wrap_i64]; omega
      have hzw : IntKind.i64.wrap (z + 16) = z + 16 := by rw [IntKind.wrap_i64]; omega
      have hk16 : (0 : Int) ≤ (k : Int) ∧ (k : Int) < 16 := by omega
      have hz1 : z ≤ 128 := by omega
      have HZ := Lib.hid hz
      clear hI hz
      generalize ((if k < k then tabA.getD k 0 else 0 : Nat) : Int) = old at *
      go_wp2
      go_roundw
      case rel => exact ⟨k + 1, z + 16, by omega, by go_num, by go_num, by rw [HZ.out]; omega, HP.out⟩
      case measure => simp [intOf]; omega
    · obtain rfl : k = 8 := by omega
      have hz1 : ¬ z ≤ 128 := by omega
      clear hI hz
      go_wp2
      go_loopw [2, 4] (fun kv bv wq => ∃ (i : Nat) (b : Int), i ≤ 2 ∧ kv = .int .i64 ((8 + 4 * i : Nat) : Int) ∧ bv = .int .i64 b ∧ b = 128 * 2 ^ i ∧ TabI w wq (8 + 4 * i)) (fun kv _ _ => 16 - (intOf kv).toNat)
      case atStart => exact ⟨0, 128, by decide, rfl, rfl, rfl, HI.out⟩
      case round =>
        rename World => wq
        obtain ⟨i, b, hi, rfl, rfl, hb, hI2⟩ := hrel
        have HI2 := Lib.hid hI2
        clear hI2
        obtain rfl | rfl | rfl : i = 0 ∨ i = 1 ∨ i = 2 := by omega
        · obtain rfl : b = 128 := hb
          go_wp2
          go_loopw [2, 5] (fun kv sv wp => ∃ (j : Nat), j ≤ 4 ∧ kv = .int .i64 ((8 + j : Nat) : Int) ∧ sv = .int .i64 ((j + 1 : Nat) : Int) ∧ TabI w wp (8 + j)) (fun kv _ _ => 12 - (intOf kv).toNat)
          case atStart => exact ⟨0, by decide, rfl, rfl, HI2.out⟩
          case round =>
            rename World => wp
            obtain ⟨j, hj, rfl, rfl, hI3⟩ := hrel
            by_cases hlt : j < 4
            · have g0 : wp.cell? ⟨w.heap.size + 1, 8 + j, none⟩ = some (.int .i64 ((if 8 + j < 8 + j then tabA.getD (8 + j) 0 else 0 : Nat) : Int)) := (cell_of_block hI3.row (8 + j)).trans (mkA_get (by omega))
              have f0 : wp.frozen? ⟨w.heap.size + 1, 8 + j, none⟩ = false := frozen_of_row _ _ _ _ _ hI3.row
              have HP := Lib.hid (hI3.put (z := 128 + 32 * ((j + 1 : Nat) : Int)) (by omega) (by
                have : ∀ j, j < 4 → tabA.getD (8 + j) 0 = 128 + 32 * (j + 1) := by decide
                rw [this j hlt]
                omega))
              have hw1 : IntKind.i64.wrap (32 * ((j + 1 : Nat) : Int)) = 32 * ((j + 1 : Nat) : Int) := by rw [IntKind.wrap_i64]; omega
              have hw2 : IntKind.i64.wrap (128 + 32 * ((j + 1 : Nat) : Int)) = 128 + 32 * ((j + 1 : Nat) : Int) := by rw [IntKind.wrap_i64]; omega
              have hk16 : (0 : Int) ≤ ((8 + j : Nat) : Int) ∧ ((8 + j : Nat) : Int) < 16 := by omega
              have hkw : IntKind.i64.wrap (((8 + j : Nat) : Int) + 1) = ((8 + (j + 1) : Nat) : Int) := by rw [IntKind.wrap_i64]; omega
              have hjw : IntKind.i64.wrap (((j + 1 : Nat) : Int) + 1) = ((j + 1 + 1 : Nat) : Int) := by rw [IntKind.wrap_i64]; omega
              have hj4 : ((j + 1 : Nat) : Int) ≤ 4 := by omega
              have HE1 : Hid ((8 + (j + 1) : Nat) = 8 + j + 1) := rfl
              clear hI3
              generalize ((if 8 + j < 8 + j then tabA.getD (8 + j) 0 else 0 : Nat) : Int) = old at *
              generalize hkv : ((8 + j : Nat) : Int) = kv at *
              generalize hjv : ((j + 1 : Nat) : Int) = jv at *
              have HKV := Lib.hid (And.intro hkv hjv)
              have hkt : kv.toNat = 8 + j := by omega
              clear hkv hjv
              go_wp2
              go_roundw
              case rel => exact ⟨j + 1, by omega, by first | go_num | (congr 1; omega), by first | go_num | (congr 1; omega), HP.out⟩
              case measure => have := HKV.out; simp [intOf]; omega
            · obtain rfl : j = 4 := by omega
              have HI4 := Lib.hid hI3
              clear hI3
              go_wp2
              go_roundw
              case rel => exact ⟨1, 256, by decide, by go_num, by go_num, rfl, HI4.out⟩
              case measure => simp [intOf]
        · obtain rfl : b = 256 := hb
          go_wp2
          go_loopw [2, 5] (fun kv sv wp => ∃ (j : Nat), j ≤ 4 ∧ kv = .int .i64 ((12 + j : Nat) : Int) ∧ sv = .int .i64 ((j + 1 : Nat) : Int) ∧ TabI w wp (12 + j)) (fun kv _ _ => 16 - (intOf kv).toNat)
          case atStart => exact ⟨0, by decide, rfl, rfl, HI2.out⟩
          case round =>
            rename World => wp
            obtain ⟨j, hj, rfl, rfl, hI3⟩ := hrel
            by_cases hlt : j < 4
            · have g0 : wp.cell? ⟨w.heap.size + 1, 12 + j, none⟩ = some (.int .i64 ((if 12 + j < 12 + j then tabA.getD (12 + j) 0 else 0 : Nat) : Int)) := (cell_of_block hI3.row (12 + j)).trans (mkA_get (by omega))
              have f0 : wp.frozen? ⟨w.heap.size + 1, 12 + j, none⟩ = false := frozen_of_row _ _ _ _ _ hI3.row
              have HP := Lib.hid (hI3.put (z := 256 + 64 * ((j + 1 : Nat) : Int)) (by omega) (by
                have : ∀ j, j < 4 → tabA.getD (12 + j) 0 = 256 + 64 * (j + 1) := by decide
                rw [this j hlt]
                omega))
              have hw1 : IntKind.i64.wrap (64 * ((j + 1 : Nat) : Int)) = 64 * ((j + 1 : Nat) : Int) := by rw [IntKind.wrap_i64]; omega
              have hw2 : IntKind.i64.wrap (256 + 64 * ((j + 1 : Nat) : Int)) = 256 + 64 * ((j + 1 : Nat) : Int) := by rw [IntKind.wrap_i64]; omega
              have hk16 : (0 : Int) ≤ ((12 + j : Nat) : Int) ∧ ((12 + j : Nat) : Int) < 16 := by omega
              have hkw : IntKind.i64.wrap (((12 + j : Nat) : Int) + 1) = ((12 + (j + 1) : Nat) : Int) := by rw [IntKind.wrap_i64]; omega
              have hjw : IntKind.i64.wrap (((j + 1 : Nat) : Int) + 1) = ((j + 1 + 1 : Nat) : Int) := by rw [IntKind.wrap_i64]; omega
              have hj4 : ((j + 1 : Nat) : Int) ≤ 4 := by omega
              have HE1 : Hid ((12 + (j + 1) : Nat) = 12 + j + 1) := rfl
              clear hI3
              generalize ((if 12 + j < 12 + j then tabA.getD (12 + j) 0 else 0 : Nat) : Int) = old at *
              generalize hkv : ((12 + j : Nat) : Int) = kv at *
              generalize hjv : ((j + 1 : Nat) : Int) = jv at *
              have HKV := Lib.hid (And.intro hkv hjv)
              have hkt : kv.toNat = 12 + j := by omega
              clear hkv hjv
              go_wp2
              go_roundw
              case rel => exact ⟨j + 1, by omega, by first | go_num | (congr 1; omega), by first | go_num | (congr 1; omega), HP.out⟩
              case measure => have := HKV.out; simp [intOf]; omega
            · obtain rfl : j = 4 := by omega
              have HI4 := Lib.hid hI3
              clear hI3
              go_wp2
              go_roundw
              case rel => exact ⟨2, 512, by decide, by go_num, by go_num, rfl, HI4.out⟩
              case measure => simp [intOf]
        · obtain rfl : b = 512 := hb
          have hr := HI2.out.row
          have ho := HI2.out.out
          have r0 : wq.cell? ⟨w.heap.size + 1, 0, none⟩ = some (.int .i64 16) := cell_of_block hr 0
          have o0 : wq.cell? ⟨w.heap.size, 0, none⟩ = some (.int .i64 0) := cell_of_block ho 0
          have f0 := frozen_of_block ho 0
          have r1 : wq.cell? ⟨w.heap.size + 1, 1, none⟩ = some (.int .i64 32) := cell_of_block hr 1
          have o1 : wq.cell? ⟨w.heap.size, 1, none⟩ = some (.int .i64 0) := cell_of_block ho 1
          have f1 := frozen_of_block ho 1
          have r2 : wq.cell? ⟨w.heap.size + 1, 2, none⟩ = some (.int .i64 48) := cell_of_block hr 2
          have o2 : wq.cell? ⟨w.heap.size, 2, none⟩ = some (.int .i64 0) := cell_of_block ho 2
          have f2 := frozen_of_block ho 2
          have r3 : wq.cell? ⟨w.heap.size + 1, 3, none⟩ = some (.int .i64 64) := cell_of_block hr 3
          have o3 : wq.cell? ⟨w.heap.size, 3, none⟩ = some (.int .i64 0) := cell_of_block ho 3
          have f3 := frozen_of_block ho 3
          have r4 : wq.cell? ⟨w.heap.size + 1, 4, none⟩ = some (.int .i64 80) := cell_of_block hr 4
          have o4 : wq.cell? ⟨w.heap.size, 4, none⟩ = some (.int .i64 0) := cell_of_block ho 4
          have f4 := frozen_of_block ho 4
          have r5 : wq.cell? ⟨w.heap.size + 1, 5, none⟩ = some (.int .i64 96) := cell_of_block hr 5
          have o5 : wq.cell? ⟨w.heap.size, 5, none⟩ = some (.int .i64 0) := cell_of_block ho 5
          have f5 := frozen_of_block ho 5
          have r6 : wq.cell? ⟨w.heap.size + 1, 6, none⟩ = some (.int .i64 112) := cell_of_block hr 6
          have o6 : wq.cell? ⟨w.heap.size, 6, none⟩ = some (.int .i64 0) := cell_of_block ho 6
          have f6 := frozen_of_block ho 6
          have r7 : wq.cell? ⟨w.heap.size + 1, 7, none⟩ = some (.int .i64 128) := cell_of_block hr 7
          have o7 : wq.cell? ⟨w.heap.size, 7, none⟩ = some (.int .i64 0) := cell_of_block ho 7
          have f7 := frozen_of_block ho 7
          have r8 : wq.cell? ⟨w.heap.size + 1, 8, none⟩ = some (.int .i64 160) := cell_of_block hr 8
          have o8 : wq.cell? ⟨w.heap.size, 8, none⟩ = some (.int .i64 0) := cell_of_block ho 8
          have f8 := frozen_of_block ho 8
          have r9 : wq.cell? ⟨w.heap.size + 1, 9, none⟩ = some (.int .i64 192) := cell_of_block hr 9
          have o9 : wq.cell? ⟨w.heap.size, 9, none⟩ = some (.int .i64 0) := cell_of_block ho 9
          have f9 := frozen_of_block ho 9
          have r10 : wq.cell? ⟨w.heap.size + 1, 10, none⟩ = some (.int .i64 224) := cell_of_block hr 10
          have o10 : wq.cell? ⟨w.heap.size, 10, none⟩ = some (.int .i64 0) := cell_of_block ho 10
          have f10 := frozen_of_block ho 10
          have r11 : wq.cell? ⟨w.heap.size + 1, 11, none⟩ = some (.int .i64 256) := cell_of_block hr 11
          have o11 : wq.cell? ⟨w.heap.size, 11, none⟩ = some (.int .i64 0) := cell_of_block ho 11
          have f11 := frozen_of_block ho 11
          have r12 : wq.cell? ⟨w.heap.size + 1, 12, none⟩ = some (.int .i64 320) := cell_of_block hr 12
          have o12 : wq.cell? ⟨w.heap.size, 12, none⟩ = some (.int .i64 0) := cell_of_block ho 12
          have f12 := frozen_of_block ho 12
          have r13 : wq.cell? ⟨w.heap.size + 1, 13, none⟩ = some (.int .i64 384) := cell_of_block hr 13
          have o13 : wq.cell? ⟨w.heap.size, 13, none⟩ = some (.int .i64 0) := cell_of_block ho 13
          have f13 := frozen_of_block ho 13
          have r14 : wq.cell? ⟨w.heap.size + 1, 14, none⟩ = some (.int .i64 448) := cell_of_block hr 14
          have o14 : wq.cell? ⟨w.heap.size, 14, none⟩ = some (.int .i64 0) := cell_of_block ho 14
          have f14 := frozen_of_block ho 14
          have r15 : wq.cell? ⟨w.heap.size + 1, 15, none⟩ = some (.int .i64 512) := cell_of_block hr 15
          have o15 : wq.cell? ⟨w.heap.size, 15, none⟩ = some (.int .i64 0) := cell_of_block ho 15
          have f15 := frozen_of_block ho 15
          clear hr ho
          go_upto_region 16 with (fail)
          go_wp2
          obtain ⟨W9, hW9⟩ : ∃ W9, W9 = ((((((((((((((((wq.setCell ⟨w.heap.size, 0, none⟩ (.int .i64 16)).setCell ⟨w.heap.size, 1, none⟩ (.int .i64 32)).setCell ⟨w.heap.size, 2, none⟩ (.int .i64 48)).setCell ⟨w.heap.size, 3, none⟩ (.int .i64 64)).setCell ⟨w.heap.size, 4, none⟩ (.int .i64 80)).setCell ⟨w.heap.size, 5, none⟩ (.int .i64 96)).setCell ⟨w.heap.size, 6, none⟩ (.int .i64 112)).setCell ⟨w.heap.size, 7, none⟩ (.int .i64 128)).setCell ⟨w.heap.size, 8, none⟩ (.int .i64 160)).setCell ⟨w.heap.size, 9, none⟩ (.int .i64 192)).setCell ⟨w.heap.size, 10, none⟩ (.int .i64 224)).setCell ⟨w.heap.size, 11, none⟩ (.int .i64 256)).setCell ⟨w.heap.size, 12, none⟩ (.int .i64 320)).setCell ⟨w.heap.size, 13, none⟩ (.int .i64 384)).setCell ⟨w.heap.size, 14, none⟩ (.int .i64 448)).setCell ⟨w.heap.size, 15, none⟩ (.int .i64 512)) := ⟨_, rfl⟩
          have HB9 : Hid (Below w.heap.size w W9) := by rw [hW9]; exact (Below.setCell (Below.setCell (Below.setCell (Below.setCell (Below.setCell (Below.setCell (Below.setCell (Below.setCell (Below.setCell (Below.setCell (Below.setCell (Below.setCell (Below.setCell (Below.setCell (Below.setCell (Below.setCell HI2.out.below (Nat.le_refl _) _) (Nat.le_refl _) _) (Nat.le_refl _) _) (Nat.le_refl _) _) (Nat.le_refl _) _) (Nat.le_refl _) _) (Nat.le_refl _) _) (Nat.le_refl _) _) (Nat.le_refl _) _) (Nat.le_refl _) _) (Nat.le_refl _) _) (Nat.le_refl _) _) (Nat.le_refl _) _) (Nat.le_refl _) _) (Nat.le_refl _) _) (Nat.le_refl _) _)
          have hblk9 : W9.heap[w.heap.size]? = some (.cells (mkA 16) 192 (0, 0)) := by
            have ho := HI2.out.out
            rw [hW9]
            exact (heap_setCell_eq (heap_setCell_eq (heap_setCell_eq (heap_setCell_eq (heap_setCell_eq (heap_setCell_eq (heap_setCell_eq (heap_setCell_eq (heap_setCell_eq (heap_setCell_eq (heap_setCell_eq (heap_setCell_eq (heap_setCell_eq (heap_setCell_eq (heap_setCell_eq (heap_setCell_eq ho (.int .i64 16)) (.int .i64 32)) (.int .i64 48)) (.int .i64 64)) (.int .i64 80)) (.int .i64 96)) (.int .i64 112)) (.int .i64 128)) (.int .i64 160)) (.int .i64 192)) (.int .i64 224)) (.int .i64 256)) (.int .i64 320)) (.int .i64 384)) (.int .i64 448)) (.int .i64 512))
          rw [← hW9]
          clear hW9
          have x0 : W9.cell? ⟨w.heap.size, 0, none⟩ = some (.int .i64 16) := cell_of_block hblk9 0
          have x1 : W9.cell? ⟨w.heap.size, 1, none⟩ = some (.int .i64 32) := cell_of_block hblk9 1
          have x2 : W9.cell? ⟨w.heap.size, 2, none⟩ = some (.int .i64 48) := cell_of_block hblk9 2
          have x3 : W9.cell? ⟨w.heap.size, 3, none⟩ = some (.int .i64 64) := cell_of_block hblk9 3
          have x4 : W9.cell? ⟨w.heap.size, 4, none⟩ = some (.int .i64 80) := cell_of_block hblk9 4
          have x5 : W9.cell? ⟨w.heap.size, 5, none⟩ = some (.int .i64 96) := cell_of_block hblk9 5
          have x6 : W9.cell? ⟨w.heap.size, 6, none⟩ = some (.int .i64 112) := cell_of_block hblk9 6
          have x7 : W9.cell? ⟨w.heap.size, 7, none⟩ = some (.int .i64 128) := cell_of_block hblk9 7
          have x8 : W9.cell? ⟨w.heap.size, 8, none⟩ = some (.int .i64 160) := cell_of_block hblk9 8
          have x9 : W9.cell? ⟨w.heap.size, 9, none⟩ = some (.int .i64 192) := cell_of_block hblk9 9
          have x10 : W9.cell? ⟨w.heap.size, 10, none⟩ = some (.int .i64 224) := cell_of_block hblk9 10
          have x11 : W9.cell? ⟨w.heap.size, 11, none⟩ = some (.int .i64 256) := cell_of_block hblk9 11
          have x12 : W9.cell? ⟨w.heap.size, 12, none⟩ = some (.int .i64 320) := cell_of_block hblk9 12
          have x13 : W9.cell? ⟨w.heap.size, 13, none⟩ = some (.int .i64 384) := cell_of_block hblk9 13
          have x14 : W9.cell? ⟨w.heap.size, 14, none⟩ = some (.int .i64 448) := cell_of_block hblk9 14
          have x15 : W9.cell? ⟨w.heap.size, 15, none⟩ = some (.int .i64 512) := cell_of_block hblk9 15
          refine bodyPost_ret (v := .agg #[.int .i64 16, .int .i64 32, .int .i64 48, .int .i64 64, .int .i64 80, .int .i64 96, .int .i64 112, .int .i64 128, .int .i64 160, .int .i64 192, .int .i64 224, .int .i64 256, .int .i64 320, .int .i64 384, .int .i64 448, .int .i64 512]) ?_ rfl ⟨rfl, HB9.out⟩
          simp [results, Tryz.results118, go_sem, x0, x1, x2, x3, x4, x5, x6, x7, x8, x9, x10, x11, x12, x13, x14, x15]

end Go.Proofs.YtlljejmblmjjnaaGreatDoor

/- tablea: Size, Slots. -/
namespace Go.Proofs.YtlljejmblmjjnaaGreatDoor
set_option linter.unusedVariables false
set_option linter.unusedSimpArgs false
open Go.RowKit Go.ChangeMaps

def sizeA (c : Int) : Int := if 0 ≤ c ∧ c < 16 then (szA c.toNat : Nat) else 0
theorem tabA_get {k : Nat} (h : k < 16) : (mkA 16)[k]? = some (.int .i64 (szA k : Nat)) := by
  rw [mkA_get h, if_pos h]
  rfl

theorem run_index_tabA {k : Nat} (h : k < 16) : ∀ W, (Instr.index 192 (.agg (mkA 16)) (.int .i64 k)).run Tryz.prog W = .ok (.int .i64 (szA k : Nat)) W := by
  intro W
  obtain rfl | rfl | rfl | rfl | rfl | rfl | rfl | rfl | rfl | rfl | rfl | rfl | rfl | rfl | rfl | rfl : k = 0 ∨ k = 1 ∨ k = 2 ∨ k = 3 ∨ k = 4 ∨ k = 5 ∨ k = 6 ∨ k = 7 ∨ k = 8 ∨ k = 9 ∨ k = 10 ∨ k = 11 ∨ k = 12 ∨ k = 13 ∨ k = 14 ∨ k = 15 := by omega
  all_goals kernel_rfl
set_option maxRecDepth 4000 in
set_option maxHeartbeats 400000 in
theorem asize_any (c : Int) (w : World) : Calls Tryz.prog 91 #[.int .i64 c] w fun e w' => e = .returned (.int .i64 (sizeA c)) ∧ Below w.heap.size w w' := by
  by_cases h0 : c < 0
  · have HE : Hid (sizeA c = 0) := by show _ = _; unfold sizeA; rw [if_neg (by omega)]
    go_enter Tryz.func91, Tryz.ntmps91
    go_wp2
    go_ret
    exact ⟨by rw [HE.out]; rfl, Below.refl _ _⟩
  · by_cases h1 : 16 ≤ c
    · have HE : Hid (sizeA c = 0) := by show _ = _; unfold sizeA; rw [if_neg (by omega)]
      go_enter Tryz.func91, Tryz.ntmps91
      go_wp2
      go_ret
      exact ⟨by rw [HE.out]; rfl, Below.refl _ _⟩
    · obtain ⟨k, rfl⟩ := Int.eq_ofNat_of_zero_le (show 0 ≤ c by omega)
      have hk : k < 16 := by omega
      have HE : Hid (sizeA (k : Int) = (szA k : Nat)) := by show _ = _; unfold sizeA; rw [if_pos (by omega), Int.toNat_natCast]
      have HT := Lib.hid (atable_any w)
      have hg := run_index_tabA hk
      have hk1 : (0 : Int) ≤ (k : Int) ∧ (k : Int) < 16 := by omega
      generalize mkA 16 = A at *
      go_enter Tryz.func91, Tryz.ntmps91
      go_wp2_with (fail)
      refine HT.out.mono ?_
      rintro e w1 ⟨rfl, hb⟩
      have HB := Lib.hid hb
      clear hb
      go_wp2
      go_ret
      exact ⟨by rw [HE.out]; rfl, HB.out⟩

end Go.Proofs.YtlljejmblmjjnaaGreatDoor

/- tablea.Slots; oldslab.New. -/
namespace Go.Proofs.YtlljejmblmjjnaaGreatDoor
set_option linter.unusedVariables false
set_option linter.unusedSimpArgs false
open Go.RowKit Go.ChangeMaps

set_option maxHeartbeats 400000 in
theorem aslots_yes (c : Nat) (hc : c < 16) (w : World) : Calls Tryz.prog 113 #[.int .i64 c] w fun e w' => e = .returned (.int .i64 (slA c : Nat)) ∧ Below w.heap.size w w' := by
  have HT := Lib.hid (asize_any (c : Int) w)
  have e : sizeA (c : Int) = (szA c : Nat) := by unfold sizeA; rw [if_pos (by omega), Int.toNat_natCast]
  rw [e] at HT
  obtain ⟨h1, h2, -, h4, h5, -⟩ := szA_all c hc
  have hd : slA c = 1024 / szA c := rfl
  clear e
  generalize slA c = sl at *
  generalize szA c = sz at *
  have hz : ¬ ((sz : Int) = 0) := by omega
  have hzb : ((sz : Int) == 0) = false := beq_eq_false_iff_ne.2 hz
  have hq : IntKind.i64.wrap (Int.tdiv 1024 (sz : Int)) = (sl : Int) := by
    rw [Int.tdiv_eq_ediv_of_nonneg (by decide), hd, IntKind.wrap_i64]
    have : ((1024 / sz : Nat) : Int) = 1024 / (sz : Int) := Int.natCast_ediv 1024 sz
    rw [← this, ← hd]
    omega
  clear hd h1 h2 h4
  go_enter Tryz.func113, Tryz.ntmps113
  go_wp2_with (fail)
  refine HT.out.mono ?_
  rintro e w1 ⟨rfl, hb⟩
  have HB := Lib.hid hb
  clear hb
  go_wp2
  go_ret
  exact ⟨rfl, HB.out⟩

set_option maxRecDepth 4000 in
set_option maxHeartbeats 1000000 in
/-- A slab whose slots are free. -/
theorem onew_yes (base c : Nat) (hc : c < 16) (hb0 : base % 1024 = 0) (hb1 : base ≤ 1047552) (w : World) : Calls Tryz.prog 67 #[.int .i64 base, .int .i64 c] w fun e w' => ∃ L : OL, e = .returned (.tuple #[.pointer (some ⟨L.s, 0, none⟩), .int .i64 0]) ∧ w.heap.size ≤ L.s ∧ w.heap.size ≤ L.r ∧ w.heap.size ≤ L.b ∧ OSlabAt w' L ⟨base, c, 0⟩ ∧ Below w.heap.size w w' := by
  obtain ⟨-, -, -, h4, h5, -⟩ := szA_all c hc
  have HSL := Lib.hid (aslots_yes c hc w)
  have HSZ : Hid (∀ W, Calls Tryz.prog 91 #[.int .i64 c] W fun e w' => e = .returned (.int .i64 (szA c : Nat)) ∧ Below W.heap.size W w') := fun W => by
    have := asize_any (c : Int) W
    rw [show sizeA (c : Int) = (szA c : Nat) by unfold sizeA; rw [if_pos (by omega), Int.toNat_natCast]] at this
    exact this
  have HNW : Hid (∀ W, Calls Tryz.prog 114 #[.int .i64 (slA c : Nat)] W fun e w' => ∃ r b cap rest, e = .returned (.tuple #[.pointer (some ⟨r, 0, none⟩), .int .i64 0]) ∧ W.heap.size ≤ r ∧ W.heap.size ≤ b ∧ Row1 w' r b (slA c) 0 cap rest ∧ Below W.heap.size W w') := fun W => bitsNew_one (slA c) W (by omega) h5
  have hand := and1023 base (by omega)
  rw [hb0] at hand
  have hn0 : ¬ (base : Int) < 0 := by omega
  have hn1 : ¬ (1047552 : Int) < (base : Int) := by omega
  have hn2 : ¬ ((slA c : Nat) : Int) = 0 := by omega
  have hn3 : (((slA c : Nat) : Int) == 0) = false := beq_eq_false_iff_ne.2 hn2
  have hn4 : ¬ slA c = 0 := by omega
  have HC := Lib.hid (And.intro hc hb1)
  clear h4 h5 hb0 hb1 hc
  generalize hsl : slA c = sl at *
  generalize hsz : szA c = sz at *
  have HSS := Lib.hid (And.intro hsl hsz)
  clear hsl hsz
  go_enter Tryz.func67, Tryz.ntmps67
  go_wp2_with (fail)
  refine HSL.out.mono ?_
  rintro e w1 ⟨rfl, hb⟩
  have HB1 := Lib.hid hb
  clear hb
  go_wp2_with (fail)
  refine (HNW.out _).mono ?_
  rintro e w2 ⟨r, b, cap, rest, rfl, hr, hbb, hrow, hb2⟩
  have hs1 := HB1.out.size
  have HR := Lib.hid (And.intro (show w.heap.size ≤ r by omega) (And.intro (show w.heap.size ≤ b by omega) hrow))
  have HB2 := Lib.hid (Below.via hb2 HB1.out.size HB1.out)
  clear hb2 hrow hr hbb
  go_wp2_with (fail)
  refine (HSZ.out _).mono ?_
  rintro e w3 ⟨rfl, hb3⟩
  have HR3 := Lib.hid (HR.out.2.2.below hb3)
  have HB3 := Lib.hid (Below.via hb3 HB2.out.size HB2.out)
  clear hb3
  go_wp2
  go_ret2
  refine ⟨⟨w3.heap.size, r, b, cap, rest⟩, rfl, HB3.out.size, HR.out.1, HR.out.2.1, ⟨?_, ?_, HC.out.1, by have := HC.out.2; show base ≤ 1048576; omega⟩, Below.alloc HB3.out HB3.out.size _⟩
  · unfold oslabC
    rw [HSS.out.2]
    exact heap_alloc_new _ _
  · rw [HSS.out.1]
    exact HR3.out.below (Below.alloc (Below.refl _ _) (Nat.le_refl _) _)

end Go.Proofs.YtlljejmblmjjnaaGreatDoor
