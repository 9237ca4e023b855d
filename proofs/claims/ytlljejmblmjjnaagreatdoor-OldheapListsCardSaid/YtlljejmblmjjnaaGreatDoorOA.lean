/- bits: OnesCount64; a row of one word: Len, Count, Clear. -/
import Derived.Test.YtlljejmblmjjnaaGreatDoorNA
import Derived.WalkKit
import Derived.WalkSpells
import Derived.WalkLawsBesides
import Derived.BigQuiet
import Derived.Lib.Hide
import Derived.Laws.BitsAllLaws
import Derived.Shelf.Spec.TrailingZeros
import Derived.Laws.AppendOwnNone
namespace Go.Proofs.YtlljejmblmjjnaaGreatDoor
set_option linter.unusedVariables false
set_option linter.unusedSimpArgs false
open Go.RowKit Go.ChangeMaps

theorem and_u64 (x y : Nat) (hx : x < 18446744073709551616) (hy : y < 18446744073709551616) : bits .and .u64 (x : Int) (y : Int) = ((x &&& y : Nat) : Int) := by
  have h1 : x < 2 ^ 64 := by omega
  have h2 : y < 2 ^ 64 := by omega
  exact (bits_nat .u64 64 (by decide) wraps_u64 x y h1 h2).1
theorem and_i64_127 (x : Nat) (hx : x < 9223372036854775808) : bits .and .i64 (x : Int) 127 = ((x % 128 : Nat) : Int) := by
  have := (bits_nat .i64 63 (by decide) wraps_i64 x 127 (by omega) (by decide)).1
  rw [show ((127 : Nat) : Int) = 127 from rfl] at this
  rw [this, show 127 = 2 ^ 7 - 1 from rfl, Nat.and_two_pow_sub_one_eq_mod]
set_option maxHeartbeats 2000000 in
theorem onesCount_any (x : Nat) (hx : x < 18446744073709551616) (w : World) : Calls Tryz.prog 99 #[.int .u64 x] w fun e w' => e = .returned (.int .i64 (ones x 64 : Nat)) ∧ w = w' := by
  obtain ⟨g, hgl, hg8, hgs, y, z, e1, hy, e2, hz, e3⟩ := ones_steps hx
  obtain ⟨f1, f2, f3, f4⟩ := ones_sums hgl hg8 rfl
  have cd (a b : Nat) : ((a / b : Nat) : Int) = (a : Int) / (b : Int) := Int.natCast_ediv a b
  have m1 : bits .and .u64 ((x : Int) / 2) 6148914691236517205 = ((x / 2 &&& 6148914691236517205 : Nat) : Int) := by
    have := and_u64 (x / 2) 6148914691236517205 (by omega) (by decide)
    rw [cd] at this
    exact this
  have m2 : bits .and .u64 (x : Int) 6148914691236517205 = ((x &&& 6148914691236517205 : Nat) : Int) := and_u64 x 6148914691236517205 hx (by decide)
  have m3 : bits .and .u64 ((y : Int) / 4) 3689348814741910323 = ((y / 4 &&& 3689348814741910323 : Nat) : Int) := by
    have := and_u64 (y / 4) 3689348814741910323 (by omega) (by decide)
    rw [cd] at this
    exact this
  have m4 : bits .and .u64 (y : Int) 3689348814741910323 = ((y &&& 3689348814741910323 : Nat) : Int) := and_u64 y 3689348814741910323 hy (by decide)
  have m5 : bits .and .u64 ((z / 16 + z : Nat) : Int) 1085102592571150095 = (((z / 16 + z) &&& 1085102592571150095 : Nat) : Int) := and_u64 (z / 16 + z) 1085102592571150095 (by omega) (by decide)
  rw [e3] at m5
  rw [← hgs, ← f4]
  generalize valB g = v at *
  have w1 : IntKind.u64.wrap (((x / 2 &&& 6148914691236517205 : Nat) : Int) + ((x &&& 6148914691236517205 : Nat) : Int)) = (y : Int) := by rw [wraps_u64 _ (by omega) (by omega)]; omega
  have w2 : IntKind.u64.wrap (((y / 4 &&& 3689348814741910323 : Nat) : Int) + ((y &&& 3689348814741910323 : Nat) : Int)) = (z : Int) := by rw [wraps_u64 _ (by omega) (by omega)]; omega
  have w3 : IntKind.u64.wrap ((z : Int) / 16 + (z : Int)) = ((z / 16 + z : Nat) : Int) := by rw [wraps_u64 _ (by omega) (by omega)]; omega
  have w4 : IntKind.u64.wrap ((v : Int) + (v : Int) / 256) = ((v + v / 256 : Nat) : Int) := by rw [wraps_u64 _ (by omega) (by omega)]; omega
  generalize hu : v + v / 256 = u at *
  have w5 : IntKind.u64.wrap ((u : Int) + (u : Int) / 65536) = ((u + u / 65536 : Nat) : Int) := by rw [wraps_u64 _ (by omega) (by omega)]; omega
  generalize ht : u + u / 65536 = t at *
  have w6 : IntKind.u64.wrap ((t : Int) + (t : Int) / 4294967296) = ((t + t / 4294967296 : Nat) : Int) := by rw [wraps_u64 _ (by omega) (by omega)]; omega
  have w7 : wrap64 ((t + t / 4294967296 : Nat) : Int) = ((t + t / 4294967296 : Nat) : Int) := by unfold wrap64; omega
  have m6 := and_i64_127 (t + t / 4294967296) (by omega)
  have HH := Lib.hid (And.intro m1 (And.intro m2 (And.intro m3 (And.intro m4 (And.intro m5 (And.intro m6 (And.intro w1 (And.intro w2 (And.intro w3 (And.intro w4 (And.intro w5 (And.intro w6 w7))))))))))))
  clear e1 e2 e3 f1 f2 f3 f4 hgl hg8 hgs hu ht m1 m2 m3 m4 m5 m6 w1 w2 w3 w4 w5 w6 w7 cd hy hz hx
  go_enter Tryz.func99, Tryz.ntmps99
  go_wp2
  go_ret
  obtain ⟨m1, m2, m3, m4, m5, m6, w1, w2, w3, w4, w5, w6, w7⟩ := HH.out
  refine ⟨?_, rfl⟩
  simp only [m1, m2, w1, m3, m4, w2, w3, m5, w4, w5, w6, w7, m6]
  rfl

end Go.Proofs.YtlljejmblmjjnaaGreatDoor

/- bits: Clear, Len; Count of a row of one word. -/
namespace Go.Proofs.YtlljejmblmjjnaaGreatDoor
set_option linter.unusedVariables false
set_option linter.unusedSimpArgs false
open Go.RowKit Go.ChangeMaps

def clrB (ws : List Nat) (k : Nat) : List Nat := ws.set (k / 64) (ws.getD (k / 64) 0 &&& (18446744073709551615 - 2 ^ (k % 64)))
theorem andNot_bit (x j : Nat) (hx : x < 2 ^ 64) (hj : j < 64) : bits .andNot .u64 (x : Int) ((2 ^ j : Nat) : Int) = ((x &&& (18446744073709551615 - 2 ^ j) : Nat) : Int) := by
  have hp : 2 ^ j < 2 ^ 64 := Nat.pow_lt_pow_right (by decide) hj
  exact u64_andNot_nat x (2 ^ j) hx hp
theorem clrB_length (ws : List Nat) (k : Nat) : (clrB ws k).length = ws.length := by simp [clrB]
theorem clrB_ok {ws : List Nat} (h : ∀ x ∈ ws, x < 2 ^ 64) (k : Nat) : ∀ x ∈ clrB ws k, x < 2 ^ 64 := fun x hx => by
  rcases List.mem_or_eq_of_mem_set hx with hx | rfl
  · exact h x hx
  · exact Nat.lt_of_le_of_lt Nat.and_le_left (getD_word h _)
theorem clr_bit (x j i : Nat) (hx : x < 2 ^ 64) (hj : j < 64) : (x &&& (18446744073709551615 - 2 ^ j)).testBit i = (decide (i ≠ j) && x.testBit i) := by
  have hp : 2 ^ j < 2 ^ 64 := Nat.pow_lt_pow_right (by decide) hj
  rw [Nat.testBit_and, show 18446744073709551615 - 2 ^ j = 2 ^ 64 - (2 ^ j + 1) by omega, Nat.testBit_two_pow_sub_succ hp, Nat.testBit_two_pow]
  by_cases hi : i < 64
  · by_cases h : j = i
    · subst h; simp
    · have : i ≠ j := fun e => h e.symm
      simp [h, hi, this]
  · have : x.testBit i = false := Nat.testBit_lt_two_pow (Nat.lt_of_lt_of_le hx (Nat.pow_le_pow_right (by decide) (by omega)))
    simp [this]
def ClearPost (w : World) (r b n : Nat) (ws : List Nat) (k : Int) (e : Ending) (w' : World) : Prop :=
  if 0 ≤ k ∧ k < n ∧ tstB ws k.toNat = true then e = .returned (.bool true) ∧ RowAt w' r b n (clrB ws k.toNat) ∧ Turned (fun j => j = b) w w' else e = .returned (.bool false) ∧ Below w.heap.size w w'

set_option maxHeartbeats 400000 in
theorem clear_any (r b n : Nat) (ws : List Nat) (k : Int) (w : World) (h : RowAt w r b n ws) :
    Calls Tryz.prog 141 #[.pointer (some ⟨r, 0, none⟩), .int .i64 k] w (ClearPost w r b n ws k) := by
  by_cases hk : 0 ≤ k ∧ k < n
  · obtain ⟨k, rfl⟩ := Int.eq_ofNat_of_zero_le hk.1
    have hkn : k < n := by omega
    have hl := h.len
    have hw := Lib.hid (word_yes r b n ws k w h hkn)
    have hx := getD_word h.ok (k / 64)
    have hj : k % 64 < 64 := Nat.mod_lt _ (by decide)
    have hab := and_bit (ws.getD (k / 64) 0) (k % 64) hx hj
    have hob := andNot_bit (ws.getD (k / 64) 0) (k % 64) hx hj
    have g0 : w.cell? ⟨b, k / 64, none⟩ = some (.int .u64 ((ws.getD (k / 64) 0 : Nat) : Int)) := by rw [cell_of_block h.words, wordsC_get (by omega)]
    cases ht : tstB ws k
    · have hz : (bits .and .u64 ((ws.getD (k / 64) 0 : Nat) : Int) ((2 ^ (k % 64) : Nat) : Int) == 0) = true := by have h1 := hab; unfold tstB at ht; rw [ht] at h1; simpa using h1
      have hpost : ∀ (w1 : World), Below w.heap.size w w1 → ClearPost w r b n ws (k : Int) (.returned (.bool false)) w1 := fun w1 hb => by
        unfold ClearPost
        rw [if_neg (fun hh => by rw [Int.toNat_natCast, ht] at hh; cases hh.2.2)]
        exact ⟨rfl, hb⟩
      have HP := Lib.hid hpost
      clear h hab hob hl hk ht hpost hx
      generalize ws.getD (k / 64) 0 = x at *
      generalize 2 ^ (k % 64) = pw at *
      go_enter Tryz.func141, Tryz.ntmps141
      go_wp2_with (fail)
      refine hw.out.mono ?_
      rintro e w1 ⟨rfl, hb⟩
      have g1 := cell_past hb (cell_lt g0) g0
      go_wp2
      go_ret
      exact HP.out w1 hb
    · have hpost : ∀ (w1 : World), Below w.heap.size w w1 → ClearPost w r b n ws (k : Int) (.returned (.bool true)) (w1.setCell ⟨b, k / 64, none⟩ (.int .u64 ((ws.getD (k / 64) 0 &&& (18446744073709551615 - 2 ^ (k % 64)) : Nat) : Int))) := fun w1 hb => by
        unfold ClearPost
        rw [if_pos ⟨by omega, by omega, by rw [Int.toNat_natCast]; exact ht⟩, Int.toNat_natCast]
        have h1 := h.below hb
        refine ⟨rfl, ⟨?_, ?_, by rw [clrB_length]; exact h.len, h.most, clrB_ok h.ok k⟩, Turned.setCell (F := fun j => j = b) (p := ⟨b, k / 64, none⟩) (Turned.of_below hb (Nat.le_refl _)) (.inl rfl) _⟩
        · rw [Below.heap_setCell _ _ _ _ h1.ne, clrB_length]
          exact h1.obj
        · rw [heap_setCell_eq h1.words]
          congr 1
          unfold wordsC clrB
          apply Obj.cells.injEq .. |>.mpr
          refine ⟨?_, rfl, rfl⟩
          apply Array.toList_inj.1
          simp [List.map_set]
      have HP := Lib.hid hpost
      have hfz : w.frozen? ⟨b, k / 64, none⟩ = false := frozen_of_row _ _ _ _ _ h.words
      have hz : (bits .and .u64 ((ws.getD (k / 64) 0 : Nat) : Int) ((2 ^ (k % 64) : Nat) : Int) == 0) = false := by have h1 := hab; unfold tstB at ht; rw [ht] at h1; simpa using h1
      have HOB := Lib.hid hob
      have HB := Lib.hid (cell_lt g0)
      clear h hab hob hpost hl hk ht hx
      generalize ws.getD (k / 64) 0 = x at *
      generalize 2 ^ (k % 64) = pw at *
      go_enter Tryz.func141, Tryz.ntmps141
      go_wp2_with (fail)
      refine hw.out.mono ?_
      rintro e w1 ⟨rfl, hb⟩
      have g1 := cell_past hb (cell_lt g0) g0
      have f1 : w1.frozen? ⟨b, k / 64, none⟩ = false := (hb.frozen (p := ⟨b, k / 64, none⟩) HB.out).trans hfz
      have HBq := Lib.hid hb
      clear hb
      have HP2 := Lib.hid (HP.out w1 HBq.out)
      rw [← HOB.out] at HP2
      go_wp2
      go_ret
      exact HP2.out
  · have hw := Lib.hid (word_no r b n ws k w h (by omega))
    have hpost : ∀ (w1 : World), Below w.heap.size w w1 → ClearPost w r b n ws k (.returned (.bool false)) w1 := fun w1 hb => by
      unfold ClearPost
      rw [if_neg (fun hh => hk ⟨hh.1, hh.2.1⟩)]
      exact ⟨rfl, hb⟩
    have HP := Lib.hid hpost
    clear h hk hpost
    go_enter Tryz.func141, Tryz.ntmps141
    go_wp2_with (fail)
    refine hw.out.mono ?_
    rintro e w1 ⟨rfl, hb⟩
    go_wp2
    go_ret
    exact HP.out w1 hb


set_option maxHeartbeats 400000 in
theorem rlen_any (r b n : Nat) (ws : List Nat) (w : World) (h : RowAt w r b n ws) : Calls Tryz.prog 98 #[.pointer (some ⟨r, 0, none⟩)] w fun e w' => e = .returned (.int .i64 n) ∧ w = w' := by
  have c0 : w.cell? ⟨r, 0, none⟩ = some (.int .i64 n) := by rw [cell_of_block h.obj]; rfl
  clear h
  go_enter Tryz.func98, Tryz.ntmps98
  go_wp2
  go_ret
  exact ⟨rfl, rfl⟩

/-- A row of one word (its slice may have room behind it, as a clone's). -/
structure Row1 (w : World) (r b n x cap : Nat) (rest : List Value) : Prop where
  obj : w.heap[r]? = some (.cells #[.int .i64 n, .slice (some ⟨b, 0, none⟩) 1 cap] 154 (0, 0))
  words : w.heap[b]? = some (.cells (Value.int .u64 (x : Int) :: rest).toArray 148 (0, 0))
  n1 : 1 ≤ n
  n64 : n ≤ 64
  top : x < 2 ^ n
theorem Row1.n_le {w : World} {r b n x cap : Nat} {rest : List Value} (h : Row1 w r b n x cap rest) : 1 ≤ n ∧ n ≤ 64 := ⟨h.n1, h.n64⟩
theorem Row1.lt {w : World} {r b n x cap : Nat} {rest : List Value} (h : Row1 w r b n x cap rest) : x < 18446744073709551616 := Nat.lt_of_lt_of_le h.top (by rw [show 18446744073709551616 = 2 ^ 64 from rfl]; exact Nat.pow_le_pow_right (by decide) h.n64)
theorem Row1.turned {F : Nat → Prop} {w w' : World} {r b n x cap : Nat} {rest : List Value} (h : Row1 w r b n x cap rest) (t : Turned F w w') (hr : ¬ F r) (hb : ¬ F b) : Row1 w' r b n x cap rest :=
  ⟨(t.block _ (lt_of_block h.obj) hr).trans h.obj, (t.block _ (lt_of_block h.words) hb).trans h.words, h.n1, h.n64, h.top⟩
theorem Row1.below {w w' : World} {r b n x cap : Nat} {rest : List Value} (h : Row1 w r b n x cap rest) (hb : Below w.heap.size w w') : Row1 w' r b n x cap rest :=
  h.turned (Turned.of_below (F := fun _ => False) hb (Nat.le_refl _)) (fun h => h) (fun h => h)
theorem Row1.ne {w : World} {r b n x cap : Nat} {rest : List Value} (h : Row1 w r b n x cap rest) : r ≠ b := fun e => by
  have h1 := h.obj
  rw [e, h.words] at h1
  simp at h1
theorem Row1.cells {w : World} {r b n x cap : Nat} {rest : List Value} (h : Row1 w r b n x cap rest) : w.cell? ⟨r, 0, none⟩ = some (.int .i64 n) ∧ w.cell? ⟨r, 1, none⟩ = some (.slice (some ⟨b, 0, none⟩) 1 cap) ∧ w.cell? ⟨b, 0, none⟩ = some (.int .u64 x) :=
  ⟨cell_of_block h.obj 0, cell_of_block h.obj 1, cell_of_block h.words 0⟩
theorem ones_top {x n : Nat} (h : x < 2 ^ n) : ∀ m, n ≤ m → ones x m = ones x n := by
  intro m hm
  obtain ⟨d, rfl⟩ : ∃ d, m = n + d := ⟨m - n, by omega⟩
  clear hm
  induction d with
  | zero => rfl
  | succ d ih =>
    rw [← Nat.add_assoc, ones_succ, ih, if_neg]
    · rfl
    · rw [Nat.testBit_lt_two_pow (Nat.lt_of_lt_of_le h (Nat.pow_le_pow_right (by decide) (by omega)))]
      simp

set_option maxHeartbeats 800000 in
theorem count_one (r b n x : Nat) (w : World) {cap : Nat} {rest : List Value} (h : Row1 w r b n x cap rest) : Calls Tryz.prog 50 #[.pointer (some ⟨r, 0, none⟩)] w fun e w' => e = .returned (.int .i64 (ones x n : Nat)) ∧ w = w' := by
  obtain ⟨h1, h2⟩ := h.n_le
  obtain ⟨-, c1, c2⟩ := h.cells
  have HO := Lib.hid (onesCount_any x h.lt w)
  rw [ones_top h.top 64 h2] at HO
  have hle := ones_le x n
  have hw : IntKind.i64.wrap ((ones x n : Nat) : Int) = (ones x n : Nat) := wraps_i64 _ (by omega) (by omega)
  clear h
  generalize ones x n = o at *
  go_enter Tryz.func50, Tryz.ntmps50
  go_wp2
  go_loopw [3, 11] (fun v i wr => ((v = .int .i64 0 ∧ i = .int .i64 0) ∨ (v = .int .i64 o ∧ i = .int .i64 1)) ∧ w = wr) (fun _ i _ => 1 - (intOf i).toNat)
  case atStart => exact ⟨.inl ⟨rfl, rfl⟩, rfl⟩
  case round =>
    obtain ⟨⟨rfl, rfl⟩ | ⟨rfl, rfl⟩, rfl⟩ := hrel
    · go_wp2_with (fail)
      refine HO.out.mono ?_
      rintro e w1 ⟨rfl, rfl⟩
      go_wp2
      go_roundw
      case rel => exact ⟨.inr ⟨by go_num, rfl⟩, by first | rfl | trivial⟩
      case measure => simp [intOf]
    · go_wp2
      go_ret
      exact ⟨rfl, rfl⟩

end Go.Proofs.YtlljejmblmjjnaaGreatDoor

/- bits: TrailingZeros64, and First of a row of one word. -/
namespace Go.Proofs.YtlljejmblmjjnaaGreatDoor
set_option linter.unusedVariables false
set_option linter.unusedSimpArgs false
open Go.RowKit Go.ChangeMaps

/-- The table of math/bits, as its initialiser lays it. -/
def Tab (w : World) : Prop := TabAt 0 Lib.deBruijn64tab w
theorem Tab.turned {F : Nat → Prop} {w w' : World} (h : Tab w) (t : Turned F w w') (hF : ¬ F 0) : Tab w' := fun j hj => turned_cell t hF (h j hj)
theorem Tab.below {w w' : World} (h : Tab w) (hb : Below w.heap.size w w') : Tab w' := fun j hj => cell_past hb (cell_lt (h j hj)) (h j hj)

theorem tz_zero (w : World) : Calls Tryz.prog 137 #[.int .u64 0] w fun e w' => e = .returned (.int .i64 64) ∧ w = w' := by
  go_enter Tryz.func137, Tryz.ntmps137
  go_wp2
  go_ret
  exact ⟨rfl, rfl⟩
set_option maxHeartbeats 1000000 in
theorem tz_core (x k idx : Nat) (w : World) (hx0 : ((x : Int) == 0) = false) (key : IntKind.u64.wrap (bits BinOp.and IntKind.u64 (x : Int) (IntKind.u64.wrap (-(x : Int))) * 285870213051353865) / 288230376151711744 = (idx : Int)) (hi : idx < 64) (hcell : w.cell? ⟨0, idx, none⟩ = some (.int .u8 k)) (hk : k < 64) :
    Calls Tryz.prog 137 #[.int .u64 x] w fun e w' => e = .returned (.int .i64 k) ∧ w = w' := by
  go_enter Tryz.func137, Tryz.ntmps137
  go_wp2_with (simp only [key])
  go_ret
  exact ⟨rfl, rfl⟩
theorem tz_any (x : Nat) (hx : x < 18446744073709551616) (h0 : x ≠ 0) (w : World) (hT : Tab w) : Calls Tryz.prog 137 #[.int .u64 x] w fun e w' => e = .returned (.int .i64 (Lib.ctz 64 x : Nat)) ∧ w = w' := by
  obtain ⟨hlow, hk⟩ := Lib.lowest_bit 64 x h0 hx
  obtain ⟨hi, htab⟩ := Lib.deBruijn64_at _ hk
  have hc := hT _ (show _ < Lib.deBruijn64tab.length from hi)
  rw [htab] at hc
  exact tz_core x _ _ w (by simp; omega) (tz64_key x _ hx h0 hlow) hi hc hk
theorem ctz_bits {x : Nat} (hx : x < 18446744073709551616) (h0 : x ≠ 0) : Lib.ctz 64 x < 64 ∧ x.testBit (Lib.ctz 64 x) = true ∧ ∀ i, i < Lib.ctz 64 x → x.testBit i = false := by
  obtain ⟨q, hq, hl⟩ := Lib.ctzFrom_spec 64 x (by omega) hx
  have e : Lib.ctz 64 x = Lib.ctzFrom 64 x := by unfold Lib.ctz; rw [if_neg h0]
  rw [e]
  generalize Lib.ctzFrom 64 x = k at *
  refine ⟨hl, ?_, fun i hi => ?_⟩
  · rw [hq, Nat.testBit_two_pow_mul]
    simp
  · rw [hq, Nat.testBit_two_pow_mul]
    simp
    omega

/-- The first bit from one on that is as is asked. -/
inductive FirstIs (p : Nat → Bool) (f n : Nat) : Int → Prop
  | some (j : Nat) (h1 : f ≤ j) (h2 : j < n) (h3 : p j = true) (h4 : ∀ i, f ≤ i → i < j → p i = false) : FirstIs p f n j
  | none (h : ∀ i, f ≤ i → i < n → p i = false) : FirstIs p f n (-1)
/-- The bits that are looked at. -/
def maskB (y f : Nat) : Nat := y &&& (18446744073709551616 - 2 ^ f)
theorem mask_bit {y f : Nat} (hf : f < 64) (hy : y < 18446744073709551616) (j : Nat) : (maskB y f).testBit j = (decide (f ≤ j) && y.testBit j) := by
  have hp : 2 ^ f ≤ 2 ^ 63 := Nat.pow_le_pow_right (by decide) (by omega)
  have hp0 := Nat.two_pow_pos f
  unfold maskB
  rw [Nat.testBit_and, show 18446744073709551616 - 2 ^ f = 2 ^ 64 - ((2 ^ f - 1) + 1) by omega, Nat.testBit_two_pow_sub_succ (by omega), Nat.testBit_two_pow_sub_one]
  by_cases hj : j < 64
  · by_cases h : f ≤ j
    · have : ¬ j < f := by omega
      simp [hj, h, this]
    · have : j < f := by omega
      simp [hj, h, this]
  · have : y.testBit j = false := Nat.testBit_lt_two_pow (Nat.lt_of_lt_of_le hy (by rw [show 18446744073709551616 = 2 ^ 64 from rfl]; exact Nat.pow_le_pow_right (by decide) (by omega)))
    simp [this]
theorem first_mask {p : Nat → Bool} {y f n : Nat} (hf : f < 64) (hn : n ≤ 64) (hy : y < 18446744073709551616) (hp : ∀ j, j < n → y.testBit j = p j) :
    (maskB y f = 0 → FirstIs p f n (-1)) ∧ (maskB y f ≠ 0 → ¬ Lib.ctz 64 (maskB y f) < n → FirstIs p f n (-1)) ∧ (maskB y f ≠ 0 → Lib.ctz 64 (maskB y f) < n → FirstIs p f n (Lib.ctz 64 (maskB y f) : Nat)) := by
  have hm : maskB y f < 18446744073709551616 := Nat.lt_of_le_of_lt Nat.and_le_left hy
  refine ⟨fun h0 => .none fun i h1 h2 => ?_, fun h0 hc => .none fun i h1 h2 => ?_, fun h0 hc => ?_⟩
  · have := mask_bit hf hy i
    rw [h0, Nat.zero_testBit] at this
    simp [h1] at this
    rw [← hp i h2, this]
  · obtain ⟨c1, c2, c3⟩ := ctz_bits hm h0
    have := c3 i (by omega)
    rw [mask_bit hf hy] at this
    simp [h1] at this
    rw [← hp i h2, this]
  · obtain ⟨c1, c2, c3⟩ := ctz_bits hm h0
    rw [mask_bit hf hy] at c2
    simp at c2
    refine .some _ c2.1 hc (by rw [← hp _ hc]; exact c2.2) fun i h1 h2 => ?_
    have := c3 i h2
    rw [mask_bit hf hy] at this
    simp [h1] at this
    rw [← hp i (by omega), this]

set_option maxRecDepth 8000 in
set_option maxHeartbeats 2000000 in
theorem firstS_one (r b n x f : Nat) (w : World) {cap : Nat} {rest : List Value} (h : Row1 w r b n x cap rest) (hT : Tab w) (hf : f ≤ 64) : Calls Tryz.prog 97 #[.pointer (some ⟨r, 0, none⟩), .int .i64 f, .bool true] w fun e w' => ∃ v, e = .returned (.int .i64 v) ∧ FirstIs (fun j => x.testBit j) f n v ∧ w = w' := by
  obtain ⟨h1, h2⟩ := h.n_le
  obtain ⟨c0, c1, c2⟩ := h.cells
  have hx := h.lt
  clear h
  by_cases hff : f = 64
  · subst hff
    have HF : Hid (FirstIs (fun j => x.testBit j) 64 n (-1)) := .none fun i h1 h2 => by omega
    go_enter Tryz.func97, Tryz.ntmps97
    go_wp2
    go_loopw [7] (fun i wr => i = .int .i64 1 ∧ w = wr) (fun _ _ => 0)
    case atStart => exact ⟨rfl, rfl⟩
    case round =>
      obtain ⟨rfl, rfl⟩ := hrel
      go_wp2
      go_ret
      exact ⟨_, rfl, HF.out, rfl⟩
  · have hf64 : f < 64 := by omega
    have HFM := Lib.hid (first_mask (p := fun j => x.testBit j) hf64 h2 hx (fun _ _ => rfl))
    have hq : IntKind.i64.wrap ((f : Int).tdiv 64) = 0 := by
      rw [IntKind.wrap_i64, Int.tdiv_eq_ediv_of_nonneg (by omega)]
      omega
    have hrm : (f : Int).tmod 64 = (f : Int) := by
      rw [Int.tmod_eq_emod_of_nonneg (by omega)]
      omega
    have hsd : (0 : Int) ≤ (f : Int) ∧ (f : Int) < 64 := by omega
    have hp : 2 ^ f ≤ 2 ^ 63 := Nat.pow_le_pow_right (by decide) (by omega)
    have hp0 := Nat.two_pow_pos f
    have hsh : IntKind.u64.wrap (18446744073709551615 * 2 ^ f) = ((18446744073709551616 - 2 ^ f : Nat) : Int) := by
      rw [IntKind.wrap_u64]
      have e : ((2 ^ f : Nat) : Int) = 2 ^ f := by simp
      rw [← e]
      generalize 2 ^ f = q at *
      omega
    have hand : bits .and .u64 (x : Int) ((18446744073709551616 - 2 ^ f : Nat) : Int) = ((maskB x f : Nat) : Int) := and_u64 x _ hx (by omega)
    have hml : maskB x f < 18446744073709551616 := Nat.lt_of_le_of_lt Nat.and_le_left hx
    have HT := Lib.hid hT
    clear hp hp0 hT
    generalize 18446744073709551616 - 2 ^ f = sh at *
    by_cases hm0 : maskB x f = 0
    · have HTZ := Lib.hid (tz_zero w)
      have HF := Lib.hid (HFM.out.1 hm0)
      rw [hm0] at hand
      clear hm0 hml HFM
      go_enter Tryz.func97, Tryz.ntmps97
      go_wp2
      go_loopw [7] (fun i wr => (i = .int .i64 0 ∨ i = .int .i64 1) ∧ w = wr) (fun i _ => 1 - (intOf i).toNat)
      case atStart => exact ⟨.inl (by go_num), rfl⟩
      case round =>
        obtain ⟨rfl | rfl, rfl⟩ := hrel
        · go_wp2_with (fail)
          refine HTZ.out.mono ?_
          rintro e w1 ⟨rfl, rfl⟩
          go_wp2
          go_roundw
          case rel => exact ⟨.inr (by go_num), by first | rfl | trivial⟩
          case measure => simp [intOf]
        · go_wp2
          go_ret
          exact ⟨_, rfl, HF.out, rfl⟩
    · have HTZ := Lib.hid (tz_any (maskB x f) hml hm0 w HT.out)
      have hcz := (ctz_bits hml hm0).1
      have hmz : ((maskB x f : Nat) : Int) ≠ 0 := by omega
      have hmb : (((maskB x f : Nat) : Int) != 0) = true := by simpa using hmz
      have HF1 := Lib.hid (HFM.out.2.1 hm0)
      have HF2 := Lib.hid (HFM.out.2.2 hm0)
      have hcw : IntKind.i64.wrap (0 + (Lib.ctz 64 (maskB x f) : Nat)) = (Lib.ctz 64 (maskB x f) : Nat) := by rw [wraps_i64 _ (by omega) (by omega)]; omega
      have hcw2 : IntKind.i64.wrap ((Lib.ctz 64 (maskB x f) : Nat) : Int) = (Lib.ctz 64 (maskB x f) : Nat) := by rw [wraps_i64 _ (by omega) (by omega)]
      clear hml hm0 HFM
      generalize Lib.ctz 64 (maskB x f) = cz at *
      generalize maskB x f = mv at *
      by_cases hcn : cz < n
      · have HF := Lib.hid (HF2.out hcn)
        have hci : (cz : Int) < (n : Int) := by omega
        go_enter Tryz.func97, Tryz.ntmps97
        go_wp2
        go_loopw [7] (fun i wr => i = .int .i64 0 ∧ w = wr) (fun i _ => 1 - (intOf i).toNat)
        case atStart => exact ⟨by go_num, rfl⟩
        case round =>
          obtain ⟨rfl, rfl⟩ := hrel
          go_wp2_with (fail)
          refine HTZ.out.mono ?_
          rintro e w1 ⟨rfl, rfl⟩
          go_wp2
          go_ret
          exact ⟨_, rfl, HF.out, rfl⟩
      · have HF := Lib.hid (HF1.out hcn)
        have hci : ¬ (cz : Int) < (n : Int) := by omega
        go_enter Tryz.func97, Tryz.ntmps97
        go_wp2
        go_loopw [7] (fun i wr => (i = .int .i64 0 ∨ i = .int .i64 1) ∧ w = wr) (fun i _ => 1 - (intOf i).toNat)
        case atStart => exact ⟨.inl (by go_num), rfl⟩
        case round =>
          obtain ⟨rfl | rfl, rfl⟩ := hrel
          · go_wp2_with (fail)
            refine HTZ.out.mono ?_
            rintro e w1 ⟨rfl, rfl⟩
            go_wp2
            go_roundw
            case rel => exact ⟨.inr (by go_num), by first | rfl | trivial⟩
            case measure => simp [intOf]
          · go_wp2
            go_ret
            exact ⟨_, rfl, HF.out, rfl⟩

end Go.Proofs.YtlljejmblmjjnaaGreatDoor

/- bits: the first clear bit of a row of one word. -/
namespace Go.Proofs.YtlljejmblmjjnaaGreatDoor
set_option linter.unusedVariables false
set_option linter.unusedSimpArgs false
open Go.RowKit Go.ChangeMaps

theorem not_bit {x j : Nat} (hx : x < 18446744073709551616) (hj : j < 64) : (18446744073709551615 - x).testBit j = !x.testBit j := by
  rw [show 18446744073709551615 - x = 2 ^ 64 - (x + 1) by omega, Nat.testBit_two_pow_sub_succ hx]
  simp [hj]

theorem xor_all {x : Nat} (hx : x < 18446744073709551616) : bits BinOp.xor IntKind.u64 (if IntKind.u64.signed = true then -1 else IntKind.u64.max) (x : Int) = ((18446744073709551615 - x : Nat) : Int) := by
  have e : (if IntKind.u64.signed = true then -1 else IntKind.u64.max) = ((18446744073709551615 : Nat) : Int) := by decide
  rw [e, u64_xor_nat 18446744073709551615 x (by decide) hx]
  congr 1
  apply Nat.eq_of_testBit_eq
  intro j
  rw [Nat.testBit_xor, show 18446744073709551615 - x = 2 ^ 64 - (x + 1) by omega, Nat.testBit_two_pow_sub_succ hx, show 18446744073709551615 = 2 ^ 64 - 1 from rfl, Nat.testBit_two_pow_sub_one]
  by_cases hj : j < 64
  · simp [hj]
  · have : x.testBit j = false := Nat.testBit_lt_two_pow (Nat.lt_of_lt_of_le hx (by rw [show 18446744073709551616 = 2 ^ 64 from rfl]; exact Nat.pow_le_pow_right (by decide) (by omega)))
    simp [hj, this]
set_option maxRecDepth 8000 in
set_option maxHeartbeats 2000000 in
theorem firstC_one (r b n x f : Nat) (w : World) {cap : Nat} {rest : List Value} (h : Row1 w r b n x cap rest) (hT : Tab w) (hf : f ≤ 64) : Calls Tryz.prog 97 #[.pointer (some ⟨r, 0, none⟩), .int .i64 f, .bool false] w fun e w' => ∃ v, e = .returned (.int .i64 v) ∧ FirstIs (fun j => !x.testBit j) f n v ∧ w = w' := by
  obtain ⟨h1, h2⟩ := h.n_le
  obtain ⟨c0, c1, c2⟩ := h.cells
  have hx := h.lt
  clear h
  obtain ⟨y, hyx⟩ : ∃ y, y = 18446744073709551615 - x := ⟨_, rfl⟩
  have hy : y < 18446744073709551616 := by omega
  have hnot : bits BinOp.xor IntKind.u64 (if IntKind.u64.signed = true then -1 else IntKind.u64.max) (x : Int) = (y : Int) := by rw [hyx]; exact xor_all hx
  by_cases hff : f = 64
  · subst hff
    clear hyx hnot hy
    have HF : Hid (FirstIs (fun j => !x.testBit j) 64 n (-1)) := .none fun i h1 h2 => by omega
    go_enter Tryz.func97, Tryz.ntmps97
    go_wp2
    go_loopw [7] (fun i wr => i = .int .i64 1 ∧ w = wr) (fun _ _ => 0)
    case atStart => exact ⟨rfl, rfl⟩
    case round =>
      obtain ⟨rfl, rfl⟩ := hrel
      go_wp2
      go_ret
      exact ⟨_, rfl, HF.out, rfl⟩
  · have hf64 : f < 64 := by omega
    have HFM := Lib.hid (first_mask (p := fun j => !x.testBit j) hf64 h2 hy (fun j hj => by rw [hyx]; exact not_bit hx (by omega)))
    have hq : IntKind.i64.wrap ((f : Int).tdiv 64) = 0 := by
      rw [IntKind.wrap_i64, Int.tdiv_eq_ediv_of_nonneg (by omega)]
      omega
    have hrm : (f : Int).tmod 64 = (f : Int) := by
      rw [Int.tmod_eq_emod_of_nonneg (by omega)]
      omega
    have hsd : (0 : Int) ≤ (f : Int) ∧ (f : Int) < 64 := by omega
    have hp : 2 ^ f ≤ 2 ^ 63 := Nat.pow_le_pow_right (by decide) (by omega)
    have hp0 := Nat.two_pow_pos f
    have hsh : IntKind.u64.wrap (18446744073709551615 * 2 ^ f) = ((18446744073709551616 - 2 ^ f : Nat) : Int) := by
      rw [IntKind.wrap_u64]
      have e : ((2 ^ f : Nat) : Int) = 2 ^ f := by simp
      rw [← e]
      generalize 2 ^ f = q at *
      omega
    have hand : bits .and .u64 (y : Int) ((18446744073709551616 - 2 ^ f : Nat) : Int) = ((maskB y f : Nat) : Int) := and_u64 y _ hy (by omega)
    have hml : maskB y f < 18446744073709551616 := Nat.lt_of_le_of_lt Nat.and_le_left hy
    have HT := Lib.hid hT
    clear hp hp0 hT hyx hy
    generalize 18446744073709551616 - 2 ^ f = sh at *
    by_cases hm0 : maskB y f = 0
    · have HTZ := Lib.hid (tz_zero w)
      have HF := Lib.hid (HFM.out.1 hm0)
      rw [hm0] at hand
      clear hm0 hml HFM
      go_enter Tryz.func97, Tryz.ntmps97
      go_wp2
      go_loopw [7] (fun i wr => (i = .int .i64 0 ∨ i = .int .i64 1) ∧ w = wr) (fun i _ => 1 - (intOf i).toNat)
      case atStart => exact ⟨.inl (by go_num), rfl⟩
      case round =>
        obtain ⟨rfl | rfl, rfl⟩ := hrel
        · go_wp2_with (fail)
          refine HTZ.out.mono ?_
          rintro e w1 ⟨rfl, rfl⟩
          go_wp2
          go_roundw
          case rel => exact ⟨.inr (by go_num), by first | rfl | trivial⟩
          case measure => simp [intOf]
        · go_wp2
          go_ret
          exact ⟨_, rfl, HF.out, rfl⟩
    · have HTZ := Lib.hid (tz_any (maskB y f) hml hm0 w HT.out)
      have hcz := (ctz_bits hml hm0).1
      have hmz : ((maskB y f : Nat) : Int) ≠ 0 := by omega
      have hmb : (((maskB y f : Nat) : Int) != 0) = true := by simpa using hmz
      have HF1 := Lib.hid (HFM.out.2.1 hm0)
      have HF2 := Lib.hid (HFM.out.2.2 hm0)
      have hcw : IntKind.i64.wrap (0 + (Lib.ctz 64 (maskB y f) : Nat)) = (Lib.ctz 64 (maskB y f) : Nat) := by rw [wraps_i64 _ (by omega) (by omega)]; omega
      have hcw2 : IntKind.i64.wrap ((Lib.ctz 64 (maskB y f) : Nat) : Int) = (Lib.ctz 64 (maskB y f) : Nat) := by rw [wraps_i64 _ (by omega) (by omega)]
      clear hml hm0 HFM
      generalize Lib.ctz 64 (maskB y f) = cz at *
      generalize maskB y f = mv at *
      by_cases hcn : cz < n
      · have HF := Lib.hid (HF2.out hcn)
        have hci : (cz : Int) < (n : Int) := by omega
        go_enter Tryz.func97, Tryz.ntmps97
        go_wp2
        go_loopw [7] (fun i wr => i = .int .i64 0 ∧ w = wr) (fun i _ => 1 - (intOf i).toNat)
        case atStart => exact ⟨by go_num, rfl⟩
        case round =>
          obtain ⟨rfl, rfl⟩ := hrel
          go_wp2_with (fail)
          refine HTZ.out.mono ?_
          rintro e w1 ⟨rfl, rfl⟩
          go_wp2
          go_ret
          exact ⟨_, rfl, HF.out, rfl⟩
      · have HF := Lib.hid (HF1.out hcn)
        have hci : ¬ (cz : Int) < (n : Int) := by omega
        go_enter Tryz.func97, Tryz.ntmps97
        go_wp2
        go_loopw [7] (fun i wr => (i = .int .i64 0 ∨ i = .int .i64 1) ∧ w = wr) (fun i _ => 1 - (intOf i).toNat)
        case atStart => exact ⟨.inl (by go_num), rfl⟩
        case round =>
          obtain ⟨rfl | rfl, rfl⟩ := hrel
          · go_wp2_with (fail)
            refine HTZ.out.mono ?_
            rintro e w1 ⟨rfl, rfl⟩
            go_wp2
            go_roundw
            case rel => exact ⟨.inr (by go_num), by first | rfl | trivial⟩
            case measure => simp [intOf]
          · go_wp2
            go_ret
            exact ⟨_, rfl, HF.out, rfl⟩

end Go.Proofs.YtlljejmblmjjnaaGreatDoor

/- bits: List of a row of one word. -/
namespace Go.Proofs.YtlljejmblmjjnaaGreatDoor
set_option linter.unusedVariables false
set_option linter.unusedSimpArgs false
open Go.RowKit Go.ChangeMaps

def intsN (l : List Nat) : List Int := l.map fun (k : Nat) => (k : Int)
theorem onL_succ (x n : Nat) : onL x (n + 1) = onL x n ++ if x.testBit n then [n] else [] := by
  unfold onL
  rw [List.range_succ, List.filter_append]
  cases h : x.testBit n <;> simp [h]
theorem onL_gap {x m j : Nat} (hm : m ≤ j) (h : ∀ i, m ≤ i → i < j → x.testBit i = false) : onL x j = onL x m := by
  obtain ⟨d, rfl⟩ : ∃ d, j = m + d := ⟨j - m, by omega⟩
  clear hm
  induction d with
  | zero => rfl
  | succ d ih =>
    rw [← Nat.add_assoc, onL_succ, ih fun i h1 h2 => h i h1 (by omega), h (m + d) (by omega) (by omega)]
    simp
theorem onL_le (x n : Nat) : (onL x n).length ≤ n := ones_le x n
def muK : Value → Nat | .int _ z => if z < 0 then 0 else 65 - z.toNat | _ => 0
theorem muK_nat (q : Nat) : muK (.int .i64 (q : Int)) = 65 - q := by
  show (if (q : Int) < 0 then 0 else 65 - (q : Int).toNat) = 65 - q
  rw [if_neg (by omega)]
  simp
theorem intsV_snoc (l : List Nat) (k : Nat) : intsV (intsN (l ++ [k])) = intsV (intsN l) ++ [.int .i64 (k : Int)] := by
  unfold intsV intsN
  rw [List.map_append, List.map_append]
  rfl
/-- How far the list is: what was met, and what comes next. -/
def ListI (w wr : World) (x n : Nat) (v kv : Value) : Prop :=
  ∃ (m : Nat) (z : Int), m ≤ n ∧ kv = .int .i64 z ∧ FirstIs (fun j => x.testBit j) m n z ∧ wr.ownsRow w.heap.size 3 1 v (onL x m).length (intsV (intsN (onL x m))) ∧ Below w.heap.size w wr

set_option maxRecDepth 100000 in
set_option maxHeartbeats 2000000 in
theorem list_one (r b n x : Nat) (w : World) {cap : Nat} {rest : List Value} (h : Row1 w r b n x cap rest) (hT : Tab w) : Calls Tryz.prog 48 #[.pointer (some ⟨r, 0, none⟩)] w fun e w' => ∃ v, e = .returned v ∧ w'.ownsRow w.heap.size 3 1 v (onL x n).length (intsV (intsN (onL x n))) ∧ Below w.heap.size w w' := by
  obtain ⟨i0, hi, hz0, hz1, hz2⟩ := info_parts info_int2
  have HFS : Hid (∀ W, Below w.heap.size w W → ∀ f : Nat, f ≤ 64 → Calls Tryz.prog 97 #[.pointer (some ⟨r, 0, none⟩), .int .i64 f, .bool true] W fun e w' => ∃ v, e = .returned (.int .i64 v) ∧ FirstIs (fun j => x.testBit j) f n v ∧ W = w') := fun W hW f hf => firstS_one r b n x f W (h.below hW) (hT.below hW) hf
  have hn := h.n_le
  clear h hT
  have HF0 : Hid (Calls Tryz.prog 97 #[.pointer (some ⟨r, 0, none⟩), .int .i64 0, .bool true] w fun e w' => ∃ v, e = .returned (.int .i64 v) ∧ FirstIs (fun j => x.testBit j) 0 n v ∧ w = w') := HFS.out w (Below.refl _ _) 0 (by decide)
  go_enter Tryz.func48, Tryz.ntmps48
  go_wp2_with (fail)
  refine HF0.out.mono ?_
  rintro e w1 ⟨z0, rfl, hz, rfl⟩
  have HZ := Lib.hid hz
  clear hz
  go_wp2
  go_loopw [3, 4] (fun v kv wr => ListI w wr x n v kv) (fun _ kv _ => muK kv)
  case atStart => exact ⟨0, z0, Nat.zero_le _, rfl, HZ.out, World.ownsRow_nil _ _ _ _, Below.refl _ _⟩
  case round =>
    obtain ⟨m, z, hm, rfl, hz, hown, hbw⟩ := hrel
    have HBW := Lib.hid hbw
    have hsw := hbw.size
    cases hz with
    | some j h1 h2 h3 h4 =>
      have HL : Hid (onL x (j + 1) = onL x m ++ [j]) := by show _ = _; rw [onL_succ, onL_gap h1 h4, h3]; rfl
      have hll := onL_le x m
      have hj0 : (0 : Int) ≤ (j : Int) := by omega
      have hjw : IntKind.i64.wrap ((j : Int) + 1) = ((j + 1 : Nat) : Int) := by rw [IntKind.wrap_i64]; omega
      have hlt2 := fun j e => (hown.lt j e).1
      have HLT2 := Lib.hid hlt2
      clear hlt2 h1 h3 h4 hbw
      go_wp2_with (at_builtin; refine wpList_append_own _ rfl _ _ 38 rfl _ 3 i0 (.int .i64 0) 1 8 und_ints2 hi hz0 hz1 hz2 rfl (by decide) _ _ _ rfl (World.ownsRow.alloc hown _) ⟨_, 0, none⟩ 1 1 [_] rfl rfl (cell_one_new _ _ _) (fun u hu => by simp at hu; rcases hu with rfl; rfl) (by unfold maxLen; omega) (by omega) (by simp; omega) ?_; intro v9 w9 hown9 hgrow9 hnil9)
      have HB9 := Lib.hid (Below.grown (HBW.out.alloc hsw _) hgrow9 (by simp; omega) HLT2.out)
      have HOWN9 := Lib.hid hown9
      have HFN := Lib.hid (HFS.out w9 HB9.out (j + 1) (by omega))
      clear hgrow9 hnil9 hown9 hown
      go_wp2_with (fail)
      refine HFN.out.mono ?_
      rintro e w2 ⟨z2, rfl, hz2', rfl⟩
      have HZ2 := Lib.hid hz2'
      clear hz2'
      go_wp2
      go_roundw
      case rel => exact ⟨j + 1, z2, h2, by go_num, HZ2.out, by rw [HL.out, List.length_append, intsV_snoc]; exact HOWN9.out, HB9.out⟩
      case measure =>
        cases HZ2.out with
        | some j2 k1 k2 k3 k4 =>
          have : muK (.int .i64 (j2 : Int)) < muK (.int .i64 (j : Int)) := by rw [muK_nat, muK_nat]; omega
          simpa using this
        | none hh =>
          have : muK (.int .i64 (-1)) < muK (.int .i64 (j : Int)) := by rw [muK_nat, show muK (.int .i64 (-1)) = 0 from rfl]; omega
          simpa using this
    | none hh =>
      have HL : Hid (onL x n = onL x m) := onL_gap hm hh
      clear hh
      go_wp2
      go_ret
      rw [HL.out]
      exact ⟨_, rfl, hown, HBW.out⟩

end Go.Proofs.YtlljejmblmjjnaaGreatDoor
