/- bits: a row of one word: word, Set, Clear, Len, Clone. -/
import Derived.Test.YtlljejmblmjjnaaGreatDoorOA
import Derived.Test.YtlljejmblmjjnaaGreatDoorShelf
import Derived.OrdersHeld
import Derived.WalkKit
import Derived.WalkSpells
import Derived.WalkLawsBesides
import Derived.BigQuiet
import Derived.Lib.Hide
import Derived.Deep.Cut
namespace Go.Proofs.YtlljejmblmjjnaaGreatDoor
set_option linter.unusedVariables false
set_option linter.unusedSimpArgs false
open Go.RowKit Go.ChangeMaps

set_option maxHeartbeats 400000 in
theorem word1_no (r b n x : Nat) (k : Int) (w : World) {cap : Nat} {rest : List Value} (h : Row1 w r b n x cap rest) (hk : k < 0 ∨ (n : Int) ≤ k) :
    Calls Tryz.prog 146 #[.pointer (some ⟨r, 0, none⟩), .int .i64 k] w fun e w' => e = .returned (.tuple #[.pointer none, .int .u64 0]) ∧ Below w.heap.size w w' := by
  obtain ⟨c0, -, -⟩ := h.cells
  clear h
  by_cases h1 : k < 0
  · clear hk
    go_enter Tryz.func146, Tryz.ntmps146
    go_wp2
    go_ret2
    exact ⟨rfl, Below.refl _ _⟩
  · have h2 : (n : Int) ≤ k := by omega
    clear hk
    go_enter Tryz.func146, Tryz.ntmps146
    go_wp2
    go_ret2
    exact ⟨rfl, Below.refl _ _⟩

set_option maxHeartbeats 400000 in
theorem word1_yes (r b n x : Nat) (k : Nat) (w : World) {cap : Nat} {rest : List Value} (h : Row1 w r b n x cap rest) (hk : k < n) :
    Calls Tryz.prog 146 #[.pointer (some ⟨r, 0, none⟩), .int .i64 k] w fun e w' => e = .returned (.tuple #[.pointer (some ⟨b, 0, none⟩), .int .u64 ((2 ^ k : Nat) : Int)]) ∧ Below w.heap.size w w' := by
  obtain ⟨c0, c1, -⟩ := h.cells
  obtain ⟨n1, n64⟩ := h.n_le
  have h1 : ¬ (k : Int) < 0 := by omega
  have h2 : ¬ n ≤ k := by omega
  have hq : IntKind.i64.wrap ((k : Int).tdiv 64) = 0 := by
    rw [IntKind.wrap_i64, Int.tdiv_eq_ediv_of_nonneg (by omega)]
    omega
  have hr : (k : Int).tmod 64 = (k : Int) := by
    rw [Int.tmod_eq_emod_of_nonneg (by omega)]
    omega
  have hsd : (0 : Int) ≤ (k : Int) ∧ (k : Int) < 64 := by omega
  have hsw : IntKind.u64.wrap (2 ^ k) = ((2 ^ k : Nat) : Int) := by
    have hp : 2 ^ k < 2 ^ 64 := Nat.pow_lt_pow_right (by decide) (by omega)
    have := wraps_u64 ((2 ^ k : Nat) : Int) (Int.natCast_nonneg _) (by exact_mod_cast hp)
    simpa using this
  clear h
  go_enter Tryz.func146, Tryz.ntmps146
  go_wp2
  (refine wp_region_quiet_ext (by kernel_rfl) (by kernel_rfl) ?_; (repeat (first | go_big_quiet_step ((fail)) | quiet_step ((fail)))); refine wpQuiet_nil ?_; intro w1 hw1; obtain hb := below_of_ext hw1; clear hw1; obtain ⟨hc, hf⟩ := bcell hb; have hz := hb.size; (try simp at hz))
  have HBq := Lib.hid hb
  clear hb hc hf
  go_wp2
  go_ret2
  have hk64 : k / 64 = 0 := by omega
  refine ⟨?_, HBq.out⟩
  simp [hk64]

/-- Set and Clear: what they answer and leave. -/
def Set1Post (w : World) (r b n x cap : Nat) (rest : List Value) (k : Int) (e : Ending) (w' : World) : Prop :=
  if 0 ≤ k ∧ k < n ∧ x.testBit k.toNat = false then e = .returned (.bool true) ∧ Row1 w' r b n (x ||| 2 ^ k.toNat) cap rest ∧ Turned (fun j => j = b) w w' else e = .returned (.bool false) ∧ Below w.heap.size w w'
def Clear1Post (w : World) (r b n x cap : Nat) (rest : List Value) (k : Int) (e : Ending) (w' : World) : Prop :=
  if 0 ≤ k ∧ k < n ∧ x.testBit k.toNat = true then e = .returned (.bool true) ∧ Row1 w' r b n (x &&& (18446744073709551615 - 2 ^ k.toNat)) cap rest ∧ Turned (fun j => j = b) w w' else e = .returned (.bool false) ∧ Below w.heap.size w w'
theorem Row1.put {w w1 : World} {r b n x cap : Nat} {rest : List Value} (h : Row1 w r b n x cap rest) (hb : Below w.heap.size w w1) {y : Nat} (hy : y < 2 ^ n) :
    Row1 (w1.setCell ⟨b, 0, none⟩ (.int .u64 (y : Int))) r b n y cap rest ∧ Turned (fun j => j = b) w (w1.setCell ⟨b, 0, none⟩ (.int .u64 (y : Int))) := by
  have h1 := h.below hb
  refine ⟨⟨?_, ?_, h.n1, h.n64, hy⟩, Turned.setCell (F := fun j => j = b) (p := ⟨b, 0, none⟩) (Turned.of_below hb (Nat.le_refl _)) (.inl rfl) _⟩
  · rw [Below.heap_setCell _ _ _ _ h1.ne]
    exact h1.obj
  · rw [heap_setCell_eq h1.words]
    rfl

set_option maxHeartbeats 400000 in
theorem set1_any (r b n x : Nat) (k : Int) (w : World) {cap : Nat} {rest : List Value} (h : Row1 w r b n x cap rest) :
    Calls Tryz.prog 115 #[.pointer (some ⟨r, 0, none⟩), .int .i64 k] w (Set1Post w r b n x cap rest k) := by
  by_cases hk : 0 ≤ k ∧ k < n
  · obtain ⟨k, rfl⟩ := Int.eq_ofNat_of_zero_le hk.1
    have hkn : k < n := by omega
    obtain ⟨n1, n64⟩ := h.n_le
    have hw := Lib.hid (word1_yes r b n x k w h hkn)
    have hx := h.lt
    have hj : k < 64 := by omega
    have hab := and_bit x k hx hj
    have hob := or_bit x k hx hj
    obtain ⟨-, -, g0⟩ := h.cells
    cases ht : x.testBit k
    · have hpost : ∀ (w1 : World), Below w.heap.size w w1 → Set1Post w r b n x cap rest (k : Int) (.returned (.bool true)) (w1.setCell ⟨b, 0, none⟩ (.int .u64 ((x ||| 2 ^ k : Nat) : Int))) := fun w1 hb => by
        unfold Set1Post
        rw [if_pos ⟨by omega, by omega, by rw [Int.toNat_natCast]; exact ht⟩, Int.toNat_natCast]
        exact ⟨rfl, h.put hb (Nat.or_lt_two_pow h.top (Nat.pow_lt_pow_right (by decide) hkn))⟩
      have HP := Lib.hid hpost
      have hfz : w.frozen? ⟨b, 0, none⟩ = false := frozen_of_row _ _ _ _ _ h.words
      have hz : (bits .and .u64 (x : Int) ((2 ^ k : Nat) : Int) != 0) = false := by rw [hab]; exact ht
      have HOB := Lib.hid hob
      have HB := Lib.hid (cell_lt g0)
      clear h hab hob hpost hk ht hx
      generalize 2 ^ k = pw at *
      go_enter Tryz.func115, Tryz.ntmps115
      go_wp2_with (fail)
      refine hw.out.mono ?_
      rintro e w1 ⟨rfl, hb⟩
      have g1 := cell_past hb (cell_lt g0) g0
      have f1 : w1.frozen? ⟨b, 0, none⟩ = false := (hb.frozen (p := ⟨b, 0, none⟩) HB.out).trans hfz
      have HBq := Lib.hid hb
      clear hb
      have HP2 := Lib.hid (HP.out w1 HBq.out)
      rw [← HOB.out] at HP2
      go_wp2
      go_ret
      exact HP2.out
    · have hz : (bits .and .u64 (x : Int) ((2 ^ k : Nat) : Int) != 0) = true := by rw [hab]; exact ht
      have hpost : ∀ (w1 : World), Below w.heap.size w w1 → Set1Post w r b n x cap rest (k : Int) (.returned (.bool false)) w1 := fun w1 hb => by
        unfold Set1Post
        rw [if_neg (fun hh => by rw [Int.toNat_natCast, ht] at hh; cases hh.2.2)]
        exact ⟨rfl, hb⟩
      have HP := Lib.hid hpost
      clear h hab hob hk ht hpost hx
      generalize 2 ^ k = pw at *
      go_enter Tryz.func115, Tryz.ntmps115
      go_wp2_with (fail)
      refine hw.out.mono ?_
      rintro e w1 ⟨rfl, hb⟩
      have g1 := cell_past hb (cell_lt g0) g0
      go_wp2
      go_ret
      exact HP.out w1 hb
  · have hw := Lib.hid (word1_no r b n x k w h (by omega))
    have hpost : ∀ (w1 : World), Below w.heap.size w w1 → Set1Post w r b n x cap rest k (.returned (.bool false)) w1 := fun w1 hb => by
      unfold Set1Post
      rw [if_neg (fun hh => hk ⟨hh.1, hh.2.1⟩)]
      exact ⟨rfl, hb⟩
    have HP := Lib.hid hpost
    clear h hk hpost
    go_enter Tryz.func115, Tryz.ntmps115
    go_wp2_with (fail)
    refine hw.out.mono ?_
    rintro e w1 ⟨rfl, hb⟩
    go_wp2
    go_ret
    exact HP.out w1 hb

set_option maxHeartbeats 400000 in
theorem clear1_any (r b n x : Nat) (k : Int) (w : World) {cap : Nat} {rest : List Value} (h : Row1 w r b n x cap rest) :
    Calls Tryz.prog 141 #[.pointer (some ⟨r, 0, none⟩), .int .i64 k] w (Clear1Post w r b n x cap rest k) := by
  by_cases hk : 0 ≤ k ∧ k < n
  · obtain ⟨k, rfl⟩ := Int.eq_ofNat_of_zero_le hk.1
    have hkn : k < n := by omega
    obtain ⟨n1, n64⟩ := h.n_le
    have hw := Lib.hid (word1_yes r b n x k w h hkn)
    have hx := h.lt
    have hj : k < 64 := by omega
    have hab := and_bit x k hx hj
    have hob := andNot_bit x k hx hj
    obtain ⟨-, -, g0⟩ := h.cells
    cases ht : x.testBit k
    · have hz : (bits .and .u64 (x : Int) ((2 ^ k : Nat) : Int) == 0) = true := by have h1 := hab; rw [ht] at h1; simpa using h1
      have hpost : ∀ (w1 : World), Below w.heap.size w w1 → Clear1Post w r b n x cap rest (k : Int) (.returned (.bool false)) w1 := fun w1 hb => by
        unfold Clear1Post
        rw [if_neg (fun hh => by rw [Int.toNat_natCast, ht] at hh; cases hh.2.2)]
        exact ⟨rfl, hb⟩
      have HP := Lib.hid hpost
      clear h hab hob hk ht hpost hx
      generalize 2 ^ k = pw at *
      go_enter Tryz.func141, Tryz.ntmps141
      go_wp2_with (fail)
      refine hw.out.mono ?_
      rintro e w1 ⟨rfl, hb⟩
      have g1 := cell_past hb (cell_lt g0) g0
      go_wp2
      go_ret
      exact HP.out w1 hb
    · have hpost : ∀ (w1 : World), Below w.heap.size w w1 → Clear1Post w r b n x cap rest (k : Int) (.returned (.bool true)) (w1.setCell ⟨b, 0, none⟩ (.int .u64 ((x &&& (18446744073709551615 - 2 ^ k) : Nat) : Int))) := fun w1 hb => by
        unfold Clear1Post
        rw [if_pos ⟨by omega, by omega, by rw [Int.toNat_natCast]; exact ht⟩, Int.toNat_natCast]
        exact ⟨rfl, h.put hb (Nat.lt_of_le_of_lt Nat.and_le_left h.top)⟩
      have HP := Lib.hid hpost
      have hfz : w.frozen? ⟨b, 0, none⟩ = false := frozen_of_row _ _ _ _ _ h.words
      have hz : (bits .and .u64 (x : Int) ((2 ^ k : Nat) : Int) == 0) = false := by have h1 := hab; rw [ht] at h1; simpa using h1
      have HOB := Lib.hid hob
      have HB := Lib.hid (cell_lt g0)
      clear h hab hob hpost hk ht hx
      generalize 2 ^ k = pw at *
      go_enter Tryz.func141, Tryz.ntmps141
      go_wp2_with (fail)
      refine hw.out.mono ?_
      rintro e w1 ⟨rfl, hb⟩
      have g1 := cell_past hb (cell_lt g0) g0
      have f1 : w1.frozen? ⟨b, 0, none⟩ = false := (hb.frozen (p := ⟨b, 0, none⟩) HB.out).trans hfz
      have HBq := Lib.hid hb
      clear hb
      have HP2 := Lib.hid (HP.out w1 HBq.out)
      rw [← HOB.out] at HP2
      go_wp2
      go_ret
      exact HP2.out
  · have hw := Lib.hid (word1_no r b n x k w h (by omega))
    have hpost : ∀ (w1 : World), Below w.heap.size w w1 → Clear1Post w r b n x cap rest k (.returned (.bool false)) w1 := fun w1 hb => by
      unfold Clear1Post
      rw [if_neg (fun hh => hk ⟨hh.1, hh.2.1⟩)]
      exact ⟨rfl, hb⟩
    have HP := Lib.hid hpost
    clear h hk hpost
    go_enter Tryz.func141, Tryz.ntmps141
    go_wp2_with (fail)
    refine hw.out.mono ?_
    rintro e w1 ⟨rfl, hb⟩
    go_wp2
    go_ret
    exact HP.out w1 hb

set_option maxHeartbeats 400000 in
theorem rlen1_any (r b n x : Nat) (w : World) {cap : Nat} {rest : List Value} (h : Row1 w r b n x cap rest) : Calls Tryz.prog 98 #[.pointer (some ⟨r, 0, none⟩)] w fun e w' => e = .returned (.int .i64 n) ∧ w = w' := by
  obtain ⟨c0, -, -⟩ := h.cells
  clear h
  go_enter Tryz.func98, Tryz.ntmps98
  go_wp2
  go_ret
  exact ⟨rfl, rfl⟩

end Go.Proofs.YtlljejmblmjjnaaGreatDoor

/- bits: New and Clone of a row of one word. -/
namespace Go.Proofs.YtlljejmblmjjnaaGreatDoor
set_option linter.unusedVariables false
set_option linter.unusedSimpArgs false
open Go.RowKit Go.ChangeMaps

theorem und_words1 : Tryz.prog.underlying 145 = some (.slice 148) := by kernel_rfl
def NewRowPost (w : World) (n x : Nat) (e : Ending) (w' : World) : Prop :=
  ∃ r b cap rest, e = .returned (.pointer (some ⟨r, 0, none⟩)) ∧ w.heap.size ≤ r ∧ w.heap.size ≤ b ∧ Row1 w' r b n x cap rest ∧ Below w.heap.size w w'

set_option maxRecDepth 8000 in
set_option maxHeartbeats 2000000 in
theorem clone1_any (r b n x : Nat) (w : World) {cap : Nat} {rest : List Value} (h : Row1 w r b n x cap rest) : Calls Tryz.prog 90 #[.pointer (some ⟨r, 0, none⟩)] w (NewRowPost w n x) := by
  obtain ⟨i0, hi, hz0, hz1, hz2⟩ := info_parts info_word
  obtain ⟨c0, c1, -⟩ := h.cells
  have HCL : Hid (Calls Tryz.prog 133 #[.slice (some ⟨b, 0, none⟩) 1 cap] w.drew fun e w' => ∃ v', e = .returned v' ∧ w'.ownsRow w.drew.heap.size 148 1 v' 1 [.int .u64 (x : Int)] ∧ v' ≠ .slice none 0 0 ∧ Below w.drew.heap.size w.drew w') := by
    have hw : Row1 w.drew r b n x cap rest := h.below (Below.drew (Below.refl _ _))
    exact Tryz.slices_Clone_f133 i0 _ 1 8 hi hz0 hz1 hz2 rfl (by decide) (fun w => by kernel_rfl) b 0 1 cap [.int .u64 (x : Int)] w.drew rfl (by unfold maxLen; omega) (by decide) (fun j u hj => by
      match j, hj with
      | 0, hj => cases hj; exact hw.cells.2.2
      | j + 1, hj => simp at hj) (fun u hu => by simp at hu; rw [hu]; rfl)
  have HB := Lib.hid h
  have hrl := lt_of_block h.obj
  clear h
  go_enter Tryz.func90, Tryz.ntmps90
  go_upto_region 1 with (fail)
  refine wp_region_held_drew (S := fun W : World => W.cell? ⟨r, 0, none⟩ = some (.int .i64 n) ∧ W.cell? ⟨r, 1, none⟩ = some (.slice (some ⟨b, 0, none⟩) 1 cap)) (by kernel_rfl) ?_ (fun hHeld0 => ?_)
  · exact ⟨c0, c1⟩
  (refine wpAnyH_take (i := 0) (v := ?_) rfl (by kernel_rfl) (by kernel_rfl) (by kernel_rfl) (fun _ _ _ h => h) (Or.inl ⟨by rfl, ?_⟩) (by assumption) ?_; rotate_left; focus (intro w hSw; (try dsimp only at hSw); go_simp; first | done | with_reducible rfl); (try simp only [Act.put, List.setIfInBounds_toArray, List.set_cons_zero, List.set_cons_succ, List.getElem_toArray, List.getElem_cons_zero, List.getElem_cons_succ]))
  (refine wpAnyH_take (i := 1) (v := ?_) rfl (by kernel_rfl) (by kernel_rfl) (by kernel_rfl) (fun _ _ _ h => h) (Or.inl ⟨by rfl, ?_⟩) (by assumption) ?_; rotate_left; focus (intro w hSw; (try dsimp only at hSw); go_simp; first | done | with_reducible rfl); (try simp only [Act.put, List.setIfInBounds_toArray, List.set_cons_zero, List.set_cons_succ, List.getElem_toArray, List.getElem_cons_zero, List.getElem_cons_succ]))
  (refine wpAnyH_take (i := 2) (v := ?_) rfl (by kernel_rfl) (by kernel_rfl) (by kernel_rfl) (fun _ _ _ h => h) (Or.inl ⟨by rfl, ?_⟩) (by assumption) ?_; rotate_left; focus (intro w hSw; (try dsimp only at hSw); go_simp; first | done | with_reducible rfl); (try simp only [Act.put, List.setIfInBounds_toArray, List.set_cons_zero, List.set_cons_succ, List.getElem_toArray, List.getElem_cons_zero, List.getElem_cons_succ]))
  (refine wpAnyH_take (i := 3) (v := ?_) rfl (by kernel_rfl) (by kernel_rfl) (by kernel_rfl) (fun _ _ _ h => h) (Or.inl ⟨by rfl, ?_⟩) (by assumption) ?_; rotate_left; focus (intro w hSw; (try dsimp only at hSw); go_simp; first | done | with_reducible rfl); (try simp only [Act.put, List.setIfInBounds_toArray, List.set_cons_zero, List.set_cons_succ, List.getElem_toArray, List.getElem_cons_zero, List.getElem_cons_succ]))
  (refine wpAnyH_take (i := 4) (v := ?_) rfl (by kernel_rfl) (by kernel_rfl) (by kernel_rfl) (fun _ _ _ h => h) (Or.inl ⟨by rfl, ?_⟩) (by assumption) ?_; rotate_left; focus (intro w hSw; (try dsimp only at hSw); go_simp; first | done | with_reducible rfl); (try simp only [Act.put, List.setIfInBounds_toArray, List.set_cons_zero, List.set_cons_succ, List.getElem_toArray, List.getElem_cons_zero, List.getElem_cons_succ]))
  (refine wpAnyH_take (i := 5) (v := ?_) rfl (by kernel_rfl) (by kernel_rfl) (by kernel_rfl) (fun _ _ _ h => h) (Or.inl ⟨by rfl, ?_⟩) (by assumption) ?_; rotate_left; focus (intro w hSw; (try dsimp only at hSw); go_simp; first | done | with_reducible rfl); (try simp only [Act.put, List.setIfInBounds_toArray, List.set_cons_zero, List.set_cons_succ, List.getElem_toArray, List.getElem_cons_zero, List.getElem_cons_succ]))
  (refine wpAnyH_take (i := 6) (v := ?_) rfl (by kernel_rfl) (by kernel_rfl) (by kernel_rfl) (fun _ _ _ h => h) (Or.inl ⟨by rfl, ?_⟩) (by assumption) ?_; rotate_left; focus (intro w hSw; (try dsimp only at hSw); go_simp; first | done | with_reducible rfl); (try simp only [Act.put, List.setIfInBounds_toArray, List.set_cons_zero, List.set_cons_succ, List.getElem_toArray, List.getElem_cons_zero, List.getElem_cons_succ]))
  (refine wpAnyH_take (i := 7) (v := ?_) rfl (by kernel_rfl) (by kernel_rfl) (by kernel_rfl) (fun _ _ _ h => h) (Or.inl ⟨by rfl, ?_⟩) (by assumption) ?_; rotate_left; focus (intro w hSw; (try dsimp only at hSw); go_simp; first | done | with_reducible rfl); (try simp only [Act.put, List.setIfInBounds_toArray, List.set_cons_zero, List.set_cons_succ, List.getElem_toArray, List.getElem_cons_zero, List.getElem_cons_succ]))
  refine wpAnyH_ready (rs := [8]) (by kernel_rfl) (by simp) ?_
  refine AllReadyH.cons rfl (fun K hK => ?_) AllReadyH.nil
  go_simp
  refine HCL.out.mono ?_
  rintro e w4 ⟨v, rfl, hown, hne, hb4⟩
  have HB4 := Lib.hid (Below.via hb4 (Nat.le_refl _) (Below.drew (Below.refl _ w)))
  obtain ⟨g, cp, rst, rfl, hgb, hg⟩ : ∃ g cp rst, v = .slice (some ⟨g, 0, none⟩) 1 cp ∧ w.heap.size ≤ g ∧ w4.heap[g]? = some (.cells (Value.int .u64 (x : Int) :: rst).toArray 148 (0, 0)) := by
    rcases hown.2 with ⟨rfl, h0⟩ | ⟨g, cp, cur, rfl, hgb, hg, r1, r2, r3, r4⟩
    · exact absurd h0 (by decide)
    · refine ⟨g, cp, cur.toList.drop 1, rfl, hgb, ?_⟩
      rw [hg]
      congr 2
      have e : cur.toList = Value.int .u64 (x : Int) :: cur.toList.drop 1 := by
        conv => lhs; rw [← List.take_append_drop 1 cur.toList]
        rw [show cur.toList.take 1 = [Value.int .u64 (x : Int)] from r4]
        rfl
      rw [← e, Array.toArray_toList]
  have HG := Lib.hid (And.intro hgb hg)
  refine hK.out _ _ ⟨cell_past hb4 hrl c0, cell_past hb4 hrl c1⟩ (fun hHeld => ?_)
  clear hK K hHeld0 hb4 hown hne hgb hg
  (try simp only [Act.put, List.setIfInBounds_toArray, List.set_cons_zero, List.set_cons_succ, List.getElem_toArray, List.getElem_cons_zero, List.getElem_cons_succ])
  (refine wpAnyH_take (i := 9) (v := ?_) rfl (by kernel_rfl) (by kernel_rfl) (by kernel_rfl) (fun _ _ _ h => h) (Or.inl ⟨by rfl, ?_⟩) (by assumption) ?_; rotate_left; focus (intro w hSw; (try dsimp only at hSw); go_simp; first | done | with_reducible rfl); (try simp only [Act.put, List.setIfInBounds_toArray, List.set_cons_zero, List.set_cons_succ, List.getElem_toArray, List.getElem_cons_zero, List.getElem_cons_succ]))
  refine wpAnyH_ready (rs := [10]) (by kernel_rfl) (by simp) ?_
  refine AllReadyH.cons rfl (fun K hK => ?_) AllReadyH.nil
  go_simp
  obtain ⟨W5, hW5⟩ : ∃ W5, W5 = w4.alloc (.cells #[.int .i64 n, .slice (some ⟨g, 0, none⟩) 1 cp] 154) := ⟨_, rfl⟩
  have HB5 : Hid (Below w.heap.size w W5) := by rw [hW5]; exact Below.alloc HB4.out HB4.out.size _
  have HR : Hid (Row1 W5 w4.heap.size g n x cp rst) := by
    refine ⟨by rw [hW5]; exact heap_alloc_new _ _, ?_, HB.out.n1, HB.out.n64, HB.out.top⟩
    rw [hW5]
    exact ((Below.alloc (Below.refl _ _) (Nat.le_refl _) _).block _ (lt_of_block HG.out.2)).trans HG.out.2
  have hs4 := HB4.out.size
  have d0 := cell_past HB5.out hrl c0
  have d1 := cell_past HB5.out hrl c1
  rw [← hW5]
  clear hW5
  refine hK.out _ _ ⟨d0, d1⟩ (fun hHeld => ?_)
  clear hK K
  (try simp only [Act.put, List.setIfInBounds_toArray, List.set_cons_zero, List.set_cons_succ, List.getElem_toArray, List.getElem_cons_zero, List.getElem_cons_succ])
  (refine wpAnyH_take (i := 11) (v := ?_) rfl (by kernel_rfl) (by kernel_rfl) (by kernel_rfl) (fun _ _ _ h => h) (Or.inl ⟨by rfl, ?_⟩) (by assumption) ?_; rotate_left; focus (intro w hSw; (try dsimp only at hSw); go_simp; first | done | with_reducible rfl); (try simp only [Act.put, List.setIfInBounds_toArray, List.set_cons_zero, List.set_cons_succ, List.getElem_toArray, List.getElem_cons_zero, List.getElem_cons_succ]))
  refine wpAnyH_done (by kernel_rfl) ?_ _
  clear hHeld
  go_wp2
  go_ret
  exact ⟨_, _, _, _, rfl, hs4, HG.out.1, HR.out, HB5.out⟩
theorem bitsNew_one (n : Nat) (w : World) (h1 : 1 ≤ n) (h2 : n ≤ 64) : Calls Tryz.prog 114 #[.int .i64 n] w fun e w' => ∃ r b cap rest, e = .returned (.tuple #[.pointer (some ⟨r, 0, none⟩), .int .i64 0]) ∧ w.heap.size ≤ r ∧ w.heap.size ≤ b ∧ Row1 w' r b n 0 cap rest ∧ Below w.heap.size w w' := by
  have hm : (n + 63) / 64 = 1 := by omega
  have := bitsNew_yes n w (by omega)
  rw [hm] at this
  refine this.mono ?_
  rintro e w' ⟨rfl, hr, hb, hs⟩
  refine ⟨_, _, 1, [], rfl, ?_, ?_, ⟨hr.obj, hr.words, h1, h2, Nat.two_pow_pos n⟩, hb⟩
  · omega
  · omega

end Go.Proofs.YtlljejmblmjjnaaGreatDoor

/- oldslab: a slab in memory; Base, Class, Size, Slots, Free, Taken. -/
namespace Go.Proofs.YtlljejmblmjjnaaGreatDoor
set_option linter.unusedVariables false
set_option linter.unusedSimpArgs false
open Go.RowKit Go.ChangeMaps

def tabA : List Nat := [16, 32, 48, 64, 80, 96, 112, 128, 160, 192, 224, 256, 320, 384, 448, 512]
def szA (c : Nat) : Nat := tabA.getD c 0
def slA (c : Nat) : Nat := 1024 / szA c
theorem szA_all : ∀ c, c < 16 → 16 ≤ szA c ∧ szA c ≤ 512 ∧ szA c % 16 = 0 ∧ 2 ≤ slA c ∧ slA c ≤ 64 ∧ szA c * slA c ≤ 1024 := by decide
/-- An old slab: where it begins, its class, its bitmap. -/
structure OM where
  base : Nat
  cls : Nat
  x : Nat
def oslabC (r : Nat) (S : OM) : Array Value := #[.int .i64 S.base, .int .i64 S.cls, .int .i64 (szA S.cls : Nat), .pointer (some ⟨r, 0, none⟩)]
/-- Where an old slab lies. -/
structure OL where
  s : Nat
  r : Nat
  b : Nat
  cap : Nat
  rest : List Value
structure OSlabAt (w : World) (L : OL) (S : OM) : Prop where
  obj : w.heap[L.s]? = some (.cells (oslabC L.r S) 86 (0, 0))
  row : Row1 w L.r L.b (slA S.cls) S.x L.cap L.rest
  cls : S.cls < 16
  lim : S.base ≤ 1048576
theorem OSlabAt.turned {F : Nat → Prop} {w w' : World} {L : OL} {S : OM} (h : OSlabAt w L S) (t : Turned F w w') (h1 : ¬ F L.s) (h2 : ¬ F L.r) (h3 : ¬ F L.b) : OSlabAt w' L S :=
  ⟨(t.block _ (lt_of_block h.obj) h1).trans h.obj, h.row.turned t h2 h3, h.cls, h.lim⟩
theorem OSlabAt.below {w w' : World} {L : OL} {S : OM} (h : OSlabAt w L S) (hb : Below w.heap.size w w') : OSlabAt w' L S :=
  h.turned (Turned.of_below (F := fun _ => False) hb (Nat.le_refl _)) (fun h => h) (fun h => h) (fun h => h)
theorem OSlabAt.cells {w : World} {L : OL} {S : OM} (h : OSlabAt w L S) : w.cell? ⟨L.s, 0, none⟩ = some (.int .i64 S.base) ∧ w.cell? ⟨L.s, 1, none⟩ = some (.int .i64 S.cls) ∧ w.cell? ⟨L.s, 2, none⟩ = some (.int .i64 (szA S.cls : Nat)) ∧ w.cell? ⟨L.s, 3, none⟩ = some (.pointer (some ⟨L.r, 0, none⟩)) :=
  ⟨cell_of_block h.obj 0, cell_of_block h.obj 1, cell_of_block h.obj 2, cell_of_block h.obj 3⟩

set_option maxHeartbeats 400000 in
theorem obase_any {w : World} {L : OL} {S : OM} (h : OSlabAt w L S) : Calls Tryz.prog 18 #[.pointer (some ⟨L.s, 0, none⟩)] w fun e w' => e = .returned (.int .i64 S.base) ∧ w = w' := by
  obtain ⟨c0, -, -, -⟩ := h.cells
  clear h
  go_enter Tryz.func18, Tryz.ntmps18
  go_wp2
  go_ret
  exact ⟨rfl, rfl⟩
set_option maxHeartbeats 400000 in
theorem oclass_any {w : World} {L : OL} {S : OM} (h : OSlabAt w L S) : Calls Tryz.prog 13 #[.pointer (some ⟨L.s, 0, none⟩)] w fun e w' => e = .returned (.int .i64 S.cls) ∧ w = w' := by
  obtain ⟨-, c1, -, -⟩ := h.cells
  clear h
  go_enter Tryz.func13, Tryz.ntmps13
  go_wp2
  go_ret
  exact ⟨rfl, rfl⟩
set_option maxHeartbeats 400000 in
theorem osize_any {w : World} {L : OL} {S : OM} (h : OSlabAt w L S) : Calls Tryz.prog 14 #[.pointer (some ⟨L.s, 0, none⟩)] w fun e w' => e = .returned (.int .i64 (szA S.cls : Nat)) ∧ w = w' := by
  obtain ⟨-, -, c2, -⟩ := h.cells
  clear h
  go_enter Tryz.func14, Tryz.ntmps14
  go_wp2
  go_ret
  exact ⟨rfl, rfl⟩
set_option maxHeartbeats 400000 in
theorem oslots_any {w : World} {L : OL} {S : OM} (h : OSlabAt w L S) : Calls Tryz.prog 49 #[.pointer (some ⟨L.s, 0, none⟩)] w fun e w' => e = .returned (.int .i64 (slA S.cls : Nat)) ∧ w = w' := by
  obtain ⟨-, -, -, c3⟩ := h.cells
  have HL := Lib.hid (rlen1_any L.r L.b _ S.x w h.row)
  clear h
  go_enter Tryz.func49, Tryz.ntmps49
  go_wp2_with (fail)
  refine HL.out.mono ?_
  rintro e w' ⟨rfl, rfl⟩
  go_wp2
  go_ret
  exact ⟨rfl, rfl⟩
def takenO (S : OM) : List Nat := onL S.x (slA S.cls)
set_option maxHeartbeats 400000 in
theorem otaken_any {w : World} {L : OL} {S : OM} (h : OSlabAt w L S) (hT : Tab w) : Calls Tryz.prog 19 #[.pointer (some ⟨L.s, 0, none⟩)] w fun e w' => ∃ v, e = .returned v ∧ w'.ownsRow w.heap.size 3 1 v (takenO S).length (intsV (intsN (takenO S))) ∧ Below w.heap.size w w' := by
  obtain ⟨-, -, -, c3⟩ := h.cells
  have HL := Lib.hid (list_one L.r L.b _ S.x w h.row hT)
  clear h hT
  go_enter Tryz.func19, Tryz.ntmps19
  go_wp2_with (fail)
  refine HL.out.mono ?_
  rintro e w' ⟨v, rfl, hown, hb⟩
  have HO := Lib.hid (And.intro hown hb)
  clear hown hb
  go_wp2
  go_ret
  exact ⟨_, rfl, HO.out⟩
/-- 0: empty, 1: partial, 2: full. -/
def stateO (S : OM) : Nat := if ones S.x (slA S.cls) = 0 then 0 else if ones S.x (slA S.cls) = slA S.cls then 2 else 1
set_option maxHeartbeats 1000000 in
theorem ostate_any {w : World} {L : OL} {S : OM} (h : OSlabAt w L S) : Calls Tryz.prog 57 #[.pointer (some ⟨L.s, 0, none⟩)] w fun e w' => e = .returned (.int .i64 (stateO S : Nat)) ∧ w = w' := by
  obtain ⟨-, -, -, c3⟩ := h.cells
  have HC := Lib.hid (count_one L.r L.b _ S.x w h.row)
  have HS := Lib.hid (oslots_any h)
  have hst : stateO S = if ones S.x (slA S.cls) = 0 then 0 else if ones S.x (slA S.cls) = slA S.cls then 2 else 1 := rfl
  obtain ⟨-, -, -, hs4, hs5, -⟩ := szA_all _ h.cls
  generalize stateO S = st at *
  generalize ones S.x (slA S.cls) = o at *
  generalize slA S.cls = sl at *
  clear h
  by_cases h0 : o = 0
  · have HE : Hid (st = 0) := by show _ = _; rw [hst, if_pos h0]
    rw [h0] at HC
    clear hst h0
    go_enter Tryz.func57, Tryz.ntmps57
    go_wp2_with (fail)
    refine HC.out.mono ?_
    rintro e w' ⟨rfl, rfl⟩
    go_wp2
    go_ret
    exact ⟨by rw [HE.out]; rfl, rfl⟩
  · have h0i : ¬ ((o : Int) = 0) := by omega
    have h0b : ((o : Int) == 0) = false := by simpa using h0
    by_cases h1 : o = sl
    · have HE : Hid (st = 2) := by show _ = _; rw [hst, if_neg h0, if_pos h1]
      clear hst h0
      subst h1
      go_enter Tryz.func57, Tryz.ntmps57
      go_wp2_with (fail)
      refine HC.out.mono ?_
      rintro e w' ⟨rfl, rfl⟩
      go_wp2_with (fail)
      refine HS.out.mono ?_
      rintro e w' ⟨rfl, rfl⟩
      go_wp2
      go_ret
      exact ⟨by rw [HE.out]; rfl, rfl⟩
    · have HE : Hid (st = 1) := by show _ = _; rw [hst, if_neg h0, if_neg h1]
      have h1i : ¬ ((o : Int) = (sl : Int)) := by omega
      have h1b : ((o : Int) == (sl : Int)) = false := beq_eq_false_iff_ne.2 h1i
      clear hst h0
      go_enter Tryz.func57, Tryz.ntmps57
      go_wp2_with (fail)
      refine HC.out.mono ?_
      rintro e w' ⟨rfl, rfl⟩
      go_wp2_with (fail)
      refine HS.out.mono ?_
      rintro e w' ⟨rfl, rfl⟩
      go_wp2
      go_ret
      exact ⟨by rw [HE.out]; rfl, rfl⟩

end Go.Proofs.YtlljejmblmjjnaaGreatDoor

/- oldslab: Free, Address. -/
namespace Go.Proofs.YtlljejmblmjjnaaGreatDoor
set_option linter.unusedVariables false
set_option linter.unusedSimpArgs false
open Go.RowKit Go.ChangeMaps

set_option maxRecDepth 8000 in
set_option maxHeartbeats 1000000 in
theorem ofree_any {w : World} {L : OL} {S : OM} (h : OSlabAt w L S) : Calls Tryz.prog 20 #[.pointer (some ⟨L.s, 0, none⟩)] w fun e w' => e = .returned (.int .i64 ((slA S.cls - ones S.x (slA S.cls) : Nat) : Int)) ∧ Below w.heap.size w w' := by
  obtain ⟨-, -, -, c3⟩ := h.cells
  have HC : Hid (∀ W, Below w.heap.size w W → Calls Tryz.prog 50 #[.pointer (some ⟨L.r, 0, none⟩)] W fun e w' => e = .returned (.int .i64 (ones S.x (slA S.cls) : Nat)) ∧ W = w') := fun W hW => count_one L.r L.b _ S.x W (h.below hW).row
  have HS : Hid (∀ W, Below w.heap.size w W → Calls Tryz.prog 49 #[.pointer (some ⟨L.s, 0, none⟩)] W fun e w' => e = .returned (.int .i64 (slA S.cls : Nat)) ∧ W = w') := fun W hW => oslots_any (h.below hW)
  have hle := ones_le S.x (slA S.cls)
  obtain ⟨-, -, -, hs4, hs5, -⟩ := szA_all _ h.cls
  clear h
  generalize ones S.x (slA S.cls) = o at *
  generalize slA S.cls = sl at *
  have hw : IntKind.i64.wrap ((sl : Int) - (o : Int)) = ((sl - o : Nat) : Int) := by rw [wraps_i64 _ (by omega) (by omega)]; omega
  go_enter Tryz.func20, Tryz.ntmps20
  go_upto_region 1 with (fail)
  (refine wp_region_quiet_ext (by kernel_rfl) (by kernel_rfl) ?_; (repeat (first | go_big_quiet_step (((first | (go_at_call 49; exact Calls.ext_same (HS.out _ (below_ext _ _))) | (go_at_call 50; exact Calls.ext_same (HC.out _ (below_ext _ _)))))) | quiet_step (((first | (go_at_call 49; exact Calls.ext_same (HS.out _ (below_ext _ _))) | (go_at_call 50; exact Calls.ext_same (HC.out _ (below_ext _ _)))))))); refine wpQuiet_nil ?_; intro w3 hw3; obtain hb3 := below_of_ext hw3; clear hw3; obtain ⟨hc3, hf3⟩ := bcell hb3; have hz3 := hb3.size; (try simp at hz3))
  have HB3 := Lib.hid hb3
  clear hc3 hf3 hb3
  go_wp2
  go_ret
  exact ⟨rfl, HB3.out⟩

def addrO (S : OM) (k : Nat) : Nat := S.base + k * szA S.cls
set_option maxRecDepth 8000 in
set_option maxHeartbeats 1000000 in
theorem oaddress_yes {w : World} {L : OL} {S : OM} (h : OSlabAt w L S) (k : Nat) (hk : k < slA S.cls) : Calls Tryz.prog 43 #[.pointer (some ⟨L.s, 0, none⟩), .int .i64 k] w fun e w' => e = .returned (.tuple #[.int .i64 (addrO S k : Nat), .bool true]) ∧ Below w.heap.size w w' := by
  obtain ⟨c0, -, c2, -⟩ := h.cells
  have HS := Lib.hid (oslots_any h)
  obtain ⟨hs1, hs2, -, hs4, hs5, -⟩ := szA_all _ h.cls
  have hl := h.lim
  have hks : (k : Int) * (szA S.cls : Nat) ≤ 64 * 512 := by
    have h1 : k * szA S.cls ≤ 64 * 512 := Nat.mul_le_mul (by omega) hs2
    exact_mod_cast h1
  have hks0 : (0 : Int) ≤ (k : Int) * (szA S.cls : Nat) := by
    have : (0 : Int) ≤ ((k * szA S.cls : Nat) : Int) := Int.natCast_nonneg _
    simpa using this
  have HA : Hid (((addrO S k : Nat) : Int) = (S.base : Int) + (k : Int) * (szA S.cls : Nat)) := by show _ = _; unfold addrO; simp
  clear h
  have hw1 : IntKind.i64.wrap ((k : Int) * (szA S.cls : Nat)) = (k : Int) * (szA S.cls : Nat) := wraps_i64 _ (by omega) (by omega)
  have hw2 : IntKind.i64.wrap ((S.base : Int) + (k : Int) * (szA S.cls : Nat)) = (S.base : Int) + (k : Int) * (szA S.cls : Nat) := wraps_i64 _ (by omega) (by omega)
  have hk0 : ¬ (k : Int) < 0 := by omega
  have hk1 : ¬ ((slA S.cls : Nat) : Int) ≤ (k : Int) := by omega
  have hk2 : ¬ slA S.cls ≤ k := by omega
  rw [HA.out]
  clear hks hks0 hs1 hs2 hs4 hs5 hl hk
  generalize slA S.cls = sl at *
  generalize szA S.cls = sz at *
  go_enter Tryz.func43, Tryz.ntmps43
  go_wp2_with (fail)
  refine HS.out.mono ?_
  rintro e w' ⟨rfl, rfl⟩
  go_upto_region 3 with (fail)
  (refine wp_region_quiet_ext (by kernel_rfl) (by kernel_rfl) ?_; (repeat (first | go_big_quiet_step ((fail)) | quiet_step ((fail)))); refine wpQuiet_nil ?_; intro w3 hw3; obtain hb3 := below_of_ext hw3; clear hw3; obtain ⟨hc3, hf3⟩ := bcell hb3; have hz3 := hb3.size; (try simp at hz3))
  have HB3 := Lib.hid hb3
  clear hc3 hf3 hb3
  go_wp2
  go_ret2
  exact ⟨rfl, HB3.out⟩

end Go.Proofs.YtlljejmblmjjnaaGreatDoor

/- oldslab: Slot, Take, Give. -/
namespace Go.Proofs.YtlljejmblmjjnaaGreatDoor
set_option linter.unusedVariables false
set_option linter.unusedSimpArgs false
open Go.RowKit Go.ChangeMaps

theorem szA_pos' {c : Nat} (h : c < 16) : 16 ≤ szA c ∧ szA c ≤ 512 := ⟨(szA_all c h).1, (szA_all c h).2.1⟩
theorem slA_le' {c : Nat} (h : c < 16) : 2 ≤ slA c ∧ slA c ≤ 64 ∧ slA c * szA c ≤ 1024 := ⟨(szA_all c h).2.2.2.1, (szA_all c h).2.2.2.2.1, by rw [Nat.mul_comm]; exact (szA_all c h).2.2.2.2.2⟩
/-- The slot that begins at an address. -/
def slotO (S : OM) (at_ : Int) : Option Nat :=
  if (S.base : Int) ≤ at_ ∧ at_ < (S.base : Int) + ((szA S.cls * slA S.cls : Nat) : Int) ∧ (at_ - S.base) % (szA S.cls : Nat) = 0 then some ((at_ - S.base) / (szA S.cls : Nat)).toNat else none
theorem slotO_some {S : OM} (hc : S.cls < 16) {at_ : Int} {k : Nat} (h : slotO S at_ = some k) : at_ = ((S.base + k * szA S.cls : Nat) : Int) ∧ k < slA S.cls := by
  unfold slotO at h
  split at h
  · rename_i hh
    obtain ⟨h1, h2, h3⟩ := hh
    have hp := szA_pos' hc
    obtain ⟨d, hd⟩ := Int.eq_ofNat_of_zero_le (show 0 ≤ at_ - S.base by omega)
    rw [hd] at h h3
    have e : k = d / szA S.cls := by
      have : ((d : Int) / (szA S.cls : Nat)).toNat = k := Option.some.inj h
      rw [← this, ← Int.natCast_ediv, Int.toNat_natCast]
    have hm : d % szA S.cls = 0 := by
      have : ((d % szA S.cls : Nat) : Int) = 0 := by rw [Int.natCast_emod]; exact h3
      omega
    have hk : k * szA S.cls = d := by
      rw [e]
      exact Nat.div_mul_cancel (Nat.dvd_of_mod_eq_zero hm)
    refine ⟨by omega, ?_⟩
    have hd2 : d < slA S.cls * szA S.cls := by rw [Nat.mul_comm]; omega
    rw [← hk] at hd2
    exact Nat.lt_of_mul_lt_mul_right hd2
  · cases h
theorem slotO_at {S : OM} (hc : S.cls < 16) {k : Nat} (hk : k < slA S.cls) : slotO S ((S.base + k * szA S.cls : Nat) : Int) = some k := by
  have hp := szA_pos' hc
  have h1 : k * szA S.cls < szA S.cls * slA S.cls := by rw [Nat.mul_comm (szA S.cls)]; exact Nat.mul_lt_mul_of_pos_right hk (by omega)
  have e : ((S.base + k * szA S.cls : Nat) : Int) - S.base = ((k * szA S.cls : Nat) : Int) := by omega
  unfold slotO
  rw [e, if_pos ⟨by omega, by omega, by rw [← Int.natCast_emod, Nat.mul_mod_left]; rfl⟩]
  rw [← Int.natCast_ediv, Nat.mul_div_cancel _ (by omega), Int.toNat_natCast]

def slotOV (o : Option Nat) : Value := match o with | some k => .tuple #[.int .i64 k, .int .i64 0] | none => .tuple #[.int .i64 (-1), .int .i64 12]

set_option maxRecDepth 100000 in
set_option maxHeartbeats 1000000 in
theorem oslot_any {w : World} {L : OL} {S : OM} (h : OSlabAt w L S) (at_ : Int) :
    Calls Tryz.prog 69 #[.pointer (some ⟨L.s, 0, none⟩), .int .i64 at_] w fun e w' => e = .returned (slotOV (slotO S at_)) ∧ Below w.heap.size w w' := by
  obtain ⟨c1, -, c3, -⟩ := h.cells
  have hc := h.cls
  have hbl := h.lim
  have HS : Hid (∀ W, Below w.heap.size w W → Calls Tryz.prog 49 #[.pointer (some ⟨L.s, 0, none⟩)] W fun e w' => e = .returned (.int .i64 (slA S.cls : Nat)) ∧ W = w') := fun W hW => oslots_any (h.below hW)
  have hp := szA_pos' hc
  have hl := slA_le' hc
  have hm0 : (0 : Int) ≤ (szA S.cls : Int) * (slA S.cls : Int) := by exact_mod_cast Nat.zero_le _
  have hm1 : (szA S.cls : Int) * (slA S.cls : Int) ≤ 1024 := by rw [Int.mul_comm]; exact_mod_cast hl.2.2
  have e1 : IntKind.i64.wrap ((szA S.cls : Int) * (slA S.cls : Int)) = (szA S.cls : Int) * (slA S.cls : Int) := by rw [IntKind.wrap_i64]; omega
  have e2 : IntKind.i64.wrap ((S.base : Int) + (szA S.cls : Int) * (slA S.cls : Int)) = (S.base : Int) + (szA S.cls : Int) * (slA S.cls : Int) := by rw [IntKind.wrap_i64]; omega
  clear h
  by_cases h1 : at_ < S.base
  · rw [show slotO S at_ = none from if_neg (by omega)]
    have d1 : decide (at_ < (S.base : Int)) = true := decide_eq_true h1
    go_enter Tryz.func69, Tryz.ntmps69
    go_wp2
    (refine wp_region_quiet_ext (by kernel_rfl) (by kernel_rfl) ?_; (repeat (first | go_big_quiet_step (((go_at_call 49; exact Calls.ext_same (HS.out _ (below_ext _ _))))) | quiet_step (((go_at_call 49; exact Calls.ext_same (HS.out _ (below_ext _ _))))))); refine wpQuiet_nil ?_; intro w1 hw1; obtain hb := below_of_ext hw1; clear hw1; obtain ⟨hc, hf⟩ := bcell hb; have hz := hb.size; (try simp at hz))
    have HB := Lib.hid hb
    clear hb hc hf
    go_wp2
    go_ret2
    exact ⟨rfl, HB.out⟩
  · have d1 : decide (at_ < (S.base : Int)) = false := decide_eq_false h1
    by_cases h2 : at_ < (S.base : Int) + ((szA S.cls * slA S.cls : Nat) : Int)
    · have d2 : decide ((S.base : Int) + (szA S.cls : Int) * (slA S.cls : Int) ≤ at_) = false := decide_eq_false (by rw [Int.natCast_mul] at h2; omega)
      obtain ⟨d, hd⟩ := Int.eq_ofNat_of_zero_le (show 0 ≤ at_ - S.base by omega)
      have hdl : d < szA S.cls * slA S.cls := by omega
      have hd3 : d < 1024 := by rw [Nat.mul_comm] at hdl; omega
      have e3 : IntKind.i64.wrap (at_ - (S.base : Int)) = (d : Int) := by rw [IntKind.wrap_i64]; omega
      have e4 : (d : Int).tmod (szA S.cls : Int) = ((d % szA S.cls : Nat) : Int) := by rw [Int.tmod_eq_emod_of_nonneg (by omega)]; rfl
      have e5 : (d : Int).tdiv (szA S.cls : Int) = ((d / szA S.cls : Nat) : Int) := by rw [Int.tdiv_eq_ediv_of_nonneg (by omega)]; rfl
      have hdv : d / szA S.cls ≤ d := Nat.div_le_self _ _
      have hdn : (0 : Int) ≤ ((d / szA S.cls : Nat) : Int) := Int.natCast_nonneg _
      have e6 : IntKind.i64.wrap ((d / szA S.cls : Nat) : Int) = ((d / szA S.cls : Nat) : Int) := by rw [IntKind.wrap_i64]; omega
      have hz : ¬ (szA S.cls : Int) = 0 := by omega
      have hsz : ((szA S.cls : Int) == 0) = false := by simpa using hz
      by_cases h3 : d % szA S.cls = 0
      · have hsf : slotO S at_ = some (d / szA S.cls) := by
          unfold slotO
          rw [hd, if_pos ⟨by omega, h2, by rw [← Int.natCast_emod, h3]; rfl⟩, ← Int.natCast_ediv, Int.toNat_natCast]
        rw [hsf]
        have d3 : (((d % szA S.cls : Nat) : Int) != 0) = false := by rw [h3]; rfl
        have HE := Lib.hid e5
        clear h2 hsf hd hdl hdv h3 hz
        generalize d / szA S.cls = q at *
        generalize d % szA S.cls = r at *
        generalize slA S.cls = sl at *
        go_enter Tryz.func69, Tryz.ntmps69
        go_wp2
        (refine wp_region_quiet_ext (by kernel_rfl) (by kernel_rfl) ?_; (repeat (first | go_big_quiet_step (((go_at_call 49; exact Calls.ext_same (HS.out _ (below_ext _ _))))) | quiet_step (((go_at_call 49; exact Calls.ext_same (HS.out _ (below_ext _ _))))))); refine wpQuiet_nil ?_; intro w1 hw1; obtain hb := below_of_ext hw1; clear hw1; obtain ⟨hc, hf⟩ := bcell hb; have hz := hb.size; (try simp at hz))
        have g1 := cell_past hb (cell_lt c1) c1
        have g3 := cell_past hb (cell_lt c3) c3
        have HB := Lib.hid hb
        clear hb hc hf
        go_wp2
        (refine wp_region_quiet_ext (by kernel_rfl) (by kernel_rfl) ?_; (repeat (first | go_big_quiet_step ((fail)) | quiet_step ((fail)))); refine wpQuiet_nil ?_; intro w2 hw2; obtain hb2 := below_of_ext hw2; clear hw2; obtain ⟨hc2, hf2⟩ := bcell hb2; have hz2 := hb2.size; (try simp at hz2))
        have HB2 := Lib.hid (Below.via hb2 HB.out.size HB.out)
        clear hb2 hc2 hf2
        go_wp2
        go_ret2
        exact ⟨rfl, HB2.out⟩
      · have hsf : slotO S at_ = none := by
          unfold slotO
          rw [hd, if_neg (fun hh => h3 (by have := hh.2.2; rw [← Int.natCast_emod] at this; omega))]
        rw [hsf]
        have d3 : (((d % szA S.cls : Nat) : Int) != 0) = true := by rw [bne_iff_ne]; omega
        clear h2 hsf hd hdl hdv h3 hz e5 e6
        generalize d % szA S.cls = r at *
        generalize slA S.cls = sl at *
        go_enter Tryz.func69, Tryz.ntmps69
        go_wp2
        (refine wp_region_quiet_ext (by kernel_rfl) (by kernel_rfl) ?_; (repeat (first | go_big_quiet_step (((go_at_call 49; exact Calls.ext_same (HS.out _ (below_ext _ _))))) | quiet_step (((go_at_call 49; exact Calls.ext_same (HS.out _ (below_ext _ _))))))); refine wpQuiet_nil ?_; intro w1 hw1; obtain hb := below_of_ext hw1; clear hw1; obtain ⟨hc, hf⟩ := bcell hb; have hz := hb.size; (try simp at hz))
        have HB := Lib.hid hb
        clear hb hc hf
        go_wp2
        go_ret2
        exact ⟨rfl, HB.out⟩
    · rw [show slotO S at_ = none from if_neg (by omega)]
      have d2 : decide ((S.base : Int) + (szA S.cls : Int) * (slA S.cls : Int) ≤ at_) = true := decide_eq_true (by rw [Int.natCast_mul] at h2; omega)
      clear h2
      go_enter Tryz.func69, Tryz.ntmps69
      go_wp2
      (refine wp_region_quiet_ext (by kernel_rfl) (by kernel_rfl) ?_; (repeat (first | go_big_quiet_step (((go_at_call 49; exact Calls.ext_same (HS.out _ (below_ext _ _))))) | quiet_step (((go_at_call 49; exact Calls.ext_same (HS.out _ (below_ext _ _))))))); refine wpQuiet_nil ?_; intro w1 hw1; obtain hb := below_of_ext hw1; clear hw1; obtain ⟨hc, hf⟩ := bcell hb; have hz := hb.size; (try simp at hz))
      have HB := Lib.hid hb
      clear hb hc hf
      go_wp2
      go_ret2
      exact ⟨rfl, HB.out⟩


theorem OSlabAt.ne {w : World} {L : OL} {S : OM} (h : OSlabAt w L S) : L.s ≠ L.b ∧ L.r ≠ L.b := by
  refine ⟨fun e => ?_, h.row.ne⟩
  have h1 := h.obj
  have h2 := h.row.words
  rw [e, h2] at h1
  have h3 := Option.some.inj h1
  injection h3 with h4 h5 h6
  exact absurd h5 (by decide)
theorem OSlabAt.with {w w' : World} {L : OL} {S : OM} (h : OSlabAt w L S) {y : Nat} (hr : Row1 w' L.r L.b (slA S.cls) y L.cap L.rest) (t : Turned (fun j => j = L.b) w w') : OSlabAt w' L { S with x := y } :=
  ⟨(t.block _ (lt_of_block h.obj) h.ne.1).trans h.obj, hr, h.cls, h.lim⟩
/-- Take: the first free slot. -/
inductive OTakePost (w : World) (L : OL) (S : OM) (e : Ending) (w' : World) : Prop
  | full (h : ∀ i, i < slA S.cls → S.x.testBit i = true) (he : e = .returned (.tuple #[.int .i64 (-1), .int .i64 18])) (hb : Below w.heap.size w w') : OTakePost w L S e w'
  | some (k : Nat) (hk : k < slA S.cls) (h1 : S.x.testBit k = false) (h2 : ∀ i, i < k → S.x.testBit i = true) (he : e = .returned (.tuple #[.int .i64 (addrO S k : Nat), .int .i64 0])) (ha : OSlabAt w' L { S with x := S.x ||| 2 ^ k }) (ht : Turned (fun j => j = L.b) w w') : OTakePost w L S e w'

set_option maxRecDepth 8000 in
set_option maxHeartbeats 1000000 in
theorem otake_any {w : World} {L : OL} {S : OM} (h : OSlabAt w L S) (hT : Tab w) : Calls Tryz.prog 68 #[.pointer (some ⟨L.s, 0, none⟩)] w (OTakePost w L S) := by
  obtain ⟨-, -, -, c3⟩ := h.cells
  have HF : Hid (Calls Tryz.prog 97 #[.pointer (some ⟨L.r, 0, none⟩), .int .i64 0, .bool false] w fun e w' => ∃ v, e = .returned (.int .i64 v) ∧ FirstIs (fun j => !S.x.testBit j) 0 (slA S.cls) v ∧ w = w') := firstC_one L.r L.b _ S.x 0 w h.row hT (by decide)
  have HH := Lib.hid h
  obtain ⟨-, -, -, -, hs5, -⟩ := szA_all _ h.cls
  clear h hT
  go_enter Tryz.func68, Tryz.ntmps68
  go_wp2_with (fail)
  refine HF.out.mono ?_
  rintro e w1 ⟨v, rfl, hv, rfl⟩
  cases hv with
  | none hn =>
    have HN : Hid (∀ i, i < slA S.cls → S.x.testBit i = true) := fun i hi => by simpa using hn i (Nat.zero_le _) hi
    clear hn
    go_wp2
    go_ret2
    exact .full HN.out rfl (Below.refl _ _)
  | some k h1 h2 h3 h4 =>
    have hbf : S.x.testBit k = false := by simpa using h3
    have HN : Hid (∀ i, i < k → S.x.testBit i = true) := fun i hi => by simpa using h4 i (Nat.zero_le _) hi
    have HS := Lib.hid (set1_any L.r L.b _ S.x (k : Int) w HH.out.row)
    have hk1 : ¬ (k : Int) = -1 := by omega
    have hkb : ((k : Int) == -1) = false := beq_eq_false_iff_ne.2 hk1
    have HK := Lib.hid (And.intro h2 hbf)
    clear h1 h2 h3 h4 hbf
    go_wp2_with (fail)
    refine HS.out.mono ?_
    intro e w2 hp
    unfold Set1Post at hp
    rw [if_pos ⟨by omega, by have := HK.out.1; omega, by rw [Int.toNat_natCast]; exact HK.out.2⟩, Int.toNat_natCast] at hp
    obtain ⟨rfl, hr, ht⟩ := hp
    have HA := Lib.hid (HH.out.with hr ht)
    have HT2 := Lib.hid ht
    have HAD : Hid (Calls Tryz.prog 43 #[.pointer (some ⟨L.s, 0, none⟩), .int .i64 k] w2 fun e w' => e = .returned (.tuple #[.int .i64 (addrO S k : Nat), .bool true]) ∧ Below w2.heap.size w2 w') := oaddress_yes HA.out k HK.out.1
    clear hr ht
    go_wp2_with (fail)
    refine HAD.out.mono ?_
    rintro e w3 ⟨rfl, hb3⟩
    have HB3 := Lib.hid hb3
    clear hb3
    go_wp2
    go_ret2
    exact .some k HK.out.1 HK.out.2 HN.out rfl (HA.out.below HB3.out) (HT2.out.trans (Turned.of_below (F := fun _ => False) HB3.out (Nat.le_refl _)) (fun _ h _ => h.elim))

/-- Give: by the slot. -/
inductive OGivePost (w : World) (L : OL) (S : OM) (at_ : Int) (e : Ending) (w' : World) : Prop
  | none (h : slotO S at_ = none) (he : e = .returned (.int .i64 12)) (hb : Below w.heap.size w w') : OGivePost w L S at_ e w'
  | twice (k : Nat) (h : slotO S at_ = some k) (h1 : S.x.testBit k = false) (he : e = .returned (.int .i64 19)) (hb : Below w.heap.size w w') : OGivePost w L S at_ e w'
  | yes (k : Nat) (h : slotO S at_ = some k) (h1 : S.x.testBit k = true) (he : e = .returned (.int .i64 0)) (ha : OSlabAt w' L { S with x := S.x &&& (18446744073709551615 - 2 ^ k) }) (ht : Turned (fun j => j = L.b) w w') : OGivePost w L S at_ e w'

set_option maxRecDepth 8000 in
set_option maxHeartbeats 1000000 in
theorem ogive0_any {w : World} {L : OL} {S : OM} (h : OSlabAt w L S) (at_ : Int) : Calls Tryz.prog 104 #[.pointer (some ⟨L.s, 0, none⟩), .pointer (some ⟨L.r, 0, none⟩), .int .i64 at_] w (OGivePost w L S at_) := by
  have HSL := Lib.hid (oslot_any h at_)
  have HH := Lib.hid h
  have hcl := h.cls
  clear h
  cases hs : slotO S at_ with
  | none =>
    rw [hs] at HSL
    simp only [slotOV] at HSL
    have HN : Hid (slotO S at_ = none) := hs
    clear hs
    go_enter Tryz.func104, Tryz.ntmps104
    go_wp2_with (fail)
    refine HSL.out.mono ?_
    rintro e w1 ⟨rfl, hb1⟩
    have HB1 := Lib.hid hb1
    clear hb1
    go_wp2
    go_ret
    exact .none HN.out rfl HB1.out
  | some k =>
    rw [hs] at HSL
    simp only [slotOV] at HSL
    have HN : Hid (slotO S at_ = some k) := hs
    have HK := Lib.hid (slotO_some hcl hs).2
    clear hs
    go_enter Tryz.func104, Tryz.ntmps104
    go_wp2_with (fail)
    refine HSL.out.mono ?_
    rintro e w1 ⟨rfl, hb1⟩
    have HH1 := Lib.hid (HH.out.below hb1)
    have HB1 := Lib.hid hb1
    have HC := Lib.hid (clear1_any L.r L.b _ S.x (k : Int) w1 HH1.out.row)
    clear hb1
    cases hbt : S.x.testBit k with
    | false =>
      have HBT : Hid (S.x.testBit k = false) := hbt
      clear hbt
      go_wp2_with (fail)
      refine HC.out.mono ?_
      intro e w2 hp
      unfold Clear1Post at hp
      rw [if_neg (fun hh => by rw [Int.toNat_natCast, HBT.out] at hh; cases hh.2.2)] at hp
      obtain ⟨rfl, hb2⟩ := hp
      have HB2 := Lib.hid (Below.via hb2 HB1.out.size HB1.out)
      clear hb2
      go_wp2
      go_ret
      exact .twice k HN.out HBT.out rfl HB2.out
    | true =>
      have HBT : Hid (S.x.testBit k = true) := hbt
      clear hbt
      go_wp2_with (fail)
      refine HC.out.mono ?_
      intro e w2 hp
      unfold Clear1Post at hp
      rw [if_pos ⟨by omega, by have := HK.out; omega, by rw [Int.toNat_natCast]; exact HBT.out⟩, Int.toNat_natCast] at hp
      obtain ⟨rfl, hr, ht⟩ := hp
      have HA := Lib.hid (HH1.out.with hr ht)
      have HT2 := Lib.hid ((Turned.of_below (F := fun j => j = L.b) HB1.out (Nat.le_refl _)).trans ht (fun _ h _ => h))
      clear hr ht
      go_wp2
      go_ret
      exact .yes k HN.out HBT.out rfl HA.out HT2.out

set_option maxHeartbeats 400000 in
theorem ogive_any {w : World} {L : OL} {S : OM} (h : OSlabAt w L S) (at_ : Int) : Calls Tryz.prog 55 #[.pointer (some ⟨L.s, 0, none⟩), .int .i64 at_] w (OGivePost w L S at_) := by
  obtain ⟨-, -, -, c3⟩ := h.cells
  have HG := Lib.hid (ogive0_any h at_)
  clear h
  go_enter Tryz.func55, Tryz.ntmps55
  go_wp2_with (fail)
  refine HG.out.mono ?_
  intro e w1 hp
  have HP := Lib.hid hp
  obtain ⟨z, rfl⟩ : ∃ z, e = .returned (.int .i64 z) := by
    cases hp with
    | none h he hb => exact ⟨_, he⟩
    | twice k h h1 he hb => exact ⟨_, he⟩
    | yes k h h1 he ha ht => exact ⟨_, he⟩
  clear hp
  go_wp2
  go_ret
  exact HP.out

end Go.Proofs.YtlljejmblmjjnaaGreatDoor

/- oldslab: Clone. -/
namespace Go.Proofs.YtlljejmblmjjnaaGreatDoor
set_option linter.unusedVariables false
set_option linter.unusedSimpArgs false
open Go.RowKit Go.ChangeMaps

set_option maxRecDepth 8000 in
set_option maxHeartbeats 1000000 in
theorem oclone_any {w : World} {L : OL} {S : OM} (h : OSlabAt w L S) : Calls Tryz.prog 42 #[.pointer (some ⟨L.s, 0, none⟩)] w fun e w' => ∃ L' : OL, e = .returned (.pointer (some ⟨L'.s, 0, none⟩)) ∧ w.heap.size ≤ L'.s ∧ w.heap.size ≤ L'.r ∧ w.heap.size ≤ L'.b ∧ OSlabAt w' L' S ∧ Below w.heap.size w w' := by
  obtain ⟨c0, c1, c2, c3⟩ := h.cells
  have HH := Lib.hid h
  have hsl := lt_of_block h.obj
  clear h
  go_enter Tryz.func42, Tryz.ntmps42
  go_upto_region 2 with (fail)
  obtain ⟨W1, hW1⟩ : ∃ W1, W1 = w.alloc (.cells #[.int .i64 S.base, .int .i64 S.cls, .int .i64 (szA S.cls : Nat), .pointer (some ⟨L.r, 0, none⟩)] 86) := ⟨_, rfl⟩
  have HB1 : Hid (Below w.heap.size w W1) := by rw [hW1]; exact Below.alloc (Below.refl _ _) (Nat.le_refl _) _
  have hblk : W1.heap[w.heap.size]? = some (.cells #[.int .i64 S.base, .int .i64 S.cls, .int .i64 (szA S.cls : Nat), .pointer (some ⟨L.r, 0, none⟩)] 86 (0, 0)) := by rw [hW1]; exact heap_alloc_new _ _
  have HBLK := Lib.hid hblk
  have hs1 : w.heap.size + 1 = W1.heap.size := by rw [hW1]; simp
  have HCL := Lib.hid (clone1_any L.r L.b _ S.x W1 (HH.out.below HB1.out).row)
  have d3 := cell_past HB1.out hsl c3
  rw [← hW1]
  clear hW1 hblk c0 c1 c2 c3
  go_wp2_with (fail)
  refine HCL.out.mono ?_
  rintro e w2 ⟨r, b, cap, rest, rfl, hr, hb, hrow, hb2⟩
  have hblk2 := (hb2.block _ (lt_of_block HBLK.out)).trans HBLK.out
  have q3 := cell_of_block hblk2 3
  have f3 := frozen_of_block hblk2 3
  simp only [List.getElem?_toArray, List.getElem?_cons_zero, List.getElem?_cons_succ] at q3
  have HF : Hid (OSlabAt (w2.setCell ⟨w.heap.size, 3, none⟩ (.pointer (some ⟨r, 0, none⟩))) ⟨w.heap.size, r, b, cap, rest⟩ S ∧ Below w.heap.size w (w2.setCell ⟨w.heap.size, 3, none⟩ (.pointer (some ⟨r, 0, none⟩)))) := by
    have t : Turned (fun k => k = w.heap.size) w2 (w2.setCell ⟨w.heap.size, 3, none⟩ (.pointer (some ⟨r, 0, none⟩))) := Turned.setCell (F := fun k => k = w.heap.size) (p := ⟨w.heap.size, 3, none⟩) (Turned.refl _ _) (.inl rfl) _
    refine ⟨⟨?_, hrow.turned t (by omega) (by omega), HH.out.cls, HH.out.lim⟩, Below.setCell (Below.via hb2 HB1.out.size HB1.out) (Nat.le_refl _) _⟩
    rw [heap_setCell_eq hblk2]
    rfl
  have HRB : Hid (w.heap.size ≤ r ∧ w.heap.size ≤ b) := ⟨by omega, by omega⟩
  clear hrow hb2 hblk2 hr hb
  go_wp2
  go_ret
  exact ⟨⟨w.heap.size, r, b, cap, rest⟩, rfl, Nat.le_refl _, HRB.out.1, HRB.out.2, HF.out⟩

end Go.Proofs.YtlljejmblmjjnaaGreatDoor
