/- SameInts; what the heap of 'alive' comes to. -/
import Derived.Test.YtlljejmblmjjnaaGreatMA
import Derived.WalkKit
import Derived.WalkSpells
import Derived.WalkLawsBesides
import Derived.BigQuiet
import Derived.Lib.Hide
namespace Go.Proofs.YtlljejmblmjjnaaGreat
set_option linter.unusedVariables false
set_option linter.unusedSimpArgs false
open Go.RowKit Go.ChangeMaps

def IntsAt (w : World) (pv : Option Addr) (xs : List Int) : Prop :=
  ∀ i (h : i < xs.length), ∃ g o, pv = some ⟨g, o, none⟩ ∧ w.cell? ⟨g, o + i, none⟩ = some (.int .i64 xs[i])

theorem IntsAt.below {w W : World} {pv : Option Addr} {xs : List Int} (h : IntsAt w pv xs) (hb : Below w.heap.size w W) : IntsAt W pv xs := by
  intro i hi
  obtain ⟨g, o, e, hc⟩ := h i hi
  exact ⟨g, o, e, cell_past hb (cell_lt hc) hc⟩

theorem take_eq_step {α : Type} [DecidableEq α] {xs ys : List α} {k : Nat} (h : xs.take k = ys.take k) (hx : k < xs.length) (hy : k < ys.length) (e : xs[k] = ys[k]) : xs.take (k + 1) = ys.take (k + 1) := by
  rw [List.take_succ_eq_append_getElem hx, List.take_succ_eq_append_getElem hy, h, e]

theorem eq_of_takes {α : Type} {xs ys : List α} (hl : xs.length = ys.length) (h : xs.take xs.length = ys.take xs.length) : xs = ys := by
  rw [List.take_length] at h
  rw [hl, List.take_length] at h
  exact h

set_option maxRecDepth 100000 in
set_option maxHeartbeats 4000000 in
theorem sameInts_any (w : World) (pa pb : Option Addr) (ca cb : Nat) (xs ys : List Int) (ha : IntsAt w pa xs) (hb : IntsAt w pb ys) (hl : (xs.length : Int) < 9223372036854775807) :
    Calls Tryz.prog 25 #[.slice pa xs.length ca, .slice pb ys.length cb] w fun e w' => e = .returned (.bool (decide (xs = ys))) ∧ Below w.heap.size w w' := by
  generalize hr : decide (xs = ys) = r
  have HR := Lib.hid hr
  clear hr
  by_cases hlen : xs.length = ys.length
  · have hne : ((xs.length : Int) != (ys.length : Int)) = false := by simp [hlen]
    go_enter Tryz.func25, Tryz.ntmps25
    go_wp2
    go_loopw [5] (fun i wr => ∃ k : Nat, k ≤ xs.length ∧ i = .int .i64 k ∧ xs.take k = ys.take k ∧ Below w.heap.size w wr) (fun i _ => xs.length - (intOf i).toNat)
    case atStart => exact ⟨0, Nat.zero_le _, rfl, rfl, Below.refl _ _⟩
    case round =>
      obtain ⟨k, hk, rfl, htk, hbl⟩ := hrel
      by_cases hlt : k < xs.length
      · obtain ⟨g, o, rfl, hc1⟩ := ha k hlt
        obtain ⟨g2, o2, rfl, hc2⟩ := hb k (by omega)
        have y1 := cell_past hbl (cell_lt hc1) hc1
        have y2 := cell_past hbl (cell_lt hc2) hc2
        have hT := Lib.hid (take_eq_step htk hlt (by omega))
        have hN : xs[k] ≠ ys[k]'(by omega) → xs ≠ ys := fun h1 h2 => h1 (by simp [h2])
        have HN := Lib.hid hN
        clear hN htk ha hb hc1 hc2
        generalize xs[k] = a at *
        generalize ys[k]'(by omega) = b at *
        have hi1 : (0 : Int) ≤ k ∧ (k : Int) < xs.length := by omega
        have hi2 : (0 : Int) ≤ k ∧ (k : Int) < ys.length := by omega
        have hkw : IntKind.i64.wrap ((k : Int) + 1) = (k : Int) + 1 := by rw [IntKind.wrap_i64]; omega
        by_cases e : a = b
        · have e1 : (a != b) = false := by simp [e]
          have HE := Lib.hid e
          clear e
          go_wp2
          (refine wp_region_quiet_ext (by kernel_rfl) (by kernel_rfl) ?_; (repeat (first | go_big_quiet_step ((fail)) | quiet_step ((fail)))); refine wpQuiet_nil ?_; intro w1 hw1; obtain hb := below_of_ext hw1; clear hw1; obtain ⟨hc, hf⟩ := bcell hb; have hz := hb.size; (try simp at hz))
          go_wp2
          go_roundw
          case rel => exact ⟨k + 1, by omega, by go_num, hT.out HE.out, hbl.trans (hb.mono hbl.size)⟩
          case measure => simp [intOf]; omega
        · have e1 : (a != b) = true := by simp [e]
          have e2 : decide (xs = ys) = false := by simp [HN.out e]
          have HE := Lib.hid e2
          clear e e2
          go_wp2
          (refine wp_region_quiet_ext (by kernel_rfl) (by kernel_rfl) ?_; (repeat (first | go_big_quiet_step ((fail)) | quiet_step ((fail)))); refine wpQuiet_nil ?_; intro w1 hw1; obtain hb := below_of_ext hw1; clear hw1; obtain ⟨hc, hf⟩ := bcell hb; have hz := hb.size; (try simp at hz))
          go_wp2
          go_ret
          exact ⟨by rw [← HR.out, HE.out]; rfl, hbl.trans (hb.mono hbl.size)⟩
      · obtain rfl : k = xs.length := by omega
        have e : decide (xs = ys) = true := by simp [eq_of_takes hlen htk]
        have HE := Lib.hid e
        clear htk e
        go_wp2
        go_ret
        exact ⟨by rw [← HR.out, HE.out]; rfl, hbl⟩
  · have hne : ((xs.length : Int) != (ys.length : Int)) = true := by simp; omega
    have e : decide (xs = ys) = false := by simp; intro e; rw [e] at hlen; exact hlen rfl
    have HE := Lib.hid e
    clear e
    go_enter Tryz.func25, Tryz.ntmps25
    go_wp2
    go_ret
    exact ⟨by rw [← HR.out, HE.out]; rfl, Below.refl _ _⟩


theorem Ints.at {w : World} {base : Nat} {v : Value} {l : List Int} (h : Ints w base v l) : ∃ p cap, v = .slice p l.length cap ∧ IntsAt w p l := by
  obtain ⟨p, cap, rfl, hc⟩ := h.cells
  refine ⟨p, cap, rfl, fun i hi => ?_⟩
  obtain ⟨g, rfl, h1⟩ := hc i hi
  refine ⟨g, 0, rfl, ?_⟩
  rw [Nat.zero_add, h1, List.getD_eq_getElem?_getD, List.getElem?_eq_getElem hi]
  rfl

def al1 : HP := ⟨[⟨0, 4, true⟩, ⟨4, 12, false⟩], [⟨0, 11, [1], false⟩]⟩
def al2 : HP := ⟨[⟨0, 4, true⟩, ⟨4, 12, false⟩], [⟨0, 11, [], false⟩]⟩
def al3 : HP := ⟨[⟨0, 4, true⟩, ⟨4, 4, true⟩, ⟨8, 8, false⟩], [⟨0, 11, [], false⟩, ⟨4, 11, [1], false⟩]⟩
def al4 : HP := ⟨[⟨0, 4, true⟩, ⟨4, 4, true⟩, ⟨8, 8, false⟩], [⟨0, 11, [0], false⟩, ⟨4, 11, [1], false⟩]⟩
def al5 : HP := ⟨[⟨0, 4, false⟩, ⟨4, 4, true⟩, ⟨8, 8, false⟩], [⟨4, 11, [1], false⟩]⟩
def al6 : HP := ⟨[⟨0, 4, false⟩, ⟨4, 4, true⟩, ⟨8, 8, false⟩], [⟨4, 11, [1], true⟩]⟩
theorem al1_is : takeP (s0 16) 11 = ((0, 0), al1) := by kernel_rfl
theorem al2_is : takeP al1 11 = ((512, 0), al2) := by kernel_rfl
theorem al3_is : takeP al2 11 = ((1024, 0), al3) := by kernel_rfl
theorem al3_find : findP al3.A 512 = some (⟨0, 11, [], false⟩, 1) := by kernel_rfl
theorem al3_has : hasP al3.A 512 = true := by kernel_rfl
theorem al4_is : giveP al3 0 = (0, al4) := by kernel_rfl
theorem al4_rows : clsP al4.A 11 = al4.A := by kernel_rfl
theorem al5_is : giveP al4 512 = (0, al5) := by kernel_rfl
theorem al6_is : sealP al5 4 = (0, al6) := by kernel_rfl
theorem al7_is : unsealP al6 4 = (0, al5) := by kernel_rfl
theorem al8_is : delP al5.A 4 = [] := by kernel_rfl
theorem al9_is : insP { (⟨4, 11, [1], false⟩ : PS) with sealed := false } [] = al5.A := rfl
theorem al9_get : (getP al5.A 4).isSome = true := by kernel_rfl
theorem al9_pages : pagesI al5 = [4] := by kernel_rfl
theorem al9_taken : takenP al5.A = [1024] := by kernel_rfl
theorem al9_ready : (bestP al5.A 11 none).isSome = true := by kernel_rfl
theorem al9_none : (getP al5.A 0).isSome = false := by kernel_rfl

end Go.Proofs.YtlljejmblmjjnaaGreat
