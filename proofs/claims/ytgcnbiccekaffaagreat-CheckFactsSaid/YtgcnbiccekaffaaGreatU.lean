/- SameInts, SameBlocks, great. -/
import Derived.Test.YtgcnbiccekaffaaGreatS
import Derived.Laws.StructEq
namespace Go.Proofs.YtgcnbiccekaffaaGreat
open Go.RowKit Go.ChangeMaps

def IntsAt (w : World) (pv : Option Addr) (xs : List Int) : Prop :=
  ∀ i (h : i < xs.length), ∃ g o, pv = some ⟨g, o, none⟩ ∧ w.cell? ⟨g, o + i, none⟩ = some (.int .i64 xs[i])

theorem IntsAt.below {w W : World} {pv : Option Addr} {xs : List Int} (h : IntsAt w pv xs) (hb : Below w.heap.size w W) : IntsAt W pv xs := by
  intro i hi
  obtain ⟨g, o, e, hc⟩ := h i hi
  exact ⟨g, o, e, cell_past hb (cell_lt hc) hc⟩

theorem take_eq_step {α : Type} [DecidableEq α] {xs ys : List α} {k : Nat} (h : xs.take k = ys.take k) (hx : k < xs.length) (hy : k < ys.length) (e : xs[k] = ys[k]) : xs.take (k + 1) = ys.take (k + 1) := by
  rw [List.take_succ_eq_append_getElem hx, List.take_succ_eq_append_getElem hy, h, e]

theorem eq_of_takes {α : Type} {xs ys : List α} (hl : xs.length = ys.length) (h : xs.take xs.length = ys.take xs.length) : xs = ys := by
  rw [List.take_length] at h
  rw [hl, List.take_length] at h
  exact h

set_option maxRecDepth 100000 in
set_option maxHeartbeats 4000000 in
theorem sameInts_any (w : World) (pa pb : Option Addr) (ca cb : Nat) (xs ys : List Int) (ha : IntsAt w pa xs) (hb : IntsAt w pb ys) (hl : (xs.length : Int) < 9223372036854775807) :
    Calls Tryz.prog 23 #[.slice pa xs.length ca, .slice pb ys.length cb] w fun e w' => e = .returned (.bool (decide (xs = ys))) ∧ Below w.heap.size w w' := by
  generalize hr : decide (xs = ys) = r
  have HR := Lib.hid hr
  clear hr
  by_cases hlen : xs.length = ys.length
  · have hne : ((xs.length : Int) != (ys.length : Int)) = false := by simp [hlen]
    go_enter Tryz.func23, Tryz.ntmps23
    go_wp2
    go_loopw [5] (fun i wr => ∃ k : Nat, k ≤ xs.length ∧ i = .int .i64 k ∧ xs.take k = ys.take k ∧ Below w.heap.size w wr) (fun i _ => xs.length - (intOf i).toNat)
    case atStart => exact ⟨0, Nat.zero_le _, rfl, rfl, Below.refl _ _⟩
    case round =>
      obtain ⟨k, hk, rfl, htk, hbl⟩ := hrel
      by_cases hlt : k < xs.length
      · obtain ⟨g, o, rfl, hc1⟩ := ha k hlt
        obtain ⟨g2, o2, rfl, hc2⟩ := hb k (by omega)
        have y1 := cell_past hbl (cell_lt hc1) hc1
        have y2 := cell_past hbl (cell_lt hc2) hc2
        have hT := Lib.hid (take_eq_step htk hlt (by omega))
        have hN : xs[k] ≠ ys[k]'(by omega) → xs ≠ ys := fun h1 h2 => h1 (by simp [h2])
        have HN := Lib.hid hN
        clear hN htk ha hb hc1 hc2
        generalize xs[k] = a at *
        generalize ys[k]'(by omega) = b at *
        have hi1 : (0 : Int) ≤ k ∧ (k : Int) < xs.length := by omega
        have hi2 : (0 : Int) ≤ k ∧ (k : Int) < ys.length := by omega
        have hkw : IntKind.i64.wrap ((k : Int) + 1) = (k : Int) + 1 := by rw [IntKind.wrap_i64]; omega
        by_cases e : a = b
        · have e1 : (a != b) = false := by simp [e]
          have HE := Lib.hid e
          clear e
          go_wp2
          (refine wp_region_quiet_ext (by kernel_rfl) (by kernel_rfl) ?_; (repeat (first | go_big_quiet_step ((fail)) | quiet_step ((fail)))); refine wpQuiet_nil ?_; intro w1 hw1; obtain hb := below_of_ext hw1; clear hw1; obtain ⟨hc, hf⟩ := bcell hb; have hz := hb.size; (try simp at hz))
          go_wp2
          go_roundw
          case rel => exact ⟨k + 1, by omega, by go_num, hT.out HE.out, hbl.trans (hb.mono hbl.size)⟩
          case measure => simp [intOf]; omega
        · have e1 : (a != b) = true := by simp [e]
          have e2 : decide (xs = ys) = false := by simp [HN.out e]
          have HE := Lib.hid e2
          clear e e2
          go_wp2
          (refine wp_region_quiet_ext (by kernel_rfl) (by kernel_rfl) ?_; (repeat (first | go_big_quiet_step ((fail)) | quiet_step ((fail)))); refine wpQuiet_nil ?_; intro w1 hw1; obtain hb := below_of_ext hw1; clear hw1; obtain ⟨hc, hf⟩ := bcell hb; have hz := hb.size; (try simp at hz))
          go_wp2
          go_ret
          exact ⟨by rw [← HR.out, HE.out]; rfl, hbl.trans (hb.mono hbl.size)⟩
      · obtain rfl : k = xs.length := by omega
        have e : decide (xs = ys) = true := by simp [eq_of_takes hlen htk]
        have HE := Lib.hid e
        clear htk e
        go_wp2
        go_ret
        exact ⟨by rw [← HR.out, HE.out]; rfl, hbl⟩
  · have hne : ((xs.length : Int) != (ys.length : Int)) = true := by simp; omega
    have e : decide (xs = ys) = false := by simp; intro e; rw [e] at hlen; exact hlen rfl
    have HE := Lib.hid e
    clear e
    go_enter Tryz.func23, Tryz.ntmps23
    go_wp2
    go_ret
    exact ⟨by rw [← HR.out, HE.out]; rfl, Below.refl _ _⟩

/-! ### SameBlocks -/
def RowsAt (w : World) (pv : Option Addr) (l : List Blk) : Prop :=
  ∀ i (h : i < l.length), ∃ g, pv = some ⟨g, 0, none⟩ ∧ w.cell? ⟨g, i * 3, none⟩ = some (.int .i64 l[i].at_) ∧ w.cell? ⟨g, i * 3 + 1, none⟩ = some (.int .i64 l[i].n) ∧ w.cell? ⟨g, i * 3 + 2, none⟩ = some (.int .i64 l[i].size)

theorem RowsAt.below {w W : World} {pv : Option Addr} {l : List Blk} (h : RowsAt w pv l) (hb : Below w.heap.size w W) : RowsAt W pv l := by
  intro i hi
  obtain ⟨g, e, h0, h1, h2⟩ := h i hi
  have hl := cell_lt h0
  exact ⟨g, e, cell_past hb hl h0, cell_past hb hl h1, cell_past hb hl h2⟩

theorem rowsAt_own {w : World} {base : Nat} {e : TypeId} {v : Value} {l : List Blk} (h : w.ownsRow base e 3 v l.length (rowV l)) : ∃ pv cap, v = .slice pv l.length cap ∧ RowsAt w pv l := by
  obtain ⟨pv, cap, rfl, hl⟩ := ownsRow_rows h
  refine ⟨pv, cap, rfl, fun i hi => ?_⟩
  obtain ⟨g, cur, rfl, _, hg, hget⟩ := hl (by omega)
  obtain ⟨h0, h1, h2⟩ := hget i hi
  exact ⟨g, rfl, by rw [cell_of_block hg]; exact h0, by rw [cell_of_block hg]; exact h1, by rw [cell_of_block hg]; exact h2⟩

theorem neq_blk (a1 a2 a3 b1 b2 b3 : Int) (w : World) : (binOp .neq 54 (.agg #[.int .i64 a1, .int .i64 a2, .int .i64 a3]) (.agg #[.int .i64 b1, .int .i64 b2, .int .i64 b3])).run Tryz.prog w = .ok (.bool (!(a1 == b1 && (a2 == b2 && a3 == b3)))) w := by
  have h3 : Tryz.prog.underlying 3 = some (.int .i64) := Tryz.underlying3
  rw [run_neq_struct, run_equalIn_struct w 9999 54 _ _ (by simp only [Program.fieldsOf, Tryz.underlying54]) (by kernel_rfl)]
  simp only [Program.fieldsOf, Tryz.underlying54]
  simp [Op.eqFields, part, go_sem, h3, Tryz.isAgg3, Tryz.sizeOf3]
  by_cases e1 : a1 = b1 <;> by_cases e2 : a2 = b2 <;> by_cases e3 : a3 = b3 <;> simp [e1, e2, e3]

def tri (b : Blk) : Int × Int × Int := (b.at_, b.n, b.size)

set_option maxRecDepth 100000 in
set_option maxHeartbeats 4000000 in
theorem sameBlocks_any (w : World) (pa pb : Option Addr) (ca cb : Nat) (xs ys : List Blk) (ha : RowsAt w pa xs) (hb : RowsAt w pb ys) (hl : (xs.length : Int) < 9223372036854775807) :
    Calls Tryz.prog 14 #[.slice pa xs.length ca, .slice pb ys.length cb] w fun e w' => e = .returned (.bool (decide (xs.map tri = ys.map tri))) ∧ Below w.heap.size w w' := by
  generalize hr : decide (xs.map tri = ys.map tri) = r
  have HR := Lib.hid hr
  clear hr
  by_cases hlen : xs.length = ys.length
  · have hne : ((xs.length : Int) != (ys.length : Int)) = false := by simp [hlen]
    go_enter Tryz.func14, Tryz.ntmps14
    go_wp2
    go_loopw [5] (fun i wr => ∃ k : Nat, k ≤ xs.length ∧ i = .int .i64 k ∧ (xs.map tri).take k = (ys.map tri).take k ∧ Below w.heap.size w wr) (fun i _ => xs.length - (intOf i).toNat)
    case atStart => exact ⟨0, Nat.zero_le _, rfl, rfl, Below.refl _ _⟩
    case round =>
      obtain ⟨k, hk, rfl, htk, hbl⟩ := hrel
      by_cases hlt : k < xs.length
      · obtain ⟨g, rfl, hc1, hc2, hc3⟩ := ha k hlt
        obtain ⟨g2, rfl, hd1, hd2, hd3⟩ := hb k (by omega)
        have y1 := cell_past hbl (cell_lt hc1) hc1
        have y2 := cell_past hbl (cell_lt hc2) hc2
        have y3 := cell_past hbl (cell_lt hc3) hc3
        have z1 := cell_past hbl (cell_lt hd1) hd1
        have z2 := cell_past hbl (cell_lt hd2) hd2
        have z3 := cell_past hbl (cell_lt hd3) hd3
        have hT : tri xs[k] = tri (ys[k]'(by omega)) → (xs.map tri).take (k + 1) = (ys.map tri).take (k + 1) := fun e => take_eq_step htk (by simp; omega) (by simp; omega) (by simpa using e)
        have hT' := Lib.hid hT
        have hN : tri xs[k] ≠ tri (ys[k]'(by omega)) → xs.map tri ≠ ys.map tri := fun h1 h2 => h1 (by
          have := congrArg (fun l => l[k]?) h2
          simpa [hlt, show k < ys.length from by omega] using this)
        have HN := Lib.hid hN
        clear hN hT htk ha hb hc1 hc2 hc3 hd1 hd2 hd3
        generalize xs[k] = a at *
        generalize ys[k]'(by omega) = b at *
        have hi1 : (0 : Int) ≤ k ∧ (k : Int) < xs.length := by omega
        have hi2 : (0 : Int) ≤ k ∧ (k : Int) < ys.length := by omega
        have hkw : IntKind.i64.wrap ((k : Int) + 1) = (k : Int) + 1 := by rw [IntKind.wrap_i64]; omega
        by_cases e : tri a = tri b
        · have hq : ∀ W, (binOp .neq 54 (.agg #[.int .i64 a.at_, .int .i64 a.n, .int .i64 a.size]) (.agg #[.int .i64 b.at_, .int .i64 b.n, .int .i64 b.size])).run Tryz.prog W = .ok (.bool false) W := fun W => by
            have h1 : a.at_ = b.at_ := congrArg (·.1) e
            have h2 : (a.n : Int) = b.n := congrArg (·.2.1) e
            have h3 : a.size = b.size := congrArg (·.2.2) e
            rw [neq_blk, h1, h2, h3]
            simp
          have HE := Lib.hid e
          clear e
          go_wp2
          (refine wp_region_quiet_ext (by kernel_rfl) (by kernel_rfl) ?_; (repeat (first | go_big_quiet_step ((fail)) | quiet_step ((fail)))); refine wpQuiet_nil ?_; intro w1 hw1; obtain hb := below_of_ext hw1; clear hw1; obtain ⟨hc, hf⟩ := bcell hb; have hz := hb.size; (try simp at hz))
          go_wp2
          go_roundw
          case rel => exact ⟨k + 1, by omega, by go_num, hT'.out HE.out, hbl.trans (hb.mono hbl.size)⟩
          case measure => simp [intOf]; omega
        · have hq : ∀ W, (binOp .neq 54 (.agg #[.int .i64 a.at_, .int .i64 a.n, .int .i64 a.size]) (.agg #[.int .i64 b.at_, .int .i64 b.n, .int .i64 b.size])).run Tryz.prog W = .ok (.bool true) W := fun W => by
            have h1 : (a.at_ == b.at_ && ((a.n : Int) == b.n && a.size == b.size)) = false := by
              rw [Bool.eq_false_iff]
              intro h
              simp only [Bool.and_eq_true, beq_iff_eq] at h
              exact e (by unfold tri; rw [h.1, h.2.1, h.2.2])
            rw [neq_blk, h1]
            rfl
          have e2 : decide (xs.map tri = ys.map tri) = false := by simpa using HN.out e
          have HE := Lib.hid e2
          clear e e2
          go_wp2
          (refine wp_region_quiet_ext (by kernel_rfl) (by kernel_rfl) ?_; (repeat (first | go_big_quiet_step ((fail)) | quiet_step ((fail)))); refine wpQuiet_nil ?_; intro w1 hw1; obtain hb := below_of_ext hw1; clear hw1; obtain ⟨hc, hf⟩ := bcell hb; have hz := hb.size; (try simp at hz))
          go_wp2
          go_ret
          exact ⟨by rw [← HR.out, HE.out]; rfl, hbl.trans (hb.mono hbl.size)⟩
      · obtain rfl : k = xs.length := by omega
        have e : decide (xs.map tri = ys.map tri) = true := by
          have h1 := eq_of_takes (xs := xs.map tri) (ys := ys.map tri) (by simpa using hlen) (by simpa using htk)
          simp [h1]
        have HE := Lib.hid e
        clear htk e
        go_wp2
        go_ret
        exact ⟨by rw [← HR.out, HE.out]; rfl, hbl⟩
  · have hne : ((xs.length : Int) != (ys.length : Int)) = true := by simp; omega
    have e : decide (xs.map tri = ys.map tri) = false := by
      simp only [decide_eq_false_iff_not]
      intro e
      have := congrArg List.length e
      simp at this
      exact hlen this
    have HE := Lib.hid e
    clear e
    go_enter Tryz.func14, Tryz.ntmps14
    go_wp2
    go_ret
    exact ⟨by rw [← HR.out, HE.out]; rfl, Below.refl _ _⟩

end Go.Proofs.YtgcnbiccekaffaaGreat
