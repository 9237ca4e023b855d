/- oldheap: List. -/
import Derived.Test.YtlljejmblmjjnaaGreatDoorKD
import Derived.RangeFuncBox
import Derived.RangeFuncLeaves
import Derived.RangeFuncNested
import Derived.Shelf.Abstract
import Derived.WalkKit
import Derived.OwnWalkIn
import Derived.TacticsInMore
import Derived.LoopNIn
import Derived.LoopIn
import Derived.Maps.AppendAt
import Derived.Maps.OwnIn
import Derived.WalkKit
import Derived.WalkSpells
import Derived.WalkLawsBesides
import Derived.BigQuiet
import Derived.Lib.Hide
namespace Go.Proofs.YtlljejmblmjjnaaGreatDoor
set_option linter.unusedVariables false
set_option linter.unusedSimpArgs false
open Go.RowKit Go.ChangeMaps Go.Shelf

attribute [local go_sem] Oper.semAt_some

theorem KeepBox.appended {W w1 : World} {B : Nat} {t : TypeId} {v v' : Value} {tmp : Obj} (hv : Boxed W B t v) (hv1 : Boxed w1 B t v) (hg : (W.alloc tmp).grownBy w1 v.ownBlock) (ho : v'.ownBlock = v.ownBlock ∨ v'.ownBlock = some (W.alloc tmp).heap.size) : KeepBox B W (w1.setCell ⟨B, 0, none⟩ v') := by
  have hs : W.heap.size ≤ w1.heap.size := by have := hg.size; simp at this; omega
  refine ⟨by simpa using hs, fun g cs t f h hne hw => ?_, fun g h => ?_⟩
  · rw [ownB_of hv.cell] at hw
    have hl := lt_of_block h
    rw [show (w1.setCell ⟨B, 0, none⟩ v').heap[g]? = w1.heap[g]? from Below.heap_setCell _ _ _ _ (by simpa using hne)]
    rw [hg.block g (by simp; omega) (fun e => hw e.symm)]
    rw [← h]
    exact Below.heap_alloc _ _ _ hl
  · rw [ownB_of (hv1.set v').cell] at h
    rw [ownB_of hv.cell]
    rcases ho with e | e
    · exact .inl (e ▸ h)
    · rw [e] at h
      cases h
      exact .inr (by simp)

/-- List's own iterator. -/
theorem each_stops {w : World} {r ib lb n : Nat} {R : Nat → List Nat} (k : Nat) (hk : k < 64) (B0 B1 B2 : Nat) (h0 : B0 < w.heap.size) (hR : RingIn w r ib lb n R)
    (c1 : w.cell? ⟨B1, 0, none⟩ = some (.pointer (some ⟨r, 0, none⟩))) (c2 : w.cell? ⟨B2, 0, none⟩ = some (.int .i64 k)) (c0 : w.cell? ⟨B0, 0, none⟩ = some (.slice none 0 0)) (m : Nat) (hm : 1 ≤ m) :
    SeqStopsK Fence.wide m Tryz.prog 92 #[.pointer (some ⟨B1, 0, none⟩), .pointer (some ⟨B2, 0, none⟩)] (fun x : Int => #[Value.int .i64 x]) (KeepBox B0) (fun ys => ys = intsN (R k)) (fun _ => True) (R k).length w := fun l J Jx W hW hJ _ hY hj =>
  each1_in k hk B1 B2 B0 l m hm J Jx W (hR.below hW) hJ (cell_past hW (cell_lt c1) c1) (cell_past hW (cell_lt c2) c2) (cell_past hW h0 c0) hY hj

set_option maxRecDepth 100000 in
set_option maxHeartbeats 2000000 in
theorem olist_any {w : World} {H : OHL} {pages : Nat} {s : OP} (h : OHeapM w H pages s) (c k : Nat) (hc : c < 16) (hk : k < 4) :
    Calls Tryz.prog 16 #[.pointer (some ⟨H.h, 0, none⟩), .int .i64 c, .int .i64 k] w fun e w' => ∃ v, e = .returned v ∧ w'.ownsRow w.heap.size 3 1 v (s.R (4 * c + k)).length ((intsN (s.R (4 * c + k))).map fun x => .int .i64 (x * 4)) ∧ Below w.heap.size w w' := by
  obtain ⟨-, -, c2⟩ := h.hcells
  have hnum : 4 * c + k < 64 := by omega
  have hRG := Lib.hid h.ring
  have hcw := cell_lt c2
  have HO : Hid (∀ W, Calls Tryz.prog 44 #[.int .i64 c] W fun e w' => e = .returned (.bool true) ∧ Below W.heap.size W w') := fun W => by
    have h1 := oright_any c W
    have h2 : clsOkA c = true := by unfold clsOkA; simp; omega
    rwa [h2] at h1
  have HNB := Lib.hid (fun W => onumber_any c k (by omega) (by omega) W)
  generalize 4 * c + k = q at *
  refine (callsIn_wide (n := 3)).1 ?_
  refine callsIn_of_wp_marks Tryz.func16 rfl trivial ?_ rfl
  simp only [Tryz.ntmps16, List.size_toArray, List.length_cons, List.length_nil, Nat.reduceAdd, Nat.reduceSub, Array.replicate_succ, Array.replicate_zero, List.push_toArray, List.append_toArray, List.nil_append, List.cons_append]
  refine wpIn_wide.2 ?_
  have hk0 : ¬ (k : Int) < 0 := by omega
  have hk4 : ¬ (4 : Int) ≤ (k : Int) := by omega
  go_wp2_with (fail)
  refine (HO.out _).mono ?_
  rintro e w1 ⟨rfl, hb1⟩
  have c2' := cell_past (hb1.alloc hb1.size (.cells #[.slice none 0 0] 38)) hcw c2
  have bO := Boxed.new w1 38 (.slice none 0 0)
  have hB1 := hb1.alloc hb1.size (.cells #[.slice none 0 0] 38)
  have hlW : w1.heap.size < (w1.alloc (.cells #[.slice none 0 0] 38)).heap.size := by simp
  have HS1 : Hid (w.heap.size ≤ w1.heap.size) := hb1.size
  clear c2
  go_upto_region 4 with (fail)
  generalize w1.alloc (.cells #[.slice none 0 0] 38) = W1 at *
  have HB0 : Hid (w.heap.size ≤ w1.heap.size) := HS1
  generalize w1.heap.size = B0 at *
  have HBO := Lib.hid bO
  have HW1 := Lib.hid hB1
  have HLW := Lib.hid hlW
  clear bO hB1 hlW hb1 hcw
  (refine wp_region_quiet_tail_ext 7 (by kernel_rfl) (by kernel_rfl) ?_; simp only [List.take_succ_cons, List.take_zero, List.drop_succ_cons, List.drop_zero])
  ((repeat (first | go_big_quiet_step (((go_at_call 46; exact Calls.ext_same (HNB.out _)))) | quiet_step (((go_at_call 46; exact Calls.ext_same (HNB.out _)))))); refine wpQuiet_nil ?_; intro w3 hw3; obtain hb3 := below_of_ext hw3; clear hw3; have hz3 := hb3.size; (try simp at hz3))
  have HB3 := Lib.hid hb3
  clear hb3
  go_wp2_with (fail)
  refine (each_any _ _ _).mono ?_
  rintro e w4 ⟨rfl, rfl⟩
  go_wp2_with (fail)
  obtain ⟨W4, hW4⟩ : ∃ W4, (w3.alloc (.cells #[.pointer (some ⟨H.rg, 0, none⟩)] 78)).alloc (.cells #[.int .i64 q] 3) = W4 := ⟨_, rfl⟩
  have b1 := (Boxed.new w3 78 (.pointer (some ⟨H.rg, 0, none⟩))).alloc (.cells #[.int .i64 q] 3)
  have b2 := Boxed.new (w3.alloc (.cells #[.pointer (some ⟨H.rg, 0, none⟩)] 78)) 3 (.int .i64 q)
  rw [World.size_alloc] at b2
  have hb4 : Below W1.heap.size W1 W4 := by
    rw [← hW4]
    exact (HB3.out.alloc HB3.out.size _).alloc (by have := HB3.out.size; simp; omega) _
  rw [hW4] at b1 b2
  rw [hW4]
  have hBw : Below w.heap.size w W4 := HW1.out.trans (hb4.mono HW1.out.size)
  have b0 : Boxed W4 B0 38 (.slice none 0 0) := (hb4.block _ HLW.out).trans HBO.out
  have hr4 : RingIn W4 H.rg H.ib H.lb (pages / 4) s.R := hRG.out.below hBw
  have h0l : B0 < W4.heap.size := Nat.lt_of_lt_of_le HLW.out hb4.size
  have hst := each_stops q hnum B0 w3.heap.size (w3.heap.size + 1) h0l hr4 b1.cell b2.cell b0.cell 2 (by decide)
  obtain ⟨i0, hi, hz0, hz1, hz2⟩ := info_parts info_int2
  have hlenR : (s.R q).length ≤ 4096 := by
    obtain ⟨it, ls, a, b, -, d⟩ := hr4
    exact Nat.le_trans (b.len (by omega)) a.ilen
  have hlt : ∀ i ∈ s.R q, i < 4096 := fun i hi => by
    have := hr4.lt hnum i hi
    obtain ⟨it, ls, a, b, d, -⟩ := hr4
    have := a.ilen
    omega
  refine (wpIn_wide (n := 3)).1 ?_
  refine wpIn_rangeFunc_ownG rfl (by decide) (gf := 92) (lb := #[.pointer (some ⟨w3.heap.size, 0, none⟩), .pointer (some ⟨w3.heap.size + 1, 0, none⟩)]) rfl trivial (enters_of Tryz.func92 (by kernel_rfl) rfl)
    hst (fun h k => h.trans k) (fun W l o o' hl h hc _ => KeepBox.putObj o' h0l hl h hc) (Below.refl _ _) (fun _ => rfl)
    (fun pre W => (∃ v, Boxed W B0 38 v ∧ W.ownsRow w.heap.size 3 1 v pre.length (pre.map fun x => .int .i64 (wrap64 (x * 4))) ∧ True) ∧ Below w.heap.size w W)
    (fun _ _ _ => False)
    (OwnFrom.and (Own.from (holdsRow_own w.heap.size B0 38 3 1 (fun pre : List Int => pre.length) (fun pre => pre.map fun x => .int .i64 (wrap64 (x * 4))) (fun pre v => True)) _) (ownFrom_below (Nat.le_refl _) hBw.size))
    (fun _ _ _ _ _ hs _ _ => hs)
    ⟨⟨_, b0, World.ownsRow_nil _ _ _ _, trivial⟩, hBw⟩
    (fun x => { tmps := #[.pointer (some ⟨H.h, 0, none⟩), .int .i64 c, .int .i64 k, undef, undef, undef, .slice none 0 0, .pointer (some ⟨B0, 0, none⟩), .int .i64 x, .int .i64 c, .bool true, .bool false, .bool false, .int .i64 k, .bool (decide ((k : Int) < 0)), .bool (decide ((k : Int) < 0)), .bool (decide ((k : Int) < 0)), .int .i64 k, .bool (decide (4 ≤ (k : Int))), .bool (decide ((k : Int) < 0) || decide (4 ≤ (k : Int))), .pointer (some ⟨H.h, 0, none⟩), .pointer (some ⟨H.h, 0, none⟩), .pointer (some ⟨H.h, 2, none⟩), .pointer (some ⟨H.rg, 0, none⟩), .int .i64 c, .int .i64 k, .int .i64 q, .func (.func 92) #[] #[.pointer (some ⟨w3.heap.size, 0, none⟩), .pointer (some ⟨w3.heap.size + 1, 0, none⟩)], .int .i64 x, undef, undef, undef, undef, undef, undef], defers := [] }) ?assign ?body ?done ?stop
  case assign =>
    intro l x W K hK
    gi_wp2
    exact hK
  case body =>
    rintro l pre x W ⟨⟨v, hv, hrow, -⟩, hB⟩ hlt
    have hc := hv.cell
    clear hk0 hk4
    generalize (decide ((k : Int) < 0)) = z1 at *
    generalize (decide (4 ≤ (k : Int))) = z2 at *
    have hpl : pre.length < 4096 := by omega
    gi_wp2_with (gi_at_builtin; refine wpListIn_append_own_at _ rfl _ _ 38 rfl w.heap.size 3 i0 (.int .i64 0) 1 8 Tryz.underlying38 hi hz0 hz1 hz2 rfl (by decide) _ _ _ rfl (hrow.alloc _) ⟨W.heap.size, 0, none⟩ 1 1 [.int .i64 (wrap64 (x * 4))] rfl rfl (cell_one_new _ _ _) (by simp [Value.oneCell']) (by unfold maxLen; omega) (by omega) (by have := hB.size; simp; omega) ?_; intro v' w1 hown' hgrow _ hat; obtain ⟨g', cap', rfl⟩ := ownsRow_succ hown'; obtain ⟨hv1, hv2, hr2, hk2, hb2⟩ := hv.appended (by decide) hrow hB.size HB0.out hown' hgrow; have hc1 := hv1.cell; have hf1 := hv1.frozen; have hkb := KeepBox.appended hv hv1 hgrow hat)
    exact ⟨hk2.from _, hkb, ⟨_, hv2, by simpa using hr2, trivial⟩, hB.trans hb2⟩
  case done =>
    rintro D ys W hD rfl ⟨⟨v, hv, hrow, -⟩, hB⟩ hK
    have hc := hv.cell
    clear hk0 hk4
    generalize (decide ((k : Int) < 0)) = z1 at *
    generalize (decide (4 ≤ (k : Int))) = z2 at *
    go_wp2
    refine ⟨by simp, .inl ⟨_, _, rfl, run_takeDeferred hK, ?_⟩⟩
    have hrr := ownsRow_putObj hrow (.deferred none) hK rfl
    have hmp : (intsN (s.R q)).map (fun x => Value.int .i64 (wrap64 (x * 4))) = (intsN (s.R q)).map fun x => .int .i64 (x * 4) := by
      refine List.map_congr_left fun x hx => ?_
      obtain ⟨i, hi, rfl⟩ := List.mem_map.1 hx
      have := hlt i hi
      congr 1
      unfold wrap64
      omega
    rw [hmp, show (intsN (s.R q)).length = (s.R q).length by simp [intsN]] at hrr
    exact ⟨_, results_tmp rfl _ _ _, v, rfl, hrr, hB.trans (belowK_b (w := w) (Nat.le_refl _) W D _ _ (by have := hBw.size; omega) hK rfl rfl)⟩
  case stop =>
    rintro D c pre W _ _ h _
    exact h.elim

end Go.Proofs.YtlljejmblmjjnaaGreatDoor
