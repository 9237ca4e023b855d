/- The reference's Order: the walk. -/
import Derived.Test.YtgcnbiccekaffaaGreatOs0
import Derived.Deep.Cut
import Derived.BigRegion
namespace Go.Proofs.YtgcnbiccekaffaaGreat
open Go.RowKit Go.ChangeMaps

set_option maxRecDepth 100000 in
set_option maxHeartbeats 3000000 in
theorem refOrder_any (w : World) (pv : Option Addr) (cap : Nat) (es : List EvM) (h : EvsAt w pv es) (hl : es.length ≤ 1000000) :
    Calls Tryz.prog 33 #[.slice pv es.length cap] w (RefPost w es) := by
  obtain ⟨i0, hi, hz0, hz1, hz2⟩ := info_parts info_int
  have hown : (w.alloc (.cells #[] 3)).ownsRow w.heap.size 3 1 (.slice (some ⟨w.heap.size, 0, none⟩) 0 0) 0 [] := World.ownsRow_made w #[] 0 (Nat.le_refl _) (Nat.zero_le _) rfl
  have hb0 : Below w.heap.size w (w.alloc (.cells #[] 3)) := (Below.refl _ _).alloc (Nat.le_refl _) _
  go_enter Tryz.func33, Tryz.ntmps33
  go_wp2
  go_loopw [4, 5] (fun v i wr => ∃ k : Nat, k ≤ es.length ∧ i = .int .i64 k ∧ RefI w wr es k v) (fun _ i _ => es.length - (intOf i).toNat)
  case atStart => exact ⟨0, Nat.zero_le _, rfl, hb0, rfl, fun i j hi => absurd hi (Nat.not_lt_zero i), [], List.Perm.refl _, List.Pairwise.nil, hown⟩
  case round =>
    obtain ⟨k, hk, rfl, hbl, hall, hnc, xs, hperm, hpair, hrow⟩ := hrel
    clear hown hb0
    obtain ⟨po, co, rfl⟩ := own_slice hrow
    by_cases hlt : k < es.length
    · obtain ⟨g, off, rfl, hc⟩ := h k hlt
      have hev := evAt_get hlt
      rw [hev] at hc
      have hpk := pickK_succ es k
      rw [tookAt_ev] at hpk
      have hall1 : timelyE (evAt es k) = true → (es.take (k + 1)).all timelyE = true := fun h1 => by
        rw [List.take_succ_eq_append_getElem hlt, List.all_append, hall, hev]; simp [h1]
      have hng := not_good_time hlt
      have hngc := fun (j : Nat) (hj : j < k) => not_good_clash hlt hj
      obtain ⟨x, hx⟩ : ∃ x, x = evAt es k := ⟨_, rfl⟩
      rw [← hx] at hc hpk hall1 hng
      have hrng : wr.rangeAt g (off + k * 16) (evV x) := fun j v hv => cell_past hbl (cell_lt (hc j v hv)) (hc j v hv)
      have HX := Lib.hid hx
      have HRNG := Lib.hid hrng
      have HALL1 := Lib.hid hall1
      have HNG := Lib.hid hng
      have HNGC := Lib.hid hngc
      have HPK := Lib.hid hpk
      have HNC := Lib.hid hnc
      have HPERM := Lib.hid hperm
      have HPAIR := Lib.hid hpair
      have HROW := Lib.hid hrow
      have HB := Lib.hid hbl
      have HEV := Lib.hid h
      have hwr : w.heap.size ≤ wr.heap.size := hbl.size
      have hxl : xs.length ≤ k := by rw [hperm.length_eq]; exact pickK_length es k
      have hi1 : (0 : Int) ≤ k ∧ (k : Int) < es.length := by omega
      have hkw : IntKind.i64.wrap ((k : Int) + 1) = (k : Int) + 1 := by rw [IntKind.wrap_i64]; omega
      clear hx hrng hall1 hng hngc hpk hnc hperm hpair hrow hbl hall hc hev h
      go_upto_region 6 with (first
        | (refine wpList_load_mid rfl 96 _ rfl g (off + k * 16) rfl (evV x) _ HRNG.out Tryz.underlying96 rfl rev_size ?_)
        | (refine wpList_store_row rfl 96 _ _ rfl wr.heap.size (evV x).toArray rfl rfl 96 _ (heap_alloc_new wr _) (by rw [rev_size, ev_len]) (by rw [ev_len]; rfl) (ev_one x) ?_
           obtain ⟨hb4, hblk⟩ := box_store wr #[.int .i64 0, .int .i64 0, .int .u64 0, .int .u64 0, .int .i64 0, .int .i64 0, .int .i64 0, .slice none 0 0, .int .i64 0, .int .i64 0, .int .i64 0, .int .i64 0, .slice none 0 0, .int .i64 0, .int .i64 0, .int .i64 0] (evV x).toArray 96
           generalize (wr.alloc (.cells #[.int .i64 0, .int .i64 0, .int .u64 0, .int .u64 0, .int .i64 0, .int .i64 0, .int .i64 0, .slice none 0 0, .int .i64 0, .int .i64 0, .int .i64 0, .int .i64 0, .slice none 0 0, .int .i64 0, .int .i64 0, .int .i64 0] 96)).setRow wr.heap.size (evV x).toArray = W4 at *
           have HBLK := Lib.hid hblk
           have HB4 := Lib.hid hb4
           have l4 := lt_of_block hblk
           have b13 := ev_cell hblk 13 _ rfl
           have b14 := ev_cell hblk 14 _ rfl
           have b15 := ev_cell hblk 15 _ rfl
           clear hb4 hblk))
      have HBW4 : Hid (Below w.heap.size w W4) := HB.out.trans (HB4.out.mono hwr)
      by_cases ht0 : (x.took == 0) = true
      · have ht0' : x.took = 0 := by simpa using ht0
        have hrel' : RefI w W4 es (k + 1) _ := ⟨HBW4.out, HALL1.out (by rw [timelyE, ht0]; rfl), noClash_zero HNC.out (by rw [← HX.out]; exact ht0'), xs, by rw [HPK.out, if_neg (by simp [ht0'])]; exact HPERM.out, HPAIR.out, ownsRow_below HROW.out HB4.out⟩
        have HREL := Lib.hid hrel'
        clear hrel' ht0'
        go_wp2
        go_roundw
        case rel => exact ⟨k + 1, by omega, by go_num, HREL.out⟩
        case measure => simp [intOf]; omega
      · have ht1 : (x.took == 0) = false := by simpa using ht0
        have ht2 : x.took ≠ 0 := by simpa using ht0
        have HT2 := Lib.hid ht2
        clear ht0 ht2
        have hfail : ∀ _ : timelyB x.asked x.took x.ended = false, RefPost w es (.returned (.tuple #[.slice none 0 0, .bool false])) W4 := fun ht => ⟨HBW4.out, .inl ⟨HNG.out (by rw [timelyE, ht1, ht]; rfl), rfl⟩⟩
        have HFAIL := Lib.hid hfail
        clear hfail
        have hdec : timelyB x.asked x.took x.ended = decide (1 ≤ x.asked ∧ x.asked < x.took ∧ (x.ended = 0 ∨ x.took ≤ x.ended)) := rfl
        have HDEC := Lib.hid hdec
        clear hdec
        by_cases a1 : x.asked < 1
        · have HF := Lib.hid (HFAIL.out (by rw [HDEC.out]; exact decide_eq_false (by omega)))
          go_wp2
          go_ret2
          exact HF.out
        · by_cases a2 : x.took ≤ x.asked
          · have HF := Lib.hid (HFAIL.out (by rw [HDEC.out]; exact decide_eq_false (by omega)))
            go_wp2
            go_ret2
            exact HF.out
          · by_cases a3 : (x.ended != 0) = true
            · have a3' : x.ended ≠ 0 := by simpa using a3
              have A3 := Lib.hid a3'
              clear a3'
              by_cases a4 : x.ended < x.took
              · have HF := Lib.hid (HFAIL.out (by rw [HDEC.out]; exact decide_eq_false (by have := A3.out; omega)))
                go_wp2
                go_ret2
                exact HF.out
              · have HTM : Hid (timelyE x = true) := by show _ = _; rw [timelyE, HDEC.out, decide_eq_true (by omega)]; simp
                clear HFAIL HNG HDEC
                go_upto_region 9 with (fail)
                clear b13 b15 ht1 a1 a2
                go_wp2
                go_loopw [7] (fun j wr => ∃ q : Nat, q ≤ k ∧ j = .int .i64 q ∧ Below W4.heap.size W4 wr ∧ ∀ i2, i2 < q → (evAt es i2).took ≠ 0 → clashE x (evAt es i2) = false) (fun j _ => k - (intOf j).toNat)
                case atStart => exact ⟨0, Nat.zero_le _, rfl, Below.refl _ _, fun i2 hi2 => absurd hi2 (Nat.not_lt_zero i2)⟩
                case round =>
                  obtain ⟨q, hq, rfl, hbl2, hncl⟩ := hrel
                  have HBLKX := Lib.hid ((hbl2.block _ l4).trans HBLK.out)
                  have HBW := Lib.hid (HBW4.out.trans (hbl2.mono HBW4.out.size))
                  have HBL2 := Lib.hid hbl2
                  have HNCL := Lib.hid hncl
                  have hs4 := hbl2.size
                  have e14 := cell_past hbl2 (cell_lt b14) b14
                  clear hbl2 hncl
                  by_cases hq2 : q < k
                  · obtain ⟨g', off', hg', hcy⟩ := HEV.out q (by omega)
                    cases hg'
                    rw [evAt_get (by omega : q < es.length)] at hcy
                    have hrngy : wr.rangeAt g (off + q * 16) (evV (evAt es q)) := fun j v hv => cell_past HBW.out (cell_lt (hcy j v hv)) (hcy j v hv)
                    have hfl := HNGC.out q hq2
                    obtain ⟨y, hy⟩ : ∃ y, y = evAt es q := ⟨_, rfl⟩
                    rw [← hy] at hrngy hfl
                    rw [← HX.out] at hfl
                    have HY := Lib.hid hy
                    have HRY := Lib.hid hrngy
                    have HFL := Lib.hid hfl
                    have hi2 : (0 : Int) ≤ q ∧ (q : Int) < es.length := by omega
                    have hkw2 : IntKind.i64.wrap ((q : Int) + 1) = (q : Int) + 1 := by rw [IntKind.wrap_i64]; omega
                    clear hy hrngy hfl hcy
                    have l2 := lt_of_block HBLKX.out
                    go_upto_region 13 with (first
                      | (refine wpList_load_mid rfl 96 _ rfl g (off + q * 16) rfl (evV y) _ HRY.out Tryz.underlying96 rfl rev_size ?_)
                      | (refine wpList_store_row rfl 96 _ _ rfl wr.heap.size (evV y).toArray rfl rfl 96 _ (heap_alloc_new wr _) (by rw [rev_size, ev_len]) (by rw [ev_len]; rfl) (ev_one y) ?_
                         obtain ⟨hb5, hblk5⟩ := box_store wr #[.int .i64 0, .int .i64 0, .int .u64 0, .int .u64 0, .int .i64 0, .int .i64 0, .int .i64 0, .slice none 0 0, .int .i64 0, .int .i64 0, .int .i64 0, .int .i64 0, .slice none 0 0, .int .i64 0, .int .i64 0, .int .i64 0] (evV y).toArray 96
                         generalize (wr.alloc (.cells #[.int .i64 0, .int .i64 0, .int .u64 0, .int .u64 0, .int .i64 0, .int .i64 0, .int .i64 0, .slice none 0 0, .int .i64 0, .int .i64 0, .int .i64 0, .int .i64 0, .slice none 0 0, .int .i64 0, .int .i64 0, .int .i64 0] 96)).setRow wr.heap.size (evV y).toArray = W5 at *
                         have HBLKY := Lib.hid hblk5
                         have HB5 := Lib.hid hb5
                         have HBX5 := Lib.hid ((hb5.block _ l2).trans HBLKX.out)
                         have d0 := ev_cell hblk5 0 _ rfl
                         have d14 := ev_cell hblk5 14 _ rfl
                         have f0 := ev_cell HBX5.out 0 _ rfl
                         have f14 := ev_cell HBX5.out 14 _ rfl
                         clear hb5 hblk5 HRY))
                    have HNX : Hid (Below W4.heap.size W4 W5) := HBL2.out.trans (HB5.out.mono hs4)
                    have HBW5 : Hid (Below w.heap.size w W5) := HBW.out.trans (HB5.out.mono HBW.out.size)
                    by_cases hy0 : (y.took == 0) = true
                    · have HN1 : Hid (∀ i2, i2 < q + 1 → (evAt es i2).took ≠ 0 → clashE x (evAt es i2) = false) := fun i2 hi2 hne => by
                        rcases Nat.lt_succ_iff_lt_or_eq.1 hi2 with h2 | rfl
                        · exact HNCL.out i2 h2 hne
                        · rw [← HY.out] at hne
                          exact absurd (by simpa using hy0) hne
                      go_wp2
                      go_roundw
                      case rel => exact ⟨q + 1, by omega, by go_num, HNX.out, HN1.out⟩
                      case measure => simp [intOf]; omega
                    · have hy1 : (y.took == 0) = false := by simpa using hy0
                      have HY0 : Hid (y.took ≠ 0) := by show _ ≠ _; simpa using hy0
                      clear hy0
                      have hn1 : clashE x y = false → ∀ i2, i2 < q + 1 → (evAt es i2).took ≠ 0 → clashE x (evAt es i2) = false := fun hc i2 hi2 hne => by
                        rcases Nat.lt_succ_iff_lt_or_eq.1 hi2 with h2 | rfl
                        · exact HNCL.out i2 h2 hne
                        · rw [← HY.out]; exact hc
                      have hbad : clashE x y = true → ¬ GoodE es := fun hc => HFL.out HT2.out HY0.out hc
                      have HN1 := Lib.hid hn1
                      have HBAD := Lib.hid hbad
                      clear hn1 hbad
                      by_cases c1 : (y.took == x.took) = true
                      · have HFAIL : Hid (¬ GoodE es) := HBAD.out (by rw [clashE, c1]; rfl)
                        go_wp2
                        go_ret2
                        exact ⟨HBW5.out, .inl ⟨HFAIL.out, rfl⟩⟩
                      · have c1' : (y.took == x.took) = false := by simpa using c1
                        clear c1
                        by_cases c2 : (y.wk == x.wk) = true
                        · cases c3 : befE x y
                          · cases c4 : befE y x
                            · have HFAIL : Hid (¬ GoodE es) := HBAD.out (by rw [clashE, c1', c2, c3, c4]; rfl)
                              (go_wp2_with (first
                              | (refine wpList_load_row_g (by kernel_rfl) 96 _ rfl _ rfl 96 (evV x).toArray (0, 0) _ HBX5.out Tryz.underlying96 rfl (by rw [rev_size, ev_len]) ?_)
                              | (refine wpList_load_row_g (by kernel_rfl) 96 _ rfl _ rfl 96 (evV y).toArray (0, 0) _ HBLKY.out Tryz.underlying96 rfl (by rw [rev_size, ev_len]) ?_)); refine (before_any _ x y).mono ?_; rintro e W6 ⟨rfl, hb6⟩; rw [c3]; have HBX6 := Lib.hid ((hb6.block _ (lt_of_block HBX5.out)).trans HBX5.out); have HBY6 := Lib.hid ((hb6.block _ (lt_of_block HBLKY.out)).trans HBLKY.out); have HNX6 := Lib.hid (HNX.out.trans (hb6.mono HNX.out.size)); have HBW6 := Lib.hid (HBW5.out.trans (hb6.mono HBW5.out.size)); clear hb6)
                              (go_wp2_with (first
                              | (refine wpList_load_row_g (by kernel_rfl) 96 _ rfl _ rfl 96 (evV x).toArray (0, 0) _ HBX6.out Tryz.underlying96 rfl (by rw [rev_size, ev_len]) ?_)
                              | (refine wpList_load_row_g (by kernel_rfl) 96 _ rfl _ rfl 96 (evV y).toArray (0, 0) _ HBY6.out Tryz.underlying96 rfl (by rw [rev_size, ev_len]) ?_)); refine (before_any _ y x).mono ?_; rintro e W7 ⟨rfl, hb7⟩; rw [c4]; have HNX7 := Lib.hid (HNX6.out.trans (hb7.mono HNX6.out.size)); have HBW7 := Lib.hid (HBW6.out.trans (hb7.mono HBW6.out.size)); clear hb7)
                              go_wp2
                              go_ret2
                              exact ⟨HBW7.out, .inl ⟨HFAIL.out, rfl⟩⟩
                            · have HOK := Lib.hid (HN1.out (by rw [clashE, c1', c2, c3, c4]; rfl))
                              (go_wp2_with (first
                              | (refine wpList_load_row_g (by kernel_rfl) 96 _ rfl _ rfl 96 (evV x).toArray (0, 0) _ HBX5.out Tryz.underlying96 rfl (by rw [rev_size, ev_len]) ?_)
                              | (refine wpList_load_row_g (by kernel_rfl) 96 _ rfl _ rfl 96 (evV y).toArray (0, 0) _ HBLKY.out Tryz.underlying96 rfl (by rw [rev_size, ev_len]) ?_)); refine (before_any _ x y).mono ?_; rintro e W6 ⟨rfl, hb6⟩; rw [c3]; have HBX6 := Lib.hid ((hb6.block _ (lt_of_block HBX5.out)).trans HBX5.out); have HBY6 := Lib.hid ((hb6.block _ (lt_of_block HBLKY.out)).trans HBLKY.out); have HNX6 := Lib.hid (HNX.out.trans (hb6.mono HNX.out.size)); have HBW6 := Lib.hid (HBW5.out.trans (hb6.mono HBW5.out.size)); clear hb6)
                              (go_wp2_with (first
                              | (refine wpList_load_row_g (by kernel_rfl) 96 _ rfl _ rfl 96 (evV x).toArray (0, 0) _ HBX6.out Tryz.underlying96 rfl (by rw [rev_size, ev_len]) ?_)
                              | (refine wpList_load_row_g (by kernel_rfl) 96 _ rfl _ rfl 96 (evV y).toArray (0, 0) _ HBY6.out Tryz.underlying96 rfl (by rw [rev_size, ev_len]) ?_)); refine (before_any _ y x).mono ?_; rintro e W7 ⟨rfl, hb7⟩; rw [c4]; have HNX7 := Lib.hid (HNX6.out.trans (hb7.mono HNX6.out.size)); have HBW7 := Lib.hid (HBW6.out.trans (hb7.mono HBW6.out.size)); clear hb7)
                              go_wp2
                              go_roundw
                              case rel => exact ⟨q + 1, by omega, by go_num, HNX7.out, HOK.out⟩
                              case measure => simp [intOf]; omega
                          · have HOK := Lib.hid (HN1.out (by rw [clashE, c1', c2, c3]; simp))
                            (go_wp2_with (first
                            | (refine wpList_load_row_g (by kernel_rfl) 96 _ rfl _ rfl 96 (evV x).toArray (0, 0) _ HBX5.out Tryz.underlying96 rfl (by rw [rev_size, ev_len]) ?_)
                            | (refine wpList_load_row_g (by kernel_rfl) 96 _ rfl _ rfl 96 (evV y).toArray (0, 0) _ HBLKY.out Tryz.underlying96 rfl (by rw [rev_size, ev_len]) ?_)); refine (before_any _ x y).mono ?_; rintro e W6 ⟨rfl, hb6⟩; rw [c3]; have HBX6 := Lib.hid ((hb6.block _ (lt_of_block HBX5.out)).trans HBX5.out); have HBY6 := Lib.hid ((hb6.block _ (lt_of_block HBLKY.out)).trans HBLKY.out); have HNX6 := Lib.hid (HNX.out.trans (hb6.mono HNX.out.size)); have HBW6 := Lib.hid (HBW5.out.trans (hb6.mono HBW5.out.size)); clear hb6)
                            go_wp2
                            go_roundw
                            case rel => exact ⟨q + 1, by omega, by go_num, HNX6.out, HOK.out⟩
                            case measure => simp [intOf]; omega
                        · have c2' : (y.wk == x.wk) = false := by simpa using c2
                          clear c2
                          have HOK := Lib.hid (HN1.out (by rw [clashE, c1', c2']; rfl))
                          go_wp2
                          go_roundw
                          case rel => exact ⟨q + 1, by omega, by go_num, HNX.out, HOK.out⟩
                          case measure => simp [intOf]; omega
                  · obtain rfl : q = k := by omega
                    have HNC1 := Lib.hid (noClash_next HNC.out (fun j hj hne => by rw [← HX.out]; exact HNCL.out j hj hne))
                    have HROW2 := Lib.hid (ownsRow_below (ownsRow_below HROW.out HB4.out) (HBL2.out.mono (Nat.le_refl _)))
                    have hbs : w.heap.size ≤ wr.heap.size := HBW.out.size
                    have l2 := lt_of_block HBLKX.out
                    clear HNC HNCL HROW HB4 HBL2 HNGC HRNG HB b14
                    go_wp2_with (at_builtin; refine wpList_append_own _ rfl _ _ 50 rfl w.heap.size 3 i0 (.int .i64 0) 1 8 Tryz.underlying50 hi hz0 hz1 hz2 rfl (by decide) _ _ _ rfl (HROW2.out.alloc _) ⟨wr.heap.size, 0, none⟩ 1 1 [.int .i64 q] rfl rfl (cell_one_int _ _ _) (fun u hu => by simp at hu; subst hu; rfl) (by unfold maxLen; omega) (by omega) (by simp; omega) ?_; intro v' W7 hown7 hgrow7 hnil7)
                    have hb7 : Below w.heap.size w W7 := Below.grown (HBW.out.alloc hbs _) hgrow7 (by simp; omega) (fun j e => (HROW2.out.lt j e).1)
                    have hx7 : W7.heap[_]? = _ := (hgrow7.block _ (by simp; omega) (row_ne HROW2.out HBLKX.out (by decide))).trans ((heap_alloc_old _ _ l2).trans HBLKX.out)
                    obtain ⟨g7, cap7, cur7, hv7, hbg7, hg7, hcap7, hm7, hcs7, hct7⟩ := own_row1 hown7
                    subst hv7
                    have hne := blk_ne hx7 hg7 (by decide)
                    have e7 := ev_cell hx7 14 _ rfl
                    have HB7 := Lib.hid hb7
                    have HQ : Hid (tookAt es q = x.took) := by show _ = _; rw [tookAt_ev, ← HX.out]
                    have HSW0 : Hid (SwapI W7 W7 es g7 cap7 xs q x.took xs []) := ⟨by simp, fun b hb => (by cases hb), Turned.refl _ _, cur7, hg7, hcs7, by simpa using hct7⟩
                    have HHE := Lib.hid (HALL1.out HTM.out)
                    clear hb7 hx7 hown7 hgrow7 hnil7 hg7 hcs7 hct7 HROW2 HBLKX HBW e14 HALL1 HTM HPK
                    go_wp2
                    go_loopw [9] (fun a wr => ∃ A B : List Nat, a = .int .i64 A.length ∧ SwapI W7 wr es g7 cap7 xs q x.took A B) (fun a _ => (intOf a).toNat)
                    case atStart => exact ⟨xs, [], rfl, HSW0.out⟩
                    case round =>
                      obtain ⟨A, B, rfl, hsw⟩ := hrel
                      clear HSW0
                      have e14r := turned_cell hsw.2.2.1 hne e7
                      have hAl : A.length ≤ xs.length := by rw [hsw.1]; simp
                      have HBr : Hid (Below w.heap.size w wr) := HB7.out.trans ((hsw.2.2.1).below (fun j hj => by rw [hj]; exact hbg7) HB7.out.size)
                      rcases List.eq_nil_or_concat A with rfl | ⟨A', p, rfl⟩
                      · have HD := Lib.hid (swap_done hsw HQ.out HPERM.out HPAIR.out (fun a ha => by cases ha) HT2.out hbg7 hcap7 hm7)
                        clear hsw
                        have hz0 : ¬ (0 : Int) < (([] : List Nat).length : Int) := by simp
                        go_wp2
                        (refine wp_region_quiet_ext (by kernel_rfl) (by kernel_rfl) ?_; (repeat (first | go_big_quiet_step ((fail)) | quiet_step ((fail)))); refine wpQuiet_nil ?_; intro w1 hw1; obtain hb := below_of_ext hw1; clear hw1; obtain ⟨hc, hf⟩ := bcell hb; have hz := hb.size; (try simp at hz))
                        have HBq := Lib.hid hb
                        clear hb hc hf e14r
                        go_wp2
                        go_roundw
                        case rel =>
                          obtain ⟨zs, hz1', hz2', hz3'⟩ := HD.out
                          exact ⟨q + 1, by omega, by go_num, HBr.out.trans (HBq.out.mono HBr.out.size), HHE.out, HNC1.out, zs, hz1', hz2', ownsRow_below hz3' HBq.out⟩
                        case measure => simp [intOf]; omega
                      · have hlen : (A'.concat p).length = A'.length + 1 := by simp
                        rw [hlen]
                        rw [List.concat_eq_append] at hsw
                        have hp2 : p ∈ pickK es q := HPERM.out.mem_iff.1 (by rw [hsw.1]; simp)
                        have hp3 : p < es.length := by have := pickK_lt es q p hp2; omega
                        have hAl2 : A'.length + 1 ≤ xs.length := by rw [hsw.1]; simp
                        have cp := swap_cell hsw (i := A'.length) (j := p) (by simp)
                        have cq := swap_cell hsw (i := A'.length + 1) (j := q) (by simp)
                        have ct := took_cell (HEV.out.below HBr.out) rfl hp3
                        have hsub : IntKind.i64.wrap (A'.length : Int) = A'.length := by rw [IntKind.wrap_i64]; omega
                        have hr1 : (0 : Int) ≤ A'.length ∧ (A'.length : Int) < xs.length + 1 := by omega
                        have hr2 : (0 : Int) ≤ p ∧ (p : Int) < es.length := by omega
                        have hr3 : (A'.length : Int) + 1 < xs.length + 1 := by omega
                        have hr4 : A'.length < xs.length := by omega
                        have hr5 : (0 : Int) ≤ (A'.length : Int) + 1 := by omega
                        have hr6 : ((A'.length : Int) + 1).toNat = A'.length + 1 := by omega
                        have HSW := Lib.hid hsw
                        clear hsw hlen hAl hp2
                        obtain ⟨t, ht⟩ : ∃ t, t = tookAt es p := ⟨_, rfl⟩
                        rw [← ht] at ct
                        have HTP := Lib.hid ht
                        clear ht
                        by_cases hgt : x.took < t
                        · go_wp2
                          (refine wp_region_quiet_ext (by kernel_rfl) (by kernel_rfl) ?_; (repeat (first | go_big_quiet_step ((fail)) | quiet_step ((fail)))); refine wpQuiet_nil ?_; intro w1 hw1; obtain hb := below_of_ext hw1; clear hw1; obtain ⟨hc, hf⟩ := bcell hb; have hz := hb.size; (try simp at hz))
                          have hsw1 := HSW.out.below hb
                          have hsw2 := hsw1.below (Below.drew (Below.refl _ _))
                          have HNX := Lib.hid (swap_next hsw2 (by rw [← HTP.out]; exact hgt) hcap7)
                          have hfz : w1.frozen? ⟨g7, A'.length, none⟩ = false := by obtain ⟨_, _, _, cur, h4, _⟩ := hsw1; exact frozen_of_row _ _ _ _ _ h4
                          have hfz2 : w1.frozen? ⟨g7, A'.length + 1, none⟩ = false := by obtain ⟨_, _, _, cur, h4, _⟩ := hsw1; exact frozen_of_row _ _ _ _ _ h4
                          have cp1 := cell_past hb (cell_lt cp) cp
                          have cq1 := cell_past hb (cell_lt cq) cq
                          clear hsw1 hsw2 hb hc hf cp cq ct e14r HSW HBr
                          go_wp2
                          go_region
                          go_wp2
                          go_roundw
                          case rel => exact ⟨A', p :: B, by go_num, HNX.out⟩
                          case measure => first | (simp [intOf]; done) | (simp [intOf]; omega)
                        · have HD := Lib.hid (swap_done HSW.out HQ.out HPERM.out HPAIR.out (swap_all HSW.out HPAIR.out (by rw [← HTP.out]; omega)) HT2.out hbg7 hcap7 hm7)
                          clear HSW
                          go_wp2
                          (refine wp_region_quiet_ext (by kernel_rfl) (by kernel_rfl) ?_; (repeat (first | go_big_quiet_step ((fail)) | quiet_step ((fail)))); refine wpQuiet_nil ?_; intro w1 hw1; obtain hb := below_of_ext hw1; clear hw1; obtain ⟨hc, hf⟩ := bcell hb; have hz := hb.size; (try simp at hz))
                          have HBq := Lib.hid hb
                          clear hb hc hf e14r cp cq ct
                          go_wp2
                          go_roundw
                          case rel =>
                            obtain ⟨zs, hz1', hz2', hz3'⟩ := HD.out
                            exact ⟨q + 1, by omega, by go_num, HBr.out.trans (HBq.out.mono HBr.out.size), HHE.out, HNC1.out, zs, hz1', hz2', ownsRow_below hz3' HBq.out⟩
                          case measure => simp [intOf]; omega
            · have a3' : (x.ended != 0) = false := by simpa using a3
              have a4 : x.ended = 0 := by simpa using a3
              have HTM : Hid (timelyE x = true) := by show _ = _; rw [timelyE, HDEC.out, decide_eq_true (by omega)]; simp
              clear a3 a4 HFAIL HNG HDEC
              go_upto_region 9 with (fail)
              clear b13 b15 ht1 a1 a2
              go_wp2
              go_loopw [7] (fun j wr => ∃ q : Nat, q ≤ k ∧ j = .int .i64 q ∧ Below W4.heap.size W4 wr ∧ ∀ i2, i2 < q → (evAt es i2).took ≠ 0 → clashE x (evAt es i2) = false) (fun j _ => k - (intOf j).toNat)
              case atStart => exact ⟨0, Nat.zero_le _, rfl, Below.refl _ _, fun i2 hi2 => absurd hi2 (Nat.not_lt_zero i2)⟩
              case round =>
                obtain ⟨q, hq, rfl, hbl2, hncl⟩ := hrel
                have HBLKX := Lib.hid ((hbl2.block _ l4).trans HBLK.out)
                have HBW := Lib.hid (HBW4.out.trans (hbl2.mono HBW4.out.size))
                have HBL2 := Lib.hid hbl2
                have HNCL := Lib.hid hncl
                have hs4 := hbl2.size
                have e14 := cell_past hbl2 (cell_lt b14) b14
                clear hbl2 hncl
                by_cases hq2 : q < k
                · obtain ⟨g', off', hg', hcy⟩ := HEV.out q (by omega)
                  cases hg'
                  rw [evAt_get (by omega : q < es.length)] at hcy
                  have hrngy : wr.rangeAt g (off + q * 16) (evV (evAt es q)) := fun j v hv => cell_past HBW.out (cell_lt (hcy j v hv)) (hcy j v hv)
                  have hfl := HNGC.out q hq2
                  obtain ⟨y, hy⟩ : ∃ y, y = evAt es q := ⟨_, rfl⟩
                  rw [← hy] at hrngy hfl
                  rw [← HX.out] at hfl
                  have HY := Lib.hid hy
                  have HRY := Lib.hid hrngy
                  have HFL := Lib.hid hfl
                  have hi2 : (0 : Int) ≤ q ∧ (q : Int) < es.length := by omega
                  have hkw2 : IntKind.i64.wrap ((q : Int) + 1) = (q : Int) + 1 := by rw [IntKind.wrap_i64]; omega
                  clear hy hrngy hfl hcy
                  have l2 := lt_of_block HBLKX.out
                  go_upto_region 13 with (first
                    | (refine wpList_load_mid rfl 96 _ rfl g (off + q * 16) rfl (evV y) _ HRY.out Tryz.underlying96 rfl rev_size ?_)
                    | (refine wpList_store_row rfl 96 _ _ rfl wr.heap.size (evV y).toArray rfl rfl 96 _ (heap_alloc_new wr _) (by rw [rev_size, ev_len]) (by rw [ev_len]; rfl) (ev_one y) ?_
                       obtain ⟨hb5, hblk5⟩ := box_store wr #[.int .i64 0, .int .i64 0, .int .u64 0, .int .u64 0, .int .i64 0, .int .i64 0, .int .i64 0, .slice none 0 0, .int .i64 0, .int .i64 0, .int .i64 0, .int .i64 0, .slice none 0 0, .int .i64 0, .int .i64 0, .int .i64 0] (evV y).toArray 96
                       generalize (wr.alloc (.cells #[.int .i64 0, .int .i64 0, .int .u64 0, .int .u64 0, .int .i64 0, .int .i64 0, .int .i64 0, .slice none 0 0, .int .i64 0, .int .i64 0, .int .i64 0, .int .i64 0, .slice none 0 0, .int .i64 0, .int .i64 0, .int .i64 0] 96)).setRow wr.heap.size (evV y).toArray = W5 at *
                       have HBLKY := Lib.hid hblk5
                       have HB5 := Lib.hid hb5
                       have HBX5 := Lib.hid ((hb5.block _ l2).trans HBLKX.out)
                       have d0 := ev_cell hblk5 0 _ rfl
                       have d14 := ev_cell hblk5 14 _ rfl
                       have f0 := ev_cell HBX5.out 0 _ rfl
                       have f14 := ev_cell HBX5.out 14 _ rfl
                       clear hb5 hblk5 HRY))
                  have HNX : Hid (Below W4.heap.size W4 W5) := HBL2.out.trans (HB5.out.mono hs4)
                  have HBW5 : Hid (Below w.heap.size w W5) := HBW.out.trans (HB5.out.mono HBW.out.size)
                  by_cases hy0 : (y.took == 0) = true
                  · have HN1 : Hid (∀ i2, i2 < q + 1 → (evAt es i2).took ≠ 0 → clashE x (evAt es i2) = false) := fun i2 hi2 hne => by
                      rcases Nat.lt_succ_iff_lt_or_eq.1 hi2 with h2 | rfl
                      · exact HNCL.out i2 h2 hne
                      · rw [← HY.out] at hne
                        exact absurd (by simpa using hy0) hne
                    go_wp2
                    go_roundw
                    case rel => exact ⟨q + 1, by omega, by go_num, HNX.out, HN1.out⟩
                    case measure => simp [intOf]; omega
                  · have hy1 : (y.took == 0) = false := by simpa using hy0
                    have HY0 : Hid (y.took ≠ 0) := by show _ ≠ _; simpa using hy0
                    clear hy0
                    have hn1 : clashE x y = false → ∀ i2, i2 < q + 1 → (evAt es i2).took ≠ 0 → clashE x (evAt es i2) = false := fun hc i2 hi2 hne => by
                      rcases Nat.lt_succ_iff_lt_or_eq.1 hi2 with h2 | rfl
                      · exact HNCL.out i2 h2 hne
                      · rw [← HY.out]; exact hc
                    have hbad : clashE x y = true → ¬ GoodE es := fun hc => HFL.out HT2.out HY0.out hc
                    have HN1 := Lib.hid hn1
                    have HBAD := Lib.hid hbad
                    clear hn1 hbad
                    by_cases c1 : (y.took == x.took) = true
                    · have HFAIL : Hid (¬ GoodE es) := HBAD.out (by rw [clashE, c1]; rfl)
                      go_wp2
                      go_ret2
                      exact ⟨HBW5.out, .inl ⟨HFAIL.out, rfl⟩⟩
                    · have c1' : (y.took == x.took) = false := by simpa using c1
                      clear c1
                      by_cases c2 : (y.wk == x.wk) = true
                      · cases c3 : befE x y
                        · cases c4 : befE y x
                          · have HFAIL : Hid (¬ GoodE es) := HBAD.out (by rw [clashE, c1', c2, c3, c4]; rfl)
                            (go_wp2_with (first
                            | (refine wpList_load_row_g (by kernel_rfl) 96 _ rfl _ rfl 96 (evV x).toArray (0, 0) _ HBX5.out Tryz.underlying96 rfl (by rw [rev_size, ev_len]) ?_)
                            | (refine wpList_load_row_g (by kernel_rfl) 96 _ rfl _ rfl 96 (evV y).toArray (0, 0) _ HBLKY.out Tryz.underlying96 rfl (by rw [rev_size, ev_len]) ?_)); refine (before_any _ x y).mono ?_; rintro e W6 ⟨rfl, hb6⟩; rw [c3]; have HBX6 := Lib.hid ((hb6.block _ (lt_of_block HBX5.out)).trans HBX5.out); have HBY6 := Lib.hid ((hb6.block _ (lt_of_block HBLKY.out)).trans HBLKY.out); have HNX6 := Lib.hid (HNX.out.trans (hb6.mono HNX.out.size)); have HBW6 := Lib.hid (HBW5.out.trans (hb6.mono HBW5.out.size)); clear hb6)
                            (go_wp2_with (first
                            | (refine wpList_load_row_g (by kernel_rfl) 96 _ rfl _ rfl 96 (evV x).toArray (0, 0) _ HBX6.out Tryz.underlying96 rfl (by rw [rev_size, ev_len]) ?_)
                            | (refine wpList_load_row_g (by kernel_rfl) 96 _ rfl _ rfl 96 (evV y).toArray (0, 0) _ HBY6.out Tryz.underlying96 rfl (by rw [rev_size, ev_len]) ?_)); refine (before_any _ y x).mono ?_; rintro e W7 ⟨rfl, hb7⟩; rw [c4]; have HNX7 := Lib.hid (HNX6.out.trans (hb7.mono HNX6.out.size)); have HBW7 := Lib.hid (HBW6.out.trans (hb7.mono HBW6.out.size)); clear hb7)
                            go_wp2
                            go_ret2
                            exact ⟨HBW7.out, .inl ⟨HFAIL.out, rfl⟩⟩
                          · have HOK := Lib.hid (HN1.out (by rw [clashE, c1', c2, c3, c4]; rfl))
                            (go_wp2_with (first
                            | (refine wpList_load_row_g (by kernel_rfl) 96 _ rfl _ rfl 96 (evV x).toArray (0, 0) _ HBX5.out Tryz.underlying96 rfl (by rw [rev_size, ev_len]) ?_)
                            | (refine wpList_load_row_g (by kernel_rfl) 96 _ rfl _ rfl 96 (evV y).toArray (0, 0) _ HBLKY.out Tryz.underlying96 rfl (by rw [rev_size, ev_len]) ?_)); refine (before_any _ x y).mono ?_; rintro e W6 ⟨rfl, hb6⟩; rw [c3]; have HBX6 := Lib.hid ((hb6.block _ (lt_of_block HBX5.out)).trans HBX5.out); have HBY6 := Lib.hid ((hb6.block _ (lt_of_block HBLKY.out)).trans HBLKY.out); have HNX6 := Lib.hid (HNX.out.trans (hb6.mono HNX.out.size)); have HBW6 := Lib.hid (HBW5.out.trans (hb6.mono HBW5.out.size)); clear hb6)
                            (go_wp2_with (first
                            | (refine wpList_load_row_g (by kernel_rfl) 96 _ rfl _ rfl 96 (evV x).toArray (0, 0) _ HBX6.out Tryz.underlying96 rfl (by rw [rev_size, ev_len]) ?_)
                            | (refine wpList_load_row_g (by kernel_rfl) 96 _ rfl _ rfl 96 (evV y).toArray (0, 0) _ HBY6.out Tryz.underlying96 rfl (by rw [rev_size, ev_len]) ?_)); refine (before_any _ y x).mono ?_; rintro e W7 ⟨rfl, hb7⟩; rw [c4]; have HNX7 := Lib.hid (HNX6.out.trans (hb7.mono HNX6.out.size)); have HBW7 := Lib.hid (HBW6.out.trans (hb7.mono HBW6.out.size)); clear hb7)
                            go_wp2
                            go_roundw
                            case rel => exact ⟨q + 1, by omega, by go_num, HNX7.out, HOK.out⟩
                            case measure => simp [intOf]; omega
                        · have HOK := Lib.hid (HN1.out (by rw [clashE, c1', c2, c3]; simp))
                          (go_wp2_with (first
                          | (refine wpList_load_row_g (by kernel_rfl) 96 _ rfl _ rfl 96 (evV x).toArray (0, 0) _ HBX5.out Tryz.underlying96 rfl (by rw [rev_size, ev_len]) ?_)
                          | (refine wpList_load_row_g (by kernel_rfl) 96 _ rfl _ rfl 96 (evV y).toArray (0, 0) _ HBLKY.out Tryz.underlying96 rfl (by rw [rev_size, ev_len]) ?_)); refine (before_any _ x y).mono ?_; rintro e W6 ⟨rfl, hb6⟩; rw [c3]; have HBX6 := Lib.hid ((hb6.block _ (lt_of_block HBX5.out)).trans HBX5.out); have HBY6 := Lib.hid ((hb6.block _ (lt_of_block HBLKY.out)).trans HBLKY.out); have HNX6 := Lib.hid (HNX.out.trans (hb6.mono HNX.out.size)); have HBW6 := Lib.hid (HBW5.out.trans (hb6.mono HBW5.out.size)); clear hb6)
                          go_wp2
                          go_roundw
                          case rel => exact ⟨q + 1, by omega, by go_num, HNX6.out, HOK.out⟩
                          case measure => simp [intOf]; omega
                      · have c2' : (y.wk == x.wk) = false := by simpa using c2
                        clear c2
                        have HOK := Lib.hid (HN1.out (by rw [clashE, c1', c2']; rfl))
                        go_wp2
                        go_roundw
                        case rel => exact ⟨q + 1, by omega, by go_num, HNX.out, HOK.out⟩
                        case measure => simp [intOf]; omega
                · obtain rfl : q = k := by omega
                  have HNC1 := Lib.hid (noClash_next HNC.out (fun j hj hne => by rw [← HX.out]; exact HNCL.out j hj hne))
                  have HROW2 := Lib.hid (ownsRow_below (ownsRow_below HROW.out HB4.out) (HBL2.out.mono (Nat.le_refl _)))
                  have hbs : w.heap.size ≤ wr.heap.size := HBW.out.size
                  have l2 := lt_of_block HBLKX.out
                  clear HNC HNCL HROW HB4 HBL2 HNGC HRNG HB b14
                  go_wp2_with (at_builtin; refine wpList_append_own _ rfl _ _ 50 rfl w.heap.size 3 i0 (.int .i64 0) 1 8 Tryz.underlying50 hi hz0 hz1 hz2 rfl (by decide) _ _ _ rfl (HROW2.out.alloc _) ⟨wr.heap.size, 0, none⟩ 1 1 [.int .i64 q] rfl rfl (cell_one_int _ _ _) (fun u hu => by simp at hu; subst hu; rfl) (by unfold maxLen; omega) (by omega) (by simp; omega) ?_; intro v' W7 hown7 hgrow7 hnil7)
                  have hb7 : Below w.heap.size w W7 := Below.grown (HBW.out.alloc hbs _) hgrow7 (by simp; omega) (fun j e => (HROW2.out.lt j e).1)
                  have hx7 : W7.heap[_]? = _ := (hgrow7.block _ (by simp; omega) (row_ne HROW2.out HBLKX.out (by decide))).trans ((heap_alloc_old _ _ l2).trans HBLKX.out)
                  obtain ⟨g7, cap7, cur7, hv7, hbg7, hg7, hcap7, hm7, hcs7, hct7⟩ := own_row1 hown7
                  subst hv7
                  have hne := blk_ne hx7 hg7 (by decide)
                  have e7 := ev_cell hx7 14 _ rfl
                  have HB7 := Lib.hid hb7
                  have HQ : Hid (tookAt es q = x.took) := by show _ = _; rw [tookAt_ev, ← HX.out]
                  have HSW0 : Hid (SwapI W7 W7 es g7 cap7 xs q x.took xs []) := ⟨by simp, fun b hb => (by cases hb), Turned.refl _ _, cur7, hg7, hcs7, by simpa using hct7⟩
                  have HHE := Lib.hid (HALL1.out HTM.out)
                  clear hb7 hx7 hown7 hgrow7 hnil7 hg7 hcs7 hct7 HROW2 HBLKX HBW e14 HALL1 HTM HPK
                  go_wp2
                  go_loopw [9] (fun a wr => ∃ A B : List Nat, a = .int .i64 A.length ∧ SwapI W7 wr es g7 cap7 xs q x.took A B) (fun a _ => (intOf a).toNat)
                  case atStart => exact ⟨xs, [], rfl, HSW0.out⟩
                  case round =>
                    obtain ⟨A, B, rfl, hsw⟩ := hrel
                    clear HSW0
                    have e14r := turned_cell hsw.2.2.1 hne e7
                    have hAl : A.length ≤ xs.length := by rw [hsw.1]; simp
                    have HBr : Hid (Below w.heap.size w wr) := HB7.out.trans ((hsw.2.2.1).below (fun j hj => by rw [hj]; exact hbg7) HB7.out.size)
                    rcases List.eq_nil_or_concat A with rfl | ⟨A', p, rfl⟩
                    · have HD := Lib.hid (swap_done hsw HQ.out HPERM.out HPAIR.out (fun a ha => by cases ha) HT2.out hbg7 hcap7 hm7)
                      clear hsw
                      have hz0 : ¬ (0 : Int) < (([] : List Nat).length : Int) := by simp
                      go_wp2
                      (refine wp_region_quiet_ext (by kernel_rfl) (by kernel_rfl) ?_; (repeat (first | go_big_quiet_step ((fail)) | quiet_step ((fail)))); refine wpQuiet_nil ?_; intro w1 hw1; obtain hb := below_of_ext hw1; clear hw1; obtain ⟨hc, hf⟩ := bcell hb; have hz := hb.size; (try simp at hz))
                      have HBq := Lib.hid hb
                      clear hb hc hf e14r
                      go_wp2
                      go_roundw
                      case rel =>
                        obtain ⟨zs, hz1', hz2', hz3'⟩ := HD.out
                        exact ⟨q + 1, by omega, by go_num, HBr.out.trans (HBq.out.mono HBr.out.size), HHE.out, HNC1.out, zs, hz1', hz2', ownsRow_below hz3' HBq.out⟩
                      case measure => simp [intOf]; omega
                    · have hlen : (A'.concat p).length = A'.length + 1 := by simp
                      rw [hlen]
                      rw [List.concat_eq_append] at hsw
                      have hp2 : p ∈ pickK es q := HPERM.out.mem_iff.1 (by rw [hsw.1]; simp)
                      have hp3 : p < es.length := by have := pickK_lt es q p hp2; omega
                      have hAl2 : A'.length + 1 ≤ xs.length := by rw [hsw.1]; simp
                      have cp := swap_cell hsw (i := A'.length) (j := p) (by simp)
                      have cq := swap_cell hsw (i := A'.length + 1) (j := q) (by simp)
                      have ct := took_cell (HEV.out.below HBr.out) rfl hp3
                      have hsub : IntKind.i64.wrap (A'.length : Int) = A'.length := by rw [IntKind.wrap_i64]; omega
                      have hr1 : (0 : Int) ≤ A'.length ∧ (A'.length : Int) < xs.length + 1 := by omega
                      have hr2 : (0 : Int) ≤ p ∧ (p : Int) < es.length := by omega
                      have hr3 : (A'.length : Int) + 1 < xs.length + 1 := by omega
                      have hr4 : A'.length < xs.length := by omega
                      have hr5 : (0 : Int) ≤ (A'.length : Int) + 1 := by omega
                      have hr6 : ((A'.length : Int) + 1).toNat = A'.length + 1 := by omega
                      have HSW := Lib.hid hsw
                      clear hsw hlen hAl hp2
                      obtain ⟨t, ht⟩ : ∃ t, t = tookAt es p := ⟨_, rfl⟩
                      rw [← ht] at ct
                      have HTP := Lib.hid ht
                      clear ht
                      by_cases hgt : x.took < t
                      · go_wp2
                        (refine wp_region_quiet_ext (by kernel_rfl) (by kernel_rfl) ?_; (repeat (first | go_big_quiet_step ((fail)) | quiet_step ((fail)))); refine wpQuiet_nil ?_; intro w1 hw1; obtain hb := below_of_ext hw1; clear hw1; obtain ⟨hc, hf⟩ := bcell hb; have hz := hb.size; (try simp at hz))
                        have hsw1 := HSW.out.below hb
                        have hsw2 := hsw1.below (Below.drew (Below.refl _ _))
                        have HNX := Lib.hid (swap_next hsw2 (by rw [← HTP.out]; exact hgt) hcap7)
                        have hfz : w1.frozen? ⟨g7, A'.length, none⟩ = false := by obtain ⟨_, _, _, cur, h4, _⟩ := hsw1; exact frozen_of_row _ _ _ _ _ h4
                        have hfz2 : w1.frozen? ⟨g7, A'.length + 1, none⟩ = false := by obtain ⟨_, _, _, cur, h4, _⟩ := hsw1; exact frozen_of_row _ _ _ _ _ h4
                        have cp1 := cell_past hb (cell_lt cp) cp
                        have cq1 := cell_past hb (cell_lt cq) cq
                        clear hsw1 hsw2 hb hc hf cp cq ct e14r HSW HBr
                        go_wp2
                        go_region
                        go_wp2
                        go_roundw
                        case rel => exact ⟨A', p :: B, by go_num, HNX.out⟩
                        case measure => first | (simp [intOf]; done) | (simp [intOf]; omega)
                      · have HD := Lib.hid (swap_done HSW.out HQ.out HPERM.out HPAIR.out (swap_all HSW.out HPAIR.out (by rw [← HTP.out]; omega)) HT2.out hbg7 hcap7 hm7)
                        clear HSW
                        go_wp2
                        (refine wp_region_quiet_ext (by kernel_rfl) (by kernel_rfl) ?_; (repeat (first | go_big_quiet_step ((fail)) | quiet_step ((fail)))); refine wpQuiet_nil ?_; intro w1 hw1; obtain hb := below_of_ext hw1; clear hw1; obtain ⟨hc, hf⟩ := bcell hb; have hz := hb.size; (try simp at hz))
                        have HBq := Lib.hid hb
                        clear hb hc hf e14r cp cq ct
                        go_wp2
                        go_roundw
                        case rel =>
                          obtain ⟨zs, hz1', hz2', hz3'⟩ := HD.out
                          exact ⟨q + 1, by omega, by go_num, HBr.out.trans (HBq.out.mono HBr.out.size), HHE.out, HNC1.out, zs, hz1', hz2', ownsRow_below hz3' HBq.out⟩
                        case measure => simp [intOf]; omega
    · obtain rfl : k = es.length := by omega
      rw [List.take_length] at hall
      have HFIN := Lib.hid (show RefPost w es (.returned (.tuple #[.slice po xs.length co, .bool true])) wr from ⟨hbl, .inr ⟨⟨hall, hnc⟩, xs, hperm, hpair, _, rfl, hrow⟩⟩)
      clear hall hnc hperm hpair hrow hbl
      go_wp2
      go_ret2
      exact HFIN.out

end Go.Proofs.YtgcnbiccekaffaaGreat
