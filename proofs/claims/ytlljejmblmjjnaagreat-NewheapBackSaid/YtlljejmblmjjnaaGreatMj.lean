/- NewheapFullest: its walk. -/
import Derived.Test.YtlljejmblmjjnaaGreatMi
import Derived.WalkKit
import Derived.WalkSpells
import Derived.WalkLawsBesides
import Derived.BigQuiet
import Derived.Lib.Hide
namespace Go.Proofs.YtlljejmblmjjnaaGreat
set_option linter.unusedVariables false
set_option linter.unusedSimpArgs false
open Go.RowKit Go.ChangeMaps

theorem greatB_false {n : Int} {cs : List CallM} (h : greatB n cs = false) : n ≤ 40 ∧ cs.length ≤ 40 := by
  unfold greatB at h
  simp only [Bool.or_eq_false_iff, decide_eq_false_iff_not] at h
  omega

set_option maxRecDepth 8000 in
set_option maxHeartbeats 8000000 in
theorem fullest_any (n cls : Int) (cs : List CallM) (pv : Option Addr) (cap : Nat) (w : World) (h : CallsAt w pv cs) (hcs : ∀ c ∈ cs, CallOk c) :
    Calls Tryz.prog 4 #[.int .i64 n, .slice pv cs.length cap, .int .i64 cls] w fun e w' => e = .returned (.bool true) ∧ Below w.heap.size w w' := by
  have HALV := Lib.hid alive_any
  have HC := Lib.hid h
  have HOK := Lib.hid hcs
  clear h hcs
  go_enter Tryz.func4, Tryz.ntmps4
  (go_wp2_with (fail); refine (HALV.out _).mono ?_; rintro e w1 ⟨rfl, hb⟩; have HB1 := Lib.hid hb; have HC1 := Lib.hid (HC.out.below hb); clear hb; have HGT := Lib.hid (great_any n cs pv cap w1 HC1.out); go_wp2_with (fail); refine HGT.out.mono ?_; rintro e w1' ⟨rfl, rfl⟩)
  cases hgt : greatB n cs with
  | true =>
    go_wp2
    go_ret
    exact ⟨rfl, HB1.out⟩
  | false =>
    obtain ⟨hn40, hc40⟩ := greatB_false hgt
    by_cases hneg : n < 0
    · have HQ := Lib.hid (quiet_no n hneg pv cs.length cap w1)
      clear hgt hn40 hc40
      go_wp2_with (fail)
      refine HQ.out.mono ?_
      rintro e w2 ⟨rfl, hb2⟩
      have HB2 := Lib.hid (Below.via hb2 HB1.out.size HB1.out)
      clear hb2
      go_wp2
      go_ret
      exact ⟨rfl, HB2.out⟩
    · obtain ⟨pages, hpg⟩ : ∃ pages : Nat, n = pages := ⟨n.toNat, by omega⟩
      have HQ : Hid (Calls Tryz.prog 10 #[.int .i64 n, .slice pv cs.length cap] w1 (QuietPost w1 pages (foldP (s0 pages) cs))) := by
        rw [hpg]
        exact quiet_yes pages (by omega) cs HOK.out (by omega) pv cap w1 HC1.out
      clear hgt hneg hpg
      generalize foldP (s0 pages) cs = s at *
      go_wp2_with (fail)
      refine HQ.out.mono ?_
      rintro e w2 ⟨x, H, rfl, hI⟩
      have HI2 := Lib.hid hI
      have c1 := hI.cx
      clear hI
      have HR := Lib.hid (hrows_any HI2.out.at_.heap cls)
      go_wp2_with (fail)
      refine HR.out.mono ?_
      rintro e w3 ⟨v1, rfl, hrow, hb⟩
      have HV3 : Hid (RowsV w3 w2.heap.size v1 (clsP s.A cls)) := hrow
      have HI3 := Lib.hid (HI2.out.below' hb)
      have d1 := HI3.out.cx
      clear hrow hb c1
      have HRD := Lib.hid (hready_any HI3.out.at_.heap cls)
      go_wp2_with (fail)
      refine HRD.out.mono ?_
      rintro e w4 ⟨rfl, hb⟩
      have HV4 := Lib.hid (HV3.out.below hb)
      have HI4 := Lib.hid (HI3.out.below' hb)
      have e0 := HI4.out.at_.cells.1
      clear hb d1
      have HCAN : Hid (Calls Tryz.prog 17 #[.pointer (some ⟨H.gr, 0, none⟩), .int .i64 4, .int .i64 4] w4 fun e w' => e = .returned (.bool (placeR 4 4 s.l).isSome) ∧ Below w4.heap.size w4 w') :=
        gCan_any H.gr H.cl pages 0 H.b 0 4 4 H.p s.l H.E w4 HI4.out.at_.heap.ground ⟨2, by decide, rfl⟩ (by decide) (by decide)
      go_wp2_with (fail)
      refine HCAN.out.mono ?_
      rintro e w5 ⟨rfl, hb⟩
      have HV5 := Lib.hid (HV4.out.below hb)
      have HI5 := Lib.hid (HI4.out.below' hb)
      have f1 := HI5.out.cx
      clear hb e0
      have HTK := Lib.hid (htake_any HI5.out.at_.heap cls)
      unfold ansV at HTK
      go_wp2_with (fail)
      refine HTK.out.mono ?_
      rintro e w6 hp
      obtain ⟨H6, hI6, hh6, ht6⟩ := HI5.out.step hp (take_good HI5.out.good cls)
      have HV6 := Lib.hid (HV5.out.turned HI5.out.at_.heap ht6)
      have HI6 := Lib.hid hI6
      have g1 := hI6.cx
      obtain ⟨rfl, -⟩ := hp
      clear hI6 hh6 ht6 f1
      have HR6 := Lib.hid (hrows_any HI6.out.at_.heap cls)
      go_wp2_with (fail)
      refine HR6.out.mono ?_
      rintro e w7 ⟨v2, rfl, hrow, hb⟩
      have HV7 := Lib.hid (HV6.out.below hb)
      have HW7 : Hid (RowsV w7 w6.heap.size v2 (clsP (takeP s cls).2.A cls)) := hrow
      have HI7 := Lib.hid (HI6.out.below' hb)
      have HB7 : Hid (Below w.heap.size w w7) := Below.via HI7.out.below HB1.out.size HB1.out
      clear hrow hb g1
      by_cases hc : 0 ≤ cls ∧ cls < 12
      · have hc1 : ¬ cls < 0 := by omega
        have hc2 : ¬ 11 < cls := by omega
        obtain ⟨TR1, TR2⟩ := take_rows HI2.out.good hc
        rw [bestP_bestOf]
        have HT1 := Lib.hid TR1
        have HT2 := Lib.hid TR2
        have hrl : (clsP s.A cls).length ≤ 64 := by
          have := HI2.out.at_.heap.bound
          have h2 : (clsP s.A cls).length ≤ s.A.length := List.length_filter_le _ _
          omega
        have hrl2 : (clsP (takeP s cls).2.A cls).length ≤ 64 := by
          have := HI6.out.at_.heap.bound
          have h2 : (clsP (takeP s cls).2.A cls).length ≤ (takeP s cls).2.A.length := List.length_filter_le _ _
          omega
        have HLB : Hid (∀ r ∈ clsP s.A cls, r.L.length ≤ 1000) := fun r hr => by
          have h1 := (HI2.out.good.inv.each r (List.mem_filter.1 hr).1)
          have h2 := h1.len
          have h3 := (slB_le h1.cls).2.1
          omega
        have HPB : Hid (∀ r ∈ clsP s.A cls, r.page < 64) := fun r hr => by
          have h1 := (HI2.out.good.inv.each r (List.mem_filter.1 hr).1).fits
          have h2 := HI2.out.at_.heap.bound.2.1
          omega
        obtain ⟨p1, cap1, rfl, hv7⟩ := HV7.out.open
        obtain ⟨p2, cap2, rfl, hw7⟩ := HW7.out.open
        have HVC := Lib.hid hv7
        have HWC := Lib.hid hw7
        clear TR1 TR2 hc hv7 hw7 hn40 hc40
        generalize (placeR 4 4 s.l).isSome = room at *
        generalize (takeP s cls).1.2 = er at *
        generalize (takeP s cls).1.1 = ad at *
        generalize clsP (takeP s cls).2.A cls = R2 at *
        generalize clsP s.A cls = R at *
        go_wp2
        go_loopw [14, 15] (fun b i wr => ∃ k : Nat, i = .int .i64 k ∧ k ≤ R.length ∧ Below w7.heap.size w7 wr ∧ ((b = .int .i64 (-1) ∧ bestOf (R.take k) = none) ∨ ∃ (j : Nat) (hj : j < R.length), j < k ∧ b = .int .i64 j ∧ bestOf (R.take k) = some R[j])) (fun _ i _ => R.length - numOf i)
        case atStart => exact ⟨0, rfl, Nat.zero_le _, Below.refl _ _, .inl ⟨rfl, rfl⟩⟩
        case round =>
          obtain ⟨k, rfl, hk, hbl, hbs⟩ := hrel
          by_cases hlt : k < R.length
          · obtain ⟨g, rfl, -, k0, k1, k2⟩ := HVC.out k hlt
            have y1 := cell_past hbl (cell_lt k1) k1
            have y2 := cell_past hbl (cell_lt k2) k2
            have HSN : Hid (bestOf (R.take (k + 1)) = _) := (by rw [List.take_succ_eq_append_getElem hlt]; exact bestOf_snoc _ _ : bestOf (R.take (k + 1)) = if (R[k]).ready then (match bestOf (R.take k) with | none => some R[k] | some m => if (R[k]).L.length < m.L.length then some R[k] else some m) else bestOf (R.take k))
            have hi1 : (0 : Int) ≤ (k : Int) ∧ (k : Int) < R.length := by omega
            have hkw : IntKind.i64.wrap ((k : Int) + 1) = (k : Int) + 1 := by rw [IntKind.wrap_i64]; omega
            have HBL := Lib.hid hbl
            have hsz := hbl.size
            have hrd : (R[k]).ready = (!(R[k]).sealed && decide (0 < (R[k]).L.length)) := rfl
            rw [hrd] at HSN
            clear hrd k0 k1 k2
            have hround : ∀ (b' : Value), (∀ B : Int, True) → True := fun _ _ => trivial
            clear hround
            rcases hbs with ⟨rfl, hb0⟩ | ⟨j, hj, hjk, rfl, hb0⟩
            · rw [hb0] at HSN
              have HB0 := Lib.hid hb0
              clear hb0
              cases hsd : (R[k]).sealed with
              | true =>
                rw [hsd] at HSN y2
                have HS2 : Hid (bestOf (R.take (k + 1)) = none) := HSN.out
                clear HSN hsd
                generalize R[k] = y at *
                go_upto_region 19 with (fail)
                (refine wp_region_quiet_ext (by kernel_rfl) (by kernel_rfl) ?_; (repeat (first | go_big_quiet_step ((fail)) | quiet_step ((fail)))); refine wpQuiet_nil ?_; intro w3 hw3; obtain hb3 := below_of_ext hw3; clear hw3; obtain ⟨hc3, hf3⟩ := bcell hb3; have hz3 := hb3.size; (try simp at hz3))
                have HB3 := Lib.hid (Below.via hb3 hsz HBL.out)
                clear hb3 y1 y2
                go_wp2
                go_roundw
                case rel => exact ⟨k + 1, by go_num, hlt, HB3.out, .inl ⟨rfl, HS2.out⟩⟩
                case measure => simp [numOf]; omega
              | false =>
                rw [hsd] at HSN y2
                by_cases hln : 0 < (R[k]).L.length
                · have HS2 : Hid (bestOf (R.take (k + 1)) = some R[k]) := by
                    have := HSN.out
                    rw [decide_eq_true hln] at this
                    exact this
                  have hln2 : (0 : Int) < ((R[k]).L.length : Int) := by omega
                  clear HSN hsd hln
                  generalize hln3 : (((R[k]).L.length : Nat) : Int) = ln at *
                  clear hln3
                  go_upto_region 19 with (fail)
                  (refine wp_region_quiet_ext (by kernel_rfl) (by kernel_rfl) ?_; (repeat (first | go_big_quiet_step ((fail)) | quiet_step ((fail)))); refine wpQuiet_nil ?_; intro w3 hw3; obtain hb3 := below_of_ext hw3; clear hw3; obtain ⟨hc3, hf3⟩ := bcell hb3; have hz3 := hb3.size; (try simp at hz3))
                  have HB3 := Lib.hid (Below.via hb3 hsz HBL.out)
                  clear hb3 y1 y2
                  go_wp2
                  go_roundw
                  case rel => exact ⟨k + 1, by go_num, hlt, HB3.out, .inr ⟨k, hlt, Nat.lt_succ_self _, rfl, HS2.out⟩⟩
                  case measure => simp [numOf]; omega
                · have HS2 : Hid (bestOf (R.take (k + 1)) = none) := by
                    have := HSN.out
                    rw [decide_eq_false hln] at this
                    exact this
                  have hln2 : ¬ (0 : Int) < ((R[k]).L.length : Int) := by omega
                  clear HSN hsd hln
                  generalize hln3 : (((R[k]).L.length : Nat) : Int) = ln at *
                  clear hln3
                  go_upto_region 19 with (fail)
                  (refine wp_region_quiet_ext (by kernel_rfl) (by kernel_rfl) ?_; (repeat (first | go_big_quiet_step ((fail)) | quiet_step ((fail)))); refine wpQuiet_nil ?_; intro w3 hw3; obtain hb3 := below_of_ext hw3; clear hw3; obtain ⟨hc3, hf3⟩ := bcell hb3; have hz3 := hb3.size; (try simp at hz3))
                  have HB3 := Lib.hid (Below.via hb3 hsz HBL.out)
                  clear hb3 y1 y2
                  go_wp2
                  go_roundw
                  case rel => exact ⟨k + 1, by go_num, hlt, HB3.out, .inl ⟨rfl, HS2.out⟩⟩
                  case measure => simp [numOf]; omega
            · rw [hb0] at HSN
              have HB0 := Lib.hid hb0
              clear hb0
              obtain ⟨g', hg', -, k0, k1, k2⟩ := HVC.out j hj
              cases hg'
              have z1 := cell_past hbl (cell_lt k1) k1
              have hj1 : (0 : Int) ≤ (j : Int) ∧ (j : Int) < R.length := by omega
              clear k0 k1 k2
              cases hsd : (R[k]).sealed with
              | true =>
                rw [hsd] at HSN y2
                have HS2 : Hid (bestOf (R.take (k + 1)) = some R[j]) := HSN.out
                clear HSN hsd
                generalize (((R[k]).L.length : Nat) : Int) = ln at *
                generalize (((R[j]).L.length : Nat) : Int) = lj at *
                go_upto_region 19 with (fail)
                (refine wp_region_quiet_ext (by kernel_rfl) (by kernel_rfl) ?_; (repeat (first | go_big_quiet_step ((fail)) | quiet_step ((fail)))); refine wpQuiet_nil ?_; intro w3 hw3; obtain hb3 := below_of_ext hw3; clear hw3; obtain ⟨hc3, hf3⟩ := bcell hb3; have hz3 := hb3.size; (try simp at hz3))
                have HB3 := Lib.hid (Below.via hb3 hsz HBL.out)
                clear hb3 y1 y2 z1
                go_wp2
                go_roundw
                case rel => exact ⟨k + 1, by go_num, hlt, HB3.out, .inr ⟨j, hj, by omega, rfl, HS2.out⟩⟩
                case measure => simp [numOf]; omega
              | false =>
                rw [hsd] at HSN y2
                by_cases hln : 0 < (R[k]).L.length
                · by_cases hlj : (R[k]).L.length < (R[j]).L.length
                  · have HS2 : Hid (bestOf (R.take (k + 1)) = some R[k]) := by
                      have := HSN.out
                      rw [decide_eq_true hln] at this
                      simp only [hlj, if_true] at this
                      exact this
                    have hln2 : (0 : Int) < ((R[k]).L.length : Int) := by omega
                    have hlj2 : ((R[k]).L.length : Int) < ((R[j]).L.length : Int) := by omega
                    clear HSN hsd hln hlj
                    generalize hln3 : (((R[k]).L.length : Nat) : Int) = ln at *
                    generalize hln4 : (((R[j]).L.length : Nat) : Int) = lj at *
                    clear hln3 hln4
                    go_upto_region 19 with (fail)
                    (refine wp_region_quiet_ext (by kernel_rfl) (by kernel_rfl) ?_; (repeat (first | go_big_quiet_step ((fail)) | quiet_step ((fail)))); refine wpQuiet_nil ?_; intro w3 hw3; obtain hb3 := below_of_ext hw3; clear hw3; obtain ⟨hc3, hf3⟩ := bcell hb3; have hz3 := hb3.size; (try simp at hz3))
                    have HB3 := Lib.hid (Below.via hb3 hsz HBL.out)
                    clear hb3 y1 y2 z1
                    go_wp2
                    go_roundw
                    case rel => exact ⟨k + 1, by go_num, hlt, HB3.out, .inr ⟨k, hlt, Nat.lt_succ_self _, rfl, HS2.out⟩⟩
                    case measure => simp [numOf]; omega
                  · have HS2 : Hid (bestOf (R.take (k + 1)) = some R[j]) := by
                      have := HSN.out
                      rw [decide_eq_true hln] at this
                      simp only [hlj, if_false] at this
                      exact this
                    have hln2 : (0 : Int) < ((R[k]).L.length : Int) := by omega
                    have hlj2 : ¬ ((R[k]).L.length : Int) < ((R[j]).L.length : Int) := by omega
                    clear HSN hsd hln hlj
                    generalize hln3 : (((R[k]).L.length : Nat) : Int) = ln at *
                    generalize hln4 : (((R[j]).L.length : Nat) : Int) = lj at *
                    clear hln3 hln4
                    go_upto_region 19 with (fail)
                    (refine wp_region_quiet_ext (by kernel_rfl) (by kernel_rfl) ?_; (repeat (first | go_big_quiet_step ((fail)) | quiet_step ((fail)))); refine wpQuiet_nil ?_; intro w3 hw3; obtain hb3 := below_of_ext hw3; clear hw3; obtain ⟨hc3, hf3⟩ := bcell hb3; have hz3 := hb3.size; (try simp at hz3))
                    have HB3 := Lib.hid (Below.via hb3 hsz HBL.out)
                    clear hb3 y1 y2 z1
                    go_wp2
                    go_roundw
                    case rel => exact ⟨k + 1, by go_num, hlt, HB3.out, .inr ⟨j, hj, by omega, rfl, HS2.out⟩⟩
                    case measure => simp [numOf]; omega
                · have HS2 : Hid (bestOf (R.take (k + 1)) = some R[j]) := by
                    have := HSN.out
                    rw [decide_eq_false hln] at this
                    exact this
                  have hln2 : ¬ (0 : Int) < ((R[k]).L.length : Int) := by omega
                  clear HSN hsd hln
                  generalize hln3 : (((R[k]).L.length : Nat) : Int) = ln at *
                  generalize (((R[j]).L.length : Nat) : Int) = lj at *
                  clear hln3
                  go_upto_region 19 with (fail)
                  (refine wp_region_quiet_ext (by kernel_rfl) (by kernel_rfl) ?_; (repeat (first | go_big_quiet_step ((fail)) | quiet_step ((fail)))); refine wpQuiet_nil ?_; intro w3 hw3; obtain hb3 := below_of_ext hw3; clear hw3; obtain ⟨hc3, hf3⟩ := bcell hb3; have hz3 := hb3.size; (try simp at hz3))
                  have HB3 := Lib.hid (Below.via hb3 hsz HBL.out)
                  clear hb3 y1 y2 z1
                  go_wp2
                  go_roundw
                  case rel => exact ⟨k + 1, by go_num, hlt, HB3.out, .inr ⟨j, hj, by omega, rfl, HS2.out⟩⟩
                  case measure => simp [numOf]; omega
          · obtain rfl : k = R.length := by omega
            rw [List.take_length] at hbs
            have HBL := Lib.hid hbl
            have HBW := Lib.hid (Below.via hbl HB7.out.size HB7.out)
            have hsz := hbl.size
            clear hbl
            rcases hbs with ⟨rfl, hb0⟩ | ⟨j, hj, hjk, rfl, hb0⟩
            · rw [hb0]
              rcases HT1.out hb0 with ⟨rfl, rfl, q3⟩ | ⟨rfl, rfl⟩
              · have hq3 : (R2.length : Int) = (R.length : Int) + 1 := by omega
                have hw3 : IntKind.i64.wrap ((R.length : Int) + 1) = (R.length : Int) + 1 := by rw [IntKind.wrap_i64]; omega
                clear hb0 q3
                go_wp2
                go_ret
                exact ⟨rfl, HBW.out⟩
              · clear hb0
                go_wp2
                go_ret
                exact ⟨rfl, HBW.out⟩
            · obtain ⟨rfl, q0, q1, q2, q3⟩ := HT2.out j hj hb0
              have HQ3 := Lib.hid q3
              rw [hb0]
              obtain ⟨g, rfl, -, k0, -, -⟩ := HVC.out j hj
              have y0 := cell_past HBL.out (cell_lt k0) k0
              have hpj : (R[j]).page < 2 ^ 40 := by
                have hm := (bestOf_mem hb0).1
                have := HPB.out _ hm
                omega
              have hlen2 : (R2.length : Int) = (R.length : Int) := by omega
              have hj1 : (0 : Int) ≤ (j : Int) ∧ (j : Int) < R.length := by omega
              have hpj2 : (R[j]).page < 64 := HPB.out _ (bestOf_mem hb0).1
              have hwm : wrap64 (wrap64 (ad.tdiv 1024) * 4) = ((R[j]).page : Int) := by
                rw [Int.tdiv_eq_ediv_of_nonneg q0]
                unfold wrap64
                omega
              have HJ := Lib.hid hj
              clear q0 q1 q3 hb0 k0 hpj hpj2
              generalize (((R[j]).page : Nat) : Int) = pj at *
              go_wp2
              go_loopw [16] (fun i wq => ∃ k : Nat, i = .int .i64 k ∧ k ≤ R.length ∧ Below w7.heap.size w7 wq) (fun i _ => R.length - numOf i)
              case atStart => exact ⟨0, rfl, Nat.zero_le _, HBL.out⟩
              case round =>
                obtain ⟨k, rfl, hk, hbq⟩ := hrel
                have hszq := hbq.size
                have HBQ := Lib.hid hbq
                by_cases hlt : k < R.length
                · obtain ⟨g1, hg1, -, a0, a1, a2⟩ := HVC.out k hlt
                  cases hg1
                  have hlt2 : k < R2.length := by omega
                  obtain ⟨g2, rfl, -, b0, b1, b2⟩ := HWC.out k hlt2
                  obtain ⟨e0, e1, e2⟩ := HQ3.out k hlt hlt2
                  rw [e0] at b0
                  rw [e2] at b1
                  rw [e1] at b2
                  have hki : (0 : Int) ≤ (k : Int) ∧ (k : Int) < R.length := by omega
                  have hkw : IntKind.i64.wrap ((k : Int) + 1) = (k : Int) + 1 := by rw [IntKind.wrap_i64]; omega
                  have x0 := cell_past hbq (cell_lt a0) a0
                  have x1 := cell_past hbq (cell_lt a1) a1
                  have x2 := cell_past hbq (cell_lt a2) a2
                  have z0 := cell_past hbq (cell_lt b0) b0
                  have z1 := cell_past hbq (cell_lt b1) b1
                  have z2 := cell_past hbq (cell_lt b2) b2
                  have hlk : (R[k]).L.length ≤ 1000 := HLB.out _ (List.getElem_mem hlt)
                  clear a0 a1 a2 b0 b1 b2 e0 e1 e2 hbq
                  by_cases hkj : k = j
                  · rw [if_pos hkj] at z1
                    have hkj2 : ((k : Int) == (j : Int)) = true := by simp [hkj]
                    have hw1 : wrap64 ((((R[k]).L.length : Nat) : Int) - 1) = (((R[k]).L.length : Nat) : Int) - 1 := by unfold wrap64; omega
                    have HKJ := Lib.hid hkj
                    clear hkj hlk
                    generalize hg3 : (((R[k]).L.length : Nat) : Int) = ln at *
                    generalize (((R[k]).page : Nat) : Int) = pg at *
                    generalize (R[k]).sealed = sd at *
                    clear hg3
                    go_upto_region 33 with (fail)
                    obtain ⟨W3, hW3⟩ : ∃ W3, W3 = wr.alloc (.cells #[.int .i64 pg, .int .i64 (ln - 1), .bool sd] 52) := ⟨_, rfl⟩
                    have hbA : Below wr.heap.size wr (wr.alloc (.cells #[.int .i64 pg, .int .i64 (ln - 1), .bool sd] 52)) := (Below.refl _ _).alloc (Nat.le_refl _) _
                    have hb3' : Below wr.heap.size wr W3 := by rw [hW3]; exact hbA
                    have hbk : W3.heap[wr.heap.size]? = some (.cells #[.int .i64 pg, .int .i64 (ln - 1), .bool sd] 52 (0, 0)) := by
                      rw [hW3]
                      exact heap_alloc_new _ _
                    have l0 : W3.cell? ⟨wr.heap.size, 0, none⟩ = some (.int .i64 pg) := cell_of_block hbk 0
                    have l1 : W3.cell? ⟨wr.heap.size, 1, none⟩ = some (.int .i64 (ln - 1)) := cell_of_block hbk 1
                    have l2 : W3.cell? ⟨wr.heap.size, 2, none⟩ = some (.bool sd) := cell_of_block hbk 2
                    have u0 := cell_past hb3' (cell_lt z0) z0
                    have u1 := cell_past hb3' (cell_lt z1) z1
                    have u2 := cell_past hb3' (cell_lt z2) z2
                    have HBR := Lib.hid (Below.via hb3' hszq HBQ.out)
                    have hs3 := HBR.out.size
                    have hl3 : wr.heap.size < W3.heap.size := cell_lt l0
                    have hg3l : g2 < W3.heap.size := cell_lt u0
                    rw [← hW3]
                    clear hW3 hbA hb3' hbk z0 z1 z2 x0 x1 x2
                    (refine wp_region_quiet_ext (by kernel_rfl) (by kernel_rfl) ?_; (repeat (first | go_big_quiet_step ((fail)) | quiet_step ((fail)))); refine wpQuiet_nil ?_; intro w3 hw3; obtain hb3 := below_of_ext hw3; clear hw3; obtain ⟨hc3, hf3⟩ := bcell hb3; have hz3 := hb3.size; (try simp at hz3))
                    have HB4 := Lib.hid (Below.via hb3 hs3 HBR.out)
                    clear hb3 l0 l1 l2 u0 u1 u2
                    go_wp2
                    go_roundw
                    case rel => exact ⟨k + 1, by go_num, hlt, HB4.out⟩
                    case measure => simp [numOf]; omega
                  · rw [if_neg hkj] at z1
                    have hkj2 : ((k : Int) == (j : Int)) = false := by simp; omega
                    clear hkj hlk
                    generalize (((R[k]).L.length : Nat) : Int) = ln at *
                    generalize (((R[k]).page : Nat) : Int) = pg at *
                    generalize (R[k]).sealed = sd at *
                    go_upto_region 33 with (fail)
                    obtain ⟨W3, hW3⟩ : ∃ W3, W3 = wr.alloc (.cells #[.int .i64 pg, .int .i64 ln, .bool sd] 52) := ⟨_, rfl⟩
                    have hbA : Below wr.heap.size wr (wr.alloc (.cells #[.int .i64 pg, .int .i64 ln, .bool sd] 52)) := (Below.refl _ _).alloc (Nat.le_refl _) _
                    have hb3' : Below wr.heap.size wr W3 := by rw [hW3]; exact hbA
                    have hbk : W3.heap[wr.heap.size]? = some (.cells #[.int .i64 pg, .int .i64 ln, .bool sd] 52 (0, 0)) := by
                      rw [hW3]
                      exact heap_alloc_new _ _
                    have l0 : W3.cell? ⟨wr.heap.size, 0, none⟩ = some (.int .i64 pg) := cell_of_block hbk 0
                    have l1 : W3.cell? ⟨wr.heap.size, 1, none⟩ = some (.int .i64 ln) := cell_of_block hbk 1
                    have l2 : W3.cell? ⟨wr.heap.size, 2, none⟩ = some (.bool sd) := cell_of_block hbk 2
                    have u0 := cell_past hb3' (cell_lt z0) z0
                    have u1 := cell_past hb3' (cell_lt z1) z1
                    have u2 := cell_past hb3' (cell_lt z2) z2
                    have HBR := Lib.hid (Below.via hb3' hszq HBQ.out)
                    have hs3 := HBR.out.size
                    have hl3 : wr.heap.size < W3.heap.size := cell_lt l0
                    have hg3l : g2 < W3.heap.size := cell_lt u0
                    rw [← hW3]
                    clear hW3 hbA hb3' hbk z0 z1 z2 x0 x1 x2
                    (refine wp_region_quiet_ext (by kernel_rfl) (by kernel_rfl) ?_; (repeat (first | go_big_quiet_step ((fail)) | quiet_step ((fail)))); refine wpQuiet_nil ?_; intro w3 hw3; obtain hb3 := below_of_ext hw3; clear hw3; obtain ⟨hc3, hf3⟩ := bcell hb3; have hz3 := hb3.size; (try simp at hz3))
                    have HB4 := Lib.hid (Below.via hb3 hs3 HBR.out)
                    clear hb3 l0 l1 l2 u0 u1 u2
                    go_wp2
                    go_roundw
                    case rel => exact ⟨k + 1, by go_num, hlt, HB4.out⟩
                    case measure => simp [numOf]; omega
                · obtain rfl : k = R.length := by omega
                  have HBW2 := Lib.hid (Below.via hbq HB7.out.size HB7.out)
                  clear hbq
                  go_wp2
                  go_ret
                  exact ⟨rfl, HBW2.out⟩
      · have hin : (takeP s cls).1 = (-1, 11) := by unfold takeP; rw [if_neg hc]
        have hbr := bestP_range HI2.out.good.inv hc
        rw [hin, hbr]
        by_cases hc0 : cls < 0
        · clear hin hbr hc
          go_wp2
          go_ret
          exact ⟨rfl, HB7.out⟩
        · have hc2 : 11 < cls := by omega
          clear hin hbr hc
          go_wp2
          go_ret
          exact ⟨rfl, HB7.out⟩

end Go.Proofs.YtlljejmblmjjnaaGreat
