/- NewheapRows: its walk. -/
import Derived.Test.YtlljejmblmjjnaaGreatMm
import Derived.Test.YtlljejmblmjjnaaGreatMj
import Derived.OrdersHeld
import Derived.Deep.RegionHeld3
import Derived.WalkKit
import Derived.WalkSpells
import Derived.WalkLawsBesides
import Derived.BigQuiet
import Derived.Lib.Hide
namespace Go.Proofs.YtlljejmblmjjnaaGreat
set_option linter.unusedVariables false
set_option linter.unusedSimpArgs false
open Go.RowKit Go.ChangeMaps

theorem sum_bound {pages : Nat} : ∀ {l : List PS}, (∀ x ∈ l, x.Ok pages) → sumL l ≤ 128 * l.length ∧ sumS l ≤ 128 * l.length
  | [], _ => ⟨Nat.zero_le _, Nat.zero_le _⟩
  | x :: l, h => by
    obtain ⟨h1, h2⟩ := sum_bound (l := l) (fun y hy => h y (List.mem_cons_of_mem _ hy))
    have hok := h x List.mem_cons_self
    have h3 := hok.len
    have h4 := (slB_le hok.cls).2.1
    unfold sumL sumS at *
    rw [List.map_cons, List.map_cons, List.sum_cons, List.sum_cons, List.length_cons]
    omega
theorem sum_take {l : List PS} {k : Nat} (hk : k < l.length) : sumL (l.take (k + 1)) = sumL (l.take k) + l[k].L.length ∧ sumS (l.take (k + 1)) = sumS (l.take k) + slB l[k].cls := by
  unfold sumL sumS
  rw [List.take_succ_eq_append_getElem hk, List.map_append, List.map_append, List.sum_append, List.sum_append]
  exact ⟨rfl, rfl⟩

theorem tail_of {α β : Type} {P G : α → β → Prop} {Goal : Prop} (h1 : (∀ a b, P a b → G a b) → Goal) (h2 : ∀ a b, P a b → G a b) : Goal := h1 h2

set_option maxRecDepth 8000 in
set_option maxHeartbeats 8000000 in
theorem nrows_any (n : Int) (cs : List CallM) (pv : Option Addr) (cap : Nat) (w : World) (h : CallsAt w pv cs) (hcs : ∀ c ∈ cs, CallOk c) :
    Calls Tryz.prog 5 #[.int .i64 n, .slice pv cs.length cap] w fun e w' => e = .returned (.bool true) ∧ Below w.heap.size w w' := by
  have HALV := Lib.hid alive_any
  have HC := Lib.hid h
  have HOK := Lib.hid hcs
  clear h hcs
  go_enter Tryz.func5, Tryz.ntmps5
  (go_wp2_with (fail); refine (HALV.out _).mono ?_; rintro e w1 ⟨rfl, hb⟩; have HB1 := Lib.hid hb; have HC1 := Lib.hid (HC.out.below hb); clear hb; have HGT := Lib.hid (great_any n cs pv cap w1 HC1.out); go_wp2_with (fail); refine HGT.out.mono ?_; rintro e w1' ⟨rfl, rfl⟩)
  cases hgt : greatB n cs with
  | true =>
    go_wp2
    go_ret
    exact ⟨rfl, HB1.out⟩
  | false =>
    obtain ⟨hn40, hc40⟩ := greatB_false hgt
    by_cases hneg : n < 0
    · have HQ := Lib.hid (quiet_no n hneg pv cs.length cap w1)
      clear hgt hn40 hc40
      go_wp2_with (fail)
      refine HQ.out.mono ?_
      rintro e w2 ⟨rfl, hb2⟩
      have HB2 := Lib.hid (Below.via hb2 HB1.out.size HB1.out)
      clear hb2
      go_wp2
      go_ret
      exact ⟨rfl, HB2.out⟩
    · obtain ⟨pages, hpg⟩ : ∃ pages : Nat, n = pages := ⟨n.toNat, by omega⟩
      have HQ : Hid (Calls Tryz.prog 10 #[.int .i64 n, .slice pv cs.length cap] w1 (QuietPost w1 pages (foldP (s0 pages) cs))) := by
        rw [hpg]
        exact quiet_yes pages (by omega) cs HOK.out (by omega) pv cap w1 HC1.out
      clear hgt hneg hpg hn40 hc40
      generalize foldP (s0 pages) cs = s at *
      go_wp2_with (fail)
      refine HQ.out.mono ?_
      rintro e w2 ⟨x, H, rfl, hI⟩
      have HI2 := Lib.hid hI
      obtain ⟨bd1, bd2, bd3⟩ := hI.at_.heap.bound
      have HEACH := Lib.hid hI.good.inv.each
      have hb2s := hI.below.size
      clear hI bd3
      go_wp2
      go_loopw [6, 7, 8, 9] (fun tv fv sv cv wr => ∃ (c : Nat) (t f sl : Int), c ≤ 12 ∧ tv = .int .i64 t ∧ fv = .int .i64 f ∧ sv = .int .i64 sl ∧ cv = .int .i64 c ∧ t = ((under s.A c).length : Nat) ∧ f = (sumL (under s.A c) : Nat) ∧ sl = (sumS (under s.A c) : Nat) ∧ Below w2.heap.size w2 wr) (fun _ _ _ cv _ => 12 - numOf cv)
      case atStart => exact ⟨0, 0, 0, 0, Nat.zero_le _, rfl, rfl, rfl, rfl, by rw [under_zero]; rfl, by rw [under_zero]; rfl, by rw [under_zero]; rfl, Below.refl _ _⟩
      case round =>
        obtain ⟨c, t, f, sl, hc, rfl, rfl, rfl, rfl, ht, hf, hsl, hbl⟩ := hrel
        have hszr := hbl.size
        have HIr := Lib.hid (HI2.out.below' hbl)
        have HBL := Lib.hid hbl
        have hul : (under s.A c).length ≤ s.A.length := List.length_filter_le _ _
        have hub := sum_bound (l := under s.A c) (fun y hy => HEACH.out y (List.mem_filter.1 hy).1)
        have hbt : 0 ≤ t ∧ t ≤ 64 ∧ 0 ≤ f ∧ f ≤ 10000 ∧ 0 ≤ sl ∧ sl ≤ 10000 := by omega
        have cx := HIr.out.cx
        by_cases hlt : c < 12
        · have HU := Lib.hid (under_succ s.A c)
          have HR := Lib.hid (hrows_any HIr.out.at_.heap (c : Int))
          have hcw : IntKind.i64.wrap ((c : Int) + 1) = (c : Int) + 1 := by rw [IntKind.wrap_i64]; omega
          have HTT := Lib.hid (And.intro ht (And.intro hf hsl))
          clear ht hf hsl hbl hul hub
          go_wp2_with (fail)
          refine HR.out.mono ?_
          rintro e w3 ⟨v1, rfl, hrow, hb⟩
          have HV3 : Hid (RowsV w3 wr.heap.size v1 (clsP s.A c)) := hrow
          have HI3 := Lib.hid (HIr.out.below' hb)
          have HB3 := Lib.hid (Below.via hb hszr HBL.out)
          clear hrow hb cx
          obtain ⟨p1, cap1, rfl, hv3⟩ := HV3.out.open
          have HVC := Lib.hid hv3
          have hrl : (clsP s.A c).length ≤ 64 := by
            have h2 : (clsP s.A (c : Int)).length ≤ s.A.length := List.length_filter_le _ _
            omega
          have HRM : Hid (∀ r ∈ clsP s.A (c : Int), r ∈ s.A ∧ r.cls = c) := fun r hr => ⟨(List.mem_filter.1 hr).1, by have := (List.mem_filter.1 hr).2; simp at this; omega⟩
          have hwt : IntKind.i64.wrap (t + ((clsP s.A (c : Int)).length : Nat)) = t + ((clsP s.A (c : Int)).length : Nat) := wraps_i64 _ (by omega) (by omega)
          have hs3 := HB3.out.size
          clear hv3
          generalize hRR : clsP s.A (c : Int) = R at *
          clear hRR
          go_wp2
          go_loopw [7, 8, 11] (fun fv sv iv wq => ∃ (k : Nat) (f' sl' : Int), k ≤ R.length ∧ fv = .int .i64 f' ∧ sv = .int .i64 sl' ∧ iv = .int .i64 k ∧ f' = f + (sumL (R.take k) : Nat) ∧ sl' = sl + (sumS (R.take k) : Nat) ∧ Below w3.heap.size w3 wq) (fun _ _ iv _ => R.length - numOf iv)
          case atStart => exact ⟨0, f, sl, Nat.zero_le _, rfl, rfl, rfl, by simp [sumL], by simp [sumS], Below.refl _ _⟩
          case round =>
            obtain ⟨k, f', sl', hk, rfl, rfl, rfl, hf', hsl', hbq⟩ := hrel
            have hszq := hbq.size
            have HBQ := Lib.hid hbq
            have HIq := Lib.hid (HI3.out.below' hbq)
            have hubk := sum_bound (l := R.take k) (fun y hy => HEACH.out y (HRM.out y (List.mem_of_mem_take hy)).1)
            have htkl : (R.take k).length ≤ 64 := by rw [List.length_take]; omega
            have hbk : 0 ≤ f' ∧ f' ≤ 30000 ∧ 0 ≤ sl' ∧ sl' ≤ 30000 := by omega
            have hbtk := hbt
            by_cases hlk : k < R.length
            · obtain ⟨g1, rfl, -, k0, k1, k2⟩ := HVC.out k hlk
              obtain ⟨hxA, hxc⟩ := HRM.out _ (List.getElem_mem hlk)
              have hokx := HEACH.out _ hxA
              obtain ⟨st, hst⟩ := HIq.out.at_.heap.ent.ent _ hxA (R[k]).page (Nat.le_refl _) (by omega)
              have hent : entAt pages H.E ((256 * (R[k]).page / 256 : Nat) : Int) = some (⟨(R[k]).page, 1, (R[k]).cls, sealN (R[k]).sealed⟩, st) := by
                have hft := hokx.fits
                rw [Nat.mul_div_cancel_left _ (by decide : 0 < 256), entAt_nat, if_pos (by omega)]
                exact hst
              have HAT : Hid (∀ W, Below w3.heap.size w3 W → Calls Tryz.prog 13 #[.pointer (some ⟨H.gr, 0, none⟩), .int .i64 (256 * ((R[k]).page : Int))] W fun e w' => e = .returned (.tuple #[.agg #[.int .i64 (R[k]).page, .int .i64 1, .int .i64 (R[k]).cls, .int .i64 (sealN (R[k]).sealed : Nat)], .bool true]) ∧ Below W.heap.size W w') := fun W hW => by
                rw [show 256 * ((R[k]).page : Int) = ((256 * (R[k]).page : Nat) : Int) by omega]
                exact gAt_some H.gr H.cl pages 0 H.b 0 (256 * (R[k]).page) st _ H.p s.l H.E W (HI3.out.below' hW).at_.heap.ground hent
              have HCK : Hid (∀ W, Below w3.heap.size w3 W → Calls Tryz.prog 19 #[.pointer (some ⟨H.h, 0, none⟩), .int .i64 (R[k]).page] W fun e w' => e = .returned (.int .i64 0) ∧ Below W.heap.size W w') := fun W hW => by
                have hI := HI3.out.below' hW
                have := hcheck_any hI.at_.heap ((R[k]).page : Int)
                rw [hI.good.inv.get hxA] at this
                exact this
              have HWD : Hid (∀ j, j < 128 → (findP s.A ((256 * (R[k]).page + 8 * j : Nat) : Int)).isSome = slotAt (R[k]).cls j ∧ hasP s.A ((256 * (R[k]).page + 8 * j : Nat) : Int) = takenAt R[k] j) := fun j hj => findP_word HI3.out.good.inv hxA hj
              have HCA := Lib.hid (cntS_all hokx.cls)
              have HCT := Lib.hid (cntT_all hokx)
              have HST := Lib.hid (sum_take hlk)
              have hft := hokx.fits
              have hsl2 := slB_le hokx.cls
              have hlen := hokx.len
              have HEMP : Hid ((R[k]).sealed = true → (R[k]).L.length ≠ slB (R[k]).cls) := fun hsd he => by
                have := HI3.out.good.one.opn _ hxA (decide_eq_true he)
                rw [hsd] at this
                cases this
              have hwm : IntKind.i64.wrap (256 * ((R[k]).page : Int)) = 256 * ((R[k]).page : Int) := wraps_i64 _ (by omega) (by omega)
              have y0 := cell_past hbq (cell_lt k0) k0
              have y1 := cell_past hbq (cell_lt k1) k1
              have y2 := cell_past hbq (cell_lt k2) k2
              have e0 := HIq.out.at_.cells.1
              have hki : (0 : Int) ≤ (k : Int) ∧ (k : Int) < R.length := by omega
              have hkw : IntKind.i64.wrap ((k : Int) + 1) = (k : Int) + 1 := by rw [IntKind.wrap_i64]; omega
              have HFF := Lib.hid (And.intro hf' hsl')
              rw [hxc] at HAT
              have HK12 := Lib.hid (And.intro k1 k2)
              clear k0 k1 k2 hxA hokx hst hent hbq hubk htkl hf' hsl'
              generalize hyy : R[k] = y at *
              clear hyy
              go_upto_region 19 with (fail)
              have hgl := cell_lt y0
              have hxl := cell_lt e0
              apply tail_of (P := fun (b : Nat) (W5 : World) => W5.cell? ⟨b, 0, none⟩ = some (.int .i64 y.page) ∧ W5.cell? ⟨b, 1, none⟩ = some (.int .i64 1) ∧ W5.cell? ⟨b, 2, none⟩ = some (.int .i64 c) ∧ W5.cell? ⟨b, 3, none⟩ = some (.int .i64 (sealN y.sealed : Nat)) ∧ Below w3.heap.size w3 W5 ∧ W5.cell? ⟨x, 0, none⟩ = some (.pointer (some ⟨H.gr, 0, none⟩)) ∧ W5.cell? ⟨g1, k * 3, none⟩ = some (.int .i64 y.page))
              case h1 =>
                intro hT
                have HTAIL := Lib.hid hT
                clear hT
                refine wp_region_held_drew (S := fun W : World => W.cell? ⟨x, 0, none⟩ = some (.pointer (some ⟨H.gr, 0, none⟩)) ∧ W.cell? ⟨g1, k * 3, none⟩ = some (.int .i64 y.page)) (by kernel_rfl) ?_ (fun hHeld0 => ?_)
                · exact ⟨e0, y0⟩
                (refine wpAnyH_take (i := 0) (v := ?_) rfl (by kernel_rfl) (by kernel_rfl) (by kernel_rfl) (fun _ _ _ h => h) (Or.inl ⟨by rfl, ?_⟩) (by assumption) ?_; rotate_left; focus (intro w hSw; (try dsimp only at hSw); go_simp; first | done | with_reducible rfl); (try simp only [Act.put, List.setIfInBounds_toArray, List.set_cons_zero, List.set_cons_succ, List.getElem_toArray, List.getElem_cons_zero, List.getElem_cons_succ]))
                (refine wpAnyH_take (i := 1) (v := ?_) rfl (by kernel_rfl) (by kernel_rfl) (by kernel_rfl) (fun _ _ _ h => h) (Or.inl ⟨by rfl, ?_⟩) (by assumption) ?_; rotate_left; focus (intro w hSw; (try dsimp only at hSw); go_simp; first | done | with_reducible rfl); (try simp only [Act.put, List.setIfInBounds_toArray, List.set_cons_zero, List.set_cons_succ, List.getElem_toArray, List.getElem_cons_zero, List.getElem_cons_succ]))
                (refine wpAnyH_take (i := 2) (v := ?_) rfl (by kernel_rfl) (by kernel_rfl) (by kernel_rfl) (fun _ _ _ h => h) (Or.inl ⟨by rfl, ?_⟩) (by assumption) ?_; rotate_left; focus (intro w hSw; (try dsimp only at hSw); go_simp; first | done | with_reducible rfl); (try simp only [Act.put, List.setIfInBounds_toArray, List.set_cons_zero, List.set_cons_succ, List.getElem_toArray, List.getElem_cons_zero, List.getElem_cons_succ]))
                (refine wpAnyH_take (i := 3) (v := ?_) rfl (by kernel_rfl) (by kernel_rfl) (by kernel_rfl) (fun _ _ _ h => h) (Or.inl ⟨by rfl, ?_⟩) (by assumption) ?_; rotate_left; focus (intro w hSw; (try dsimp only at hSw); go_simp; first | done | with_reducible rfl); (try simp only [Act.put, List.setIfInBounds_toArray, List.set_cons_zero, List.set_cons_succ, List.getElem_toArray, List.getElem_cons_zero, List.getElem_cons_succ]))
                (refine wpAnyH_take (i := 4) (v := ?_) rfl (by kernel_rfl) (by kernel_rfl) (by kernel_rfl) (fun _ _ _ h => h) (Or.inl ⟨by rfl, ?_⟩) (by assumption) ?_; rotate_left; focus (intro w hSw; (try dsimp only at hSw); go_simp; first | done | with_reducible rfl); (try simp only [Act.put, List.setIfInBounds_toArray, List.set_cons_zero, List.set_cons_succ, List.getElem_toArray, List.getElem_cons_zero, List.getElem_cons_succ]))
                (refine wpAnyH_take (i := 5) (v := ?_) rfl (by kernel_rfl) (by kernel_rfl) (by kernel_rfl) (fun _ _ _ h => h) (Or.inl ⟨by rfl, ?_⟩) (by assumption) ?_; rotate_left; focus (intro w hSw; (try dsimp only at hSw); go_simp; first | done | with_reducible rfl); (try simp only [Act.put, List.setIfInBounds_toArray, List.set_cons_zero, List.set_cons_succ, List.getElem_toArray, List.getElem_cons_zero, List.getElem_cons_succ]))
                (refine wpAnyH_take (i := 6) (v := ?_) rfl (by kernel_rfl) (by kernel_rfl) (by kernel_rfl) (fun _ _ _ h => h) (Or.inl ⟨by rfl, ?_⟩) (by assumption) ?_; rotate_left; focus (intro w hSw; (try dsimp only at hSw); go_simp; first | done | with_reducible rfl); (try simp only [Act.put, List.setIfInBounds_toArray, List.set_cons_zero, List.set_cons_succ, List.getElem_toArray, List.getElem_cons_zero, List.getElem_cons_succ]))
                (refine wpAnyH_take (i := 7) (v := ?_) rfl (by kernel_rfl) (by kernel_rfl) (by kernel_rfl) (fun _ _ _ h => h) (Or.inl ⟨by rfl, ?_⟩) (by assumption) ?_; rotate_left; focus (intro w hSw; (try dsimp only at hSw); go_simp; first | done | with_reducible rfl); (try simp only [Act.put, List.setIfInBounds_toArray, List.set_cons_zero, List.set_cons_succ, List.getElem_toArray, List.getElem_cons_zero, List.getElem_cons_succ]))
                (refine wpAnyH_take (i := 8) (v := ?_) rfl (by kernel_rfl) (by kernel_rfl) (by kernel_rfl) (fun _ _ _ h => h) (Or.inl ⟨by rfl, ?_⟩) (by assumption) ?_; rotate_left; focus (intro w hSw; (try dsimp only at hSw); go_simp; first | done | with_reducible rfl); (try simp only [Act.put, List.setIfInBounds_toArray, List.set_cons_zero, List.set_cons_succ, List.getElem_toArray, List.getElem_cons_zero, List.getElem_cons_succ]))
                (refine wpAnyH_take (i := 9) (v := ?_) rfl (by kernel_rfl) (by kernel_rfl) (by kernel_rfl) (fun _ _ _ h => h) (Or.inl ⟨by rfl, ?_⟩) (by assumption) ?_; rotate_left; focus (intro w hSw; (try dsimp only at hSw); go_simp; first | done | with_reducible rfl); (try simp only [Act.put, List.setIfInBounds_toArray, List.set_cons_zero, List.set_cons_succ, List.getElem_toArray, List.getElem_cons_zero, List.getElem_cons_succ]))
                refine wpAnyH_ready (rs := [10, 14]) (by kernel_rfl) (by simp) ?_
                refine AllReadyH.cons rfl (fun K hK => ?_) (AllReadyH.cons rfl (fun K hK => ?_) AllReadyH.nil)
                · go_simp
                  go_wp2_with (fail)
                  refine (HAT.out wr.drew (Below.drew HBQ.out)).mono ?_
                  rintro e w4 ⟨rfl, hb4⟩
                  have k0 := cell_past hb4 hxl e0
                  have k1 := cell_past hb4 hgl y0
                  have HB4 := Lib.hid (Below.via hb4 hszq (Below.drew HBQ.out))
                  refine hK.out _ _ ⟨k0, k1⟩ (fun hHeld => ?_)
                  clear hK K hHeld0 hb4
                  (try simp only [Act.put, List.setIfInBounds_toArray, List.set_cons_zero, List.set_cons_succ, List.getElem_toArray, List.getElem_cons_zero, List.getElem_cons_succ])
                  (refine wpAnyH_take (i := 11) (v := ?_) rfl (by kernel_rfl) (by kernel_rfl) (by kernel_rfl) (fun _ _ _ h => h) (Or.inl ⟨by rfl, ?_⟩) (by assumption) ?_; rotate_left; focus (intro w hSw; (try dsimp only at hSw); go_simp; first | done | with_reducible rfl); (try simp only [Act.put, List.setIfInBounds_toArray, List.set_cons_zero, List.set_cons_succ, List.getElem_toArray, List.getElem_cons_zero, List.getElem_cons_succ]))
                  (refine wpAnyH_take (i := 12) (v := ?_) rfl (by kernel_rfl) (by kernel_rfl) (by kernel_rfl) (fun _ _ _ h => h) (Or.inl ⟨by rfl, ?_⟩) (by assumption) ?_; rotate_left; focus (intro w hSw; (try dsimp only at hSw); go_simp; first | done | with_reducible rfl); (try simp only [Act.put, List.setIfInBounds_toArray, List.set_cons_zero, List.set_cons_succ, List.getElem_toArray, List.getElem_cons_zero, List.getElem_cons_succ]))
                  (refine wpAnyH_take (i := 13) (v := ?_) rfl (by kernel_rfl) (by kernel_rfl) (by kernel_rfl) (fun _ _ _ h => h) (Or.inl ⟨by rfl, ?_⟩) (by assumption) ?_; rotate_left; focus (intro w hSw; (try dsimp only at hSw); go_simp; first | done | with_reducible rfl); (try simp only [Act.put, List.setIfInBounds_toArray, List.set_cons_zero, List.set_cons_succ, List.getElem_toArray, List.getElem_cons_zero, List.getElem_cons_succ]))
                  refine wpAnyH_ready (rs := [14]) (by kernel_rfl) (by simp) ?_
                  refine AllReadyH.cons rfl (fun K hK => ?_) AllReadyH.nil
                  go_simp
                  go_wp2_with (fail)
                  refine hK.out _ _ ⟨Lib.cell?_alloc_some _ k0, Lib.cell?_alloc_some _ k1⟩ (fun hHeld => ?_)
                  clear hK K
                  (try simp only [Act.put, List.setIfInBounds_toArray, List.set_cons_zero, List.set_cons_succ, List.getElem_toArray, List.getElem_cons_zero, List.getElem_cons_succ])
                  refine wpAnyH_ready (rs := [15]) (by kernel_rfl) (by simp) ?_
                  refine AllReadyH.cons rfl (fun K hK => ?_) AllReadyH.nil
                  go_simp
                  go_wp2_with (fail)
                  refine hK.out _ _ ⟨Lib.cell?_alloc_some _ k0, Lib.cell?_alloc_some _ k1⟩ (fun hHeld => ?_)
                  clear hK K
                  (try simp only [Act.put, List.setIfInBounds_toArray, List.set_cons_zero, List.set_cons_succ, List.getElem_toArray, List.getElem_cons_zero, List.getElem_cons_succ])
                  (refine wpAnyH_take (i := 16) (v := ?_) rfl (by kernel_rfl) (by kernel_rfl) (by kernel_rfl) (fun _ _ _ h => h) (Or.inl ⟨by rfl, ?_⟩) (by assumption) ?_; rotate_left; focus (intro w hSw; (try dsimp only at hSw); go_simp; first | done | with_reducible rfl); (try simp only [Act.put, List.setIfInBounds_toArray, List.set_cons_zero, List.set_cons_succ, List.getElem_toArray, List.getElem_cons_zero, List.getElem_cons_succ]))
                  refine wpAnyH_done (by kernel_rfl) ?_ _
                  (try simp only [Act.put, List.setIfInBounds_toArray, List.set_cons_zero, List.set_cons_succ, List.getElem_toArray, List.getElem_cons_zero, List.getElem_cons_succ])
                  obtain ⟨W5, hW5⟩ : ∃ W5, W5 = w4.alloc (.cells #[.int .i64 y.page, .int .i64 1, .int .i64 c, .int .i64 (sealN y.sealed : Nat)] 42) := ⟨_, rfl⟩
                  have HP : Hid (W5.cell? ⟨w4.heap.size, 0, none⟩ = some (.int .i64 y.page) ∧ W5.cell? ⟨w4.heap.size, 1, none⟩ = some (.int .i64 1) ∧ W5.cell? ⟨w4.heap.size, 2, none⟩ = some (.int .i64 c) ∧ W5.cell? ⟨w4.heap.size, 3, none⟩ = some (.int .i64 (sealN y.sealed : Nat)) ∧ Below w3.heap.size w3 W5 ∧ W5.cell? ⟨x, 0, none⟩ = some (.pointer (some ⟨H.gr, 0, none⟩)) ∧ W5.cell? ⟨g1, k * 3, none⟩ = some (.int .i64 y.page)) := by
                    rw [hW5]
                    refine ⟨?_, ?_, ?_, ?_, Below.alloc HB4.out (by have := HB4.out.size; omega) _, Lib.cell?_alloc_some _ k0, Lib.cell?_alloc_some _ k1⟩
                    all_goals simp [go_sem]
                  rw [← hW5]
                  clear hW5 hHeld k0 k1 HB4
                  generalize w4.heap.size = b at *
                  exact HTAIL.out b W5 HP.out
                · go_simp
                  go_wp2_with (fail)
                  have k0 : (wr.drew.alloc (.cells #[.int .i64 0, .int .i64 0, .int .i64 0, .int .i64 0] 42)).cell? ⟨x, 0, none⟩ = some (.pointer (some ⟨H.gr, 0, none⟩)) := Lib.cell?_alloc_some _ e0
                  have k1 : (wr.drew.alloc (.cells #[.int .i64 0, .int .i64 0, .int .i64 0, .int .i64 0] 42)).cell? ⟨g1, k * 3, none⟩ = some (.int .i64 y.page) := Lib.cell?_alloc_some _ y0
                  refine hK.out _ _ ⟨k0, k1⟩ (fun hHeld => ?_)
                  clear hK K hHeld0
                  (try simp only [Act.put, List.setIfInBounds_toArray, List.set_cons_zero, List.set_cons_succ, List.getElem_toArray, List.getElem_cons_zero, List.getElem_cons_succ])
                  have HBA : Hid (Below w3.heap.size w3 (wr.drew.alloc (.cells #[.int .i64 0, .int .i64 0, .int .i64 0, .int .i64 0] 42))) := Below.alloc (Below.drew HBQ.out) hszq _
                  have hbk : (wr.drew.alloc (.cells #[.int .i64 0, .int .i64 0, .int .i64 0, .int .i64 0] 42)).heap[wr.heap.size]? = some (.cells #[.int .i64 0, .int .i64 0, .int .i64 0, .int .i64 0] 42 (0, 0)) := heap_alloc_new wr.drew _
                  refine wpAnyH_ready (rs := [10]) (by kernel_rfl) (by simp) ?_
                  refine AllReadyH.cons rfl (fun K hK => ?_) AllReadyH.nil
                  go_simp
                  go_wp2_with (fail)
                  refine (HAT.out _ HBA.out).mono ?_
                  rintro e w4 ⟨rfl, hb4⟩
                  have k0 := cell_past hb4 (cell_lt k0) k0
                  have k1 := cell_past hb4 (cell_lt k1) k1
                  have HB4 := Lib.hid (Below.via hb4 HBA.out.size HBA.out)
                  have hb4k := (hb4.block _ (lt_of_block hbk)).trans hbk
                  have q0 := cell_of_block hb4k 0
                  have q1 := cell_of_block hb4k 1
                  have q2 := cell_of_block hb4k 2
                  have q3 := cell_of_block hb4k 3
                  have r0 := frozen_of_block hb4k 0
                  have r1 := frozen_of_block hb4k 1
                  have r2 := frozen_of_block hb4k 2
                  have r3 := frozen_of_block hb4k 3
                  simp only [List.getElem?_toArray, List.getElem?_cons_zero, List.getElem?_cons_succ] at q0 q1 q2 q3
                  clear hbk
                  refine hK.out _ _ ⟨k0, k1⟩ (fun hHeld => ?_)
                  clear hK K hb4
                  (try simp only [Act.put, List.setIfInBounds_toArray, List.set_cons_zero, List.set_cons_succ, List.getElem_toArray, List.getElem_cons_zero, List.getElem_cons_succ])
                  (refine wpAnyH_take (i := 11) (v := ?_) rfl (by kernel_rfl) (by kernel_rfl) (by kernel_rfl) (fun _ _ _ h => h) (Or.inl ⟨by rfl, ?_⟩) (by assumption) ?_; rotate_left; focus (intro w hSw; (try dsimp only at hSw); go_simp; first | done | with_reducible rfl); (try simp only [Act.put, List.setIfInBounds_toArray, List.set_cons_zero, List.set_cons_succ, List.getElem_toArray, List.getElem_cons_zero, List.getElem_cons_succ]))
                  (refine wpAnyH_take (i := 12) (v := ?_) rfl (by kernel_rfl) (by kernel_rfl) (by kernel_rfl) (fun _ _ _ h => h) (Or.inl ⟨by rfl, ?_⟩) (by assumption) ?_; rotate_left; focus (intro w hSw; (try dsimp only at hSw); go_simp; first | done | with_reducible rfl); (try simp only [Act.put, List.setIfInBounds_toArray, List.set_cons_zero, List.set_cons_succ, List.getElem_toArray, List.getElem_cons_zero, List.getElem_cons_succ]))
                  (refine wpAnyH_take (i := 13) (v := ?_) rfl (by kernel_rfl) (by kernel_rfl) (by kernel_rfl) (fun _ _ _ h => h) (Or.inl ⟨by rfl, ?_⟩) (by assumption) ?_; rotate_left; focus (intro w hSw; (try dsimp only at hSw); go_simp; first | done | with_reducible rfl); (try simp only [Act.put, List.setIfInBounds_toArray, List.set_cons_zero, List.set_cons_succ, List.getElem_toArray, List.getElem_cons_zero, List.getElem_cons_succ]))
                  refine wpAnyH_ready (rs := [15]) (by kernel_rfl) (by simp) ?_
                  refine AllReadyH.cons rfl (fun K hK => ?_) AllReadyH.nil
                  go_simp
                  go_wp2_with (fail)
                  obtain ⟨W5, hW5⟩ : ∃ W5, W5 = (((w4.setCell ⟨wr.heap.size, 0, none⟩ (.int .i64 y.page)).setCell ⟨wr.heap.size, 1, none⟩ (.int .i64 1)).setCell ⟨wr.heap.size, 2, none⟩ (.int .i64 c)).setCell ⟨wr.heap.size, 3, none⟩ (.int .i64 (sealN y.sealed : Nat)) := ⟨_, rfl⟩
                  have hbx : W5.heap[wr.heap.size]? = some (.cells #[.int .i64 y.page, .int .i64 1, .int .i64 c, .int .i64 (sealN y.sealed : Nat)] 42 (0, 0)) := by
                    rw [hW5, heap_setCell_eq (heap_setCell_eq (heap_setCell_eq (heap_setCell_eq hb4k _) _) _) _]
                    rfl
                  have hnx : wr.heap.size ≠ x := by have := hxl; omega
                  have hng : wr.heap.size ≠ g1 := by have := hgl; omega
                  have HP : Hid (W5.cell? ⟨wr.heap.size, 0, none⟩ = some (.int .i64 y.page) ∧ W5.cell? ⟨wr.heap.size, 1, none⟩ = some (.int .i64 1) ∧ W5.cell? ⟨wr.heap.size, 2, none⟩ = some (.int .i64 c) ∧ W5.cell? ⟨wr.heap.size, 3, none⟩ = some (.int .i64 (sealN y.sealed : Nat)) ∧ Below w3.heap.size w3 W5 ∧ W5.cell? ⟨x, 0, none⟩ = some (.pointer (some ⟨H.gr, 0, none⟩)) ∧ W5.cell? ⟨g1, k * 3, none⟩ = some (.int .i64 y.page)) := by
                    refine ⟨cell_of_block hbx 0, cell_of_block hbx 1, cell_of_block hbx 2, cell_of_block hbx 3, ?_, ?_, ?_⟩
                    · rw [hW5]; exact Below.setCell (Below.setCell (Below.setCell (Below.setCell HB4.out hszq _) hszq _) hszq _) hszq _
                    · rw [hW5]; exact (World.cell?_setCell_far _ _ _ _ hnx).trans ((World.cell?_setCell_far _ _ _ _ hnx).trans ((World.cell?_setCell_far _ _ _ _ hnx).trans ((World.cell?_setCell_far _ _ _ _ hnx).trans k0)))
                    · rw [hW5]; exact (World.cell?_setCell_far _ _ _ _ hng).trans ((World.cell?_setCell_far _ _ _ _ hng).trans ((World.cell?_setCell_far _ _ _ _ hng).trans ((World.cell?_setCell_far _ _ _ _ hng).trans k1)))
                  rw [← hW5]
                  refine hK.out _ W5 ⟨HP.out.2.2.2.2.2.1, HP.out.2.2.2.2.2.2⟩ (fun hHeld => ?_)
                  clear hK K
                  (try simp only [Act.put, List.setIfInBounds_toArray, List.set_cons_zero, List.set_cons_succ, List.getElem_toArray, List.getElem_cons_zero, List.getElem_cons_succ])
                  (refine wpAnyH_take (i := 16) (v := ?_) rfl (by kernel_rfl) (by kernel_rfl) (by kernel_rfl) (fun _ _ _ h => h) (Or.inl ⟨by rfl, ?_⟩) (by assumption) ?_; rotate_left; focus (intro w hSw; (try dsimp only at hSw); go_simp; first | done | with_reducible rfl); (try simp only [Act.put, List.setIfInBounds_toArray, List.set_cons_zero, List.set_cons_succ, List.getElem_toArray, List.getElem_cons_zero, List.getElem_cons_succ]))
                  refine wpAnyH_done (by kernel_rfl) ?_ _
                  (try simp only [Act.put, List.setIfInBounds_toArray, List.set_cons_zero, List.set_cons_succ, List.getElem_toArray, List.getElem_cons_zero, List.getElem_cons_succ])
                  clear hW5 hHeld k0 k1 HB4 hbx hnx hng q0 q1 q2 q3 r0 r1 r2 r3 hb4k
                  generalize wr.heap.size = b at *
                  exact HTAIL.out b W5 HP.out
              case h2 =>
                rintro b w5 ⟨B0, B1, B2, B3, hb5, k0, k1⟩
                have HB5 := Lib.hid hb5
                have hs5 := hb5.size
                have k2 := cell_past hb5 (cell_lt HK12.out.1) HK12.out.1
                have k3 := cell_past hb5 (cell_lt HK12.out.2) HK12.out.2
                have k4 := cell_past hb5 (cell_lt HI3.out.at_.cells.2) HI3.out.at_.cells.2
                clear hb5
                have hE1 : decide (((sealN y.sealed : Nat) : Int) = 1) = y.sealed := by cases y.sealed <;> decide
                have hE2 : (((sealN y.sealed : Nat) : Int) == 1) = y.sealed := by cases y.sealed <;> decide
                have hE3 : (y.sealed != y.sealed) = false := by cases y.sealed <;> decide
                generalize ((sealN y.sealed : Nat) : Int) = sn at *
                go_upto_region 20 with (fail)
                (refine wp_region_quiet_ext (by kernel_rfl) (by kernel_rfl) ?_; (repeat (first | go_big_quiet_step ((go_at_call 19; exact Calls.ext_of (HCK.out _ (Below.via (below_ext _ _) hs5 HB5.out)))) | quiet_step ((go_at_call 19; exact Calls.ext_of (HCK.out _ (Below.via (below_ext _ _) hs5 HB5.out)))))); refine wpQuiet_nil ?_; intro w4 hw4; obtain hb4 := below_of_ext hw4; clear hw4; obtain ⟨hc4, hf4⟩ := bcell hb4; have hz4 := hb4.size; (try simp at hz4))
                have HB6 := Lib.hid (Below.via hb4 hs5 HB5.out)
                have l0 := cell_past hb4 (cell_lt k1) k1
                have l2 := cell_past hb4 (cell_lt k2) k2
                have l3 := cell_past hb4 (cell_lt k3) k3
                have l4 := cell_past hb4 (cell_lt k4) k4
                have hs6 := HB6.out.size
                clear hc4 hf4 hb4 hz4 B0 B1 B2 B3 k0 k1 k2 k3 k4 hE1 hE2 hE3 HCK HB5 hs5
                go_wp2
                go_loopw [14, 15, 16] (fun nv kv av wq => ∃ (j : Nat) (n' k' at_ : Int), j ≤ 128 ∧ nv = .int .i64 n' ∧ kv = .int .i64 k' ∧ av = .int .i64 at_ ∧ n' = (cntS c j : Nat) ∧ k' = (cntT y j : Nat) ∧ at_ = ((256 * y.page + 8 * j : Nat) : Int) ∧ Below w4.heap.size w4 wq) (fun _ _ av _ => 256 * y.page + 1024 - numOf av)
                case atStart => exact ⟨0, 0, 0, _, Nat.zero_le _, rfl, rfl, rfl, rfl, rfl, by omega, Below.refl _ _⟩
                case round =>
                  obtain ⟨j, n', k', at_, hj, rfl, rfl, rfl, hn', hk', hat, hbj⟩ := hrel
                  have hszj := hbj.size
                  have HBJ := Lib.hid (Below.via hbj hs6 HB6.out)
                  have HBJ4 := Lib.hid hbj
                  have HIj := Lib.hid (HI3.out.below' HBJ.out)
                  have m0 := cell_past hbj (cell_lt l0) l0
                  have m2 := cell_past hbj (cell_lt l2) l2
                  have m3 := cell_past hbj (cell_lt l3) l3
                  have m4 := cell_past hbj (cell_lt l4) l4
                  have hcS : cntS c j ≤ 128 := Nat.le_trans (List.length_filter_le _ _) (by rw [List.length_range]; exact hj)
                  have hcT : cntT y j ≤ 128 := Nat.le_trans (List.length_filter_le _ _) (by rw [List.length_range]; exact hj)
                  have hnk : 0 ≤ n' ∧ n' ≤ 128 ∧ 0 ≤ k' ∧ k' ≤ 128 := by omega
                  have hav : 256 * (y.page : Int) ≤ at_ ∧ at_ ≤ 256 * (y.page : Int) + 1024 := by omega
                  clear hbj
                  by_cases hlj : j < 128
                  · have hav2 : at_ < 256 * (y.page : Int) + 1024 := by omega
                    have HWJ := Lib.hid (HWD.out j hlj)
                    have HCS := Lib.hid (cntS_succ c j)
                    have HCT2 := Lib.hid (cntT_succ y j)
                    have HFD := Lib.hid (hfind_any HIj.out.at_.heap at_)
                    have HHS : Hid (∀ W, Below w3.heap.size w3 W → Calls Tryz.prog 11 #[.pointer (some ⟨H.h, 0, none⟩), .int .i64 at_] W fun e w' => e = .returned (.bool (hasP s.A at_)) ∧ Below W.heap.size W w') := fun W hW => hhas_any (HI3.out.below' hW).at_.heap at_
                    rw [← hat] at HWJ
                    have HEQ := Lib.hid (And.intro hn' (And.intro hk' hat))
                    clear hn' hk' hat hcS hcT
                    rw [hxc] at HWJ
                    have haw : IntKind.i64.wrap (at_ + 8) = at_ + 8 := wraps_i64 _ (by omega) (by omega)
                    have hpw : IntKind.i64.wrap (256 * (y.page : Int) + 1024) = 256 * (y.page : Int) + 1024 := wraps_i64 _ (by omega) (by omega)
                    have hnw : IntKind.i64.wrap (n' + 1) = n' + 1 := wraps_i64 _ (by omega) (by omega)
                    have hkw2 : IntKind.i64.wrap (k' + 1) = k' + 1 := wraps_i64 _ (by omega) (by omega)
                    cases hfp : findP s.A at_ with
                    | none =>
                      have HSL : Hid (slotAt c j = false) := by have := HWJ.out.1; rw [hfp] at this; exact this.symm
                      have HTK : Hid (takenAt y j = false) := by show _ = _; unfold takenAt; rw [hxc, HSL.out]; rfl
                      rw [hfp] at HFD
                      simp only [findPV] at HFD
                      clear hfp HWJ
                      go_wp2_with (fail)
                      refine HFD.out.mono ?_
                      rintro e w7 ⟨rfl, hb7⟩
                      have HB7 := Lib.hid (Below.via hb7 hszj HBJ4.out)
                      clear hb7
                      go_wp2
                      go_roundw
                      case rel => exact ⟨j + 1, n', k', at_ + 8, hlj, rfl, rfl, by go_num, by rw [HEQ.out.1, HCS.out, HSL.out]; rfl, by rw [HEQ.out.2.1, HCT2.out, HTK.out]; rfl, by rw [HEQ.out.2.2]; omega, HB7.out.alloc (by have := HB7.out.size; omega) _⟩
                      case measure => simp [numOf]; omega
                    | some q =>
                      have HSL : Hid (slotAt c j = true) := by have := HWJ.out.1; rw [hfp] at this; exact this.symm
                      have HTKE := Lib.hid HWJ.out.2
                      rw [hfp] at HFD
                      simp only [findPV] at HFD
                      clear hfp HWJ
                      generalize (q.1.page : Int) = qp at *
                      generalize (q.2 : Int) = qs at *
                      generalize hasP s.A at_ = hs at *
                      cases htk : takenAt y j with
                      | false =>
                        have hsf : hs = false := HTKE.out.trans htk
                        have HTK : Hid (takenAt y j = false) := htk
                        subst hsf
                        clear htk HTKE
                        go_wp2_with (fail)
                        refine HFD.out.mono ?_
                        rintro e w7 ⟨rfl, hb7⟩
                        have HB7 := Lib.hid (Below.via hb7 hszj HBJ4.out)
                        have hs7 := HB7.out.size
                        have o4 := cell_past hb7 (cell_lt m4) m4
                        clear hb7
                        go_upto_region 30 with (fail)
                        obtain ⟨W7, hW7⟩ : ∃ W7, W7 = w7.alloc (.cells #[.int .i64 qp, .int .i64 qs] 56) := ⟨_, rfl⟩
                        have HB7a : Hid (Below w4.heap.size w4 W7) := by rw [hW7]; exact HB7.out.alloc hs7 _
                        have o5 : W7.cell? ⟨x, 1, none⟩ = some (.pointer (some ⟨H.h, 0, none⟩)) := by rw [hW7]; exact Lib.cell?_alloc_some _ o4
                        rw [← hW7]
                        clear hW7 o4
                        go_wp2_with (fail)
                        refine (HHS.out _ (HB6.out.trans (HB7a.out.mono hs6))).mono ?_
                        rintro e w8 ⟨rfl, hb8⟩
                        have HB8 := Lib.hid (Below.via hb8 HB7a.out.size HB7a.out)
                        clear hb8
                        go_wp2
                        go_roundw
                        case rel => exact ⟨j + 1, n' + 1, k', at_ + 8, hlj, by go_num, rfl, by go_num, by rw [HEQ.out.1, HCS.out, HSL.out]; rfl, by rw [HEQ.out.2.1, HCT2.out, HTK.out]; rfl, by rw [HEQ.out.2.2]; omega, HB8.out⟩
                        case measure => simp [numOf]; omega
                      | true =>
                        have hsf : hs = true := HTKE.out.trans htk
                        have HTK : Hid (takenAt y j = true) := htk
                        subst hsf
                        clear htk HTKE
                        go_wp2_with (fail)
                        refine HFD.out.mono ?_
                        rintro e w7 ⟨rfl, hb7⟩
                        have HB7 := Lib.hid (Below.via hb7 hszj HBJ4.out)
                        have hs7 := HB7.out.size
                        have o4 := cell_past hb7 (cell_lt m4) m4
                        clear hb7
                        go_upto_region 30 with (fail)
                        obtain ⟨W7, hW7⟩ : ∃ W7, W7 = w7.alloc (.cells #[.int .i64 qp, .int .i64 qs] 56) := ⟨_, rfl⟩
                        have HB7a : Hid (Below w4.heap.size w4 W7) := by rw [hW7]; exact HB7.out.alloc hs7 _
                        have o5 : W7.cell? ⟨x, 1, none⟩ = some (.pointer (some ⟨H.h, 0, none⟩)) := by rw [hW7]; exact Lib.cell?_alloc_some _ o4
                        rw [← hW7]
                        clear hW7 o4
                        go_wp2_with (fail)
                        refine (HHS.out _ (HB6.out.trans (HB7a.out.mono hs6))).mono ?_
                        rintro e w8 ⟨rfl, hb8⟩
                        have HB8 := Lib.hid (Below.via hb8 HB7a.out.size HB7a.out)
                        clear hb8
                        go_wp2
                        go_roundw
                        case rel => exact ⟨j + 1, n' + 1, k' + 1, at_ + 8, hlj, by go_num, by go_num, by go_num, by rw [HEQ.out.1, HCS.out, HSL.out]; rfl, by rw [HEQ.out.2.1, HCT2.out, HTK.out]; rfl, by rw [HEQ.out.2.2]; omega, HB8.out⟩
                        case measure => simp [numOf]; omega
                  · obtain rfl : j = 128 := by omega
                    have HN : Hid (n' = (slB c : Nat) ∧ (k' : Int) + y.L.length = (slB c : Nat)) := by
                      have h1 := HCA.out
                      have h2 := HCT.out
                      rw [hxc] at h1 h2
                      refine ⟨by rw [hn', h1], ?_⟩
                      rw [hk']
                      omega
                    have hSB : slB c = slB y.cls := by rw [hxc]
                    have HEM2 : Hid (y.sealed = true → k' ≠ 0) := fun hsd e => HEMP.out hsd (by have := HN.out.2; omega)
                    have hav3 : ¬ at_ < 256 * (y.page : Int) + 1024 := by omega
                    have hpw : IntKind.i64.wrap (256 * (y.page : Int) + 1024) = 256 * (y.page : Int) + 1024 := wraps_i64 _ (by omega) (by omega)
                    have hnkw : IntKind.i64.wrap (n' - k') = (y.L.length : Int) := by have h1 := HN.out; rw [wraps_i64 _ (by omega) (by omega)]; omega
                    have hfw : IntKind.i64.wrap (f' + (y.L.length : Int)) = f' + (y.L.length : Int) := wraps_i64 _ (by omega) (by omega)
                    have hsw : IntKind.i64.wrap (sl' + n') = sl' + n' := wraps_i64 _ (by omega) (by omega)
                    have HEQ : Hid (f' + (y.L.length : Int) = f + (sumL (R.take (k + 1)) : Nat) ∧ sl' + n' = sl + (sumS (R.take (k + 1)) : Nat)) := by
                      have h1 := HST.out
                      have h2 := HFF.out
                      have h3 := HN.out.1
                      rw [hxc] at h1
                      rw [h1.1, h1.2]
                      rw [Int.natCast_add, Int.natCast_add]
                      exact ⟨by rw [h2.1]; omega, by rw [h2.2, h3]; omega⟩
                    clear hn' hk' hat hcS hcT hxc HST HCA HCT hlen
                    generalize ((y.L.length : Nat) : Int) = ln at *
                    cases hsd : y.sealed with
                    | true =>
                      have hk0 := HEM2.out hsd
                      rw [hsd] at m3
                      clear HEM2 hsd
                      go_wp2
                      go_roundw
                      case rel => exact ⟨k + 1, _, _, hlk, by go_num, by go_num, by go_num, HEQ.out.1, HEQ.out.2, HBJ.out⟩
                      case measure => simp [numOf]; omega
                    | false =>
                      rw [hsd] at m3
                      clear HEM2 hsd
                      go_wp2
                      go_roundw
                      case rel => exact ⟨k + 1, _, _, hlk, by go_num, by go_num, by go_num, HEQ.out.1, HEQ.out.2, HBJ.out⟩
                      case measure => simp [numOf]; omega
            · obtain rfl : k = R.length := by omega
              rw [List.take_length] at hf' hsl'
              have HEND : Hid (t + ((R.length : Nat) : Int) = ((under s.A (c + 1)).length : Nat) ∧ f' = (sumL (under s.A (c + 1)) : Nat) ∧ sl' = (sumS (under s.A (c + 1)) : Nat)) := by
                have h1 := HU.out
                have h2 := HTT.out
                rw [h1.1, h1.2.1, h1.2.2, Int.natCast_add, Int.natCast_add, Int.natCast_add]
                exact ⟨by rw [h2.1], by rw [hf', h2.2.1], by rw [hsl', h2.2.2]⟩
              have HBE := Lib.hid (Below.via hbq (by have := HB3.out.size; omega) HB3.out)
              have hbt2 : t + ((R.length : Nat) : Int) ≤ 200 := by omega
              clear hf' hsl' hubk htkl hbq HVC HU HTT
              go_wp2
              go_roundw
              case rel => exact ⟨c + 1, _, _, _, by omega, by go_num, by go_num, by go_num, by go_num, HEND.out.1, HEND.out.2.1, HEND.out.2.2, HBE.out⟩
              case measure => simp [numOf]; omega
        · obtain rfl : c = 12 := by omega
          have hua := under_all (A := s.A) (fun y hy => (HEACH.out y hy).cls)
          rw [hua] at ht hf hsl hub
          have hsum := takenP_sum HEACH.out
          have HPG := Lib.hid (pages_any HIr.out.at_.heap)
          have HTT : Hid (t = (s.A.length : Nat) ∧ sl - f = ((takenP s.A).length : Nat)) := ⟨ht, by rw [hsl, hf]; omega⟩
          have htl : ((takenP s.A).length : Int) ≤ 10000 := by omega
          have hslf : IntKind.i64.wrap (sl - f) = ((takenP s.A).length : Nat) := by rw [wraps_i64 _ (by omega) (by omega)]; exact HTT.out.2
          have hht : IntKind.i64.wrap (4 * t) = 4 * t := wraps_i64 _ (by omega) (by omega)
          have HHB : Hid (((heldN 0 H.b 0 1 : Nat) : Int) = 4 * t) := by
            show ((H.b : Nat) : Int) = 4 * t
            have h1 := HIr.out.at_.heap.cnt
            have h2 := HIr.out.left
            rw [HTT.out.1, h1, h2]
            omega
          obtain ⟨e0, e1⟩ := HIr.out.at_.cells
          clear hsum hsl hf ht hul hub hbl
          go_wp2_with (fail)
          refine HPG.out.mono ?_
          rintro e w3 ⟨v3, rfl, hown, hb3⟩
          obtain ⟨p3, c3, rfl⟩ := own_slice2 hown
          have HB3 := Lib.hid (Below.via hb3 hszr HBL.out)
          have hs3 := HB3.out.size
          have x0 := cell_past hb3 (cell_lt e0) e0
          have x1 := cell_past hb3 (cell_lt e1) e1
          have HTK := Lib.hid (htaken_any (HI2.out.below' HB3.out).at_.heap)
          have htl3 : t = ((s.A.length : Nat) : Int) := HTT.out.1
          clear hown hb3 e0 e1 cx
          go_wp2_with (fail)
          refine HTK.out.mono ?_
          rintro e w4 ⟨v4, rfl, hints, hb4⟩
          obtain ⟨p4, c4, rfl, -⟩ := hints.at
          have HB4 := Lib.hid (Below.via hb4 hs3 HB3.out)
          have y0 := cell_past hb4 (cell_lt x0) x0
          have HHD := Lib.hid (gHeld_any H.gr H.cl pages 0 H.b 0 H.p s.l H.E 1 (by decide) w4 (HI2.out.below' HB4.out).at_.heap.ground)
          rw [HHB.out, htl3] at HHD
          rw [htl3] at hht
          clear hints hb4 x0 x1
          go_wp2_with (fail)
          refine HHD.out.mono ?_
          rintro e w5 ⟨rfl, rfl⟩
          go_wp2
          go_ret
          exact ⟨rfl, HB1.out.trans ((HI2.out.below' HB4.out).below.mono HB1.out.size)⟩

end Go.Proofs.YtlljejmblmjjnaaGreat
