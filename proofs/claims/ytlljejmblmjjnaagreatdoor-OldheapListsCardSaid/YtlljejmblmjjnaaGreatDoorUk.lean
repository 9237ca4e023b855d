/- OldheapLists: its walk. (printed by gen_uk.py) -/
import Derived.Test.YtlljejmblmjjnaaGreatDoorUj
import Derived.Test.YtlljejmblmjjnaaGreatDoorTe
import Derived.WalkKit
import Derived.WalkSpells
import Derived.WalkLawsBesides
import Derived.BigQuiet
import Derived.Lib.Hide
namespace Go.Proofs.YtlljejmblmjjnaaGreatDoor
set_option linter.unusedVariables false
set_option linter.unusedSimpArgs false
open Go.RowKit Go.ChangeMaps

theorem greatB_false {n : Int} {k : Nat} (h : greatB n k = false) : n ≤ 60 ∧ k ≤ 60 := by
  unfold greatB at h
  simp only [Bool.or_eq_false_iff, decide_eq_false_iff_not] at h
  omega
theorem cloneU {w : World} {H : OHL} {pages : Nat} {s : OP} (h : OHeapM w H pages s) {x : PO} {p : Int} (hg : getO s.A p = some x) : ∀ W, Below w.heap.size w W → Calls Tryz.prog 12 #[.pointer (some ⟨H.h, 0, none⟩), .int .i64 p] W fun e w' => ∃ L, e = .returned (.pointer (some ⟨L.s, 0, none⟩)) ∧ OSlabAt w' L x.O ∧ Below W.heap.size W w' := fun W hW => by
  refine (hslabO_any (h.below hW) p).mono ?_
  rintro e w' (⟨hn, -⟩ | ⟨x', L, hx, rfl, -, -, -, hos, hb⟩)
  · rw [hg] at hn; cases hn
  · rw [hg] at hx
    obtain rfl := Option.some.inj hx
    exact ⟨L, rfl, hos, hb⟩
theorem atU {w : World} {H : OHL} {pages : Nat} {s : OP} (h : OHeapM w H pages s) {x : PO} (hx : x ∈ s.A) : ∀ W, Below w.heap.size w W → Calls Tryz.prog 17 #[.pointer (some ⟨H.gr, 0, none⟩), .int .i64 (256 * (x.page : Int))] W fun e w' => e = .returned (.tuple #[.agg #[.int .i64 x.page, .int .i64 ((0 : Nat) : Int), .int .i64 x.cls, .int .i64 (sealK x.sealed)], .bool true]) ∧ Below W.heap.size W w' := fun W hW => by
  obtain ⟨st, hst⟩ := h.ent.ent x (List.mem_append_left _ hx) x.page (Nat.le_refl _) (by omega)
  have hok := (h.base.each x (List.mem_append_left _ hx)).fits
  have := gAt_some H.gr H.cl pages H.b 0 H.c (256 * x.page) st ⟨x.page, 0, x.cls, sealK x.sealed⟩ H.p s.l H.E W (h.below hW).ground (by
    rw [show 256 * x.page / 256 = x.page by omega, entAt_natO, if_pos (by omega)]
    exact hst)
  rw [show ((256 * x.page : Nat) : Int) = 256 * (x.page : Int) by omega] at this
  exact this

set_option maxRecDepth 8000 in
set_option maxHeartbeats 80000000 in
theorem lists_any (n : Int) (cs : List CallM) (pv : Option Addr) (cap : Nat) (w : World) (hT : Tab w) (h : CallsAt w pv cs) (hcs : ∀ c ∈ cs, CallOk c) :
    Calls Tryz.prog 4 #[.int .i64 n, .slice pv cs.length cap] w fun e w' => e = .returned (.bool true) ∧ Below w.heap.size w w' := by
  have HALV := Lib.hid (alive_any w hT)
  have HTB := Lib.hid hT
  have HC := Lib.hid h
  have HOK := Lib.hid hcs
  clear h hcs hT
  go_enter Tryz.func4, Tryz.ntmps4
  go_wp2_with (fail)
  refine HALV.out.mono ?_
  rintro e w1 ⟨rfl, hb⟩
  have HB1 := Lib.hid hb
  have HC1 := Lib.hid (HC.out.below hb)
  have HT1 := Lib.hid (HTB.out.below hb)
  clear hb
  go_wp2_with (fail)
  refine (great_any n cs.length pv cap w1).mono ?_
  rintro e w1' ⟨rfl, rfl⟩
  cases hgt : greatB n cs.length with
  | true =>
    go_wp2
    go_ret
    exact ⟨rfl, HB1.out⟩
  | false =>
    obtain ⟨hn40, hc40⟩ := greatB_false hgt
    by_cases hneg : n < 0
    · have HQ := Lib.hid (begin_no n hneg w1)
      clear hgt hn40 hc40
      go_wp2_with (fail)
      refine HQ.out.mono ?_
      rintro e w2 ⟨rfl, hb2⟩
      have HB2 := Lib.hid (Below.via hb2 HB1.out.size HB1.out)
      clear hb2
      go_wp2
      go_ret
      exact ⟨rfl, HB2.out⟩
    · obtain ⟨pages, hpg⟩ : ∃ pages : Nat, n = pages := ⟨n.toNat, by omega⟩
      have HQ : Hid (Calls Tryz.prog 9 #[.int .i64 n] w1 (BeginPostO w1 pages)) := by
        rw [hpg]
        exact begin_yes pages (by omega) w1 HT1.out
      have HPOS : Hid (0 < w1.heap.size) := cell_lt (HT1.out 0 (by decide))
      clear hgt hpg hn40
      go_wp2_with (fail)
      refine HQ.out.mono ?_
      intro e w2 hbp
      obtain ⟨x, y, lv0, H0, rfl, hI0⟩ := hbp.world HPOS.out
      have HI0 := Lib.hid hI0
      clear hbp hI0
      go_wp2
      go_loopw [7] (fun i wr => ∃ (k : Nat) (lv : Value) (H1 : OHL) (s : OP), i = .int .i64 k ∧ k ≤ cs.length ∧ WorldI w1 wr x lv H1 pages s) (fun i _ => cs.length - numOf i)
      case atStart => exact ⟨0, lv0, H0, _, rfl, Nat.zero_le _, HI0.out⟩
      case round =>
        obtain ⟨k, lv1, H1, s, rfl, hk, hI⟩ := hrel
        have HI := Lib.hid hI
        by_cases hlt : k < cs.length
        · obtain ⟨g, o, rfl, hcell⟩ := HC1.out k hlt
          have hin : ∀ j v, (callV cs[k])[j]? = some v → wr.cell? ⟨g, o + k * 5 + j, none⟩ = some v := fun j v hv => cell_past hI.below (cell_lt (hcell j v hv)) (hcell j v hv)
          have x0 : wr.cell? ⟨g, o + k * 5, none⟩ = some (.int .i64 cs[k].what) := hin 0 _ rfl
          have x1 : wr.cell? ⟨g, o + k * 5 + 1, none⟩ = some (.int .i64 cs[k].cls) := hin 1 _ rfl
          have x2 : wr.cell? ⟨g, o + k * 5 + 2, none⟩ = some (.int .i64 cs[k].at_) := hin 2 _ rfl
          have x3 : wr.cell? ⟨g, o + k * 5 + 3, none⟩ = some (.int .i64 cs[k].n) := hin 3 _ rfl
          have x4 : wr.cell? ⟨g, o + k * 5 + 4, none⟩ = some (.int .i64 cs[k].pg) := hin 4 _ rfl
          have hi1 : (0 : Int) ≤ (k : Int) ∧ (k : Int) < cs.length := by omega
          have hkw : IntKind.i64.wrap ((k : Int) + 1) = (k : Int) + 1 := by rw [IntKind.wrap_i64]; omega
          have HD := doAll hI cs[k] (HOK.out _ (List.getElem_mem hlt))
          unfold callA at HD
          have HD := Lib.hid HD
          clear hcell hin hI
          generalize hck : cs[k] = c at *
          clear hck
          obtain ⟨what, cls, at_, n, pg⟩ := c
          simp only at x0 x1 x2 x3 x4 HD
          go_wp2_with (fail)
          refine HD.out.mono ?_
          rintro e w2 ⟨⟨v, rfl⟩, lv2, H2, s2, hI2⟩
          have HI2 := Lib.hid hI2
          clear hI2 x0 x1 x2 x3 x4
          go_wp2
          go_roundw
          case rel => exact ⟨k + 1, lv2, H2, s2, by go_num, hlt, HI2.out⟩
          case measure => simp [numOf]; omega
        · obtain rfl : k = cs.length := by omega
          obtain ⟨wA, hwA⟩ : ∃ wA, wA = wr := ⟨_, rfl⟩
          have HIA : Hid (WorldI w1 wA x lv1 H1 pages s) := by rw [hwA]; exact hI
          rw [← hwA]
          clear hwA hI HI hlt hk
          obtain ⟨bd1, bd2, -⟩ := HIA.out.at_.heap.bound
          have HFN := Lib.hid (items_total HIA.out.inv)
          have HFT := Lib.hid (items_taken HIA.out.inv)
          have HLE := Lib.hid (fun k hk => items_le HIA.out.inv (k := k) hk)
          have HSU := Lib.hid (fun l => sum_le_len (f := takenQ s.A) (b := 64) (l := l) fun q _ => takenQ_le HIA.out.inv q)
          go_wp2
          rename_i K0 hK0
          have HK0 := Lib.hid hK0
          clear hK0
          go_loopw [8, 9, 10] (fun tv sv cv wq => ∃ c : Nat, c ≤ 16 ∧ cv = .int .i64 c ∧ tv = .int .i64 ((itemsTo s.R (4 * c)).length : Nat) ∧ sv = .int .i64 (((itemsTo s.R (4 * c)).map (takenQ s.A)).sum : Nat) ∧ Below wA.heap.size wA wq) (fun _ _ cv _ => 16 - numOf cv)
          case atStart => exact ⟨0, Nat.zero_le _, rfl, rfl, rfl, Below.refl _ _⟩
          case round =>
            obtain ⟨c, hc, rfl, rfl, rfl, hbc⟩ := hrel
            have HBC := Lib.hid hbc
            clear hbc
            by_cases hcl : c < 16
            · have hcw : IntKind.i64.wrap ((c : Int) + 1) = (c : Int) + 1 := by rw [IntKind.wrap_i64]; omega
              have hc1 : (c : Int) < 16 := by omega
              go_wp2
              go_loopw [8, 9, 11] (fun tv sv iv wq => ∃ l : Nat, l ≤ 4 ∧ iv = .int .i64 l ∧ tv = .int .i64 ((itemsTo s.R (4 * c + l)).length : Nat) ∧ sv = .int .i64 (((itemsTo s.R (4 * c + l)).map (takenQ s.A)).sum : Nat) ∧ Below wA.heap.size wA wq) (fun _ _ iv _ => 4 - numOf iv)
              case atStart => exact ⟨0, Nat.zero_le _, rfl, rfl, rfl, HBC.out⟩
              case round =>
                rename World => wl
                obtain ⟨l, hl, rfl, rfl, rfl, hbl⟩ := hrel
                have HBL := Lib.hid hbl
                clear hbl
                by_cases hll : l < 4
                · have hIl := HIA.out.below' HBL.out
                  have hszl := HBL.out.size
                  have HR := olist_any hIl.at_.heap c l hcl hll
                  have e1 := hIl.at_.cells.2.1
                  have h5 := HLE.out (4 * c + l + 1) (by omega)
                  have h6 := HSU.out (itemsTo s.R (4 * c + l + 1))
                  rw [itemsTo_succ, List.length_append] at h5 h6
                  rw [List.map_append, List.sum_append] at h6
                  have HTN : Hid ((itemsTo s.R (4 * c + (l + 1))).length = (itemsTo s.R (4 * c + l)).length + (s.R (4 * c + l)).length) := by show _ = _; rw [show 4 * c + (l + 1) = 4 * c + l + 1 by omega, itemsTo_succ, List.length_append]
                  have HSN : Hid (((itemsTo s.R (4 * c + (l + 1))).map (takenQ s.A)).sum = ((itemsTo s.R (4 * c + l)).map (takenQ s.A)).sum + ((s.R (4 * c + l)).map (takenQ s.A)).sum) := by show _ = _; rw [show 4 * c + (l + 1) = 4 * c + l + 1 by omega, itemsTo_succ, List.map_append, List.sum_append]
                  have HOF := Lib.hid (fun q (hq : q ∈ s.R (4 * c + l)) => HIA.out.inv.of_list hcl hll hq)
                  generalize (itemsTo s.R (4 * c + l)).length = tt at *
                  generalize ((itemsTo s.R (4 * c + l)).map (takenQ s.A)).sum = ss at *
                  generalize s.R (4 * c + l) = RK at *
                  obtain ⟨m, hm⟩ : ∃ m, m = RK.length := ⟨_, rfl⟩
                  rw [← hm] at h5 HR HTN
                  have HM := Lib.hid hm
                  have hsm : ((RK.map (takenQ s.A)).sum) ≤ 64 * m := by rw [hm]; exact HSU.out RK
                  have hss : ss ≤ 64 * tt + 64 * m := by omega
                  have hwt : IntKind.i64.wrap ((tt : Int) + (m : Int)) = ((tt + m : Nat) : Int) := by rw [IntKind.wrap_i64]; omega
                  have HR := Lib.hid HR
                  have hlw : IntKind.i64.wrap ((l : Int) + 1) = (l : Int) + 1 := by rw [IntKind.wrap_i64]; omega
                  have hl4 : (l : Int) < 4 := by omega
                  clear hIl hm h6
                  go_wp2_with (fail)
                  refine HR.out.mono ?_
                  rintro e w3 ⟨v, rfl, hrow, hb3⟩
                  obtain ⟨p3, cap3, rfl⟩ := own_slice2 hrow
                  have HROW := Lib.hid hrow
                  have HB3 := Lib.hid (Below.via hb3 hszl HBL.out)
                  clear hrow hb3 e1
                  go_wp2
                  go_loopw [9, 13] (fun sv iv wq => ∃ j : Nat, j ≤ m ∧ iv = .int .i64 j ∧ sv = .int .i64 ((ss + ((RK.take j).map (takenQ s.A)).sum : Nat) : Int) ∧ Below w3.heap.size w3 wq) (fun _ iv _ => m - numOf iv)
                  case atStart => exact ⟨0, Nat.zero_le _, rfl, by simp, Below.refl _ _⟩
                  case round =>
                    rename World => wz
                    obtain ⟨j, hj, rfl, rfl, hbz⟩ := hrel
                    have HBZ := Lib.hid hbz
                    by_cases hlj : j < m
                    · have hjr : j < RK.length := by rw [← HM.out]; exact hlj
                      obtain ⟨xx, hx, hpg, hcls, hkd⟩ := HOF.out RK[j] (List.getElem_mem hjr)
                      have hIz := (HIA.out.below' HB3.out).below' hbz
                      obtain ⟨g, capg, hv, -, -, -, hgl, hce⟩ := own_cells HROW.out (by omega)
                      cases hv
                      have y0 : wz.cell? ⟨g, j, none⟩ = some (.int .i64 ((RK[j] : Int) * 4)) := by
                        refine cell_past hbz hgl ?_
                        rw [hce j (by omega), List.getElem?_map, intsN, List.getElem?_map, List.getElem?_eq_getElem hjr]
                        rfl
                      have hok := HIA.out.inv.each xx hx
                      have hpa : (xx.page : Int) = (RK[j] : Int) * 4 := by omega
                      rw [← hpa] at y0
                      have hget : getO s.A (xx.page : Int) = some xx := HIA.out.inv.get hx
                      have HSL := Lib.hid (cloneU hIz.at_.heap hget)
                      have hat := atU hIz.at_.heap hx
                      have hq := takenQ_of HIA.out.inv hx hpg
                      have HNX : Hid (((RK.take (j + 1)).map (takenQ s.A)).sum = ((RK.take j).map (takenQ s.A)).sum + ones xx.x (slA xx.cls)) := by
                        show _ = _
                        rw [List.take_succ_eq_append_getElem hjr, List.map_append, List.sum_append, List.map_singleton, List.sum_singleton, hq]
                      have hle2 : ((RK.take j).map (takenQ s.A)).sum ≤ 64 * j := by
                        have h9 := HSU.out (RK.take j)
                        rw [List.length_take, Nat.min_eq_left (by omega)] at h9
                        exact h9
                      have hn64 : ones xx.x (slA xx.cls) ≤ 64 := by
                        have h1 := ones_le xx.x (slA xx.cls)
                        have h2 := (szA_all _ hok.cls).2.2.2.2.1
                        omega
                      have HKT := Lib.hid (kind_tells hok)
                      have HKD := Lib.hid hkd
                      have HBE : Hid (@Eq Bool (((sealK xx.sealed : Nat) : Int) == 1) ((l : Int) == 3)) := by
                        show _ = _
                        cases hsd : xx.sealed with
                        | true =>
                          have : l = 3 := by rw [← hkd]; exact PO.kind_three.2 hsd
                          subst this
                          rfl
                        | false =>
                          have : l ≠ 3 := fun e => by
                            rw [← hkd] at e
                            have := PO.kind_three.1 e
                            rw [hsd] at this
                            cases this
                          have e3 : ((l : Int) == 3) = false := by simp; omega
                          rw [e3]
                          rfl
                      have hfit := hok.fits
                      obtain ⟨ez, fz, -⟩ := hIz.at_.cells
                      have hxz := cell_lt ez
                      have hgz := cell_lt y0
                      have hj1 : (0 : Int) ≤ (j : Int) ∧ (j : Int) < m := by omega
                      have hjw : IntKind.i64.wrap ((j : Int) + 1) = (j : Int) + 1 := by rw [IntKind.wrap_i64]; omega
                      have hbse : ((256 * xx.page : Nat) : Int) = 256 * (xx.page : Int) := by omega
                      have hw256 : IntKind.i64.wrap (256 * (xx.page : Int)) = 256 * (xx.page : Int) := wraps_i64 _ (by omega) (by omega)
                      have HCL : Hid (∀ W L, OSlabAt W L xx.O → Calls Tryz.prog 13 #[.pointer (some ⟨L.s, 0, none⟩)] W fun e w' => e = .returned (.int .i64 c) ∧ W = w') := fun W L hW => by
                        have h9 := oclass_any hW
                        rw [show xx.O.cls = c from hcls] at h9
                        exact h9
                      have HBA : Hid (∀ W L, OSlabAt W L xx.O → Calls Tryz.prog 18 #[.pointer (some ⟨L.s, 0, none⟩)] W fun e w' => e = .returned (.int .i64 (256 * (xx.page : Int))) ∧ W = w') := fun W L hW => by
                        have h9 := obase_any hW
                        rw [show ((xx.O.base : Nat) : Int) = 256 * (xx.page : Int) from hbse] at h9
                        exact h9
                      obtain ⟨a4, ha4⟩ : ∃ a4, a4 = sealK xx.sealed := ⟨_, rfl⟩
                      rw [← ha4] at HBE hat
                      rw [hcls] at hat
                      obtain ⟨U, hU⟩ : ∃ U, U = ss + ((RK.take j).map (takenQ s.A)).sum := ⟨_, rfl⟩
                      rw [← hU]
                      have HU := Lib.hid hU
                      obtain ⟨nn, hnn⟩ : ∃ nn, nn = ones xx.x (slA xx.cls) := ⟨_, rfl⟩
                      rw [← hnn] at HNX hn64 HKT
                      have HNN := Lib.hid hnn
                      have hwu : IntKind.i64.wrap ((U : Int) + (nn : Int)) = ((U + nn : Nat) : Int) := by rw [IntKind.wrap_i64]; omega
                      have hbe := HBE.out
                      obtain ⟨a, haa⟩ : ∃ a : Int, a = (xx.page : Int) := ⟨_, rfl⟩
                      rw [← haa] at y0 hw256 HSL HBA hat
                      have HAT0 := Lib.hid hat
                      clear hbz hIz hce hat hget hq hpa hx hbse ha4 hU hnn haa hfit hok hcls hkd
                      clear hpg hjr
                      go_upto_region 25 with (fail)
                      (refine wp_region_quiet_tail_ext 8 (by kernel_rfl) (by kernel_rfl) ?_; simp only [List.take_succ_cons, List.take_zero, List.drop_succ_cons, List.drop_zero])
                      ((repeat (first | go_big_quiet_step ((fail)) | quiet_step ((fail)))); refine wpQuiet_nil ?_; intro w4 hw4; obtain hb4 := below_of_ext hw4; clear hw4; have hz4 := hb4.size; (try simp at hz4))
                      have HB4 := Lib.hid hb4
                      have l0 := cell_past hb4 hgz y0
                      have l1 := cell_past hb4 hxz ez
                      clear hb4 y0 ez fz
                      go_wp2_with (fail)
                      refine (HSL.out _ HB4.out).mono ?_
                      rintro e wv ⟨L, rfl, hos, hbv⟩
                      have HBV := Lib.hid (Below.via hbv HB4.out.size HB4.out)
                      have HOS := Lib.hid hos
                      have y0 := cell_past hbv (cell_lt l0) l0
                      have e0 := cell_past hbv (cell_lt l1) l1
                      have hxl := cell_lt e0
                      have hgl := cell_lt y0
                      have hszv := HBV.out.size
                      obtain ⟨a2, ha2⟩ : ∃ a2, a2 = 0 := ⟨0, rfl⟩
                      have HA2 := Lib.hid ha2
                      have HAT : Hid (∀ W, Below wv.heap.size wv W → Calls Tryz.prog 17 #[.pointer (some ⟨H1.gr, 0, none⟩), .int .i64 (256 * a)] W fun e w' => e = .returned (.tuple #[.agg #[.int .i64 a, .int .i64 (a2 : Nat), .int .i64 c, .int .i64 a4], .bool true]) ∧ Below W.heap.size W w') := fun W hW => by
                        rw [ha2]
                        exact HAT0.out W (Below.via hW hszv HBV.out)
                      clear hbv hos l0 l1 ha2 HB4 hz4
                      obtain ⟨a3, ha3⟩ : ∃ a3, a3 = c := ⟨c, rfl⟩
                      have HA3 := Lib.hid ha3
                      rw [← ha3] at HAT
                      clear ha3
                      go_upto_region 26 with (fail)
                      apply tail_two (P := fun (b : Nat) (W5 : World) => W5.cell? ⟨b, 1, none⟩ = some (.int .i64 a2) ∧ W5.cell? ⟨b, 2, none⟩ = some (.int .i64 a3) ∧ W5.cell? ⟨b, 3, none⟩ = some (.int .i64 a4) ∧ Below wv.heap.size wv W5)
                      case h1 =>
                        intro hT
                        have HTAIL := Lib.hid hT
                        clear hT
                        refine wp_region_held_drew (S := fun W : World => W.cell? ⟨x, 0, none⟩ = some (.pointer (some ⟨H1.gr, 0, none⟩)) ∧ W.cell? ⟨g, j, none⟩ = some (.int .i64 a)) (by kernel_rfl) ?_ (fun hHeld0 => ?_)
                        · exact ⟨e0, y0⟩
                        (refine wpAnyH_take (i := 0) (v := ?_) rfl (by kernel_rfl) (by kernel_rfl) (by kernel_rfl) (fun _ _ _ h => h) (Or.inl ⟨by rfl, ?_⟩) (by assumption) ?_; rotate_left; focus (intro w hSw; (try dsimp only at hSw); go_simp; first | done | with_reducible rfl); (try simp only [Act.put, List.setIfInBounds_toArray, List.set_cons_zero, List.set_cons_succ, List.getElem_toArray, List.getElem_cons_zero, List.getElem_cons_succ]))
                        (refine wpAnyH_take (i := 1) (v := ?_) rfl (by kernel_rfl) (by kernel_rfl) (by kernel_rfl) (fun _ _ _ h => h) (Or.inl ⟨by rfl, ?_⟩) (by assumption) ?_; rotate_left; focus (intro w hSw; (try dsimp only at hSw); go_simp; first | done | with_reducible rfl); (try simp only [Act.put, List.setIfInBounds_toArray, List.set_cons_zero, List.set_cons_succ, List.getElem_toArray, List.getElem_cons_zero, List.getElem_cons_succ]))
                        (refine wpAnyH_take (i := 2) (v := ?_) rfl (by kernel_rfl) (by kernel_rfl) (by kernel_rfl) (fun _ _ _ h => h) (Or.inl ⟨by rfl, ?_⟩) (by assumption) ?_; rotate_left; focus (intro w hSw; (try dsimp only at hSw); go_simp; first | done | with_reducible rfl); (try simp only [Act.put, List.setIfInBounds_toArray, List.set_cons_zero, List.set_cons_succ, List.getElem_toArray, List.getElem_cons_zero, List.getElem_cons_succ]))
                        (refine wpAnyH_take (i := 3) (v := ?_) rfl (by kernel_rfl) (by kernel_rfl) (by kernel_rfl) (fun _ _ _ h => h) (Or.inl ⟨by rfl, ?_⟩) (by assumption) ?_; rotate_left; focus (intro w hSw; (try dsimp only at hSw); go_simp; first | done | with_reducible rfl); (try simp only [Act.put, List.setIfInBounds_toArray, List.set_cons_zero, List.set_cons_succ, List.getElem_toArray, List.getElem_cons_zero, List.getElem_cons_succ]))
                        (refine wpAnyH_take (i := 4) (v := ?_) rfl (by kernel_rfl) (by kernel_rfl) (by kernel_rfl) (fun _ _ _ h => h) (Or.inl ⟨by rfl, ?_⟩) (by assumption) ?_; rotate_left; focus (intro w hSw; (try dsimp only at hSw); go_simp; first | done | with_reducible rfl); (try simp only [Act.put, List.setIfInBounds_toArray, List.set_cons_zero, List.set_cons_succ, List.getElem_toArray, List.getElem_cons_zero, List.getElem_cons_succ]))
                        (refine wpAnyH_take (i := 5) (v := ?_) rfl (by kernel_rfl) (by kernel_rfl) (by kernel_rfl) (fun _ _ _ h => h) (Or.inl ⟨by rfl, ?_⟩) (by assumption) ?_; rotate_left; focus (intro w hSw; (try dsimp only at hSw); go_simp; first | done | with_reducible rfl); (try simp only [Act.put, List.setIfInBounds_toArray, List.set_cons_zero, List.set_cons_succ, List.getElem_toArray, List.getElem_cons_zero, List.getElem_cons_succ]))
                        (refine wpAnyH_take (i := 6) (v := ?_) rfl (by kernel_rfl) (by kernel_rfl) (by kernel_rfl) (fun _ _ _ h => h) (Or.inl ⟨by rfl, ?_⟩) (by assumption) ?_; rotate_left; focus (intro w hSw; (try dsimp only at hSw); go_simp; first | done | with_reducible rfl); (try simp only [Act.put, List.setIfInBounds_toArray, List.set_cons_zero, List.set_cons_succ, List.getElem_toArray, List.getElem_cons_zero, List.getElem_cons_succ]))
                        (refine wpAnyH_take (i := 7) (v := ?_) rfl (by kernel_rfl) (by kernel_rfl) (by kernel_rfl) (fun _ _ _ h => h) (Or.inl ⟨by rfl, ?_⟩) (by assumption) ?_; rotate_left; focus (intro w hSw; (try dsimp only at hSw); go_simp; first | done | with_reducible rfl); (try simp only [Act.put, List.setIfInBounds_toArray, List.set_cons_zero, List.set_cons_succ, List.getElem_toArray, List.getElem_cons_zero, List.getElem_cons_succ]))
                        (refine wpAnyH_take (i := 8) (v := ?_) rfl (by kernel_rfl) (by kernel_rfl) (by kernel_rfl) (fun _ _ _ h => h) (Or.inl ⟨by rfl, ?_⟩) (by assumption) ?_; rotate_left; focus (intro w hSw; (try dsimp only at hSw); go_simp; first | done | with_reducible rfl); (try simp only [Act.put, List.setIfInBounds_toArray, List.set_cons_zero, List.set_cons_succ, List.getElem_toArray, List.getElem_cons_zero, List.getElem_cons_succ]))
                        refine wpAnyH_ready (rs := [9, 13]) (by kernel_rfl) (by simp) ?_
                        refine AllReadyH.cons rfl (fun K hK => ?_) (AllReadyH.cons rfl (fun K hK => ?_) AllReadyH.nil)
                        · go_simp
                          refine (HAT.out wv.drew (Below.drew (Below.refl _ _))).mono ?_
                          rintro e w4 ⟨rfl, hb4⟩
                          have k0 := cell_past hb4 hxl e0
                          have k1 := cell_past hb4 hgl y0
                          have HB4 := Lib.hid (Below.via hb4 (Nat.le_refl _) (Below.drew (Below.refl _ _)))
                          refine hK.out _ _ ⟨k0, k1⟩ (fun hHeld => ?_)
                          clear hK K hHeld0 hb4
                          (try simp only [Act.put, List.setIfInBounds_toArray, List.set_cons_zero, List.set_cons_succ, List.getElem_toArray, List.getElem_cons_zero, List.getElem_cons_succ])
                          (refine wpAnyH_take (i := 10) (v := ?_) rfl (by kernel_rfl) (by kernel_rfl) (by kernel_rfl) (fun _ _ _ h => h) (Or.inl ⟨by rfl, ?_⟩) (by assumption) ?_; rotate_left; focus (intro w hSw; (try dsimp only at hSw); go_simp; first | done | with_reducible rfl); (try simp only [Act.put, List.setIfInBounds_toArray, List.set_cons_zero, List.set_cons_succ, List.getElem_toArray, List.getElem_cons_zero, List.getElem_cons_succ]))
                          (refine wpAnyH_take (i := 11) (v := ?_) rfl (by kernel_rfl) (by kernel_rfl) (by kernel_rfl) (fun _ _ _ h => h) (Or.inl ⟨by rfl, ?_⟩) (by assumption) ?_; rotate_left; focus (intro w hSw; (try dsimp only at hSw); go_simp; first | done | with_reducible rfl); (try simp only [Act.put, List.setIfInBounds_toArray, List.set_cons_zero, List.set_cons_succ, List.getElem_toArray, List.getElem_cons_zero, List.getElem_cons_succ]))
                          (refine wpAnyH_take (i := 12) (v := ?_) rfl (by kernel_rfl) (by kernel_rfl) (by kernel_rfl) (fun _ _ _ h => h) (Or.inl ⟨by rfl, ?_⟩) (by assumption) ?_; rotate_left; focus (intro w hSw; (try dsimp only at hSw); go_simp; first | done | with_reducible rfl); (try simp only [Act.put, List.setIfInBounds_toArray, List.set_cons_zero, List.set_cons_succ, List.getElem_toArray, List.getElem_cons_zero, List.getElem_cons_succ]))
                          refine wpAnyH_ready (rs := [13]) (by kernel_rfl) (by simp) ?_
                          refine AllReadyH.cons rfl (fun K hK => ?_) AllReadyH.nil
                          go_simp
                          refine hK.out _ _ ⟨Lib.cell?_alloc_some _ k0, Lib.cell?_alloc_some _ k1⟩ (fun hHeld => ?_)
                          clear hK K
                          (try simp only [Act.put, List.setIfInBounds_toArray, List.set_cons_zero, List.set_cons_succ, List.getElem_toArray, List.getElem_cons_zero, List.getElem_cons_succ])
                          refine wpAnyH_ready (rs := [14]) (by kernel_rfl) (by simp) ?_
                          refine AllReadyH.cons rfl (fun K hK => ?_) AllReadyH.nil
                          go_simp
                          refine hK.out _ _ ⟨Lib.cell?_alloc_some _ k0, Lib.cell?_alloc_some _ k1⟩ (fun hHeld => ?_)
                          clear hK K
                          (try simp only [Act.put, List.setIfInBounds_toArray, List.set_cons_zero, List.set_cons_succ, List.getElem_toArray, List.getElem_cons_zero, List.getElem_cons_succ])
                          (refine wpAnyH_take (i := 15) (v := ?_) rfl (by kernel_rfl) (by kernel_rfl) (by kernel_rfl) (fun _ _ _ h => h) (Or.inl ⟨by rfl, ?_⟩) (by assumption) ?_; rotate_left; focus (intro w hSw; (try dsimp only at hSw); go_simp; first | done | with_reducible rfl); (try simp only [Act.put, List.setIfInBounds_toArray, List.set_cons_zero, List.set_cons_succ, List.getElem_toArray, List.getElem_cons_zero, List.getElem_cons_succ]))
                          refine wpAnyH_done (by kernel_rfl) ?_ _
                          (try simp only [Act.put, List.setIfInBounds_toArray, List.set_cons_zero, List.set_cons_succ, List.getElem_toArray, List.getElem_cons_zero, List.getElem_cons_succ])
                          obtain ⟨W5, hW5⟩ : ∃ W5, W5 = w4.alloc (.cells #[.int .i64 a, .int .i64 a2, .int .i64 a3, .int .i64 a4] 48) := ⟨_, rfl⟩
                          have HP : Hid (W5.cell? ⟨w4.heap.size, 1, none⟩ = some (.int .i64 a2) ∧ W5.cell? ⟨w4.heap.size, 2, none⟩ = some (.int .i64 a3) ∧ W5.cell? ⟨w4.heap.size, 3, none⟩ = some (.int .i64 a4) ∧ Below wv.heap.size wv W5) := by
                            rw [hW5]
                            refine ⟨?_, ?_, ?_, Below.alloc HB4.out HB4.out.size _⟩
                            all_goals simp [go_sem]
                          rw [← hW5]
                          clear hW5 hHeld k0 k1 HB4
                          generalize w4.heap.size = b at *
                          exact HTAIL.out b W5 HP.out
                        · go_simp
                          have k0 : (wv.drew.alloc (.cells #[.int .i64 0, .int .i64 0, .int .i64 0, .int .i64 0] 48)).cell? ⟨x, 0, none⟩ = some (.pointer (some ⟨H1.gr, 0, none⟩)) := Lib.cell?_alloc_some _ e0
                          have k1 : (wv.drew.alloc (.cells #[.int .i64 0, .int .i64 0, .int .i64 0, .int .i64 0] 48)).cell? ⟨g, j, none⟩ = some (.int .i64 a) := Lib.cell?_alloc_some _ y0
                          refine hK.out _ _ ⟨k0, k1⟩ (fun hHeld => ?_)
                          clear hK K hHeld0
                          (try simp only [Act.put, List.setIfInBounds_toArray, List.set_cons_zero, List.set_cons_succ, List.getElem_toArray, List.getElem_cons_zero, List.getElem_cons_succ])
                          have HBA : Hid (Below wv.heap.size wv (wv.drew.alloc (.cells #[.int .i64 0, .int .i64 0, .int .i64 0, .int .i64 0] 48))) := Below.alloc (Below.drew (Below.refl _ _)) (Nat.le_refl _) _
                          have hbk : (wv.drew.alloc (.cells #[.int .i64 0, .int .i64 0, .int .i64 0, .int .i64 0] 48)).heap[wv.heap.size]? = some (.cells #[.int .i64 0, .int .i64 0, .int .i64 0, .int .i64 0] 48 (0, 0)) := heap_alloc_new wv.drew _
                          refine wpAnyH_ready (rs := [9]) (by kernel_rfl) (by simp) ?_
                          refine AllReadyH.cons rfl (fun K hK => ?_) AllReadyH.nil
                          go_simp
                          refine (HAT.out _ HBA.out).mono ?_
                          rintro e w4 ⟨rfl, hb4⟩
                          have k0 := cell_past hb4 (cell_lt k0) k0
                          have k1 := cell_past hb4 (cell_lt k1) k1
                          have HB4 := Lib.hid (Below.via hb4 HBA.out.size HBA.out)
                          have hb4k := (hb4.block _ (lt_of_block hbk)).trans hbk
                          have q0 := cell_of_block hb4k 0
                          have q1 := cell_of_block hb4k 1
                          have q2 := cell_of_block hb4k 2
                          have q3 := cell_of_block hb4k 3
                          have r0 := frozen_of_block hb4k 0
                          have r1 := frozen_of_block hb4k 1
                          have r2 := frozen_of_block hb4k 2
                          have r3 := frozen_of_block hb4k 3
                          simp only [List.getElem?_toArray, List.getElem?_cons_zero, List.getElem?_cons_succ] at q0 q1 q2 q3
                          clear hbk
                          refine hK.out _ _ ⟨k0, k1⟩ (fun hHeld => ?_)
                          clear hK K hb4
                          (try simp only [Act.put, List.setIfInBounds_toArray, List.set_cons_zero, List.set_cons_succ, List.getElem_toArray, List.getElem_cons_zero, List.getElem_cons_succ])
                          (refine wpAnyH_take (i := 10) (v := ?_) rfl (by kernel_rfl) (by kernel_rfl) (by kernel_rfl) (fun _ _ _ h => h) (Or.inl ⟨by rfl, ?_⟩) (by assumption) ?_; rotate_left; focus (intro w hSw; (try dsimp only at hSw); go_simp; first | done | with_reducible rfl); (try simp only [Act.put, List.setIfInBounds_toArray, List.set_cons_zero, List.set_cons_succ, List.getElem_toArray, List.getElem_cons_zero, List.getElem_cons_succ]))
                          (refine wpAnyH_take (i := 11) (v := ?_) rfl (by kernel_rfl) (by kernel_rfl) (by kernel_rfl) (fun _ _ _ h => h) (Or.inl ⟨by rfl, ?_⟩) (by assumption) ?_; rotate_left; focus (intro w hSw; (try dsimp only at hSw); go_simp; first | done | with_reducible rfl); (try simp only [Act.put, List.setIfInBounds_toArray, List.set_cons_zero, List.set_cons_succ, List.getElem_toArray, List.getElem_cons_zero, List.getElem_cons_succ]))
                          (refine wpAnyH_take (i := 12) (v := ?_) rfl (by kernel_rfl) (by kernel_rfl) (by kernel_rfl) (fun _ _ _ h => h) (Or.inl ⟨by rfl, ?_⟩) (by assumption) ?_; rotate_left; focus (intro w hSw; (try dsimp only at hSw); go_simp; first | done | with_reducible rfl); (try simp only [Act.put, List.setIfInBounds_toArray, List.set_cons_zero, List.set_cons_succ, List.getElem_toArray, List.getElem_cons_zero, List.getElem_cons_succ]))
                          refine wpAnyH_ready (rs := [14]) (by kernel_rfl) (by simp) ?_
                          refine AllReadyH.cons rfl (fun K hK => ?_) AllReadyH.nil
                          go_simp
                          obtain ⟨W5, hW5⟩ : ∃ W5, W5 = (((w4.setCell ⟨wv.heap.size, 0, none⟩ (.int .i64 a)).setCell ⟨wv.heap.size, 1, none⟩ (.int .i64 a2)).setCell ⟨wv.heap.size, 2, none⟩ (.int .i64 a3)).setCell ⟨wv.heap.size, 3, none⟩ (.int .i64 a4) := ⟨_, rfl⟩
                          have hbx : W5.heap[wv.heap.size]? = some (.cells #[.int .i64 a, .int .i64 a2, .int .i64 a3, .int .i64 a4] 48 (0, 0)) := by
                            rw [hW5, heap_setCell_eq (heap_setCell_eq (heap_setCell_eq (heap_setCell_eq hb4k _) _) _) _]
                            rfl
                          have hnx : wv.heap.size ≠ x := by omega
                          have hng : wv.heap.size ≠ g := by omega
                          have HP : Hid (W5.cell? ⟨wv.heap.size, 1, none⟩ = some (.int .i64 a2) ∧ W5.cell? ⟨wv.heap.size, 2, none⟩ = some (.int .i64 a3) ∧ W5.cell? ⟨wv.heap.size, 3, none⟩ = some (.int .i64 a4) ∧ Below wv.heap.size wv W5) := by
                            refine ⟨cell_of_block hbx 1, cell_of_block hbx 2, cell_of_block hbx 3, ?_⟩
                            rw [hW5]
                            exact Below.setCell (Below.setCell (Below.setCell (Below.setCell HB4.out (Nat.le_refl _) _) (Nat.le_refl _) _) (Nat.le_refl _) _) (Nat.le_refl _) _
                          have k0' : W5.cell? ⟨x, 0, none⟩ = some (.pointer (some ⟨H1.gr, 0, none⟩)) := by rw [hW5]; exact (World.cell?_setCell_far _ _ _ _ hnx).trans ((World.cell?_setCell_far _ _ _ _ hnx).trans ((World.cell?_setCell_far _ _ _ _ hnx).trans ((World.cell?_setCell_far _ _ _ _ hnx).trans k0)))
                          have k1' : W5.cell? ⟨g, j, none⟩ = some (.int .i64 a) := by rw [hW5]; exact (World.cell?_setCell_far _ _ _ _ hng).trans ((World.cell?_setCell_far _ _ _ _ hng).trans ((World.cell?_setCell_far _ _ _ _ hng).trans ((World.cell?_setCell_far _ _ _ _ hng).trans k1)))
                          rw [← hW5]
                          refine hK.out _ W5 ⟨k0', k1'⟩ (fun hHeld => ?_)
                          clear hK K
                          (try simp only [Act.put, List.setIfInBounds_toArray, List.set_cons_zero, List.set_cons_succ, List.getElem_toArray, List.getElem_cons_zero, List.getElem_cons_succ])
                          (refine wpAnyH_take (i := 15) (v := ?_) rfl (by kernel_rfl) (by kernel_rfl) (by kernel_rfl) (fun _ _ _ h => h) (Or.inl ⟨by rfl, ?_⟩) (by assumption) ?_; rotate_left; focus (intro w hSw; (try dsimp only at hSw); go_simp; first | done | with_reducible rfl); (try simp only [Act.put, List.setIfInBounds_toArray, List.set_cons_zero, List.set_cons_succ, List.getElem_toArray, List.getElem_cons_zero, List.getElem_cons_succ]))
                          refine wpAnyH_done (by kernel_rfl) ?_ _
                          (try simp only [Act.put, List.setIfInBounds_toArray, List.set_cons_zero, List.set_cons_succ, List.getElem_toArray, List.getElem_cons_zero, List.getElem_cons_succ])
                          clear hW5 hHeld k0 k1 k0' k1' HB4 hbx hnx hng q0 q1 q2 q3 r0 r1 r2 r3 hb4k
                          exact HTAIL.out _ W5 HP.out
                      case h2 =>
                        rintro b w5 ⟨B1, B2, B3, hb5⟩
                        rw [HA2.out, show ((0 : Nat) : Int) = 0 from rfl] at B1
                        rw [HA3.out] at B2
                        have HB5 := Lib.hid (Below.via hb5 hszv HBV.out)
                        have z0 := cell_past hb5 hgl y0
                        have HOS5 := Lib.hid (HOS.out.below hb5)
                        have hs5 := HB5.out.size
                        clear hb5 e0 y0
                        have hs1 : (((a4 : Nat) : Int) == 1) = ((l : Int) == 3) := hbe
                        generalize hs3 : (((l : Nat) : Int) == 3) = sb at *
                        generalize (((a4 : Nat)) : Int) = a4i at *
                        clear hbe HBE
                        go_upto_region 27 with (fail)
                        (refine wp_region_quiet_ext (by kernel_rfl) (by kernel_rfl) ?_; (repeat (first | go_big_quiet_step (((first | (go_at_call 13; exact Calls.ext_same (HCL.out _ _ (HOS5.out.below (below_ext _ _)))) | (go_at_call 18; exact Calls.ext_same (HBA.out _ _ (HOS5.out.below (below_ext _ _))))))) | quiet_step (((first | (go_at_call 13; exact Calls.ext_same (HCL.out _ _ (HOS5.out.below (below_ext _ _)))) | (go_at_call 18; exact Calls.ext_same (HBA.out _ _ (HOS5.out.below (below_ext _ _))))))))); refine wpQuiet_nil ?_; intro w6 hw6; obtain hb6 := below_of_ext hw6; clear hw6; have hz6 := hb6.size; (try simp at hz6))
                        have HB6 := Lib.hid (Below.via hb6 hs5 HB5.out)
                        have HOS6 := Lib.hid (HOS5.out.below hb6)
                        have hs6 := HB6.out.size
                        have HTK := Lib.hid (otaken_any HOS6.out (((HIA.out.at_.heap.tab.below HB3.out).below HBZ.out).below HB6.out))
                        clear hb6 hz6 B1 B2 B3 z0 hs5 hs1 hs3
                        go_wp2_with (fail)
                        refine HTK.out.mono ?_
                        rintro e w7 ⟨v7, rfl, hrow7, hb7⟩
                        obtain ⟨p7, c7, rfl⟩ := own_slice2 hrow7
                        rw [show (takenO xx.O).length = nn from HNN.out.symm]
                        have HOS7 := Lib.hid (HOS6.out.below hb7)
                        have HB7x := Lib.hid (Below.via hb7 hs6 HB6.out)
                        have HB7 : Hid (Below w3.heap.size w3 w7) := Below.via HB7x.out HBZ.out.size HBZ.out
                        obtain ⟨ff, hff⟩ : ∃ ff : Nat, ff = slA xx.cls - nn := ⟨_, rfl⟩
                        have HFR : Hid (∀ W, OSlabAt W L xx.O → Calls Tryz.prog 20 #[.pointer (some ⟨L.s, 0, none⟩)] W fun e w' => e = .returned (.int .i64 ff) ∧ Below W.heap.size W w') := fun W hW => by
                          have h9 := ofree_any hW
                          rw [show slA xx.O.cls - ones xx.O.x (slA xx.O.cls) = ff by rw [hff, HNN.out]; rfl] at h9
                          exact h9
                        obtain ⟨k0, k1, k2, k3⟩ := HKT.out
                        clear hrow7 hb7
                        obtain el | el | el | el : l = 0 ∨ l = 1 ∨ l = 2 ∨ l = 3 := by omega
                        · obtain ⟨d1, d2⟩ := k0 (HKD.out.trans el)
                          have q0 : ((l : Int) == 0) = true := by rw [el]; rfl
                          have q1 : ((l : Int) == 1) = false := by rw [el]; rfl
                          have q2 : ((l : Int) == 2) = false := by rw [el]; rfl
                          have q3 : ((l : Int) == 3) = false := by rw [el]; rfl
                          have hn0 : ((nn : Int) == 0) = false := by simp; omega
                          have hf0 : ((ff : Int) == 0) = false := by simp; omega
                          clear k0 k1 k2 k3 hff el d1 d2
                          go_wp2_with (fail)
                          refine (HFR.out _ (HOS7.out)).mono ?_
                          rintro e w8 ⟨rfl, hb8⟩
                          have HB8 := Lib.hid (Below.via hb8 HB7.out.size HB7.out)
                          clear hb8
                          go_wp2
                          go_roundw
                          case rel => exact ⟨j + 1, by omega, by go_num, by rw [HNX.out, ← Nat.add_assoc, ← HU.out, Int.natCast_add], HB8.out⟩
                          case measure => simp [numOf]; omega
                        · have d1 := k1 (HKD.out.trans el)
                          have q0 : ((l : Int) == 0) = false := by rw [el]; rfl
                          have q1 : ((l : Int) == 1) = true := by rw [el]; rfl
                          have q2 : ((l : Int) == 2) = false := by rw [el]; rfl
                          have q3 : ((l : Int) == 3) = false := by rw [el]; rfl
                          have hf : ff = 0 := by omega
                          have hf0 : ((ff : Int) != 0) = false := by rw [hf]; rfl
                          have hf1 : ((ff : Int) == 0) = true := by rw [hf]; rfl
                          clear k0 k1 k2 k3 hff el d1 hf
                          go_wp2_with (fail)
                          refine (HFR.out _ (HOS7.out)).mono ?_
                          rintro e w8 ⟨rfl, hb8⟩
                          have HB8 := Lib.hid (Below.via hb8 HB7.out.size HB7.out)
                          clear hb8
                          go_wp2
                          go_roundw
                          case rel => exact ⟨j + 1, by omega, by go_num, by rw [HNX.out, ← Nat.add_assoc, ← HU.out, Int.natCast_add], HB8.out⟩
                          case measure => simp [numOf]; omega
                        · have d1 := k2 (HKD.out.trans el)
                          have q0 : ((l : Int) == 0) = false := by rw [el]; rfl
                          have q1 : ((l : Int) == 1) = false := by rw [el]; rfl
                          have q2 : ((l : Int) == 2) = true := by rw [el]; rfl
                          have q3 : ((l : Int) == 3) = false := by rw [el]; rfl
                          have hn0 : ((nn : Int) != 0) = false := by rw [d1]; rfl
                          have hn1 : ((nn : Int) == 0) = true := by rw [d1]; rfl
                          clear k0 k1 k2 k3 hff el d1
                          go_wp2
                          go_roundw
                          case rel => exact ⟨j + 1, by omega, by go_num, by rw [HNX.out, ← Nat.add_assoc, ← HU.out, Int.natCast_add], HB7.out⟩
                          case measure => simp [numOf]; omega
                        · have d1 := k3 (HKD.out.trans el)
                          have q0 : ((l : Int) == 0) = false := by rw [el]; rfl
                          have q1 : ((l : Int) == 1) = false := by rw [el]; rfl
                          have q2 : ((l : Int) == 2) = false := by rw [el]; rfl
                          have q3 : ((l : Int) == 3) = true := by rw [el]; rfl
                          have hn0 : ((nn : Int) == 0) = false := by simp; omega
                          clear k0 k1 k2 k3 hff el d1
                          go_wp2
                          go_roundw
                          case rel => exact ⟨j + 1, by omega, by go_num, by rw [HNX.out, ← Nat.add_assoc, ← HU.out, Int.natCast_add], HB7.out⟩
                          case measure => simp [numOf]; omega
                    · obtain rfl : j = m := by omega
                      have hfin : RK.take j = RK := by rw [HM.out, List.take_length]
                      rw [hfin]
                      go_wp2
                      go_roundw
                      case rel => exact ⟨l + 1, by omega, by go_num, by rw [HTN.out, Int.natCast_add], by rw [HSN.out], Below.via HBZ.out HB3.out.size HB3.out⟩
                      case measure => simp [numOf]; omega
                · obtain rfl : l = 4 := by omega
                  go_wp2
                  go_roundw
                  case rel => exact ⟨c + 1, by omega, by go_num, by rw [show 4 * (c + 1) = 4 * c + 4 by omega], by rw [show 4 * (c + 1) = 4 * c + 4 by omega], HBL.out⟩
                  case measure => simp [numOf]; omega
            · obtain rfl : c = 16 := by omega
              go_wp2
              refine HK0.out _ _ ?_
              have hT : (itemsTo s.R (4 * 16)).length = s.A.length := HFN.out
              have hS : ((itemsTo s.R (4 * 16)).map (takenQ s.A)).sum = (takenOP s.A).length := HFT.out
              rw [hT, hS]
              exact lists_end HB1.out (HIA.out.below' HBC.out)

end Go.Proofs.YtlljejmblmjjnaaGreatDoor
