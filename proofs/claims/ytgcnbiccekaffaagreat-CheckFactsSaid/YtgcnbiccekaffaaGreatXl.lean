/- read, as the reference has it. -/
import Derived.Test.YtgcnbiccekaffaaGreatXjk
namespace Go.Proofs.YtgcnbiccekaffaaGreat
open Go.RowKit Go.ChangeMaps

set_option maxRecDepth 100000 in
set_option maxHeartbeats 1500000 in
theorem readR_any {F : Nat → Prop} {w : World} {m : Nat} {A : AM} (h : RefX F w m A) (hI : Inv A) (b : Blk) (hb : b ∈ A.blocks) (o : OpA) (x : AnsA) (p1 p2 : Option Addr) (q1 q2 : Nat) (hd : BytesIn w p2 x.data) (hx : BytesOk x.data) (hB : ∀ k, w.heap.size ≤ k → F k) :
    Calls Tryz.prog 55 #[.pointer (some ⟨m, 0, none⟩), .agg #[.int .i64 b.at_, .int .i64 b.n, .int .i64 b.size], .agg (opR o p1 q1), .agg (ansR x p2 q2)] w (RefDone F w m A (readA b o x)) := by
  have HX := Lib.hid h
  have HI := Lib.hid hI
  have HD := Lib.hid hd
  have HXB := Lib.hid hx
  have HBB := Lib.hid hb
  have hlo := hI.lo b hb
  have hb1 := hI.b1
  have hN : (0 : Int) ≤ b.n := by omega
  have hN2 : (b.n : Int) ≤ 1099511627776 := by omega
  clear h hI hd hb hx
  obtain ⟨W0, hW0⟩ : ∃ W0, W0 = ((w.alloc (.cells #[.int .i64 b.at_, .int .i64 b.n, .int .i64 b.size] 54)).alloc (.cells (opR o p1 q1) 43)).alloc (.cells (ansR x p2 q2) 45) := ⟨_, rfl⟩
  have hb0 : Below w.heap.size w W0 := by rw [hW0]; exact (by repeat (first | exact Below.refl _ _ | assumption | refine Below.alloc ?_ (by first | omega | (simp <;> omega)) _ | refine Below.drew ?_ | refine Below.setCell ?_ (by first | omega | (simp <;> omega)) _ | refine Below.via (by assumption) (by first | omega | (simp <;> omega)) ?_))
  have b0 : W0.cell? ⟨w.heap.size, 0, none⟩ = some (.int .i64 b.at_) := by rw [hW0]; simp [go_sem]
  have b1 : W0.cell? ⟨w.heap.size, 1, none⟩ = some (.int .i64 b.n) := by rw [hW0]; simp [go_sem]
  have o4 : W0.cell? ⟨w.heap.size + 1, 4, none⟩ = some (.int .i64 o.fr) := by rw [hW0]; simp [go_sem, opR]
  have o5 : W0.cell? ⟨w.heap.size + 1, 5, none⟩ = some (.int .i64 o.n) := by rw [hW0]; simp [go_sem, opR]
  have r0 : W0.cell? ⟨w.heap.size + 1 + 1, 0, none⟩ = some (.int .i64 x.err) := by rw [hW0]; simp [go_sem, ansR]
  have r1 : W0.cell? ⟨w.heap.size + 1 + 1, 1, none⟩ = some (.int .i64 x.at_) := by rw [hW0]; simp [go_sem, ansR]
  have r2 : W0.cell? ⟨w.heap.size + 1 + 1, 2, none⟩ = some (.int .i64 x.n) := by rw [hW0]; simp [go_sem, ansR]
  have r3 : W0.cell? ⟨w.heap.size + 1 + 1, 3, none⟩ = some (.int .i64 x.count) := by rw [hW0]; simp [go_sem, ansR]
  have r4 : W0.cell? ⟨w.heap.size + 1 + 1, 4, none⟩ = some (.slice p2 x.data.length q2) := by rw [hW0]; simp [go_sem, ansR]
  have HW0 := Lib.hid hW0
  have HB0 := Lib.hid hb0
  clear hW0 hb0
  unfold opR ansR at HW0 ⊢
  cases hw : withinB o.fr o.n b.n
  · have hf : readA b o x = (.keep, bareB x.err x.at_ x.n x.count 11 x.data.length) := by unfold readA; rw [if_pos hw]; rfl
    rw [hf]
    clear hf
    go_enter Tryz.func55, Tryz.ntmps55
    go_wp2_with (fail)
    rw [← HW0.out]
    refine (inR_any _ _ _ _ hN hN2).mono ?_
    rintro e W1 ⟨rfl, rfl⟩
    rw [hw]
    go_wp2_with (fail)
    refine (bareR_any _ _ _ _ _ _ _ _ _).mono ?_
    rintro e W2 ⟨rfl, hb2⟩
    have HX2 := Lib.hid (HX.out.below (HB0.out.trans (hb2.mono HB0.out.size)))
    have HB2 := Lib.hid ((tof (F := F) HB0.out).trans (tof (F := F) hb2))
    clear hb2
    go_wp2
    go_ret
    exact ⟨rfl, by rw [show applyC A .keep = A from rfl, ite_self]; exact HX2.out, HB2.out⟩
  · have hno : ¬ (x.err = 0 ∧ x.at_ = 0 ∧ x.n = 0 ∧ x.count = 0 ∧ (x.data.length : Int) = o.n) → readA b o x = (.keep, false) := fun hh => by
      unfold readA
      rw [if_neg (by rw [hw]; decide), if_pos]
      rw [Bool.not_eq_true', Bool.eq_false_iff]
      intro h2
      simp only [onlyB, Bool.and_eq_true, beq_iff_eq] at h2
      exact hh ⟨h2.1.1, h2.1.2.1, h2.1.2.2.1, h2.1.2.2.2, h2.2⟩
    have HNO := Lib.hid hno
    clear hno
    by_cases t1 : x.err = 0
    · by_cases t2 : x.at_ = 0
      · by_cases t3 : x.n = 0
        · by_cases t4 : x.count = 0
          · by_cases t5 : (x.data.length : Int) = o.n
            · obtain ⟨hf1, hf2, hf3, hf4⟩ := withinB_spec hw
              have hfr : readA b o x = (.upd b.at_ { b with cells := learnL b.cells o.fr.toNat x.data }, readsB b.cells o.fr.toNat x.data) := by
                unfold readA
                rw [if_neg (by rw [hw]; decide), if_neg (by rw [t1, t2, t3, t4, t5]; simp [onlyB])]
              rw [hfr]
              have c1 : (x.err != 0) = false := by simpa using t1
              have c2 : (x.at_ != 0) = false := by simpa using t2
              have c3 : (x.n != 0) = false := by simpa using t3
              have c4 : (x.count != 0) = false := by simpa using t4
              clear hfr HNO
              generalize hon : o.n = on at *
              subst t5
              have HON := Lib.hid hon
              have c5 : (x.data.length != x.data.length) = false := by simp
              have HWI := Lib.hid hw
              clear t1 t2 t3 t4 hon hw
              obtain ⟨vb, gy, cy, bs, hat⟩ := HX.out
              have hlen := hat.of.1
              have hcm : w.cell? ⟨m, 1, none⟩ = some (.slice (some ⟨gy, 0, none⟩) bs.length cy) := by rw [cell_of_block hat.model]; rfl
              have hne : m ≠ gy := fun e => by
                have hm := hat.model
                rw [e, hat.bytes] at hm
                simp at hm
              have HAT := Lib.hid hat
              have HNE := Lib.hid hne
              have hcl : b.cells.length = b.n := (HI.out.known b HBB.out).1
              have HCL := Lib.hid hcl
              clear hat hne hcl
              generalize hfe : o.fr = fr at *
              generalize hae : b.at_ = ba at *
              obtain ⟨fn, rfl⟩ := Int.eq_ofNat_of_zero_le hf1
              obtain ⟨a, rfl⟩ := Int.eq_ofNat_of_zero_le hlo.1
              simp only [Int.toNat_natCast]
              have hfit : fn + x.data.length ≤ b.n := by omega
              have hfit2 : a + (fn + x.data.length) ≤ bs.length := by omega
              have hbsl : (bs.length : Int) ≤ 1048576 := by omega
              have hat1 : IntKind.i64.wrap ((a : Int) + fn) = (a : Int) + fn := by rw [IntKind.wrap_i64]; omega
              have HFE := Lib.hid hfe
              have HAE := Lib.hid hae
              have HHL := Lib.hid hlen
              clear hfe hae hf1 hf2 hf3 hf4 hlen hlo
              go_enter Tryz.func55, Tryz.ntmps55
              go_wp2_with (fail)
              rw [← HW0.out]
              refine (inR_any _ _ _ _ hN hN2).mono ?_
              rintro e W1 ⟨rfl, rfl⟩
              rw [HWI.out]
              go_wp2
              go_loopw [10] (fun i wr => ∃ k : Nat, k ≤ x.data.length ∧ i = .int .i64 k ∧ Below W0.heap.size W0 wr ∧ readsB b.cells fn (x.data.take k) = true) (fun i _ => x.data.length - (intOf i).toNat)
              case atStart => exact ⟨0, Nat.zero_le _, rfl, Below.refl _ _, rfl⟩
              case round =>
                obtain ⟨k, hk, rfl, hbl, hall⟩ := hrel
                have hbw : Below w.heap.size w wr := HB0.out.trans (hbl.mono HB0.out.size)
                have HBL := Lib.hid hbl
                have HBW := Lib.hid hbw
                have HALL := Lib.hid hall
                have b0' := cell_past hbl (cell_lt b0) b0
                have o4' := cell_past hbl (cell_lt o4) o4
                have o5' := cell_past hbl (cell_lt o5) o5
                have r4' := cell_past hbl (cell_lt r4) r4
                have zm := cell_past hbw (cell_lt hcm) hcm
                clear hbl hall
                have hkw : IntKind.i64.wrap ((k : Int) + 1) = (k : Int) + 1 := by rw [IntKind.wrap_i64]; omega
                by_cases hlt : k < x.data.length
                · obtain ⟨db, doff, rfl, hcell⟩ := HD.out k hlt
                  have g1 := cell_past hbw (cell_lt hcell) hcell
                  have hg : w.cell? ⟨gy, a + fn + k, none⟩ = some (.int .i64 (codeB (b.cells.getD (fn + k) none))) := by
                    have hh := ref_byte HAT.out HI.out HBB.out (k := fn + k) (by omega)
                    rw [HAE.out, Int.toNat_natCast, ← Nat.add_assoc] at hh
                    exact hh
                  have g2 := cell_past hbw (cell_lt hg) hg
                  have hkn := fun v (e : b.cells.getD (fn + k) none = some v) => code_known HI.out HBB.out e
                  have hdk := HXB.out _ (List.getElem_mem hlt)
                  have hde : x.data.getD k 0 = x.data[k] := by rw [List.getD_eq_getElem?_getD, List.getElem?_eq_getElem hlt]; rfl
                  rw [← hde] at hdk
                  have HNEXT := Lib.hid (readsB_snoc b.cells fn x.data k hlt HALL.out)
                  have HFAL := Lib.hid (readsB_false b.cells fn x.data k hlt)
                  have HPOST : Hid (∀ W, Below wr.heap.size wr W → Below W0.heap.size W0 W) := fun W hh => HBL.out.trans (hh.mono HBL.out.size)
                  clear hcell hg hbw hde
                  generalize x.data.getD k 0 = d at *
                  have hdw : IntKind.i64.wrap d = d := by rw [IntKind.wrap_i64]; omega
                  have hsum : IntKind.i64.wrap ((a : Int) + fn + k) = (a : Int) + fn + k := by rw [IntKind.wrap_i64]; omega
                  have hidx : (0 : Int) ≤ (a : Int) + fn + k ∧ (a : Int) + fn + k < bs.length := by omega
                  have hix : ((a : Int) + fn + k).toNat = a + fn + k := by omega
                  rcases hu : b.cells.getD (fn + k) none with _ | v
                  · rw [hu] at g2 HNEXT
                    have HOK : Hid (readsB b.cells fn (x.data.take (k + 1)) = true) := HNEXT.out
                    simp only [codeB] at g2
                    clear HNEXT HFAL hu hkn
                    go_wp2
                    (refine wp_region_quiet_ext (by kernel_rfl) (by kernel_rfl) ?_; (repeat (first | go_big_quiet_step ((fail)) | quiet_step ((fail)))); refine wpQuiet_nil ?_; intro w1 hw1; obtain hb := below_of_ext hw1; clear hw1; obtain ⟨hc, hf⟩ := bcell hb; have hz := hb.size; (try simp at hz))
                    have HBq := Lib.hid hb
                    clear hb hc hf
                    go_wp2
                    go_roundw
                    case rel => exact ⟨k + 1, by omega, by go_num, HPOST.out _ HBq.out, HOK.out⟩
                    case measure => simp [intOf]; omega
                  · have hv := hkn v hu
                    rw [hu] at g2 HNEXT
                    simp only [codeB] at g2
                    clear hu hkn
                    by_cases hvd : (v == d) = true
                    · have HOK : Hid (readsB b.cells fn (x.data.take (k + 1)) = true) := by rw [HNEXT.out]; exact hvd
                      have hvd2 : (v != d) = false := by simpa using hvd
                      clear HNEXT HFAL hvd
                      go_wp2
                      (refine wp_region_quiet_ext (by kernel_rfl) (by kernel_rfl) ?_; (repeat (first | go_big_quiet_step ((fail)) | quiet_step ((fail)))); refine wpQuiet_nil ?_; intro w1 hw1; obtain hb := below_of_ext hw1; clear hw1; obtain ⟨hc, hf⟩ := bcell hb; have hz := hb.size; (try simp at hz))
                      have HBq := Lib.hid hb
                      clear hb hc hf
                      go_wp2
                      go_roundw
                      case rel => exact ⟨k + 1, by omega, by go_num, HPOST.out _ HBq.out, HOK.out⟩
                      case measure => simp [intOf]; omega
                    · have HNO : Hid (readsB b.cells fn x.data = false) := HFAL.out (by rw [HNEXT.out]; simpa [okByte] using hvd)
                      have hvd2 : (v != d) = true := by simpa using hvd
                      clear HNEXT HFAL hvd
                      go_wp2
                      (refine wp_region_quiet_ext (by kernel_rfl) (by kernel_rfl) ?_; (repeat (first | go_big_quiet_step ((fail)) | quiet_step ((fail)))); refine wpQuiet_nil ?_; intro w1 hw1; obtain hb := below_of_ext hw1; clear hw1; obtain ⟨hc, hf⟩ := bcell hb; have hz := hb.size; (try simp at hz))
                      have HBq := Lib.hid hb
                      clear hb hc hf
                      go_wp2
                      go_ret
                      refine ⟨by rw [HNO.out]; rfl, ?_, ?_⟩
                      · rw [HNO.out]
                        exact HX.out.below (HBW.out.trans (HBq.out.mono HBW.out.size))
                      · exact tof (F := F) (HBW.out.trans (HBq.out.mono HBW.out.size))
                · obtain rfl : k = x.data.length := by omega
                  obtain ⟨W8, h8⟩ : ∃ W8 : World, W8 = wr := ⟨wr, rfl⟩
                  subst wr
                  have hall := HALL.out
                  rw [List.take_length] at hall
                  have HALL2 := Lib.hid hall
                  clear hall HALL
                  have HAT2 := Lib.hid (HAT.out.below HBW.out)
                  have HBWB := Lib.hid (tof (F := F) HBW.out)
                  have hBwr : ∀ k, W8.heap.size ≤ k → F k := fge hB HBW.out.size
                  clear HBL hkw
                  go_wp2
                  go_loopw [11] (fun i wr => ∃ k : Nat, k ≤ x.data.length ∧ i = .int .i64 k ∧ Turned (fun j => j = gy) W8 wr ∧ wr.heap[gy]? = some (.cells (intsC (putR bs (a + fn) (x.data.take k))) 3 (0, 0))) (fun i _ => x.data.length - (intOf i).toNat)
                  case atStart => exact ⟨0, Nat.zero_le _, rfl, Turned.refl _ _, by rw [List.take_zero, putR_nil]; exact HAT2.out.bytes⟩
                  case round =>
                    obtain ⟨k, hk, rfl, hT, hy⟩ := hrel
                    have hgl := lt_of_block HAT.out.bytes
                    have hws := HB0.out.size
                    have o5q := turned_cell hT (by show ¬ w.heap.size + 1 = gy; omega) o5'
                    have r4q := turned_cell hT (by show ¬ w.heap.size + 1 + 1 = gy; omega) r4'
                    have zmq := turned_cell hT (by show ¬ m = gy; exact HNE.out) zm
                    by_cases hlt : k < x.data.length
                    · obtain ⟨db, doff, rfl, hcell⟩ := HD.out k hlt
                      have hdb := data_apart HAT.out.bytes hcell
                      have g1 := turned_cell hT (by show ¬ db = gy; exact hdb) (cell_past hbw (cell_lt hcell) hcell)
                      have hdk := HXB.out _ (List.getElem_mem hlt)
                      have hde : x.data.getD k 0 = x.data[k] := by rw [List.getD_eq_getElem?_getD, List.getElem?_eq_getElem hlt]; rfl
                      rw [← hde] at hdk
                      have htk : x.data.take (k + 1) = x.data.take k ++ [x.data.getD k 0] := by rw [List.take_succ_eq_append_getElem hlt, hde]
                      have htl : (x.data.take k).length = k := by rw [List.length_take]; omega
                      have hpl : (putR bs (a + fn) (x.data.take k)).length = bs.length := putR_length _ _ _ (by rw [htl]; omega)
                      have hck : wr.cell? ⟨gy, a + fn + k, none⟩ = some (.int .i64 ((putR bs (a + fn) (x.data.take k)).getD (a + fn + k) 0)) := by
                        rw [cell_of_block hy, intsC, List.getElem?_toArray, List.getElem?_map, List.getElem?_eq_getElem (by rw [hpl]; omega)]
                        simp [List.getD, List.getElem?_eq_getElem (show a + fn + k < (putR bs (a + fn) (x.data.take k)).length from by rw [hpl]; omega)]
                      have hfk : wr.frozen? ⟨gy, a + fn + k, none⟩ = false := frozen_of_row _ _ _ _ _ hy
                      have hnx : (wr.drew.setCell ⟨gy, a + fn + k, none⟩ (.int .i64 (x.data.getD k 0))).heap[gy]? = some (.cells (intsC (putR bs (a + fn) (x.data.take (k + 1)))) 3 (0, 0)) := by
                        have := heap_setCell_eq (w := wr.drew) (b := gy) (i := a + fn + k) hy (.int .i64 (x.data.getD k 0))
                        have hps := putR_succ bs (a + fn) (x.data.take k) (x.data.getD k 0) (by rw [htl]; omega)
                        rw [htl] at hps
                        rw [this, intsC_set, hps, htk]
                      have hTx : Turned (fun j => j = gy) W8 (wr.drew.setCell ⟨gy, a + fn + k, none⟩ (.int .i64 (x.data.getD k 0))) := turned_set2 (show Turned (fun j => j = gy) W8 wr.drew from ⟨hT.os, hT.tape, hT.output, hT.size, hT.block⟩) _ _
                      have HNX := Lib.hid hnx
                      have HTX := Lib.hid hTx
                      have hsum : IntKind.i64.wrap ((a : Int) + fn + k) = (a : Int) + fn + k := by rw [IntKind.wrap_i64]; omega
                      have hidx : (0 : Int) ≤ (a : Int) + fn + k ∧ (a : Int) + fn + k < bs.length := by omega
                      have hix : ((a : Int) + fn + k).toNat = a + fn + k := by omega
                      have hkw : IntKind.i64.wrap ((k : Int) + 1) = (k : Int) + 1 := by rw [IntKind.wrap_i64]; omega
                      have hi2 : a + fn + k < bs.length := by omega
                      clear hnx hTx hy hT hcell hdb hde htk htl hpl hbw
                      generalize x.data.getD k 0 = d at *
                      generalize (putR bs (a + fn) (x.data.take k)).getD (a + fn + k) 0 = d0 at *
                      have hdw : IntKind.i64.wrap d = d := by rw [IntKind.wrap_i64]; omega
                      go_wp2
                      go_region
                      go_wp2
                      go_roundw
                      case rel => exact ⟨k + 1, by omega, by go_num, HTX.out, HNX.out⟩
                      case measure => first | (simp [intOf]; done) | (simp [intOf]; omega)
                    · obtain rfl : k = x.data.length := by omega
                      rw [List.take_length] at hy
                      have hput := ref_put (b := b) (f := fn) (ds := x.data) HAT2.out HI.out HBB.out hfit hT (by rw [HAE.out, Int.toNat_natCast]; exact hy) hBwr
                      rw [HAE.out] at hput
                      have HPUT := Lib.hid hput
                      clear hput hT hy
                      go_wp2
                      go_ret
                      refine ⟨by rw [HALL2.out]; rfl, ?_, HBWB.out.trans HPUT.out.2⟩
                      rw [HALL2.out, if_pos rfl]
                      exact HPUT.out.1
            · have c1 : (x.err != 0) = false := by simpa using t1
              have c2 : (x.at_ != 0) = false := by simpa using t2
              have c3 : (x.n != 0) = false := by simpa using t3
              have c4 : (x.count != 0) = false := by simpa using t4
              have c5 : ((x.data.length : Int) != o.n) = true := by simpa using t5
              rw [HNO.out (fun h => t5 h.2.2.2.2)]
              clear t1 t2 t3 t4 t5
              (go_enter Tryz.func55, Tryz.ntmps55; go_wp2_with (fail); rw [← HW0.out]; refine (inR_any _ _ _ _ hN hN2).mono ?_; rintro e W1 ⟨rfl, rfl⟩; rw [hw]; go_wp2; go_ret; exact ⟨rfl, HX.out.below HB0.out, tof (F := F) HB0.out⟩)
          · have c1 : (x.err != 0) = false := by simpa using t1
            have c2 : (x.at_ != 0) = false := by simpa using t2
            have c3 : (x.n != 0) = false := by simpa using t3
            have c4 : (x.count != 0) = true := by simpa using t4
            rw [HNO.out (fun h => t4 h.2.2.2.1)]
            clear t1 t2 t3 t4
            (go_enter Tryz.func55, Tryz.ntmps55; go_wp2_with (fail); rw [← HW0.out]; refine (inR_any _ _ _ _ hN hN2).mono ?_; rintro e W1 ⟨rfl, rfl⟩; rw [hw]; go_wp2; go_ret; exact ⟨rfl, HX.out.below HB0.out, tof (F := F) HB0.out⟩)
        · have c1 : (x.err != 0) = false := by simpa using t1
          have c2 : (x.at_ != 0) = false := by simpa using t2
          have c3 : (x.n != 0) = true := by simpa using t3
          rw [HNO.out (fun h => t3 h.2.2.1)]
          clear t1 t2 t3
          (go_enter Tryz.func55, Tryz.ntmps55; go_wp2_with (fail); rw [← HW0.out]; refine (inR_any _ _ _ _ hN hN2).mono ?_; rintro e W1 ⟨rfl, rfl⟩; rw [hw]; go_wp2; go_ret; exact ⟨rfl, HX.out.below HB0.out, tof (F := F) HB0.out⟩)
      · have c1 : (x.err != 0) = false := by simpa using t1
        have c2 : (x.at_ != 0) = true := by simpa using t2
        rw [HNO.out (fun h => t2 h.2.1)]
        clear t1 t2
        (go_enter Tryz.func55, Tryz.ntmps55; go_wp2_with (fail); rw [← HW0.out]; refine (inR_any _ _ _ _ hN hN2).mono ?_; rintro e W1 ⟨rfl, rfl⟩; rw [hw]; go_wp2; go_ret; exact ⟨rfl, HX.out.below HB0.out, tof (F := F) HB0.out⟩)
    · have c1 : (x.err != 0) = true := by simpa using t1
      rw [HNO.out (fun h => t1 h.1)]
      clear t1
      (go_enter Tryz.func55, Tryz.ntmps55; go_wp2_with (fail); rw [← HW0.out]; refine (inR_any _ _ _ _ hN hN2).mono ?_; rintro e W1 ⟨rfl, rfl⟩; rw [hw]; go_wp2; go_ret; exact ⟨rfl, HX.out.below HB0.out, tof (F := F) HB0.out⟩)

end Go.Proofs.YtgcnbiccekaffaaGreat
