/- touch, as the reference has it. -/
import Derived.Test.YtgcnbiccekaffaaGreatXm
namespace Go.Proofs.YtgcnbiccekaffaaGreat
open Go.RowKit Go.ChangeMaps

set_option maxRecDepth 100000 in
set_option maxHeartbeats 1500000 in
theorem touchR_any {F : Nat → Prop} {w : World} {m : Nat} {A : AM} (h : RefX F w m A) (hI : Inv A) (i : Nat) (hi : i < A.blocks.length) (o : OpA) (x : AnsA) (ho : OpOk o) (hxb : BytesOk x.data) (p1 p2 : Option Addr) (q1 q2 : Nat) (hd1 : BytesIn w p1 o.data) (hd2 : BytesIn w p2 x.data) (hB : ∀ k, w.heap.size ≤ k → F k) :
    Calls Tryz.prog 30 #[.pointer (some ⟨m, 0, none⟩), .int .i64 i, .agg (opR o p1 q1), .agg (ansR x p2 q2)] w (RefDone F w m A (touchA A A.blocks[i] o x)) := by
  have HX := Lib.hid h
  obtain ⟨vb, gy, cy, bs, hat⟩ := h
  obtain ⟨pb, cb, rfl, hrows⟩ := rowsAt_own hat.rows
  obtain ⟨g, hg, y0, y1, y2⟩ := hrows i hi
  subst hg
  have hcm : w.cell? ⟨m, 0, none⟩ = some (.slice (some ⟨g, 0, none⟩) A.blocks.length cb) := by rw [cell_of_block hat.model]; rfl
  have lm := cell_lt hcm
  have lg := cell_lt y0
  have hlo := hI.lo _ (List.getElem_mem hi)
  have hb1 := hI.b1
  have HO := Lib.hid ho
  have HXB := Lib.hid hxb
  have HAT := Lib.hid hat
  have HI := Lib.hid hI
  have HD1 := Lib.hid hd1
  have HD2 := Lib.hid hd2
  have hi2 : (i : Int) < A.blocks.length := by omega
  have hmem := List.getElem_mem hi
  have HDROP := Lib.hid (fun (W : World) (hh : RefX F W m A) (hBW : ∀ k, W.heap.size ≤ k → F k) => dropR_any hh hI i hi hBW)
  have HAGAIN := Lib.hid (fun (W : World) (hh : RefX F W m A) (hBW : ∀ k, W.heap.size ≤ k → F k) => againR_any hh hI i hi o x ho p1 p2 q1 q2 hBW)
  clear ho hxb hat hI hrows hd1 hd2
  unfold opR ansR at HAGAIN ⊢
  generalize hbd : A.blocks[i] = b at *
  have HBD := Lib.hid hbd
  have HMEM := Lib.hid hmem
  have HREAD := Lib.hid (fun (W : World) (hh : RefX F W m A) (hd : BytesIn W p2 x.data) (hBW : ∀ k, W.heap.size ≤ k → F k) => readR_any hh HI.out b hmem o x p1 p2 q1 q2 hd HXB.out hBW)
  unfold opR ansR at HREAD
  clear hbd hmem
  obtain ⟨W0, hW0⟩ : ∃ W0, W0 = ((w.alloc (.cells #[.int .i64 o.k, .int .u64 o.a, .int .u64 o.b, .int .i64 o.at_, .int .i64 o.fr, .int .i64 o.n, .slice p1 o.data.length q1] 43)).alloc (.cells #[.int .i64 x.err, .int .i64 x.at_, .int .i64 x.n, .int .i64 x.count, .slice p2 x.data.length q2] 45)).alloc (.cells #[.int .i64 b.at_, .int .i64 b.n, .int .i64 b.size] 54) := ⟨_, rfl⟩
  have hb0 : Below w.heap.size w W0 := by rw [hW0]; exact (by repeat (first | exact Below.refl _ _ | assumption | refine Below.alloc ?_ (by first | omega | (simp <;> omega)) _ | refine Below.drew ?_ | refine Below.setCell ?_ (by first | omega | (simp <;> omega)) _ | refine Below.via (by assumption) (by first | omega | (simp <;> omega)) ?_))
  have o4 : W0.cell? ⟨w.heap.size, 4, none⟩ = some (.int .i64 o.fr) := by rw [hW0]; simp [go_sem]
  have o6 : W0.cell? ⟨w.heap.size, 6, none⟩ = some (.slice p1 o.data.length q1) := by rw [hW0]; simp [go_sem]
  have r0 : W0.cell? ⟨w.heap.size + 1, 0, none⟩ = some (.int .i64 x.err) := by rw [hW0]; simp [go_sem]
  have r1 : W0.cell? ⟨w.heap.size + 1, 1, none⟩ = some (.int .i64 x.at_) := by rw [hW0]; simp [go_sem]
  have r2 : W0.cell? ⟨w.heap.size + 1, 2, none⟩ = some (.int .i64 x.n) := by rw [hW0]; simp [go_sem]
  have r3 : W0.cell? ⟨w.heap.size + 1, 3, none⟩ = some (.int .i64 x.count) := by rw [hW0]; simp [go_sem]
  have r4 : W0.cell? ⟨w.heap.size + 1, 4, none⟩ = some (.slice p2 x.data.length q2) := by rw [hW0]; simp [go_sem]
  have s0 : W0.cell? ⟨w.heap.size + 1 + 1, 0, none⟩ = some (.int .i64 b.at_) := by rw [hW0]; simp [go_sem]
  have s1 : W0.cell? ⟨w.heap.size + 1 + 1, 1, none⟩ = some (.int .i64 b.n) := by rw [hW0]; simp [go_sem]
  have HW0 := Lib.hid hW0
  have HB0 := Lib.hid hb0
  have hBW : ∀ k, W0.heap.size ≤ k → F k := fge hB hb0.size
  have HX0 := Lib.hid (HX.out.below hb0)
  clear hW0 hb0
  have HEND : Hid (∀ (W : World) (c : Bool), RefAt F W m A (.slice (some ⟨g, 0, none⟩) A.blocks.length cb) gy cy bs → Below w.heap.size w W → RefX F W m (if c = true then applyC A .keep else A) ∧ Tn F w W) := fun W c hh hbb => ⟨by rw [show applyC A .keep = A from rfl, ite_self]; exact ⟨_, _, _, _, hh⟩, tof (F := F) hbb⟩
  cases k3 : (o.k == 3)
  · cases k4 : (o.k == 4)
    · cases k5 : (o.k == 5)
      · cases k6 : (o.k == 6)
        · have hta : touchA A b o x = writeA b o x := by unfold touchA; rw [k3, k4, k5, k6]; rfl
          rw [hta]
          clear hta
          have hN : (0 : Int) ≤ b.n := by omega
          have hN2 : (b.n : Int) ≤ 1099511627776 := by omega
          cases hw : withinB o.fr o.data.length b.n
          · have hf : writeA b o x = (.keep, bareB x.err x.at_ x.n x.count 11 x.data.length) := by unfold writeA; rw [if_pos hw]; rfl
            rw [hf]
            clear hf
            (go_enter Tryz.func30, Tryz.ntmps30; go_wp2_with (fail); rw [← HW0.out])
            refine (inR_any _ _ _ _ hN hN2).mono ?_
            rintro e W1 ⟨rfl, rfl⟩
            rw [hw]
            go_wp2_with (fail)
            refine (bareR_any _ _ _ _ _ _ _ _ _).mono ?_
            rintro e W2 ⟨rfl, hb1⟩
            (have HAT1 := Lib.hid (HAT.out.below (HB0.out.trans (hb1.mono HB0.out.size))); have HB1 := Lib.hid (HB0.out.trans (hb1.mono HB0.out.size)); have r1' := cell_past hb1 (cell_lt r1) r1; have r2' := cell_past hb1 (cell_lt r2) r2; have s0' := cell_past hb1 (cell_lt s0) s0; have s1' := cell_past hb1 (cell_lt s1) s1; have o4' := cell_past hb1 (cell_lt o4) o4; have o6' := cell_past hb1 (cell_lt o6) o6; clear hb1 r0 r1 r2 r3 r4 s0 s1 o4 o6)
            go_wp2
            go_ret
            exact ⟨rfl, HEND.out _ _ HAT1.out HB1.out⟩
          · have hf : writeA b o x = (.upd b.at_ { b with cells := learnL b.cells o.fr.toNat o.data }, placedB x.err x.count x.data.length && ((x.at_ == 0) && (x.n == o.data.length))) := by
              unfold writeA
              rw [if_neg (by rw [hw]; decide)]
              unfold onlyA onlyB placedB
              cases x.err == 0 <;> cases x.count == 0 <;> cases (x.data.length : Int) == 0 <;> cases x.at_ == 0 <;> cases x.n == (o.data.length : Int) <;> rfl
            rw [hf]
            clear hf
            have HWI := Lib.hid (withinB_spec hw)
            cases hp : placedB x.err x.count x.data.length
            · (go_enter Tryz.func30, Tryz.ntmps30; go_wp2_with (fail); rw [← HW0.out])
              refine (inR_any _ _ _ _ hN hN2).mono ?_
              rintro e W1 ⟨rfl, rfl⟩
              rw [hw]
              go_wp2_with (fail)
              refine (placedR_any _ _ _ _ _ _ _ _).mono ?_
              rintro e W1 ⟨rfl, hb1⟩
              rw [hp]
              (have HAT1 := Lib.hid (HAT.out.below (HB0.out.trans (hb1.mono HB0.out.size))); have HB1 := Lib.hid (HB0.out.trans (hb1.mono HB0.out.size)); have r1' := cell_past hb1 (cell_lt r1) r1; have r2' := cell_past hb1 (cell_lt r2) r2; have s0' := cell_past hb1 (cell_lt s0) s0; have s1' := cell_past hb1 (cell_lt s1) s1; have o4' := cell_past hb1 (cell_lt o4) o4; have o6' := cell_past hb1 (cell_lt o6) o6; clear hb1 r0 r1 r2 r3 r4 s0 s1 o4 o6)
              go_wp2
              go_ret
              exact ⟨rfl, HEND.out _ false HAT1.out HB1.out⟩
            · rw [Bool.true_and]
              cases c1 : (x.at_ == 0)
              · have c1' : (x.at_ != 0) = true := by rw [bne, c1]; rfl
                (go_enter Tryz.func30, Tryz.ntmps30; go_wp2_with (fail); rw [← HW0.out])
                refine (inR_any _ _ _ _ hN hN2).mono ?_
                rintro e W1 ⟨rfl, rfl⟩
                rw [hw]
                go_wp2_with (fail)
                refine (placedR_any _ _ _ _ _ _ _ _).mono ?_
                rintro e W1 ⟨rfl, hb1⟩
                rw [hp]
                (have HAT1 := Lib.hid (HAT.out.below (HB0.out.trans (hb1.mono HB0.out.size))); have HB1 := Lib.hid (HB0.out.trans (hb1.mono HB0.out.size)); have r1' := cell_past hb1 (cell_lt r1) r1; have r2' := cell_past hb1 (cell_lt r2) r2; have s0' := cell_past hb1 (cell_lt s0) s0; have s1' := cell_past hb1 (cell_lt s1) s1; have o4' := cell_past hb1 (cell_lt o4) o4; have o6' := cell_past hb1 (cell_lt o6) o6; clear hb1 r0 r1 r2 r3 r4 s0 s1 o4 o6)
                go_wp2
                go_ret
                exact ⟨rfl, HEND.out _ false HAT1.out HB1.out⟩
              · have c1' : (x.at_ != 0) = false := by rw [bne, c1]; rfl
                rw [Bool.true_and]
                cases c2 : (x.n == (o.data.length : Int))
                · have c2' : (x.n != (o.data.length : Int)) = true := by rw [bne, c2]; rfl
                  clear c1 c2
                  (go_enter Tryz.func30, Tryz.ntmps30; go_wp2_with (fail); rw [← HW0.out])
                  refine (inR_any _ _ _ _ hN hN2).mono ?_
                  rintro e W1 ⟨rfl, rfl⟩
                  rw [hw]
                  go_wp2_with (fail)
                  refine (placedR_any _ _ _ _ _ _ _ _).mono ?_
                  rintro e W1 ⟨rfl, hb1⟩
                  rw [hp]
                  (have HAT1 := Lib.hid (HAT.out.below (HB0.out.trans (hb1.mono HB0.out.size))); have HB1 := Lib.hid (HB0.out.trans (hb1.mono HB0.out.size)); have r1' := cell_past hb1 (cell_lt r1) r1; have r2' := cell_past hb1 (cell_lt r2) r2; have s0' := cell_past hb1 (cell_lt s0) s0; have s1' := cell_past hb1 (cell_lt s1) s1; have o4' := cell_past hb1 (cell_lt o4) o4; have o6' := cell_past hb1 (cell_lt o6) o6; clear hb1 r0 r1 r2 r3 r4 s0 s1 o4 o6)
                  go_wp2
                  go_ret
                  exact ⟨rfl, HEND.out _ false HAT1.out HB1.out⟩
                · have c2' : (x.n != (o.data.length : Int)) = false := by rw [bne, c2]; rfl
                  clear c1 c2
                  have hlen := HAT.out.of.1
                  have hcm1 : w.cell? ⟨m, 1, none⟩ = some (.slice (some ⟨gy, 0, none⟩) bs.length cy) := by rw [cell_of_block HAT.out.model]; rfl
                  have hne : m ≠ gy := fun e => by
                    have hm := HAT.out.model
                    rw [e, HAT.out.bytes] at hm
                    simp at hm
                  have HNE := Lib.hid hne
                  have hwi := HWI.out
                  clear hne
                  generalize hfe : o.fr = fr at *
                  generalize hae : b.at_ = ba at *
                  obtain ⟨fn, rfl⟩ := Int.eq_ofNat_of_zero_le hwi.1
                  obtain ⟨a, rfl⟩ := Int.eq_ofNat_of_zero_le hlo.1
                  simp only [Int.toNat_natCast]
                  have hfit : fn + o.data.length ≤ b.n := by omega
                  have hfit2 : a + (fn + o.data.length) ≤ bs.length := by omega
                  have hbsl : (bs.length : Int) ≤ 1048576 := by omega
                  have hat1 : IntKind.i64.wrap ((a : Int) + fn) = (a : Int) + fn := by rw [IntKind.wrap_i64]; omega
                  have HFE := Lib.hid hfe
                  have HAE := Lib.hid hae
                  have HOB := Lib.hid HO.out.data
                  have HWW := Lib.hid hw
                  clear hfe hae hwi hlen hlo HWI hw
                  (go_enter Tryz.func30, Tryz.ntmps30; go_wp2_with (fail); rw [← HW0.out])
                  refine (inR_any _ _ _ _ hN hN2).mono ?_
                  rintro e W1 ⟨rfl, rfl⟩
                  rw [HWW.out]
                  go_wp2_with (fail)
                  refine (placedR_any _ _ _ _ _ _ _ _).mono ?_
                  rintro e W1 ⟨rfl, hb1⟩
                  rw [hp]
                  (have HAT1 := Lib.hid (HAT.out.below (HB0.out.trans (hb1.mono HB0.out.size))); have HB1 := Lib.hid (HB0.out.trans (hb1.mono HB0.out.size)); have r1' := cell_past hb1 (cell_lt r1) r1; have r2' := cell_past hb1 (cell_lt r2) r2; have s0' := cell_past hb1 (cell_lt s0) s0; have s1' := cell_past hb1 (cell_lt s1) s1; have o4' := cell_past hb1 (cell_lt o4) o4; have o6' := cell_past hb1 (cell_lt o6) o6; clear hb1 r0 r1 r2 r3 r4 s0 s1 o4 o6)
                  have zm := cell_past HB1.out (cell_lt hcm1) hcm1
                  have HB1B := Lib.hid (tof (F := F) HB1.out)
                  have hB1 : ∀ k, W1.heap.size ≤ k → F k := fge hB HB1.out.size
                  go_wp2
                  go_loopw [10] (fun i wr => ∃ k : Nat, k ≤ o.data.length ∧ i = .int .i64 k ∧ Turned (fun j => j = gy) W1 wr ∧ wr.heap[gy]? = some (.cells (intsC (putR bs (a + fn) (o.data.take k))) 3 (0, 0))) (fun i _ => o.data.length - (intOf i).toNat)
                  case atStart => exact ⟨0, Nat.zero_le _, rfl, Turned.refl _ _, by rw [List.take_zero, putR_nil]; exact HAT1.out.bytes⟩
                  case round =>
                    obtain ⟨k, hk, rfl, hT, hy⟩ := hrel
                    have hgl := lt_of_block HAT.out.bytes
                    have hws := HB0.out.size
                    have o4q := turned_cell hT (by show ¬ w.heap.size = gy; omega) o4'
                    have o6q := turned_cell hT (by show ¬ w.heap.size = gy; omega) o6'
                    have s0q := turned_cell hT (by show ¬ w.heap.size + 1 + 1 = gy; omega) s0'
                    have zmq := turned_cell hT (by show ¬ m = gy; exact HNE.out) zm
                    by_cases hlt : k < o.data.length
                    · obtain ⟨db, doff, rfl, hcell⟩ := HD1.out k hlt
                      have hdb := data_apart HAT.out.bytes hcell
                      have g1 := turned_cell hT (by show ¬ db = gy; exact hdb) (cell_past HB1.out (cell_lt hcell) hcell)
                      have hdk := HOB.out _ (List.getElem_mem hlt)
                      have hde : o.data.getD k 0 = o.data[k] := by rw [List.getD_eq_getElem?_getD, List.getElem?_eq_getElem hlt]; rfl
                      rw [← hde] at hdk
                      have htk : o.data.take (k + 1) = o.data.take k ++ [o.data.getD k 0] := by rw [List.take_succ_eq_append_getElem hlt, hde]
                      have htl : (o.data.take k).length = k := by rw [List.length_take]; omega
                      have hpl : (putR bs (a + fn) (o.data.take k)).length = bs.length := putR_length _ _ _ (by rw [htl]; omega)
                      have hck : wr.cell? ⟨gy, a + fn + k, none⟩ = some (.int .i64 ((putR bs (a + fn) (o.data.take k)).getD (a + fn + k) 0)) := by
                        rw [cell_of_block hy, intsC, List.getElem?_toArray, List.getElem?_map, List.getElem?_eq_getElem (by rw [hpl]; omega)]
                        simp [List.getD, List.getElem?_eq_getElem (show a + fn + k < (putR bs (a + fn) (o.data.take k)).length from by rw [hpl]; omega)]
                      have hfk : wr.frozen? ⟨gy, a + fn + k, none⟩ = false := frozen_of_row _ _ _ _ _ hy
                      have hnx : (wr.drew.setCell ⟨gy, a + fn + k, none⟩ (.int .i64 (o.data.getD k 0))).heap[gy]? = some (.cells (intsC (putR bs (a + fn) (o.data.take (k + 1)))) 3 (0, 0)) := by
                        have := heap_setCell_eq (w := wr.drew) (b := gy) (i := a + fn + k) hy (.int .i64 (o.data.getD k 0))
                        have hps := putR_succ bs (a + fn) (o.data.take k) (o.data.getD k 0) (by rw [htl]; omega)
                        rw [htl] at hps
                        rw [this, intsC_set, hps, htk]
                      have hTx : Turned (fun j => j = gy) W1 (wr.drew.setCell ⟨gy, a + fn + k, none⟩ (.int .i64 (o.data.getD k 0))) := turned_set2 (show Turned (fun j => j = gy) W1 wr.drew from ⟨hT.os, hT.tape, hT.output, hT.size, hT.block⟩) _ _
                      have HNX := Lib.hid hnx
                      have HTX := Lib.hid hTx
                      have hsum : IntKind.i64.wrap ((a : Int) + fn + k) = (a : Int) + fn + k := by rw [IntKind.wrap_i64]; omega
                      have hidx : (0 : Int) ≤ (a : Int) + fn + k ∧ (a : Int) + fn + k < bs.length := by omega
                      have hix : ((a : Int) + fn + k).toNat = a + fn + k := by omega
                      have hkw : IntKind.i64.wrap ((k : Int) + 1) = (k : Int) + 1 := by rw [IntKind.wrap_i64]; omega
                      have hi2 : a + fn + k < bs.length := by omega
                      clear hnx hTx hy hT hcell hdb hde htk htl hpl
                      generalize o.data.getD k 0 = d at *
                      generalize (putR bs (a + fn) (o.data.take k)).getD (a + fn + k) 0 = d0 at *
                      have hdw : IntKind.i64.wrap d = d := by rw [IntKind.wrap_i64]; omega
                      go_wp2
                      go_region
                      go_wp2
                      go_roundw
                      case rel => exact ⟨k + 1, by omega, by go_num, HTX.out, HNX.out⟩
                      case measure => first | (simp [intOf]; done) | (simp [intOf]; omega)
                    · obtain rfl : k = o.data.length := by omega
                      rw [List.take_length] at hy
                      have hput := ref_put (b := b) (f := fn) (ds := o.data) HAT1.out HI.out HMEM.out hfit hT (by rw [HAE.out, Int.toNat_natCast]; exact hy) hB1
                      rw [HAE.out] at hput
                      have HPUT := Lib.hid hput
                      clear hput hT hy
                      go_wp2
                      go_ret
                      exact ⟨rfl, HPUT.out.1, HB1B.out.trans HPUT.out.2⟩
        · have hta : touchA A b o x = readA b o x := by unfold touchA; rw [k3, k4, k5, k6]; rfl
          rw [hta]
          clear hta
          (go_enter Tryz.func30, Tryz.ntmps30; go_wp2_with (fail); rw [← HW0.out])
          refine (HREAD.out _ HX0.out (HD2.out.below HB0.out) hBW).mono ?_
          rintro e W1 ⟨rfl, hx1, hb1⟩
          have HX1 := Lib.hid hx1
          have HB1 := Lib.hid ((tof (F := F) HB0.out).trans hb1)
          clear hx1 hb1
          go_wp2
          go_ret
          exact ⟨rfl, HX1.out, HB1.out⟩
      · have hta : touchA A b o x = (.keep, placedB x.err x.count x.data.length && ((x.at_ == 0) && (x.n == b.n))) := by
          unfold touchA onlyA onlyB placedB
          rw [k3, k4, k5]
          cases x.err == 0 <;> cases x.count == 0 <;> cases (x.data.length : Int) == 0 <;> cases x.at_ == 0 <;> cases x.n == b.n <;> rfl
        rw [hta]
        clear hta
        cases hp : placedB x.err x.count x.data.length
        · (go_enter Tryz.func30, Tryz.ntmps30; go_wp2_with (fail); rw [← HW0.out])
          refine (placedR_any _ _ _ _ _ _ _ _).mono ?_
          rintro e W1 ⟨rfl, hb1⟩
          rw [hp]
          (have HAT1 := Lib.hid (HAT.out.below (HB0.out.trans (hb1.mono HB0.out.size))); have HB1 := Lib.hid (HB0.out.trans (hb1.mono HB0.out.size)); have r1' := cell_past hb1 (cell_lt r1) r1; have r2' := cell_past hb1 (cell_lt r2) r2; have s0' := cell_past hb1 (cell_lt s0) s0; have s1' := cell_past hb1 (cell_lt s1) s1; have o4' := cell_past hb1 (cell_lt o4) o4; have o6' := cell_past hb1 (cell_lt o6) o6; clear hb1 r0 r1 r2 r3 r4 s0 s1 o4 o6)
          go_wp2
          go_ret
          exact ⟨rfl, HEND.out _ false HAT1.out HB1.out⟩
        · rw [Bool.true_and]
          cases c1 : (x.at_ == 0)
          · (go_enter Tryz.func30, Tryz.ntmps30; go_wp2_with (fail); rw [← HW0.out])
            refine (placedR_any _ _ _ _ _ _ _ _).mono ?_
            rintro e W1 ⟨rfl, hb1⟩
            rw [hp]
            (have HAT1 := Lib.hid (HAT.out.below (HB0.out.trans (hb1.mono HB0.out.size))); have HB1 := Lib.hid (HB0.out.trans (hb1.mono HB0.out.size)); have r1' := cell_past hb1 (cell_lt r1) r1; have r2' := cell_past hb1 (cell_lt r2) r2; have s0' := cell_past hb1 (cell_lt s0) s0; have s1' := cell_past hb1 (cell_lt s1) s1; have o4' := cell_past hb1 (cell_lt o4) o4; have o6' := cell_past hb1 (cell_lt o6) o6; clear hb1 r0 r1 r2 r3 r4 s0 s1 o4 o6)
            go_wp2
            go_ret
            exact ⟨rfl, HEND.out _ false HAT1.out HB1.out⟩
          · rw [Bool.true_and]
            cases c2 : (x.n == b.n)
            all_goals
              (go_enter Tryz.func30, Tryz.ntmps30; go_wp2_with (fail); rw [← HW0.out])
              refine (placedR_any _ _ _ _ _ _ _ _).mono ?_
              rintro e W1 ⟨rfl, hb1⟩
              rw [hp]
              (have HAT1 := Lib.hid (HAT.out.below (HB0.out.trans (hb1.mono HB0.out.size))); have HB1 := Lib.hid (HB0.out.trans (hb1.mono HB0.out.size)); have r1' := cell_past hb1 (cell_lt r1) r1; have r2' := cell_past hb1 (cell_lt r2) r2; have s0' := cell_past hb1 (cell_lt s0) s0; have s1' := cell_past hb1 (cell_lt s1) s1; have o4' := cell_past hb1 (cell_lt o4) o4; have o6' := cell_past hb1 (cell_lt o6) o6; clear hb1 r0 r1 r2 r3 r4 s0 s1 o4 o6)
              go_wp2
              go_ret
              first
                | exact ⟨rfl, HEND.out _ false HAT1.out HB1.out⟩
                | exact ⟨rfl, HEND.out _ true HAT1.out HB1.out⟩
    · have hta : touchA A b o x = (.drop b.at_, bareB x.err x.at_ x.n x.count 0 x.data.length) := by unfold touchA; rw [k3, k4]; rfl
      rw [hta]
      clear hta
      cases h0 : bareB x.err x.at_ x.n x.count 0 x.data.length
      · (go_enter Tryz.func30, Tryz.ntmps30; go_wp2_with (fail); rw [← HW0.out])
        refine (bareR_any _ _ _ _ _ _ _ _ _).mono ?_
        rintro e W1 ⟨rfl, hb1⟩
        rw [h0]
        (have HAT1 := Lib.hid (HAT.out.below (HB0.out.trans (hb1.mono HB0.out.size))); have HB1 := Lib.hid (HB0.out.trans (hb1.mono HB0.out.size)); have r1' := cell_past hb1 (cell_lt r1) r1; have r2' := cell_past hb1 (cell_lt r2) r2; have s0' := cell_past hb1 (cell_lt s0) s0; have s1' := cell_past hb1 (cell_lt s1) s1; have o4' := cell_past hb1 (cell_lt o4) o4; have o6' := cell_past hb1 (cell_lt o6) o6; clear hb1 r0 r1 r2 r3 r4 s0 s1 o4 o6)
        go_wp2
        go_ret
        exact ⟨rfl, HEND.out _ false HAT1.out HB1.out⟩
      · (go_enter Tryz.func30, Tryz.ntmps30; go_wp2_with (fail); rw [← HW0.out])
        refine (bareR_any _ _ _ _ _ _ _ _ _).mono ?_
        rintro e W1 ⟨rfl, hb1⟩
        rw [h0]
        (have HAT1 := Lib.hid (HAT.out.below (HB0.out.trans (hb1.mono HB0.out.size))); have HB1 := Lib.hid (HB0.out.trans (hb1.mono HB0.out.size)); have r1' := cell_past hb1 (cell_lt r1) r1; have r2' := cell_past hb1 (cell_lt r2) r2; have s0' := cell_past hb1 (cell_lt s0) s0; have s1' := cell_past hb1 (cell_lt s1) s1; have o4' := cell_past hb1 (cell_lt o4) o4; have o6' := cell_past hb1 (cell_lt o6) o6; clear hb1 r0 r1 r2 r3 r4 s0 s1 o4 o6)
        go_wp2_with (fail)
        refine (HDROP.out _ ⟨_, _, _, _, HAT1.out⟩ (fge hB HB1.out.size)).mono ?_
        rintro e W2 ⟨rfl, hx2, hb2⟩
        have HX2 := Lib.hid hx2
        have HB2 := Lib.hid ((tof (F := F) HB1.out).trans hb2)
        clear hx2 hb2
        go_wp2
        go_ret
        exact ⟨rfl, HX2.out, HB2.out⟩
  · have hta : touchA A b o x = againA A b o x := by unfold touchA; rw [k3]; rfl
    rw [hta]
    clear hta
    (go_enter Tryz.func30, Tryz.ntmps30; go_wp2_with (fail); rw [← HW0.out])
    refine (HAGAIN.out _ HX0.out hBW).mono ?_
    rintro e W1 ⟨rfl, hx1, hb1⟩
    have HX1 := Lib.hid hx1
    have HB1 := Lib.hid ((tof (F := F) HB0.out).trans hb1)
    clear hx1 hb1
    go_wp2
    go_ret
    exact ⟨rfl, HX1.out, HB1.out⟩

end Go.Proofs.YtgcnbiccekaffaaGreat
