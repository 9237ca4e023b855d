/- The reference's lay: the walk. -/
import Derived.Test.YtgcnbiccekaffaaGreatXfg
import Derived.BigRegion
namespace Go.Proofs.YtgcnbiccekaffaaGreat
open Go.RowKit Go.ChangeMaps

/-- Between two rounds of the first loop of lay. -/
def LayI (B : Nat) (W0 wr : World) (b : Blk) (l : List Blk) (k : Nat) (done : Bool) (v : Value) : Prop :=
  ∃ out : List Blk, LayOut b l k done out ∧ out.length ≤ k + done.toNat ∧ wr.ownsRow B 54 3 v out.length (rowV out) ∧ Below B W0 wr

theorem own_slice2 {w : World} {base n size : Nat} {T : TypeId} {v : Value} {xs : List Value} (h : w.ownsRow base T size v n xs) : ∃ p c, v = .slice p n c := by
  rcases h.2 with ⟨h0, h1⟩ | ⟨g, cap, cur, h0, _⟩
  · exact ⟨none, 0, by rw [h0, h1]⟩
  · exact ⟨_, _, h0⟩

/-- What stands when the row is laid out: the second loop and the end need no more. -/
structure LayMid (F : Nat → Prop) (w W : World) (m gy cy : Nat) (A : AM) (bs : List Int) (b : Blk) (v : Value) : Prop where
  rows : W.ownsRow (w.heap.size + 1) 54 3 v (insB b A.blocks).length (rowV (insB b A.blocks))
  model : W.heap[m]? = some (.cells #[v, .slice (some ⟨gy, 0, none⟩) bs.length cy] 52 (0, 0))
  bytes : W.heap[gy]? = some (.cells (intsC bs) 3 (0, 0))
  ne : m ≠ gy
  below : Tn F w W
  turned : Turned (fun j => j = m) w W

theorem lay_mid {F : Nat → Prop} {w W0 wX : World} {m gy cy : Nat} {A : AM} {bs : List Int} {b : Blk} {v vb : Value} (h : RefAt F w m A vb gy cy bs) (hB : ∀ k, w.heap.size ≤ k → F k) (hb0 : Below w.heap.size w W0) (hbx : Below (w.heap.size + 1) W0 wX)
    (hr : wX.ownsRow (w.heap.size + 1) 54 3 v (insB b A.blocks).length (rowV (insB b A.blocks))) : LayMid F w (wX.setCell ⟨m, 0, none⟩ v) m gy cy A bs b v := by
  have hw : Below w.heap.size w wX := hb0.trans (hbx.mono (by omega))
  have hm : wX.heap[m]? = _ := (hw.block _ (lt_of_block h.model)).trans h.model
  have hy : wX.heap[gy]? = _ := (hw.block _ (lt_of_block h.bytes)).trans h.bytes
  have hlm := lt_of_block h.model
  have hne : m ≠ gy := fun e => by
    rw [e, hy] at hm
    simp at hm
  refine ⟨ownsRow_setCell_below hr (by show m < _; omega) _, ?_, ?_, hne, ?_, Turned.setCell (F := fun j => j = m) (p := ⟨m, 0, none⟩) (Turned.of_below hw (Nat.le_refl _)) (.inl rfl) _⟩
  · have := heap_setCell_eq (i := 0) hm v
    rw [this]
    rfl
  · rw [Below.heap_setCell _ _ _ _ (Ne.symm hne)]
    exact hy
  · exact (tof (F := F) hw).setCell (h.lo.1) _

theorem turned_set2 {g : Nat} {a w : World} (h : Turned (fun j => j = g) a w) (i : Nat) (u : Value) : Turned (fun j => j = g) a (w.setCell ⟨g, i, none⟩ u) :=
  Turned.setCell (F := fun j => j = g) (p := ⟨g, i, none⟩) h (.inl rfl) u

theorem intsC_set (bs : List Int) (i : Nat) (v : Int) : (intsC bs).setIfInBounds i (.int .i64 v) = intsC (bs.set i v) := by
  unfold intsC
  apply Array.toList_inj.1
  simp [List.map_set]

/-- What lay leaves. -/
def LayDone (F : Nat → Prop) (w : World) (m gy cy : Nat) (A' : AM) (bs' : List Int) (w' : World) : Prop :=
  (∃ vX, RefAt F w' m A' vX gy cy bs') ∧ Turned (fun j => j = m ∨ j = gy) w w' ∧ Tn F w w'

theorem lay_done {F : Nat → Prop} {w W8 wr : World} {m gy cy : Nat} {A : AM} {bs : List Int} {at_ s v : Int} {n : Nat} {cs : List (Option Int)} {vX vb : Value} (h : RefAt F w m A vb gy cy bs) (hB : ∀ k, w.heap.size ≤ k → F k) (hM : LayMid F w W8 m gy cy A bs ⟨at_, n, s, cs⟩ vX)
    (hT : Turned (fun j => j = gy) W8 wr) (hy : wr.heap[gy]? = some (.cells (intsC (setR bs at_.toNat n v)) 3 (0, 0))) (h0 : 0 ≤ at_) (hfit : at_ + n ≤ A.bytes) (hap : ∀ b ∈ A.blocks, meetB at_ n b = false) (hlo : ∀ b ∈ A.blocks, 0 ≤ b.at_)
    (hc : ∀ k, k < n → codeB (cs.getD k none) = v) : LayDone F w m gy cy (applyC A (.lay ⟨at_, n, s, cs⟩)) (setR bs at_.toNat n v) wr := by
  have hlen := h.of.1
  have hgl := lt_of_block h.bytes
  have hfit2 : at_.toNat + n ≤ bs.length := by omega
  have hbel : Tn F W8 wr := Turned.mono hT (fun x hx _ => by rw [hx]; exact h.lo.2)
  refine ⟨⟨vX, ⟨?_, ?_, own_ge hM.rows (fge hB (Nat.le_succ _)), hy, bytes_lay h.of h0 hfit hap hlo hc, h.lo, h.cap⟩⟩, (hM.turned.mono (fun x hx _ => .inl hx)).trans hT (fun x hx _ => .inr hx), hM.below.trans hbel⟩
  · rw [setR_length _ _ _ _ hfit2]
    exact (hT.block _ (lt_of_block hM.model) hM.ne).trans hM.model
  · have hr := hM.rows
    rcases hr.2 with ⟨h1, h2⟩ | ⟨g, cap, cur, h1, h2, h3, h4⟩
    · exact ⟨hr.1, .inl ⟨h1, h2⟩⟩
    · refine ⟨hr.1, .inr ⟨g, cap, cur, h1, by omega, ?_, h4⟩⟩
      exact (hT.block g (lt_of_block h3) (by omega)).trans h3

theorem lay_grown {B : Nat} {W0 w1 w3 : World} {v : Value} {k : Nat} {xs : List Value} {o : Obj} {T : TypeId} {size : Nat} (hb : Below B W0 w1) (hr : w1.ownsRow B T size v k xs) (hg : (w1.alloc o).grownBy w3 v.ownBlock) (hB : B < W0.heap.size) : Below B W0 w3 :=
  Below.grown (hb.alloc (Nat.le_trans (Nat.le_of_lt hB) hb.size) o) hg (by have := hb.size; simp; omega) (fun j e => (hr.lt j e).1)

set_option maxRecDepth 100000 in
set_option maxHeartbeats 1500000 in
theorem layR_at {F : Nat → Prop} {w : World} {m gy cy : Nat} {A : AM} {vb : Value} {bs : List Int} (h : RefAt F w m A vb gy cy bs) (hI : Inv A) (at_ s v : Int) (n : Nat) (cs : List (Option Int)) (h0 : 0 ≤ at_) (hfit : at_ + n ≤ A.bytes) (hap : ∀ b ∈ A.blocks, meetB at_ n b = false) (hc : ∀ k, k < n → codeB (cs.getD k none) = v) (hB : ∀ k, w.heap.size ≤ k → F k) :
    Calls Tryz.prog 52 #[.pointer (some ⟨m, 0, none⟩), .agg #[.int .i64 at_, .int .i64 n, .int .i64 s], .int .i64 v] w (fun e w' => e = .returned (.tuple #[]) ∧ LayDone F w m gy cy (applyC A (.lay ⟨at_, n, s, cs⟩)) (setR bs at_.toNat n v) w') := by
  obtain ⟨i0, hi, hz0, hz1, hz2⟩ := info_parts info_rblock
  obtain ⟨pb, cb, rfl, hrows⟩ := rowsAt_own h.rows
  have HH := Lib.hid h
  have HR := Lib.hid hrows
  have HI := Lib.hid hI
  have HAP := Lib.hid hap
  have HC := Lib.hid hc
  have hcount := hI.count
  have hb1 := hI.b1
  clear h hrows hI hap hc
  obtain ⟨W0, hW0⟩ : ∃ W0, W0 = (w.alloc (.cells #[.int .i64 at_, .int .i64 n, .int .i64 s] 54)).alloc (.cells #[] 54) := ⟨_, rfl⟩
  have hb0 : Below w.heap.size w W0 := by rw [hW0]; exact (by repeat (first | exact Below.refl _ _ | assumption | refine Below.alloc ?_ (by first | omega | (simp <;> omega)) _ | refine Below.drew ?_ | refine Below.setCell ?_ (by first | omega | (simp <;> omega)) _ | refine Below.via (by assumption) (by first | omega | (simp <;> omega)) ?_))
  have x0 : W0.cell? ⟨w.heap.size, 0, none⟩ = some (.int .i64 at_) := by rw [hW0, cell_of_block (heap_alloc2_old _ _ _)]; rfl
  have x1 : W0.cell? ⟨w.heap.size, 1, none⟩ = some (.int .i64 n) := by rw [hW0, cell_of_block (heap_alloc2_old _ _ _)]; rfl
  have x2 : W0.cell? ⟨w.heap.size, 2, none⟩ = some (.int .i64 s) := by rw [hW0, cell_of_block (heap_alloc2_old _ _ _)]; rfl
  have hown : W0.ownsRow (w.heap.size + 1) 54 3 (.slice (some ⟨w.heap.size + 1, 0, none⟩) 0 0) 0 [] := by
    rw [hW0]
    have := World.ownsRow_made (base := w.heap.size + 1) (e := 54) (size := 3) (w.alloc (.cells #[.int .i64 at_, .int .i64 n, .int .i64 s] 54)) #[] 0 (by simp) (Nat.zero_le _) rfl
    simpa using this
  have HW := Lib.hid hW0
  have HOWN := Lib.hid hown
  have HB0 := Lib.hid hb0
  clear hW0 hown hb0
  go_enter Tryz.func52, Tryz.ntmps52
  go_wp2
  rw [show (w.alloc (.cells #[.int .i64 at_, .int .i64 n, .int .i64 s] 54)).alloc (.cells #[] 54) = W0 from HW.out.symm]
  go_loopw [6, 7, 8] (fun o d i wr => ∃ (k : Nat) (done : Bool), k ≤ A.blocks.length ∧ i = .int .i64 k ∧ d = .bool done ∧ LayI (w.heap.size + 1) W0 wr ⟨at_, n, s, cs⟩ A.blocks k done o) (fun _ _ i _ => A.blocks.length - (intOf i).toNat)
  case atStart => exact ⟨0, false, Nat.zero_le _, rfl, rfl, [], layOut_zero _ _, by simp, HOWN.out, Below.refl _ _⟩
  case round =>
    obtain ⟨k, done, hk, rfl, rfl, out, hlay, hol, hrow, hbl⟩ := hrel
    have hbw : Below w.heap.size w wr := HB0.out.trans (hbl.mono (by omega))
    have hs0 : w.heap.size + 1 ≤ wr.heap.size := Nat.le_trans (HOWN.out.lt _ rfl).1 (Nat.le_trans (Nat.le_of_lt (HOWN.out.lt _ rfl).2) hbl.size)
    have hs1 : w.heap.size + 1 < W0.heap.size := (HOWN.out.lt _ rfl).2
    have hs2 : W0.heap.size ≤ wr.heap.size := hbl.size
    have c0 : w.cell? ⟨m, 0, none⟩ = some (.slice pb A.blocks.length cb) := by rw [cell_of_block HH.out.model]; rfl
    obtain ⟨po, co, rfl⟩ := own_slice2 hrow
    have HBW := Lib.hid hbw
    have HBL := Lib.hid hbl
    have HROW := Lib.hid hrow
    have HLAY := Lib.hid hlay
    by_cases hlt : k < A.blocks.length
    · obtain ⟨g, hg, y0, y1, y2⟩ := HR.out k hlt
      subst hg
      have hins := fun (e : LayOut ⟨at_, n, s, cs⟩ A.blocks k false out) => layOut_insert e hlt
      have hkeep := fun (e : LayOut ⟨at_, n, s, cs⟩ A.blocks k false out) => layOut_keep e hlt
      have hnext := fun (e : LayOut ⟨at_, n, s, cs⟩ A.blocks k true out) => layOut_next e hlt
      have HINS := Lib.hid hins
      have HKEEP := Lib.hid hkeep
      have HNEXT := Lib.hid hnext
      have hi1 : (0 : Int) ≤ k ∧ (k : Int) < A.blocks.length := by omega
      have hkw : IntKind.i64.wrap ((k : Int) + 1) = (k : Int) + 1 := by rw [IntKind.wrap_i64]; omega
      have hdn : done.toNat ≤ 1 := Bool.toNat_le done
      have hol2 : out.length ≤ 1048577 := by omega
      clear hins hkeep hnext hlay hrow
      generalize A.blocks[k] = x at *
      have d0 := cell_past hbw (cell_lt c0) c0
      have u0 := cell_past hbw (cell_lt y0) y0
      have u1 := cell_past hbw (cell_lt y1) y1
      have u2 := cell_past hbw (cell_lt y2) y2
      have z0 := cell_past hbl (Nat.lt_succ_self _) x0
      cases done
      · by_cases hgt : at_ < x.at_
        · have HL := Lib.hid (HINS.out HLAY.out hgt)
          clear HINS HKEEP HNEXT
          go_wp2
          (refine wp_region_quiet_ext (by kernel_rfl) (by kernel_rfl) ?_; (repeat (first | go_big_quiet_step ((fail)) | quiet_step ((fail)))); refine wpQuiet_nil ?_; intro w1 hw1; obtain hb := below_of_ext hw1; clear hw1; obtain ⟨hc, hf⟩ := bcell hb; have hz := hb.size; (try simp at hz))
          have HBq := Lib.hid (HBL.out.trans (hb.mono hs0))
          have HRq := Lib.hid (ownsRow_below HROW.out hb)
          clear hb hc hf d0 u0 u1 u2 z0 hbl hbw
          (have HWw1 := Lib.hid (HB0.out.trans (HBq.out.mono (by omega))); have d0 := cell_past HWw1.out (cell_lt c0) c0; have u0 := cell_past HWw1.out (cell_lt y0) y0; have u1 := cell_past HWw1.out (cell_lt y1) y1; have u2 := cell_past HWw1.out (cell_lt y2) y2; have z0 := cell_past HBq.out (Nat.lt_succ_self _) x0; have z1 := cell_past HBq.out (Nat.lt_succ_self _) x1; have z2 := cell_past HBq.out (Nat.lt_succ_self _) x2)
          go_wp2_with (first
            | (at_builtin; refine wpList_append_own _ rfl _ _ 48 rfl (w.heap.size + 1) 54 i0 (.agg #[.int .i64 0, .int .i64 0, .int .i64 0]) 3 24 Tryz.underlying48 hi hz0 hz1 hz2 rfl (by decide) _ _ _ rfl (HRq.out.alloc _) ⟨w1.heap.size, 0, none⟩ 1 1 [.int .i64 at_, .int .i64 n, .int .i64 s] rfl rfl (cell_three_new _ _ _ _ _) (fun u hu => by simp at hu; rcases hu with rfl | rfl | rfl <;> rfl) (by unfold maxLen; omega) (by omega) (by have := HBq.out.size; simp; omega) ?_
               intro v3 w3 hown3 hgrow3 hnil3
               have HB3 := Lib.hid (lay_grown HBq.out HRq.out hgrow3 hs1)
               have HR3 := Lib.hid hown3
               clear hown3 hgrow3 hnil3
               (have HWw3 := Lib.hid (HB0.out.trans (HB3.out.mono (by omega))); have d0 := cell_past HWw3.out (cell_lt c0) c0; have u0 := cell_past HWw3.out (cell_lt y0) y0; have u1 := cell_past HWw3.out (cell_lt y1) y1; have u2 := cell_past HWw3.out (cell_lt y2) y2; have z0 := cell_past HB3.out (Nat.lt_succ_self _) x0; have z1 := cell_past HB3.out (Nat.lt_succ_self _) x1; have z2 := cell_past HB3.out (Nat.lt_succ_self _) x2))
            | (at_builtin; refine wpList_append_own _ rfl _ _ 48 rfl (w.heap.size + 1) 54 i0 (.agg #[.int .i64 0, .int .i64 0, .int .i64 0]) 3 24 Tryz.underlying48 hi hz0 hz1 hz2 rfl (by decide) _ _ _ rfl (HR3.out.alloc _) ⟨w3.heap.size, 0, none⟩ 1 1 [.int .i64 x.at_, .int .i64 x.n, .int .i64 x.size] rfl rfl (cell_three_new _ _ _ _ _) (fun u hu => by simp at hu; rcases hu with rfl | rfl | rfl <;> rfl) (by unfold maxLen; omega) (by omega) (by have := HB3.out.size; simp; omega) ?_
               intro v4 w4 hown4 hgrow4 hnil4
               have HB4 := Lib.hid (lay_grown HB3.out HR3.out hgrow4 hs1)
               have HR4 := Lib.hid hown4
               clear hown4 hgrow4 hnil4))
          go_roundw
          case rel => exact ⟨k + 1, true, by omega, by go_num, rfl, _, HL.out, by simp at hol ⊢; omega, by simpa [rowV, blkV] using HR4.out, HB4.out⟩
          case measure => simp [intOf]; omega
        · have HL := Lib.hid (HKEEP.out HLAY.out hgt)
          have hgt' : decide (at_ < x.at_) = false := decide_eq_false hgt
          clear HINS HKEEP HNEXT
          go_wp2
          (refine wp_region_quiet_ext (by kernel_rfl) (by kernel_rfl) ?_; (repeat (first | go_big_quiet_step ((fail)) | quiet_step ((fail)))); refine wpQuiet_nil ?_; intro w1 hw1; obtain hb := below_of_ext hw1; clear hw1; obtain ⟨hc, hf⟩ := bcell hb; have hz := hb.size; (try simp at hz))
          have HBq := Lib.hid (HBL.out.trans (hb.mono hs0))
          have HRq := Lib.hid (ownsRow_below HROW.out hb)
          clear hb hc hf d0 u0 u1 u2 z0 hbl hbw
          (have HWw1 := Lib.hid (HB0.out.trans (HBq.out.mono (by omega))); have d0 := cell_past HWw1.out (cell_lt c0) c0; have u0 := cell_past HWw1.out (cell_lt y0) y0; have u1 := cell_past HWw1.out (cell_lt y1) y1; have u2 := cell_past HWw1.out (cell_lt y2) y2; have z0 := cell_past HBq.out (Nat.lt_succ_self _) x0; have z1 := cell_past HBq.out (Nat.lt_succ_self _) x1; have z2 := cell_past HBq.out (Nat.lt_succ_self _) x2)
          go_wp2_with (at_builtin; refine wpList_append_own _ rfl _ _ 48 rfl (w.heap.size + 1) 54 i0 (.agg #[.int .i64 0, .int .i64 0, .int .i64 0]) 3 24 Tryz.underlying48 hi hz0 hz1 hz2 rfl (by decide) _ _ _ rfl (HRq.out.alloc _) ⟨w1.heap.size, 0, none⟩ 1 1 [.int .i64 x.at_, .int .i64 x.n, .int .i64 x.size] rfl rfl (cell_three_new _ _ _ _ _) (fun u hu => by simp at hu; rcases hu with rfl | rfl | rfl <;> rfl) (by unfold maxLen; omega) (by omega) (by have := HBq.out.size; simp; omega) ?_; intro v3 w3 hown3 hgrow3 hnil3; have HB3 := Lib.hid (lay_grown HBq.out HRq.out hgrow3 hs1); have HR3 := Lib.hid hown3; clear hown3 hgrow3 hnil3)
          go_roundw
          case rel => exact ⟨k + 1, false, by omega, by go_num, rfl, _, HL.out, by simp at hol ⊢; omega, by simpa [rowV, blkV] using HR3.out, HB3.out⟩
          case measure => simp [intOf]; omega
      · have HL := Lib.hid (HNEXT.out HLAY.out)
        clear HINS HKEEP HNEXT
        go_wp2
        (refine wp_region_quiet_ext (by kernel_rfl) (by kernel_rfl) ?_; (repeat (first | go_big_quiet_step ((fail)) | quiet_step ((fail)))); refine wpQuiet_nil ?_; intro w1 hw1; obtain hb := below_of_ext hw1; clear hw1; obtain ⟨hc, hf⟩ := bcell hb; have hz := hb.size; (try simp at hz))
        have HBq := Lib.hid (HBL.out.trans (hb.mono hs0))
        have HRq := Lib.hid (ownsRow_below HROW.out hb)
        clear hb hc hf d0 u0 u1 u2 z0 hbl hbw
        (have HWw1 := Lib.hid (HB0.out.trans (HBq.out.mono (by omega))); have d0 := cell_past HWw1.out (cell_lt c0) c0; have u0 := cell_past HWw1.out (cell_lt y0) y0; have u1 := cell_past HWw1.out (cell_lt y1) y1; have u2 := cell_past HWw1.out (cell_lt y2) y2; have z0 := cell_past HBq.out (Nat.lt_succ_self _) x0; have z1 := cell_past HBq.out (Nat.lt_succ_self _) x1; have z2 := cell_past HBq.out (Nat.lt_succ_self _) x2)
        go_wp2_with (at_builtin; refine wpList_append_own _ rfl _ _ 48 rfl (w.heap.size + 1) 54 i0 (.agg #[.int .i64 0, .int .i64 0, .int .i64 0]) 3 24 Tryz.underlying48 hi hz0 hz1 hz2 rfl (by decide) _ _ _ rfl (HRq.out.alloc _) ⟨w1.heap.size, 0, none⟩ 1 1 [.int .i64 x.at_, .int .i64 x.n, .int .i64 x.size] rfl rfl (cell_three_new _ _ _ _ _) (fun u hu => by simp at hu; rcases hu with rfl | rfl | rfl <;> rfl) (by unfold maxLen; omega) (by omega) (by have := HBq.out.size; simp; omega) ?_; intro v3 w3 hown3 hgrow3 hnil3; have HB3 := Lib.hid (lay_grown HBq.out HRq.out hgrow3 hs1); have HR3 := Lib.hid hown3; clear hown3 hgrow3 hnil3)
        go_roundw
        case rel => exact ⟨k + 1, true, by omega, by go_num, rfl, _, HL.out, by simp at hol ⊢; omega, by simpa [rowV, blkV] using HR3.out, HB3.out⟩
        case measure => simp [intOf]; omega
    · obtain rfl : k = A.blocks.length := by omega
      have hend := layOut_end hlay
      have d0 := cell_past hbw (cell_lt c0) c0
      have z0 := cell_past hbl (Nat.lt_succ_self _) x0
      have z1 := cell_past hbl (Nat.lt_succ_self _) x1
      have z2 := cell_past hbl (Nat.lt_succ_self _) x2
      have hdn : done.toNat ≤ 1 := Bool.toNat_le done
      have hol2 : out.length ≤ 1048577 := by omega
      clear hlay HLAY
      cases done
      · have hend' : out ++ [⟨at_, n, s, cs⟩] = insB ⟨at_, n, s, cs⟩ A.blocks := hend
        have HEND := Lib.hid hend'
        clear hend hend' hrow hbl hbw
        go_wp2_with (at_builtin; refine wpList_append_own _ rfl _ _ 48 rfl (w.heap.size + 1) 54 i0 (.agg #[.int .i64 0, .int .i64 0, .int .i64 0]) 3 24 Tryz.underlying48 hi hz0 hz1 hz2 rfl (by decide) _ _ _ rfl (HROW.out.alloc _) ⟨wr.heap.size, 0, none⟩ 1 1 [.int .i64 at_, .int .i64 n, .int .i64 s] rfl rfl (cell_three_new _ _ _ _ _) (fun u hu => by simp at hu; rcases hu with rfl | rfl | rfl <;> rfl) (by unfold maxLen; omega) (by omega) (by simp; omega) ?_; intro v3 w3 hown3 hgrow3 hnil3; go_must (have HBX := Lib.hid (lay_grown HBL.out HROW.out hgrow3 hs1); have HMID := Lib.hid (lay_mid (b := ⟨at_, n, s, cs⟩) HH.out hB HB0.out HBX.out (by rw [← HEND.out]; simpa [rowV, blkV] using hown3)); obtain ⟨pv, cv, rfl⟩ := own_slice2 hown3; have hw3 := HB0.out.trans (HBX.out.mono (by omega : w.heap.size ≤ w.heap.size + 1)); have hm3 := (hw3.block _ (lt_of_block HH.out.model)).trans HH.out.model; have e3 : w3.cell? ⟨m, 0, none⟩ = some (.slice pb A.blocks.length cb) := cell_of_block hm3 0; have f3 : w3.frozen? ⟨m, 0, none⟩ = false := frozen_of_row _ _ _ _ _ hm3; have z0 := cell_past HBX.out (Nat.lt_succ_self _) x0; have z1 := cell_past HBX.out (Nat.lt_succ_self _) x1; clear hown3 hgrow3 hnil3 hw3 hm3 d0))
        obtain ⟨W8, hW8⟩ : ∃ W8, W8 = w3.setCell ⟨m, 0, none⟩ (.slice pv (out.length + 1) cv) := ⟨_, rfl⟩
        have hmid := HMID.out
        rw [← hW8] at hmid
        rw [← hW8]
        have hlm := lt_of_block HH.out.model
        have q0 : W8.cell? ⟨w.heap.size, 0, none⟩ = some (.int .i64 at_) := by rw [hW8]; exact turned_cell (turned_set2 (Turned.refl _ _) 0 _) (by show ¬ w.heap.size = m; omega) z0
        have q1 : W8.cell? ⟨w.heap.size, 1, none⟩ = some (.int .i64 n) := by rw [hW8]; exact turned_cell (turned_set2 (Turned.refl _ _) 0 _) (by show ¬ w.heap.size = m; omega) z1
        have hgl := lt_of_block HH.out.bytes
        have hlen := HH.out.of.1
        have hnb : n ≤ 1048576 := by omega
        have hfit2 : at_.toNat + n ≤ bs.length := by omega
        have hmc : W8.cell? ⟨m, 1, none⟩ = some (.slice (some ⟨gy, 0, none⟩) bs.length cy) := by rw [cell_of_block hmid.model]; rfl
        have HM8 := Lib.hid hmid
        clear hW8 hmid HMID z0 z1 z2 e3 f3 HEND
        go_loopw [9] (fun i wr => ∃ k : Nat, k ≤ n ∧ i = .int .i64 k ∧ Turned (fun j => j = gy) W8 wr ∧ wr.heap[gy]? = some (.cells (intsC (setR bs at_.toNat k v)) 3 (0, 0))) (fun i _ => n - (intOf i).toNat)
        case atStart => exact ⟨0, Nat.zero_le _, rfl, Turned.refl _ _, by rw [setR_zero]; exact HM8.out.bytes⟩
        case round =>
          obtain ⟨k, hk, rfl, hT, hy⟩ := hrel
          have p0 := turned_cell hT (by show ¬ w.heap.size = gy; omega) q0
          have p1 := turned_cell hT (by show ¬ w.heap.size = gy; omega) q1
          have pm := turned_cell hT (by show ¬ m = gy; exact HM8.out.ne) hmc
          by_cases hlt : k < n
          · obtain ⟨a, ha⟩ := Int.eq_ofNat_of_zero_le h0
            have hat : at_.toNat = a := by omega
            rw [hat] at hy
            have hlk : a + k < bs.length := by omega
            have hck : wr.cell? ⟨gy, a + k, none⟩ = some (.int .i64 ((setR bs a k v).getD (a + k) 0)) := by
              rw [cell_of_block hy, intsC, List.getElem?_toArray, List.getElem?_map, List.getElem?_eq_getElem (by rw [setR_length _ _ _ _ (by omega)]; exact hlk)]
              simp [List.getD, List.getElem?_eq_getElem (show a + k < (setR bs a k v).length from by rw [setR_length _ _ _ _ (by omega)]; exact hlk)]
            have hfk : wr.frozen? ⟨gy, a + k, none⟩ = false := frozen_of_row _ _ _ _ _ hy
            have hnx : (wr.drew.setCell ⟨gy, a + k, none⟩ (.int .i64 v)).heap[gy]? = some (.cells (intsC (setR bs a (k + 1) v)) 3 (0, 0)) := by
              have := heap_setCell_eq (w := wr.drew) (b := gy) (i := a + k) hy (.int .i64 v)
              rw [this, intsC_set, setR_succ _ _ _ _ hlk]
            have hTx : Turned (fun j => j = gy) W8 (wr.drew.setCell ⟨gy, a + k, none⟩ (.int .i64 v)) := turned_set2 (show Turned (fun j => j = gy) W8 wr.drew from ⟨hT.os, hT.tape, hT.output, hT.size, hT.block⟩) _ _
            have HNX := Lib.hid hnx
            have HTX := Lib.hid hTx
            have hwk : IntKind.i64.wrap ((a : Int) + k) = (a : Int) + k := by rw [IntKind.wrap_i64]; omega
            have hkw : IntKind.i64.wrap ((k : Int) + 1) = (k : Int) + 1 := by rw [IntKind.wrap_i64]; omega
            have hi1 : (0 : Int) ≤ (a : Int) + k ∧ (a : Int) + k < bs.length := by omega
            have hi2 : a + k < bs.length := hlk
            rw [ha] at p0
            clear hnx hTx hy hT
            go_wp2
            go_region
            go_wp2
            go_roundw
            case rel => exact ⟨k + 1, by omega, by go_num, HTX.out, by rw [hat]; exact HNX.out⟩
            case measure => first | (simp [intOf]; done) | (simp [intOf]; omega)
          · obtain rfl : k = n := by omega
            have HD := Lib.hid (lay_done (v := v) (cs := cs) HH.out hB HM8.out hT hy h0 hfit HAP.out (fun b hb => (HI.out.lo b hb).1) HC.out)
            clear hT hy
            go_wp2
            go_end0
            exact ⟨rfl, HD.out⟩
      · have hend' : out = insB ⟨at_, n, s, cs⟩ A.blocks := hend
        have HEND := Lib.hid hend'
        have HMID := Lib.hid (lay_mid (b := ⟨at_, n, s, cs⟩) HH.out hB HB0.out HBL.out (v := .slice po out.length co) (by rw [← HEND.out]; exact HROW.out))
        have hm3 := (hbw.block _ (lt_of_block HH.out.model)).trans HH.out.model
        have e3 : wr.cell? ⟨m, 0, none⟩ = some (.slice pb A.blocks.length cb) := cell_of_block hm3 0
        have f3 : wr.frozen? ⟨m, 0, none⟩ = false := frozen_of_row _ _ _ _ _ hm3
        clear hend hend' hrow hbl hbw hm3 d0
        go_wp2
        obtain ⟨W8, hW8⟩ : ∃ W8, W8 = wr.setCell ⟨m, 0, none⟩ (.slice po out.length co) := ⟨_, rfl⟩
        have hmid := HMID.out
        rw [← hW8] at hmid
        rw [← hW8]
        have hlm := lt_of_block HH.out.model
        have q0 : W8.cell? ⟨w.heap.size, 0, none⟩ = some (.int .i64 at_) := by rw [hW8]; exact turned_cell (turned_set2 (Turned.refl _ _) 0 _) (by show ¬ w.heap.size = m; omega) z0
        have q1 : W8.cell? ⟨w.heap.size, 1, none⟩ = some (.int .i64 n) := by rw [hW8]; exact turned_cell (turned_set2 (Turned.refl _ _) 0 _) (by show ¬ w.heap.size = m; omega) z1
        have hgl := lt_of_block HH.out.bytes
        have hlen := HH.out.of.1
        have hnb : n ≤ 1048576 := by omega
        have hfit2 : at_.toNat + n ≤ bs.length := by omega
        have hmc : W8.cell? ⟨m, 1, none⟩ = some (.slice (some ⟨gy, 0, none⟩) bs.length cy) := by rw [cell_of_block hmid.model]; rfl
        have HM8 := Lib.hid hmid
        clear hW8 hmid HMID z0 z1 z2 e3 f3 HEND
        go_loopw [9] (fun i wr => ∃ k : Nat, k ≤ n ∧ i = .int .i64 k ∧ Turned (fun j => j = gy) W8 wr ∧ wr.heap[gy]? = some (.cells (intsC (setR bs at_.toNat k v)) 3 (0, 0))) (fun i _ => n - (intOf i).toNat)
        case atStart => exact ⟨0, Nat.zero_le _, rfl, Turned.refl _ _, by rw [setR_zero]; exact HM8.out.bytes⟩
        case round =>
          obtain ⟨k, hk, rfl, hT, hy⟩ := hrel
          have p0 := turned_cell hT (by show ¬ w.heap.size = gy; omega) q0
          have p1 := turned_cell hT (by show ¬ w.heap.size = gy; omega) q1
          have pm := turned_cell hT (by show ¬ m = gy; exact HM8.out.ne) hmc
          by_cases hlt : k < n
          · obtain ⟨a, ha⟩ := Int.eq_ofNat_of_zero_le h0
            have hat : at_.toNat = a := by omega
            rw [hat] at hy
            have hlk : a + k < bs.length := by omega
            have hck : wr.cell? ⟨gy, a + k, none⟩ = some (.int .i64 ((setR bs a k v).getD (a + k) 0)) := by
              rw [cell_of_block hy, intsC, List.getElem?_toArray, List.getElem?_map, List.getElem?_eq_getElem (by rw [setR_length _ _ _ _ (by omega)]; exact hlk)]
              simp [List.getD, List.getElem?_eq_getElem (show a + k < (setR bs a k v).length from by rw [setR_length _ _ _ _ (by omega)]; exact hlk)]
            have hfk : wr.frozen? ⟨gy, a + k, none⟩ = false := frozen_of_row _ _ _ _ _ hy
            have hnx : (wr.drew.setCell ⟨gy, a + k, none⟩ (.int .i64 v)).heap[gy]? = some (.cells (intsC (setR bs a (k + 1) v)) 3 (0, 0)) := by
              have := heap_setCell_eq (w := wr.drew) (b := gy) (i := a + k) hy (.int .i64 v)
              rw [this, intsC_set, setR_succ _ _ _ _ hlk]
            have hTx : Turned (fun j => j = gy) W8 (wr.drew.setCell ⟨gy, a + k, none⟩ (.int .i64 v)) := turned_set2 (show Turned (fun j => j = gy) W8 wr.drew from ⟨hT.os, hT.tape, hT.output, hT.size, hT.block⟩) _ _
            have HNX := Lib.hid hnx
            have HTX := Lib.hid hTx
            have hwk : IntKind.i64.wrap ((a : Int) + k) = (a : Int) + k := by rw [IntKind.wrap_i64]; omega
            have hkw : IntKind.i64.wrap ((k : Int) + 1) = (k : Int) + 1 := by rw [IntKind.wrap_i64]; omega
            have hi1 : (0 : Int) ≤ (a : Int) + k ∧ (a : Int) + k < bs.length := by omega
            have hi2 : a + k < bs.length := hlk
            rw [ha] at p0
            clear hnx hTx hy hT
            go_wp2
            go_region
            go_wp2
            go_roundw
            case rel => exact ⟨k + 1, by omega, by go_num, HTX.out, by rw [hat]; exact HNX.out⟩
            case measure => first | (simp [intOf]; done) | (simp [intOf]; omega)
          · obtain rfl : k = n := by omega
            have HD := Lib.hid (lay_done (v := v) (cs := cs) HH.out hB HM8.out hT hy h0 hfit HAP.out (fun b hb => (HI.out.lo b hb).1) HC.out)
            clear hT hy
            go_wp2
            go_end0
            exact ⟨rfl, HD.out⟩

theorem layR_any {F : Nat → Prop} {w : World} {m : Nat} {A : AM} (h : RefX F w m A) (hI : Inv A) (at_ s v : Int) (n : Nat) (cs : List (Option Int)) (h0 : 0 ≤ at_) (hfit : at_ + n ≤ A.bytes) (hap : ∀ b ∈ A.blocks, meetB at_ n b = false) (hc : ∀ k, k < n → codeB (cs.getD k none) = v) (hB : ∀ k, w.heap.size ≤ k → F k) :
    Calls Tryz.prog 52 #[.pointer (some ⟨m, 0, none⟩), .agg #[.int .i64 at_, .int .i64 n, .int .i64 s], .int .i64 v] w (fun e w' => e = .returned (.tuple #[]) ∧ RefX F w' m (applyC A (.lay ⟨at_, n, s, cs⟩)) ∧ Tn F w w') := by
  obtain ⟨vb, gy, cy, bs, h⟩ := h
  exact (layR_at h hI at_ s v n cs h0 hfit hap hc hB).mono fun e w' ⟨he, ⟨vX, hx⟩, _, hb⟩ => ⟨he, ⟨vX, gy, cy, _, hx⟩, hb⟩

end Go.Proofs.YtgcnbiccekaffaaGreat
