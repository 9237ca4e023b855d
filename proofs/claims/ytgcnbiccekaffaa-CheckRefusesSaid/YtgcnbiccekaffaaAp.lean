/- CheckApart: the walk. -/
import Derived.Test.YtgcnbiccekaffaaAl
namespace Go.Proofs.Ytgcnbiccekaffaa
open Go.RowKit Go.ChangeMaps

/-- A fact that a caller can hand in. -/
structure FactOk (w : World) (f : FactM) : Prop where
  op : OpOk f.o
  bytes : BytesOk f.x.data
  in1 : BytesIn w f.p1 f.o.data
  in2 : BytesIn w f.p2 f.x.data
  lt1 : f.o.data ≠ [] → ∀ b o, f.p1 = some ⟨b, o, none⟩ → b < w.heap.size
  lt2 : f.x.data ≠ [] → ∀ b o, f.p2 = some ⟨b, o, none⟩ → b < w.heap.size

theorem FactOk.below {w W : World} {f : FactM} (h : FactOk w f) (hb : Below w.heap.size w W) : FactOk W f :=
  ⟨h.op, h.bytes, h.in1.below hb, h.in2.below hb, fun hn b o e => Nat.lt_of_lt_of_le (h.lt1 hn b o e) hb.size, fun hn b o e => Nat.lt_of_lt_of_le (h.lt2 hn b o e) hb.size⟩

/-- Between two rounds of Take: W when the loop began (the facts lie below it). -/
def TakesI (B : Nat) (W wr : World) (m : Nat) : Prop := ∃ A F, RepX B wr m A F ∧ Below B W wr

theorem takeA_bytes (A : AM) (o : OpA) (x : AnsA) : (takeA A o x).bytes = A.bytes := by
  unfold takeA
  split
  · split
    · cases (legalA A o x).1 <;> rfl
    · rfl
  · rfl

/-- Where the blocks end that came so far. -/
def endK (l : List Blk) (k : Nat) : Int := match k with | 0 => 0 | k + 1 => match l[k]? with | some b => b.at_ + b.n | none => 0

theorem endK_le {A : AM} (hI : Inv A) {k : Nat} (h : k < A.blocks.length) : endK A.blocks k ≤ A.blocks[k].at_ := by
  cases k with
  | zero => exact (hI.lo _ (List.getElem_mem h)).1
  | succ k =>
    have h1 : k < A.blocks.length := by omega
    simp only [endK, List.getElem?_eq_getElem h1]
    exact List.pairwise_iff_getElem.1 hI.sorted k (k + 1) h1 h (by omega)

theorem endK_bytes {A : AM} (hI : Inv A) {k : Nat} (h : k ≤ A.blocks.length) : endK A.blocks k ≤ A.bytes := by
  cases k with
  | zero => exact hI.b0
  | succ k =>
    have h1 : k < A.blocks.length := by omega
    simp only [endK, List.getElem?_eq_getElem h1]
    exact (hI.lo _ (List.getElem_mem h1)).2.2.1

theorem sumK_le {A : AM} (hI : Inv A) (k : Nat) : 0 ≤ sumS (A.blocks.take k) ∧ sumS (A.blocks.take k) ≤ 1048576 := by
  have h1 := sumS_nonneg (l := A.blocks.take k) (fun b hb => (hI.lo b (List.mem_of_mem_take hb)).2.2.2.2.1)
  have h2 := sumS_nonneg (l := A.blocks.drop k) (fun b hb => (hI.lo b (List.mem_of_mem_drop hb)).2.2.2.2.1)
  have h3 := hI.sum_le
  have h4 := hI.b1
  have h5 := sumS_append (A.blocks.take k) (A.blocks.drop k)
  rw [List.take_append_drop] at h5
  omega

def opS : Array Value := #[.int .i64 8, .int .u64 0, .int .u64 0, .int .i64 0, .int .i64 0, .int .i64 0, .slice none 0 0]
def opSt : OpA := ⟨8, 0, 0, 0, 0, 0, []⟩
theorem may_stats (A : AM) (n c : Int) : mayB A opSt ⟨0, 0, n, c, []⟩ = (n == sumB A && c == (A.blocks.length : Int)) := by
  have h : legalA A opSt ⟨0, 0, n, c, []⟩ = (.keep, onlyA ⟨0, 0, n, c, []⟩ 0 0 (sumB A) A.blocks.length) := rfl
  unfold mayB
  rw [h]
  simp [onlyA, onlyB, rightA, rightB, opSt]

set_option maxRecDepth 100000 in
set_option maxHeartbeats 8000000 in
theorem checkApart_any (w : World) (bytes count n : Int) (pv : Option Addr) (cap : Nat) (fs : List FactM) (h : FactsAt w pv fs) (hok : ∀ f ∈ fs, FactOk w f) (hl : fs.length ≤ maxLen) :
    Calls Try.prog 3 #[.int .i64 bytes, .slice pv fs.length cap, .int .i64 count, .int .i64 n] w (fun e w' => e = .returned (.bool true) ∧ Below w.heap.size w w') := by
  have hgreat := Lib.hid (fun W (hb : Below w.heap.size w W) => great_any W bytes pv cap fs (h.below hb))
  have halive := Lib.hid (alive_any w)
  have HL := Lib.hid hl
  clear hl
  by_cases hb : 0 ≤ bytes ∧ bytes ≤ 1048576
  · go_enter Try.func3, Try.ntmps3
    go_wp2_with (first
      | (go_at_call 7; refine halive.out.mono ?_; rintro e w1 ⟨rfl, hb1⟩)
      | (go_at_call 8; refine (hgreat.out _ hb1).mono ?_; rintro e w2 ⟨b, rfl, hb2⟩; cases b)
      | (go_at_call 9; refine (new_yes bytes _ hb.1 hb.2).mono ?_; rintro e w3 ⟨rfl, hw3⟩; subst w3))
    · have hbw : Below w.heap.size w w2 := hb1.trans (hb2.mono hb1.size)
      obtain ⟨W0, hW0⟩ : ∃ W0, W0 = (w2.alloc (.map #[] 0)).alloc (.cells #[.int .i64 bytes, .map (some w2.heap.size)] 70) := ⟨_, rfl⟩
      have hbW : Below w2.heap.size w2 W0 := by rw [hW0]; exact (by repeat (first | exact Below.refl _ _ | assumption | refine Below.alloc ?_ (by first | omega | (simp <;> omega)) _ | refine Below.drew ?_ | refine Below.setCell ?_ (by first | omega | (simp <;> omega)) _ | refine Below.via (by assumption) (by first | omega | (simp <;> omega)) ?_))
      have hx0 : RepX w2.heap.size W0 (w2.heap.size + 1) ⟨bytes, []⟩ (fun k => k = w2.heap.size ∨ k = w2.heap.size + 1) := by
        rw [hW0]
        exact ⟨rep_new w2 bytes, inv_new hb.1 hb.2, fun k hk => by simp; omega, fun k hk => by omega, by simp; omega⟩
      rw [← hW0]
      clear hW0
      have HBW := Lib.hid hbw
      have HB0 := Lib.hid hbW
      have hs0 : w.heap.size ≤ w2.heap.size := hbw.size
      clear hb1 hb2 hbw hbW
      go_loopw [11] (fun i wr => ∃ k : Nat, k ≤ fs.length ∧ i = .int .i64 k ∧ ∃ A F, RepX w2.heap.size wr (w2.heap.size + 1) A F ∧ Below w2.heap.size w2 wr ∧ A.bytes = bytes) (fun i _ => fs.length - (intOf i).toNat)
      case atStart => exact ⟨0, Nat.zero_le _, rfl, _, _, hx0, HB0.out, rfl⟩
      case round =>
        obtain ⟨k, hk, rfl, A, F, hx, hbl, hby⟩ := hrel
        have HBY := Lib.hid hby
        clear hby
        by_cases hlt : k < fs.length
        · obtain ⟨ge, oe, rfl, hc⟩ := h k hlt
          have hf := hok _ (List.getElem_mem hlt)
          have hbx : Below w.heap.size w wr := HBW.out.trans (hbl.mono hs0)
          generalize fs[k] = f at *
          have ap1 : Apart f.o.data f.p1 F := fun hne b o e hF => by have := hf.lt1 hne b o e; have := hx.2.2.2.1 b hF; omega
          have ap2 : Apart f.x.data f.p2 F := fun hne b o e hF => by have := hf.lt2 hne b o e; have := hx.2.2.2.1 b hF; omega
          have hx' : RepX w2.heap.size wr.drew (w2.heap.size + 1) A F := hx.below (Below.drew (Below.refl _ _))
          have htake := take_x hx' f.o f.x hf.op hf.bytes f.p1 f.p2 f.q1 f.q2 (hf.in1.below (Below.drew hbx)) ap1 (hf.in2.below (Below.drew hbx)) ap2 rfl rfl
          unfold opV ansV at htake
          have HTAKE := Lib.hid htake
          have z0 := hc 0 _ rfl
          have z1 := hc 1 _ rfl
          have z2 := hc 2 _ rfl
          have z3 := hc 3 _ rfl
          have z4 := hc 4 _ rfl
          have z5 := hc 5 _ rfl
          have z6 := hc 6 _ rfl
          have z7 := hc 7 _ rfl
          have z8 := hc 8 _ rfl
          have z9 := hc 9 _ rfl
          have z10 := hc 10 _ rfl
          have z11 := hc 11 _ rfl
          simp only [Nat.add_zero] at z0
          have y0 := cell_past hbx (cell_lt z0) z0
          have y1 := cell_past hbx (cell_lt z1) z1
          have y2 := cell_past hbx (cell_lt z2) z2
          have y3 := cell_past hbx (cell_lt z3) z3
          have y4 := cell_past hbx (cell_lt z4) z4
          have y5 := cell_past hbx (cell_lt z5) z5
          have y6 := cell_past hbx (cell_lt z6) z6
          have y7 := cell_past hbx (cell_lt z7) z7
          have y8 := cell_past hbx (cell_lt z8) z8
          have y9 := cell_past hbx (cell_lt z9) z9
          have y10 := cell_past hbx (cell_lt z10) z10
          have y11 := cell_past hbx (cell_lt z11) z11
          have HBL := Lib.hid hbl
          clear z0 z1 z2 z3 z4 z5 z6 z7 z8 z9 z10 z11 hc hf htake ap1 ap2 hx' hx h hbx hbl
          have hi1 : (0 : Int) ≤ k ∧ (k : Int) < fs.length := by omega
          have hkw : IntKind.i64.wrap ((k : Int) + 1) = (k : Int) + 1 := by { have hm := HL.out; unfold maxLen at hm; rw [IntKind.wrap_i64]; omega }
          go_wp2
          go_still_tail 11, (by kernel_rfl)
          go_wp2_with (go_at_call 10; refine HTAKE.out.mono ?_; rintro e w5 ⟨rfl, F5, hx5, _, _, hb5⟩)
          go_roundw
          case rel => exact ⟨k + 1, by omega, by go_num, _, F5, hx5, HBL.out.drew.trans hb5, by rw [takeA_bytes]; exact HBY.out⟩
          case measure => simp [intOf]; omega
        · obtain rfl : k = fs.length := by omega
          have HX := Lib.hid hx
          have HBL := Lib.hid hbl
          have hl1 : A.blocks.length ≤ 1048576 := by have := hx.2.1.count; have := hx.2.1.b1; omega
          clear hx hbl
          go_wp2_with (go_at_call 11; refine (live_any HX.out.1 HX.out.2.1).mono ?_; rintro e w6 ⟨lv, rfl, hlrow, hb6⟩; obtain ⟨lp, lc, rfl, hrows⟩ := rowsAt_own hlrow)
          try go_frame
          have HX6 := Lib.hid (HX.out.below hb6)
          have HB6 := Lib.hid (HBL.out.trans (hb6.mono HBL.out.size))
          have HROWS := Lib.hid hrows
          clear hlrow hb6 hrows HX HBL
          go_loopw [13, 14, 15] (fun e s i wr => ∃ k : Nat, k ≤ A.blocks.length ∧ i = .int .i64 k ∧ e = .int .i64 (endK A.blocks k) ∧ s = .int .i64 (sumS (A.blocks.take k)) ∧ Below w6.heap.size w6 wr) (fun _ _ i _ => A.blocks.length - (intOf i).toNat)
          case atStart => exact ⟨0, Nat.zero_le _, rfl, rfl, rfl, Below.refl _ _⟩
          case round =>
            obtain ⟨k, hk, rfl, rfl, rfl, hbl⟩ := hrel
            by_cases hlt : k < A.blocks.length
            · obtain ⟨g, rfl, z0, z1, z2⟩ := HROWS.out k hlt
              have hlo := HX6.out.2.1.lo _ (List.getElem_mem hlt)
              have hb1 := HX6.out.2.1.b1
              have hle := endK_le HX6.out.2.1 hlt
              have hsuc : endK A.blocks (k + 1) = A.blocks[k].at_ + A.blocks[k].n := by simp [endK, hlt]
              have hsum : sumS (A.blocks.take (k + 1)) = sumS (A.blocks.take k) + A.blocks[k].size := by
                rw [List.take_succ_eq_append_getElem hlt, sumS_append, sumS_cons]; simp [sumS]
              have hsb := sumK_le HX6.out.2.1 k
              have HSUC := Lib.hid hsuc
              have HSUM := Lib.hid hsum
              have y0 := cell_past hbl (cell_lt z0) z0
              have y1 := cell_past hbl (cell_lt z1) z1
              have y2 := cell_past hbl (cell_lt z2) z2
              clear z0 z1 z2 hsuc hsum
              generalize A.blocks[k] = b at *
              generalize hE : endK A.blocks k = ek at *
              generalize hS : sumS (A.blocks.take k) = sk at *
              have t1 : ¬ b.at_ < ek := by omega
              have t2 : ¬ (b.n : Int) < 1 := by omega
              have t3 : ¬ b.size < 0 := by omega
              have t4 : ¬ (b.n : Int) < b.size := by omega
              have t5 : b.at_.tmod 8 = 0 := by rw [Int.tmod_eq_emod_of_nonneg hlo.1]; exact hlo.2.2.2.1
              have hi1 : (0 : Int) ≤ k ∧ (k : Int) < A.blocks.length := by omega
              have hkw : IntKind.i64.wrap ((k : Int) + 1) = (k : Int) + 1 := by rw [IntKind.wrap_i64]; omega
              have hw1 : IntKind.i64.wrap (b.at_ + b.n) = b.at_ + b.n := by rw [IntKind.wrap_i64]; omega
              have hw2 : IntKind.i64.wrap (sk + b.size) = sk + b.size := by rw [IntKind.wrap_i64]; omega
              have HBL := Lib.hid hbl
              clear hbl hlo hE hS
              go_wp2
              (refine wp_region_quiet_ext (by kernel_rfl) (by kernel_rfl) ?_; (repeat (first | go_big_quiet_step ((fail)) | quiet_step ((fail)))); refine wpQuiet_nil ?_; intro w1 hw1; obtain hb := below_of_ext hw1; clear hw1; obtain ⟨hc, hf⟩ := bcell hb; have hz := hb.size; (try simp at hz))
              have v0 := cell_past hb (cell_lt y0) y0
              have v1 := cell_past hb (cell_lt y1) y1
              have v2 := cell_past hb (cell_lt y2) y2
              have HBq := Lib.hid hb
              clear hc hf hb y0 y1 y2
              go_wp2
              (refine wp_region_quiet_ext (by kernel_rfl) (by kernel_rfl) ?_; (repeat (first | go_big_quiet_step ((fail)) | quiet_step ((fail)))); refine wpQuiet_nil ?_; intro w3 hw3; obtain hb3 := below_of_ext hw3; clear hw3; obtain ⟨hc3, hf3⟩ := bcell hb3; have hz3 := hb3.size; (try simp at hz3))
              have u2 := cell_past hb3 (cell_lt v2) v2
              have HBr := Lib.hid hb3
              clear hc3 hf3 hb3 v0 v1 v2
              go_wp2
              go_roundw
              case rel => exact ⟨k + 1, by omega, by go_num, by rw [HSUC.out], by rw [HSUM.out], (HBL.out.trans (HBq.out.mono HBL.out.size)).trans (HBr.out.mono (Nat.le_trans HBL.out.size HBq.out.size))⟩
              case measure => simp [intOf]; omega
            · obtain rfl : k = A.blocks.length := by omega
              have t1 : ¬ bytes < endK A.blocks A.blocks.length := by have h := endK_bytes HX6.out.2.1 (Nat.le_refl A.blocks.length); have := HBY.out; omega
              have hS : sumS (A.blocks.take A.blocks.length) = sumB A := by rw [List.take_length]; rfl
              rw [hS]
              generalize endK A.blocks A.blocks.length = ek at *
              have HX7 := Lib.hid ((HX6.out.below hbl).below ((Below.refl _ wr).alloc (Nat.le_refl _) (.cells opS 33)))
              have HB7 := Lib.hid ((HB6.out.trans (hbl.mono HB6.out.size)).alloc (Nat.le_trans HB6.out.size hbl.size) (.cells opS 33))
              have hfr : Hid ((wr.alloc (.cells opS 33)).heap[wr.heap.size]? = some (.cells opS 33 (0, 0))) := heap_alloc_new _ _
              have hm1 : Hid (mayB A opSt ⟨0, 0, sumB A, A.blocks.length, []⟩ = true) := by show _ = _; rw [may_stats]; simp
              have hm2 : Hid (mayB A opSt ⟨0, 0, n, count, []⟩ = (n == sumB A && count == (A.blocks.length : Int))) := may_stats _ _ _
              clear hS hbl HX6 HB6
              go_wp2_with (fail)
              refine (may_any HX7.out.1 HX7.out.2.1 HX7.out.2.2.1 opSt ⟨0, 0, sumB A, A.blocks.length, []⟩ (opOk_nil _ _ _ _ _ (by decide) (by decide)) none none 0 0 (bytesIn_nil _ _) (apart_none _) (bytesIn_nil _ _) (apart_none _)).mono ?_
              rintro e w8 ⟨rfl, hb8⟩
              rw [hm1.out]
              have HX8 := Lib.hid (HX7.out.below hb8)
              have HB8 := Lib.hid (HB7.out.trans (hb8.mono HX7.out.2.2.2.2))
              have hf8 := Lib.hid ((hb8.block _ (lt_of_block hfr.out)).trans hfr.out)
              clear hb8 HX7 HB7 hfr hm1
              go_wp2_with (refine wpList_load_row rfl 33 _ rfl wr.heap.size rfl 33 opS (0, 0) _ hf8.out Try.underlying33 rfl op_size ?_)
              refine (may_any HX8.out.1 HX8.out.2.1 HX8.out.2.2.1 opSt ⟨0, 0, n, count, []⟩ (opOk_nil _ _ _ _ _ (by decide) (by decide)) none none 0 0 (bytesIn_nil _ _) (apart_none _) (bytesIn_nil _ _) (apart_none _)).mono ?_
              rintro e w9 ⟨rfl, hb9⟩
              rw [hm2.out]
              have HB9 := Lib.hid (HB8.out.trans (hb9.mono HX8.out.2.2.2.2))
              clear hb9 HX8 HB8 hf8 hm2
              cases hq1 : (count == (A.blocks.length : Int)) <;> cases hq2 : (n == sumB A)
              all_goals
                go_wp2
                go_ret
                exact ⟨rfl, HBW.out.trans (HB9.out.mono hs0)⟩
    · go_ret
      exact ⟨rfl, hb1.trans (hb2.mono hb1.size)⟩
  · have hb' : bytes < 0 ∨ 1048576 < bytes := by omega
    go_enter Try.func3, Try.ntmps3
    go_wp2_with (first
      | (go_at_call 7; refine halive.out.mono ?_; rintro e w1 ⟨rfl, hb1⟩)
      | (go_at_call 8; refine (hgreat.out _ hb1).mono ?_; rintro e w2 ⟨b, rfl, hb2⟩; cases b)
      | (go_at_call 9; refine (new_no bytes _ hb').mono ?_; rintro e w' ⟨rfl, rfl⟩))
    all_goals (go_ret; exact ⟨rfl, hb1.trans (hb2.mono hb1.size)⟩)

end Go.Proofs.Ytgcnbiccekaffaa
