/- CheckRefuses: the walk. -/
import Derived.Test.YtgcnbiccekaffaaAp
namespace Go.Proofs.Ytgcnbiccekaffaa
open Go.RowKit Go.ChangeMaps

theorem takeA_keep {A : AM} {o : OpA} {x : AnsA} (h : takeE A o x ≠ 0) : takeA A o x = A := by
  unfold takeA
  unfold takeE at h
  split
  · rename_i h1
    rw [if_pos h1] at h
    split
    · rename_i h2
      rw [if_pos h2] at h
      exact absurd rfl h
    · rfl
  · rfl

theorem mayB_take (A : AM) (o : OpA) (x : AnsA) : mayB A o x = (takeE A o x == 0) := by
  unfold mayB takeE
  cases rightA o <;> cases (legalA A o x).2 <;> rfl

theorem RowsAt.turned {G : Nat → Prop} {w W : World} (t : Turned G w W) {pv : Option Addr} {l : List Blk} (h : RowsAt w pv l) (hg : ∀ g, pv = some ⟨g, 0, none⟩ → ¬ G g) : RowsAt W pv l := by
  intro i hi
  obtain ⟨g, e, h0, h1, h2⟩ := h i hi
  exact ⟨g, e, turned_cell t (hg g e) h0, turned_cell t (hg g e) h1, turned_cell t (hg g e) h2⟩

def factC (f : FactM) : Array Value :=
  #[.int .i64 f.o.k, .int .u64 f.o.a, .int .u64 f.o.b, .int .i64 f.o.at_, .int .i64 f.o.fr, .int .i64 f.o.n, .slice f.p1 f.o.data.length f.q1,
    .int .i64 f.x.err, .int .i64 f.x.at_, .int .i64 f.x.n, .int .i64 f.x.count, .slice f.p2 f.x.data.length f.q2]

theorem fact_size : (Try.prog.info? 37).map (·.size) = some 12 := by kernel_rfl

theorem fact_cell {w : World} {g : Nat} {f : FactM} (h : w.heap[g]? = some (.cells (factC f) 37 (0, 0))) (i : Nat) (v : Value) (hv : (factV f)[i]? = some v) : w.cell? ⟨g, i, none⟩ = some v := by
  rw [cell_of_block h, ← Array.getElem?_toList]
  exact hv

theorem factsAt_one {w : World} {g : Nat} {f : FactM} (h : w.heap[g]? = some (.cells (factC f) 37 (0, 0))) : FactsAt w (some ⟨g, 0, none⟩) [f] := by
  intro i hi
  have : i = 0 := by simpa using hi
  subst this
  refine ⟨g, 0, rfl, fun j v hv => ?_⟩
  rw [show 0 + 0 * 12 + j = j from by omega]
  exact fact_cell h j v hv

set_option maxRecDepth 100000 in
set_option maxHeartbeats 8000000 in
theorem checkRefuses_any (w : World) (bytes : Int) (pv : Option Addr) (cap : Nat) (fs : List FactM) (h : FactsAt w pv fs) (hok : ∀ f ∈ fs, FactOk w f) (hl : fs.length ≤ maxLen) (fl : FactM) (hfl : FactOk w fl) :
    Calls Try.prog 4 #[.int .i64 bytes, .slice pv fs.length cap, .agg (factC fl)] w (fun e w' => e = .returned (.bool true) ∧ Below w.heap.size w w') := by
  unfold factC
  have HL := Lib.hid hl
  clear hl
  obtain ⟨w0, hw0⟩ : ∃ w0, w0 = w.alloc (.cells (factC fl) 37) := ⟨_, rfl⟩
  have hb0 : Below w.heap.size w w0 := by rw [hw0]; exact (Below.refl _ _).alloc (Nat.le_refl _) _
  have hbox0 : Hid (w0.heap[w.heap.size]? = some (.cells (factC fl) 37 (0, 0))) := by show _ = _; rw [hw0]; exact heap_alloc_new _ _
  have HB0 := Lib.hid hb0
  have HW0 := Lib.hid hw0
  clear hb0 hw0
  go_enter Try.func4, Try.ntmps4
  go_wp2_with (fail)
  rw [show w.alloc (.cells #[.int .i64 fl.o.k, .int .u64 fl.o.a, .int .u64 fl.o.b, .int .i64 fl.o.at_, .int .i64 fl.o.fr, .int .i64 fl.o.n, .slice fl.p1 fl.o.data.length fl.q1,
    .int .i64 fl.x.err, .int .i64 fl.x.at_, .int .i64 fl.x.n, .int .i64 fl.x.count, .slice fl.p2 fl.x.data.length fl.q2] 37) = w0 from HW0.out.symm]
  refine (alive_any w0).mono ?_
  rintro e w1 ⟨rfl, hb1⟩
  have HB1 := Lib.hid (HB0.out.trans (hb1.mono HB0.out.size))
  have hbox1 := Lib.hid ((hb1.block _ (lt_of_block hbox0.out)).trans hbox0.out)
  clear hb1 HB0 HW0 hbox0
  go_wp2_with (fail)
  refine (great_any w1 bytes pv cap fs (h.below HB1.out)).mono ?_
  rintro e w1b ⟨b, rfl, hb1b⟩
  have HB1b := Lib.hid (HB1.out.trans (hb1b.mono HB1.out.size))
  have hbox1b := Lib.hid ((hb1b.block _ (lt_of_block hbox1.out)).trans hbox1.out)
  clear hb1b HB1 hbox1
  cases b
  · have Y := fact_cell hbox1b.out
    have y0 := Y 0 _ rfl
    have y1 := Y 1 _ rfl
    have y2 := Y 2 _ rfl
    have y3 := Y 3 _ rfl
    have y4 := Y 4 _ rfl
    have y5 := Y 5 _ rfl
    have y6 := Y 6 _ rfl
    have y7 := Y 7 _ rfl
    have y8 := Y 8 _ rfl
    have y9 := Y 9 _ rfl
    have y10 := Y 10 _ rfl
    have y11 := Y 11 _ rfl
    clear Y
    go_wp2_with (fail)
    obtain ⟨w1c, hw1c⟩ : ∃ w1c, w1c = w1b.alloc (.cells (factC fl) 37) := ⟨_, rfl⟩
    rw [show w1b.alloc (.cells #[.int .i64 fl.o.k, .int .u64 fl.o.a, .int .u64 fl.o.b, .int .i64 fl.o.at_, .int .i64 fl.o.fr, .int .i64 fl.o.n, .slice fl.p1 fl.o.data.length fl.q1,
      .int .i64 fl.x.err, .int .i64 fl.x.at_, .int .i64 fl.x.n, .int .i64 fl.x.count, .slice fl.p2 fl.x.data.length fl.q2] 37) = w1c from hw1c.symm]
    have hl1c : w1c.heap[w1b.heap.size]? = some (.cells (factC fl) 37 (0, 0)) := by rw [hw1c]; exact heap_alloc_new _ _
    have hb1c : Below w1b.heap.size w1b w1c := by rw [hw1c]; exact (Below.refl _ _).alloc (Nat.le_refl _) _
    clear hw1c y0 y1 y2 y3 y4 y5 y6 y7 y8 y9 y10 y11
    refine (great_any w1c 0 (some ⟨w1b.heap.size, 0, none⟩) 1 [fl] (factsAt_one hl1c)).mono ?_
    rintro e w2 ⟨b, rfl, hb2⟩
    have hb2' : Below w1b.heap.size w1b w2 := hb1c.trans (hb2.mono hb1c.size)
    have HBW := Lib.hid (HB1b.out.trans (hb2'.mono HB1b.out.size))
    have hbox2 := Lib.hid ((hb2'.block _ (lt_of_block hbox1b.out)).trans hbox1b.out)
    have hs0 : w.heap.size ≤ w2.heap.size := HBW.out.size
    clear hl1c hb1c hb2 hb2' HB1b hbox1b
    cases b
    · by_cases hb : 0 ≤ bytes ∧ bytes ≤ 1048576
      · go_wp2_with (go_at_call 9; refine (new_yes bytes _ hb.1 hb.2).mono ?_; rintro e w3 ⟨rfl, hw3⟩; subst w3)
        obtain ⟨W0, hW0⟩ : ∃ W0, W0 = (w2.alloc (.map #[] 0)).alloc (.cells #[.int .i64 bytes, .map (some w2.heap.size)] 70) := ⟨_, rfl⟩
        have hbW : Below w2.heap.size w2 W0 := by rw [hW0]; exact (by repeat (first | exact Below.refl _ _ | assumption | refine Below.alloc ?_ (by first | omega | (simp <;> omega)) _ | refine Below.drew ?_ | refine Below.setCell ?_ (by first | omega | (simp <;> omega)) _ | refine Below.via (by assumption) (by first | omega | (simp <;> omega)) ?_))
        have hx0 : RepX w2.heap.size W0 (w2.heap.size + 1) ⟨bytes, []⟩ (fun k => k = w2.heap.size ∨ k = w2.heap.size + 1) := by
          rw [hW0]
          exact ⟨rep_new w2 bytes, inv_new hb.1 hb.2, fun k hk => by simp; omega, fun k hk => by omega, by simp; omega⟩
        rw [← hW0]
        clear hW0
        have HB0 := Lib.hid hbW
        clear hbW
        go_loopw [9] (fun i wr => ∃ k : Nat, k ≤ fs.length ∧ i = .int .i64 k ∧ ∃ A F, RepX w2.heap.size wr (w2.heap.size + 1) A F ∧ Below w2.heap.size w2 wr ∧ A.bytes = bytes) (fun i _ => fs.length - (intOf i).toNat)
        case atStart => exact ⟨0, Nat.zero_le _, rfl, _, _, hx0, HB0.out, rfl⟩
        case round =>
          obtain ⟨k, hk, rfl, A, F, hx, hbl, hby⟩ := hrel
          have HBY := Lib.hid hby
          clear hby
          by_cases hlt : k < fs.length
          · obtain ⟨ge, oe, rfl, hc⟩ := h k hlt
            have hf := hok _ (List.getElem_mem hlt)
            have hbx : Below w.heap.size w wr := HBW.out.trans (hbl.mono hs0)
            generalize fs[k] = f at *
            have ap1 : Apart f.o.data f.p1 F := fun hne b o e hF => by have := hf.lt1 hne b o e; have := hx.2.2.2.1 b hF; omega
            have ap2 : Apart f.x.data f.p2 F := fun hne b o e hF => by have := hf.lt2 hne b o e; have := hx.2.2.2.1 b hF; omega
            have hx' : RepX w2.heap.size wr.drew (w2.heap.size + 1) A F := hx.below (Below.drew (Below.refl _ _))
            have htake := take_x hx' f.o f.x hf.op hf.bytes f.p1 f.p2 f.q1 f.q2 (hf.in1.below (Below.drew hbx)) ap1 (hf.in2.below (Below.drew hbx)) ap2 rfl rfl
            unfold opV ansV at htake
            have HTAKE := Lib.hid htake
            have z0 := hc 0 _ rfl
            have z1 := hc 1 _ rfl
            have z2 := hc 2 _ rfl
            have z3 := hc 3 _ rfl
            have z4 := hc 4 _ rfl
            have z5 := hc 5 _ rfl
            have z6 := hc 6 _ rfl
            have z7 := hc 7 _ rfl
            have z8 := hc 8 _ rfl
            have z9 := hc 9 _ rfl
            have z10 := hc 10 _ rfl
            have z11 := hc 11 _ rfl
            simp only [Nat.add_zero] at z0
            have y0 := cell_past hbx (cell_lt z0) z0
            have y1 := cell_past hbx (cell_lt z1) z1
            have y2 := cell_past hbx (cell_lt z2) z2
            have y3 := cell_past hbx (cell_lt z3) z3
            have y4 := cell_past hbx (cell_lt z4) z4
            have y5 := cell_past hbx (cell_lt z5) z5
            have y6 := cell_past hbx (cell_lt z6) z6
            have y7 := cell_past hbx (cell_lt z7) z7
            have y8 := cell_past hbx (cell_lt z8) z8
            have y9 := cell_past hbx (cell_lt z9) z9
            have y10 := cell_past hbx (cell_lt z10) z10
            have y11 := cell_past hbx (cell_lt z11) z11
            have HBL := Lib.hid hbl
            clear z0 z1 z2 z3 z4 z5 z6 z7 z8 z9 z10 z11 hc hf htake ap1 ap2 hx' hx h hbx hbl
            have hi1 : (0 : Int) ≤ k ∧ (k : Int) < fs.length := by omega
            have hkw : IntKind.i64.wrap ((k : Int) + 1) = (k : Int) + 1 := by { have hm := HL.out; unfold maxLen at hm; rw [IntKind.wrap_i64]; omega }
            go_wp2
            go_still_tail 11, (by kernel_rfl)
            go_wp2_with (go_at_call 10; refine HTAKE.out.mono ?_; rintro e w5 ⟨rfl, F5, hx5, _, _, hb5⟩)
            go_roundw
            case rel => exact ⟨k + 1, by omega, by go_num, _, F5, hx5, HBL.out.drew.trans hb5, by rw [takeA_bytes]; exact HBY.out⟩
            case measure => simp [intOf]; omega
          · obtain rfl : k = fs.length := by omega
            have HX := Lib.hid hx
            have HBL := Lib.hid hbl
            have hl1 : A.blocks.length ≤ 1048576 := by have := hx.2.1.count; have := hx.2.1.b1; omega
            clear hx hbl
            go_wp2_with (fail)
            refine (blocks_any HX.out.1 HX.out.2.1).mono ?_
            rintro e w6 ⟨bv, rfl, hrow, hb6⟩
            obtain ⟨bp, bc, rfl, hrows⟩ := rowsAt_own hrow
            have HBP : Hid (∀ g, bp = some ⟨g, 0, none⟩ → wr.heap.size ≤ g) := fun g e => (hrow.lt g (by rw [e]; rfl)).1
            have HX6 := Lib.hid (HX.out.below hb6)
            have HB6 := Lib.hid (HBL.out.trans (hb6.mono HBL.out.size))
            have HROWS6 := Lib.hid hrows
            have HFS : Hid (∀ k, F k → k < wr.heap.size) := HX.out.2.2.1
            have hs6 : wr.heap.size ≤ w6.heap.size := hb6.size
            have hs26 : w2.heap.size ≤ w6.heap.size := HB6.out.size
            clear hrow hb6 hrows HX HBL
            go_wp2_with (fail)
            refine (clone_any HX6.out.1 HX6.out.2.1).mono ?_
            rintro e w7 ⟨mc, rfl, hcl, hb7⟩
            have HX7 := Lib.hid (HX6.out.below hb7)
            have HB7 := Lib.hid (HB6.out.trans (hb7.mono HB6.out.size))
            have HCL7 : Hid (RepX w6.heap.size w7 mc A (fun k => w6.heap.size ≤ k ∧ k < w7.heap.size)) := ⟨hcl.mono (fun k hk hl => ⟨hk, hl⟩), HX6.out.2.1, fun k hk => hk.2, fun k hk => hk.1, hb7.size⟩
            have HROWS7 := Lib.hid (HROWS6.out.below hb7)
            have hbox7 := Lib.hid ((HB7.out.block _ (lt_of_block hbox2.out)).trans hbox2.out)
            clear hcl hb7 HX6 HB6 HROWS6
            have HBW7 := Lib.hid (HBW.out.trans (HB7.out.mono hs0))
            have ap1 : Apart fl.o.data fl.p1 F := fun hne b o e hF => by have := hfl.lt1 hne b o e; have := HX7.out.2.2.2.1 b hF; omega
            have ap2 : Apart fl.x.data fl.p2 F := fun hne b o e hF => by have := hfl.lt2 hne b o e; have := HX7.out.2.2.2.1 b hF; omega
            have htake := take_x HX7.out fl.o fl.x hfl.op hfl.bytes fl.p1 fl.p2 fl.q1 fl.q2 (hfl.in1.below HBW7.out) ap1 (hfl.in2.below HBW7.out) ap2 rfl rfl
            unfold opV ansV at htake
            have HTAKE := Lib.hid htake
            clear htake ap1 ap2
            (have Y := fact_cell hbox7.out; have y0 := Y 0 _ rfl; have y1 := Y 1 _ rfl; have y2 := Y 2 _ rfl; have y3 := Y 3 _ rfl; have y4 := Y 4 _ rfl; have y5 := Y 5 _ rfl; have y6 := Y 6 _ rfl; have y7 := Y 7 _ rfl; have y8 := Y 8 _ rfl; have y9 := Y 9 _ rfl; have y10 := Y 10 _ rfl; have y11 := Y 11 _ rfl; clear Y)
            go_wp2_with (fail)
            refine HTAKE.out.mono ?_
            rintro e w8 ⟨rfl, F8, hx8, hF8, hT8, hb8⟩
            have HX8 := Lib.hid hx8
            have HB8 := Lib.hid (HB7.out.trans hb8)
            have HCL8 : Hid (RepX w6.heap.size w8 mc A (fun k => w6.heap.size ≤ k ∧ k < w7.heap.size)) :=
              ⟨HCL7.out.1.turned hT8 (fun k hk _ hF => by have := HFS.out k hF; omega), HCL7.out.2.1, fun k hk => Nat.lt_of_lt_of_le hk.2 hT8.size, fun k hk => hk.1, Nat.le_trans HCL7.out.2.2.2.2 hT8.size⟩
            have HROWS8 := Lib.hid (HROWS7.out.turned hT8 (fun g e hF => by have := HBP.out g e; have := HFS.out g hF; omega))
            have hbox8 := Lib.hid ((HB8.out.block _ (lt_of_block hbox2.out)).trans hbox2.out)
            clear y0 y1 y2 y3 y4 y5 y6 y7 y8 y9 y10 y11 hx8 hF8 hT8 hb8 HX7 HB7 HCL7 HROWS7 hbox7 HBW7 HTAKE HFS HBP
            have hmay : Hid (mayB A fl.o fl.x = (takeE A fl.o fl.x == 0)) := mayB_take _ _ _
            have hkeep : Hid (takeE A fl.o fl.x ≠ 0 → takeA A fl.o fl.x = A) := takeA_keep
            generalize takeE A fl.o fl.x = r at *
            generalize takeA A fl.o fl.x = A' at *
            by_cases hr : r = 0
            · subst hr
              have hmay1 : Hid (mayB A fl.o fl.x = true) := hmay.out
              clear hkeep hmay
              go_wp2
              go_loopw [13] (fun i wr => ∃ k : Nat, k ≤ A.blocks.length ∧ i = .int .i64 k ∧ Below w8.heap.size w8 wr) (fun i _ => A.blocks.length - (intOf i).toNat)
              case atStart => exact ⟨0, Nat.zero_le _, rfl, Below.refl _ _⟩
              case round =>
                obtain ⟨k, hk, rfl, hbl⟩ := hrel
                by_cases hlt : k < A.blocks.length
                · obtain ⟨g, hbp, z0, z1, z2⟩ := HROWS8.out k hlt
                  subst hbp
                  have hlo := HCL8.out.2.1.lo _ (List.getElem_mem hlt)
                  have hby1 := HCL8.out.2.1.b1
                  have y0 := cell_past hbl (cell_lt z0) z0
                  have y1 := cell_past hbl (cell_lt z1) z1
                  have HBL := Lib.hid hbl
                  clear z0 z1 z2 hbl
                  generalize A.blocks[k] = b at *
                  have hbn : b.n ≤ 1048576 := by omega
                  clear hlo hby1
                  obtain ⟨wo, hwo⟩ : ∃ wo, wo = wr := ⟨_, rfl⟩
                  subst hwo
                  have hi1 : (0 : Int) ≤ k ∧ (k : Int) < A.blocks.length := by omega
                  have hkw : IntKind.i64.wrap ((k : Int) + 1) = (k : Int) + 1 := by rw [IntKind.wrap_i64]; omega
                  go_wp2
                  go_loopw [14] (fun j wr => ∃ k2 : Nat, k2 ≤ b.n ∧ j = .int .i64 k2 ∧ Below wo.heap.size wo wr) (fun j _ => b.n - (intOf j).toNat)
                  case atStart => exact ⟨0, Nat.zero_le _, rfl, Below.refl _ _⟩
                  case round =>
                    obtain ⟨k2, hk2, rfl, hbl2⟩ := hrel
                    have u0 := cell_past hbl2 (cell_lt y0) y0
                    have u1 := cell_past hbl2 (cell_lt y1) y1
                    have HBX := Lib.hid (HBL.out.trans (hbl2.mono HBL.out.size))
                    have HBY := Lib.hid hbl2
                    have hsY := hbl2.size
                    clear hbl2 y0 y1
                    by_cases hlt2 : k2 < b.n
                    · have hkw2 : IntKind.i64.wrap ((k2 : Int) + 1) = (k2 : Int) + 1 := by rw [IntKind.wrap_i64]; omega
                      have HCI := Lib.hid (HCL8.out.below HBX.out)
                      have HXI := Lib.hid (HX8.out.below HBX.out)
                      go_wp2_with (first
                        | (go_at_call 16; refine (known_any HCI.out.1 HCI.out.2.1 b.at_ k2).mono ?_; rintro e wa ⟨rfl, hba⟩
                           have v0 := cell_past hba (cell_lt u0) u0
                           have HXJ := Lib.hid (HXI.out.below hba)
                           have HBA := Lib.hid hba
                           have hsA := hba.size
                           clear hba u0 u1 HXI HCI)
                        | (go_at_call 16; refine (known_any HXJ.out.1 HXJ.out.2.1 b.at_ k2).mono ?_; rintro e wb ⟨rfl, hbb⟩
                           have HBB := Lib.hid hbb
                           clear hbb v0 HXJ))
                      go_roundw
                      case rel => exact ⟨k2 + 1, by omega, by go_num, (HBY.out.trans (HBA.out.mono hsY)).trans (HBB.out.mono (Nat.le_trans hsY hsA))⟩
                      case measure => simp [intOf]; omega
                    · obtain rfl : k2 = b.n := by omega
                      go_wp2
                      go_roundw
                      case rel => exact ⟨k + 1, by omega, by go_num, HBX.out⟩
                      case measure => simp [intOf]; omega
                · obtain rfl : k = A.blocks.length := by omega
                  have HCf := Lib.hid (HCL8.out.below hbl)
                  have HRf := Lib.hid (HROWS8.out.below hbl)
                  have HBf := Lib.hid (HB8.out.trans (hbl.mono HB8.out.size))
                  clear hbl HCL8 HROWS8 HX8 HB8 hbox8
                  go_wp2_with (fail)
                  refine (blocks_any HCf.out.1 HCf.out.2.1).mono ?_
                  rintro e w11 ⟨bv3, rfl, hrow3, hb11⟩
                  obtain ⟨bp3, bc3, rfl, hrows3⟩ := rowsAt_own hrow3
                  have HC11 := Lib.hid (HCf.out.below hb11)
                  have HR11 := Lib.hid (HRf.out.below hb11)
                  have HR3 := Lib.hid hrows3
                  have HB11 := Lib.hid (HBf.out.trans (hb11.mono HBf.out.size))
                  clear hrow3 hrows3 hb11 HCf HRf HBf
                  go_wp2_with (fail)
                  refine (sameBlocks_any w11 bp3 bp bc3 bc A.blocks A.blocks HR3.out HR11.out (by omega)).mono ?_
                  rintro e w12 ⟨rfl, hb12⟩
                  rw [show decide (A.blocks.map tri = A.blocks.map tri) = true from decide_eq_true rfl]
                  have HC12 := Lib.hid (HC11.out.below hb12)
                  have HB12 := Lib.hid (HB11.out.trans (hb12.mono HB11.out.size))
                  have hbox12 := Lib.hid ((HB12.out.block _ (lt_of_block hbox2.out)).trans hbox2.out)
                  have HBW12 := Lib.hid (HBW.out.trans (HB12.out.mono hs0))
                  clear hb12 HC11 HR11 HR3 HB11
                  (have Y := fact_cell hbox12.out; have y0 := Y 0 _ rfl; have y1 := Y 1 _ rfl; have y2 := Y 2 _ rfl; have y3 := Y 3 _ rfl; have y4 := Y 4 _ rfl; have y5 := Y 5 _ rfl; have y6 := Y 6 _ rfl; have y7 := Y 7 _ rfl; have y8 := Y 8 _ rfl; have y9 := Y 9 _ rfl; have y10 := Y 10 _ rfl; have y11 := Y 11 _ rfl; clear Y)
                  go_wp2_with (fail)
                  have hs12 : w.heap.size ≤ w6.heap.size := by omega
                  refine (may_any HC12.out.1 HC12.out.2.1 HC12.out.2.2.1 fl.o fl.x hfl.op fl.p1 fl.p2 fl.q1 fl.q2 (hfl.in1.below HBW12.out) (fun hne b o e hF => by have := hfl.lt1 hne b o e; have := HC12.out.2.2.2.1 b hF; omega) (hfl.in2.below HBW12.out) (fun hne b o e hF => by have := hfl.lt2 hne b o e; have := HC12.out.2.2.2.1 b hF; omega)).mono ?_
                  rintro e w13 ⟨rfl, hb13⟩
                  rw [hmay1.out]
                  have HB13 := Lib.hid (HBW12.out.trans (hb13.mono HBW12.out.size))
                  clear hb13
                  go_wp2
                  go_ret
                  exact ⟨rfl, HB13.out⟩
            · have hA := (hkeep.out hr).symm
              subst hA
              have hr1 : (r == 0) = false := by simpa using hr
              have hr2 : (r != 0) = true := by simpa using hr
              have hmay1 : Hid (mayB A fl.o fl.x = false) := hmay.out.trans hr1
              clear hkeep hmay hr
              go_wp2_with (fail)
              refine (blocks_any HX8.out.1 HX8.out.2.1).mono ?_
              rintro e w9 ⟨bv2, rfl, hrow2, hb9⟩
              obtain ⟨bp2, bc2, rfl, hrows2⟩ := rowsAt_own hrow2
              have HX9 := Lib.hid (HX8.out.below hb9)
              have HCL9 := Lib.hid (HCL8.out.below hb9)
              have HROWS9 := Lib.hid (HROWS8.out.below hb9)
              have HR2 := Lib.hid hrows2
              have HB9 := Lib.hid (HB8.out.trans (hb9.mono HB8.out.size))
              clear hrow2 hrows2 hb9 HX8 HCL8 HROWS8 hbox8 HB8
              go_wp2_with (fail)
              refine (sameBlocks_any w9 bp2 bp bc2 bc A.blocks A.blocks HR2.out HROWS9.out (by omega)).mono ?_
              rintro e w10 ⟨rfl, hb10⟩
              rw [show decide (A.blocks.map tri = A.blocks.map tri) = true from decide_eq_true rfl]
              have HX10 := Lib.hid (HX9.out.below hb10)
              have HCL10 := Lib.hid (HCL9.out.below hb10)
              have HROWS10 := Lib.hid (HROWS9.out.below hb10)
              have HB10 := Lib.hid (HB9.out.trans (hb10.mono HB9.out.size))
              have hbox10 := Lib.hid ((HB10.out.block _ (lt_of_block hbox2.out)).trans hbox2.out)
              clear hb10 HX9 HCL9 HROWS9 HR2 HB9
              go_wp2
              go_loopw [13] (fun i wr => ∃ k : Nat, k ≤ A.blocks.length ∧ i = .int .i64 k ∧ Below w10.heap.size w10 wr) (fun i _ => A.blocks.length - (intOf i).toNat)
              case atStart => exact ⟨0, Nat.zero_le _, rfl, Below.refl _ _⟩
              case round =>
                obtain ⟨k, hk, rfl, hbl⟩ := hrel
                by_cases hlt : k < A.blocks.length
                · obtain ⟨g, hbp, z0, z1, z2⟩ := HROWS10.out k hlt
                  subst hbp
                  have hlo := HCL10.out.2.1.lo _ (List.getElem_mem hlt)
                  have hby1 := HCL10.out.2.1.b1
                  have y0 := cell_past hbl (cell_lt z0) z0
                  have y1 := cell_past hbl (cell_lt z1) z1
                  have HBL := Lib.hid hbl
                  clear z0 z1 z2 hbl
                  generalize A.blocks[k] = b at *
                  have hbn : b.n ≤ 1048576 := by omega
                  clear hlo hby1
                  obtain ⟨wo, hwo⟩ : ∃ wo, wo = wr := ⟨_, rfl⟩
                  subst hwo
                  have hi1 : (0 : Int) ≤ k ∧ (k : Int) < A.blocks.length := by omega
                  have hkw : IntKind.i64.wrap ((k : Int) + 1) = (k : Int) + 1 := by rw [IntKind.wrap_i64]; omega
                  go_wp2
                  go_loopw [14] (fun j wr => ∃ k2 : Nat, k2 ≤ b.n ∧ j = .int .i64 k2 ∧ Below wo.heap.size wo wr) (fun j _ => b.n - (intOf j).toNat)
                  case atStart => exact ⟨0, Nat.zero_le _, rfl, Below.refl _ _⟩
                  case round =>
                    obtain ⟨k2, hk2, rfl, hbl2⟩ := hrel
                    have u0 := cell_past hbl2 (cell_lt y0) y0
                    have u1 := cell_past hbl2 (cell_lt y1) y1
                    have HBX := Lib.hid (HBL.out.trans (hbl2.mono HBL.out.size))
                    have HBY := Lib.hid hbl2
                    have hsY := hbl2.size
                    clear hbl2 y0 y1
                    by_cases hlt2 : k2 < b.n
                    · have hkw2 : IntKind.i64.wrap ((k2 : Int) + 1) = (k2 : Int) + 1 := by rw [IntKind.wrap_i64]; omega
                      have HCI := Lib.hid (HCL10.out.below HBX.out)
                      have HXI := Lib.hid (HX10.out.below HBX.out)
                      go_wp2_with (first
                        | (go_at_call 16; refine (known_any HCI.out.1 HCI.out.2.1 b.at_ k2).mono ?_; rintro e wa ⟨rfl, hba⟩
                           have v0 := cell_past hba (cell_lt u0) u0
                           have HXJ := Lib.hid (HXI.out.below hba)
                           have HBA := Lib.hid hba
                           have hsA := hba.size
                           clear hba u0 u1 HXI HCI)
                        | (go_at_call 16; refine (known_any HXJ.out.1 HXJ.out.2.1 b.at_ k2).mono ?_; rintro e wb ⟨rfl, hbb⟩
                           have HBB := Lib.hid hbb
                           clear hbb v0 HXJ))
                      go_roundw
                      case rel => exact ⟨k2 + 1, by omega, by go_num, (HBY.out.trans (HBA.out.mono hsY)).trans (HBB.out.mono (Nat.le_trans hsY hsA))⟩
                      case measure => simp [intOf]; omega
                    · obtain rfl : k2 = b.n := by omega
                      go_wp2
                      go_roundw
                      case rel => exact ⟨k + 1, by omega, by go_num, HBX.out⟩
                      case measure => simp [intOf]; omega
                · obtain rfl : k = A.blocks.length := by omega
                  have HCf := Lib.hid (HCL10.out.below hbl)
                  have HRf := Lib.hid (HROWS10.out.below hbl)
                  have HBf := Lib.hid (HB10.out.trans (hbl.mono HB10.out.size))
                  clear hbl HCL10 HROWS10 HX10 HB10 hbox10
                  go_wp2_with (fail)
                  refine (blocks_any HCf.out.1 HCf.out.2.1).mono ?_
                  rintro e w11 ⟨bv3, rfl, hrow3, hb11⟩
                  obtain ⟨bp3, bc3, rfl, hrows3⟩ := rowsAt_own hrow3
                  have HC11 := Lib.hid (HCf.out.below hb11)
                  have HR11 := Lib.hid (HRf.out.below hb11)
                  have HR3 := Lib.hid hrows3
                  have HB11 := Lib.hid (HBf.out.trans (hb11.mono HBf.out.size))
                  clear hrow3 hrows3 hb11 HCf HRf HBf
                  go_wp2_with (fail)
                  refine (sameBlocks_any w11 bp3 bp bc3 bc A.blocks A.blocks HR3.out HR11.out (by omega)).mono ?_
                  rintro e w12 ⟨rfl, hb12⟩
                  rw [show decide (A.blocks.map tri = A.blocks.map tri) = true from decide_eq_true rfl]
                  have HC12 := Lib.hid (HC11.out.below hb12)
                  have HB12 := Lib.hid (HB11.out.trans (hb12.mono HB11.out.size))
                  have hbox12 := Lib.hid ((HB12.out.block _ (lt_of_block hbox2.out)).trans hbox2.out)
                  have HBW12 := Lib.hid (HBW.out.trans (HB12.out.mono hs0))
                  clear hb12 HC11 HR11 HR3 HB11
                  (have Y := fact_cell hbox12.out; have y0 := Y 0 _ rfl; have y1 := Y 1 _ rfl; have y2 := Y 2 _ rfl; have y3 := Y 3 _ rfl; have y4 := Y 4 _ rfl; have y5 := Y 5 _ rfl; have y6 := Y 6 _ rfl; have y7 := Y 7 _ rfl; have y8 := Y 8 _ rfl; have y9 := Y 9 _ rfl; have y10 := Y 10 _ rfl; have y11 := Y 11 _ rfl; clear Y)
                  go_wp2_with (fail)
                  have hs12 : w.heap.size ≤ w6.heap.size := by omega
                  refine (may_any HC12.out.1 HC12.out.2.1 HC12.out.2.2.1 fl.o fl.x hfl.op fl.p1 fl.p2 fl.q1 fl.q2 (hfl.in1.below HBW12.out) (fun hne b o e hF => by have := hfl.lt1 hne b o e; have := HC12.out.2.2.2.1 b hF; omega) (hfl.in2.below HBW12.out) (fun hne b o e hF => by have := hfl.lt2 hne b o e; have := HC12.out.2.2.2.1 b hF; omega)).mono ?_
                  rintro e w13 ⟨rfl, hb13⟩
                  rw [hmay1.out]
                  have HB13 := Lib.hid (HBW12.out.trans (hb13.mono HBW12.out.size))
                  clear hb13
                  go_wp2
                  go_ret
                  exact ⟨rfl, HB13.out⟩
      · have hb' : bytes < 0 ∨ 1048576 < bytes := by omega
        go_wp2_with (go_at_call 9; refine (new_no bytes _ hb').mono ?_; rintro e w' ⟨rfl, rfl⟩)
        go_ret
        exact ⟨rfl, HBW.out⟩
    · go_wp2
      go_ret
      exact ⟨rfl, HBW.out⟩
  · go_wp2
    go_ret
    exact ⟨rfl, HB1b.out⟩

end Go.Proofs.Ytgcnbiccekaffaa
