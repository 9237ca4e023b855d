/- ground.New, newheap.New. -/
import Derived.Test.YtlljejmblmjjnaaGreatLC
import Derived.WalkKit
import Derived.WalkSpells
import Derived.WalkLawsBesides
import Derived.BigQuiet
import Derived.Lib.Hide
import Derived.OrdersHeld
namespace Go.Proofs.YtlljejmblmjjnaaGreat
set_option linter.unusedVariables false
set_option linter.unusedSimpArgs false
open Go.RowKit Go.ChangeMaps

def GNewPost (w : World) (pages : Nat) (e : Ending) (w' : World) : Prop :=
  ∃ gr cl cb p, e = .returned (.tuple #[.pointer (some ⟨gr, 0, none⟩), .int .i64 0]) ∧ GroundAt w' gr cl p pages (initR pages) (List.replicate 64 none) 0 0 0 ∧ CellsAt w' cl cb (List.replicate (256 * pages) 0) ∧ Below w.heap.size w w' ∧
    w.heap.size ≤ gr ∧ w.heap.size ≤ cl ∧ w.heap.size ≤ cb ∧ (∀ k, p.F k → w.heap.size ≤ k)

set_option maxRecDepth 8000 in
set_option maxHeartbeats 1000000 in
theorem gNew_no (n : Int) (hn : n < 0) (w : World) : Calls Tryz.prog 62 #[.int .i64 n] w fun e w' => e = .returned (.tuple #[.pointer none, .int .i64 11]) ∧ w = w' := by
  have HS := Lib.hid (spNew_no n hn w)
  clear hn
  go_enter Tryz.func62, Tryz.ntmps62
  go_wp2_with (fail)
  refine HS.out.mono ?_
  rintro e w1 ⟨rfl, rfl⟩
  go_wp2
  go_ret2
  exact ⟨rfl, rfl⟩

set_option maxRecDepth 8000 in
set_option maxHeartbeats 2000000 in
theorem gNew_yes (pages : Nat) (hp : pages ≤ 64) (w : World) : Calls Tryz.prog 62 #[.int .i64 pages] w (GNewPost w pages) := by
  have HS := Lib.hid (spNew_yes pages (by omega) w)
  go_enter Tryz.func62, Tryz.ntmps62
  go_wp2_with (fail)
  refine HS.out.mono ?_
  rintro e w1 ⟨sp, sv, rfl, hsp, hb1, h1, h2⟩
  have hs1 := hb1.size
  have HB1 := Lib.hid hb1
  have HSP := Lib.hid hsp
  have H1 := Lib.hid (And.intro h1 h2)
  clear hb1 hsp h1 h2
  go_upto_region 5 with (fail)
  obtain ⟨W2, hW2⟩ : ∃ W2, W2 = w1.alloc (.cells #[.pointer none, .pointer (some ⟨sp, 0, none⟩), .pointer none, .pointer none, .int .i64 pages] 91) := ⟨_, rfl⟩
  have HB2 : Hid (Below w1.heap.size w1 W2) := by rw [hW2]; exact (Below.refl _ _).alloc (Nat.le_refl _) _
  have HO2 : Hid (W2.heap[w1.heap.size]? = some (.cells #[.pointer none, .pointer (some ⟨sp, 0, none⟩), .pointer none, .pointer none, .int .i64 pages] 91 (0, 0))) := by rw [hW2]; exact heap_alloc_new _ _
  rw [← hW2]
  have hs2 : W2.heap.size = w1.heap.size + 1 := by rw [hW2]; simp
  clear hW2
  have hsh : IntKind.i64.wrap ((pages : Int) * 256) = (pages : Int) * 256 := wraps_i64 _ (by omega) (by omega)
  have HC : Hid (Calls Tryz.prog 99 #[.int .i64 ((pages : Int) * 256)] W2 (CellsNewPost W2 (256 * pages))) := by
    have := cellsNew_yes (256 * pages) W2 (by omega)
    rw [show ((256 * pages : Nat) : Int) = (pages : Int) * 256 by omega] at this
    exact this
  generalize hgr : w1.heap.size = gr at *
  go_wp2_with (fail)
  refine HC.out.mono ?_
  rintro e w3 ⟨rfl, hc3, hb3, hsz3⟩
  have hblk3 := (hb3.block _ (by omega)).trans HO2.out
  have g0 := cell_of_block hblk3 0
  have f0 := frozen_of_block hblk3 0
  have HBLK3 := Lib.hid hblk3
  have HC3 := Lib.hid hc3
  have HB3 := Lib.hid hb3
  have HTB3 : Hid (Turned (fun k => k = gr) W2 w3) := Turned.of_below hb3 (Nat.le_refl _)
  have HSZ : Hid (W2.heap.size = gr + 1 ∧ w3.heap.size = W2.heap.size + 2) := ⟨hs2, hsz3⟩
  clear hblk3 hc3 hb3 hs2 hsz3
  generalize W2.heap.size = cb at *
  go_upto_region 6 with (fail)
  obtain ⟨W4, hW4⟩ : ∃ W4, W4 = w3.setCell ⟨gr, 0, none⟩ (.pointer (some ⟨cb + 1, 0, none⟩)) := ⟨_, rfl⟩
  have HT4 : Hid (Turned (fun k => k = gr) w3 W4) := by rw [hW4]; exact (Turned.refl (fun k => k = gr) w3).setCell (.inl rfl) _
  have HBLK4 : Hid (W4.heap[gr]? = some (.cells #[.pointer (some ⟨cb + 1, 0, none⟩), .pointer (some ⟨sp, 0, none⟩), .pointer none, .pointer none, .int .i64 pages] 91 (0, 0))) := by
    show _ = _
    rw [hW4, heap_setCell_eq HBLK3.out]
    rfl
  have hs4 := HT4.out.size
  have HRX : Hid (Calls Tryz.prog 100 #[.int .i64 pages] W4 (RxNewPost W4 pages)) := rxNew_core pages _ rfl hp W4
  rw [← hW4]
  clear hW4 g0 f0
  go_wp2_with (fail)
  refine HRX.out.mono ?_
  rintro e w5 ⟨mo, rb, rfl, hm5, hb5, hmo, hrb⟩
  have hblk5 := (hb5.block _ (lt_of_block HBLK4.out)).trans HBLK4.out
  have g2 := cell_of_block hblk5 2
  have f2 := frozen_of_block hblk5 2
  have HBLK5 := Lib.hid hblk5
  have HM5 := Lib.hid hm5
  have HB5 := Lib.hid hb5
  have hs5 := hb5.size
  clear hblk5 hm5 hb5
  go_upto_region 7 with (fail)
  obtain ⟨W6, hW6⟩ : ∃ W6, W6 = w5.setCell ⟨gr, 2, none⟩ (.pointer (some ⟨mo, 0, none⟩)) := ⟨_, rfl⟩
  have HT6 : Hid (Turned (fun k => k = gr) w5 W6) := by rw [hW6]; exact (Turned.refl (fun k => k = gr) w5).setCell (.inl rfl) _
  have HBLK6 : Hid (W6.heap[gr]? = some (.cells #[.pointer (some ⟨cb + 1, 0, none⟩), .pointer (some ⟨sp, 0, none⟩), .pointer (some ⟨mo, 0, none⟩), .pointer none, .int .i64 pages] 91 (0, 0))) := by
    show _ = _
    rw [hW6, heap_setCell_eq HBLK5.out]
    rfl
  have hs6 := HT6.out.size
  have HLG := Lib.hid (lgNew_yes pages (by omega) W6)
  rw [← hW6]
  clear hW6 g2 f2
  go_wp2_with (fail)
  refine HLG.out.mono ?_
  rintro e w7 ⟨lg, mb, rfl, hl7, hb7, hlg, hmb⟩
  have hblk7 := (hb7.block _ (lt_of_block HBLK6.out)).trans HBLK6.out
  have g3 := cell_of_block hblk7 3
  have f3 := frozen_of_block hblk7 3
  have HBLK7 := Lib.hid hblk7
  have HL7 := Lib.hid hl7
  have HB7 := Lib.hid hb7
  have hs7 := hb7.size
  clear hblk7 hl7 hb7
  go_wp2
  go_ret2
  obtain ⟨hs2, hsz3⟩ := HSZ.out
  obtain ⟨W8, hW8⟩ : ∃ W8, W8 = w7.setCell ⟨gr, 3, none⟩ (.pointer (some ⟨lg, 0, none⟩)) := ⟨_, rfl⟩
  have t8 : Turned (fun k => k = gr) w7 W8 := by rw [hW8]; exact (Turned.refl (fun k => k = gr) w7).setCell (.inl rfl) _
  have o8 : W8.heap[gr]? = some (.cells #[.pointer (some ⟨cb + 1, 0, none⟩), .pointer (some ⟨sp, 0, none⟩), .pointer (some ⟨mo, 0, none⟩), .pointer (some ⟨lg, 0, none⟩), .int .i64 pages] 91 (0, 0)) := by
    rw [hW8, heap_setCell_eq HBLK7.out]
    rfl
  rw [← hW8]
  clear hW8
  have tB : ∀ {a b : World}, Below a.heap.size a b → Turned (fun k => k = gr) a b := fun h => Turned.of_below h (Nat.le_refl _)
  have t35 : Turned (fun k => k = gr) w3 w5 := HT4.out.trans (tB HB5.out) (fun _ h _ => h)
  have t57 : Turned (fun k => k = gr) w5 w7 := HT6.out.trans (tB HB7.out) (fun _ h _ => h)
  have t38 : Turned (fun k => k = gr) w3 W8 := (t35.trans t57 (fun _ h _ => h)).trans t8 (fun _ h _ => h)
  have t18 : Turned (fun k => k = gr) w1 W8 := ((tB (hgr ▸ HB2.out)).trans HTB3.out (fun _ h _ => h)).trans t38 (fun _ h _ => h)
  have hgs : ∀ k, k < w1.heap.size → k ≠ gr := fun k hk => by omega
  refine ⟨gr, cb + 1, cb, ⟨sp, sv, mo, rb, none, 0, lg, mb⟩, rfl, ⟨o8, HSP.out.turned t18 (hgs _ HSP.out.lt.1) (fun g hg => hgs _ (HSP.out.lt.2 g hg).1),
    (HM5.out.turned t57 (by omega) (by omega) (fun l hl => by cases hl)).turned t8 (by omega) (by omega) (fun l hl => by cases hl), HL7.out.turned t8 (by omega) (by omega)⟩,
    HC3.out.turned t38 (by omega) (by omega), ?_, ?_, by omega, by omega, ?_⟩
  · exact HB1.out.trans ((t18.below (B := w1.heap.size) (fun k hk => by omega) (by omega)).mono (by omega))
  · omega
  · rintro k (hk | hk | hk | hk | hk | hk | hk)
    · have := H1.out.1; have e : k = sp := hk; omega
    · exact H1.out.2 k hk
    · have e : k = mo := hk; omega
    · have e : k = rb := hk; omega
    · cases hk
    · have e : k = lg := hk; omega
    · have e : k = mb := hk; omega

end Go.Proofs.YtlljejmblmjjnaaGreat

/- newheap: New, Leave, Join. -/
namespace Go.Proofs.YtlljejmblmjjnaaGreat
set_option linter.unusedVariables false
set_option linter.unusedSimpArgs false
open Go.RowKit Go.ChangeMaps

theorem freeN_init (pages : Nat) : freeN (initR pages) = pages := by
  unfold initR
  split
  · next h => rw [h]; rfl
  · rw [freeN_cons]
    simp [freeN]
theorem init_good (pages : Nat) (hT : Tile 0 (initR pages) pages) : HGood pages ⟨initR pages, []⟩ :=
  ⟨⟨hT, List.Pairwise.nil, fun x hx => absurd hx List.not_mem_nil, fun x hx => absurd hx List.not_mem_nil⟩, ⟨fun x hx => absurd hx List.not_mem_nil, fun x hx => absurd hx List.not_mem_nil⟩⟩

set_option maxRecDepth 8000 in
set_option maxHeartbeats 1000000 in
theorem hNew_yes {w : World} {gr cl cb pages : Nat} {p : GPl} (hg : GroundAt w gr cl p pages (initR pages) (List.replicate 64 none) 0 0 0) (hc : CellsAt w cl cb (List.replicate (256 * pages) 0)) {n : Nat} (hn : n ≤ w.heap.size)
    (h1 : n ≤ gr) (h2 : n ≤ cl) (h3 : n ≤ cb) (h4 : ∀ k, p.F k → n ≤ k) :
    Calls Tryz.prog 64 #[.pointer (some ⟨gr, 0, none⟩)] w fun e w' => ∃ H : HL, e = .returned (.pointer (some ⟨H.h, 0, none⟩)) ∧ H.gr = gr ∧ H.cl = cl ∧ H.left = 0 ∧ HeapAt w' H pages ⟨initR pages, []⟩ ∧ (∀ k, H.F k → n ≤ k) ∧ Below w.heap.size w w' := by
  have HG := Lib.hid hg
  have HC := Lib.hid hc
  clear hg hc
  have hmm := @run_makeMap Tryz.prog
  go_enter Tryz.func64, Tryz.ntmps64
  go_wp2
  go_ret
  obtain ⟨W1, hW1⟩ : ∃ W1, W1 = w.alloc (.map #[] 0) := ⟨_, rfl⟩
  obtain ⟨W2, hW2⟩ : ∃ W2, W2 = W1.alloc (.cells #[.pointer (some ⟨gr, 0, none⟩), .map (some w.heap.size)] 79) := ⟨_, rfl⟩
  have hb1 : Below w.heap.size w W1 := by rw [hW1]; exact (Below.refl _ _).alloc (Nat.le_refl _) _
  have hs1 : W1.heap.size = w.heap.size + 1 := by rw [hW1]; simp
  have hm1 : W1.heap[w.heap.size]? = some (.map #[] 0) := by rw [hW1]; show (w.heap.push _)[w.heap.size]? = _; exact Array.getElem?_push_size
  have hb2 : Below W1.heap.size W1 W2 := by rw [hW2]; exact (Below.refl _ _).alloc (Nat.le_refl _) _
  have ho2 : W2.heap[W1.heap.size]? = some (.cells #[.pointer (some ⟨gr, 0, none⟩), .map (some w.heap.size)] 79 (0, 0)) := by rw [hW2]; exact heap_alloc_new _ _
  have hm2 := (hb2.block _ (by omega)).trans hm1
  have hb : Below w.heap.size w W2 := Below.via hb2 (by omega) hb1
  have hend : ∃ H : HL, Ending.returned (.pointer (some ⟨W1.heap.size, 0, none⟩)) = .returned (.pointer (some ⟨H.h, 0, none⟩)) ∧ H.gr = gr ∧ H.cl = cl ∧ H.left = 0 ∧ HeapAt W2 H pages ⟨initR pages, []⟩ ∧ (∀ k, H.F k → n ≤ k) ∧ Below w.heap.size w W2 := by
    have hgl : ∀ k, p.F k → k < w.heap.size := by
      rintro k (hk | hk | hk | hk | hk | hk | hk)
      · rw [hk]; exact HG.out.spans.lt.1
      · exact (HG.out.spans.lt.2 k hk).1
      · rw [hk]; exact lt_of_block HG.out.map.obj
      · rw [hk]; exact lt_of_block HG.out.map.root
      · exact lt_of_block (HG.out.map.leaf k hk).1
      · rw [hk]; exact HG.out.led.lt.1
      · rw [hk]; exact HG.out.led.lt.2.1
    refine ⟨⟨W1.heap.size, w.heap.size, 0, gr, cl, cb, p, List.replicate 64 none, 0, List.replicate (256 * pages) 0, [], 0⟩, rfl, rfl, rfl, rfl, ⟨ho2, HG.out.below hb, HC.out.below hb, hm2, ?_, fun y hy => absurd hy List.not_mem_nil, ⟨List.nodup_nil, List.nodup_nil, List.nodup_nil, fun y hy => absurd hy List.not_mem_nil⟩, .nil, (init_good pages HG.out.spans.tile).inv, List.length_replicate .., ⟨fun x hx => absurd hx List.not_mem_nil, ?_⟩, freeN_init pages, rfl⟩, ?_, hb⟩
    · intro e
      have := hgl _ e
      exact absurd this (Nat.lt_irrefl _)
    · intro k e st hk
      rw [List.getD_eq_getElem?_getD, List.getElem?_replicate] at hk
      split at hk <;> cases hk
    · rintro k (hk | hk | hk | hk | hk | hk | ⟨y, hy, -⟩)
      · have e : k = W1.heap.size := hk; omega
      · have e : k = w.heap.size := hk; omega
      · rw [hk]; exact h1
      · rw [hk]; exact h2
      · rw [hk]; exact h3
      · exact h4 k hk
      · exact absurd hy List.not_mem_nil
  rw [hW2, hW1] at hend
  simpa using hend

/-- What leaves: the slab in memory, and the heap without it. -/
structure LeftAt (w : World) (H : HL) (sb : Nat) (x : PS) : Prop where
  slab : SlabAt w sb H.cl x.S
  ok : SlabOk H.bs x.S
  ent : ∃ st, H.E.getD x.page none = some (⟨x.page, 1, x.cls, sealN x.sealed⟩, st)
  apart : ∀ z ∈ H.xs, z.sb ≠ sb
def LeavePost (w : World) (H : HL) (pages : Nat) (s : HP) (x : PS) (e : Ending) (w' : World) : Prop :=
  ∃ sb, e = .returned (.tuple #[.pointer (some ⟨sb, 0, none⟩), .int .i64 0]) ∧ H.F sb ∧ ∃ H' : HL, H'.left = H.left + 1 ∧ LeftAt w' H' sb x ∧ HeapAt w' H' pages ⟨s.l, delP s.A x.page⟩ ∧ H.Of H' s ⟨s.l, delP s.A x.page⟩ w.heap.size ∧ Turned H.F w w'

set_option maxRecDepth 8000 in
set_option maxHeartbeats 2000000 in
theorem hleave_yes {w : World} {H : HL} {pages : Nat} {s : HP} (h : HeapAt w H pages s) {x : PS} (hx : x ∈ s.A) :
    Calls Tryz.prog 32 #[.pointer (some ⟨H.h, 0, none⟩), .int .i64 x.page] w (LeavePost w H pages s x) := by
  obtain ⟨-, c1⟩ := h.hcells
  obtain ⟨y, hy, rfl⟩ := h.mem hx
  have hlk := h.lookup hy
  have hE := h.each y hy
  obtain ⟨y0, -⟩ := hE.cells
  have hne1 : H.h ≠ H.mb := fun e => block_ne_map h.obj h.map e
  have hne2 : y.hb ≠ H.mb := fun e => block_ne_map hE.held h.map e
  have hdel := fun ty => run_delete_held h.map h.keys (y.x.page : Int) ty
  have HH := Lib.hid h
  have HY := Lib.hid hy
  clear h hx hy hE
  go_enter Tryz.func32, Tryz.ntmps32
  go_upto_region 5 with (fail)
  obtain ⟨W1, hW1⟩ : ∃ W1, W1 = setBlock w H.mb (.map ((H.xs.filter fun z => (z.x.page : Int) != (y.x.page : Int)).map hentry).toArray H.clk) := ⟨_, rfl⟩
  have tM : Turned (fun k => k = H.mb) w W1 := by rw [hW1]; exact Turned.setBlock (F := fun k => k = H.mb) (Turned.refl _ _) (.inl rfl) _
  have hm1 : W1.heap[H.mb]? = some (.map ((H.xs.filter fun z => (z.x.page : Int) != (y.x.page : Int)).map hentry).toArray H.clk) := by rw [hW1]; exact heap_setBlock_eq (lt_of_block HH.out.map) _
  have z0 := turned_cell tM hne2 y0
  rw [← hW1]
  clear hW1 hdel
  have HEND : Hid (LeavePost w H pages s y.x (.returned (.tuple #[.pointer (some ⟨y.sb, 0, none⟩), .int .i64 0])) W1) := by
    have h := HH.out
    have hyA := h.mem' HY.out
    have hcb := block_ne_map h.cells.bytes h.map
    have hco := block_ne_map h.cells.obj h.map
    have hs2 : w.heap[y.sb]? = some (.cells _ 131 (0, 0)) := (h.each y HY.out).slab
    have hlen := (delP_perm h.inv hyA).length_eq
    rw [List.length_cons] at hlen
    obtain ⟨H', ⟨q1, q5, q6, q7⟩, q2, q3, q4⟩ := h.del hyA (p := H.p) (l := s.l) (E := H.E) (b := H.b) (left := H.left + 1) (tM.mono (G := insF H) (fun j hj _ => .inl hj))
      (h.ground.turned tM (fun e => block_ne_map h.ground.obj h.map e) (fun j hj e => h.off (by rw [← e]; exact hj))) (fun j hj => .inl hj) (h.cells.turned tM hco hcb) hm1
      ⟨h.inv.tile, h.inv.srt.filter _, fun u hu => h.inv.each u (delP_mem.1 hu).1, fun u hu => h.inv.tk u (delP_mem.1 hu).1⟩ (h.ent.leave _) h.num (by have := h.cnt; omega)
    refine ⟨y.sb, rfl, .inr (.inr (.inr (.inr (.inr (.inr ⟨y, HY.out, .inr rfl⟩))))), H', q1, ⟨?_, ?_, ?_, ?_⟩, q2, q3, q4⟩
    · rw [q3.cl]
      exact (h.each y HY.out).slab.turned tM (fun e => block_ne_map hs2 h.map e)
    · rw [q6]; exact (h.each y HY.out).ok
    · rw [q5]; exact h.ent.ent y.x hyA y.x.page (Nat.le_refl _) (by omega)
    · intro z hz e
      rw [q7, List.mem_filter] at hz
      have := nodup_uniq h.xs.sbs hz.1 HY.out e
      subst this
      simp at hz
  clear tM hm1
  go_wp2
  go_ret2
  exact HEND.out

set_option maxRecDepth 8000 in
set_option maxHeartbeats 2000000 in
theorem hjoin_yes {w : World} {H : HL} {pages : Nat} {s : HP} (h : HeapAt w H pages s) {x : PS} {sb n : Nat} (hl : LeftAt w H sb x) (hok : x.Ok pages) (hr : (⟨x.page, 4, true⟩ : Run) ∈ s.l) (hne : ∀ z ∈ s.A, z.page ≠ x.page) (hleft : 1 ≤ H.left) (hn : n ≤ w.heap.size) (hsb : n ≤ sb) :
    Calls Tryz.prog 33 #[.pointer (some ⟨H.h, 0, none⟩), .pointer (some ⟨sb, 0, none⟩)] w fun e w' => e = .returned (.int .i64 0) ∧ ∃ H' : HL, H'.left = H.left - 1 ∧ HeapAt w' H' pages ⟨s.l, insP { x with sealed := false } s.A⟩ ∧
      H.Of H' s ⟨s.l, insP { x with sealed := false } s.A⟩ n ∧ Turned H.F w w' := by
  obtain ⟨c0, c1⟩ := h.hcells
  have hs2 : w.heap[sb]? = some (.cells _ 131 (0, 0)) := hl.slab
  have hk := idxR_of h.inv.tile hr
  have hm := h.ground.map.most
  have hft := hok.fits
  have HPG := Lib.hid (page_any sb H.cl x w hl.slab)
  have hfind : H.xs.find? (fun z => (z.x.page : Int) == (x.page : Int)) = none := by
    rw [List.find?_eq_none]
    intro z hz e
    exact hne z.x (h.mem' hz) (by simp at e; omega)
  have hlk := run_lookup_held h.map (x.page : Int)
  rw [hfind] at hlk
  have hlen : lenR pages s.l (x.page : Int) = 4 := by
    unfold lenR findR
    rw [if_pos (by omega), Int.toNat_natCast, hk]
    simp
  have HLEN := Lib.hid (gLen_any H.gr H.cl pages 0 H.b 0 H.p s.l H.E (x.page : Int) w h.ground)
  rw [hlen] at HLEN
  have HLEN : Hid (Calls Tryz.prog 67 #[.pointer (some ⟨H.gr, 0, none⟩), .int .i64 x.page] w fun e w' => e = .returned (.int .i64 4) ∧ Below w.heap.size w w') := HLEN
  have hneq : ∀ z ∈ H.xs, ¬ (z.x.page : Int) = (x.page : Int) := fun z hz e => hne z.x (h.mem' hz) (by omega)
  have HUP : Hid (∀ W, Below w.heap.size w W → ∀ v, (Instr.mapUpdate 77 (.map (some H.mb)) (.int .i64 x.page) v).run Tryz.prog W = .ok () (setBlock W H.mb (.map ((H.xs.map hentry) ++ [MapEntry.mk (.int .i64 x.page) v H.clk]).toArray (H.clk + 1)))) := fun W hW v =>
    run_update_held (h.below hW).map (x.page : Int) hneq v
  have HH := Lib.hid h
  have HLA := Lib.hid hl
  have HOK := Lib.hid hok
  have HNE := Lib.hid hne
  have HR := Lib.hid hr
  have HKI := Lib.hid hk
  clear h hl hne hfind hlen hneq hr hk
  rw [show ptrH none = .pointer none from rfl] at hlk
  go_enter Tryz.func33, Tryz.ntmps33
  go_wp2_with (fail)
  refine HPG.out.mono ?_
  rintro e w1 ⟨rfl, rfl⟩
  go_wp2_with (fail)
  refine HLEN.out.mono ?_
  rintro e w2 ⟨rfl, hb2⟩
  have hz2 := hb2.size
  have HB2 := Lib.hid hb2
  have d1 := cell_past hb2 (cell_lt c1) c1
  clear hb2 hlk c0 c1
  go_upto_region 7 with (fail)
  obtain ⟨W3, hW3⟩ : ∃ W3, W3 = w2.alloc (.cells #[.pointer (some ⟨sb, 0, none⟩), .bool false] 82) := ⟨_, rfl⟩
  have HB3 : Hid (Below w.heap.size w W3) := by rw [hW3]; exact HB2.out.alloc hz2 _
  have HBLK3 : Hid (W3.heap[w2.heap.size]? = some (.cells #[.pointer (some ⟨sb, 0, none⟩), .bool false] 82 (0, 0))) := by rw [hW3]; exact heap_alloc_new _ _
  have e1 : W3.cell? ⟨H.h, 1, none⟩ = some (.map (some H.mb)) := by rw [hW3]; exact Lib.cell?_alloc_some _ d1
  have hup := HUP.out W3 HB3.out
  have hO : w.heap.size ≤ w2.heap.size := hz2
  rw [← hW3]
  clear hW3 d1
  generalize w2.heap.size = O at *
  go_upto_region 8 with (fail)
  obtain ⟨y, hyb, hys, hyn, hxy⟩ : ∃ y : HS, y.hb = O ∧ y.sb = sb ∧ y.born = H.clk ∧ y.x = { x with sealed := false } := ⟨⟨O, sb, H.clk, { x with sealed := false }⟩, rfl, rfl, rfl, rfl⟩
  have hen : ({ key := .int .i64 x.page, val := .pointer (some ⟨O, 0, none⟩), born := H.clk } : MapEntry) = hentry y := by unfold hentry; rw [hxy, hyb, hyn]
  rw [hen]
  have hbl3 := lt_of_block HBLK3.out
  obtain ⟨W4, hW4e⟩ : ∃ W4, W4 = setBlock W3 H.mb (.map ((H.xs.map hentry) ++ [hentry y]).toArray (H.clk + 1)) := ⟨_, rfl⟩
  have hmbl := lt_of_block HH.out.map
  have hs3 := HB3.out.size
  have hob4 : ∀ j, j ≠ H.mb → W4.heap[j]? = W3.heap[j]? := fun j hj => by rw [hW4e]; exact heap_setBlock_ne _ _ _ hj
  have tM : Turned (fun j => j = H.mb) W3 W4 := by rw [hW4e]; exact Turned.setBlock (F := fun j => j = H.mb) (Turned.refl _ _) (.inl rfl) _
  have hmap4 : W4.heap[H.mb]? = some (.map ((H.xs.map hentry) ++ [hentry y]).toArray (H.clk + 1)) := by rw [hW4e]; exact heap_setBlock_eq (by omega) _
  rw [← hW4e]
  clear hW4e hup e1
  have tW : Turned (fun j => j = H.mb) w W4 := (Turned.of_below (F := fun j => j = H.mb) HB3.out (Nat.le_refl _)).trans tM (fun _ h _ => h)
  have h := HH.out
  have hs2' : w.heap[sb]? = some (.cells _ 131 (0, 0)) := HLA.out.slab
  have hsbl := lt_of_block hs2'
  have hg4 := h.ground.turned tW (fun e => block_ne_map h.ground.obj h.map e) (fun j hj e => h.off (by rw [← e]; exact hj))
  have hsl4 := HLA.out.slab.turned tW (fun e => block_ne_map hs2' h.map e)
  have hhd4 : W4.heap[O]? = some (.cells #[.pointer (some ⟨sb, 0, none⟩), .bool false] 82 (0, 0)) := (hob4 _ (by omega)).trans HBLK3.out
  obtain ⟨st, hst⟩ := HLA.out.ent
  have hb4 : 4 ≤ H.b := by have := h.cnt; omega
  have HMK := Lib.hid (hmark_any (hb := O) (sb := sb) (x := x) (sd := false) ((tW.block _ (lt_of_block h.obj) (fun e => block_ne_map h.obj h.map e)).trans h.obj) hg4 hhd4 hsl4 HOK.out.cls HKI.out hst rfl hb4)
  have HT4 := Lib.hid tW
  have HM4 := Lib.hid hmap4
  have HHD4 := Lib.hid hhd4
  have HSL4 := Lib.hid hsl4
  have HX := Lib.hid (And.intro hyb (And.intro hys (And.intro hyn hxy)))
  clear tW tM hmap4 hhd4 hsl4 hg4 hob4 hst hyb hys hyn hxy hen h
  go_wp2_with (fail)
  refine HMK.out.mono ?_
  rintro e w5 ⟨rfl, p', hg5, hpf5, t5⟩
  have HEND : Hid (∃ H' : HL, H'.left = H.left - 1 ∧ HeapAt w5 H' pages ⟨s.l, insP { x with sealed := false } s.A⟩ ∧ H.Of H' s ⟨s.l, insP { x with sealed := false } s.A⟩ n ∧ Turned H.F w w5) := by
    have h := HH.out
    obtain ⟨hyb, hys, hyn, hxy⟩ := HX.out
    have hoff := h.offs
    have hs4 := HT4.out.size
    have hEl := h.ground.map.len
    have hofs : ¬ H.p.F sb := h.ground.off hs2' (by decide) (by decide) (by decide) (by decide) (by decide) (by decide)
    have hofO : ¬ H.p.F O := fun e => by
      have : O < w.heap.size := by
        rcases e with e | e | e | e | e | e | e
        · rw [e]; exact h.ground.spans.lt.1
        · exact (h.ground.spans.lt.2 O e).1
        · rw [e]; exact lt_of_block h.ground.map.obj
        · rw [e]; exact lt_of_block h.ground.map.root
        · exact lt_of_block (h.ground.map.leaf O e).1
        · rw [e]; exact h.ground.led.lt.1
        · rw [e]; exact h.ground.led.lt.2.1
      omega
    have hcb := block_ne_map h.cells.bytes h.map
    have hco := block_ne_map h.cells.obj h.map
    have hc5 := (h.cells.turned HT4.out hco hcb).turned t5 hoff.2.1 hoff.2.2.1
    have hft := HOK.out.fits
    have hyh : HeldAt w5 H.cl H.bs y := by
      refine ⟨?_, ?_, ?_⟩
      · unfold heldC
        rw [hyb, hys, hxy]
        exact (t5.block _ (lt_of_block HHD4.out) hofO).trans HHD4.out
      · rw [hys, hxy]
        exact HSL4.out.turned t5 hofs
      · rw [hxy]
        exact HLA.out.ok
    have hinv : HInv pages ⟨s.l, insP y.x s.A⟩ := by
      rw [hxy]
      refine ⟨h.inv.tile, insP_srt h.inv.srt (fun z hz => HNE.out z hz), fun u hu => ?_, fun u hu => ?_⟩
      · rcases insP_mem.1 hu with rfl | hu
        · exact HOK.out.mark false
        · exact h.inv.each u hu
      · rcases insP_mem.1 hu with rfl | hu
        · exact HR.out
        · exact h.inv.tk u hu
    have hent : EntOk s.l (setE H.E x.page (some (⟨x.page, 1, x.cls, sealN false⟩, nextSt H.p.stamp)) 4) (insP y.x s.A) := by
      rw [hxy]
      refine ⟨fun z hz j h1 h2 => ?_, fun j e u hj => ?_⟩
      · rw [setE_get _ _ _ _ _ (by omega)]
        rcases insP_mem.1 hz with rfl | hz
        · rw [if_pos ⟨h1, h2⟩]
          exact ⟨_, rfl⟩
        · rw [if_neg ?_]
          · exact h.ent.ent z hz j h1 h2
          · intro hh
            have := h.inv.tile.uniq (h.inv.tk z hz) HR.out (k := j) h1 h2 hh.1 hh.2
            exact HNE.out z hz (congrArg Run.page this)
      · rw [setE_get _ _ _ _ _ (by omega)] at hj
        split at hj
        · next hh =>
          cases hj
          exact ⟨⟨x.page, 4, true⟩, HR.out, rfl, rfl, hh.1, hh.2⟩
        · exact h.ent.back j e u hj
    obtain ⟨H', q1, -, q2, q3, q4⟩ := h.ins (y := y) (p := p') (l := s.l) (b := H.b) (left := H.left - 1) hn ((HT4.out.mono (G := insF H) (fun j hj _ => .inl hj)).trans t5 (fun j hj _ => .inr (.inr hj)))
      hg5 (fun j hj => (hpf5 j hj).imp id (fun hh => by omega)) hc5 rfl ((t5.block _ (lt_of_block HM4.out) h.off).trans HM4.out) hyn hyh
      (by intro hm; obtain ⟨z, hz, e⟩ := List.mem_map.1 hm; have := lt_of_block (h.each z hz).held; have e' : z.hb = y.hb := e; omega)
      (by intro hm; obtain ⟨z, hz, e⟩ := List.mem_map.1 hm; have e' : z.sb = y.sb := e; exact HLA.out.apart z hz (by omega))
      (by rintro j (e | e) <;> omega) (fun z hz => (h.each z hz).ok) hinv hent h.num (by have := h.cnt; omega) ⟨fun _ _ _ _ _ => rfl⟩
    rw [hxy] at q2 q3
    exact ⟨H', q1, q2, q3, q4⟩
  clear hg5 hpf5 t5
  go_wp2
  go_ret
  exact ⟨rfl, HEND.out⟩

end Go.Proofs.YtlljejmblmjjnaaGreat

/- The law's beginning: a heap and its ground, and the document's. -/
namespace Go.Proofs.YtlljejmblmjjnaaGreat
set_option linter.unusedVariables false
set_option linter.unusedSimpArgs false
open Go.RowKit Go.ChangeMaps

theorem und_ints5 : Tryz.prog.underlying 37 = some (.slice 3) := by kernel_rfl
theorem run_make_ints (n : Nat) (hn : n ≤ 1048576) (w : World) :
    (Instr.makeSlice 37 (.int .i64 n) (.int .i64 n)).run Tryz.prog w = .ok (.slice (some ⟨w.heap.size, 0, none⟩) n n) (w.alloc (.cells (intsV (List.replicate n 0)).toArray 3)) := by
  obtain ⟨i0, hi, hz0, hz1, hz2⟩ := info_parts info_int2
  have := run_make (P := Tryz.prog) w _ _ i0 _ und_ints5 hi hz0 .i64 .i64 n n (by omega) (by omega) (by rw [hz2]; omega) (by omega)
  rw [this, hz1]
  have e : madeCells #[.int .i64 0] n = (intsV (List.replicate n 0)).toArray := by
    apply Array.ext_getElem?
    intro i
    simp only [madeCells, intsV, Array.getElem?_map, List.getElem?_toArray, List.getElem?_map, List.getElem?_replicate, Array.getElem?_range]
    by_cases h : i < n
    · simp [h, Nat.mod_one]
    · simp [h]
  simp only [Int.toNat_natCast, Value.cells, Nat.mul_one, e]

def RefNew (w : World) (e : Ending) (w' : World) : Prop := ∃ k, e = .returned (.tuple #[.pointer (some ⟨k, 0, none⟩), .int .i64 0]) ∧ Below w.heap.size w w'

set_option maxRecDepth 8000 in
set_option maxHeartbeats 1000000 in
theorem ref08New (n : Nat) (hn : n ≤ 64) (w : World) : Calls Tryz.prog 102 #[.int .i64 n] w (RefNew w) := by
  have hmk := run_make_ints n (by omega)
  have h1 : ¬ (n : Int) < 0 := by omega
  have h2 : ¬ (4096 : Int) < n := by omega
  go_enter Tryz.func102, Tryz.ntmps102
  go_wp2
  go_ret2
  exact ⟨_, rfl, (by repeat (first | exact Below.refl _ _ | assumption | refine Below.alloc ?_ (by first | omega | (simp <;> omega)) _ | refine Below.drew ?_ | refine Below.setCell ?_ (by first | omega | (simp <;> omega)) _ | refine Below.via (by assumption) (by first | omega | (simp <;> omega)) ?_))⟩
set_option maxRecDepth 8000 in
set_option maxHeartbeats 1000000 in
theorem ref10New (n : Nat) (hn : n ≤ 64) (w : World) : Calls Tryz.prog 103 #[.int .i64 n] w (RefNew w) := by
  have hmk := run_make_words n (by omega)
  have h1 : ¬ (n : Int) < 0 := by omega
  have h2 : ¬ (4096 : Int) < n := by omega
  go_enter Tryz.func103, Tryz.ntmps103
  go_wp2
  go_ret2
  exact ⟨_, rfl, (by repeat (first | exact Below.refl _ _ | assumption | refine Below.alloc ?_ (by first | omega | (simp <;> omega)) _ | refine Below.drew ?_ | refine Below.setCell ?_ (by first | omega | (simp <;> omega)) _ | refine Below.via (by assumption) (by first | omega | (simp <;> omega)) ?_))⟩
set_option maxRecDepth 8000 in
set_option maxHeartbeats 1000000 in
theorem ref09New (n : Nat) (hn : n ≤ 64) (w : World) : Calls Tryz.prog 104 #[.int .i64 n] w (RefNew w) := by
  have hmk : ∀ w, (Instr.makeSlice 37 (.int .i64 8) (.int .i64 8)).run Tryz.prog w = .ok (.slice (some ⟨w.heap.size, 0, none⟩) 8 8) (w.alloc (.cells (intsV (List.replicate 8 0)).toArray 3)) := run_make_ints 8 (by omega)
  have h1 : ¬ (n : Int) < 0 := by omega
  have h2 : ¬ (1099511627776 : Int) < n := by omega
  go_enter Tryz.func104, Tryz.ntmps104
  go_wp2
  go_ret2
  exact ⟨_, rfl, (by repeat (first | exact Below.refl _ _ | assumption | refine Below.alloc ?_ (by first | omega | (simp <;> omega)) _ | refine Below.drew ?_ | refine Below.setCell ?_ (by first | omega | (simp <;> omega)) _ | refine Below.via (by assumption) (by first | omega | (simp <;> omega)) ?_))⟩
set_option maxRecDepth 8000 in
set_option maxHeartbeats 1000000 in
theorem ref12New (n : Nat) (hn : n ≤ 64) (w : World) : Calls Tryz.prog 63 #[.int .i64 n] w (RefNew w) := by
  have hmk : ∀ w, (Instr.makeSlice 28 (.int .i64 (256 * (n : Int))) (.int .i64 (256 * (n : Int)))).run Tryz.prog w = .ok (.slice (some ⟨w.heap.size, 0, none⟩) (256 * n) (256 * n)) (w.alloc (.cells (bytesC (List.replicate (256 * n) 0)) 5)) := fun w => by
    have := run_make_bytes (256 * n) (by omega) w
    rw [show ((256 * n : Nat) : Int) = 256 * (n : Int) by omega] at this
    exact this
  have h1 : ¬ (n : Int) < 0 := by omega
  have h2 : ¬ (4096 : Int) < n := by omega
  have hmul : IntKind.i64.wrap (256 * (n : Int)) = 256 * (n : Int) := wraps_i64 _ (by omega) (by omega)
  have H08 := Lib.hid (ref08New n hn)
  have H10 := Lib.hid (ref10New n hn)
  have H09 := Lib.hid (ref09New n hn)
  go_enter Tryz.func63, Tryz.ntmps63
  go_wp2_with (fail)
  refine (H08.out _).mono ?_
  rintro e w1 ⟨k1, rfl, hb1⟩
  have HB1 := Lib.hid hb1
  clear hb1
  go_wp2_with (fail)
  refine (H10.out _).mono ?_
  rintro e w2 ⟨k2, rfl, hb2⟩
  have HB2 := Lib.hid (Below.via hb2 HB1.out.size HB1.out)
  clear hb2
  go_wp2_with (fail)
  refine (H09.out _).mono ?_
  rintro e w3 ⟨k3, rfl, hb3⟩
  have HB3 := Lib.hid (Below.via hb3 HB2.out.size HB2.out)
  have hz3 := HB3.out.size
  clear hb3
  go_wp2
  go_ret2
  refine ⟨_, rfl, (HB3.out.alloc hz3 _).alloc (by simp; omega) _⟩
set_option maxRecDepth 8000 in
set_option maxHeartbeats 1000000 in
theorem ref16New (a b : Option Addr) (w : World) : Calls Tryz.prog 65 #[.pointer a, .pointer b] w fun e w' => (∃ k, e = .returned (.pointer (some ⟨k, 0, none⟩))) ∧ Below w.heap.size w w' := by
  go_enter Tryz.func65, Tryz.ntmps65
  go_wp2
  go_ret
  exact ⟨⟨_, rfl⟩, (by repeat (first | exact Below.refl _ _ | assumption | refine Below.alloc ?_ (by first | omega | (simp <;> omega)) _ | refine Below.drew ?_ | refine Below.setCell ?_ (by first | omega | (simp <;> omega)) _ | refine Below.via (by assumption) (by first | omega | (simp <;> omega)) ?_))⟩

/-- The law's world. -/
structure WorldAt (w : World) (x : Nat) (H : HL) (pages : Nat) (s : HP) : Prop where
  obj : w.heap[x]? = some (.cells #[.pointer (some ⟨H.gr, 0, none⟩), .pointer (some ⟨H.h, 0, none⟩), .slice none 0 0] 35 (0, 0))
  heap : HeapAt w H pages s
theorem WorldAt.cells {w : World} {x : Nat} {H : HL} {pages : Nat} {s : HP} (h : WorldAt w x H pages s) : w.cell? ⟨x, 0, none⟩ = some (.pointer (some ⟨H.gr, 0, none⟩)) ∧ w.cell? ⟨x, 1, none⟩ = some (.pointer (some ⟨H.h, 0, none⟩)) :=
  ⟨cell_of_block h.obj 0, cell_of_block h.obj 1⟩
theorem WorldAt.below {w w' : World} {x : Nat} {H : HL} {pages : Nat} {s : HP} (h : WorldAt w x H pages s) (hb : Below w.heap.size w w') : WorldAt w' x H pages s :=
  ⟨(hb.block _ (lt_of_block h.obj)).trans h.obj, h.heap.below hb⟩
def BeginPost (w : World) (pages : Nat) (e : Ending) (w' : World) : Prop :=
  ∃ x y H, e = .returned (.tuple #[.pointer (some ⟨x, 0, none⟩), .pointer (some ⟨y, 0, none⟩)]) ∧ WorldAt w' x H pages ⟨initR pages, []⟩ ∧ H.left = 0 ∧ (∀ k, H.F k → w.heap.size ≤ k) ∧ w.heap.size ≤ x ∧ Below w.heap.size w w'

set_option maxRecDepth 8000 in
set_option maxHeartbeats 1000000 in
theorem begin_no (n : Int) (hn : n < 0) (w : World) : Calls Tryz.prog 29 #[.int .i64 n] w fun e w' => e = .returned (.tuple #[.pointer none, .pointer none]) ∧ Below w.heap.size w w' := by
  have HG := Lib.hid (gNew_no n hn)
  have HR : Hid (∀ w, Calls Tryz.prog 63 #[.int .i64 n] w fun e w' => e = .returned (.tuple #[.pointer none, .int .i64 11]) ∧ w = w') := fun w => by
    clear HG
    go_enter Tryz.func63, Tryz.ntmps63
    go_wp2
    go_ret2
    exact ⟨rfl, rfl⟩
  clear hn
  go_enter Tryz.func29, Tryz.ntmps29
  go_wp2_with (fail)
  refine (HG.out _).mono ?_
  rintro e w1 ⟨rfl, rfl⟩
  go_wp2_with (fail)
  refine (HR.out _).mono ?_
  rintro e w1 ⟨rfl, rfl⟩
  go_wp2
  go_ret2
  exact ⟨rfl, Below.refl _ _⟩

set_option maxRecDepth 8000 in
set_option maxHeartbeats 2000000 in
theorem begin_yes (pages : Nat) (hp : pages ≤ 64) (w : World) : Calls Tryz.prog 29 #[.int .i64 pages] w (BeginPost w pages) := by
  have hmk : ∀ w, (Instr.makeSlice 28 (.int .i64 (256 * (pages : Int))) (.int .i64 (256 * (pages : Int)))).run Tryz.prog w = .ok (.slice (some ⟨w.heap.size, 0, none⟩) (256 * pages) (256 * pages)) (w.alloc (.cells (bytesC (List.replicate (256 * pages) 0)) 5)) := fun w => by
    have := run_make_bytes (256 * pages) (by omega) w
    rw [show ((256 * pages : Nat) : Int) = 256 * (pages : Int) by omega] at this
    exact this
  have hmul : IntKind.i64.wrap (256 * (pages : Int)) = 256 * (pages : Int) := wraps_i64 _ (by omega) (by omega)
  have HG := Lib.hid (gNew_yes pages hp)
  have HR := Lib.hid (ref12New pages hp)
  have H16 := Lib.hid ref16New
  go_enter Tryz.func29, Tryz.ntmps29
  go_wp2_with (fail)
  refine (HG.out _).mono ?_
  rintro e w1 ⟨gr, cl, cb, p, rfl, hg1, hc1, hb1, g1, g2, g3, g4⟩
  have HG1 := Lib.hid hg1
  have HC1 := Lib.hid hc1
  have HB1 := Lib.hid hb1
  have HGE := Lib.hid (And.intro g1 (And.intro g2 (And.intro g3 g4)))
  clear hg1 hc1 hb1 g1 g2 g3 g4
  go_wp2_with (fail)
  refine (HR.out _).mono ?_
  rintro e w2 ⟨k2, rfl, hb2⟩
  have HB2 := Lib.hid (Below.via hb2 HB1.out.size HB1.out)
  have HG2 := Lib.hid (HG1.out.below hb2)
  have HC2 := Lib.hid (HC1.out.below hb2)
  have HCELLS := Lib.hid (gCells_any gr cl pages 0 0 0 p (initR pages) (List.replicate 64 none) w2 HG2.out)
  have hs2 := HB2.out.size
  have HNEW := Lib.hid (hNew_yes HG2.out HC2.out hs2 HGE.out.1 HGE.out.2.1 HGE.out.2.2.1 HGE.out.2.2.2)
  clear hb2
  go_wp2_with (fail)
  refine HCELLS.out.mono ?_
  rintro e w2' ⟨rfl, rfl⟩
  go_wp2_with (fail)
  refine HNEW.out.mono ?_
  rintro e w3 ⟨H, rfl, hgr, hcl, hleft, hA, hF, hb3⟩
  have HB3 := Lib.hid (Below.via hb3 hs2 HB2.out)
  have HA3 := Lib.hid hA
  have HFF := Lib.hid hF
  have HGR := Lib.hid hgr
  have HLF := Lib.hid hleft
  have hs3 := HB3.out.size
  clear hb3 hA hF hgr hcl hleft
  go_wp2_with (fail)
  refine (H16.out _ _ _).mono ?_
  rintro e w4 ⟨⟨k4, rfl⟩, hb4⟩
  obtain ⟨X1, hX1⟩ : ∃ X1, X1 = w3.alloc (.cells #[.pointer (some ⟨gr, 0, none⟩), .pointer (some ⟨H.h, 0, none⟩), .slice none 0 0] 35) := ⟨_, rfl⟩
  rw [← hX1] at hb4
  have hx1 : X1.heap[w3.heap.size]? = some (.cells #[.pointer (some ⟨gr, 0, none⟩), .pointer (some ⟨H.h, 0, none⟩), .slice none 0 0] 35 (0, 0)) := by rw [hX1]; exact heap_alloc_new _ _
  have hbx : Below w3.heap.size w3 X1 := by rw [hX1]; exact (Below.refl _ _).alloc (Nat.le_refl _) _
  have hsx : X1.heap.size = w3.heap.size + 1 := by rw [hX1]; simp
  have hb14 : Below X1.heap.size X1 w4 := by
    refine Below.via hb4 (by simp; omega) ?_
    exact ((Below.refl _ _).alloc (Nat.le_refl _) _).alloc (by simp) _
  have HX4 := Lib.hid ((hb14.block _ (by omega)).trans hx1)
  have HB34 := Lib.hid (Below.via hb14 (by omega) hbx)
  have hs4 := HB34.out.size
  clear hb4 hx1 hbx hb14 hX1
  go_wp2
  go_ret2
  refine ⟨w3.heap.size, _, H, rfl, WorldAt.below ⟨?_, HA3.out.below HB34.out⟩ ((Below.refl _ _).alloc (Nat.le_refl _) _), HLF.out, HFF.out, hs3, (Below.via HB34.out hs3 HB3.out).alloc (by omega) _⟩
  rw [HGR.out]
  exact HX4.out

end Go.Proofs.YtlljejmblmjjnaaGreat

/- The law's Do: a call that the heap is told. -/
namespace Go.Proofs.YtlljejmblmjjnaaGreat
set_option linter.unusedVariables false
set_option linter.unusedSimpArgs false
open Go.RowKit Go.ChangeMaps

theorem HeapAt.drew {w : World} {H : HL} {pages : Nat} {s : HP} (h : HeapAt w H pages s) : HeapAt w.drew H pages s := h.below (Below.drew (Below.refl _ _))

def DoPost (w : World) (x : Nat) (H : HL) (pages : Nat) (s s' : HP) (res : List Int) (err : Int) (e : Ending) (w' : World) : Prop :=
  ∃ v H', e = .returned (.tuple #[v, .int .i64 err]) ∧ Ints w' w.heap.size v res ∧ WorldAt w' x H' pages s' ∧ H'.left = H.left ∧ H.Of H' s s' w.heap.size ∧ Turned H.F w w'
theorem DoPost.of {w W w1 w' : World} {x : Nat} {H : HL} {pages : Nat} {s s' : HP} {res : List Int} {err : Int} {u v : Value} {e e' : Ending} (h : WorldAt w x H pages s) (hb : Below w.heap.size w W) (hp : HPost W H pages s s' u e w1) (ht : Below w1.heap.size w1 w') (he : e' = .returned (.tuple #[v, .int .i64 err]))
    (hi : Ints w' w.heap.size v res) : DoPost w x H pages s s' res err e' w' := by
  obtain ⟨-, H', q1, q2, q3, q4⟩ := hp
  have hoffx : ¬ H.F x := h.heap.offT h.obj (by decide)
  have t : Turned H.F w w' := ((Turned.of_below (F := H.F) hb (Nat.le_refl _)).trans q4 (fun _ h _ => h)).trans (Turned.of_below (F := H.F) ht (Nat.le_refl _)) (fun _ h _ => h)
  have hz := hb.size
  refine ⟨v, H', he, hi, ⟨?_, q2.below ht⟩, q1, ⟨q3.h, q3.gr, q3.cl, q3.cb, q3.mb, fun k hk => (q3.foot k hk).imp id (fun hh => by omega), q3.keep⟩, t⟩
  rw [q3.gr, q3.h]
  exact (t.block _ (lt_of_block h.obj) hoffx).trans h.obj
theorem ints_one {w : World} {base : Nat} (a : Int) (hb : base ≤ w.heap.size) : Ints (w.alloc (.cells #[.int .i64 a] 3)) base (.slice (some ⟨w.heap.size, 0, none⟩) 1 1) [a] :=
  ⟨_, 1, rfl, fun _ => ⟨w.heap.size, rfl, hb, fun i hi => by
    have : i = 0 := by simpa using hi
    subst this
    rw [cell_of_block (heap_alloc_new _ _)]
    rfl⟩⟩

set_option maxRecDepth 8000 in
set_option maxHeartbeats 2000000 in
theorem do0_any {w : World} {x : Nat} {H : HL} {pages : Nat} {s : HP} (h : WorldAt w x H pages s) (cls at_ n pg : Int) (bv : Value) :
    Calls Tryz.prog 12 #[.pointer (some ⟨x, 0, none⟩), .agg #[.int .i64 0, .int .i64 cls, .int .i64 at_, .int .i64 n, .int .i64 pg, bv]] w (DoPost w x H pages s (takeP s cls).2 [(takeP s cls).1.1] (takeP s cls).1.2) := by
  obtain ⟨-, cx⟩ := h.cells
  have hxl := cell_lt cx
  obtain ⟨W1, hW1⟩ : ∃ W1, W1 = w.alloc (.cells #[.int .i64 0, .int .i64 cls, .int .i64 at_, .int .i64 n, .int .i64 pg, bv] 30) := ⟨_, rfl⟩
  have hb1 : Below w.heap.size w W1 := by rw [hW1]; exact (Below.refl _ _).alloc (Nat.le_refl _) _
  have hbox : W1.heap[w.heap.size]? = some (.cells #[.int .i64 0, .int .i64 cls, .int .i64 at_, .int .i64 n, .int .i64 pg, bv] 30 (0, 0)) := by rw [hW1]; exact heap_alloc_new _ _
  have h1 := (h.below hb1).heap.drew
  have hoffx : ¬ H.F x := (h.below hb1).heap.offT (h.below hb1).obj (by decide)
  have hoffb : ¬ H.F w.heap.size := (h.below hb1).heap.offT hbox (by decide)
  have hob1 := (h.below hb1).obj
  have x1 : W1.cell? ⟨x, 1, none⟩ = some (.pointer (some ⟨H.h, 0, none⟩)) := cell_past hb1 hxl cx
  have q0 := cell_of_block hbox 0
  have q1 := cell_of_block hbox 1
  have q2 := cell_of_block hbox 2
  have q3 := cell_of_block hbox 3
  have q4 := cell_of_block hbox 4
  have HB1 := Lib.hid hb1
  have H1 := Lib.hid h1
  have HOFF := Lib.hid (And.intro hoffx hoffb)
  have HOB := Lib.hid hob1
  have HLT := Lib.hid h
  clear h hb1 hbox h1 hoffx hoffb hob1 cx
  go_enter Tryz.func12, Tryz.ntmps12
  go_upto_region 3 with (fail)
  rw [← hW1]
  clear hW1
  have HC := Lib.hid (htake_any H1.out cls)
  unfold ansV at HC
  (refine wp_region_held_drew (S := fun W : World => W.cell? ⟨x, 1, none⟩ = some (.pointer (some ⟨H.h, 0, none⟩)) ∧ W.cell? ⟨w.heap.size, 1, none⟩ = some (.int .i64 cls) ∧ W.cell? ⟨w.heap.size, 2, none⟩ = some (.int .i64 at_) ∧ W.cell? ⟨w.heap.size, 3, none⟩ = some (.int .i64 n) ∧ W.cell? ⟨w.heap.size, 4, none⟩ = some (.int .i64 pg)) (by kernel_rfl) (by exact ⟨x1, q1, q2, q3, q4⟩) (fun hHeld0 => ?_))
  (refine wpAnyH_take (i := 0) (v := ?_) rfl (by kernel_rfl) (by kernel_rfl) (by kernel_rfl) (fun _ _ _ h => h) (Or.inl ⟨by rfl, ?_⟩) (by assumption) ?_; rotate_left; focus (intro w hSw; (try dsimp only at hSw); go_simp; first | done | with_reducible rfl); (try simp only [Act.put, List.setIfInBounds_toArray, List.set_cons_zero, List.set_cons_succ, List.getElem_toArray, List.getElem_cons_zero, List.getElem_cons_succ]))
  (refine wpAnyH_take (i := 1) (v := ?_) rfl (by kernel_rfl) (by kernel_rfl) (by kernel_rfl) (fun _ _ _ h => h) (Or.inl ⟨by rfl, ?_⟩) (by assumption) ?_; rotate_left; focus (intro w hSw; (try dsimp only at hSw); go_simp; first | done | with_reducible rfl); (try simp only [Act.put, List.setIfInBounds_toArray, List.set_cons_zero, List.set_cons_succ, List.getElem_toArray, List.getElem_cons_zero, List.getElem_cons_succ]))
  (refine wpAnyH_take (i := 2) (v := ?_) rfl (by kernel_rfl) (by kernel_rfl) (by kernel_rfl) (fun _ _ _ h => h) (Or.inl ⟨by rfl, ?_⟩) (by assumption) ?_; rotate_left; focus (intro w hSw; (try dsimp only at hSw); go_simp; first | done | with_reducible rfl); (try simp only [Act.put, List.setIfInBounds_toArray, List.set_cons_zero, List.set_cons_succ, List.getElem_toArray, List.getElem_cons_zero, List.getElem_cons_succ]))
  (refine wpAnyH_take (i := 3) (v := ?_) rfl (by kernel_rfl) (by kernel_rfl) (by kernel_rfl) (fun _ _ _ h => h) (Or.inl ⟨by rfl, ?_⟩) (by assumption) ?_; rotate_left; focus (intro w hSw; (try dsimp only at hSw); go_simp; first | done | with_reducible rfl); (try simp only [Act.put, List.setIfInBounds_toArray, List.set_cons_zero, List.set_cons_succ, List.getElem_toArray, List.getElem_cons_zero, List.getElem_cons_succ]))
  (refine wpAnyH_take (i := 4) (v := ?_) rfl (by kernel_rfl) (by kernel_rfl) (by kernel_rfl) (fun _ _ _ h => h) (Or.inl ⟨by rfl, ?_⟩) (by assumption) ?_; rotate_left; focus (intro w hSw; (try dsimp only at hSw); go_simp; first | done | with_reducible rfl); (try simp only [Act.put, List.setIfInBounds_toArray, List.set_cons_zero, List.set_cons_succ, List.getElem_toArray, List.getElem_cons_zero, List.getElem_cons_succ]))
  (refine wpAnyH_take (i := 5) (v := ?_) rfl (by kernel_rfl) (by kernel_rfl) (by kernel_rfl) (fun _ _ _ h => h) (Or.inl ⟨by rfl, ?_⟩) (by assumption) ?_; rotate_left; focus (intro w hSw; (try dsimp only at hSw); go_simp; first | done | with_reducible rfl); (try simp only [Act.put, List.setIfInBounds_toArray, List.set_cons_zero, List.set_cons_succ, List.getElem_toArray, List.getElem_cons_zero, List.getElem_cons_succ]))
  (refine wpAnyH_ready (rs := [6]) (by kernel_rfl) (by simp) ?_; refine AllReadyH.cons rfl (fun K hK => ?_) AllReadyH.nil; go_simp)
  go_wp2_with (fail)
  refine HC.out.mono ?_
  (rintro e w4 hp; have HPP := Lib.hid hp; have htt : Turned H.F W1 w4 := (Turned.of_below (F := H.F) (Below.drew (Below.refl _ W1)) (Nat.le_refl _)).trans (by obtain ⟨-, H', -, -, -, t⟩ := hp; exact t) (fun _ h _ => h); have hs4 := htt.size; have hsW := HB1.out.size; obtain ⟨rfl, -⟩ := hp; (refine hK.out _ _ ⟨turned_cell htt HOFF.out.1 x1, turned_cell htt HOFF.out.2 q1, turned_cell htt HOFF.out.2 q2, turned_cell htt HOFF.out.2 q3, turned_cell htt HOFF.out.2 q4⟩ (fun hHeld => ?_); clear hK K hHeld0; (try simp only [Act.put, List.setIfInBounds_toArray, List.set_cons_zero, List.set_cons_succ, List.getElem_toArray, List.getElem_cons_zero, List.getElem_cons_succ])); clear htt x1 q0 q1 q2 q3 q4)
  (refine wpAnyH_take (i := 7) (v := ?_) rfl (by kernel_rfl) (by kernel_rfl) (by kernel_rfl) (fun _ _ _ h => h) (Or.inl ⟨by rfl, ?_⟩) (by assumption) ?_; rotate_left; focus (intro w hSw; (try dsimp only at hSw); go_simp; first | done | with_reducible rfl); (try simp only [Act.put, List.setIfInBounds_toArray, List.set_cons_zero, List.set_cons_succ, List.getElem_toArray, List.getElem_cons_zero, List.getElem_cons_succ]))
  (refine wpAnyH_take (i := 8) (v := ?_) rfl (by kernel_rfl) (by kernel_rfl) (by kernel_rfl) (fun _ _ _ h => h) (Or.inl ⟨by rfl, ?_⟩) (by assumption) ?_; rotate_left; focus (intro w hSw; (try dsimp only at hSw); go_simp; first | done | with_reducible rfl); (try simp only [Act.put, List.setIfInBounds_toArray, List.set_cons_zero, List.set_cons_succ, List.getElem_toArray, List.getElem_cons_zero, List.getElem_cons_succ]))
  (refine wpAnyH_take (i := 9) (v := ?_) rfl (by kernel_rfl) (by kernel_rfl) (by kernel_rfl) (fun _ _ _ h => h) (Or.inl ⟨by rfl, ?_⟩) (by assumption) ?_; rotate_left; focus (intro w hSw; (try dsimp only at hSw); go_simp; first | done | with_reducible rfl); (try simp only [Act.put, List.setIfInBounds_toArray, List.set_cons_zero, List.set_cons_succ, List.getElem_toArray, List.getElem_cons_zero, List.getElem_cons_succ]))
  (refine wpAnyH_take (i := 10) (v := ?_) rfl (by kernel_rfl) (by kernel_rfl) (by kernel_rfl) (fun _ _ _ h => h) (Or.inl ⟨by rfl, ?_⟩) (by assumption) ?_; rotate_left; focus (intro w hSw; (try dsimp only at hSw); go_simp; first | done | with_reducible rfl); (try simp only [Act.put, List.setIfInBounds_toArray, List.set_cons_zero, List.set_cons_succ, List.getElem_toArray, List.getElem_cons_zero, List.getElem_cons_succ]))
  (refine wpAnyH_take (i := 11) (v := ?_) rfl (by kernel_rfl) (by kernel_rfl) (by kernel_rfl) (fun _ _ _ h => h) (Or.inl ⟨by rfl, ?_⟩) (by assumption) ?_; rotate_left; focus (intro w hSw; (try dsimp only at hSw); go_simp; first | done | with_reducible rfl); (try simp only [Act.put, List.setIfInBounds_toArray, List.set_cons_zero, List.set_cons_succ, List.getElem_toArray, List.getElem_cons_zero, List.getElem_cons_succ]))
  refine wpAnyH_done (by kernel_rfl) ?_ _
  clear hHeld
  go_wp2
  go_ret2
  exact DoPost.of HLT.out (Below.drew HB1.out) HPP.out ((Below.refl _ _).alloc (Nat.le_refl _) _) rfl (ints_one _ (by omega))

set_option maxRecDepth 8000 in
set_option maxHeartbeats 2000000 in
theorem do1_any {w : World} {x : Nat} {H : HL} {pages : Nat} {s : HP} (h : WorldAt w x H pages s) (cls at_ n pg : Int) (bv : Value) :
    Calls Tryz.prog 12 #[.pointer (some ⟨x, 0, none⟩), .agg #[.int .i64 1, .int .i64 cls, .int .i64 at_, .int .i64 n, .int .i64 pg, bv]] w (DoPost w x H pages s (giveP s at_).2 [] (giveP s at_).1) := by
  obtain ⟨-, cx⟩ := h.cells
  have hxl := cell_lt cx
  obtain ⟨W1, hW1⟩ : ∃ W1, W1 = w.alloc (.cells #[.int .i64 1, .int .i64 cls, .int .i64 at_, .int .i64 n, .int .i64 pg, bv] 30) := ⟨_, rfl⟩
  have hb1 : Below w.heap.size w W1 := by rw [hW1]; exact (Below.refl _ _).alloc (Nat.le_refl _) _
  have hbox : W1.heap[w.heap.size]? = some (.cells #[.int .i64 1, .int .i64 cls, .int .i64 at_, .int .i64 n, .int .i64 pg, bv] 30 (0, 0)) := by rw [hW1]; exact heap_alloc_new _ _
  have h1 := (h.below hb1).heap.drew
  have hoffx : ¬ H.F x := (h.below hb1).heap.offT (h.below hb1).obj (by decide)
  have hoffb : ¬ H.F w.heap.size := (h.below hb1).heap.offT hbox (by decide)
  have hob1 := (h.below hb1).obj
  have x1 : W1.cell? ⟨x, 1, none⟩ = some (.pointer (some ⟨H.h, 0, none⟩)) := cell_past hb1 hxl cx
  have q0 := cell_of_block hbox 0
  have q1 := cell_of_block hbox 1
  have q2 := cell_of_block hbox 2
  have q3 := cell_of_block hbox 3
  have q4 := cell_of_block hbox 4
  have HB1 := Lib.hid hb1
  have H1 := Lib.hid h1
  have HOFF := Lib.hid (And.intro hoffx hoffb)
  have HOB := Lib.hid hob1
  have HLT := Lib.hid h
  clear h hb1 hbox h1 hoffx hoffb hob1 cx
  go_enter Tryz.func12, Tryz.ntmps12
  go_upto_region 6 with (fail)
  rw [← hW1]
  clear hW1
  have HC := Lib.hid (hgive_any H1.out at_)
  (refine wp_region_held_drew (S := fun W : World => W.cell? ⟨x, 1, none⟩ = some (.pointer (some ⟨H.h, 0, none⟩)) ∧ W.cell? ⟨w.heap.size, 1, none⟩ = some (.int .i64 cls) ∧ W.cell? ⟨w.heap.size, 2, none⟩ = some (.int .i64 at_) ∧ W.cell? ⟨w.heap.size, 3, none⟩ = some (.int .i64 n) ∧ W.cell? ⟨w.heap.size, 4, none⟩ = some (.int .i64 pg)) (by kernel_rfl) (by exact ⟨x1, q1, q2, q3, q4⟩) (fun hHeld0 => ?_))
  (refine wpAnyH_take (i := 0) (v := ?_) rfl (by kernel_rfl) (by kernel_rfl) (by kernel_rfl) (fun _ _ _ h => h) (Or.inl ⟨by rfl, ?_⟩) (by assumption) ?_; rotate_left; focus (intro w hSw; (try dsimp only at hSw); go_simp; first | done | with_reducible rfl); (try simp only [Act.put, List.setIfInBounds_toArray, List.set_cons_zero, List.set_cons_succ, List.getElem_toArray, List.getElem_cons_zero, List.getElem_cons_succ]))
  (refine wpAnyH_take (i := 1) (v := ?_) rfl (by kernel_rfl) (by kernel_rfl) (by kernel_rfl) (fun _ _ _ h => h) (Or.inl ⟨by rfl, ?_⟩) (by assumption) ?_; rotate_left; focus (intro w hSw; (try dsimp only at hSw); go_simp; first | done | with_reducible rfl); (try simp only [Act.put, List.setIfInBounds_toArray, List.set_cons_zero, List.set_cons_succ, List.getElem_toArray, List.getElem_cons_zero, List.getElem_cons_succ]))
  (refine wpAnyH_take (i := 2) (v := ?_) rfl (by kernel_rfl) (by kernel_rfl) (by kernel_rfl) (fun _ _ _ h => h) (Or.inl ⟨by rfl, ?_⟩) (by assumption) ?_; rotate_left; focus (intro w hSw; (try dsimp only at hSw); go_simp; first | done | with_reducible rfl); (try simp only [Act.put, List.setIfInBounds_toArray, List.set_cons_zero, List.set_cons_succ, List.getElem_toArray, List.getElem_cons_zero, List.getElem_cons_succ]))
  (refine wpAnyH_take (i := 3) (v := ?_) rfl (by kernel_rfl) (by kernel_rfl) (by kernel_rfl) (fun _ _ _ h => h) (Or.inl ⟨by rfl, ?_⟩) (by assumption) ?_; rotate_left; focus (intro w hSw; (try dsimp only at hSw); go_simp; first | done | with_reducible rfl); (try simp only [Act.put, List.setIfInBounds_toArray, List.set_cons_zero, List.set_cons_succ, List.getElem_toArray, List.getElem_cons_zero, List.getElem_cons_succ]))
  (refine wpAnyH_take (i := 4) (v := ?_) rfl (by kernel_rfl) (by kernel_rfl) (by kernel_rfl) (fun _ _ _ h => h) (Or.inl ⟨by rfl, ?_⟩) (by assumption) ?_; rotate_left; focus (intro w hSw; (try dsimp only at hSw); go_simp; first | done | with_reducible rfl); (try simp only [Act.put, List.setIfInBounds_toArray, List.set_cons_zero, List.set_cons_succ, List.getElem_toArray, List.getElem_cons_zero, List.getElem_cons_succ]))
  (refine wpAnyH_take (i := 5) (v := ?_) rfl (by kernel_rfl) (by kernel_rfl) (by kernel_rfl) (fun _ _ _ h => h) (Or.inl ⟨by rfl, ?_⟩) (by assumption) ?_; rotate_left; focus (intro w hSw; (try dsimp only at hSw); go_simp; first | done | with_reducible rfl); (try simp only [Act.put, List.setIfInBounds_toArray, List.set_cons_zero, List.set_cons_succ, List.getElem_toArray, List.getElem_cons_zero, List.getElem_cons_succ]))
  (refine wpAnyH_ready (rs := [6]) (by kernel_rfl) (by simp) ?_; refine AllReadyH.cons rfl (fun K hK => ?_) AllReadyH.nil; go_simp)
  go_wp2_with (fail)
  refine HC.out.mono ?_
  (rintro e w4 hp; have HPP := Lib.hid hp; have htt : Turned H.F W1 w4 := (Turned.of_below (F := H.F) (Below.drew (Below.refl _ W1)) (Nat.le_refl _)).trans (by obtain ⟨-, H', -, -, -, t⟩ := hp; exact t) (fun _ h _ => h); have hs4 := htt.size; have hsW := HB1.out.size; obtain ⟨rfl, -⟩ := hp; (refine hK.out _ _ ⟨turned_cell htt HOFF.out.1 x1, turned_cell htt HOFF.out.2 q1, turned_cell htt HOFF.out.2 q2, turned_cell htt HOFF.out.2 q3, turned_cell htt HOFF.out.2 q4⟩ (fun hHeld => ?_); clear hK K hHeld0; (try simp only [Act.put, List.setIfInBounds_toArray, List.set_cons_zero, List.set_cons_succ, List.getElem_toArray, List.getElem_cons_zero, List.getElem_cons_succ])); clear htt x1 q0 q1 q2 q3 q4)
  (refine wpAnyH_take (i := 7) (v := ?_) rfl (by kernel_rfl) (by kernel_rfl) (by kernel_rfl) (fun _ _ _ h => h) (Or.inl ⟨by rfl, ?_⟩) (by assumption) ?_; rotate_left; focus (intro w hSw; (try dsimp only at hSw); go_simp; first | done | with_reducible rfl); (try simp only [Act.put, List.setIfInBounds_toArray, List.set_cons_zero, List.set_cons_succ, List.getElem_toArray, List.getElem_cons_zero, List.getElem_cons_succ]))
  (refine wpAnyH_take (i := 8) (v := ?_) rfl (by kernel_rfl) (by kernel_rfl) (by kernel_rfl) (fun _ _ _ h => h) (Or.inl ⟨by rfl, ?_⟩) (by assumption) ?_; rotate_left; focus (intro w hSw; (try dsimp only at hSw); go_simp; first | done | with_reducible rfl); (try simp only [Act.put, List.setIfInBounds_toArray, List.set_cons_zero, List.set_cons_succ, List.getElem_toArray, List.getElem_cons_zero, List.getElem_cons_succ]))
  refine wpAnyH_done (by kernel_rfl) ?_ _
  clear hHeld
  go_wp2
  go_ret2
  exact DoPost.of HLT.out (Below.drew HB1.out) HPP.out (Below.refl _ _) rfl (Ints.nil _ _)

set_option maxRecDepth 8000 in
set_option maxHeartbeats 2000000 in
theorem do3_any {w : World} {x : Nat} {H : HL} {pages : Nat} {s : HP} (h : WorldAt w x H pages s) (cls at_ n pg : Int) (bv : Value) :
    Calls Tryz.prog 12 #[.pointer (some ⟨x, 0, none⟩), .agg #[.int .i64 3, .int .i64 cls, .int .i64 at_, .int .i64 n, .int .i64 pg, bv]] w (DoPost w x H pages s (sealP s pg).2 [] (sealP s pg).1) := by
  obtain ⟨-, cx⟩ := h.cells
  have hxl := cell_lt cx
  obtain ⟨W1, hW1⟩ : ∃ W1, W1 = w.alloc (.cells #[.int .i64 3, .int .i64 cls, .int .i64 at_, .int .i64 n, .int .i64 pg, bv] 30) := ⟨_, rfl⟩
  have hb1 : Below w.heap.size w W1 := by rw [hW1]; exact (Below.refl _ _).alloc (Nat.le_refl _) _
  have hbox : W1.heap[w.heap.size]? = some (.cells #[.int .i64 3, .int .i64 cls, .int .i64 at_, .int .i64 n, .int .i64 pg, bv] 30 (0, 0)) := by rw [hW1]; exact heap_alloc_new _ _
  have h1 := (h.below hb1).heap.drew
  have hoffx : ¬ H.F x := (h.below hb1).heap.offT (h.below hb1).obj (by decide)
  have hoffb : ¬ H.F w.heap.size := (h.below hb1).heap.offT hbox (by decide)
  have hob1 := (h.below hb1).obj
  have x1 : W1.cell? ⟨x, 1, none⟩ = some (.pointer (some ⟨H.h, 0, none⟩)) := cell_past hb1 hxl cx
  have q0 := cell_of_block hbox 0
  have q1 := cell_of_block hbox 1
  have q2 := cell_of_block hbox 2
  have q3 := cell_of_block hbox 3
  have q4 := cell_of_block hbox 4
  have HB1 := Lib.hid hb1
  have H1 := Lib.hid h1
  have HOFF := Lib.hid (And.intro hoffx hoffb)
  have HOB := Lib.hid hob1
  have HLT := Lib.hid h
  clear h hb1 hbox h1 hoffx hoffb hob1 cx
  go_enter Tryz.func12, Tryz.ntmps12
  go_upto_region 10 with (fail)
  rw [← hW1]
  clear hW1
  have HC := Lib.hid (hseal_any H1.out pg)
  (refine wp_region_held_drew (S := fun W : World => W.cell? ⟨x, 1, none⟩ = some (.pointer (some ⟨H.h, 0, none⟩)) ∧ W.cell? ⟨w.heap.size, 1, none⟩ = some (.int .i64 cls) ∧ W.cell? ⟨w.heap.size, 2, none⟩ = some (.int .i64 at_) ∧ W.cell? ⟨w.heap.size, 3, none⟩ = some (.int .i64 n) ∧ W.cell? ⟨w.heap.size, 4, none⟩ = some (.int .i64 pg)) (by kernel_rfl) (by exact ⟨x1, q1, q2, q3, q4⟩) (fun hHeld0 => ?_))
  (refine wpAnyH_take (i := 0) (v := ?_) rfl (by kernel_rfl) (by kernel_rfl) (by kernel_rfl) (fun _ _ _ h => h) (Or.inl ⟨by rfl, ?_⟩) (by assumption) ?_; rotate_left; focus (intro w hSw; (try dsimp only at hSw); go_simp; first | done | with_reducible rfl); (try simp only [Act.put, List.setIfInBounds_toArray, List.set_cons_zero, List.set_cons_succ, List.getElem_toArray, List.getElem_cons_zero, List.getElem_cons_succ]))
  (refine wpAnyH_take (i := 1) (v := ?_) rfl (by kernel_rfl) (by kernel_rfl) (by kernel_rfl) (fun _ _ _ h => h) (Or.inl ⟨by rfl, ?_⟩) (by assumption) ?_; rotate_left; focus (intro w hSw; (try dsimp only at hSw); go_simp; first | done | with_reducible rfl); (try simp only [Act.put, List.setIfInBounds_toArray, List.set_cons_zero, List.set_cons_succ, List.getElem_toArray, List.getElem_cons_zero, List.getElem_cons_succ]))
  (refine wpAnyH_take (i := 2) (v := ?_) rfl (by kernel_rfl) (by kernel_rfl) (by kernel_rfl) (fun _ _ _ h => h) (Or.inl ⟨by rfl, ?_⟩) (by assumption) ?_; rotate_left; focus (intro w hSw; (try dsimp only at hSw); go_simp; first | done | with_reducible rfl); (try simp only [Act.put, List.setIfInBounds_toArray, List.set_cons_zero, List.set_cons_succ, List.getElem_toArray, List.getElem_cons_zero, List.getElem_cons_succ]))
  (refine wpAnyH_take (i := 3) (v := ?_) rfl (by kernel_rfl) (by kernel_rfl) (by kernel_rfl) (fun _ _ _ h => h) (Or.inl ⟨by rfl, ?_⟩) (by assumption) ?_; rotate_left; focus (intro w hSw; (try dsimp only at hSw); go_simp; first | done | with_reducible rfl); (try simp only [Act.put, List.setIfInBounds_toArray, List.set_cons_zero, List.set_cons_succ, List.getElem_toArray, List.getElem_cons_zero, List.getElem_cons_succ]))
  (refine wpAnyH_take (i := 4) (v := ?_) rfl (by kernel_rfl) (by kernel_rfl) (by kernel_rfl) (fun _ _ _ h => h) (Or.inl ⟨by rfl, ?_⟩) (by assumption) ?_; rotate_left; focus (intro w hSw; (try dsimp only at hSw); go_simp; first | done | with_reducible rfl); (try simp only [Act.put, List.setIfInBounds_toArray, List.set_cons_zero, List.set_cons_succ, List.getElem_toArray, List.getElem_cons_zero, List.getElem_cons_succ]))
  (refine wpAnyH_take (i := 5) (v := ?_) rfl (by kernel_rfl) (by kernel_rfl) (by kernel_rfl) (fun _ _ _ h => h) (Or.inl ⟨by rfl, ?_⟩) (by assumption) ?_; rotate_left; focus (intro w hSw; (try dsimp only at hSw); go_simp; first | done | with_reducible rfl); (try simp only [Act.put, List.setIfInBounds_toArray, List.set_cons_zero, List.set_cons_succ, List.getElem_toArray, List.getElem_cons_zero, List.getElem_cons_succ]))
  (refine wpAnyH_ready (rs := [6]) (by kernel_rfl) (by simp) ?_; refine AllReadyH.cons rfl (fun K hK => ?_) AllReadyH.nil; go_simp)
  go_wp2_with (fail)
  refine HC.out.mono ?_
  (rintro e w4 hp; have HPP := Lib.hid hp; have htt : Turned H.F W1 w4 := (Turned.of_below (F := H.F) (Below.drew (Below.refl _ W1)) (Nat.le_refl _)).trans (by obtain ⟨-, H', -, -, -, t⟩ := hp; exact t) (fun _ h _ => h); have hs4 := htt.size; have hsW := HB1.out.size; obtain ⟨rfl, -⟩ := hp; (refine hK.out _ _ ⟨turned_cell htt HOFF.out.1 x1, turned_cell htt HOFF.out.2 q1, turned_cell htt HOFF.out.2 q2, turned_cell htt HOFF.out.2 q3, turned_cell htt HOFF.out.2 q4⟩ (fun hHeld => ?_); clear hK K hHeld0; (try simp only [Act.put, List.setIfInBounds_toArray, List.set_cons_zero, List.set_cons_succ, List.getElem_toArray, List.getElem_cons_zero, List.getElem_cons_succ])); clear htt x1 q0 q1 q2 q3 q4)
  (refine wpAnyH_take (i := 7) (v := ?_) rfl (by kernel_rfl) (by kernel_rfl) (by kernel_rfl) (fun _ _ _ h => h) (Or.inl ⟨by rfl, ?_⟩) (by assumption) ?_; rotate_left; focus (intro w hSw; (try dsimp only at hSw); go_simp; first | done | with_reducible rfl); (try simp only [Act.put, List.setIfInBounds_toArray, List.set_cons_zero, List.set_cons_succ, List.getElem_toArray, List.getElem_cons_zero, List.getElem_cons_succ]))
  (refine wpAnyH_take (i := 8) (v := ?_) rfl (by kernel_rfl) (by kernel_rfl) (by kernel_rfl) (fun _ _ _ h => h) (Or.inl ⟨by rfl, ?_⟩) (by assumption) ?_; rotate_left; focus (intro w hSw; (try dsimp only at hSw); go_simp; first | done | with_reducible rfl); (try simp only [Act.put, List.setIfInBounds_toArray, List.set_cons_zero, List.set_cons_succ, List.getElem_toArray, List.getElem_cons_zero, List.getElem_cons_succ]))
  refine wpAnyH_done (by kernel_rfl) ?_ _
  clear hHeld
  go_wp2
  go_ret2
  exact DoPost.of HLT.out (Below.drew HB1.out) HPP.out (Below.refl _ _) rfl (Ints.nil _ _)

set_option maxRecDepth 8000 in
set_option maxHeartbeats 2000000 in
theorem do4_any {w : World} {x : Nat} {H : HL} {pages : Nat} {s : HP} (h : WorldAt w x H pages s) (cls at_ n pg : Int) (bv : Value) :
    Calls Tryz.prog 12 #[.pointer (some ⟨x, 0, none⟩), .agg #[.int .i64 4, .int .i64 cls, .int .i64 at_, .int .i64 n, .int .i64 pg, bv]] w (DoPost w x H pages s (unsealP s pg).2 [] (unsealP s pg).1) := by
  obtain ⟨-, cx⟩ := h.cells
  have hxl := cell_lt cx
  obtain ⟨W1, hW1⟩ : ∃ W1, W1 = w.alloc (.cells #[.int .i64 4, .int .i64 cls, .int .i64 at_, .int .i64 n, .int .i64 pg, bv] 30) := ⟨_, rfl⟩
  have hb1 : Below w.heap.size w W1 := by rw [hW1]; exact (Below.refl _ _).alloc (Nat.le_refl _) _
  have hbox : W1.heap[w.heap.size]? = some (.cells #[.int .i64 4, .int .i64 cls, .int .i64 at_, .int .i64 n, .int .i64 pg, bv] 30 (0, 0)) := by rw [hW1]; exact heap_alloc_new _ _
  have h1 := (h.below hb1).heap.drew
  have hoffx : ¬ H.F x := (h.below hb1).heap.offT (h.below hb1).obj (by decide)
  have hoffb : ¬ H.F w.heap.size := (h.below hb1).heap.offT hbox (by decide)
  have hob1 := (h.below hb1).obj
  have x1 : W1.cell? ⟨x, 1, none⟩ = some (.pointer (some ⟨H.h, 0, none⟩)) := cell_past hb1 hxl cx
  have q0 := cell_of_block hbox 0
  have q1 := cell_of_block hbox 1
  have q2 := cell_of_block hbox 2
  have q3 := cell_of_block hbox 3
  have q4 := cell_of_block hbox 4
  have HB1 := Lib.hid hb1
  have H1 := Lib.hid h1
  have HOFF := Lib.hid (And.intro hoffx hoffb)
  have HOB := Lib.hid hob1
  have HLT := Lib.hid h
  clear h hb1 hbox h1 hoffx hoffb hob1 cx
  go_enter Tryz.func12, Tryz.ntmps12
  go_upto_region 12 with (fail)
  rw [← hW1]
  clear hW1
  have HC := Lib.hid (hunseal_any H1.out pg)
  (refine wp_region_held_drew (S := fun W : World => W.cell? ⟨x, 1, none⟩ = some (.pointer (some ⟨H.h, 0, none⟩)) ∧ W.cell? ⟨w.heap.size, 1, none⟩ = some (.int .i64 cls) ∧ W.cell? ⟨w.heap.size, 2, none⟩ = some (.int .i64 at_) ∧ W.cell? ⟨w.heap.size, 3, none⟩ = some (.int .i64 n) ∧ W.cell? ⟨w.heap.size, 4, none⟩ = some (.int .i64 pg)) (by kernel_rfl) (by exact ⟨x1, q1, q2, q3, q4⟩) (fun hHeld0 => ?_))
  (refine wpAnyH_take (i := 0) (v := ?_) rfl (by kernel_rfl) (by kernel_rfl) (by kernel_rfl) (fun _ _ _ h => h) (Or.inl ⟨by rfl, ?_⟩) (by assumption) ?_; rotate_left; focus (intro w hSw; (try dsimp only at hSw); go_simp; first | done | with_reducible rfl); (try simp only [Act.put, List.setIfInBounds_toArray, List.set_cons_zero, List.set_cons_succ, List.getElem_toArray, List.getElem_cons_zero, List.getElem_cons_succ]))
  (refine wpAnyH_take (i := 1) (v := ?_) rfl (by kernel_rfl) (by kernel_rfl) (by kernel_rfl) (fun _ _ _ h => h) (Or.inl ⟨by rfl, ?_⟩) (by assumption) ?_; rotate_left; focus (intro w hSw; (try dsimp only at hSw); go_simp; first | done | with_reducible rfl); (try simp only [Act.put, List.setIfInBounds_toArray, List.set_cons_zero, List.set_cons_succ, List.getElem_toArray, List.getElem_cons_zero, List.getElem_cons_succ]))
  (refine wpAnyH_take (i := 2) (v := ?_) rfl (by kernel_rfl) (by kernel_rfl) (by kernel_rfl) (fun _ _ _ h => h) (Or.inl ⟨by rfl, ?_⟩) (by assumption) ?_; rotate_left; focus (intro w hSw; (try dsimp only at hSw); go_simp; first | done | with_reducible rfl); (try simp only [Act.put, List.setIfInBounds_toArray, List.set_cons_zero, List.set_cons_succ, List.getElem_toArray, List.getElem_cons_zero, List.getElem_cons_succ]))
  (refine wpAnyH_take (i := 3) (v := ?_) rfl (by kernel_rfl) (by kernel_rfl) (by kernel_rfl) (fun _ _ _ h => h) (Or.inl ⟨by rfl, ?_⟩) (by assumption) ?_; rotate_left; focus (intro w hSw; (try dsimp only at hSw); go_simp; first | done | with_reducible rfl); (try simp only [Act.put, List.setIfInBounds_toArray, List.set_cons_zero, List.set_cons_succ, List.getElem_toArray, List.getElem_cons_zero, List.getElem_cons_succ]))
  (refine wpAnyH_take (i := 4) (v := ?_) rfl (by kernel_rfl) (by kernel_rfl) (by kernel_rfl) (fun _ _ _ h => h) (Or.inl ⟨by rfl, ?_⟩) (by assumption) ?_; rotate_left; focus (intro w hSw; (try dsimp only at hSw); go_simp; first | done | with_reducible rfl); (try simp only [Act.put, List.setIfInBounds_toArray, List.set_cons_zero, List.set_cons_succ, List.getElem_toArray, List.getElem_cons_zero, List.getElem_cons_succ]))
  (refine wpAnyH_take (i := 5) (v := ?_) rfl (by kernel_rfl) (by kernel_rfl) (by kernel_rfl) (fun _ _ _ h => h) (Or.inl ⟨by rfl, ?_⟩) (by assumption) ?_; rotate_left; focus (intro w hSw; (try dsimp only at hSw); go_simp; first | done | with_reducible rfl); (try simp only [Act.put, List.setIfInBounds_toArray, List.set_cons_zero, List.set_cons_succ, List.getElem_toArray, List.getElem_cons_zero, List.getElem_cons_succ]))
  (refine wpAnyH_ready (rs := [6]) (by kernel_rfl) (by simp) ?_; refine AllReadyH.cons rfl (fun K hK => ?_) AllReadyH.nil; go_simp)
  go_wp2_with (fail)
  refine HC.out.mono ?_
  (rintro e w4 hp; have HPP := Lib.hid hp; have htt : Turned H.F W1 w4 := (Turned.of_below (F := H.F) (Below.drew (Below.refl _ W1)) (Nat.le_refl _)).trans (by obtain ⟨-, H', -, -, -, t⟩ := hp; exact t) (fun _ h _ => h); have hs4 := htt.size; have hsW := HB1.out.size; obtain ⟨rfl, -⟩ := hp; (refine hK.out _ _ ⟨turned_cell htt HOFF.out.1 x1, turned_cell htt HOFF.out.2 q1, turned_cell htt HOFF.out.2 q2, turned_cell htt HOFF.out.2 q3, turned_cell htt HOFF.out.2 q4⟩ (fun hHeld => ?_); clear hK K hHeld0; (try simp only [Act.put, List.setIfInBounds_toArray, List.set_cons_zero, List.set_cons_succ, List.getElem_toArray, List.getElem_cons_zero, List.getElem_cons_succ])); clear htt x1 q0 q1 q2 q3 q4)
  (refine wpAnyH_take (i := 7) (v := ?_) rfl (by kernel_rfl) (by kernel_rfl) (by kernel_rfl) (fun _ _ _ h => h) (Or.inl ⟨by rfl, ?_⟩) (by assumption) ?_; rotate_left; focus (intro w hSw; (try dsimp only at hSw); go_simp; first | done | with_reducible rfl); (try simp only [Act.put, List.setIfInBounds_toArray, List.set_cons_zero, List.set_cons_succ, List.getElem_toArray, List.getElem_cons_zero, List.getElem_cons_succ]))
  (refine wpAnyH_take (i := 8) (v := ?_) rfl (by kernel_rfl) (by kernel_rfl) (by kernel_rfl) (fun _ _ _ h => h) (Or.inl ⟨by rfl, ?_⟩) (by assumption) ?_; rotate_left; focus (intro w hSw; (try dsimp only at hSw); go_simp; first | done | with_reducible rfl); (try simp only [Act.put, List.setIfInBounds_toArray, List.set_cons_zero, List.set_cons_succ, List.getElem_toArray, List.getElem_cons_zero, List.getElem_cons_succ]))
  refine wpAnyH_done (by kernel_rfl) ?_ _
  clear hHeld
  go_wp2
  go_ret2
  exact DoPost.of HLT.out (Below.drew HB1.out) HPP.out (Below.refl _ _) rfl (Ints.nil _ _)

set_option maxRecDepth 8000 in
set_option maxHeartbeats 2000000 in
theorem do2_any {w : World} {x : Nat} {H : HL} {pages : Nat} {s : HP} (h : WorldAt w x H pages s) (hg : HGood pages s) (cls at_ n pg : Int) (hn : n < 2 ^ 63) (bv : Value) :
    Calls Tryz.prog 12 #[.pointer (some ⟨x, 0, none⟩), .agg #[.int .i64 2, .int .i64 cls, .int .i64 at_, .int .i64 n, .int .i64 pg, bv]] w (DoPost w x H pages s (someP s cls n).2 (someP s cls n).1.1 (someP s cls n).1.2) := by
  obtain ⟨-, cx⟩ := h.cells
  have hxl := cell_lt cx
  obtain ⟨W1, hW1⟩ : ∃ W1, W1 = w.alloc (.cells #[.int .i64 2, .int .i64 cls, .int .i64 at_, .int .i64 n, .int .i64 pg, bv] 30) := ⟨_, rfl⟩
  have hb1 : Below w.heap.size w W1 := by rw [hW1]; exact (Below.refl _ _).alloc (Nat.le_refl _) _
  have hbox : W1.heap[w.heap.size]? = some (.cells #[.int .i64 2, .int .i64 cls, .int .i64 at_, .int .i64 n, .int .i64 pg, bv] 30 (0, 0)) := by rw [hW1]; exact heap_alloc_new _ _
  have h1 := (h.below hb1).heap.drew
  have hoffx : ¬ H.F x := (h.below hb1).heap.offT (h.below hb1).obj (by decide)
  have hoffb : ¬ H.F w.heap.size := (h.below hb1).heap.offT hbox (by decide)
  have hob1 := (h.below hb1).obj
  have x1 : W1.cell? ⟨x, 1, none⟩ = some (.pointer (some ⟨H.h, 0, none⟩)) := cell_past hb1 hxl cx
  have q0 := cell_of_block hbox 0
  have q1 := cell_of_block hbox 1
  have q2 := cell_of_block hbox 2
  have q3 := cell_of_block hbox 3
  have q4 := cell_of_block hbox 4
  have HB1 := Lib.hid hb1
  have H1 := Lib.hid h1
  have HOFF := Lib.hid (And.intro hoffx hoffb)
  have HOB := Lib.hid hob1
  have HLT := Lib.hid h
  clear h hb1 hbox h1 hoffx hoffb hob1 cx
  go_enter Tryz.func12, Tryz.ntmps12
  go_upto_region 8 with (fail)
  rw [← hW1]
  clear hW1
  have HC := Lib.hid (hsome_any H1.out hg cls n hn)
  (refine wp_region_held_drew (S := fun W : World => W.cell? ⟨x, 1, none⟩ = some (.pointer (some ⟨H.h, 0, none⟩)) ∧ W.cell? ⟨w.heap.size, 1, none⟩ = some (.int .i64 cls) ∧ W.cell? ⟨w.heap.size, 2, none⟩ = some (.int .i64 at_) ∧ W.cell? ⟨w.heap.size, 3, none⟩ = some (.int .i64 n) ∧ W.cell? ⟨w.heap.size, 4, none⟩ = some (.int .i64 pg)) (by kernel_rfl) (by exact ⟨x1, q1, q2, q3, q4⟩) (fun hHeld0 => ?_))
  (refine wpAnyH_take (i := 0) (v := ?_) rfl (by kernel_rfl) (by kernel_rfl) (by kernel_rfl) (fun _ _ _ h => h) (Or.inl ⟨by rfl, ?_⟩) (by assumption) ?_; rotate_left; focus (intro w hSw; (try dsimp only at hSw); go_simp; first | done | with_reducible rfl); (try simp only [Act.put, List.setIfInBounds_toArray, List.set_cons_zero, List.set_cons_succ, List.getElem_toArray, List.getElem_cons_zero, List.getElem_cons_succ]))
  (refine wpAnyH_take (i := 1) (v := ?_) rfl (by kernel_rfl) (by kernel_rfl) (by kernel_rfl) (fun _ _ _ h => h) (Or.inl ⟨by rfl, ?_⟩) (by assumption) ?_; rotate_left; focus (intro w hSw; (try dsimp only at hSw); go_simp; first | done | with_reducible rfl); (try simp only [Act.put, List.setIfInBounds_toArray, List.set_cons_zero, List.set_cons_succ, List.getElem_toArray, List.getElem_cons_zero, List.getElem_cons_succ]))
  (refine wpAnyH_take (i := 2) (v := ?_) rfl (by kernel_rfl) (by kernel_rfl) (by kernel_rfl) (fun _ _ _ h => h) (Or.inl ⟨by rfl, ?_⟩) (by assumption) ?_; rotate_left; focus (intro w hSw; (try dsimp only at hSw); go_simp; first | done | with_reducible rfl); (try simp only [Act.put, List.setIfInBounds_toArray, List.set_cons_zero, List.set_cons_succ, List.getElem_toArray, List.getElem_cons_zero, List.getElem_cons_succ]))
  (refine wpAnyH_take (i := 3) (v := ?_) rfl (by kernel_rfl) (by kernel_rfl) (by kernel_rfl) (fun _ _ _ h => h) (Or.inl ⟨by rfl, ?_⟩) (by assumption) ?_; rotate_left; focus (intro w hSw; (try dsimp only at hSw); go_simp; first | done | with_reducible rfl); (try simp only [Act.put, List.setIfInBounds_toArray, List.set_cons_zero, List.set_cons_succ, List.getElem_toArray, List.getElem_cons_zero, List.getElem_cons_succ]))
  (refine wpAnyH_take (i := 4) (v := ?_) rfl (by kernel_rfl) (by kernel_rfl) (by kernel_rfl) (fun _ _ _ h => h) (Or.inl ⟨by rfl, ?_⟩) (by assumption) ?_; rotate_left; focus (intro w hSw; (try dsimp only at hSw); go_simp; first | done | with_reducible rfl); (try simp only [Act.put, List.setIfInBounds_toArray, List.set_cons_zero, List.set_cons_succ, List.getElem_toArray, List.getElem_cons_zero, List.getElem_cons_succ]))
  (refine wpAnyH_take (i := 5) (v := ?_) rfl (by kernel_rfl) (by kernel_rfl) (by kernel_rfl) (fun _ _ _ h => h) (Or.inl ⟨by rfl, ?_⟩) (by assumption) ?_; rotate_left; focus (intro w hSw; (try dsimp only at hSw); go_simp; first | done | with_reducible rfl); (try simp only [Act.put, List.setIfInBounds_toArray, List.set_cons_zero, List.set_cons_succ, List.getElem_toArray, List.getElem_cons_zero, List.getElem_cons_succ]))
  (refine wpAnyH_take (i := 6) (v := ?_) rfl (by kernel_rfl) (by kernel_rfl) (by kernel_rfl) (fun _ _ _ h => h) (Or.inl ⟨by rfl, ?_⟩) (by assumption) ?_; rotate_left; focus (intro w hSw; (try dsimp only at hSw); go_simp; first | done | with_reducible rfl); (try simp only [Act.put, List.setIfInBounds_toArray, List.set_cons_zero, List.set_cons_succ, List.getElem_toArray, List.getElem_cons_zero, List.getElem_cons_succ]))
  (refine wpAnyH_take (i := 7) (v := ?_) rfl (by kernel_rfl) (by kernel_rfl) (by kernel_rfl) (fun _ _ _ h => h) (Or.inl ⟨by rfl, ?_⟩) (by assumption) ?_; rotate_left; focus (intro w hSw; (try dsimp only at hSw); go_simp; first | done | with_reducible rfl); (try simp only [Act.put, List.setIfInBounds_toArray, List.set_cons_zero, List.set_cons_succ, List.getElem_toArray, List.getElem_cons_zero, List.getElem_cons_succ]))
  (refine wpAnyH_ready (rs := [8]) (by kernel_rfl) (by simp) ?_; refine AllReadyH.cons rfl (fun K hK => ?_) AllReadyH.nil; go_simp)
  go_wp2_with (fail)
  refine HC.out.mono ?_
  rintro e w4 ⟨v, hp, hi4⟩
  have HI4 := Lib.hid hi4
  clear hi4
  have HPP := Lib.hid hp
  have htt : Turned H.F W1 w4 := (Turned.of_below (F := H.F) (Below.drew (Below.refl _ W1)) (Nat.le_refl _)).trans (by obtain ⟨-, H', -, -, -, t⟩ := hp; exact t) (fun _ h _ => h)
  have hs4 := htt.size
  have hsW := HB1.out.size
  obtain ⟨rfl, -⟩ := hp
  (refine hK.out _ _ ⟨turned_cell htt HOFF.out.1 x1, turned_cell htt HOFF.out.2 q1, turned_cell htt HOFF.out.2 q2, turned_cell htt HOFF.out.2 q3, turned_cell htt HOFF.out.2 q4⟩ (fun hHeld => ?_); clear hK K hHeld0; (try simp only [Act.put, List.setIfInBounds_toArray, List.set_cons_zero, List.set_cons_succ, List.getElem_toArray, List.getElem_cons_zero, List.getElem_cons_succ]))
  clear htt x1 q0 q1 q2 q3 q4
  (refine wpAnyH_take (i := 9) (v := ?_) rfl (by kernel_rfl) (by kernel_rfl) (by kernel_rfl) (fun _ _ _ h => h) (Or.inl ⟨by rfl, ?_⟩) (by assumption) ?_; rotate_left; focus (intro w hSw; (try dsimp only at hSw); go_simp; first | done | with_reducible rfl); (try simp only [Act.put, List.setIfInBounds_toArray, List.set_cons_zero, List.set_cons_succ, List.getElem_toArray, List.getElem_cons_zero, List.getElem_cons_succ]))
  (refine wpAnyH_take (i := 10) (v := ?_) rfl (by kernel_rfl) (by kernel_rfl) (by kernel_rfl) (fun _ _ _ h => h) (Or.inl ⟨by rfl, ?_⟩) (by assumption) ?_; rotate_left; focus (intro w hSw; (try dsimp only at hSw); go_simp; first | done | with_reducible rfl); (try simp only [Act.put, List.setIfInBounds_toArray, List.set_cons_zero, List.set_cons_succ, List.getElem_toArray, List.getElem_cons_zero, List.getElem_cons_succ]))
  (refine wpAnyH_take (i := 11) (v := ?_) rfl (by kernel_rfl) (by kernel_rfl) (by kernel_rfl) (fun _ _ _ h => h) (Or.inl ⟨by rfl, ?_⟩) (by assumption) ?_; rotate_left; focus (intro w hSw; (try dsimp only at hSw); go_simp; first | done | with_reducible rfl); (try simp only [Act.put, List.setIfInBounds_toArray, List.set_cons_zero, List.set_cons_succ, List.getElem_toArray, List.getElem_cons_zero, List.getElem_cons_succ]))
  (refine wpAnyH_take (i := 12) (v := ?_) rfl (by kernel_rfl) (by kernel_rfl) (by kernel_rfl) (fun _ _ _ h => h) (Or.inl ⟨by rfl, ?_⟩) (by assumption) ?_; rotate_left; focus (intro w hSw; (try dsimp only at hSw); go_simp; first | done | with_reducible rfl); (try simp only [Act.put, List.setIfInBounds_toArray, List.set_cons_zero, List.set_cons_succ, List.getElem_toArray, List.getElem_cons_zero, List.getElem_cons_succ]))
  refine wpAnyH_done (by kernel_rfl) ?_ _
  clear hHeld
  go_wp2
  go_ret2
  exact DoPost.of HLT.out (Below.drew HB1.out) HPP.out (Below.refl _ _) rfl (HI4.out.mono (show w.heap.size ≤ W1.heap.size from hsW))

end Go.Proofs.YtlljejmblmjjnaaGreat

/- The law's Great and quiet. -/
namespace Go.Proofs.YtlljejmblmjjnaaGreat
set_option linter.unusedVariables false
set_option linter.unusedSimpArgs false
open Go.RowKit Go.ChangeMaps

structure CallM where
  what : Int
  cls : Int
  at_ : Int
  n : Int
  pg : Int
  p : Option Addr
  len : Nat
  cap : Nat
def callV (c : CallM) : List Value := [.int .i64 c.what, .int .i64 c.cls, .int .i64 c.at_, .int .i64 c.n, .int .i64 c.pg, .slice c.p c.len c.cap]
def callA (c : CallM) : Value := .agg #[.int .i64 c.what, .int .i64 c.cls, .int .i64 c.at_, .int .i64 c.n, .int .i64 c.pg, .slice c.p c.len c.cap]
structure CallOk (c : CallM) : Prop where
  n : c.n < 2 ^ 63
  len : c.len ≤ maxLen
def CallsAt (w : World) (pv : Option Addr) (cs : List CallM) : Prop :=
  ∀ i (h : i < cs.length), ∃ g o, pv = some ⟨g, o, none⟩ ∧ ∀ j v, (callV cs[i])[j]? = some v → w.cell? ⟨g, o + i * 6 + j, none⟩ = some v
theorem CallsAt.below {w W : World} {pv : Option Addr} {cs : List CallM} (h : CallsAt w pv cs) (hb : Below w.heap.size w W) : CallsAt W pv cs := by
  intro i hi
  obtain ⟨g, o, e, hc⟩ := h i hi
  exact ⟨g, o, e, fun j v hv => cell_past hb (cell_lt (hc j v hv)) (hc j v hv)⟩

def doP (s : HP) (c : CallM) : (List Int × Int) × HP :=
  if c.what = 0 then (([(takeP s c.cls).1.1], (takeP s c.cls).1.2), (takeP s c.cls).2)
  else if c.what = 1 then (([], (giveP s c.at_).1), (giveP s c.at_).2)
  else if c.what = 2 then someP s c.cls c.n
  else if c.what = 3 then (([], (sealP s c.pg).1), (sealP s c.pg).2)
  else if c.what = 4 then (([], (unsealP s c.pg).1), (unsealP s c.pg).2)
  else (([], 0), s)
theorem someP_good {pages : Nat} {s : HP} (h : HGood pages s) (cls n : Int) : HGood pages (someP s cls n).2 := by
  unfold someP
  split
  · exact some_good _ _ _ _ h
  · exact h
theorem doP_good {pages : Nat} {s : HP} (h : HGood pages s) (c : CallM) : HGood pages (doP s c).2 := by
  unfold doP
  split
  · exact take_good h _
  · split
    · exact give_good h _
    · split
      · exact someP_good h _ _
      · split
        · exact (seal_good h _).1
        · split
          · exact (unseal_good h _).1
          · exact h
theorem do_any {w : World} {x : Nat} {H : HL} {pages : Nat} {s : HP} (h : WorldAt w x H pages s) (hg : HGood pages s) (c : CallM) (hc : CallOk c) (h0 : 0 ≤ c.what) (h5 : c.what < 5) :
    Calls Tryz.prog 12 #[.pointer (some ⟨x, 0, none⟩), callA c] w (DoPost w x H pages s (doP s c).2 (doP s c).1.1 (doP s c).1.2) := by
  obtain ⟨what, cls, at_, n, pg, p, len, cap⟩ := c
  unfold callA doP
  simp only at h0 h5 ⊢
  obtain rfl | rfl | rfl | rfl | rfl : what = 0 ∨ what = 1 ∨ what = 2 ∨ what = 3 ∨ what = 4 := by omega
  · exact do0_any h cls at_ n pg _
  · exact do1_any h cls at_ n pg _
  · exact do2_any h hg cls at_ n pg hc.n _
  · exact do3_any h cls at_ n pg _
  · exact do4_any h cls at_ n pg _

def greatB (n : Int) (cs : List CallM) : Bool := decide (40 < n) || decide (40 < cs.length) || cs.any fun c => decide (1000 < c.len)

set_option maxRecDepth 8000 in
set_option maxHeartbeats 2000000 in
theorem great_any (n : Int) (cs : List CallM) (pv : Option Addr) (cap : Nat) (w : World) (h : CallsAt w pv cs) :
    Calls Tryz.prog 9 #[.int .i64 n, .slice pv cs.length cap] w fun e w' => e = .returned (.bool (greatB n cs)) ∧ w = w' := by
  have HC := Lib.hid h
  clear h
  by_cases h1 : 40 < n
  · have HR : Hid (greatB n cs = true) := by show _ = _; unfold greatB; simp [h1]
    go_enter Tryz.func9, Tryz.ntmps9
    go_wp2
    go_ret
    exact ⟨by rw [HR.out]; rfl, rfl⟩
  · by_cases h2 : 40 < cs.length
    · have HR : Hid (greatB n cs = true) := by show _ = _; unfold greatB; simp [h2]
      have h3 : (40 : Int) < cs.length := by omega
      go_enter Tryz.func9, Tryz.ntmps9
      go_wp2
      go_ret
      exact ⟨by rw [HR.out]; rfl, rfl⟩
    · have h3 : ¬ (40 : Int) < cs.length := by omega
      have HB : Hid (greatB n cs = cs.any fun c => decide (1000 < c.len)) := by show _ = _; unfold greatB; simp [h1, h2]
      go_enter Tryz.func9, Tryz.ntmps9
      go_wp2
      go_loopw [5] (fun i wr => ∃ k : Nat, i = .int .i64 k ∧ k ≤ cs.length ∧ (∀ j (hj : j < cs.length), j < k → ¬ 1000 < cs[j].len) ∧ w = wr) (fun i _ => cs.length - numOf i)
      case atStart => exact ⟨0, rfl, Nat.zero_le _, fun j _ hj => absurd hj (Nat.not_lt_zero j), rfl⟩
      case round =>
        obtain ⟨k, rfl, hk, hall, rfl⟩ := hrel
        by_cases hlt : k < cs.length
        · obtain ⟨g, o, rfl, hcell⟩ := HC.out k hlt
          have x5 : w.cell? ⟨g, o + k * 6 + 5, none⟩ = some (.slice cs[k].p cs[k].len cs[k].cap) := hcell 5 _ rfl
          have hi1 : (0 : Int) ≤ (k : Int) ∧ (k : Int) < cs.length := by omega
          have hkw : IntKind.i64.wrap ((k : Int) + 1) = (k : Int) + 1 := by rw [IntKind.wrap_i64]; omega
          have HALL := Lib.hid hall
          by_cases hbig : 1000 < cs[k].len
          · have HR : Hid (greatB n cs = true) := by
              show _ = _
              rw [HB.out, List.any_eq_true]
              exact ⟨cs[k], List.getElem_mem hlt, decide_eq_true hbig⟩
            have hb2 : (1000 : Int) < cs[k].len := by omega
            clear hcell hall hbig
            generalize cs[k].len = ln at *
            go_wp2
            go_ret
            exact ⟨by rw [HR.out]; rfl, rfl⟩
          · have HBG := Lib.hid hbig
            have hb2 : ¬ (1000 : Int) < cs[k].len := by omega
            clear hcell hall hbig
            generalize hln : cs[k].len = ln at *
            have HLN := Lib.hid hln
            clear hln
            go_wp2
            go_roundw
            case rel =>
              refine ⟨k + 1, by go_num, hlt, fun j hj hjk => ?_, by trivial⟩
              by_cases e : j = k
              · subst e; rw [HLN.out]; exact HBG.out
              · exact HALL.out j hj (by omega)
            case measure => simp [numOf]; omega
        · have HR : Hid (greatB n cs = false) := by
            show _ = _
            rw [HB.out, List.any_eq_false]
            intro c hc
            obtain ⟨j, hj, rfl⟩ := List.mem_iff_getElem.1 hc
            simpa using hall j hj (by omega)
          clear hall
          go_wp2
          go_ret
          exact ⟨by rw [HR.out]; rfl, rfl⟩

end Go.Proofs.YtlljejmblmjjnaaGreat

/- The law's quiet. -/
namespace Go.Proofs.YtlljejmblmjjnaaGreat
set_option linter.unusedVariables false
set_option linter.unusedSimpArgs false
open Go.RowKit Go.ChangeMaps

def s0 (pages : Nat) : HP := ⟨initR pages, []⟩
def foldP (s : HP) (cs : List CallM) : HP := cs.foldl (fun s c => (doP s c).2) s
theorem foldP_succ {s : HP} {cs : List CallM} {k : Nat} (hk : k < cs.length) : foldP s (cs.take (k + 1)) = (doP (foldP s (cs.take k)) cs[k]).2 := by
  unfold foldP
  rw [List.take_succ_eq_append_getElem hk, List.foldl_append]
  rfl
theorem doP_out {s : HP} {c : CallM} (h : ¬ (0 ≤ c.what ∧ c.what < 5)) : (doP s c).2 = s := by
  unfold doP
  rw [if_neg (by omega), if_neg (by omega), if_neg (by omega), if_neg (by omega), if_neg (by omega)]
structure QuietI (w wr : World) (x : Nat) (H : HL) (pages : Nat) (s : HP) : Prop where
  at_ : WorldAt wr x H pages s
  good : HGood pages s
  left : H.left = 0
  foot : ∀ k, H.F k → w.heap.size ≤ k
  x : w.heap.size ≤ x
  below : Below w.heap.size w wr
def QuietPost (w : World) (pages : Nat) (s : HP) (e : Ending) (w' : World) : Prop := ∃ x H, e = .returned (.pointer (some ⟨x, 0, none⟩)) ∧ QuietI w w' x H pages s
theorem QuietI.below' {w w1 w2 : World} {x : Nat} {H : HL} {pages : Nat} {s : HP} (h : QuietI w w1 x H pages s) (hb : Below w1.heap.size w1 w2) : QuietI w w2 x H pages s :=
  ⟨h.at_.below hb, h.good, h.left, h.foot, h.x, Below.via hb h.below.size h.below⟩
theorem QuietI.next {w w1 w2 : World} {x : Nat} {H H' : HL} {pages : Nat} {s s' : HP} (h : QuietI w w1 x H pages s) (ha : WorldAt w2 x H' pages s') (hg : HGood pages s') (hl : H'.left = H.left) (ho : H.Of H' s s' w1.heap.size) (ht : Turned H.F w1 w2) : QuietI w w2 x H' pages s' :=
  ⟨ha, hg, hl.trans h.left, fun k hk => (ho.foot k hk).elim (h.foot k) (fun e => Nat.le_trans h.below.size e), h.x, h.below.trans (ht.below (B := w.heap.size) h.foot h.below.size)⟩

set_option maxRecDepth 8000 in
set_option maxHeartbeats 2000000 in
theorem quiet_no (n : Int) (hn : n < 0) (pv : Option Addr) (len cap : Nat) (w : World) : Calls Tryz.prog 10 #[.int .i64 n, .slice pv len cap] w fun e w' => e = .returned (.pointer none) ∧ Below w.heap.size w w' := by
  have HB := Lib.hid (begin_no n hn w)
  clear hn
  go_enter Tryz.func10, Tryz.ntmps10
  go_wp2_with (fail)
  refine HB.out.mono ?_
  rintro e w1 ⟨rfl, hb⟩
  have HB1 := Lib.hid hb
  clear hb
  go_wp2
  go_ret
  exact ⟨rfl, HB1.out⟩

set_option maxRecDepth 8000 in
set_option maxHeartbeats 4000000 in
theorem quiet_yes (pages : Nat) (hp : pages ≤ 64) (cs : List CallM) (hcs : ∀ c ∈ cs, CallOk c) (hlen : cs.length ≤ 1000000) (pv : Option Addr) (cap : Nat) (w : World) (h : CallsAt w pv cs) :
    Calls Tryz.prog 10 #[.int .i64 pages, .slice pv cs.length cap] w (QuietPost w pages (foldP (s0 pages) cs)) := by
  have HB := Lib.hid (begin_yes pages hp w)
  have HC := Lib.hid h
  have HOK := Lib.hid hcs
  clear h hcs
  go_enter Tryz.func10, Tryz.ntmps10
  go_wp2_with (fail)
  refine HB.out.mono ?_
  rintro e w1 ⟨x, y, H, rfl, hA, hl, hF, hx, hb⟩
  have HI0 : Hid (QuietI w w1 x H pages (s0 pages)) := ⟨hA, init_good pages hA.heap.inv.tile, hl, hF, hx, hb⟩
  clear hA hl hF hx hb
  go_wp2
  go_loopw [7] (fun i wr => ∃ (k : Nat) (H1 : HL), i = .int .i64 k ∧ k ≤ cs.length ∧ QuietI w wr x H1 pages (foldP (s0 pages) (cs.take k))) (fun i _ => cs.length - numOf i)
  case atStart => exact ⟨0, H, rfl, Nat.zero_le _, HI0.out⟩
  case round =>
    obtain ⟨k, H1, rfl, hk, hI⟩ := hrel
    have HI := Lib.hid hI
    by_cases hlt : k < cs.length
    · obtain ⟨g, o, rfl, hcell⟩ := HC.out k hlt
      have hin : ∀ j v, (callV cs[k])[j]? = some v → wr.cell? ⟨g, o + k * 6 + j, none⟩ = some v := fun j v hv => cell_past hI.below (cell_lt (hcell j v hv)) (hcell j v hv)
      have x0 : wr.cell? ⟨g, o + k * 6, none⟩ = some (.int .i64 cs[k].what) := hin 0 _ rfl
      have x1 : wr.cell? ⟨g, o + k * 6 + 1, none⟩ = some (.int .i64 cs[k].cls) := hin 1 _ rfl
      have x2 : wr.cell? ⟨g, o + k * 6 + 2, none⟩ = some (.int .i64 cs[k].at_) := hin 2 _ rfl
      have x3 : wr.cell? ⟨g, o + k * 6 + 3, none⟩ = some (.int .i64 cs[k].n) := hin 3 _ rfl
      have x4 : wr.cell? ⟨g, o + k * 6 + 4, none⟩ = some (.int .i64 cs[k].pg) := hin 4 _ rfl
      have x5 : wr.cell? ⟨g, o + k * 6 + 5, none⟩ = some (.slice cs[k].p cs[k].len cs[k].cap) := hin 5 _ rfl
      have hi1 : (0 : Int) ≤ (k : Int) ∧ (k : Int) < cs.length := by omega
      have hkw : IntKind.i64.wrap ((k : Int) + 1) = (k : Int) + 1 := by rw [IntKind.wrap_i64]; omega
      have HST := Lib.hid (foldP_succ (s := s0 pages) hlt)
      have hok := HOK.out _ (List.getElem_mem hlt)
      by_cases hw : 0 ≤ cs[k].what ∧ cs[k].what < 5
      · have HD : Hid (Calls Tryz.prog 12 #[.pointer (some ⟨x, 0, none⟩), .agg #[.int .i64 cs[k].what, .int .i64 cs[k].cls, .int .i64 cs[k].at_, .int .i64 cs[k].n, .int .i64 cs[k].pg, .slice cs[k].p cs[k].len cs[k].cap]] wr (DoPost wr x H1 pages (foldP (s0 pages) (cs.take k)) (doP (foldP (s0 pages) (cs.take k)) cs[k]).2 (doP (foldP (s0 pages) (cs.take k)) cs[k]).1.1 (doP (foldP (s0 pages) (cs.take k)) cs[k]).1.2)) :=
          do_any hI.at_ hI.good cs[k] hok hw.1 hw.2
        have HGD := Lib.hid (doP_good hI.good cs[k])
        obtain ⟨hw1, hw2⟩ := hw
        clear hcell hin hI hok
        generalize hck : cs[k] = c at *
        clear hck
        obtain ⟨what, cls, at_, n, pg, p, len, cp⟩ := c
        simp only at x0 x1 x2 x3 x4 x5 hw1 hw2 HD
        go_wp2_with (fail)
        refine HD.out.mono ?_
        rintro e w2 ⟨v, H2, rfl, -, q2, q3, q4, q5⟩
        have HI2 : Hid (QuietI w w2 x H2 pages (foldP (s0 pages) (cs.take (k + 1)))) := by
          show QuietI _ _ _ _ _ _
          rw [HST.out]
          exact HI.out.next q2 HGD.out q3 q4 q5
        clear q2 q3 q4 q5 x0 x1 x2 x3 x4 x5
        go_wp2
        go_roundw
        case rel => exact ⟨k + 1, H2, by go_num, hlt, HI2.out⟩
        case measure => simp [numOf]; omega
      · have HI2 : Hid (QuietI w wr x H1 pages (foldP (s0 pages) (cs.take (k + 1)))) := by
          show QuietI _ _ _ _ _ _
          rw [HST.out, doP_out hw]
          exact HI.out
        by_cases hw0 : 0 ≤ cs[k].what
        · have hw1 : ¬ cs[k].what < 5 := fun e => hw ⟨hw0, e⟩
          clear hcell hin hI hok hw x1 x2 x3 x4 x5
          generalize cs[k].what = wh at *
          go_wp2
          go_roundw
          case rel => exact ⟨k + 1, H1, by go_num, hlt, HI2.out⟩
          case measure => simp [numOf]; omega
        · clear hcell hin hI hok hw x1 x2 x3 x4 x5
          generalize cs[k].what = wh at *
          go_wp2
          go_roundw
          case rel => exact ⟨k + 1, H1, by go_num, hlt, HI2.out⟩
          case measure => simp [numOf]; omega
    · obtain rfl : k = cs.length := by omega
      clear hI
      go_wp2
      go_ret
      have := HI.out
      rw [List.take_length] at this
      exact ⟨x, H1, rfl, this⟩

end Go.Proofs.YtlljejmblmjjnaaGreat
