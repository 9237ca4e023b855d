/- op, answer: what the references are handed. -/
import Derived.Test.YtgcnbiccekaffaaGreatCb
import Derived.StillTailTactics
import Derived.Laws.Tables
import Derived.Laws.Rows
namespace Go.Proofs.YtgcnbiccekaffaaGreat
open Go.RowKit Go.ChangeMaps

def opR (o : OpA) (p : Option Addr) (q : Nat) : Array Value := #[.int .i64 o.k, .int .u64 o.a, .int .u64 o.b, .int .i64 o.at_, .int .i64 o.fr, .int .i64 o.n, .slice p o.data.length q]
def ansR (x : AnsA) (p : Option Addr) (q : Nat) : Array Value := #[.int .i64 x.err, .int .i64 x.at_, .int .i64 x.n, .int .i64 x.count, .slice p x.data.length q]

theorem opR_size : (Tryz.prog.info? 43).map (·.size) = some 7 := by kernel_rfl
theorem ansR_size : (Tryz.prog.info? 45).map (·.size) = some 5 := by kernel_rfl
theorem opR_one (o : OpA) (p : Option Addr) (q : Nat) : (opR o p q).all (·.oneCell') = true := all_oneCell_toArray (by
  intro v hv
  simp only [List.mem_cons, List.not_mem_nil, or_false] at hv
  rcases hv with rfl | rfl | rfl | rfl | rfl | rfl | rfl <;> rfl)
theorem ansR_one (x : AnsA) (p : Option Addr) (q : Nat) : (ansR x p q).all (·.oneCell') = true := all_oneCell_toArray (by
  intro v hv
  simp only [List.mem_cons, List.not_mem_nil, or_false] at hv
  rcases hv with rfl | rfl | rfl | rfl | rfl <;> rfl)

/-- Bytes in memory of one's own. -/
def OwnB (w w' : World) (p : Option Addr) (ds : List Int) : Prop := BytesIn w' p ds ∧ ∀ b o, p = some ⟨b, o, none⟩ → w.heap.size ≤ b ∧ ∃ cur, w'.heap[b]? = some (.cells cur 5 (0, 0))

theorem OwnB.of_row {w w' : World} {p : Option Addr} {q : Nat} {ds : List Int} (h : w'.ownsRow w.heap.size 5 1 (.slice p ds.length q) ds.length (ds.map byteV)) : OwnB w w' p ds := by
  refine ⟨bytes_own rfl h, fun b o e => ?_⟩
  subst e
  rcases h.2 with ⟨h0, _⟩ | ⟨g, cap, cur, h0, hb, hg, _⟩
  · simp at h0
  · cases h0
    exact ⟨hb, cur, hg⟩

theorem OwnB.turned {w w' W : World} {p : Option Addr} {ds : List Int} {g : Nat} (h : OwnB w w' p ds) (t : Turned (fun j => j = g) w' W) (hg : g < w.heap.size) : OwnB w W p ds :=
  ⟨turned_bytes t h.1 (fun _ b o e hb => by have := (h.2 b o e).1; omega), fun b o e => by
    obtain ⟨h1, cur, h2⟩ := h.2 b o e
    exact ⟨h1, cur, (t.block b (lt_of_block h2) (by omega)).trans h2⟩⟩

theorem OwnB.mono {w0 w w' : World} {p : Option Addr} {ds : List Int} (h : OwnB w w' p ds) (hs : w0.heap.size ≤ w.heap.size) : OwnB w0 w' p ds :=
  ⟨h.1, fun b o e => ⟨Nat.le_trans hs (h.2 b o e).1, (h.2 b o e).2⟩⟩

theorem OwnB.below {w w' W : World} {p : Option Addr} {ds : List Int} (h : OwnB w w' p ds) (hb : Below w'.heap.size w' W) : OwnB w W p ds :=
  ⟨h.1.below hb, fun b o e => by
    obtain ⟨h1, cur, h2⟩ := h.2 b o e
    exact ⟨h1, cur, (hb.block b (lt_of_block h2)).trans h2⟩⟩

def OfOpPost (w : World) (o : OpA) (e : Ending) (w' : World) : Prop := ∃ p q, e = .returned (.agg (opR o p q)) ∧ OwnB w w' p o.data ∧ Below w.heap.size w w'
def OfAnsPost (w : World) (x : AnsA) (e : Ending) (w' : World) : Prop := ∃ p q, e = .returned (.agg (ansR x p q)) ∧ OwnB w w' p x.data ∧ Below w.heap.size w w'

theorem turned_set {g : Nat} {a w : World} (h : Turned (fun j => j = g) a w) (i : Nat) (u : Value) : Turned (fun j => j = g) a (w.setCell ⟨g, i, none⟩ u) :=
  Turned.setCell (F := fun j => j = g) (p := ⟨g, i, none⟩) h (.inl rfl) u

set_option maxRecDepth 100000 in
set_option maxHeartbeats 1000000 in
theorem of24_any (w : World) (o : OpA) (p : Option Addr) (q : Nat) (h : BytesIn w p o.data) (hl : o.data.length ≤ 140737488355328) (hn : p = none → q = 0) :
    Calls Tryz.prog 31 #[.agg (opR o p q)] w (OfOpPost w o) := by
  unfold opR
  have hcopy := Lib.hid (fun W (hb : Below w.heap.size w W) => copy_any W p q o.data (h.below hb) hl hn)
  clear h hl hn
  go_enter Tryz.func31, Tryz.ntmps31
  go_wp2
  obtain ⟨W1, hW1⟩ : ∃ W1, W1 = (w.alloc (.cells #[.int .i64 o.k, .int .u64 o.a, .int .u64 o.b, .int .i64 o.at_, .int .i64 o.fr, .int .i64 o.n, .slice p o.data.length q] 36)).alloc (.cells #[.int .i64 0, .int .u64 0, .int .u64 0, .int .i64 0, .int .i64 0, .int .i64 0, .slice none 0 0] 43) := ⟨_, rfl⟩
  have hb1 : Below w.heap.size w W1 := by rw [hW1]; exact (by repeat (first | exact Below.refl _ _ | assumption | refine Below.alloc ?_ (by first | omega | (simp <;> omega)) _ | refine Below.drew ?_ | refine Below.setCell ?_ (by first | omega | (simp <;> omega)) _ | refine Below.via (by assumption) (by first | omega | (simp <;> omega)) ?_))
  have hbx : W1.heap[w.heap.size]? = some (.cells #[.int .i64 o.k, .int .u64 o.a, .int .u64 o.b, .int .i64 o.at_, .int .i64 o.fr, .int .i64 o.n, .slice p o.data.length q] 36) := by rw [hW1]; exact heap_alloc2_old _ _ _
  have hres : W1.heap[w.heap.size + 1]? = some (.cells #[.int .i64 0, .int .u64 0, .int .u64 0, .int .i64 0, .int .i64 0, .int .i64 0, .slice none 0 0] 43) := by rw [hW1]; exact heap_alloc2_new _ _ _
  rw [show (w.alloc (.cells #[.int .i64 o.k, .int .u64 o.a, .int .u64 o.b, .int .i64 o.at_, .int .i64 o.fr, .int .i64 o.n, .slice p o.data.length q] 36)).alloc (.cells #[.int .i64 0, .int .u64 0, .int .u64 0, .int .i64 0, .int .i64 0, .int .i64 0, .slice none 0 0] 43) = W1 from hW1.symm]
  clear hW1
  have x0 : W1.cell? ⟨w.heap.size, 0, none⟩ = some (.int .i64 o.k) := by rw [cell_of_block hbx]; rfl
  have x1 : W1.cell? ⟨w.heap.size, 1, none⟩ = some (.int .u64 o.a) := by rw [cell_of_block hbx]; rfl
  have x2 : W1.cell? ⟨w.heap.size, 2, none⟩ = some (.int .u64 o.b) := by rw [cell_of_block hbx]; rfl
  have x3 : W1.cell? ⟨w.heap.size, 3, none⟩ = some (.int .i64 o.at_) := by rw [cell_of_block hbx]; rfl
  have x4 : W1.cell? ⟨w.heap.size, 4, none⟩ = some (.int .i64 o.fr) := by rw [cell_of_block hbx]; rfl
  have x5 : W1.cell? ⟨w.heap.size, 5, none⟩ = some (.int .i64 o.n) := by rw [cell_of_block hbx]; rfl
  have x6 : W1.cell? ⟨w.heap.size, 6, none⟩ = some (.slice p o.data.length q) := by rw [cell_of_block hbx]; rfl
  have HB1 := Lib.hid hb1
  have HRES := Lib.hid hres
  have hlx := lt_of_block hres
  have hcall := Lib.hid (hcopy.out W1.drew (Below.drew hb1))
  clear hb1 hbx hres hcopy
  go_region_held3 (fun W : World => W.cell? ⟨w.heap.size, 0, none⟩ = some (.int .i64 o.k) ∧ W.cell? ⟨w.heap.size, 1, none⟩ = some (.int .u64 o.a) ∧ W.cell? ⟨w.heap.size, 2, none⟩ = some (.int .u64 o.b) ∧ W.cell? ⟨w.heap.size, 3, none⟩ = some (.int .i64 o.at_) ∧ W.cell? ⟨w.heap.size, 4, none⟩ = some (.int .i64 o.fr) ∧ W.cell? ⟨w.heap.size, 5, none⟩ = some (.int .i64 o.n) ∧ W.cell? ⟨w.heap.size, 6, none⟩ = some (.slice p o.data.length q)) (go_keep)
    ((go_at_call 32; refine hcall.out.mono ?_; rintro e w2 ⟨p2, q2, rfl, hrow2, hin2, hb2⟩; have k0 := cell_past hb2 (cell_lt x0) x0; have k1 := cell_past hb2 (cell_lt x1) x1; have k2 := cell_past hb2 (cell_lt x2) x2; have k3 := cell_past hb2 (cell_lt x3) x3; have k4 := cell_past hb2 (cell_lt x4) x4; have k5 := cell_past hb2 (cell_lt x5) x5; have k6 := cell_past hb2 (cell_lt x6) x6;
      have HR2 := Lib.hid ((hb2.block _ hlx).trans HRES.out); have HO2 := Lib.hid (OwnB.of_row hrow2); have HB2 := Lib.hid hb2;
      have f0 := cell_of_block HR2.out 0; have f1 := cell_of_block HR2.out 1; have f2 := cell_of_block HR2.out 2; have f3 := cell_of_block HR2.out 3; have f4 := cell_of_block HR2.out 4; have f5 := cell_of_block HR2.out 5; have f6 := cell_of_block HR2.out 6;
      have r0 := frozen_of_block HR2.out 0; have r1 := frozen_of_block HR2.out 1; have r2 := frozen_of_block HR2.out 2; have r3 := frozen_of_block HR2.out 3; have r4 := frozen_of_block HR2.out 4; have r5 := frozen_of_block HR2.out 5; have r6 := frozen_of_block HR2.out 6;
      clear hrow2 hin2 hb2))
  obtain ⟨W3, hW3⟩ : ∃ W3, W3 = (((((((w2.setCell ⟨w.heap.size + 1, 0, none⟩ (.int .i64 o.k)).setCell ⟨w.heap.size + 1, 1, none⟩ (.int .u64 o.a)).setCell ⟨w.heap.size + 1, 2, none⟩ (.int .u64 o.b)).setCell ⟨w.heap.size + 1, 3, none⟩ (.int .i64 o.at_)).setCell ⟨w.heap.size + 1, 4, none⟩ (.int .i64 o.fr)).setCell ⟨w.heap.size + 1, 5, none⟩ (.int .i64 o.n)).setCell ⟨w.heap.size + 1, 6, none⟩ (.slice p2 o.data.length q2)) := ⟨_, rfl⟩
  have hg3 : W3.heap[w.heap.size + 1]? = some (.cells (opR o p2 q2) 43 (0, 0)) := by
    rw [hW3]
    exact heap_setCell_eq (heap_setCell_eq (heap_setCell_eq (heap_setCell_eq (heap_setCell_eq (heap_setCell_eq (heap_setCell_eq HR2.out _) _) _) _) _) _) _
  have ht3 : Turned (fun j => j = w.heap.size + 1) w2 W3 := by
    rw [hW3]
    exact turned_set (turned_set (turned_set (turned_set (turned_set (turned_set (turned_set (Turned.refl _ _) _ _) _ _) _ _) _ _) _ _) _ _) _ _
  rw [← hW3]
  clear hW3 f0 f1 f2 f3 f4 f5 f6 r0 r1 r2 r3 r4 r5 r6 k0 k1 k2 k3 k4 k5 k6 x0 x1 x2 x3 x4 x5 x6
  have HG3 := Lib.hid hg3
  have HT3 := Lib.hid ht3
  clear hg3 ht3
  go_wp2
  have hs1 : w.heap.size + 1 < w2.heap.size := Nat.lt_of_lt_of_le hlx HB2.out.size
  refine bodyPost_ret (results_cell_row rfl _ _ (w.heap.size + 1) 43 (opR o p2 q2) (0, 0) _ rfl HG3.out Tryz.underlying43 rfl opR_size) rfl ⟨p2, q2, rfl, (HO2.out.turned HT3.out hlx).mono (Nat.le_trans (by omega) (Nat.le_of_lt hlx)), ?_⟩
  · exact (HB1.out.drew.trans (HB2.out.mono (Nat.le_trans (by omega) hlx))).trans (HT3.out.below (fun x hx => by omega) (by omega))

set_option maxRecDepth 100000 in
set_option maxHeartbeats 1000000 in
theorem op_any (w : World) (o : OpA) (p : Option Addr) (q : Nat) (h : BytesIn w p o.data) (hl : o.data.length ≤ 140737488355328) (hn : p = none → q = 0) :
    Calls Tryz.prog 12 #[.agg (opR o p q)] w (OfOpPost w o) := by
  unfold opR
  have hcall := Lib.hid (fun W (hb : Below w.heap.size w W) => of24_any W o p q (h.below hb) hl hn)
  clear h hl hn
  go_enter Tryz.func12, Tryz.ntmps12
  go_wp2_with (fail)
  obtain ⟨W1, hW1⟩ : ∃ W1, W1 = (w.alloc (.cells #[.int .i64 o.k, .int .u64 o.a, .int .u64 o.b, .int .i64 o.at_, .int .i64 o.fr, .int .i64 o.n, .slice p o.data.length q] 36)).alloc (.cells #[.int .i64 0, .int .u64 0, .int .u64 0, .int .i64 0, .int .i64 0, .int .i64 0, .slice none 0 0] 43) := ⟨_, rfl⟩
  have hb1 : Below w.heap.size w W1 := by rw [hW1]; exact (by repeat (first | exact Below.refl _ _ | assumption | refine Below.alloc ?_ (by first | omega | (simp <;> omega)) _ | refine Below.drew ?_ | refine Below.setCell ?_ (by first | omega | (simp <;> omega)) _ | refine Below.via (by assumption) (by first | omega | (simp <;> omega)) ?_))
  have hres : W1.heap[w.heap.size + 1]? = some (.cells #[.int .i64 0, .int .u64 0, .int .u64 0, .int .i64 0, .int .i64 0, .int .i64 0, .slice none 0 0] 43) := by rw [hW1]; exact heap_alloc2_new _ _ _
  rw [show (w.alloc (.cells #[.int .i64 o.k, .int .u64 o.a, .int .u64 o.b, .int .i64 o.at_, .int .i64 o.fr, .int .i64 o.n, .slice p o.data.length q] 36)).alloc (.cells #[.int .i64 0, .int .u64 0, .int .u64 0, .int .i64 0, .int .i64 0, .int .i64 0, .slice none 0 0] 43) = W1 from hW1.symm]
  clear hW1
  have hlx := lt_of_block hres
  refine (hcall.out W1 hb1).mono ?_
  rintro e w2 ⟨p2, q2, rfl, ho2, hb2⟩
  have HR2 := Lib.hid ((hb2.block _ hlx).trans hres)
  have HB1 := Lib.hid hb1
  have HB2 := Lib.hid hb2
  have HO2 := Lib.hid ho2
  clear hres hb1 hb2 ho2 hcall
  go_wp2_with (refine wpList_store_row rfl 43 _ _ rfl (w.heap.size + 1) (opR o p2 q2) rfl rfl 43 _ HR2.out (by rw [opR_size]; rfl) rfl (opR_one o p2 q2) ?_)
  have hs1 : w.heap.size + 1 < w2.heap.size := Nat.lt_of_lt_of_le hlx HB2.out.size
  have hg3 : (w2.setRow (w.heap.size + 1) (opR o p2 q2)).heap[w.heap.size + 1]? = some (.cells (opR o p2 q2) 43 (0, 0)) := setRow_eq HR2.out (opR o p2 q2)
  have ht3 : Turned (fun j => j = w.heap.size + 1) w2 (w2.setRow (w.heap.size + 1) (opR o p2 q2)) := ⟨rfl, rfl, rfl, by simp [World.setRow], fun k _ hk => setRow_ne _ _ _ _ hk⟩
  refine bodyPost_ret (results_cell_row rfl _ _ (w.heap.size + 1) 43 (opR o p2 q2) (0, 0) _ rfl hg3 Tryz.underlying43 rfl opR_size) rfl ⟨p2, q2, rfl, (HO2.out.turned ht3 hlx).mono (Nat.le_trans (by omega) (Nat.le_of_lt hlx)), ?_⟩
  · exact (HB1.out.trans (HB2.out.mono (Nat.le_trans (by omega) hlx))).trans (ht3.below (fun x hx => by omega) (by omega))

set_option maxRecDepth 100000 in
set_option maxHeartbeats 1000000 in
theorem answer_any (w : World) (x : AnsA) (p : Option Addr) (q : Nat) (h : BytesIn w p x.data) (hl : x.data.length ≤ 140737488355328) (hn : p = none → q = 0) :
    Calls Tryz.prog 13 #[.agg (ansR x p q)] w (OfAnsPost w x) := by
  unfold ansR
  have hcopy := Lib.hid (fun W (hb : Below w.heap.size w W) => copy_any W p q x.data (h.below hb) hl hn)
  clear h hl hn
  go_enter Tryz.func13, Tryz.ntmps13
  go_wp2
  obtain ⟨W1, hW1⟩ : ∃ W1, W1 = (w.alloc (.cells #[.int .i64 x.err, .int .i64 x.at_, .int .i64 x.n, .int .i64 x.count, .slice p x.data.length q] 38)).alloc (.cells #[.int .i64 0, .int .i64 0, .int .i64 0, .int .i64 0, .slice none 0 0] 45) := ⟨_, rfl⟩
  have hb1 : Below w.heap.size w W1 := by rw [hW1]; exact (by repeat (first | exact Below.refl _ _ | assumption | refine Below.alloc ?_ (by first | omega | (simp <;> omega)) _ | refine Below.drew ?_ | refine Below.setCell ?_ (by first | omega | (simp <;> omega)) _ | refine Below.via (by assumption) (by first | omega | (simp <;> omega)) ?_))
  have hbx : W1.heap[w.heap.size]? = some (.cells #[.int .i64 x.err, .int .i64 x.at_, .int .i64 x.n, .int .i64 x.count, .slice p x.data.length q] 38) := by rw [hW1]; exact heap_alloc2_old _ _ _
  have hres : W1.heap[w.heap.size + 1]? = some (.cells #[.int .i64 0, .int .i64 0, .int .i64 0, .int .i64 0, .slice none 0 0] 45) := by rw [hW1]; exact heap_alloc2_new _ _ _
  rw [show (w.alloc (.cells #[.int .i64 x.err, .int .i64 x.at_, .int .i64 x.n, .int .i64 x.count, .slice p x.data.length q] 38)).alloc (.cells #[.int .i64 0, .int .i64 0, .int .i64 0, .int .i64 0, .slice none 0 0] 45) = W1 from hW1.symm]
  clear hW1
  have x0 : W1.cell? ⟨w.heap.size, 0, none⟩ = some (.int .i64 x.err) := by rw [cell_of_block hbx]; rfl
  have x1 : W1.cell? ⟨w.heap.size, 1, none⟩ = some (.int .i64 x.at_) := by rw [cell_of_block hbx]; rfl
  have x2 : W1.cell? ⟨w.heap.size, 2, none⟩ = some (.int .i64 x.n) := by rw [cell_of_block hbx]; rfl
  have x3 : W1.cell? ⟨w.heap.size, 3, none⟩ = some (.int .i64 x.count) := by rw [cell_of_block hbx]; rfl
  have x4 : W1.cell? ⟨w.heap.size, 4, none⟩ = some (.slice p x.data.length q) := by rw [cell_of_block hbx]; rfl
  have HB1 := Lib.hid hb1
  have HRES := Lib.hid hres
  have hlx := lt_of_block hres
  have hcall := Lib.hid (hcopy.out W1.drew (Below.drew hb1))
  clear hb1 hbx hres hcopy
  go_region_held3 (fun W : World => W.cell? ⟨w.heap.size, 0, none⟩ = some (.int .i64 x.err) ∧ W.cell? ⟨w.heap.size, 1, none⟩ = some (.int .i64 x.at_) ∧ W.cell? ⟨w.heap.size, 2, none⟩ = some (.int .i64 x.n) ∧ W.cell? ⟨w.heap.size, 3, none⟩ = some (.int .i64 x.count) ∧ W.cell? ⟨w.heap.size, 4, none⟩ = some (.slice p x.data.length q)) (go_keep)
    ((go_at_call 32; refine hcall.out.mono ?_; rintro e w2 ⟨p2, q2, rfl, hrow2, hin2, hb2⟩; have k0 := cell_past hb2 (cell_lt x0) x0; have k1 := cell_past hb2 (cell_lt x1) x1; have k2 := cell_past hb2 (cell_lt x2) x2; have k3 := cell_past hb2 (cell_lt x3) x3; have k4 := cell_past hb2 (cell_lt x4) x4;
      have HR2 := Lib.hid ((hb2.block _ hlx).trans HRES.out); have HO2 := Lib.hid (OwnB.of_row hrow2); have HB2 := Lib.hid hb2;
      have f0 := cell_of_block HR2.out 0; have f1 := cell_of_block HR2.out 1; have f2 := cell_of_block HR2.out 2; have f3 := cell_of_block HR2.out 3; have f4 := cell_of_block HR2.out 4;
      have r0 := frozen_of_block HR2.out 0; have r1 := frozen_of_block HR2.out 1; have r2 := frozen_of_block HR2.out 2; have r3 := frozen_of_block HR2.out 3; have r4 := frozen_of_block HR2.out 4;
      clear hrow2 hin2 hb2))
  obtain ⟨W3, hW3⟩ : ∃ W3, W3 = (((((w2.setCell ⟨w.heap.size + 1, 0, none⟩ (.int .i64 x.err)).setCell ⟨w.heap.size + 1, 1, none⟩ (.int .i64 x.at_)).setCell ⟨w.heap.size + 1, 2, none⟩ (.int .i64 x.n)).setCell ⟨w.heap.size + 1, 3, none⟩ (.int .i64 x.count)).setCell ⟨w.heap.size + 1, 4, none⟩ (.slice p2 x.data.length q2)) := ⟨_, rfl⟩
  have hg3 : W3.heap[w.heap.size + 1]? = some (.cells (ansR x p2 q2) 45 (0, 0)) := by
    rw [hW3]
    exact heap_setCell_eq (heap_setCell_eq (heap_setCell_eq (heap_setCell_eq (heap_setCell_eq HR2.out _) _) _) _) _
  have ht3 : Turned (fun j => j = w.heap.size + 1) w2 W3 := by
    rw [hW3]
    exact turned_set (turned_set (turned_set (turned_set (turned_set (Turned.refl _ _) _ _) _ _) _ _) _ _) _ _
  rw [← hW3]
  clear hW3 f0 f1 f2 f3 f4 r0 r1 r2 r3 r4 k0 k1 k2 k3 k4 x0 x1 x2 x3 x4
  have HG3 := Lib.hid hg3
  have HT3 := Lib.hid ht3
  clear hg3 ht3
  go_wp2
  have hs1 : w.heap.size + 1 < w2.heap.size := Nat.lt_of_lt_of_le hlx HB2.out.size
  refine bodyPost_ret (results_cell_row rfl _ _ (w.heap.size + 1) 45 (ansR x p2 q2) (0, 0) _ rfl HG3.out Tryz.underlying45 rfl ansR_size) rfl ⟨p2, q2, rfl, (HO2.out.turned HT3.out hlx).mono (Nat.le_trans (by omega) (Nat.le_of_lt hlx)), ?_⟩
  · exact (HB1.out.drew.trans (HB2.out.mono (Nat.le_trans (by omega) hlx))).trans (HT3.out.below (fun x hx => by omega) (by omega))

end Go.Proofs.YtgcnbiccekaffaaGreat
