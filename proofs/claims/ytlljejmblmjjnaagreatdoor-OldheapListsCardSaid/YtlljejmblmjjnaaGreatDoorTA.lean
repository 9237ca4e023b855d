/- ground.New, newheap.New. -/
import Derived.Test.YtlljejmblmjjnaaGreatDoorKt
import Derived.WalkKit
import Derived.WalkSpells
import Derived.WalkLawsBesides
import Derived.BigQuiet
import Derived.Lib.Hide
import Derived.OrdersHeld
namespace Go.Proofs.YtlljejmblmjjnaaGreatDoor
set_option linter.unusedVariables false
set_option linter.unusedSimpArgs false
open Go.RowKit Go.ChangeMaps

def GNewPost (w : World) (pages : Nat) (e : Ending) (w' : World) : Prop :=
  ∃ gr cl cb p, e = .returned (.tuple #[.pointer (some ⟨gr, 0, none⟩), .int .i64 0]) ∧ GroundAt w' gr cl p pages (initR pages) (List.replicate 64 none) 0 0 0 ∧ CellsAt w' cl cb (List.replicate (256 * pages) 0) ∧ Below w.heap.size w w' ∧
    w.heap.size ≤ gr ∧ w.heap.size ≤ cl ∧ w.heap.size ≤ cb ∧ (∀ k, p.F k → w.heap.size ≤ k)

set_option maxRecDepth 8000 in
set_option maxHeartbeats 1000000 in
theorem gNew_no (n : Int) (hn : n < 0) (w : World) : Calls Tryz.prog 34 #[.int .i64 n] w fun e w' => e = .returned (.tuple #[.pointer none, .int .i64 11]) ∧ w = w' := by
  have HS := Lib.hid (spNew_no n hn w)
  clear hn
  go_enter Tryz.func34, Tryz.ntmps34
  go_wp2_with (fail)
  refine HS.out.mono ?_
  rintro e w1 ⟨rfl, rfl⟩
  go_wp2
  go_ret2
  exact ⟨rfl, rfl⟩

set_option maxRecDepth 8000 in
set_option maxHeartbeats 2000000 in
theorem gNew_yes (pages : Nat) (hp : pages ≤ 64) (w : World) : Calls Tryz.prog 34 #[.int .i64 pages] w (GNewPost w pages) := by
  have HS := Lib.hid (spNew_yes pages (by omega) w)
  go_enter Tryz.func34, Tryz.ntmps34
  go_wp2_with (fail)
  refine HS.out.mono ?_
  rintro e w1 ⟨sp, sv, rfl, hsp, hb1, h1, h2⟩
  have hs1 := hb1.size
  have HB1 := Lib.hid hb1
  have HSP := Lib.hid hsp
  have H1 := Lib.hid (And.intro h1 h2)
  clear hb1 hsp h1 h2
  go_upto_region 5 with (fail)
  obtain ⟨W2, hW2⟩ : ∃ W2, W2 = w1.alloc (.cells #[.pointer none, .pointer (some ⟨sp, 0, none⟩), .pointer none, .pointer none, .int .i64 pages] 97) := ⟨_, rfl⟩
  have HB2 : Hid (Below w1.heap.size w1 W2) := by rw [hW2]; exact (Below.refl _ _).alloc (Nat.le_refl _) _
  have HO2 : Hid (W2.heap[w1.heap.size]? = some (.cells #[.pointer none, .pointer (some ⟨sp, 0, none⟩), .pointer none, .pointer none, .int .i64 pages] 97 (0, 0))) := by rw [hW2]; exact heap_alloc_new _ _
  rw [← hW2]
  have hs2 : W2.heap.size = w1.heap.size + 1 := by rw [hW2]; simp
  clear hW2
  have hsh : IntKind.i64.wrap ((pages : Int) * 256) = (pages : Int) * 256 := wraps_i64 _ (by omega) (by omega)
  have HC : Hid (Calls Tryz.prog 73 #[.int .i64 ((pages : Int) * 256)] W2 (CellsNewPost W2 (256 * pages))) := by
    have := cellsNew_yes (256 * pages) W2 (by omega)
    rw [show ((256 * pages : Nat) : Int) = (pages : Int) * 256 by omega] at this
    exact this
  generalize hgr : w1.heap.size = gr at *
  go_wp2_with (fail)
  refine HC.out.mono ?_
  rintro e w3 ⟨rfl, hc3, hb3, hsz3⟩
  have hblk3 := (hb3.block _ (by omega)).trans HO2.out
  have g0 := cell_of_block hblk3 0
  have f0 := frozen_of_block hblk3 0
  have HBLK3 := Lib.hid hblk3
  have HC3 := Lib.hid hc3
  have HB3 := Lib.hid hb3
  have HTB3 : Hid (Turned (fun k => k = gr) W2 w3) := Turned.of_below hb3 (Nat.le_refl _)
  have HSZ : Hid (W2.heap.size = gr + 1 ∧ w3.heap.size = W2.heap.size + 2) := ⟨hs2, hsz3⟩
  clear hblk3 hc3 hb3 hs2 hsz3
  generalize W2.heap.size = cb at *
  go_upto_region 6 with (fail)
  obtain ⟨W4, hW4⟩ : ∃ W4, W4 = w3.setCell ⟨gr, 0, none⟩ (.pointer (some ⟨cb + 1, 0, none⟩)) := ⟨_, rfl⟩
  have HT4 : Hid (Turned (fun k => k = gr) w3 W4) := by rw [hW4]; exact (Turned.refl (fun k => k = gr) w3).setCell (.inl rfl) _
  have HBLK4 : Hid (W4.heap[gr]? = some (.cells #[.pointer (some ⟨cb + 1, 0, none⟩), .pointer (some ⟨sp, 0, none⟩), .pointer none, .pointer none, .int .i64 pages] 97 (0, 0))) := by
    show _ = _
    rw [hW4, heap_setCell_eq HBLK3.out]
    rfl
  have hs4 := HT4.out.size
  have HRX : Hid (Calls Tryz.prog 74 #[.int .i64 pages] W4 (RxNewPost W4 pages)) := rxNew_core pages _ rfl hp W4
  rw [← hW4]
  clear hW4 g0 f0
  go_wp2_with (fail)
  refine HRX.out.mono ?_
  rintro e w5 ⟨mo, rb, rfl, hm5, hb5, hmo, hrb⟩
  have hblk5 := (hb5.block _ (lt_of_block HBLK4.out)).trans HBLK4.out
  have g2 := cell_of_block hblk5 2
  have f2 := frozen_of_block hblk5 2
  have HBLK5 := Lib.hid hblk5
  have HM5 := Lib.hid hm5
  have HB5 := Lib.hid hb5
  have hs5 := hb5.size
  clear hblk5 hm5 hb5
  go_upto_region 7 with (fail)
  obtain ⟨W6, hW6⟩ : ∃ W6, W6 = w5.setCell ⟨gr, 2, none⟩ (.pointer (some ⟨mo, 0, none⟩)) := ⟨_, rfl⟩
  have HT6 : Hid (Turned (fun k => k = gr) w5 W6) := by rw [hW6]; exact (Turned.refl (fun k => k = gr) w5).setCell (.inl rfl) _
  have HBLK6 : Hid (W6.heap[gr]? = some (.cells #[.pointer (some ⟨cb + 1, 0, none⟩), .pointer (some ⟨sp, 0, none⟩), .pointer (some ⟨mo, 0, none⟩), .pointer none, .int .i64 pages] 97 (0, 0))) := by
    show _ = _
    rw [hW6, heap_setCell_eq HBLK5.out]
    rfl
  have hs6 := HT6.out.size
  have HLG := Lib.hid (lgNew_yes pages (by omega) W6)
  rw [← hW6]
  clear hW6 g2 f2
  go_wp2_with (fail)
  refine HLG.out.mono ?_
  rintro e w7 ⟨lg, mb, rfl, hl7, hb7, hlg, hmb⟩
  have hblk7 := (hb7.block _ (lt_of_block HBLK6.out)).trans HBLK6.out
  have g3 := cell_of_block hblk7 3
  have f3 := frozen_of_block hblk7 3
  have HBLK7 := Lib.hid hblk7
  have HL7 := Lib.hid hl7
  have HB7 := Lib.hid hb7
  have hs7 := hb7.size
  clear hblk7 hl7 hb7
  go_wp2
  go_ret2
  obtain ⟨hs2, hsz3⟩ := HSZ.out
  obtain ⟨W8, hW8⟩ : ∃ W8, W8 = w7.setCell ⟨gr, 3, none⟩ (.pointer (some ⟨lg, 0, none⟩)) := ⟨_, rfl⟩
  have t8 : Turned (fun k => k = gr) w7 W8 := by rw [hW8]; exact (Turned.refl (fun k => k = gr) w7).setCell (.inl rfl) _
  have o8 : W8.heap[gr]? = some (.cells #[.pointer (some ⟨cb + 1, 0, none⟩), .pointer (some ⟨sp, 0, none⟩), .pointer (some ⟨mo, 0, none⟩), .pointer (some ⟨lg, 0, none⟩), .int .i64 pages] 97 (0, 0)) := by
    rw [hW8, heap_setCell_eq HBLK7.out]
    rfl
  rw [← hW8]
  clear hW8
  have tB : ∀ {a b : World}, Below a.heap.size a b → Turned (fun k => k = gr) a b := fun h => Turned.of_below h (Nat.le_refl _)
  have t35 : Turned (fun k => k = gr) w3 w5 := HT4.out.trans (tB HB5.out) (fun _ h _ => h)
  have t57 : Turned (fun k => k = gr) w5 w7 := HT6.out.trans (tB HB7.out) (fun _ h _ => h)
  have t38 : Turned (fun k => k = gr) w3 W8 := (t35.trans t57 (fun _ h _ => h)).trans t8 (fun _ h _ => h)
  have t18 : Turned (fun k => k = gr) w1 W8 := ((tB (hgr ▸ HB2.out)).trans HTB3.out (fun _ h _ => h)).trans t38 (fun _ h _ => h)
  have hgs : ∀ k, k < w1.heap.size → k ≠ gr := fun k hk => by omega
  refine ⟨gr, cb + 1, cb, ⟨sp, sv, mo, rb, none, 0, lg, mb⟩, rfl, ⟨o8, HSP.out.turned t18 (hgs _ HSP.out.lt.1) (fun g hg => hgs _ (HSP.out.lt.2 g hg).1),
    (HM5.out.turned t57 (by omega) (by omega) (fun l hl => by cases hl)).turned t8 (by omega) (by omega) (fun l hl => by cases hl), HL7.out.turned t8 (by omega) (by omega)⟩,
    HC3.out.turned t38 (by omega) (by omega), ?_, ?_, by omega, by omega, ?_⟩
  · exact HB1.out.trans ((t18.below (B := w1.heap.size) (fun k hk => by omega) (by omega)).mono (by omega))
  · omega
  · rintro k (hk | hk | hk | hk | hk | hk | hk)
    · have := H1.out.1; have e : k = sp := hk; omega
    · exact H1.out.2 k hk
    · have e : k = mo := hk; omega
    · have e : k = rb := hk; omega
    · cases hk
    · have e : k = lg := hk; omega
    · have e : k = mb := hk; omega

end Go.Proofs.YtlljejmblmjjnaaGreatDoor

/- The law's beginning: a heap and its ground, and the document's. -/
namespace Go.Proofs.YtlljejmblmjjnaaGreatDoor
set_option linter.unusedVariables false
set_option linter.unusedSimpArgs false
open Go.RowKit Go.ChangeMaps

theorem und_ints5 : Tryz.prog.underlying 38 = some (.slice 3) := by kernel_rfl
theorem run_make_ints (n : Nat) (hn : n ≤ 1048576) (w : World) :
    (Instr.makeSlice 38 (.int .i64 n) (.int .i64 n)).run Tryz.prog w = .ok (.slice (some ⟨w.heap.size, 0, none⟩) n n) (w.alloc (.cells (intsV (List.replicate n 0)).toArray 3)) := by
  obtain ⟨i0, hi, hz0, hz1, hz2⟩ := info_parts info_int2
  have := run_make (P := Tryz.prog) w _ _ i0 _ und_ints5 hi hz0 .i64 .i64 n n (by omega) (by omega) (by rw [hz2]; omega) (by omega)
  rw [this, hz1]
  have e : madeCells #[.int .i64 0] n = (intsV (List.replicate n 0)).toArray := by
    apply Array.ext_getElem?
    intro i
    simp only [madeCells, intsV, Array.getElem?_map, List.getElem?_toArray, List.getElem?_map, List.getElem?_replicate, Array.getElem?_range]
    by_cases h : i < n
    · simp [h, Nat.mod_one]
    · simp [h]
  simp only [Int.toNat_natCast, Value.cells, Nat.mul_one, e]

def RefNew (w : World) (e : Ending) (w' : World) : Prop := ∃ k, e = .returned (.tuple #[.pointer (some ⟨k, 0, none⟩), .int .i64 0]) ∧ Below w.heap.size w w'

set_option maxRecDepth 8000 in
set_option maxHeartbeats 1000000 in
theorem ref08New (n : Nat) (hn : n ≤ 64) (w : World) : Calls Tryz.prog 76 #[.int .i64 n] w (RefNew w) := by
  have hmk := run_make_ints n (by omega)
  have h1 : ¬ (n : Int) < 0 := by omega
  have h2 : ¬ (4096 : Int) < n := by omega
  go_enter Tryz.func76, Tryz.ntmps76
  go_wp2
  go_ret2
  exact ⟨_, rfl, (by repeat (first | exact Below.refl _ _ | assumption | refine Below.alloc ?_ (by first | omega | (simp <;> omega)) _ | refine Below.drew ?_ | refine Below.setCell ?_ (by first | omega | (simp <;> omega)) _ | refine Below.via (by assumption) (by first | omega | (simp <;> omega)) ?_))⟩
set_option maxRecDepth 8000 in
set_option maxHeartbeats 1000000 in
theorem ref10New (n : Nat) (hn : n ≤ 64) (w : World) : Calls Tryz.prog 77 #[.int .i64 n] w (RefNew w) := by
  have hmk := run_make_words n (by omega)
  have h1 : ¬ (n : Int) < 0 := by omega
  have h2 : ¬ (4096 : Int) < n := by omega
  go_enter Tryz.func77, Tryz.ntmps77
  go_wp2
  go_ret2
  exact ⟨_, rfl, (by repeat (first | exact Below.refl _ _ | assumption | refine Below.alloc ?_ (by first | omega | (simp <;> omega)) _ | refine Below.drew ?_ | refine Below.setCell ?_ (by first | omega | (simp <;> omega)) _ | refine Below.via (by assumption) (by first | omega | (simp <;> omega)) ?_))⟩
set_option maxRecDepth 8000 in
set_option maxHeartbeats 1000000 in
theorem ref09New (n : Nat) (hn : n ≤ 64) (w : World) : Calls Tryz.prog 78 #[.int .i64 n] w (RefNew w) := by
  have hmk : ∀ w, (Instr.makeSlice 38 (.int .i64 8) (.int .i64 8)).run Tryz.prog w = .ok (.slice (some ⟨w.heap.size, 0, none⟩) 8 8) (w.alloc (.cells (intsV (List.replicate 8 0)).toArray 3)) := run_make_ints 8 (by omega)
  have h1 : ¬ (n : Int) < 0 := by omega
  have h2 : ¬ (1099511627776 : Int) < n := by omega
  go_enter Tryz.func78, Tryz.ntmps78
  go_wp2
  go_ret2
  exact ⟨_, rfl, (by repeat (first | exact Below.refl _ _ | assumption | refine Below.alloc ?_ (by first | omega | (simp <;> omega)) _ | refine Below.drew ?_ | refine Below.setCell ?_ (by first | omega | (simp <;> omega)) _ | refine Below.via (by assumption) (by first | omega | (simp <;> omega)) ?_))⟩
set_option maxRecDepth 8000 in
set_option maxHeartbeats 1000000 in
theorem ref12New (n : Nat) (hn : n ≤ 64) (w : World) : Calls Tryz.prog 35 #[.int .i64 n] w (RefNew w) := by
  have hmk : ∀ w, (Instr.makeSlice 130 (.int .i64 (256 * (n : Int))) (.int .i64 (256 * (n : Int)))).run Tryz.prog w = .ok (.slice (some ⟨w.heap.size, 0, none⟩) (256 * n) (256 * n)) (w.alloc (.cells (bytesC (List.replicate (256 * n) 0)) 5)) := fun w => by
    have := run_make_bytes (256 * n) (by omega) w
    rw [show ((256 * n : Nat) : Int) = 256 * (n : Int) by omega] at this
    exact this
  have h1 : ¬ (n : Int) < 0 := by omega
  have h2 : ¬ (4096 : Int) < n := by omega
  have hmul : IntKind.i64.wrap (256 * (n : Int)) = 256 * (n : Int) := wraps_i64 _ (by omega) (by omega)
  have H08 := Lib.hid (ref08New n hn)
  have H10 := Lib.hid (ref10New n hn)
  have H09 := Lib.hid (ref09New n hn)
  go_enter Tryz.func35, Tryz.ntmps35
  go_wp2_with (fail)
  refine (H08.out _).mono ?_
  rintro e w1 ⟨k1, rfl, hb1⟩
  have HB1 := Lib.hid hb1
  clear hb1
  go_wp2_with (fail)
  refine (H10.out _).mono ?_
  rintro e w2 ⟨k2, rfl, hb2⟩
  have HB2 := Lib.hid (Below.via hb2 HB1.out.size HB1.out)
  clear hb2
  go_wp2_with (fail)
  refine (H09.out _).mono ?_
  rintro e w3 ⟨k3, rfl, hb3⟩
  have HB3 := Lib.hid (Below.via hb3 HB2.out.size HB2.out)
  have hz3 := HB3.out.size
  clear hb3
  go_wp2
  go_ret2
  refine ⟨_, rfl, (HB3.out.alloc hz3 _).alloc (by simp; omega) _⟩
theorem run_make_rows (w : World) : (Instr.makeSlice 135 (.int .i64 64) (.int .i64 64)).run Tryz.prog w = .ok (.slice (some ⟨w.heap.size, 0, none⟩) 64 64) (w.alloc (.cells (madeCells #[.slice none 0 0] 64) 38)) := by
  obtain ⟨i0, hi, hz0, hz1, hz2⟩ := info_parts (show (Tryz.prog.info? 38).map (fun i => (i.zero, i.size, i.bytes)) = some (some (.slice none 0 0), 1, 24) by kernel_rfl)
  have := run_make (P := Tryz.prog) w _ _ i0 _ (show Tryz.prog.underlying 135 = some (.slice 38) by kernel_rfl) hi hz0 .i64 .i64 64 64 (by omega) (by omega) (by rw [hz2]; omega) (by omega)
  rw [hz1] at this
  simpa [Value.cells] using this
set_option maxRecDepth 8000 in
set_option maxHeartbeats 1000000 in
theorem ref14New (a : Option Addr) (w : World) : Calls Tryz.prog 37 #[.pointer a] w fun e w' => (∃ k, e = .returned (.pointer (some ⟨k, 0, none⟩))) ∧ Below w.heap.size w w' := by
  have hmk := run_make_rows
  generalize madeCells #[Value.slice none 0 0] 64 = cs at *
  go_enter Tryz.func37, Tryz.ntmps37
  go_wp2
  go_ret
  exact ⟨⟨_, rfl⟩, (by repeat (first | exact Below.refl _ _ | assumption | refine Below.alloc ?_ (by first | omega | (simp <;> omega)) _ | refine Below.drew ?_ | refine Below.setCell ?_ (by first | omega | (simp <;> omega)) _ | refine Below.via (by assumption) (by first | omega | (simp <;> omega)) ?_))⟩

def BeginPostO (w : World) (pages : Nat) (e : Ending) (w' : World) : Prop :=
  ∃ x y H, e = .returned (.tuple #[.pointer (some ⟨x, 0, none⟩), .pointer (some ⟨y, 0, none⟩)]) ∧ w'.heap[x]? = some (.cells #[.pointer (some ⟨H.gr, 0, none⟩), .pointer (some ⟨H.h, 0, none⟩), .slice none 0 0] 36 (0, 0)) ∧
    OHeapM w' H pages ⟨initR pages, [], R0⟩ ∧ H.left = [] ∧ H.G = [] ∧ H.c = 0 ∧ (∀ k, H.F k → w.heap.size ≤ k) ∧ w.heap.size ≤ x ∧ Below w.heap.size w w'

set_option maxRecDepth 8000 in
set_option maxHeartbeats 1000000 in
theorem begin_no (n : Int) (hn : n < 0) (w : World) : Calls Tryz.prog 9 #[.int .i64 n] w fun e w' => e = .returned (.tuple #[.pointer none, .pointer none]) ∧ Below w.heap.size w w' := by
  have HG := Lib.hid (gNew_no n hn)
  have HR : Hid (∀ w, Calls Tryz.prog 35 #[.int .i64 n] w fun e w' => e = .returned (.tuple #[.pointer none, .int .i64 11]) ∧ w = w') := fun w => by
    clear HG
    go_enter Tryz.func35, Tryz.ntmps35
    go_wp2
    go_ret2
    exact ⟨rfl, rfl⟩
  clear hn
  go_enter Tryz.func9, Tryz.ntmps9
  go_wp2_with (fail)
  refine (HG.out _).mono ?_
  rintro e w1 ⟨rfl, rfl⟩
  go_wp2_with (fail)
  refine (HR.out _).mono ?_
  rintro e w1 ⟨rfl, rfl⟩
  go_wp2
  go_ret2
  exact ⟨rfl, Below.refl _ _⟩

set_option maxRecDepth 8000 in
set_option maxHeartbeats 2000000 in
theorem begin_yes (pages : Nat) (hp : pages ≤ 64) (w : World) (ht : Tab w) : Calls Tryz.prog 9 #[.int .i64 pages] w (BeginPostO w pages) := by
  have hmk : ∀ w, (Instr.makeSlice 130 (.int .i64 (256 * (pages : Int))) (.int .i64 (256 * (pages : Int)))).run Tryz.prog w = .ok (.slice (some ⟨w.heap.size, 0, none⟩) (256 * pages) (256 * pages)) (w.alloc (.cells (bytesC (List.replicate (256 * pages) 0)) 5)) := fun w => by
    have := run_make_bytes (256 * pages) (by omega) w
    rw [show ((256 * pages : Nat) : Int) = 256 * (pages : Int) by omega] at this
    exact this
  have hmul : IntKind.i64.wrap (256 * (pages : Int)) = 256 * (pages : Int) := wraps_i64 _ (by omega) (by omega)
  have HG := Lib.hid (gNew_yes pages hp)
  have HR := Lib.hid (ref12New pages hp)
  have H16 := Lib.hid ref14New
  have HT := Lib.hid ht
  have HW0 : Hid (0 < w.heap.size) := cell_lt (ht 0 (by decide))
  clear ht
  go_enter Tryz.func9, Tryz.ntmps9
  go_wp2_with (fail)
  refine (HG.out _).mono ?_
  rintro e w1 ⟨gr, cl, cb, p, rfl, hg1, hc1, hb1, g1, g2, g3, g4⟩
  have HG1 := Lib.hid hg1
  have HB1 := Lib.hid hb1
  have HGE := Lib.hid (And.intro g1 (And.intro g2 (And.intro g3 g4)))
  clear hg1 hc1 hb1 g1 g2 g3 g4
  go_wp2_with (fail)
  refine (HR.out _).mono ?_
  rintro e w2 ⟨k2, rfl, hb2⟩
  have HB2 := Lib.hid (Below.via hb2 HB1.out.size HB1.out)
  have HG2 := Lib.hid (HG1.out.below hb2)
  have hs2 := HB2.out.size
  have HNEW := Lib.hid (hNewO_yes HG2.out (HT.out.below HB2.out) hs2 HW0.out HGE.out.1 HGE.out.2.2.2)
  clear hb2
  go_wp2_with (fail)
  refine HNEW.out.mono ?_
  rintro e w3 ⟨H, rfl, hgr, hcl, hleft, hG, hc, hA, hF, hb3⟩
  have HB3 := Lib.hid (Below.via hb3 hs2 HB2.out)
  have HA3 := Lib.hid hA
  have HFF := Lib.hid hF
  have HGR := Lib.hid hgr
  have HLF := Lib.hid (And.intro hleft (And.intro hG hc))
  have hs3 := HB3.out.size
  clear hb3 hA hF hgr hcl hleft hG hc
  go_wp2_with (fail)
  refine (H16.out _ _).mono ?_
  rintro e w4 ⟨⟨k4, rfl⟩, hb4⟩
  obtain ⟨X1, hX1⟩ : ∃ X1, X1 = w3.alloc (.cells #[.pointer (some ⟨gr, 0, none⟩), .pointer (some ⟨H.h, 0, none⟩), .slice none 0 0] 36) := ⟨_, rfl⟩
  rw [← hX1] at hb4
  have hx1 : X1.heap[w3.heap.size]? = some (.cells #[.pointer (some ⟨gr, 0, none⟩), .pointer (some ⟨H.h, 0, none⟩), .slice none 0 0] 36 (0, 0)) := by rw [hX1]; exact heap_alloc_new _ _
  have hbx : Below w3.heap.size w3 X1 := by rw [hX1]; exact (Below.refl _ _).alloc (Nat.le_refl _) _
  have hsx : X1.heap.size = w3.heap.size + 1 := by rw [hX1]; simp
  have HX4 := Lib.hid ((hb4.block _ (by omega)).trans hx1)
  have HB34 := Lib.hid (Below.via hb4 (by omega) hbx)
  have hs4 := HB34.out.size
  clear hb4 hx1 hbx hX1
  go_wp2
  go_ret2
  have hbl : ∀ o, Below w4.heap.size w4 (w4.alloc o) := fun o => (Below.refl _ _).alloc (Nat.le_refl _) _
  refine ⟨w3.heap.size, _, H, rfl, ?_, (HA3.out.below HB34.out).below (hbl _), HLF.out.1, HLF.out.2.1, HLF.out.2.2, HFF.out, hs3, (Below.via HB34.out hs3 HB3.out).alloc (by omega) _⟩
  rw [HGR.out]
  exact ((hbl _).block _ (lt_of_block HX4.out)).trans HX4.out

end Go.Proofs.YtlljejmblmjjnaaGreatDoor

/- The law's Do: a call that the heap is told. -/
namespace Go.Proofs.YtlljejmblmjjnaaGreatDoor
set_option linter.unusedVariables false
set_option linter.unusedSimpArgs false
open Go.RowKit Go.ChangeMaps

theorem ownsRow_turned {F : Nat → Prop} {w w' : World} (t : Turned F w w') {base : Nat} {T : TypeId} {m n : Nat} {v : Value} {xs : List Value} (h : w.ownsRow base T m v n xs) (hF : ∀ g cs, w.heap[g]? = some (.cells cs T (0, 0)) → ¬ F g) : w'.ownsRow base T m v n xs := by
  refine ⟨h.1, ?_⟩
  rcases h.2 with e | ⟨g, cap, cur, e, hb, hg, h1, h2, h3, h4⟩
  · exact .inl e
  · exact .inr ⟨g, cap, cur, e, hb, (t.block _ (lt_of_block hg) (hF g cur hg)).trans hg, h1, h2, h3, h4⟩

/-- The law's world: a ground, a heap, and the slabs that left, in a row of its own. -/
structure WorldO (w : World) (x base : Nat) (lv : Value) (H : OHL) (pages : Nat) (s : OP) : Prop where
  obj : w.heap[x]? = some (.cells #[.pointer (some ⟨H.gr, 0, none⟩), .pointer (some ⟨H.h, 0, none⟩), lv] 36 (0, 0))
  row : w.ownsRow base 42 1 lv H.left.length (H.left.map fun y => .pointer (some ⟨y.L.s, 0, none⟩))
  heap : OHeapM w H pages s
theorem WorldO.cells {w : World} {x base : Nat} {lv : Value} {H : OHL} {pages : Nat} {s : OP} (h : WorldO w x base lv H pages s) : w.cell? ⟨x, 0, none⟩ = some (.pointer (some ⟨H.gr, 0, none⟩)) ∧ w.cell? ⟨x, 1, none⟩ = some (.pointer (some ⟨H.h, 0, none⟩)) ∧ w.cell? ⟨x, 2, none⟩ = some lv :=
  ⟨cell_of_block h.obj 0, cell_of_block h.obj 1, cell_of_block h.obj 2⟩
theorem WorldO.below {w w' : World} {x base : Nat} {lv : Value} {H : OHL} {pages : Nat} {s : OP} (h : WorldO w x base lv H pages s) (hb : Below w.heap.size w w') : WorldO w' x base lv H pages s :=
  ⟨(hb.block _ (lt_of_block h.obj)).trans h.obj, ownsRow_turned (F := fun _ => False) (Turned.of_below hb (Nat.le_refl _)) h.row (fun _ _ _ e => e), h.heap.below hb⟩

def DoPost (w : World) (x base : Nat) (lv : Value) (H : OHL) (pages : Nat) (s s' : OP) (res : List Int) (err : Int) (e : Ending) (w' : World) : Prop :=
  ∃ v H', e = .returned (.tuple #[v, .int .i64 err]) ∧ Ints w' w.heap.size v res ∧ WorldO w' x base lv H' pages s' ∧ H'.left = H.left ∧ H'.G = H.G ∧ H'.c = H.c ∧ H.Of H' w.heap.size ∧ Turned H.F w w'
theorem DoPost.of {w W w1 w' : World} {x base : Nat} {lv : Value} {H : OHL} {pages : Nat} {s s' : OP} {res : List Int} {err : Int} {u v : Value} {e e' : Ending} (h : WorldO w x base lv H pages s) (hb : Below w.heap.size w W) (hp : OMPost W H pages s s' u e w1) (ht : Below w1.heap.size w1 w') (he : e' = .returned (.tuple #[v, .int .i64 err]))
    (hi : Ints w' w.heap.size v res) : DoPost w x base lv H pages s s' res err e' w' := by
  obtain ⟨-, H', q1, q2, q3, q4, q5, q6⟩ := hp
  have hoffx : ¬ H.F x := h.heap.offT h.obj (by decide)
  have t : Turned H.F w w' := ((Turned.of_below (F := H.F) hb (Nat.le_refl _)).trans q6 (fun _ h _ => h)).trans (Turned.of_below (F := H.F) ht (Nat.le_refl _)) (fun _ h _ => h)
  have hz := hb.size
  refine ⟨v, H', he, hi, ⟨?_, ?_, q4.below ht⟩, q1, q2, q3, ⟨q5.h, q5.gr, q5.cl, q5.rg, q5.mb, fun k hk => (q5.foot k hk).imp id (fun hh => by omega)⟩, t⟩
  · rw [q5.gr, q5.h]
    exact (t.block _ (lt_of_block h.obj) hoffx).trans h.obj
  · rw [q1]
    exact ownsRow_turned t h.row fun g cs hg => h.heap.offT hg (by decide)
theorem ints_one {w : World} {base : Nat} (a : Int) (hb : base ≤ w.heap.size) : Ints (w.alloc (.cells #[.int .i64 a] 3)) base (.slice (some ⟨w.heap.size, 0, none⟩) 1 1) [a] :=
  ⟨_, 1, rfl, fun _ => ⟨w.heap.size, rfl, hb, fun i hi => by
    have : i = 0 := by simpa using hi
    subst this
    rw [cell_of_block (heap_alloc_new _ _)]
    rfl⟩⟩

set_option maxRecDepth 8000 in
set_option maxHeartbeats 2000000 in
theorem do0_any {w : World} {x base : Nat} {lv : Value} {H : OHL} {pages : Nat} {s : OP} (h : WorldO w x base lv H pages s) (hI : OInv pages s) (cls at_ n pg : Int) :
    Calls Tryz.prog 11 #[.pointer (some ⟨x, 0, none⟩), .agg #[.int .i64 0, .int .i64 cls, .int .i64 at_, .int .i64 n, .int .i64 pg]] w (DoPost w x base lv H pages s (takeO s cls).2 [(takeO s cls).1.1] (takeO s cls).1.2) := by
  obtain ⟨-, cx, -⟩ := h.cells
  have hxl := cell_lt cx
  obtain ⟨W1, hW1⟩ : ∃ W1, W1 = w.alloc (.cells #[.int .i64 0, .int .i64 cls, .int .i64 at_, .int .i64 n, .int .i64 pg] 31) := ⟨_, rfl⟩
  have hb1 : Below w.heap.size w W1 := by rw [hW1]; exact (Below.refl _ _).alloc (Nat.le_refl _) _
  have hbox : W1.heap[w.heap.size]? = some (.cells #[.int .i64 0, .int .i64 cls, .int .i64 at_, .int .i64 n, .int .i64 pg] 31 (0, 0)) := by rw [hW1]; exact heap_alloc_new _ _
  have h1 := (h.below hb1).heap.drew
  have hoffx : ¬ H.F x := (h.below hb1).heap.offT (h.below hb1).obj (by decide)
  have hoffb : ¬ H.F w.heap.size := (h.below hb1).heap.offT hbox (by decide)
  have hob1 := (h.below hb1).obj
  have x1 : W1.cell? ⟨x, 1, none⟩ = some (.pointer (some ⟨H.h, 0, none⟩)) := cell_past hb1 hxl cx
  have q0 := cell_of_block hbox 0
  have q1 := cell_of_block hbox 1
  have q2 := cell_of_block hbox 2
  have q3 := cell_of_block hbox 3
  have q4 := cell_of_block hbox 4
  have HB1 := Lib.hid hb1
  have H1 := Lib.hid h1
  have HOFF := Lib.hid (And.intro hoffx hoffb)
  have HOB := Lib.hid hob1
  have HLT := Lib.hid h
  clear h hb1 hbox h1 hoffx hoffb hob1 cx
  go_enter Tryz.func11, Tryz.ntmps11
  go_upto_region 3 with (fail)
  rw [← hW1]
  clear hW1
  have HC := Lib.hid (htakeO_any H1.out hI cls)
  unfold ansO at HC
  (refine wp_region_held_drew (S := fun W : World => W.cell? ⟨x, 1, none⟩ = some (.pointer (some ⟨H.h, 0, none⟩)) ∧ W.cell? ⟨w.heap.size, 1, none⟩ = some (.int .i64 cls) ∧ W.cell? ⟨w.heap.size, 2, none⟩ = some (.int .i64 at_) ∧ W.cell? ⟨w.heap.size, 3, none⟩ = some (.int .i64 n) ∧ W.cell? ⟨w.heap.size, 4, none⟩ = some (.int .i64 pg)) (by kernel_rfl) (by exact ⟨x1, q1, q2, q3, q4⟩) (fun hHeld0 => ?_))
  (refine wpAnyH_take (i := 0) (v := ?_) rfl (by kernel_rfl) (by kernel_rfl) (by kernel_rfl) (fun _ _ _ h => h) (Or.inl ⟨by rfl, ?_⟩) (by assumption) ?_; rotate_left; focus (intro w hSw; (try dsimp only at hSw); go_simp; first | done | with_reducible rfl); (try simp only [Act.put, List.setIfInBounds_toArray, List.set_cons_zero, List.set_cons_succ, List.getElem_toArray, List.getElem_cons_zero, List.getElem_cons_succ]))
  (refine wpAnyH_take (i := 1) (v := ?_) rfl (by kernel_rfl) (by kernel_rfl) (by kernel_rfl) (fun _ _ _ h => h) (Or.inl ⟨by rfl, ?_⟩) (by assumption) ?_; rotate_left; focus (intro w hSw; (try dsimp only at hSw); go_simp; first | done | with_reducible rfl); (try simp only [Act.put, List.setIfInBounds_toArray, List.set_cons_zero, List.set_cons_succ, List.getElem_toArray, List.getElem_cons_zero, List.getElem_cons_succ]))
  (refine wpAnyH_take (i := 2) (v := ?_) rfl (by kernel_rfl) (by kernel_rfl) (by kernel_rfl) (fun _ _ _ h => h) (Or.inl ⟨by rfl, ?_⟩) (by assumption) ?_; rotate_left; focus (intro w hSw; (try dsimp only at hSw); go_simp; first | done | with_reducible rfl); (try simp only [Act.put, List.setIfInBounds_toArray, List.set_cons_zero, List.set_cons_succ, List.getElem_toArray, List.getElem_cons_zero, List.getElem_cons_succ]))
  (refine wpAnyH_take (i := 3) (v := ?_) rfl (by kernel_rfl) (by kernel_rfl) (by kernel_rfl) (fun _ _ _ h => h) (Or.inl ⟨by rfl, ?_⟩) (by assumption) ?_; rotate_left; focus (intro w hSw; (try dsimp only at hSw); go_simp; first | done | with_reducible rfl); (try simp only [Act.put, List.setIfInBounds_toArray, List.set_cons_zero, List.set_cons_succ, List.getElem_toArray, List.getElem_cons_zero, List.getElem_cons_succ]))
  (refine wpAnyH_take (i := 4) (v := ?_) rfl (by kernel_rfl) (by kernel_rfl) (by kernel_rfl) (fun _ _ _ h => h) (Or.inl ⟨by rfl, ?_⟩) (by assumption) ?_; rotate_left; focus (intro w hSw; (try dsimp only at hSw); go_simp; first | done | with_reducible rfl); (try simp only [Act.put, List.setIfInBounds_toArray, List.set_cons_zero, List.set_cons_succ, List.getElem_toArray, List.getElem_cons_zero, List.getElem_cons_succ]))
  (refine wpAnyH_take (i := 5) (v := ?_) rfl (by kernel_rfl) (by kernel_rfl) (by kernel_rfl) (fun _ _ _ h => h) (Or.inl ⟨by rfl, ?_⟩) (by assumption) ?_; rotate_left; focus (intro w hSw; (try dsimp only at hSw); go_simp; first | done | with_reducible rfl); (try simp only [Act.put, List.setIfInBounds_toArray, List.set_cons_zero, List.set_cons_succ, List.getElem_toArray, List.getElem_cons_zero, List.getElem_cons_succ]))
  (refine wpAnyH_ready (rs := [6]) (by kernel_rfl) (by simp) ?_; refine AllReadyH.cons rfl (fun K hK => ?_) AllReadyH.nil; go_simp)
  go_wp2_with (fail)
  refine HC.out.mono ?_
  (rintro e w4 hp; have HPP := Lib.hid hp; have htt : Turned H.F W1 w4 := (Turned.of_below (F := H.F) (Below.drew (Below.refl _ W1)) (Nat.le_refl _)).trans (by obtain ⟨-, H', -, -, -, -, -, t⟩ := hp; exact t) (fun _ h _ => h); have hs4 := htt.size; have hsW := HB1.out.size; obtain ⟨rfl, -⟩ := hp; (refine hK.out _ _ ⟨turned_cell htt HOFF.out.1 x1, turned_cell htt HOFF.out.2 q1, turned_cell htt HOFF.out.2 q2, turned_cell htt HOFF.out.2 q3, turned_cell htt HOFF.out.2 q4⟩ (fun hHeld => ?_); clear hK K hHeld0; (try simp only [Act.put, List.setIfInBounds_toArray, List.set_cons_zero, List.set_cons_succ, List.getElem_toArray, List.getElem_cons_zero, List.getElem_cons_succ])); clear htt x1 q0 q1 q2 q3 q4)
  (refine wpAnyH_take (i := 7) (v := ?_) rfl (by kernel_rfl) (by kernel_rfl) (by kernel_rfl) (fun _ _ _ h => h) (Or.inl ⟨by rfl, ?_⟩) (by assumption) ?_; rotate_left; focus (intro w hSw; (try dsimp only at hSw); go_simp; first | done | with_reducible rfl); (try simp only [Act.put, List.setIfInBounds_toArray, List.set_cons_zero, List.set_cons_succ, List.getElem_toArray, List.getElem_cons_zero, List.getElem_cons_succ]))
  (refine wpAnyH_take (i := 8) (v := ?_) rfl (by kernel_rfl) (by kernel_rfl) (by kernel_rfl) (fun _ _ _ h => h) (Or.inl ⟨by rfl, ?_⟩) (by assumption) ?_; rotate_left; focus (intro w hSw; (try dsimp only at hSw); go_simp; first | done | with_reducible rfl); (try simp only [Act.put, List.setIfInBounds_toArray, List.set_cons_zero, List.set_cons_succ, List.getElem_toArray, List.getElem_cons_zero, List.getElem_cons_succ]))
  (refine wpAnyH_take (i := 9) (v := ?_) rfl (by kernel_rfl) (by kernel_rfl) (by kernel_rfl) (fun _ _ _ h => h) (Or.inl ⟨by rfl, ?_⟩) (by assumption) ?_; rotate_left; focus (intro w hSw; (try dsimp only at hSw); go_simp; first | done | with_reducible rfl); (try simp only [Act.put, List.setIfInBounds_toArray, List.set_cons_zero, List.set_cons_succ, List.getElem_toArray, List.getElem_cons_zero, List.getElem_cons_succ]))
  (refine wpAnyH_take (i := 10) (v := ?_) rfl (by kernel_rfl) (by kernel_rfl) (by kernel_rfl) (fun _ _ _ h => h) (Or.inl ⟨by rfl, ?_⟩) (by assumption) ?_; rotate_left; focus (intro w hSw; (try dsimp only at hSw); go_simp; first | done | with_reducible rfl); (try simp only [Act.put, List.setIfInBounds_toArray, List.set_cons_zero, List.set_cons_succ, List.getElem_toArray, List.getElem_cons_zero, List.getElem_cons_succ]))
  (refine wpAnyH_take (i := 11) (v := ?_) rfl (by kernel_rfl) (by kernel_rfl) (by kernel_rfl) (fun _ _ _ h => h) (Or.inl ⟨by rfl, ?_⟩) (by assumption) ?_; rotate_left; focus (intro w hSw; (try dsimp only at hSw); go_simp; first | done | with_reducible rfl); (try simp only [Act.put, List.setIfInBounds_toArray, List.set_cons_zero, List.set_cons_succ, List.getElem_toArray, List.getElem_cons_zero, List.getElem_cons_succ]))
  refine wpAnyH_done (by kernel_rfl) ?_ _
  clear hHeld
  go_wp2
  go_ret2
  exact DoPost.of HLT.out (Below.drew HB1.out) HPP.out ((Below.refl _ _).alloc (Nat.le_refl _) _) rfl (ints_one _ (by omega))

set_option maxRecDepth 8000 in
set_option maxHeartbeats 2000000 in
theorem do1_any {w : World} {x base : Nat} {lv : Value} {H : OHL} {pages : Nat} {s : OP} (h : WorldO w x base lv H pages s) (hI : OInv pages s) (cls at_ n pg : Int) :
    Calls Tryz.prog 11 #[.pointer (some ⟨x, 0, none⟩), .agg #[.int .i64 1, .int .i64 cls, .int .i64 at_, .int .i64 n, .int .i64 pg]] w (DoPost w x base lv H pages s (giveO s at_).2 [] (giveO s at_).1) := by
  obtain ⟨-, cx, -⟩ := h.cells
  have hxl := cell_lt cx
  obtain ⟨W1, hW1⟩ : ∃ W1, W1 = w.alloc (.cells #[.int .i64 1, .int .i64 cls, .int .i64 at_, .int .i64 n, .int .i64 pg] 31) := ⟨_, rfl⟩
  have hb1 : Below w.heap.size w W1 := by rw [hW1]; exact (Below.refl _ _).alloc (Nat.le_refl _) _
  have hbox : W1.heap[w.heap.size]? = some (.cells #[.int .i64 1, .int .i64 cls, .int .i64 at_, .int .i64 n, .int .i64 pg] 31 (0, 0)) := by rw [hW1]; exact heap_alloc_new _ _
  have h1 := (h.below hb1).heap.drew
  have hoffx : ¬ H.F x := (h.below hb1).heap.offT (h.below hb1).obj (by decide)
  have hoffb : ¬ H.F w.heap.size := (h.below hb1).heap.offT hbox (by decide)
  have hob1 := (h.below hb1).obj
  have x1 : W1.cell? ⟨x, 1, none⟩ = some (.pointer (some ⟨H.h, 0, none⟩)) := cell_past hb1 hxl cx
  have q0 := cell_of_block hbox 0
  have q1 := cell_of_block hbox 1
  have q2 := cell_of_block hbox 2
  have q3 := cell_of_block hbox 3
  have q4 := cell_of_block hbox 4
  have HB1 := Lib.hid hb1
  have H1 := Lib.hid h1
  have HOFF := Lib.hid (And.intro hoffx hoffb)
  have HOB := Lib.hid hob1
  have HLT := Lib.hid h
  clear h hb1 hbox h1 hoffx hoffb hob1 cx
  go_enter Tryz.func11, Tryz.ntmps11
  go_upto_region 6 with (fail)
  rw [← hW1]
  clear hW1
  have HC := Lib.hid (hgiveO_any H1.out hI at_)
  (refine wp_region_held_drew (S := fun W : World => W.cell? ⟨x, 1, none⟩ = some (.pointer (some ⟨H.h, 0, none⟩)) ∧ W.cell? ⟨w.heap.size, 1, none⟩ = some (.int .i64 cls) ∧ W.cell? ⟨w.heap.size, 2, none⟩ = some (.int .i64 at_) ∧ W.cell? ⟨w.heap.size, 3, none⟩ = some (.int .i64 n) ∧ W.cell? ⟨w.heap.size, 4, none⟩ = some (.int .i64 pg)) (by kernel_rfl) (by exact ⟨x1, q1, q2, q3, q4⟩) (fun hHeld0 => ?_))
  (refine wpAnyH_take (i := 0) (v := ?_) rfl (by kernel_rfl) (by kernel_rfl) (by kernel_rfl) (fun _ _ _ h => h) (Or.inl ⟨by rfl, ?_⟩) (by assumption) ?_; rotate_left; focus (intro w hSw; (try dsimp only at hSw); go_simp; first | done | with_reducible rfl); (try simp only [Act.put, List.setIfInBounds_toArray, List.set_cons_zero, List.set_cons_succ, List.getElem_toArray, List.getElem_cons_zero, List.getElem_cons_succ]))
  (refine wpAnyH_take (i := 1) (v := ?_) rfl (by kernel_rfl) (by kernel_rfl) (by kernel_rfl) (fun _ _ _ h => h) (Or.inl ⟨by rfl, ?_⟩) (by assumption) ?_; rotate_left; focus (intro w hSw; (try dsimp only at hSw); go_simp; first | done | with_reducible rfl); (try simp only [Act.put, List.setIfInBounds_toArray, List.set_cons_zero, List.set_cons_succ, List.getElem_toArray, List.getElem_cons_zero, List.getElem_cons_succ]))
  (refine wpAnyH_take (i := 2) (v := ?_) rfl (by kernel_rfl) (by kernel_rfl) (by kernel_rfl) (fun _ _ _ h => h) (Or.inl ⟨by rfl, ?_⟩) (by assumption) ?_; rotate_left; focus (intro w hSw; (try dsimp only at hSw); go_simp; first | done | with_reducible rfl); (try simp only [Act.put, List.setIfInBounds_toArray, List.set_cons_zero, List.set_cons_succ, List.getElem_toArray, List.getElem_cons_zero, List.getElem_cons_succ]))
  (refine wpAnyH_take (i := 3) (v := ?_) rfl (by kernel_rfl) (by kernel_rfl) (by kernel_rfl) (fun _ _ _ h => h) (Or.inl ⟨by rfl, ?_⟩) (by assumption) ?_; rotate_left; focus (intro w hSw; (try dsimp only at hSw); go_simp; first | done | with_reducible rfl); (try simp only [Act.put, List.setIfInBounds_toArray, List.set_cons_zero, List.set_cons_succ, List.getElem_toArray, List.getElem_cons_zero, List.getElem_cons_succ]))
  (refine wpAnyH_take (i := 4) (v := ?_) rfl (by kernel_rfl) (by kernel_rfl) (by kernel_rfl) (fun _ _ _ h => h) (Or.inl ⟨by rfl, ?_⟩) (by assumption) ?_; rotate_left; focus (intro w hSw; (try dsimp only at hSw); go_simp; first | done | with_reducible rfl); (try simp only [Act.put, List.setIfInBounds_toArray, List.set_cons_zero, List.set_cons_succ, List.getElem_toArray, List.getElem_cons_zero, List.getElem_cons_succ]))
  (refine wpAnyH_take (i := 5) (v := ?_) rfl (by kernel_rfl) (by kernel_rfl) (by kernel_rfl) (fun _ _ _ h => h) (Or.inl ⟨by rfl, ?_⟩) (by assumption) ?_; rotate_left; focus (intro w hSw; (try dsimp only at hSw); go_simp; first | done | with_reducible rfl); (try simp only [Act.put, List.setIfInBounds_toArray, List.set_cons_zero, List.set_cons_succ, List.getElem_toArray, List.getElem_cons_zero, List.getElem_cons_succ]))
  (refine wpAnyH_ready (rs := [6]) (by kernel_rfl) (by simp) ?_; refine AllReadyH.cons rfl (fun K hK => ?_) AllReadyH.nil; go_simp)
  go_wp2_with (fail)
  refine HC.out.mono ?_
  (rintro e w4 hp; have HPP := Lib.hid hp; have htt : Turned H.F W1 w4 := (Turned.of_below (F := H.F) (Below.drew (Below.refl _ W1)) (Nat.le_refl _)).trans (by obtain ⟨-, H', -, -, -, -, -, t⟩ := hp; exact t) (fun _ h _ => h); have hs4 := htt.size; have hsW := HB1.out.size; obtain ⟨rfl, -⟩ := hp; (refine hK.out _ _ ⟨turned_cell htt HOFF.out.1 x1, turned_cell htt HOFF.out.2 q1, turned_cell htt HOFF.out.2 q2, turned_cell htt HOFF.out.2 q3, turned_cell htt HOFF.out.2 q4⟩ (fun hHeld => ?_); clear hK K hHeld0; (try simp only [Act.put, List.setIfInBounds_toArray, List.set_cons_zero, List.set_cons_succ, List.getElem_toArray, List.getElem_cons_zero, List.getElem_cons_succ])); clear htt x1 q0 q1 q2 q3 q4)
  (refine wpAnyH_take (i := 7) (v := ?_) rfl (by kernel_rfl) (by kernel_rfl) (by kernel_rfl) (fun _ _ _ h => h) (Or.inl ⟨by rfl, ?_⟩) (by assumption) ?_; rotate_left; focus (intro w hSw; (try dsimp only at hSw); go_simp; first | done | with_reducible rfl); (try simp only [Act.put, List.setIfInBounds_toArray, List.set_cons_zero, List.set_cons_succ, List.getElem_toArray, List.getElem_cons_zero, List.getElem_cons_succ]))
  (refine wpAnyH_take (i := 8) (v := ?_) rfl (by kernel_rfl) (by kernel_rfl) (by kernel_rfl) (fun _ _ _ h => h) (Or.inl ⟨by rfl, ?_⟩) (by assumption) ?_; rotate_left; focus (intro w hSw; (try dsimp only at hSw); go_simp; first | done | with_reducible rfl); (try simp only [Act.put, List.setIfInBounds_toArray, List.set_cons_zero, List.set_cons_succ, List.getElem_toArray, List.getElem_cons_zero, List.getElem_cons_succ]))
  refine wpAnyH_done (by kernel_rfl) ?_ _
  clear hHeld
  go_wp2
  go_ret2
  exact DoPost.of HLT.out (Below.drew HB1.out) HPP.out (Below.refl _ _) rfl (Ints.nil _ _)

set_option maxRecDepth 8000 in
set_option maxHeartbeats 2000000 in
theorem do3_any {w : World} {x base : Nat} {lv : Value} {H : OHL} {pages : Nat} {s : OP} (h : WorldO w x base lv H pages s) (hI : OInv pages s) (cls at_ n pg : Int) :
    Calls Tryz.prog 11 #[.pointer (some ⟨x, 0, none⟩), .agg #[.int .i64 3, .int .i64 cls, .int .i64 at_, .int .i64 n, .int .i64 pg]] w (DoPost w x base lv H pages s (sealO s pg).2 [] (sealO s pg).1) := by
  obtain ⟨-, cx, -⟩ := h.cells
  have hxl := cell_lt cx
  obtain ⟨W1, hW1⟩ : ∃ W1, W1 = w.alloc (.cells #[.int .i64 3, .int .i64 cls, .int .i64 at_, .int .i64 n, .int .i64 pg] 31) := ⟨_, rfl⟩
  have hb1 : Below w.heap.size w W1 := by rw [hW1]; exact (Below.refl _ _).alloc (Nat.le_refl _) _
  have hbox : W1.heap[w.heap.size]? = some (.cells #[.int .i64 3, .int .i64 cls, .int .i64 at_, .int .i64 n, .int .i64 pg] 31 (0, 0)) := by rw [hW1]; exact heap_alloc_new _ _
  have h1 := (h.below hb1).heap.drew
  have hoffx : ¬ H.F x := (h.below hb1).heap.offT (h.below hb1).obj (by decide)
  have hoffb : ¬ H.F w.heap.size := (h.below hb1).heap.offT hbox (by decide)
  have hob1 := (h.below hb1).obj
  have x1 : W1.cell? ⟨x, 1, none⟩ = some (.pointer (some ⟨H.h, 0, none⟩)) := cell_past hb1 hxl cx
  have q0 := cell_of_block hbox 0
  have q1 := cell_of_block hbox 1
  have q2 := cell_of_block hbox 2
  have q3 := cell_of_block hbox 3
  have q4 := cell_of_block hbox 4
  have HB1 := Lib.hid hb1
  have H1 := Lib.hid h1
  have HOFF := Lib.hid (And.intro hoffx hoffb)
  have HOB := Lib.hid hob1
  have HLT := Lib.hid h
  clear h hb1 hbox h1 hoffx hoffb hob1 cx
  go_enter Tryz.func11, Tryz.ntmps11
  go_upto_region 10 with (fail)
  rw [← hW1]
  clear hW1
  have HC := Lib.hid (hsealO_any H1.out hI pg)
  (refine wp_region_held_drew (S := fun W : World => W.cell? ⟨x, 1, none⟩ = some (.pointer (some ⟨H.h, 0, none⟩)) ∧ W.cell? ⟨w.heap.size, 1, none⟩ = some (.int .i64 cls) ∧ W.cell? ⟨w.heap.size, 2, none⟩ = some (.int .i64 at_) ∧ W.cell? ⟨w.heap.size, 3, none⟩ = some (.int .i64 n) ∧ W.cell? ⟨w.heap.size, 4, none⟩ = some (.int .i64 pg)) (by kernel_rfl) (by exact ⟨x1, q1, q2, q3, q4⟩) (fun hHeld0 => ?_))
  (refine wpAnyH_take (i := 0) (v := ?_) rfl (by kernel_rfl) (by kernel_rfl) (by kernel_rfl) (fun _ _ _ h => h) (Or.inl ⟨by rfl, ?_⟩) (by assumption) ?_; rotate_left; focus (intro w hSw; (try dsimp only at hSw); go_simp; first | done | with_reducible rfl); (try simp only [Act.put, List.setIfInBounds_toArray, List.set_cons_zero, List.set_cons_succ, List.getElem_toArray, List.getElem_cons_zero, List.getElem_cons_succ]))
  (refine wpAnyH_take (i := 1) (v := ?_) rfl (by kernel_rfl) (by kernel_rfl) (by kernel_rfl) (fun _ _ _ h => h) (Or.inl ⟨by rfl, ?_⟩) (by assumption) ?_; rotate_left; focus (intro w hSw; (try dsimp only at hSw); go_simp; first | done | with_reducible rfl); (try simp only [Act.put, List.setIfInBounds_toArray, List.set_cons_zero, List.set_cons_succ, List.getElem_toArray, List.getElem_cons_zero, List.getElem_cons_succ]))
  (refine wpAnyH_take (i := 2) (v := ?_) rfl (by kernel_rfl) (by kernel_rfl) (by kernel_rfl) (fun _ _ _ h => h) (Or.inl ⟨by rfl, ?_⟩) (by assumption) ?_; rotate_left; focus (intro w hSw; (try dsimp only at hSw); go_simp; first | done | with_reducible rfl); (try simp only [Act.put, List.setIfInBounds_toArray, List.set_cons_zero, List.set_cons_succ, List.getElem_toArray, List.getElem_cons_zero, List.getElem_cons_succ]))
  (refine wpAnyH_take (i := 3) (v := ?_) rfl (by kernel_rfl) (by kernel_rfl) (by kernel_rfl) (fun _ _ _ h => h) (Or.inl ⟨by rfl, ?_⟩) (by assumption) ?_; rotate_left; focus (intro w hSw; (try dsimp only at hSw); go_simp; first | done | with_reducible rfl); (try simp only [Act.put, List.setIfInBounds_toArray, List.set_cons_zero, List.set_cons_succ, List.getElem_toArray, List.getElem_cons_zero, List.getElem_cons_succ]))
  (refine wpAnyH_take (i := 4) (v := ?_) rfl (by kernel_rfl) (by kernel_rfl) (by kernel_rfl) (fun _ _ _ h => h) (Or.inl ⟨by rfl, ?_⟩) (by assumption) ?_; rotate_left; focus (intro w hSw; (try dsimp only at hSw); go_simp; first | done | with_reducible rfl); (try simp only [Act.put, List.setIfInBounds_toArray, List.set_cons_zero, List.set_cons_succ, List.getElem_toArray, List.getElem_cons_zero, List.getElem_cons_succ]))
  (refine wpAnyH_take (i := 5) (v := ?_) rfl (by kernel_rfl) (by kernel_rfl) (by kernel_rfl) (fun _ _ _ h => h) (Or.inl ⟨by rfl, ?_⟩) (by assumption) ?_; rotate_left; focus (intro w hSw; (try dsimp only at hSw); go_simp; first | done | with_reducible rfl); (try simp only [Act.put, List.setIfInBounds_toArray, List.set_cons_zero, List.set_cons_succ, List.getElem_toArray, List.getElem_cons_zero, List.getElem_cons_succ]))
  (refine wpAnyH_ready (rs := [6]) (by kernel_rfl) (by simp) ?_; refine AllReadyH.cons rfl (fun K hK => ?_) AllReadyH.nil; go_simp)
  go_wp2_with (fail)
  refine HC.out.mono ?_
  (rintro e w4 hp; have HPP := Lib.hid hp; have htt : Turned H.F W1 w4 := (Turned.of_below (F := H.F) (Below.drew (Below.refl _ W1)) (Nat.le_refl _)).trans (by obtain ⟨-, H', -, -, -, -, -, t⟩ := hp; exact t) (fun _ h _ => h); have hs4 := htt.size; have hsW := HB1.out.size; obtain ⟨rfl, -⟩ := hp; (refine hK.out _ _ ⟨turned_cell htt HOFF.out.1 x1, turned_cell htt HOFF.out.2 q1, turned_cell htt HOFF.out.2 q2, turned_cell htt HOFF.out.2 q3, turned_cell htt HOFF.out.2 q4⟩ (fun hHeld => ?_); clear hK K hHeld0; (try simp only [Act.put, List.setIfInBounds_toArray, List.set_cons_zero, List.set_cons_succ, List.getElem_toArray, List.getElem_cons_zero, List.getElem_cons_succ])); clear htt x1 q0 q1 q2 q3 q4)
  (refine wpAnyH_take (i := 7) (v := ?_) rfl (by kernel_rfl) (by kernel_rfl) (by kernel_rfl) (fun _ _ _ h => h) (Or.inl ⟨by rfl, ?_⟩) (by assumption) ?_; rotate_left; focus (intro w hSw; (try dsimp only at hSw); go_simp; first | done | with_reducible rfl); (try simp only [Act.put, List.setIfInBounds_toArray, List.set_cons_zero, List.set_cons_succ, List.getElem_toArray, List.getElem_cons_zero, List.getElem_cons_succ]))
  (refine wpAnyH_take (i := 8) (v := ?_) rfl (by kernel_rfl) (by kernel_rfl) (by kernel_rfl) (fun _ _ _ h => h) (Or.inl ⟨by rfl, ?_⟩) (by assumption) ?_; rotate_left; focus (intro w hSw; (try dsimp only at hSw); go_simp; first | done | with_reducible rfl); (try simp only [Act.put, List.setIfInBounds_toArray, List.set_cons_zero, List.set_cons_succ, List.getElem_toArray, List.getElem_cons_zero, List.getElem_cons_succ]))
  refine wpAnyH_done (by kernel_rfl) ?_ _
  clear hHeld
  go_wp2
  go_ret2
  exact DoPost.of HLT.out (Below.drew HB1.out) HPP.out (Below.refl _ _) rfl (Ints.nil _ _)

set_option maxRecDepth 8000 in
set_option maxHeartbeats 2000000 in
theorem do4_any {w : World} {x base : Nat} {lv : Value} {H : OHL} {pages : Nat} {s : OP} (h : WorldO w x base lv H pages s) (hI : OInv pages s) (cls at_ n pg : Int) :
    Calls Tryz.prog 11 #[.pointer (some ⟨x, 0, none⟩), .agg #[.int .i64 4, .int .i64 cls, .int .i64 at_, .int .i64 n, .int .i64 pg]] w (DoPost w x base lv H pages s (unsealO s pg).2 [] (unsealO s pg).1) := by
  obtain ⟨-, cx, -⟩ := h.cells
  have hxl := cell_lt cx
  obtain ⟨W1, hW1⟩ : ∃ W1, W1 = w.alloc (.cells #[.int .i64 4, .int .i64 cls, .int .i64 at_, .int .i64 n, .int .i64 pg] 31) := ⟨_, rfl⟩
  have hb1 : Below w.heap.size w W1 := by rw [hW1]; exact (Below.refl _ _).alloc (Nat.le_refl _) _
  have hbox : W1.heap[w.heap.size]? = some (.cells #[.int .i64 4, .int .i64 cls, .int .i64 at_, .int .i64 n, .int .i64 pg] 31 (0, 0)) := by rw [hW1]; exact heap_alloc_new _ _
  have h1 := (h.below hb1).heap.drew
  have hoffx : ¬ H.F x := (h.below hb1).heap.offT (h.below hb1).obj (by decide)
  have hoffb : ¬ H.F w.heap.size := (h.below hb1).heap.offT hbox (by decide)
  have hob1 := (h.below hb1).obj
  have x1 : W1.cell? ⟨x, 1, none⟩ = some (.pointer (some ⟨H.h, 0, none⟩)) := cell_past hb1 hxl cx
  have q0 := cell_of_block hbox 0
  have q1 := cell_of_block hbox 1
  have q2 := cell_of_block hbox 2
  have q3 := cell_of_block hbox 3
  have q4 := cell_of_block hbox 4
  have HB1 := Lib.hid hb1
  have H1 := Lib.hid h1
  have HOFF := Lib.hid (And.intro hoffx hoffb)
  have HOB := Lib.hid hob1
  have HLT := Lib.hid h
  clear h hb1 hbox h1 hoffx hoffb hob1 cx
  go_enter Tryz.func11, Tryz.ntmps11
  go_upto_region 12 with (fail)
  rw [← hW1]
  clear hW1
  have HC := Lib.hid (hunsealO_any H1.out hI pg)
  (refine wp_region_held_drew (S := fun W : World => W.cell? ⟨x, 1, none⟩ = some (.pointer (some ⟨H.h, 0, none⟩)) ∧ W.cell? ⟨w.heap.size, 1, none⟩ = some (.int .i64 cls) ∧ W.cell? ⟨w.heap.size, 2, none⟩ = some (.int .i64 at_) ∧ W.cell? ⟨w.heap.size, 3, none⟩ = some (.int .i64 n) ∧ W.cell? ⟨w.heap.size, 4, none⟩ = some (.int .i64 pg)) (by kernel_rfl) (by exact ⟨x1, q1, q2, q3, q4⟩) (fun hHeld0 => ?_))
  (refine wpAnyH_take (i := 0) (v := ?_) rfl (by kernel_rfl) (by kernel_rfl) (by kernel_rfl) (fun _ _ _ h => h) (Or.inl ⟨by rfl, ?_⟩) (by assumption) ?_; rotate_left; focus (intro w hSw; (try dsimp only at hSw); go_simp; first | done | with_reducible rfl); (try simp only [Act.put, List.setIfInBounds_toArray, List.set_cons_zero, List.set_cons_succ, List.getElem_toArray, List.getElem_cons_zero, List.getElem_cons_succ]))
  (refine wpAnyH_take (i := 1) (v := ?_) rfl (by kernel_rfl) (by kernel_rfl) (by kernel_rfl) (fun _ _ _ h => h) (Or.inl ⟨by rfl, ?_⟩) (by assumption) ?_; rotate_left; focus (intro w hSw; (try dsimp only at hSw); go_simp; first | done | with_reducible rfl); (try simp only [Act.put, List.setIfInBounds_toArray, List.set_cons_zero, List.set_cons_succ, List.getElem_toArray, List.getElem_cons_zero, List.getElem_cons_succ]))
  (refine wpAnyH_take (i := 2) (v := ?_) rfl (by kernel_rfl) (by kernel_rfl) (by kernel_rfl) (fun _ _ _ h => h) (Or.inl ⟨by rfl, ?_⟩) (by assumption) ?_; rotate_left; focus (intro w hSw; (try dsimp only at hSw); go_simp; first | done | with_reducible rfl); (try simp only [Act.put, List.setIfInBounds_toArray, List.set_cons_zero, List.set_cons_succ, List.getElem_toArray, List.getElem_cons_zero, List.getElem_cons_succ]))
  (refine wpAnyH_take (i := 3) (v := ?_) rfl (by kernel_rfl) (by kernel_rfl) (by kernel_rfl) (fun _ _ _ h => h) (Or.inl ⟨by rfl, ?_⟩) (by assumption) ?_; rotate_left; focus (intro w hSw; (try dsimp only at hSw); go_simp; first | done | with_reducible rfl); (try simp only [Act.put, List.setIfInBounds_toArray, List.set_cons_zero, List.set_cons_succ, List.getElem_toArray, List.getElem_cons_zero, List.getElem_cons_succ]))
  (refine wpAnyH_take (i := 4) (v := ?_) rfl (by kernel_rfl) (by kernel_rfl) (by kernel_rfl) (fun _ _ _ h => h) (Or.inl ⟨by rfl, ?_⟩) (by assumption) ?_; rotate_left; focus (intro w hSw; (try dsimp only at hSw); go_simp; first | done | with_reducible rfl); (try simp only [Act.put, List.setIfInBounds_toArray, List.set_cons_zero, List.set_cons_succ, List.getElem_toArray, List.getElem_cons_zero, List.getElem_cons_succ]))
  (refine wpAnyH_take (i := 5) (v := ?_) rfl (by kernel_rfl) (by kernel_rfl) (by kernel_rfl) (fun _ _ _ h => h) (Or.inl ⟨by rfl, ?_⟩) (by assumption) ?_; rotate_left; focus (intro w hSw; (try dsimp only at hSw); go_simp; first | done | with_reducible rfl); (try simp only [Act.put, List.setIfInBounds_toArray, List.set_cons_zero, List.set_cons_succ, List.getElem_toArray, List.getElem_cons_zero, List.getElem_cons_succ]))
  (refine wpAnyH_ready (rs := [6]) (by kernel_rfl) (by simp) ?_; refine AllReadyH.cons rfl (fun K hK => ?_) AllReadyH.nil; go_simp)
  go_wp2_with (fail)
  refine HC.out.mono ?_
  (rintro e w4 hp; have HPP := Lib.hid hp; have htt : Turned H.F W1 w4 := (Turned.of_below (F := H.F) (Below.drew (Below.refl _ W1)) (Nat.le_refl _)).trans (by obtain ⟨-, H', -, -, -, -, -, t⟩ := hp; exact t) (fun _ h _ => h); have hs4 := htt.size; have hsW := HB1.out.size; obtain ⟨rfl, -⟩ := hp; (refine hK.out _ _ ⟨turned_cell htt HOFF.out.1 x1, turned_cell htt HOFF.out.2 q1, turned_cell htt HOFF.out.2 q2, turned_cell htt HOFF.out.2 q3, turned_cell htt HOFF.out.2 q4⟩ (fun hHeld => ?_); clear hK K hHeld0; (try simp only [Act.put, List.setIfInBounds_toArray, List.set_cons_zero, List.set_cons_succ, List.getElem_toArray, List.getElem_cons_zero, List.getElem_cons_succ])); clear htt x1 q0 q1 q2 q3 q4)
  (refine wpAnyH_take (i := 7) (v := ?_) rfl (by kernel_rfl) (by kernel_rfl) (by kernel_rfl) (fun _ _ _ h => h) (Or.inl ⟨by rfl, ?_⟩) (by assumption) ?_; rotate_left; focus (intro w hSw; (try dsimp only at hSw); go_simp; first | done | with_reducible rfl); (try simp only [Act.put, List.setIfInBounds_toArray, List.set_cons_zero, List.set_cons_succ, List.getElem_toArray, List.getElem_cons_zero, List.getElem_cons_succ]))
  (refine wpAnyH_take (i := 8) (v := ?_) rfl (by kernel_rfl) (by kernel_rfl) (by kernel_rfl) (fun _ _ _ h => h) (Or.inl ⟨by rfl, ?_⟩) (by assumption) ?_; rotate_left; focus (intro w hSw; (try dsimp only at hSw); go_simp; first | done | with_reducible rfl); (try simp only [Act.put, List.setIfInBounds_toArray, List.set_cons_zero, List.set_cons_succ, List.getElem_toArray, List.getElem_cons_zero, List.getElem_cons_succ]))
  refine wpAnyH_done (by kernel_rfl) ?_ _
  clear hHeld
  go_wp2
  go_ret2
  exact DoPost.of HLT.out (Below.drew HB1.out) HPP.out (Below.refl _ _) rfl (Ints.nil _ _)

set_option maxRecDepth 8000 in
set_option maxHeartbeats 2000000 in
theorem do2_any {w : World} {x base : Nat} {lv : Value} {H : OHL} {pages : Nat} {s : OP} (h : WorldO w x base lv H pages s) (hI : OInv pages s) (cls at_ n pg : Int) (hn : n < 2 ^ 63) :
    Calls Tryz.prog 11 #[.pointer (some ⟨x, 0, none⟩), .agg #[.int .i64 2, .int .i64 cls, .int .i64 at_, .int .i64 n, .int .i64 pg]] w (DoPost w x base lv H pages s (someO s cls n).2 (someO s cls n).1.1 (someO s cls n).1.2) := by
  obtain ⟨-, cx, -⟩ := h.cells
  have hxl := cell_lt cx
  obtain ⟨W1, hW1⟩ : ∃ W1, W1 = w.alloc (.cells #[.int .i64 2, .int .i64 cls, .int .i64 at_, .int .i64 n, .int .i64 pg] 31) := ⟨_, rfl⟩
  have hb1 : Below w.heap.size w W1 := by rw [hW1]; exact (Below.refl _ _).alloc (Nat.le_refl _) _
  have hbox : W1.heap[w.heap.size]? = some (.cells #[.int .i64 2, .int .i64 cls, .int .i64 at_, .int .i64 n, .int .i64 pg] 31 (0, 0)) := by rw [hW1]; exact heap_alloc_new _ _
  have h1 := (h.below hb1).heap.drew
  have hoffx : ¬ H.F x := (h.below hb1).heap.offT (h.below hb1).obj (by decide)
  have hoffb : ¬ H.F w.heap.size := (h.below hb1).heap.offT hbox (by decide)
  have hob1 := (h.below hb1).obj
  have x1 : W1.cell? ⟨x, 1, none⟩ = some (.pointer (some ⟨H.h, 0, none⟩)) := cell_past hb1 hxl cx
  have q0 := cell_of_block hbox 0
  have q1 := cell_of_block hbox 1
  have q2 := cell_of_block hbox 2
  have q3 := cell_of_block hbox 3
  have q4 := cell_of_block hbox 4
  have HB1 := Lib.hid hb1
  have H1 := Lib.hid h1
  have HOFF := Lib.hid (And.intro hoffx hoffb)
  have HOB := Lib.hid hob1
  have HLT := Lib.hid h
  clear h hb1 hbox h1 hoffx hoffb hob1 cx
  go_enter Tryz.func11, Tryz.ntmps11
  go_upto_region 8 with (fail)
  rw [← hW1]
  clear hW1
  have HC := Lib.hid (hsomeO_any H1.out hI cls n hn)
  (refine wp_region_held_drew (S := fun W : World => W.cell? ⟨x, 1, none⟩ = some (.pointer (some ⟨H.h, 0, none⟩)) ∧ W.cell? ⟨w.heap.size, 1, none⟩ = some (.int .i64 cls) ∧ W.cell? ⟨w.heap.size, 2, none⟩ = some (.int .i64 at_) ∧ W.cell? ⟨w.heap.size, 3, none⟩ = some (.int .i64 n) ∧ W.cell? ⟨w.heap.size, 4, none⟩ = some (.int .i64 pg)) (by kernel_rfl) (by exact ⟨x1, q1, q2, q3, q4⟩) (fun hHeld0 => ?_))
  (refine wpAnyH_take (i := 0) (v := ?_) rfl (by kernel_rfl) (by kernel_rfl) (by kernel_rfl) (fun _ _ _ h => h) (Or.inl ⟨by rfl, ?_⟩) (by assumption) ?_; rotate_left; focus (intro w hSw; (try dsimp only at hSw); go_simp; first | done | with_reducible rfl); (try simp only [Act.put, List.setIfInBounds_toArray, List.set_cons_zero, List.set_cons_succ, List.getElem_toArray, List.getElem_cons_zero, List.getElem_cons_succ]))
  (refine wpAnyH_take (i := 1) (v := ?_) rfl (by kernel_rfl) (by kernel_rfl) (by kernel_rfl) (fun _ _ _ h => h) (Or.inl ⟨by rfl, ?_⟩) (by assumption) ?_; rotate_left; focus (intro w hSw; (try dsimp only at hSw); go_simp; first | done | with_reducible rfl); (try simp only [Act.put, List.setIfInBounds_toArray, List.set_cons_zero, List.set_cons_succ, List.getElem_toArray, List.getElem_cons_zero, List.getElem_cons_succ]))
  (refine wpAnyH_take (i := 2) (v := ?_) rfl (by kernel_rfl) (by kernel_rfl) (by kernel_rfl) (fun _ _ _ h => h) (Or.inl ⟨by rfl, ?_⟩) (by assumption) ?_; rotate_left; focus (intro w hSw; (try dsimp only at hSw); go_simp; first | done | with_reducible rfl); (try simp only [Act.put, List.setIfInBounds_toArray, List.set_cons_zero, List.set_cons_succ, List.getElem_toArray, List.getElem_cons_zero, List.getElem_cons_succ]))
  (refine wpAnyH_take (i := 3) (v := ?_) rfl (by kernel_rfl) (by kernel_rfl) (by kernel_rfl) (fun _ _ _ h => h) (Or.inl ⟨by rfl, ?_⟩) (by assumption) ?_; rotate_left; focus (intro w hSw; (try dsimp only at hSw); go_simp; first | done | with_reducible rfl); (try simp only [Act.put, List.setIfInBounds_toArray, List.set_cons_zero, List.set_cons_succ, List.getElem_toArray, List.getElem_cons_zero, List.getElem_cons_succ]))
  (refine wpAnyH_take (i := 4) (v := ?_) rfl (by kernel_rfl) (by kernel_rfl) (by kernel_rfl) (fun _ _ _ h => h) (Or.inl ⟨by rfl, ?_⟩) (by assumption) ?_; rotate_left; focus (intro w hSw; (try dsimp only at hSw); go_simp; first | done | with_reducible rfl); (try simp only [Act.put, List.setIfInBounds_toArray, List.set_cons_zero, List.set_cons_succ, List.getElem_toArray, List.getElem_cons_zero, List.getElem_cons_succ]))
  (refine wpAnyH_take (i := 5) (v := ?_) rfl (by kernel_rfl) (by kernel_rfl) (by kernel_rfl) (fun _ _ _ h => h) (Or.inl ⟨by rfl, ?_⟩) (by assumption) ?_; rotate_left; focus (intro w hSw; (try dsimp only at hSw); go_simp; first | done | with_reducible rfl); (try simp only [Act.put, List.setIfInBounds_toArray, List.set_cons_zero, List.set_cons_succ, List.getElem_toArray, List.getElem_cons_zero, List.getElem_cons_succ]))
  (refine wpAnyH_take (i := 6) (v := ?_) rfl (by kernel_rfl) (by kernel_rfl) (by kernel_rfl) (fun _ _ _ h => h) (Or.inl ⟨by rfl, ?_⟩) (by assumption) ?_; rotate_left; focus (intro w hSw; (try dsimp only at hSw); go_simp; first | done | with_reducible rfl); (try simp only [Act.put, List.setIfInBounds_toArray, List.set_cons_zero, List.set_cons_succ, List.getElem_toArray, List.getElem_cons_zero, List.getElem_cons_succ]))
  (refine wpAnyH_take (i := 7) (v := ?_) rfl (by kernel_rfl) (by kernel_rfl) (by kernel_rfl) (fun _ _ _ h => h) (Or.inl ⟨by rfl, ?_⟩) (by assumption) ?_; rotate_left; focus (intro w hSw; (try dsimp only at hSw); go_simp; first | done | with_reducible rfl); (try simp only [Act.put, List.setIfInBounds_toArray, List.set_cons_zero, List.set_cons_succ, List.getElem_toArray, List.getElem_cons_zero, List.getElem_cons_succ]))
  (refine wpAnyH_ready (rs := [8]) (by kernel_rfl) (by simp) ?_; refine AllReadyH.cons rfl (fun K hK => ?_) AllReadyH.nil; go_simp)
  go_wp2_with (fail)
  refine HC.out.mono ?_
  rintro e w4 ⟨v, hp, hi4⟩
  have HI4 := Lib.hid hi4
  clear hi4
  have HPP := Lib.hid hp
  have htt : Turned H.F W1 w4 := (Turned.of_below (F := H.F) (Below.drew (Below.refl _ W1)) (Nat.le_refl _)).trans (by obtain ⟨-, H', -, -, -, -, -, t⟩ := hp; exact t) (fun _ h _ => h)
  have hs4 := htt.size
  have hsW := HB1.out.size
  obtain ⟨rfl, -⟩ := hp
  (refine hK.out _ _ ⟨turned_cell htt HOFF.out.1 x1, turned_cell htt HOFF.out.2 q1, turned_cell htt HOFF.out.2 q2, turned_cell htt HOFF.out.2 q3, turned_cell htt HOFF.out.2 q4⟩ (fun hHeld => ?_); clear hK K hHeld0; (try simp only [Act.put, List.setIfInBounds_toArray, List.set_cons_zero, List.set_cons_succ, List.getElem_toArray, List.getElem_cons_zero, List.getElem_cons_succ]))
  clear htt x1 q0 q1 q2 q3 q4
  (refine wpAnyH_take (i := 9) (v := ?_) rfl (by kernel_rfl) (by kernel_rfl) (by kernel_rfl) (fun _ _ _ h => h) (Or.inl ⟨by rfl, ?_⟩) (by assumption) ?_; rotate_left; focus (intro w hSw; (try dsimp only at hSw); go_simp; first | done | with_reducible rfl); (try simp only [Act.put, List.setIfInBounds_toArray, List.set_cons_zero, List.set_cons_succ, List.getElem_toArray, List.getElem_cons_zero, List.getElem_cons_succ]))
  (refine wpAnyH_take (i := 10) (v := ?_) rfl (by kernel_rfl) (by kernel_rfl) (by kernel_rfl) (fun _ _ _ h => h) (Or.inl ⟨by rfl, ?_⟩) (by assumption) ?_; rotate_left; focus (intro w hSw; (try dsimp only at hSw); go_simp; first | done | with_reducible rfl); (try simp only [Act.put, List.setIfInBounds_toArray, List.set_cons_zero, List.set_cons_succ, List.getElem_toArray, List.getElem_cons_zero, List.getElem_cons_succ]))
  (refine wpAnyH_take (i := 11) (v := ?_) rfl (by kernel_rfl) (by kernel_rfl) (by kernel_rfl) (fun _ _ _ h => h) (Or.inl ⟨by rfl, ?_⟩) (by assumption) ?_; rotate_left; focus (intro w hSw; (try dsimp only at hSw); go_simp; first | done | with_reducible rfl); (try simp only [Act.put, List.setIfInBounds_toArray, List.set_cons_zero, List.set_cons_succ, List.getElem_toArray, List.getElem_cons_zero, List.getElem_cons_succ]))
  (refine wpAnyH_take (i := 12) (v := ?_) rfl (by kernel_rfl) (by kernel_rfl) (by kernel_rfl) (fun _ _ _ h => h) (Or.inl ⟨by rfl, ?_⟩) (by assumption) ?_; rotate_left; focus (intro w hSw; (try dsimp only at hSw); go_simp; first | done | with_reducible rfl); (try simp only [Act.put, List.setIfInBounds_toArray, List.set_cons_zero, List.set_cons_succ, List.getElem_toArray, List.getElem_cons_zero, List.getElem_cons_succ]))
  refine wpAnyH_done (by kernel_rfl) ?_ _
  clear hHeld
  go_wp2
  go_ret2
  exact DoPost.of HLT.out (Below.drew HB1.out) HPP.out (Below.refl _ _) rfl (HI4.out.mono (show w.heap.size ≤ W1.heap.size from hsW))

end Go.Proofs.YtlljejmblmjjnaaGreatDoor

/- The law's Great; a call and what it does to the plain heap. -/
namespace Go.Proofs.YtlljejmblmjjnaaGreatDoor
set_option linter.unusedVariables false
set_option linter.unusedSimpArgs false
open Go.RowKit Go.ChangeMaps

structure CallM where
  what : Int
  cls : Int
  at_ : Int
  n : Int
  pg : Int
def callV (c : CallM) : List Value := [.int .i64 c.what, .int .i64 c.cls, .int .i64 c.at_, .int .i64 c.n, .int .i64 c.pg]
def callA (c : CallM) : Value := .agg #[.int .i64 c.what, .int .i64 c.cls, .int .i64 c.at_, .int .i64 c.n, .int .i64 c.pg]
structure CallOk (c : CallM) : Prop where
  n : c.n < 2 ^ 63
  pg : -2 ^ 63 ≤ c.pg ∧ c.pg < 2 ^ 63
def CallsAt (w : World) (pv : Option Addr) (cs : List CallM) : Prop :=
  ∀ i (h : i < cs.length), ∃ g o, pv = some ⟨g, o, none⟩ ∧ ∀ j v, (callV cs[i])[j]? = some v → w.cell? ⟨g, o + i * 5 + j, none⟩ = some v
theorem CallsAt.below {w W : World} {pv : Option Addr} {cs : List CallM} (h : CallsAt w pv cs) (hb : Below w.heap.size w W) : CallsAt W pv cs := by
  intro i hi
  obtain ⟨g, o, e, hc⟩ := h i hi
  exact ⟨g, o, e, fun j v hv => cell_past hb (cell_lt (hc j v hv)) (hc j v hv)⟩

def doO (s : OP) (c : CallM) : (List Int × Int) × OP :=
  if c.what = 0 then (([(takeO s c.cls).1.1], (takeO s c.cls).1.2), (takeO s c.cls).2)
  else if c.what = 1 then (([], (giveO s c.at_).1), (giveO s c.at_).2)
  else if c.what = 2 then someO s c.cls c.n
  else if c.what = 3 then (([], (sealO s c.pg).1), (sealO s c.pg).2)
  else if c.what = 4 then (([], (unsealO s c.pg).1), (unsealO s c.pg).2)
  else (([], 0), s)
theorem someO_good {pages : Nat} {s : OP} (h : OGood pages s) (cls n : Int) : OGood pages (someO s cls n).2 := by
  unfold someO
  split
  · exact some_goodO _ _ _ _ h
  · exact h
theorem someO_inv {pages : Nat} {s : OP} (h : OInv pages s) (cls n : Int) : OInv pages (someO s cls n).2 := by
  unfold someO
  split
  · exact some_invO _ _ _ _ h
  · exact h
theorem doO_good {pages : Nat} {s : OP} (h : OGood pages s) (c : CallM) : OGood pages (doO s c).2 := by
  unfold doO
  split
  · exact take_goodO h _
  · split
    · exact give_goodO h _
    · split
      · exact someO_good h _ _
      · split
        · exact seal_goodO h _
        · split
          · exact unseal_goodO h _
          · exact h
theorem doO_inv {pages : Nat} {s : OP} (h : OInv pages s) (c : CallM) : OInv pages (doO s c).2 := by
  unfold doO
  split
  · exact take_invO h _
  · split
    · exact give_invO h _
    · split
      · exact someO_inv h _ _
      · split
        · exact (seal_invO h _).1
        · split
          · exact (unseal_invO h _).1
          · exact h
theorem do_any {w : World} {x base : Nat} {lv : Value} {H : OHL} {pages : Nat} {s : OP} (h : WorldO w x base lv H pages s) (hI : OInv pages s) (c : CallM) (hc : CallOk c) (h0 : 0 ≤ c.what) (h5 : c.what < 5) :
    Calls Tryz.prog 11 #[.pointer (some ⟨x, 0, none⟩), callA c] w (DoPost w x base lv H pages s (doO s c).2 (doO s c).1.1 (doO s c).1.2) := by
  obtain ⟨what, cls, at_, n, pg⟩ := c
  unfold callA doO
  simp only at h0 h5 ⊢
  obtain rfl | rfl | rfl | rfl | rfl : what = 0 ∨ what = 1 ∨ what = 2 ∨ what = 3 ∨ what = 4 := by omega
  · exact do0_any h hI cls at_ n pg
  · exact do1_any h hI cls at_ n pg
  · exact do2_any h hI cls at_ n pg hc.n
  · exact do3_any h hI cls at_ n pg
  · exact do4_any h hI cls at_ n pg

def greatB (n : Int) (k : Nat) : Bool := decide (60 < n) || decide (60 < k)

set_option maxRecDepth 8000 in
set_option maxHeartbeats 2000000 in
theorem great_any (n : Int) (k : Nat) (pv : Option Addr) (cap : Nat) (w : World) :
    Calls Tryz.prog 8 #[.int .i64 n, .slice pv k cap] w fun e w' => e = .returned (.bool (greatB n k)) ∧ w = w' := by
  by_cases h1 : 60 < n
  · have HR : Hid (greatB n k = true) := by show _ = _; unfold greatB; simp [h1]
    go_enter Tryz.func8, Tryz.ntmps8
    go_wp2
    go_ret
    exact ⟨by rw [HR.out]; rfl, rfl⟩
  · by_cases h2 : (60 : Int) < k
    · have HR : Hid (greatB n k = true) := by show _ = _; unfold greatB; simp; omega
      go_enter Tryz.func8, Tryz.ntmps8
      go_wp2
      go_ret
      exact ⟨by rw [HR.out]; rfl, rfl⟩
    · have HR : Hid (greatB n k = false) := by show _ = _; unfold greatB; simp; omega
      go_enter Tryz.func8, Tryz.ntmps8
      go_wp2
      go_ret
      exact ⟨by rw [HR.out]; rfl, rfl⟩

/-- A run of calls of the first five kinds; others are passed over. -/
def foldO (s : OP) (cs : List CallM) : OP := cs.foldl (fun s c => (doO s c).2) s
theorem foldO_succ {s : OP} {cs : List CallM} {k : Nat} (hk : k < cs.length) : foldO s (cs.take (k + 1)) = (doO (foldO s (cs.take k)) cs[k]).2 := by
  unfold foldO
  rw [List.take_succ_eq_append_getElem hk, List.foldl_append]
  rfl
theorem doO_out {s : OP} {c : CallM} (h : ¬ (0 ≤ c.what ∧ c.what < 5)) : (doO s c).2 = s := by
  unfold doO
  rw [if_neg (by omega), if_neg (by omega), if_neg (by omega), if_neg (by omega), if_neg (by omega)]
def s0 (pages : Nat) : OP := ⟨initR pages, [], R0⟩
/-- The law's world on its way: behind Begin, with no slab away and no large span. -/
structure QuietI (w wr : World) (x : Nat) (lv : Value) (H : OHL) (pages : Nat) (s : OP) : Prop where
  at_ : WorldO wr x w.heap.size lv H pages s
  good : OGood pages s
  left : H.left = [] ∧ H.G = [] ∧ H.c = 0
  foot : ∀ k, H.F k → w.heap.size ≤ k
  x : w.heap.size ≤ x
  below : Below w.heap.size w wr
theorem QuietI.below' {w w1 w2 : World} {x : Nat} {lv : Value} {H : OHL} {pages : Nat} {s : OP} (h : QuietI w w1 x lv H pages s) (hb : Below w1.heap.size w1 w2) : QuietI w w2 x lv H pages s :=
  ⟨h.at_.below hb, h.good, h.left, h.foot, h.x, Below.via hb h.below.size h.below⟩
theorem QuietI.next {w w1 w2 : World} {x : Nat} {lv : Value} {H H' : OHL} {pages : Nat} {s s' : OP} (h : QuietI w w1 x lv H pages s) (ha : WorldO w2 x w.heap.size lv H' pages s') (hg : OGood pages s') (h1 : H'.left = H.left) (h2 : H'.G = H.G) (h3 : H'.c = H.c) (ho : H.Of H' w1.heap.size) (ht : Turned H.F w1 w2) : QuietI w w2 x lv H' pages s' :=
  ⟨ha, hg, ⟨h1.trans h.left.1, h2.trans h.left.2.1, h3.trans h.left.2.2⟩, fun k hk => (ho.foot k hk).elim (h.foot k) (fun e => Nat.le_trans h.below.size e), h.x, h.below.trans (ht.below (B := w.heap.size) h.foot h.below.size)⟩
theorem BeginPostO.quiet {w w' : World} {pages : Nat} {e : Ending} (h : BeginPostO w pages e w') : ∃ x y H, e = .returned (.tuple #[.pointer (some ⟨x, 0, none⟩), .pointer (some ⟨y, 0, none⟩)]) ∧ QuietI w w' x (.slice none 0 0) H pages (s0 pages) := by
  obtain ⟨x, y, H, he, h1, h2, h3, h4, h5, h6, h7, h8⟩ := h
  refine ⟨x, y, H, he, ⟨h1, ?_, h2⟩, init_goodO pages h2.ground.spans.tile, ⟨h3, h4, h5⟩, h6, h7, h8⟩
  rw [h3]
  exact World.ownsRow_nil _ _ _ _

end Go.Proofs.YtlljejmblmjjnaaGreatDoor

/- SameInts; what the heap of 'alive' comes to. (printed by gen_td.py) -/
namespace Go.Proofs.YtlljejmblmjjnaaGreatDoor
set_option linter.unusedVariables false
set_option linter.unusedSimpArgs false
open Go.RowKit Go.ChangeMaps

def IntsAt (w : World) (pv : Option Addr) (xs : List Int) : Prop :=
  ∀ i (h : i < xs.length), ∃ g o, pv = some ⟨g, o, none⟩ ∧ w.cell? ⟨g, o + i, none⟩ = some (.int .i64 xs[i])

theorem IntsAt.below {w W : World} {pv : Option Addr} {xs : List Int} (h : IntsAt w pv xs) (hb : Below w.heap.size w W) : IntsAt W pv xs := by
  intro i hi
  obtain ⟨g, o, e, hc⟩ := h i hi
  exact ⟨g, o, e, cell_past hb (cell_lt hc) hc⟩

theorem take_eq_step {α : Type} [DecidableEq α] {xs ys : List α} {k : Nat} (h : xs.take k = ys.take k) (hx : k < xs.length) (hy : k < ys.length) (e : xs[k] = ys[k]) : xs.take (k + 1) = ys.take (k + 1) := by
  rw [List.take_succ_eq_append_getElem hx, List.take_succ_eq_append_getElem hy, h, e]

theorem eq_of_takes {α : Type} {xs ys : List α} (hl : xs.length = ys.length) (h : xs.take xs.length = ys.take xs.length) : xs = ys := by
  rw [List.take_length] at h
  rw [hl, List.take_length] at h
  exact h

set_option maxRecDepth 100000 in
set_option maxHeartbeats 4000000 in
theorem sameInts_any (w : World) (pa pb : Option Addr) (ca cb : Nat) (xs ys : List Int) (ha : IntsAt w pa xs) (hb : IntsAt w pb ys) (hl : (xs.length : Int) < 9223372036854775807) :
    Calls Tryz.prog 26 #[.slice pa xs.length ca, .slice pb ys.length cb] w fun e w' => e = .returned (.bool (decide (xs = ys))) ∧ Below w.heap.size w w' := by
  generalize hr : decide (xs = ys) = r
  have HR := Lib.hid hr
  clear hr
  by_cases hlen : xs.length = ys.length
  · have hne : ((xs.length : Int) != (ys.length : Int)) = false := by simp [hlen]
    go_enter Tryz.func26, Tryz.ntmps26
    go_wp2
    go_loopw [5] (fun i wr => ∃ k : Nat, k ≤ xs.length ∧ i = .int .i64 k ∧ xs.take k = ys.take k ∧ Below w.heap.size w wr) (fun i _ => xs.length - (intOf i).toNat)
    case atStart => exact ⟨0, Nat.zero_le _, rfl, rfl, Below.refl _ _⟩
    case round =>
      obtain ⟨k, hk, rfl, htk, hbl⟩ := hrel
      by_cases hlt : k < xs.length
      · obtain ⟨g, o, rfl, hc1⟩ := ha k hlt
        obtain ⟨g2, o2, rfl, hc2⟩ := hb k (by omega)
        have y1 := cell_past hbl (cell_lt hc1) hc1
        have y2 := cell_past hbl (cell_lt hc2) hc2
        have hT := Lib.hid (take_eq_step htk hlt (by omega))
        have hN : xs[k] ≠ ys[k]'(by omega) → xs ≠ ys := fun h1 h2 => h1 (by simp [h2])
        have HN := Lib.hid hN
        clear hN htk ha hb hc1 hc2
        generalize xs[k] = a at *
        generalize ys[k]'(by omega) = b at *
        have hi1 : (0 : Int) ≤ k ∧ (k : Int) < xs.length := by omega
        have hi2 : (0 : Int) ≤ k ∧ (k : Int) < ys.length := by omega
        have hkw : IntKind.i64.wrap ((k : Int) + 1) = (k : Int) + 1 := by rw [IntKind.wrap_i64]; omega
        by_cases e : a = b
        · have e1 : (a != b) = false := by simp [e]
          have HE := Lib.hid e
          clear e
          go_wp2
          (refine wp_region_quiet_ext (by kernel_rfl) (by kernel_rfl) ?_; (repeat (first | go_big_quiet_step ((fail)) | quiet_step ((fail)))); refine wpQuiet_nil ?_; intro w1 hw1; obtain hb := below_of_ext hw1; clear hw1; obtain ⟨hc, hf⟩ := bcell hb; have hz := hb.size; (try simp at hz))
          go_wp2
          go_roundw
          case rel => exact ⟨k + 1, by omega, by go_num, hT.out HE.out, hbl.trans (hb.mono hbl.size)⟩
          case measure => simp [intOf]; omega
        · have e1 : (a != b) = true := by simp [e]
          have e2 : decide (xs = ys) = false := by simp [HN.out e]
          have HE := Lib.hid e2
          clear e e2
          go_wp2
          (refine wp_region_quiet_ext (by kernel_rfl) (by kernel_rfl) ?_; (repeat (first | go_big_quiet_step ((fail)) | quiet_step ((fail)))); refine wpQuiet_nil ?_; intro w1 hw1; obtain hb := below_of_ext hw1; clear hw1; obtain ⟨hc, hf⟩ := bcell hb; have hz := hb.size; (try simp at hz))
          go_wp2
          go_ret
          exact ⟨by rw [← HR.out, HE.out]; rfl, hbl.trans (hb.mono hbl.size)⟩
      · obtain rfl : k = xs.length := by omega
        have e : decide (xs = ys) = true := by simp [eq_of_takes hlen htk]
        have HE := Lib.hid e
        clear htk e
        go_wp2
        go_ret
        exact ⟨by rw [← HR.out, HE.out]; rfl, hbl⟩
  · have hne : ((xs.length : Int) != (ys.length : Int)) = true := by simp; omega
    have e : decide (xs = ys) = false := by simp; intro e; rw [e] at hlen; exact hlen rfl
    have HE := Lib.hid e
    clear e
    go_enter Tryz.func26, Tryz.ntmps26
    go_wp2
    go_ret
    exact ⟨by rw [← HR.out, HE.out]; rfl, Below.refl _ _⟩


theorem Ints.at {w : World} {base : Nat} {v : Value} {l : List Int} (h : Ints w base v l) : ∃ p cap, v = .slice p l.length cap ∧ IntsAt w p l := by
  obtain ⟨p, cap, rfl, hc⟩ := h
  refine ⟨p, cap, rfl, fun i hi => ?_⟩
  obtain ⟨g, rfl, -, h1⟩ := hc (fun e => by rw [e] at hi; exact absurd hi (Nat.not_lt_zero _))
  refine ⟨g, 0, rfl, ?_⟩
  rw [Nat.zero_add, h1 i hi, List.getD_eq_getElem?_getD, List.getElem?_eq_getElem hi]
  rfl

def al1 : OP := (takeO (s0 16) 15).2
def al2 : OP := (takeO al1 15).2
def al3 : OP := (takeO al2 15).2
def al4 : OP := (giveO al3 0).2
def al5 : OP := (sealO al4 4).2
def al6 : OP := (giveO al5 512).2
def al7 : OP := (giveO al6 1024).2
def alX : PO := ⟨0, 15, 0, false⟩
def al8 : OP := joinO (leaveO al7 alX) alX
theorem al1_is : takeO (s0 16) 15 = ((0, 0), al1) := Prod.ext (show (takeO (s0 16) 15).1 = (0, 0) by kernel_rfl) rfl
theorem al2_is : takeO al1 15 = ((512, 0), al2) := Prod.ext (show (takeO al1 15).1 = (512, 0) by kernel_rfl) rfl
theorem al3_is : takeO al2 15 = ((1024, 0), al3) := Prod.ext (show (takeO al2 15).1 = (1024, 0) by kernel_rfl) rfl
theorem al3_full : al3.R (4 * 15 + 1) = [0] := by kernel_rfl
theorem al3_find : findO al3.A 512 = some (⟨0, 15, 3, false⟩, 1) := by kernel_rfl
theorem al3_has : hasO al3.A 512 = true := by kernel_rfl
theorem al4_is : giveO al3 0 = (0, al4) := Prod.ext (show (giveO al3 0).1 = 0 by kernel_rfl) rfl
theorem al4_part : al4.R (4 * 15 + 0) = [0, 1] := by kernel_rfl
theorem al5_is : sealO al4 4 = (0, al5) := Prod.ext (show (sealO al4 4).1 = 0 by kernel_rfl) rfl
theorem al5_get : getO al5.A 0 = some ⟨0, 15, 2, false⟩ := by kernel_rfl
theorem al6_is : giveO al5 512 = (0, al6) := Prod.ext (show (giveO al5 512).1 = 0 by kernel_rfl) rfl
theorem al7_is : giveO al6 1024 = (0, al7) := Prod.ext (show (giveO al6 1024).1 = 0 by kernel_rfl) rfl
theorem al7_A : al7.A = [alX] := by kernel_rfl
theorem al8_l : al8.l = al7.l := rfl
theorem al8_A : al8.A = al7.A := by kernel_rfl
theorem al8_R : ((List.range 64).all fun k => al8.R k == al7.R k) = true := by kernel_rfl
theorem al8_Rk (k : Nat) (hk : k < 64) : al8.R k = al7.R k := by
  have := List.all_eq_true.1 al8_R k (List.mem_range.2 hk)
  simpa using this
theorem al8_good (h : OGood 16 al7) : OGood 16 al8 := by
  obtain ⟨⟨a, b, c, d, e, f, g⟩, o⟩ := h
  have hn : ∀ x ∈ al7.A, x.num < 64 := fun x hx => by
    rw [al7_A] at hx
    obtain rfl := List.mem_singleton.1 hx
    decide
  refine ⟨⟨by rw [al8_l]; exact a, by rw [al8_A]; exact b, by rw [al8_A]; exact c, by rw [al8_A, al8_l]; exact d, ?_, ?_, ?_⟩, ?_⟩
  · intro x hx
    rw [al8_A] at hx
    rw [al8_Rk _ (hn x hx)]
    exact e x hx
  · intro k hk q hq
    rw [al8_Rk k hk] at hq
    rw [al8_A]
    exact f k hk q hq
  · intro k hk
    rw [al8_Rk k hk]
    exact g k hk
  · intro c hc
    rw [al8_Rk _ (by omega)]
    exact o c hc
theorem al8_pages : pagesIO al8 = [0] := by kernel_rfl
theorem al8_taken : takenOP al8.A = [] := by kernel_rfl
theorem al8_free : (slA 15 - ones 2 (slA 15) : Nat) = 1 := by kernel_rfl
theorem al8_ready : (nextO al8 15).isSome = true := by kernel_rfl
theorem al8_un0 : unsealO al8 0 = (20, al8) := Prod.ext (show (unsealO al8 0).1 = 20 by kernel_rfl) (by kernel_rfl)
theorem al8_un4 : unsealO al8 4 = (16, al8) := Prod.ext (show (unsealO al8 4).1 = 16 by kernel_rfl) (by kernel_rfl)

theorem QuietI.step {w w1 w2 : World} {x : Nat} {lv : Value} {H : OHL} {pages : Nat} {s s' : OP} {v : Value} {e : Ending} (h : QuietI w w1 x lv H pages s) (hp : OMPost w1 H pages s s' v e w2) (hg : OGood pages s') : ∃ H' : OHL, QuietI w w2 x lv H' pages s' ∧ H'.h = H.h ∧ Turned H.F w1 w2 ∧ H.Of H' w1.heap.size := by
  obtain ⟨-, H', q1, q2, q3, q4, q5, q6⟩ := hp
  have hx : ¬ H.F x := h.at_.heap.offT h.at_.obj (by decide)
  refine ⟨H', h.next ⟨?_, ?_, q4⟩ hg q1 q2 q3 q5 q6, q5.h, q6, q5⟩
  · rw [q5.gr, q5.h]
    exact (q6.block _ (lt_of_block h.at_.obj) hx).trans h.at_.obj
  · rw [q1]
    exact ownsRow_turned q6 h.at_.row fun g cs hg => h.at_.heap.offT hg (by decide)
theorem QuietI.cx {w w1 : World} {x : Nat} {lv : Value} {H : OHL} {pages : Nat} {s : OP} (h : QuietI w w1 x lv H pages s) : w1.cell? ⟨x, 1, none⟩ = some (.pointer (some ⟨H.h, 0, none⟩)) := h.at_.cells.2.1
/-- A block of another kind stays. -/
theorem OHeapM.stay {w1 w2 : World} {H : OHL} {pages : Nat} {s : OP} (h : OHeapM w1 H pages s) (t : Turned H.F w1 w2) {g : Nat} {cs : Array Value} {T : TypeId} (hg : w1.heap[g]? = some (.cells cs T (0, 0)))
    (hT : [80, 86, 154, 148, 97, 191, 187, 166, 169, 108, 177, 208, 211, 161].contains T = false) : w2.heap[g]? = some (.cells cs T (0, 0)) :=
  (t.block _ (lt_of_block hg) (h.offT hg hT)).trans hg
/-- A row of ints stays. -/
theorem OHeapM.stayR {w1 w2 : World} {H : OHL} {pages : Nat} {s : OP} (h : OHeapM w1 H pages s) (t : Turned H.F w1 w2) {base n : Nat} {v : Value} {xs : List Value} (hr : w1.ownsRow base 3 1 v n xs) : w2.ownsRow base 3 1 v n xs :=
  ownsRow_turned t hr fun g cs hg => h.offT hg (by decide)
theorem rowI_below {w1 w2 : World} (hb : Below w1.heap.size w1 w2) {base n : Nat} {v : Value} {xs : List Value} {T : TypeId} {m : Nat} (hr : w1.ownsRow base T m v n xs) : w2.ownsRow base T m v n xs :=
  ownsRow_turned (F := fun _ => False) (Turned.of_below hb (Nat.le_refl _)) hr (fun _ _ _ e => e)
/-- A clone of a slab, apart from a heap. -/
structure CloneI (w : World) (H : OHL) (L : OL) (S : OM) : Prop where
  at_ : OSlabAt w L S
  s : ¬ H.F L.s
  r : ¬ H.F L.r
  b : ¬ H.F L.b
theorem CloneI.step {w w' : World} {H H' : OHL} {L : OL} {S : OM} (h : CloneI w H L S) (t : Turned H.F w w') (ho : H.Of H' w.heap.size) : CloneI w' H' L S := by
  obtain ⟨⟨c1, e1⟩, ⟨c2, e2⟩, ⟨c3, e3⟩⟩ := h.at_.blocks
  have hoff : ∀ k, k < w.heap.size → ¬ H.F k → ¬ H'.F k := fun k hk hn hF => by
    rcases ho.foot k hF with e | e
    · exact hn e
    · omega
  exact ⟨h.at_.turned t h.s h.r h.b, hoff _ (lt_of_block e1) h.s, hoff _ (lt_of_block e2) h.r, hoff _ (lt_of_block e3) h.b⟩
theorem CloneI.below {w w' : World} {H : OHL} {L : OL} {S : OM} (h : CloneI w H L S) (hb : Below w.heap.size w w') : CloneI w' H L S := ⟨h.at_.below hb, h.s, h.r, h.b⟩

end Go.Proofs.YtlljejmblmjjnaaGreatDoor
