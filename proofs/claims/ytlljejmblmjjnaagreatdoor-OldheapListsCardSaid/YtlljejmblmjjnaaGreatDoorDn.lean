/- spans: Give, a taken run follows. -/
import Derived.Test.YtlljejmblmjjnaaGreatDoorDm
import Derived.WalkKit
import Derived.WalkSpells
import Derived.WalkLawsBesides
import Derived.BigQuiet
import Derived.Lib.Hide
namespace Go.Proofs.YtlljejmblmjjnaaGreatDoor
set_option linter.unusedVariables false
set_option linter.unusedSimpArgs false
open Go.RowKit Go.ChangeMaps

set_option maxRecDepth 8000 in
set_option maxHeartbeats 40000000 in
theorem give_taken (sp pages k : Nat) (v : Value) (l : List Run) (r : Run) (w : World) (h : SpansAt w sp v pages l) (hk : l[k]? = some r) (ht : r.taken = true) (p : Run) (hn : l[k + 1]? = some p) (hpt : p.taken = true) :
    Calls Tryz.prog 87 #[.pointer (some ⟨sp, 0, none⟩), .int .i64 r.page] w (SpTook w sp pages v (giveR l k r) (r.n : Nat) 0) := by
  have hkl : k < l.length := (List.getElem?_eq_some_iff.1 hk).1
  have hbd := h.tile.bounds r (List.mem_of_getElem? hk)
  have hll := h.tile.length_le
  have hm := h.most
  have hst : r.page < r.stop := by unfold Run.stop; omega
  have hix : idxR r.page l = k := idxR_at h.tile hk (Nat.le_refl _) hst
  have hfr : findR pages l (r.page : Int) = some r := by
    unfold findR
    rw [if_pos (by omega), Int.toNat_natCast, hix]
    exact hk
  have hF := find_any sp pages (r.page : Int) v l w h
  rw [hfr] at hF
  have HF := Lib.hid hF
  have HIX := Lib.hid (fun (W : World) (hb : Below w.heap.size w W) => by have hX := index_yes sp pages r.page v l W (h.below hb) (by omega); rw [hix] at hX; exact hX)
  have HTILE := Lib.hid (give_tile h.tile hk)
  obtain ⟨g, cap, cur, rfl, hrow⟩ := RowIn.of_spans h (by omega)
  have c1 : w.cell? ⟨sp, 1, none⟩ = some (.slice (some ⟨g, 0, none⟩) l.length cap) := by rw [cell_of_block h.obj]; rfl
  have hspl := lt_of_block h.obj
  have hgsp : g ≠ sp := (h.lt.2 g rfl).2
  have hgl := lt_of_block hrow.at_
  have HROW := Lib.hid hrow
  have HOBJ := Lib.hid h.obj
  have HREP : Hid (∀ (X : World) (q : Nat) (x y : Int) (a b : Nat) (R : Run), x = a → y = b → a < b → b ≤ l.length → Below w.heap.size w X → X.heap[q]? = some (.cells #[.int .i64 R.page, .int .i64 R.n, .bool R.taken] 108 (0, 0)) → w.heap.size ≤ q →
      Calls Tryz.prog 126 #[.slice (some ⟨g, 0, none⟩) l.length cap, .int .i64 x, .int .i64 y, .slice (some ⟨q, 0, none⟩) 1 1] X (ReplDone X g (repl l [R] a b))) := by
    intro X q x y a b R hx hy hab hbl hbX hq hwq
    subst hx; subst hy
    exact replace_any l [R] a b g cap q 1 1 cur (runsV [R]) X (HROW.out.turned (Turned.of_below (F := fun _ => False) hbX (Nat.le_refl _)) (fun h => h)) ⟨hq, rfl, Nat.le_refl _, by decide, rfl⟩ (by omega) hab hbl (show 0 < 1 by decide) (show 1 ≤ 1000 by decide) (by omega)
  have HNEXT : Hid (∀ j (hj : j < l.length), w.cell? ⟨g, j * 3, none⟩ = some (.int .i64 (l[j].page : Int)) ∧ w.cell? ⟨g, j * 3 + 1, none⟩ = some (.int .i64 (l[j].n : Int)) ∧ w.cell? ⟨g, j * 3 + 2, none⟩ = some (.bool l[j].taken)) := fun j hj => hrow.cells hj
  have HBD := Lib.hid h.tile.bounds
  have HRG := Lib.hid (giveR_repl l k r)
  have hp0 : r.page ≤ 4096 := by omega
  have hp1 : r.n ≤ 4096 := by unfold Run.stop at hbd; omega
  rw [show findV (some r) = .tuple #[.agg #[.int .i64 r.page, .int .i64 r.n, .bool r.taken], .bool true] from rfl, ht] at HF
  have HK := Lib.hid hk
  have HT := Lib.hid ht
  have hk1 : (k : Int) < 4096 := by omega
  clear h hrow hF hfr hix hst hbd hk ht
  generalize hp0' : r.page = p0 at *
  generalize hp1' : r.n = p1 at *
  have HP0 := Lib.hid hp0'
  have HP1 := Lib.hid hp1'
  clear hp0' hp1'
  go_enter Tryz.func87, Tryz.ntmps87
  go_wp2_with (fail)
  refine HF.out.mono ?_
  rintro e w1 ⟨rfl, hb⟩
  have HB1 := Lib.hid hb
  have hz1 := hb.size
  clear hb
  go_wp2_with (fail)
  refine (HIX.out _ (HB1.out.alloc hz1 _)).mono ?_
  rintro e w2 ⟨rfl, hb2⟩
  have HBLK : Hid (w2.heap[w1.heap.size]? = some (.cells #[.int .i64 (p0 : Int), .int .i64 (p1 : Int), .bool true] 108 (0, 0))) := (hb2.block _ (by simp)).trans (heap_alloc_new _ _)
  have HB2 := Lib.hid (show Below w.heap.size w w2 from Below.via hb2 (by simp; omega) (HB1.out.alloc hz1 _))
  have t0 : w2.cell? ⟨w1.heap.size, 0, none⟩ = some (.int .i64 (p0 : Int)) := cell_of_block HBLK.out 0
  have t1 : w2.cell? ⟨w1.heap.size, 1, none⟩ = some (.int .i64 (p1 : Int)) := cell_of_block HBLK.out 1
  have t2 : w2.cell? ⟨w1.heap.size, 2, none⟩ = some (.bool true) := cell_of_block HBLK.out 2
  have u2 := frozen_of_block HBLK.out 2
  clear hb2
  go_upto_region 8 with (fail)
  obtain ⟨W3, hW3⟩ : ∃ W3, W3 = w2.setCell ⟨w1.heap.size, 2, none⟩ (.bool false) := ⟨_, rfl⟩
  have HB3 := Lib.hid (show Below w.heap.size w W3 by rw [hW3]; exact HB2.out.setCell (by simpa using hz1) _)
  have HBLK3 : Hid (W3.heap[w1.heap.size]? = some (.cells #[.int .i64 (p0 : Int), .int .i64 (p1 : Int), .bool false] 108 (0, 0))) := by
    show _ = _
    rw [hW3, heap_setCell_eq HBLK.out]
    rfl
  rw [← hW3]
  clear hW3 t0 t1 t2 u2 HBLK HB2
  have hO : w.heap.size ≤ w1.heap.size := hz1
  generalize w1.heap.size = O at *
  have d3 := cell_past HB3.out hspl c1
  have t1 : W3.cell? ⟨O, 1, none⟩ = some (.int .i64 (p1 : Int)) := cell_of_block HBLK3.out 1
  have t0 : W3.cell? ⟨O, 0, none⟩ = some (.int .i64 (p0 : Int)) := cell_of_block HBLK3.out 0
  have hl1 : k + 1 < l.length := (List.getElem?_eq_some_iff.1 hn).1
  have hl2 : (k : Int) + 1 < l.length := by omega
  have hl3 : (0 : Int) ≤ (k : Int) + 1 := by omega
  have hl4 : ((k : Int) + 1).toNat = k + 1 := by omega
  obtain ⟨N, hN⟩ : ∃ N, N = p1 := ⟨_, rfl⟩
  obtain ⟨B, hB⟩ : ∃ B, B = k + 1 := ⟨_, rfl⟩
  have HTO : Hid (giveTo l k = B) := by show _ = _; unfold giveTo; simp only [hn, hpt, if_true]; exact hB.symm
  have HGN : Hid (giveN l k r = N) := by show _ = _; unfold giveN; simp only [hn, hpt, if_true]; rw [hN]; exact HP1.out
  have HBL : Hid (B ≤ l.length) := show _ ≤ _ by omega
  have HB := Lib.hid hB
  have x2 := cell_past HB3.out hgl (HNEXT.out (k + 1) hl1).2.2
  rw [(List.getElem?_eq_some_iff.1 hn).2, hpt] at x2
  clear hn hB hpt
  set_option maxRecDepth 30000 in go_upto_region 11 with (fail)
  obtain ⟨W4, hW4⟩ : ∃ W4, W4 = W3 := ⟨_, rfl⟩
  have HB4 : Hid (Below w.heap.size w W4) := by rw [hW4]; exact HB3
  have HBLK4 : Hid (W4.heap[O]? = some (.cells #[.int .i64 (p0 : Int), .int .i64 (N : Int), .bool false] 108 (0, 0))) := by rw [hW4, hN]; exact HBLK3
  have hNb : N ≤ 8192 := by omega
  rw [← hW4]
  clear hW4 d3 t0 t1 hN x2 hl2 hl3 hl4
  have d4 := cell_past HB4.out hspl c1
  have s1 : W4.cell? ⟨O, 1, none⟩ = some (.int .i64 (N : Int)) := cell_of_block HBLK4.out 1
  have hOl4 := lt_of_block HBLK4.out
  have hz4 := HB4.out.size
  by_cases hk0 : k = 0
  · have hkz : ¬ (0 : Int) < k := by omega
    have hfg := giveRun_zero (l := l) (r := r) hk0
    have HL : Hid (giveR l k r = repl l [⟨p0, N, false⟩] k B) := by
      show _ = _
      rw [HRG.out, HTO.out, hfg.1, hfg.2, HGN.out, HP0.out]
    clear hfg
    go_upto_region 15 with (fail)
    obtain ⟨W9, hW9⟩ : ∃ W9, W9 = W4 := ⟨_, rfl⟩
    obtain ⟨N0, hN0⟩ : ∃ N0, N0 = p0 := ⟨_, rfl⟩
    obtain ⟨N1, hN1⟩ : ∃ N1, N1 = N := ⟨_, rfl⟩
    obtain ⟨A, hA⟩ : ∃ A, A = k := ⟨_, rfl⟩
    have HB9 : Hid (Below w.heap.size w W9) := by rw [hW9]; exact HB4
    have HBLK9 : Hid (W9.heap[O]? = some (.cells #[.int .i64 (N0 : Int), .int .i64 (N1 : Int), .bool false] 108 (0, 0))) := by rw [hW9, hN0, hN1]; exact HBLK4
    have HL : Hid (giveR l k r = repl l [⟨N0, N1, false⟩] A B) := by show _ = _; rw [hN0, hN1, hA]; exact HL.out
    have HAB : Hid (A < B ∧ B ≤ l.length) := show _ ∧ _ by rw [hA]; have := HBL.out; have := HB.out; omega
    have HA := Lib.hid hA
    clear hA hk0 hN0 hN1
    rw [← hW9]
    clear hW9 d4 s1
    have HWW : Hid True := trivial
    have d9 := cell_past HB9.out hspl c1
    have t0 : W9.cell? ⟨O, 0, none⟩ = some (.int .i64 (N0 : Int)) := cell_of_block HBLK9.out 0
    have t1 : W9.cell? ⟨O, 1, none⟩ = some (.int .i64 (N1 : Int)) := cell_of_block HBLK9.out 1
    have t2 : W9.cell? ⟨O, 2, none⟩ = some (.bool false) := cell_of_block HBLK9.out 2
    have hOl := lt_of_block HBLK9.out
    have hz9 := HB9.out.size
    have hOg : O ≠ g := by omega
    have hspO : sp ≠ O := by omega
    have HBY := Lib.hid (Below.drew (Below.alloc HB9.out hz9 (.cells #[.int .i64 (N0 : Int), .int .i64 (N1 : Int), .bool false] 108)))
    refine wp_region_held_drew (S := fun W : World => W.cell? ⟨O, 0, none⟩ = some (.int .i64 (N0 : Int)) ∧ W.cell? ⟨O, 1, none⟩ = some (.int .i64 (N1 : Int)) ∧ W.cell? ⟨O, 2, none⟩ = some (.bool false)) (by kernel_rfl) ?_ (fun hHeld0 => ?_)
    · exact ⟨t0, t1, t2⟩
    (refine wpAnyH_take (i := 0) (v := ?_) rfl (by kernel_rfl) (by kernel_rfl) (by kernel_rfl) (fun _ _ _ h => h) (Or.inl ⟨by rfl, ?_⟩) (by assumption) ?_; rotate_left; focus (intro w hSw; (try dsimp only at hSw); go_simp; first | done | with_reducible rfl); (try simp only [Act.put, List.setIfInBounds_toArray, List.set_cons_zero, List.set_cons_succ, List.getElem_toArray, List.getElem_cons_zero, List.getElem_cons_succ]))
    (refine wpAnyH_take (i := 1) (v := ?_) rfl (by kernel_rfl) (by kernel_rfl) (by kernel_rfl) (fun _ _ _ h => h) (Or.inl ⟨by rfl, ?_⟩) (by assumption) ?_; rotate_left; focus (intro w hSw; (try dsimp only at hSw); go_simp; first | done | with_reducible rfl); (try simp only [Act.put, List.setIfInBounds_toArray, List.set_cons_zero, List.set_cons_succ, List.getElem_toArray, List.getElem_cons_zero, List.getElem_cons_succ]))
    (refine wpAnyH_take (i := 2) (v := ?_) rfl (by kernel_rfl) (by kernel_rfl) (by kernel_rfl) (fun _ _ _ h => h) (Or.inl ⟨by rfl, ?_⟩) (by assumption) ?_; rotate_left; focus (intro w hSw; (try dsimp only at hSw); go_simp; first | done | with_reducible rfl); (try simp only [Act.put, List.setIfInBounds_toArray, List.set_cons_zero, List.set_cons_succ, List.getElem_toArray, List.getElem_cons_zero, List.getElem_cons_succ]))
    (refine wpAnyH_take (i := 3) (v := ?_) rfl (by kernel_rfl) (by kernel_rfl) (by kernel_rfl) (fun _ _ _ h => h) (Or.inl ⟨by rfl, ?_⟩) (by assumption) ?_; rotate_left; focus (intro w hSw; (try dsimp only at hSw); go_simp; first | done | with_reducible rfl); (try simp only [Act.put, List.setIfInBounds_toArray, List.set_cons_zero, List.set_cons_succ, List.getElem_toArray, List.getElem_cons_zero, List.getElem_cons_succ]))
    (refine wpAnyH_take (i := 5) (v := ?_) rfl (by kernel_rfl) (by kernel_rfl) (by kernel_rfl) (fun _ _ _ h => h) (Or.inl ⟨by rfl, ?_⟩) (by assumption) ?_; rotate_left; focus (intro w hSw; (try dsimp only at hSw); go_simp; first | done | with_reducible rfl); (try simp only [Act.put, List.setIfInBounds_toArray, List.set_cons_zero, List.set_cons_succ, List.getElem_toArray, List.getElem_cons_zero, List.getElem_cons_succ]))
    (refine wpAnyH_take (i := 6) (v := ?_) rfl (by kernel_rfl) (by kernel_rfl) (by kernel_rfl) (fun _ _ _ h => h) (Or.inl ⟨by rfl, ?_⟩) (by assumption) ?_; rotate_left; focus (intro w hSw; (try dsimp only at hSw); go_simp; first | done | with_reducible rfl); (try simp only [Act.put, List.setIfInBounds_toArray, List.set_cons_zero, List.set_cons_succ, List.getElem_toArray, List.getElem_cons_zero, List.getElem_cons_succ]))
    (refine wpAnyH_take (i := 7) (v := ?_) rfl (by kernel_rfl) (by kernel_rfl) (by kernel_rfl) (fun _ _ _ h => h) (Or.inl ⟨by rfl, ?_⟩) (by assumption) ?_; rotate_left; focus (intro w hSw; (try dsimp only at hSw); go_simp; first | done | with_reducible rfl); (try simp only [Act.put, List.setIfInBounds_toArray, List.set_cons_zero, List.set_cons_succ, List.getElem_toArray, List.getElem_cons_zero, List.getElem_cons_succ]))
    refine wpAnyH_ready (rs := [4, 8]) (by kernel_rfl) (by simp) ?_
    refine AllReadyH.cons rfl (fun K hK => ?_) (AllReadyH.cons rfl (fun K hK => ?_) AllReadyH.nil)
    · go_simp
      have d9' : W9.drew.cell? ⟨sp, 1, none⟩ = some (.slice (some ⟨g, 0, none⟩) l.length cap) := d9
      go_wp2_with (fail)
      refine hK.out _ _ hHeld0 (fun hHeld => ?_)
      clear hK K d9'
      (try simp only [Act.put, List.setIfInBounds_toArray, List.set_cons_zero, List.set_cons_succ, List.getElem_toArray, List.getElem_cons_zero, List.getElem_cons_succ])
      refine wpAnyH_ready (rs := [8]) (by kernel_rfl) (by simp) ?_
      refine AllReadyH.cons rfl (fun K hK => ?_) AllReadyH.nil
      go_simp
      go_wp2_with (fail)
      obtain ⟨X, hX⟩ : ∃ X, X = (W9.alloc (.cells #[.int .i64 (N0 : Int), .int .i64 (N1 : Int), .bool false] 108)).drew := ⟨_, rfl⟩
      have HBX : Hid (Below w.heap.size w X) := by rw [hX]; exact HBY.out
      have HQX : Hid (X.heap[W9.heap.size]? = some (.cells #[.int .i64 (N0 : Int), .int .i64 (N1 : Int), .bool false] 108 (0, 0))) := by rw [hX]; exact heap_alloc_new W9 _
      have dX : X.cell? ⟨sp, 1, none⟩ = some (.slice (some ⟨g, 0, none⟩) l.length cap) := by rw [hX]; exact (World.cell?_alloc_past _ _ _ (cell_lt d9)).trans d9
      have tX0 : X.cell? ⟨O, 0, none⟩ = some (.int .i64 (N0 : Int)) := by rw [hX]; exact (World.cell?_alloc_past _ _ _ (cell_lt t0)).trans t0
      have tX1 : X.cell? ⟨O, 1, none⟩ = some (.int .i64 (N1 : Int)) := by rw [hX]; exact (World.cell?_alloc_past _ _ _ (cell_lt t1)).trans t1
      have tX2 : X.cell? ⟨O, 2, none⟩ = some (.bool false) := by rw [hX]; exact (World.cell?_alloc_past _ _ _ (cell_lt t2)).trans t2
      rw [← hX]
      refine hK.out _ X ⟨tX0, tX1, tX2⟩ (fun hHeld => ?_)
      clear hK K d9 t0 t1 t2 hHeld0
      clear hX
      (try simp only [Act.put, List.setIfInBounds_toArray, List.set_cons_zero, List.set_cons_succ, List.getElem_toArray, List.getElem_cons_zero, List.getElem_cons_succ])
      refine wpAnyH_ready (rs := [9]) (by kernel_rfl) (by simp) ?_
      refine AllReadyH.cons rfl (fun K hK => ?_) AllReadyH.nil
      go_simp
      refine (HREP.out _ _ _ _ A B ⟨N0, N1, false⟩ (by have := HA.out; omega) (by have := HB.out; omega) HAB.out.1 HAB.out.2 HBX.out HQX.out hz9).mono ?_
      rintro e w8 ⟨g', cap', cur', rfl, hrow8, hg8, ht8⟩
      have k0 := turned_cell ht8 (Ne.symm hgsp) dX
      have k1 := turned_cell ht8 hOg tX0
      have k2 := turned_cell ht8 hOg tX1
      have k3 := turned_cell ht8 hOg tX2
      have HT8 := Lib.hid ((Turned.of_below (F := spF sp (.slice (some ⟨g, 0, none⟩) l.length cap)) HBX.out (Nat.le_refl _)).trans ht8 (fun x hx _ => .inr (by rw [hx]; rfl)))
      have HOBJ8 := Lib.hid ((ht8.block _ (by have := HBX.out.size; omega) (Ne.symm hgsp)).trans ((HBX.out.block _ hspl).trans HOBJ.out))
      have f8 := frozen_of_block HOBJ8.out 1
      have HROW8 := Lib.hid hrow8
      have HG8 : Hid (g' = g ∨ w.heap.size ≤ g') := (hg8.imp id (fun hh => Nat.le_trans HBX.out.size hh))
      clear hrow8 hg8 ht8 dX tX0 tX1 tX2
      go_wp2_with (fail)
      refine hK.out _ _ ?_ (fun hHeld => ?_)
      · exact ⟨k1, k2, k3⟩
      clear hK K
      (try simp only [Act.put, List.setIfInBounds_toArray, List.set_cons_zero, List.set_cons_succ, List.getElem_toArray, List.getElem_cons_zero, List.getElem_cons_succ])
      (refine wpAnyH_take (i := 10) (v := ?_) rfl (by kernel_rfl) (by kernel_rfl) (by kernel_rfl) (fun _ _ _ h => h) (Or.inl ⟨by rfl, ?_⟩) (by assumption) ?_; rotate_left; focus (intro w hSw; (try dsimp only at hSw); go_simp; first | done | with_reducible rfl); (try simp only [Act.put, List.setIfInBounds_toArray, List.set_cons_zero, List.set_cons_succ, List.getElem_toArray, List.getElem_cons_zero, List.getElem_cons_succ]))
      (refine wpAnyH_take (i := 11) (v := ?_) rfl (by kernel_rfl) (by kernel_rfl) (by kernel_rfl) (fun _ _ _ h => h) (Or.inl ⟨by rfl, ?_⟩) (by assumption) ?_; rotate_left; focus (intro w hSw; (try dsimp only at hSw); go_simp; first | done | with_reducible rfl); (try simp only [Act.put, List.setIfInBounds_toArray, List.set_cons_zero, List.set_cons_succ, List.getElem_toArray, List.getElem_cons_zero, List.getElem_cons_succ]))
      refine wpAnyH_ready (rs := [12]) (by kernel_rfl) (by simp) ?_
      refine AllReadyH.cons rfl (fun K hK => ?_) AllReadyH.nil
      go_simp
      go_wp2_with (fail)
      refine hK.out _ _ ?_ (fun hHeld => ?_)
      · exact ⟨(World.cell?_setCell_far _ _ _ _ hspO).trans k1, (World.cell?_setCell_far _ _ _ _ hspO).trans k2, (World.cell?_setCell_far _ _ _ _ hspO).trans k3⟩
      clear hK K
      (try simp only [Act.put, List.setIfInBounds_toArray, List.set_cons_zero, List.set_cons_succ, List.getElem_toArray, List.getElem_cons_zero, List.getElem_cons_succ])
      refine wpAnyH_done (by kernel_rfl) ?_ _
      go_wp2
      go_ret2
      have hgsp' : g' ≠ sp := by rcases HG8.out with h | h <;> omega
      have HROW9 := HROW8.out
      rw [← HL.out] at HROW9
      refine ⟨_, rfl, ⟨?_, (HROW9.turned (F := fun k => k = sp) (Turned.setCell (F := fun k => k = sp) (p := ⟨sp, 1, none⟩) (Turned.refl _ _) (.inl rfl) _) hgsp').own, HTILE.out, hm⟩, ?_, HT8.out.setCell (.inl (.inl rfl)) _⟩
      · rw [heap_setCell_eq HOBJ8.out, HL.out]
        rfl
      · rcases HG8.out with h | h
        · left; rw [h]; rfl
        · right; exact ⟨g', rfl, h⟩
    · go_simp
      go_wp2_with (fail)
      obtain ⟨X, hX⟩ : ∃ X, X = (W9.alloc (.cells #[.int .i64 (N0 : Int), .int .i64 (N1 : Int), .bool false] 108)).drew := ⟨_, rfl⟩
      have HBX : Hid (Below w.heap.size w X) := by rw [hX]; exact HBY.out
      have HQX : Hid (X.heap[W9.heap.size]? = some (.cells #[.int .i64 (N0 : Int), .int .i64 (N1 : Int), .bool false] 108 (0, 0))) := by rw [hX]; exact heap_alloc_new W9 _
      have dX : X.cell? ⟨sp, 1, none⟩ = some (.slice (some ⟨g, 0, none⟩) l.length cap) := by rw [hX]; exact (World.cell?_alloc_past _ _ _ (cell_lt d9)).trans d9
      have tX0 : X.cell? ⟨O, 0, none⟩ = some (.int .i64 (N0 : Int)) := by rw [hX]; exact (World.cell?_alloc_past _ _ _ (cell_lt t0)).trans t0
      have tX1 : X.cell? ⟨O, 1, none⟩ = some (.int .i64 (N1 : Int)) := by rw [hX]; exact (World.cell?_alloc_past _ _ _ (cell_lt t1)).trans t1
      have tX2 : X.cell? ⟨O, 2, none⟩ = some (.bool false) := by rw [hX]; exact (World.cell?_alloc_past _ _ _ (cell_lt t2)).trans t2
      rw [← hX]
      refine hK.out _ X ⟨tX0, tX1, tX2⟩ (fun hHeld => ?_)
      clear hK K d9 t0 t1 t2 hHeld0
      clear hX
      (try simp only [Act.put, List.setIfInBounds_toArray, List.set_cons_zero, List.set_cons_succ, List.getElem_toArray, List.getElem_cons_zero, List.getElem_cons_succ])
      refine wpAnyH_ready (rs := [4]) (by kernel_rfl) (by simp) ?_
      refine AllReadyH.cons rfl (fun K hK => ?_) AllReadyH.nil
      go_simp
      go_wp2_with (fail)
      refine hK.out _ _ hHeld (fun hHeld => ?_)
      clear hK K
      (try simp only [Act.put, List.setIfInBounds_toArray, List.set_cons_zero, List.set_cons_succ, List.getElem_toArray, List.getElem_cons_zero, List.getElem_cons_succ])
      refine wpAnyH_ready (rs := [9]) (by kernel_rfl) (by simp) ?_
      refine AllReadyH.cons rfl (fun K hK => ?_) AllReadyH.nil
      go_simp
      refine (HREP.out _ _ _ _ A B ⟨N0, N1, false⟩ (by have := HA.out; omega) (by have := HB.out; omega) HAB.out.1 HAB.out.2 HBX.out HQX.out hz9).mono ?_
      rintro e w8 ⟨g', cap', cur', rfl, hrow8, hg8, ht8⟩
      have k0 := turned_cell ht8 (Ne.symm hgsp) dX
      have k1 := turned_cell ht8 hOg tX0
      have k2 := turned_cell ht8 hOg tX1
      have k3 := turned_cell ht8 hOg tX2
      have HT8 := Lib.hid ((Turned.of_below (F := spF sp (.slice (some ⟨g, 0, none⟩) l.length cap)) HBX.out (Nat.le_refl _)).trans ht8 (fun x hx _ => .inr (by rw [hx]; rfl)))
      have HOBJ8 := Lib.hid ((ht8.block _ (by have := HBX.out.size; omega) (Ne.symm hgsp)).trans ((HBX.out.block _ hspl).trans HOBJ.out))
      have f8 := frozen_of_block HOBJ8.out 1
      have HROW8 := Lib.hid hrow8
      have HG8 : Hid (g' = g ∨ w.heap.size ≤ g') := (hg8.imp id (fun hh => Nat.le_trans HBX.out.size hh))
      clear hrow8 hg8 ht8 dX tX0 tX1 tX2
      go_wp2_with (fail)
      refine hK.out _ _ ?_ (fun hHeld => ?_)
      · exact ⟨k1, k2, k3⟩
      clear hK K
      (try simp only [Act.put, List.setIfInBounds_toArray, List.set_cons_zero, List.set_cons_succ, List.getElem_toArray, List.getElem_cons_zero, List.getElem_cons_succ])
      (refine wpAnyH_take (i := 10) (v := ?_) rfl (by kernel_rfl) (by kernel_rfl) (by kernel_rfl) (fun _ _ _ h => h) (Or.inl ⟨by rfl, ?_⟩) (by assumption) ?_; rotate_left; focus (intro w hSw; (try dsimp only at hSw); go_simp; first | done | with_reducible rfl); (try simp only [Act.put, List.setIfInBounds_toArray, List.set_cons_zero, List.set_cons_succ, List.getElem_toArray, List.getElem_cons_zero, List.getElem_cons_succ]))
      (refine wpAnyH_take (i := 11) (v := ?_) rfl (by kernel_rfl) (by kernel_rfl) (by kernel_rfl) (fun _ _ _ h => h) (Or.inl ⟨by rfl, ?_⟩) (by assumption) ?_; rotate_left; focus (intro w hSw; (try dsimp only at hSw); go_simp; first | done | with_reducible rfl); (try simp only [Act.put, List.setIfInBounds_toArray, List.set_cons_zero, List.set_cons_succ, List.getElem_toArray, List.getElem_cons_zero, List.getElem_cons_succ]))
      refine wpAnyH_ready (rs := [12]) (by kernel_rfl) (by simp) ?_
      refine AllReadyH.cons rfl (fun K hK => ?_) AllReadyH.nil
      go_simp
      go_wp2_with (fail)
      refine hK.out _ _ ?_ (fun hHeld => ?_)
      · exact ⟨(World.cell?_setCell_far _ _ _ _ hspO).trans k1, (World.cell?_setCell_far _ _ _ _ hspO).trans k2, (World.cell?_setCell_far _ _ _ _ hspO).trans k3⟩
      clear hK K
      (try simp only [Act.put, List.setIfInBounds_toArray, List.set_cons_zero, List.set_cons_succ, List.getElem_toArray, List.getElem_cons_zero, List.getElem_cons_succ])
      refine wpAnyH_done (by kernel_rfl) ?_ _
      go_wp2
      go_ret2
      have hgsp' : g' ≠ sp := by rcases HG8.out with h | h <;> omega
      have HROW9 := HROW8.out
      rw [← HL.out] at HROW9
      refine ⟨_, rfl, ⟨?_, (HROW9.turned (F := fun k => k = sp) (Turned.setCell (F := fun k => k = sp) (p := ⟨sp, 1, none⟩) (Turned.refl _ _) (.inl rfl) _) hgsp').own, HTILE.out, hm⟩, ?_, HT8.out.setCell (.inl (.inl rfl)) _⟩
      · rw [heap_setCell_eq HOBJ8.out, HL.out]
        rfl
      · rcases HG8.out with h | h
        · left; rw [h]; rfl
        · right; exact ⟨g', rfl, h⟩
  · obtain ⟨j, hj⟩ : ∃ j, k = j + 1 := ⟨k - 1, by omega⟩
    have hjl : j < l.length := by omega
    obtain ⟨y0, y1, y2⟩ := HNEXT.out j hjl
    have hjb := HBD.out l[j] (List.getElem_mem hjl)
    have hq0 : l[j].page ≤ 4096 ∧ l[j].n ≤ 4096 := by unfold Run.stop at hjb; omega
    have hkt : ((k : Int) - 1).toNat = j := by omega
    have hki : (0 : Int) ≤ (k : Int) - 1 ∧ (k : Int) - 1 < l.length := by omega
    have hkz : (0 : Int) < k := by omega
    have x0 := cell_past HB4.out hgl y0
    have x1 := cell_past HB4.out hgl y1
    have x2 := cell_past HB4.out hgl y2
    have hjs : l[j]? = some l[j] := List.getElem?_eq_getElem hjl
    cases hpt : l[j].taken with
    | true =>
      have hfg := giveRun_taken (r := r) hj hjs hpt
      have HL : Hid (giveR l k r = repl l [⟨p0, N, false⟩] k B) := by
        show _ = _
        rw [HRG.out, HTO.out, hfg.1, hfg.2, HGN.out, HP0.out]
      rw [hpt] at x2
      clear hfg hk0 hj hjs hpt y0 y1 y2 hjb
      generalize l[j].page = q0 at *
      generalize l[j].n = q1 at *
      set_option maxRecDepth 30000 in go_upto_region 15 with (fail)
      obtain ⟨W9, hW9⟩ : ∃ W9, W9 = W4 := ⟨_, rfl⟩
      obtain ⟨N0, hN0⟩ : ∃ N0, N0 = p0 := ⟨_, rfl⟩
      obtain ⟨N1, hN1⟩ : ∃ N1, N1 = N := ⟨_, rfl⟩
      obtain ⟨A, hA⟩ : ∃ A, A = k := ⟨_, rfl⟩
      have HB9 : Hid (Below w.heap.size w W9) := by rw [hW9]; exact HB4
      have HBLK9 : Hid (W9.heap[O]? = some (.cells #[.int .i64 (N0 : Int), .int .i64 (N1 : Int), .bool false] 108 (0, 0))) := by rw [hW9, hN0, hN1]; exact HBLK4
      have HL : Hid (giveR l k r = repl l [⟨N0, N1, false⟩] A B) := by show _ = _; rw [hN0, hN1, hA]; exact HL.out
      have HAB : Hid (A < B ∧ B ≤ l.length) := show _ ∧ _ by rw [hA]; have := HBL.out; have := HB.out; omega
      have HA := Lib.hid hA
      clear hA hN0 hN1
      rw [← hW9]
      clear hW9 d4 s1 x0 x1 x2
      have HWW : Hid True := trivial
      have d9 := cell_past HB9.out hspl c1
      have t0 : W9.cell? ⟨O, 0, none⟩ = some (.int .i64 (N0 : Int)) := cell_of_block HBLK9.out 0
      have t1 : W9.cell? ⟨O, 1, none⟩ = some (.int .i64 (N1 : Int)) := cell_of_block HBLK9.out 1
      have t2 : W9.cell? ⟨O, 2, none⟩ = some (.bool false) := cell_of_block HBLK9.out 2
      have hOl := lt_of_block HBLK9.out
      have hz9 := HB9.out.size
      have hOg : O ≠ g := by omega
      have hspO : sp ≠ O := by omega
      have HBY := Lib.hid (Below.drew (Below.alloc HB9.out hz9 (.cells #[.int .i64 (N0 : Int), .int .i64 (N1 : Int), .bool false] 108)))
      refine wp_region_held_drew (S := fun W : World => W.cell? ⟨O, 0, none⟩ = some (.int .i64 (N0 : Int)) ∧ W.cell? ⟨O, 1, none⟩ = some (.int .i64 (N1 : Int)) ∧ W.cell? ⟨O, 2, none⟩ = some (.bool false)) (by kernel_rfl) ?_ (fun hHeld0 => ?_)
      · exact ⟨t0, t1, t2⟩
      (refine wpAnyH_take (i := 0) (v := ?_) rfl (by kernel_rfl) (by kernel_rfl) (by kernel_rfl) (fun _ _ _ h => h) (Or.inl ⟨by rfl, ?_⟩) (by assumption) ?_; rotate_left; focus (intro w hSw; (try dsimp only at hSw); go_simp; first | done | with_reducible rfl); (try simp only [Act.put, List.setIfInBounds_toArray, List.set_cons_zero, List.set_cons_succ, List.getElem_toArray, List.getElem_cons_zero, List.getElem_cons_succ]))
      (refine wpAnyH_take (i := 1) (v := ?_) rfl (by kernel_rfl) (by kernel_rfl) (by kernel_rfl) (fun _ _ _ h => h) (Or.inl ⟨by rfl, ?_⟩) (by assumption) ?_; rotate_left; focus (intro w hSw; (try dsimp only at hSw); go_simp; first | done | with_reducible rfl); (try simp only [Act.put, List.setIfInBounds_toArray, List.set_cons_zero, List.set_cons_succ, List.getElem_toArray, List.getElem_cons_zero, List.getElem_cons_succ]))
      (refine wpAnyH_take (i := 2) (v := ?_) rfl (by kernel_rfl) (by kernel_rfl) (by kernel_rfl) (fun _ _ _ h => h) (Or.inl ⟨by rfl, ?_⟩) (by assumption) ?_; rotate_left; focus (intro w hSw; (try dsimp only at hSw); go_simp; first | done | with_reducible rfl); (try simp only [Act.put, List.setIfInBounds_toArray, List.set_cons_zero, List.set_cons_succ, List.getElem_toArray, List.getElem_cons_zero, List.getElem_cons_succ]))
      (refine wpAnyH_take (i := 3) (v := ?_) rfl (by kernel_rfl) (by kernel_rfl) (by kernel_rfl) (fun _ _ _ h => h) (Or.inl ⟨by rfl, ?_⟩) (by assumption) ?_; rotate_left; focus (intro w hSw; (try dsimp only at hSw); go_simp; first | done | with_reducible rfl); (try simp only [Act.put, List.setIfInBounds_toArray, List.set_cons_zero, List.set_cons_succ, List.getElem_toArray, List.getElem_cons_zero, List.getElem_cons_succ]))
      (refine wpAnyH_take (i := 5) (v := ?_) rfl (by kernel_rfl) (by kernel_rfl) (by kernel_rfl) (fun _ _ _ h => h) (Or.inl ⟨by rfl, ?_⟩) (by assumption) ?_; rotate_left; focus (intro w hSw; (try dsimp only at hSw); go_simp; first | done | with_reducible rfl); (try simp only [Act.put, List.setIfInBounds_toArray, List.set_cons_zero, List.set_cons_succ, List.getElem_toArray, List.getElem_cons_zero, List.getElem_cons_succ]))
      (refine wpAnyH_take (i := 6) (v := ?_) rfl (by kernel_rfl) (by kernel_rfl) (by kernel_rfl) (fun _ _ _ h => h) (Or.inl ⟨by rfl, ?_⟩) (by assumption) ?_; rotate_left; focus (intro w hSw; (try dsimp only at hSw); go_simp; first | done | with_reducible rfl); (try simp only [Act.put, List.setIfInBounds_toArray, List.set_cons_zero, List.set_cons_succ, List.getElem_toArray, List.getElem_cons_zero, List.getElem_cons_succ]))
      (refine wpAnyH_take (i := 7) (v := ?_) rfl (by kernel_rfl) (by kernel_rfl) (by kernel_rfl) (fun _ _ _ h => h) (Or.inl ⟨by rfl, ?_⟩) (by assumption) ?_; rotate_left; focus (intro w hSw; (try dsimp only at hSw); go_simp; first | done | with_reducible rfl); (try simp only [Act.put, List.setIfInBounds_toArray, List.set_cons_zero, List.set_cons_succ, List.getElem_toArray, List.getElem_cons_zero, List.getElem_cons_succ]))
      refine wpAnyH_ready (rs := [4, 8]) (by kernel_rfl) (by simp) ?_
      refine AllReadyH.cons rfl (fun K hK => ?_) (AllReadyH.cons rfl (fun K hK => ?_) AllReadyH.nil)
      · go_simp
        have d9' : W9.drew.cell? ⟨sp, 1, none⟩ = some (.slice (some ⟨g, 0, none⟩) l.length cap) := d9
        go_wp2_with (fail)
        refine hK.out _ _ hHeld0 (fun hHeld => ?_)
        clear hK K d9'
        (try simp only [Act.put, List.setIfInBounds_toArray, List.set_cons_zero, List.set_cons_succ, List.getElem_toArray, List.getElem_cons_zero, List.getElem_cons_succ])
        refine wpAnyH_ready (rs := [8]) (by kernel_rfl) (by simp) ?_
        refine AllReadyH.cons rfl (fun K hK => ?_) AllReadyH.nil
        go_simp
        go_wp2_with (fail)
        obtain ⟨X, hX⟩ : ∃ X, X = (W9.alloc (.cells #[.int .i64 (N0 : Int), .int .i64 (N1 : Int), .bool false] 108)).drew := ⟨_, rfl⟩
        have HBX : Hid (Below w.heap.size w X) := by rw [hX]; exact HBY.out
        have HQX : Hid (X.heap[W9.heap.size]? = some (.cells #[.int .i64 (N0 : Int), .int .i64 (N1 : Int), .bool false] 108 (0, 0))) := by rw [hX]; exact heap_alloc_new W9 _
        have dX : X.cell? ⟨sp, 1, none⟩ = some (.slice (some ⟨g, 0, none⟩) l.length cap) := by rw [hX]; exact (World.cell?_alloc_past _ _ _ (cell_lt d9)).trans d9
        have tX0 : X.cell? ⟨O, 0, none⟩ = some (.int .i64 (N0 : Int)) := by rw [hX]; exact (World.cell?_alloc_past _ _ _ (cell_lt t0)).trans t0
        have tX1 : X.cell? ⟨O, 1, none⟩ = some (.int .i64 (N1 : Int)) := by rw [hX]; exact (World.cell?_alloc_past _ _ _ (cell_lt t1)).trans t1
        have tX2 : X.cell? ⟨O, 2, none⟩ = some (.bool false) := by rw [hX]; exact (World.cell?_alloc_past _ _ _ (cell_lt t2)).trans t2
        rw [← hX]
        refine hK.out _ X ⟨tX0, tX1, tX2⟩ (fun hHeld => ?_)
        clear hK K d9 t0 t1 t2 hHeld0
        clear hX
        (try simp only [Act.put, List.setIfInBounds_toArray, List.set_cons_zero, List.set_cons_succ, List.getElem_toArray, List.getElem_cons_zero, List.getElem_cons_succ])
        refine wpAnyH_ready (rs := [9]) (by kernel_rfl) (by simp) ?_
        refine AllReadyH.cons rfl (fun K hK => ?_) AllReadyH.nil
        go_simp
        refine (HREP.out _ _ _ _ A B ⟨N0, N1, false⟩ (by have := HA.out; omega) (by have := HB.out; omega) HAB.out.1 HAB.out.2 HBX.out HQX.out hz9).mono ?_
        rintro e w8 ⟨g', cap', cur', rfl, hrow8, hg8, ht8⟩
        have k0 := turned_cell ht8 (Ne.symm hgsp) dX
        have k1 := turned_cell ht8 hOg tX0
        have k2 := turned_cell ht8 hOg tX1
        have k3 := turned_cell ht8 hOg tX2
        have HT8 := Lib.hid ((Turned.of_below (F := spF sp (.slice (some ⟨g, 0, none⟩) l.length cap)) HBX.out (Nat.le_refl _)).trans ht8 (fun x hx _ => .inr (by rw [hx]; rfl)))
        have HOBJ8 := Lib.hid ((ht8.block _ (by have := HBX.out.size; omega) (Ne.symm hgsp)).trans ((HBX.out.block _ hspl).trans HOBJ.out))
        have f8 := frozen_of_block HOBJ8.out 1
        have HROW8 := Lib.hid hrow8
        have HG8 : Hid (g' = g ∨ w.heap.size ≤ g') := (hg8.imp id (fun hh => Nat.le_trans HBX.out.size hh))
        clear hrow8 hg8 ht8 dX tX0 tX1 tX2
        go_wp2_with (fail)
        refine hK.out _ _ ?_ (fun hHeld => ?_)
        · exact ⟨k1, k2, k3⟩
        clear hK K
        (try simp only [Act.put, List.setIfInBounds_toArray, List.set_cons_zero, List.set_cons_succ, List.getElem_toArray, List.getElem_cons_zero, List.getElem_cons_succ])
        (refine wpAnyH_take (i := 10) (v := ?_) rfl (by kernel_rfl) (by kernel_rfl) (by kernel_rfl) (fun _ _ _ h => h) (Or.inl ⟨by rfl, ?_⟩) (by assumption) ?_; rotate_left; focus (intro w hSw; (try dsimp only at hSw); go_simp; first | done | with_reducible rfl); (try simp only [Act.put, List.setIfInBounds_toArray, List.set_cons_zero, List.set_cons_succ, List.getElem_toArray, List.getElem_cons_zero, List.getElem_cons_succ]))
        (refine wpAnyH_take (i := 11) (v := ?_) rfl (by kernel_rfl) (by kernel_rfl) (by kernel_rfl) (fun _ _ _ h => h) (Or.inl ⟨by rfl, ?_⟩) (by assumption) ?_; rotate_left; focus (intro w hSw; (try dsimp only at hSw); go_simp; first | done | with_reducible rfl); (try simp only [Act.put, List.setIfInBounds_toArray, List.set_cons_zero, List.set_cons_succ, List.getElem_toArray, List.getElem_cons_zero, List.getElem_cons_succ]))
        refine wpAnyH_ready (rs := [12]) (by kernel_rfl) (by simp) ?_
        refine AllReadyH.cons rfl (fun K hK => ?_) AllReadyH.nil
        go_simp
        go_wp2_with (fail)
        refine hK.out _ _ ?_ (fun hHeld => ?_)
        · exact ⟨(World.cell?_setCell_far _ _ _ _ hspO).trans k1, (World.cell?_setCell_far _ _ _ _ hspO).trans k2, (World.cell?_setCell_far _ _ _ _ hspO).trans k3⟩
        clear hK K
        (try simp only [Act.put, List.setIfInBounds_toArray, List.set_cons_zero, List.set_cons_succ, List.getElem_toArray, List.getElem_cons_zero, List.getElem_cons_succ])
        refine wpAnyH_done (by kernel_rfl) ?_ _
        go_wp2
        go_ret2
        have hgsp' : g' ≠ sp := by rcases HG8.out with h | h <;> omega
        have HROW9 := HROW8.out
        rw [← HL.out] at HROW9
        refine ⟨_, rfl, ⟨?_, (HROW9.turned (F := fun k => k = sp) (Turned.setCell (F := fun k => k = sp) (p := ⟨sp, 1, none⟩) (Turned.refl _ _) (.inl rfl) _) hgsp').own, HTILE.out, hm⟩, ?_, HT8.out.setCell (.inl (.inl rfl)) _⟩
        · rw [heap_setCell_eq HOBJ8.out, HL.out]
          rfl
        · rcases HG8.out with h | h
          · left; rw [h]; rfl
          · right; exact ⟨g', rfl, h⟩
      · go_simp
        go_wp2_with (fail)
        obtain ⟨X, hX⟩ : ∃ X, X = (W9.alloc (.cells #[.int .i64 (N0 : Int), .int .i64 (N1 : Int), .bool false] 108)).drew := ⟨_, rfl⟩
        have HBX : Hid (Below w.heap.size w X) := by rw [hX]; exact HBY.out
        have HQX : Hid (X.heap[W9.heap.size]? = some (.cells #[.int .i64 (N0 : Int), .int .i64 (N1 : Int), .bool false] 108 (0, 0))) := by rw [hX]; exact heap_alloc_new W9 _
        have dX : X.cell? ⟨sp, 1, none⟩ = some (.slice (some ⟨g, 0, none⟩) l.length cap) := by rw [hX]; exact (World.cell?_alloc_past _ _ _ (cell_lt d9)).trans d9
        have tX0 : X.cell? ⟨O, 0, none⟩ = some (.int .i64 (N0 : Int)) := by rw [hX]; exact (World.cell?_alloc_past _ _ _ (cell_lt t0)).trans t0
        have tX1 : X.cell? ⟨O, 1, none⟩ = some (.int .i64 (N1 : Int)) := by rw [hX]; exact (World.cell?_alloc_past _ _ _ (cell_lt t1)).trans t1
        have tX2 : X.cell? ⟨O, 2, none⟩ = some (.bool false) := by rw [hX]; exact (World.cell?_alloc_past _ _ _ (cell_lt t2)).trans t2
        rw [← hX]
        refine hK.out _ X ⟨tX0, tX1, tX2⟩ (fun hHeld => ?_)
        clear hK K d9 t0 t1 t2 hHeld0
        clear hX
        (try simp only [Act.put, List.setIfInBounds_toArray, List.set_cons_zero, List.set_cons_succ, List.getElem_toArray, List.getElem_cons_zero, List.getElem_cons_succ])
        refine wpAnyH_ready (rs := [4]) (by kernel_rfl) (by simp) ?_
        refine AllReadyH.cons rfl (fun K hK => ?_) AllReadyH.nil
        go_simp
        go_wp2_with (fail)
        refine hK.out _ _ hHeld (fun hHeld => ?_)
        clear hK K
        (try simp only [Act.put, List.setIfInBounds_toArray, List.set_cons_zero, List.set_cons_succ, List.getElem_toArray, List.getElem_cons_zero, List.getElem_cons_succ])
        refine wpAnyH_ready (rs := [9]) (by kernel_rfl) (by simp) ?_
        refine AllReadyH.cons rfl (fun K hK => ?_) AllReadyH.nil
        go_simp
        refine (HREP.out _ _ _ _ A B ⟨N0, N1, false⟩ (by have := HA.out; omega) (by have := HB.out; omega) HAB.out.1 HAB.out.2 HBX.out HQX.out hz9).mono ?_
        rintro e w8 ⟨g', cap', cur', rfl, hrow8, hg8, ht8⟩
        have k0 := turned_cell ht8 (Ne.symm hgsp) dX
        have k1 := turned_cell ht8 hOg tX0
        have k2 := turned_cell ht8 hOg tX1
        have k3 := turned_cell ht8 hOg tX2
        have HT8 := Lib.hid ((Turned.of_below (F := spF sp (.slice (some ⟨g, 0, none⟩) l.length cap)) HBX.out (Nat.le_refl _)).trans ht8 (fun x hx _ => .inr (by rw [hx]; rfl)))
        have HOBJ8 := Lib.hid ((ht8.block _ (by have := HBX.out.size; omega) (Ne.symm hgsp)).trans ((HBX.out.block _ hspl).trans HOBJ.out))
        have f8 := frozen_of_block HOBJ8.out 1
        have HROW8 := Lib.hid hrow8
        have HG8 : Hid (g' = g ∨ w.heap.size ≤ g') := (hg8.imp id (fun hh => Nat.le_trans HBX.out.size hh))
        clear hrow8 hg8 ht8 dX tX0 tX1 tX2
        go_wp2_with (fail)
        refine hK.out _ _ ?_ (fun hHeld => ?_)
        · exact ⟨k1, k2, k3⟩
        clear hK K
        (try simp only [Act.put, List.setIfInBounds_toArray, List.set_cons_zero, List.set_cons_succ, List.getElem_toArray, List.getElem_cons_zero, List.getElem_cons_succ])
        (refine wpAnyH_take (i := 10) (v := ?_) rfl (by kernel_rfl) (by kernel_rfl) (by kernel_rfl) (fun _ _ _ h => h) (Or.inl ⟨by rfl, ?_⟩) (by assumption) ?_; rotate_left; focus (intro w hSw; (try dsimp only at hSw); go_simp; first | done | with_reducible rfl); (try simp only [Act.put, List.setIfInBounds_toArray, List.set_cons_zero, List.set_cons_succ, List.getElem_toArray, List.getElem_cons_zero, List.getElem_cons_succ]))
        (refine wpAnyH_take (i := 11) (v := ?_) rfl (by kernel_rfl) (by kernel_rfl) (by kernel_rfl) (fun _ _ _ h => h) (Or.inl ⟨by rfl, ?_⟩) (by assumption) ?_; rotate_left; focus (intro w hSw; (try dsimp only at hSw); go_simp; first | done | with_reducible rfl); (try simp only [Act.put, List.setIfInBounds_toArray, List.set_cons_zero, List.set_cons_succ, List.getElem_toArray, List.getElem_cons_zero, List.getElem_cons_succ]))
        refine wpAnyH_ready (rs := [12]) (by kernel_rfl) (by simp) ?_
        refine AllReadyH.cons rfl (fun K hK => ?_) AllReadyH.nil
        go_simp
        go_wp2_with (fail)
        refine hK.out _ _ ?_ (fun hHeld => ?_)
        · exact ⟨(World.cell?_setCell_far _ _ _ _ hspO).trans k1, (World.cell?_setCell_far _ _ _ _ hspO).trans k2, (World.cell?_setCell_far _ _ _ _ hspO).trans k3⟩
        clear hK K
        (try simp only [Act.put, List.setIfInBounds_toArray, List.set_cons_zero, List.set_cons_succ, List.getElem_toArray, List.getElem_cons_zero, List.getElem_cons_succ])
        refine wpAnyH_done (by kernel_rfl) ?_ _
        go_wp2
        go_ret2
        have hgsp' : g' ≠ sp := by rcases HG8.out with h | h <;> omega
        have HROW9 := HROW8.out
        rw [← HL.out] at HROW9
        refine ⟨_, rfl, ⟨?_, (HROW9.turned (F := fun k => k = sp) (Turned.setCell (F := fun k => k = sp) (p := ⟨sp, 1, none⟩) (Turned.refl _ _) (.inl rfl) _) hgsp').own, HTILE.out, hm⟩, ?_, HT8.out.setCell (.inl (.inl rfl)) _⟩
        · rw [heap_setCell_eq HOBJ8.out, HL.out]
          rfl
        · rcases HG8.out with h | h
          · left; rw [h]; rfl
          · right; exact ⟨g', rfl, h⟩
    | false =>
      have hfg := giveRun_free (r := r) hj hjs hpt
      have HL : Hid (giveR l k r = repl l [⟨l[j].page, N + l[j].n, false⟩] j B) := by
        show _ = _
        rw [HRG.out, HTO.out, hfg.1, hfg.2, HGN.out]
      rw [hpt] at x2
      have HAB : Hid (j < B ∧ B ≤ l.length) := show _ ∧ _ by have := HBL.out; have := HB.out; omega
      have HJ : Hid (k = j + 1) := hj
      have u0 := frozen_of_block HBLK4.out 0
      have s0 : W4.cell? ⟨O, 0, none⟩ = some (.int .i64 (p0 : Int)) := cell_of_block HBLK4.out 0
      have hOg : O ≠ g := by omega
      have hOsp : O ≠ sp := by omega
      clear hfg hk0 hj hjs hpt y0 y1 y2 hjb
      generalize l[j].page = q0 at *
      generalize l[j].n = q1 at *
      set_option maxRecDepth 30000 in go_upto_region 14 with (fail)
      obtain ⟨W5, hW5⟩ : ∃ W5, W5 = W4.setCell ⟨O, 0, none⟩ (.int .i64 (q0 : Int)) := ⟨_, rfl⟩
      have HB5 : Hid (Below w.heap.size w W5) := by rw [hW5]; exact HB4.out.setCell hO _
      have HBLK5 : Hid (W5.heap[O]? = some (.cells #[.int .i64 (q0 : Int), .int .i64 (N : Int), .bool false] 108 (0, 0))) := by
        show _ = _
        rw [hW5, heap_setCell_eq HBLK4.out]
        rfl
      have e1 : W5.cell? ⟨O, 1, none⟩ = some (.int .i64 (N : Int)) := cell_of_block HBLK5.out 1
      have e2 := cell_past HB5.out hspl c1
      have e3 : W5.cell? ⟨g, j * 3 + 1, none⟩ = some (.int .i64 (q1 : Int)) := by rw [hW5]; exact (World.cell?_setCell_far _ _ _ _ hOg).trans x1
      rw [← hW5]
      clear hW5 d4 s1 s0 x0 x1 x2 u0
      (refine wp_region_quiet_tail_ext 12 (by kernel_rfl) (by kernel_rfl) ?_; simp only [List.take_succ_cons, List.take_zero, List.drop_succ_cons, List.drop_zero])
      ((repeat (first | go_big_quiet_step ((fail)) | quiet_step ((fail)))); refine wpQuiet_nil ?_; intro w3 hw3; obtain hb3 := below_of_ext hw3; clear hw3; have hz3 := hb3.size; (try simp at hz3))
      have HB6 := Lib.hid (Below.via hb3 HB5.out.size HB5.out)
      have HBLK6 : Hid (w3.heap[O]? = some (.cells #[.int .i64 (q0 : Int), .int .i64 (N : Int), .bool false] 108 (0, 0))) := (hb3.block _ (lt_of_block HBLK5.out)).trans HBLK5.out
      have v1 : w3.cell? ⟨O, 1, none⟩ = some (.int .i64 (N : Int)) := cell_of_block HBLK6.out 1
      have v2 := frozen_of_block HBLK6.out 1
      clear hb3 e1 e2 e3
      go_upto_region 15 with (fail)
      obtain ⟨N1, hN1⟩ : ∃ N1, N1 = N + q1 := ⟨_, rfl⟩
      obtain ⟨W9, hW9⟩ : ∃ W9, W9 = w3.setCell ⟨O, 1, none⟩ (.int .i64 ((N : Int) + (q1 : Int))) := ⟨_, rfl⟩
      obtain ⟨N0, hN0⟩ : ∃ N0, N0 = q0 := ⟨_, rfl⟩
      obtain ⟨A, hA⟩ : ∃ A, A = j := ⟨_, rfl⟩
      have HB9 : Hid (Below w.heap.size w W9) := by rw [hW9]; exact HB6.out.setCell hO _
      have HBLK9 : Hid (W9.heap[O]? = some (.cells #[.int .i64 (N0 : Int), .int .i64 (N1 : Int), .bool false] 108 (0, 0))) := by
        show _ = _
        rw [hW9, heap_setCell_eq HBLK6.out, hN0, hN1, Int.natCast_add]
        rfl
      have HL : Hid (giveR l k r = repl l [⟨N0, N1, false⟩] A B) := by show _ = _; rw [hN0, hN1, hA]; exact HL.out
      rw [← hA] at HAB
      have HA : Hid (A + 1 = k) := show _ = _ by rw [hA]; exact HJ.out.symm
      rw [← hW9]
      clear hW9 v1 v2 hA hN0 hN1
      have HWW : Hid True := trivial
      have d9 := cell_past HB9.out hspl c1
      have t0 : W9.cell? ⟨O, 0, none⟩ = some (.int .i64 (N0 : Int)) := cell_of_block HBLK9.out 0
      have t1 : W9.cell? ⟨O, 1, none⟩ = some (.int .i64 (N1 : Int)) := cell_of_block HBLK9.out 1
      have t2 : W9.cell? ⟨O, 2, none⟩ = some (.bool false) := cell_of_block HBLK9.out 2
      have hOl := lt_of_block HBLK9.out
      have hz9 := HB9.out.size
      have hOg : O ≠ g := by omega
      have hspO : sp ≠ O := by omega
      have HBY := Lib.hid (Below.drew (Below.alloc HB9.out hz9 (.cells #[.int .i64 (N0 : Int), .int .i64 (N1 : Int), .bool false] 108)))
      refine wp_region_held_drew (S := fun W : World => W.cell? ⟨O, 0, none⟩ = some (.int .i64 (N0 : Int)) ∧ W.cell? ⟨O, 1, none⟩ = some (.int .i64 (N1 : Int)) ∧ W.cell? ⟨O, 2, none⟩ = some (.bool false)) (by kernel_rfl) ?_ (fun hHeld0 => ?_)
      · exact ⟨t0, t1, t2⟩
      (refine wpAnyH_take (i := 0) (v := ?_) rfl (by kernel_rfl) (by kernel_rfl) (by kernel_rfl) (fun _ _ _ h => h) (Or.inl ⟨by rfl, ?_⟩) (by assumption) ?_; rotate_left; focus (intro w hSw; (try dsimp only at hSw); go_simp; first | done | with_reducible rfl); (try simp only [Act.put, List.setIfInBounds_toArray, List.set_cons_zero, List.set_cons_succ, List.getElem_toArray, List.getElem_cons_zero, List.getElem_cons_succ]))
      (refine wpAnyH_take (i := 1) (v := ?_) rfl (by kernel_rfl) (by kernel_rfl) (by kernel_rfl) (fun _ _ _ h => h) (Or.inl ⟨by rfl, ?_⟩) (by assumption) ?_; rotate_left; focus (intro w hSw; (try dsimp only at hSw); go_simp; first | done | with_reducible rfl); (try simp only [Act.put, List.setIfInBounds_toArray, List.set_cons_zero, List.set_cons_succ, List.getElem_toArray, List.getElem_cons_zero, List.getElem_cons_succ]))
      (refine wpAnyH_take (i := 2) (v := ?_) rfl (by kernel_rfl) (by kernel_rfl) (by kernel_rfl) (fun _ _ _ h => h) (Or.inl ⟨by rfl, ?_⟩) (by assumption) ?_; rotate_left; focus (intro w hSw; (try dsimp only at hSw); go_simp; first | done | with_reducible rfl); (try simp only [Act.put, List.setIfInBounds_toArray, List.set_cons_zero, List.set_cons_succ, List.getElem_toArray, List.getElem_cons_zero, List.getElem_cons_succ]))
      (refine wpAnyH_take (i := 3) (v := ?_) rfl (by kernel_rfl) (by kernel_rfl) (by kernel_rfl) (fun _ _ _ h => h) (Or.inl ⟨by rfl, ?_⟩) (by assumption) ?_; rotate_left; focus (intro w hSw; (try dsimp only at hSw); go_simp; first | done | with_reducible rfl); (try simp only [Act.put, List.setIfInBounds_toArray, List.set_cons_zero, List.set_cons_succ, List.getElem_toArray, List.getElem_cons_zero, List.getElem_cons_succ]))
      (refine wpAnyH_take (i := 5) (v := ?_) rfl (by kernel_rfl) (by kernel_rfl) (by kernel_rfl) (fun _ _ _ h => h) (Or.inl ⟨by rfl, ?_⟩) (by assumption) ?_; rotate_left; focus (intro w hSw; (try dsimp only at hSw); go_simp; first | done | with_reducible rfl); (try simp only [Act.put, List.setIfInBounds_toArray, List.set_cons_zero, List.set_cons_succ, List.getElem_toArray, List.getElem_cons_zero, List.getElem_cons_succ]))
      (refine wpAnyH_take (i := 6) (v := ?_) rfl (by kernel_rfl) (by kernel_rfl) (by kernel_rfl) (fun _ _ _ h => h) (Or.inl ⟨by rfl, ?_⟩) (by assumption) ?_; rotate_left; focus (intro w hSw; (try dsimp only at hSw); go_simp; first | done | with_reducible rfl); (try simp only [Act.put, List.setIfInBounds_toArray, List.set_cons_zero, List.set_cons_succ, List.getElem_toArray, List.getElem_cons_zero, List.getElem_cons_succ]))
      (refine wpAnyH_take (i := 7) (v := ?_) rfl (by kernel_rfl) (by kernel_rfl) (by kernel_rfl) (fun _ _ _ h => h) (Or.inl ⟨by rfl, ?_⟩) (by assumption) ?_; rotate_left; focus (intro w hSw; (try dsimp only at hSw); go_simp; first | done | with_reducible rfl); (try simp only [Act.put, List.setIfInBounds_toArray, List.set_cons_zero, List.set_cons_succ, List.getElem_toArray, List.getElem_cons_zero, List.getElem_cons_succ]))
      refine wpAnyH_ready (rs := [4, 8]) (by kernel_rfl) (by simp) ?_
      refine AllReadyH.cons rfl (fun K hK => ?_) (AllReadyH.cons rfl (fun K hK => ?_) AllReadyH.nil)
      · go_simp
        have d9' : W9.drew.cell? ⟨sp, 1, none⟩ = some (.slice (some ⟨g, 0, none⟩) l.length cap) := d9
        go_wp2_with (fail)
        refine hK.out _ _ hHeld0 (fun hHeld => ?_)
        clear hK K d9'
        (try simp only [Act.put, List.setIfInBounds_toArray, List.set_cons_zero, List.set_cons_succ, List.getElem_toArray, List.getElem_cons_zero, List.getElem_cons_succ])
        refine wpAnyH_ready (rs := [8]) (by kernel_rfl) (by simp) ?_
        refine AllReadyH.cons rfl (fun K hK => ?_) AllReadyH.nil
        go_simp
        go_wp2_with (fail)
        obtain ⟨X, hX⟩ : ∃ X, X = (W9.alloc (.cells #[.int .i64 (N0 : Int), .int .i64 (N1 : Int), .bool false] 108)).drew := ⟨_, rfl⟩
        have HBX : Hid (Below w.heap.size w X) := by rw [hX]; exact HBY.out
        have HQX : Hid (X.heap[W9.heap.size]? = some (.cells #[.int .i64 (N0 : Int), .int .i64 (N1 : Int), .bool false] 108 (0, 0))) := by rw [hX]; exact heap_alloc_new W9 _
        have dX : X.cell? ⟨sp, 1, none⟩ = some (.slice (some ⟨g, 0, none⟩) l.length cap) := by rw [hX]; exact (World.cell?_alloc_past _ _ _ (cell_lt d9)).trans d9
        have tX0 : X.cell? ⟨O, 0, none⟩ = some (.int .i64 (N0 : Int)) := by rw [hX]; exact (World.cell?_alloc_past _ _ _ (cell_lt t0)).trans t0
        have tX1 : X.cell? ⟨O, 1, none⟩ = some (.int .i64 (N1 : Int)) := by rw [hX]; exact (World.cell?_alloc_past _ _ _ (cell_lt t1)).trans t1
        have tX2 : X.cell? ⟨O, 2, none⟩ = some (.bool false) := by rw [hX]; exact (World.cell?_alloc_past _ _ _ (cell_lt t2)).trans t2
        rw [← hX]
        refine hK.out _ X ⟨tX0, tX1, tX2⟩ (fun hHeld => ?_)
        clear hK K d9 t0 t1 t2 hHeld0
        clear hX
        (try simp only [Act.put, List.setIfInBounds_toArray, List.set_cons_zero, List.set_cons_succ, List.getElem_toArray, List.getElem_cons_zero, List.getElem_cons_succ])
        refine wpAnyH_ready (rs := [9]) (by kernel_rfl) (by simp) ?_
        refine AllReadyH.cons rfl (fun K hK => ?_) AllReadyH.nil
        go_simp
        refine (HREP.out _ _ _ _ A B ⟨N0, N1, false⟩ (by have := HA.out; omega) (by have := HB.out; omega) HAB.out.1 HAB.out.2 HBX.out HQX.out hz9).mono ?_
        rintro e w8 ⟨g', cap', cur', rfl, hrow8, hg8, ht8⟩
        have k0 := turned_cell ht8 (Ne.symm hgsp) dX
        have k1 := turned_cell ht8 hOg tX0
        have k2 := turned_cell ht8 hOg tX1
        have k3 := turned_cell ht8 hOg tX2
        have HT8 := Lib.hid ((Turned.of_below (F := spF sp (.slice (some ⟨g, 0, none⟩) l.length cap)) HBX.out (Nat.le_refl _)).trans ht8 (fun x hx _ => .inr (by rw [hx]; rfl)))
        have HOBJ8 := Lib.hid ((ht8.block _ (by have := HBX.out.size; omega) (Ne.symm hgsp)).trans ((HBX.out.block _ hspl).trans HOBJ.out))
        have f8 := frozen_of_block HOBJ8.out 1
        have HROW8 := Lib.hid hrow8
        have HG8 : Hid (g' = g ∨ w.heap.size ≤ g') := (hg8.imp id (fun hh => Nat.le_trans HBX.out.size hh))
        clear hrow8 hg8 ht8 dX tX0 tX1 tX2
        go_wp2_with (fail)
        refine hK.out _ _ ?_ (fun hHeld => ?_)
        · exact ⟨k1, k2, k3⟩
        clear hK K
        (try simp only [Act.put, List.setIfInBounds_toArray, List.set_cons_zero, List.set_cons_succ, List.getElem_toArray, List.getElem_cons_zero, List.getElem_cons_succ])
        (refine wpAnyH_take (i := 10) (v := ?_) rfl (by kernel_rfl) (by kernel_rfl) (by kernel_rfl) (fun _ _ _ h => h) (Or.inl ⟨by rfl, ?_⟩) (by assumption) ?_; rotate_left; focus (intro w hSw; (try dsimp only at hSw); go_simp; first | done | with_reducible rfl); (try simp only [Act.put, List.setIfInBounds_toArray, List.set_cons_zero, List.set_cons_succ, List.getElem_toArray, List.getElem_cons_zero, List.getElem_cons_succ]))
        (refine wpAnyH_take (i := 11) (v := ?_) rfl (by kernel_rfl) (by kernel_rfl) (by kernel_rfl) (fun _ _ _ h => h) (Or.inl ⟨by rfl, ?_⟩) (by assumption) ?_; rotate_left; focus (intro w hSw; (try dsimp only at hSw); go_simp; first | done | with_reducible rfl); (try simp only [Act.put, List.setIfInBounds_toArray, List.set_cons_zero, List.set_cons_succ, List.getElem_toArray, List.getElem_cons_zero, List.getElem_cons_succ]))
        refine wpAnyH_ready (rs := [12]) (by kernel_rfl) (by simp) ?_
        refine AllReadyH.cons rfl (fun K hK => ?_) AllReadyH.nil
        go_simp
        go_wp2_with (fail)
        refine hK.out _ _ ?_ (fun hHeld => ?_)
        · exact ⟨(World.cell?_setCell_far _ _ _ _ hspO).trans k1, (World.cell?_setCell_far _ _ _ _ hspO).trans k2, (World.cell?_setCell_far _ _ _ _ hspO).trans k3⟩
        clear hK K
        (try simp only [Act.put, List.setIfInBounds_toArray, List.set_cons_zero, List.set_cons_succ, List.getElem_toArray, List.getElem_cons_zero, List.getElem_cons_succ])
        refine wpAnyH_done (by kernel_rfl) ?_ _
        go_wp2
        go_ret2
        have hgsp' : g' ≠ sp := by rcases HG8.out with h | h <;> omega
        have HROW9 := HROW8.out
        rw [← HL.out] at HROW9
        refine ⟨_, rfl, ⟨?_, (HROW9.turned (F := fun k => k = sp) (Turned.setCell (F := fun k => k = sp) (p := ⟨sp, 1, none⟩) (Turned.refl _ _) (.inl rfl) _) hgsp').own, HTILE.out, hm⟩, ?_, HT8.out.setCell (.inl (.inl rfl)) _⟩
        · rw [heap_setCell_eq HOBJ8.out, HL.out]
          rfl
        · rcases HG8.out with h | h
          · left; rw [h]; rfl
          · right; exact ⟨g', rfl, h⟩
      · go_simp
        go_wp2_with (fail)
        obtain ⟨X, hX⟩ : ∃ X, X = (W9.alloc (.cells #[.int .i64 (N0 : Int), .int .i64 (N1 : Int), .bool false] 108)).drew := ⟨_, rfl⟩
        have HBX : Hid (Below w.heap.size w X) := by rw [hX]; exact HBY.out
        have HQX : Hid (X.heap[W9.heap.size]? = some (.cells #[.int .i64 (N0 : Int), .int .i64 (N1 : Int), .bool false] 108 (0, 0))) := by rw [hX]; exact heap_alloc_new W9 _
        have dX : X.cell? ⟨sp, 1, none⟩ = some (.slice (some ⟨g, 0, none⟩) l.length cap) := by rw [hX]; exact (World.cell?_alloc_past _ _ _ (cell_lt d9)).trans d9
        have tX0 : X.cell? ⟨O, 0, none⟩ = some (.int .i64 (N0 : Int)) := by rw [hX]; exact (World.cell?_alloc_past _ _ _ (cell_lt t0)).trans t0
        have tX1 : X.cell? ⟨O, 1, none⟩ = some (.int .i64 (N1 : Int)) := by rw [hX]; exact (World.cell?_alloc_past _ _ _ (cell_lt t1)).trans t1
        have tX2 : X.cell? ⟨O, 2, none⟩ = some (.bool false) := by rw [hX]; exact (World.cell?_alloc_past _ _ _ (cell_lt t2)).trans t2
        rw [← hX]
        refine hK.out _ X ⟨tX0, tX1, tX2⟩ (fun hHeld => ?_)
        clear hK K d9 t0 t1 t2 hHeld0
        clear hX
        (try simp only [Act.put, List.setIfInBounds_toArray, List.set_cons_zero, List.set_cons_succ, List.getElem_toArray, List.getElem_cons_zero, List.getElem_cons_succ])
        refine wpAnyH_ready (rs := [4]) (by kernel_rfl) (by simp) ?_
        refine AllReadyH.cons rfl (fun K hK => ?_) AllReadyH.nil
        go_simp
        go_wp2_with (fail)
        refine hK.out _ _ hHeld (fun hHeld => ?_)
        clear hK K
        (try simp only [Act.put, List.setIfInBounds_toArray, List.set_cons_zero, List.set_cons_succ, List.getElem_toArray, List.getElem_cons_zero, List.getElem_cons_succ])
        refine wpAnyH_ready (rs := [9]) (by kernel_rfl) (by simp) ?_
        refine AllReadyH.cons rfl (fun K hK => ?_) AllReadyH.nil
        go_simp
        refine (HREP.out _ _ _ _ A B ⟨N0, N1, false⟩ (by have := HA.out; omega) (by have := HB.out; omega) HAB.out.1 HAB.out.2 HBX.out HQX.out hz9).mono ?_
        rintro e w8 ⟨g', cap', cur', rfl, hrow8, hg8, ht8⟩
        have k0 := turned_cell ht8 (Ne.symm hgsp) dX
        have k1 := turned_cell ht8 hOg tX0
        have k2 := turned_cell ht8 hOg tX1
        have k3 := turned_cell ht8 hOg tX2
        have HT8 := Lib.hid ((Turned.of_below (F := spF sp (.slice (some ⟨g, 0, none⟩) l.length cap)) HBX.out (Nat.le_refl _)).trans ht8 (fun x hx _ => .inr (by rw [hx]; rfl)))
        have HOBJ8 := Lib.hid ((ht8.block _ (by have := HBX.out.size; omega) (Ne.symm hgsp)).trans ((HBX.out.block _ hspl).trans HOBJ.out))
        have f8 := frozen_of_block HOBJ8.out 1
        have HROW8 := Lib.hid hrow8
        have HG8 : Hid (g' = g ∨ w.heap.size ≤ g') := (hg8.imp id (fun hh => Nat.le_trans HBX.out.size hh))
        clear hrow8 hg8 ht8 dX tX0 tX1 tX2
        go_wp2_with (fail)
        refine hK.out _ _ ?_ (fun hHeld => ?_)
        · exact ⟨k1, k2, k3⟩
        clear hK K
        (try simp only [Act.put, List.setIfInBounds_toArray, List.set_cons_zero, List.set_cons_succ, List.getElem_toArray, List.getElem_cons_zero, List.getElem_cons_succ])
        (refine wpAnyH_take (i := 10) (v := ?_) rfl (by kernel_rfl) (by kernel_rfl) (by kernel_rfl) (fun _ _ _ h => h) (Or.inl ⟨by rfl, ?_⟩) (by assumption) ?_; rotate_left; focus (intro w hSw; (try dsimp only at hSw); go_simp; first | done | with_reducible rfl); (try simp only [Act.put, List.setIfInBounds_toArray, List.set_cons_zero, List.set_cons_succ, List.getElem_toArray, List.getElem_cons_zero, List.getElem_cons_succ]))
        (refine wpAnyH_take (i := 11) (v := ?_) rfl (by kernel_rfl) (by kernel_rfl) (by kernel_rfl) (fun _ _ _ h => h) (Or.inl ⟨by rfl, ?_⟩) (by assumption) ?_; rotate_left; focus (intro w hSw; (try dsimp only at hSw); go_simp; first | done | with_reducible rfl); (try simp only [Act.put, List.setIfInBounds_toArray, List.set_cons_zero, List.set_cons_succ, List.getElem_toArray, List.getElem_cons_zero, List.getElem_cons_succ]))
        refine wpAnyH_ready (rs := [12]) (by kernel_rfl) (by simp) ?_
        refine AllReadyH.cons rfl (fun K hK => ?_) AllReadyH.nil
        go_simp
        go_wp2_with (fail)
        refine hK.out _ _ ?_ (fun hHeld => ?_)
        · exact ⟨(World.cell?_setCell_far _ _ _ _ hspO).trans k1, (World.cell?_setCell_far _ _ _ _ hspO).trans k2, (World.cell?_setCell_far _ _ _ _ hspO).trans k3⟩
        clear hK K
        (try simp only [Act.put, List.setIfInBounds_toArray, List.set_cons_zero, List.set_cons_succ, List.getElem_toArray, List.getElem_cons_zero, List.getElem_cons_succ])
        refine wpAnyH_done (by kernel_rfl) ?_ _
        go_wp2
        go_ret2
        have hgsp' : g' ≠ sp := by rcases HG8.out with h | h <;> omega
        have HROW9 := HROW8.out
        rw [← HL.out] at HROW9
        refine ⟨_, rfl, ⟨?_, (HROW9.turned (F := fun k => k = sp) (Turned.setCell (F := fun k => k = sp) (p := ⟨sp, 1, none⟩) (Turned.refl _ _) (.inl rfl) _) hgsp').own, HTILE.out, hm⟩, ?_, HT8.out.setCell (.inl (.inl rfl)) _⟩
        · rw [heap_setCell_eq HOBJ8.out, HL.out]
          rfl
        · rcases HG8.out with h | h
          · left; rw [h]; rfl
          · right; exact ⟨g', rfl, h⟩

end Go.Proofs.YtlljejmblmjjnaaGreatDoor
