/- CheckSpoilt: the walk. -/
import Derived.Test.YtgcnbiccekaffaaSp1
namespace Go.Proofs.Ytgcnbiccekaffaa
open Go.RowKit Go.ChangeMaps

theorem SpIn.turned {G : Nat → Prop} {w W : World} {P : SpP} (h : SpIn w P) (t : Turned G w W) (h1 : ∀ b o, P.p1 = some ⟨b, o, none⟩ → ¬ G b) (h2 : ∀ b o, P.p2 = some ⟨b, o, none⟩ → ¬ G b) : SpIn W P :=
  ⟨h.ds, h.rd, turned_bytes t h.in1 (fun _ => h1), turned_bytes t h.in2 (fun _ => h2), fun b o e => Nat.lt_of_lt_of_le (h.lt1 b o e) t.size, fun b o e => Nat.lt_of_lt_of_le (h.lt2 b o e) t.size⟩

theorem sp_free (P : SpP) : (evsC (spEvs P 8 12)).setIfInBounds 88 (.int .i64 0) = evsC (spEvs P 8 0) := by rfl
theorem sp_early (P : SpP) : (evsC (spEvs P 8 0)).setIfInBounds 46 (.int .i64 4) = evsC (spEvs P 4 0) := by rfl
theorem sp_same (P : SpP) (rd : List Int) (h : rd.length = P.rd.length) (t er : Int) : evsC (spEvs { P with rd := rd } t er) = evsC (spEvs P t er) := by
  simp [evsC, spEvs, evV, spE0, spE1, spE2, spE3, h]

set_option maxRecDepth 100000 in
set_option maxHeartbeats 8000000 in
theorem checkSpoilt_any (w : World) (pv : Option Addr) (cap : Nat) (ds : List Int) (place by_ at_ size : Int) (h : BytesIn w pv ds) (hd : BytesOk ds) (hnil : pv = none → cap = 0) (hby : 0 ≤ by_ ∧ by_ ≤ 255) :
    Calls Try.prog 6 #[.slice pv ds.length cap, .int .i64 place, .int .u8 by_, .int .i64 at_, .int .i64 size] w (fun e w' => e = .returned (.bool true) ∧ Below w.heap.size w w') := by
  by_cases hg : (1 ≤ ds.length ∧ ds.length ≤ 1000) ∧ by_ ≠ 0 ∧ (0 ≤ place ∧ place < ds.length) ∧ (1 ≤ size ∧ size ≤ 4000) ∧ (0 ≤ at_ ∧ at_ ≤ 4000)
  · obtain ⟨⟨hl1, hl2⟩, hb0, ⟨hp1, hp2⟩, ⟨hs1, hs2⟩, ⟨ha1, ha2⟩⟩ := hg
    have t1 : ¬ (ds.length : Int) < 1 := by omega
    have t2 : ¬ (1000 : Int) < ds.length := by omega
    have t3 : (by_ == 0) = false := by simpa using hb0
    obtain ⟨n, hn⟩ : ∃ n : Int, n = ((ds.length : Int) + 7) / 8 * 8 := ⟨_, rfl⟩
    have hnr : (ds.length : Int) ≤ n ∧ n ≤ 1008 := by omega
    have hu1 : IntKind.u64.wrap (ds.length : Int) = ds.length := by rw [IntKind.wrap_u64]; omega
    have hu2 : IntKind.u64.wrap size = size := by rw [IntKind.wrap_u64]; omega
    have h8 : IntKind.i64.wrap (8 * at_) = 8 * at_ := by rw [IntKind.wrap_i64]; omega
    have h8s : IntKind.i64.wrap (8 * at_ + size) = 8 * at_ + size := by rw [IntKind.wrap_i64]; omega
    obtain ⟨k, rfl⟩ := Int.eq_ofNat_of_zero_le hp1
    go_enter Try.func6, Try.ntmps6
    go_wp2_with (fail)
    refine (alive_any w).mono ?_
    rintro e w1 ⟨rfl, hb1⟩
    have HB1 := Lib.hid hb1
    have HN := Lib.hid hn
    have hs1w : w.heap.size ≤ w1.heap.size := HB1.out.size
    clear hn hb1
    go_wp2_with (fail)
    rw [show ((ds.length : Int) + 7) / 8 * 8 = n from HN.out.symm]
    refine (copy_any w1 pv cap ds (h.below HB1.out) (by omega) hnil).mono ?_
    rintro e w2 ⟨p2, q2, rfl, hrow2, hrd2, hb2⟩
    have HB2 := Lib.hid (HB1.out.trans (hb2.mono HB1.out.size))
    have HRD := Lib.hid hrd2
    obtain ⟨g2, hg2⟩ : ∃ g2, p2 = some ⟨g2, 0, none⟩ ∧ w1.heap.size ≤ g2 ∧ ∃ cur2, w2.heap[g2]? = some (.cells cur2 5 (0, 0)) := by
      rcases hrow2.2 with ⟨_, h1⟩ | ⟨g2, cap2, cur2, h0, hbg, hg2, _⟩
      · omega
      · cases h0
        exact ⟨g2, rfl, hbg, cur2, hg2⟩
    obtain ⟨rfl, hbg, cur2, hg2⟩ := hg2
    have HG2 := Lib.hid hg2
    clear hrow2 hrd2 hb2 HB1 hg2
    go_wp2_with (fail)
    refine (copy_any w2 pv cap ds (h.below HB2.out) (by omega) hnil).mono ?_
    rintro e w3 ⟨p1, q1, rfl, hrow1, hin1, hb3⟩
    have HB3 := Lib.hid (HB2.out.trans (hb3.mono HB2.out.size))
    have HIN := Lib.hid hin1
    have HRD3 := Lib.hid (HRD.out.below hb3)
    have HG3 := Lib.hid ((hb3.block _ (lt_of_block HG2.out)).trans HG2.out)
    have HP1 := Lib.hid hrow1.lt
    have hs23 : w2.heap.size ≤ w3.heap.size := hb3.size
    have hg2l : g2 < w2.heap.size := lt_of_block HG2.out
    clear hrow1 hin1 hb3 HB2 HRD HG2
    have hk : k < ds.length := by omega
    have HLT : Hid (∀ b o, p1 = some ⟨b, o, none⟩ → w2.heap.size ≤ b ∧ b < w3.heap.size) := fun b o e => HP1.out b (by rw [e]; rfl)
    clear hp1 hp2 HP1
    by_cases hbn : 8 * at_ + size < n
    · go_wp2_with (refine Go.Great.wpList_buildSliceTo rfl 52 64 6 _ rfl w3.heap.size rfl _ rfl Try.underlying52 (evsC (spEvs ⟨ds, ds, n, size, at_, p1, q1, some ⟨g2, 0, none⟩, q2⟩ 8 12)) (by kernel_rfl) ?_)
      obtain ⟨W4, hW4⟩ : ∃ W4, W4 = w3.alloc (.cells (evsC (spEvs ⟨ds, ds, n, size, at_, p1, q1, some ⟨g2, 0, none⟩, q2⟩ 8 12)) 64) := ⟨_, rfl⟩
      have hl4 : W4.heap[w3.heap.size]? = some (.cells (evsC (spEvs ⟨ds, ds, n, size, at_, p1, q1, some ⟨g2, 0, none⟩, q2⟩ 8 12)) 64 (0, 0)) := by rw [hW4]; exact heap_alloc_new _ _
      have hb4 : Below w3.heap.size w3 W4 := by rw [hW4]; exact (Below.refl _ _).alloc (Nat.le_refl _) _
      rw [← hW4]
      clear hW4
      have HB4 := Lib.hid (HB3.out.trans (hb4.mono HB3.out.size))
      have HSP4 : Hid (SpIn W4 ⟨ds, ds, n, size, at_, p1, q1, some ⟨g2, 0, none⟩, q2⟩) := ⟨hd, hd, HIN.out.below hb4, HRD3.out.below hb4, fun b o e => Nat.lt_of_lt_of_le (HLT.out b o e).2 hb4.size, fun b o e => by cases e; exact Nat.lt_of_lt_of_le (Nat.lt_of_lt_of_le hg2l hs23) hb4.size⟩
      have HG4 := Lib.hid ((hb4.block _ (Nat.lt_of_lt_of_le hg2l hs23)).trans HG3.out)
      have HK : Hid (SpOk ⟨ds, ds, n, size, at_, p1, q1, some ⟨g2, 0, none⟩, q2⟩ n) := ⟨hl1, hl2, rfl, hnr.1, hs1, hs2, ha1, (show n ≤ n from by omega), (show 8 * at_ + size ≤ n from by omega)⟩
      have hbb : n ≤ 1048576 := by omega
      have hsw : w.heap.size ≤ w3.heap.size := HB3.out.size
      have HL4 := Lib.hid hl4
      clear hl4 hb4 HB3 HIN HRD3 HG3 HN
      by_cases hmeet : 8 * at_ < n
      · refine (sp_call HL4.out HSP4.out HK.out hbb (sp_run_meet HK.out rfl hmeet 8 12)).mono ?_
        rintro e w5 ⟨rfl, hb5⟩
        have HB5 := Lib.hid (HB4.out.trans (hb5.mono HB4.out.size))
        clear hb5
        go_wp2
        go_ret
        exact ⟨rfl, HB5.out⟩
      · exfalso
        omega
    · go_wp2_with (refine Go.Great.wpList_buildSliceTo rfl 52 64 6 _ rfl w3.heap.size rfl _ rfl Try.underlying52 (evsC (spEvs ⟨ds, ds, n, size, at_, p1, q1, some ⟨g2, 0, none⟩, q2⟩ 8 12)) (by kernel_rfl) ?_)
      obtain ⟨W4, hW4⟩ : ∃ W4, W4 = w3.alloc (.cells (evsC (spEvs ⟨ds, ds, n, size, at_, p1, q1, some ⟨g2, 0, none⟩, q2⟩ 8 12)) 64) := ⟨_, rfl⟩
      have hl4 : W4.heap[w3.heap.size]? = some (.cells (evsC (spEvs ⟨ds, ds, n, size, at_, p1, q1, some ⟨g2, 0, none⟩, q2⟩ 8 12)) 64 (0, 0)) := by rw [hW4]; exact heap_alloc_new _ _
      have hb4 : Below w3.heap.size w3 W4 := by rw [hW4]; exact (Below.refl _ _).alloc (Nat.le_refl _) _
      rw [← hW4]
      clear hW4
      have HB4 := Lib.hid (HB3.out.trans (hb4.mono HB3.out.size))
      have HSP4 : Hid (SpIn W4 ⟨ds, ds, n, size, at_, p1, q1, some ⟨g2, 0, none⟩, q2⟩) := ⟨hd, hd, HIN.out.below hb4, HRD3.out.below hb4, fun b o e => Nat.lt_of_lt_of_le (HLT.out b o e).2 hb4.size, fun b o e => by cases e; exact Nat.lt_of_lt_of_le (Nat.lt_of_lt_of_le hg2l hs23) hb4.size⟩
      have HG4 := Lib.hid ((hb4.block _ (Nat.lt_of_lt_of_le hg2l hs23)).trans HG3.out)
      have HK : Hid (SpOk ⟨ds, ds, n, size, at_, p1, q1, some ⟨g2, 0, none⟩, q2⟩ (8 * at_ + size)) := ⟨hl1, hl2, rfl, hnr.1, hs1, hs2, ha1, (show n ≤ (8 * at_ + size) from by omega), (show 8 * at_ + size ≤ (8 * at_ + size) from by omega)⟩
      have hbb : (8 * at_ + size) ≤ 1048576 := by omega
      have hsw : w.heap.size ≤ w3.heap.size := HB3.out.size
      have HL4 := Lib.hid hl4
      clear hl4 hb4 HB3 HIN HRD3 HG3 HN
      by_cases hmeet : 8 * at_ < n
      · refine (sp_call HL4.out HSP4.out HK.out hbb (sp_run_meet HK.out rfl hmeet 8 12)).mono ?_
        rintro e w5 ⟨rfl, hb5⟩
        have HB5 := Lib.hid (HB4.out.trans (hb5.mono HB4.out.size))
        clear hb5
        go_wp2
        go_ret
        exact ⟨rfl, HB5.out⟩
      · have hna : n ≤ 8 * at_ := by omega
        refine (sp_call HL4.out HSP4.out HK.out hbb (sp_run HK.out rfl hna 8)).mono ?_
        rintro e w5 ⟨rfl, hb5⟩
        have HB5 := Lib.hid (HB4.out.trans (hb5.mono HB4.out.size))
        have HL5 := Lib.hid ((hb5.block _ (lt_of_block HL4.out)).trans HL4.out)
        have HSP5 := Lib.hid (HSP4.out.below hb5)
        have HG5 := Lib.hid ((hb5.block _ (lt_of_block HG4.out)).trans HG4.out)
        have hs5 : w3.heap.size ≤ w5.heap.size := Nat.le_trans (Nat.le_of_lt (lt_of_block HL4.out)) hb5.size
        clear hb5 HB4 HL4 HSP4 HG4
        have c88 : w5.cell? ⟨w3.heap.size, 88, none⟩ = some (.int .i64 12) := by rw [cell_of_block HL5.out]; rfl
        have f88 : w5.frozen? ⟨w3.heap.size, 88, none⟩ = false := frozen_of_row _ _ _ _ _ HL5.out
        go_wp2_with (fail)
        obtain ⟨W6, hW6⟩ : ∃ W6, W6 = w5.setCell ⟨w3.heap.size, 88, none⟩ (.int .i64 0) := ⟨_, rfl⟩
        have HL6 : Hid (W6.heap[w3.heap.size]? = some (.cells (evsC (spEvs ⟨ds, ds, n, size, at_, p1, q1, some ⟨g2, 0, none⟩, q2⟩ 8 0)) 64 (0, 0))) := by
          show _ = _
          rw [hW6, heap_setCell_same _ _ _ _ _ _ HL5.out]
          rfl
        have ht6 : Turned (fun k => k = w3.heap.size) w5 W6 := by rw [hW6]; exact Turned.setCell (F := fun k => k = w3.heap.size) (p := ⟨w3.heap.size, 88, none⟩) (Turned.refl _ _) (.inl rfl) _
        rw [← hW6]
        clear hW6 c88 f88
        have HSP6 := Lib.hid (HSP5.out.turned ht6 (fun b o e hb => by have := HLT.out b o e; omega) (fun b o e hb => by cases e; omega))
        have HG6 := Lib.hid ((ht6.block _ (lt_of_block HG5.out) (by omega)).trans HG5.out)
        have HB6 : Hid (Below w.heap.size w W6) := HB5.out.trans (ht6.below (fun x hx => by omega) HB5.out.size)
        clear ht6 HB5 HL5 HSP5 HG5
        refine (sp_call HL6.out HSP6.out HK.out hbb (sp_run_free HK.out rfl hna 8)).mono ?_
        rintro e w7 ⟨rfl, hb7⟩
        have HB7 := Lib.hid (HB6.out.trans (hb7.mono HB6.out.size))
        have HL7 := Lib.hid ((hb7.block _ (lt_of_block HL6.out)).trans HL6.out)
        have HSP7 := Lib.hid (HSP6.out.below hb7)
        have HG7 := Lib.hid ((hb7.block _ (lt_of_block HG6.out)).trans HG6.out)
        clear hb7 HB6 HL6 HSP6 HG6
        have hck : w7.cell? ⟨g2, k, none⟩ = some (.int .u8 (ds.getD k 0)) := by
          obtain ⟨b, o, e, hc⟩ := HSP7.out.in2 k hk
          cases e
          rw [Nat.zero_add] at hc
          exact hc
        have hfk : w7.frozen? ⟨g2, k, none⟩ = false := frozen_of_row _ _ _ _ _ HG7.out
        have hvr : 0 ≤ ds.getD k 0 ∧ ds.getD k 0 ≤ 255 := hd _ (by rw [List.getD_eq_getElem?_getD, List.getElem?_eq_getElem hk]; exact List.getElem_mem hk)
        have HX := Lib.hid (xor_u8 (ds.getD k 0) by_ hvr hby hb0)
        have HV : Hid (∀ v, ds.getD k 0 = v → ds.getD k 0 = v) := fun _ h => h
        obtain ⟨v, hv⟩ : ∃ v, v = ds.getD k 0 := ⟨_, rfl⟩
        rw [← hv] at hck HX
        have HVV := Lib.hid hv
        clear hvr hv HV
        have hkr : (0 : Int) ≤ k ∧ (k : Int) < ds.length := by omega
        go_wp2_with (fail)
        obtain ⟨X, hX⟩ : ∃ X, X = bits .xor .u8 v by_ := ⟨_, rfl⟩
        obtain ⟨W8, hW8⟩ : ∃ W8, W8 = w7.setCell ⟨g2, k, none⟩ (.int .u8 X) := ⟨_, rfl⟩
        rw [← hX, ← hW8]
        rw [← hX] at HX
        have hg23 : g2 ≠ w3.heap.size := by omega
        have ht8 : Turned (fun j => j = g2) w7 W8 := by rw [hW8]; exact Turned.setCell (F := fun j => j = g2) (p := ⟨g2, k, none⟩) (Turned.refl _ _) (.inl rfl) _
        have HL8 : Hid (W8.heap[w3.heap.size]? = some (.cells (evsC (spEvs ⟨ds, ds.set k X, n, size, at_, p1, q1, some ⟨g2, 0, none⟩, q2⟩ 8 0)) 64 (0, 0))) := by
          show _ = _
          rw [sp_same ⟨ds, ds, n, size, at_, p1, q1, some ⟨g2, 0, none⟩, q2⟩ (ds.set k X) (by simp) 8 0, ht8.block _ (lt_of_block HL7.out) (Ne.symm hg23)]
          exact HL7.out
        have HSP8 : Hid (SpIn W8 ⟨ds, ds.set k X, n, size, at_, p1, q1, some ⟨g2, 0, none⟩, q2⟩) := by
          have h7 := HSP7.out
          refine ⟨h7.ds, ?_, turned_bytes ht8 h7.in1 (fun _ b o e hb => by have := HLT.out b o e; omega), ?_, fun b o e => Nat.lt_of_lt_of_le (h7.lt1 b o e) ht8.size, fun b o e => Nat.lt_of_lt_of_le (h7.lt2 b o e) ht8.size⟩
          · intro y hy
            rcases List.mem_or_eq_of_mem_set hy with hy | rfl
            · exact hd y hy
            · exact HX.out.1
          · intro i hi
            have hi2 : i < ds.length := by simpa using hi
            obtain ⟨b, o, e, hc⟩ := h7.in2 i hi2
            cases e
            refine ⟨g2, 0, rfl, ?_⟩
            rw [Nat.zero_add] at hc ⊢
            by_cases hik : i = k
            · subst hik
              rw [hW8, cell_of_block (heap_setCell_eq HG7.out _)]
              have hlt : i < cur2.size := by
                rw [cell_of_block HG7.out] at hc
                exact (Array.getElem?_eq_some_iff.1 hc).1
              simp [hlt, List.getD, hi2]
            · have e1 : (ds.set k X).getD i 0 = ds.getD i 0 := by simp [List.getD, List.getElem?_set, Ne.symm hik]
              show W8.cell? ⟨g2, i, none⟩ = some (.int .u8 ((ds.set k X).getD i 0))
              rw [e1, hW8, cell_of_block (heap_setCell_eq HG7.out _)]
              rw [cell_of_block HG7.out] at hc
              simp [Ne.symm hik, hc]
        have HK8 : Hid (SpOk ⟨ds, ds.set k X, n, size, at_, p1, q1, some ⟨g2, 0, none⟩, q2⟩ (8 * at_ + size)) := ⟨hl1, hl2, by simp, hnr.1, hs1, hs2, ha1, (show n ≤ 8 * at_ + size from by omega), (show 8 * at_ + size ≤ 8 * at_ + size from by omega)⟩
        have HB8 : Hid (Below w.heap.size w W8) := HB7.out.trans (ht8.below (fun x hx => by omega) HB7.out.size)
        have hne : Hid ((ds.set k X).getD k 0 ≠ ds.getD k 0) := by
          show _ ≠ _
          rw [show (ds.set k X).getD k 0 = X from by simp [List.getD, hk], ← HVV.out]
          exact HX.out.2
        clear hX hW8 HX HVV ht8 hg23 hck hfk HB7 HL7 HSP7 HG7
        refine (sp_call HL8.out HSP8.out HK8.out hbb (sp_run_bad HK8.out hk hne.out 8 0)).mono ?_
        rintro e w9 ⟨rfl, hb9⟩
        have HB9 := Lib.hid (HB8.out.trans (hb9.mono HB8.out.size))
        have HL9 := Lib.hid ((hb9.block _ (lt_of_block HL8.out)).trans HL8.out)
        have HSP9 := Lib.hid (HSP8.out.below hb9)
        have hs9 : w3.heap.size < w9.heap.size := lt_of_block HL9.out
        clear hb9 HB8 HL8 HSP8 hne
        have c46 : w9.cell? ⟨w3.heap.size, 46, none⟩ = some (.int .i64 8) := by rw [cell_of_block HL9.out]; rfl
        have f46 : w9.frozen? ⟨w3.heap.size, 46, none⟩ = false := frozen_of_row _ _ _ _ _ HL9.out
        go_wp2_with (fail)
        obtain ⟨W10, hW10⟩ : ∃ W10, W10 = w9.setCell ⟨w3.heap.size, 46, none⟩ (.int .i64 4) := ⟨_, rfl⟩
        have HL10 : Hid (W10.heap[w3.heap.size]? = some (.cells (evsC (spEvs ⟨ds, ds.set k X, n, size, at_, p1, q1, some ⟨g2, 0, none⟩, q2⟩ 4 0)) 64 (0, 0))) := by
          show _ = _
          rw [hW10, heap_setCell_same _ _ _ _ _ _ HL9.out]
          rfl
        have ht10 : Turned (fun j => j = w3.heap.size) w9 W10 := by rw [hW10]; exact Turned.setCell (F := fun j => j = w3.heap.size) (p := ⟨w3.heap.size, 46, none⟩) (Turned.refl _ _) (.inl rfl) _
        rw [← hW10]
        clear hW10 c46 f46
        have HSQ := Lib.hid (HSP9.out.turned ht10 (fun b o e hb => by have := HLT.out b o e; omega) (fun b o e hb => by cases e; omega))
        have HB10 : Hid (Below w.heap.size w W10) := HB9.out.trans (ht10.below (fun x hx => by omega) HB9.out.size)
        clear ht10 HB9 HL9 HSP9
        refine (sp_call_late HL10.out HSQ.out HK8.out hbb).mono ?_
        rintro e w11 ⟨rfl, hb11⟩
        have HB11 := Lib.hid (HB10.out.trans (hb11.mono HB10.out.size))
        clear hb11
        go_wp2
        go_ret
        exact ⟨rfl, HB11.out⟩
  · go_enter Try.func6, Try.ntmps6
    go_wp2_with (fail)
    refine (alive_any w).mono ?_
    rintro e w1 ⟨rfl, hb1⟩
    have HB1 := Lib.hid hb1
    have HG := Lib.hid hg
    clear hg hb1
    go_wp2_with (fail)
    all_goals first | (go_ret; exact ⟨rfl, HB1.out⟩) | (exfalso; have hg := HG.out; simp only [bne_iff_ne, beq_iff_eq, ne_eq] at *; omega)
end Go.Proofs.Ytgcnbiccekaffaa
