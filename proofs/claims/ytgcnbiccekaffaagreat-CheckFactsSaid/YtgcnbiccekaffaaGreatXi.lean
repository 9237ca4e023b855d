/- fresh, as the reference has it. -/
import Derived.Test.YtgcnbiccekaffaaGreatXh
import Derived.Test.YtgcnbiccekaffaaGreatOf
namespace Go.Proofs.YtgcnbiccekaffaaGreat
open Go.RowKit Go.ChangeMaps

/-- What a call leaves where an answer is legal, or isn't. -/
def RefDone (F : Nat → Prop) (w : World) (m : Nat) (A : AM) (c : Chg × Bool) (e : Ending) (w' : World) : Prop :=
  e = .returned (.bool c.2) ∧ RefX F w' m (if c.2 = true then applyC A c.1 else A) ∧ Tn F w w'

set_option maxRecDepth 100000 in
set_option maxHeartbeats 1500000 in
theorem freshR_any {F : Nat → Prop} {w : World} {m : Nat} {A : AM} (h : RefX F w m A) (hI : Inv A) (o : OpA) (x : AnsA) (ho : OpOk o) (p1 p2 : Option Addr) (q1 q2 : Nat) (hB : ∀ k, w.heap.size ≤ k → F k) :
    Calls Tryz.prog 27 #[.pointer (some ⟨m, 0, none⟩), .agg (opR o p1 q1), .agg (ansR x p2 q2)] w (RefDone F w m A (freshA A o x)) := by
  have hask := askedR_any o.k o.a o.b o.at_ o.fr o.n p1 o.data.length q1
  have HO := Lib.hid ho
  have HASK := Lib.hid (fun W => hask W ho.a0 ho.a1 ho.b0 ho.b1)
  have HX := Lib.hid h
  have HI := Lib.hid hI
  clear hask h hI ho
  obtain ⟨W0, hW0⟩ : ∃ W0, W0 = (w.alloc (.cells (opR o p1 q1) 43)).alloc (.cells (ansR x p2 q2) 45) := ⟨_, rfl⟩
  have hb0 : Below w.heap.size w W0 := by rw [hW0]; exact (by repeat (first | exact Below.refl _ _ | assumption | refine Below.alloc ?_ (by first | omega | (simp <;> omega)) _ | refine Below.drew ?_ | refine Below.setCell ?_ (by first | omega | (simp <;> omega)) _ | refine Below.via (by assumption) (by first | omega | (simp <;> omega)) ?_))
  have hbo : W0.heap[w.heap.size]? = some (.cells (opR o p1 q1) 43) := by rw [hW0]; exact heap_alloc2_old _ _ _
  have hba : W0.heap[w.heap.size + 1]? = some (.cells (ansR x p2 q2) 45) := by rw [hW0]; exact heap_alloc2_new _ _ _
  have o0 : W0.cell? ⟨w.heap.size, 0, none⟩ = some (.int .i64 o.k) := by rw [cell_of_block hbo]; rfl
  have r0 : W0.cell? ⟨w.heap.size + 1, 0, none⟩ = some (.int .i64 x.err) := by rw [cell_of_block hba]; rfl
  have r1 : W0.cell? ⟨w.heap.size + 1, 1, none⟩ = some (.int .i64 x.at_) := by rw [cell_of_block hba]; rfl
  have r2 : W0.cell? ⟨w.heap.size + 1, 2, none⟩ = some (.int .i64 x.n) := by rw [cell_of_block hba]; rfl
  have r3 : W0.cell? ⟨w.heap.size + 1, 3, none⟩ = some (.int .i64 x.count) := by rw [cell_of_block hba]; rfl
  have r4 : W0.cell? ⟨w.heap.size + 1, 4, none⟩ = some (.slice p2 x.data.length q2) := by rw [cell_of_block hba]; rfl
  have HW0 := Lib.hid hW0
  have HB0 := Lib.hid hb0
  clear hW0 hb0 hbo hba
  unfold opR ansR at HW0 ⊢
  cases he : ((askedF o.k o.a o.b).2.2 != 0)
  · have hf : freshA A o x = if bareA x 13 = true then (.keep, true) else (.lay ⟨x.at_, x.n.toNat, (askedF o.k o.a o.b).1, firstOf o.k x.n.toNat⟩, placedB x.err x.count x.data.length && placeR A x.at_ x.n (askedF o.k o.a o.b).1 (askedF o.k o.a o.b).2.1) := by
      unfold freshA
      rw [if_neg (by rw [he]; decide)]
      unfold placeA
      rw [placeB_eq]
    have he0 : (askedF o.k o.a o.b).2.2 = 0 := by simpa using he
    obtain ⟨_, hal1, hal2⟩ := asked_lo o.k o.a o.b HO.out.a0 HO.out.b0 he0
    have hbare : bareA x 13 = bareB x.err x.at_ x.n x.count 13 x.data.length := rfl
    rw [hf, hbare]
    clear hf hbare
    have HE0 := Lib.hid he0
    clear he0
    obtain ⟨sz, hsz⟩ : ∃ sz, sz = (askedF o.k o.a o.b).1 := ⟨_, rfl⟩
    obtain ⟨al, hal⟩ : ∃ al, al = (askedF o.k o.a o.b).2.1 := ⟨_, rfl⟩
    rw [← hal] at hal1 hal2
    rw [← hsz, ← hal]
    have HSZ := Lib.hid hsz
    have HAL := Lib.hid hal
    clear hsz hal
    cases h13 : bareB x.err x.at_ x.n x.count 13 x.data.length
    · rw [if_neg (by decide)]
      cases hp : placedB x.err x.count x.data.length
      · (go_enter Tryz.func27, Tryz.ntmps27; go_wp2_with (fail); rw [← HW0.out]; refine (HASK.out _).mono ?_; rintro e W1 ⟨vx, vy, rfl, hxy, hb1⟩; obtain ⟨rfl, rfl⟩ := hxy HE0.out; rw [← HSZ.out, ← HAL.out]; (have HB1 := Lib.hid ((tof (F := F) HB0.out).trans (tof (F := F) hb1)); have HX1 := Lib.hid (HX.out.below (HB0.out.trans (hb1.mono HB0.out.size))); have o0' := cell_past hb1 (cell_lt o0) o0; have r0' := cell_past hb1 (cell_lt r0) r0; have r1' := cell_past hb1 (cell_lt r1) r1; have r2' := cell_past hb1 (cell_lt r2) r2; have r3' := cell_past hb1 (cell_lt r3) r3; have r4' := cell_past hb1 (cell_lt r4) r4; clear hb1 o0 r0 r1 r2 r3 r4); go_wp2_with (fail); refine (bareR_any _ _ _ _ _ _ _ _ _).mono ?_; rintro e W2 ⟨rfl, hb2⟩; rw [h13]; have HX2 := Lib.hid (HX1.out.below hb2); have HB2 := Lib.hid (HB1.out.trans (tof (F := F) hb2)); have o0'' := cell_past hb2 (cell_lt o0') o0'; have r0'' := cell_past hb2 (cell_lt r0') r0'; have r1'' := cell_past hb2 (cell_lt r1') r1'; have r2'' := cell_past hb2 (cell_lt r2') r2'; have r3'' := cell_past hb2 (cell_lt r3') r3'; have r4'' := cell_past hb2 (cell_lt r4') r4'; clear hb2 o0' r0' r1' r2' r3' r4')
        go_wp2_with (fail)
        refine (placedR_any _ _ _ _ _ _ _ _).mono ?_
        rintro e W3 ⟨rfl, hb3⟩
        rw [hp]
        have HX3 := Lib.hid (HX2.out.below hb3)
        have HB3 := Lib.hid (HB2.out.trans (tof (F := F) hb3))
        clear hb3
        go_wp2
        go_ret
        exact ⟨rfl, HX3.out, HB3.out⟩
      · cases hq : placeR A x.at_ x.n sz al
        · (go_enter Tryz.func27, Tryz.ntmps27; go_wp2_with (fail); rw [← HW0.out]; refine (HASK.out _).mono ?_; rintro e W1 ⟨vx, vy, rfl, hxy, hb1⟩; obtain ⟨rfl, rfl⟩ := hxy HE0.out; rw [← HSZ.out, ← HAL.out]; (have HB1 := Lib.hid ((tof (F := F) HB0.out).trans (tof (F := F) hb1)); have HX1 := Lib.hid (HX.out.below (HB0.out.trans (hb1.mono HB0.out.size))); have o0' := cell_past hb1 (cell_lt o0) o0; have r0' := cell_past hb1 (cell_lt r0) r0; have r1' := cell_past hb1 (cell_lt r1) r1; have r2' := cell_past hb1 (cell_lt r2) r2; have r3' := cell_past hb1 (cell_lt r3) r3; have r4' := cell_past hb1 (cell_lt r4) r4; clear hb1 o0 r0 r1 r2 r3 r4); go_wp2_with (fail); refine (bareR_any _ _ _ _ _ _ _ _ _).mono ?_; rintro e W2 ⟨rfl, hb2⟩; rw [h13]; have HX2 := Lib.hid (HX1.out.below hb2); have HB2 := Lib.hid (HB1.out.trans (tof (F := F) hb2)); have o0'' := cell_past hb2 (cell_lt o0') o0'; have r0'' := cell_past hb2 (cell_lt r0') r0'; have r1'' := cell_past hb2 (cell_lt r1') r1'; have r2'' := cell_past hb2 (cell_lt r2') r2'; have r3'' := cell_past hb2 (cell_lt r3') r3'; have r4'' := cell_past hb2 (cell_lt r4') r4'; clear hb2 o0' r0' r1' r2' r3' r4')
          (go_wp2_with (fail); refine (placedR_any _ _ _ _ _ _ _ _).mono ?_; rintro e W3 ⟨rfl, hb3⟩; rw [hp]; have HX3 := Lib.hid (HX2.out.below hb3); have HB3 := Lib.hid (HB2.out.trans (tof (F := F) hb3)); have u0 := cell_past hb3 (cell_lt o0'') o0''; have u1 := cell_past hb3 (cell_lt r1'') r1''; have u2 := cell_past hb3 (cell_lt r2'') r2''; clear hb3 o0'' r0'' r1'' r2'' r3'' r4''; go_wp2_with (fail); refine (placeR_any HX3.out HI.out _ _ _ _ hal1 hal2).mono ?_; rintro e W4 ⟨rfl, hb4⟩; rw [hq]; have HX4 := Lib.hid (HX3.out.below hb4); have HB4 := Lib.hid (HB3.out.trans (tof (F := F) hb4)); have v0 := cell_past hb4 (cell_lt u0) u0; have v1 := cell_past hb4 (cell_lt u1) u1; have v2 := cell_past hb4 (cell_lt u2) u2; clear hb4 u0 u1 u2)
          go_wp2
          go_ret
          exact ⟨rfl, HX4.out, HB4.out⟩
        · have hspec : (0 ≤ x.at_ ∧ 1 ≤ x.n ∧ x.at_ ≤ A.bytes ∧ x.n ≤ A.bytes - x.at_) ∧ ∀ b ∈ A.blocks, meetB x.at_ x.n b = false := by
            have hh := hq
            unfold placeR apartB inB at hh
            simp only [Bool.and_eq_true, beq_iff_eq] at hh
            refine ⟨of_decide_eq_true hh.2.2.2.1, fun b hb => ?_⟩
            have := List.all_eq_true.1 hh.2.2.2.2 b hb
            simpa using this
          obtain ⟨hin, hap⟩ := hspec
          have hn : (x.n.toNat : Int) = x.n := by omega
          have HAPP : Hid (∀ b ∈ A.blocks, meetB x.at_ (x.n.toNat : Int) b = false) := fun b hb => by rw [hn]; exact hap b hb
          have HN := Lib.hid hn
          have HIN := Lib.hid hin
          clear hap hn hin
          cases hk : (o.k == 1)
          · have HC : Hid (∀ k, k < x.n.toNat → codeB ((firstOf o.k x.n.toNat).getD k none) = -1) := fun k hk2 => by
              unfold firstOf
              rw [if_neg (by rw [hk]; decide)]
              simp [List.getD, hk2, codeB]
            (go_enter Tryz.func27, Tryz.ntmps27; go_wp2_with (fail); rw [← HW0.out]; refine (HASK.out _).mono ?_; rintro e W1 ⟨vx, vy, rfl, hxy, hb1⟩; obtain ⟨rfl, rfl⟩ := hxy HE0.out; rw [← HSZ.out, ← HAL.out]; (have HB1 := Lib.hid ((tof (F := F) HB0.out).trans (tof (F := F) hb1)); have HX1 := Lib.hid (HX.out.below (HB0.out.trans (hb1.mono HB0.out.size))); have o0' := cell_past hb1 (cell_lt o0) o0; have r0' := cell_past hb1 (cell_lt r0) r0; have r1' := cell_past hb1 (cell_lt r1) r1; have r2' := cell_past hb1 (cell_lt r2) r2; have r3' := cell_past hb1 (cell_lt r3) r3; have r4' := cell_past hb1 (cell_lt r4) r4; clear hb1 o0 r0 r1 r2 r3 r4); go_wp2_with (fail); refine (bareR_any _ _ _ _ _ _ _ _ _).mono ?_; rintro e W2 ⟨rfl, hb2⟩; rw [h13]; have HX2 := Lib.hid (HX1.out.below hb2); have HB2 := Lib.hid (HB1.out.trans (tof (F := F) hb2)); have o0'' := cell_past hb2 (cell_lt o0') o0'; have r0'' := cell_past hb2 (cell_lt r0') r0'; have r1'' := cell_past hb2 (cell_lt r1') r1'; have r2'' := cell_past hb2 (cell_lt r2') r2'; have r3'' := cell_past hb2 (cell_lt r3') r3'; have r4'' := cell_past hb2 (cell_lt r4') r4'; clear hb2 o0' r0' r1' r2' r3' r4')
            (go_wp2_with (fail); refine (placedR_any _ _ _ _ _ _ _ _).mono ?_; rintro e W3 ⟨rfl, hb3⟩; rw [hp]; have HX3 := Lib.hid (HX2.out.below hb3); have HB3 := Lib.hid (HB2.out.trans (tof (F := F) hb3)); have u0 := cell_past hb3 (cell_lt o0'') o0''; have u1 := cell_past hb3 (cell_lt r1'') r1''; have u2 := cell_past hb3 (cell_lt r2'') r2''; clear hb3 o0'' r0'' r1'' r2'' r3'' r4''; go_wp2_with (fail); refine (placeR_any HX3.out HI.out _ _ _ _ hal1 hal2).mono ?_; rintro e W4 ⟨rfl, hb4⟩; rw [hq]; have HX4 := Lib.hid (HX3.out.below hb4); have HB4 := Lib.hid (HB3.out.trans (tof (F := F) hb4)); have v0 := cell_past hb4 (cell_lt u0) u0; have v1 := cell_past hb4 (cell_lt u1) u1; have v2 := cell_past hb4 (cell_lt u2) u2; clear hb4 u0 u1 u2)
            (go_wp2_with (fail); have hl := layR_any HX4.out HI.out x.at_ sz (-1) x.n.toNat (firstOf o.k x.n.toNat) HIN.out.1 (by rw [HN.out]; have := HIN.out; omega) HAPP.out HC.out (fge hB HB4.out.size); rw [HN.out] at hl; refine hl.mono ?_; rintro e W5 ⟨rfl, hx5, hb5⟩; have HX5 := Lib.hid hx5; have HB5 := Lib.hid (HB4.out.trans hb5); clear hl hx5 hb5; go_wp2; go_ret; exact ⟨rfl, HX5.out, HB5.out⟩)
          · have HC : Hid (∀ k, k < x.n.toNat → codeB ((firstOf o.k x.n.toNat).getD k none) = 0) := fun k hk2 => by
              unfold firstOf
              rw [if_pos hk]
              simp [List.getD, hk2, codeB]
            (go_enter Tryz.func27, Tryz.ntmps27; go_wp2_with (fail); rw [← HW0.out]; refine (HASK.out _).mono ?_; rintro e W1 ⟨vx, vy, rfl, hxy, hb1⟩; obtain ⟨rfl, rfl⟩ := hxy HE0.out; rw [← HSZ.out, ← HAL.out]; (have HB1 := Lib.hid ((tof (F := F) HB0.out).trans (tof (F := F) hb1)); have HX1 := Lib.hid (HX.out.below (HB0.out.trans (hb1.mono HB0.out.size))); have o0' := cell_past hb1 (cell_lt o0) o0; have r0' := cell_past hb1 (cell_lt r0) r0; have r1' := cell_past hb1 (cell_lt r1) r1; have r2' := cell_past hb1 (cell_lt r2) r2; have r3' := cell_past hb1 (cell_lt r3) r3; have r4' := cell_past hb1 (cell_lt r4) r4; clear hb1 o0 r0 r1 r2 r3 r4); go_wp2_with (fail); refine (bareR_any _ _ _ _ _ _ _ _ _).mono ?_; rintro e W2 ⟨rfl, hb2⟩; rw [h13]; have HX2 := Lib.hid (HX1.out.below hb2); have HB2 := Lib.hid (HB1.out.trans (tof (F := F) hb2)); have o0'' := cell_past hb2 (cell_lt o0') o0'; have r0'' := cell_past hb2 (cell_lt r0') r0'; have r1'' := cell_past hb2 (cell_lt r1') r1'; have r2'' := cell_past hb2 (cell_lt r2') r2'; have r3'' := cell_past hb2 (cell_lt r3') r3'; have r4'' := cell_past hb2 (cell_lt r4') r4'; clear hb2 o0' r0' r1' r2' r3' r4')
            (go_wp2_with (fail); refine (placedR_any _ _ _ _ _ _ _ _).mono ?_; rintro e W3 ⟨rfl, hb3⟩; rw [hp]; have HX3 := Lib.hid (HX2.out.below hb3); have HB3 := Lib.hid (HB2.out.trans (tof (F := F) hb3)); have u0 := cell_past hb3 (cell_lt o0'') o0''; have u1 := cell_past hb3 (cell_lt r1'') r1''; have u2 := cell_past hb3 (cell_lt r2'') r2''; clear hb3 o0'' r0'' r1'' r2'' r3'' r4''; go_wp2_with (fail); refine (placeR_any HX3.out HI.out _ _ _ _ hal1 hal2).mono ?_; rintro e W4 ⟨rfl, hb4⟩; rw [hq]; have HX4 := Lib.hid (HX3.out.below hb4); have HB4 := Lib.hid (HB3.out.trans (tof (F := F) hb4)); have v0 := cell_past hb4 (cell_lt u0) u0; have v1 := cell_past hb4 (cell_lt u1) u1; have v2 := cell_past hb4 (cell_lt u2) u2; clear hb4 u0 u1 u2)
            (go_wp2_with (fail); have hl := layR_any HX4.out HI.out x.at_ sz 0 x.n.toNat (firstOf o.k x.n.toNat) HIN.out.1 (by rw [HN.out]; have := HIN.out; omega) HAPP.out HC.out (fge hB HB4.out.size); rw [HN.out] at hl; refine hl.mono ?_; rintro e W5 ⟨rfl, hx5, hb5⟩; have HX5 := Lib.hid hx5; have HB5 := Lib.hid (HB4.out.trans hb5); clear hl hx5 hb5; go_wp2; go_ret; exact ⟨rfl, HX5.out, HB5.out⟩)
    · rw [if_pos rfl]
      (go_enter Tryz.func27, Tryz.ntmps27; go_wp2_with (fail); rw [← HW0.out]; refine (HASK.out _).mono ?_; rintro e W1 ⟨vx, vy, rfl, hxy, hb1⟩; obtain ⟨rfl, rfl⟩ := hxy HE0.out; rw [← HSZ.out, ← HAL.out]; (have HB1 := Lib.hid ((tof (F := F) HB0.out).trans (tof (F := F) hb1)); have HX1 := Lib.hid (HX.out.below (HB0.out.trans (hb1.mono HB0.out.size))); have o0' := cell_past hb1 (cell_lt o0) o0; have r0' := cell_past hb1 (cell_lt r0) r0; have r1' := cell_past hb1 (cell_lt r1) r1; have r2' := cell_past hb1 (cell_lt r2) r2; have r3' := cell_past hb1 (cell_lt r3) r3; have r4' := cell_past hb1 (cell_lt r4) r4; clear hb1 o0 r0 r1 r2 r3 r4); go_wp2_with (fail); refine (bareR_any _ _ _ _ _ _ _ _ _).mono ?_; rintro e W2 ⟨rfl, hb2⟩; rw [h13]; have HX2 := Lib.hid (HX1.out.below hb2); have HB2 := Lib.hid (HB1.out.trans (tof (F := F) hb2)); have o0'' := cell_past hb2 (cell_lt o0') o0'; have r0'' := cell_past hb2 (cell_lt r0') r0'; have r1'' := cell_past hb2 (cell_lt r1') r1'; have r2'' := cell_past hb2 (cell_lt r2') r2'; have r3'' := cell_past hb2 (cell_lt r3') r3'; have r4'' := cell_past hb2 (cell_lt r4') r4'; clear hb2 o0' r0' r1' r2' r3' r4')
      go_wp2
      go_ret
      exact ⟨rfl, HX2.out, HB2.out⟩
  · have hf : freshA A o x = (.keep, bareA x (askedF o.k o.a o.b).2.2) := by unfold freshA; rw [if_pos he]
    rw [hf]
    unfold bareA
    clear hf
    go_enter Tryz.func27, Tryz.ntmps27
    go_wp2_with (fail)
    rw [← HW0.out]
    refine (HASK.out _).mono ?_
    rintro e W1 ⟨vx, vy, rfl, _, hb1⟩
    (have HB1 := Lib.hid ((tof (F := F) HB0.out).trans (tof (F := F) hb1)); have HX1 := Lib.hid (HX.out.below (HB0.out.trans (hb1.mono HB0.out.size))); have o0' := cell_past hb1 (cell_lt o0) o0; have r0' := cell_past hb1 (cell_lt r0) r0; have r1' := cell_past hb1 (cell_lt r1) r1; have r2' := cell_past hb1 (cell_lt r2) r2; have r3' := cell_past hb1 (cell_lt r3) r3; have r4' := cell_past hb1 (cell_lt r4) r4; clear hb1 o0 r0 r1 r2 r3 r4)
    go_wp2_with (fail)
    refine (bareR_any _ _ _ _ _ _ _ _ _).mono ?_
    rintro e W2 ⟨rfl, hb2⟩
    have HX2 := Lib.hid (HX1.out.below hb2)
    have HB2 := Lib.hid (HB1.out.trans (tof (F := F) hb2))
    clear hb2
    go_wp2
    go_ret
    exact ⟨rfl, by rw [show applyC A .keep = A from rfl, ite_self]; exact HX2.out, HB2.out⟩

end Go.Proofs.YtgcnbiccekaffaaGreat
