/- Take, as the reference has it. -/
import Derived.Test.YtgcnbiccekaffaaGreatXn
import Derived.StillTailTactics
namespace Go.Proofs.YtgcnbiccekaffaaGreat
open Go.RowKit Go.ChangeMaps

theorem seek_find (A : AM) (a : Int) : (∃ i, ∃ hi : i < A.blocks.length, findB A a = some A.blocks[i] ∧ seekV A a = i) ∨ (findB A a = none ∧ seekV A a = -1) := by
  unfold seekV findB
  cases h : seekI A a with
  | none =>
    right
    unfold seekI at h
    rw [List.findIdx?_eq_none_iff] at h
    exact ⟨List.find?_eq_none.2 fun x hx => by simpa using h x hx, rfl⟩
  | some i =>
    left
    unfold seekI at h
    rw [List.findIdx?_eq_some_iff_getElem] at h
    obtain ⟨hi, hp, hn⟩ := h
    refine ⟨i, hi, ?_, rfl⟩
    rw [List.find?_eq_some_iff_getElem]
    exact ⟨hp, i, hi, rfl, fun j hj => by simpa using hn j hj⟩

theorem sumS_take {A : AM} (hI : Inv A) (k : Nat) : 0 ≤ sumS (A.blocks.take k) ∧ sumS (A.blocks.take k) ≤ 1048576 := by
  have h0 : ∀ b ∈ A.blocks, 0 ≤ b.size := fun b hb => (hI.lo b hb).2.2.2.2.1
  have h1 : 0 ≤ sumS (A.blocks.take k) := sumS_nonneg fun b hb => h0 b (List.mem_of_mem_take hb)
  have h2 : 0 ≤ sumS (A.blocks.drop k) := sumS_nonneg fun b hb => h0 b (List.mem_of_mem_drop hb)
  have h3 : sumS A.blocks = sumS (A.blocks.take k) + sumS (A.blocks.drop k) := by rw [← sumS_append, List.take_append_drop]
  have := hI.sum_le
  have := hI.b1
  omega

/-- What Take leaves. -/
def TakeDone (F : Nat → Prop) (w : World) (m : Nat) (A : AM) (o : OpA) (x : AnsA) (e : Ending) (w' : World) : Prop :=
  e = .returned (.int .i64 (takeE A o x)) ∧ RefX F w' m (takeA A o x) ∧ Tn F w w'

theorem take_form {F : Nat → Prop} {w w' : World} {m : Nat} {A : AM} {o : OpA} {x : AnsA} {e : Ending} (hr : rightB o.k o.data.length = false) (he : e = .returned (.int .i64 10)) (hx : RefX F w' m A) (hb : Tn F w w') : TakeDone F w m A o x e w' := by
  have : rightA o = false := hr
  unfold TakeDone takeE takeA
  rw [if_neg (by rw [this]; decide), if_neg (by rw [this]; decide)]
  exact ⟨he, hx, hb⟩
theorem take_no {F : Nat → Prop} {w w' : World} {m : Nat} {A : AM} {o : OpA} {x : AnsA} {e : Ending} (hr : rightB o.k o.data.length = true) (hl : (legalA A o x).2 = false) (he : e = .returned (.int .i64 20)) (hx : RefX F w' m A) (hb : Tn F w w') : TakeDone F w m A o x e w' := by
  have : rightA o = true := hr
  unfold TakeDone takeE takeA
  rw [if_pos this, if_pos this, if_neg (by rw [hl]; decide), if_neg (by rw [hl]; decide)]
  exact ⟨he, hx, hb⟩
theorem take_yes {F : Nat → Prop} {w w' : World} {m : Nat} {A : AM} {o : OpA} {x : AnsA} {e : Ending} (hr : rightB o.k o.data.length = true) (hl : (legalA A o x).2 = true) (he : e = .returned (.int .i64 0)) (hx : RefX F w' m (applyC A (legalA A o x).1)) (hb : Tn F w w') : TakeDone F w m A o x e w' := by
  have : rightA o = true := hr
  unfold TakeDone takeE takeA
  rw [if_pos this, if_pos this, if_pos hl, if_pos hl]
  exact ⟨he, hx, hb⟩

theorem findR_still {F : Nat → Prop} {w : World} {m : Nat} {A : AM} (h : RefX F w m A) (hl : A.blocks.length ≤ 1048576) (a : Int) :
    Calls Tryz.prog 28 #[.pointer (some ⟨m, 0, none⟩), .int .i64 a] w fun e w' => e = .returned (.int .i64 (seekV A a)) ∧ w' = w :=
  (findR_any h hl a).mono fun _ _ hh => ⟨hh.1, hh.2.symm⟩

theorem cell_keep {w W : World} (hb : Below w.heap.size w W) {b i : Nat} (h : (w.cell? ⟨b, i, none⟩).isSome = true) : W.cell? ⟨b, i, none⟩ = w.cell? ⟨b, i, none⟩ :=
  hb.cell (p := ⟨b, i, none⟩) (cell_lt' h)

set_option maxRecDepth 100000 in
set_option maxHeartbeats 1500000 in
theorem takeR_any {F : Nat → Prop} {w : World} {m : Nat} {A : AM} (h : RefX F w m A) (hI : Inv A) (o : OpA) (x : AnsA) (ho : OpOk o) (hxb : BytesOk x.data) (p1 p2 : Option Addr) (q1 q2 : Nat) (hd1 : BytesIn w p1 o.data) (hd2 : BytesIn w p2 x.data) (hB : ∀ k, w.heap.size ≤ k → F k) :
    Calls Tryz.prog 11 #[.pointer (some ⟨m, 0, none⟩), .agg (opR o p1 q1), .agg (ansR x p2 q2)] w (TakeDone F w m A o x) := by
  have hcnt := hI.count
  have hb1 := hI.b1
  have hk31 : A.blocks.length ≤ 1048576 := by omega
  have HX := Lib.hid h
  have HI := Lib.hid hI
  have HFRESH := Lib.hid (fun (W : World) (hh : RefX F W m A) (hBW : ∀ k, W.heap.size ≤ k → F k) => freshR_any hh hI o x ho p1 p2 q1 q2 hBW)
  have HTOUCH := Lib.hid (fun (W : World) (hh : RefX F W m A) (i : Nat) (hi : i < A.blocks.length) (h1 : BytesIn W p1 o.data) (h2 : BytesIn W p2 x.data) (hBW : ∀ k, W.heap.size ≤ k → F k) => touchR_any hh hI i hi o x ho hxb p1 p2 q1 q2 h1 h2 hBW)
  have HFIND := Lib.hid (fun (W : World) (hh : RefX F W m A) (a : Int) => findR_still hh hk31 a)
  have HD1 := Lib.hid hd1
  have HD2 := Lib.hid hd2
  clear h hI ho hxb hd1 hd2 hcnt
  obtain ⟨W0, hW0⟩ : ∃ W0, W0 = (w.alloc (.cells (opR o p1 q1) 43)).alloc (.cells (ansR x p2 q2) 45) := ⟨_, rfl⟩
  have hb0 : Below w.heap.size w W0 := by rw [hW0]; exact (by repeat (first | exact Below.refl _ _ | assumption | refine Below.alloc ?_ (by first | omega | (simp <;> omega)) _ | refine Below.drew ?_ | refine Below.setCell ?_ (by first | omega | (simp <;> omega)) _ | refine Below.via (by assumption) (by first | omega | (simp <;> omega)) ?_))
  have hbo : W0.heap[w.heap.size]? = some (.cells (opR o p1 q1) 43) := by rw [hW0]; exact heap_alloc2_old _ _ _
  have hba : W0.heap[w.heap.size + 1]? = some (.cells (ansR x p2 q2) 45) := by rw [hW0]; exact heap_alloc2_new _ _ _
  have o0 : W0.cell? ⟨w.heap.size, 0, none⟩ = some (.int .i64 o.k) := by rw [cell_of_block hbo]; rfl
  have o1 : W0.cell? ⟨w.heap.size, 1, none⟩ = some (.int .u64 o.a) := by rw [cell_of_block hbo]; rfl
  have o2 : W0.cell? ⟨w.heap.size, 2, none⟩ = some (.int .u64 o.b) := by rw [cell_of_block hbo]; rfl
  have o3 : W0.cell? ⟨w.heap.size, 3, none⟩ = some (.int .i64 o.at_) := by rw [cell_of_block hbo]; rfl
  have o4 : W0.cell? ⟨w.heap.size, 4, none⟩ = some (.int .i64 o.fr) := by rw [cell_of_block hbo]; rfl
  have o5 : W0.cell? ⟨w.heap.size, 5, none⟩ = some (.int .i64 o.n) := by rw [cell_of_block hbo]; rfl
  have o6 : W0.cell? ⟨w.heap.size, 6, none⟩ = some (.slice p1 o.data.length q1) := by rw [cell_of_block hbo]; rfl
  have r0 : W0.cell? ⟨w.heap.size + 1, 0, none⟩ = some (.int .i64 x.err) := by rw [cell_of_block hba]; rfl
  have r1 : W0.cell? ⟨w.heap.size + 1, 1, none⟩ = some (.int .i64 x.at_) := by rw [cell_of_block hba]; rfl
  have r2 : W0.cell? ⟨w.heap.size + 1, 2, none⟩ = some (.int .i64 x.n) := by rw [cell_of_block hba]; rfl
  have r3 : W0.cell? ⟨w.heap.size + 1, 3, none⟩ = some (.int .i64 x.count) := by rw [cell_of_block hba]; rfl
  have r4 : W0.cell? ⟨w.heap.size + 1, 4, none⟩ = some (.slice p2 x.data.length q2) := by rw [cell_of_block hba]; rfl
  have HW0 := Lib.hid hW0
  have HB0 := Lib.hid hb0
  clear hW0 hb0 hbo hba
  unfold opR ansR at HW0 HFRESH HTOUCH ⊢
  cases hr : rightB o.k o.data.length
  · have HR := Lib.hid hr
    (go_enter Tryz.func11, Tryz.ntmps11; go_wp2_with (fail); rw [← HW0.out]; refine (rightR_any _ _ _ _ _ _ _ _ _ _).mono ?_; rintro e W1 ⟨rfl, hb1⟩; rw [hr]; have HX1 := Lib.hid (HX.out.below (HB0.out.trans (hb1.mono HB0.out.size))); have HB1 := Lib.hid (HB0.out.trans (hb1.mono HB0.out.size)); have hW1 := fun b i (h : (W0.cell? ⟨b, i, none⟩).isSome = true) => cell_keep hb1 h; have k0 := cell_past hb1 (cell_lt o0) o0; have k1 := cell_past hb1 (cell_lt o1) o1; have k2 := cell_past hb1 (cell_lt o2) o2; have k3 := cell_past hb1 (cell_lt o3) o3; have k4 := cell_past hb1 (cell_lt o4) o4; have k5 := cell_past hb1 (cell_lt o5) o5; have k6 := cell_past hb1 (cell_lt o6) o6; have t0 := cell_past hb1 (cell_lt r0) r0; have t1 := cell_past hb1 (cell_lt r1) r1; have t2 := cell_past hb1 (cell_lt r2) r2; have t3 := cell_past hb1 (cell_lt r3) r3; have t4 := cell_past hb1 (cell_lt r4) r4; clear hW1 hb1 o0 o1 o2 o3 o4 o5 o6 r0 r1 r2 r3 r4)
    go_wp2
    go_ret
    exact take_form HR.out rfl HX1.out (tof (F := F) HB1.out)
  · have HR := Lib.hid hr
    have hk : 0 ≤ o.k ∧ o.k ≤ 8 := by
      have := of_decide_eq_true (p := 0 ≤ o.k ∧ o.k ≤ 8 ∧ o.data.length ≤ 4096) hr
      omega
    by_cases hk2 : o.k ≤ 2
    · have hla : legalA A o x = freshA A o x := by
        unfold legalA
        rw [if_pos (by simp only [beq_iff_eq]; omega)]
      have HLA := Lib.hid hla
      clear hla
      (go_enter Tryz.func11, Tryz.ntmps11; go_wp2_with (fail); rw [← HW0.out]; refine (rightR_any _ _ _ _ _ _ _ _ _ _).mono ?_; rintro e W1 ⟨rfl, hb1⟩; rw [hr]; have HX1 := Lib.hid (HX.out.below (HB0.out.trans (hb1.mono HB0.out.size))); have HB1 := Lib.hid (HB0.out.trans (hb1.mono HB0.out.size)); have hW1 := fun b i (h : (W0.cell? ⟨b, i, none⟩).isSome = true) => cell_keep hb1 h; have k0 := cell_past hb1 (cell_lt o0) o0; have k1 := cell_past hb1 (cell_lt o1) o1; have k2 := cell_past hb1 (cell_lt o2) o2; have k3 := cell_past hb1 (cell_lt o3) o3; have k4 := cell_past hb1 (cell_lt o4) o4; have k5 := cell_past hb1 (cell_lt o5) o5; have k6 := cell_past hb1 (cell_lt o6) o6; have t0 := cell_past hb1 (cell_lt r0) r0; have t1 := cell_past hb1 (cell_lt r1) r1; have t2 := cell_past hb1 (cell_lt r2) r2; have t3 := cell_past hb1 (cell_lt r3) r3; have t4 := cell_past hb1 (cell_lt r4) r4; clear hW1 hb1 o0 o1 o2 o3 o4 o5 o6 r0 r1 r2 r3 r4)
      go_wp2_with (fail)
      refine (HFRESH.out _ HX1.out (fge hB HB1.out.size)).mono ?_
      rintro e W2 ⟨rfl, hx2, hb2⟩
      cases hf : (freshA A o x).2
      · rw [hf, if_neg (by decide)] at hx2
        have HX2 := Lib.hid hx2
        have HF : Hid ((legalA A o x).2 = false) := by show _ = _; rw [HLA.out]; exact hf
        have HB2 := Lib.hid ((tof (F := F) HB1.out).trans hb2)
        clear hx2 hb2
        go_wp2
        go_ret
        exact take_no HR.out HF.out rfl HX2.out HB2.out
      · rw [hf, if_pos rfl] at hx2
        have HX2 : Hid (RefX F W2 m (applyC A (legalA A o x).1)) := by rw [HLA.out]; exact hx2
        have HF : Hid ((legalA A o x).2 = true) := by show _ = _; rw [HLA.out]; exact hf
        have HB2 := Lib.hid ((tof (F := F) HB1.out).trans hb2)
        clear hx2 hb2
        go_wp2
        go_ret
        exact take_yes HR.out HF.out rfl HX2.out HB2.out
    · have hk2' : ¬ ((o.k == 0) = true ∨ (o.k == 1) = true ∨ (o.k == 2) = true) := by simp only [beq_iff_eq]; omega
      cases k8 : (o.k == 8)
      · rcases seek_find A o.at_ with ⟨i, hi, hfb, hsv⟩ | ⟨hfb, hsv⟩
        · have hla : legalA A o x = touchA A A.blocks[i] o x := by
            unfold legalA
            rw [if_neg hk2', if_neg (by rw [k8]; decide), hfb]
          have HLA := Lib.hid hla
          have HSV := Lib.hid hsv
          clear hla hfb hsv hk2'
          have hineg : ¬ (i : Int) < 0 := by omega
          (go_enter Tryz.func11, Tryz.ntmps11; go_wp2_with (fail); rw [← HW0.out]; refine (rightR_any _ _ _ _ _ _ _ _ _ _).mono ?_; rintro e W1 ⟨rfl, hb1⟩; rw [hr]; have HX1 := Lib.hid (HX.out.below (HB0.out.trans (hb1.mono HB0.out.size))); have HB1 := Lib.hid (HB0.out.trans (hb1.mono HB0.out.size)); have hW1 := fun b i (h : (W0.cell? ⟨b, i, none⟩).isSome = true) => cell_keep hb1 h; have k0 := cell_past hb1 (cell_lt o0) o0; have k1 := cell_past hb1 (cell_lt o1) o1; have k2 := cell_past hb1 (cell_lt o2) o2; have k3 := cell_past hb1 (cell_lt o3) o3; have k4 := cell_past hb1 (cell_lt o4) o4; have k5 := cell_past hb1 (cell_lt o5) o5; have k6 := cell_past hb1 (cell_lt o6) o6; have t0 := cell_past hb1 (cell_lt r0) r0; have t1 := cell_past hb1 (cell_lt r1) r1; have t2 := cell_past hb1 (cell_lt r2) r2; have t3 := cell_past hb1 (cell_lt r3) r3; have t4 := cell_past hb1 (cell_lt r4) r4; clear hW1 hb1 o0 o1 o2 o3 o4 o5 o6 r0 r1 r2 r3 r4)
          go_wp2_with (fail)
          refine (HFIND.out _ HX1.out _).mono ?_
          rintro e W2 ⟨rfl, hW2⟩
          rw [hW2, HSV.out]
          clear hW2
          go_wp2
          have hfd := HFIND.out W1.drew (HX1.out.below (Below.drew (Below.refl _ _))) o.at_
          rw [HSV.out] at hfd
          refine wp_region_still_tail 7 (by kernel_rfl) (by kernel_rfl) ?_
          simp only [List.take_succ_cons, List.take_zero, List.drop_succ_cons, List.drop_zero]
          repeat (first | still_step | still_call hfd)
          try refine wpStill_nil ?_
          clear hfd
          go_wp2_with (fail)
          have hbd : Below W1.heap.size W1 W1.drew := Below.drew (Below.refl _ _)
          refine (HTOUCH.out _ (HX1.out.below hbd) i hi (HD1.out.below (HB1.out.trans (hbd.mono HB1.out.size))) (HD2.out.below (HB1.out.trans (hbd.mono HB1.out.size))) (fge hB HB1.out.size)).mono ?_
          rintro e W2 ⟨rfl, hx2, hb2⟩
          have HB2 := Lib.hid ((tof (F := F) HB1.out).trans ((tof (F := F) hbd).trans hb2))
          cases hf : (touchA A A.blocks[i] o x).2
          · rw [hf, if_neg (by decide)] at hx2
            have HX2 := Lib.hid hx2
            have HF : Hid ((legalA A o x).2 = false) := by show _ = _; rw [HLA.out]; exact hf
            clear hx2 hb2
            go_wp2
            go_ret
            exact take_no HR.out HF.out rfl HX2.out HB2.out
          · rw [hf, if_pos rfl] at hx2
            have HX2 : Hid (RefX F W2 m (applyC A (legalA A o x).1)) := by rw [HLA.out]; exact hx2
            have HF : Hid ((legalA A o x).2 = true) := by show _ = _; rw [HLA.out]; exact hf
            clear hx2 hb2
            go_wp2
            go_ret
            exact take_yes HR.out HF.out rfl HX2.out HB2.out
        · have hla : legalA A o x = (.keep, bareB x.err x.at_ x.n x.count 12 x.data.length) := by
            unfold legalA
            rw [if_neg hk2', if_neg (by rw [k8]; decide), hfb]
            rfl
          have HLA := Lib.hid hla
          have HSV := Lib.hid hsv
          clear hla hfb hsv hk2'
          (go_enter Tryz.func11, Tryz.ntmps11; go_wp2_with (fail); rw [← HW0.out]; refine (rightR_any _ _ _ _ _ _ _ _ _ _).mono ?_; rintro e W1 ⟨rfl, hb1⟩; rw [hr]; have HX1 := Lib.hid (HX.out.below (HB0.out.trans (hb1.mono HB0.out.size))); have HB1 := Lib.hid (HB0.out.trans (hb1.mono HB0.out.size)); have hW1 := fun b i (h : (W0.cell? ⟨b, i, none⟩).isSome = true) => cell_keep hb1 h; have k0 := cell_past hb1 (cell_lt o0) o0; have k1 := cell_past hb1 (cell_lt o1) o1; have k2 := cell_past hb1 (cell_lt o2) o2; have k3 := cell_past hb1 (cell_lt o3) o3; have k4 := cell_past hb1 (cell_lt o4) o4; have k5 := cell_past hb1 (cell_lt o5) o5; have k6 := cell_past hb1 (cell_lt o6) o6; have t0 := cell_past hb1 (cell_lt r0) r0; have t1 := cell_past hb1 (cell_lt r1) r1; have t2 := cell_past hb1 (cell_lt r2) r2; have t3 := cell_past hb1 (cell_lt r3) r3; have t4 := cell_past hb1 (cell_lt r4) r4; clear hW1 hb1 o0 o1 o2 o3 o4 o5 o6 r0 r1 r2 r3 r4)
          go_wp2_with (fail)
          refine (HFIND.out _ HX1.out _).mono ?_
          rintro e W2 ⟨rfl, hW2⟩
          rw [hW2, HSV.out]
          clear hW2
          go_wp2_with (fail)
          refine (bareR_any _ _ _ _ _ _ _ _ _).mono ?_
          rintro e W3 ⟨rfl, hb3⟩
          have HX3 := Lib.hid (HX1.out.below hb3)
          have HB3 := Lib.hid (HB1.out.trans (hb3.mono HB1.out.size))
          clear hb3
          cases hba : bareB x.err x.at_ x.n x.count 12 x.data.length
          · have HF : Hid ((legalA A o x).2 = false) := by show _ = _; rw [HLA.out]; exact hba
            go_wp2
            go_ret
            exact take_no HR.out HF.out rfl HX3.out (tof (F := F) HB3.out)
          · have HF : Hid ((legalA A o x).2 = true) := by show _ = _; rw [HLA.out]; exact hba
            go_wp2
            go_ret
            exact take_yes HR.out HF.out rfl (by rw [HLA.out]; exact HX3.out) (tof (F := F) HB3.out)
      · have hla : legalA A o x = (.keep, (x.err == 0) && ((x.at_ == 0) && (((x.data.length : Int) == 0) && ((x.count == A.blocks.length) && (x.n == sumS A.blocks))))) := by
          unfold legalA
          rw [if_neg hk2', if_pos k8]
          have hs : sumB A = sumS A.blocks := rfl
          rw [hs]
          unfold onlyA onlyB
          cases x.err == 0 <;> cases x.at_ == 0 <;> cases (x.data.length : Int) == 0 <;> cases x.count == (A.blocks.length : Int) <;> cases x.n == sumS A.blocks <;> rfl
        have HLA := Lib.hid hla
        have HS := Lib.hid (fun k => sumS_take HI.out k)
        clear hla hk2'
        obtain ⟨vb, gy, cy, bs, hat⟩ := HX.out
        obtain ⟨pb, cb, rfl, hrows⟩ := rowsAt_own hat.rows
        have hcm : w.cell? ⟨m, 0, none⟩ = some (.slice pb A.blocks.length cb) := by rw [cell_of_block hat.model]; rfl
        have HRW := Lib.hid hrows
        clear hat hrows
        (go_enter Tryz.func11, Tryz.ntmps11; go_wp2_with (fail); rw [← HW0.out]; refine (rightR_any _ _ _ _ _ _ _ _ _ _).mono ?_; rintro e W1 ⟨rfl, hb1⟩; rw [hr]; have HX1 := Lib.hid (HX.out.below (HB0.out.trans (hb1.mono HB0.out.size))); have HB1 := Lib.hid (HB0.out.trans (hb1.mono HB0.out.size)); have hW1 := fun b i (h : (W0.cell? ⟨b, i, none⟩).isSome = true) => cell_keep hb1 h; have k0 := cell_past hb1 (cell_lt o0) o0; have k1 := cell_past hb1 (cell_lt o1) o1; have k2 := cell_past hb1 (cell_lt o2) o2; have k3 := cell_past hb1 (cell_lt o3) o3; have k4 := cell_past hb1 (cell_lt o4) o4; have k5 := cell_past hb1 (cell_lt o5) o5; have k6 := cell_past hb1 (cell_lt o6) o6; have t0 := cell_past hb1 (cell_lt r0) r0; have t1 := cell_past hb1 (cell_lt r1) r1; have t2 := cell_past hb1 (cell_lt r2) r2; have t3 := cell_past hb1 (cell_lt r3) r3; have t4 := cell_past hb1 (cell_lt r4) r4; clear hW1 hb1 o0 o1 o2 o3 o4 o5 o6 r0 r1 r2 r3 r4)
        have zm := cell_past HB1.out (cell_lt hcm) hcm
        go_wp2
        go_loopw [8, 9] (fun s i wr => ∃ k : Nat, k ≤ A.blocks.length ∧ i = .int .i64 k ∧ s = .int .i64 (sumS (A.blocks.take k)) ∧ wr = W1) (fun _ i _ => A.blocks.length - (intOf i).toNat)
        case atStart => exact ⟨0, Nat.zero_le _, rfl, rfl, rfl⟩
        case round =>
          obtain ⟨k, hk, rfl, rfl, rfl⟩ := hrel
          by_cases hlt : k < A.blocks.length
          · obtain ⟨g, hg, y0, y1, y2⟩ := (HRW.out.below HB1.out) k hlt
            subst hg
            have hsn : sumS (A.blocks.take (k + 1)) = sumS (A.blocks.take k) + A.blocks[k].size := by
              rw [List.take_succ_eq_append_getElem hlt, sumS_append, sumS_cons]
              simp [sumS]
            have hs0 := HS.out k
            have hs1 := HS.out (k + 1)
            rw [hsn] at hs1
            have HSN := Lib.hid hsn
            have hi1 : (0 : Int) ≤ k ∧ (k : Int) < A.blocks.length := by omega
            have hkw : IntKind.i64.wrap ((k : Int) + 1) = (k : Int) + 1 := by rw [IntKind.wrap_i64]; omega
            clear hsn y0 y1
            generalize A.blocks[k].size = z at *
            generalize sumS (A.blocks.take k) = s at *
            have hsw : IntKind.i64.wrap (s + z) = s + z := by rw [IntKind.wrap_i64]; omega
            go_wp2
            go_roundw
            case rel => exact ⟨k + 1, by omega, by go_num, by rw [HSN.out], (by first | rfl | trivial)⟩
            case measure => simp [intOf]; omega
          · obtain rfl : k = A.blocks.length := by omega
            rw [List.take_length]
            generalize hsg : sumS A.blocks = s at *
            have HSG := Lib.hid hsg
            clear hsg
            cases c1 : (x.err == 0)
            · have HF : Hid ((legalA A o x).2 = false) := by show _ = _; rw [HLA.out, c1]; rfl
              go_wp2
              (refine wp_region_quiet_ext (by kernel_rfl) (by kernel_rfl) ?_; (repeat (first | go_big_quiet_step ((fail)) | quiet_step ((fail)))); refine wpQuiet_nil ?_; intro w1 hw1; obtain hb := below_of_ext hw1; clear hw1; obtain ⟨hc, hf⟩ := bcell hb; have hz := hb.size; (try simp at hz))
              have HBq := Lib.hid (HB1.out.trans (hb.mono HB1.out.size))
              have HXq := Lib.hid (HX1.out.below hb)
              clear hb hc hf
              go_wp2
              go_ret
              exact take_no HR.out HF.out rfl HXq.out (tof (F := F) HBq.out)
            · cases c2 : (x.at_ == 0)
              · have HF : Hid ((legalA A o x).2 = false) := by show _ = _; rw [HLA.out, c1, c2]; rfl
                go_wp2
                (refine wp_region_quiet_ext (by kernel_rfl) (by kernel_rfl) ?_; (repeat (first | go_big_quiet_step ((fail)) | quiet_step ((fail)))); refine wpQuiet_nil ?_; intro w1 hw1; obtain hb := below_of_ext hw1; clear hw1; obtain ⟨hc, hf⟩ := bcell hb; have hz := hb.size; (try simp at hz))
                have HBq := Lib.hid (HB1.out.trans (hb.mono HB1.out.size))
                have HXq := Lib.hid (HX1.out.below hb)
                clear hb hc hf
                go_wp2
                go_ret
                exact take_no HR.out HF.out rfl HXq.out (tof (F := F) HBq.out)
              · cases c3 : ((x.data.length : Int) == 0)
                · have HF : Hid ((legalA A o x).2 = false) := by show _ = _; rw [HLA.out, c1, c2, c3]; rfl
                  have c3' : (x.data.length == 0) = false := by simpa using c3
                  go_wp2
                  (refine wp_region_quiet_ext (by kernel_rfl) (by kernel_rfl) ?_; (repeat (first | go_big_quiet_step ((fail)) | quiet_step ((fail)))); refine wpQuiet_nil ?_; intro w1 hw1; obtain hb := below_of_ext hw1; clear hw1; obtain ⟨hc, hf⟩ := bcell hb; have hz := hb.size; (try simp at hz))
                  have HBq := Lib.hid (HB1.out.trans (hb.mono HB1.out.size))
                  have HXq := Lib.hid (HX1.out.below hb)
                  clear hb hc hf
                  go_wp2
                  go_ret
                  exact take_no HR.out HF.out rfl HXq.out (tof (F := F) HBq.out)
                · have c3' : (x.data.length == 0) = true := by simpa using c3
                  cases c4 : (x.count == (A.blocks.length : Int))
                  · have HF : Hid ((legalA A o x).2 = false) := by show _ = _; rw [HLA.out, c1, c2, c3, c4]; rfl
                    go_wp2
                    (refine wp_region_quiet_ext (by kernel_rfl) (by kernel_rfl) ?_; (repeat (first | go_big_quiet_step ((fail)) | quiet_step ((fail)))); refine wpQuiet_nil ?_; intro w1 hw1; obtain hb := below_of_ext hw1; clear hw1; obtain ⟨hc, hf⟩ := bcell hb; have hz := hb.size; (try simp at hz))
                    have HBq := Lib.hid (HB1.out.trans (hb.mono HB1.out.size))
                    have HXq := Lib.hid (HX1.out.below hb)
                    clear hb hc hf
                    go_wp2
                    go_ret
                    exact take_no HR.out HF.out rfl HXq.out (tof (F := F) HBq.out)
                  · cases c5 : (x.n == s)
                    · have HF : Hid ((legalA A o x).2 = false) := by show _ = _; rw [HLA.out, c1, c2, c3, c4, c5]; rfl
                      go_wp2
                      (refine wp_region_quiet_ext (by kernel_rfl) (by kernel_rfl) ?_; (repeat (first | go_big_quiet_step ((fail)) | quiet_step ((fail)))); refine wpQuiet_nil ?_; intro w1 hw1; obtain hb := below_of_ext hw1; clear hw1; obtain ⟨hc, hf⟩ := bcell hb; have hz := hb.size; (try simp at hz))
                      have HBq := Lib.hid (HB1.out.trans (hb.mono HB1.out.size))
                      have HXq := Lib.hid (HX1.out.below hb)
                      clear hb hc hf
                      go_wp2
                      go_ret
                      exact take_no HR.out HF.out rfl HXq.out (tof (F := F) HBq.out)
                    · have HF : Hid ((legalA A o x).2 = true) := by show _ = _; rw [HLA.out, c1, c2, c3, c4, c5]; rfl
                      go_wp2
                      (refine wp_region_quiet_ext (by kernel_rfl) (by kernel_rfl) ?_; (repeat (first | go_big_quiet_step ((fail)) | quiet_step ((fail)))); refine wpQuiet_nil ?_; intro w1 hw1; obtain hb := below_of_ext hw1; clear hw1; obtain ⟨hc, hf⟩ := bcell hb; have hz := hb.size; (try simp at hz))
                      have HBq := Lib.hid (HB1.out.trans (hb.mono HB1.out.size))
                      have HXq := Lib.hid (HX1.out.below hb)
                      clear hb hc hf
                      go_wp2
                      go_ret
                      exact take_yes HR.out HF.out rfl (by rw [HLA.out]; exact HXq.out) (tof (F := F) HBq.out)

end Go.Proofs.YtgcnbiccekaffaaGreat
