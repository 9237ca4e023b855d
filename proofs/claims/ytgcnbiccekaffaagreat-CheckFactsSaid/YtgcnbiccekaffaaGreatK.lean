/- again. -/
import Derived.Test.YtgcnbiccekaffaaGreatJ
namespace Go.Proofs.YtgcnbiccekaffaaGreat
open Go.RowKit Go.ChangeMaps

theorem asked_zero (a : Int) (w : World) (h0 : 0 ≤ a) (h1 : a < 18446744073709551616) :
    Calls Tryz.prog 64 #[.agg #[.int .i64 0, .int .u64 a, .int .u64 0, .int .i64 0, .int .i64 0, .int .i64 0, .slice none 0 0]] w
      fun e w' => e = .returned (.tuple #[.int .i64 (ofF a).1, .int .i64 1, .int .i64 (ofF a).2]) ∧ Below w.heap.size w w' := by
  have h := asked_any mul_any 0 a 0 0 0 0 none 0 0 w h0 h1 (by omega) (by omega)
  have e : askedF 0 a 0 = ((ofF a).1, 1, (ofF a).2) := by unfold askedF; simp
  rw [e] at h
  exact h

set_option maxRecDepth 100000 in
set_option maxHeartbeats 4000000 in
theorem again_any {w : World} {m : Nat} {A : AM} {F : Nat → Prop} {mb clk : Nat} {ents : List Ent} (hI : Inv A) (g : RepG w m A.bytes mb clk ents) (p : (ents.map Ent.b).Perm A.blocks) (f : ∀ k ∈ foot m mb ents, F k)
    (hF : ∀ k, F k → k < w.heap.size) {x : Ent} (hx : x ∈ ents) (o : OpA) (xa : AnsA) (ho : OpOk o) (p1 p2 : Option Addr) (q1 q2 : Nat) :
    Calls Tryz.prog 45 #[.pointer (some ⟨m, 0, none⟩), .pointer (some ⟨x.blk, 0, none⟩), opV o p1 q1, ansV xa p2 q2] w (LegalPost m A F w (againA A x.b o xa)) := by
  obtain ⟨e1, e2, rest, e3⟩ := g.each x hx
  have x0 : w.cell? ⟨x.blk, 0, none⟩ = some (.int .i64 x.b.at_) := by rw [cell_of_block e1]; rfl
  have x1 : w.cell? ⟨x.blk, 1, none⟩ = some (.int .i64 x.b.n) := by rw [cell_of_block e1]; rfl
  have lx := cell_lt x1
  have A0 := Lib.hid ho.a0
  have A1 := Lib.hid ho.a1
  have H := Lib.hid hI
  have G := Lib.hid g
  have P := Lib.hid p
  have FF := Lib.hid f
  have HX := Lib.hid hx
  have HF := Lib.hid hF
  have R : Hid (Rep w m A F) := ⟨mb, clk, ents, g, p, f⟩
  clear hI g p f hx e1 e2 e3 ho hF
  unfold opV ansV
  by_cases c1 : ((ofF o.a).2 != 0) = true
  · have hfr : againA A x.b o xa = (.keep, bareA xa (ofF o.a).2) := by rw [againA, if_pos c1]
    rw [hfr]
    clear hfr
    go_enter Tryz.func45, Tryz.ntmps45
    go_wp2_with (first
      | (go_at_call 64; refine (asked_zero _ _ A0.out A1.out).mono ?_; rintro e w1 ⟨rfl, hb⟩; obtain ⟨hc, hf⟩ := bcell hb; have hz := hb.size; (try simp at hz); have l13 : w.heap.size + 1 + 1 + 1 < w1.heap.size := (by omega); have l10 : w.heap.size < w1.heap.size := (by omega); have l11 : w.heap.size + 1 < w1.heap.size := (by omega); have l12 : w.heap.size + 1 + 1 < w1.heap.size := (by omega))
      | (go_at_call 44; refine (bare_any _ _ _ _ _ _ _ _ _).mono ?_; rintro e w2 ⟨rfl, hb2⟩))
    go_ret2
    exact ⟨_, rfl, (by repeat (first | exact Below.refl _ _ | assumption | refine Below.alloc ?_ (by first | omega | (simp <;> omega)) _ | refine Below.drew ?_ | refine Below.setCell ?_ (by first | omega | (simp <;> omega)) _ | refine Below.via (by assumption) (by first | omega | (simp <;> omega)) ?_)), fun _ => does_nothing (R.out.below (by repeat (first | exact Below.refl _ _ | assumption | refine Below.alloc ?_ (by first | omega | (simp <;> omega)) _ | refine Below.drew ?_ | refine Below.setCell ?_ (by first | omega | (simp <;> omega)) _ | refine Below.via (by assumption) (by first | omega | (simp <;> omega)) ?_)))⟩
  · have c1' : ((ofF o.a).2 != 0) = false := by simpa using c1
    by_cases c2 : bareB xa.err xa.at_ xa.n xa.count 13 xa.data.length = true
    · have hfr : againA A x.b o xa = (.keep, true) := by rw [againA, if_neg c1]; exact if_pos c2
      rw [hfr]
      clear hfr c1
      go_enter Tryz.func45, Tryz.ntmps45
      go_wp2_with (first
        | (go_at_call 64; refine (asked_zero _ _ A0.out A1.out).mono ?_; rintro e w1 ⟨rfl, hb⟩; obtain ⟨hc, hf⟩ := bcell hb; have hz := hb.size; (try simp at hz); have l13 : w.heap.size + 1 + 1 + 1 < w1.heap.size := (by omega); have l10 : w.heap.size < w1.heap.size := (by omega); have l11 : w.heap.size + 1 < w1.heap.size := (by omega); have l12 : w.heap.size + 1 + 1 < w1.heap.size := (by omega))
        | (go_at_call 44; refine (bare_any _ _ _ _ _ _ _ _ _).mono ?_; rintro e w2 ⟨rfl, hb2⟩))
      go_ret2
      exact ⟨_, rfl, (by repeat (first | exact Below.refl _ _ | assumption | refine Below.alloc ?_ (by first | omega | (simp <;> omega)) _ | refine Below.drew ?_ | refine Below.setCell ?_ (by first | omega | (simp <;> omega)) _ | refine Below.via (by assumption) (by first | omega | (simp <;> omega)) ?_)), fun _ => does_nothing (R.out.below (by repeat (first | exact Below.refl _ _ | assumption | refine Below.alloc ?_ (by first | omega | (simp <;> omega)) _ | refine Below.drew ?_ | refine Below.setCell ?_ (by first | omega | (simp <;> omega)) _ | refine Below.via (by assumption) (by first | omega | (simp <;> omega)) ?_)))⟩
    · have c2' : bareB xa.err xa.at_ xa.n xa.count 13 xa.data.length = false := by simpa using c2
      by_cases c3 : (xa.at_ == x.b.at_) = true
      · have hfr : againA A x.b o xa = (.upd x.b.at_ { x.b with size := (ofF o.a).1 }, onlyA xa 0 x.b.at_ x.b.n 0 && decide ((ofF o.a).1 ≤ x.b.n)) := by
          rw [againA, if_neg c1]; rw [if_neg (by simpa [bareA] using c2), if_pos c3]
        rw [hfr]
        clear hfr c1 c2
        by_cases d1 : onlyB xa.err xa.at_ xa.n xa.count 0 x.b.at_ x.b.n 0 = true
        · by_cases d2 : ((xa.data.length : Int) == 0) = true
          · go_enter Tryz.func45, Tryz.ntmps45
            go_wp2_with (first
            | (go_at_call 64; refine (asked_zero _ _ A0.out A1.out).mono ?_; rintro e w1 ⟨rfl, hb⟩; obtain ⟨hc, hf⟩ := bcell hb; have hz := hb.size; (try simp at hz); have l13 : w.heap.size + 1 + 1 + 1 < w1.heap.size := (by omega); have l10 : w.heap.size < w1.heap.size := (by omega); have l11 : w.heap.size + 1 < w1.heap.size := (by omega); have l12 : w.heap.size + 1 + 1 < w1.heap.size := (by omega); have lx1 : x.blk < w1.heap.size := (by omega))
            | (go_at_call 44; refine (bare_any _ _ _ _ _ _ _ _ _).mono ?_; rintro e w2 ⟨rfl, hb2⟩; obtain ⟨hc2, hf2⟩ := bcell hb2; have hz2 := hb2.size; (try simp at hz2); have l20 : w.heap.size < w2.heap.size := (by omega); have l21 : w.heap.size + 1 < w2.heap.size := (by omega); have l22 : w.heap.size + 1 + 1 < w2.heap.size := (by omega); have l23 : w.heap.size + 1 + 1 + 1 < w2.heap.size := (by omega); have l2b : w1.heap.size < w2.heap.size := (by omega); have lx2 : x.blk < w2.heap.size := (by omega)))
            have hbw : Below w.heap.size w w2 := (by repeat (first | exact Below.refl _ _ | assumption | refine Below.alloc ?_ (by first | omega | (simp <;> omega)) _ | refine Below.drew ?_ | refine Below.setCell ?_ (by first | omega | (simp <;> omega)) _ | refine Below.via (by assumption) (by first | omega | (simp <;> omega)) ?_))
            have X0 := cell_past hbw lx x0
            have X1 := cell_past hbw lx x1
            have K0 : w2.cell? ⟨w.heap.size, 0, none⟩ = some (.pointer (some ⟨m, 0, none⟩)) := by rw [hc2 _ _ (by simp; omega), World.cell?_alloc_past _ _ _ l10, hc _ _ (by simp <;> omega)]; simp [go_sem]
            have K1 : w2.cell? ⟨w.heap.size + 1, 0, none⟩ = some (.pointer (some ⟨x.blk, 0, none⟩)) := by rw [hc2 _ _ (by simp; omega), World.cell?_alloc_past _ _ _ l11, hc _ _ (by simp <;> omega)]; simp [go_sem]
            have KA : ∀ i, w2.cell? ⟨w.heap.size + 1 + 1 + 1, i, none⟩ = (#[.int .i64 xa.err, .int .i64 xa.at_, .int .i64 xa.n, .int .i64 xa.count, .slice p2 xa.data.length q2] : Array Value)[i]? := fun i => by rw [hc2 _ _ (by simp; omega), World.cell?_alloc_past _ _ _ l13, hc _ _ (by simp <;> omega)]; simp [go_sem]
            have KA0 := KA 0
            have KA1 := KA 1
            have KA2 := KA 2
            have KA3 := KA 3
            have KA4 := KA 4
            have KS : w2.cell? ⟨w1.heap.size, 0, none⟩ = some (.int .i64 (ofF o.a).1) := by rw [hc2 _ _ (by simp)]; simp [go_sem]
            simp only [List.getElem?_toArray, List.getElem?_cons_zero, List.getElem?_cons_succ] at KA0 KA1 KA2 KA3 KA4
            have HB2 := Lib.hid hbw
            clear hc hf hc2 hf2 KA hb hb2 hbw x0 x1
            (refine wp_region_quiet_ext (by kernel_rfl) (by kernel_rfl) ?_; (repeat (first | go_big_quiet_step ((fail)) | quiet_step ((fail)))); refine wpQuiet_nil ?_; intro w3 hw3; obtain hb3 := below_of_ext hw3; clear hw3; obtain ⟨hc3, hf3⟩ := bcell hb3; have hz3 := hb3.size; (try simp at hz3))
            have hbw3 := Lib.hid (Below.via hb3 (by omega) HB2.out)
            have J0 := cell_past hb3 (cell_lt K0) K0
            have J1 := cell_past hb3 (cell_lt K1) K1
            have JA0 := cell_past hb3 (cell_lt KA0) KA0
            have JA1 := cell_past hb3 (cell_lt KA1) KA1
            have JA2 := cell_past hb3 (cell_lt KA2) KA2
            have JA3 := cell_past hb3 (cell_lt KA3) KA3
            have JA4 := cell_past hb3 (cell_lt KA4) KA4
            have JS := cell_past hb3 (cell_lt KS) KS
            have Y0 := cell_past hb3 (cell_lt X0) X0
            have Y1 := cell_past hb3 (cell_lt X1) X1
            have lw3 : w.heap.size + 1 + 1 + 1 < w3.heap.size := (by omega)
            have lw3b : w1.heap.size < w3.heap.size := (by omega)
            clear hc3 hf3 hb3 K0 K1 KA0 KA1 KA2 KA3 KA4 KS X0 X1
            go_wp2
            (refine wp_region_quiet_ext (by kernel_rfl) (by kernel_rfl) ?_; (repeat (first | go_big_quiet_step ((go_at_call 43; refine Calls.ext_of (only_any _ _ _ _ _ _ _ _ _ _ _))) | quiet_step ((go_at_call 43; refine Calls.ext_of (only_any _ _ _ _ _ _ _ _ _ _ _))))); refine wpQuiet_nil ?_; intro w4 hw4; obtain hb4 := below_of_ext hw4; clear hw4; obtain ⟨hc4, hf4⟩ := bcell hb4; have hz4 := hb4.size; (try simp at hz4))
            go_wp2
            go_ret2
            have hbw4 : Below w.heap.size w w4 := Below.via hb4 (by omega) hbw3.out
            exact ⟨.func (.func 69) #[] #[.pointer (some ⟨w1.heap.size, 0, none⟩), .pointer (some ⟨w.heap.size + 1, 0, none⟩)], by simp [onlyA, d1, d2], hbw4,
              fun _ => does_size H.out (G.out.below hbw4) P.out FF.out HX.out _ _ _ (cell_past hb4 (cell_lt JS) JS) (cell_past hb4 (cell_lt J1) J1)⟩
          · have d2' : ((xa.data.length : Int) == 0) = false := by simpa using d2
            clear d2
            go_enter Tryz.func45, Tryz.ntmps45
            go_wp2_with (first
            | (go_at_call 64; refine (asked_zero _ _ A0.out A1.out).mono ?_; rintro e w1 ⟨rfl, hb⟩; obtain ⟨hc, hf⟩ := bcell hb; have hz := hb.size; (try simp at hz); have l13 : w.heap.size + 1 + 1 + 1 < w1.heap.size := (by omega); have l10 : w.heap.size < w1.heap.size := (by omega); have l11 : w.heap.size + 1 < w1.heap.size := (by omega); have l12 : w.heap.size + 1 + 1 < w1.heap.size := (by omega); have lx1 : x.blk < w1.heap.size := (by omega))
            | (go_at_call 44; refine (bare_any _ _ _ _ _ _ _ _ _).mono ?_; rintro e w2 ⟨rfl, hb2⟩; obtain ⟨hc2, hf2⟩ := bcell hb2; have hz2 := hb2.size; (try simp at hz2); have l20 : w.heap.size < w2.heap.size := (by omega); have l21 : w.heap.size + 1 < w2.heap.size := (by omega); have l22 : w.heap.size + 1 + 1 < w2.heap.size := (by omega); have l23 : w.heap.size + 1 + 1 + 1 < w2.heap.size := (by omega); have l2b : w1.heap.size < w2.heap.size := (by omega); have lx2 : x.blk < w2.heap.size := (by omega)))
            have hbw : Below w.heap.size w w2 := (by repeat (first | exact Below.refl _ _ | assumption | refine Below.alloc ?_ (by first | omega | (simp <;> omega)) _ | refine Below.drew ?_ | refine Below.setCell ?_ (by first | omega | (simp <;> omega)) _ | refine Below.via (by assumption) (by first | omega | (simp <;> omega)) ?_))
            have X0 := cell_past hbw lx x0
            have X1 := cell_past hbw lx x1
            have K0 : w2.cell? ⟨w.heap.size, 0, none⟩ = some (.pointer (some ⟨m, 0, none⟩)) := by rw [hc2 _ _ (by simp; omega), World.cell?_alloc_past _ _ _ l10, hc _ _ (by simp <;> omega)]; simp [go_sem]
            have K1 : w2.cell? ⟨w.heap.size + 1, 0, none⟩ = some (.pointer (some ⟨x.blk, 0, none⟩)) := by rw [hc2 _ _ (by simp; omega), World.cell?_alloc_past _ _ _ l11, hc _ _ (by simp <;> omega)]; simp [go_sem]
            have KA : ∀ i, w2.cell? ⟨w.heap.size + 1 + 1 + 1, i, none⟩ = (#[.int .i64 xa.err, .int .i64 xa.at_, .int .i64 xa.n, .int .i64 xa.count, .slice p2 xa.data.length q2] : Array Value)[i]? := fun i => by rw [hc2 _ _ (by simp; omega), World.cell?_alloc_past _ _ _ l13, hc _ _ (by simp <;> omega)]; simp [go_sem]
            have KA0 := KA 0
            have KA1 := KA 1
            have KA2 := KA 2
            have KA3 := KA 3
            have KA4 := KA 4
            have KS : w2.cell? ⟨w1.heap.size, 0, none⟩ = some (.int .i64 (ofF o.a).1) := by rw [hc2 _ _ (by simp)]; simp [go_sem]
            simp only [List.getElem?_toArray, List.getElem?_cons_zero, List.getElem?_cons_succ] at KA0 KA1 KA2 KA3 KA4
            have HB2 := Lib.hid hbw
            clear hc hf hc2 hf2 KA hb hb2 hbw x0 x1
            (refine wp_region_quiet_ext (by kernel_rfl) (by kernel_rfl) ?_; (repeat (first | go_big_quiet_step ((fail)) | quiet_step ((fail)))); refine wpQuiet_nil ?_; intro w3 hw3; obtain hb3 := below_of_ext hw3; clear hw3; obtain ⟨hc3, hf3⟩ := bcell hb3; have hz3 := hb3.size; (try simp at hz3))
            have hbw3 := Lib.hid (Below.via hb3 (by omega) HB2.out)
            have J0 := cell_past hb3 (cell_lt K0) K0
            have J1 := cell_past hb3 (cell_lt K1) K1
            have JA0 := cell_past hb3 (cell_lt KA0) KA0
            have JA1 := cell_past hb3 (cell_lt KA1) KA1
            have JA2 := cell_past hb3 (cell_lt KA2) KA2
            have JA3 := cell_past hb3 (cell_lt KA3) KA3
            have JA4 := cell_past hb3 (cell_lt KA4) KA4
            have JS := cell_past hb3 (cell_lt KS) KS
            have Y0 := cell_past hb3 (cell_lt X0) X0
            have Y1 := cell_past hb3 (cell_lt X1) X1
            have lw3 : w.heap.size + 1 + 1 + 1 < w3.heap.size := (by omega)
            have lw3b : w1.heap.size < w3.heap.size := (by omega)
            clear hc3 hf3 hb3 K0 K1 KA0 KA1 KA2 KA3 KA4 KS X0 X1
            go_wp2
            (refine wp_region_quiet_ext (by kernel_rfl) (by kernel_rfl) ?_; (repeat (first | go_big_quiet_step ((go_at_call 43; refine Calls.ext_of (only_any _ _ _ _ _ _ _ _ _ _ _))) | quiet_step ((go_at_call 43; refine Calls.ext_of (only_any _ _ _ _ _ _ _ _ _ _ _))))); refine wpQuiet_nil ?_; intro w4 hw4; obtain hb4 := below_of_ext hw4; clear hw4; obtain ⟨hc4, hf4⟩ := bcell hb4; have hz4 := hb4.size; (try simp at hz4))
            go_wp2
            go_ret2
            have hbw4 : Below w.heap.size w w4 := Below.via hb4 (by omega) hbw3.out
            exact ⟨.func (.func 69) #[] #[.pointer (some ⟨w1.heap.size, 0, none⟩), .pointer (some ⟨w.heap.size + 1, 0, none⟩)], by simp [onlyA, d1, d2'], hbw4, fun hh => by simp [onlyA, d1, d2'] at hh⟩
        · have d1' : onlyB xa.err xa.at_ xa.n xa.count 0 x.b.at_ x.b.n 0 = false := by simpa using d1
          clear d1
          · go_enter Tryz.func45, Tryz.ntmps45
            go_wp2_with (first
            | (go_at_call 64; refine (asked_zero _ _ A0.out A1.out).mono ?_; rintro e w1 ⟨rfl, hb⟩; obtain ⟨hc, hf⟩ := bcell hb; have hz := hb.size; (try simp at hz); have l13 : w.heap.size + 1 + 1 + 1 < w1.heap.size := (by omega); have l10 : w.heap.size < w1.heap.size := (by omega); have l11 : w.heap.size + 1 < w1.heap.size := (by omega); have l12 : w.heap.size + 1 + 1 < w1.heap.size := (by omega); have lx1 : x.blk < w1.heap.size := (by omega))
            | (go_at_call 44; refine (bare_any _ _ _ _ _ _ _ _ _).mono ?_; rintro e w2 ⟨rfl, hb2⟩; obtain ⟨hc2, hf2⟩ := bcell hb2; have hz2 := hb2.size; (try simp at hz2); have l20 : w.heap.size < w2.heap.size := (by omega); have l21 : w.heap.size + 1 < w2.heap.size := (by omega); have l22 : w.heap.size + 1 + 1 < w2.heap.size := (by omega); have l23 : w.heap.size + 1 + 1 + 1 < w2.heap.size := (by omega); have l2b : w1.heap.size < w2.heap.size := (by omega); have lx2 : x.blk < w2.heap.size := (by omega)))
            have hbw : Below w.heap.size w w2 := (by repeat (first | exact Below.refl _ _ | assumption | refine Below.alloc ?_ (by first | omega | (simp <;> omega)) _ | refine Below.drew ?_ | refine Below.setCell ?_ (by first | omega | (simp <;> omega)) _ | refine Below.via (by assumption) (by first | omega | (simp <;> omega)) ?_))
            have X0 := cell_past hbw lx x0
            have X1 := cell_past hbw lx x1
            have K0 : w2.cell? ⟨w.heap.size, 0, none⟩ = some (.pointer (some ⟨m, 0, none⟩)) := by rw [hc2 _ _ (by simp; omega), World.cell?_alloc_past _ _ _ l10, hc _ _ (by simp <;> omega)]; simp [go_sem]
            have K1 : w2.cell? ⟨w.heap.size + 1, 0, none⟩ = some (.pointer (some ⟨x.blk, 0, none⟩)) := by rw [hc2 _ _ (by simp; omega), World.cell?_alloc_past _ _ _ l11, hc _ _ (by simp <;> omega)]; simp [go_sem]
            have KA : ∀ i, w2.cell? ⟨w.heap.size + 1 + 1 + 1, i, none⟩ = (#[.int .i64 xa.err, .int .i64 xa.at_, .int .i64 xa.n, .int .i64 xa.count, .slice p2 xa.data.length q2] : Array Value)[i]? := fun i => by rw [hc2 _ _ (by simp; omega), World.cell?_alloc_past _ _ _ l13, hc _ _ (by simp <;> omega)]; simp [go_sem]
            have KA0 := KA 0
            have KA1 := KA 1
            have KA2 := KA 2
            have KA3 := KA 3
            have KA4 := KA 4
            have KS : w2.cell? ⟨w1.heap.size, 0, none⟩ = some (.int .i64 (ofF o.a).1) := by rw [hc2 _ _ (by simp)]; simp [go_sem]
            simp only [List.getElem?_toArray, List.getElem?_cons_zero, List.getElem?_cons_succ] at KA0 KA1 KA2 KA3 KA4
            have HB2 := Lib.hid hbw
            clear hc hf hc2 hf2 KA hb hb2 hbw x0 x1
            (refine wp_region_quiet_ext (by kernel_rfl) (by kernel_rfl) ?_; (repeat (first | go_big_quiet_step ((fail)) | quiet_step ((fail)))); refine wpQuiet_nil ?_; intro w3 hw3; obtain hb3 := below_of_ext hw3; clear hw3; obtain ⟨hc3, hf3⟩ := bcell hb3; have hz3 := hb3.size; (try simp at hz3))
            have hbw3 := Lib.hid (Below.via hb3 (by omega) HB2.out)
            have J0 := cell_past hb3 (cell_lt K0) K0
            have J1 := cell_past hb3 (cell_lt K1) K1
            have JA0 := cell_past hb3 (cell_lt KA0) KA0
            have JA1 := cell_past hb3 (cell_lt KA1) KA1
            have JA2 := cell_past hb3 (cell_lt KA2) KA2
            have JA3 := cell_past hb3 (cell_lt KA3) KA3
            have JA4 := cell_past hb3 (cell_lt KA4) KA4
            have JS := cell_past hb3 (cell_lt KS) KS
            have Y0 := cell_past hb3 (cell_lt X0) X0
            have Y1 := cell_past hb3 (cell_lt X1) X1
            have lw3 : w.heap.size + 1 + 1 + 1 < w3.heap.size := (by omega)
            have lw3b : w1.heap.size < w3.heap.size := (by omega)
            clear hc3 hf3 hb3 K0 K1 KA0 KA1 KA2 KA3 KA4 KS X0 X1
            go_wp2
            (refine wp_region_quiet_ext (by kernel_rfl) (by kernel_rfl) ?_; (repeat (first | go_big_quiet_step ((go_at_call 43; refine Calls.ext_of (only_any _ _ _ _ _ _ _ _ _ _ _))) | quiet_step ((go_at_call 43; refine Calls.ext_of (only_any _ _ _ _ _ _ _ _ _ _ _))))); refine wpQuiet_nil ?_; intro w4 hw4; obtain hb4 := below_of_ext hw4; clear hw4; obtain ⟨hc4, hf4⟩ := bcell hb4; have hz4 := hb4.size; (try simp at hz4))
            go_wp2
            go_ret2
            have hbw4 : Below w.heap.size w w4 := Below.via hb4 (by omega) hbw3.out
            exact ⟨.func (.func 69) #[] #[.pointer (some ⟨w1.heap.size, 0, none⟩), .pointer (some ⟨w.heap.size + 1, 0, none⟩)], by simp [onlyA, d1'], hbw4, fun hh => by simp [onlyA, d1'] at hh⟩
      · have c3' : (xa.at_ == x.b.at_) = false := by simpa using c3
        have hfr : againA A x.b o xa = (.move x.b.at_ ⟨xa.at_, xa.n.toNat, (ofF o.a).1, grownC x.b.cells xa.n.toNat⟩, placeA A xa (ofF o.a).1 1) := by
          rw [againA, if_neg c1]; rw [if_neg (by simpa [bareA] using c2), if_neg c3]
        rw [hfr]
        clear hfr c1 c2 c3
        · · go_enter Tryz.func45, Tryz.ntmps45
            go_wp2_with (first
            | (go_at_call 64; refine (asked_zero _ _ A0.out A1.out).mono ?_; rintro e w1 ⟨rfl, hb⟩; obtain ⟨hc, hf⟩ := bcell hb; have hz := hb.size; (try simp at hz); have l13 : w.heap.size + 1 + 1 + 1 < w1.heap.size := (by omega); have l10 : w.heap.size < w1.heap.size := (by omega); have l11 : w.heap.size + 1 < w1.heap.size := (by omega); have l12 : w.heap.size + 1 + 1 < w1.heap.size := (by omega); have lx1 : x.blk < w1.heap.size := (by omega))
            | (go_at_call 44; refine (bare_any _ _ _ _ _ _ _ _ _).mono ?_; rintro e w2 ⟨rfl, hb2⟩; obtain ⟨hc2, hf2⟩ := bcell hb2; have hz2 := hb2.size; (try simp at hz2); have l20 : w.heap.size < w2.heap.size := (by omega); have l21 : w.heap.size + 1 < w2.heap.size := (by omega); have l22 : w.heap.size + 1 + 1 < w2.heap.size := (by omega); have l23 : w.heap.size + 1 + 1 + 1 < w2.heap.size := (by omega); have l2b : w1.heap.size < w2.heap.size := (by omega); have lx2 : x.blk < w2.heap.size := (by omega)))
            have hbw : Below w.heap.size w w2 := (by repeat (first | exact Below.refl _ _ | assumption | refine Below.alloc ?_ (by first | omega | (simp <;> omega)) _ | refine Below.drew ?_ | refine Below.setCell ?_ (by first | omega | (simp <;> omega)) _ | refine Below.via (by assumption) (by first | omega | (simp <;> omega)) ?_))
            have X0 := cell_past hbw lx x0
            have X1 := cell_past hbw lx x1
            have K0 : w2.cell? ⟨w.heap.size, 0, none⟩ = some (.pointer (some ⟨m, 0, none⟩)) := by rw [hc2 _ _ (by simp; omega), World.cell?_alloc_past _ _ _ l10, hc _ _ (by simp <;> omega)]; simp [go_sem]
            have K1 : w2.cell? ⟨w.heap.size + 1, 0, none⟩ = some (.pointer (some ⟨x.blk, 0, none⟩)) := by rw [hc2 _ _ (by simp; omega), World.cell?_alloc_past _ _ _ l11, hc _ _ (by simp <;> omega)]; simp [go_sem]
            have KA : ∀ i, w2.cell? ⟨w.heap.size + 1 + 1 + 1, i, none⟩ = (#[.int .i64 xa.err, .int .i64 xa.at_, .int .i64 xa.n, .int .i64 xa.count, .slice p2 xa.data.length q2] : Array Value)[i]? := fun i => by rw [hc2 _ _ (by simp; omega), World.cell?_alloc_past _ _ _ l13, hc _ _ (by simp <;> omega)]; simp [go_sem]
            have KA0 := KA 0
            have KA1 := KA 1
            have KA2 := KA 2
            have KA3 := KA 3
            have KA4 := KA 4
            have KS : w2.cell? ⟨w1.heap.size, 0, none⟩ = some (.int .i64 (ofF o.a).1) := by rw [hc2 _ _ (by simp)]; simp [go_sem]
            simp only [List.getElem?_toArray, List.getElem?_cons_zero, List.getElem?_cons_succ] at KA0 KA1 KA2 KA3 KA4
            have HB2 := Lib.hid hbw
            clear hc hf hc2 hf2 KA hb hb2 hbw x0 x1
            (refine wp_region_quiet_ext (by kernel_rfl) (by kernel_rfl) ?_; (repeat (first | go_big_quiet_step ((fail)) | quiet_step ((fail)))); refine wpQuiet_nil ?_; intro w3 hw3; obtain hb3 := below_of_ext hw3; clear hw3; obtain ⟨hc3, hf3⟩ := bcell hb3; have hz3 := hb3.size; (try simp at hz3))
            have hbw3 := Lib.hid (Below.via hb3 (by omega) HB2.out)
            have J0 := cell_past hb3 (cell_lt K0) K0
            have J1 := cell_past hb3 (cell_lt K1) K1
            have JA0 := cell_past hb3 (cell_lt KA0) KA0
            have JA1 := cell_past hb3 (cell_lt KA1) KA1
            have JA2 := cell_past hb3 (cell_lt KA2) KA2
            have JA3 := cell_past hb3 (cell_lt KA3) KA3
            have JA4 := cell_past hb3 (cell_lt KA4) KA4
            have JS := cell_past hb3 (cell_lt KS) KS
            have Y0 := cell_past hb3 (cell_lt X0) X0
            have Y1 := cell_past hb3 (cell_lt X1) X1
            have lw3 : w.heap.size + 1 + 1 + 1 < w3.heap.size := (by omega)
            have lw3b : w1.heap.size < w3.heap.size := (by omega)
            clear hc3 hf3 hb3 K0 K1 KA0 KA1 KA2 KA3 KA4 KS X0 X1
            go_wp2_with (go_at_call 65; refine (place_any (R.out.below hbw3.out) H.out _ _ _ _ _ _ _ _ _ (by omega) (by omega)).mono ?_; rintro e w4 ⟨rfl, hb4⟩)
            go_ret2
            have hbw4 : Below w.heap.size w w4 := Below.via hb4 (by omega) hbw3.out
            have lz4 := hb4.size
            refine ⟨_, rfl, hbw4.alloc hbw4.size _, fun hok => ?_⟩
            have Z0 := cell_past hb4 (cell_lt J0) J0
            have Z1 := cell_past hb4 (cell_lt J1) J1
            have hbA : Below w.heap.size w (w4.alloc (.cells #[.int .i64 xa.at_, .int .i64 xa.n, .int .i64 (ofF o.a).1] 73)) := hbw4.alloc hbw4.size _
            exact does_move (w := w) H.out (G.out.below hbA) P.out FF.out HF.out HX.out xa _ hok w.heap.size (w.heap.size + 1) w4.heap.size (Nat.le_refl _) (by omega) (by omega)
              (by rw [World.cell?_alloc_past _ _ _ (cell_lt Z0)]; exact Z0) (by rw [World.cell?_alloc_past _ _ _ (cell_lt Z1)]; exact Z1) (by simp) (by simp) (by simp)

end Go.Proofs.YtgcnbiccekaffaaGreat
