/- legal: the other kinds; May and Take. -/
import Derived.Test.YtgcnbiccekaffaaGreatL
namespace Go.Proofs.YtgcnbiccekaffaaGreat
open Go.RowKit Go.ChangeMaps

theorem lookup_ext {w W : World} {m mb clk : Nat} {bytes : Int} {ents : List Ent} (g : RepG w m bytes mb clk ents) (hb : Below w.heap.size w W) (k : Int) {v : Value} (hv : ptrOf (ents.find? fun x => x.b.at_ == k) = v) :
    ∀ X, (Instr.lookup 74 (.map (some mb)) (.int .i64 k) false).run Tryz.prog (W.ext X) = .ok v (W.ext X) := by
  intro X
  rw [← hv]
  exact run_lookup_ents ((((below_ext W X).block _ (by have := lt_of_block g.map; have := hb.size; omega)).trans (hb.block _ (lt_of_block g.map))).trans g.map) k

set_option maxRecDepth 100000 in
set_option maxHeartbeats 4000000 in
theorem legal_gone {w : World} {m : Nat} {A : AM} {F : Nat → Prop} (h : Rep w m A F) (o : OpA) (xa : AnsA) (k0 : (o.k == 0) = false) (k1 : (o.k == 1) = false) (k2 : (o.k == 2) = false) (k8 : (o.k == 8) = false)
    (hf : findB A o.at_ = none) (p1 p2 : Option Addr) (q1 q2 : Nat) :
    Calls Tryz.prog 24 #[.pointer (some ⟨m, 0, none⟩), opV o p1 q1, ansV xa p2 q2] w (LegalPost m A F w (.keep, bareA xa 12)) := by
  have R := Lib.hid h
  obtain ⟨mb, clk, ents, g, p, f⟩ := h
  have hfind := find_none p hf
  have c1 := g.cell1
  have hm := cell_lt c1
  obtain ⟨W0, hW0⟩ : ∃ W0, W0 = ((w.alloc (.cells #[.pointer (some ⟨m, 0, none⟩)] 25)).alloc (.cells #[.int .i64 o.k, .int .u64 o.a, .int .u64 o.b, .int .i64 o.at_, .int .i64 o.fr, .int .i64 o.n, .slice p1 o.data.length q1] 36)).alloc (.cells #[.int .i64 xa.err, .int .i64 xa.at_, .int .i64 xa.n, .int .i64 xa.count, .slice p2 xa.data.length q2] 38) := ⟨_, rfl⟩
  have hbW : Below w.heap.size w W0 := by rw [hW0]; exact (by repeat (first | exact Below.refl _ _ | assumption | refine Below.alloc ?_ (by first | omega | (simp <;> omega)) _ | refine Below.drew ?_ | refine Below.setCell ?_ (by first | omega | (simp <;> omega)) _ | refine Below.via (by assumption) (by first | omega | (simp <;> omega)) ?_))
  have hsW : w.heap.size + 3 ≤ W0.heap.size := by rw [hW0]; simp
  have B0 : W0.cell? ⟨w.heap.size, 0, none⟩ = some (.pointer (some ⟨m, 0, none⟩)) := by rw [hW0]; simp [go_sem]
  have BO : ∀ i, W0.cell? ⟨w.heap.size + 1, i, none⟩ = (#[.int .i64 o.k, .int .u64 o.a, .int .u64 o.b, .int .i64 o.at_, .int .i64 o.fr, .int .i64 o.n, .slice p1 o.data.length q1] : Array Value)[i]? := fun i => by rw [hW0]; simp [go_sem]
  have BA : ∀ i, W0.cell? ⟨w.heap.size + 1 + 1, i, none⟩ = (#[.int .i64 xa.err, .int .i64 xa.at_, .int .i64 xa.n, .int .i64 xa.count, .slice p2 xa.data.length q2] : Array Value)[i]? := fun i => by rw [hW0]; simp [go_sem]
  have BO0 := BO 0
  have BO3 := BO 3
  have VM : W0.cell? ⟨m, 1, none⟩ = some (.map (some mb)) := by rw [hbW.cell (p := ⟨m, 1, none⟩) hm]; exact c1
  simp only [List.getElem?_toArray, List.getElem?_cons_zero, List.getElem?_cons_succ] at BO0 BO3
  have hlk := lookup_ext g hbW o.at_ (v := .pointer none) (by rw [hfind]; rfl)
  clear p f g hfind hf
  unfold opV ansV
  go_enter Tryz.func24, Tryz.ntmps24
  go_wp2_with (fail)
  rw [← hW0]
  clear hW0
  (refine wp_region_quiet_ext (by kernel_rfl) (by kernel_rfl) ?_; (repeat (first | go_big_quiet_step ((fail)) | quiet_step ((fail)))); refine wpQuiet_nil ?_; intro w1 hw1; obtain hb := below_of_ext hw1; clear hw1; obtain ⟨hc, hf⟩ := bcell hb; have hz := hb.size; (try simp at hz))
  have V0 := cell_past hb (by omega) B0
  have VO := fun i => (hb.cell (p := ⟨w.heap.size + 1, i, none⟩) (show w.heap.size + 1 < W0.heap.size from by omega)).trans (BO i)
  have VA := fun i => (hb.cell (p := ⟨w.heap.size + 1 + 1, i, none⟩) (show w.heap.size + 1 + 1 < W0.heap.size from by omega)).trans (BA i)
  have VO0 := VO 0
  have VO1 := VO 1
  have VO2 := VO 2
  have VO3 := VO 3
  have VO4 := VO 4
  have VO5 := VO 5
  have VO6 := VO 6
  have VA0 := VA 0
  have VA1 := VA 1
  have VA2 := VA 2
  have VA3 := VA 3
  have VA4 := VA 4
  simp only [List.getElem?_toArray, List.getElem?_cons_zero, List.getElem?_cons_succ] at VO0 VO1 VO2 VO3 VO4 VO5 VO6 VA0 VA1 VA2 VA3 VA4
  have hbw := Lib.hid (hbW.trans (hb.mono (by omega : w.heap.size ≤ _)))
  clear hc hf hb hbW B0 BO BA BO0 BO3 VO VA VM
  go_wp2_with (go_at_call 44; refine (bare_any _ _ _ _ _ _ _ _ _).mono ?_; rintro e w2 ⟨rfl, hb2⟩)
  go_ret2
  have hbx : Below w.heap.size w w2 := Below.via hb2 (by have := hbw.out.size; omega) hbw.out
  exact ⟨_, rfl, hbx, fun _ => does_nothing (R.out.below hbx)⟩


set_option maxRecDepth 100000 in
set_option maxHeartbeats 4000000 in
theorem legal_again {w : World} {m : Nat} {A : AM} {F : Nat → Prop} {mb clk : Nat} {ents : List Ent} (hI : Inv A) (g : RepG w m A.bytes mb clk ents) (p : (ents.map Ent.b).Perm A.blocks) (f : ∀ k ∈ foot m mb ents, F k)
    (hF : ∀ k, F k → k < w.heap.size) {x : Ent} (hx : x ∈ ents) (o : OpA) (xa : AnsA) (ho : OpOk o) (k0 : (o.k == 0) = false) (k1 : (o.k == 1) = false) (k2 : (o.k == 2) = false) (k8 : (o.k == 8) = false) (k3 : (o.k == 3) = true)
    (hfind : ents.find? (fun x => x.b.at_ == o.at_) = some x) (p1 p2 : Option Addr) (q1 q2 : Nat) :
    Calls Tryz.prog 24 #[.pointer (some ⟨m, 0, none⟩), opV o p1 q1, ansV xa p2 q2] w (LegalPost m A F w (againA A x.b o xa)) := by
  have R : Hid (Rep w m A F) := ⟨mb, clk, ents, g, p, f⟩
  have c1 := g.cell1
  have hm := cell_lt c1
  obtain ⟨W0, hW0⟩ : ∃ W0, W0 = ((w.alloc (.cells #[.pointer (some ⟨m, 0, none⟩)] 25)).alloc (.cells #[.int .i64 o.k, .int .u64 o.a, .int .u64 o.b, .int .i64 o.at_, .int .i64 o.fr, .int .i64 o.n, .slice p1 o.data.length q1] 36)).alloc (.cells #[.int .i64 xa.err, .int .i64 xa.at_, .int .i64 xa.n, .int .i64 xa.count, .slice p2 xa.data.length q2] 38) := ⟨_, rfl⟩
  have hbW : Below w.heap.size w W0 := by rw [hW0]; exact (by repeat (first | exact Below.refl _ _ | assumption | refine Below.alloc ?_ (by first | omega | (simp <;> omega)) _ | refine Below.drew ?_ | refine Below.setCell ?_ (by first | omega | (simp <;> omega)) _ | refine Below.via (by assumption) (by first | omega | (simp <;> omega)) ?_))
  have hsW : w.heap.size + 3 ≤ W0.heap.size := by rw [hW0]; simp
  have B0 : W0.cell? ⟨w.heap.size, 0, none⟩ = some (.pointer (some ⟨m, 0, none⟩)) := by rw [hW0]; simp [go_sem]
  have BO : ∀ i, W0.cell? ⟨w.heap.size + 1, i, none⟩ = (#[.int .i64 o.k, .int .u64 o.a, .int .u64 o.b, .int .i64 o.at_, .int .i64 o.fr, .int .i64 o.n, .slice p1 o.data.length q1] : Array Value)[i]? := fun i => by rw [hW0]; simp [go_sem]
  have BA : ∀ i, W0.cell? ⟨w.heap.size + 1 + 1, i, none⟩ = (#[.int .i64 xa.err, .int .i64 xa.at_, .int .i64 xa.n, .int .i64 xa.count, .slice p2 xa.data.length q2] : Array Value)[i]? := fun i => by rw [hW0]; simp [go_sem]
  have BO0 := BO 0
  have BO3 := BO 3
  have VM : W0.cell? ⟨m, 1, none⟩ = some (.map (some mb)) := by rw [hbW.cell (p := ⟨m, 1, none⟩) hm]; exact c1
  simp only [List.getElem?_toArray, List.getElem?_cons_zero, List.getElem?_cons_succ] at BO0 BO3
  have hlk := lookup_ext g hbW o.at_ (v := .pointer (some ⟨x.blk, 0, none⟩)) (by rw [hfind]; rfl)
  have hcall := Lib.hid (fun W (hb : Below w.heap.size w W) => again_any (w := W) hI (g.below hb) p f (fun k hk => Nat.lt_of_lt_of_le (hF k hk) hb.size) hx o xa ho p1 p2 q1 q2)
  clear hI g p f hF hx ho
  clear hfind
  unfold opV ansV
  go_enter Tryz.func24, Tryz.ntmps24
  go_wp2_with (fail)
  rw [← hW0]
  clear hW0
  (refine wp_region_quiet_ext (by kernel_rfl) (by kernel_rfl) ?_; (repeat (first | go_big_quiet_step ((fail)) | quiet_step ((fail)))); refine wpQuiet_nil ?_; intro w1 hw1; obtain hb := below_of_ext hw1; clear hw1; obtain ⟨hc, hf⟩ := bcell hb; have hz := hb.size; (try simp at hz))
  have V0 := cell_past hb (by omega) B0
  have VO := fun i => (hb.cell (p := ⟨w.heap.size + 1, i, none⟩) (show w.heap.size + 1 < W0.heap.size from by omega)).trans (BO i)
  have VA := fun i => (hb.cell (p := ⟨w.heap.size + 1 + 1, i, none⟩) (show w.heap.size + 1 + 1 < W0.heap.size from by omega)).trans (BA i)
  have VO0 := VO 0
  have VO1 := VO 1
  have VO2 := VO 2
  have VO3 := VO 3
  have VO4 := VO 4
  have VO5 := VO 5
  have VO6 := VO 6
  have VA0 := VA 0
  have VA1 := VA 1
  have VA2 := VA 2
  have VA3 := VA 3
  have VA4 := VA 4
  simp only [List.getElem?_toArray, List.getElem?_cons_zero, List.getElem?_cons_succ] at VO0 VO1 VO2 VO3 VO4 VO5 VO6 VA0 VA1 VA2 VA3 VA4
  have hbw := Lib.hid (hbW.trans (hb.mono (by omega : w.heap.size ≤ _)))
  clear hc hf hb hbW B0 BO BA BO0 BO3 VO VA VM
  unfold opV ansV at *
  go_wp2_with (go_at_call 45; refine (hcall.out _ hbw.out).mono ?_; rintro e w2 ⟨c, rfl, hb2, hd⟩)
  go_ret2
  exact ⟨c, rfl, Below.via hb2 (by have := hbw.out.size; omega) hbw.out, hd⟩


set_option maxRecDepth 100000 in
set_option maxHeartbeats 4000000 in
theorem legal_drop {w : World} {m : Nat} {A : AM} {F : Nat → Prop} {mb clk : Nat} {ents : List Ent} (hI : Inv A) (g : RepG w m A.bytes mb clk ents) (p : (ents.map Ent.b).Perm A.blocks) (f : ∀ k ∈ foot m mb ents, F k)
    {x : Ent} (o : OpA) (xa : AnsA) (k0 : (o.k == 0) = false) (k1 : (o.k == 1) = false) (k2 : (o.k == 2) = false) (k8 : (o.k == 8) = false) (k3 : (o.k == 3) = false) (k4 : (o.k == 4) = true)
    (hfind : ents.find? (fun x => x.b.at_ == o.at_) = some x) (p1 p2 : Option Addr) (q1 q2 : Nat) :
    Calls Tryz.prog 24 #[.pointer (some ⟨m, 0, none⟩), opV o p1 q1, ansV xa p2 q2] w (LegalPost m A F w (.drop x.b.at_, bareA xa 0)) := by
  have R : Hid (Rep w m A F) := ⟨mb, clk, ents, g, p, f⟩
  have c1 := g.cell1
  have hm := cell_lt c1
  obtain ⟨W0, hW0⟩ : ∃ W0, W0 = ((w.alloc (.cells #[.pointer (some ⟨m, 0, none⟩)] 25)).alloc (.cells #[.int .i64 o.k, .int .u64 o.a, .int .u64 o.b, .int .i64 o.at_, .int .i64 o.fr, .int .i64 o.n, .slice p1 o.data.length q1] 36)).alloc (.cells #[.int .i64 xa.err, .int .i64 xa.at_, .int .i64 xa.n, .int .i64 xa.count, .slice p2 xa.data.length q2] 38) := ⟨_, rfl⟩
  have hbW : Below w.heap.size w W0 := by rw [hW0]; exact (by repeat (first | exact Below.refl _ _ | assumption | refine Below.alloc ?_ (by first | omega | (simp <;> omega)) _ | refine Below.drew ?_ | refine Below.setCell ?_ (by first | omega | (simp <;> omega)) _ | refine Below.via (by assumption) (by first | omega | (simp <;> omega)) ?_))
  have hsW : w.heap.size + 3 ≤ W0.heap.size := by rw [hW0]; simp
  have B0 : W0.cell? ⟨w.heap.size, 0, none⟩ = some (.pointer (some ⟨m, 0, none⟩)) := by rw [hW0]; simp [go_sem]
  have BO : ∀ i, W0.cell? ⟨w.heap.size + 1, i, none⟩ = (#[.int .i64 o.k, .int .u64 o.a, .int .u64 o.b, .int .i64 o.at_, .int .i64 o.fr, .int .i64 o.n, .slice p1 o.data.length q1] : Array Value)[i]? := fun i => by rw [hW0]; simp [go_sem]
  have BA : ∀ i, W0.cell? ⟨w.heap.size + 1 + 1, i, none⟩ = (#[.int .i64 xa.err, .int .i64 xa.at_, .int .i64 xa.n, .int .i64 xa.count, .slice p2 xa.data.length q2] : Array Value)[i]? := fun i => by rw [hW0]; simp [go_sem]
  have BO0 := BO 0
  have BO3 := BO 3
  have VM : W0.cell? ⟨m, 1, none⟩ = some (.map (some mb)) := by rw [hbW.cell (p := ⟨m, 1, none⟩) hm]; exact c1
  simp only [List.getElem?_toArray, List.getElem?_cons_zero, List.getElem?_cons_succ] at BO0 BO3
  have hlk := lookup_ext g hbW o.at_ (v := .pointer (some ⟨x.blk, 0, none⟩)) (by rw [hfind]; rfl)
  have H := Lib.hid hI
  have hxa : x.b.at_ = o.at_ := by simpa using List.find?_some hfind
  have HXA := Lib.hid hxa
  clear hI g p f hxa
  clear hfind
  unfold opV ansV
  go_enter Tryz.func24, Tryz.ntmps24
  go_wp2_with (fail)
  rw [← hW0]
  clear hW0
  (refine wp_region_quiet_ext (by kernel_rfl) (by kernel_rfl) ?_; (repeat (first | go_big_quiet_step ((fail)) | quiet_step ((fail)))); refine wpQuiet_nil ?_; intro w1 hw1; obtain hb := below_of_ext hw1; clear hw1; obtain ⟨hc, hf⟩ := bcell hb; have hz := hb.size; (try simp at hz))
  have V0 := cell_past hb (by omega) B0
  have VO := fun i => (hb.cell (p := ⟨w.heap.size + 1, i, none⟩) (show w.heap.size + 1 < W0.heap.size from by omega)).trans (BO i)
  have VA := fun i => (hb.cell (p := ⟨w.heap.size + 1 + 1, i, none⟩) (show w.heap.size + 1 + 1 < W0.heap.size from by omega)).trans (BA i)
  have VO0 := VO 0
  have VO1 := VO 1
  have VO2 := VO 2
  have VO3 := VO 3
  have VO4 := VO 4
  have VO5 := VO 5
  have VO6 := VO 6
  have VA0 := VA 0
  have VA1 := VA 1
  have VA2 := VA 2
  have VA3 := VA 3
  have VA4 := VA 4
  simp only [List.getElem?_toArray, List.getElem?_cons_zero, List.getElem?_cons_succ] at VO0 VO1 VO2 VO3 VO4 VO5 VO6 VA0 VA1 VA2 VA3 VA4
  have hbw := Lib.hid (hbW.trans (hb.mono (by omega : w.heap.size ≤ _)))
  clear hc hf hb hbW B0 BO BA BO0 BO3 VO VA VM
  go_wp2_with (go_at_call 44; refine (bare_any _ _ _ _ _ _ _ _ _).mono ?_; rintro e w2 ⟨rfl, hb2⟩)
  go_ret2
  have hbx : Below w.heap.size w w2 := Below.via hb2 (by have := hbw.out.size; omega) hbw.out
  refine ⟨_, rfl, hbx, fun _ => ?_⟩
  rw [HXA.out]
  exact does_drop (R.out.below hbx) H.out w.heap.size (w.heap.size + 1) o.at_ (cell_past hb2 (cell_lt V0) V0) (cell_past hb2 (cell_lt VO3) VO3)


set_option maxRecDepth 100000 in
set_option maxHeartbeats 4000000 in
theorem legal_usable {w : World} {m : Nat} {A : AM} {F : Nat → Prop} {mb clk : Nat} {ents : List Ent} (g : RepG w m A.bytes mb clk ents) (p : (ents.map Ent.b).Perm A.blocks) (f : ∀ k ∈ foot m mb ents, F k)
    {x : Ent} (hx : x ∈ ents) (o : OpA) (xa : AnsA) (k0 : (o.k == 0) = false) (k1 : (o.k == 1) = false) (k2 : (o.k == 2) = false) (k8 : (o.k == 8) = false) (k3 : (o.k == 3) = false) (k4 : (o.k == 4) = false) (k5 : (o.k == 5) = true)
    (hfind : ents.find? (fun x => x.b.at_ == o.at_) = some x) (p1 p2 : Option Addr) (q1 q2 : Nat) :
    Calls Tryz.prog 24 #[.pointer (some ⟨m, 0, none⟩), opV o p1 q1, ansV xa p2 q2] w (LegalPost m A F w (.keep, onlyA xa 0 0 x.b.n 0)) := by
  have R : Hid (Rep w m A F) := ⟨mb, clk, ents, g, p, f⟩
  have c1 := g.cell1
  have hm := cell_lt c1
  obtain ⟨W0, hW0⟩ : ∃ W0, W0 = ((w.alloc (.cells #[.pointer (some ⟨m, 0, none⟩)] 25)).alloc (.cells #[.int .i64 o.k, .int .u64 o.a, .int .u64 o.b, .int .i64 o.at_, .int .i64 o.fr, .int .i64 o.n, .slice p1 o.data.length q1] 36)).alloc (.cells #[.int .i64 xa.err, .int .i64 xa.at_, .int .i64 xa.n, .int .i64 xa.count, .slice p2 xa.data.length q2] 38) := ⟨_, rfl⟩
  have hbW : Below w.heap.size w W0 := by rw [hW0]; exact (by repeat (first | exact Below.refl _ _ | assumption | refine Below.alloc ?_ (by first | omega | (simp <;> omega)) _ | refine Below.drew ?_ | refine Below.setCell ?_ (by first | omega | (simp <;> omega)) _ | refine Below.via (by assumption) (by first | omega | (simp <;> omega)) ?_))
  have hsW : w.heap.size + 3 ≤ W0.heap.size := by rw [hW0]; simp
  have B0 : W0.cell? ⟨w.heap.size, 0, none⟩ = some (.pointer (some ⟨m, 0, none⟩)) := by rw [hW0]; simp [go_sem]
  have BO : ∀ i, W0.cell? ⟨w.heap.size + 1, i, none⟩ = (#[.int .i64 o.k, .int .u64 o.a, .int .u64 o.b, .int .i64 o.at_, .int .i64 o.fr, .int .i64 o.n, .slice p1 o.data.length q1] : Array Value)[i]? := fun i => by rw [hW0]; simp [go_sem]
  have BA : ∀ i, W0.cell? ⟨w.heap.size + 1 + 1, i, none⟩ = (#[.int .i64 xa.err, .int .i64 xa.at_, .int .i64 xa.n, .int .i64 xa.count, .slice p2 xa.data.length q2] : Array Value)[i]? := fun i => by rw [hW0]; simp [go_sem]
  have BO0 := BO 0
  have BO3 := BO 3
  have VM : W0.cell? ⟨m, 1, none⟩ = some (.map (some mb)) := by rw [hbW.cell (p := ⟨m, 1, none⟩) hm]; exact c1
  simp only [List.getElem?_toArray, List.getElem?_cons_zero, List.getElem?_cons_succ] at BO0 BO3
  have hlk := lookup_ext g hbW o.at_ (v := .pointer (some ⟨x.blk, 0, none⟩)) (by rw [hfind]; rfl)
  have x1 : w.cell? ⟨x.blk, 1, none⟩ = some (.int .i64 x.b.n) := by rw [cell_of_block (g.each x hx).1]; rfl
  have lx := cell_lt x1
  clear g p f hx
  clear hfind
  unfold opV ansV
  go_enter Tryz.func24, Tryz.ntmps24
  go_wp2_with (fail)
  rw [← hW0]
  clear hW0
  (refine wp_region_quiet_ext (by kernel_rfl) (by kernel_rfl) ?_; (repeat (first | go_big_quiet_step ((fail)) | quiet_step ((fail)))); refine wpQuiet_nil ?_; intro w1 hw1; obtain hb := below_of_ext hw1; clear hw1; obtain ⟨hc, hf⟩ := bcell hb; have hz := hb.size; (try simp at hz))
  have V0 := cell_past hb (by omega) B0
  have VO := fun i => (hb.cell (p := ⟨w.heap.size + 1, i, none⟩) (show w.heap.size + 1 < W0.heap.size from by omega)).trans (BO i)
  have VA := fun i => (hb.cell (p := ⟨w.heap.size + 1 + 1, i, none⟩) (show w.heap.size + 1 + 1 < W0.heap.size from by omega)).trans (BA i)
  have VO0 := VO 0
  have VO1 := VO 1
  have VO2 := VO 2
  have VO3 := VO 3
  have VO4 := VO 4
  have VO5 := VO 5
  have VO6 := VO 6
  have VA0 := VA 0
  have VA1 := VA 1
  have VA2 := VA 2
  have VA3 := VA 3
  have VA4 := VA 4
  simp only [List.getElem?_toArray, List.getElem?_cons_zero, List.getElem?_cons_succ] at VO0 VO1 VO2 VO3 VO4 VO5 VO6 VA0 VA1 VA2 VA3 VA4
  have hbw := Lib.hid (hbW.trans (hb.mono (by omega : w.heap.size ≤ _)))
  clear hc hf hb hbW B0 BO BA BO0 BO3 VO VA VM
  have X1 := cell_past hbw.out lx x1
  clear x1 lx
  generalize d1 : onlyB xa.err xa.at_ xa.n xa.count 0 0 x.b.n 0 = b1
  generalize d2 : ((xa.data.length : Int) == 0) = b2
  have hpost : onlyA xa 0 0 x.b.n 0 = (b1 && b2) := by rw [onlyA, d1, d2]
  have HP := Lib.hid hpost
  clear hpost
  cases b1 <;> cases b2
  all_goals
    go_wp2
    (refine wp_region_quiet_ext (by kernel_rfl) (by kernel_rfl) ?_; (repeat (first | go_big_quiet_step ((go_at_call 43; refine Calls.ext_of (only_any _ _ _ _ _ _ _ _ _ _ _))) | quiet_step ((go_at_call 43; refine Calls.ext_of (only_any _ _ _ _ _ _ _ _ _ _ _))))); refine wpQuiet_nil ?_; intro w2 hw2; obtain hb2 := below_of_ext hw2; clear hw2; obtain ⟨hc2, hf2⟩ := bcell hb2; have hz2 := hb2.size; (try simp at hz2))
    go_wp2
    go_ret2
    have hbx : Below w.heap.size w w2 := Below.via hb2 (by have := hbw.out.size; omega) hbw.out
    refine ⟨_, ?_, hbx, fun _ => does_nothing (R.out.below hbx)⟩
    rw [HP.out]
    first | rfl | (rw [d1]; rfl)


set_option maxRecDepth 100000 in
set_option maxHeartbeats 4000000 in
theorem legal_read {w : World} {m : Nat} {A : AM} {F : Nat → Prop} {mb clk : Nat} {ents : List Ent} (hI : Inv A) (g : RepG w m A.bytes mb clk ents) (p : (ents.map Ent.b).Perm A.blocks) (f : ∀ k ∈ foot m mb ents, F k)
    {x : Ent} (hx : x ∈ ents) (o : OpA) (xa : AnsA) (k0 : (o.k == 0) = false) (k1 : (o.k == 1) = false) (k2 : (o.k == 2) = false) (k8 : (o.k == 8) = false) (k3 : (o.k == 3) = false) (k4 : (o.k == 4) = false) (k5 : (o.k == 5) = false) (k6 : (o.k == 6) = true)
    (hfind : ents.find? (fun x => x.b.at_ == o.at_) = some x) (p1 p2 : Option Addr) (q1 q2 : Nat) (hd : BytesIn w p2 xa.data) (hap : Apart xa.data p2 F) :
    Calls Tryz.prog 24 #[.pointer (some ⟨m, 0, none⟩), opV o p1 q1, ansV xa p2 q2] w (LegalPost m A F w (readA x.b o xa)) := by
  have R : Hid (Rep w m A F) := ⟨mb, clk, ents, g, p, f⟩
  have c1 := g.cell1
  have hm := cell_lt c1
  obtain ⟨W0, hW0⟩ : ∃ W0, W0 = ((w.alloc (.cells #[.pointer (some ⟨m, 0, none⟩)] 25)).alloc (.cells #[.int .i64 o.k, .int .u64 o.a, .int .u64 o.b, .int .i64 o.at_, .int .i64 o.fr, .int .i64 o.n, .slice p1 o.data.length q1] 36)).alloc (.cells #[.int .i64 xa.err, .int .i64 xa.at_, .int .i64 xa.n, .int .i64 xa.count, .slice p2 xa.data.length q2] 38) := ⟨_, rfl⟩
  have hbW : Below w.heap.size w W0 := by rw [hW0]; exact (by repeat (first | exact Below.refl _ _ | assumption | refine Below.alloc ?_ (by first | omega | (simp <;> omega)) _ | refine Below.drew ?_ | refine Below.setCell ?_ (by first | omega | (simp <;> omega)) _ | refine Below.via (by assumption) (by first | omega | (simp <;> omega)) ?_))
  have hsW : w.heap.size + 3 ≤ W0.heap.size := by rw [hW0]; simp
  have B0 : W0.cell? ⟨w.heap.size, 0, none⟩ = some (.pointer (some ⟨m, 0, none⟩)) := by rw [hW0]; simp [go_sem]
  have BO : ∀ i, W0.cell? ⟨w.heap.size + 1, i, none⟩ = (#[.int .i64 o.k, .int .u64 o.a, .int .u64 o.b, .int .i64 o.at_, .int .i64 o.fr, .int .i64 o.n, .slice p1 o.data.length q1] : Array Value)[i]? := fun i => by rw [hW0]; simp [go_sem]
  have BA : ∀ i, W0.cell? ⟨w.heap.size + 1 + 1, i, none⟩ = (#[.int .i64 xa.err, .int .i64 xa.at_, .int .i64 xa.n, .int .i64 xa.count, .slice p2 xa.data.length q2] : Array Value)[i]? := fun i => by rw [hW0]; simp [go_sem]
  have BO0 := BO 0
  have BO3 := BO 3
  have VM : W0.cell? ⟨m, 1, none⟩ = some (.map (some mb)) := by rw [hbW.cell (p := ⟨m, 1, none⟩) hm]; exact c1
  simp only [List.getElem?_toArray, List.getElem?_cons_zero, List.getElem?_cons_succ] at BO0 BO3
  have hlk := lookup_ext g hbW o.at_ (v := .pointer (some ⟨x.blk, 0, none⟩)) (by rw [hfind]; rfl)
  have hcall := Lib.hid (fun W (hb : Below w.heap.size w W) => read_any (w := W) hI (g.below hb) p f hx o xa p1 p2 q1 q2 (hd.below hb) hap)
  clear hI g p f hx hd hap
  clear hfind
  unfold opV ansV
  go_enter Tryz.func24, Tryz.ntmps24
  go_wp2_with (fail)
  rw [← hW0]
  clear hW0
  (refine wp_region_quiet_ext (by kernel_rfl) (by kernel_rfl) ?_; (repeat (first | go_big_quiet_step ((fail)) | quiet_step ((fail)))); refine wpQuiet_nil ?_; intro w1 hw1; obtain hb := below_of_ext hw1; clear hw1; obtain ⟨hc, hf⟩ := bcell hb; have hz := hb.size; (try simp at hz))
  have V0 := cell_past hb (by omega) B0
  have VO := fun i => (hb.cell (p := ⟨w.heap.size + 1, i, none⟩) (show w.heap.size + 1 < W0.heap.size from by omega)).trans (BO i)
  have VA := fun i => (hb.cell (p := ⟨w.heap.size + 1 + 1, i, none⟩) (show w.heap.size + 1 + 1 < W0.heap.size from by omega)).trans (BA i)
  have VO0 := VO 0
  have VO1 := VO 1
  have VO2 := VO 2
  have VO3 := VO 3
  have VO4 := VO 4
  have VO5 := VO 5
  have VO6 := VO 6
  have VA0 := VA 0
  have VA1 := VA 1
  have VA2 := VA 2
  have VA3 := VA 3
  have VA4 := VA 4
  simp only [List.getElem?_toArray, List.getElem?_cons_zero, List.getElem?_cons_succ] at VO0 VO1 VO2 VO3 VO4 VO5 VO6 VA0 VA1 VA2 VA3 VA4
  have hbw := Lib.hid (hbW.trans (hb.mono (by omega : w.heap.size ≤ _)))
  clear hc hf hb hbW B0 BO BA BO0 BO3 VO VA VM
  unfold opV ansV at *
  go_wp2_with (go_at_call 47; refine (hcall.out _ hbw.out).mono ?_; rintro e w2 ⟨c, rfl, hb2, hd⟩)
  go_ret2
  exact ⟨c, rfl, Below.via hb2 (by have := hbw.out.size; omega) hbw.out, hd⟩


set_option maxRecDepth 100000 in
set_option maxHeartbeats 4000000 in
theorem legal_write {w : World} {m : Nat} {A : AM} {F : Nat → Prop} {mb clk : Nat} {ents : List Ent} (hI : Inv A) (g : RepG w m A.bytes mb clk ents) (p : (ents.map Ent.b).Perm A.blocks) (f : ∀ k ∈ foot m mb ents, F k)
    {x : Ent} (hx : x ∈ ents) (o : OpA) (xa : AnsA) (k0 : (o.k == 0) = false) (k1 : (o.k == 1) = false) (k2 : (o.k == 2) = false) (k8 : (o.k == 8) = false) (k3 : (o.k == 3) = false) (k4 : (o.k == 4) = false) (k5 : (o.k == 5) = false) (k6 : (o.k == 6) = false)
    (hfind : ents.find? (fun x => x.b.at_ == o.at_) = some x) (p1 p2 : Option Addr) (q1 q2 : Nat) (hd : BytesIn w p1 o.data) (hap : Apart o.data p1 F) :
    Calls Tryz.prog 24 #[.pointer (some ⟨m, 0, none⟩), opV o p1 q1, ansV xa p2 q2] w (LegalPost m A F w (writeA x.b o xa)) := by
  have R : Hid (Rep w m A F) := ⟨mb, clk, ents, g, p, f⟩
  have c1 := g.cell1
  have hm := cell_lt c1
  obtain ⟨W0, hW0⟩ : ∃ W0, W0 = ((w.alloc (.cells #[.pointer (some ⟨m, 0, none⟩)] 25)).alloc (.cells #[.int .i64 o.k, .int .u64 o.a, .int .u64 o.b, .int .i64 o.at_, .int .i64 o.fr, .int .i64 o.n, .slice p1 o.data.length q1] 36)).alloc (.cells #[.int .i64 xa.err, .int .i64 xa.at_, .int .i64 xa.n, .int .i64 xa.count, .slice p2 xa.data.length q2] 38) := ⟨_, rfl⟩
  have hbW : Below w.heap.size w W0 := by rw [hW0]; exact (by repeat (first | exact Below.refl _ _ | assumption | refine Below.alloc ?_ (by first | omega | (simp <;> omega)) _ | refine Below.drew ?_ | refine Below.setCell ?_ (by first | omega | (simp <;> omega)) _ | refine Below.via (by assumption) (by first | omega | (simp <;> omega)) ?_))
  have hsW : w.heap.size + 3 ≤ W0.heap.size := by rw [hW0]; simp
  have B0 : W0.cell? ⟨w.heap.size, 0, none⟩ = some (.pointer (some ⟨m, 0, none⟩)) := by rw [hW0]; simp [go_sem]
  have BO : ∀ i, W0.cell? ⟨w.heap.size + 1, i, none⟩ = (#[.int .i64 o.k, .int .u64 o.a, .int .u64 o.b, .int .i64 o.at_, .int .i64 o.fr, .int .i64 o.n, .slice p1 o.data.length q1] : Array Value)[i]? := fun i => by rw [hW0]; simp [go_sem]
  have BA : ∀ i, W0.cell? ⟨w.heap.size + 1 + 1, i, none⟩ = (#[.int .i64 xa.err, .int .i64 xa.at_, .int .i64 xa.n, .int .i64 xa.count, .slice p2 xa.data.length q2] : Array Value)[i]? := fun i => by rw [hW0]; simp [go_sem]
  have BO0 := BO 0
  have BO3 := BO 3
  have VM : W0.cell? ⟨m, 1, none⟩ = some (.map (some mb)) := by rw [hbW.cell (p := ⟨m, 1, none⟩) hm]; exact c1
  simp only [List.getElem?_toArray, List.getElem?_cons_zero, List.getElem?_cons_succ] at BO0 BO3
  have hlk := lookup_ext g hbW o.at_ (v := .pointer (some ⟨x.blk, 0, none⟩)) (by rw [hfind]; rfl)
  have hcall := Lib.hid (fun W (hb : Below w.heap.size w W) => write_any (w := W) hI (g.below hb) p f hx o xa p1 p2 q1 q2 (hd.below hb) hap)
  clear hI g p f hx hd hap
  clear hfind
  unfold opV ansV
  go_enter Tryz.func24, Tryz.ntmps24
  go_wp2_with (fail)
  rw [← hW0]
  clear hW0
  (refine wp_region_quiet_ext (by kernel_rfl) (by kernel_rfl) ?_; (repeat (first | go_big_quiet_step ((fail)) | quiet_step ((fail)))); refine wpQuiet_nil ?_; intro w1 hw1; obtain hb := below_of_ext hw1; clear hw1; obtain ⟨hc, hf⟩ := bcell hb; have hz := hb.size; (try simp at hz))
  have V0 := cell_past hb (by omega) B0
  have VO := fun i => (hb.cell (p := ⟨w.heap.size + 1, i, none⟩) (show w.heap.size + 1 < W0.heap.size from by omega)).trans (BO i)
  have VA := fun i => (hb.cell (p := ⟨w.heap.size + 1 + 1, i, none⟩) (show w.heap.size + 1 + 1 < W0.heap.size from by omega)).trans (BA i)
  have VO0 := VO 0
  have VO1 := VO 1
  have VO2 := VO 2
  have VO3 := VO 3
  have VO4 := VO 4
  have VO5 := VO 5
  have VO6 := VO 6
  have VA0 := VA 0
  have VA1 := VA 1
  have VA2 := VA 2
  have VA3 := VA 3
  have VA4 := VA 4
  simp only [List.getElem?_toArray, List.getElem?_cons_zero, List.getElem?_cons_succ] at VO0 VO1 VO2 VO3 VO4 VO5 VO6 VA0 VA1 VA2 VA3 VA4
  have hbw := Lib.hid (hbW.trans (hb.mono (by omega : w.heap.size ≤ _)))
  clear hc hf hb hbW B0 BO BA BO0 BO3 VO VA VM
  unfold opV ansV at *
  go_wp2_with (go_at_call 48; refine (hcall.out _ hbw.out).mono ?_; rintro e w2 ⟨c, rfl, hb2, hd⟩)
  go_ret2
  exact ⟨c, rfl, Below.via hb2 (by have := hbw.out.size; omega) hbw.out, hd⟩


theorem legal_any {w : World} {m : Nat} {A : AM} {F : Nat → Prop} (h : Rep w m A F) (hI : Inv A) (hF : ∀ k, F k → k < w.heap.size) (o : OpA) (xa : AnsA) (ho : OpOk o) (p1 p2 : Option Addr) (q1 q2 : Nat)
    (hd1 : BytesIn w p1 o.data) (ha1 : Apart o.data p1 F) (hd2 : BytesIn w p2 xa.data) (ha2 : Apart xa.data p2 F) :
    Calls Tryz.prog 24 #[.pointer (some ⟨m, 0, none⟩), opV o p1 q1, ansV xa p2 q2] w (LegalPost m A F w (legalA A o xa)) := by
  by_cases hkind : (o.k == 0) = true ∨ (o.k == 1) = true ∨ (o.k == 2) = true
  · exact legal_fresh h hI hF o xa ho hkind p1 p2 q1 q2
  · have k0 : (o.k == 0) = false := by simpa using fun e => hkind (.inl (by simpa using e))
    have k1 : (o.k == 1) = false := by simpa using fun e => hkind (.inr (.inl (by simpa using e)))
    have k2 : (o.k == 2) = false := by simpa using fun e => hkind (.inr (.inr (by simpa using e)))
    by_cases k8 : o.k = 8
    · exact legal_stats h hI o xa k8 p1 p2 q1 q2
    · have k8' : (o.k == 8) = false := by simpa using k8
      cases hf : findB A o.at_ with
      | none =>
        have e : legalA A o xa = (.keep, bareA xa 12) := by rw [legalA, if_neg hkind, if_neg (by simpa using k8'), hf]
        rw [e]
        exact legal_gone h o xa k0 k1 k2 k8' hf p1 p2 q1 q2
      | some b =>
        obtain ⟨mb, clk, ents, g, p, f⟩ := h
        obtain ⟨x, hx, hfind, rfl⟩ := find_some hI p hf
        have e : legalA A o xa = touchA A x.b o xa := by rw [legalA, if_neg hkind, if_neg (by simpa using k8'), hf]
        rw [e, touchA]
        by_cases k3 : (o.k == 3) = true
        · rw [if_pos k3]; exact legal_again hI g p f hF hx o xa ho k0 k1 k2 k8' k3 hfind p1 p2 q1 q2
        · rw [if_neg k3]
          have k3' : (o.k == 3) = false := by simpa using k3
          by_cases k4 : (o.k == 4) = true
          · rw [if_pos k4]; exact legal_drop hI g p f o xa k0 k1 k2 k8' k3' k4 hfind p1 p2 q1 q2
          · rw [if_neg k4]
            have k4' : (o.k == 4) = false := by simpa using k4
            by_cases k5 : (o.k == 5) = true
            · rw [if_pos k5]; exact legal_usable g p f hx o xa k0 k1 k2 k8' k3' k4' k5 hfind p1 p2 q1 q2
            · rw [if_neg k5]
              have k5' : (o.k == 5) = false := by simpa using k5
              by_cases k6 : (o.k == 6) = true
              · rw [if_pos k6]; exact legal_read hI g p f hx o xa k0 k1 k2 k8' k3' k4' k5' k6 hfind p1 p2 q1 q2 hd2 ha2
              · rw [if_neg k6]
                have k6' : (o.k == 6) = false := by simpa using k6
                exact legal_write hI g p f hx o xa k0 k1 k2 k8' k3' k4' k5' k6' hfind p1 p2 q1 q2 hd1 ha1

end Go.Proofs.YtgcnbiccekaffaaGreat
