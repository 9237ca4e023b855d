/- fresh, again, read, write: what is legal, and the closure that is handed back. -/
import Derived.Test.YtgcnbiccekaffaaGreatH
import Derived.Test.YtgcnbiccekaffaaGreatShelf
namespace Go.Proofs.YtgcnbiccekaffaaGreat
open Go.RowKit Go.ChangeMaps

theorem mul_any : ∀ (x y : Nat) (_ : x < 18446744073709551616) (_ : y < 18446744073709551616) (w : World),
    Calls Tryz.prog 106 #[.int .u64 x, .int .u64 y] w fun e w' => e = .returned (.tuple #[.int .u64 ((x * y / 18446744073709551616 : Nat) : Int), .int .u64 ((x * y % 18446744073709551616 : Nat) : Int)]) ∧ w' = w := Go.Proofs.Tryz.bits_Mul64

/-- A function value that, called now or later, leaves the model so. -/
def Does (c : Value) (m : Nat) (A' : AM) (F : Nat → Prop) (w : World) : Prop :=
  ∃ f caps, c = .func (.func f) #[] caps ∧ (∀ args W, (callFunc f args).run Tryz.prog W = .ok (.enter f args) W) ∧ ∀ W, Below w.heap.size w W → Calls Tryz.prog f caps W (Ends m A' F W)

def LegalPost (m : Nat) (A : AM) (F : Nat → Prop) (w0 : World) (r : Chg × Bool) (e : Ending) (w' : World) : Prop :=
  ∃ c, e = .returned (.tuple #[c, .bool r.2]) ∧ Below w0.heap.size w0 w' ∧ (r.2 = true → Does c m (applyC A r.1) F w')

theorem does_nothing {m : Nat} {A : AM} {F : Nat → Prop} {w : World} (h : Rep w m A F) : Does (.func (.func 42) #[] #[]) m A F w :=
  ⟨_, _, rfl, (fun _ _ => by kernel_rfl), fun _ hb => nothing_any (h.below hb)⟩

def opV (o : OpA) (p : Option Addr) (c : Nat) : Value := .agg #[.int .i64 o.k, .int .u64 o.a, .int .u64 o.b, .int .i64 o.at_, .int .i64 o.fr, .int .i64 o.n, .slice p o.data.length c]
def ansV (x : AnsA) (p : Option Addr) (c : Nat) : Value := .agg #[.int .i64 x.err, .int .i64 x.at_, .int .i64 x.n, .int .i64 x.count, .slice p x.data.length c]

theorem keys_apart {A : AM} (hI : Inv A) {a n : Int} (hn : 1 ≤ n) (h : ∀ x ∈ A.blocks, meetB a n x = false) : ∀ b ∈ A.blocks, b.at_ ≠ a := by
  intro b hb e
  have h1 := h b hb
  have h2 := (hI.lo b hb).2.1
  simp [meetB] at h1
  omega

theorem cell_past {w W : World} {B b o : Nat} {v : Value} (hb : Below B w W) (hB : b < B) (h : w.cell? ⟨b, o, none⟩ = some v) : W.cell? ⟨b, o, none⟩ = some v := by
  rw [hb.cell (p := ⟨b, o, none⟩) hB]; exact h

theorem does_make {w w' : World} {m : Nat} {A : AM} {F : Nat → Prop} (h : Rep w' m A F) (hI : Inv A) (hF : ∀ k, F k → k < w.heap.size) (x : AnsA) (k s al : Int) (hs : 0 ≤ s) (hok : placeA A x s al = true)
    (bm bx bo : Nat) (l0 : w.heap.size ≤ bm) (l1 : w.heap.size ≤ bx) (l2 : w.heap.size ≤ bo)
    (c0 : w'.cell? ⟨bm, 0, none⟩ = some (.pointer (some ⟨m, 0, none⟩))) (c1 : w'.cell? ⟨bx, 0, none⟩ = some (.int .i64 x.at_)) (c2 : w'.cell? ⟨bx, 1, none⟩ = some (.int .i64 x.n)) (c3 : w'.cell? ⟨bx, 2, none⟩ = some (.int .i64 s))
    (c4 : w'.cell? ⟨bo, 0, none⟩ = some (.int .i64 k)) :
    Does (.func (.func 66) #[] #[.pointer (some ⟨bm, 0, none⟩), .pointer (some ⟨bx, 0, none⟩), .pointer (some ⟨bo, 0, none⟩)]) m (applyC A (.lay ⟨x.at_, x.n.toNat, s, firstOf k x.n.toNat⟩)) F w' := by
  obtain ⟨_, _, _, h4, h5, _, h7, h8⟩ := placeB_spec hok
  have hn : ((x.n.toNat : Nat) : Int) = x.n := by have := h7.2.1; omega
  have hb1 := hI.b1
  refine ⟨_, _, rfl, (fun _ _ => by kernel_rfl), fun W hW => ?_⟩
  have q0 := cell_lt c0
  have q1 := cell_lt c1
  have q2 := cell_lt c4
  rw [← hn] at c2
  exact make_clos (h.below hW) bm bx bo k x.at_ s x.n.toNat (by unfold inB at h7; omega) (keys_apart hI h7.2.1 h8)
    (hI.lay (by simp only; rw [hn]; exact h7) (by simp only; rw [hn]; exact h8) (tmod8 h7.1 h5) hs (by simp only; omega) ⟨by simp, fun v hv => by have := List.eq_of_mem_replicate hv; simp at this⟩)
    (fun hf => by have := hF _ hf; omega) (fun hf => by have := hF _ hf; omega) (fun hf => by have := hF _ hf; omega)
    (cell_past hW q0 c0) (cell_past hW q1 c1) (cell_past hW q1 c2) (cell_past hW q1 c3) (cell_past hW q2 c4)

set_option maxRecDepth 100000 in
set_option maxHeartbeats 2000000 in
theorem fresh_any {w : World} {m : Nat} {A : AM} {F : Nat → Prop} (h : Rep w m A F) (hI : Inv A) (hF : ∀ k, F k → k < w.heap.size) (o : OpA) (x : AnsA) (ho : OpOk o) (p1 p2 : Option Addr) (q1 q2 : Nat) :
    Calls Tryz.prog 41 #[.pointer (some ⟨m, 0, none⟩), opV o p1 q1, ansV x p2 q2] w (LegalPost m A F w (freshA A o x)) := by
  have H := Lib.hid h
  have HI := Lib.hid hI
  have HO := Lib.hid ho
  have HF := Lib.hid hF
  clear h hI ho hF
  have a0 := HO.out.a0
  have a1 := HO.out.a1
  have b0 := HO.out.b0
  have b1 := HO.out.b1
  have A0 := Lib.hid a0
  have A1 := Lib.hid a1
  have B0 := Lib.hid b0
  have B1 := Lib.hid b1
  clear a1 b1
  unfold opV ansV
  have hres := Lib.hid (rfl : freshA A o x = freshA A o x)
  by_cases e1 : ((askedF o.k o.a o.b).2.2 != 0) = true
  · have hfr : freshA A o x = (.keep, bareA x (askedF o.k o.a o.b).2.2) := by rw [freshA, if_pos e1]
    rw [hfr]
    clear hfr hres
    go_enter Tryz.func41, Tryz.ntmps41
    go_wp2_with (first
      | (go_at_call 64; refine (asked_any mul_any _ _ _ _ _ _ _ _ _ _ A0.out A1.out B0.out B1.out).mono ?_; rintro e w1 ⟨rfl, hb⟩; obtain ⟨hc, hf⟩ := bcell hb; have hz := hb.size; (try simp at hz))
      | (go_at_call 44; refine (bare_any _ _ _ _ _ _ _ _ _).mono ?_; rintro e w2 ⟨rfl, hb2⟩))
    go_ret2
    refine ⟨_, rfl, (by repeat (first | exact Below.refl _ _ | assumption | refine Below.alloc ?_ (by first | omega | (simp <;> omega)) _ | refine Below.drew ?_ | refine Below.setCell ?_ (by first | omega | (simp <;> omega)) _ | refine Below.via (by assumption) (by first | omega | (simp <;> omega)) ?_)), fun _ => does_nothing (H.out.below (by repeat (first | exact Below.refl _ _ | assumption | refine Below.alloc ?_ (by first | omega | (simp <;> omega)) _ | refine Below.drew ?_ | refine Below.setCell ?_ (by first | omega | (simp <;> omega)) _ | refine Below.via (by assumption) (by first | omega | (simp <;> omega)) ?_)))⟩
  · have e2 : ((askedF o.k o.a o.b).2.2 != 0) = false := by simpa using e1
    have hlo := asked_lo o.k o.a o.b a0 b0 (by simpa using e1)
    have LO := Lib.hid hlo
    have hfr : freshA A o x = if bareA x 13 = true then (.keep, true) else (.lay ⟨x.at_, x.n.toNat, (askedF o.k o.a o.b).1, firstOf o.k x.n.toNat⟩, placeA A x (askedF o.k o.a o.b).1 (askedF o.k o.a o.b).2.1) := by rw [freshA, if_neg e1]
    clear e1 hlo
    by_cases e3 : bareB x.err x.at_ x.n x.count 13 x.data.length = true
    · have hfr2 : freshA A o x = (.keep, true) := by rw [hfr]; exact if_pos e3
      rw [hfr2]
      clear hfr hfr2 hres
      go_enter Tryz.func41, Tryz.ntmps41
      go_wp2_with (first
        | (go_at_call 64; refine (asked_any mul_any _ _ _ _ _ _ _ _ _ _ A0.out A1.out B0.out B1.out).mono ?_; rintro e w1 ⟨rfl, hb⟩; obtain ⟨hc, hf⟩ := bcell hb; have hz := hb.size; (try simp at hz))
        | (go_at_call 44; refine (bare_any _ _ _ _ _ _ _ _ _).mono ?_; rintro e w2 ⟨rfl, hb2⟩))
      go_ret2
      refine ⟨_, rfl, (by repeat (first | exact Below.refl _ _ | assumption | refine Below.alloc ?_ (by first | omega | (simp <;> omega)) _ | refine Below.drew ?_ | refine Below.setCell ?_ (by first | omega | (simp <;> omega)) _ | refine Below.via (by assumption) (by first | omega | (simp <;> omega)) ?_)), fun _ => does_nothing (H.out.below (by repeat (first | exact Below.refl _ _ | assumption | refine Below.alloc ?_ (by first | omega | (simp <;> omega)) _ | refine Below.drew ?_ | refine Below.setCell ?_ (by first | omega | (simp <;> omega)) _ | refine Below.via (by assumption) (by first | omega | (simp <;> omega)) ?_)))⟩
    · have e4 : bareB x.err x.at_ x.n x.count 13 x.data.length = false := by simpa using e3
      have hfr2 : freshA A o x = (.lay ⟨x.at_, x.n.toNat, (askedF o.k o.a o.b).1, firstOf o.k x.n.toNat⟩, placeA A x (askedF o.k o.a o.b).1 (askedF o.k o.a o.b).2.1) := by rw [hfr]; exact if_neg e3
      rw [hfr2]
      clear hfr hfr2 hres e3
      go_enter Tryz.func41, Tryz.ntmps41
      go_wp2_with (first
        | (go_at_call 64; refine (asked_any mul_any _ _ _ _ _ _ _ _ _ _ A0.out A1.out B0.out B1.out).mono ?_; rintro e w1 ⟨rfl, hb⟩; obtain ⟨hc, hf⟩ := bcell hb; have hz := hb.size; (try simp at hz); have l10 : w.heap.size < w1.heap.size := (by omega); have l11 : w.heap.size + 1 < w1.heap.size := (by omega); have l12 : w.heap.size + 1 + 1 < w1.heap.size := (by omega))
        | (go_at_call 44; refine (bare_any _ _ _ _ _ _ _ _ _).mono ?_; rintro e w2 ⟨rfl, hb2⟩; obtain ⟨hc2, hf2⟩ := bcell hb2; have hz2 := hb2.size; have l20 : w.heap.size < w2.heap.size := (by omega); have l21 : w.heap.size + 1 < w2.heap.size := (by omega); have l22 : w.heap.size + 1 + 1 < w2.heap.size := (by omega))
        | (go_at_call 65; refine (place_any (H.out.below (by repeat (first | exact Below.refl _ _ | assumption | refine Below.alloc ?_ (by first | omega | (simp <;> omega)) _ | refine Below.drew ?_ | refine Below.setCell ?_ (by first | omega | (simp <;> omega)) _ | refine Below.via (by assumption) (by first | omega | (simp <;> omega)) ?_))) HI.out _ _ _ _ _ _ _ _ _ LO.out.2.1 LO.out.2.2).mono ?_; rintro e w3 ⟨rfl, hb3⟩; obtain ⟨hc3, hf3⟩ := bcell hb3; have hz3 := hb3.size; have l30 : w.heap.size < w3.heap.size := (by omega); have l31 : w.heap.size + 1 < w3.heap.size := (by omega); have l32 : w.heap.size + 1 + 1 < w3.heap.size := (by omega)))
      go_ret2
      refine ⟨_, rfl, (by repeat (first | exact Below.refl _ _ | assumption | refine Below.alloc ?_ (by first | omega | (simp <;> omega)) _ | refine Below.drew ?_ | refine Below.setCell ?_ (by first | omega | (simp <;> omega)) _ | refine Below.via (by assumption) (by first | omega | (simp <;> omega)) ?_)), fun hok => ?_⟩
      have k0 : w3.cell? ⟨w.heap.size, 0, none⟩ = some (.pointer (some ⟨m, 0, none⟩)) := by rw [hc3 _ _ l20, hc2 _ _ l10, hc _ _ (by simp <;> omega)]; simp [go_sem]
      have k1 : w3.cell? ⟨w.heap.size + 1, 0, none⟩ = some (.int .i64 o.k) := by rw [hc3 _ _ l21, hc2 _ _ l11, hc _ _ (by simp)]; simp [go_sem]
      exact does_make (w := w) (H.out.below (by repeat (first | exact Below.refl _ _ | assumption | refine Below.alloc ?_ (by first | omega | (simp <;> omega)) _ | refine Below.drew ?_ | refine Below.setCell ?_ (by first | omega | (simp <;> omega)) _ | refine Below.via (by assumption) (by first | omega | (simp <;> omega)) ?_))) HI.out HF.out x o.k (askedF o.k o.a o.b).1 (askedF o.k o.a o.b).2.1 LO.out.1 hok w.heap.size w3.heap.size (w.heap.size + 1) (Nat.le_refl _) (by omega) (by omega)
        (by rw [World.cell?_alloc_past _ _ _ l30]; exact k0) (by simp) (by simp) (by simp) (by rw [World.cell?_alloc_past _ _ _ l31]; exact k1)


theorem RepG.below {w W : World} {m : Nat} {bytes : Int} {mb clk : Nat} {ents : List Ent} (g : RepG w m bytes mb clk ents) (h : Below w.heap.size w W) : RepG W m bytes mb clk ents :=
  g.same (fun k hk => h.block k (g.lt k hk))
theorem BytesIn.below {w W : World} {p : Option Addr} {ds : List Int} (h : BytesIn w p ds) (hb : Below w.heap.size w W) : BytesIn W p ds := by
  intro i hi
  obtain ⟨b, o, e, hc⟩ := h i hi
  exact ⟨b, o, e, cell_past hb (cell_lt hc) hc⟩

theorem does_write {w' : World} {m : Nat} {A : AM} {F : Nat → Prop} {mb clk : Nat} {ents : List Ent} (hI : Inv A) (g : RepG w' m A.bytes mb clk ents) (p : (ents.map Ent.b).Perm A.blocks) (f : ∀ k ∈ foot m mb ents, F k)
    {x : Ent} (hx : x ∈ ents) (bb bo : Nat) (fr : Int) (ds : List Int) (q : Option Addr) (qc : Nat) (h0 : withinB fr ds.length x.b.n = true) (hd : BytesIn w' q ds) (hap : Apart ds q F)
    (c0 : w'.cell? ⟨bb, 0, none⟩ = some (.pointer (some ⟨x.blk, 0, none⟩))) (c1 : w'.cell? ⟨bo, 4, none⟩ = some (.int .i64 fr)) (c2 : w'.cell? ⟨bo, 6, none⟩ = some (.slice q ds.length qc)) :
    Does (.func (.func 73) #[] #[.pointer (some ⟨bb, 0, none⟩), .pointer (some ⟨bo, 0, none⟩)]) m (applyC A (.upd x.b.at_ { x.b with cells := learnL x.b.cells fr.toNat ds })) F w' := by
  have hw := withinB_spec h0
  refine ⟨_, _, rfl, (fun _ _ => by kernel_rfl), fun W hW => ?_⟩
  exact write_clos hI (g.below hW) p f hx bb bo fr ds q ds.length qc hw.1 rfl (by omega) (hd.below hW) hap (cell_past hW (cell_lt c0) c0) (cell_past hW (cell_lt c1) c1) (cell_past hW (cell_lt c2) c2)

theorem does_read {w' : World} {m : Nat} {A : AM} {F : Nat → Prop} {mb clk : Nat} {ents : List Ent} (hI : Inv A) (g : RepG w' m A.bytes mb clk ents) (p : (ents.map Ent.b).Perm A.blocks) (f : ∀ k ∈ foot m mb ents, F k)
    {x : Ent} (hx : x ∈ ents) (bb bo ba : Nat) (fr n : Int) (ds : List Int) (q : Option Addr) (qc : Nat) (h0 : withinB fr n x.b.n = true) (hn : (ds.length : Int) = n) (hd : BytesIn w' q ds) (hap : Apart ds q F)
    (c0 : w'.cell? ⟨bb, 0, none⟩ = some (.pointer (some ⟨x.blk, 0, none⟩))) (c1 : w'.cell? ⟨bo, 4, none⟩ = some (.int .i64 fr)) (c2 : w'.cell? ⟨ba, 4, none⟩ = some (.slice q ds.length qc)) :
    Does (.func (.func 72) #[] #[.pointer (some ⟨bb, 0, none⟩), .pointer (some ⟨bo, 0, none⟩), .pointer (some ⟨ba, 0, none⟩)]) m (applyC A (.upd x.b.at_ { x.b with cells := learnL x.b.cells fr.toNat ds })) F w' := by
  have hw := withinB_spec h0
  refine ⟨_, _, rfl, (fun _ _ => by kernel_rfl), fun W hW => ?_⟩
  exact read_clos hI (g.below hW) p f hx bb bo ba fr ds q ds.length qc hw.1 rfl (by omega) (hd.below hW) hap (cell_past hW (cell_lt c0) c0) (cell_past hW (cell_lt c1) c1) (cell_past hW (cell_lt c2) c2)

theorem does_drop {w' : World} {m : Nat} {A : AM} {F : Nat → Prop} (h : Rep w' m A F) (hI : Inv A) (bm bo : Nat) (k : Int)
    (c0 : w'.cell? ⟨bm, 0, none⟩ = some (.pointer (some ⟨m, 0, none⟩))) (c1 : w'.cell? ⟨bo, 3, none⟩ = some (.int .i64 k)) :
    Does (.func (.func 46) #[] #[.pointer (some ⟨bm, 0, none⟩), .pointer (some ⟨bo, 0, none⟩)]) m (applyC A (.drop k)) F w' :=
  ⟨_, _, rfl, (fun _ _ => by kernel_rfl), fun _ hW => drop_clos hI (h.below hW) bm bo k (cell_past hW (cell_lt c0) c0) (cell_past hW (cell_lt c1) c1)⟩

theorem does_size {w' : World} {m : Nat} {A : AM} {F : Nat → Prop} {mb clk : Nat} {ents : List Ent} (hI : Inv A) (g : RepG w' m A.bytes mb clk ents) (p : (ents.map Ent.b).Perm A.blocks) (f : ∀ k ∈ foot m mb ents, F k)
    {x : Ent} (hx : x ∈ ents) (bs bb : Nat) (s : Int)
    (c0 : w'.cell? ⟨bs, 0, none⟩ = some (.int .i64 s)) (c1 : w'.cell? ⟨bb, 0, none⟩ = some (.pointer (some ⟨x.blk, 0, none⟩))) :
    Does (.func (.func 69) #[] #[.pointer (some ⟨bs, 0, none⟩), .pointer (some ⟨bb, 0, none⟩)]) m (applyC A (.upd x.b.at_ { x.b with size := s })) F w' :=
  ⟨_, _, rfl, (fun _ _ => by kernel_rfl), fun _ hW => size_clos hI (g.below hW) p f hx bs bb s (cell_past hW (cell_lt c0) c0) (cell_past hW (cell_lt c1) c1)⟩

theorem does_move {w w' : World} {m : Nat} {A : AM} {F : Nat → Prop} {mb clk : Nat} {ents : List Ent} (hI : Inv A) (g : RepG w' m A.bytes mb clk ents) (p : (ents.map Ent.b).Perm A.blocks) (f : ∀ k ∈ foot m mb ents, F k)
    (hF : ∀ k, F k → k < w.heap.size) {x : Ent} (hx : x ∈ ents) (xa : AnsA) (s : Int) (hok : placeA A xa s 1 = true) (bm bb bx : Nat) (l0 : w.heap.size ≤ bm) (l1 : w.heap.size ≤ bb) (l2 : w.heap.size ≤ bx)
    (c0 : w'.cell? ⟨bm, 0, none⟩ = some (.pointer (some ⟨m, 0, none⟩))) (c1 : w'.cell? ⟨bb, 0, none⟩ = some (.pointer (some ⟨x.blk, 0, none⟩)))
    (c2 : w'.cell? ⟨bx, 0, none⟩ = some (.int .i64 xa.at_)) (c3 : w'.cell? ⟨bx, 1, none⟩ = some (.int .i64 xa.n)) (c4 : w'.cell? ⟨bx, 2, none⟩ = some (.int .i64 s)) :
    Does (.func (.func 70) #[] #[.pointer (some ⟨bm, 0, none⟩), .pointer (some ⟨bb, 0, none⟩), .pointer (some ⟨bx, 0, none⟩)]) m (applyC A (.move x.b.at_ ⟨xa.at_, xa.n.toNat, s, grownC x.b.cells xa.n.toNat⟩)) F w' := by
  obtain ⟨_, _, _, h4, h5, _, h7, h8⟩ := placeB_spec hok
  have hn : ((xa.n.toNat : Nat) : Int) = xa.n := by have := h7.2.1; omega
  have hb1 := hI.b1
  rw [← hn] at c3
  refine ⟨_, _, rfl, (fun _ _ => by kernel_rfl), fun W hW => ?_⟩
  exact move_clos hI (g.below hW) p f hx bm bb bx xa.at_ s xa.n.toNat (by unfold inB at h7; omega) (keys_apart hI h7.2.1 h8)
    (fun hf => by have := hF _ hf; omega) (fun hf => by have := hF _ hf; omega) (fun hf => by have := hF _ hf; omega)
    (cell_past hW (cell_lt c0) c0) (cell_past hW (cell_lt c1) c1) (cell_past hW (cell_lt c2) c2) (cell_past hW (cell_lt c3) c3) (cell_past hW (cell_lt c4) c4)

/-! ### write -/
set_option maxRecDepth 100000 in
set_option maxHeartbeats 2000000 in
theorem write_any {w : World} {m : Nat} {A : AM} {F : Nat → Prop} {mb clk : Nat} {ents : List Ent} (hI : Inv A) (g : RepG w m A.bytes mb clk ents) (p : (ents.map Ent.b).Perm A.blocks) (f : ∀ k ∈ foot m mb ents, F k)
    {x : Ent} (hx : x ∈ ents) (o : OpA) (xa : AnsA) (p1 p2 : Option Addr) (q1 q2 : Nat) (hd : BytesIn w p1 o.data) (hap : Apart o.data p1 F) :
    Calls Tryz.prog 48 #[.pointer (some ⟨x.blk, 0, none⟩), opV o p1 q1, ansV xa p2 q2] w (LegalPost m A F w (writeA x.b o xa)) := by
  obtain ⟨e1, e2, rest, e3⟩ := g.each x hx
  have x1 : w.cell? ⟨x.blk, 1, none⟩ = some (.int .i64 x.b.n) := by rw [cell_of_block e1]; rfl
  have hlo := hI.lo x.b (p.mem_iff.1 (List.mem_map.2 ⟨x, hx, rfl⟩))
  have hb1 := hI.b1
  have hn0 : (0 : Int) ≤ x.b.n := by omega
  have hn1 : (x.b.n : Int) ≤ 1099511627776 := by omega
  have lx := cell_lt x1
  have HN0 := Lib.hid hn0
  have HN1 := Lib.hid hn1
  have H := Lib.hid hI
  have G := Lib.hid g
  have P := Lib.hid p
  have FF := Lib.hid f
  have HX := Lib.hid hx
  have HD := Lib.hid hd
  have HA := Lib.hid hap
  clear hI g p f hx hd hap e1 e2 e3 hlo hb1 hn0 hn1
  unfold opV ansV
  by_cases c1 : withinB o.fr o.data.length x.b.n = true
  · have hfr : writeA x.b o xa = (.upd x.b.at_ { x.b with cells := learnL x.b.cells o.fr.toNat o.data }, onlyA xa 0 0 o.data.length 0) := by rw [writeA, if_neg (by rw [c1]; simp)]
    rw [hfr]
    clear hfr
    by_cases c2 : onlyB xa.err xa.at_ xa.n xa.count 0 0 o.data.length 0 = true
    · go_enter Tryz.func48, Tryz.ntmps48
      go_wp2_with (go_at_call 71; go_must (refine (within_any _ _ _ _ _ HN0.out HN1.out (cell_past (by repeat (first | exact Below.refl _ _ | assumption | refine Below.alloc ?_ (by first | omega | (simp <;> omega)) _ | refine Below.drew ?_ | refine Below.setCell ?_ (by first | omega | (simp <;> omega)) _ | refine Below.via (by assumption) (by first | omega | (simp <;> omega)) ?_)) lx x1)).mono ?_; rintro e w1 ⟨rfl, rfl⟩))
      (refine wp_region_quiet_ext (by kernel_rfl) (by kernel_rfl) ?_; (repeat (first | go_big_quiet_step ((go_at_call 43; refine Calls.ext_of (only_any _ _ _ _ _ _ _ _ _ _ _))) | quiet_step ((go_at_call 43; refine Calls.ext_of (only_any _ _ _ _ _ _ _ _ _ _ _))))); refine wpQuiet_nil ?_; intro w1 hw1; obtain hb := below_of_ext hw1; clear hw1; obtain ⟨hc, hf⟩ := bcell hb; have hz := hb.size; (try simp at hz))
      go_wp2
      go_ret2
      have k0 : w1.cell? ⟨w.heap.size, 0, none⟩ = some (.pointer (some ⟨x.blk, 0, none⟩)) := by rw [hc _ _ (by simp <;> omega)]; simp [go_sem]
      have k1 : w1.cell? ⟨w.heap.size + 1, 4, none⟩ = some (.int .i64 o.fr) := by rw [hc _ _ (by simp)]; simp [go_sem]
      have k2 : w1.cell? ⟨w.heap.size + 1, 6, none⟩ = some (.slice p1 o.data.length q1) := by rw [hc _ _ (by simp)]; simp [go_sem]
      exact ⟨.func (.func 73) #[] #[.pointer (some ⟨w.heap.size, 0, none⟩), .pointer (some ⟨w.heap.size + 1, 0, none⟩)], by simp [onlyA, c2], (by repeat (first | exact Below.refl _ _ | assumption | refine Below.alloc ?_ (by first | omega | (simp <;> omega)) _ | refine Below.drew ?_ | refine Below.setCell ?_ (by first | omega | (simp <;> omega)) _ | refine Below.via (by assumption) (by first | omega | (simp <;> omega)) ?_)),
        fun _ => does_write H.out (G.out.below (by repeat (first | exact Below.refl _ _ | assumption | refine Below.alloc ?_ (by first | omega | (simp <;> omega)) _ | refine Below.drew ?_ | refine Below.setCell ?_ (by first | omega | (simp <;> omega)) _ | refine Below.via (by assumption) (by first | omega | (simp <;> omega)) ?_))) P.out FF.out HX.out _ _ o.fr o.data p1 q1 c1 (HD.out.below (by repeat (first | exact Below.refl _ _ | assumption | refine Below.alloc ?_ (by first | omega | (simp <;> omega)) _ | refine Below.drew ?_ | refine Below.setCell ?_ (by first | omega | (simp <;> omega)) _ | refine Below.via (by assumption) (by first | omega | (simp <;> omega)) ?_))) HA.out k0 k1 k2⟩
    · have c3 : onlyB xa.err xa.at_ xa.n xa.count 0 0 o.data.length 0 = false := by simpa using c2
      clear c2
      go_enter Tryz.func48, Tryz.ntmps48
      go_wp2_with (go_at_call 71; refine (within_any _ _ _ _ _ HN0.out HN1.out (cell_past (by repeat (first | exact Below.refl _ _ | assumption | refine Below.alloc ?_ (by first | omega | (simp <;> omega)) _ | refine Below.drew ?_ | refine Below.setCell ?_ (by first | omega | (simp <;> omega)) _ | refine Below.via (by assumption) (by first | omega | (simp <;> omega)) ?_)) lx x1)).mono ?_; rintro e w1 ⟨rfl, rfl⟩)
      (refine wp_region_quiet_ext (by kernel_rfl) (by kernel_rfl) ?_; (repeat (first | go_big_quiet_step ((go_at_call 43; refine Calls.ext_of (only_any _ _ _ _ _ _ _ _ _ _ _))) | quiet_step ((go_at_call 43; refine Calls.ext_of (only_any _ _ _ _ _ _ _ _ _ _ _))))); refine wpQuiet_nil ?_; intro w1 hw1; obtain hb := below_of_ext hw1; clear hw1; obtain ⟨hc, hf⟩ := bcell hb; have hz := hb.size; (try simp at hz))
      go_wp2
      go_ret2
      exact ⟨.func (.func 73) #[] #[.pointer (some ⟨w.heap.size, 0, none⟩), .pointer (some ⟨w.heap.size + 1, 0, none⟩)], by simp [onlyA, c3], (by repeat (first | exact Below.refl _ _ | assumption | refine Below.alloc ?_ (by first | omega | (simp <;> omega)) _ | refine Below.drew ?_ | refine Below.setCell ?_ (by first | omega | (simp <;> omega)) _ | refine Below.via (by assumption) (by first | omega | (simp <;> omega)) ?_)), fun hok => by simp [onlyA, c3] at hok⟩
  · have c2 : withinB o.fr o.data.length x.b.n = false := by simpa using c1
    have hfr : writeA x.b o xa = (.keep, bareA xa 11) := by rw [writeA, if_pos c2]
    rw [hfr]
    clear hfr c1
    go_enter Tryz.func48, Tryz.ntmps48
    go_wp2_with (first
      | (go_at_call 71; refine (within_any _ _ _ _ _ HN0.out HN1.out (cell_past (by repeat (first | exact Below.refl _ _ | assumption | refine Below.alloc ?_ (by first | omega | (simp <;> omega)) _ | refine Below.drew ?_ | refine Below.setCell ?_ (by first | omega | (simp <;> omega)) _ | refine Below.via (by assumption) (by first | omega | (simp <;> omega)) ?_)) lx x1)).mono ?_; rintro e w1 ⟨rfl, rfl⟩)
      | (go_at_call 44; refine (bare_any _ _ _ _ _ _ _ _ _).mono ?_; rintro e w2 ⟨rfl, hb2⟩))
    go_ret2
    refine ⟨_, rfl, (by repeat (first | exact Below.refl _ _ | assumption | refine Below.alloc ?_ (by first | omega | (simp <;> omega)) _ | refine Below.drew ?_ | refine Below.setCell ?_ (by first | omega | (simp <;> omega)) _ | refine Below.via (by assumption) (by first | omega | (simp <;> omega)) ?_)), fun _ => does_nothing (Rep.below ⟨mb, clk, ents, G.out, P.out, FF.out⟩ (by repeat (first | exact Below.refl _ _ | assumption | refine Below.alloc ?_ (by first | omega | (simp <;> omega)) _ | refine Below.drew ?_ | refine Below.setCell ?_ (by first | omega | (simp <;> omega)) _ | refine Below.via (by assumption) (by first | omega | (simp <;> omega)) ?_)))⟩

end Go.Proofs.YtgcnbiccekaffaaGreat
