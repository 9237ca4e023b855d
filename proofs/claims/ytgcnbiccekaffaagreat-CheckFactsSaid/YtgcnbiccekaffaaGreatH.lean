/- The closures: what an answer changes. -/
import Derived.Test.YtgcnbiccekaffaaGreatG
import Derived.Deep.RegionHeld3
namespace Go.Proofs.YtgcnbiccekaffaaGreat
open Go.RowKit Go.ChangeMaps

/-- A call that hands back nothing, and leaves the model so. -/
def Ends (m : Nat) (A' : AM) (F : Nat → Prop) (w : World) (e : Ending) (w' : World) : Prop :=
  e = .returned (.tuple #[]) ∧ Rep w' m A' (fun k => F k ∨ w.heap.size ≤ k) ∧ Turned F w w'

theorem nothing_any {m : Nat} {A : AM} {F : Nat → Prop} {w : World} (h : Rep w m A F) : Calls Tryz.prog 42 #[] w (Ends m A F w) := by
  have H := Lib.hid h
  clear h
  go_enter Tryz.func42, Tryz.ntmps42
  go_wp2
  go_end0
  exact ⟨rfl, H.out.mono (fun k hk _ => .inl hk), Turned.refl _ _⟩

/-! ### Copies -/
theorem copies_nil (w : World) (n : Nat) : Copies w n (.slice none 0 0) (List.replicate n none) := by
  intro W g _ _ hg ty
  obtain ⟨i0, hi, hz0, hz1, hz2⟩ := info_parts info_cell
  exact ⟨_, W, run_copy_nil Tryz.prog W _ _ ty _ _ n n und_cells (by rw [hi]; rfl), Turned.refl _ _, rfl, hg⟩

theorem setRow_eq {w : World} {g : Nat} {c : Array Value} {e : TypeId} {f : Nat × Nat} (h : w.heap[g]? = some (.cells c e f)) (cs : Array Value) : (w.setRow g cs).heap[g]? = some (.cells cs e f) := by
  simp [World.setRow, Array.getElem?_modify, h]
theorem setRow_ne (w : World) (g k : Nat) (cs : Array Value) (h : k ≠ g) : (w.setRow g cs).heap[k]? = w.heap[k]? := by
  simp only [World.setRow, Array.getElem?_modify]
  rw [if_neg (Ne.symm h)]

theorem copies_of {w : World} {x : Ent} (hx : EntAt w x) (n : Nat) : Copies w n (.slice (some ⟨x.cb, 0, none⟩) x.b.n x.cap) (grownC x.b.cells n) := by
  intro W g hs hg hc ty
  obtain ⟨_, hl, rest, hr⟩ := hx
  have hlt := lt_of_block hr
  have hsrc : W.heap[x.cb]? = some (.cells (cellsV x.b.cells ++ rest).toArray 92) := (hs _ hlt).trans hr
  have hrun := run_copy_cells W g n x.cb x.b.n x.cap (List.replicate n none) x.b.cells rest ty hc (by simp) hsrc hl
  have e : x.b.cells.take n ++ (List.replicate n none).drop x.b.n = grownC x.b.cells n := by rw [grownC, List.drop_replicate, hl]
  rw [e] at hrun
  exact ⟨_, _, hrun, ⟨rfl, rfl, rfl, by simp [World.setRow], fun k _ hk => setRow_ne _ _ _ _ hk⟩, by simp [World.setRow], setRow_eq hc _⟩

/-! ### lay and learn, said of the model -/
theorem Rep.all {w : World} {m : Nat} {A : AM} {F : Nat → Prop} (h : Rep w m A F) : ∃ mb clk ents, RepG w m A.bytes mb clk ents ∧ (ents.map Ent.b).Perm A.blocks ∧ ∀ k ∈ foot m mb ents, F k := h

theorem lay_rep {w : World} {m : Nat} {A : AM} {F : Nat → Prop} (h : Rep w m A F) (a s : Int) (n : Nat) (sp : Option Addr) (sl sc : Nat) (cs : List (Option Int)) (hn2 : n ≤ 1048576)
    (hk : ∀ b ∈ A.blocks, b.at_ ≠ a) (hcp : Copies w n (.slice sp sl sc) cs) (hc : cs.length = n) :
    Calls Tryz.prog 67 #[.pointer (some ⟨m, 0, none⟩), .agg #[.int .i64 a, .int .i64 n, .int .i64 s], .slice sp sl sc] w
      (Ends m { A with blocks := insB ⟨a, n, s, cs⟩ A.blocks } F w) := by
  obtain ⟨mb, clk, ents, g, p, f⟩ := h
  refine (lay_walk m mb clk ents A.bytes a s n sp sl sc cs w g hn2 (fun x hx => hk x.b (p.mem_iff.1 (List.mem_map.2 ⟨x, hx, rfl⟩))) hcp).mono ?_
  rintro e w' ⟨rfl, hL⟩
  exact ⟨rfl, g.lay p f hL hc, hL.1.mono (fun k hk _ => by subst hk; exact f _ (by simp [foot]))⟩

theorem learn_rep {w : World} {m : Nat} {A : AM} {F : Nat → Prop} {mb clk : Nat} {ents : List Ent} (hI : Inv A) (g : RepG w m A.bytes mb clk ents) (p : (ents.map Ent.b).Perm A.blocks) (f : ∀ k ∈ foot m mb ents, F k)
    {x : Ent} (hx : x ∈ ents) (fr : Int) (ds : List Int) (q : Option Addr) (qc : Nat) (h0 : 0 ≤ fr) (hfit : fr + ds.length ≤ x.b.n) (hd : BytesIn w q ds) (hap : Apart ds q F) :
    Calls Tryz.prog 68 #[.pointer (some ⟨x.blk, 0, none⟩), .int .i64 fr, .slice q ds.length qc] w
      fun e w' => e = .returned (.tuple #[]) ∧ Rep w' m { A with blocks := updB x.b.at_ { x.b with cells := learnL x.b.cells fr.toNat ds } A.blocks } F ∧ Turned F w w' ∧ Turned (fun j => j = x.cb) w w' := by
  obtain ⟨e1, e2, rest, e3⟩ := g.each x hx
  have hfr : fr = ((fr.toNat : Nat) : Int) := by omega
  have hmax : x.b.n ≤ 1048576 := by
    have h1 := hI.lo x.b (p.mem_iff.1 (List.mem_map.2 ⟨x, hx, rfl⟩))
    have h2 := hI.b1
    omega
  have ha := g.apart hx
  have hcw := learn_walk x.blk x.cb x.cap fr.toNat x.b.n x.b.cells ds rest q qc w (by rw [cell_of_block e1]; rfl) ha.1 e3 e2 (by omega) (Nat.le_trans hmax (by decide)) hd
    (fun hne b o hq hb => hap hne b o hq (by subst hb; exact f _ (foot_cb hx)))
  rw [← hfr] at hcw
  refine hcw.mono ?_
  rintro e w' ⟨rfl, hT, hc⟩
  rw [List.take_length] at hc
  have hT' : Turned (fun j => j = x.blk ∨ j = x.cb) w w' := hT.mono (fun k hk _ => .inr hk)
  refine ⟨rfl, g.upd p f (ents_nodup hI p) hx (b' := { x.b with cells := learnL x.b.cells fr.toNat ds }) rfl hT' ⟨?_, ?_, rest, hc⟩, hT.mono (fun k hk _ => by subst hk; exact f _ (foot_cb hx)), hT⟩
  · rw [hT.block _ (lt_of_block e1) ha.1]; exact e1
  · show (learnL x.b.cells fr.toNat ds).length = x.b.n
    rw [learnL_length _ _ _ (by omega), e2]

/-! ### the closures -/
set_option maxRecDepth 100000 in
set_option maxHeartbeats 1000000 in
theorem drop_clos {w : World} {m : Nat} {A : AM} {F : Nat → Prop} (hI : Inv A) (h : Rep w m A F) (bm bo : Nat) (k : Int)
    (c0 : w.cell? ⟨bm, 0, none⟩ = some (.pointer (some ⟨m, 0, none⟩))) (c1 : w.cell? ⟨bo, 3, none⟩ = some (.int .i64 k)) :
    Calls Tryz.prog 46 #[.pointer (some ⟨bm, 0, none⟩), .pointer (some ⟨bo, 0, none⟩)] w (Ends m { A with blocks := dropB k A.blocks } F w) := by
  obtain ⟨mb, clk, ents, g, p, f⟩ := h
  have g1 := g.cell1
  have hdel := fun ty => run_delete_ents (w := w.drew) (mb := mb) (clk := clk) g.map (ents_nodup hI p) k ty
  obtain ⟨d1, d2, d3, d4⟩ := g.drop (w' := setBlock w mb (.map ((ents.filter fun y => y.b.at_ != k).map entry).toArray clk)) p f k rfl
  have hfin := Lib.hid (show Ends m { A with blocks := dropB k A.blocks } F w (.returned (.tuple #[])) (setBlock w.drew mb (.map ((ents.filter fun y => y.b.at_ != k).map entry).toArray clk)) from
    ⟨rfl, ⟨mb, clk, _, d1.same (fun _ _ => rfl), d2, fun j hj => .inl (d3 j hj)⟩, ⟨rfl, rfl, rfl, d4.size, fun j hj hf => d4.block j hj (fun e => hf (by subst e; exact f _ (by simp [foot])))⟩⟩)
  clear d1 d2 d3 d4 g p f hI
  go_enter Tryz.func46, Tryz.ntmps46
  go_wp2
  go_region
  go_end0
  exact hfin.out

set_option maxRecDepth 100000 in
set_option maxHeartbeats 1000000 in
theorem size_clos {w : World} {m : Nat} {A : AM} {F : Nat → Prop} {mb clk : Nat} {ents : List Ent} (hI : Inv A) (g : RepG w m A.bytes mb clk ents) (p : (ents.map Ent.b).Perm A.blocks) (f : ∀ k ∈ foot m mb ents, F k)
    {x : Ent} (hx : x ∈ ents) (bs bb : Nat) (s : Int)
    (c0 : w.cell? ⟨bs, 0, none⟩ = some (.int .i64 s)) (c1 : w.cell? ⟨bb, 0, none⟩ = some (.pointer (some ⟨x.blk, 0, none⟩))) :
    Calls Tryz.prog 69 #[.pointer (some ⟨bs, 0, none⟩), .pointer (some ⟨bb, 0, none⟩)] w (Ends m { A with blocks := updB x.b.at_ { x.b with size := s } A.blocks } F w) := by
  obtain ⟨e1, e2, rest, e3⟩ := g.each x hx
  have ha := g.apart hx
  have x2 : w.cell? ⟨x.blk, 2, none⟩ = some (.int .i64 x.b.size) := by rw [cell_of_block e1]; rfl
  have f2 : w.frozen? ⟨x.blk, 2, none⟩ = false := frozen_of_block e1 _
  have hT : Turned (fun j => j = x.blk ∨ j = x.cb) w (w.setCell ⟨x.blk, 2, none⟩ (.int .i64 s)) := Turned.setCell (Turned.refl _ _) (.inl (.inl rfl)) _
  have hr := g.upd p f (ents_nodup hI p) hx (b' := { x.b with size := s }) rfl hT ⟨by rw [heap_setCell_eq e1]; rfl, e2, rest, by rw [Below.heap_setCell _ _ _ _ (Ne.symm ha.1)]; exact e3⟩
  have hfin := Lib.hid (show Ends m { A with blocks := updB x.b.at_ { x.b with size := s } A.blocks } F w (.returned (.tuple #[])) (w.setCell ⟨x.blk, 2, none⟩ (.int .i64 s)) from
    ⟨rfl, hr.mono (fun k hk _ => .inl hk), hT.mono (fun k hk _ => by rcases hk with rfl | rfl; exact f _ (foot_blk hx); exact f _ (foot_cb hx))⟩)
  clear hr hT e1 e2 e3 ha g p f hI
  go_enter Tryz.func69, Tryz.ntmps69
  go_wp2
  go_end0
  exact hfin.out


theorem EntAt.below {w w' : World} {x : Ent} (h : EntAt w x) {F : Nat → Prop} (hT : Turned F w w') (h1 : ¬ F x.blk) (h2 : ¬ F x.cb) : EntAt w' x := by
  obtain ⟨a, b, rest, c⟩ := h
  exact EntAt.same ⟨a, b, rest, c⟩ (hT.block _ (lt_of_block a) h1) (hT.block _ (lt_of_block c) h2)

set_option maxRecDepth 100000 in
set_option maxHeartbeats 1000000 in
theorem move_clos {w : World} {m : Nat} {A : AM} {F : Nat → Prop} {mb clk : Nat} {ents : List Ent} (hI : Inv A) (g : RepG w m A.bytes mb clk ents) (p : (ents.map Ent.b).Perm A.blocks) (f : ∀ k ∈ foot m mb ents, F k)
    {x : Ent} (hx : x ∈ ents) (bm bb bx : Nat) (a s : Int) (n : Nat) (hn2 : n ≤ 1048576) (hk : ∀ b ∈ A.blocks, b.at_ ≠ a) (hbm : ¬ F bm) (hbb : ¬ F bb) (hbx : ¬ F bx)
    (c0 : w.cell? ⟨bm, 0, none⟩ = some (.pointer (some ⟨m, 0, none⟩))) (c1 : w.cell? ⟨bb, 0, none⟩ = some (.pointer (some ⟨x.blk, 0, none⟩)))
    (c2 : w.cell? ⟨bx, 0, none⟩ = some (.int .i64 a)) (c3 : w.cell? ⟨bx, 1, none⟩ = some (.int .i64 n)) (c4 : w.cell? ⟨bx, 2, none⟩ = some (.int .i64 s)) :
    Calls Tryz.prog 70 #[.pointer (some ⟨bm, 0, none⟩), .pointer (some ⟨bb, 0, none⟩), .pointer (some ⟨bx, 0, none⟩)] w
      (Ends m (applyC A (.move x.b.at_ ⟨a, n, s, grownC x.b.cells n⟩)) F w) := by
  obtain ⟨e1, e2, rest, e3⟩ := g.each x hx
  have ha := g.apart hx
  have g1 := g.cell1
  have x0 : w.cell? ⟨x.blk, 0, none⟩ = some (.int .i64 x.b.at_) := by rw [cell_of_block e1]; rfl
  have hdel := fun ty => run_delete_ents (w := w.drew) (mb := mb) (clk := clk) g.map (ents_nodup hI p) x.b.at_ ty
  obtain ⟨d1, d2, d3, d4⟩ := g.drop (w' := setBlock w mb (.map ((ents.filter fun y => y.b.at_ != x.b.at_).map entry).toArray clk)) p f x.b.at_ rfl
  generalize hW : setBlock w.drew mb (.map ((ents.filter fun y => y.b.at_ != x.b.at_).map entry).toArray clk) = W at *
  have hT : Turned (fun j => j = mb) w W := by subst hW; exact ⟨rfl, rfl, rfl, d4.size, d4.block⟩
  have hmbF : F mb := f _ (by simp [foot])
  have hR : Rep W m { A with blocks := dropB x.b.at_ A.blocks } F := by subst hW; exact ⟨mb, clk, _, d1.same (fun _ _ => rfl), d2, d3⟩
  have hxW : EntAt W x := EntAt.below ⟨e1, e2, rest, e3⟩ hT ha.2.2.1 ha.2.2.2.2.1
  have keep : ∀ (b o : Nat) (v : Value), ¬ F b → w.cell? ⟨b, o, none⟩ = some v → W.cell? ⟨b, o, none⟩ = some v := fun b o v hb hv => by
    rw [World.cell?_of_block (w := w) (hT.block b (cell_lt hv) (fun e => hb (by rw [e]; exact hmbF)))]; exact hv
  have C0 := keep _ _ _ hbm c0
  have C1 := keep _ _ _ hbb c1
  have C2 := keep _ _ _ hbx c2
  have C3 := keep _ _ _ hbx c3
  have C4 := keep _ _ _ hbx c4
  have X3 : W.cell? ⟨x.blk, 3, none⟩ = some (.slice (some ⟨x.cb, 0, none⟩) x.b.n x.cap) := by rw [cell_of_block hxW.1]; rfl
  have hcall := Lib.hid (show ∀ W', W'.heap = W.heap → W'.os = W.os → W'.tape = W.tape → W'.output = W.output → Calls Tryz.prog 67 #[.pointer (some ⟨m, 0, none⟩), .agg #[.int .i64 a, .int .i64 n, .int .i64 s], .slice (some ⟨x.cb, 0, none⟩) x.b.n x.cap] W'
      (Ends m (applyC A (.move x.b.at_ ⟨a, n, s, grownC x.b.cells n⟩)) F w) from fun W' h1 h2 h3 h4 => by
    have hT' : Turned F w W' := ⟨h2.trans hT.os, h3.trans hT.tape, h4.trans hT.output, by rw [h1]; exact hT.size, fun k hk hf => by rw [h1]; exact hT.block k hk (fun e => hf (by rw [e]; exact hmbF))⟩
    have hR' : Rep W' m { A with blocks := dropB x.b.at_ A.blocks } F := by
      obtain ⟨q1, q2, q3, q4, q5, q6⟩ := hR
      exact ⟨q1, q2, q3, q4.same (fun k _ => by rw [h1]), q5, q6⟩
    refine (lay_rep hR' a s n _ _ _ (grownC x.b.cells n) hn2 (fun b hb => hk b (List.mem_filter.1 hb).1) (copies_of (hxW.same (by rw [h1]) (by rw [h1])) n) (by simp [grownC]; omega)).mono ?_
    rintro e w' ⟨rfl, r1, r2⟩
    refine ⟨rfl, r1.mono (fun k hk _ => ?_), hT'.trans r2 (fun k hk _ => hk)⟩
    rcases hk with hk | hk
    · exact .inl hk
    · exact .inr (Nat.le_trans hT'.size hk))
  clear d1 d2 d3 d4 hR hxW keep hT ha e1 e2 e3 g p f hI hk hbm hbb hbx hx hmbF
  go_enter Tryz.func70, Tryz.ntmps70
  go_wp2
  go_region
  clear hdel x0 g1 c0 c1 c2 c3 c4
  clear hW
  go_wp2
  go_still_tail 6, (by kernel_rfl)
  go_wp2_with (go_at_call 67; refine (hcall.out W.drew rfl rfl rfl rfl).mono ?_; rintro e w' ⟨rfl, hE⟩)
  go_end0
  exact ⟨rfl, hE⟩


/-- .. said of the model, at whatever world has the entry. -/
theorem learn_ends {w : World} {m : Nat} {A : AM} {F : Nat → Prop} {mb clk : Nat} {ents : List Ent} (hI : Inv A) (g : RepG w m A.bytes mb clk ents) (p : (ents.map Ent.b).Perm A.blocks) (f : ∀ k ∈ foot m mb ents, F k)
    {x : Ent} (hx : x ∈ ents) (fr : Int) (ds : List Int) (q : Option Addr) (ql qc : Nat) (h0 : 0 ≤ fr) (hql : ds.length = ql) (hfit : fr + ds.length ≤ x.b.n) (hd : BytesIn w q ds) (hap : Apart ds q F) :
    Calls Tryz.prog 68 #[.pointer (some ⟨x.blk, 0, none⟩), .int .i64 fr, .slice q ql qc] w (Ends m { A with blocks := updB x.b.at_ { x.b with cells := learnL x.b.cells fr.toNat ds } A.blocks } F w) := by
  subst hql
  refine (learn_rep hI g p f hx fr ds q qc h0 hfit hd hap).mono ?_
  rintro e w' ⟨rfl, h1, h2, _⟩
  exact ⟨rfl, h1.mono (fun k hk _ => .inl hk), h2⟩

set_option maxRecDepth 100000 in
set_option maxHeartbeats 1000000 in
theorem read_clos {w : World} {m : Nat} {A : AM} {F : Nat → Prop} {mb clk : Nat} {ents : List Ent} (hI : Inv A) (g : RepG w m A.bytes mb clk ents) (p : (ents.map Ent.b).Perm A.blocks) (f : ∀ k ∈ foot m mb ents, F k)
    {x : Ent} (hx : x ∈ ents) (bb bo ba : Nat) (fr : Int) (ds : List Int) (q : Option Addr) (ql qc : Nat) (h0 : 0 ≤ fr) (hql : ds.length = ql) (hfit : fr + ds.length ≤ x.b.n) (hd : BytesIn w q ds) (hap : Apart ds q F)
    (c0 : w.cell? ⟨bb, 0, none⟩ = some (.pointer (some ⟨x.blk, 0, none⟩))) (c1 : w.cell? ⟨bo, 4, none⟩ = some (.int .i64 fr)) (c2 : w.cell? ⟨ba, 4, none⟩ = some (.slice q ql qc)) :
    Calls Tryz.prog 72 #[.pointer (some ⟨bb, 0, none⟩), .pointer (some ⟨bo, 0, none⟩), .pointer (some ⟨ba, 0, none⟩)] w
      (Ends m { A with blocks := updB x.b.at_ { x.b with cells := learnL x.b.cells fr.toNat ds } A.blocks } F w) := by
  have hcall := Lib.hid (learn_ends hI g p f hx fr ds q ql qc h0 hql hfit hd hap)
  clear hI g p f hx h0 hql hfit hd hap
  go_enter Tryz.func72, Tryz.ntmps72
  go_wp2_with (go_at_call 68; refine hcall.out.mono ?_; rintro e w' ⟨rfl, hE⟩)
  go_end0
  exact ⟨rfl, hE⟩

set_option maxRecDepth 100000 in
set_option maxHeartbeats 1000000 in
theorem write_clos {w : World} {m : Nat} {A : AM} {F : Nat → Prop} {mb clk : Nat} {ents : List Ent} (hI : Inv A) (g : RepG w m A.bytes mb clk ents) (p : (ents.map Ent.b).Perm A.blocks) (f : ∀ k ∈ foot m mb ents, F k)
    {x : Ent} (hx : x ∈ ents) (bb bo : Nat) (fr : Int) (ds : List Int) (q : Option Addr) (ql qc : Nat) (h0 : 0 ≤ fr) (hql : ds.length = ql) (hfit : fr + ds.length ≤ x.b.n) (hd : BytesIn w q ds) (hap : Apart ds q F)
    (c0 : w.cell? ⟨bb, 0, none⟩ = some (.pointer (some ⟨x.blk, 0, none⟩))) (c1 : w.cell? ⟨bo, 4, none⟩ = some (.int .i64 fr)) (c2 : w.cell? ⟨bo, 6, none⟩ = some (.slice q ql qc)) :
    Calls Tryz.prog 73 #[.pointer (some ⟨bb, 0, none⟩), .pointer (some ⟨bo, 0, none⟩)] w
      (Ends m { A with blocks := updB x.b.at_ { x.b with cells := learnL x.b.cells fr.toNat ds } A.blocks } F w) := by
  have hcall := Lib.hid (learn_ends hI g p f hx fr ds q ql qc h0 hql hfit hd hap)
  clear hI g p f hx h0 hql hfit hd hap
  go_enter Tryz.func73, Tryz.ntmps73
  go_wp2_with (go_at_call 68; refine hcall.out.mono ?_; rintro e w' ⟨rfl, hE⟩)
  go_end0
  exact ⟨rfl, hE⟩


/-! ### a new block -/
theorem updB_insB {a : Int} {b b' : Blk} (hb : b.at_ = a) (hb' : b'.at_ = a) : ∀ {l : List Blk}, (∀ x ∈ l, x.at_ ≠ a) → updB a b' (insB b l) = insB b' l
  | [], _ => by simp [insB, updB, hb]
  | x :: l, h => by
    have hx := h x (by simp)
    have hid : updB a b' l = l := by
      rw [updB]
      conv => rhs; rw [← List.map_id l]
      apply List.map_congr_left
      intro y hy
      rw [if_neg (h y (by simp [hy]))]
      rfl
    unfold insB
    rw [hb, hb']
    split
    · have e : updB a b' (b :: x :: l) = b' :: x :: updB a b' l := by simp [updB, hb, hx]
      rw [e, hid]
    · have e : updB a b' (x :: insB b l) = x :: updB a b' (insB b l) := by simp [updB, hx]
      rw [e, updB_insB hb hb' (fun y hy => h y (by simp [hy]))]

theorem learnL_zero (n : Nat) : learnL (List.replicate n none) 0 (List.replicate n 0) = List.replicate n (some 0) := by
  simp [learnL]

theorem und_bytes : Tryz.prog.underlying 34 = some (.slice 5) := by kernel_rfl
theorem info_byte : (Tryz.prog.info? 5).map (fun i => (i.zero, i.size, i.bytes)) = some (some (.int .u8 0), 1, 1) := by kernel_rfl
def zeroBytes (n : Nat) : Array Value := (List.replicate n (.int .u8 0)).toArray
theorem run_make_bytes (n : Nat) (hn : n ≤ 1048576) (w : World) :
    (Instr.makeSlice 34 (.int .i64 n) (.int .i64 n)).run Tryz.prog w = .ok (.slice (some ⟨w.heap.size, 0, none⟩) n n) (w.alloc (.cells (zeroBytes n) 5)) := by
  obtain ⟨i0, hi, hz0, hz1, hz2⟩ := info_parts info_byte
  have := run_make (P := Tryz.prog) w _ _ i0 _ und_bytes hi hz0 .i64 .i64 n n (by omega) (by omega) (by rw [hz2]; omega) (by omega)
  rw [this, hz1]
  have e : madeCells #[.int .u8 0] n = zeroBytes n := by
    apply Array.ext_getElem?
    intro i
    simp only [madeCells, zeroBytes, Array.getElem?_map, List.getElem?_toArray, List.getElem?_replicate, Array.getElem?_range]
    by_cases h : i < n
    · simp [h, Nat.mod_one]
    · simp [h]
  simp only [Int.toNat_natCast, Value.cells, Nat.mul_one, e]

theorem bytesIn_zero {w : World} {g n : Nat} (h : w.heap[g]? = some (.cells (zeroBytes n) 5)) : BytesIn w (some ⟨g, 0, none⟩) (List.replicate n 0) := by
  intro i hi
  refine ⟨g, 0, rfl, ?_⟩
  rw [cell_of_block h, zeroBytes, List.getElem?_toArray]
  simp at hi
  simp [hi]

set_option maxRecDepth 100000 in
set_option maxHeartbeats 1000000 in
theorem make_clos {w : World} {m : Nat} {A : AM} {F : Nat → Prop} (h : Rep w m A F) (bm bx bo : Nat) (k a s : Int) (n : Nat) (hn2 : n ≤ 1048576) (hk : ∀ b ∈ A.blocks, b.at_ ≠ a)
    (hI1 : Inv (applyC A (.lay ⟨a, n, s, List.replicate n none⟩))) (hbm : ¬ F bm) (hbx : ¬ F bx) (hbo : ¬ F bo)
    (c0 : w.cell? ⟨bm, 0, none⟩ = some (.pointer (some ⟨m, 0, none⟩))) (c1 : w.cell? ⟨bx, 0, none⟩ = some (.int .i64 a)) (c2 : w.cell? ⟨bx, 1, none⟩ = some (.int .i64 n)) (c3 : w.cell? ⟨bx, 2, none⟩ = some (.int .i64 s))
    (c4 : w.cell? ⟨bo, 0, none⟩ = some (.int .i64 k)) :
    Calls Tryz.prog 66 #[.pointer (some ⟨bm, 0, none⟩), .pointer (some ⟨bx, 0, none⟩), .pointer (some ⟨bo, 0, none⟩)] w
      (Ends m (applyC A (.lay ⟨a, n, s, firstOf k n⟩)) F w) := by
  have hcall := Lib.hid (lay_rep h a s n none 0 0 _ hn2 hk (copies_nil w n) (by simp))
  clear h
  have HI := Lib.hid hI1
  have HK := Lib.hid hk
  clear hI1 hk
  have hmk := fun W => run_make_bytes n hn2 W
  clear hn2
  by_cases hk1 : (k == 1) = true
  · have hfo : firstOf k n = List.replicate n (some 0) := by unfold firstOf; rw [if_pos hk1]
    rw [hfo]
    clear hfo
    go_enter Tryz.func66, Tryz.ntmps66
    go_wp2_with fail
    refine hcall.out.mono ?_
    rintro e W ⟨rfl, hR, hT⟩
    have keep : ∀ (b o : Nat) (v : Value), ¬ F b → w.cell? ⟨b, o, none⟩ = some v → W.cell? ⟨b, o, none⟩ = some v := fun b o v hb hv => by
      rw [World.cell?_of_block (w := w) (hT.block b (cell_lt hv) hb)]; exact hv
    have C0 := keep _ _ _ hbm c0
    have C1 := keep _ _ _ hbx c1
    have C2 := keep _ _ _ hbx c2
    have C4 := keep _ _ _ hbo c4
    obtain ⟨mb, clk, ents, g, p, f⟩ := hR
    have G1 := g.cell1
    obtain ⟨x, hx, hfi, hxb⟩ := find_some HI.out p (k := a) (b := ⟨a, n, s, List.replicate n none⟩) (by
      unfold findB
      have hmem : (⟨a, n, s, List.replicate n none⟩ : Blk) ∈ (applyC A (.lay ⟨a, n, s, List.replicate n none⟩)).blocks := mem_insB.2 (.inl rfl)
      cases hf : (applyC A (.lay ⟨a, n, s, List.replicate n none⟩)).blocks.find? (fun b => b.at_ == a) with
      | none => rw [List.find?_eq_none] at hf; exact absurd (by simp) (hf _ hmem)
      | some y =>
        have h1 := List.mem_of_find?_eq_some hf
        have h2 := List.find?_some hf
        simp at h2
        rw [HI.out.same h1 hmem h2])
    have hlk := run_lookup_ents g.map a
    rw [hfi] at hlk
    have hlk1 : ∀ W' : World, W'.heap = (W.alloc (.cells (zeroBytes n) 5)).heap → (Instr.lookup 74 (.map (some mb)) (.int .i64 a) false).run Tryz.prog W' = .ok (.pointer (some ⟨x.blk, 0, none⟩)) W' := fun W' hW' => by
      have := run_lookup_ents (w := W') (mb := mb) (clk := clk) (ents := ents) (by rw [hW', heap_alloc_old _ _ (lt_of_block g.map)]; exact g.map) a
      rw [hfi] at this
      exact this
    have hl2 := hlk1 ((W.alloc (.cells (zeroBytes n) 5)).drew) rfl
    have hl3 : (Instr.lookup 74 (.map (some mb)) (.int .i64 a) false).run Tryz.prog W.drew = .ok (.pointer (some ⟨x.blk, 0, none⟩)) W.drew := by
      have := run_lookup_ents (w := W.drew) (mb := mb) (clk := clk) (ents := ents) g.map a
      rw [hfi] at this
      exact this
    have hend := Lib.hid (show Calls Tryz.prog 68 #[.pointer (some ⟨x.blk, 0, none⟩), .int .i64 0, .slice (some ⟨W.heap.size, 0, none⟩) n n] ((W.alloc (.cells (zeroBytes n) 5)).drew)
        (fun e w' => Ends m (applyC A (.lay ⟨a, n, s, List.replicate n (some 0)⟩)) F w e w' ∧ Turned (fun j => j = x.cb) ((W.alloc (.cells (zeroBytes n) 5)).drew) w') from by
      have g' : RepG ((W.alloc (.cells (zeroBytes n) 5)).drew) m A.bytes mb clk ents := g.same (fun k hk => heap_alloc_old _ _ (g.lt k hk))
      have f' : ∀ k ∈ foot m mb ents, (F k ∨ w.heap.size ≤ k) ∧ k < W.heap.size := fun k hk => ⟨f k hk, g.lt k hk⟩
      have hz : BytesIn ((W.alloc (.cells (zeroBytes n) 5)).drew) (some ⟨W.heap.size, 0, none⟩) (List.replicate n 0) := bytesIn_zero (heap_alloc_new W _)
      have hlr := learn_rep (A := applyC A (.lay ⟨a, n, s, List.replicate n none⟩)) HI.out g' p f' hx 0 (List.replicate n 0) (some ⟨W.heap.size, 0, none⟩) n (Int.le_refl _) (by rw [hxb]; simp) hz (by
        intro _ b o hq hb
        simp only [Option.some.injEq, Addr.mk.injEq, and_true] at hq
        omega)
      rw [List.length_replicate] at hlr
      refine hlr.mono ?_
      rintro e w' ⟨rfl, r1, r2, r3⟩
      refine ⟨?_, r3⟩
      have e2 : updB x.b.at_ { x.b with cells := learnL x.b.cells (0 : Int).toNat (List.replicate n 0) } (applyC A (.lay ⟨a, n, s, List.replicate n none⟩)).blocks = insB ⟨a, n, s, List.replicate n (some 0)⟩ A.blocks := by
        rw [hxb]
        simp only [Int.toNat_zero, learnL_zero]
        exact updB_insB (a := a) rfl rfl HK.out
      rw [e2] at r1
      refine ⟨rfl, r1.mono (fun k hk _ => ?_), ?_⟩
      · exact hk.1
      · have h1 : Turned F w ((W.alloc (.cells (zeroBytes n) 5)).drew) := (hT.alloc _).drew
        exact h1.trans r2 (fun k hk hlt => by rcases hk.1 with hk | hk; exact hk; omega))
    have hap := g.apart hx
    have hne : bm ≠ x.cb ∧ bx ≠ x.cb := ⟨fun e => by
      have := f _ (foot_cb hx); rw [← e] at this
      have h3 := cell_lt c0
      rcases this with h | h
      · exact hbm h
      · omega, fun e => by
      have := f _ (foot_cb hx); rw [← e] at this
      have h3 := cell_lt c1
      rcases this with h | h
      · exact hbx h
      · omega⟩
    have HS := Lib.hid (show ∀ w', Turned (fun j => j = x.cb) ((W.alloc (.cells (zeroBytes n) 5)).drew) w' → w'.cell? ⟨bm, 0, none⟩ = some (.pointer (some ⟨m, 0, none⟩)) ∧ w'.cell? ⟨bx, 0, none⟩ = some (.int .i64 a) ∧ w'.cell? ⟨bx, 1, none⟩ = some (.int .i64 n) ∧ w'.cell? ⟨m, 1, none⟩ = some (.map (some mb)) ∧ (Instr.lookup 74 (.map (some mb)) (.int .i64 a) false).run Tryz.prog w' = .ok (.pointer (some ⟨x.blk, 0, none⟩)) w' from fun w' hw => by
      have hh : ∀ k, k < W.heap.size → k ≠ x.cb → w'.heap[k]? = W.heap[k]? := fun k hk hne => (hw.block k (by show k < (W.alloc _).heap.size; simp; omega) hne).trans (heap_alloc_old W _ hk)
      have hcell : ∀ b o v, b ≠ x.cb → W.cell? ⟨b, o, none⟩ = some v → w'.cell? ⟨b, o, none⟩ = some v := fun b o v hb hv => by
        rw [World.cell?_of_block (w := W) (hh b (cell_lt hv) hb)]; exact hv
      refine ⟨hcell _ _ _ hne.1 C0, hcell _ _ _ hne.2 C1, hcell _ _ _ hne.2 C2, hcell _ _ _ (Ne.symm hap.2.2.2.1) G1, ?_⟩
      have := run_lookup_ents (w := w') (mb := mb) (clk := clk) (ents := ents) (by rw [hh mb (lt_of_block g.map) (Ne.symm hap.2.2.2.2.1)]; exact g.map) a
      rw [hfi] at this
      exact this)
    clear hap hne keep hfi hlk hlk1 hxb hx g p f c0 c1 c2 c3 c4 hbm hbx hbo hT
    go_wp2
    have l0 := cell_lt C0
    have l1 := cell_lt C1
    have l2 := cell_lt G1
    go_region_held3 (fun W' : World => W'.cell? ⟨bm, 0, none⟩ = some (.pointer (some ⟨m, 0, none⟩)) ∧ W'.cell? ⟨bx, 0, none⟩ = some (.int .i64 a) ∧ W'.cell? ⟨bx, 1, none⟩ = some (.int .i64 n) ∧ W'.cell? ⟨m, 1, none⟩ = some (.map (some mb)) ∧ (Instr.lookup 74 (.map (some mb)) (.int .i64 a) false).run Tryz.prog W' = .ok (.pointer (some ⟨x.blk, 0, none⟩)) W') ((first | go_keep | exact HS.out _ ‹_›)) ((go_at_call 68; refine hend.out.mono ?_; rintro e w' ⟨⟨rfl, hE⟩, hT3⟩))
    all_goals (go_wp2; go_end0; exact ⟨rfl, by assumption⟩)
  · have hfo : firstOf k n = List.replicate n none := by unfold firstOf; rw [if_neg hk1]
    have hk2 : (k == 1) = false := by simpa using hk1
    clear hk1
    rw [hfo]
    clear hfo
    go_enter Tryz.func66, Tryz.ntmps66
    go_wp2_with fail
    refine hcall.out.mono ?_
    rintro e W ⟨rfl, hR, hT⟩
    have C4 : W.cell? ⟨bo, 0, none⟩ = some (.int .i64 k) := by
      rw [World.cell?_of_block (w := w) (hT.block bo (cell_lt c4) hbo)]; exact c4
    have hfin := Lib.hid (show Ends m (applyC A (.lay ⟨a, n, s, List.replicate n none⟩)) F w (.returned (.tuple #[])) W from ⟨rfl, hR, hT⟩)
    clear hR hT
    go_wp2
    go_end0
    exact hfin.out

end Go.Proofs.YtgcnbiccekaffaaGreat
