/- slices.Clone at cells; Clone. -/
import Derived.Test.YtgcnbiccekaffaaGreatQ
namespace Go.Proofs.YtgcnbiccekaffaaGreat
open Go.RowKit Go.ChangeMaps

theorem info_cells : (Tryz.prog.info? 92).map (fun i => (i.zero, i.size, i.bytes)) = some (some (.agg #[.int .u8 0, .bool false]), 2, 2) := by kernel_rfl

theorem cellsV_one (cs : List (Option Int)) : ∀ u ∈ cellsV cs, u.oneCell' = true := by
  intro u hu
  simp only [cellsV, List.mem_flatMap] at hu
  obtain ⟨c, _, hc⟩ := hu
  rw [cellV_eq] at hc
  simp at hc
  rcases hc with rfl | rfl <;> rfl

/-- A copy of a block's bytes. -/
def Copied (n : Nat) (cs : List (Option Int)) (w : World) (e : Ending) (w' : World) : Prop :=
  ∃ g cap, e = .returned (.slice (some ⟨g, 0, none⟩) n cap) ∧ w.heap.size ≤ g ∧ (∃ rest, w'.heap[g]? = some (.cells (cellsV cs ++ rest).toArray 92)) ∧ Below w.heap.size w w'

set_option maxRecDepth 100000 in
set_option maxHeartbeats 4000000 in
theorem clone_cells {w : World} {x : Ent} (hx : EntAt w x) (h1 : 1 ≤ x.b.n) (h2 : x.b.n ≤ 1048576) :
    Calls Tryz.prog 34 #[.slice (some ⟨x.cb, 0, none⟩) x.b.n x.cap] w (Copied x.b.n x.b.cells w) := by
  obtain ⟨_, hl, rest, hr⟩ := hx
  obtain ⟨i0, hi, hz0, hz1, hz2⟩ := info_parts info_cells
  have qT : ∀ (w : World) (a : Option Addr) (n c n' c' : Nat), (binOp .eql 88 (.slice a n c) (.slice none n' c')).run Tryz.prog w = .ok (.bool a.isNone) w := fun w a n c n' c' => Lib.run_eql_slice_nil w _ _ a n c n' c' Tryz.underlying88
  have hlc := lt_of_block hr
  have hnew : ∀ (j : Nat) (u : Value), (cellsV x.b.cells)[j]? = some u → (w.alloc (.cells #[] 92)).cell? ((⟨x.cb, 0, none⟩ : Addr).add j) = some u := fun j u hj => by
    have ea : (⟨x.cb, 0, none⟩ : Addr).add j = ⟨x.cb, j, none⟩ := by simp [Addr.add]; intro h; exact h.symm
    rw [ea, World.cell?_alloc_past _ _ _ hlc, cell_of_block hr, List.getElem?_toArray, List.getElem?_append_left (List.getElem?_eq_some_iff.1 hj).1]
    exact hj
  have hlen : (cellsV x.b.cells).length = x.b.n * 2 := by rw [cellsV_length, hl]; omega
  have hmade : (w.alloc (.cells #[] 92)).ownsRow w.heap.size 92 2 (.slice (some ⟨w.heap.size, 0, none⟩) 0 0) 0 [] := World.ownsRow_made _ _ _ (Nat.le_refl _) (Nat.zero_le _) rfl
  have hone := cellsV_one x.b.cells
  have hbig : 0 + x.b.n ≤ maxLen := by unfold maxLen; omega
  have hby : (0 + x.b.n) * 2 ≤ 140737488355328 := by omega
  have HM := Lib.hid hmade
  have HN := Lib.hid hnew
  have HL := Lib.hid hlen
  clear hnew hmade hlen hr
  go_enter Tryz.func34, Tryz.ntmps34
  go_wp2_with (at_builtin; go_loud (refine wpList_append_own _ rfl _ _ 88 rfl w.heap.size 92 i0 (.agg #[.int .u8 0, .bool false]) 2 2 Tryz.underlying88 hi hz0 hz1 hz2 rfl (by decide) _ 0 [] rfl HM.out ⟨x.cb, 0, none⟩ x.b.n x.cap (cellsV x.b.cells) rfl HL.out HN.out hone hbig hby (by simp) ?_); intro v' w3 hown' hgrow3 hnil3)
  go_ret
  simp only [List.nil_append, Nat.zero_add] at hown'
  rcases hown'.2 with ⟨rfl, h0⟩ | ⟨g, cap, cur, rfl, hb, hg, r1, r2, r3, r4⟩
  · omega
  · refine ⟨g, cap, rfl, hb, ⟨cur.toList.drop (x.b.n * 2), ?_⟩, Below.grown ((Below.refl _ w).alloc (Nat.le_refl _) _) hgrow3 (by simp) (fun j e => ?_)⟩
    · rw [hg, ← r4, List.take_append_drop, Array.toArray_toList]
    · have e' : some w.heap.size = some j := e
      have e'' := Option.some.inj e'
      omega

theorem cell?_setBlock_ne (w : World) (r : Nat) (o : Obj) {b i : Nat} (h : b ≠ r) : (ChangeMaps.setBlock w r o).cell? ⟨b, i, none⟩ = w.cell? ⟨b, i, none⟩ := by
  unfold World.cell?
  simp only [heap_setBlock_ne w r o h]

/-- What a round of Clone reads, in whatever world it is kept. -/
theorem clone_keep {w2 : World} {c xb r : Nat} {v0 v1 v2 v3 v4 : Value} (hc : c ≠ r) (hx : xb ≠ r) (h0 : w2.cell? ⟨c, 1, none⟩ = some v0) (h1 : w2.cell? ⟨xb, 0, none⟩ = some v1) (h2 : w2.cell? ⟨xb, 1, none⟩ = some v2) (h3 : w2.cell? ⟨xb, 2, none⟩ = some v3) (h4 : w2.cell? ⟨xb, 3, none⟩ = some v4) (o o' : Obj) :
    (ChangeMaps.setBlock (w2.alloc o) r o').cell? ⟨c, 1, none⟩ = some v0 ∧ (ChangeMaps.setBlock (w2.alloc o) r o').cell? ⟨xb, 0, none⟩ = some v1 ∧ (ChangeMaps.setBlock (w2.alloc o) r o').cell? ⟨xb, 1, none⟩ = some v2 ∧ (ChangeMaps.setBlock (w2.alloc o) r o').cell? ⟨xb, 2, none⟩ = some v3 ∧ (ChangeMaps.setBlock (w2.alloc o) r o').cell? ⟨xb, 3, none⟩ = some v4 := by
  have l0 := cell_lt h0
  have l1 := cell_lt h1
  simp only [cell?_setBlock_ne _ _ _ hc, cell?_setBlock_ne _ _ _ hx, World.cell?_alloc_past _ _ _ l0, World.cell?_alloc_past _ _ _ l1, h0, h1, h2, h3, h4, and_self]

/-- An entry more. -/
theorem RepG.put {w w' : World} {m : Nat} {bytes : Int} {mb clk : Nat} {ents : List Ent} (g : RepG w m bytes mb clk ents) (hold : ∀ k ∈ foot m mb ents, k ≠ mb → w'.heap[k]? = w.heap[k]?) {y : Ent} (hb : y.born = clk)
    (hmap : w'.heap[mb]? = some (.map (ents.map entry ++ [entry y]).toArray (clk + 1))) (hy : EntAt w' y) (hne : y.blk ≠ y.cb) (h1 : y.blk ∉ foot m mb ents) (h2 : y.cb ∉ foot m mb ents) : RepG w' m bytes mb (clk + 1) (ents ++ [y]) := by
  refine ⟨?_, ?_, ?_, ?_, ?_, ?_⟩
  · rw [hold m (by simp [foot]) g.m_ne]; exact g.model
  · rw [hmap]; simp
  · intro x hx
    rcases List.mem_append.1 hx with hx | hx
    · have ha := g.apart hx
      exact (g.each x hx).same (hold _ (foot_blk hx) ha.2.2.1) (hold _ (foot_cb hx) ha.2.2.2.2.1)
    · obtain rfl := List.mem_singleton.1 hx
      exact hy
  · rw [foot_append, List.nodup_append]
    refine ⟨g.nodup, by simp [hne], ?_⟩
    intro k hk j hj
    simp at hj
    rcases hj with rfl | rfl
    · exact fun e => h1 (e ▸ hk)
    · exact fun e => h2 (e ▸ hk)
  · rw [List.map_append, List.nodup_append]
    refine ⟨g.born, by simp, ?_⟩
    intro k hk j hj
    obtain ⟨x, hx, rfl⟩ := List.mem_map.1 hk
    have := g.old x hx
    simp at hj
    omega
  · intro x hx
    rcases List.mem_append.1 hx with hx | hx
    · have := g.old x hx; omega
    · obtain rfl := List.mem_singleton.1 hx; omega

/-- Between two rounds of Clone: w when it was called. -/
def CloneI (w wr : World) (r mb mc mb2 : Nat) (bytes : Int) (ents : List Ent) : Prop :=
  ∃ left done es clk2, Iter wr r mb left ∧ ents.Perm (done ++ left) ∧ RepG wr mc bytes mb2 clk2 es ∧ es.map Ent.b = done.map Ent.b ∧ (∀ k ∈ foot mc mb2 es, w.heap.size ≤ k ∧ k ≠ r) ∧ Below w.heap.size w wr

def ClonePost (w : World) (A : AM) (e : Ending) (w' : World) : Prop :=
  ∃ mc, e = .returned (.pointer (some ⟨mc, 0, none⟩)) ∧ Rep w' mc A (fun k => w.heap.size ≤ k) ∧ Below w.heap.size w w'

set_option maxRecDepth 100000 in
set_option maxHeartbeats 4000000 in
theorem clone_any {w : World} {m : Nat} {A : AM} {F : Nat → Prop} (h : Rep w m A F) (hI : Inv A) :
    Calls Tryz.prog 20 #[.pointer (some ⟨m, 0, none⟩)] w (ClonePost w A) := by
  obtain ⟨mb, clk, ents, g, p, f⟩ := h
  have hmm := @run_makeMap Tryz.prog
  have c0 := g.cell0
  have c1 := g.cell1
  have hm := cell_lt c0
  have hmb := lt_of_block g.map
  have G := Lib.hid g
  have P := Lib.hid p
  have H := Lib.hid hI
  clear f g p hI
  go_enter Tryz.func20, Tryz.ntmps20
  have hR1 := Lib.hid (G.out.below (W := (w.alloc (.map #[] 0)).alloc (.cells #[.int .i64 A.bytes, .map (some w.heap.size)] 76)) (by repeat (first | exact Below.refl _ _ | assumption | refine Below.alloc ?_ (by first | omega | (simp <;> omega)) _ | refine Below.drew ?_ | refine Below.setCell ?_ (by first | omega | (simp <;> omega)) _ | refine Below.via (by assumption) (by first | omega | (simp <;> omega)) ?_)))
  go_wp2_with (at_range; refine wpList_range_ents rfl _ rfl rfl hR1.out.map hR1.out.born hR1.out.old ?_; intro hit)
  try go_frame
  obtain ⟨W0, hW0⟩ : ∃ W0, W0 = (w.alloc (.map #[] 0)).alloc (.cells #[.int .i64 A.bytes, .map (some w.heap.size)] 76) := ⟨_, rfl⟩
  have hbW : Below w.heap.size w W0 := by rw [hW0]; exact (by repeat (first | exact Below.refl _ _ | assumption | refine Below.alloc ?_ (by first | omega | (simp <;> omega)) _ | refine Below.drew ?_ | refine Below.setCell ?_ (by first | omega | (simp <;> omega)) _ | refine Below.via (by assumption) (by first | omega | (simp <;> omega)) ?_))
  have hsW : W0.heap.size = w.heap.size + 2 := by rw [hW0]; simp
  have hg0 : RepG W0 (w.heap.size + 1) A.bytes w.heap.size 0 [] := by
    refine ⟨?_, ?_, fun _ h => (by cases h), by simp [foot], by simp, fun _ h => (by cases h)⟩
    · rw [hW0, show w.heap.size + 1 = (w.alloc (.map #[] 0)).heap.size from by simp, heap_alloc_new]
    · rw [hW0, heap_alloc_old _ _ (by simp), heap_alloc_new]; rfl
  rw [← hW0] at hR1 hit ⊢
  clear hW0
  have HSW := Lib.hid hsW
  have hsW2 : w.heap.size + 1 < W0.heap.size := by omega
  clear hsW
  go_loopw [] (fun wr => CloneI w wr W0.heap.size mb (w.heap.size + 1) w.heap.size A.bytes ents) (fun wr => leftN wr W0.heap.size mb)
  case atStart =>
    refine ⟨ents, [], [], 0, hit, List.Perm.refl _, hg0.below ((Below.refl _ _).alloc (Nat.le_refl _) _), rfl, fun k hk => ?_, hbW.alloc (by omega) _⟩
    simp [foot] at hk
    omega
  case round =>
    obtain ⟨left, done, es, clk2, hi, hp, hg, he, hf, hbl⟩ := hrel
    have HLEN := Lib.hid hi.leftN
    have HP := Lib.hid hp
    have HE := Lib.hid he
    have HG := Lib.hid hg
    have HF := Lib.hid hf
    clear hp he hg hf
    go_wp2_with (at_next; refine wpList_next_ents rfl _ rfl rfl hi ?_ ?_)
    · intro hl
      subst hl
      have hd := HP.out
      rw [List.append_nil] at hd
      have hfin : Rep wr (w.heap.size + 1) A (fun k => w.heap.size ≤ k) := ⟨_, _, _, HG.out, (by rw [HE.out]; exact (hd.map Ent.b).symm.trans P.out), fun k hk => (HF.out k hk).1⟩
      have HX := Lib.hid hfin
      clear hfin hd
      go_wp2
      go_ret
      exact ⟨_, rfl, HX.out, hbl⟩
    · rintro x left' w' hp' hi' ht hs hen
      have hxm : x ∈ ents := HP.out.mem_iff.2 (List.mem_append.2 (.inr (hp'.mem_iff.2 (List.mem_cons_self))))
      have hbl' : Below w.heap.size w w' := hbl.trans (ht.below (by rintro _ rfl; omega) (by have := hi.lt.1; omega))
      have hx : EntAt w' x := (G.out.each x hxm).same (hbl'.block _ (G.out.lt _ (foot_blk hxm))) (hbl'.block _ (G.out.lt _ (foot_cb hxm)))
      have hg' : RepG w' (w.heap.size + 1) A.bytes w.heap.size clk2 es := HG.out.same (fun k hk => ht.block k (HG.out.lt k hk) (HF.out k hk).2)
      have x0 : w'.cell? ⟨x.blk, 0, none⟩ = some (.int .i64 x.b.at_) := by rw [cell_of_block hx.1]; rfl
      have x1 : w'.cell? ⟨x.blk, 1, none⟩ = some (.int .i64 x.b.n) := by rw [cell_of_block hx.1]; rfl
      have x2 : w'.cell? ⟨x.blk, 2, none⟩ = some (.int .i64 x.b.size) := by rw [cell_of_block hx.1]; rfl
      have x3 : w'.cell? ⟨x.blk, 3, none⟩ = some (.slice (some ⟨x.cb, 0, none⟩) x.b.n x.cap) := by rw [cell_of_block hx.1]; rfl
      have m1 := hg'.cell1
      have hlo := H.out.lo x.b (P.out.mem_iff.1 (List.mem_map.2 ⟨x, hxm, rfl⟩))
      have hb1 := H.out.b1
      have hcl := Lib.hid (fun W (hW : EntAt W x) => clone_cells hW (by omega) (by omega))
      have lx := lt_of_block hx.1
      have lmc : w.heap.size + 1 < w'.heap.size := lt_of_block hg'.model
      have lmb : w.heap.size < w'.heap.size := lt_of_block hg'.map
      have hxo : x.blk < w.heap.size := G.out.lt _ (foot_blk hxm)
      have hkeys : ∀ y ∈ es, y.b.at_ ≠ x.b.at_ := by
        have h1 : ((ents.map Ent.b).map (·.at_)).Nodup := ((P.out.map _).nodup_iff).2 H.out.keys
        have h2 := ((HP.out.map Ent.b).trans (((hp'.append_left done).map Ent.b)))
        have h3 := ((h2.map (·.at_)).nodup_iff).1 h1
        simp only [List.map_append, List.map_cons] at h3
        intro y hy e
        have h4 : y.b ∈ done.map Ent.b := by rw [← HE.out]; exact List.mem_map.2 ⟨y, hy, rfl⟩
        have h5 := (List.nodup_append.1 h3).2.2 _ (List.mem_map.2 ⟨_, h4, rfl⟩) x.b.at_ (by simp)
        exact h5 e
      have HK := Lib.hid hkeys
      have HX := Lib.hid hx
      have HG' := Lib.hid hg'
      have HBL := Lib.hid hbl'
      have HP' := Lib.hid hp'
      clear hkeys hx hg' hbl hbl' hlo ht HG
      go_wp2
      go_region_held3 (fun W : World => W.cell? ⟨w.heap.size + 1, 1, none⟩ = some (.map (some w.heap.size)) ∧ W.cell? ⟨x.blk, 0, none⟩ = some (.int .i64 x.b.at_) ∧ W.cell? ⟨x.blk, 1, none⟩ = some (.int .i64 x.b.n) ∧ W.cell? ⟨x.blk, 2, none⟩ = some (.int .i64 x.b.size) ∧ W.cell? ⟨x.blk, 3, none⟩ = some (.slice (some ⟨x.cb, 0, none⟩) x.b.n x.cap)) ((first | go_keep | exact HS2.out _ _))
        ((go_at_call 34; refine (hcl.out w'.drew HX.out).mono ?_; rintro e w2 ⟨g2, cap2, rfl, hg2, hrow2, hb2⟩; have k0 := cell_past hb2 lmc m1; have k1 := cell_past hb2 lx x0; have k2 := cell_past hb2 lx x1; have k3 := cell_past hb2 lx x2; have k4 := cell_past hb2 lx x3; have hz2 : w'.heap.size ≤ w2.heap.size := hb2.size; have lw2 : w.heap.size + 1 < w2.heap.size := (by omega); have lx2 : x.blk < w2.heap.size := (by omega); have HS2 := Lib.hid (fun o o' => clone_keep (r := w.heap.size) (by omega) (by omega) k0 k1 k2 k3 k4 o o');
          have hup2 := (fun (v : Value) (o : Obj) => run_update_new (w := w2.alloc o) (mb := w.heap.size) (clk := clk2) (ents := es) ((heap_alloc_old _ _ (by omega)).trans ((hb2.block _ lmb).trans HG'.out.map)) x.b.at_ HK.out v)))
      have hlen' := HP'.out
      go_roundw
      case rel =>
        have hW0 := HSW.out
        have hr0 := hi'.lt
        have hz2 : w'.heap.size ≤ w2.heap.size := hb2.size
        have hg2' : w'.heap.size ≤ g2 := hg2
        have hold : ∀ (o o' : Obj) (k : Nat), k < w'.heap.size → k ≠ w.heap.size → (ChangeMaps.setBlock (w2.alloc o) w.heap.size o').heap[k]? = w'.heap[k]? := fun o o' k hk hne => by
          rw [heap_setBlock_ne _ _ _ hne, heap_alloc_old _ _ (by omega)]
          exact hb2.block k hk
        refine ⟨_, _, _, _, _, _, _, _, _, _, _, _, _, _, _, _, _, _, _, _, _, _, _, ⟨left', done ++ [x], es ++ [⟨w2.heap.size, g2, cap2, clk2, x.b⟩], clk2 + 1, hi'.same (hold _ _ _ hr0.2 (by omega)) (hold _ _ _ hr0.1 (by omega)), ?_, ?_, ?_, ?_, ?_⟩, rfl⟩
        · refine HP.out.trans ?_
          rw [List.append_assoc]
          exact hlen'.append_left done
        · have hnf : ∀ k, w'.heap.size ≤ k → k ∉ foot (w.heap.size + 1) w.heap.size es := fun k hk h => by have := HG'.out.lt k h; omega
          obtain ⟨rest, hrow⟩ := hrow2
          have hgl := lt_of_block hrow
          refine HG'.out.put (fun k hk hne => hold _ _ k (HG'.out.lt k hk) hne) rfl (heap_setBlock_eq (by simp; omega) _) ⟨?_, HX.out.2.1, rest, ?_⟩ (by show w2.heap.size ≠ g2; omega) (hnf _ (by show _ ≤ w2.heap.size; omega)) (hnf _ hg2')
          · show (ChangeMaps.setBlock _ _ _).heap[w2.heap.size]? = _
            rw [heap_setBlock_ne _ _ _ (by omega), heap_alloc_new]
          · show (ChangeMaps.setBlock _ _ _).heap[g2]? = _
            rw [heap_setBlock_ne _ _ _ (by omega), heap_alloc_old _ _ hgl]
            exact hrow
        · rw [List.map_append, List.map_append, HE.out]; rfl
        · intro k hk
          rw [foot_append, List.mem_append] at hk
          rcases hk with hk | hk
          · exact HF.out k hk
          · simp at hk
            omega
        · have h1 : Below w.heap.size w w2 := HBL.out.trans ((Below.drew (Below.refl _ w')).trans (hb2.mono (by show _ ≤ w'.heap.size; omega)))
          have h2 := h1.alloc (by omega) (.cells #[.int .i64 x.b.at_, .int .i64 x.b.n, .int .i64 x.b.size, .slice (some ⟨g2, 0, none⟩) x.b.n cap2] 90)
          refine ⟨h2.os, h2.tape, h2.output, by simpa [ChangeMaps.setBlock] using h2.size, fun k hk => ?_⟩
          rw [heap_setBlock_ne _ _ _ (by omega)]
          exact h2.block k hk
      case measure =>
        have hW0 := HSW.out
        have hr0 := hi'.lt
        have hz2 : w'.heap.size ≤ w2.heap.size := hb2.size
        have hold : ∀ (o o' : Obj) (k : Nat), k < w'.heap.size → k ≠ w.heap.size → (ChangeMaps.setBlock (w2.alloc o) w.heap.size o').heap[k]? = w'.heap[k]? := fun o o' k hk hne => by
          rw [heap_setBlock_ne _ _ _ hne, heap_alloc_old _ _ (by omega)]
          exact hb2.block k hk
        have hn := (hi'.same (hold _ _ _ hr0.2 (by omega)) (hold (.cells #[.int .i64 x.b.at_, .int .i64 x.b.n, .int .i64 x.b.size, .slice (some ⟨g2, 0, none⟩) x.b.n cap2] 90) (.map (es.map entry ++ [MapEntry.mk (.int .i64 x.b.at_) (.pointer (some ⟨w2.heap.size, 0, none⟩)) clk2]).toArray (clk2 + 1)) _ hr0.1 (by omega))).leftN
        rw [HLEN.out, HP'.out.length_eq]
        refine Nat.lt_of_le_of_lt (Nat.le_of_eq hn) ?_
        simp

end Go.Proofs.YtgcnbiccekaffaaGreat
