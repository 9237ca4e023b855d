/- lay: a block is live. learn: bytes are known. -/
import Derived.Test.YtgcnbiccekaffaaGreatD
import Derived.StillTailTactics
import Derived.Laws.CopyRow
namespace Go.Proofs.YtgcnbiccekaffaaGreat
open Go.RowKit Go.ChangeMaps

theorem und_cells : Tryz.prog.underlying 88 = some (.slice 92) := by kernel_rfl
theorem info_cell : (Tryz.prog.info? 92).map (fun i => (i.zero, i.size, i.bytes)) = some (some (.agg #[.int .u8 0, .bool false]), 2, 2) := by kernel_rfl

theorem madeCells_none (n : Nat) : madeCells #[.int .u8 0, .bool false] (n * 2) = (cellsV (List.replicate n none)).toArray := by
  apply Array.ext_getElem?
  intro i
  simp only [madeCells, Array.getElem?_map, List.getElem?_toArray]
  by_cases h : i < n * 2
  · rw [Array.getElem?_range, if_pos h]
    obtain ⟨q, hq, hr⟩ : ∃ q, q < n ∧ (i = 2 * q ∨ i = 2 * q + 1) := ⟨i / 2, by omega, by omega⟩
    rcases hr with rfl | rfl
    · have := cellsV_get0 (List.replicate n none) [] q (by simpa using hq)
      simp only [List.append_nil] at this
      rw [this]
      simp [cv, show 2 * q % 2 = 0 from by omega]
    · have := cellsV_get1 (List.replicate n none) [] q (by simpa using hq)
      simp only [List.append_nil] at this
      rw [this]
      simp [show (2 * q + 1) % 2 = 1 from by omega]
  · rw [Array.getElem?_range, if_neg h]
    symm
    simp only [Option.map_none, List.getElem?_eq_none_iff, cellsV_length, List.length_replicate]
    omega

def noneCells (n : Nat) : Array Value := (cellsV (List.replicate n none)).toArray

theorem run_make_cells (n : Nat) (hn : n ≤ 1048576) (w : World) :
    (Instr.makeSlice 88 (.int .i64 n) (.int .i64 n)).run Tryz.prog w = .ok (.slice (some ⟨w.heap.size, 0, none⟩) n n) (w.alloc (.cells (noneCells n) 92)) := by
  obtain ⟨i0, hi, hz0, hz1, hz2⟩ := info_parts info_cell
  have := run_make (P := Tryz.prog) w _ _ i0 _ und_cells hi hz0 .i64 .i64 n n (by omega) (by omega) (by rw [hz2]; omega) (by omega)
  rw [this, hz1]
  simp only [Int.toNat_natCast, Value.cells, madeCells_none, noneCells]

theorem cellsV_drop (cs : List (Option Int)) (k : Nat) : (cellsV cs).drop (k * 2) = cellsV (cs.drop k) := by
  by_cases h : k ≤ cs.length
  · have e : cellsV cs = cellsV (cs.take k) ++ cellsV (cs.drop k) := by rw [← cellsV_append, List.take_append_drop]
    rw [e, List.drop_append_of_le_length (by rw [cellsV_length, List.length_take]; omega), List.drop_eq_nil_of_le (by rw [cellsV_length, List.length_take]; omega), List.nil_append]
  · rw [List.drop_eq_nil_of_le (by rw [cellsV_length]; omega), List.drop_eq_nil_of_le (by omega)]
    rfl

theorem run_copy_cells (w : World) (g n sb sLen sCap : Nat) (cur src : List (Option Int)) (rest : List Value) (ty : TypeId)
    (hg : w.heap[g]? = some (.cells (cellsV cur).toArray 92)) (hc : cur.length = n) (hs : w.heap[sb]? = some (.cells (cellsV src ++ rest).toArray 92)) (hl : src.length = sLen) :
    (Builtin.copy_ #[88, 88] ty #[.slice (some ⟨g, 0, none⟩) n n, .slice (some ⟨sb, 0, none⟩) sLen sCap]).run Tryz.prog w =
      .ok (goInt (Nat.min sLen n)) (w.setRow g (cellsV (src.take n ++ cur.drop sLen)).toArray) := by
  obtain ⟨i0, hi, hz0, hz1, hz2⟩ := info_parts info_cell
  have hlen : (cellsV (src.take n)).length = Nat.min sLen n * 2 := by
    rw [cellsV_length, List.length_take, hl]
    show 2 * min n sLen = min sLen n * 2
    omega
  have hld := run_loadCells_list (P := Tryz.prog) w ⟨sb, 0, none⟩ (cellsV (src.take n)) (fun j v hj => by
    have h1 : (cellsV src ++ rest)[j]? = some v := by
      rw [← List.take_append_drop n src, cellsV_append, List.append_assoc, List.getElem?_append_left]
      · exact hj
      · exact (List.getElem?_eq_some_iff.1 hj).1
    have h2 : (⟨sb, 0, none⟩ : Addr).add j = ⟨sb, j, none⟩ := by cases j <;> simp [Addr.add]
    rw [h2, cell_of_block hs, List.getElem?_toArray]
    exact h1)
  have hst := run_storeCells_at Tryz.prog g 0 92 (cellsV (src.take n)) 0 _ w hg (by rw [hlen]; simp [cellsV_length, hc]; show min sLen n * 2 ≤ 2 * n; omega) (by
    intro v hv
    simp only [cellsV, List.mem_flatMap] at hv
    obtain ⟨c, _, hv⟩ := hv
    rw [cellV_eq] at hv
    simp at hv
    rcases hv with rfl | rfl <;> rfl)
  rw [hlen] at hld
  simp only [Builtin.copy_, List.getElem?_toArray, List.getElem?_cons_zero, List.getElem?_cons_succ, Sem.run_bind, run_underlying und_cells, Result.andThen, Builtin.lenOf, Sem.run_pure, Builtin.firstCells, sizeOf, typeInfo]
  simp [hi, hz1, hld, hst, hlen]
  rw [cellsV_drop, cellsV_append]
  have e : cur.drop (Nat.min sLen n) = cur.drop sLen := by
    by_cases h : sLen ≤ n
    · rw [show Nat.min sLen n = sLen from Nat.min_eq_left h]
    · rw [show Nat.min sLen n = n from Nat.min_eq_right (by omega), List.drop_eq_nil_of_le (by omega), List.drop_eq_nil_of_le (by omega)]
  rw [e]

theorem wpList_copy2 {P : Program} {w w' : World} {ops : Array Oper} {rest : List Oper} {o : Oper} {a : Act} {Q : Exit → Act → World → Prop} (hg : o.guard = none) (d s : Operand) (t1 t2 : TypeId)
    (hop : o.op = Op.call { callee := Callee.builtin Builtin.copy, args := #[d, s], argTypes := #[t1, t2] }) (dv sv v : Value) (hd : a.eval d = dv) (hs : a.eval s = sv)
    (hrun : (Builtin.copy_ #[t1, t2] o.type #[dv, sv]).run P w = .ok v w') (hK : wpList P ops Q rest (a.put o.dst v) w') : wpList P ops Q (o :: rest) a w := by
  refine wpList_plain hg fun K' hK' => ?_
  unfold Oper.wp
  simp [execOp, hop, resolve, invoke, builtin, hd, hs, hrun, Result.andThen]
  exact hK' _ _ hK

/-- Behind 'lay': the new block's struct and bytes, and the map with one entry more. -/
def Laid2 (mb clk : Nat) (ents : List Ent) (a s : Int) (n : Nat) (cs : List (Option Int)) (w w' : World) : Prop :=
  Turned (fun k => k = mb) w w' ∧ ∃ blk cb, w.heap.size ≤ blk ∧ w.heap.size ≤ cb ∧ blk ≠ cb ∧
    w'.heap[blk]? = some (.cells #[.int .i64 a, .int .i64 n, .int .i64 s, .slice (some ⟨cb, 0, none⟩) n n] 90) ∧
    w'.heap[cb]? = some (.cells (cellsV cs).toArray 92) ∧
    w'.heap[mb]? = some (.map (ents.map entry ++ [MapEntry.mk (.int .i64 a) (.pointer (some ⟨blk, 0, none⟩)) clk]).toArray (clk + 1))

/-- What 'copy' does, in whatever world has grown out of w: the new row g holds cs then. -/
def Copies (w : World) (n : Nat) (sv : Value) (cs : List (Option Int)) : Prop :=
  ∀ (W : World) (g : Nat), (∀ k, k < w.heap.size → W.heap[k]? = w.heap[k]?) → w.heap.size ≤ g → W.heap[g]? = some (.cells (noneCells n) 92) → ∀ ty,
    ∃ v W', (Builtin.copy_ #[88, 88] ty #[.slice (some ⟨g, 0, none⟩) n n, sv]).run Tryz.prog W = .ok v W' ∧
      Turned (fun k => k = g) W W' ∧ W'.heap.size = W.heap.size ∧ W'.heap[g]? = some (.cells (cellsV cs).toArray 92)

set_option maxRecDepth 100000 in
set_option maxHeartbeats 1000000 in
theorem lay_walk (m mb clk : Nat) (ents : List Ent) (bytes a s : Int) (n : Nat) (sp : Option Addr) (sl sc : Nat) (cs : List (Option Int)) (w : World) (hR : RepG w m bytes mb clk ents) (hn2 : n ≤ 1048576)
    (hk : ∀ x ∈ ents, x.b.at_ ≠ a) (hcp : Copies w n (.slice sp sl sc) cs) :
    Calls Tryz.prog 67 #[.pointer (some ⟨m, 0, none⟩), .agg #[.int .i64 a, .int .i64 n, .int .i64 s], .slice sp sl sc] w
      fun e w' => e = .returned (.tuple #[]) ∧ Laid2 mb clk ents a s n cs w w' := by
  have c0 := hR.cell0
  have c1 := hR.cell1
  have hm := cell_lt c0
  have hmk := fun W => run_make_cells n hn2 W
  have HK := Lib.hid hk
  clear hn2 hk
  have HC : Hid (Copies w n (.slice sp sl sc) cs) := hcp
  clear hcp
  go_enter Tryz.func67, Tryz.ntmps67
  go_wp2
  go_region
  have hsm := Lib.hid (show ∀ k, k < w.heap.size → ((((w.alloc (Obj.cells #[.int .i64 a, .int .i64 n, .int .i64 s] 73)).alloc (Obj.cells (noneCells n) 92)).alloc
        (Obj.cells #[.int .i64 a, .int .i64 n, .int .i64 s, .slice (some ⟨w.heap.size + 1, 0, none⟩) n n] 90)).drew).heap[k]? = w.heap[k]? from fun k hk => by
      show (((w.alloc _).alloc _).alloc _).heap[k]? = _
      rw [heap_alloc_old _ _ (by simp; omega), heap_alloc_old _ _ (by simp; omega), heap_alloc_old _ _ hk])
  obtain ⟨v, W', hrun, hT, hsz, hg⟩ := HC.out _ (w.heap.size + 1) hsm.out (by omega) (by
      show (((w.alloc _).alloc _).alloc _).heap[_]? = _
      rw [heap_alloc_old _ _ (by simp), show w.heap.size + 1 = (w.alloc _).heap.size from by simp, heap_alloc_new]) 3
  have hold : ∀ k, k < w.heap.size → W'.heap[k]? = w.heap[k]? := fun k hk => (hT.block k (by simp; omega) (by omega)).trans (hsm.out k hk)
  have hbox : W'.heap[w.heap.size]? = some (.cells #[.int .i64 a, .int .i64 n, .int .i64 s] 73) := by
    rw [hT.block _ (by simp; omega) (by omega)]
    show (((w.alloc _).alloc _).alloc _).heap[_]? = _
    rw [heap_alloc_old _ _ (by simp; omega), heap_alloc_old _ _ (by simp), heap_alloc_new]
  have hblk : W'.heap[w.heap.size + 1 + 1]? = some (.cells #[.int .i64 a, .int .i64 n, .int .i64 s, .slice (some ⟨w.heap.size + 1, 0, none⟩) n n] 90) := by
    rw [hT.block _ (by simp) (by omega)]
    show (((w.alloc _).alloc _).alloc _).heap[_]? = _
    rw [show w.heap.size + 1 + 1 = ((w.alloc (Obj.cells #[.int .i64 a, .int .i64 n, .int .i64 s] 73)).alloc (Obj.cells (noneCells n) 92)).heap.size from by simp, heap_alloc_new]
  have x0 : W'.cell? ⟨w.heap.size, 0, none⟩ = some (.int .i64 a) := by rw [cell_of_block hbox]; rfl
  have x1 : W'.cell? ⟨m, 1, none⟩ = some (.map (some mb)) := by rw [cell_of_block ((hold m hm).trans hR.model)]; rfl
  have hmb := lt_of_block hR.map
  have hmap : W'.heap[mb]? = some (.map (ents.map entry).toArray clk) := (hold mb hmb).trans hR.map
  have hup := fun v => run_update_new (w := W'.drew) (mb := mb) (clk := clk) (ents := ents) hmap a HK.out v
  have hfin := Lib.hid (show ∀ o, Turned (fun k => k = mb) w (ChangeMaps.setBlock W'.drew mb o) from fun o => by
    exact Turned.setBlock (F := fun k => k = mb) (Turned.mono (a := w) (b := W') (F := fun _ => False) ⟨hT.os, hT.tape, hT.output, by rw [hsz]; simp <;> omega, fun k hk _ => hold k hk⟩ (fun _ h _ => h.elim)).drew (.inl rfl) o)
  have HG := Lib.hid hg
  have HB := Lib.hid hblk
  have HS : w.heap.size + 3 ≤ W'.heap.size := by rw [hsz]; simp <;> omega
  clear hg hsz hmk c0 c1 hT hold hbox hblk hmap
  go_wp2
  clear hrun
  go_region
  go_end0
  refine ⟨rfl, hfin.out _, w.heap.size + 1 + 1, w.heap.size + 1, by omega, by omega, by omega, ?_, ?_, ?_⟩
  · rw [heap_setBlock_ne _ _ _ (by omega)]; exact HB.out
  · rw [heap_setBlock_ne _ _ _ (by omega)]; exact HG.out
  · exact heap_setBlock_eq (by show mb < W'.heap.size; omega) _


/-! ### learn -/
def learnL (cs : List (Option Int)) (from_ : Nat) (ds : List Int) : List (Option Int) := cs.take from_ ++ (ds.map some ++ cs.drop (from_ + ds.length))
theorem learnL_nil (cs : List (Option Int)) (from_ : Nat) : learnL cs from_ [] = cs := by simp [learnL]
theorem learnL_length (cs : List (Option Int)) (from_ : Nat) (ds : List Int) (h : from_ + ds.length ≤ cs.length) : (learnL cs from_ ds).length = cs.length := by
  simp [learnL]; omega
theorem learnL_snoc (cs : List (Option Int)) (from_ : Nat) (ds : List Int) (v : Int) (h : from_ + ds.length < cs.length) : (learnL cs from_ ds).set (from_ + ds.length) (some v) = learnL cs from_ (ds ++ [v]) := by
  have hl : (cs.take from_ ++ ds.map some).length = from_ + ds.length := by simp; omega
  have e1 : learnL cs from_ ds = (cs.take from_ ++ ds.map some) ++ cs.drop (from_ + ds.length) := by simp [learnL]
  have e2 : cs.drop (from_ + ds.length) = cs[from_ + ds.length] :: cs.drop (from_ + ds.length + 1) := by rw [← List.drop_eq_getElem_cons]
  rw [e1, List.set_append, if_neg (by omega), hl, Nat.sub_self, e2, List.set_cons_zero]
  simp [learnL, Nat.add_assoc]

/-- A slice of bytes, as it lies. -/
def BytesIn (w : World) (p : Option Addr) (ds : List Int) : Prop :=
  ∀ (i : Nat) (_ : i < ds.length), ∃ b o, p = some ⟨b, o, none⟩ ∧ w.cell? ⟨b, o + i, none⟩ = some (.int .u8 (ds.getD i 0))
def Apart (ds : List Int) (p : Option Addr) (F : Nat → Prop) : Prop := ds ≠ [] → ∀ b o, p = some ⟨b, o, none⟩ → ¬ F b

/-- Between two rounds of 'learn'. -/
def LearnI (w wr : World) (cb : Nat) (cs : List (Option Int)) (from_ : Nat) (ds : List Int) (rest : List Value) (k : Nat) : Prop :=
  Turned (fun j => j = cb) w wr ∧ wr.heap[cb]? = some (.cells (cellsV (learnL cs from_ (ds.take k)) ++ rest).toArray 92)

set_option maxRecDepth 100000 in
set_option maxHeartbeats 1000000 in
theorem learn_walk (blk cb cap from_ n : Nat) (cs : List (Option Int)) (ds : List Int) (rest : List Value) (p : Option Addr) (pc : Nat) (w : World)
    (c3 : w.cell? ⟨blk, 3, none⟩ = some (.slice (some ⟨cb, 0, none⟩) n cap)) (hne : blk ≠ cb) (hc : w.heap[cb]? = some (.cells (cellsV cs ++ rest).toArray 92))
    (hn : cs.length = n) (hfit : from_ + ds.length ≤ n) (hmax : n ≤ 1099511627776) (hd : BytesIn w p ds) (hap : Apart ds p (fun j => j = cb)) :
    Calls Tryz.prog 68 #[.pointer (some ⟨blk, 0, none⟩), .int .i64 from_, .slice p ds.length pc] w
      fun e w' => e = .returned (.tuple #[]) ∧ LearnI w w' cb cs from_ ds rest ds.length := by
  go_enter Tryz.func68, Tryz.ntmps68
  go_wp2
  go_loopw [10] (fun i wr => ∃ k : Nat, k ≤ ds.length ∧ i = .int .i64 k ∧ LearnI w wr cb cs from_ ds rest k) (fun i _ => ds.length - (intOf i).toNat)
  case atStart => exact ⟨0, Nat.zero_le _, rfl, Turned.refl _ _, by simpa [learnL_nil] using hc⟩
  case round =>
    obtain ⟨k, hk, rfl, hT, hcells⟩ := hrel
    by_cases hlt : k < ds.length
    · obtain ⟨db, doff, rfl, hcell⟩ := hd k hlt
      have hdb : db ≠ cb := hap (List.ne_nil_of_length_pos (by omega)) db doff rfl
      have g1 : wr.cell? ⟨db, doff + k, none⟩ = some (.int .u8 (ds.getD k 0)) := by
        rw [World.cell?_of_block (w := w) (hT.block db (cell_lt hcell) hdb)]; exact hcell
      have g2 : wr.cell? ⟨blk, 3, none⟩ = some (.slice (some ⟨cb, 0, none⟩) n cap) := by
        rw [World.cell?_of_block (w := w) (hT.block blk (cell_lt c3) hne)]; exact c3
      have hll : (learnL cs from_ (ds.take k)).length = n := by rw [learnL_length _ _ _ (by simp; omega), hn]
      have g3 : wr.cell? ⟨cb, (from_ + k) * 2, none⟩ = some (.int .u8 (cv ((learnL cs from_ (ds.take k)).getD (from_ + k) none))) := by
        rw [cell_of_block hcells, List.getElem?_toArray, Nat.mul_comm, cellsV_get0 _ _ _ (by omega), List.getD_eq_getElem?_getD, List.getElem?_eq_getElem (by omega), Option.getD_some]
      have g4 : wr.cell? ⟨cb, (from_ + k) * 2 + 1, none⟩ = some (.bool ((learnL cs from_ (ds.take k)).getD (from_ + k) none).isSome) := by
        rw [cell_of_block hcells, List.getElem?_toArray, Nat.mul_comm, cellsV_get1 _ _ _ (by omega), List.getD_eq_getElem?_getD, List.getElem?_eq_getElem (by omega), Option.getD_some]
      have g5 : wr.frozen? ⟨cb, (from_ + k) * 2, none⟩ = false := frozen_of_block hcells _
      have g6 : wr.frozen? ⟨cb, (from_ + k) * 2 + 1, none⟩ = false := frozen_of_block hcells _
      have hnext := Lib.hid (show LearnI w ((wr.setCell ⟨cb, (from_ + k) * 2, none⟩ (.int .u8 (ds.getD k 0))).setCell ⟨cb, (from_ + k) * 2 + 1, none⟩ (.bool true)) cb cs from_ ds rest (k + 1) from by
        refine ⟨(hT.setCell (.inl rfl) _).setCell (.inl rfl) _, ?_⟩
        rw [heap_setCell_eq (heap_setCell_eq hcells _) _]
        have e1 : ds.take (k + 1) = ds.take k ++ [ds.getD k 0] := by
          rw [List.take_succ_eq_append_getElem hlt, List.getD_eq_getElem?_getD, List.getElem?_eq_getElem hlt, Option.getD_some]
        have e2 := learnL_snoc cs from_ (ds.take k) (ds.getD k 0) (by simp; omega)
        have e3 : (ds.take k).length = k := by simp; omega
        rw [e3] at e2
        rw [e1, ← e2, ← cellsV_set _ _ _ _ (by omega)]
        simp [Nat.mul_comm])
      clear hd hap hc hcells hll c3 hcell
      generalize ds.getD k 0 = v at *
      generalize (learnL cs from_ (ds.take k)).getD (from_ + k) none = u at *
      go_wp2
      go_roundw
      case rel => exact ⟨k + 1, by omega, by go_num, hnext.out⟩
      case measure => simp [intOf]; omega
    · obtain rfl : k = ds.length := by omega
      clear hc
      have HL := Lib.hid (show LearnI w wr cb cs from_ ds rest ds.length from ⟨hT, hcells⟩)
      clear hcells
      go_wp2
      go_end0
      exact ⟨rfl, HL.out⟩

end Go.Proofs.YtgcnbiccekaffaaGreat
