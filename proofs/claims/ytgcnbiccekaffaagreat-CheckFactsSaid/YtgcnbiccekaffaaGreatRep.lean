/- How a model lies in memory; what turns and what stays. -/
import Derived.Test.YtgcnbiccekaffaaGreatB
import Derived.Maps.RangeRun
namespace Go.Proofs.YtgcnbiccekaffaaGreat
open Go.RowKit Go.ChangeMaps

/-! ### what turns -/
structure Turned (F : Nat → Prop) (w w' : World) : Prop where
  os : w'.os = w.os
  tape : w'.tape = w.tape
  output : w'.output = w.output
  size : w.heap.size ≤ w'.heap.size
  block : ∀ k, k < w.heap.size → ¬ F k → w'.heap[k]? = w.heap[k]?

theorem Turned.refl (F : Nat → Prop) (w : World) : Turned F w w := ⟨rfl, rfl, rfl, Nat.le_refl _, fun _ _ _ => rfl⟩
theorem Turned.trans {F G : Nat → Prop} {a b c : World} (h : Turned F a b) (k : Turned G b c) (hg : ∀ x, G x → x < a.heap.size → F x) : Turned F a c :=
  ⟨k.os.trans h.os, k.tape.trans h.tape, k.output.trans h.output, Nat.le_trans h.size k.size,
    fun x hx hf => (k.block x (Nat.lt_of_lt_of_le hx h.size) (fun hh => hf (hg x hh hx))).trans (h.block x hx hf)⟩
theorem Turned.mono {F G : Nat → Prop} {a b : World} (h : Turned F a b) (hg : ∀ x, F x → x < a.heap.size → G x) : Turned G a b :=
  ⟨h.os, h.tape, h.output, h.size, fun x hx hf => h.block x hx (fun hh => hf (hg x hh hx))⟩
theorem Turned.of_below {F : Nat → Prop} {B : Nat} {a b : World} (h : Below B a b) (hB : a.heap.size ≤ B) : Turned F a b :=
  ⟨h.os, h.tape, h.output, h.size, fun x hx _ => h.block x (by omega)⟩
theorem Turned.below {F : Nat → Prop} {a b : World} (h : Turned F a b) {B : Nat} (hF : ∀ x, F x → B ≤ x) (hB : B ≤ a.heap.size) : Below B a b :=
  ⟨h.os, h.tape, h.output, h.size, fun x hx => h.block x (by omega) (fun hh => by have := hF x hh; omega)⟩
theorem Turned.setCell {F : Nat → Prop} {a w : World} (h : Turned F a w) {p : Addr} (hp : F p.block ∨ a.heap.size ≤ p.block) (u : Value) : Turned F a (w.setCell p u) := by
  refine h.trans (G := fun x => x = p.block) ⟨rfl, rfl, rfl, by simp [World.setCell], fun k _ hk => Below.heap_setCell _ _ _ _ hk⟩ ?_
  rintro x rfl hx
  rcases hp with hp | hp
  · exact hp
  · omega
theorem Turned.alloc {F : Nat → Prop} {a w : World} (h : Turned F a w) (o : Obj) : Turned F a (w.alloc o) :=
  h.trans (G := fun _ => False) (Turned.of_below ((Below.refl w.heap.size w).alloc (Nat.le_refl _) o) (Nat.le_refl _)) (fun _ hh _ => hh.elim)
theorem Turned.drew {F : Nat → Prop} {a w : World} (h : Turned F a w) : Turned F a w.drew := ⟨h.os, h.tape, h.output, h.size, h.block⟩
theorem heap_setBlock_ne (w : World) (r : Nat) (o : Obj) {k : Nat} (h : k ≠ r) : (setBlock w r o).heap[k]? = w.heap[k]? := by
  simp only [setBlock]
  rw [Array.getElem?_setIfInBounds_ne (Ne.symm h)]
theorem heap_setBlock_eq {w : World} {r : Nat} (h : r < w.heap.size) (o : Obj) : (setBlock w r o).heap[r]? = some o := by
  simp [setBlock, h]
theorem size_setBlock (w : World) (r : Nat) (o : Obj) : (setBlock w r o).heap.size = w.heap.size := by simp [setBlock]
theorem Turned.setBlock {F : Nat → Prop} {a w : World} (h : Turned F a w) {r : Nat} (hp : F r ∨ a.heap.size ≤ r) (o : Obj) : Turned F a (setBlock w r o) := by
  refine h.trans (G := fun x => x = r) ⟨rfl, rfl, rfl, by simp [ChangeMaps.setBlock], fun k _ hk => heap_setBlock_ne _ _ _ hk⟩ ?_
  rintro x rfl hx
  rcases hp with hp | hp
  · exact hp
  · omega

theorem lt_of_block {w : World} {k : Nat} {o : Obj} (h : w.heap[k]? = some o) : k < w.heap.size := (Array.getElem?_eq_some_iff.1 h).1

theorem cell_of_block {w : World} {b : Nat} {c : Array Value} {e : TypeId} {f : Nat × Nat} (h : w.heap[b]? = some (.cells c e f)) (i : Nat) : w.cell? ⟨b, i, none⟩ = c[i]? := by
  simp [World.cell?, h]
theorem frozen_of_block {w : World} {b : Nat} {c : Array Value} {e : TypeId} (h : w.heap[b]? = some (.cells c e (0, 0))) (i : Nat) : w.frozen? ⟨b, i, none⟩ = false := by
  simp [World.frozen?, h]
theorem heap_setCell_eq {w : World} {b i : Nat} {c : Array Value} {e : TypeId} {f : Nat × Nat} (h : w.heap[b]? = some (.cells c e f)) (v : Value) :
    (w.setCell ⟨b, i, none⟩ v).heap[b]? = some (.cells (c.setIfInBounds i v) e f) := by
  simp [World.setCell, Array.getElem?_modify, h]

/-! ### a model in memory -/
/-- A live block: where it is, how great, what was asked for, and what is known of its bytes. -/
structure Blk where
  at_ : Int
  n : Nat
  size : Int
  cells : List (Option Int)

/-- A live block in memory: its struct's block, its bytes' block and their room, and its stamp in the map. -/
structure Ent where
  blk : Nat
  cb : Nat
  cap : Nat
  born : Nat
  b : Blk

def cellV : Option Int → List Value
  | none => [.int .u8 0, .bool false]
  | some v => [.int .u8 v, .bool true]
def cellsV (cs : List (Option Int)) : List Value := cs.flatMap cellV

theorem cellV_length (c : Option Int) : (cellV c).length = 2 := by cases c <;> rfl
theorem cellsV_length (cs : List (Option Int)) : (cellsV cs).length = 2 * cs.length := by
  induction cs with
  | nil => rfl
  | cons c cs ih => simp only [cellsV, List.flatMap_cons, List.length_append, cellV_length, List.length_cons] at *; omega
theorem cellsV_append (a b : List (Option Int)) : cellsV (a ++ b) = cellsV a ++ cellsV b := by simp [cellsV]
def cv : Option Int → Int | none => 0 | some v => v
theorem cellV_eq (c : Option Int) : cellV c = [.int .u8 (cv c), .bool c.isSome] := by cases c <;> rfl
theorem cellsV_split (cs : List (Option Int)) (i : Nat) (h : i < cs.length) : cellsV cs = cellsV (cs.take i) ++ (cellV cs[i] ++ cellsV (cs.drop (i + 1))) := by
  have e : cs = cs.take i ++ (cs[i] :: cs.drop (i + 1)) := by simp
  rw [show cellsV cs = cellsV (cs.take i ++ (cs[i] :: cs.drop (i + 1))) from by rw [← e], cellsV_append]
  rfl
theorem cellsV_get0 (cs : List (Option Int)) (rest : List Value) (i : Nat) (h : i < cs.length) : (cellsV cs ++ rest)[2 * i]? = some (.int .u8 (cv cs[i])) := by
  rw [cellsV_split cs i h, cellV_eq, List.append_assoc, List.getElem?_append_right (by rw [cellsV_length, List.length_take]; omega), cellsV_length, List.length_take]
  rw [show 2 * i - 2 * min i cs.length = 0 from by omega]
  rfl
theorem cellsV_get1 (cs : List (Option Int)) (rest : List Value) (i : Nat) (h : i < cs.length) : (cellsV cs ++ rest)[2 * i + 1]? = some (.bool cs[i].isSome) := by
  rw [cellsV_split cs i h, cellV_eq, List.append_assoc, List.getElem?_append_right (by rw [cellsV_length, List.length_take]; omega), cellsV_length, List.length_take]
  rw [show 2 * i + 1 - 2 * min i cs.length = 1 from by omega]
  rfl
/-- A byte is known now. -/
theorem cellsV_set (cs : List (Option Int)) (rest : List Value) (i : Nat) (v : Int) (h : i < cs.length) :
    ((cellsV cs ++ rest).set (2 * i) (.int .u8 v)).set (2 * i + 1) (.bool true) = cellsV (cs.set i (some v)) ++ rest := by
  apply List.ext_getElem?
  intro j
  have hl : (cs.set i (some v)).length = cs.length := by simp
  have hl2 := cellsV_length cs
  have hl3 := cellsV_length (cs.set i (some v))
  by_cases hj : j < 2 * cs.length
  · obtain ⟨q, hq, hr⟩ : ∃ q, q < cs.length ∧ (j = 2 * q ∨ j = 2 * q + 1) := ⟨j / 2, by omega, by omega⟩
    rcases hr with rfl | rfl
    · rw [cellsV_get0 _ _ q (by omega)]
      by_cases e : q = i
      · subst e
        rw [List.getElem?_set_ne (by omega), List.getElem?_set_self (by simp; omega)]
        simp [cv]
      · rw [List.getElem?_set_ne (by omega), List.getElem?_set_ne (by omega), cellsV_get0 _ _ q hq]
        rw [List.getElem_set_ne (Ne.symm e)]
    · rw [cellsV_get1 _ _ q (by omega)]
      by_cases e : q = i
      · subst e
        rw [List.getElem?_set_self (by simp; omega)]
        simp
      · rw [List.getElem?_set_ne (by omega), List.getElem?_set_ne (by omega), cellsV_get1 _ _ q hq]
        rw [List.getElem_set_ne (Ne.symm e)]
  · rw [List.getElem?_set_ne (by omega), List.getElem?_set_ne (by omega), List.getElem?_append_right (by omega), List.getElem?_append_right (by omega), hl2, hl3, hl]

def EntAt (w : World) (x : Ent) : Prop :=
  w.heap[x.blk]? = some (.cells #[.int .i64 x.b.at_, .int .i64 x.b.n, .int .i64 x.b.size, .slice (some ⟨x.cb, 0, none⟩) x.b.n x.cap] 90) ∧
    x.b.cells.length = x.b.n ∧ ∃ rest, w.heap[x.cb]? = some (.cells (cellsV x.b.cells ++ rest).toArray 92)

def entry (x : Ent) : MapEntry := { key := .int .i64 x.b.at_, val := .pointer (some ⟨x.blk, 0, none⟩), born := x.born }

def foot (m mb : Nat) (ents : List Ent) : List Nat := m :: mb :: ents.flatMap fun x => [x.blk, x.cb]

structure RepG (w : World) (m : Nat) (bytes : Int) (mb clk : Nat) (ents : List Ent) : Prop where
  model : w.heap[m]? = some (.cells #[.int .i64 bytes, .map (some mb)] 76)
  map : w.heap[mb]? = some (.map (ents.map entry).toArray clk)
  each : ∀ x ∈ ents, EntAt w x
  nodup : (foot m mb ents).Nodup
  born : (ents.map (·.born)).Nodup
  old : ∀ x ∈ ents, x.born < clk

theorem RepG.lt {w : World} {m : Nat} {bytes : Int} {mb clk : Nat} {ents : List Ent} (h : RepG w m bytes mb clk ents) : ∀ k ∈ foot m mb ents, k < w.heap.size := by
  intro k hk
  simp only [foot, List.mem_cons, List.mem_flatMap, List.not_mem_nil, or_false] at hk
  rcases hk with rfl | rfl | ⟨x, hx, rfl | rfl⟩
  · exact lt_of_block h.model
  · exact lt_of_block h.map
  · exact lt_of_block (h.each x hx).1
  · obtain ⟨_, _, rest, hr⟩ := h.each x hx
    exact lt_of_block hr

theorem EntAt.same {w w' : World} {x : Ent} (h : EntAt w x) (h1 : w'.heap[x.blk]? = w.heap[x.blk]?) (h2 : w'.heap[x.cb]? = w.heap[x.cb]?) : EntAt w' x := by
  obtain ⟨a, b, rest, c⟩ := h
  exact ⟨h1.trans a, b, rest, h2.trans c⟩

theorem RepG.same {w w' : World} {m : Nat} {bytes : Int} {mb clk : Nat} {ents : List Ent} (h : RepG w m bytes mb clk ents) (hs : ∀ k ∈ foot m mb ents, w'.heap[k]? = w.heap[k]?) : RepG w' m bytes mb clk ents where
  model := (hs m (by simp [foot])).trans h.model
  map := (hs mb (by simp [foot])).trans h.map
  each := fun x hx => (h.each x hx).same (hs _ (by simp only [foot, List.mem_cons, List.mem_flatMap]; exact .inr (.inr ⟨x, hx, by simp⟩))) (hs _ (by simp only [foot, List.mem_cons, List.mem_flatMap]; exact .inr (.inr ⟨x, hx, by simp⟩)))
  nodup := h.nodup
  born := h.born
  old := h.old

/-! ### the abstract model -/
structure AM where
  bytes : Int
  blocks : List Blk

def Rep (w : World) (m : Nat) (A : AM) (F : Nat → Prop) : Prop :=
  ∃ mb clk ents, RepG w m A.bytes mb clk ents ∧ (ents.map Ent.b).Perm A.blocks ∧ ∀ k ∈ foot m mb ents, F k

theorem Rep.mono {w : World} {m : Nat} {A : AM} {F G : Nat → Prop} (h : Rep w m A F) (hg : ∀ k, F k → k < w.heap.size → G k) : Rep w m A G := by
  obtain ⟨mb, clk, ents, g, p, f⟩ := h
  exact ⟨mb, clk, ents, g, p, fun k hk => hg k (f k hk) (g.lt k hk)⟩

theorem Rep.turned {w w' : World} {m : Nat} {A : AM} {F G : Nat → Prop} (h : Rep w m A F) (t : Turned G w w') (hd : ∀ k, F k → k < w.heap.size → ¬ G k) : Rep w' m A F := by
  obtain ⟨mb, clk, ents, g, p, f⟩ := h
  exact ⟨mb, clk, ents, g.same (fun k hk => t.block k (g.lt k hk) (hd k (f k hk) (g.lt k hk))), p, f⟩

theorem Rep.below {w w' : World} {m : Nat} {A : AM} {F : Nat → Prop} (h : Rep w m A F) (t : Below w.heap.size w w') : Rep w' m A F :=
  h.turned (Turned.of_below (F := fun _ => False) t (Nat.le_refl _)) (fun _ _ _ hh => hh)

/-! ### the map: what a look-up gives; a new entry; an entry struck -/
def findI (k : Int) : List Ent → Nat → Option (Nat × Ent)
  | [], _ => none
  | x :: l, i => if x.b.at_ = k then some (i, x) else findI k l (i + 1)
def ptrOf : Option Ent → Value | some x => .pointer (some ⟨x.blk, 0, none⟩) | none => .pointer none

theorem findNow_ents (k : Int) : ∀ (l : List Ent) (i : Nat), Instr.findNow (.int .i64) (.int .i64 k) (l.map entry) i = some ((findI k l i).map fun p => (p.1, .pointer (some ⟨p.2.blk, 0, none⟩)))
  | [], i => rfl
  | x :: l, i => by
    by_cases h : x.b.at_ = k
    · simp [Instr.findNow, entry, Instr.sameNow, findI, h]
    · have h1 : (k == x.b.at_) = false := by simp [Ne.symm h]
      have ih := findNow_ents k l (i + 1)
      simp only [List.map_cons, Instr.findNow, entry, Instr.sameNow, if_true, h1, findI, h, if_false]
      simpa [entry] using ih

theorem findI_find (k : Int) : ∀ (l : List Ent) (i : Nat), (findI k l i).map (·.2) = l.find? fun x => x.b.at_ == k
  | [], _ => rfl
  | x :: l, i => by
    by_cases h : x.b.at_ = k
    · simp [findI, h]
    · simp [findI, h, findI_find k l (i + 1)]

theorem findI_erase (k : Int) : ∀ (l : List Ent) (i j : Nat) (x : Ent), findI k l i = some (j, x) → (l.map (·.b.at_)).Nodup → i ≤ j ∧ l.eraseIdx (j - i) = l.filter fun y => y.b.at_ != k
  | [], i, j, x, h, _ => by simp [findI] at h
  | y :: l, i, j, x, h, hn => by
    simp only [List.map_cons, List.nodup_cons] at hn
    by_cases e : y.b.at_ = k
    · simp only [findI, e, if_true, Option.some.injEq, Prod.mk.injEq] at h
      obtain ⟨rfl, rfl⟩ := h
      refine ⟨Nat.le_refl _, ?_⟩
      simp only [Nat.sub_self, List.eraseIdx_zero, List.tail_cons, List.filter_cons, e, bne_self_eq_false, Bool.false_eq_true, if_false]
      symm
      rw [List.filter_eq_self]
      intro z hz
      have : z.b.at_ ≠ k := fun ez => hn.1 (by rw [e]; exact List.mem_map.2 ⟨z, hz, ez⟩)
      simp [this]
    · simp only [findI, e, if_false] at h
      obtain ⟨h1, h2⟩ := findI_erase k l (i + 1) j x h hn.2
      refine ⟨by omega, ?_⟩
      rw [show j - i = (j - (i + 1)) + 1 from by omega, List.eraseIdx_cons_succ, h2]
      simp [e]

theorem findI_none (k : Int) (l : List Ent) (i : Nat) (h : findI k l i = none) : ∀ x ∈ l, x.b.at_ ≠ k := by
  have h1 := findI_find k l i
  rw [h] at h1
  intro x hx e
  have := (List.find?_eq_none.1 h1.symm) x hx
  simp [e] at this

theorem und_int : Tryz.prog.underlying 3 = some (.int .i64) := by kernel_rfl
theorem und_map : Tryz.prog.underlying 74 = some (.map 3 87) := by kernel_rfl

section
variable {w : World} {mb clk : Nat} {ents : List Ent}

theorem checkKey_int (e : Bool) (n : Nat) (k : Int) (w : World) : (Instr.checkKey e (n + 1) 3 (.int .i64 k)).run Tryz.prog w = .ok () w := by
  simp [Instr.checkKey, run_underlying und_int]

theorem findKey_ents (k : Int) (l : List Ent) (w : World) : (Instr.findKey 3 (.int .i64 k) (l.map entry)).run Tryz.prog w = .ok ((findI k l 0).map fun p => (p.1, .pointer (some ⟨p.2.blk, 0, none⟩))) w := by
  simp [Instr.findKey, run_underlying und_int, findNow_ents]

theorem run_lookup_ents (h : w.heap[mb]? = some (.map (ents.map entry).toArray clk)) (k : Int) :
    (Instr.lookup 74 (.map (some mb)) (.int .i64 k) false).run Tryz.prog w = .ok (ptrOf (ents.find? fun x => x.b.at_ == k)) w := by
  rw [← findI_find k ents 0]
  have hz : ∀ w, (zeroValue 87).run Tryz.prog w = .ok (.pointer none) w := fun w => by kernel_rfl
  simp only [Instr.lookup, Sem.run_bind, run_underlying und_map, Result.andThen, MapKept.run_getObj_map h, checkKey_int]
  simp only [findKey_ents, Sem.run_pure]
  cases findI k ents 0 with
  | none => simp [hz, ptrOf]
  | some p => simp [ptrOf]

/-- A new entry. -/
theorem run_update_new (h : w.heap[mb]? = some (.map (ents.map entry).toArray clk)) (k : Int) (hk : ∀ x ∈ ents, x.b.at_ ≠ k) (v : Value) :
    (Instr.mapUpdate 74 (.map (some mb)) (.int .i64 k) v).run Tryz.prog w = .ok () (setBlock w mb (.map ((ents.map entry) ++ [MapEntry.mk (.int .i64 k) v clk]).toArray (clk + 1))) := by
  have hn : findI k ents 0 = none := by
    cases e : findI k ents 0 with
    | none => rfl
    | some p =>
      have h1 := findI_find k ents 0
      rw [e] at h1
      have h2 := List.find?_some h1.symm
      have h3 := List.mem_of_find?_eq_some h1.symm
      simp at h2
      exact absurd h2 (hk _ h3)
  simp only [Instr.mapUpdate, Sem.run_bind, run_underlying und_map, Result.andThen, MapKept.run_getObj_map h, checkKey_int]
  simp only [findKey_ents, hn, Option.map_none]
  simp [MapKept.run_setObj_map _ h, setBlock]

/-- An entry struck. -/
theorem run_delete_ents (h : w.heap[mb]? = some (.map (ents.map entry).toArray clk)) (hn : (ents.map (·.b.at_)).Nodup) (k : Int) (ty : TypeId) :
    (Builtin.delete_ #[74, 3] ty #[.map (some mb), .int .i64 k]).run Tryz.prog w =
      .ok (.tuple #[]) (setBlock w mb (.map ((ents.filter fun y => y.b.at_ != k).map entry).toArray clk)) := by
  simp only [Builtin.delete_, List.getElem?_toArray, List.getElem?_cons_zero, List.getElem?_cons_succ, Sem.run_bind, run_underlying und_map, Result.andThen, MapKept.run_getObj_map h, checkKey_int]
  simp only [findKey_ents]
  cases e : findI k ents 0 with
  | none =>
    have : ents.filter (fun y => y.b.at_ != k) = ents := by
      rw [List.filter_eq_self]
      intro x hx
      simpa using findI_none k ents 0 e x hx
    rw [this]
    simp [MapKept.run_setObj_map _ h, setBlock]
  | some p =>
    obtain ⟨_, h2⟩ := findI_erase k ents 0 p.1 p.2 e hn
    rw [← h2]
    simp [MapKept.run_setObj_map _ h, setBlock, ChangeMaps.map_eraseIdx]

theorem run_len_ents (h : w.heap[mb]? = some (.map (ents.map entry).toArray clk)) (ty : TypeId) :
    (Builtin.len_ #[74] ty #[.map (some mb)]).run Tryz.prog w = .ok (.int .i64 ents.length) w := by
  simp [Builtin.len_, run_underlying und_map, MapKept.run_getObj_map h, goInt]

/-- An iterator over the map: these entries are still to come. -/
def Iter (w : World) (r mb : Nat) (left : List Ent) : Prop :=
  ∃ (ents : List Ent) (clk since : Nat) (seen : Array Nat) (c0 : Nat), w.heap[mb]? = some (.map (ents.map entry).toArray clk) ∧ w.heap[r]? = some (.mapIter (some mb) since seen c0) ∧ (ents.map (·.born)).Nodup ∧
    (∀ x ∈ ents, x.born < since) ∧ since ≤ c0 ∧ since ≤ clk ∧ left = ents.filter fun x => !seen.contains x.born

theorem Iter.start (h : w.heap[mb]? = some (.map (ents.map entry).toArray clk)) (hb : (ents.map (·.born)).Nodup) (ho : ∀ x ∈ ents, x.born < clk) :
    (Instr.range 74 (.map (some mb))).run Tryz.prog w = .ok (.pointer (some ⟨w.heap.size, 0, none⟩)) (w.alloc (.mapIter (some mb) clk #[] clk)) ∧
      Iter (w.alloc (.mapIter (some mb) clk #[] clk)) w.heap.size mb ents := by
  refine ⟨run_range_map w _ _ _ mb _ clk und_map h, ents, clk, clk, #[], clk, ?_, heap_alloc_new _ _, hb, ho, Nat.le_refl _, Nat.le_refl _, by symm; rw [List.filter_eq_self]; intro _ _; simp⟩
  rw [heap_alloc_old _ _ (lt_of_block h)]; exact h

/-- The step: nothing is left; or one of those that are. -/
theorem Iter.step {r : Nat} {left : List Ent} (h : Iter w r mb left) (ty : TypeId) :
    (left = [] ∧ (Instr.next (.pointer (some ⟨r, 0, none⟩)) false ty).run Tryz.prog w = .ok (.tuple #[.bool false]) w) ∨
    ∃ x left' w', left.Perm (x :: left') ∧ (Instr.next (.pointer (some ⟨r, 0, none⟩)) false ty).run Tryz.prog w = .ok (.tuple #[.bool true, .int .i64 x.b.at_, .pointer (some ⟨x.blk, 0, none⟩)]) w' ∧
      Iter w' r mb left' ∧ Turned (fun k => k = r) w w' ∧ w'.heap.size = w.heap.size ∧
      (Instr.entry (.pointer (some ⟨r, 0, none⟩))).run Tryz.prog w' = .ok (.tuple #[.int .i64 x.b.at_, .pointer (some ⟨x.blk, 0, none⟩)]) w' := by
  obtain ⟨ents, clk, since, seen, c0, hm, hr, hb, ho, h1, h2, rfl⟩ := h
  have hne : mb ≠ r := by
    rintro rfl
    rw [hm] at hr
    cases hr
  have hol : ∀ x ∈ (ents.map entry).toArray.toList, x.born < since := by
    intro x hx
    simp only [List.mem_map] at hx
    obtain ⟨y, hy, rfl⟩ := hx
    exact ho y hy
  rcases run_next_at (P := Tryz.prog) w ty r mb since c0 seen _ clk hr hm hol h1 with ⟨hz, hrun⟩ | ⟨e, he, w1, hw1, hrun⟩
  · left
    refine ⟨?_, hrun⟩
    simp only [leftOf, Array.size_eq_zero_iff] at hz
    rw [List.filter_eq_nil_iff]
    intro x hx
    rw [Array.filter_eq_empty_iff] at hz
    exact hz (entry x) (by simp; exact ⟨x, hx, rfl⟩)
  · right
    simp only [leftOf, Array.toList_filter, List.mem_filter, List.mem_map] at he
    obtain ⟨⟨x, hx, rfl⟩, hs⟩ := he
    have hnd : (ents.map (·.born)).Nodup := hb
    have hsz : w1.heap = w.heap := by rcases hw1 with rfl | rfl <;> rfl
    have hlt : r < w.heap.size := lt_of_block hr
    refine ⟨x, ents.filter (fun y => !(seen.push x.born).contains y.born), _, ?_, hrun, ⟨ents, clk, since, seen.push x.born, clk, ?_, ?_, hb, ho, h2, h2, rfl⟩, ?_, ?_, ?_⟩
    · have e1 : ents.filter (fun y => !(seen.push x.born).contains y.born) = (ents.filter fun y => !seen.contains y.born).filter fun y => y.born != x.born := by
        rw [List.filter_filter]
        apply List.filter_congr
        intro y _
        rw [Array.contains_push]
        cases seen.contains y.born <;> simp [bne]
      rw [e1]
      have hx' : x ∈ ents.filter fun y => !seen.contains y.born := List.mem_filter.2 ⟨hx, hs⟩
      have hnd' : ((ents.filter fun y => !seen.contains y.born).map (·.born)).Nodup := (List.Sublist.map _ List.filter_sublist).nodup hnd
      generalize ents.filter (fun y => !seen.contains y.born) = L at hx' hnd'
      clear e1
      induction L with
      | nil => simp at hx'
      | cons y L ih =>
        simp only [List.map_cons, List.nodup_cons] at hnd'
        rcases List.mem_cons.1 hx' with rfl | hx2
        · simp only [List.filter_cons, bne_self_eq_false, Bool.false_eq_true, if_false]
          have : L.filter (fun y => y.born != x.born) = L := by
            rw [List.filter_eq_self]
            intro z hz
            have : z.born ≠ x.born := fun ez => hnd'.1 (List.mem_map.2 ⟨z, hz, ez⟩)
            simpa using this
          rw [this]
        · have hyx : y.born ≠ x.born := fun ez => hnd'.1 (by rw [ez]; exact List.mem_map.2 ⟨x, hx2, rfl⟩)
          have : (y.born != x.born) = true := by simpa using hyx
          simp only [List.filter_cons, this, if_true]
          exact ((ih hx2 hnd'.2).cons y).trans (List.Perm.swap _ _ _)
    · rw [heap_setBlock_ne _ _ _ hne, hsz]; exact hm
    · exact heap_setBlock_eq (by rw [hsz]; exact hlt) _
    · have h0 : Turned (fun k => k = r) w w1 := by
        rcases hw1 with rfl | rfl
        · exact Turned.refl _ _
        · exact (Turned.refl _ _).drew
      exact h0.setBlock (.inl rfl) _
    · rw [size_setBlock, hsz]
    · refine run_entry_at _ r mb since seen (ents.map entry).toArray clk (entry x) (heap_setBlock_eq (by rw [hsz]; exact hlt) _) ?_ (by simp; exact ⟨x, hx, rfl⟩) ?_
      · rw [heap_setBlock_ne _ _ _ hne, hsz]; exact hm
      · simpa [entry, Function.comp_def] using hnd
end

end Go.Proofs.YtgcnbiccekaffaaGreat
