/- newheap: how a heap of slabs lies in memory. -/
import Derived.Test.YtlljejmblmjjnaaGreatJA
import Derived.Test.YtlljejmblmjjnaaGreatLP
import Derived.Maps.Keyed
import Derived.WideKeyPair
import Derived.WalkKit
import Derived.WalkSpells
import Derived.WalkLawsBesides
import Derived.BigQuiet
import Derived.Lib.Hide
import Derived.Test.YtlljejmblmjjnaaGreatShelf
import Derived.LaidEqlPtr
import Derived.Test.YtlljejmblmjjnaaGreatShelf2
import Derived.Laws.AppendOwn
import Derived.Test.YtlljejmblmjjnaaGreatDB
namespace Go.Proofs.YtlljejmblmjjnaaGreat
set_option linter.unusedVariables false
set_option linter.unusedSimpArgs false
open Go.RowKit Go.ChangeMaps

/-- A slab in memory: its holder's block, its own block, when its entry was born. -/
structure HS where
  hb : Nat
  sb : Nat
  born : Nat
  x : PS
def hentry (y : HS) : MapEntry := { key := .int .i64 y.x.page, val := .pointer (some ⟨y.hb, 0, none⟩), born := y.born }
def heldC (y : HS) : Array Value := #[.pointer (some ⟨y.sb, 0, none⟩), .bool y.x.sealed]
/-- Where a heap lies, and what the statements don't ask of it. -/
structure HL where
  h : Nat
  mb : Nat
  clk : Nat
  gr : Nat
  cl : Nat
  cb : Nat
  p : GPl
  E : List PE
  b : Nat
  bs : List Int
  xs : List HS
  left : Nat
def HL.F (H : HL) : Nat → Prop := fun k => k = H.h ∨ k = H.mb ∨ k = H.gr ∨ k = H.cl ∨ k = H.cb ∨ H.p.F k ∨ ∃ y ∈ H.xs, k = y.hb ∨ k = y.sb
def sealN (b : Bool) : Nat := if b then 1 else 0
structure EntOk (l : List Run) (E : List PE) (A : List PS) : Prop where
  ent : ∀ x ∈ A, ∀ k, x.page ≤ k → k < x.page + 4 → ∃ st, E.getD k none = some (⟨x.page, 1, x.cls, sealN x.sealed⟩, st)
  back : ∀ (k : Nat) e st, E.getD k none = some (e, st) → ∃ r ∈ l, r.taken = true ∧ e.span = r.page ∧ r.page ≤ k ∧ k < r.stop
structure HeldAt (w : World) (cl : Nat) (bs : List Int) (y : HS) : Prop where
  held : w.heap[y.hb]? = some (.cells (heldC y) 82 (0, 0))
  slab : SlabAt w y.sb cl y.x.S
  ok : SlabOk bs y.x.S
structure XsOk (clk : Nat) (xs : List HS) : Prop where
  hbs : (xs.map (·.hb)).Nodup
  sbs : (xs.map (·.sb)).Nodup
  borns : (xs.map (·.born)).Nodup
  old : ∀ y ∈ xs, y.born < clk
structure HeapAt (w : World) (H : HL) (pages : Nat) (s : HP) : Prop where
  obj : w.heap[H.h]? = some (.cells #[.pointer (some ⟨H.gr, 0, none⟩), .map (some H.mb)] 79 (0, 0))
  ground : GroundAt w H.gr H.cl H.p pages s.l H.E 0 H.b 0
  cells : CellsAt w H.cl H.cb H.bs
  map : w.heap[H.mb]? = some (.map (H.xs.map hentry).toArray H.clk)
  off : ¬ H.p.F H.mb
  each : ∀ y ∈ H.xs, HeldAt w H.cl H.bs y
  xs : XsOk H.clk H.xs
  perm : (H.xs.map (·.x)).Perm s.A
  inv : HInv pages s
  blen : H.bs.length = 256 * pages
  ent : EntOk s.l H.E s.A
  num : freeN s.l + H.b = pages
  cnt : H.b = 4 * (s.A.length + H.left)

theorem HeldAt.turned {F : Nat → Prop} {w w' : World} {cl : Nat} {bs : List Int} {y : HS} (h : HeldAt w cl bs y) (t : Turned F w w') (h1 : ¬ F y.hb) (h2 : ¬ F y.sb) : HeldAt w' cl bs y :=
  ⟨(t.block _ (lt_of_block h.held) h1).trans h.held, h.slab.turned t h2, h.ok⟩
theorem HeapAt.turned {F : Nat → Prop} {w w' : World} {H : HL} {pages : Nat} {s : HP} (h : HeapAt w H pages s) (t : Turned F w w') (hF : ∀ k, H.F k → ¬ F k) : HeapAt w' H pages s :=
  ⟨(t.block _ (lt_of_block h.obj) (hF _ (.inl rfl))).trans h.obj, h.ground.turned t (hF _ (.inr (.inr (.inl rfl)))) (fun k hk => hF _ (.inr (.inr (.inr (.inr (.inr (.inl hk))))))),
    h.cells.turned t (hF _ (.inr (.inr (.inr (.inl rfl))))) (hF _ (.inr (.inr (.inr (.inr (.inl rfl)))))), (t.block _ (lt_of_block h.map) (hF _ (.inr (.inl rfl)))).trans h.map, h.off,
    fun y hy => (h.each y hy).turned t (hF _ (.inr (.inr (.inr (.inr (.inr (.inr ⟨y, hy, .inl rfl⟩))))))) (hF _ (.inr (.inr (.inr (.inr (.inr (.inr ⟨y, hy, .inr rfl⟩))))))),
    h.xs, h.perm, h.inv, h.blen, h.ent, h.num, h.cnt⟩
theorem HeapAt.below {w w' : World} {H : HL} {pages : Nat} {s : HP} (h : HeapAt w H pages s) (hb : Below w.heap.size w w') : HeapAt w' H pages s :=
  h.turned (Turned.of_below (F := fun _ => False) hb (Nat.le_refl _)) (fun _ _ h => h)

/-- A ground's own blocks, by their kinds. -/
theorem GroundAt.off {w : World} {gr cl pages a b c : Nat} {p : GPl} {l : List Run} {E : List PE} (h : GroundAt w gr cl p pages l E a b c) {x : Nat} {cs : Array Value} {T : TypeId} (hx : w.heap[x]? = some (.cells cs T (0, 0)))
    (h1 : T ≠ 159) (h2 : T ≠ 161) (h3 : T ≠ 202) (h4 : T ≠ 209) (h5 : T ≠ 212) (h6 : T ≠ 155) : ¬ p.F x := by
  have hm := h.map.off hx (by intro cs hh; cases hh; exact h3 rfl) (by intro cs hh; cases hh; exact h4 rfl) (by intro cs hh; cases hh; exact h5 rfl)
  have hs := h.spans.off hx (by intro cs hh; cases hh; exact h1 rfl) (by intro cs hh; cases hh; exact h2 rfl)
  have hl := h.led.off hx (by intro cs hh; cases hh; exact h6 rfl) (by intro es clk hh; cases hh)
  rintro (hh | hh | hh | hh | hh | hh | hh)
  · exact hs (.inl hh)
  · exact hs (.inr hh)
  · exact hm (.inl hh)
  · exact hm (.inr (.inl hh))
  · exact hm (.inr (.inr hh))
  · exact hl (.inl hh)
  · exact hl (.inr hh)
theorem block_ne {w : World} {x y : Nat} {cs cs' : Array Value} {T T' : TypeId} {f f' : Nat × Nat} (hx : w.heap[x]? = some (.cells cs T f)) (hy : w.heap[y]? = some (.cells cs' T' f')) (h : T ≠ T') : x ≠ y := by
  rintro rfl
  rw [hx] at hy
  cases hy
  exact h rfl
theorem block_ne_map {w : World} {x y : Nat} {cs : Array Value} {T : TypeId} {f : Nat × Nat} {es : Array MapEntry} {clk : Nat} (hx : w.heap[x]? = some (.cells cs T f)) (hy : w.heap[y]? = some (.map es clk)) : x ≠ y := by
  rintro rfl
  rw [hx] at hy
  cases hy

theorem HeapAt.mem {w : World} {H : HL} {pages : Nat} {s : HP} (h : HeapAt w H pages s) {x : PS} (hx : x ∈ s.A) : ∃ y ∈ H.xs, y.x = x := by
  have := h.perm.mem_iff.2 hx
  obtain ⟨y, hy, rfl⟩ := List.mem_map.1 this
  exact ⟨y, hy, rfl⟩
theorem HeapAt.mem' {w : World} {H : HL} {pages : Nat} {s : HP} (h : HeapAt w H pages s) {y : HS} (hy : y ∈ H.xs) : y.x ∈ s.A :=
  h.perm.mem_iff.1 (List.mem_map.2 ⟨y, hy, rfl⟩)
theorem HeapAt.uniq {w : World} {H : HL} {pages : Nat} {s : HP} (h : HeapAt w H pages s) {y z : HS} (hy : y ∈ H.xs) (hz : z ∈ H.xs) (hp : y.x.page = z.x.page) : y = z := by
  have hn : (H.xs.map fun y => y.x.page).Nodup := by
    have e : H.xs.map (fun y => y.x.page) = (H.xs.map (·.x)).map (·.page) := by rw [List.map_map]; rfl
    rw [e, (h.perm.map _).nodup_iff]
    exact (List.pairwise_map.2 h.inv.srt).imp (fun hlt => Nat.ne_of_lt hlt)
  obtain ⟨i, hi, rfl⟩ := List.mem_iff_getElem.1 hy
  obtain ⟨j, hj, rfl⟩ := List.mem_iff_getElem.1 hz
  have := (List.nodup_iff_pairwise_ne.1 hn)
  rw [List.pairwise_map] at this
  have hp2 := List.pairwise_iff_getElem.1 this
  rcases Nat.lt_trichotomy i j with hij | rfl | hij
  · exact absurd hp (hp2 i j hi hj hij)
  · rfl
  · exact absurd hp.symm (hp2 j i hj hi hij)
theorem nodup_uniq {α β : Type} {f : α → β} {l : List α} (hn : (l.map f).Nodup) {y z : α} (hy : y ∈ l) (hz : z ∈ l) (hp : f y = f z) : y = z := by
  obtain ⟨i, hi, rfl⟩ := List.mem_iff_getElem.1 hy
  obtain ⟨j, hj, rfl⟩ := List.mem_iff_getElem.1 hz
  have := (List.nodup_iff_pairwise_ne.1 hn)
  rw [List.pairwise_map] at this
  have hp2 := List.pairwise_iff_getElem.1 this
  rcases Nat.lt_trichotomy i j with hij | rfl | hij
  · exact absurd hp (hp2 i j hi hj hij)
  · rfl
  · exact absurd hp.symm (hp2 j i hj hi hij)

/-- The heap's map, asked, and written. -/
def findH (k : Int) : List HS → Nat → Option (Nat × HS)
  | [], _ => none
  | x :: l, i => if (x.x.page : Int) = k then some (i, x) else findH k l (i + 1)
def ptrH : Option HS → Value | some x => .pointer (some ⟨x.hb, 0, none⟩) | none => .pointer none

theorem findNow_held (k : Int) : ∀ (l : List HS) (i : Nat), Instr.findNow (.int .i64) (.int .i64 k) (l.map hentry) i = some ((findH k l i).map fun p => (p.1, .pointer (some ⟨p.2.hb, 0, none⟩)))
  | [], i => rfl
  | x :: l, i => by
    by_cases h : (x.x.page : Int) = k
    · simp [Instr.findNow, hentry, Instr.sameNow, findH, h]
    · have h1 : (k == (x.x.page : Int)) = false := by simp [Ne.symm h]
      have ih := findNow_held k l (i + 1)
      simp only [List.map_cons, Instr.findNow, hentry, Instr.sameNow, if_true, h1, findH, h, if_false]
      simpa [hentry] using ih

theorem findH_find (k : Int) : ∀ (l : List HS) (i : Nat), (findH k l i).map (·.2) = l.find? fun x => (x.x.page : Int) == k
  | [], _ => rfl
  | x :: l, i => by
    by_cases h : (x.x.page : Int) = k
    · simp [findH, h]
    · simp [findH, h, findH_find k l (i + 1)]

theorem findH_erase (k : Int) : ∀ (l : List HS) (i j : Nat) (x : HS), findH k l i = some (j, x) → (l.map (fun y => (y.x.page : Int))).Nodup → i ≤ j ∧ l.eraseIdx (j - i) = l.filter fun y => (y.x.page : Int) != k
  | [], i, j, x, h, _ => by simp [findH] at h
  | y :: l, i, j, x, h, hn => by
    simp only [List.map_cons, List.nodup_cons] at hn
    by_cases e : (y.x.page : Int) = k
    · simp only [findH, e, if_true, Option.some.injEq, Prod.mk.injEq] at h
      obtain ⟨rfl, rfl⟩ := h
      refine ⟨Nat.le_refl _, ?_⟩
      simp only [Nat.sub_self, List.eraseIdx_zero, List.tail_cons, List.filter_cons, e, bne_self_eq_false, Bool.false_eq_true, if_false]
      symm
      rw [List.filter_eq_self]
      intro z hz
      have : (z.x.page : Int) ≠ k := fun ez => hn.1 (by rw [e]; exact List.mem_map.2 ⟨z, hz, ez⟩)
      simp [this]
    · simp only [findH, e, if_false] at h
      obtain ⟨h1, h2⟩ := findH_erase k l (i + 1) j x h hn.2
      refine ⟨by omega, ?_⟩
      rw [show j - i = (j - (i + 1)) + 1 from by omega, List.eraseIdx_cons_succ, h2]
      simp [e]

theorem findH_none (k : Int) (l : List HS) (i : Nat) (h : findH k l i = none) : ∀ x ∈ l, (x.x.page : Int) ≠ k := by
  have h1 := findH_find k l i
  rw [h] at h1
  intro x hx e
  have := (List.find?_eq_none.1 h1.symm) x hx
  simp [e] at this

theorem und_int4 : Tryz.prog.underlying 3 = some (.int .i64) := by kernel_rfl
theorem und_hmap : Tryz.prog.underlying 77 = some (.map 3 76) := by kernel_rfl

section
variable {w : World} {mb clk : Nat} {xs : List HS}

theorem checkKey_int2 (e : Bool) (n : Nat) (k : Int) (w : World) : (Instr.checkKey e (n + 1) 3 (.int .i64 k)).run Tryz.prog w = .ok () w := by
  simp [Instr.checkKey, run_underlying und_int4]

theorem findKey_held (k : Int) (l : List HS) (w : World) : (Instr.findKey 3 (.int .i64 k) (l.map hentry)).run Tryz.prog w = .ok ((findH k l 0).map fun p => (p.1, .pointer (some ⟨p.2.hb, 0, none⟩))) w := by
  simp [Instr.findKey, run_underlying und_int4, findNow_held]

theorem run_lookup_held (h : w.heap[mb]? = some (.map (xs.map hentry).toArray clk)) (k : Int) :
    (Instr.lookup 77 (.map (some mb)) (.int .i64 k) false).run Tryz.prog w = .ok (ptrH (xs.find? fun x => (x.x.page : Int) == k)) w := by
  rw [← findH_find k xs 0]
  have hz : ∀ w, (zeroValue 76).run Tryz.prog w = .ok (.pointer none) w := fun w => by kernel_rfl
  simp only [Instr.lookup, Sem.run_bind, run_underlying und_hmap, Result.andThen, MapKept.run_getObj_map h, checkKey_int2]
  simp only [findKey_held, Sem.run_pure]
  cases findH k xs 0 with
  | none => simp [hz, ptrH]
  | some p => simp [ptrH]

/-- A new hentry. -/
theorem run_update_held (h : w.heap[mb]? = some (.map (xs.map hentry).toArray clk)) (k : Int) (hk : ∀ x ∈ xs, (x.x.page : Int) ≠ k) (v : Value) :
    (Instr.mapUpdate 77 (.map (some mb)) (.int .i64 k) v).run Tryz.prog w = .ok () (setBlock w mb (.map ((xs.map hentry) ++ [MapEntry.mk (.int .i64 k) v clk]).toArray (clk + 1))) := by
  have hn : findH k xs 0 = none := by
    cases e : findH k xs 0 with
    | none => rfl
    | some p =>
      have h1 := findH_find k xs 0
      rw [e] at h1
      have h2 := List.find?_some h1.symm
      have h3 := List.mem_of_find?_eq_some h1.symm
      simp at h2
      exact absurd h2 (hk _ h3)
  simp only [Instr.mapUpdate, Sem.run_bind, run_underlying und_hmap, Result.andThen, MapKept.run_getObj_map h, checkKey_int2]
  simp only [findKey_held, hn, Option.map_none]
  simp [MapKept.run_setObj_map _ h, setBlock]

/-- An hentry struck. -/
theorem run_delete_held (h : w.heap[mb]? = some (.map (xs.map hentry).toArray clk)) (hn : (xs.map (fun y => (y.x.page : Int))).Nodup) (k : Int) (ty : TypeId) :
    (Builtin.delete_ #[77, 3] ty #[.map (some mb), .int .i64 k]).run Tryz.prog w =
      .ok (.tuple #[]) (setBlock w mb (.map ((xs.filter fun y => (y.x.page : Int) != k).map hentry).toArray clk)) := by
  simp only [Builtin.delete_, List.getElem?_toArray, List.getElem?_cons_zero, List.getElem?_cons_succ, Sem.run_bind, run_underlying und_hmap, Result.andThen, MapKept.run_getObj_map h, checkKey_int2]
  simp only [findKey_held]
  cases e : findH k xs 0 with
  | none =>
    have : xs.filter (fun y => (y.x.page : Int) != k) = xs := by
      rw [List.filter_eq_self]
      intro x hx
      simpa using findH_none k xs 0 e x hx
    rw [this]
    simp [MapKept.run_setObj_map _ h, setBlock]
  | some p =>
    obtain ⟨_, h2⟩ := findH_erase k xs 0 p.1 p.2 e hn
    rw [← h2]
    simp [MapKept.run_setObj_map _ h, setBlock, ChangeMaps.map_eraseIdx]

theorem run_len_held (h : w.heap[mb]? = some (.map (xs.map hentry).toArray clk)) (ty : TypeId) :
    (Builtin.len_ #[77] ty #[.map (some mb)]).run Tryz.prog w = .ok (.int .i64 xs.length) w := by
  simp [Builtin.len_, run_underlying und_hmap, MapKept.run_getObj_map h, goInt]
end

end Go.Proofs.YtlljejmblmjjnaaGreat

/- newheap: small readers. -/
namespace Go.Proofs.YtlljejmblmjjnaaGreat
set_option linter.unusedVariables false
set_option linter.unusedSimpArgs false
open Go.RowKit Go.ChangeMaps

set_option maxRecDepth 8000 in
set_option maxHeartbeats 1000000 in
theorem page_any (s c : Nat) (x : PS) (w : World) (h : SlabAt w s c x.S) : Calls Tryz.prog 42 #[.pointer (some ⟨s, 0, none⟩)] w fun e w' => e = .returned (.int .i64 x.page) ∧ w = w' := by
  have HB := Lib.hid (base_any s c x.S w h)
  have hsh : ((256 * x.page : Nat) : Int) / 256 = (x.page : Int) := by omega
  have HB : Hid (Calls Tryz.prog 79 #[.pointer (some ⟨s, 0, none⟩)] w fun e w' => e = .returned (.int .i64 ((256 * x.page : Nat) : Int)) ∧ w = w') := HB
  clear h
  generalize ((256 * x.page : Nat) : Int) = b at *
  go_enter Tryz.func42, Tryz.ntmps42
  go_wp2_with (fail)
  refine HB.out.mono ?_
  rintro e w1 ⟨rfl, rfl⟩
  go_wp2
  go_ret
  exact ⟨rfl, rfl⟩

theorem HeldAt.cells {w : World} {cl : Nat} {bs : List Int} {y : HS} (h : HeldAt w cl bs y) : w.cell? ⟨y.hb, 0, none⟩ = some (.pointer (some ⟨y.sb, 0, none⟩)) ∧ w.cell? ⟨y.hb, 1, none⟩ = some (.bool y.x.sealed) :=
  ⟨cell_of_block h.held 0, cell_of_block h.held 1⟩

set_option maxRecDepth 8000 in
set_option maxHeartbeats 1000000 in
theorem ready_any (cl : Nat) (bs : List Int) (y : HS) (w : World) (h : HeldAt w cl bs y) : Calls Tryz.prog 82 #[.pointer (some ⟨y.hb, 0, none⟩)] w fun e w' => e = .returned (.bool y.x.ready) ∧ w = w' := by
  obtain ⟨c0, c1⟩ := h.cells
  have HF := Lib.hid (free_any y.sb cl y.x.S w h.slab)
  have hL : y.x.S.L = y.x.L := rfl
  rw [hL] at HF
  have hr : y.x.ready = (!y.x.sealed && decide (0 < y.x.L.length)) := rfl
  rw [hr]
  clear h hr hL
  generalize y.x.sealed = sd at *
  generalize y.x.L.length = n at *
  cases sd with
  | true =>
    go_enter Tryz.func82, Tryz.ntmps82
    go_wp2
    go_ret
    exact ⟨rfl, rfl⟩
  | false =>
    go_enter Tryz.func82, Tryz.ntmps82
    go_wp2_with (fail)
    refine HF.out.mono ?_
    rintro e w1 ⟨rfl, rfl⟩
    go_wp2
    go_ret
    exact ⟨ret_bool (by simp), rfl⟩

set_option maxRecDepth 8000 in
set_option maxHeartbeats 1000000 in
theorem hempty_any (pages cl : Nat) (bs : List Int) (y : HS) (w : World) (h : HeldAt w cl bs y) (hok : y.x.Ok pages) : Calls Tryz.prog 56 #[.pointer (some ⟨y.hb, 0, none⟩)] w fun e w' => e = .returned (.bool y.x.empty) ∧ w = w' := by
  obtain ⟨c0, c1⟩ := h.cells
  have HF := Lib.hid (state_any y.sb cl y.x.S w h.slab hok.cls)
  have hb : y.x.empty = (((stateN y.x.S : Nat) : Int) == 0) := by
    have h1 : y.x.empty = decide (y.x.L.length = slB y.x.cls) := rfl
    have h2 : stateN y.x.S = if y.x.L.length = slB y.x.cls then 0 else if y.x.L.length = 0 then 2 else 1 := rfl
    rw [h1, h2]
    split
    · simp [*]
    · have := slB_two hok.cls
      split
      · simp [*]
        omega
      · simp [*]
  rw [hb]
  clear h hb
  generalize stateN y.x.S = n at *
  go_enter Tryz.func56, Tryz.ntmps56
  go_wp2_with (fail)
  refine HF.out.mono ?_
  rintro e w1 ⟨rfl, rfl⟩
  go_wp2
  go_ret
  exact ⟨rfl, rfl⟩

def clsOk (c : Int) : Bool := decide (0 ≤ c ∧ c < 12)
set_option maxRecDepth 8000 in
set_option maxHeartbeats 1000000 in
theorem hright_any (c : Int) (w : World) : Calls Tryz.prog 46 #[.int .i64 c] w fun e w' => e = .returned (.bool (clsOk c)) ∧ Below w.heap.size w w' := by
  have HF := Lib.hid (size_new c w)
  have hb : clsOk c = decide (0 < sizeB c) := by
    unfold clsOk
    by_cases hc : 0 ≤ c ∧ c < 12
    · obtain ⟨n, rfl⟩ : ∃ n : Nat, c = n := ⟨c.toNat, by omega⟩
      have hn : n < 12 := by omega
      rw [szB_sizeB hn]
      have := szB_pos hn
      simp [hc]; omega
    · unfold sizeB
      rw [if_neg hc]
      simp [hc]
  rw [hb]
  clear hb
  generalize sizeB c = n at *
  go_enter Tryz.func46, Tryz.ntmps46
  go_wp2_with (fail)
  refine HF.out.mono ?_
  rintro e w1 ⟨rfl, hb⟩
  have HB := Lib.hid hb
  clear hb
  go_wp2
  go_ret
  exact ⟨ret_bool (by simp), HB.out⟩

theorem und_held : Tryz.prog.underlying 76 = some (.pointer 82) := by kernel_rfl
theorem info_held : (Tryz.prog.info? 82).map (fun i => (i.zero, i.size, i.bytes)) = some (some (.agg #[.pointer none, .bool false]), 2, 16) := by kernel_rfl
theorem eql_same (k : Nat) (w : World) : (binOp .eql 76 (.pointer (some ⟨k, 0, none⟩)) (.pointer (some ⟨k, 0, none⟩))).run Tryz.prog w = .ok (.bool true) w := by
  obtain ⟨i0, hi, hz0, hz1, hz2⟩ := info_parts info_held
  exact run_eql_ptr_same w _ und_held hi
theorem eql_other {j k : Nat} {w : World} {cj ck : Array Value} {tj tk : TypeId} (hne : j ≠ k) (hj : w.heap[j]? = some (.cells cj tj (0, 0))) (hk : w.heap[k]? = some (.cells ck tk (0, 0))) :
    (binOp .eql 76 (.pointer (some ⟨j, 0, none⟩)) (.pointer (some ⟨k, 0, none⟩))).run Tryz.prog w = .ok (.bool false) w := by
  obtain ⟨i0, hi, hz0, hz1, hz2⟩ := info_parts info_held
  exact run_eql_ptr_other w und_held hi (by rw [hz1]; decide) (by intro e; cases e; exact hne rfl) hj hk

def ptrO : Option Nat → Value | some k => .pointer (some ⟨k, 0, none⟩) | none => .pointer none
set_option maxRecDepth 8000 in
set_option maxHeartbeats 1000000 in
theorem best1_any (cl cap : Nat) (bs : List Int) (y : HS) (but : Option Nat) (w : World) (h : HeldAt w cl bs y) (hk : ∀ k, but = some k → ∃ ck tk, w.heap[k]? = some (.cells ck tk (0, 0))) (hc : w.cell? ⟨cap, 0, none⟩ = some (ptrO but)) :
    Calls Tryz.prog 81 #[.pointer (some ⟨y.hb, 0, none⟩), .pointer (some ⟨cap, 0, none⟩)] w fun e w' => e = .returned (.bool (!(!(but == some y.hb) && y.x.ready))) ∧ w = w' := by
  have HF := Lib.hid (ready_any cl bs y w h)
  have HH := Lib.hid h.held
  clear h
  by_cases hb : but = some y.hb
  · subst hb
    have hc' : w.cell? ⟨cap, 0, none⟩ = some (.pointer (some ⟨y.hb, 0, none⟩)) := hc
    clear hc
    rw [show (!(!(some y.hb == some y.hb) && y.x.ready)) = true by simp]
    generalize y.x.ready = b at *
    have hE := eql_same y.hb w
    clear hk
    go_enter Tryz.func81, Tryz.ntmps81
    go_wp2
    go_ret
    exact ⟨rfl, rfl⟩
  · have hbb : (but == some y.hb) = false := by simpa using hb
    rw [hbb]
    have hx : ((true && y.x.ready)) = y.x.ready := Bool.true_and _
    rw [show (!false && y.x.ready) = y.x.ready from Bool.true_and _]
    clear hx hbb
    generalize y.x.ready = b at *
    cases but with
    | none =>
      have hc' : w.cell? ⟨cap, 0, none⟩ = some (.pointer none) := hc
      clear hc
      go_enter Tryz.func81, Tryz.ntmps81
      go_wp2_with (fail)
      refine HF.out.mono ?_
      rintro e w1 ⟨rfl, rfl⟩
      go_wp2
      go_ret
      exact ⟨rfl, rfl⟩
    | some k =>
      have hc' : w.cell? ⟨cap, 0, none⟩ = some (.pointer (some ⟨k, 0, none⟩)) := hc
      have hne : y.hb ≠ k := fun e => hb (by rw [e])
      obtain ⟨ck, tk, hk⟩ := hk k rfl
      have hE := eql_other hne HH.out hk
      clear hc hk hne hb
      go_enter Tryz.func81, Tryz.ntmps81
      go_wp2_with (fail)
      refine HF.out.mono ?_
      rintro e w1 ⟨rfl, rfl⟩
      go_wp2
      go_ret
      exact ⟨rfl, rfl⟩

set_option maxRecDepth 8000 in
set_option maxHeartbeats 1000000 in
theorem best2_any (cl : Nat) (bs : List Int) (y z : HS) (w : World) (h : HeldAt w cl bs y) (h2 : HeldAt w cl bs z) :
    Calls Tryz.prog 84 #[.pointer (some ⟨y.hb, 0, none⟩), .pointer (some ⟨z.hb, 0, none⟩)] w fun e w' => (∃ n, e = .returned (.int .i64 n) ∧ (n < 0 ↔ y.x.L.length < z.x.L.length)) ∧ Below w.heap.size w w' := by
  obtain ⟨c0, -⟩ := h.cells
  obtain ⟨d0, -⟩ := h2.cells
  have HF : Hid (∀ W, Below w.heap.size w W → Calls Tryz.prog 43 #[.pointer (some ⟨y.sb, 0, none⟩)] W fun e w' => e = .returned (.int .i64 (y.x.L.length : Nat)) ∧ W = w') := fun W hb => free_any y.sb cl y.x.S W (h.slab.below hb)
  have HG : Hid (∀ W, Below w.heap.size w W → Calls Tryz.prog 43 #[.pointer (some ⟨z.sb, 0, none⟩)] W fun e w' => e = .returned (.int .i64 (z.x.L.length : Nat)) ∧ W = w') := fun W hb => free_any z.sb cl z.x.S W (h2.slab.below hb)
  have HC : Hid (∀ w, Calls Tryz.prog 85 #[.int .i64 y.x.L.length, .int .i64 z.x.L.length] w fun e w' => e = .returned (.int .i64 (Lib.compareInt y.x.L.length z.x.L.length)) ∧ w = w') := fun w => (Go.Proofs.Tryz.cmp_Compare_int _ _ w).mono (fun e w' h => ⟨h.1, h.2.symm⟩)
  have hn : Lib.compareInt (y.x.L.length : Int) (z.x.L.length : Int) < 0 ↔ y.x.L.length < z.x.L.length := by
    unfold Lib.compareInt
    split
    · omega
    · split <;> omega
  have HN := Lib.hid hn
  clear hn h h2
  generalize Lib.compareInt (y.x.L.length : Int) (z.x.L.length : Int) = n at *
  generalize y.x.L.length = a at *
  generalize z.x.L.length = b at *
  go_enter Tryz.func84, Tryz.ntmps84
  go_upto_region 1 with (fail)
  (refine wp_region_quiet_ext (by kernel_rfl) (by kernel_rfl) ?_; (repeat (first | go_big_quiet_step ((first | (refine Calls.ext_same (HF.out _ (below_ext _ _))) | (refine Calls.ext_same (HG.out _ (below_ext _ _))) | (refine Calls.ext_same (HC.out _)))) | quiet_step ((first | (refine Calls.ext_same (HF.out _ (below_ext _ _))) | (refine Calls.ext_same (HG.out _ (below_ext _ _))) | (refine Calls.ext_same (HC.out _)))))); refine wpQuiet_nil ?_; intro w3 hw3; obtain hb3 := below_of_ext hw3; clear hw3; obtain ⟨hc3, hf3⟩ := bcell hb3; have hz3 := hb3.size; (try simp at hz3))
  go_wp2
  go_ret
  exact ⟨⟨_, rfl, HN.out⟩, hb3⟩

end Go.Proofs.YtlljejmblmjjnaaGreat

/- newheap: Pages, the slabs of a class. -/
namespace Go.Proofs.YtlljejmblmjjnaaGreat
set_option linter.unusedVariables false
set_option linter.unusedSimpArgs false
open Go.RowKit Go.ChangeMaps

theorem HeapAt.bound {w : World} {H : HL} {pages : Nat} {s : HP} (h : HeapAt w H pages s) : 4 * s.A.length ≤ pages ∧ pages ≤ 64 ∧ H.xs.length = s.A.length := by
  have h1 := h.num
  have h2 := h.cnt
  have h3 := h.ground.map.most
  have h4 := h.perm.length_eq
  rw [List.length_map] at h4
  exact ⟨by omega, h3, h4⟩

def rdOne : Value → Option (DataW Unit × List MemPlace) := fun _ => some (.nil, [])
theorem insert_perm {H : Type} (x : Lit × DataW H) : ∀ l, (DataW.insert x l).Perm (x :: l)
  | [] => List.Perm.refl _
  | y :: r => by
    unfold DataW.insert
    split
    · exact List.Perm.refl _
    · exact ((insert_perm x r).cons y).trans (List.Perm.swap _ _ _)
theorem fold_insert_perm {H : Type} : ∀ l : List (Lit × DataW H), (l.foldr DataW.insert []).Perm l
  | [] => List.Perm.refl _
  | x :: l => (insert_perm x _).trans ((fold_insert_perm l).cons x)
noncomputable def mapH (xs : List HS) : DataW Unit := .map (((xs.map hentry).toArray.toList.map (WideElems.rg Tryz.prog 3 rdOne)).foldr DataW.insert [])
theorem key_rgH {x : HS} (h : (Lit.int .i64 (x.x.page : Int)).wf = true) : WideElems.rg Tryz.prog 3 rdOne (hentry x) = (.int .i64 (x.x.page : Int), .nil) := by
  unfold WideElems.rg WideElems.rd hentry
  rw [Maps.keyOf_int_mk Tryz.underlying3 h]
  rfl
theorem keys_mapH {xs : List HS} (h : ∀ x ∈ xs, (Lit.int .i64 (x.x.page : Int)).wf = true) : (intKeys (mapH xs)).Perm (xs.map fun x => (x.x.page : Int)) := by
  unfold mapH intKeys
  refine ((fold_insert_perm _).map _).trans ?_
  rw [List.toList_toArray, List.map_map, List.map_map]
  rw [List.map_congr_left (g := fun x => (x.x.page : Int))]
  intro x hx
  simp [key_rgH (h x hx), Go.intOf]
theorem size_mapH (xs : List HS) : Maps.size (mapH xs) = xs.length := by
  unfold mapH Maps.size
  simp only
  rw [(fold_insert_perm _).length_eq]
  simp
theorem HeapAt.wf {w : World} {H : HL} {pages : Nat} {s : HP} (h : HeapAt w H pages s) : ∀ x ∈ H.xs, (Lit.int .i64 (x.x.page : Int)).wf = true := by
  intro x hx
  have h1 := (h.inv.each x.x (h.mem' hx)).fits
  have h2 := h.ground.map.most
  exact WalkArith.wf_i64 (by omega)
theorem HeapAt.keys {w : World} {H : HL} {pages : Nat} {s : HP} (h : HeapAt w H pages s) : (H.xs.map fun y => (y.x.page : Int)).Nodup := by
  have e : H.xs.map (fun y => (y.x.page : Int)) = (H.xs.map (·.x)).map (fun x => (x.page : Int)) := by rw [List.map_map]; rfl
  rw [e, (h.perm.map _).nodup_iff]
  refine List.pairwise_map.2 (h.inv.srt.imp ?_)
  intro a b hlt he
  omega
theorem HeapAt.owns {w : World} {H : HL} {pages : Nat} {s : HP} (h : HeapAt w H pages s) : w.ownsMap Tryz.prog 3 rdOne H.mb H.xs.length (mapH H.xs) := by
  obtain ⟨b1, b2, b3⟩ := h.bound
  refine ⟨_, H.clk, h.map, ⟨?_, ⟨?_, ?_, ?_⟩, ?_⟩, by simp, rfl⟩
  · simp only [List.size_toArray, List.length_map]; unfold maxLen; omega
  · intro x hx
    rw [List.toList_toArray] at hx
    obtain ⟨y, hy, rfl⟩ := List.mem_map.1 hx
    exact h.xs.old y hy
  · rw [List.toList_toArray, List.map_map]
    exact h.xs.borns
  · rw [List.toList_toArray, List.map_map]
    have hk := h.keys
    rw [List.Nodup, List.pairwise_map] at hk ⊢
    exact hk.imp (fun h e => h (by simpa [hentry] using e))
  · intro x hx
    rw [List.toList_toArray] at hx
    obtain ⟨y, hy, rfl⟩ := List.mem_map.1 hx
    exact ⟨_, by unfold WideElems.rd hentry; rw [Maps.keyOf_int_mk Tryz.underlying3 (h.wf y hy)]; rfl⟩
def pagesI (s : HP) : List Int := s.A.map fun x => (x.page : Int)
theorem sort_pages {w : World} {H : HL} {pages : Nat} {s : HP} (h : HeapAt w H pages s) {ss : List Int} (hs : ss.Perm (intKeys (mapH H.xs))) : ss.mergeSort (fun x y => decide (x ≤ y)) = pagesI s := by
  have h1 : ss.Perm (pagesI s) := by
    refine (hs.trans (keys_mapH h.wf)).trans ?_
    have := h.perm.map fun x => (x.page : Int)
    rwa [List.map_map] at this
  have hs : (pagesI s).Pairwise (fun a b => decide (a ≤ b) = true) := by
    unfold pagesI
    rw [List.pairwise_map]
    refine h.inv.srt.imp ?_
    intro x y hxy
    simp only [decide_eq_true_eq]
    omega
  refine List.Perm.eq_of_pairwise (le := fun a b => decide (a ≤ b) = true) ?_ ?_ hs ((List.mergeSort_perm ss _).trans h1)
  · intro a b _ _ h1 h2
    simp only [decide_eq_true_eq] at h1 h2
    omega
  · exact List.pairwise_mergeSort (fun a b c h1 h2 => by simp only [decide_eq_true_eq] at *; omega) (fun a b => by simp only [Bool.or_eq_true, decide_eq_true_eq]; omega) ss
theorem sorts_any (n : Nat) : AnyZI.SortsIn Tryz.prog Tryz.sortedA_ren Fence.wide n :=
  ⟨fun blk off cap ss W hH hblk hsz => callsIn_wide.2 (Go.Proofs.Tryz.slices_Sort_int blk off cap ss W hH hblk hsz),
   fun p cap W => callsIn_wide.2 (Go.Proofs.Tryz.slices_Sort_int_none p cap W)⟩
theorem keys_any (mb : Nat) (W : World) : Calls Tryz.prog 53 #[.map (some mb)] W fun e w' =>
    e = .returned (.func (.func 93) #[] #[.pointer (some ⟨W.heap.size, 0, none⟩)]) ∧ w' = W.alloc (.cells #[.map (some mb)] 77) :=
  (callsIn_wide (n := 5)).1 (AnyZI.keys_in Tryz.keysA Fence.wide 5 trivial rfl (some mb) W)
def PagesPost (w : World) (s : HP) (e : Ending) (w' : World) : Prop :=
  ∃ v, e = .returned v ∧ w'.ownsRow w.heap.size 3 1 v s.A.length ((pagesI s).map (Value.int .i64)) ∧ Below w.heap.size w w'
/-- slices.Sorted(maps.Keys(m)): the keys, ascending. -/
theorem sortedH_any {w : World} {H : HL} {pages : Nat} {s : HP} (h : HeapAt w H pages s) (W : World) (bm : Nat) (hown : W.ownsMap Tryz.prog 3 rdOne H.mb H.xs.length (mapH H.xs)) (hm : W.cell? ⟨bm, 0, none⟩ = some (.map (some H.mb))) :
    Calls Tryz.prog 52 #[.func (.func 93) #[] #[.pointer (some ⟨bm, 0, none⟩)]] W (PagesPost W s) := by
  refine (callsIn_wide (n := 5)).1 ?_
  obtain ⟨b1, b2, b3⟩ := h.bound
  have hseq : SeqGives Fence.wide 2 Tryz.prog 93 #[.pointer (some ⟨bm, 0, none⟩)] encZ (fun ss => ss.Perm (intKeys (mapH H.xs))) (Maps.size (mapH H.xs)) W :=
    AnyZI.keys_gives (ρ := Tryz.keysA_ren) { Tryz.keysA with } Fence.wide _ trivial rfl (by omega) bm H.mb H.xs.length (mapH H.xs) W (cell_lt hm) hm hown
  have cS := AnyZI.sorted_in Tryz.sortedA Fence.wide 5 trivial trivial trivial trivial rfl (by omega) (sorts_any _) (enters_of Tryz.func92 (by kernel_rfl) rfl) 93 #[.pointer (some ⟨bm, 0, none⟩)] trivial
    (enters_of Tryz.func93 (by kernel_rfl) rfl) _ _ (by rw [size_mapH]; unfold maxLen; omega) (by rw [size_mapH]; omega) _ hseq
  change CallsIn _ _ Tryz.prog 52 _ _ _ at cS
  refine cS.mono ?_
  rintro e w' ⟨v, ss, rfl, hS, hrow, _, hbl⟩
  have hsort := sort_pages h hS
  have hlen : ss.length = s.A.length := by rw [← List.length_mergeSort ss, hsort]; exact List.length_map _
  rw [hsort, hlen] at hrow
  exact ⟨v, rfl, hrow, hbl⟩

theorem HeapAt.hcells {w : World} {H : HL} {pages : Nat} {s : HP} (h : HeapAt w H pages s) : w.cell? ⟨H.h, 0, none⟩ = some (.pointer (some ⟨H.gr, 0, none⟩)) ∧ w.cell? ⟨H.h, 1, none⟩ = some (.map (some H.mb)) :=
  ⟨cell_of_block h.obj 0, cell_of_block h.obj 1⟩

set_option maxRecDepth 8000 in
set_option maxHeartbeats 1000000 in
theorem pages_any {w : World} {H : HL} {pages : Nat} {s : HP} (h : HeapAt w H pages s) : Calls Tryz.prog 21 #[.pointer (some ⟨H.h, 0, none⟩)] w (PagesPost w s) := by
  obtain ⟨-, c1⟩ := h.hcells
  have hmb := lt_of_block h.map
  have HH := Lib.hid h
  clear h
  go_enter Tryz.func21, Tryz.ntmps21
  go_wp2_with (fail)
  refine (keys_any _ _).mono ?_
  rintro e w0 ⟨rfl, rfl⟩
  have HOWN : Hid ((w.alloc (.cells #[.map (some H.mb)] 77)).ownsMap Tryz.prog 3 rdOne H.mb H.xs.length (mapH H.xs)) := (HH.out.below ((Below.refl _ _).alloc (Nat.le_refl _) _)).owns
  go_wp2_with (fail)
  refine (sortedH_any HH.out _ w.heap.size HOWN.out (by simp [go_sem])).mono ?_
  rintro e w1 ⟨v1, rfl, hrow, hb1⟩
  have HR := Lib.hid hrow
  have HB := Lib.hid hb1
  clear hrow hb1
  go_wp2
  go_ret
  have hz : w.heap.size ≤ (w.alloc (.cells #[.map (some H.mb)] 77)).heap.size := by simp
  exact ⟨_, rfl, own_mono HR.out hz, Below.via HB.out hz ((Below.refl _ _).alloc (Nat.le_refl _) _)⟩

end Go.Proofs.YtlljejmblmjjnaaGreat

/- newheap: the slabs of a class. -/
namespace Go.Proofs.YtlljejmblmjjnaaGreat
set_option linter.unusedVariables false
set_option linter.unusedSimpArgs false
open Go.RowKit Go.ChangeMaps

theorem perm_lift {α β : Type} {f : α → β} : ∀ {l m : List β}, l.Perm m → ∀ xs : List α, xs.map f = l → ∃ zs : List α, zs.Perm xs ∧ zs.map f = m := by
  intro l m h
  induction h with
  | nil => exact fun xs hx => ⟨xs, .refl _, hx⟩
  | @cons a l1 l2 _ ih =>
    intro xs hx
    cases xs with
    | nil => cases hx
    | cons x xs =>
      simp only [List.map_cons, List.cons.injEq] at hx
      obtain ⟨zs, h1, h2⟩ := ih xs hx.2
      exact ⟨x :: zs, h1.cons x, by rw [List.map_cons, h2, hx.1]⟩
  | @swap a b l =>
    intro xs hx
    match xs, hx with
    | x :: y :: xs, hx =>
      simp only [List.map_cons, List.cons.injEq] at hx
      exact ⟨y :: x :: xs, .swap _ _ _, by simp only [List.map_cons, hx.1, hx.2.1, hx.2.2]⟩
  | trans _ _ ih1 ih2 =>
    intro xs hx
    obtain ⟨zs, h1, h2⟩ := ih1 xs hx
    obtain ⟨us, h3, h4⟩ := ih2 zs h2
    exact ⟨us, h3.trans h1, h4⟩

theorem ownsRow_ints {w : World} {base : Nat} {e : TypeId} {v : Value} {n : Nat} {xs : List Value} (h : w.ownsRow base e 1 v n xs) :
    ∃ pv cap, v = .slice pv n cap ∧ ∀ i, i < n → ∃ g, pv = some ⟨g, 0, none⟩ ∧ g < w.heap.size ∧ w.cell? ⟨g, i, none⟩ = xs[i]? := by
  rcases h.2 with ⟨rfl, rfl⟩ | ⟨g, cap, cur, rfl, hb, hg, h1, h2, h3, h4⟩
  · exact ⟨none, 0, rfl, fun i hi => by omega⟩
  · refine ⟨_, cap, rfl, fun i hi => ⟨g, rfl, lt_of_block hg, ?_⟩⟩
    rw [cell_of_block hg, ← h4, List.getElem?_take, if_pos (by omega), Array.getElem?_toList]

/-- The slabs in memory, by their pages. -/
def Sorted (H : HL) (s : HP) (zs : List HS) : Prop := zs.Perm H.xs ∧ zs.map (·.x) = s.A
theorem HeapAt.sorted {w : World} {H : HL} {pages : Nat} {s : HP} (h : HeapAt w H pages s) : ∃ zs, Sorted H s zs := perm_lift h.perm H.xs rfl
theorem Sorted.get {H : HL} {s : HP} {zs : List HS} (h : Sorted H s zs) {k : Nat} (hk : k < zs.length) : ∃ hk2 : k < s.A.length, (zs[k]).x = s.A[k] := by
  have e := h.2
  have hl : zs.length = s.A.length := by rw [← e, List.length_map]
  refine ⟨by omega, ?_⟩
  simp only [← e, List.getElem_map]
theorem HeapAt.find {w : World} {H : HL} {pages : Nat} {s : HP} (h : HeapAt w H pages s) {y : HS} (hy : y ∈ H.xs) : (H.xs.find? fun x => (x.x.page : Int) == (y.x.page : Int)) = some y := by
  cases hf : H.xs.find? fun x => (x.x.page : Int) == (y.x.page : Int) with
  | none =>
    rw [List.find?_eq_none] at hf
    exact absurd (by simp) (hf y hy)
  | some z =>
    have h1 := List.mem_of_find?_eq_some hf
    have h2 := List.find?_some hf
    rw [h.uniq h1 hy (by simp at h2; omega)]
theorem HeapAt.lookup {w : World} {H : HL} {pages : Nat} {s : HP} (h : HeapAt w H pages s) {y : HS} (hy : y ∈ H.xs) :
    (Instr.lookup 77 (.map (some H.mb)) (.int .i64 y.x.page) false).run Tryz.prog w = .ok (.pointer (some ⟨y.hb, 0, none⟩)) w := by
  have := run_lookup_held h.map (y.x.page : Int)
  rw [h.find hy] at this
  exact this

def hbV (ys : List HS) : List Value := ys.map fun y => .pointer (some ⟨y.hb, 0, none⟩)
def ofC (zs : List HS) (cls : Int) : List HS := zs.filter fun y => (y.x.cls : Int) == cls
theorem ofC_succ {zs : List HS} {cls : Int} {k : Nat} (hk : k < zs.length) : ofC (zs.take (k + 1)) cls = ofC (zs.take k) cls ++ if (zs[k].x.cls : Int) == cls then [zs[k]] else [] := by
  unfold ofC
  rw [List.take_succ_eq_append_getElem hk, List.filter_append, List.filter_cons]
  rfl
def OfPost (w : World) (ys : List HS) (e : Ending) (w' : World) : Prop :=
  ∃ v, e = .returned v ∧ w'.ownsRow w.heap.size 76 1 v ys.length (hbV ys) ∧ Below w.heap.size w w'
theorem info_heldp : (Tryz.prog.info? 76).map (fun i => (i.zero, i.size, i.bytes)) = some (some (.pointer none), 1, 8) := by kernel_rfl
theorem ofC_le (zs : List HS) (cls : Int) (k : Nat) : (ofC (zs.take k) cls).length ≤ k := by
  unfold ofC
  exact Nat.le_trans (List.length_filter_le _ _) (by rw [List.length_take]; omega)

set_option maxRecDepth 8000 in
set_option maxHeartbeats 2000000 in
theorem of_any {w : World} {H : HL} {pages : Nat} {s : HP} {zs : List HS} (h : HeapAt w H pages s) (hz : Sorted H s zs) (cls : Int) :
    Calls Tryz.prog 41 #[.pointer (some ⟨H.h, 0, none⟩), .int .i64 cls] w (OfPost w (ofC zs cls)) := by
  obtain ⟨i0, hi, hz0, hz1, hz2⟩ := info_parts info_heldp
  obtain ⟨b1, b2, b3⟩ := h.bound
  obtain ⟨-, c1⟩ := h.hcells
  have hhl := cell_lt c1
  have hzl : zs.length = s.A.length := by rw [← hz.2, List.length_map]
  have HH := Lib.hid h
  have HZ := Lib.hid hz
  have HP := Lib.hid (pages_any h)
  clear h hz
  go_enter Tryz.func41, Tryz.ntmps41
  go_wp2_with (fail)
  refine HP.out.mono ?_
  rintro e w1 ⟨v1, rfl, hrow, hb1⟩
  obtain ⟨pv, cap, rfl, hkeys⟩ := ownsRow_ints hrow
  have HK := Lib.hid hkeys
  have HB1 := Lib.hid hb1
  have hs1 := hb1.size
  clear hrow hkeys hb1
  go_wp2
  go_loopw [5, 12] (fun v i wr => ∃ k : Nat, k ≤ zs.length ∧ i = .int .i64 k ∧ Below w1.heap.size w1 wr ∧ wr.ownsRow w1.heap.size 76 1 v (ofC (zs.take k) cls).length (hbV (ofC (zs.take k) cls))) (fun _ i _ => zs.length - (intOf i).toNat)
  case atStart => exact ⟨0, Nat.zero_le _, rfl, Below.refl _ _, World.ownsRow_nil _ _ _ _⟩
  case round =>
    obtain ⟨k, hk, rfl, hbl, hrow⟩ := hrel
    by_cases hlt : k < zs.length
    · obtain ⟨hk2, hzx⟩ := HZ.out.get hlt
      obtain ⟨g, rfl, hg, hcell⟩ := HK.out k hk2
      have hcell2 : wr.cell? ⟨g, k, none⟩ = some (.int .i64 (zs[k].x.page : Int)) := by
        refine cell_past hbl hg (hcell.trans ?_)
        rw [hzx]
        simp [pagesI, hk2]
      have hbwr : Below w.heap.size w wr := HB1.out.trans (hbl.mono hs1)
      have c1' : wr.cell? ⟨H.h, 1, none⟩ = some (.map (some H.mb)) := cell_past hbwr hhl c1
      have hym : zs[k] ∈ H.xs := HZ.out.1.mem_iff.1 (List.getElem_mem hlt)
      have hHr := HH.out.below hbwr
      have hlk := hHr.lookup hym
      have hE := hHr.each _ hym
      obtain ⟨y0, -⟩ := hE.cells
      have HC := Lib.hid (class_any zs[k].sb H.cl zs[k].x.S wr hE.slab)
      have HSC := Lib.hid (ofC_succ (cls := cls) hlt)
      have hle := ofC_le zs cls k
      have hc64 : zs[k].x.S.cls = zs[k].x.cls := rfl
      rw [hc64] at HC
      have hi1 : (0 : Int) ≤ k ∧ (k : Int) < s.A.length := by omega
      have hkw : IntKind.i64.wrap ((k : Int) + 1) = (k : Int) + 1 := by rw [IntKind.wrap_i64]; omega
      have HBL := Lib.hid hbl
      have HBW := Lib.hid hbwr
      have hltr := hbl.size
      have HROW := Lib.hid hrow
      clear hzx hcell hym hHr hE hc64 hbl hbwr hrow
      cases hcc : ((zs[k].x.cls : Int) == cls) with
      | false =>
        rw [hcc] at HSC
        generalize zs[k] = y at *
        go_wp2_with (fail)
        refine HC.out.mono ?_
        rintro e w2 ⟨rfl, rfl⟩
        go_wp2
        go_roundw
        case rel => exact ⟨k + 1, by omega, by go_num, HBL.out, by rw [HSC.out, if_neg (by simp), List.append_nil]; exact HROW.out⟩
        case measure => simp [intOf]; omega
      | true =>
        rw [hcc, if_pos rfl] at HSC
        generalize zs[k] = y at *
        generalize ofC (zs.take k) cls = ys at *
        go_wp2_with (fail)
        refine HC.out.mono ?_
        rintro e w2 ⟨rfl, rfl⟩
        go_wp2_with (at_builtin; refine wpList_append_own _ rfl _ _ 95 rfl w1.heap.size 76 i0 (.pointer none) 1 8 Tryz.underlying95 hi hz0 hz1 hz2 rfl (by decide) _ _ _ rfl (HROW.out.alloc _) ⟨wr.heap.size, 0, none⟩ 1 1 [.pointer (some ⟨y.hb, 0, none⟩)] rfl rfl (cell_one_new _ _ _) (fun u hu => by simp at hu; rcases hu with rfl; rfl) (by unfold maxLen; omega) (by omega) (by simp; omega) ?_; intro v' w3 hown' hgrow3 hnil3)
        have HB3 : Hid (Below w1.heap.size w1 w3) := Below.grown (HBL.out.alloc hltr _) hgrow3 (by simp; omega) (fun j e => (HROW.out.lt j e).1)
        have HO3 := Lib.hid hown'
        clear hown' hgrow3 hnil3
        go_wp2
        go_roundw
        case rel => exact ⟨k + 1, by omega, by go_num, HB3.out, by rw [HSC.out, List.length_append]; unfold hbV; rw [List.map_append]; exact HO3.out⟩
        case measure => simp [intOf]; omega
    · obtain rfl : k = zs.length := by omega
      have HBX := Lib.hid (HB1.out.trans (hbl.mono HB1.out.size))
      have HEND := Lib.hid hrow
      clear hrow hbl
      have hn : (zs.length : Int) = s.A.length := by omega
      go_wp2
      go_ret
      have h1 := HEND.out
      rw [List.take_length] at h1
      exact ⟨_, rfl, own_mono h1 hs1, HBX.out⟩

end Go.Proofs.YtlljejmblmjjnaaGreat

/- newheap: slices.IndexFunc, DeleteFunc over holders. -/
namespace Go.Proofs.YtlljejmblmjjnaaGreat
set_option linter.unusedVariables false
set_option linter.unusedSimpArgs false
open Go.RowKit Go.ChangeMaps

structure RowP (w : World) (g cap : Nat) (cur : List Value) (ys : List HS) : Prop where
  at_ : w.heap[g]? = some (.cells cur.toArray 76 (0, 0))
  take : cur.take ys.length = hbV ys
  fits : ys.length ≤ cap
  len : cur.length = cap
  most : cap ≤ maxLen
theorem RowP.turned {F : Nat → Prop} {w w' : World} {g cap : Nat} {cur : List Value} {ys : List HS} (h : RowP w g cap cur ys) (t : Turned F w w') (hg : ¬ F g) : RowP w' g cap cur ys :=
  ⟨(t.block _ (lt_of_block h.at_) hg).trans h.at_, h.take, h.fits, h.len, h.most⟩
theorem RowP.of_own {w : World} {base : Nat} {v : Value} {ys : List HS} (h : w.ownsRow base 76 1 v ys.length (hbV ys)) (hn : 0 < ys.length) :
    ∃ g cap cur, v = .slice (some ⟨g, 0, none⟩) ys.length cap ∧ base ≤ g ∧ RowP w g cap cur ys := by
  obtain ⟨g, cap, cur, rfl, h1, h2, h3, h4, h5, h6⟩ := own_block h hn
  refine ⟨g, cap, cur.toList, rfl, h1, ?_, by rw [← h6, Nat.mul_one], h3, by rw [Array.length_toList, h5, Nat.mul_one], h4⟩
  rw [Array.toArray_toList]
  exact h2
theorem hbV_get {ys : List HS} {k : Nat} (h : k < ys.length) : (hbV ys)[k]? = some (.pointer (some ⟨ys[k].hb, 0, none⟩)) := by
  unfold hbV
  rw [List.getElem?_map, List.getElem?_eq_getElem h]
  rfl
theorem hbV_length (ys : List HS) : (hbV ys).length = ys.length := List.length_map _
theorem RowP.get {w : World} {g cap : Nat} {cur : List Value} {ys : List HS} (h : RowP w g cap cur ys) {k : Nat} (hk : k < ys.length) : cur[k]? = some (.pointer (some ⟨ys[k].hb, 0, none⟩)) := by
  have h1 := hbV_get hk
  rw [← h.take, List.getElem?_take, if_pos hk] at h1
  exact h1
theorem RowP.cell {w : World} {g cap : Nat} {cur : List Value} {ys : List HS} (h : RowP w g cap cur ys) {k : Nat} (hk : k < ys.length) : w.cell? ⟨g, k, none⟩ = some (.pointer (some ⟨ys[k].hb, 0, none⟩)) := by
  rw [cell_of_block h.at_, List.getElem?_toArray]
  exact h.get hk

/-- A closure that tells of each slab whether it goes. -/
def delF (cp : Nat) : Value := .func (.func 81) #[] #[.pointer (some ⟨cp, 0, none⟩)]
def Tells (w : World) (cp : Nat) (ys : List HS) (del : HS → Bool) (g : Nat) : Prop :=
  ∀ y ∈ ys, ∀ W, Turned (fun k => k = g) w W → Calls Tryz.prog 81 #[.pointer (some ⟨y.hb, 0, none⟩), .pointer (some ⟨cp, 0, none⟩)] W fun e w' => e = .returned (.bool (del y)) ∧ W = w'

def idxD (del : HS → Bool) (ys : List HS) : Int := if ys.findIdx del < ys.length then (ys.findIdx del : Int) else -1

set_option maxRecDepth 8000 in
set_option maxHeartbeats 1000000 in
theorem indexD_any (del : HS → Bool) (ys : List HS) (g cap cp : Nat) (cur : List Value) (w : World) (h : RowP w g cap cur ys) (ht : Tells w cp ys del g) (hmax : ys.length ≤ 5000) :
    Calls Tryz.prog 123 #[.slice (some ⟨g, 0, none⟩) ys.length cap, delF cp] w fun e w' => e = .returned (.int .i64 (idxD del ys)) ∧ w = w' := by
  have HC := Lib.hid (fun k (hk : k < ys.length) => h.cell hk)
  have HT := Lib.hid ht
  clear h ht
  unfold delF
  go_enter Tryz.func123, Tryz.ntmps123
  go_wp2
  go_loopw [8] (fun i wr => ∃ k : Nat, i = .int .i64 k ∧ k ≤ ys.length ∧ k ≤ ys.findIdx del ∧ w = wr) (fun i _ => ys.length - numOf i)
  case atStart => exact ⟨0, rfl, Nat.zero_le _, Nat.zero_le _, rfl⟩
  case round =>
    obtain ⟨k, rfl, hk, hkz, rfl⟩ := hrel
    by_cases hlt : k < ys.length
    · have x0 := HC.out k hlt
      have hCM := Lib.hid (HT.out ys[k] (List.getElem_mem hlt) w (Turned.refl _ _))
      have hi1 : (0 : Int) ≤ (k : Int) ∧ (k : Int) < ys.length := by omega
      have hkw : IntKind.i64.wrap ((k : Int) + 1) = (k : Int) + 1 := by rw [IntKind.wrap_i64]; omega
      cases hz : del ys[k] with
      | false =>
        have hne : k ≠ ys.findIdx del := by
          intro e
          have := List.findIdx_getElem (p := del) (xs := ys) (w := by omega)
          simp only [← e] at this
          rw [hz] at this
          cases this
        rw [hz] at hCM
        clear hz
        generalize ys[k].hb = q at *
        go_wp2_with (fail)
        refine hCM.out.mono ?_
        rintro e w2 ⟨rfl, rfl⟩
        go_wp2
        go_roundw
        case rel => exact ⟨k + 1, by go_num, hlt, by omega, by trivial⟩
        case measure => simp [numOf]; omega
      | true =>
        have hle : ys.findIdx del ≤ k := by
          apply Nat.le_of_not_lt
          intro hlt2
          have := List.not_of_lt_findIdx hlt2
          rw [hz] at this
          cases this
        have HKE : Hid (idxD del ys = (k : Int)) := by
          have : ys.findIdx del = k := by omega
          show _ = _
          unfold idxD
          rw [this, if_pos hlt]
        rw [hz] at hCM
        clear hz
        generalize ys[k].hb = q at *
        go_wp2_with (fail)
        refine hCM.out.mono ?_
        rintro e w2 ⟨rfl, rfl⟩
        go_wp2
        go_ret
        exact ⟨by rw [HKE.out]; rfl, rfl⟩
    · have HKE : Hid (idxD del ys = -1) := by
        show _ = _
        unfold idxD
        rw [if_neg (by omega)]
      go_wp2
      go_ret
      exact ⟨by rw [HKE.out]; rfl, rfl⟩

end Go.Proofs.YtlljejmblmjjnaaGreat

/- newheap: slices.DeleteFunc over holders. -/
namespace Go.Proofs.YtlljejmblmjjnaaGreat
set_option linter.unusedVariables false
set_option linter.unusedSimpArgs false
open Go.RowKit Go.ChangeMaps

theorem und_helds : Tryz.prog.underlying 95 = some (.slice 76) := by kernel_rfl
theorem zero_held (w : World) : (zeroValue 76).run Tryz.prog w = .ok (.pointer none) w := by kernel_rfl
theorem zero_one_p (n : Nat) : ∀ v ∈ (Builtin.zeroCells (Value.pointer none).cells n).toList, v.oneCell' = true := by
  intro v hv
  simp only [Builtin.zeroCells, Array.toList_map, List.mem_map] at hv
  obtain ⟨k, -, rfl⟩ := hv
  show Value.oneCell' ((#[.pointer none] : Array Value)[k % 1]!) = true
  have h3 : k % 1 < 1 := Nat.mod_lt _ (by decide)
  generalize k % 1 = x at *
  match x, h3 with
  | 0, _ => rfl

def keepD (del : HS → Bool) (ys : List HS) : List HS := ys.filter fun y => !del y
theorem keepD_succ {del : HS → Bool} {ys : List HS} {b : Nat} (hb : b < ys.length) : keepD del (ys.take (b + 1)) = keepD del (ys.take b) ++ if del ys[b] then [] else [ys[b]] := by
  unfold keepD
  rw [List.take_succ_eq_append_getElem hb, List.filter_append]
  congr 1
  cases h : del ys[b] <;> simp [h]
def DelPI (w wr : World) (p cap : Nat) (cur : List Value) (del : HS → Bool) (ys : List HS) (i j : Value) : Prop :=
  ∃ (a b : Nat) (cb : List Value), i = .int .i64 a ∧ j = .int .i64 b ∧ a < b ∧ b ≤ ys.length ∧ wr.heap[p]? = some (.cells cb.toArray 76 (0, 0)) ∧ cb.length = cap ∧ a = (keepD del (ys.take b)).length ∧ cb.take a = hbV (keepD del (ys.take b)) ∧
    (∀ k, b ≤ k → cb[k]? = cur[k]?) ∧ Turned (fun k => k = p) w wr
def DelPDone (w : World) (p cap : Nat) (ys : List HS) (e : Ending) (w' : World) : Prop :=
  ∃ cur', e = .returned (.slice (some ⟨p, 0, none⟩) ys.length cap) ∧ RowP w' p cap cur' ys ∧ Turned (fun k => k = p) w w'

set_option maxRecDepth 8000 in
set_option maxHeartbeats 2000000 in
theorem deleteD_any (del : HS → Bool) (ys : List HS) (g cap cp : Nat) (cur : List Value) (w : World) (h : RowP w g cap cur ys) (ht : Tells w cp ys del g) (hmax : ys.length ≤ 5000) :
    Calls Tryz.prog 80 #[.slice (some ⟨g, 0, none⟩) ys.length cap, delF cp] w (DelPDone w g cap (keepD del ys)) := by
  have HI := Lib.hid (indexD_any del ys g cap cp cur w h ht hmax)
  have H := Lib.hid h
  have HCM := Lib.hid ht
  have hgl := lt_of_block h.at_
  have hfit := h.fits
  have hcl := h.len
  have hmo := h.most
  unfold maxLen at hmo
  clear h ht
  by_cases hd : ys.findIdx del < ys.length
  · have hzt : del (ys[ys.findIdx del]) = true := List.findIdx_getElem (w := hd)
    have hpre : keepD del (ys.take (ys.findIdx del)) = ys.take (ys.findIdx del) := by
      unfold keepD
      rw [List.filter_eq_self]
      intro r hr
      obtain ⟨k, hk, rfl⟩ := List.mem_iff_getElem.1 hr
      rw [List.length_take] at hk
      rw [List.getElem_take]
      have := List.not_of_lt_findIdx (p := del) (xs := ys) (i := k) (by omega)
      rw [this]
      rfl
    have hst : keepD del (ys.take (ys.findIdx del + 1)) = ys.take (ys.findIdx del) := by
      rw [keepD_succ hd, hzt, hpre]
      simp
    rw [show idxD del ys = (ys.findIdx del : Int) by unfold idxD; rw [if_pos hd]] at HI
    have HST := Lib.hid hst
    have hdl : (ys.take (ys.findIdx del)).length = ys.findIdx del := by rw [List.length_take]; omega
    clear hst hpre hzt
    generalize ys.findIdx del = fi at *
    unfold delF at *
    go_enter Tryz.func80, Tryz.ntmps80
    go_wp2_with (fail)
    refine HI.out.mono ?_
    rintro e w1 ⟨rfl, rfl⟩
    have h1 : ((fi : Int) == -1) = false := by simp
    go_wp2
    go_loopw [5, 6] (fun i j wr => DelPI w wr g cap cur del ys i j) (fun _ j _ => ys.length - numOf j)
    case atStart =>
      refine ⟨fi, fi + 1, cur, rfl, by go_num, Nat.lt_succ_self _, hd, H.out.at_, hcl, ?_, ?_, fun _ _ => rfl, Turned.refl _ _⟩
      · rw [HST.out, hdl]
      · rw [HST.out]
        have := H.out.take
        have h2 := congrArg (List.take fi) this
        rw [List.take_take, Nat.min_eq_left (Nat.le_of_lt hd)] at h2
        rw [h2]
        unfold hbV
        rw [List.map_take]
    case round =>
      obtain ⟨a, b, cb, rfl, rfl, hab, hbl, hgr, hcb, hal, htk, hrest, ht⟩ := hrel
      have HGR := Lib.hid hgr
      by_cases hlt : b < ys.length
      · have y0 : wr.cell? ⟨g, b, none⟩ = some (.pointer (some ⟨ys[b].hb, 0, none⟩)) := by rw [cell_of_block hgr, List.getElem?_toArray, hrest _ (Nat.le_refl _)]; exact H.out.get hlt
        have hCM := Lib.hid (HCM.out ys[b] (List.getElem_mem hlt) wr ht)
        have hi1 : (0 : Int) ≤ (b : Int) ∧ (b : Int) < ys.length := by omega
        have hkw : IntKind.i64.wrap ((b : Int) + 1) = (b : Int) + 1 := by rw [IntKind.wrap_i64]; omega
        have hs := keepD_succ (del := del) hlt
        have HREST := Lib.hid hrest
        have HTK := Lib.hid htk
        have HT := Lib.hid ht
        have HAL := Lib.hid hal
        have HAB := Lib.hid hab
        have hac0 : a < cb.length := by omega
        obtain ⟨Q0, hQ0⟩ : ∃ Q0, cb[a]? = some Q0 := ⟨_, List.getElem?_eq_getElem hac0⟩
        have o0 : wr.cell? ⟨g, a, none⟩ = some Q0 := by rw [cell_of_block hgr, List.getElem?_toArray]; exact hQ0
        have f0 := frozen_of_block hgr a
        clear hgr hrest htk ht hal hQ0
        have hi2 : (0 : Int) ≤ (a : Int) ∧ (a : Int) < ys.length := by omega
        have hkw2 : IntKind.i64.wrap ((a : Int) + 1) = (a : Int) + 1 := by rw [IntKind.wrap_i64]; omega
        cases hz : del ys[b] with
        | false =>
          rw [hz] at hs
          have HS := Lib.hid hs
          rw [hz] at hCM
          clear hz hs
          generalize hr0 : ys[b] = rr at *
          clear hr0
          go_wp2_with (fail)
          refine hCM.out.mono ?_
          rintro e w2 ⟨rfl, rfl⟩
          go_wp2
          go_roundw
          case rel =>
            refine ⟨a + 1, b + 1, cb.set a (.pointer (some ⟨rr.hb, 0, none⟩)), by go_num, by go_num, by omega, hlt, ?_, ?_, ?_, ?_, ?_, ?_⟩
            · rw [heap_setCell_eq HGR.out _, List.setIfInBounds_toArray]
            · rw [List.length_set]; exact hcb
            · rw [HS.out, List.length_append, ← HAL.out]; rfl
            · rw [HS.out, if_neg (by simp), List.take_add_one, List.getElem?_set_self (by omega), List.take_set_of_le (Nat.le_refl _), HTK.out]
              unfold hbV
              rw [List.map_append]
              rfl
            · intro k hk
              rw [List.getElem?_set_ne (by omega)]
              exact HREST.out k (by omega)
            · exact HT.out.setCell (.inl rfl) _
          case measure => simp [numOf]; omega
        | true =>
          rw [hz] at hs
          have HS := Lib.hid hs
          rw [hz] at hCM
          clear hz hs
          generalize hr0 : ys[b] = rr at *
          clear hr0
          go_wp2_with (fail)
          refine hCM.out.mono ?_
          rintro e w2 ⟨rfl, rfl⟩
          go_wp2
          go_roundw
          case rel =>
            refine ⟨a, b + 1, cb, rfl, by go_num, by omega, hlt, HGR.out, hcb, ?_, ?_, fun k hk => HREST.out k (by omega), HT.out⟩
            · rw [HS.out, if_pos trivial, List.append_nil]; exact HAL.out
            · rw [HS.out, if_pos trivial, List.append_nil]; exact HTK.out
          case measure => simp [numOf]; omega
      · obtain rfl : b = ys.length := by omega
        rw [List.take_length] at hal htk
        have HTK := Lib.hid htk
        have HT := Lib.hid ht
        have HAL := Lib.hid hal
        have hac : a ≤ ys.length := by omega
        have hac2 : a < cap := by omega
        clear hgr hrest htk ht hal
        go_wp2_with (refine wpList_clear_any rfl _ 95 rfl 76 und_helds (.pointer none) zero_held 1 rfl (by decide) zero_one_p _ (ys.length - a) _ rfl g a cb _ HGR.out (fun hp => by first | rfl | (rw [if_neg (by omega)]) | (rw [if_neg (by omega)]; rfl) | (exfalso; omega)) (by omega) ?_; intro wC vC Z HZ HGC TC)
        go_ret
        have hZ := HZ.out
        refine ⟨_, by rw [← HAL.out]; rfl, ⟨HGC.out, ?_, by rw [← HAL.out]; omega, by rw [length_splice _ _ _ (by omega)]; exact hcb, by unfold maxLen; omega⟩, HT.out.trans TC.out (fun _ h _ => h)⟩
        rw [← HAL.out, splice_take_lo _ _ _ _ (Nat.le_refl _) (by omega), HTK.out]
  · have hall : keepD del ys = ys := by
      unfold keepD
      rw [List.filter_eq_self]
      intro r hr
      obtain ⟨k, hk, rfl⟩ := List.mem_iff_getElem.1 hr
      have := List.not_of_lt_findIdx (p := del) (xs := ys) (i := k) (by omega)
      rw [this]
      rfl
    rw [hall]
    rw [show idxD del ys = -1 by unfold idxD; rw [if_neg hd]] at HI
    unfold delF at *
    go_enter Tryz.func80, Tryz.ntmps80
    go_wp2_with (fail)
    refine HI.out.mono ?_
    rintro e w1 ⟨rfl, rfl⟩
    go_wp2
    go_ret
    exact ⟨cur, rfl, H.out, Turned.refl _ _⟩

end Go.Proofs.YtlljejmblmjjnaaGreat

/- newheap: slices.MinFunc over holders, best, Ready. -/
namespace Go.Proofs.YtlljejmblmjjnaaGreat
set_option linter.unusedVariables false
set_option linter.unusedSimpArgs false
open Go.RowKit Go.ChangeMaps

def minY : HS → List HS → HS
  | m, [] => m
  | m, y :: l => minY (if y.x.L.length < m.x.L.length then y else m) l
theorem minY_x : ∀ (l : List HS) (m : HS), (minY m l).x = minP m.x (l.map (·.x))
  | [], _ => rfl
  | y :: l, m => by
    unfold minY
    rw [minY_x l]
    show minP (if y.x.L.length < m.x.L.length then y else m).x _ = minP (if y.x.L.length < m.x.L.length then y.x else m.x) _
    congr 1
    split <;> rfl
theorem minY_mem : ∀ (l : List HS) (m : HS), minY m l = m ∨ minY m l ∈ l
  | [], m => .inl rfl
  | x :: l, m => by
    unfold minY
    rcases minY_mem l (if x.x.L.length < m.x.L.length then x else m) with h | h
    · rw [h]
      split
      · exact .inr List.mem_cons_self
      · exact .inl rfl
    · exact .inr (List.mem_cons_of_mem _ h)

set_option maxRecDepth 8000 in
set_option maxHeartbeats 2000000 in
theorem minF_any (cl : Nat) (bs : List Int) (ys : List HS) (g cap : Nat) (cur : List Value) (w : World) (h : RowP w g cap cur ys) (he : ∀ y ∈ ys, HeldAt w cl bs y) (hn : 0 < ys.length) (hmax : ys.length ≤ 5000) (m0 : HS) (l0 : List HS) (hys : ys = m0 :: l0) :
    Calls Tryz.prog 83 #[.slice (some ⟨g, 0, none⟩) ys.length cap, .func (.func 84) #[] #[]] w fun e w' => e = .returned (.pointer (some ⟨(minY m0 l0).hb, 0, none⟩)) ∧ Below w.heap.size w w' := by
  have HC := Lib.hid (fun k (hk : k < ys.length) => h.cell hk)
  have HE := Lib.hid he
  have hgl := lt_of_block h.at_
  have x0 := h.cell hn
  have hz0 : ys[0] = m0 := by simp [hys]
  rw [hz0] at x0
  have hlt1 : ((ys.length : Int) < 1) = False := by simp; omega
  have hi0 : (0 : Int) ≤ 0 ∧ (0 : Int) < ys.length := by omega
  have HY := Lib.hid hys
  clear h he hz0 hys
  go_enter Tryz.func83, Tryz.ntmps83
  go_wp2
  go_loopw [5, 6] (fun m i wr => ∃ (k : Nat) (y : HS), i = .int .i64 k ∧ 1 ≤ k ∧ k ≤ ys.length ∧ y ∈ ys ∧ m = .pointer (some ⟨y.hb, 0, none⟩) ∧ minY y (ys.drop k) = minY m0 l0 ∧ Below w.heap.size w wr) (fun _ i _ => ys.length - numOf i)
  case atStart =>
    refine ⟨1, m0, rfl, Nat.le_refl _, hn, by rw [HY.out]; exact List.mem_cons_self, rfl, by rw [HY.out]; rfl, Below.refl _ _⟩
  case round =>
    obtain ⟨k, y, rfl, hk1, hk, hym, rfl, hmin, hb⟩ := hrel
    by_cases hlt : k < ys.length
    · have x0 := cell_past hb hgl (HC.out k hlt)
      have hY := HE.out y hym
      have hZ := HE.out ys[k] (List.getElem_mem hlt)
      have hbc : ∀ z : HS, HeldAt w cl bs z → HeldAt wr cl bs z := fun z hz => hz.turned (Turned.of_below (F := fun _ => False) hb (Nat.le_refl _)) (fun h => h) (fun h => h)
      have HCM := Lib.hid (best2_any cl bs ys[k] y wr (hbc _ hZ) (hbc _ hY))
      have hdr : ys.drop k = ys[k] :: ys.drop (k + 1) := List.drop_eq_getElem_cons hlt
      have HMIN : Hid (minY (if ys[k].x.L.length < y.x.L.length then ys[k] else y) (ys.drop (k + 1)) = minY m0 l0) := by
        have := hmin
        rw [hdr] at this
        exact this
      have HM2 := Lib.hid (List.getElem_mem hlt)
      have hi1 : (0 : Int) ≤ (k : Int) ∧ (k : Int) < ys.length := by omega
      have hkw : IntKind.i64.wrap ((k : Int) + 1) = (k : Int) + 1 := by rw [IntKind.wrap_i64]; omega
      have HB := Lib.hid hb
      have HYM := Lib.hid hym
      have hszr := hb.size
      clear hY hZ hbc hdr hmin hb hym
      generalize ys[k] = z at *
      by_cases hlen : z.x.L.length < y.x.L.length
      · rw [if_pos hlen] at HMIN
        go_wp2_with (fail)
        refine HCM.out.mono ?_
        rintro e w2 ⟨⟨n, rfl, hnn⟩, hb2⟩
        have hneg : n < 0 := hnn.2 hlen
        have x1 := cell_past hb2 (cell_lt x0) x0
        have HB2 := Lib.hid (Below.via hb2 hszr HB.out)
        clear hb2 hnn x0
        go_wp2
        go_roundw
        case rel => exact ⟨k + 1, z, by go_num, by omega, hlt, HM2.out, rfl, HMIN.out, HB2.out⟩
        case measure => simp [numOf]; omega
      · rw [if_neg hlen] at HMIN
        go_wp2_with (fail)
        refine HCM.out.mono ?_
        rintro e w2 ⟨⟨n, rfl, hnn⟩, hb2⟩
        have hneg : ¬ n < 0 := fun hh => hlen (hnn.1 hh)
        have HB2 := Lib.hid (Below.via hb2 hszr HB.out)
        clear hb2 hnn x0
        go_wp2
        go_roundw
        case rel => exact ⟨k + 1, y, by go_num, by omega, hlt, HYM.out, rfl, HMIN.out, HB2.out⟩
        case measure => simp [numOf]; omega
    · have hke : ys.drop k = [] := List.drop_eq_nil_of_le (by omega)
      rw [hke] at hmin
      have HM : Hid (y = minY m0 l0) := hmin
      have HB := Lib.hid hb
      clear hb hmin hke
      go_wp2
      go_ret
      exact ⟨by rw [← HM.out]; rfl, HB.out⟩

theorem RowP.of_own' {w : World} {base : Nat} {v : Value} {ys : List HS} (h : w.ownsRow base 76 1 v ys.length (hbV ys)) :
    (v = .slice none 0 0 ∧ ys = []) ∨ ∃ g cap cur, v = .slice (some ⟨g, 0, none⟩) ys.length cap ∧ base ≤ g ∧ RowP w g cap cur ys := by
  rcases h.2 with ⟨h1, h2⟩ | ⟨g, cap, cur, rfl, hb, hg, h1, h2, h3, h4⟩
  · exact .inl ⟨h1, List.eq_nil_of_length_eq_zero h2⟩
  · right
    refine ⟨g, cap, cur.toList, rfl, hb, ?_, by rw [← h4, Nat.mul_one], h1, by rw [Array.length_toList, h3, Nat.mul_one], h2⟩
    rw [Array.toArray_toList]
    exact hg

set_option maxRecDepth 8000 in
set_option maxHeartbeats 1000000 in
theorem indexD_nil (cp : Nat) (w : World) : Calls Tryz.prog 123 #[.slice none 0 0, delF cp] w fun e w' => e = .returned (.int .i64 (-1)) ∧ w = w' := by
  unfold delF
  go_enter Tryz.func123, Tryz.ntmps123
  go_wp2
  go_loopw [8] (fun i wr => i = .int .i64 0 ∧ w = wr) (fun i _ => 0)
  case atStart => exact ⟨rfl, rfl⟩
  case round =>
    obtain ⟨rfl, rfl⟩ := hrel
    go_wp2
    go_ret
    exact ⟨rfl, rfl⟩
set_option maxRecDepth 8000 in
set_option maxHeartbeats 1000000 in
theorem deleteD_nil (cp : Nat) (w : World) : Calls Tryz.prog 80 #[.slice none 0 0, delF cp] w fun e w' => e = .returned (.slice none 0 0) ∧ w = w' := by
  have HI := Lib.hid (indexD_nil cp w)
  unfold delF at *
  go_enter Tryz.func80, Tryz.ntmps80
  go_wp2_with (fail)
  refine HI.out.mono ?_
  rintro e w1 ⟨rfl, rfl⟩
  go_wp2
  go_ret
  exact ⟨rfl, rfl⟩

def delB (but : Option HS) (y : HS) : Bool := !(!(but.map (·.hb) == some y.hb) && y.x.ready)
def bestY (zs : List HS) (cls : Int) (but : Option HS) : Option HS := match keepD (delB but) (ofC zs cls) with | [] => none | m :: l => some (minY m l)
theorem keepD_mem {del : HS → Bool} {ys : List HS} {y : HS} (h : y ∈ keepD del ys) : y ∈ ys := (List.mem_filter.1 h).1
theorem bestY_nil {zs : List HS} {cls : Int} {but : Option HS} (h : keepD (delB but) (ofC zs cls) = []) : bestY zs cls but = none := by unfold bestY; split <;> simp_all
theorem bestY_cons {zs : List HS} {cls : Int} {but : Option HS} {m : HS} {l : List HS} (h : keepD (delB but) (ofC zs cls) = m :: l) : bestY zs cls but = some (minY m l) := by unfold bestY; split <;> simp_all
theorem bestY_mem {zs : List HS} {cls : Int} {but : Option HS} {y : HS} (h : bestY zs cls but = some y) : y ∈ zs := by
  unfold bestY at h
  split at h
  · cases h
  · next m l e =>
    cases h
    have : minY m l ∈ keepD (delB but) (ofC zs cls) := by
      rw [e]
      rcases minY_mem l m with hh | hh
      · rw [hh]; exact List.mem_cons_self
      · exact List.mem_cons_of_mem _ hh
    exact (List.mem_filter.1 (keepD_mem this)).1
theorem HeapAt.bestY_x {w : World} {H : HL} {pages : Nat} {s : HP} {zs : List HS} (h : HeapAt w H pages s) (hz : Sorted H s zs) (cls : Int) (but : Option HS) (hbut : ∀ y, but = some y → y ∈ H.xs) :
    (bestY zs cls but).map (·.x) = bestP s.A cls (but.map (·.x.page)) := by
  have e1 : (keepD (delB but) (ofC zs cls)).map (·.x) = readyP s.A cls (but.map (·.x.page)) := by
    have e0 : ofC zs cls = zs.filter (fun y => ((fun x : PS => (x.cls : Int) == cls) ∘ fun y : HS => y.x) y) := rfl
    unfold keepD readyP clsP
    rw [e0, ← hz.2, List.filter_map, List.filter_map]
    congr 1
    apply List.filter_congr
    intro y hy
    have hym : y ∈ H.xs := hz.1.mem_iff.1 (List.mem_filter.1 hy).1
    unfold delB
    rw [Bool.not_not]
    show _ = (!(but.map (·.x.page) == some y.x.page) && y.x.ready)
    congr 2
    cases but with
    | none => rfl
    | some u =>
      have hu := hbut u rfl
      show (some u.hb == some y.hb) = (some u.x.page == some y.x.page)
      by_cases e : u = y
      · subst e; simp
      · have n1 : u.hb ≠ y.hb := fun e2 => e (nodup_uniq h.xs.hbs hu hym e2)
        have n2 : u.x.page ≠ y.x.page := fun e2 => e (h.uniq hu hym e2)
        show (u.hb == y.hb) = (u.x.page == y.x.page)
        rw [beq_eq_false_iff_ne.2 n1, beq_eq_false_iff_ne.2 n2]
  unfold bestY bestP
  rw [← e1]
  cases keepD (delB but) (ofC zs cls) with
  | nil => rfl
  | cons m l =>
    simp only [List.map_cons, Option.map_some]
    rw [minY_x]

set_option maxRecDepth 8000 in
set_option maxHeartbeats 2000000 in
theorem best_any {w : World} {H : HL} {pages : Nat} {s : HP} {zs : List HS} (h : HeapAt w H pages s) (hz : Sorted H s zs) (cls : Int) (but : Option HS) (hbut : ∀ y, but = some y → y ∈ H.xs) :
    Calls Tryz.prog 44 #[.pointer (some ⟨H.h, 0, none⟩), .int .i64 cls, ptrH but] w fun e w' => e = .returned (ptrH (bestY zs cls but)) ∧ Below w.heap.size w w' := by
  obtain ⟨b1, b2, b3⟩ := h.bound
  have hzl : zs.length = s.A.length := by rw [← hz.2, List.length_map]
  have hol : (ofC zs cls).length ≤ 64 := by have := ofC_le zs cls zs.length; rw [List.take_length] at this; omega
  obtain ⟨q, hq⟩ : ∃ q, ptrH but = .pointer q := by cases but <;> exact ⟨_, rfl⟩
  have HQ := Lib.hid hq
  rw [hq]
  clear hq
  have HW1 : Hid (Below w.heap.size w (w.alloc (.cells #[.pointer q] 76))) := (Below.refl _ _).alloc (Nat.le_refl _) _
  have HBX : Hid ((w.alloc (.cells #[.pointer q] 76)).heap[w.heap.size]? = some (.cells #[.pointer q] 76 (0, 0))) := heap_alloc_new _ _
  have hsz : (w.alloc (.cells #[.pointer q] 76)).heap.size = w.heap.size + 1 := by simp
  have HOF := Lib.hid (of_any (h.below HW1.out) hz cls)
  have H0 := Lib.hid h
  have HZ := Lib.hid hz
  have HBUT := Lib.hid hbut
  clear h hz hbut
  have hmem : ∀ y ∈ ofC zs cls, y ∈ H.xs := fun y hy => HZ.out.1.mem_iff.1 (List.mem_filter.1 hy).1
  go_enter Tryz.func44, Tryz.ntmps44
  go_wp2_with (fail)
  refine HOF.out.mono ?_
  rintro e w1 ⟨v1, rfl, hown, hb1⟩
  have hs1 := hb1.size
  have HB1 : Hid (Below w.heap.size w w1) := Below.via hb1 (by omega) HW1.out
  have HBX1 : Hid (w1.heap[w.heap.size]? = some (.cells #[.pointer q] 76 (0, 0))) := (hb1.block _ (by omega)).trans HBX.out
  have H1 := Lib.hid (H0.out.below HB1.out)
  clear hb1
  rcases RowP.of_own' hown with ⟨rfl, hys⟩ | ⟨g, cap, cur, rfl, hg, hrow⟩
  · have HR : Hid (ptrH (bestY zs cls but) = .pointer none) := by
      show _ = _
      unfold bestY keepD
      rw [hys]
      rfl
    have HD : Hid (∀ w, Calls Tryz.prog 80 #[.slice none 0 0, .func (.func 81) #[] #[.pointer (some ⟨w1.heap.size, 0, none⟩)]] w fun e w' => e = .returned (.slice none 0 0) ∧ w = w') := fun w => deleteD_nil _ _
    clear hys hown HD
    go_wp2_with (fail)
    refine (deleteD_nil _ _).mono ?_
    rintro e w2 ⟨rfl, rfl⟩
    go_wp2
    go_ret
    exact ⟨by rw [HR.out]; rfl, HB1.out⟩
  · have hne : ∀ y ∈ H.xs, y.hb ≠ g ∧ y.sb ≠ g := by
      intro y hy
      have h1 := lt_of_block (H0.out.each y hy).held
      have h2 := lt_of_block (H0.out.each y hy).slab
      omega
    have HPO : Hid (ptrO (but.map (·.hb)) = .pointer q) := by rw [← HQ.out]; cases but <;> rfl
    have HTL : Hid (Tells w1 w.heap.size (ofC zs cls) (delB but) g) := by
      intro y hy W hW
      have hym := hmem y hy
      have hEy := (H1.out.each y hym).turned hW (hne y hym).1 (hne y hym).2
      refine (best1_any H.cl w.heap.size H.bs y (Option.map (fun u : HS => u.hb) but) W hEy ?_ ?_).mono (fun e w' h => h)
      · intro k hk
        cases hbb : but with
        | none => rw [hbb] at hk; cases hk
        | some u =>
          rw [hbb] at hk
          cases hk
          have hum := HBUT.out u hbb
          exact ⟨_, _, ((H1.out.each u hum).turned hW (hne u hum).1 (hne u hum).2).held⟩
      · rw [HPO.out]
        refine turned_cell hW (by omega) ?_
        rw [cell_of_block HBX1.out]
        rfl
    have HDL := Lib.hid (deleteD_any (delB but) (ofC zs cls) g cap w.heap.size cur w1 hrow HTL.out (by omega))
    have hgw : w.heap.size ≤ g := by omega
    clear hrow hown
    unfold delF at HDL
    go_wp2_with (fail)
    refine HDL.out.mono ?_
    rintro e w2 ⟨cur', rfl, hrow2, ht2⟩
    have HB2 := Lib.hid (HB1.out.trans (ht2.below (B := w.heap.size) (fun k hk => by omega) HB1.out.size))
    have HE2 : Hid (∀ y ∈ keepD (delB but) (ofC zs cls), HeldAt w2 H.cl H.bs y) := fun y hy => (H1.out.each y (hmem y (keepD_mem hy))).turned ht2 (hne y (hmem y (keepD_mem hy))).1 (hne y (hmem y (keepD_mem hy))).2
    have HR2 := Lib.hid hrow2
    have hkl : (keepD (delB but) (ofC zs cls)).length ≤ 64 := Nat.le_trans (List.length_filter_le _ _) hol
    clear hrow2 ht2 hmem hol
    cases hk : keepD (delB but) (ofC zs cls) with
    | nil =>
      have HR : Hid (ptrH (bestY zs cls but) = .pointer none) := (by show _ = _; first | rw [bestY_nil hk]; rfl | rw [bestY_cons hk]; rfl)
      rw [hk] at HR2
      clear hk
      go_wp2
      go_ret
      exact ⟨by rw [HR.out]; rfl, HB2.out⟩
    | cons m l =>
      rw [hk] at HE2 HR2 hkl
      have HM := Lib.hid (minF_any H.cl H.bs (m :: l) g cap cur' w2 HR2.out HE2.out (by simp) (by omega) m l rfl)
      have hlz : ((((m :: l).length : Nat) : Int) == 0) = false := by simp; omega
      have HR : Hid (ptrH (bestY zs cls but) = .pointer (some ⟨(minY m l).hb, 0, none⟩)) := (by show _ = _; first | rw [bestY_nil hk]; rfl | rw [bestY_cons hk]; rfl)
      clear hk
      generalize (m :: l).length = n at *
      go_wp2_with (fail)
      refine HM.out.mono ?_
      rintro e w3 ⟨rfl, hb3⟩
      have HB3 := Lib.hid (Below.via hb3 HB2.out.size HB2.out)
      clear hb3
      go_wp2
      go_ret
      exact ⟨by rw [HR.out]; rfl, HB3.out⟩

end Go.Proofs.YtlljejmblmjjnaaGreat
