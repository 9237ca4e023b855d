/- oldheap: how a heap of old slabs lies in memory. -/
import Derived.Test.YtlljejmblmjjnaaGreatDoorJA
import Derived.Test.YtlljejmblmjjnaaGreatDoorIA
import Derived.Test.YtlljejmblmjjnaaGreatDoorZw
import Derived.Test.YtlljejmblmjjnaaGreatDoorZB
import Derived.Test.YtlljejmblmjjnaaGreatDoorZA
import Derived.Maps.Keyed
import Derived.WideKeyPair
import Derived.WalkKit
import Derived.WalkSpells
import Derived.WalkLawsBesides
import Derived.BigQuiet
import Derived.Lib.Hide
namespace Go.Proofs.YtlljejmblmjjnaaGreatDoor
set_option linter.unusedVariables false
set_option linter.unusedSimpArgs false
open Go.RowKit Go.ChangeMaps

/-- An old slab in memory, and when its entry was born. -/
structure OS where
  L : OL
  born : Nat
  x : PO
def oentry (y : OS) : MapEntry := { key := .int .i64 y.x.page, val := .pointer (some ⟨y.L.s, 0, none⟩), born := y.born }
/-- Where a heap lies, and what the statements don't ask of it: entries, counts, large spans, the slabs and those that left. -/
structure OHL where
  h : Nat
  mb : Nat
  clk : Nat
  gr : Nat
  cl : Nat
  rg : Nat
  ib : Nat
  lb : Nat
  p : GPl
  E : List PE
  b : Nat
  c : Nat
  G : List (Nat × Nat)
  xs : List OS
  left : List OS
def slabF (y : OS) : Nat → Prop := fun k => k = y.L.s ∨ k = y.L.r ∨ k = y.L.b
def OHL.F (H : OHL) : Nat → Prop := fun k => k = H.h ∨ k = H.mb ∨ k = H.gr ∨ k = H.rg ∨ ringF H.ib H.lb k ∨ H.p.F k ∨ ∃ y ∈ H.xs ++ H.left, slabF y k
def sealK (b : Bool) : Nat := if b then 1 else 0
structure PO.Ok0 (pages : Nat) (x : PO) : Prop where
  al : x.page % 4 = 0
  fits : x.page + 4 ≤ pages
  cls : x.cls < 16
  top : x.x < 2 ^ slA x.cls
theorem PO.Ok.ok0 {pages : Nat} {x : PO} (h : x.Ok pages) : x.Ok0 pages := ⟨h.al, h.fits, h.cls, h.top⟩
/-- Slabs of the heap (A), and slabs that left (B): their spans are taken. -/
structure OBase (pages : Nat) (l : List Run) (A B : List PO) : Prop where
  tile : Tile 0 l pages
  srt : A.Pairwise fun x y => x.page < y.page
  each : ∀ x ∈ A ++ B, x.Ok0 pages
  tk : ∀ x ∈ A ++ B, (⟨x.page, 4, true⟩ : Run) ∈ l
  sep : ∀ x ∈ A, ∀ z ∈ B, x.page ≠ z.page
  nd : (B.map (·.page)).Nodup
/-- The ground's entries. -/
structure EntO (l : List Run) (E : List PE) (A : List PO) (G : List (Nat × Nat)) (c : Nat) : Prop where
  ent : ∀ x ∈ A, ∀ k, x.page ≤ k → k < x.page + 4 → ∃ st, E.getD k none = some (⟨x.page, 0, x.cls, sealK x.sealed⟩, st)
  back : ∀ (k : Nat) e st, E.getD k none = some (e, st) → ∃ r ∈ l, r.taken = true ∧ e.span = r.page ∧ r.page ≤ k ∧ k < r.stop
  lg : ∀ g ∈ G, (⟨g.1, g.2, true⟩ : Run) ∈ l ∧ ∀ k, g.1 ≤ k → k < g.1 + g.2 → ∃ st, E.getD k none = some (⟨g.1, 2, 0, 0⟩, st)
  ver : ∀ (k : Nat) e st, E.getD k none = some (e, st) → e.version ≠ 0 → ∃ g ∈ G, g.1 ≤ k ∧ k < g.1 + g.2
  gnd : (G.map (·.1)).Nodup
  sum : (G.map (·.2)).sum = c
structure OXs (clk : Nat) (xs left : List OS) : Prop where
  ss : ((xs ++ left).map (·.L.s)).Nodup
  rs : ((xs ++ left).map (·.L.r)).Nodup
  bs : ((xs ++ left).map (·.L.b)).Nodup
  borns : (xs.map (·.born)).Nodup
  old : ∀ y ∈ xs, y.born < clk
structure OHeapM (w : World) (H : OHL) (pages : Nat) (s : OP) : Prop where
  obj : w.heap[H.h]? = some (.cells #[.pointer (some ⟨H.gr, 0, none⟩), .map (some H.mb), .pointer (some ⟨H.rg, 0, none⟩)] 80 (0, 0))
  ground : GroundAt w H.gr H.cl H.p pages s.l H.E H.b 0 H.c
  ring : RingIn w H.rg H.ib H.lb (pages / 4) s.R
  map : w.heap[H.mb]? = some (.map (H.xs.map oentry).toArray H.clk)
  off : ¬ H.p.F H.mb
  tab : Tab w
  pos : ¬ H.F 0
  each : ∀ y ∈ H.xs ++ H.left, OSlabAt w y.L y.x.O
  xs : OXs H.clk H.xs H.left
  perm : (H.xs.map (·.x)).Perm s.A
  base : OBase pages s.l s.A (H.left.map (·.x))
  ent : EntO s.l H.E (s.A ++ H.left.map (·.x)) H.G H.c
  num : freeN s.l + H.b + H.c = pages
  cnt : H.b = 4 * (s.A.length + H.left.length)

/-- A ground's own blocks, by their kinds. -/
theorem GroundAt.offO {w : World} {gr cl pages a b c : Nat} {p : GPl} {l : List Run} {E : List PE} (h : GroundAt w gr cl p pages l E a b c) {x : Nat} {cs : Array Value} {T : TypeId} (hx : w.heap[x]? = some (.cells cs T (0, 0)))
    (h1 : T ≠ 169) (h2 : T ≠ 108) (h3 : T ≠ 177) (h4 : T ≠ 208) (h5 : T ≠ 211) (h6 : T ≠ 161) : ¬ p.F x := by
  have hm := h.map.off hx (by intro cs hh; cases hh; exact h3 rfl) (by intro cs hh; cases hh; exact h4 rfl) (by intro cs hh; cases hh; exact h5 rfl)
  have hs := h.spans.off hx (by intro cs hh; cases hh; exact h1 rfl) (by intro cs hh; cases hh; exact h2 rfl)
  have hl := h.led.off hx (by intro cs hh; cases hh; exact h6 rfl) (by intro es clk hh; cases hh)
  rintro (hh | hh | hh | hh | hh | hh | hh)
  · exact hs (.inl hh)
  · exact hs (.inr hh)
  · exact hm (.inl hh)
  · exact hm (.inr (.inl hh))
  · exact hm (.inr (.inr hh))
  · exact hl (.inl hh)
  · exact hl (.inr hh)
theorem blockO_ne {w : World} {x y : Nat} {cs cs' : Array Value} {T T' : TypeId} {f f' : Nat × Nat} (hx : w.heap[x]? = some (.cells cs T f)) (hy : w.heap[y]? = some (.cells cs' T' f')) (h : T ≠ T') : x ≠ y := by
  rintro rfl
  rw [hx] at hy
  cases hy
  exact h rfl
theorem blockO_ne_map {w : World} {x y : Nat} {cs : Array Value} {T : TypeId} {f : Nat × Nat} {es : Array MapEntry} {clk : Nat} (hx : w.heap[x]? = some (.cells cs T f)) (hy : w.heap[y]? = some (.map es clk)) : x ≠ y := by
  rintro rfl
  rw [hx] at hy
  cases hy
theorem OSlabAt.blocks {w : World} {L : OL} {S : OM} (h : OSlabAt w L S) : (∃ cs, w.heap[L.s]? = some (.cells cs 86 (0, 0))) ∧ (∃ cs, w.heap[L.r]? = some (.cells cs 154 (0, 0))) ∧ (∃ cs, w.heap[L.b]? = some (.cells cs 148 (0, 0))) := ⟨⟨_, h.obj⟩, ⟨_, h.row.obj⟩, ⟨_, h.row.words⟩⟩
/-- Blocks of some kinds alone. -/
def TyF (w : World) (F : Nat → Prop) (Ts : List TypeId) : Prop := ∀ k, F k → ∃ cs T, w.heap[k]? = some (.cells cs T (0, 0)) ∧ T ∈ Ts
theorem TyF.off {w : World} {F : Nat → Prop} {Ts : List TypeId} (h : TyF w F Ts) {x : Nat} {cs : Array Value} {T : TypeId} (hx : w.heap[x]? = some (.cells cs T (0, 0))) (hT : T ∉ Ts) : ¬ F x := fun hf => by
  obtain ⟨cs', T', e, ht⟩ := h x hf
  rw [hx] at e
  cases e
  exact hT ht
theorem TyF.off_map {w : World} {F : Nat → Prop} {Ts : List TypeId} (h : TyF w F Ts) {x clk : Nat} {es : Array MapEntry} (hx : w.heap[x]? = some (.map es clk)) : ¬ F x := fun hf => by
  obtain ⟨cs', T', e, ht⟩ := h x hf
  rw [hx] at e
  cases e
theorem TyF.ring {w : World} {r ib lb n : Nat} {R : Nat → List Nat} (h : RingIn w r ib lb n R) : TyF w (ringF ib lb) [187, 166] := by
  obtain ⟨-, ⟨c1, h1⟩, ⟨c2, h2⟩⟩ := h.blocks
  rintro k (rfl | rfl)
  · exact ⟨_, _, h1, by simp⟩
  · exact ⟨_, _, h2, by simp⟩
theorem TyF.word {w : World} {L : OL} {S : OM} (h : OSlabAt w L S) : TyF w (fun k => k = L.b) [148] := by
  rintro k rfl
  exact ⟨_, _, h.row.words, by simp⟩
theorem TyF.slab {w : World} {y : OS} {S : OM} (h : OSlabAt w y.L S) : TyF w (slabF y) [86, 154, 148] := by
  obtain ⟨⟨c1, h1⟩, ⟨c2, h2⟩, ⟨c3, h3⟩⟩ := h.blocks
  rintro k (rfl | rfl | rfl)
  · exact ⟨_, _, h1, by simp⟩
  · exact ⟨_, _, h2, by simp⟩
  · exact ⟨_, _, h3, by simp⟩

theorem OHeapM.turned {F : Nat → Prop} {w w' : World} {H : OHL} {pages : Nat} {s : OP} (h : OHeapM w H pages s) (t : Turned F w w') (h0 : ¬ F 0) (hF : ∀ k, H.F k → ¬ F k) : OHeapM w' H pages s :=
  ⟨(t.block _ (lt_of_block h.obj) (hF _ (.inl rfl))).trans h.obj, h.ground.turned t (hF _ (.inr (.inr (.inl rfl)))) (fun k hk => hF _ (.inr (.inr (.inr (.inr (.inr (.inl hk))))))),
    h.ring.turned t (hF _ (.inr (.inr (.inr (.inl rfl))))) (hF _ (.inr (.inr (.inr (.inr (.inl (.inl rfl))))))) (hF _ (.inr (.inr (.inr (.inr (.inl (.inr rfl))))))),
    (t.block _ (lt_of_block h.map) (hF _ (.inr (.inl rfl)))).trans h.map, h.off, h.tab.turned t h0, h.pos,
    fun y hy => (h.each y hy).turned t (hF _ (.inr (.inr (.inr (.inr (.inr (.inr ⟨y, hy, .inl rfl⟩))))))) (hF _ (.inr (.inr (.inr (.inr (.inr (.inr ⟨y, hy, .inr (.inl rfl)⟩))))))) (hF _ (.inr (.inr (.inr (.inr (.inr (.inr ⟨y, hy, .inr (.inr rfl)⟩))))))),
    h.xs, h.perm, h.base, h.ent, h.num, h.cnt⟩
theorem OHeapM.below {w w' : World} {H : OHL} {pages : Nat} {s : OP} (h : OHeapM w H pages s) (hb : Below w.heap.size w w') : OHeapM w' H pages s :=
  h.turned (Turned.of_below (F := fun _ => False) hb (Nat.le_refl _)) (fun h => h) (fun _ _ h => h)
theorem OHeapM.drew {w : World} {H : OHL} {pages : Nat} {s : OP} (h : OHeapM w H pages s) : OHeapM w.drew H pages s := h.below (Below.drew (Below.refl _ _))
theorem OHeapM.mem {w : World} {H : OHL} {pages : Nat} {s : OP} (h : OHeapM w H pages s) {x : PO} (hx : x ∈ s.A) : ∃ y ∈ H.xs, y.x = x := by
  have := h.perm.mem_iff.2 hx
  obtain ⟨y, hy, rfl⟩ := List.mem_map.1 this
  exact ⟨y, hy, rfl⟩
theorem OHeapM.mem' {w : World} {H : OHL} {pages : Nat} {s : OP} (h : OHeapM w H pages s) {y : OS} (hy : y ∈ H.xs) : y.x ∈ s.A :=
  h.perm.mem_iff.1 (List.mem_map.2 ⟨y, hy, rfl⟩)
theorem nodupO_uniq {α β : Type} {f : α → β} {l : List α} (hn : (l.map f).Nodup) {y z : α} (hy : y ∈ l) (hz : z ∈ l) (hp : f y = f z) : y = z := by
  obtain ⟨i, hi, rfl⟩ := List.mem_iff_getElem.1 hy
  obtain ⟨j, hj, rfl⟩ := List.mem_iff_getElem.1 hz
  have := (List.nodup_iff_pairwise_ne.1 hn)
  rw [List.pairwise_map] at this
  have hp2 := List.pairwise_iff_getElem.1 this
  rcases Nat.lt_trichotomy i j with hij | rfl | hij
  · exact absurd hp (hp2 i j hi hj hij)
  · rfl
  · exact absurd hp.symm (hp2 j i hj hi hij)
theorem OHeapM.uniq {w : World} {H : OHL} {pages : Nat} {s : OP} (h : OHeapM w H pages s) {y z : OS} (hy : y ∈ H.xs) (hz : z ∈ H.xs) (hp : y.x.page = z.x.page) : y = z := by
  have hn : (H.xs.map fun y => y.x.page).Nodup := by
    have e : H.xs.map (fun y => y.x.page) = (H.xs.map (·.x)).map (·.page) := by rw [List.map_map]; rfl
    rw [e, (h.perm.map _).nodup_iff]
    exact (List.pairwise_map.2 h.base.srt).imp (fun hlt => Nat.ne_of_lt hlt)
  exact nodupO_uniq hn hy hz hp
theorem OHeapM.slab {w : World} {H : OHL} {pages : Nat} {s : OP} (h : OHeapM w H pages s) {y : OS} (hy : y ∈ H.xs) : OSlabAt w y.L y.x.O := h.each y (List.mem_append_left _ hy)
theorem OHeapM.ok {w : World} {H : OHL} {pages : Nat} {s : OP} (h : OHeapM w H pages s) {y : OS} (hy : y ∈ H.xs) : y.x.Ok0 pages := h.base.each _ (List.mem_append_left _ (h.mem' hy))
theorem OHeapM.hcells {w : World} {H : OHL} {pages : Nat} {s : OP} (h : OHeapM w H pages s) : w.cell? ⟨H.h, 0, none⟩ = some (.pointer (some ⟨H.gr, 0, none⟩)) ∧ w.cell? ⟨H.h, 1, none⟩ = some (.map (some H.mb)) ∧ w.cell? ⟨H.h, 2, none⟩ = some (.pointer (some ⟨H.rg, 0, none⟩)) :=
  ⟨cell_of_block h.obj 0, cell_of_block h.obj 1, cell_of_block h.obj 2⟩
theorem OHeapM.keys {w : World} {H : OHL} {pages : Nat} {s : OP} (h : OHeapM w H pages s) : (H.xs.map fun y => (y.x.page : Int)).Nodup := by
  have e : H.xs.map (fun y => (y.x.page : Int)) = (H.xs.map (·.x)).map (fun x => (x.page : Int)) := by rw [List.map_map]; rfl
  rw [e, (h.perm.map _).nodup_iff]
  refine List.pairwise_map.2 (h.base.srt.imp ?_)
  intro a b hlt he
  omega

/-- The heap's map, asked, and written. -/
def findK (k : Int) : List OS → Nat → Option (Nat × OS)
  | [], _ => none
  | x :: l, i => if (x.x.page : Int) = k then some (i, x) else findK k l (i + 1)
def ptrK : Option OS → Value | some x => .pointer (some ⟨x.L.s, 0, none⟩) | none => .pointer none

theorem findNow_old (k : Int) : ∀ (l : List OS) (i : Nat), Instr.findNow (.int .i64) (.int .i64 k) (l.map oentry) i = some ((findK k l i).map fun p => (p.1, .pointer (some ⟨p.2.L.s, 0, none⟩)))
  | [], i => rfl
  | x :: l, i => by
    by_cases h : (x.x.page : Int) = k
    · simp [Instr.findNow, oentry, Instr.sameNow, findK, h]
    · have h1 : (k == (x.x.page : Int)) = false := by simp [Ne.symm h]
      have ih := findNow_old k l (i + 1)
      simp only [List.map_cons, Instr.findNow, oentry, Instr.sameNow, if_true, h1, findK, h, if_false]
      simpa [oentry] using ih

theorem findK_find (k : Int) : ∀ (l : List OS) (i : Nat), (findK k l i).map (·.2) = l.find? fun x => (x.x.page : Int) == k
  | [], _ => rfl
  | x :: l, i => by
    by_cases h : (x.x.page : Int) = k
    · simp [findK, h]
    · simp [findK, h, findK_find k l (i + 1)]

theorem findK_erase (k : Int) : ∀ (l : List OS) (i j : Nat) (x : OS), findK k l i = some (j, x) → (l.map (fun y => (y.x.page : Int))).Nodup → i ≤ j ∧ l.eraseIdx (j - i) = l.filter fun y => (y.x.page : Int) != k
  | [], i, j, x, h, _ => by simp [findK] at h
  | y :: l, i, j, x, h, hn => by
    simp only [List.map_cons, List.nodup_cons] at hn
    by_cases e : (y.x.page : Int) = k
    · simp only [findK, e, if_true, Option.some.injEq, Prod.mk.injEq] at h
      obtain ⟨rfl, rfl⟩ := h
      refine ⟨Nat.le_refl _, ?_⟩
      simp only [Nat.sub_self, List.eraseIdx_zero, List.tail_cons, List.filter_cons, e, bne_self_eq_false, Bool.false_eq_true, if_false]
      symm
      rw [List.filter_eq_self]
      intro z hz
      have : (z.x.page : Int) ≠ k := fun ez => hn.1 (by rw [e]; exact List.mem_map.2 ⟨z, hz, ez⟩)
      simp [this]
    · simp only [findK, e, if_false] at h
      obtain ⟨h1, h2⟩ := findK_erase k l (i + 1) j x h hn.2
      refine ⟨by omega, ?_⟩
      rw [show j - i = (j - (i + 1)) + 1 from by omega, List.eraseIdx_cons_succ, h2]
      simp [e]

theorem findK_none (k : Int) (l : List OS) (i : Nat) (h : findK k l i = none) : ∀ x ∈ l, (x.x.page : Int) ≠ k := by
  have h1 := findK_find k l i
  rw [h] at h1
  intro x hx e
  have := (List.find?_eq_none.1 h1.symm) x hx
  simp [e] at this

theorem und_intK : Tryz.prog.underlying 3 = some (.int .i64) := by kernel_rfl
theorem und_omap : Tryz.prog.underlying 77 = some (.map 3 42) := by kernel_rfl

section
variable {w : World} {mb clk : Nat} {xs : List OS}

theorem checkKey_intK (e : Bool) (n : Nat) (k : Int) (w : World) : (Instr.checkKey e (n + 1) 3 (.int .i64 k)).run Tryz.prog w = .ok () w := by
  simp [Instr.checkKey, run_underlying und_intK]

theorem findKey_old (k : Int) (l : List OS) (w : World) : (Instr.findKey 3 (.int .i64 k) (l.map oentry)).run Tryz.prog w = .ok ((findK k l 0).map fun p => (p.1, .pointer (some ⟨p.2.L.s, 0, none⟩))) w := by
  simp [Instr.findKey, run_underlying und_intK, findNow_old]

theorem run_lookup_old (h : w.heap[mb]? = some (.map (xs.map oentry).toArray clk)) (k : Int) :
    (Instr.lookup 77 (.map (some mb)) (.int .i64 k) false).run Tryz.prog w = .ok (ptrK (xs.find? fun x => (x.x.page : Int) == k)) w := by
  rw [← findK_find k xs 0]
  have hz : ∀ w, (zeroValue 42).run Tryz.prog w = .ok (.pointer none) w := fun w => by kernel_rfl
  simp only [Instr.lookup, Sem.run_bind, run_underlying und_omap, Result.andThen, MapKept.run_getObj_map h, checkKey_intK]
  simp only [findKey_old, Sem.run_pure]
  cases findK k xs 0 with
  | none => simp [hz, ptrK]
  | some p => simp [ptrK]

/-- A new oentry. -/
theorem run_update_old (h : w.heap[mb]? = some (.map (xs.map oentry).toArray clk)) (k : Int) (hk : ∀ x ∈ xs, (x.x.page : Int) ≠ k) (v : Value) :
    (Instr.mapUpdate 77 (.map (some mb)) (.int .i64 k) v).run Tryz.prog w = .ok () (setBlock w mb (.map ((xs.map oentry) ++ [MapEntry.mk (.int .i64 k) v clk]).toArray (clk + 1))) := by
  have hn : findK k xs 0 = none := by
    cases e : findK k xs 0 with
    | none => rfl
    | some p =>
      have h1 := findK_find k xs 0
      rw [e] at h1
      have h2 := List.find?_some h1.symm
      have h3 := List.mem_of_find?_eq_some h1.symm
      simp at h2
      exact absurd h2 (hk _ h3)
  simp only [Instr.mapUpdate, Sem.run_bind, run_underlying und_omap, Result.andThen, MapKept.run_getObj_map h, checkKey_intK]
  simp only [findKey_old, hn, Option.map_none]
  simp [MapKept.run_setObj_map _ h, setBlock]

/-- An oentry struck. -/
theorem run_delete_old (h : w.heap[mb]? = some (.map (xs.map oentry).toArray clk)) (hn : (xs.map (fun y => (y.x.page : Int))).Nodup) (k : Int) (ty : TypeId) :
    (Builtin.delete_ #[77, 3] ty #[.map (some mb), .int .i64 k]).run Tryz.prog w =
      .ok (.tuple #[]) (setBlock w mb (.map ((xs.filter fun y => (y.x.page : Int) != k).map oentry).toArray clk)) := by
  simp only [Builtin.delete_, List.getElem?_toArray, List.getElem?_cons_zero, List.getElem?_cons_succ, Sem.run_bind, run_underlying und_omap, Result.andThen, MapKept.run_getObj_map h, checkKey_intK]
  simp only [findKey_old]
  cases e : findK k xs 0 with
  | none =>
    have : xs.filter (fun y => (y.x.page : Int) != k) = xs := by
      rw [List.filter_eq_self]
      intro x hx
      simpa using findK_none k xs 0 e x hx
    rw [this]
    simp [MapKept.run_setObj_map _ h, setBlock]
  | some p =>
    obtain ⟨_, h2⟩ := findK_erase k xs 0 p.1 p.2 e hn
    rw [← h2]
    simp [MapKept.run_setObj_map _ h, setBlock, ChangeMaps.map_eraseIdx]

theorem run_len_old (h : w.heap[mb]? = some (.map (xs.map oentry).toArray clk)) (ty : TypeId) :
    (Builtin.len_ #[77] ty #[.map (some mb)]).run Tryz.prog w = .ok (.int .i64 xs.length) w := by
  simp [Builtin.len_, run_underlying und_omap, MapKept.run_getObj_map h, goInt]
end


end Go.Proofs.YtlljejmblmjjnaaGreatDoor

/- oldheap: how the heap stands behind a turn of its lists, of one slab, of the ground. -/
namespace Go.Proofs.YtlljejmblmjjnaaGreatDoor
set_option linter.unusedVariables false
set_option linter.unusedSimpArgs false
open Go.RowKit Go.ChangeMaps

/-- The heap that stands behind an operation. -/
structure OHL.Of (H H' : OHL) (n : Nat) : Prop where
  h : H'.h = H.h
  gr : H'.gr = H.gr
  cl : H'.cl = H.cl
  rg : H'.rg = H.rg
  mb : H'.mb = H.mb
  foot : ∀ k, H'.F k → H.F k ∨ n ≤ k
theorem OHL.Of.refl (H : OHL) (n : Nat) : H.Of H n := ⟨rfl, rfl, rfl, rfl, rfl, fun _ h => .inl h⟩
theorem OHL.Of.trans {H H1 H2 : OHL} {n m : Nat} (h : H.Of H1 n) (k : H1.Of H2 m) (hm : n ≤ m) : H.Of H2 n :=
  ⟨k.h.trans h.h, k.gr.trans h.gr, k.cl.trans h.cl, k.rg.trans h.rg, k.mb.trans h.mb, fun j hj => by
    rcases k.foot j hj with e | e
    · exact h.foot j e
    · exact .inr (Nat.le_trans hm e)⟩

theorem OHeapM.offs {w : World} {H : OHL} {pages : Nat} {s : OP} (h : OHeapM w H pages s) {F : Nat → Prop} {Ts : List TypeId} (hF : TyF w F Ts) (h1 : 80 ∉ Ts) (h2 : 97 ∉ Ts) (h3 : 191 ∉ Ts) : ¬ F H.h ∧ ¬ F H.mb ∧ ¬ F H.gr ∧ ¬ F H.rg := by
  obtain ⟨⟨c1, e1⟩, -⟩ := h.ring.blocks
  exact ⟨hF.off h.obj h1, hF.off_map h.map, hF.off h.ground.obj h2, hF.off e1 h3⟩
theorem GroundAt.offF {w : World} {gr cl pages a b c : Nat} {p : GPl} {l : List Run} {E : List PE} (h : GroundAt w gr cl p pages l E a b c) {F : Nat → Prop} {Ts : List TypeId} (hF : TyF w F Ts) (hT : ∀ T ∈ Ts, T ≠ 169 ∧ T ≠ 108 ∧ T ≠ 177 ∧ T ≠ 208 ∧ T ≠ 211 ∧ T ≠ 161) : ∀ k, p.F k → ¬ F k := fun k hk hf => by
  obtain ⟨cs, T, e, ht⟩ := hF k hf
  obtain ⟨h1, h2, h3, h4, h5, h6⟩ := hT T ht
  exact h.offO e h1 h2 h3 h4 h5 h6 hk
theorem OSlabAt.offF {w : World} {L : OL} {S : OM} (h : OSlabAt w L S) {F : Nat → Prop} {Ts : List TypeId} (hF : TyF w F Ts) (h1 : 86 ∉ Ts) (h2 : 154 ∉ Ts) (h3 : 148 ∉ Ts) : ¬ F L.s ∧ ¬ F L.r ∧ ¬ F L.b := by
  obtain ⟨⟨c1, e1⟩, ⟨c2, e2⟩, ⟨c3, e3⟩⟩ := h.blocks
  exact ⟨hF.off e1 h1, hF.off e2 h2, hF.off e3 h3⟩
theorem RingIn.offF {w : World} {r ib lb n : Nat} {R : Nat → List Nat} (h : RingIn w r ib lb n R) {F : Nat → Prop} {Ts : List TypeId} (hF : TyF w F Ts) (h1 : 191 ∉ Ts) (h2 : 187 ∉ Ts) (h3 : 166 ∉ Ts) : ¬ F r ∧ ¬ F ib ∧ ¬ F lb := by
  obtain ⟨⟨c1, e1⟩, ⟨c2, e2⟩, ⟨c3, e3⟩⟩ := h.blocks
  exact ⟨hF.off e1 h1, hF.off e2 h2, hF.off e3 h3⟩
theorem ringF.sub {H : OHL} {k : Nat} (h : ringF H.ib H.lb k) : H.F k := .inr (.inr (.inr (.inr (.inl h))))

/-- The lists turn. -/
theorem OHeapM.ringTurn {w w' : World} {H : OHL} {pages : Nat} {s : OP} (h : OHeapM w H pages s) (t : Turned (ringF H.ib H.lb) w w') {R' : Nat → List Nat} (hr : RingIn w' H.rg H.ib H.lb (pages / 4) R') : OHeapM w' H pages ⟨s.l, s.A, R'⟩ := by
  have hT := TyF.ring h.ring
  obtain ⟨o1, o2, o3, -⟩ := h.offs hT (by decide) (by decide) (by decide)
  exact ⟨(t.block _ (lt_of_block h.obj) o1).trans h.obj, h.ground.turned t o3 (h.ground.offF hT (by decide)), hr, (t.block _ (lt_of_block h.map) o2).trans h.map, h.off,
    h.tab.turned t (fun e => h.pos (ringF.sub e)), h.pos, fun y hy => by
      obtain ⟨a, b, c⟩ := (h.each y hy).offF hT (by decide) (by decide) (by decide)
      exact (h.each y hy).turned t a b c, h.xs, h.perm, h.base, h.ent, h.num, h.cnt⟩

def updK (x : PO) (xs : List OS) : List OS := xs.map fun z => if z.x.page = x.page then { z with x := x } else z
theorem updK_mem {x : PO} {xs : List OS} {z : OS} (h : z ∈ updK x xs) : (∃ u ∈ xs, u.x.page = x.page ∧ z = { u with x := x }) ∨ (z ∈ xs ∧ z.x.page ≠ x.page) := by
  obtain ⟨u, hu, rfl⟩ := List.mem_map.1 h
  split
  · next e => exact .inl ⟨u, hu, e, rfl⟩
  · next e => exact .inr ⟨hu, e⟩
theorem updK_maps (x : PO) (xs : List OS) : (updK x xs).map (·.L) = xs.map (·.L) ∧ (updK x xs).map (·.born) = xs.map (·.born) ∧ (updK x xs).map oentry = xs.map oentry ∧ (updK x xs).map (·.x) = updO (xs.map (·.x)) x := by
  unfold updK updO
  simp only [List.map_map]
  refine ⟨?_, ?_, ?_, ?_⟩ <;> (apply List.map_congr_left; intro z _; simp only [Function.comp]; split)
  all_goals first | rfl | (next e => unfold oentry; rw [← e])
theorem map_L {xs xs' left : List OS} (h : xs'.map (·.L) = xs.map (·.L)) (f : OL → Nat) : (xs' ++ left).map (fun y => f y.L) = (xs ++ left).map (fun y => f y.L) := by
  rw [List.map_append, List.map_append]
  congr 1
  have : ∀ l : List OS, l.map (fun y => f y.L) = (l.map (·.L)).map f := fun l => by rw [List.map_map]; rfl
  rw [this, this, h]
theorem updK_F {H : OHL} {x : PO} {k : Nat} : ({ H with xs := updK x H.xs } : OHL).F k ↔ H.F k := by
  have key : (∃ y ∈ updK x H.xs ++ H.left, slabF y k) ↔ ∃ y ∈ H.xs ++ H.left, slabF y k := by
    constructor
    · rintro ⟨y, hy, hf⟩
      rcases List.mem_append.1 hy with hy | hy
      · rcases updK_mem hy with ⟨u, hu, -, rfl⟩ | ⟨hy, -⟩
        · exact ⟨u, List.mem_append_left _ hu, hf⟩
        · exact ⟨y, List.mem_append_left _ hy, hf⟩
      · exact ⟨y, List.mem_append_right _ hy, hf⟩
    · rintro ⟨y, hy, hf⟩
      rcases List.mem_append.1 hy with hy | hy
      · refine ⟨_, List.mem_append_left _ (List.mem_map.2 ⟨y, hy, rfl⟩), ?_⟩
        split
        · exact hf
        · exact hf
      · exact ⟨y, List.mem_append_right _ hy, hf⟩
  unfold OHL.F
  simp only
  rw [key]
theorem OBase.upd {pages : Nat} {l : List Run} {A B : List PO} (h : OBase pages l A B) {x y : PO} (hx : x ∈ A) (hp : y.page = x.page) (hy : y.Ok0 pages) : OBase pages l (updO A y) B := by
  have hz : ∃ z ∈ A, z.page = y.page := ⟨x, hx, hp.symm⟩
  refine ⟨h.tile, updO_srt h.srt, fun u hu => ?_, fun u hu => ?_, fun u hu z hzB => ?_, h.nd⟩
  · rcases List.mem_append.1 hu with hu | hu
    · rcases (updO_mem hz).1 hu with rfl | ⟨h1, -⟩
      · exact hy
      · exact h.each u (List.mem_append_left _ h1)
    · exact h.each u (List.mem_append_right _ hu)
  · rcases List.mem_append.1 hu with hu | hu
    · rcases (updO_mem hz).1 hu with rfl | ⟨h1, -⟩
      · rw [hp]; exact h.tk x (List.mem_append_left _ hx)
      · exact h.tk u (List.mem_append_left _ h1)
    · exact h.tk u (List.mem_append_right _ hu)
  · rcases (updO_mem hz).1 hu with rfl | ⟨h1, -⟩
    · rw [hp]; exact h.sep x hx z hzB
    · exact h.sep u h1 z hzB
/-- Of one page one slab alone. -/
theorem OBase.page_uniq {pages : Nat} {l : List Run} {A B : List PO} (h : OBase pages l A B) {x y : PO} (hx : x ∈ A ++ B) (hy : y ∈ A ++ B) {k : Nat} (h1 : x.covers k) (h2 : y.covers k) : x.page = y.page :=
  congrArg Run.page (h.tile.uniq (h.tk x hx) (h.tk y hy) (k := k) h1.1 h1.2 h2.1 h2.2)
theorem EntO.sub {l : List Run} {E : List PE} {A A' : List PO} {G : List (Nat × Nat)} {c : Nat} (h : EntO l E A G c) (hs : ∀ x ∈ A', ∃ y ∈ A, y.page = x.page ∧ y.cls = x.cls ∧ y.sealed = x.sealed) : EntO l E A' G c := by
  refine ⟨fun x hx k h1 h2 => ?_, h.back, h.lg, h.ver, h.gnd, h.sum⟩
  obtain ⟨y, hy, e1, e2, e3⟩ := hs x hx
  have := h.ent y hy k (by omega) (by omega)
  rw [e1, e2, e3] at this
  exact this
/-- A slab's bitmap turns. -/
theorem OHeapM.slabTurn {w w' : World} {H : OHL} {pages : Nat} {s : OP} (h : OHeapM w H pages s) {y : OS} (hy : y ∈ H.xs) {x : PO} (hp : x.page = y.x.page) (hc : x.cls = y.x.cls) (hd : x.sealed = y.x.sealed) (hok : x.Ok0 pages)
    (t : Turned (fun k => k = y.L.b) w w') (hs : OSlabAt w' y.L x.O) : OHeapM w' { H with xs := updK x H.xs } pages ⟨s.l, updO s.A x, s.R⟩ := by
  have hT := TyF.word (h.slab hy)
  obtain ⟨o1, o2, o3, -⟩ := h.offs hT (by decide) (by decide) (by decide)
  obtain ⟨r1, r2, r3⟩ := h.ring.offF hT (by decide) (by decide) (by decide)
  obtain ⟨m1, m2, m3, m4⟩ := updK_maps x H.xs
  have hyF : H.F y.L.b := .inr (.inr (.inr (.inr (.inr (.inr ⟨y, List.mem_append_left _ hy, .inr (.inr rfl)⟩)))))
  have hother : ∀ z ∈ H.xs ++ H.left, z ≠ y → OSlabAt w' z.L z.x.O := fun z hz hne => by
    have hzb : z.L.b ≠ y.L.b := fun e => hne (nodupO_uniq h.xs.bs hz (List.mem_append_left _ hy) e)
    exact (h.each z hz).turned t (blockO_ne (h.each z hz).obj (h.slab hy).row.words (by decide)) (blockO_ne (h.each z hz).row.obj (h.slab hy).row.words (by decide)) hzb
  refine ⟨(t.block _ (lt_of_block h.obj) o1).trans h.obj, h.ground.turned t o3 (h.ground.offF hT (by decide)), h.ring.turned t r1 r2 r3, ?_, h.off,
    h.tab.turned t (fun e => h.pos (e ▸ hyF)), fun e => h.pos (updK_F.1 e), fun z hz => ?_, ⟨?_, ?_, ?_, ?_, fun z hz => ?_⟩, ?_, h.base.upd (h.mem' hy) hp hok, h.ent.sub fun u hu => ?_, h.num, by rw [updO_length]; exact h.cnt⟩
  · show w'.heap[H.mb]? = some (.map ((updK x H.xs).map oentry).toArray H.clk)
    rw [m3]
    exact (t.block _ (lt_of_block h.map) o2).trans h.map
  · rcases List.mem_append.1 hz with hz | hz
    · rcases updK_mem hz with ⟨u, hu, e, rfl⟩ | ⟨hz, e⟩
      · obtain rfl : u = y := h.uniq hu hy (e.trans hp)
        exact hs
      · exact hother z (List.mem_append_left _ hz) fun e2 => e (by rw [e2, hp])
    · refine hother z (List.mem_append_right _ hz) fun e2 => ?_
      exact h.base.sep y.x (h.mem' hy) z.x (List.mem_map.2 ⟨z, hz, rfl⟩) (by rw [e2])
  · rw [map_L m1 (·.s)]; exact h.xs.ss
  · rw [map_L m1 (·.r)]; exact h.xs.rs
  · rw [map_L m1 (·.b)]; exact h.xs.bs
  · show ((updK x H.xs).map (·.born)).Nodup
    rw [m2]; exact h.xs.borns
  · rcases updK_mem hz with ⟨u, hu, e, rfl⟩ | ⟨hz, e⟩
    · exact h.xs.old u hu
    · exact h.xs.old z hz
  · show ((updK x H.xs).map (·.x)).Perm (updO s.A x)
    rw [m4]
    exact h.perm.map _
  · rcases List.mem_append.1 hu with hu | hu
    · rcases (updO_mem ⟨y.x, h.mem' hy, hp.symm⟩).1 hu with rfl | ⟨hu, -⟩
      · exact ⟨y.x, List.mem_append_left _ (h.mem' hy), hp.symm, hc.symm, hd.symm⟩
      · exact ⟨u, List.mem_append_left _ hu, rfl, rfl, rfl⟩
    · exact ⟨u, List.mem_append_right _ hu, rfl, rfl, rfl⟩
theorem OHeapM.slabOf {H : OHL} {x : PO} (n : Nat) : H.Of { H with xs := updK x H.xs } n := ⟨rfl, rfl, rfl, rfl, rfl, fun _ hk => .inl (updK_F.1 hk)⟩

theorem EntO.mark {pages : Nat} {l : List Run} {E : List PE} {A B : List PO} {G : List (Nat × Nat)} {c : Nat} (hb : OBase pages l A B) (h : EntO l E (A ++ B) G c) {y x : PO} (hy : y ∈ A) (hp : x.page = y.page) (hc : x.cls = y.cls) (st : Nat) (hE : y.page + 4 ≤ E.length) :
    EntO l (setE E y.page (some (⟨y.page, 0, y.cls, sealK x.sealed⟩, st)) 4) (updO A x ++ B) G c := by
  have hyA := List.mem_append_left B hy
  have hlg : ∀ g ∈ G, ∀ k, g.1 ≤ k → k < g.1 + g.2 → ¬ (y.page ≤ k ∧ k < y.page + 4) := fun g hg k h1 h2 hh => by
    obtain ⟨st0, e0⟩ := (h.lg g hg).2 k h1 h2
    obtain ⟨st1, e1⟩ := h.ent y hyA k hh.1 hh.2
    rw [e0] at e1
    exact absurd (show (2 : Nat) = 0 from congrArg (fun q : Ent4 × Nat => q.1.version) (Option.some.inj e1)) (by decide)
  refine ⟨fun u hu k h1 h2 => ?_, fun k e u hk => ?_, fun g hg => ⟨(h.lg g hg).1, fun k h1 h2 => ?_⟩, fun k e u hk hv => ?_, h.gnd, h.sum⟩
  · rw [setE_get _ _ _ _ _ hE]
    have hu2 : u = x ∨ (u ∈ A ++ B ∧ u.page ≠ y.page) := by
      rcases List.mem_append.1 hu with hu | hu
      · rcases (updO_mem ⟨y, hy, hp.symm⟩).1 hu with rfl | ⟨h3, h4⟩
        · exact .inl rfl
        · exact .inr ⟨List.mem_append_left _ h3, by rw [← hp]; exact h4⟩
      · exact .inr ⟨List.mem_append_right _ hu, fun e => hb.sep y hy u hu e.symm⟩
    rcases hu2 with rfl | ⟨h3, h4⟩
    · rw [if_pos (by omega), hp, hc]
      exact ⟨_, rfl⟩
    · rw [if_neg (fun hh : y.page ≤ k ∧ k < y.page + 4 => h4 (hb.page_uniq h3 hyA (k := k) ⟨h1, h2⟩ hh))]
      exact h.ent u h3 k h1 h2
  · rw [setE_get _ _ _ _ _ hE] at hk
    split at hk
    · next hh =>
      cases hk
      exact ⟨_, hb.tk y hyA, rfl, rfl, hh.1, hh.2⟩
    · exact h.back k e u hk
  · rw [setE_get _ _ _ _ _ hE, if_neg (hlg g hg k h1 h2)]
    exact (h.lg g hg).2 k h1 h2
  · rw [setE_get _ _ _ _ _ hE] at hk
    split at hk
    · cases hk
      exact absurd rfl hv
    · exact h.ver k e u hk hv
/-- A slab's span is marked. -/
theorem OHeapM.markTurn {w w' : World} {H : OHL} {pages : Nat} {s : OP} (h : OHeapM w H pages s) {y : OS} (hy : y ∈ H.xs) (sd : Bool) {p : GPl} (st : Nat)
    (t : Turned H.p.F w w') (hg : GroundAt w' H.gr H.cl p pages s.l (setE H.E y.x.page (some (⟨y.x.page, 0, y.x.cls, sealK sd⟩, st)) 4) H.b 0 H.c) (hpf : ∀ k, p.F k → H.p.F k ∨ w.heap.size ≤ k) :
    ∃ H' : OHL, H'.left = H.left ∧ H'.G = H.G ∧ H'.c = H.c ∧ OHeapM w' H' pages ⟨s.l, updO s.A { y.x with sealed := sd }, s.R⟩ ∧ H.Of H' w.heap.size := by
  obtain ⟨m1, m2, m3, m4⟩ := updK_maps { y.x with sealed := sd } H.xs
  have hG := h.ground
  obtain ⟨⟨c1, e1⟩, ⟨c2, e2⟩, ⟨c3, e3⟩⟩ := h.ring.blocks
  have oF : ∀ {k : Nat} {cs : Array Value} {T : TypeId}, w.heap[k]? = some (.cells cs T (0, 0)) → T ≠ 169 ∧ T ≠ 108 ∧ T ≠ 177 ∧ T ≠ 208 ∧ T ≠ 211 ∧ T ≠ 161 → ¬ H.p.F k := fun hk hT => hG.offO hk hT.1 hT.2.1 hT.2.2.1 hT.2.2.2.1 hT.2.2.2.2.1 hT.2.2.2.2.2
  have hpos : 0 < w.heap.size := Nat.lt_of_le_of_lt (Nat.zero_le _) (lt_of_block h.obj)
  have hEl : y.x.page + 4 ≤ H.E.length := by
    have := (h.ok hy).fits
    have := hG.map.most
    have := hG.map.len
    omega
  refine ⟨{ H with p := p, E := setE H.E y.x.page (some (⟨y.x.page, 0, y.x.cls, sealK sd⟩, st)) 4, xs := updK { y.x with sealed := sd } H.xs }, rfl, rfl, rfl, ⟨(t.block _ (lt_of_block h.obj) (oF h.obj (by decide))).trans h.obj, hg,
    h.ring.turned t (oF e1 (by decide)) (oF e2 (by decide)) (oF e3 (by decide)), ?_, ?_, h.tab.turned t (fun e => h.pos (.inr (.inr (.inr (.inr (.inr (.inl e))))))), ?_, fun z hz => ?_, ⟨?_, ?_, ?_, ?_, fun z hz => ?_⟩, ?_, ?_, ?_, h.num, by rw [updO_length]; exact h.cnt⟩, ⟨rfl, rfl, rfl, rfl, rfl, ?_⟩⟩
  · show w'.heap[H.mb]? = some (.map ((updK _ H.xs).map oentry).toArray H.clk)
    rw [m3]
    exact (t.block _ (lt_of_block h.map) h.off).trans h.map
  · intro e
    rcases hpf _ e with e | e
    · exact h.off e
    · have h1 := lt_of_block h.map
      have h2 : w.heap.size ≤ H.mb := e
      omega
  · rintro (e | e | e | e | e | e | e)
    · exact h.pos (.inl e)
    · exact h.pos (.inr (.inl e))
    · exact h.pos (.inr (.inr (.inl e)))
    · exact h.pos (.inr (.inr (.inr (.inl e))))
    · exact h.pos (.inr (.inr (.inr (.inr (.inl e)))))
    · rcases hpf _ e with e | e
      · exact h.pos (.inr (.inr (.inr (.inr (.inr (.inl e))))))
      · omega
    · exact h.pos (updK_F.1 (.inr (.inr (.inr (.inr (.inr (.inr e)))))))
  · have key : ∀ z ∈ H.xs ++ H.left, OSlabAt w' z.L z.x.O := fun z hz => by
      obtain ⟨⟨d1, f1⟩, ⟨d2, f2⟩, ⟨d3, f3⟩⟩ := (h.each z hz).blocks
      exact (h.each z hz).turned t (oF f1 (by decide)) (oF f2 (by decide)) (oF f3 (by decide))
    rcases List.mem_append.1 hz with hz | hz
    · rcases updK_mem hz with ⟨u, hu, e, rfl⟩ | ⟨hz, e⟩
      · obtain rfl : u = y := h.uniq hu hy e
        exact key u (List.mem_append_left _ hu)
      · exact key z (List.mem_append_left _ hz)
    · exact key z (List.mem_append_right _ hz)
  · rw [map_L m1 (·.s)]; exact h.xs.ss
  · rw [map_L m1 (·.r)]; exact h.xs.rs
  · rw [map_L m1 (·.b)]; exact h.xs.bs
  · show ((updK _ H.xs).map (·.born)).Nodup
    rw [m2]; exact h.xs.borns
  · rcases updK_mem hz with ⟨u, hu, e, rfl⟩ | ⟨hz, e⟩
    · exact h.xs.old u hu
    · exact h.xs.old z hz
  · show ((updK _ H.xs).map (·.x)).Perm (updO s.A _)
    rw [m4]
    exact h.perm.map _
  · have := h.ok hy
    exact h.base.upd (y := { y.x with sealed := sd }) (h.mem' hy) rfl ⟨this.al, this.fits, this.cls, this.top⟩
  · exact EntO.mark (x := { y.x with sealed := sd }) h.base h.ent (h.mem' hy) rfl rfl st hEl
  · rintro k (e | e | e | e | e | e | e)
    · exact .inl (.inl e)
    · exact .inl (.inr (.inl e))
    · exact .inl (.inr (.inr (.inl e)))
    · exact .inl (.inr (.inr (.inr (.inl e))))
    · exact .inl (.inr (.inr (.inr (.inr (.inl e)))))
    · exact (hpf _ e).imp (fun e => .inr (.inr (.inr (.inr (.inr (.inl e)))))) id
    · exact .inl (updK_F.1 (.inr (.inr (.inr (.inr (.inr (.inr e)))))))

end Go.Proofs.YtlljejmblmjjnaaGreatDoor

/- oldheap: a slab comes to the heap, leaves it; its span is closed. -/
namespace Go.Proofs.YtlljejmblmjjnaaGreatDoor
set_option linter.unusedVariables false
set_option linter.unusedSimpArgs false
open Go.RowKit Go.ChangeMaps

def mapF2 (H : OHL) : Nat → Prop := fun k => k = H.mb ∨ H.p.F k
theorem mapF2.sub {H : OHL} {k : Nat} (h : mapF2 H k) : H.F k := by
  rcases h with rfl | h
  · exact .inr (.inl rfl)
  · exact .inr (.inr (.inr (.inr (.inr (.inl h)))))
theorem OHeapM.offG {w : World} {H : OHL} {pages : Nat} {s : OP} (h : OHeapM w H pages s) {k : Nat} {cs : Array Value} {T : TypeId} (hk : w.heap[k]? = some (.cells cs T (0, 0))) (hT : T ≠ 169 ∧ T ≠ 108 ∧ T ≠ 177 ∧ T ≠ 208 ∧ T ≠ 211 ∧ T ≠ 161) : ¬ mapF2 H k := by
  rintro (e | e)
  · exact blockO_ne_map hk h.map e
  · exact h.ground.offO hk hT.1 hT.2.1 hT.2.2.1 hT.2.2.2.1 hT.2.2.2.2.1 hT.2.2.2.2.2 e
theorem OHeapM.size {w : World} {H : OHL} {pages : Nat} {s : OP} (h : OHeapM w H pages s) : 0 < w.heap.size := Nat.lt_of_le_of_lt (Nat.zero_le _) (lt_of_block h.obj)
theorem OHeapM.F_lt {w : World} {H : OHL} {pages : Nat} {s : OP} (h : OHeapM w H pages s) : ∀ k, H.F k → k < w.heap.size := by
  obtain ⟨⟨c1, e1⟩, ⟨c2, e2⟩, ⟨c3, e3⟩⟩ := h.ring.blocks
  rintro k (e | e | e | e | e | e | ⟨y, hy, e⟩)
  · rw [e]; exact lt_of_block h.obj
  · rw [e]; exact lt_of_block h.map
  · rw [e]; exact lt_of_block h.ground.obj
  · rw [e]; exact lt_of_block e1
  · rcases e with e | e
    · rw [e]; exact lt_of_block e2
    · rw [e]; exact lt_of_block e3
  · rcases e with e | e | e | e | e | e | e
    · rw [e]; exact h.ground.spans.lt.1
    · exact (h.ground.spans.lt.2 k e).1
    · rw [e]; exact lt_of_block h.ground.map.obj
    · rw [e]; exact lt_of_block h.ground.map.root
    · exact lt_of_block (h.ground.map.leaf k e).1
    · rw [e]; exact h.ground.led.lt.1
    · rw [e]; exact h.ground.led.lt.2.1
  · rcases e with e | e | e
    · rw [e]; exact lt_of_block (h.each y hy).obj
    · rw [e]; exact lt_of_block (h.each y hy).row.obj
    · rw [e]; exact lt_of_block (h.each y hy).row.words
/-- What a turn of the map and of the ground leaves. -/
structure KeptG (w w' : World) (H : OHL) (pages : Nat) (R : Nat → List Nat) : Prop where
  obj : w'.heap[H.h]? = some (.cells #[.pointer (some ⟨H.gr, 0, none⟩), .map (some H.mb), .pointer (some ⟨H.rg, 0, none⟩)] 80 (0, 0))
  ring : RingIn w' H.rg H.ib H.lb (pages / 4) R
  tab : Tab w'
  each : ∀ y ∈ H.xs ++ H.left, OSlabAt w' y.L y.x.O
theorem OHeapM.keptG {w w' : World} {H : OHL} {pages : Nat} {s : OP} (h : OHeapM w H pages s) (t : Turned (mapF2 H) w w') : KeptG w w' H pages s.R := by
  obtain ⟨⟨c1, e1⟩, ⟨c2, e2⟩, ⟨c3, e3⟩⟩ := h.ring.blocks
  refine ⟨(t.block _ (lt_of_block h.obj) (h.offG h.obj (by decide))).trans h.obj, h.ring.turned t (h.offG e1 (by decide)) (h.offG e2 (by decide)) (h.offG e3 (by decide)), h.tab.turned t (fun e => h.pos (mapF2.sub e)), fun y hy => ?_⟩
  obtain ⟨⟨d1, f1⟩, ⟨d2, f2⟩, ⟨d3, f3⟩⟩ := (h.each y hy).blocks
  exact (h.each y hy).turned t (h.offG f1 (by decide)) (h.offG f2 (by decide)) (h.offG f3 (by decide))

theorem EntO.open {pages : Nat} {l : List Run} {E : List PE} {A B : List PO} {G : List (Nat × Nat)} {c : Nat} (hb : OBase pages l A B) (h : EntO l E (A ++ B) G c) {k n v cls : Nat} {r : Run} (hr : l[k]? = some r) (ht : r.taken = false) (hn : 0 < n) (al : Nat) (ha : 0 < al) (hfit : r.first al + n ≤ r.stop) (st : Nat) (hE : r.first al + n ≤ E.length) :
    (∀ x ∈ A ++ B, ∀ j, x.page ≤ j → j < x.page + 4 → ¬ (r.first al ≤ j ∧ j < r.first al + n)) ∧ (∀ g ∈ G, ∀ j, g.1 ≤ j → j < g.1 + g.2 → ¬ (r.first al ≤ j ∧ j < r.first al + n)) ∧
    (∀ j e u, (setE E (r.first al) (some (⟨r.first al, v, cls, 0⟩, st)) n).getD j none = some (e, u) → ∃ r0 ∈ takeR l k r n al, r0.taken = true ∧ e.span = r0.page ∧ r0.page ≤ j ∧ j < r0.stop) ∧ ∀ q : Run, q ∈ l → q.taken = true → q ∈ takeR l k r n al := by
  have hge := r.first_ge ha
  have hmem : ∀ q : Run, q ∈ l → q.taken = true → q ∈ takeR l k r n al := fun q hq hqt => ((take_mem hr ht hn _).2 (.inl ⟨hq, hqt⟩)).1
  have hoff : ∀ q : Run, q ∈ l → q.taken = true → ∀ j, q.page ≤ j → j < q.stop → ¬ (r.first al ≤ j ∧ j < r.first al + n) := fun q hq hqt j h1 h2 hh => by
    have := hb.tile.uniq hq (List.mem_of_getElem? hr) (k := j) h1 h2 (by omega) (by omega)
    rw [this, ht] at hqt
    cases hqt
  refine ⟨fun x hx j h1 h2 => hoff _ (hb.tk x hx) rfl j h1 h2, fun g hg j h1 h2 => hoff _ (h.lg g hg).1 rfl j h1 h2, fun j e u hj => ?_, hmem⟩
  rw [setE_get _ _ _ _ _ hE] at hj
  split at hj
  · next hh =>
    cases hj
    exact ⟨⟨r.first al, n, true⟩, ((take_mem hr ht hn _).2 (.inr rfl)).1, rfl, rfl, hh.1, hh.2⟩
  · obtain ⟨r0, q1, q2, q3⟩ := h.back j e u hj
    exact ⟨r0, hmem r0 q1 q2, q2, q3⟩

theorem map_app {β : Type} (xs left : List OS) (y : OS) (f : OS → β) : ((xs ++ [y]) ++ left).map f = (xs.map f) ++ f y :: (left.map f) := by simp
theorem nodup_ins {β : Type} [DecidableEq β] {xs left : List OS} {f : OS → β} {y : OS} (h : ((xs ++ left).map f).Nodup) (hn : f y ∉ (xs ++ left).map f) : (((xs ++ [y]) ++ left).map f).Nodup := by
  rw [map_app]
  rw [List.map_append] at h hn
  have hp : (xs.map f ++ f y :: left.map f).Perm (f y :: (xs.map f ++ left.map f)) := List.perm_middle
  rw [hp.nodup_iff]
  exact List.nodup_cons.2 ⟨hn, h⟩
theorem perm_move (xs left : List OS) (y : OS) : ((xs ++ [y]) ++ left).Perm (xs ++ (left ++ [y])) := by
  rw [List.append_assoc]
  exact (List.perm_append_comm (l₁ := [y]) (l₂ := left)).append_left xs
/-- A new slab. -/
theorem OHeapM.insNew {w w' : World} {H : OHL} {pages : Nat} {s : OP} (h : OHeapM w H pages s) {k cls st : Nat} {r : Run} {y : OS} {p : GPl} (hp : placeR 4 4 s.l = some k) (hr : s.l[k]? = some r) (hc : cls < 16)
    (hyx : y.x = ⟨r.first 4, cls, 0, false⟩) (t : Turned (mapF2 H) w w') (hg : GroundAt w' H.gr H.cl p pages (takeR s.l k r 4 4) (setE H.E (r.first 4) (some (⟨r.first 4, 0, cls, 0⟩, st)) 4) (H.b + 4) 0 H.c) (hpf : ∀ k, p.F k → H.p.F k ∨ w.heap.size ≤ k)
    (hmap : w'.heap[H.mb]? = some (.map ((H.xs.map oentry) ++ [oentry y]).toArray (H.clk + 1))) (hborn : y.born = H.clk) (hs : OSlabAt w' y.L y.x.O) (hnew : ∀ j, slabF y j → w.heap.size ≤ j) :
    ∃ H' : OHL, H'.left = H.left ∧ H'.G = H.G ∧ H'.c = H.c ∧ y ∈ H'.xs ∧ OHeapM w' H' pages ⟨takeR s.l k r 4 4, insO y.x s.A, s.R⟩ ∧ H.Of H' w.heap.size := by
  have K := h.keptG t
  obtain ⟨ht, hfit⟩ := placeR_freeO hp hr
  have hge := r.first_ge (al := 4) (by decide)
  have hbd := h.base.tile.bounds _ (List.mem_of_getElem? hr)
  have hfp : r.first 4 + 4 ≤ pages := by omega
  have hsz := h.size
  have hEl : r.first 4 + 4 ≤ H.E.length := by
    have := h.ground.map.most
    have := h.ground.map.len
    omega
  obtain ⟨o1, o2, o3, o4⟩ := EntO.open (n := 4) (v := 0) (cls := cls) h.base h.ent hr ht (by decide) 4 (by decide) hfit st hEl
  have hpg : y.x.page = r.first 4 := by rw [hyx]
  have hneA : ∀ x ∈ s.A ++ H.left.map (·.x), x.page ≠ r.first 4 := fun x hx e => o1 x hx x.page (Nat.le_refl _) (by omega) ⟨by omega, by omega⟩
  have hlt : ∀ z ∈ H.xs ++ H.left, ∀ j, slabF z j → j < w.heap.size := fun z hz j hj => h.F_lt j (.inr (.inr (.inr (.inr (.inr (.inr ⟨z, hz, hj⟩))))))
  refine ⟨{ H with p := p, E := setE H.E (r.first 4) (some (⟨r.first 4, 0, cls, 0⟩, st)) 4, b := H.b + 4, xs := H.xs ++ [y], clk := H.clk + 1 }, rfl, rfl, rfl, List.mem_append_right _ (List.mem_singleton.2 rfl),
    ⟨K.obj, hg, K.ring, ?_, ?_, K.tab, ?_, fun z hz => ?_, ⟨?_, ?_, ?_, ?_, fun z hz => ?_⟩, ?_, ⟨?_, ?_, ?_, ?_, ?_, h.base.nd⟩, ⟨?_, o3, ?_, ?_, h.ent.gnd, h.ent.sum⟩, ?_, ?_⟩, ⟨rfl, rfl, rfl, rfl, rfl, ?_⟩⟩
  · show w'.heap[H.mb]? = some (.map ((H.xs ++ [y]).map oentry).toArray (H.clk + 1))
    rw [List.map_append]
    exact hmap
  · intro e
    rcases hpf _ e with e | e
    · exact h.off e
    · have h1 := lt_of_block h.map
      have h2 : w.heap.size ≤ H.mb := e
      omega
  · rintro (e | e | e | e | e | e | ⟨z, hz, e⟩)
    · exact h.pos (.inl e)
    · exact h.pos (.inr (.inl e))
    · exact h.pos (.inr (.inr (.inl e)))
    · exact h.pos (.inr (.inr (.inr (.inl e))))
    · exact h.pos (.inr (.inr (.inr (.inr (.inl e)))))
    · rcases hpf _ e with e | e
      · exact h.pos (.inr (.inr (.inr (.inr (.inr (.inl e))))))
      · omega
    · rcases List.mem_append.1 hz with hz | hz
      · rcases List.mem_append.1 hz with hz | hz
        · exact h.pos (.inr (.inr (.inr (.inr (.inr (.inr ⟨z, List.mem_append_left _ hz, e⟩))))))
        · obtain rfl := List.mem_singleton.1 hz
          have := hnew 0 e
          omega
      · exact h.pos (.inr (.inr (.inr (.inr (.inr (.inr ⟨z, List.mem_append_right _ hz, e⟩))))))
  · rcases List.mem_append.1 hz with hz | hz
    · rcases List.mem_append.1 hz with hz | hz
      · exact K.each z (List.mem_append_left _ hz)
      · obtain rfl := List.mem_singleton.1 hz
        exact hs
    · exact K.each z (List.mem_append_right _ hz)
  · refine nodup_ins h.xs.ss fun hm => ?_
    obtain ⟨z, hz, e⟩ := List.mem_map.1 hm
    have h1 := hlt z hz _ (.inl rfl)
    have h2 := hnew _ (.inl rfl)
    have e' : z.L.s = y.L.s := e
    omega
  · refine nodup_ins h.xs.rs fun hm => ?_
    obtain ⟨z, hz, e⟩ := List.mem_map.1 hm
    have h1 := hlt z hz _ (.inr (.inl rfl))
    have h2 := hnew _ (.inr (.inl rfl))
    have e' : z.L.r = y.L.r := e
    omega
  · refine nodup_ins h.xs.bs fun hm => ?_
    obtain ⟨z, hz, e⟩ := List.mem_map.1 hm
    have h1 := hlt z hz _ (.inr (.inr rfl))
    have h2 := hnew _ (.inr (.inr rfl))
    have e' : z.L.b = y.L.b := e
    omega
  · show ((H.xs ++ [y]).map (·.born)).Nodup
    rw [List.map_append, List.nodup_append]
    refine ⟨h.xs.borns, by simp, fun a ha b hb e => ?_⟩
    obtain ⟨u, hu, rfl⟩ := List.mem_map.1 ha
    have := h.xs.old u hu
    simp at hb
    omega
  · show z.born < H.clk + 1
    rcases List.mem_append.1 hz with hz | hz
    · have := h.xs.old z hz; omega
    · obtain rfl := List.mem_singleton.1 hz
      omega
  · show ((H.xs ++ [y]).map (·.x)).Perm (insO y.x s.A)
    rw [List.map_append]
    exact (List.perm_append_comm.trans ((h.perm.cons y.x))).trans (insO_perm _ _).symm
  · exact take_tile h.base.tile hr (by decide) (by decide) hfit
  · refine insO_srt h.base.srt fun x hx => ?_
    rw [hpg]
    exact hneA x (List.mem_append_left _ hx)
  · intro x hx
    rcases List.mem_append.1 hx with hx | hx
    · rcases insO_mem.1 hx with rfl | hx
      · rw [hyx]
        exact (fresh_okO (Run.first_mod _ _) hfp hc).ok0
      · exact h.base.each x (List.mem_append_left _ hx)
    · exact h.base.each x (List.mem_append_right _ hx)
  · intro x hx
    rcases List.mem_append.1 hx with hx | hx
    · rcases insO_mem.1 hx with rfl | hx
      · rw [hpg]
        exact ((take_mem hr ht (by decide) _).2 (.inr rfl)).1
      · exact o4 _ (h.base.tk x (List.mem_append_left _ hx)) rfl
    · exact o4 _ (h.base.tk x (List.mem_append_right _ hx)) rfl
  · intro x hx z hz
    rcases insO_mem.1 hx with rfl | hx
    · rw [hpg]
      exact fun e => hneA z (List.mem_append_right _ hz) e.symm
    · exact h.base.sep x hx z hz
  · intro x hx j h1 h2
    rw [setE_get _ _ _ _ _ hEl]
    rcases List.mem_append.1 hx with hx | hx
    · rcases insO_mem.1 hx with rfl | hx
      · rw [if_pos (by omega), hyx]
        exact ⟨st, rfl⟩
      · rw [if_neg (o1 x (List.mem_append_left _ hx) j h1 h2)]
        exact h.ent.ent x (List.mem_append_left _ hx) j h1 h2
    · rw [if_neg (o1 x (List.mem_append_right _ hx) j h1 h2)]
      exact h.ent.ent x (List.mem_append_right _ hx) j h1 h2
  · intro g hg
    refine ⟨o4 _ (h.ent.lg g hg).1 rfl, fun j h1 h2 => ?_⟩
    rw [setE_get _ _ _ _ _ hEl, if_neg (o2 g hg j h1 h2)]
    exact (h.ent.lg g hg).2 j h1 h2
  · intro j e u hj hv
    rw [setE_get _ _ _ _ _ hEl] at hj
    split at hj
    · cases hj
      exact absurd rfl hv
    · exact h.ent.ver j e u hj hv
  · have h1 := free_take (al := 4) hr ht (by decide : 0 < 4) (by decide) hfit
    have h2 := h.num
    show freeN (takeR s.l k r 4 4) + (H.b + 4) + H.c = pages
    omega
  · have := h.cnt
    show H.b + 4 = 4 * ((insO y.x s.A).length + H.left.length)
    rw [insO_length]
    omega
  · rintro j (e | e | e | e | e | e | ⟨z, hz, e⟩)
    · exact .inl (.inl e)
    · exact .inl (.inr (.inl e))
    · exact .inl (.inr (.inr (.inl e)))
    · exact .inl (.inr (.inr (.inr (.inl e))))
    · exact .inl (.inr (.inr (.inr (.inr (.inl e)))))
    · exact (hpf _ e).imp (fun e => .inr (.inr (.inr (.inr (.inr (.inl e)))))) id
    · rcases List.mem_append.1 hz with hz | hz
      · rcases List.mem_append.1 hz with hz | hz
        · exact .inl (.inr (.inr (.inr (.inr (.inr (.inr ⟨z, List.mem_append_left _ hz, e⟩))))))
        · obtain rfl := List.mem_singleton.1 hz
          exact .inr (hnew j e)
      · exact .inl (.inr (.inr (.inr (.inr (.inr (.inr ⟨z, List.mem_append_right _ hz, e⟩))))))
/-- The slabs but one. -/
def delK (xs : List OS) (p : Nat) : List OS := xs.filter fun y => (y.x.page : Int) != (p : Int)
theorem delK_mem {xs : List OS} {p : Nat} {z : OS} : z ∈ delK xs p ↔ z ∈ xs ∧ z.x.page ≠ p := by
  unfold delK
  rw [List.mem_filter, bne_iff_ne]
  exact and_congr Iff.rfl ⟨fun h e => h (by rw [e]), fun h e => h (by omega)⟩
theorem delK_map (xs : List OS) (p : Nat) : (delK xs p).map (·.x) = delO (xs.map (·.x)) p := by
  unfold delK delO
  rw [List.filter_map]
  congr 1
  apply List.filter_congr
  intro z _
  simp only [Function.comp]
  by_cases h : z.x.page = p
  · rw [h]; simp
  · rw [(bne_iff_ne (a := (z.x.page : Int)) (b := (p : Int))).2 (by omega), bne_iff_ne.2 h]
theorem OHeapM.delK_perm {w : World} {H : OHL} {pages : Nat} {s : OP} (h : OHeapM w H pages s) {y : OS} (hy : y ∈ H.xs) : H.xs.Perm (y :: delK H.xs y.x.page) := by
  obtain ⟨a, b, e⟩ := List.append_of_mem hy
  have hk := h.keys
  have hd : delK H.xs y.x.page = a ++ b := by
    rw [e] at hk ⊢
    rw [List.map_append, List.map_cons, List.nodup_append] at hk
    obtain ⟨-, k2, k3⟩ := hk
    unfold delK
    rw [List.filter_append, List.filter_cons, if_neg (by simp), List.filter_eq_self.2, List.filter_eq_self.2]
    · intro z hz
      have := (List.nodup_cons.1 k2).1
      simp only [bne_iff_ne]
      exact fun e2 => this (List.mem_map.2 ⟨z, hz, e2⟩)
    · intro z hz
      have := k3 (z.x.page : Int) (List.mem_map.2 ⟨z, hz, rfl⟩) (y.x.page : Int) List.mem_cons_self
      simpa using this
  rw [hd]
  conv => lhs; rw [e]
  exact List.perm_middle
theorem OHeapM.move_perm {w : World} {H : OHL} {pages : Nat} {s : OP} (h : OHeapM w H pages s) {y : OS} (hy : y ∈ H.xs) : (H.xs ++ H.left).Perm (delK H.xs y.x.page ++ (H.left ++ [y])) := by
  refine ((h.delK_perm hy).append_right H.left).trans ?_
  rw [← List.append_assoc, List.cons_append]
  exact (List.perm_append_comm (l₁ := [y]) (l₂ := delK H.xs y.x.page ++ H.left))
/-- A slab leaves: out of the map (its item out of the lists apart). -/
theorem OHeapM.dropMap {w w' : World} {H : OHL} {pages : Nat} {s : OP} (h : OHeapM w H pages s) {y : OS} (hy : y ∈ H.xs) (t : Turned (fun k => k = H.mb) w w') (hmap : w'.heap[H.mb]? = some (.map ((delK H.xs y.x.page).map oentry).toArray H.clk)) :
    OHeapM w' { H with xs := delK H.xs y.x.page, left := H.left ++ [y] } pages ⟨s.l, delO s.A y.x.page, s.R⟩ ∧ H.Of { H with xs := delK H.xs y.x.page, left := H.left ++ [y] } w.heap.size := by
  have t2 : Turned (mapF2 H) w w' := t.mono (fun j hj _ => .inl hj)
  have K := h.keptG t2
  have hP := h.move_perm hy
  have hF : ∀ k, ({ H with xs := delK H.xs y.x.page, left := H.left ++ [y] } : OHL).F k → H.F k := by
    rintro k (e | e | e | e | e | e | ⟨z, hz, e⟩)
    · exact .inl e
    · exact .inr (.inl e)
    · exact .inr (.inr (.inl e))
    · exact .inr (.inr (.inr (.inl e)))
    · exact .inr (.inr (.inr (.inr (.inl e))))
    · exact .inr (.inr (.inr (.inr (.inr (.inl e)))))
    · exact .inr (.inr (.inr (.inr (.inr (.inr ⟨z, hP.mem_iff.2 hz, e⟩)))))
  have hA : s.A.Perm (y.x :: delO s.A y.x.page) := by
    have h1 := (h.delK_perm hy).map (·.x)
    rw [List.map_cons, delK_map] at h1
    refine (h.perm.symm.trans h1).trans (List.Perm.cons _ ?_)
    exact h.perm.filter _
  have hAB : (s.A ++ H.left.map (·.x)).Perm (delO s.A y.x.page ++ (H.left ++ [y]).map (·.x)) := by
    rw [List.map_append]
    refine (hA.append_right _).trans ?_
    rw [← List.append_assoc, List.cons_append]
    exact (List.perm_append_comm (l₁ := [y.x]) (l₂ := delO s.A y.x.page ++ H.left.map (·.x)))
  refine ⟨⟨K.obj, h.ground.turned t (fun e => blockO_ne_map h.ground.obj h.map e) (fun k hk e => h.off (by rw [← e]; exact hk)), K.ring, hmap, h.off, K.tab, fun e => h.pos (hF 0 e), fun z hz => K.each z (hP.mem_iff.2 hz), ⟨?_, ?_, ?_, ?_, ?_⟩, ?_, ⟨h.base.tile, h.base.srt.filter _, fun x hx => h.base.each x (hAB.mem_iff.2 hx), fun x hx => h.base.tk x (hAB.mem_iff.2 hx), ?_, ?_⟩, h.ent.sub fun x hx => ⟨x, hAB.mem_iff.2 hx, rfl, rfl, rfl⟩, h.num, ?_⟩, ⟨rfl, rfl, rfl, rfl, rfl, fun k hk => .inl (hF k hk)⟩⟩
  · exact (hP.map _).nodup_iff.1 h.xs.ss
  · exact (hP.map _).nodup_iff.1 h.xs.rs
  · exact (hP.map _).nodup_iff.1 h.xs.bs
  · exact h.xs.borns.sublist (List.filter_sublist.map _)
  · exact fun z hz => h.xs.old z (delK_mem.1 hz).1
  · show ((delK H.xs y.x.page).map (·.x)).Perm _
    rw [delK_map]
    exact h.perm.filter _
  · intro x hx z hz
    obtain ⟨h1, h2⟩ := delO_mem.1 hx
    rw [List.map_append, List.mem_append] at hz
    rcases hz with hz | hz
    · exact h.base.sep x h1 z hz
    · simp at hz
      rw [hz]
      exact h2
  · rw [List.map_append, List.map_append, List.nodup_append]
    refine ⟨h.base.nd, by simp, fun a ha b hb e => ?_⟩
    simp at hb
    obtain ⟨z, hz, rfl⟩ := List.mem_map.1 ha
    exact h.base.sep y.x (h.mem' hy) z hz (by rw [e, hb])
  · have h1 := hA.length_eq
    rw [List.length_cons] at h1
    have h2 := h.cnt
    show H.b = 4 * ((delO s.A y.x.page).length + (H.left ++ [y]).length)
    rw [List.length_append, List.length_singleton]
    omega

end Go.Proofs.YtlljejmblmjjnaaGreatDoor

/- oldheap: the span of a slab that left is closed; a slab comes back. -/
namespace Go.Proofs.YtlljejmblmjjnaaGreatDoor
set_option linter.unusedVariables false
set_option linter.unusedSimpArgs false
open Go.RowKit Go.ChangeMaps

theorem OBase.left_ne {pages : Nat} {l : List Run} {A B : List PO} {y : PO} (h : OBase pages l A (B ++ [y])) : ∀ x ∈ A ++ B, x.page ≠ y.page := by
  intro x hx
  rcases List.mem_append.1 hx with hx | hx
  · exact h.sep x hx y (List.mem_append_right _ (List.mem_singleton.2 rfl))
  · have hn := h.nd
    rw [List.map_append, List.nodup_append] at hn
    exact hn.2.2 x.page (List.mem_map.2 ⟨x, hx, rfl⟩) y.page (by simp)
theorem OHeapM.closeLeft {w w' : World} {H : OHL} {pages : Nat} {s : OP} (h : OHeapM w H pages s) {y : OS} {L0 : List OS} (hL : H.left = L0 ++ [y]) {p : GPl} (t : Turned H.p.F w w')
    (hg : GroundAt w' H.gr H.cl p pages (giveR s.l (idxR y.x.page s.l) ⟨y.x.page, 4, true⟩) (setE H.E y.x.page none 4) (H.b - 4) 0 H.c) (hpf : ∀ k, p.F k → H.p.F k ∨ w.heap.size ≤ k) :
    ∃ H' : OHL, H'.left = L0 ∧ H'.G = H.G ∧ H'.c = H.c ∧ OHeapM w' H' pages ⟨giveR s.l (idxR y.x.page s.l) ⟨y.x.page, 4, true⟩, s.A, s.R⟩ ∧ H.Of H' w.heap.size := by
  have K := h.keptG (t.mono (fun j hj _ => .inr hj))
  have hB : H.left.map (·.x) = L0.map (·.x) ++ [y.x] := by rw [hL, List.map_append]; rfl
  have hbase := h.base
  rw [hB] at hbase
  have hne := hbase.left_ne
  have hsz := h.size
  have hyM : y.x ∈ s.A ++ (L0.map (·.x) ++ [y.x]) := List.mem_append_right _ (List.mem_append_right _ (List.mem_singleton.2 rfl))
  have hyr := hbase.tk y.x hyM
  have hk := idxR_ofO hbase.tile hyr
  have hmemI : ∀ x, x ∈ s.A ++ L0.map (·.x) → x ∈ s.A ++ (L0.map (·.x) ++ [y.x]) := fun x hx => by
    rcases List.mem_append.1 hx with hx | hx
    · exact List.mem_append_left _ hx
    · exact List.mem_append_right _ (List.mem_append_left _ hx)
  have hEl : y.x.page + 4 ≤ H.E.length := by
    have := (hbase.each y.x hyM).fits
    have := h.ground.map.most
    have := h.ground.map.len
    omega
  have hkeep : ∀ q : Run, q ∈ s.l → q.taken = true → q.page ≠ y.x.page → q ∈ giveR s.l (idxR y.x.page s.l) ⟨y.x.page, 4, true⟩ := fun q hq hqt hqp =>
    ((give_mem hbase.tile hk rfl _).2 ⟨⟨hq, hqt⟩, fun e => hqp (congrArg Run.page e)⟩).1
  have hent := h.ent
  rw [hB] at hent
  have hlgp : ∀ g ∈ H.G, ∀ j, g.1 ≤ j → j < g.1 + g.2 → ¬ (y.x.page ≤ j ∧ j < y.x.page + 4) := fun g hg j h1 h2 hh => by
    obtain ⟨st0, e0⟩ := (hent.lg g hg).2 j h1 h2
    obtain ⟨st1, e1⟩ := hent.ent y.x hyM j hh.1 hh.2
    rw [e0] at e1
    exact absurd (show (2 : Nat) = 0 from congrArg (fun q : Ent4 × Nat => q.1.version) (Option.some.inj e1)) (by decide)
  have hLs : (H.xs ++ L0).Sublist (H.xs ++ H.left) := by rw [hL]; exact (List.sublist_append_left L0 [y]).append_left H.xs
  refine ⟨{ H with p := p, E := setE H.E y.x.page none 4, b := H.b - 4, left := L0 }, rfl, rfl, rfl, ⟨K.obj, hg, K.ring, (t.block _ (lt_of_block h.map) h.off).trans h.map, ?_, K.tab, ?_, fun z hz => K.each z (hLs.subset hz), ⟨?_, ?_, ?_, h.xs.borns, h.xs.old⟩, h.perm, ⟨?_, hbase.srt, fun x hx => hbase.each x (hmemI x hx), fun x hx => hkeep _ (hbase.tk x (hmemI x hx)) rfl (hne x hx), fun x hx z hz => hbase.sep x hx z (List.mem_append_left _ hz), ?_⟩, ⟨?_, ?_, ?_, ?_, hent.gnd, hent.sum⟩, ?_, ?_⟩, ⟨rfl, rfl, rfl, rfl, rfl, ?_⟩⟩
  · intro e
    rcases hpf _ e with e | e
    · exact h.off e
    · have h1 := lt_of_block h.map
      have h2 : w.heap.size ≤ H.mb := e
      omega
  · rintro (e | e | e | e | e | e | ⟨z, hz, e⟩)
    · exact h.pos (.inl e)
    · exact h.pos (.inr (.inl e))
    · exact h.pos (.inr (.inr (.inl e)))
    · exact h.pos (.inr (.inr (.inr (.inl e))))
    · exact h.pos (.inr (.inr (.inr (.inr (.inl e)))))
    · rcases hpf _ e with e | e
      · exact h.pos (.inr (.inr (.inr (.inr (.inr (.inl e))))))
      · omega
    · exact h.pos (.inr (.inr (.inr (.inr (.inr (.inr ⟨z, hLs.subset hz, e⟩))))))
  · exact h.xs.ss.sublist (hLs.map _)
  · exact h.xs.rs.sublist (hLs.map _)
  · exact h.xs.bs.sublist (hLs.map _)
  · exact give_tile hbase.tile hk
  · have hn := hbase.nd
    rw [List.map_append, List.nodup_append] at hn
    exact hn.1
  · intro x hx j h1 h2
    rw [setE_get _ _ _ _ _ hEl, if_neg (fun hh : y.x.page ≤ j ∧ j < y.x.page + 4 => hne x hx (hbase.page_uniq (hmemI x hx) hyM (k := j) ⟨h1, h2⟩ hh))]
    exact hent.ent x (hmemI x hx) j h1 h2
  · intro j e u hj
    rw [setE_get _ _ _ _ _ hEl] at hj
    split at hj
    · cases hj
    · next hh =>
      obtain ⟨r0, q1, q2, q3, q4, q5⟩ := hent.back j e u hj
      refine ⟨r0, hkeep r0 q1 q2 (fun ep => ?_), q2, q3, q4, q5⟩
      have := hbase.tile.same_page q1 hyr ep
      rw [this] at q4 q5
      exact hh ⟨q4, q5⟩
  · intro g hg
    have hy0 := hlgp g hg
    refine ⟨hkeep _ (hent.lg g hg).1 rfl (fun ep => ?_), fun j h1 h2 => ?_⟩
    · have ep' : g.1 = y.x.page := ep
      have := hbase.tile.same_page (hent.lg g hg).1 hyr ep'
      have hn : g.2 = 4 := congrArg Run.n this
      exact hy0 g.1 (Nat.le_refl _) (by omega) ⟨by omega, by omega⟩
    · rw [setE_get _ _ _ _ _ hEl, if_neg (hy0 j h1 h2)]
      exact (hent.lg g hg).2 j h1 h2
  · intro j e u hj hv
    rw [setE_get _ _ _ _ _ hEl] at hj
    split at hj
    · cases hj
    · exact hent.ver j e u hj hv
  · have h1 : freeN (giveR s.l (idxR y.x.page s.l) ⟨y.x.page, 4, true⟩) = freeN s.l + 4 := free_give hk rfl
    have h2 := h.num
    have h3 := h.cnt
    rw [hL, List.length_append, List.length_singleton] at h3
    show freeN (giveR s.l (idxR y.x.page s.l) ⟨y.x.page, 4, true⟩) + (H.b - 4) + H.c = pages
    omega
  · have h3 := h.cnt
    rw [hL, List.length_append, List.length_singleton] at h3
    show H.b - 4 = 4 * (s.A.length + L0.length)
    omega
  · rintro j (e | e | e | e | e | e | ⟨z, hz, e⟩)
    · exact .inl (.inl e)
    · exact .inl (.inr (.inl e))
    · exact .inl (.inr (.inr (.inl e)))
    · exact .inl (.inr (.inr (.inr (.inl e))))
    · exact .inl (.inr (.inr (.inr (.inr (.inl e)))))
    · exact (hpf _ e).imp (fun e => .inr (.inr (.inr (.inr (.inr (.inl e)))))) id
    · exact .inl (.inr (.inr (.inr (.inr (.inr (.inr ⟨z, hLs.subset hz, e⟩))))))
/-- A slab that left comes back (its item into the lists, and its span's mark, apart). -/
theorem OHeapM.rejoin {w w' : World} {H : OHL} {pages : Nat} {s : OP} (h : OHeapM w H pages s) {y : OS} {L0 : List OS} (hL : H.left = L0 ++ [y]) (t : Turned (fun k => k = H.mb) w w')
    (hmap : w'.heap[H.mb]? = some (.map ((H.xs.map oentry) ++ [oentry { y with born := H.clk }]).toArray (H.clk + 1))) :
    ∃ H' : OHL, H'.left = L0 ∧ H'.G = H.G ∧ H'.c = H.c ∧ { y with born := H.clk } ∈ H'.xs ∧ OHeapM w' H' pages ⟨s.l, insO y.x s.A, s.R⟩ ∧ H.Of H' w.heap.size := by
  have K := h.keptG (t.mono (fun j hj _ => .inl hj))
  have hB : H.left.map (·.x) = L0.map (·.x) ++ [y.x] := by rw [hL, List.map_append]; rfl
  have hbase := h.base
  rw [hB] at hbase
  have hne := hbase.left_ne
  have hP : ∀ {β : Type} (f : OS → β), (∀ b, f { y with born := b } = f y) → (((H.xs ++ [{ y with born := H.clk }]) ++ L0).map f).Perm ((H.xs ++ H.left).map f) := fun f hf => by
    rw [map_app, hf, hL, ← List.append_assoc, List.map_append, List.map_append]
    exact List.perm_middle.trans (show (f y :: (H.xs.map f ++ L0.map f)).Perm (H.xs.map f ++ L0.map f ++ [f y]) from (List.perm_append_comm (l₁ := [f y]) (l₂ := H.xs.map f ++ L0.map f)))
  have hmemF : ∀ k, (∃ z ∈ (H.xs ++ [{ y with born := H.clk }]) ++ L0, slabF z k) → ∃ z ∈ H.xs ++ H.left, slabF z k := by
    rintro k ⟨z, hz, e⟩
    rw [hL]
    rcases List.mem_append.1 hz with hz | hz
    · rcases List.mem_append.1 hz with hz | hz
      · exact ⟨z, List.mem_append_left _ hz, e⟩
      · obtain rfl := List.mem_singleton.1 hz
        exact ⟨y, List.mem_append_right _ (List.mem_append_right _ (List.mem_singleton.2 rfl)), e⟩
    · exact ⟨z, List.mem_append_right _ (List.mem_append_left _ hz), e⟩
  have hAB : ∀ x, x ∈ insO y.x s.A ++ L0.map (·.x) → x ∈ s.A ++ (L0.map (·.x) ++ [y.x]) := fun x hx => by
    rcases List.mem_append.1 hx with hx | hx
    · rcases insO_mem.1 hx with rfl | hx
      · exact List.mem_append_right _ (List.mem_append_right _ (List.mem_singleton.2 rfl))
      · exact List.mem_append_left _ hx
    · exact List.mem_append_right _ (List.mem_append_left _ hx)
  have hent := h.ent
  rw [hB] at hent
  refine ⟨{ H with xs := H.xs ++ [{ y with born := H.clk }], left := L0, clk := H.clk + 1 }, rfl, rfl, rfl, List.mem_append_right _ (List.mem_singleton.2 rfl),
    ⟨K.obj, h.ground.turned t (fun e => blockO_ne_map h.ground.obj h.map e) (fun k hk e => h.off (by rw [← e]; exact hk)), K.ring, ?_, h.off, K.tab, ?_, fun z hz => ?_, ⟨?_, ?_, ?_, ?_, fun z hz => ?_⟩, ?_, ⟨hbase.tile, ?_, fun x hx => hbase.each x (hAB x hx), fun x hx => hbase.tk x (hAB x hx), ?_, ?_⟩, hent.sub fun x hx => ⟨x, hAB x hx, rfl, rfl, rfl⟩, h.num, ?_⟩, ⟨rfl, rfl, rfl, rfl, rfl, ?_⟩⟩
  · show w'.heap[H.mb]? = some (.map ((H.xs ++ [{ y with born := H.clk }]).map oentry).toArray (H.clk + 1))
    rw [List.map_append]
    exact hmap
  · rintro (e | e | e | e | e | e | e)
    · exact h.pos (.inl e)
    · exact h.pos (.inr (.inl e))
    · exact h.pos (.inr (.inr (.inl e)))
    · exact h.pos (.inr (.inr (.inr (.inl e))))
    · exact h.pos (.inr (.inr (.inr (.inr (.inl e)))))
    · exact h.pos (.inr (.inr (.inr (.inr (.inr (.inl e))))))
    · exact h.pos (.inr (.inr (.inr (.inr (.inr (.inr (hmemF 0 e)))))))
  · rcases List.mem_append.1 hz with hz | hz
    · rcases List.mem_append.1 hz with hz | hz
      · exact K.each z (List.mem_append_left _ hz)
      · obtain rfl := List.mem_singleton.1 hz
        exact K.each y (by rw [hL]; exact List.mem_append_right _ (List.mem_append_right _ (List.mem_singleton.2 rfl)))
    · exact K.each z (by rw [hL]; exact List.mem_append_right _ (List.mem_append_left _ hz))
  · exact (hP (·.L.s) (fun _ => rfl)).nodup_iff.2 h.xs.ss
  · exact (hP (·.L.r) (fun _ => rfl)).nodup_iff.2 h.xs.rs
  · exact (hP (·.L.b) (fun _ => rfl)).nodup_iff.2 h.xs.bs
  · show ((H.xs ++ [{ y with born := H.clk }]).map OS.born).Nodup
    rw [List.map_append, List.nodup_append]
    refine ⟨h.xs.borns, by simp, fun a ha b hb e => ?_⟩
    obtain ⟨u, hu, rfl⟩ := List.mem_map.1 ha
    have := h.xs.old u hu
    simp at hb
    omega
  · show z.born < H.clk + 1
    rcases List.mem_append.1 hz with hz | hz
    · have := h.xs.old z hz; omega
    · obtain rfl := List.mem_singleton.1 hz
      exact Nat.lt_succ_self _
  · show ((H.xs ++ [{ y with born := H.clk }]).map OS.x).Perm (insO y.x s.A)
    rw [List.map_append]
    exact (List.perm_append_comm.trans ((h.perm.cons y.x))).trans (insO_perm _ _).symm
  · exact insO_srt hbase.srt fun x hx => hne x (List.mem_append_left _ hx)
  · intro x hx z hz
    rcases insO_mem.1 hx with rfl | hx
    · exact fun e => hne z (List.mem_append_right _ hz) e.symm
    · exact hbase.sep x hx z (List.mem_append_left _ hz)
  · have hn := hbase.nd
    rw [List.map_append, List.nodup_append] at hn
    exact hn.1
  · have h3 := h.cnt
    rw [hL, List.length_append, List.length_singleton] at h3
    show H.b = 4 * ((insO y.x s.A).length + L0.length)
    rw [insO_length]
    omega
  · rintro k (e | e | e | e | e | e | e)
    · exact .inl (.inl e)
    · exact .inl (.inr (.inl e))
    · exact .inl (.inr (.inr (.inl e)))
    · exact .inl (.inr (.inr (.inr (.inl e))))
    · exact .inl (.inr (.inr (.inr (.inr (.inl e)))))
    · exact .inl (.inr (.inr (.inr (.inr (.inr (.inl e))))))
    · exact .inl (.inr (.inr (.inr (.inr (.inr (.inr (hmemF k e)))))))

end Go.Proofs.YtlljejmblmjjnaaGreatDoor
