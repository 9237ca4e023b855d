/- radix: words of entries; a map in memory (at most 64 pages: one leaf). -/
import Derived.Test.YtlljejmblmjjnaaGreatDoorNA
import Derived.Deep.Cut
import Derived.Laws.OwnMore
namespace Go.Proofs.YtlljejmblmjjnaaGreatDoor
set_option linter.unusedVariables false
set_option linter.unusedSimpArgs false
open Go.RowKit Go.ChangeMaps

/-- What is told of a page. -/
structure Ent4 where
  span : Nat
  version : Nat
  cls : Nat
  state : Nat

structure Ent4.Ok (e : Ent4) : Prop where
  span : e.span < 4096
  version : e.version < 4
  cls : e.cls < 64
  state : e.state < 8

def rxF : List (Nat × Nat) := [(0, 1), (1, 3), (4, 6), (10, 2), (12, 12), (24, 40)]
theorem rxF_asc : AscF rxF := by
  intro k h
  match k, h with
  | 0, _ => exact ⟨rfl, (by decide : 1 ≤ 1), rfl, by decide⟩
  | 1, _ => exact ⟨rfl, (by decide : 1 ≤ 3), rfl, by decide⟩
  | 2, _ => exact ⟨rfl, (by decide : 1 ≤ 6), rfl, by decide⟩
  | 3, _ => exact ⟨rfl, (by decide : 1 ≤ 2), rfl, by decide⟩
  | 4, _ => exact ⟨rfl, (by decide : 1 ≤ 12), rfl, by decide⟩
  | 5, _ => exact ⟨rfl, (by decide : 1 ≤ 40), rfl, by decide⟩

set_option maxHeartbeats 400000 in
theorem rxFields_any (w : World) : Calls Tryz.prog 96 #[] w (FieldsPost w rxF) := by
  go_enter Tryz.func96, Tryz.ntmps96
  go_wp2
  go_ret
  refine ⟨rfl, ?_, (by repeat (first | exact Below.refl _ _ | assumption | refine Below.alloc ?_ (by first | omega | (simp <;> omega)) _ | refine Below.drew ?_ | refine Below.setCell ?_ (by first | omega | (simp <;> omega)) _ | refine Below.via (by assumption) (by first | omega | (simp <;> omega)) ?_)), by simp⟩
  exact heap_alloc_new _ _

def radW (e : Ent4) (st : Nat) : Nat := packN rxF [1, e.state, e.cls, e.version, e.span, st] 6
theorem radW_eq (e : Ent4) (st : Nat) : radW e st = 1 + e.state * 2 + e.cls * 16 + e.version * 1024 + e.span * 4096 + st * 16777216 := by
  simp [radW, rxF, packN, sumW]
theorem radW_lt {e : Ent4} (h : e.Ok) {st : Nat} (hs : st < 2 ^ 40) : radW e st < 2 ^ 64 := by
  obtain ⟨h1, h2, h3, h4⟩ := h
  rw [radW_eq]; omega
theorem radW_pos (e : Ent4) (st : Nat) : 0 < radW e st := by rw [radW_eq]; omega

theorem wordsC_rx (b c d e f : Nat) : wordsC [1, b, c, d, e, f] = #[.int .u64 1, .int .u64 b, .int .u64 c, .int .u64 d, .int .u64 e, .int .u64 f] := rfl

theorem min4 (a' b' c' d' : Nat) : ∃ m : Int, 0 ≤ m ∧ ∀ (ts : Array TypeId) (t : TypeId) (w : World), (Builtin.min_ ts t #[.int .i64 a', .int .i64 b', .int .i64 c', .int .i64 d']).run Tryz.prog w = .ok (.int .i64 m) w := by
  obtain ⟨a, ha⟩ : ∃ a : Int, a = a' := ⟨_, rfl⟩
  obtain ⟨b, hb⟩ : ∃ a : Int, a = b' := ⟨_, rfl⟩
  obtain ⟨c, hc⟩ : ∃ a : Int, a = c' := ⟨_, rfl⟩
  obtain ⟨d, hd⟩ : ∃ a : Int, a = d' := ⟨_, rfl⟩
  rw [← ha, ← hb, ← hc, ← hd]
  refine ⟨if (d : Int) < (if (c : Int) < (if (b : Int) < a then b else a) then c else (if (b : Int) < a then b else a)) then d else (if (c : Int) < (if (b : Int) < a then b else a) then c else (if (b : Int) < a then b else a)), ?_, fun ts t w => by simp [Builtin.min_, Builtin.min2]⟩
  split <;> (try split) <;> (try split) <;> omega

theorem size_ad (w : World) (o : Obj) : (w.alloc o).drew.heap.size = w.heap.size + 1 := by show (w.alloc o).heap.size = _; simp
theorem cell_past_alloc {w w' : World} {o : Obj} {b k : Nat} {v : Value} (hb : Below (w.alloc o).heap.size (w.alloc o) w') (h : w.cell? ⟨b, k, none⟩ = some v) : w'.cell? ⟨b, k, none⟩ = some v :=
  cell_past hb (by have := cell_lt h; simp; omega) ((World.cell?_alloc_past _ _ _ (cell_lt h)).trans h)

theorem cell_past_alloc2 {w w' : World} {o : Obj} {b k : Nat} {v : Value} (hb : Below (w.alloc o).drew.heap.size (w.alloc o).drew w') (h : w.cell? ⟨b, k, none⟩ = some v) : w'.cell? ⟨b, k, none⟩ = some v :=
  cell_past hb (by have := cell_lt h; rw [size_ad]; omega) ((World.cell?_alloc_past _ _ _ (cell_lt h)).trans h)

set_option maxRecDepth 4000 in
set_option maxHeartbeats 1000000 in
theorem rxWord_core (span version cls state st R : Nat) (hR : packN rxF [1, state, cls, version, span, st] 6 = R) (h1 : span < 4096) (h2 : version < 4) (h3 : cls < 64) (h4 : state < 8) (hs : st < 2 ^ 40) (w : World) :
    Calls Tryz.prog 127 #[.agg #[.int .i64 span, .int .i64 version, .int .i64 cls, .int .i64 state], .int .u64 st] w
      fun e w' => e = .returned (.tuple #[.int .u64 (R : Nat), .bool true]) ∧ Below w.heap.size w w' := by
  have hfit : FitsF rxF [1, state, cls, version, span, st] := by
    intro k h
    match k, h with
    | 0, _ => show 1 < 2 ^ 1; omega
    | 1, _ => show state < 2 ^ 3; omega
    | 2, _ => show cls < 2 ^ 6; omega
    | 3, _ => show version < 2 ^ 2; omega
    | 4, _ => show span < 2 ^ 12; omega
    | 5, _ => show st < 2 ^ 40; omega
  have HR := Lib.hid hR
  have hF := fun w => rxFields_any w
  have HP := Lib.hid (fun b c w => pack_yes b 6 c 6 rxF [1, state, cls, version, span, st] rxF_asc hfit rfl w (by decide))
  have u1 : IntKind.u64.wrap (span : Int) = span := wraps_u64 _ (by omega) (by omega)
  have u2 : IntKind.u64.wrap (version : Int) = version := wraps_u64 _ (by omega) (by omega)
  have u3 : IntKind.u64.wrap (cls : Int) = cls := wraps_u64 _ (by omega) (by omega)
  have u4 : IntKind.u64.wrap (state : Int) = state := wraps_u64 _ (by omega) (by omega)
  obtain ⟨m, hm0, hmin⟩ := min4 span version cls state
  have hm1 : ¬ m < 0 := by omega
  clear hR hfit
  go_enter Tryz.func127, Tryz.ntmps127
  go_wp2
  obtain ⟨W1, hW1⟩ : ∃ W1, W1 = w.alloc (.cells #[.int .i64 span, .int .i64 version, .int .i64 cls, .int .i64 state] 48) := ⟨_, rfl⟩
  have hs1 : W1.heap.size = w.heap.size + 1 := by rw [hW1]; simp
  have x0 : W1.cell? ⟨w.heap.size, 0, none⟩ = some (.int .i64 span) := by rw [hW1]; simp [go_sem]
  have x1 : W1.cell? ⟨w.heap.size, 1, none⟩ = some (.int .i64 version) := by rw [hW1]; simp [go_sem]
  have x2 : W1.cell? ⟨w.heap.size, 2, none⟩ = some (.int .i64 cls) := by rw [hW1]; simp [go_sem]
  have x3 : W1.cell? ⟨w.heap.size, 3, none⟩ = some (.int .i64 state) := by rw [hW1]; simp [go_sem]
  have n0 := World.new_ne _ _ x0
  have hbW : Below w.heap.size w W1 := by rw [hW1]; exact (by repeat (first | exact Below.refl _ _ | assumption | refine Below.alloc ?_ (by first | omega | (simp <;> omega)) _ | refine Below.drew ?_ | refine Below.setCell ?_ (by first | omega | (simp <;> omega)) _ | refine Below.via (by assumption) (by first | omega | (simp <;> omega)) ?_))
  rw [← hW1]
  clear hW1
  go_region_held3 (fun W : World => W.cell? ⟨w.heap.size, 0, none⟩ = some (.int .i64 span) ∧ W.cell? ⟨w.heap.size, 1, none⟩ = some (.int .i64 version) ∧ W.cell? ⟨w.heap.size, 2, none⟩ = some (.int .i64 cls) ∧ W.cell? ⟨w.heap.size, 3, none⟩ = some (.int .i64 state)) (go_keep)
    ((first
      | (go_at_call 96; refine (hF _).mono ?_; rintro e w2 ⟨rfl, hf2, hb2, hz2⟩; have k0 := cell_past hb2 (cell_lt x0) x0; have k1 := cell_past hb2 (cell_lt x1) x1; have k2 := cell_past hb2 (cell_lt x2) x2; have k3 := cell_past hb2 (cell_lt x3) x3; (have hz2' : W1.heap.size + 1 ≤ w2.heap.size := hz2); (have hf2' : w2.heap[W1.heap.size]? = some (.cells (fieldsC rxF) 206 (0, 0)) := hf2); (have HB2 := Lib.hid (show Below w.heap.size w w2 from Below.via hb2 (show w.heap.size ≤ W1.heap.size by omega) hbW.drew)); have hs2 : w.heap.size ≤ w2.heap.size := HB2.out.size)
      | (go_at_call 96; refine (hF _).mono ?_; rintro e w2 ⟨rfl, hf2, hb2, hz2⟩; have k0 := cell_past_alloc2 hb2 x0; have k1 := cell_past_alloc2 hb2 x1; have k2 := cell_past_alloc2 hb2 x2; have k3 := cell_past_alloc2 hb2 x3; have hf2b := hf2; rw [size_ad] at hf2b; (have hv2 : w2.heap[W1.heap.size]? = some (.cells #[.int .u64 1, .int .u64 state, .int .u64 cls, .int .u64 version, .int .u64 span, .int .u64 st] 148) := (hb2.block _ (by rw [size_ad]; omega)).trans (heap_alloc_new W1 _)); (have HB2b := Lib.hid (show Below w.heap.size w w2 from Below.via hb2 (by rw [size_ad]; omega) (hbW.alloc (by omega) _).drew)); have hs2b : w.heap.size ≤ w2.heap.size := HB2b.out.size)
      | (go_at_call 155; refine (HP.out _ _ _ (by rw [← hs1]; exact hf2b) (by rw [← hs1, hv2, wordsC_rx])).mono ?_; rintro e w3 ⟨rfl, hb3⟩; have j0 := cell_past hb3 (cell_lt k0) k0; have j1 := cell_past hb3 (cell_lt k1) k1; have j2 := cell_past hb3 (cell_lt k2) k2; have j3 := cell_past hb3 (cell_lt k3) k3; (have HB3 := Lib.hid (show Below w.heap.size w w3 from Below.via hb3 hs2b HB2b.out)))
      | (go_at_call 155; refine (HP.out _ _ _ (by rw [← hs1, heap_alloc_old _ _ (by omega)]; exact hf2') (by rw [heap_alloc_new, wordsC_rx])).mono ?_; rintro e w3 ⟨rfl, hb3⟩; have j0 := cell_past_alloc hb3 k0; have j1 := cell_past_alloc hb3 k1; have j2 := cell_past_alloc hb3 k2; have j3 := cell_past_alloc hb3 k3; (have HB3 := Lib.hid (show Below w.heap.size w w3 from Below.via hb3 (by simp; omega) (HB2.out.alloc hs2 _))))))
  all_goals (go_wp2; go_ret2; exact ⟨by rw [← HR.out]; rfl, HB3.out⟩)

theorem rxWord_yes (e : Ent4) (he : e.Ok) (st : Nat) (hs : st < 2 ^ 40) (w : World) :
    Calls Tryz.prog 127 #[.agg #[.int .i64 e.span, .int .i64 e.version, .int .i64 e.cls, .int .i64 e.state], .int .u64 st] w
      fun e1 w' => e1 = .returned (.tuple #[.int .u64 (radW e st : Nat), .bool true]) ∧ Below w.heap.size w w' :=
  rxWord_core e.span e.version e.cls e.state st _ rfl he.span he.version he.cls he.state hs w

end Go.Proofs.YtlljejmblmjjnaaGreatDoor

/- radix: a map in memory (at most 64 pages: one leaf); next, in, Word, Get. -/
namespace Go.Proofs.YtlljejmblmjjnaaGreatDoor
set_option linter.unusedVariables false
set_option linter.unusedSimpArgs false
open Go.RowKit Go.ChangeMaps

abbrev PE := Option (Ent4 × Nat)
def wdO : PE → Nat | none => 0 | some p => radW p.1 p.2
def PEOk (x : PE) : Prop := ∀ p, x = some p → p.1.Ok ∧ p.2 < 2 ^ 40
theorem wdO_lt {x : PE} (h : PEOk x) : wdO x < 2 ^ 64 := by
  cases x with
  | none => decide
  | some p => exact radW_lt (h p rfl).1 (h p rfl).2
theorem wdO_zero (x : PE) : wdO x = 0 ↔ x = none := by
  cases x with
  | none => simp [wdO]
  | some p => simp [wdO]; have := radW_pos p.1 p.2; omega

def leafV (E : List PE) : List Value := E.map fun x => Value.int .u64 (wdO x : Nat)
def cntE (E : List PE) : Nat := (E.filter Option.isSome).length
def leafC (E : List PE) : Array Value := (leafV E ++ [Value.int .i64 (cntE E : Nat)]).toArray
def leafP : Option Nat → Value | none => .pointer none | some l => .pointer (some ⟨l, 0, none⟩)
def rootC (pages : Nat) (lf : Option Nat) : Array Value := if pages = 0 then #[] else #[leafP lf]

structure MapAt (w : World) (m rb : Nat) (lf : Option Nat) (pages : Nat) (E : List PE) (stamp : Nat) : Prop where
  obj : w.heap[m]? = some (.cells #[.int .i64 pages, .slice (some ⟨rb, 0, none⟩) ((pages + 63) / 64) ((pages + 63) / 64), .int .u64 stamp] 177 (0, 0))
  root : w.heap[rb]? = some (.cells (rootC pages lf) 208 (0, 0))
  leaf : ∀ l, lf = some l → w.heap[l]? = some (.cells (leafC E) 211 (0, 0)) ∧ 0 < cntE E
  bare : lf = none → ∀ x ∈ E, x = none
  len : E.length = 64
  ok : ∀ x ∈ E, PEOk x
  past : ∀ k, pages ≤ k → E.getD k none = none
  most : pages ≤ 64
  small : stamp < 2 ^ 40

theorem MapAt.ne {w : World} {m rb pages stamp : Nat} {lf : Option Nat} {E : List PE} (h : MapAt w m rb lf pages E stamp) : m ≠ rb ∧ ∀ l, lf = some l → m ≠ l ∧ rb ≠ l := by
  refine ⟨fun e => ?_, fun l hl => ⟨fun e => ?_, fun e => ?_⟩⟩
  · have h1 := h.obj
    rw [e, h.root] at h1
    simp at h1
  · have h1 := h.obj
    rw [e, (h.leaf l hl).1] at h1
    simp at h1
  · have h1 := h.root
    rw [e, (h.leaf l hl).1] at h1
    simp at h1
theorem MapAt.turned {F : Nat → Prop} {w w' : World} {m rb pages stamp : Nat} {lf : Option Nat} {E : List PE} (h : MapAt w m rb lf pages E stamp) (t : Turned F w w') (hm : ¬ F m) (hr : ¬ F rb) (hl : ∀ l, lf = some l → ¬ F l) : MapAt w' m rb lf pages E stamp :=
  ⟨(t.block _ (lt_of_block h.obj) hm).trans h.obj, (t.block _ (lt_of_block h.root) hr).trans h.root, fun l e => ⟨(t.block _ (lt_of_block (h.leaf l e).1) (hl l e)).trans (h.leaf l e).1, (h.leaf l e).2⟩, h.bare, h.len, h.ok, h.past, h.most, h.small⟩
theorem MapAt.below {w w' : World} {m rb pages stamp : Nat} {lf : Option Nat} {E : List PE} (h : MapAt w m rb lf pages E stamp) (hb : Below w.heap.size w w') : MapAt w' m rb lf pages E stamp :=
  h.turned (Turned.of_below (F := fun _ => False) hb (Nat.le_refl _)) (fun h => h) (fun h => h) (fun _ _ h => h)

theorem leafC_get {E : List PE} (hl : E.length = 64) {k : Nat} (hk : k < 64) : (leafC E)[k]? = some (.int .u64 (wdO (E.getD k none) : Nat)) := by
  unfold leafC leafV
  rw [List.getElem?_toArray, List.getElem?_append_left (by simp; omega), List.getElem?_map, List.getD_eq_getElem?_getD, List.getElem?_eq_getElem (by omega)]
  rfl
theorem leafC_cnt {E : List PE} (hl : E.length = 64) : (leafC E)[64]? = some (.int .i64 (cntE E : Nat)) := by
  unfold leafC leafV
  rw [List.getElem?_toArray, List.getElem?_append_right (by simp; omega)]
  simp [hl]

def nextSt (st : Nat) : Nat := (st + 1) % 2 ^ 40
set_option maxHeartbeats 400000 in
theorem rxNext_any (m rb pages stamp : Nat) (lf : Option Nat) (E : List PE) (w : World) (h : MapAt w m rb lf pages E stamp) :
    Calls Tryz.prog 128 #[.pointer (some ⟨m, 0, none⟩)] w fun e w' => e = .returned (.int .u64 (nextSt stamp : Nat)) ∧ w = w' := by
  have c2 : w.cell? ⟨m, 2, none⟩ = some (.int .u64 stamp) := by rw [cell_of_block h.obj]; rfl
  have hs := h.small
  have e1 : IntKind.u64.wrap ((stamp : Int) + 1) = (stamp : Int) + 1 := wraps_u64 _ (by omega) (by omega)
  have e2 : bits .and .u64 ((stamp : Int) + 1) 1099511627775 = ((nextSt stamp : Nat) : Int) := by
    have := and_low (x := (stamp : Int) + 1) 40 (by decide) (by omega) (by omega)
    rw [show (2 : Int) ^ 40 - 1 = 1099511627775 from rfl] at this
    rw [this]
    unfold nextSt
    omega
  clear h
  go_enter Tryz.func128, Tryz.ntmps128
  go_wp2
  go_ret
  exact ⟨rfl, rfl⟩

set_option maxHeartbeats 400000 in
theorem rxIn_yes (m rb pages stamp : Nat) (lf : Option Nat) (E : List PE) (page n : Nat) (w : World) (h : MapAt w m rb lf pages E stamp) (hn : 1 ≤ n) (hp : page + n ≤ pages) :
    Calls Tryz.prog 129 #[.pointer (some ⟨m, 0, none⟩), .int .i64 page, .int .i64 n] w fun e w' => e = .returned (.bool true) ∧ w = w' := by
  have c0 : w.cell? ⟨m, 0, none⟩ = some (.int .i64 pages) := by rw [cell_of_block h.obj]; rfl
  have hm := h.most
  have h1 : (1 : Int) ≤ (n : Int) := by omega
  have h2 : (0 : Int) ≤ (page : Int) := by omega
  have h3 : page ≤ pages := by omega
  have h4 : (n : Int) ≤ (pages : Int) - (page : Int) := by omega
  have e1 : IntKind.i64.wrap ((pages : Int) - (page : Int)) = (pages : Int) - (page : Int) := by rw [IntKind.wrap_i64]; omega
  clear h
  go_enter Tryz.func129, Tryz.ntmps129
  go_wp2
  go_ret
  exact ⟨rfl, rfl⟩

theorem wraps_i64b (n : Int) (h0 : 0 ≤ n) (h1 : n < 2 ^ 63) : IntKind.i64.wrap n = n := by rw [IntKind.wrap_i64]; omega
theorem shr6 {k : Nat} (h : k < 64) : (k : Int) / 64 = 0 := by omega
theorem and63 {k : Nat} (h : k < 64) : bits .and .i64 (k : Int) 63 = (k : Int) := by
  have := bits_mask .i64 63 (by decide) wraps_i64b 6 (by decide) (k : Int) (Int.natCast_nonneg _) (by omega)
  rw [show (2 : Int) ^ 6 - 1 = 63 from rfl, show (2 : Int) ^ 6 = 64 from rfl] at this
  rw [this]
  omega

set_option maxHeartbeats 800000 in
theorem rxWordAt_in (m rb pages stamp : Nat) (lf : Option Nat) (E : List PE) (k : Nat) (w : World) (h : MapAt w m rb lf pages E stamp) (hk : k < pages) :
    Calls Tryz.prog 95 #[.pointer (some ⟨m, 0, none⟩), .int .i64 k] w fun e w' => e = .returned (.int .u64 (wdO (E.getD k none) : Nat)) ∧ w = w' := by
  have c0 : w.cell? ⟨m, 0, none⟩ = some (.int .i64 pages) := by rw [cell_of_block h.obj]; rfl
  have hm := h.most
  have hr1 : (pages + 63) / 64 = 1 := by omega
  have c1 : w.cell? ⟨m, 1, none⟩ = some (.slice (some ⟨rb, 0, none⟩) 1 1) := by rw [cell_of_block h.obj, hr1]; rfl
  have r0 : w.cell? ⟨rb, 0, none⟩ = some (leafP lf) := by rw [cell_of_block h.root]; unfold rootC; rw [if_neg (by omega)]; rfl
  have h1 : ¬ (k : Int) < 0 := by omega
  have h2 : ¬ pages ≤ k := by omega
  have s6 := shr6 (show k < 64 by omega)
  have a6 := and63 (show k < 64 by omega)
  cases hl : lf with
  | none =>
    rw [hl] at r0
    rw [show wdO (E.getD k none) = 0 by
      rw [wdO_zero, List.getD_eq_getElem?_getD, List.getElem?_eq_getElem (by rw [h.len]; omega)]
      exact h.bare hl _ (List.getElem_mem _)]
    clear h hr1
    simp only [leafP] at r0
    go_enter Tryz.func95, Tryz.ntmps95
    go_wp2
    go_ret
    exact ⟨rfl, rfl⟩
  | some l =>
    rw [hl] at r0
    have y0 : w.cell? ⟨l, k, none⟩ = some (.int .u64 (wdO (E.getD k none) : Nat)) := by rw [cell_of_block (h.leaf l hl).1, leafC_get h.len (by omega)]
    clear h hr1
    simp only [leafP] at r0
    generalize wdO (E.getD k none) = x at *
    go_enter Tryz.func95, Tryz.ntmps95
    go_wp2
    go_ret
    exact ⟨rfl, rfl⟩

set_option maxHeartbeats 800000 in
theorem rxWordAt_out (m rb pages stamp : Nat) (lf : Option Nat) (E : List PE) (k : Int) (w : World) (h : MapAt w m rb lf pages E stamp) (hk : k < 0 ∨ (pages : Int) ≤ k) :
    Calls Tryz.prog 95 #[.pointer (some ⟨m, 0, none⟩), .int .i64 k] w fun e w' => e = .returned (.int .u64 0) ∧ w = w' := by
  have c0 : w.cell? ⟨m, 0, none⟩ = some (.int .i64 pages) := by rw [cell_of_block h.obj]; rfl
  clear h
  by_cases h1 : k < 0
  · clear hk
    go_enter Tryz.func95, Tryz.ntmps95
    go_wp2
    go_ret
    exact ⟨rfl, rfl⟩
  · have h2 : (pages : Int) ≤ k := by omega
    clear hk
    go_enter Tryz.func95, Tryz.ntmps95
    go_wp2
    go_ret
    exact ⟨rfl, rfl⟩

/-- A page's entry. -/
def entAt (pages : Nat) (E : List PE) (k : Int) : PE := if 0 ≤ k ∧ k < pages then E.getD k.toNat none else none
def entV (x : PE) : Value := match x with | none => .tuple #[.agg #[.int .i64 0, .int .i64 0, .int .i64 0, .int .i64 0], .bool false] | some p => .tuple #[.agg #[.int .i64 p.1.span, .int .i64 p.1.version, .int .i64 p.1.cls, .int .i64 p.1.state], .bool true]

theorem rxWordAt_any (m rb pages stamp : Nat) (lf : Option Nat) (E : List PE) (k : Int) (w : World) (h : MapAt w m rb lf pages E stamp) :
    Calls Tryz.prog 95 #[.pointer (some ⟨m, 0, none⟩), .int .i64 k] w fun e w' => e = .returned (.int .u64 (wdO (entAt pages E k) : Nat)) ∧ w = w' := by
  unfold entAt
  by_cases hk : 0 ≤ k ∧ k < pages
  · rw [if_pos hk]
    obtain ⟨j, rfl⟩ := Int.eq_ofNat_of_zero_le hk.1
    exact rxWordAt_in m rb pages stamp lf E j w h (by omega)
  · rw [if_neg hk]
    exact rxWordAt_out m rb pages stamp lf E k w h (by omega)

theorem entAt_ok {pages : Nat} {E : List PE} (h : ∀ x ∈ E, PEOk x) (k : Int) : PEOk (entAt pages E k) := by
  unfold entAt
  split
  · rw [List.getD_eq_getElem?_getD]
    cases hc : E[k.toNat]? with
    | none => intro p hp; cases hp
    | some x => exact h x (List.mem_of_getElem? hc)
  · intro p hp; cases hp

set_option maxRecDepth 4000 in
set_option maxHeartbeats 1000000 in
theorem rxGet_core (m rb pages stamp : Nat) (lf : Option Nat) (E : List PE) (k : Int) (x t s c v p q : Nat) (hx : x < 2 ^ 64) (hX : wdO (entAt pages E k) = x) (hun : unpackN x rxF = [t, s, c, v, p, q]) (R : Value)
    (hR : entV (entAt pages E k) = R)
    (hT : t = 0 ∧ R = .tuple #[.agg #[.int .i64 0, .int .i64 0, .int .i64 0, .int .i64 0], .bool false] ∨ t = 1 ∧ R = .tuple #[.agg #[.int .i64 p, .int .i64 v, .int .i64 c, .int .i64 s], .bool true])
    (hp : p < 4096) (hv : v < 4) (hc : c < 64) (hs : s < 8) (w : World) (h : MapAt w m rb lf pages E stamp) :
    Calls Tryz.prog 47 #[.pointer (some ⟨m, 0, none⟩), .int .i64 k] w fun e w' => e = .returned R ∧ Below w.heap.size w w' := by
  have HW := Lib.hid (fun W (hb : Below w.heap.size w W) => rxWordAt_any m rb pages stamp lf E k W (h.below hb))
  rw [hX] at HW
  have HU := Lib.hid (fun b w => unpack_yes x b 6 rxF rxF_asc hx w (by decide))
  rw [hun] at HU
  have hF := Lib.hid (fun w => rxFields_any w)
  have u1 : IntKind.i64.wrap (p : Int) = p := by rw [IntKind.wrap_i64]; omega
  have u2 : IntKind.i64.wrap (v : Int) = v := by rw [IntKind.wrap_i64]; omega
  have u3 : IntKind.i64.wrap (c : Int) = c := by rw [IntKind.wrap_i64]; omega
  have u4 : IntKind.i64.wrap (s : Int) = s := by rw [IntKind.wrap_i64]; omega
  clear h hX hR hun
  rcases hT with ⟨rfl, rfl⟩ | ⟨rfl, rfl⟩
  all_goals
    go_enter Tryz.func47, Tryz.ntmps47
    go_wp2_with (fail)
    refine (HW.out _ (by repeat (first | exact Below.refl _ _ | assumption | refine Below.alloc ?_ (by first | omega | (simp <;> omega)) _ | refine Below.drew ?_ | refine Below.setCell ?_ (by first | omega | (simp <;> omega)) _ | refine Below.via (by assumption) (by first | omega | (simp <;> omega)) ?_))).mono ?_
    rintro e w1 ⟨rfl, rfl⟩
    obtain ⟨W1, hW1⟩ : ∃ W1, W1 = w.alloc (.cells #[.int .i64 0, .int .i64 0, .int .i64 0, .int .i64 0] 48) := ⟨_, rfl⟩
    have hblk : W1.heap[w.heap.size]? = some (.cells #[.int .i64 0, .int .i64 0, .int .i64 0, .int .i64 0] 48 (0, 0)) := by rw [hW1]; exact heap_alloc_new _ _
    have hbW : Below w.heap.size w W1 := by rw [hW1]; exact (by repeat (first | exact Below.refl _ _ | assumption | refine Below.alloc ?_ (by first | omega | (simp <;> omega)) _ | refine Below.drew ?_ | refine Below.setCell ?_ (by first | omega | (simp <;> omega)) _ | refine Below.via (by assumption) (by first | omega | (simp <;> omega)) ?_))
    have hsW : w.heap.size < W1.heap.size := lt_of_block hblk
    rw [← hW1]
    clear hW1
    go_wp2_with (fail)
    refine (hF.out _).mono ?_
    rintro e w2 ⟨rfl, hf2, hb2, hz2⟩
    have HF2 := Lib.hid hf2
    have HB2 := Lib.hid hb2
    have hblk2 := (hb2.block _ hsW).trans hblk
    have hs2 := hb2.size
    clear hf2 hb2
    go_wp2_with (fail)
    refine (HU.out _ _ HF2.out).mono ?_
    rintro e w3 ⟨v3, rfl, hown, hb3⟩
    obtain ⟨g, cap, rfl, hg, hcell⟩ := own_cell hown (by decide)
    have y0 := hcell 0 (by decide)
    have y1 := hcell 1 (by decide)
    have y2 := hcell 2 (by decide)
    have y3 := hcell 3 (by decide)
    have y4 := hcell 4 (by decide)
    simp only [wordsV, List.map_cons, List.getElem?_cons_zero, List.getElem?_cons_succ] at y0 y1 y2 y3 y4
    have HB3 := Lib.hid (Below.via hb3 (by omega) (Below.via HB2.out (by omega) hbW))
    have hblk3 := (hb3.block _ (by omega)).trans hblk2
    have HBLK := Lib.hid hblk3
    have g0 := cell_of_block hblk3 0
    have g1 := cell_of_block hblk3 1
    have g2 := cell_of_block hblk3 2
    have g3 := cell_of_block hblk3 3
    have f0 := frozen_of_block hblk3 0
    have f1 := frozen_of_block hblk3 1
    have f2 := frozen_of_block hblk3 2
    have f3 := frozen_of_block hblk3 3
    have hl6 : ((rxF.length : Nat) : Int) = 6 := rfl
    clear hcell hown hb3 hblk3 hblk2 hblk hbW
    go_wp2
  · have hgf : ((((w3.setCell ⟨w.heap.size, 0, none⟩ (.int .i64 0)).setCell ⟨w.heap.size, 1, none⟩ (.int .i64 0)).setCell ⟨w.heap.size, 2, none⟩ (.int .i64 0)).setCell ⟨w.heap.size, 3, none⟩ (.int .i64 0)).heap[w.heap.size]? = some (.cells #[.int .i64 0, .int .i64 0, .int .i64 0, .int .i64 0] 48 (0, 0)) := by
      rw [heap_setCell_eq (heap_setCell_eq (heap_setCell_eq (heap_setCell_eq HBLK.out _) _) _) _]
      rfl
    refine bodyPost_ret (v := .tuple #[.agg #[.int .i64 0, .int .i64 0, .int .i64 0, .int .i64 0], .bool false]) ?_ rfl ⟨rfl, (by repeat (first | exact Below.refl _ _ | assumption | refine Below.alloc ?_ (by first | omega | (simp <;> omega)) _ | refine Below.drew ?_ | refine Below.setCell ?_ (by first | omega | (simp <;> omega)) _ | refine Below.via (by assumption) (by first | omega | (simp <;> omega)) ?_))⟩
    have q0 := cell_of_block hgf 0
    have q1 := cell_of_block hgf 1
    have q2 := cell_of_block hgf 2
    have q3 := cell_of_block hgf 3
    simp [results, Tryz.results47, go_sem, q0, q1, q2, q3]
  · go_still_tail 17, (by kernel_rfl)
    change wpList _ _ _ _ _ w3.drew
    go_wp2
    have hgf : ((((w3.setCell ⟨w.heap.size, 0, none⟩ (.int .i64 p)).setCell ⟨w.heap.size, 1, none⟩ (.int .i64 v)).setCell ⟨w.heap.size, 2, none⟩ (.int .i64 c)).setCell ⟨w.heap.size, 3, none⟩ (.int .i64 s)).heap[w.heap.size]? = some (.cells #[.int .i64 p, .int .i64 v, .int .i64 c, .int .i64 s] 48 (0, 0)) := by
      rw [heap_setCell_eq (heap_setCell_eq (heap_setCell_eq (heap_setCell_eq HBLK.out _) _) _) _]
      rfl
    refine bodyPost_ret (v := .tuple #[.agg #[.int .i64 p, .int .i64 v, .int .i64 c, .int .i64 s], .bool true]) ?_ rfl ⟨rfl, (by repeat (first | exact Below.refl _ _ | assumption | refine Below.alloc ?_ (by first | omega | (simp <;> omega)) _ | refine Below.drew ?_ | refine Below.setCell ?_ (by first | omega | (simp <;> omega)) _ | refine Below.via (by assumption) (by first | omega | (simp <;> omega)) ?_))⟩
    have q0 := cell_of_block hgf 0
    have q1 := cell_of_block hgf 1
    have q2 := cell_of_block hgf 2
    have q3 := cell_of_block hgf 3
    simp [results, Tryz.results47, go_sem, q0, q1, q2, q3]

theorem rxGet_any (m rb pages stamp : Nat) (lf : Option Nat) (E : List PE) (k : Int) (w : World) (h : MapAt w m rb lf pages E stamp) :
    Calls Tryz.prog 47 #[.pointer (some ⟨m, 0, none⟩), .int .i64 k] w fun e w' => e = .returned (entV (entAt pages E k)) ∧ Below w.heap.size w w' := by
  have hok := entAt_ok (pages := pages) h.ok k
  cases hx : entAt pages E k with
  | none =>
    exact rxGet_core m rb pages stamp lf E k 0 0 0 0 0 0 0 (by decide) (by rw [hx]; rfl) (by decide) _ (by rw [hx]; rfl) (.inl ⟨rfl, rfl⟩) (by decide) (by decide) (by decide) (by decide) w h
  | some x =>
    obtain ⟨h1, h2⟩ := hok x hx
    have hw := radW_eq x.1 x.2
    obtain ⟨g1, g2, g3, g4⟩ := h1
    refine rxGet_core m rb pages stamp lf E k (radW x.1 x.2) 1 x.1.state x.1.cls x.1.version x.1.span x.2 (radW_lt ⟨g1, g2, g3, g4⟩ h2) (by rw [hx]; rfl) ?_ _ (by rw [hx]; rfl) (.inr ⟨rfl, rfl⟩) g1 g2 g3 g4 w h
    show [radW x.1 x.2 / 2 ^ 0 % 2 ^ 1, radW x.1 x.2 / 2 ^ 1 % 2 ^ 3, radW x.1 x.2 / 2 ^ 4 % 2 ^ 6, radW x.1 x.2 / 2 ^ 10 % 2 ^ 2, radW x.1 x.2 / 2 ^ 12 % 2 ^ 12, radW x.1 x.2 / 2 ^ 24 % 2 ^ 40] = _
    rw [show radW x.1 x.2 / 2 ^ 0 % 2 ^ 1 = 1 by omega, show radW x.1 x.2 / 2 ^ 1 % 2 ^ 3 = x.1.state by omega, show radW x.1 x.2 / 2 ^ 4 % 2 ^ 6 = x.1.cls by omega, show radW x.1 x.2 / 2 ^ 10 % 2 ^ 2 = x.1.version by omega, show radW x.1 x.2 / 2 ^ 12 % 2 ^ 12 = x.1.span by omega, show radW x.1 x.2 / 2 ^ 24 % 2 ^ 40 = x.2 by omega]

end Go.Proofs.YtlljejmblmjjnaaGreatDoor

/- radix: put. -/
namespace Go.Proofs.YtlljejmblmjjnaaGreatDoor
set_option linter.unusedVariables false
set_option linter.unusedSimpArgs false
open Go.RowKit Go.ChangeMaps

theorem cntE_set {E : List PE} {k : Nat} (hk : k < E.length) (x : PE) : cntE (E.set k x) + (if (E.getD k none).isSome then 1 else 0) = cntE E + (if x.isSome then 1 else 0) := by
  induction E generalizing k with
  | nil => simp at hk
  | cons y l ih =>
    cases k with
    | zero =>
      simp only [cntE, List.set_cons_zero, List.filter_cons, List.getD_cons_zero]
      cases y <;> cases x <;> simp
    | succ k =>
      have := ih (k := k) (by simpa using hk)
      simp only [cntE, List.set_cons_succ, List.filter_cons, List.getD_cons_succ] at *
      cases y <;> simp only [Option.isSome_none, Option.isSome_some, Bool.false_eq_true, if_true, if_false, List.length_cons] <;> omega
theorem cntE_zero {E : List PE} : cntE E = 0 ↔ ∀ x ∈ E, x = none := by
  unfold cntE
  rw [List.length_eq_zero_iff, List.filter_eq_nil_iff]
  constructor
  · intro h x hx
    have := h x hx
    cases x with
    | none => rfl
    | some p => simp at this
  · intro h x hx
    rw [h x hx]
    simp

theorem leafV_set (E : List PE) (k : Nat) (x : PE) : leafV (E.set k x) = (leafV E).set k (.int .u64 (wdO x : Nat)) := by
  unfold leafV
  rw [List.map_set]

/-- What a leaf comes to. -/
theorem leaf_set {w : World} {l : Nat} {E : List PE} (hl : E.length = 64) {c : Array Value} (h : w.heap[l]? = some (.cells c 211 (0, 0))) (hc : ∃ v, c = (leafV E ++ [v]).toArray) (k : Nat) (hk : k < 64) (x : PE) (n : Nat) :
    ((w.setCell ⟨l, 64, none⟩ (.int .i64 n)).setCell ⟨l, k, none⟩ (.int .u64 (wdO x : Nat))).heap[l]? = some (.cells (leafV (E.set k x) ++ [Value.int .i64 n]).toArray 211 (0, 0)) := by
  obtain ⟨v, rfl⟩ := hc
  rw [heap_setCell_eq (heap_setCell_eq h _) _, leafV_set]
  congr 2
  apply Array.toList_inj.1
  have hlen : (leafV E).length = 64 := by unfold leafV; simp [hl]
  simp only [Array.toList_setIfInBounds]
  rw [List.set_append_right _ _ (by omega), hlen]
  simp only [Nat.sub_self, List.set_cons_zero]
  rw [List.set_append_left _ _ (by omega)]

theorem zero_leaf : Tryz.zeroCells211 = (leafV (List.replicate 64 none) ++ [Value.int .i64 0]).toArray := by kernel_rfl

def PutPost (w : World) (m rb pages stamp : Nat) (lf : Option Nat) (E : List PE) (k : Nat) (x : PE) (e : Ending) (w' : World) : Prop :=
  e = .returned (.tuple #[]) ∧ (∃ lf', MapAt w' m rb lf' pages (E.set k x) stamp ∧ (lf' = lf ∨ lf' = none ∨ ∃ l, lf' = some l ∧ w.heap.size ≤ l)) ∧ Turned (fun j => j = rb ∨ lf = some j) w w'

set_option maxRecDepth 100000 in
set_option maxHeartbeats 2000000 in
theorem put_bare (m rb pages stamp : Nat) (E : List PE) (k : Nat) (p : Ent4 × Nat) (w : World) (h : MapAt w m rb none pages E stamp) (hk : k < pages) (hp : PEOk (some p)) :
    Calls Tryz.prog 130 #[.pointer (some ⟨m, 0, none⟩), .int .i64 k, .int .u64 (wdO (some p) : Nat)] w (PutPost w m rb pages stamp none E k (some p)) := by
  have hm := h.most
  have hr1 : (pages + 63) / 64 = 1 := by omega
  have c1 : w.cell? ⟨m, 1, none⟩ = some (.slice (some ⟨rb, 0, none⟩) 1 1) := by rw [cell_of_block h.obj, hr1]; rfl
  have r0 : w.cell? ⟨rb, 0, none⟩ = some (leafP none) := by rw [cell_of_block h.root]; unfold rootC; rw [if_neg (by omega)]; rfl
  have fr : w.frozen? ⟨rb, 0, none⟩ = false := frozen_of_block h.root 0
  have s6 := shr6 (show k < 64 by omega)
  have a6 := and63 (show k < 64 by omega)
  have HH := Lib.hid h
  have hpos := radW_pos p.1 p.2
  have hne : ((((wdO (some p) : Nat) : Int)) != 0) = true := by rw [bne_iff_ne]; show ((radW p.1 p.2 : Nat) : Int) ≠ 0; omega
  have hrl := cell_lt r0
  have hE : E = List.replicate 64 none := List.eq_replicate_iff.2 ⟨h.len, h.bare rfl⟩
  have hrl2 := hrl
  have hzc : (leafV (List.replicate 64 none) ++ [Value.int .i64 0]).toArray[k]? = some (.int .u64 0) := by
    have := leafC_get (E := List.replicate 64 none) (by simp) (show k < 64 by omega)
    have e0 : cntE (List.replicate 64 none) = 0 := by decide
    unfold leafC at this
    rw [e0] at this
    rw [List.getD_eq_getElem?_getD, List.getElem?_replicate, if_pos (by omega)] at this
    exact this
  obtain ⟨W2, hW2⟩ : ∃ W2, W2 = (w.setCell ⟨rb, 0, none⟩ (.pointer (some ⟨w.heap.size, 0, none⟩))).alloc (.cells Tryz.zeroCells211 211) := ⟨_, rfl⟩
  have hsz : (w.setCell ⟨rb, 0, none⟩ (.pointer (some ⟨w.heap.size, 0, none⟩))).heap.size = w.heap.size := by simp [World.setCell]
  have hblk : W2.heap[w.heap.size]? = some (.cells (leafV (List.replicate 64 none) ++ [Value.int .i64 0]).toArray 211 (0, 0)) := by
    rw [hW2, ← zero_leaf]
    have := heap_alloc_new (w.setCell ⟨rb, 0, none⟩ (.pointer (some ⟨w.heap.size, 0, none⟩))) (.cells Tryz.zeroCells211 211)
    rw [hsz] at this
    exact this
  have z0 : W2.cell? ⟨w.heap.size, k, none⟩ = some (.int .u64 0) := by rw [cell_of_block hblk]; exact hzc
  have z1 : W2.cell? ⟨w.heap.size, 64, none⟩ = some (.int .i64 0) := by rw [cell_of_block hblk]; rfl
  have f0 := frozen_of_block hblk k
  have f1 := frozen_of_block hblk 64
  have hne' : rb ≠ w.heap.size := by omega
  have zr : W2.cell? ⟨rb, 0, none⟩ = some (.pointer (some ⟨w.heap.size, 0, none⟩)) := by
    rw [hW2, World.cell?_alloc_past _ _ _ (by rw [hsz]; exact hrl)]
    exact World.cell?_setCell_same _ _ _ r0
  have hT1 : Turned (fun j => j = w.heap.size) W2 ((W2.setCell ⟨w.heap.size, 64, none⟩ (.int .i64 1)).setCell ⟨w.heap.size, k, none⟩ (.int .u64 (wdO (some p) : Nat))) :=
    Turned.setCell (p := ⟨w.heap.size, k, none⟩) (Turned.setCell (F := fun j => j = w.heap.size) (p := ⟨w.heap.size, 64, none⟩) (Turned.refl _ _) (.inl rfl) _) (.inl rfl) _
  have y0 := turned_cell hT1 hne' zr
  have hbl2 := leaf_set (E := List.replicate 64 none) (by simp) hblk ⟨_, rfl⟩ k (by omega) (some p) 1
  have y1 : ((W2.setCell ⟨w.heap.size, 64, none⟩ (.int .i64 1)).setCell ⟨w.heap.size, k, none⟩ (.int .u64 (wdO (some p) : Nat))).cell? ⟨w.heap.size, 64, none⟩ = some (.int .i64 1) := by
    have := cell_of_block hbl2 64
    rw [List.getElem?_toArray, List.getElem?_append_right (by unfold leafV; simp)] at this
    simpa [leafV] using this
  have HBL2 := Lib.hid hbl2
  have HT1 := Lib.hid hT1
  have hk64 : ¬ k = 64 := by omega
  have hk64' : ¬ 64 = k := by omega
  have hrn : ¬ rb = w.heap.size := by omega
  have hrn' : ¬ w.heap.size = rb := by omega
  have HBLK := Lib.hid hblk
  have HW2 := Lib.hid hW2
  have HSZ := Lib.hid hsz
  have HE := Lib.hid hE
  clear h hr1 hpos hzc hblk hW2 hsz hE hT1 hbl2 hne'
  simp only [leafP] at r0
  generalize hx : wdO (some p) = x at *
  go_enter Tryz.func130, Tryz.ntmps130
  go_upto_region 3 with (fail)
  rw [← HW2.out]
  go_wp2
  go_end0
  have hB1 : ((W2.setCell ⟨w.heap.size, 64, none⟩ (.int .i64 1)).setCell ⟨w.heap.size, k, none⟩ (.int .u64 x)).heap[w.heap.size]? = some (.cells (leafV ((List.replicate 64 none).set k (some p)) ++ [Value.int .i64 1]).toArray 211 (0, 0)) := HBL2.out
  have HBL3 := Lib.hid hB1
  clear hB1 HBL2
  generalize hW3 : (W2.setCell ⟨w.heap.size, 64, none⟩ (.int .i64 1)).setCell ⟨w.heap.size, k, none⟩ (.int .u64 x) = W3 at *
  have hTA : Turned (fun j => j = rb) w (w.setCell ⟨rb, 0, none⟩ (.pointer (some ⟨w.heap.size, 0, none⟩))) := Turned.setCell (F := fun j => j = rb) (p := ⟨rb, 0, none⟩) (Turned.refl _ _) (.inl rfl) _
  have hTB : Turned (fun j => j = rb) w W2 := by rw [HW2.out]; exact hTA.alloc _
  have hT : Turned (fun j => j = rb) w W3 := hTB.trans HT1.out (fun y hy hl => by omega)
  have hmn : m ≠ rb := HH.out.ne.1
  have hml : m < w.heap.size := lt_of_block HH.out.obj
  have hrb3 : W3.heap[rb]? = some (.cells (rootC pages (some w.heap.size)) 208 (0, 0)) := by
    have h1 : (w.setCell ⟨rb, 0, none⟩ (.pointer (some ⟨w.heap.size, 0, none⟩))).heap[rb]? = some (.cells (rootC pages (some w.heap.size)) 208 (0, 0)) := by
      rw [heap_setCell_eq HH.out.root]
      unfold rootC
      rw [if_neg (by omega), if_neg (by omega)]
      rfl
    have h2 : W2.heap[rb]? = some (.cells (rootC pages (some w.heap.size)) 208 (0, 0)) := by
      rw [HW2.out]
      exact (heap_alloc_old _ _ (by rw [HSZ.out]; exact hrl)).trans h1
    exact (HT1.out.block rb (lt_of_block h2) (by omega)).trans h2
  have hok : ∀ y ∈ E.set k (some p), PEOk y := fun y hy => by
    rcases List.mem_or_eq_of_mem_set hy with hy | rfl
    · exact HH.out.ok y hy
    · exact hp
  have hcnt : cntE (E.set k (some p)) = 1 := by
    have := cntE_set (E := E) (k := k) (by rw [HH.out.len]; omega) (some p)
    have h0 : cntE E = 0 := cntE_zero.2 (HH.out.bare rfl)
    have h1 : E.getD k none = none := by
      rw [HE.out, List.getD_eq_getElem?_getD, List.getElem?_replicate]
      split <;> rfl
    rw [h0, h1] at this
    simpa using this
  refine ⟨rfl, ⟨some w.heap.size, ⟨(hT.block m hml hmn).trans HH.out.obj, hrb3, ?_, ?_, ?_, hok, ?_, hm, HH.out.small⟩, .inr (.inr ⟨_, rfl, Nat.le_refl _⟩)⟩, hT.mono (fun y hy _ => .inl hy)⟩
  · intro l hl
    cases hl
    refine ⟨?_, by rw [hcnt]; exact Nat.one_pos⟩
    have h1 := HBL3.out
    unfold leafC
    rw [hcnt, HE.out]
    exact h1
  · intro hl
    cases hl
  · rw [List.length_set]
    exact HH.out.len
  · intro j hj
    have := HH.out.past j hj
    rw [List.getD_eq_getElem?_getD, List.getElem?_set_ne (by omega), ← List.getD_eq_getElem?_getD]
    exact this

theorem MapAt.put {w w' : World} {m rb l pages stamp : Nat} {E : List PE} (h : MapAt w m rb (some l) pages E stamp) (t : Turned (fun j => j = l) w w') {k : Nat} (hk : k < pages) (x : PE) (hx : PEOk x)
    (hb : w'.heap[l]? = some (.cells (leafC (E.set k x)) 211 (0, 0))) (hc : 0 < cntE (E.set k x)) : MapAt w' m rb (some l) pages (E.set k x) stamp := by
  have hm := h.most
  obtain ⟨n1, n2⟩ := h.ne
  obtain ⟨n3, n4⟩ := n2 l rfl
  refine ⟨(t.block _ (lt_of_block h.obj) n3).trans h.obj, (t.block _ (lt_of_block h.root) n4).trans h.root, ?_, ?_, ?_, ?_, ?_, hm, h.small⟩
  · intro l' hl
    cases hl
    exact ⟨hb, hc⟩
  · intro hl
    cases hl
  · rw [List.length_set]; exact h.len
  · intro y hy
    rcases List.mem_or_eq_of_mem_set hy with hy | rfl
    · exact h.ok y hy
    · exact hx
  · intro j hj
    rw [List.getD_eq_getElem?_getD, List.getElem?_set_ne (by omega), ← List.getD_eq_getElem?_getD]
    exact h.past j hj

/-- The leaf's block behind a put. -/
theorem leaf_put {w : World} {m rb l pages stamp : Nat} {E : List PE} (h : MapAt w m rb (some l) pages E stamp) {k : Nat} (hk : k < pages) (x : PE) (n : Nat) (hn : n = cntE (E.set k x)) :
    ((w.setCell ⟨l, 64, none⟩ (.int .i64 n)).setCell ⟨l, k, none⟩ (.int .u64 (wdO x : Nat))).heap[l]? = some (.cells (leafC (E.set k x)) 211 (0, 0)) := by
  have := leaf_set h.len (h.leaf l rfl).1 ⟨_, rfl⟩ k (by have := h.most; omega) x n
  rw [this]
  unfold leafC
  rw [hn]

set_option maxRecDepth 100000 in
set_option maxHeartbeats 2000000 in
theorem put_new (m rb l pages stamp : Nat) (E : List PE) (k : Nat) (p : Ent4 × Nat) (w : World) (h : MapAt w m rb (some l) pages E stamp) (hk : k < pages) (hp : PEOk (some p)) (ho : E.getD k none = none) :
    Calls Tryz.prog 130 #[.pointer (some ⟨m, 0, none⟩), .int .i64 k, .int .u64 (wdO (some p) : Nat)] w (PutPost w m rb pages stamp (some l) E k (some p)) := by
  have hm := h.most
  have hr1 : (pages + 63) / 64 = 1 := by omega
  have c1 : w.cell? ⟨m, 1, none⟩ = some (.slice (some ⟨rb, 0, none⟩) 1 1) := by rw [cell_of_block h.obj, hr1]; rfl
  have r0 : w.cell? ⟨rb, 0, none⟩ = some (.pointer (some ⟨l, 0, none⟩)) := by rw [cell_of_block h.root]; unfold rootC; rw [if_neg (by omega)]; rfl
  have s6 := shr6 (show k < 64 by omega)
  have a6 := and63 (show k < 64 by omega)
  have hcnt := cntE_set (E := E) (k := k) (by rw [h.len]; omega) (some p)
  rw [ho] at hcnt
  simp only [Option.isSome_none, Option.isSome_some, Bool.false_eq_true, if_true, if_false, Nat.add_zero] at hcnt
  have y0 : w.cell? ⟨l, k, none⟩ = some (.int .u64 0) := by rw [cell_of_block (h.leaf l rfl).1, leafC_get h.len (by omega), ho]; rfl
  have y1 : w.cell? ⟨l, 64, none⟩ = some (.int .i64 (cntE E : Nat)) := by rw [cell_of_block (h.leaf l rfl).1, leafC_cnt h.len]
  have f0 := frozen_of_block (h.leaf l rfl).1 k
  have f1 := frozen_of_block (h.leaf l rfl).1 64
  have hle : cntE E ≤ 64 := by unfold cntE; have := List.length_filter_le Option.isSome E; rw [h.len] at this; exact this
  have hw1 : IntKind.i64.wrap ((cntE E : Int) + 1) = (cntE E : Int) + 1 := by rw [IntKind.wrap_i64]; omega
  have hT : Turned (fun j => j = l) w ((w.setCell ⟨l, 64, none⟩ (.int .i64 ((cntE E : Int) + 1))).setCell ⟨l, k, none⟩ (.int .u64 (wdO (some p) : Nat))) :=
    Turned.setCell (p := ⟨l, k, none⟩) (Turned.setCell (F := fun j => j = l) (p := ⟨l, 64, none⟩) (Turned.refl _ _) (.inl rfl) _) (.inl rfl) _
  have hbl : ((w.setCell ⟨l, 64, none⟩ (.int .i64 ((cntE E : Int) + 1))).setCell ⟨l, k, none⟩ (.int .u64 (wdO (some p) : Nat))).heap[l]? = some (.cells (leafC (E.set k (some p))) 211 (0, 0)) := leaf_put h hk (some p) (cntE E + 1) hcnt.symm
  have z0 := turned_cell hT (h.ne.2 l rfl).2 r0
  have z1 := cell_of_block hbl 64
  rw [leafC_cnt (by rw [List.length_set]; exact h.len), hcnt, show ((cntE E + 1 : Nat) : Int) = (cntE E : Int) + 1 from by omega] at z1
  have HFIN := Lib.hid (h.put hT hk (some p) hp hbl (by omega))
  have HT := Lib.hid hT
  have hpos := radW_pos p.1 p.2
  have hne : ((((wdO (some p) : Nat) : Int)) != 0) = true := by rw [bne_iff_ne]; show ((radW p.1 p.2 : Nat) : Int) ≠ 0; omega
  have hk64 : ¬ k = 64 := by omega
  have hk64' : ¬ 64 = k := by omega
  have hcz : ¬ ((cntE E : Int) + 1) = 0 := by omega
  clear h hr1 hpos hbl hT hcnt ho
  generalize wdO (some p) = x at *
  generalize cntE E = n at *
  go_enter Tryz.func130, Tryz.ntmps130
  go_wp2
  go_end0
  exact ⟨rfl, ⟨some l, HFIN.out, .inl rfl⟩, HT.out.mono (fun y hy _ => .inr (by rw [hy]))⟩

set_option maxRecDepth 100000 in
set_option maxHeartbeats 2000000 in
theorem put_over (m rb l pages stamp : Nat) (E : List PE) (k : Nat) (p q : Ent4 × Nat) (w : World) (h : MapAt w m rb (some l) pages E stamp) (hk : k < pages) (hp : PEOk (some p)) (ho : E.getD k none = some q) :
    Calls Tryz.prog 130 #[.pointer (some ⟨m, 0, none⟩), .int .i64 k, .int .u64 (wdO (some p) : Nat)] w (PutPost w m rb pages stamp (some l) E k (some p)) := by
  have hm := h.most
  have hr1 : (pages + 63) / 64 = 1 := by omega
  have c1 : w.cell? ⟨m, 1, none⟩ = some (.slice (some ⟨rb, 0, none⟩) 1 1) := by rw [cell_of_block h.obj, hr1]; rfl
  have r0 : w.cell? ⟨rb, 0, none⟩ = some (.pointer (some ⟨l, 0, none⟩)) := by rw [cell_of_block h.root]; unfold rootC; rw [if_neg (by omega)]; rfl
  have s6 := shr6 (show k < 64 by omega)
  have a6 := and63 (show k < 64 by omega)
  have hcnt := cntE_set (E := E) (k := k) (by rw [h.len]; omega) (some p)
  rw [ho] at hcnt
  simp only [Option.isSome_none, Option.isSome_some, Bool.false_eq_true, if_true, if_false, Nat.add_zero] at hcnt
  have y0 : w.cell? ⟨l, k, none⟩ = some (.int .u64 (wdO (some q) : Nat)) := by rw [cell_of_block (h.leaf l rfl).1, leafC_get h.len (by omega), ho]
  have y1 : w.cell? ⟨l, 64, none⟩ = some (.int .i64 (cntE E : Nat)) := by rw [cell_of_block (h.leaf l rfl).1, leafC_cnt h.len]
  have f0 := frozen_of_block (h.leaf l rfl).1 k
  have f1 := frozen_of_block (h.leaf l rfl).1 64
  have hle : cntE E ≤ 64 := by unfold cntE; have := List.length_filter_le Option.isSome E; rw [h.len] at this; exact this
  have hgt := (h.leaf l rfl).2
  have hw1 : IntKind.i64.wrap ((cntE E : Int) - 1) = (cntE E : Int) - 1 := by rw [IntKind.wrap_i64]; omega
  have hw2 : (cntE E : Int) - 1 + 1 = (cntE E : Int) := by omega
  have hpos := radW_pos p.1 p.2
  have hne : ((((wdO (some p) : Nat) : Int)) != 0) = true := by rw [bne_iff_ne]; show ((radW p.1 p.2 : Nat) : Int) ≠ 0; omega
  have hpos2 := radW_pos q.1 q.2
  have hne2 : ((((wdO (some q) : Nat) : Int)) != 0) = true := by rw [bne_iff_ne]; show ((radW q.1 q.2 : Nat) : Int) ≠ 0; omega
  have hk64 : ¬ k = 64 := by omega
  have hk64' : ¬ 64 = k := by omega
  have hcz : ¬ (cntE E : Int) = 0 := by omega
  have hW1 : (w.setCell ⟨l, 64, none⟩ (.int .i64 ((cntE E : Int) - 1))).heap[l]? = some (.cells (leafV E ++ [Value.int .i64 ((cntE E : Int) - 1)]).toArray 211 (0, 0)) := by
    rw [heap_setCell_eq (h.leaf l rfl).1]
    congr 2
    apply Array.toList_inj.1
    have hlen : (leafV E).length = 64 := by unfold leafV; simp [h.len]
    unfold leafC
    simp only [Array.toList_setIfInBounds]
    rw [List.set_append_right _ _ (by omega), hlen]
    rfl
  have hbl0 := leaf_set h.len hW1 ⟨_, rfl⟩ k (by omega) (some p) (cntE E)
  have hT : Turned (fun j => j = l) w (((w.setCell ⟨l, 64, none⟩ (.int .i64 ((cntE E : Int) - 1))).setCell ⟨l, 64, none⟩ (.int .i64 (cntE E : Nat))).setCell ⟨l, k, none⟩ (.int .u64 (wdO (some p) : Nat))) :=
    Turned.setCell (p := ⟨l, k, none⟩) (Turned.setCell (p := ⟨l, 64, none⟩) (Turned.setCell (F := fun j => j = l) (p := ⟨l, 64, none⟩) (Turned.refl _ _) (.inl rfl) _) (.inl rfl) _) (.inl rfl) _
  have hcnt' : cntE (E.set k (some p)) = cntE E := by omega
  have hbl : (((w.setCell ⟨l, 64, none⟩ (.int .i64 ((cntE E : Int) - 1))).setCell ⟨l, 64, none⟩ (.int .i64 (cntE E : Nat))).setCell ⟨l, k, none⟩ (.int .u64 (wdO (some p) : Nat))).heap[l]? = some (.cells (leafC (E.set k (some p))) 211 (0, 0)) := by
    unfold leafC
    rw [hcnt']
    exact hbl0
  have z0 := turned_cell hT (h.ne.2 l rfl).2 r0
  have z1 := cell_of_block hbl 64
  rw [leafC_cnt (by rw [List.length_set]; exact h.len), hcnt'] at z1
  have HFIN := Lib.hid (h.put hT hk (some p) hp hbl (by omega))
  have HT := Lib.hid hT
  clear h hr1 hpos hpos2 hcnt ho hW1 hbl0 hbl hT hcnt'
  generalize hx : wdO (some p) = x at *
  clear hx
  generalize wdO (some q) = x0 at *
  generalize cntE E = n at *
  go_enter Tryz.func130, Tryz.ntmps130
  go_wp2
  go_end0
  exact ⟨rfl, ⟨some l, HFIN.out, .inl rfl⟩, HT.out.mono (fun y hy _ => .inr (by rw [hy]))⟩

set_option maxRecDepth 100000 in
set_option maxHeartbeats 2000000 in
theorem put_off (m rb l pages stamp : Nat) (E : List PE) (k : Nat) (q : Ent4 × Nat) (w : World) (h : MapAt w m rb (some l) pages E stamp) (hk : k < pages) (ho : E.getD k none = some q) :
    Calls Tryz.prog 130 #[.pointer (some ⟨m, 0, none⟩), .int .i64 k, .int .u64 0] w (PutPost w m rb pages stamp (some l) E k none) := by
  have hm := h.most
  have hr1 : (pages + 63) / 64 = 1 := by omega
  have c1 : w.cell? ⟨m, 1, none⟩ = some (.slice (some ⟨rb, 0, none⟩) 1 1) := by rw [cell_of_block h.obj, hr1]; rfl
  have r0 : w.cell? ⟨rb, 0, none⟩ = some (.pointer (some ⟨l, 0, none⟩)) := by rw [cell_of_block h.root]; unfold rootC; rw [if_neg (by omega)]; rfl
  have fr := frozen_of_block h.root 0
  have s6 := shr6 (show k < 64 by omega)
  have a6 := and63 (show k < 64 by omega)
  have hcnt := cntE_set (E := E) (k := k) (by rw [h.len]; omega) none
  rw [ho] at hcnt
  simp only [Option.isSome_none, Option.isSome_some, Bool.false_eq_true, if_true, if_false, Nat.add_zero] at hcnt
  have y0 : w.cell? ⟨l, k, none⟩ = some (.int .u64 (wdO (some q) : Nat)) := by rw [cell_of_block (h.leaf l rfl).1, leafC_get h.len (by omega), ho]
  have y1 : w.cell? ⟨l, 64, none⟩ = some (.int .i64 (cntE E : Nat)) := by rw [cell_of_block (h.leaf l rfl).1, leafC_cnt h.len]
  have f0 := frozen_of_block (h.leaf l rfl).1 k
  have f1 := frozen_of_block (h.leaf l rfl).1 64
  have hle : cntE E ≤ 64 := by unfold cntE; have := List.length_filter_le Option.isSome E; rw [h.len] at this; exact this
  have hgt := (h.leaf l rfl).2
  have hpos2 := radW_pos q.1 q.2
  have hne2 : ((((wdO (some q) : Nat) : Int)) != 0) = true := by rw [bne_iff_ne]; show ((radW q.1 q.2 : Nat) : Int) ≠ 0; omega
  have hk64 : ¬ k = 64 := by omega
  have hk64' : ¬ 64 = k := by omega
  obtain ⟨c, hc⟩ : ∃ c, cntE E = c + 1 := ⟨cntE E - 1, by omega⟩
  have hc' : cntE (E.set k none) = c := by omega
  have hcI : (cntE E : Int) - 1 = (c : Int) := by omega
  have hcJ : (c : Int) + 1 - 1 = (c : Int) := by omega
  have hnn : (0 : Int) ≤ c := by omega
  have hcle : c ≤ 64 := by omega
  have hT : Turned (fun j => j = l) w ((w.setCell ⟨l, 64, none⟩ (.int .i64 (c : Int))).setCell ⟨l, k, none⟩ (.int .u64 0)) :=
    Turned.setCell (p := ⟨l, k, none⟩) (Turned.setCell (F := fun j => j = l) (p := ⟨l, 64, none⟩) (Turned.refl _ _) (.inl rfl) _) (.inl rfl) _
  have hbl : ((w.setCell ⟨l, 64, none⟩ (.int .i64 (c : Int))).setCell ⟨l, k, none⟩ (.int .u64 0)).heap[l]? = some (.cells (leafC (E.set k none)) 211 (0, 0)) := leaf_put h hk none c hc'.symm
  have z0 := turned_cell hT (h.ne.2 l rfl).2 r0
  have z1 := cell_of_block hbl 64
  rw [leafC_cnt (by rw [List.length_set]; exact h.len), hc'] at z1
  have HT := Lib.hid hT
  have HBL := Lib.hid hbl
  have HH := Lib.hid h
  have hnone : PEOk none := fun p hp => by cases hp
  rw [hc] at y1
  rw [show ((c + 1 : Nat) : Int) = (c : Int) + 1 by omega] at y1
  by_cases h0 : c = 0
  · subst h0
    rw [Int.natCast_zero] at z0 z1 y1
    rw [Int.zero_add] at y1
    have hall := cntE_zero.1 hc'
    have hF : MapAt (((w.setCell ⟨l, 64, none⟩ (.int .i64 0)).setCell ⟨l, k, none⟩ (.int .u64 0)).setCell ⟨rb, 0, none⟩ (.pointer none)) m rb none pages (E.set k none) stamp := by
      have hT2 : Turned (fun j => j = l ∨ j = rb) w (((w.setCell ⟨l, 64, none⟩ (.int .i64 0)).setCell ⟨l, k, none⟩ (.int .u64 0)).setCell ⟨rb, 0, none⟩ (.pointer none)) :=
        Turned.setCell (p := ⟨rb, 0, none⟩) (hT.mono (fun y hy _ => .inl hy)) (.inl (.inr rfl)) _
      obtain ⟨n1, n2⟩ := h.ne
      obtain ⟨n3, n4⟩ := n2 l rfl
      have hrw : ((w.setCell ⟨l, 64, none⟩ (.int .i64 0)).setCell ⟨l, k, none⟩ (.int .u64 0)).heap[rb]? = some (.cells (rootC pages (some l)) 208 (0, 0)) := (hT.block _ (lt_of_block h.root) n4).trans h.root
      refine ⟨(hT2.block _ (lt_of_block h.obj) (fun e => e.elim n3 n1)).trans h.obj, ?_, ?_, fun _ => hall, ?_, ?_, ?_, hm, h.small⟩
      · rw [heap_setCell_eq hrw]
        unfold rootC
        rw [if_neg (by omega), if_neg (by omega)]
        rfl
      · intro l' hl
        cases hl
      · rw [List.length_set]; exact h.len
      · intro y hy
        rw [hall y hy]
        exact hnone
      · intro j hj
        rw [List.getD_eq_getElem?_getD, List.getElem?_set_ne (by omega), ← List.getD_eq_getElem?_getD]
        exact h.past j hj
    have HF := Lib.hid hF
    have HT2 := Lib.hid (show Turned (fun j => j = rb ∨ some l = some j) w (((w.setCell ⟨l, 64, none⟩ (.int .i64 0)).setCell ⟨l, k, none⟩ (.int .u64 0)).setCell ⟨rb, 0, none⟩ (.pointer none)) from
      Turned.setCell (p := ⟨rb, 0, none⟩) (hT.mono (fun y hy _ => .inr (by rw [hy]))) (.inl (.inl rfl)) _)
    have fz : ((w.setCell ⟨l, 64, none⟩ (.int .i64 0)).setCell ⟨l, k, none⟩ (.int .u64 0)).frozen? ⟨rb, 0, none⟩ = false := frozen_of_block ((hT.block rb (lt_of_block h.root) (h.ne.2 l rfl).2).trans h.root) 0
    clear h hr1 hpos2 hcnt ho hbl hT hc hc' hcI hcJ hall hF hnone
    generalize wdO (some q) = x0 at *
    generalize cntE E = n at *
    go_enter Tryz.func130, Tryz.ntmps130
    go_wp2
    go_end0
    exact ⟨rfl, ⟨none, HF.out, .inr (.inl rfl)⟩, HT2.out⟩
  · have h0' : ¬ (c : Int) = 0 := by omega
    have HFIN := Lib.hid (h.put hT hk none hnone hbl (by omega))
    clear h hr1 hpos2 hcnt ho hbl hT hc hc' hcI hnone
    generalize wdO (some q) = x0 at *
    generalize cntE E = n at *
    go_enter Tryz.func130, Tryz.ntmps130
    go_wp2
    go_end0
    exact ⟨rfl, ⟨some l, HFIN.out, .inl rfl⟩, HT.out.mono (fun y hy _ => .inr (by rw [hy]))⟩

end Go.Proofs.YtlljejmblmjjnaaGreatDoor

/- radix: Set, Clear, New. -/
namespace Go.Proofs.YtlljejmblmjjnaaGreatDoor
set_option linter.unusedVariables false
set_option linter.unusedSimpArgs false
open Go.RowKit Go.ChangeMaps

def LfOk (w : World) (lf lf' : Option Nat) : Prop := ∀ l, lf' = some l → lf = some l ∨ w.heap.size ≤ l
/-- A map in memory, its own blocks among F. -/
def MapF (w : World) (m pages : Nat) (E : List PE) (stamp : Nat) (rb : Nat) (lf : Option Nat) (w0 : World) (lf0 : Option Nat) : Prop :=
  MapAt w m rb lf pages E stamp ∧ LfOk w0 lf0 lf ∧ Turned (fun j => j = m ∨ j = rb ∨ lf0 = some j) w0 w

theorem put_any {m rb pages stamp : Nat} {lf lf0 : Option Nat} {E : List PE} {w w0 : World} (h : MapF w m pages E stamp rb lf w0 lf0) (k : Nat) (hk : k < pages) (x : PE) (hx : PEOk x) (ho : x = none → (E.getD k none).isSome = true) (u : Int) (hu : u = (wdO x : Nat)) :
    Calls Tryz.prog 130 #[.pointer (some ⟨m, 0, none⟩), .int .i64 k, .int .u64 u] w fun e w' => e = .returned (.tuple #[]) ∧ ∃ lf', MapF w' m pages (E.set k x) stamp rb lf' w0 lf0 := by
  subst hu
  obtain ⟨h1, h2, h3⟩ := h
  have go : ∀ e w', PutPost w m rb pages stamp lf E k x e w' → e = .returned (.tuple #[]) ∧ ∃ lf', MapF w' m pages (E.set k x) stamp rb lf' w0 lf0 := by
    rintro e w' ⟨rfl, ⟨lf', g1, g2⟩, g3⟩
    refine ⟨rfl, lf', g1, ?_, h3.trans g3 (fun y hy hl => ?_)⟩
    · intro l hl
      rcases g2 with rfl | rfl | ⟨l', rfl, g4⟩
      · exact h2 l hl
      · cases hl
      · cases hl
        exact .inr (Nat.le_trans h3.size g4)
    · rcases hy with hy | hy
      · exact .inr (.inl hy)
      · rcases h2 y hy with e | e
        · exact .inr (.inr e)
        · omega
  cases lf with
  | none =>
    cases x with
    | none =>
      have := ho rfl
      rw [List.getD_eq_getElem?_getD, List.getElem?_eq_getElem (by rw [h1.len]; have := h1.most; omega)] at this
      have h5 := h1.bare rfl _ (List.getElem_mem (by rw [h1.len]; have := h1.most; omega : k < E.length))
      simp [h5] at this
    | some p => exact (put_bare m rb pages stamp E k p w h1 hk hx).mono go
  | some l =>
    cases ho2 : E.getD k none with
    | none =>
      cases x with
      | none => have := ho rfl; rw [ho2] at this; cases this
      | some p => exact (put_new m rb l pages stamp E k p w h1 hk hx ho2).mono go
    | some q =>
      cases x with
      | none => exact (put_off m rb l pages stamp E k q w h1 hk ho2).mono go
      | some p => exact (put_over m rb l pages stamp E k p q w h1 hk hx ho2).mono go

def setE (E : List PE) (page : Nat) (x : PE) : Nat → List PE
  | 0 => E
  | n + 1 => (setE E page x n).set (page + n) x
theorem setE_get (E : List PE) (page : Nat) (x : PE) : ∀ (n k : Nat), page + n ≤ E.length → (setE E page x n).getD k none = if page ≤ k ∧ k < page + n then x else E.getD k none
  | 0, k, _ => by rw [if_neg (by omega)]; rfl
  | n + 1, k, h => by
    have hl : (setE E page x n).length = E.length := by
      clear h
      induction n with
      | zero => rfl
      | succ n ih => unfold setE; rw [List.length_set]; exact ih
    have ih := setE_get E page x n k (by omega)
    unfold setE
    rw [List.getD_eq_getElem?_getD, List.getElem?_set]
    by_cases e : page + n = k
    · rw [if_pos e, if_pos (by omega), if_pos (by omega)]
      rfl
    · rw [if_neg e, ← List.getD_eq_getElem?_getD, ih]
      by_cases h2 : page ≤ k ∧ k < page + n
      · rw [if_pos h2, if_pos (by omega)]
      · rw [if_neg h2, if_neg (by omega)]

theorem MapAt.stamped {w : World} {m rb pages stamp : Nat} {lf : Option Nat} {E : List PE} (h : MapAt w m rb lf pages E stamp) (st : Nat) (hs : st < 2 ^ 40) : MapAt (w.setCell ⟨m, 2, none⟩ (.int .u64 st)) m rb lf pages E st := by
  obtain ⟨n1, n2⟩ := h.ne
  have t : Turned (fun j => j = m) w (w.setCell ⟨m, 2, none⟩ (.int .u64 st)) := Turned.setCell (F := fun j => j = m) (p := ⟨m, 2, none⟩) (Turned.refl _ _) (.inl rfl) _
  refine ⟨?_, (t.block _ (lt_of_block h.root) (Ne.symm n1)).trans h.root, fun l e => ⟨(t.block _ (lt_of_block (h.leaf l e).1) (Ne.symm (n2 l e).1)).trans (h.leaf l e).1, (h.leaf l e).2⟩, h.bare, h.len, h.ok, h.past, h.most, hs⟩
  rw [heap_setCell_eq h.obj]
  rfl

def RxSetPost (w : World) (m rb pages : Nat) (lf : Option Nat) (E' : List PE) (st : Nat) (e : Ending) (w' : World) : Prop :=
  e = .returned (.int .i64 0) ∧ ∃ lf', MapF w' m pages E' st rb lf' w lf
def RxSetI (w wr : World) (m rb pages : Nat) (lf : Option Nat) (E : List PE) (st page n : Nat) (x : PE) (i : Value) : Prop :=
  ∃ k : Nat, k ≤ n ∧ i = .int .i64 k ∧ ∃ lf', MapF wr m pages (setE E page x k) st rb lf' w lf

set_option maxRecDepth 100000 in
set_option maxHeartbeats 2000000 in
theorem rxSet_yes (m rb pages stamp : Nat) (lf : Option Nat) (E : List PE) (page n : Nat) (e : Ent4) (he : e.Ok) (w : World) (h : MapAt w m rb lf pages E stamp) (hn : 1 ≤ n) (hp : page + n ≤ pages) :
    Calls Tryz.prog 85 #[.pointer (some ⟨m, 0, none⟩), .int .i64 page, .int .i64 n, .agg #[.int .i64 e.span, .int .i64 e.version, .int .i64 e.cls, .int .i64 e.state]] w
      (RxSetPost w m rb pages lf (setE E page (some (e, nextSt stamp)) n) (nextSt stamp)) := by
  have hst : nextSt stamp < 2 ^ 40 := Nat.mod_lt _ (by decide)
  have HNX := Lib.hid (fun (W : World) (hb : Below w.heap.size w W) => rxNext_any m rb pages stamp lf E W (h.below hb))
  have HWD := Lib.hid (fun w => rxWord_yes e he (nextSt stamp) hst w)
  have HIN := Lib.hid (fun (W : World) (hb : Below w.heap.size w W) => rxIn_yes m rb pages stamp lf E page n W (h.below hb) hn hp)
  have HH := Lib.hid h
  have hx : PEOk (some (e, nextSt stamp)) := fun p hp => by cases hp; exact ⟨he, hst⟩
  have HX := Lib.hid hx
  have hm := h.most
  have hlt := lt_of_block h.obj
  clear h hx
  generalize hS : nextSt stamp = st at *
  have HS := Lib.hid hS
  clear hS
  go_enter Tryz.func85, Tryz.ntmps85
  go_wp2
  (refine wp_region_quiet_ext (by kernel_rfl) (by kernel_rfl) ?_; (repeat (first | go_big_quiet_step (((first | (go_at_call 128; exact Calls.ext_same (HNX.out _ (Below.via (below_ext _ _) (by simp) (by repeat (first | exact Below.refl _ _ | assumption | refine Below.alloc ?_ (by first | omega | (simp <;> omega)) _ | refine Below.drew ?_ | refine Below.setCell ?_ (by first | omega | (simp <;> omega)) _ | refine Below.via (by assumption) (by first | omega | (simp <;> omega)) ?_))))) | (go_at_call 127; exact Calls.ext_of (HWD.out _))))) | quiet_step (((first | (go_at_call 128; exact Calls.ext_same (HNX.out _ (Below.via (below_ext _ _) (by simp) (by repeat (first | exact Below.refl _ _ | assumption | refine Below.alloc ?_ (by first | omega | (simp <;> omega)) _ | refine Below.drew ?_ | refine Below.setCell ?_ (by first | omega | (simp <;> omega)) _ | refine Below.via (by assumption) (by first | omega | (simp <;> omega)) ?_))))) | (go_at_call 127; exact Calls.ext_of (HWD.out _))))))); refine wpQuiet_nil ?_; intro w1 hw1; obtain hb := below_of_ext hw1; clear hw1; obtain ⟨hc, hf⟩ := bcell hb; have hz := hb.size; (try simp at hz))
  have HB := Lib.hid (show Below w.heap.size w w1 from Below.via hb (by simp) (by repeat (first | exact Below.refl _ _ | assumption | refine Below.alloc ?_ (by first | omega | (simp <;> omega)) _ | refine Below.drew ?_ | refine Below.setCell ?_ (by first | omega | (simp <;> omega)) _ | refine Below.via (by assumption) (by first | omega | (simp <;> omega)) ?_)))
  clear hb hc hf hz
  have hs1 := HB.out.size
  go_wp2_with (fail)
  refine (HIN.out _ HB.out).mono ?_
  rintro e w2 ⟨rfl, rfl⟩
  go_wp2_with (fail)
  refine (HNX.out _ HB.out).mono ?_
  rintro e w2 ⟨rfl, rfl⟩
  have hM1 := HH.out.below HB.out
  have d2 : w1.cell? ⟨m, 2, none⟩ = some (.int .u64 stamp) := by rw [cell_of_block hM1.obj]; rfl
  have f2 := frozen_of_block hM1.obj 2
  have hM2 := hM1.stamped st hst
  have HM2 := Lib.hid (show MapF (w1.setCell ⟨m, 2, none⟩ (.int .u64 st)) m pages E st rb lf w lf from ⟨hM2, fun l hl => .inl hl, Turned.setCell (p := ⟨m, 2, none⟩) (Turned.of_below HB.out (Nat.le_refl _)) (.inl (.inl rfl)) _⟩)
  clear hM1 hM2
  go_wp2
  go_loopw [34] (fun i wr => RxSetI w wr m rb pages lf E st page n (some (e, st)) i) (fun i _ => n - (intOf i).toNat)
  case atStart => exact ⟨0, Nat.zero_le _, rfl, lf, HM2.out⟩
  case round =>
    obtain ⟨k, hk, rfl, lf', hmf⟩ := hrel
    by_cases hlt : k < n
    · have hi1 : (k : Int) < n := by omega
      have hkw : IntKind.i64.wrap ((k : Int) + 1) = (k : Int) + 1 := by rw [IntKind.wrap_i64]; omega
      have hpw : IntKind.i64.wrap ((page : Int) + (k : Int)) = ((page + k : Nat) : Int) := by rw [IntKind.wrap_i64]; omega
      have HP := Lib.hid (put_any hmf (page + k) (by omega) (some (e, st)) HX.out (fun h => (by cases h)) ((radW e st : Nat) : Int) rfl)
      clear hmf
      go_wp2_with (fail)
      refine HP.out.mono ?_
      rintro e2 w3 ⟨rfl, lf2, hm2⟩
      have HM3 := Lib.hid hm2
      clear hm2
      go_wp2
      go_roundw
      case rel => exact ⟨k + 1, by omega, by go_num, lf2, HM3.out⟩
      case measure => first | (simp [intOf]; done) | (simp [intOf]; omega)
    · obtain rfl : k = n := by omega
      have HMF := Lib.hid hmf
      clear hmf
      go_wp2
      go_ret
      exact ⟨rfl, lf', HMF.out⟩

def RxClrI (w wr : World) (n : Nat) (i : Value) : Prop := ∃ k : Nat, k ≤ n ∧ i = .int .i64 k ∧ w = wr

set_option maxRecDepth 100000 in
set_option maxHeartbeats 2000000 in
theorem rxClear_yes (m rb pages stamp : Nat) (lf : Option Nat) (E : List PE) (page n : Nat) (w : World) (h : MapAt w m rb lf pages E stamp) (hn : 1 ≤ n) (hp : page + n ≤ pages) (hall : ∀ k, k < n → (E.getD (page + k) none).isSome = true) :
    Calls Tryz.prog 88 #[.pointer (some ⟨m, 0, none⟩), .int .i64 page, .int .i64 n] w
      (RxSetPost w m rb pages lf (setE E page none n) (nextSt stamp)) := by
  have hst : nextSt stamp < 2 ^ 40 := Nat.mod_lt _ (by decide)
  have HNX := Lib.hid (rxNext_any m rb pages stamp lf E w h)
  have HIN := Lib.hid (rxIn_yes m rb pages stamp lf E page n w h hn hp)
  have HWA := Lib.hid (fun (k : Nat) (hk : k < n) => rxWordAt_in m rb pages stamp lf E (page + k) w h (by omega))
  have HNZ := Lib.hid (show ∀ k, k < n → ¬ ((wdO (E.getD (page + k) none) : Nat) : Int) = 0 from fun k hk e => by
    have := hall k hk
    have e2 := (wdO_zero (E.getD (page + k) none)).1 (by omega)
    rw [e2] at this
    cases this)
  have HALL := Lib.hid (show ∀ k, k < n → ((setE E page none k).getD (page + k) none).isSome = true from fun k hk => by
    rw [setE_get _ _ _ _ _ (by rw [h.len]; have := h.most; omega), if_neg (by omega)]
    exact hall k hk)
  have hM2 := h.stamped (nextSt stamp) hst
  have HM2 := Lib.hid (show MapF (w.setCell ⟨m, 2, none⟩ (.int .u64 (nextSt stamp : Nat))) m pages E (nextSt stamp) rb lf w lf from ⟨hM2, fun l hl => .inl hl, Turned.setCell (p := ⟨m, 2, none⟩) (Turned.refl _ _) (.inl (.inl rfl)) _⟩)
  have d2 : w.cell? ⟨m, 2, none⟩ = some (.int .u64 stamp) := by rw [cell_of_block h.obj]; rfl
  have f2 := frozen_of_block h.obj 2
  have hm := h.most
  clear h hM2 hall
  generalize hS : nextSt stamp = st at *
  clear hS
  go_enter Tryz.func88, Tryz.ntmps88
  go_wp2_with (fail)
  refine HIN.out.mono ?_
  rintro e w1 ⟨rfl, rfl⟩
  go_wp2
  go_loopw [15] (fun i wr => RxClrI w wr n i) (fun i _ => n - (intOf i).toNat)
  case atStart => exact ⟨0, Nat.zero_le _, rfl, rfl⟩
  case round =>
    obtain ⟨k, hk, rfl, rfl⟩ := hrel
    by_cases hlt : k < n
    · have hi1 : (k : Int) < n := by omega
      have hkw : IntKind.i64.wrap ((k : Int) + 1) = (k : Int) + 1 := by rw [IntKind.wrap_i64]; omega
      have hpw : IntKind.i64.wrap ((page : Int) + (k : Int)) = ((page + k : Nat) : Int) := by rw [IntKind.wrap_i64]; omega
      have HW1 := Lib.hid (HWA.out k hlt)
      have hnz := HNZ.out k hlt
      generalize wdO (E.getD (page + k) none) = x at *
      go_wp2_with (fail)
      refine HW1.out.mono ?_
      rintro e2 w3 ⟨rfl, rfl⟩
      go_wp2
      go_roundw
      case rel => exact ⟨k + 1, by omega, by go_num, rfl⟩
      case measure => first | (simp [intOf]; done) | (simp [intOf]; omega)
    · obtain rfl : k = n := by omega
      go_wp2_with (fail)
      refine HNX.out.mono ?_
      rintro e w1 ⟨rfl, rfl⟩
      go_wp2
      go_loopw [31] (fun i wq => RxSetI w wq m rb pages lf E st page k none i) (fun i _ => k - (intOf i).toNat)
      case atStart => exact ⟨0, Nat.zero_le _, rfl, lf, HM2.out⟩
      case round =>
        obtain ⟨j, hj, rfl, lf', hmf⟩ := hrel
        by_cases hlt : j < k
        · have hi1 : (j : Int) < k := by omega
          have hkw : IntKind.i64.wrap ((j : Int) + 1) = (j : Int) + 1 := by rw [IntKind.wrap_i64]; omega
          have hpw : IntKind.i64.wrap ((page : Int) + (j : Int)) = ((page + j : Nat) : Int) := by rw [IntKind.wrap_i64]; omega
          have HP := Lib.hid (put_any hmf (page + j) (by omega) none (fun p hp => by cases hp) (fun _ => HALL.out j hlt) 0 rfl)
          clear hmf
          go_wp2_with (fail)
          refine HP.out.mono ?_
          rintro e2 w3 ⟨rfl, lf2, hm2⟩
          have HM3 := Lib.hid hm2
          clear hm2
          go_wp2
          go_roundw
          case rel => exact ⟨j + 1, by omega, by go_num, lf2, HM3.out⟩
          case measure => first | (simp [intOf]; done) | (simp [intOf]; omega)
        · obtain rfl : j = k := by omega
          have HMF := Lib.hid hmf
          clear hmf
          go_wp2
          go_ret
          exact ⟨rfl, lf', HMF.out⟩

theorem info_leafp : (Tryz.prog.info? 208).map (fun i => (i.zero, i.size, i.bytes)) = some (some (.pointer none), 1, 8) := by kernel_rfl
theorem und_leafs : Tryz.prog.underlying 175 = some (.slice 208) := by kernel_rfl
theorem run_make_leafs (n pages : Nat) (hn : n = (pages + 63) / 64) (hp : pages ≤ 64) (w : World) :
    (Instr.makeSlice 175 (.int .i64 n) (.int .i64 n)).run Tryz.prog w = .ok (.slice (some ⟨w.heap.size, 0, none⟩) n n) (w.alloc (.cells (rootC pages none) 208)) := by
  obtain ⟨i0, hi, hz0, hz1, hz2⟩ := info_parts info_leafp
  have := run_make (P := Tryz.prog) w _ _ i0 _ und_leafs hi hz0 .i64 .i64 n n (by omega) (by omega) (by rw [hz2]; omega) (by omega)
  rw [this, hz1]
  have e : madeCells #[.pointer none] n = rootC pages none := by
    unfold rootC
    by_cases h : pages = 0
    · subst h
      rw [if_pos rfl, hn]
      apply Array.toList_inj.1
      rw [toList_madeCells_one]
      rfl
    · rw [if_neg h, show n = 1 by omega]
      apply Array.toList_inj.1
      rw [toList_madeCells_one]
      rfl
  simp only [Int.toNat_natCast, Value.cells, Nat.mul_one, e]

def RxNewPost (w : World) (pages : Nat) (e : Ending) (w' : World) : Prop :=
  ∃ m rb, e = .returned (.tuple #[.pointer (some ⟨m, 0, none⟩), .int .i64 0]) ∧ MapAt w' m rb none pages (List.replicate 64 none) 0 ∧ Below w.heap.size w w' ∧ w.heap.size ≤ m ∧ w.heap.size ≤ rb

set_option maxRecDepth 4000 in
set_option maxHeartbeats 1000000 in
theorem rxNew_core (pages n : Nat) (hn : n = (pages + 63) / 64) (h : pages ≤ 64) (w : World) : Calls Tryz.prog 74 #[.int .i64 pages] w (RxNewPost w pages) := by
  have hmk := run_make_leafs n pages hn h
  have h1 : ¬ (pages : Int) < 0 := by omega
  have h2 : ¬ (4096 : Int) < pages := by omega
  have hq : ((pages : Int) + 63) / 64 = (n : Int) := by omega
  have hq2 : IntKind.i64.wrap ((n : Nat) : Int) = (n : Int) := by rw [IntKind.wrap_i64]; omega
  have HN := Lib.hid hn
  clear hn
  go_enter Tryz.func74, Tryz.ntmps74
  go_wp2
  go_ret2
  refine ⟨_, w.heap.size, rfl, ⟨?_, ?_, (fun l hl => (by cases hl)), (fun _ x hx => List.eq_of_mem_replicate hx), (by simp), (fun x hx => ?_), (fun k _ => ?_), h, (by decide)⟩, (by repeat (first | exact Below.refl _ _ | assumption | refine Below.alloc ?_ (by first | omega | (simp <;> omega)) _ | refine Below.drew ?_ | refine Below.setCell ?_ (by first | omega | (simp <;> omega)) _ | refine Below.via (by assumption) (by first | omega | (simp <;> omega)) ?_)), by simp, Nat.le_refl _⟩
  · rw [← HN.out]
    exact heap_alloc2_new _ _ _
  · exact heap_alloc2_old _ _ _
  · rw [List.eq_of_mem_replicate hx]
    intro p hp
    cases hp
  · rw [List.getD_eq_getElem?_getD, List.getElem?_replicate]
    split <;> rfl

end Go.Proofs.YtlljejmblmjjnaaGreatDoor
