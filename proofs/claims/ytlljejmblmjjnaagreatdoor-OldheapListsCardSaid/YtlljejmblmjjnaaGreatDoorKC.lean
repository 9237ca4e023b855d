/- oldheap: near. -/
import Derived.Test.YtlljejmblmjjnaaGreatDoorKB
import Derived.WalkKit
import Derived.WalkSpells
import Derived.WalkLawsBesides
import Derived.BigQuiet
import Derived.Lib.Hide
import Derived.OrdersHeld
namespace Go.Proofs.YtlljejmblmjjnaaGreatDoor
set_option linter.unusedVariables false
set_option linter.unusedSimpArgs false
open Go.RowKit Go.ChangeMaps

theorem OBase.near {pages : Nat} {l : List Run} {A B : List PO} (h : OBase pages l A B) {x : PO} (hx : x ∈ A) {at_ : Int} (h1 : ((256 * x.page : Nat) : Int) ≤ at_) (h2 : at_ < (256 * x.page + 1024 : Nat)) : nearO A at_ = some x := by
  cases hg : nearO A at_ with
  | none =>
    unfold nearO at hg
    rw [List.find?_eq_none] at hg
    exact absurd (by simpa using ⟨by simpa using h1, by simpa using h2⟩) (hg x hx)
  | some y =>
    obtain ⟨h3, h4, h5⟩ := nearO_mem hg
    have hz : ∃ z : Nat, (z : Int) = at_ := ⟨at_.toNat, by omega⟩
    obtain ⟨z, rfl⟩ := hz
    have hp := h.page_uniq (List.mem_append_left B h3) (List.mem_append_left B hx) (k := z / 256) ⟨by omega, by omega⟩ ⟨by omega, by omega⟩
    have e1 := h.get h3
    rw [hp, h.get hx] at e1
    exact e1.symm
theorem entAt_natO {pages : Nat} {E : List PE} {y : Nat} : entAt pages E (y : Int) = if y < pages then E.getD y none else none := by
  unfold entAt
  by_cases h : y < pages
  · rw [if_pos (by omega), if_pos h, Int.toNat_natCast]
  · rw [if_neg (by omega), if_neg h]
/-- Where an address lies, by the ground's entries. -/
theorem OHeapM.nearIs {w : World} {H : OHL} {pages : Nat} {s : OP} (h : OHeapM w H pages s) (x : Nat) :
    (entAt pages H.E ((x / 256 : Nat) : Int) = none → nearO s.A x = none) ∧
    ∀ e st, entAt pages H.E ((x / 256 : Nat) : Int) = some (e, st) → (H.xs.find? fun y => (y.x.page : Int) == (e.span : Int)).map (·.x) = nearO s.A x := by
  have hcov : ∀ z ∈ s.A, nearO s.A x = some z → ∃ st, entAt pages H.E ((x / 256 : Nat) : Int) = some (⟨z.page, 0, z.cls, sealK z.sealed⟩, st) := by
    intro z hz hn
    obtain ⟨-, h1, h2⟩ := nearO_mem hn
    have hf := (h.base.each z (List.mem_append_left _ hz)).fits
    obtain ⟨st, hst⟩ := h.ent.ent z (List.mem_append_left _ hz) (x / 256) (by omega) (by omega)
    exact ⟨st, by rw [entAt_natO, if_pos (by omega)]; exact hst⟩
  refine ⟨fun hn => ?_, fun e st he => ?_⟩
  · cases hq : nearO s.A x with
    | none => rfl
    | some z =>
      obtain ⟨st, hst⟩ := hcov z (nearO_mem hq).1 hq
      rw [hn] at hst
      cases hst
  · cases hf : H.xs.find? fun y => (y.x.page : Int) == (e.span : Int) with
    | none =>
      cases hq : nearO s.A x with
      | none => rfl
      | some z =>
        exfalso
        obtain ⟨st', hst⟩ := hcov z (nearO_mem hq).1 hq
        rw [he] at hst
        cases hst
        obtain ⟨y, hy, rfl⟩ := h.mem (nearO_mem hq).1
        rw [List.find?_eq_none] at hf
        exact hf y hy (by simp)
    | some y =>
      have hy := List.mem_of_find?_eq_some hf
      have hp := List.find?_some hf
      simp only [beq_iff_eq] at hp
      rw [entAt_natO] at he
      split at he
      · obtain ⟨r, r1, r2, r3, r4, r5⟩ := h.ent.back _ e st he
        have hyA := h.mem' hy
        have e1 := h.base.tile.same_page (h.base.tk y.x (List.mem_append_left _ hyA)) r1 (by show y.x.page = r.page; omega)
        rw [← e1] at r4 r5
        change y.x.page ≤ x / 256 at r4
        change x / 256 < y.x.page + 4 at r5
        rw [h.base.near hyA (at_ := x) (by omega) (by omega)]
        rfl
      · cases he
def NearPostO (w : World) (H : OHL) (s : OP) (at_ : Int) (e : Ending) (w' : World) : Prop :=
  ∃ o : Option OS, e = .returned (ptrK o) ∧ (∀ y, o = some y → y ∈ H.xs) ∧ o.map (·.x) = nearO s.A at_ ∧ Below w.heap.size w w'

set_option maxRecDepth 8000 in
set_option maxHeartbeats 2000000 in
theorem onear_any {w : World} {H : OHL} {pages : Nat} {s : OP} (h : OHeapM w H pages s) (at_ : Int) :
    Calls Tryz.prog 54 #[.pointer (some ⟨H.h, 0, none⟩), .int .i64 at_] w (NearPostO w H s at_) := by
  obtain ⟨c0, c1, -⟩ := h.hcells
  have hnone : ∀ (hn : nearO s.A at_ = none) (HA : Hid (Calls Tryz.prog 17 #[.pointer (some ⟨H.gr, 0, none⟩), .int .i64 at_] w fun e w' => e = .returned (.tuple #[.agg #[.int .i64 0, .int .i64 0, .int .i64 0, .int .i64 0], .bool false]) ∧ Below w.heap.size w w')),
      Calls Tryz.prog 54 #[.pointer (some ⟨H.h, 0, none⟩), .int .i64 at_] w (NearPostO w H s at_) := by
    intro hn HA
    have HN := Lib.hid hn
    clear hn h
    go_enter Tryz.func54, Tryz.ntmps54
    go_wp2_with (fail)
    refine HA.out.mono ?_
    rintro e w1 ⟨rfl, hb⟩
    have HB := Lib.hid hb
    have hz := hb.size
    clear hb
    go_wp2
    go_ret
    exact ⟨none, rfl, (by intro y hy; cases hy), (by rw [HN.out]; rfl), HB.out.alloc hz _⟩
  by_cases hneg : at_ < 0
  · refine hnone ?_ (gAt_neg H.gr at_ w hneg)
    cases hq : nearO s.A at_ with
    | none => rfl
    | some z => have := (nearO_mem hq).2.1; omega
  · obtain ⟨x, rfl⟩ : ∃ x : Nat, at_ = x := ⟨at_.toNat, by omega⟩
    obtain ⟨n1, n2⟩ := h.nearIs x
    cases he : entAt pages H.E ((x / 256 : Nat) : Int) with
    | none => exact hnone (n1 he) (gAt_none H.gr H.cl pages H.b 0 H.c x H.p s.l H.E w h.ground he)
    | some pr =>
      obtain ⟨e4, st⟩ := pr
      have hf := n2 e4 st he
      have HA : Hid (Calls Tryz.prog 17 #[.pointer (some ⟨H.gr, 0, none⟩), .int .i64 x] w fun e w' => e = .returned (.tuple #[.agg #[.int .i64 e4.span, .int .i64 e4.version, .int .i64 e4.cls, .int .i64 e4.state], .bool true]) ∧ Below w.heap.size w w') :=
        gAt_some H.gr H.cl pages H.b 0 H.c x st e4 H.p s.l H.E w h.ground he
      have HF := Lib.hid hf
      have HM : Hid (∀ y, (H.xs.find? fun y => (y.x.page : Int) == (e4.span : Int)) = some y → y ∈ H.xs) := fun y hy => List.mem_of_find?_eq_some hy
      have HLK : Hid (∀ W, Below w.heap.size w W → ∀ X, (Instr.lookup 77 (.map (some H.mb)) (.int .i64 (e4.span : Int)) false).run Tryz.prog (W.ext X) = .ok (ptrK (H.xs.find? fun y => (y.x.page : Int) == (e4.span : Int))) (W.ext X)) := fun W hW X =>
        run_lookup_old (((h.below hW).below (below_ext W X)).map) _
      have hhl := cell_lt c0
      clear h hnone n1 n2 he hf
      generalize (H.xs.find? fun y => (y.x.page : Int) == (e4.span : Int)) = o at *
      obtain ⟨q, hq⟩ : ∃ q, ptrK o = .pointer q := by cases o <;> exact ⟨_, rfl⟩
      rw [hq] at HLK
      have HQ := Lib.hid hq
      clear hq
      generalize hs0 : e4.span = s0 at *
      clear hs0
      go_enter Tryz.func54, Tryz.ntmps54
      go_wp2_with (fail)
      refine HA.out.mono ?_
      rintro e w1 ⟨rfl, hb⟩
      have HB1 := Lib.hid hb
      have hz := hb.size
      clear hb
      go_upto_region 4 with (fail)
      obtain ⟨W2, hW2⟩ : ∃ W2, W2 = w1.alloc (.cells #[.int .i64 s0, .int .i64 e4.version, .int .i64 e4.cls, .int .i64 e4.state] 48) := ⟨_, rfl⟩
      have HB2 : Hid (Below w.heap.size w W2) := by rw [hW2]; exact HB1.out.alloc hz _
      have y0 : W2.cell? ⟨w1.heap.size, 0, none⟩ = some (.int .i64 s0) := by rw [hW2, cell_of_block (heap_alloc_new _ _)]; rfl
      have y1 := cell_past HB2.out (cell_lt c1) c1
      have hlk := HLK.out W2 HB2.out
      have hsz := HB2.out.size
      have hl1 : w1.heap.size < W2.heap.size := cell_lt y0
      rw [← hW2]
      clear hW2 c0 c1
      (refine wp_region_quiet_ext (by kernel_rfl) (by kernel_rfl) ?_; (repeat (first | go_big_quiet_step ((fail)) | quiet_step ((fail)))); refine wpQuiet_nil ?_; intro w3 hw3; obtain hb3 := below_of_ext hw3; clear hw3; obtain ⟨hc3, hf3⟩ := bcell hb3; have hz3 := hb3.size; (try simp at hz3))
      have HB3 := Lib.hid (Below.via hb3 hsz HB2.out)
      clear hb3
      go_wp2
      go_ret
      exact ⟨o, by rw [HQ.out]; rfl, HM.out, HF.out, HB3.out⟩

end Go.Proofs.YtlljejmblmjjnaaGreatDoor

/- oldheap: Find, Has. -/
namespace Go.Proofs.YtlljejmblmjjnaaGreatDoor
set_option linter.unusedVariables false
set_option linter.unusedSimpArgs false
open Go.RowKit Go.ChangeMaps

def idxK (l : List Int) (k : Int) : Int := if l.findIdx (· == k) < l.length then (l.findIdx (· == k) : Int) else -1
theorem Ints.cellsO {w : World} {base : Nat} {v : Value} {l : List Int} (h : Ints w base v l) : ∃ p cap, v = .slice p l.length cap ∧ ∀ i, i < l.length → ∃ g, p = some ⟨g, 0, none⟩ ∧ w.cell? ⟨g, i, none⟩ = some (.int .i64 (l.getD i 0)) := by
  obtain ⟨p, cap, rfl, h⟩ := h
  refine ⟨p, cap, rfl, fun i hi => ?_⟩
  obtain ⟨g, rfl, -, hc⟩ := h (by intro e; rw [e] at hi; simp at hi)
  exact ⟨g, rfl, hc i hi⟩
set_option maxRecDepth 8000 in
set_option maxHeartbeats 1000000 in
theorem indexK_any (l : List Int) (k : Int) (base : Nat) (v : Value) (w : World) (h : Ints w base v l) (hmax : l.length ≤ 5000) :
    Calls Tryz.prog 82 #[v, .int .i64 k] w fun e w' => e = .returned (.int .i64 (idxK l k)) ∧ w = w' := by
  obtain ⟨p, cap, rfl, hc⟩ := h.cellsO
  have HC := Lib.hid hc
  clear hc h
  go_enter Tryz.func82, Tryz.ntmps82
  go_wp2
  go_loopw [8] (fun i wr => ∃ j : Nat, i = .int .i64 j ∧ j ≤ l.length ∧ j ≤ l.findIdx (· == k) ∧ w = wr) (fun i _ => l.length - (intOf i).toNat)
  case atStart => exact ⟨0, rfl, Nat.zero_le _, Nat.zero_le _, rfl⟩
  case round =>
    obtain ⟨j, rfl, hj, hjz, rfl⟩ := hrel
    by_cases hlt : j < l.length
    · obtain ⟨g, rfl, x0⟩ := HC.out j hlt
      have hi1 : (0 : Int) ≤ (j : Int) ∧ (j : Int) < l.length := by omega
      have hkw : IntKind.i64.wrap ((j : Int) + 1) = (j : Int) + 1 := by rw [IntKind.wrap_i64]; omega
      have hget : l.getD j 0 = l[j] := by rw [List.getD_eq_getElem?_getD, List.getElem?_eq_getElem hlt]; rfl
      rw [hget] at x0
      cases hz : (l[j] == k) with
      | false =>
        have hne : j ≠ l.findIdx (· == k) := by
          intro e
          have := List.findIdx_getElem (p := (· == k)) (xs := l) (w := by omega)
          simp only [← e] at this
          rw [hz] at this
          cases this
        have hz2 : (k == l[j]) = false := by
          have : ¬ l[j] = k := by simpa using hz
          simpa using Ne.symm this
        clear hz hget
        generalize l[j] = q at *
        go_wp2
        go_roundw
        case rel => exact ⟨j + 1, by go_num, hlt, by omega, by trivial⟩
        case measure => simp [intOf]; omega
      | true =>
        have hle : l.findIdx (· == k) ≤ j := by
          apply Nat.le_of_not_lt
          intro hlt2
          have := List.not_of_lt_findIdx hlt2
          rw [hz] at this
          cases this
        have HKE : Hid (idxK l k = (j : Int)) := by
          have : l.findIdx (· == k) = j := by omega
          show _ = _
          unfold idxK
          rw [this, if_pos hlt]
        have hz2 : (k == l[j]) = true := by
          have : l[j] = k := by simpa using hz
          simp [this]
        clear hz hget
        generalize l[j] = q at *
        go_wp2
        go_ret
        exact ⟨by rw [HKE.out]; rfl, rfl⟩
    · have HKE : Hid (idxK l k = -1) := by
        show _ = _
        unfold idxK
        rw [if_neg (by omega)]
      go_wp2
      go_ret
      exact ⟨by rw [HKE.out]; rfl, rfl⟩
set_option maxRecDepth 8000 in
set_option maxHeartbeats 1000000 in
theorem containsO_any (l : List Int) (k : Int) (base : Nat) (v : Value) (w : World) (h : Ints w base v l) (hmax : l.length ≤ 5000) :
    Calls Tryz.prog 38 #[v, .int .i64 k] w fun e w' => e = .returned (.bool (decide (k ∈ l))) ∧ w = w' := by
  have HI := Lib.hid (indexK_any l k base v w h hmax)
  have hb : decide (k ∈ l) = decide (0 ≤ idxK l k) := by
    unfold idxK
    by_cases hm : k ∈ l
    · have : l.findIdx (· == k) < l.length := List.findIdx_lt_length_of_exists ⟨k, hm, by simp⟩
      rw [if_pos this]
      simp [hm]
    · have : ¬ l.findIdx (· == k) < l.length := by
        intro hlt
        have := List.findIdx_getElem (p := (· == k)) (xs := l) (w := hlt)
        simp only [beq_iff_eq] at this
        exact hm (by rw [← this]; exact List.getElem_mem hlt)
      rw [if_neg this]
      simp [hm]
  have HB := Lib.hid hb
  clear hb h
  generalize idxK l k = n at *
  go_enter Tryz.func38, Tryz.ntmps38
  go_wp2_with (fail)
  refine HI.out.mono ?_
  rintro e w1 ⟨rfl, rfl⟩
  go_wp2
  go_ret
  exact ⟨ret_bool (by rw [HB.out]), rfl⟩

def findO (A : List PO) (at_ : Int) : Option (PO × Nat) := match nearO A at_ with | none => none | some x => (slotO x.O at_).map fun k => (x, k)
def findOV (o : Option (PO × Nat)) : Value := match o with | none => .tuple #[.agg #[.int .i64 0, .int .i64 0], .int .i64 12] | some q => .tuple #[.agg #[.int .i64 q.1.page, .int .i64 q.2], .int .i64 0]

set_option maxRecDepth 8000 in
set_option maxHeartbeats 2000000 in
theorem hfindO_any {w : World} {H : OHL} {pages : Nat} {s : OP} (h : OHeapM w H pages s) (at_ : Int) :
    Calls Tryz.prog 30 #[.pointer (some ⟨H.h, 0, none⟩), .int .i64 at_] w fun e w' => e = .returned (findOV (findO s.A at_)) ∧ Below w.heap.size w w' := by
  have HH := Lib.hid h
  have hAl : Below w.heap.size w (w.alloc (.cells #[.int .i64 0, .int .i64 0] 59)) := (Below.refl _ _).alloc (Nat.le_refl _) _
  have HN := Lib.hid (onear_any (h.below hAl) at_)
  have HBA := Lib.hid hAl
  have HBLK0 : Hid ((w.alloc (.cells #[.int .i64 0, .int .i64 0] 59)).heap[w.heap.size]? = some (.cells #[.int .i64 0, .int .i64 0] 59 (0, 0))) := heap_alloc_new _ _
  have hsz0 : (w.alloc (.cells #[.int .i64 0, .int .i64 0] 59)).heap.size = w.heap.size + 1 := by simp
  clear h hAl
  go_enter Tryz.func30, Tryz.ntmps30
  go_wp2_with (fail)
  refine HN.out.mono ?_
  rintro e w1 ⟨o, rfl, hom, hox, hb⟩
  have hs1 := hb.size
  have HB1 : Hid (Below w.heap.size w w1) := Below.via hb (by omega) HBA.out
  have hblk1 := (hb.block _ (by omega)).trans HBLK0.out
  have g0 := cell_of_block hblk1 0
  have g1 := cell_of_block hblk1 1
  have f0 := frozen_of_block hblk1 0
  have f1 := frozen_of_block hblk1 1
  have HBLK1 := Lib.hid hblk1
  clear hb hblk1
  cases o with
  | none =>
    have HF : Hid (findOV (findO s.A at_) = .tuple #[.agg #[.int .i64 0, .int .i64 0], .int .i64 12]) := by
      show _ = _
      unfold findO
      rw [← hox]
      rfl
    clear hom hox
    rw [show ptrK none = .pointer none from rfl]
    go_wp2
    have hgf : ((w1.setCell ⟨w.heap.size, 0, none⟩ (.int .i64 0)).setCell ⟨w.heap.size, 1, none⟩ (.int .i64 0)).heap[w.heap.size]? = some (.cells #[.int .i64 0, .int .i64 0] 59 (0, 0)) := by
      rw [heap_setCell_eq (heap_setCell_eq HBLK1.out _) _]
      rfl
    have q0 := cell_of_block hgf 0
    have q1 := cell_of_block hgf 1
    refine bodyPost_ret (v := .tuple #[.agg #[.int .i64 0, .int .i64 0], .int .i64 12]) (by simp [results, Tryz.results30, go_sem, q0, q1]) rfl ⟨by rw [HF.out], ?_⟩
    exact (HB1.out.setCell (Nat.le_refl _) _).setCell (Nat.le_refl _) _
  | some y =>
    have hy := hom y rfl
    have hnear : nearO s.A at_ = some y.x := hox.symm
    have h1 := HH.out.below HB1.out
    have hSL := oslot_any (h1.slab hy) at_
    have HPG : Hid (∀ W, Below w1.heap.size w1 W → Calls Tryz.prog 70 #[.pointer (some ⟨y.L.s, 0, none⟩)] W fun e w' => e = .returned (.int .i64 y.x.page) ∧ W = w') := fun W hW => opage_any ((h1.slab hy).below hW)
    rw [show ptrK (some y) = .pointer (some ⟨y.L.s, 0, none⟩) from rfl]
    have hsl1 := lt_of_block HBLK1.out
    clear hom hox h1 hy
    cases hsl : slotO y.x.O at_ with
    | none =>
      rw [hsl] at hSL
      have HSL : Hid (Calls Tryz.prog 69 #[.pointer (some ⟨y.L.s, 0, none⟩), .int .i64 at_] w1 fun e w' => e = .returned (.tuple #[.int .i64 (-1), .int .i64 12]) ∧ Below w1.heap.size w1 w') := hSL
      have HF : Hid (findOV (findO s.A at_) = .tuple #[.agg #[.int .i64 0, .int .i64 0], .int .i64 12]) := by
        show _ = _
        unfold findO
        rw [hnear]
        simp only [hsl]
        rfl
      clear hSL hsl hnear
      go_wp2_with (fail)
      refine HSL.out.mono ?_
      rintro e w2 ⟨rfl, hb2⟩
      have hblk2 := (hb2.block _ hsl1).trans HBLK1.out
      have HB2 := Lib.hid (Below.via hb2 HB1.out.size HB1.out)
      have g0' := cell_of_block hblk2 0
      have g1' := cell_of_block hblk2 1
      have f0' := frozen_of_block hblk2 0
      have f1' := frozen_of_block hblk2 1
      have HBLK2 := Lib.hid hblk2
      clear hb2 hblk2 g0 g1 f0 f1
      go_wp2
      have hgf : ((w2.setCell ⟨w.heap.size, 0, none⟩ (.int .i64 0)).setCell ⟨w.heap.size, 1, none⟩ (.int .i64 0)).heap[w.heap.size]? = some (.cells #[.int .i64 0, .int .i64 0] 59 (0, 0)) := by
        rw [heap_setCell_eq (heap_setCell_eq HBLK2.out _) _]
        rfl
      have q0 := cell_of_block hgf 0
      have q1 := cell_of_block hgf 1
      refine bodyPost_ret (v := .tuple #[.agg #[.int .i64 0, .int .i64 0], .int .i64 12]) (by simp [results, Tryz.results30, go_sem, q0, q1]) rfl ⟨by rw [HF.out], ?_⟩
      exact (HB2.out.setCell (Nat.le_refl _) _).setCell (Nat.le_refl _) _
    | some k =>
      rw [hsl] at hSL
      have HSL : Hid (Calls Tryz.prog 69 #[.pointer (some ⟨y.L.s, 0, none⟩), .int .i64 at_] w1 fun e w' => e = .returned (.tuple #[.int .i64 k, .int .i64 0]) ∧ Below w1.heap.size w1 w') := hSL
      have HF : Hid (findOV (findO s.A at_) = .tuple #[.agg #[.int .i64 y.x.page, .int .i64 k], .int .i64 0]) := by
        show _ = _
        unfold findO
        rw [hnear]
        simp only [hsl]
        rfl
      clear hSL hsl hnear
      go_wp2_with (fail)
      refine HSL.out.mono ?_
      rintro e w2 ⟨rfl, hb2⟩
      have hblk2 := (hb2.block _ hsl1).trans HBLK1.out
      have HB2 := Lib.hid (Below.via hb2 HB1.out.size HB1.out)
      have HPG2 := Lib.hid (HPG.out w2 hb2)
      have g0' := cell_of_block hblk2 0
      have g1' := cell_of_block hblk2 1
      have f0' := frozen_of_block hblk2 0
      have f1' := frozen_of_block hblk2 1
      have HBLK2 := Lib.hid hblk2
      clear hb2 hblk2 g0 g1 f0 f1
      go_wp2_with (fail)
      refine HPG2.out.mono ?_
      rintro e w2' ⟨rfl, rfl⟩
      generalize y.x.page = pg at *
      go_wp2
      have hgf : ((w2.setCell ⟨w.heap.size, 0, none⟩ (.int .i64 pg)).setCell ⟨w.heap.size, 1, none⟩ (.int .i64 k)).heap[w.heap.size]? = some (.cells #[.int .i64 pg, .int .i64 k] 59 (0, 0)) := by
        rw [heap_setCell_eq (heap_setCell_eq HBLK2.out _) _]
        rfl
      have q0 := cell_of_block hgf 0
      have q1 := cell_of_block hgf 1
      refine bodyPost_ret (v := .tuple #[.agg #[.int .i64 pg, .int .i64 k], .int .i64 0]) (by simp [results, Tryz.results30, go_sem, q0, q1]) rfl ⟨by rw [HF.out], ?_⟩
      exact (HB2.out.setCell (Nat.le_refl _) _).setCell (Nat.le_refl _) _

end Go.Proofs.YtlljejmblmjjnaaGreatDoor

/- oldheap: Has. -/
namespace Go.Proofs.YtlljejmblmjjnaaGreatDoor
set_option linter.unusedVariables false
set_option linter.unusedSimpArgs false
open Go.RowKit Go.ChangeMaps

def hasO (A : List PO) (at_ : Int) : Bool := match findO A at_ with | none => false | some q => q.1.x.testBit q.2
theorem findO_is {A : List PO} {at_ : Int} (hc : ∀ x ∈ A, x.cls < 16) {q : PO × Nat} (hf : findO A at_ = some q) : q.1 ∈ A ∧ q.2 < slA q.1.cls ∧ at_ = (q.1.addr q.2 : Nat) := by
  unfold findO at hf
  cases hn : nearO A at_ with
  | none => rw [hn] at hf; cases hf
  | some x =>
    rw [hn] at hf
    cases hs : slotO x.O at_ with
    | none => simp only [hs] at hf; cases hf
    | some k =>
      simp only [hs] at hf
      cases hf
      have hx := (nearO_mem hn).1
      obtain ⟨a1, a2⟩ := slotO_some (S := x.O) (hc x hx) hs
      exact ⟨hx, a2, a1⟩
theorem findO_at {pages : Nat} {s : OP} (h : OInv pages s) {x : PO} (hx : x ∈ s.A) {k : Nat} (hk : k < slA x.cls) : findO s.A (x.addr k : Nat) = some (x, k) := by
  have hok := h.each x hx
  have a1 := hok.addr_in hk
  have a2 := (szA_all _ hok.cls).1
  unfold findO
  rw [h.near hx (at_ := (x.addr k : Nat)) (by omega) (by omega)]
  simp only [slotO_addr hok hk]
  rfl
theorem hasO_iff {pages : Nat} {s : OP} (h : OInv pages s) (at_ : Int) : hasO s.A at_ = true ↔ TknO s.A at_ := by
  unfold hasO
  constructor
  · intro hh
    cases hf : findO s.A at_ with
    | none => rw [hf] at hh; cases hh
    | some q =>
      rw [hf] at hh
      obtain ⟨h1, h2, h3⟩ := findO_is (fun x hx => (h.each x hx).cls) hf
      exact ⟨q.1, h1, q.2, h2, hh, h3⟩
  · rintro ⟨x, hx, k, h1, h2, rfl⟩
    rw [findO_at h hx h1]
    exact h2

set_option maxRecDepth 8000 in
set_option maxHeartbeats 2000000 in
theorem hhasO_any {w : World} {H : OHL} {pages : Nat} {s : OP} (h : OHeapM w H pages s) (at_ : Int) :
    Calls Tryz.prog 10 #[.pointer (some ⟨H.h, 0, none⟩), .int .i64 at_] w fun e w' => e = .returned (.bool (hasO s.A at_)) ∧ Below w.heap.size w w' := by
  have HN := Lib.hid (hfindO_any h at_)
  have HH := Lib.hid h
  obtain ⟨-, c1, -⟩ := h.hcells
  clear h
  go_enter Tryz.func10, Tryz.ntmps10
  go_wp2_with (fail)
  refine HN.out.mono ?_
  rintro e w1 ⟨rfl, hb⟩
  have HB1 := Lib.hid hb
  have hs1 := hb.size
  have d1 := cell_past hb (cell_lt c1) c1
  clear hb c1
  cases hf : findO s.A at_ with
  | none =>
    have HF : Hid (hasO s.A at_ = false) := by show _ = _; unfold hasO; rw [hf]
    rw [show findOV none = .tuple #[.agg #[.int .i64 0, .int .i64 0], .int .i64 12] from rfl]
    clear hf
    go_upto_region 2 with (fail)
    have HBA := Lib.hid (HB1.out.alloc hs1 (.cells #[.int .i64 0, .int .i64 0] 59))
    generalize (w1.alloc (.cells #[.int .i64 0, .int .i64 0] 59)) = W2 at *
    (refine wp_region_quiet_ext (by kernel_rfl) (by kernel_rfl) ?_; (repeat (first | go_big_quiet_step ((fail)) | quiet_step ((fail)))); refine wpQuiet_nil ?_; intro w3 hw3; obtain hb3 := below_of_ext hw3; clear hw3; obtain ⟨hc3, hf3⟩ := bcell hb3; have hz3 := hb3.size; (try simp at hz3))
    have HB3 := Lib.hid (Below.via hb3 HBA.out.size HBA.out)
    clear hb3 hc3 hf3
    go_wp2
    go_ret
    exact ⟨by rw [HF.out]; rfl, HB3.out⟩
  | some q =>
    obtain ⟨x, k⟩ := q
    obtain ⟨hx, hk, -⟩ := findO_is (fun x hx => (HH.out.base.each x (List.mem_append_left _ hx)).cls) hf
    obtain ⟨y, hy, rfl⟩ := HH.out.mem hx
    have hcl := (HH.out.ok hy).cls
    have HF : Hid (hasO s.A at_ = decide (((k : Nat) : Int) ∈ intsN (takenO y.x.O))) := by
      show _ = _
      unfold hasO
      rw [hf]
      unfold intsN
      have : (((k : Nat) : Int) ∈ (takenO y.x.O).map fun k : Nat => (k : Int)) ↔ y.x.x.testBit k = true := by
        rw [List.mem_map]
        constructor
        · rintro ⟨j, hj, e⟩
          have : j = k := by omega
          subst this
          exact (onL_mem.1 hj).2
        · exact fun hn => ⟨k, onL_mem.2 ⟨hk, hn⟩, rfl⟩
      simp only [this]
      show y.x.x.testBit k = _
      cases y.x.x.testBit k <;> rfl
    rw [show findOV (some (y.x, k)) = .tuple #[.agg #[.int .i64 y.x.page, .int .i64 k], .int .i64 0] from rfl]
    have HY := Lib.hid hy
    have HTK : Hid (∀ W, Below w.heap.size w W → Calls Tryz.prog 19 #[.pointer (some ⟨y.L.s, 0, none⟩)] W fun e w' => ∃ v, e = .returned v ∧ w'.ownsRow W.heap.size 3 1 v (takenO y.x.O).length (intsV (intsN (takenO y.x.O))) ∧ Below W.heap.size W w') := fun W hW =>
      otaken_any ((HH.out.below hW).slab HY.out) (HH.out.below hW).tab
    have HTL : Hid ((intsN (takenO y.x.O)).length ≤ 5000) := by
      show _ ≤ _
      unfold intsN
      rw [List.length_map]
      have h1 : (takenO y.x.O).length ≤ slA y.x.cls := ones_le y.x.x (slA y.x.cls)
      have h2 := (szA_all _ hcl).2.2.2.2.1
      omega
    clear hf hx hk hy hcl
    go_upto_region 2 with (fail)
    obtain ⟨W2, hW2⟩ : ∃ W2, W2 = w1.alloc (.cells #[.int .i64 y.x.page, .int .i64 k] 59) := ⟨_, rfl⟩
    have HB2 : Hid (Below w.heap.size w W2) := by rw [hW2]; exact HB1.out.alloc hs1 _
    have HBLK2 : Hid (W2.heap[w1.heap.size]? = some (.cells #[.int .i64 y.x.page, .int .i64 k] 59 (0, 0))) := by rw [hW2]; exact heap_alloc_new _ _
    have p0 : W2.cell? ⟨w1.heap.size, 0, none⟩ = some (.int .i64 y.x.page) := cell_of_block HBLK2.out 0
    have p1 : W2.cell? ⟨w1.heap.size, 1, none⟩ = some (.int .i64 k) := cell_of_block HBLK2.out 1
    have e1 : W2.cell? ⟨H.h, 1, none⟩ = some (.map (some H.mb)) := by rw [hW2]; exact Lib.cell?_alloc_some _ d1
    have hl1 : w1.heap.size < W2.heap.size := cell_lt p0
    rw [← hW2]
    clear hW2 d1
    have HLKD : Hid (∀ W, Below w.heap.size w W → (Instr.lookup 77 (.map (some H.mb)) (.int .i64 y.x.page) false).run Tryz.prog W = .ok (.pointer (some ⟨y.L.s, 0, none⟩)) W) := fun W hW => by
      have := run_lookup_old (HH.out.below hW).map (y.x.page : Int)
      rw [HH.out.lookup HY.out] at this
      exact this
    generalize y.x.page = pg at *
    refine wp_region_held_drew (S := fun W : World => W.cell? ⟨H.h, 1, none⟩ = some (.map (some H.mb)) ∧ W.cell? ⟨w1.heap.size, 0, none⟩ = some (.int .i64 pg) ∧ W.cell? ⟨w1.heap.size, 1, none⟩ = some (.int .i64 k) ∧ (Instr.lookup 77 (.map (some H.mb)) (.int .i64 pg) false).run Tryz.prog W = .ok (.pointer (some ⟨y.L.s, 0, none⟩)) W) (by kernel_rfl) ?_ (fun hHeld0 => ?_)
    · exact ⟨e1, p0, p1, HLKD.out _ HB2.out.drew⟩
    (refine wpAnyH_take (i := 0) (v := ?_) rfl (by kernel_rfl) (by kernel_rfl) (by kernel_rfl) (fun _ _ _ h => h) (Or.inl ⟨by rfl, ?_⟩) (by assumption) ?_; rotate_left; focus (intro w hSw; (try dsimp only at hSw); go_simp; first | done | with_reducible rfl); (try simp only [Act.put, List.setIfInBounds_toArray, List.set_cons_zero, List.set_cons_succ, List.getElem_toArray, List.getElem_cons_zero, List.getElem_cons_succ]))
    (refine wpAnyH_take (i := 1) (v := ?_) rfl (by kernel_rfl) (by kernel_rfl) (by kernel_rfl) (fun _ _ _ h => h) (Or.inl ⟨by rfl, ?_⟩) (by assumption) ?_; rotate_left; focus (intro w hSw; (try dsimp only at hSw); go_simp; first | done | with_reducible rfl); (try simp only [Act.put, List.setIfInBounds_toArray, List.set_cons_zero, List.set_cons_succ, List.getElem_toArray, List.getElem_cons_zero, List.getElem_cons_succ]))
    (refine wpAnyH_take (i := 2) (v := ?_) rfl (by kernel_rfl) (by kernel_rfl) (by kernel_rfl) (fun _ _ _ h => h) (Or.inl ⟨by rfl, ?_⟩) (by assumption) ?_; rotate_left; focus (intro w hSw; (try dsimp only at hSw); go_simp; first | done | with_reducible rfl); (try simp only [Act.put, List.setIfInBounds_toArray, List.set_cons_zero, List.set_cons_succ, List.getElem_toArray, List.getElem_cons_zero, List.getElem_cons_succ]))
    (refine wpAnyH_take (i := 3) (v := ?_) rfl (by kernel_rfl) (by kernel_rfl) (by kernel_rfl) (fun _ _ _ h => h) (Or.inl ⟨by (first | kernel_rfl | rfl), ?_⟩) (by assumption) ?_; rotate_left; focus (intro w hSw; (try dsimp only at hSw); go_simp; first | done | with_reducible rfl); (try simp only [Act.put, List.setIfInBounds_toArray, List.set_cons_zero, List.set_cons_succ, List.getElem_toArray, List.getElem_cons_zero, List.getElem_cons_succ]))
    (refine wpAnyH_take (i := 4) (v := ?_) rfl (by kernel_rfl) (by kernel_rfl) (by kernel_rfl) (fun _ _ _ h => h) (Or.inl ⟨by (first | kernel_rfl | rfl), ?_⟩) (by assumption) ?_; rotate_left; focus (intro w hSw; (try dsimp only at hSw); go_simp; first | done | with_reducible rfl); (try simp only [Act.put, List.setIfInBounds_toArray, List.set_cons_zero, List.set_cons_succ, List.getElem_toArray, List.getElem_cons_zero, List.getElem_cons_succ]))
    (refine wpAnyH_take (i := 5) (v := ?_) rfl (by kernel_rfl) (by kernel_rfl) (by kernel_rfl) (fun _ _ _ h => h) (Or.inl ⟨by (first | kernel_rfl | rfl), ?_⟩) (by assumption) ?_; rotate_left; focus (intro w hSw; (try dsimp only at hSw); go_simp; first | done | with_reducible rfl); (try simp only [Act.put, List.setIfInBounds_toArray, List.set_cons_zero, List.set_cons_succ, List.getElem_toArray, List.getElem_cons_zero, List.getElem_cons_succ]))
    (refine wpAnyH_take (i := 6) (v := ?_) rfl (by kernel_rfl) (by kernel_rfl) (by kernel_rfl) (fun _ _ _ h => h) (Or.inl ⟨by (first | kernel_rfl | rfl), ?_⟩) (by assumption) ?_; rotate_left; focus (intro w hSw; (try dsimp only at hSw); go_simp; first | done | with_reducible rfl); (try simp only [Act.put, List.setIfInBounds_toArray, List.set_cons_zero, List.set_cons_succ, List.getElem_toArray, List.getElem_cons_zero, List.getElem_cons_succ]))
    (refine wpAnyH_take (i := 7) (v := ?_) rfl (by kernel_rfl) (by kernel_rfl) (by kernel_rfl) (fun _ _ _ h => h) (Or.inl ⟨by (first | kernel_rfl | rfl), ?_⟩) (by assumption) ?_; rotate_left; focus (intro w hSw; (try dsimp only at hSw); go_simp; first | done | with_reducible rfl); (try simp only [Act.put, List.setIfInBounds_toArray, List.set_cons_zero, List.set_cons_succ, List.getElem_toArray, List.getElem_cons_zero, List.getElem_cons_succ]))
    (refine wpAnyH_take (i := 8) (v := ?_) rfl (by kernel_rfl) (by kernel_rfl) (by kernel_rfl) (fun _ _ _ h => h) (Or.inl ⟨by (first | kernel_rfl | rfl), ?_⟩) (by assumption) ?_; rotate_left; focus (intro w hSw; (try dsimp only at hSw); go_simp; first | done | with_reducible rfl); (try simp only [Act.put, List.setIfInBounds_toArray, List.set_cons_zero, List.set_cons_succ, List.getElem_toArray, List.getElem_cons_zero, List.getElem_cons_succ]))
    (refine wpAnyH_take (i := 9) (v := ?_) rfl (by kernel_rfl) (by kernel_rfl) (by kernel_rfl) (fun _ _ _ h => h) (Or.inl ⟨by (first | kernel_rfl | rfl), ?_⟩) (by assumption) ?_; rotate_left; focus (intro w hSw; (try dsimp only at hSw); go_simp; first | done | with_reducible rfl); (try simp only [Act.put, List.setIfInBounds_toArray, List.set_cons_zero, List.set_cons_succ, List.getElem_toArray, List.getElem_cons_zero, List.getElem_cons_succ]))
    (refine wpAnyH_take (i := 11) (v := ?_) rfl (by kernel_rfl) (by kernel_rfl) (by kernel_rfl) (fun _ _ _ h => h) (Or.inl ⟨by (first | kernel_rfl | rfl), ?_⟩) (by assumption) ?_; rotate_left; focus (intro w hSw; (try dsimp only at hSw); go_simp; first | done | with_reducible rfl); (try simp only [Act.put, List.setIfInBounds_toArray, List.set_cons_zero, List.set_cons_succ, List.getElem_toArray, List.getElem_cons_zero, List.getElem_cons_succ]))
    (refine wpAnyH_take (i := 12) (v := ?_) rfl (by kernel_rfl) (by kernel_rfl) (by kernel_rfl) (fun _ _ _ h => h) (Or.inl ⟨by (first | kernel_rfl | rfl), ?_⟩) (by assumption) ?_; rotate_left; focus (intro w hSw; (try dsimp only at hSw); go_simp; first | done | with_reducible rfl); (try simp only [Act.put, List.setIfInBounds_toArray, List.set_cons_zero, List.set_cons_succ, List.getElem_toArray, List.getElem_cons_zero, List.getElem_cons_succ]))
    refine wpAnyH_ready (rs := [10]) (by kernel_rfl) (by simp) ?_
    refine AllReadyH.cons rfl (fun K hK => ?_) AllReadyH.nil
    go_simp
    have HB3 := Lib.hid (HB2.out.drew)
    have hl3 : w1.heap.size < W2.drew.heap.size := hl1
    have hhl := cell_lt e1
    have e1' : W2.drew.cell? ⟨H.h, 1, none⟩ = some (.map (some H.mb)) := e1
    have p0' : W2.drew.cell? ⟨w1.heap.size, 0, none⟩ = some (.int .i64 pg) := p0
    have p1' : W2.drew.cell? ⟨w1.heap.size, 1, none⟩ = some (.int .i64 k) := p1
    go_wp2_with (fail)
    refine (HTK.out _ HB3.out).mono ?_
    rintro e w4 ⟨v, rfl, hi, hb4⟩
    have HB4 := Lib.hid (Below.via hb4 HB3.out.size HB3.out)
    have HCT := Lib.hid (containsO_any (intsN (takenO y.x.O)) (k : Int) _ v w4 (Ints.of_own hi (by unfold intsN; rw [List.length_map])) HTL.out)
    refine hK.out _ _ ⟨cell_past hb4 hhl e1', cell_past hb4 hl3 p0', cell_past hb4 hl3 p1', HLKD.out _ HB4.out⟩ (fun hHeld => ?_)
    clear hK K p0 p1 e1 hHeld0 e1' p0' p1' hi hb4
    (try simp only [Act.put, List.setIfInBounds_toArray, List.set_cons_zero, List.set_cons_succ, List.getElem_toArray, List.getElem_cons_zero, List.getElem_cons_succ])
    refine wpAnyH_ready (rs := [13]) (by kernel_rfl) (by simp) ?_
    refine AllReadyH.cons rfl (fun K hK => ?_) AllReadyH.nil
    go_simp
    go_wp2_with (fail)
    refine HCT.out.mono ?_
    rintro e w5 ⟨rfl, rfl⟩
    refine hK.out _ _ hHeld (fun hHeld => ?_)
    clear hK K
    (try simp only [Act.put, List.setIfInBounds_toArray, List.set_cons_zero, List.set_cons_succ, List.getElem_toArray, List.getElem_cons_zero, List.getElem_cons_succ])
    (refine wpAnyH_take (i := 14) (v := ?_) rfl (by kernel_rfl) (by kernel_rfl) (by kernel_rfl) (fun _ _ _ h => h) (Or.inl ⟨by rfl, ?_⟩) (by assumption) ?_; rotate_left; focus (intro w hSw; (try dsimp only at hSw); go_simp; first | done | with_reducible rfl); (try simp only [Act.put, List.setIfInBounds_toArray, List.set_cons_zero, List.set_cons_succ, List.getElem_toArray, List.getElem_cons_zero, List.getElem_cons_succ]))
    (refine wpAnyH_take (i := 15) (v := ?_) rfl (by kernel_rfl) (by kernel_rfl) (by kernel_rfl) (fun _ _ _ h => h) (Or.inl ⟨by rfl, ?_⟩) (by assumption) ?_; rotate_left; focus (intro w hSw; (try dsimp only at hSw); go_simp; first | done | with_reducible rfl); (try simp only [Act.put, List.setIfInBounds_toArray, List.set_cons_zero, List.set_cons_succ, List.getElem_toArray, List.getElem_cons_zero, List.getElem_cons_succ]))
    refine wpAnyH_done (by kernel_rfl) ?_ _
    clear hHeld
    go_wp2
    go_ret
    exact ⟨by rw [HF.out]; rfl, HB4.out⟩

end Go.Proofs.YtlljejmblmjjnaaGreatDoor

/- oldheap: Give. -/
namespace Go.Proofs.YtlljejmblmjjnaaGreatDoor
set_option linter.unusedVariables false
set_option linter.unusedSimpArgs false
open Go.RowKit Go.ChangeMaps

theorem closeO_upd (s : OP) (x y : PO) (hp : y.page = x.page) : closeO ⟨s.l, updO s.A y, s.R⟩ y = closeO s x := by
  unfold closeO
  show OP.mk _ (delO (updO s.A y) y.page) (delR s.R y.item) = _
  rw [delO_upd, hp]
  have : y.item = x.item := by unfold PO.item; rw [hp]
  rw [this]
theorem in_sealed {pages : Nat} {s : OP} (hI : OInv pages s) {x : PO} (hx : x ∈ s.A) : inB s.R x 3 = x.sealed := by
  have hc := (hI.each x hx).cls
  have := hI.place hx (m := 4 * x.cls + 3) (by omega)
  unfold inB
  cases hs : x.sealed with
  | true => exact decide_eq_true (this.2 (by rw [num_sealed hs]))
  | false =>
    refine decide_eq_false fun hh => ?_
    have e := this.1 hh
    have hl := of_le x.O
    rw [num_of hs] at e
    omega

set_option maxRecDepth 8000 in
set_option maxHeartbeats 4000000 in
theorem hgiveO_any {w : World} {H : OHL} {pages : Nat} {s : OP} (h : OHeapM w H pages s) (hI : OInv pages s) (at_ : Int) :
    Calls Tryz.prog 23 #[.pointer (some ⟨H.h, 0, none⟩), .int .i64 at_] w (OMPost w H pages s (giveO s at_).2 (.int .i64 (giveO s at_).1)) := by
  have HN := Lib.hid (onear_any h at_)
  have HH := Lib.hid h
  have HI := Lib.hid hI
  clear h hI
  go_enter Tryz.func23, Tryz.ntmps23
  go_wp2_with (fail)
  refine HN.out.mono ?_
  rintro e w1 ⟨o, rfl, hom, hox, hb⟩
  have HB1 := Lib.hid hb
  clear hb
  cases o with
  | none =>
    have HG : Hid (giveO s at_ = (12, s)) := by
      show _ = _
      unfold giveO
      rw [← hox]
      rfl
    clear hom hox
    rw [show ptrK none = .pointer none from rfl]
    go_wp2
    go_ret
    have := HH.out.stays HB1.out (v := .int .i64 12) (e := .returned (.int .i64 12)) rfl
    rw [HG.out]
    exact this
  | some y =>
    have hy := hom y rfl
    have hnear : nearO s.A at_ = some y.x := hox.symm
    clear hom hox
    rw [show ptrK (some y) = .pointer (some ⟨y.L.s, 0, none⟩) from rfl]
    have h1 := HH.out.below HB1.out
    have HGV := Lib.hid (ogive_any (h1.slab hy) at_)
    have H1 := Lib.hid h1
    have HY := Lib.hid hy
    have HNR := Lib.hid hnear
    clear hnear h1 hy
    go_wp2_with (fail)
    refine HGV.out.mono ?_
    intro e w2 hp
    cases hp with
    | none hs he hb2 =>
      subst he
      have HG : Hid (giveO s at_ = (12, s)) := by
        show _ = _
        unfold giveO
        rw [HNR.out]
        simp only [hs]
      have HB2 := Lib.hid (Below.via hb2 HB1.out.size HB1.out)
      clear hb2 hs
      go_wp2
      go_ret
      have := HH.out.stays HB2.out (v := .int .i64 12) (e := .returned (.int .i64 12)) rfl
      rw [HG.out]
      exact this
    | twice k hs hk he hb2 =>
      subst he
      have hk' : y.x.x.testBit k = false := hk
      have HG : Hid (giveO s at_ = (19, s)) := by
        show _ = _
        unfold giveO
        rw [HNR.out]
        simp only [hs, hk', if_true]
      have HB2 := Lib.hid (Below.via hb2 HB1.out.size HB1.out)
      clear hb2 hs hk hk'
      go_wp2
      go_ret
      have := HH.out.stays HB2.out (v := .int .i64 19) (e := .returned (.int .i64 19)) rfl
      rw [HG.out]
      exact this
    | yes k hs hk he ha ht =>
      subst he
      have hk' : ¬ y.x.x.testBit k = false := by rw [show y.x.x.testBit k = true from hk]; decide
      have HG0 : Hid (giveO s at_ = if ((y.x.clr k).empty && (y.x.sealed || decide (0 < (s.R (4 * y.x.cls + 2)).length))) = true then (0, closeO s y.x) else if y.x.sealed = true then (0, ⟨s.l, updO s.A (y.x.clr k), s.R⟩) else (0, ⟨s.l, updO s.A (y.x.clr k), settleR s.R (y.x.clr k)⟩)) := by
        show _ = _
        unfold giveO
        rw [HNR.out]
        simp only [hs, if_neg hk']
      obtain ⟨H2, hH2⟩ : ∃ H2 : OHL, H2 = { H with xs := updK (y.x.clr k) H.xs } := ⟨_, rfl⟩
      obtain ⟨y2, hy2e⟩ : ∃ y2 : OS, y2 = { y with x := y.x.clr k } := ⟨_, rfl⟩
      have h2 : OHeapM w2 H2 pages ⟨s.l, updO s.A (y.x.clr k), s.R⟩ := by
        rw [hH2]
        exact H1.out.slabTurn HY.out (x := y.x.clr k) rfl rfl rfl ((H1.out.ok HY.out).clr k) ht ha
      have hy2 : y2 ∈ H2.xs := by rw [hH2, hy2e]; exact List.mem_map.2 ⟨y, HY.out, if_pos rfl⟩
      have hh2 : H2.h = H.h := by rw [hH2]
      have hrg2 : H2.rg = H.rg := by rw [hH2]
      have hL2 : y2.L = y.L := by rw [hy2e]
      have hx2 : y2.x = y.x.clr k := by rw [hy2e]
      have hof : H.Of H2 w.heap.size := by rw [hH2]; exact OHeapM.slabOf _
      have hyF : H.F y.L.b := .inr (.inr (.inr (.inr (.inr (.inr ⟨y, List.mem_append_left _ HY.out, .inr (.inr rfl)⟩)))))
      have hT2 : Turned H.F w w2 := (Turned.of_below (F := H.F) HB1.out (Nat.le_refl _)).trans ht fun j hj _ => by rw [hj]; exact hyF
      have hq2 : H2.left = H.left ∧ H2.G = H.G ∧ H2.c = H.c := by rw [hH2]; exact ⟨rfl, rfl, rfl⟩
      have hyA := H1.out.mem' HY.out
      have hin : inB s.R y2.x 3 = y.x.sealed := by rw [hx2]; show inB s.R y.x 3 = y.x.sealed; exact in_sealed HI.out hyA
      have hcls := (H1.out.ok HY.out).cls
      have hIN := oin_any h2 hy2 3 (by decide)
      rw [hh2, hL2, show (⟨s.l, updO s.A (y.x.clr k), s.R⟩ : OP).R = s.R from rfl, hin] at hIN
      have HIN := Lib.hid hIN
      have HST : Hid (∀ W, Below w2.heap.size w2 W → Calls Tryz.prog 57 #[.pointer (some ⟨y.L.s, 0, none⟩)] W fun e w' => e = .returned (.int .i64 (stateO (y.x.clr k).O : Nat)) ∧ W = w') := fun W hW => by
        have := ostate_any ((h2.below hW).slab hy2)
        rw [hL2, hx2] at this
        exact this
      have HCL : Hid (∀ W, Below w2.heap.size w2 W → Calls Tryz.prog 13 #[.pointer (some ⟨y.L.s, 0, none⟩)] W fun e w' => e = .returned (.int .i64 y.x.cls) ∧ W = w') := fun W hW => by
        have := oclass_any ((h2.below hW).slab hy2)
        rw [hL2, hx2] at this
        exact this
      have HNB : Hid (∀ W, Calls Tryz.prog 46 #[.int .i64 y.x.cls, .int .i64 2] W fun e w' => e = .returned (.int .i64 ((4 * y.x.cls + 2 : Nat) : Int)) ∧ W = w') := fun W => onumber_any y.x.cls 2 (by omega) (by omega) W
      have HLN : Hid (∀ W, Below w2.heap.size w2 W → Calls Tryz.prog 58 #[.pointer (some ⟨H.rg, 0, none⟩), .int .i64 ((4 * y.x.cls + 2 : Nat) : Int)] W fun e w' => e = .returned (.int .i64 ((s.R (4 * y.x.cls + 2)).length : Nat)) ∧ W = w') := fun W hW => by
        have := rgLen ((h2.below hW).ring) (4 * y.x.cls + 2) (by omega)
        rw [hrg2] at this
        exact this
      have HSET : Hid (∀ W, Below w2.heap.size w2 W → Calls Tryz.prog 60 #[.pointer (some ⟨H.h, 0, none⟩), .pointer (some ⟨y.L.s, 0, none⟩)] W (RingPost W H2 pages ⟨s.l, updO s.A (y.x.clr k), s.R⟩ (settleR s.R (y.x.clr k)))) := fun W hW => by
        have := osettle_any (h2.below hW) hy2
        rw [hL2, hx2, hh2] at this
        exact this
      have HCLO : Hid (∀ W, Below w2.heap.size w2 W → Calls Tryz.prog 59 #[.pointer (some ⟨H.h, 0, none⟩), .pointer (some ⟨y.L.s, 0, none⟩)] W (OMPost W H2 pages ⟨s.l, updO s.A (y.x.clr k), s.R⟩ (closeO s y.x) (.tuple #[]))) := fun W hW => by
        have := oclose_any (h2.below hW) hy2
        rw [hL2, hx2, hh2, closeO_upd s y.x (y.x.clr k) rfl] at this
        exact this
      have HSTAY : Hid (giveO s at_ = (0, ⟨s.l, updO s.A (y.x.clr k), s.R⟩) → ∀ W, Below w2.heap.size w2 W → OMPost w H pages s (giveO s at_).2 (.int .i64 (giveO s at_).1) (.returned (.int .i64 0)) W) := fun hg W hW => by
        rw [hg]
        exact OMPost.trans (s1 := s) hq2.1 hq2.2.1 hq2.2.2 hof hT2 (h2.stays hW (v := .int .i64 0) rfl) rfl
      have HSETP : Hid (giveO s at_ = (0, ⟨s.l, updO s.A (y.x.clr k), settleR s.R (y.x.clr k)⟩) → ∀ W w3, Below w2.heap.size w2 W → RingPost W H2 pages ⟨s.l, updO s.A (y.x.clr k), s.R⟩ (settleR s.R (y.x.clr k)) (.returned (.tuple #[])) w3 → OMPost w H pages s (giveO s at_).2 (.int .i64 (giveO s at_).1) (.returned (.int .i64 0)) w3) := fun hg W w3 hW hp => by
        rw [hg]
        obtain ⟨-, h3, t3⟩ := hp
        exact OMPost.trans (s1 := s) hq2.1 hq2.2.1 hq2.2.2 hof (hT2.trans (Turned.of_below (F := H.F) hW (Nat.le_refl _)) (fun _ h _ => h)) (u := .int .i64 0) (e := .returned (.int .i64 0)) ⟨rfl, H2, rfl, rfl, rfl, h3, OHL.Of.refl _ _, t3.mono fun j hj _ => ringF.sub hj⟩ rfl
      have HCLOP : Hid (giveO s at_ = (0, closeO s y.x) → ∀ W w3, Below w2.heap.size w2 W → OMPost W H2 pages ⟨s.l, updO s.A (y.x.clr k), s.R⟩ (closeO s y.x) (.tuple #[]) (.returned (.tuple #[])) w3 → OMPost w H pages s (giveO s at_).2 (.int .i64 (giveO s at_).1) (.returned (.int .i64 0)) w3) := fun hg W w3 hW hp => by
        rw [hg]
        exact OMPost.trans hq2.1 hq2.2.1 hq2.2.2 hof (hT2.trans (Turned.of_below (F := H.F) hW (Nat.le_refl _)) (fun _ h _ => h)) hp rfl
      obtain ⟨-, -, c2⟩ := h2.hcells
      rw [hh2, hrg2] at c2
      have hem : (y.x.clr k).empty = decide (stateO (y.x.clr k).O = 0) := rfl
      rw [hem] at HG0
      clear h2 hy2 hh2 hrg2 hL2 hx2 hof hyF hT2 hq2 hyA hin hcls hIN hs hk hk' ha ht hem hH2 hy2e
      go_wp2_with (fail)
      refine HIN.out.mono ?_
      rintro e w3 ⟨rfl, hb3⟩
      have HB3 := Lib.hid hb3
      have d2 := cell_past hb3 (cell_lt c2) c2
      have HST : Hid (∀ W, Below w3.heap.size w3 W → Calls Tryz.prog 57 #[.pointer (some ⟨y.L.s, 0, none⟩)] W fun e w' => e = .returned (.int .i64 (stateO (y.x.clr k).O : Nat)) ∧ W = w') := fun W hW => HST.out W (Below.via hW hb3.size hb3)
      have HCL : Hid (∀ W, Below w3.heap.size w3 W → Calls Tryz.prog 13 #[.pointer (some ⟨y.L.s, 0, none⟩)] W fun e w' => e = .returned (.int .i64 y.x.cls) ∧ W = w') := fun W hW => HCL.out W (Below.via hW hb3.size hb3)
      have HLN : Hid (∀ W, Below w3.heap.size w3 W → Calls Tryz.prog 58 #[.pointer (some ⟨H.rg, 0, none⟩), .int .i64 ((4 * y.x.cls + 2 : Nat) : Int)] W fun e w' => e = .returned (.int .i64 ((s.R (4 * y.x.cls + 2)).length : Nat)) ∧ W = w') := fun W hW => HLN.out W (Below.via hW hb3.size hb3)
      have HSET : Hid (∀ W, Below w3.heap.size w3 W → Calls Tryz.prog 60 #[.pointer (some ⟨H.h, 0, none⟩), .pointer (some ⟨y.L.s, 0, none⟩)] W (RingPost W H2 pages ⟨s.l, updO s.A (y.x.clr k), s.R⟩ (settleR s.R (y.x.clr k)))) := fun W hW => HSET.out W (Below.via hW hb3.size hb3)
      have HCLO : Hid (∀ W, Below w3.heap.size w3 W → Calls Tryz.prog 59 #[.pointer (some ⟨H.h, 0, none⟩), .pointer (some ⟨y.L.s, 0, none⟩)] W (OMPost W H2 pages ⟨s.l, updO s.A (y.x.clr k), s.R⟩ (closeO s y.x) (.tuple #[]))) := fun W hW => HCLO.out W (Below.via hW hb3.size hb3)
      have HSTAY : Hid (giveO s at_ = (0, ⟨s.l, updO s.A (y.x.clr k), s.R⟩) → ∀ W, Below w3.heap.size w3 W → OMPost w H pages s (giveO s at_).2 (.int .i64 (giveO s at_).1) (.returned (.int .i64 0)) W) := fun hg W hW => HSTAY.out hg W (Below.via hW hb3.size hb3)
      have HSETP : Hid (giveO s at_ = (0, ⟨s.l, updO s.A (y.x.clr k), settleR s.R (y.x.clr k)⟩) → ∀ W w4, Below w3.heap.size w3 W → RingPost W H2 pages ⟨s.l, updO s.A (y.x.clr k), s.R⟩ (settleR s.R (y.x.clr k)) (.returned (.tuple #[])) w4 → OMPost w H pages s (giveO s at_).2 (.int .i64 (giveO s at_).1) (.returned (.int .i64 0)) w4) := fun hg W w4 hW hp => HSETP.out hg W w4 (Below.via hW hb3.size hb3) hp
      have HCLOP : Hid (giveO s at_ = (0, closeO s y.x) → ∀ W w4, Below w3.heap.size w3 W → OMPost W H2 pages ⟨s.l, updO s.A (y.x.clr k), s.R⟩ (closeO s y.x) (.tuple #[]) (.returned (.tuple #[])) w4 → OMPost w H pages s (giveO s at_).2 (.int .i64 (giveO s at_).1) (.returned (.int .i64 0)) w4) := fun hg W w4 hW hp => HCLOP.out hg W w4 (Below.via hW hb3.size hb3) hp
      clear hb3 c2
      generalize hst : stateO (y.x.clr k).O = st at *
      generalize (s.R (4 * y.x.cls + 2)).length = ln at *
      generalize ((4 * y.x.cls + 2 : Nat) : Int) = nb at *
      generalize (y.x.cls : Int) = cc at *
      clear hst
      by_cases hs0 : st = 0
      · subst hs0
        cases hsd : y.x.sealed with
        | true =>
          have HG : Hid (giveO s at_ = (0, closeO s y.x)) := by
            show _ = _
            rw [HG0.out, hsd]
            rfl
          rw [hsd] at HIN
          clear hsd
          go_upto_region 8 with (fail)
          (refine wp_region_quiet_ext (by kernel_rfl) (by kernel_rfl) ?_; (repeat (first | go_big_quiet_step (((first | (go_at_call 57; exact Calls.ext_same (HST.out _ (below_ext _ _))) | (go_at_call 13; exact Calls.ext_same (HCL.out _ (below_ext _ _))) | (go_at_call 46; exact Calls.ext_same (HNB.out _)) | (go_at_call 58; exact Calls.ext_same (HLN.out _ (below_ext _ _)))))) | quiet_step (((first | (go_at_call 57; exact Calls.ext_same (HST.out _ (below_ext _ _))) | (go_at_call 13; exact Calls.ext_same (HCL.out _ (below_ext _ _))) | (go_at_call 46; exact Calls.ext_same (HNB.out _)) | (go_at_call 58; exact Calls.ext_same (HLN.out _ (below_ext _ _)))))))); refine wpQuiet_nil ?_; intro w3 hw3; obtain hb3 := below_of_ext hw3; clear hw3; obtain ⟨hc3, hf3⟩ := bcell hb3; have hz3 := hb3.size; (try simp at hz3))
          have HB5 := Lib.hid hb3
          clear hc3 hf3 hb3
          go_wp2_with (fail)
          refine (HCLO.out _ HB5.out).mono ?_
          rintro e w6 hp
          obtain ⟨rfl, hp2⟩ := hp
          have HF := Lib.hid (HCLOP.out HG.out _ _ HB5.out ⟨rfl, hp2⟩)
          clear hp2
          go_wp2
          go_ret
          exact HF.out
        | false =>
          by_cases hl0 : ln = 0
          · subst hl0
            have HG : Hid (giveO s at_ = (0, ⟨s.l, updO s.A (y.x.clr k), settleR s.R (y.x.clr k)⟩)) := by
              show _ = _
              rw [HG0.out, hsd]
              rfl
            clear hsd
            go_upto_region 8 with (fail)
            (refine wp_region_quiet_ext (by kernel_rfl) (by kernel_rfl) ?_; (repeat (first | go_big_quiet_step (((first | (go_at_call 57; exact Calls.ext_same (HST.out _ (below_ext _ _))) | (go_at_call 13; exact Calls.ext_same (HCL.out _ (below_ext _ _))) | (go_at_call 46; exact Calls.ext_same (HNB.out _)) | (go_at_call 58; exact Calls.ext_same (HLN.out _ (below_ext _ _)))))) | quiet_step (((first | (go_at_call 57; exact Calls.ext_same (HST.out _ (below_ext _ _))) | (go_at_call 13; exact Calls.ext_same (HCL.out _ (below_ext _ _))) | (go_at_call 46; exact Calls.ext_same (HNB.out _)) | (go_at_call 58; exact Calls.ext_same (HLN.out _ (below_ext _ _)))))))); refine wpQuiet_nil ?_; intro w3 hw3; obtain hb3 := below_of_ext hw3; clear hw3; obtain ⟨hc3, hf3⟩ := bcell hb3; have hz3 := hb3.size; (try simp at hz3))
            have HB5 := Lib.hid hb3
            clear hc3 hf3 hb3
            go_wp2_with (fail)
            refine (HSET.out _ HB5.out).mono ?_
            rintro e w6 hp
            obtain ⟨rfl, hp2⟩ := hp
            have HF := Lib.hid (HSETP.out HG.out _ _ HB5.out ⟨rfl, hp2⟩)
            clear hp2
            go_wp2
            go_ret
            exact HF.out
          · have hl1 : (0 : Int) < (ln : Int) := by omega
            have HG : Hid (giveO s at_ = (0, closeO s y.x)) := by
              show _ = _
              rw [HG0.out, hsd, decide_eq_true (show 0 < ln by omega)]
              rfl
            clear hsd hl0
            go_upto_region 8 with (fail)
            (refine wp_region_quiet_ext (by kernel_rfl) (by kernel_rfl) ?_; (repeat (first | go_big_quiet_step (((first | (go_at_call 57; exact Calls.ext_same (HST.out _ (below_ext _ _))) | (go_at_call 13; exact Calls.ext_same (HCL.out _ (below_ext _ _))) | (go_at_call 46; exact Calls.ext_same (HNB.out _)) | (go_at_call 58; exact Calls.ext_same (HLN.out _ (below_ext _ _)))))) | quiet_step (((first | (go_at_call 57; exact Calls.ext_same (HST.out _ (below_ext _ _))) | (go_at_call 13; exact Calls.ext_same (HCL.out _ (below_ext _ _))) | (go_at_call 46; exact Calls.ext_same (HNB.out _)) | (go_at_call 58; exact Calls.ext_same (HLN.out _ (below_ext _ _)))))))); refine wpQuiet_nil ?_; intro w3 hw3; obtain hb3 := below_of_ext hw3; clear hw3; obtain ⟨hc3, hf3⟩ := bcell hb3; have hz3 := hb3.size; (try simp at hz3))
            have HB5 := Lib.hid hb3
            clear hc3 hf3 hb3
            go_wp2_with (fail)
            refine (HCLO.out _ HB5.out).mono ?_
            rintro e w6 hp
            obtain ⟨rfl, hp2⟩ := hp
            have HF := Lib.hid (HCLOP.out HG.out _ _ HB5.out ⟨rfl, hp2⟩)
            clear hp2
            go_wp2
            go_ret
            exact HF.out
      · have hs1 : ¬ (st : Int) = 0 := by omega
        have hs2 : ((st : Int) == 0) = false := beq_eq_false_iff_ne.2 hs1
        cases hsd : y.x.sealed with
        | true =>
          have HG : Hid (giveO s at_ = (0, ⟨s.l, updO s.A (y.x.clr k), s.R⟩)) := by
            show _ = _
            rw [HG0.out, hsd, decide_eq_false hs0]
            rfl
          clear hsd hs0
          go_upto_region 8 with (fail)
          (refine wp_region_quiet_ext (by kernel_rfl) (by kernel_rfl) ?_; (repeat (first | go_big_quiet_step (((first | (go_at_call 57; exact Calls.ext_same (HST.out _ (below_ext _ _))) | (go_at_call 13; exact Calls.ext_same (HCL.out _ (below_ext _ _))) | (go_at_call 46; exact Calls.ext_same (HNB.out _)) | (go_at_call 58; exact Calls.ext_same (HLN.out _ (below_ext _ _)))))) | quiet_step (((first | (go_at_call 57; exact Calls.ext_same (HST.out _ (below_ext _ _))) | (go_at_call 13; exact Calls.ext_same (HCL.out _ (below_ext _ _))) | (go_at_call 46; exact Calls.ext_same (HNB.out _)) | (go_at_call 58; exact Calls.ext_same (HLN.out _ (below_ext _ _)))))))); refine wpQuiet_nil ?_; intro w3 hw3; obtain hb3 := below_of_ext hw3; clear hw3; obtain ⟨hc3, hf3⟩ := bcell hb3; have hz3 := hb3.size; (try simp at hz3))
          have HB5 := Lib.hid hb3
          clear hc3 hf3 hb3
          go_wp2
          go_ret
          exact HSTAY.out HG.out _ HB5.out
        | false =>
          have HG : Hid (giveO s at_ = (0, ⟨s.l, updO s.A (y.x.clr k), settleR s.R (y.x.clr k)⟩)) := by
            show _ = _
            rw [HG0.out, hsd, decide_eq_false hs0]
            rfl
          clear hsd hs0
          go_upto_region 8 with (fail)
          (refine wp_region_quiet_ext (by kernel_rfl) (by kernel_rfl) ?_; (repeat (first | go_big_quiet_step (((first | (go_at_call 57; exact Calls.ext_same (HST.out _ (below_ext _ _))) | (go_at_call 13; exact Calls.ext_same (HCL.out _ (below_ext _ _))) | (go_at_call 46; exact Calls.ext_same (HNB.out _)) | (go_at_call 58; exact Calls.ext_same (HLN.out _ (below_ext _ _)))))) | quiet_step (((first | (go_at_call 57; exact Calls.ext_same (HST.out _ (below_ext _ _))) | (go_at_call 13; exact Calls.ext_same (HCL.out _ (below_ext _ _))) | (go_at_call 46; exact Calls.ext_same (HNB.out _)) | (go_at_call 58; exact Calls.ext_same (HLN.out _ (below_ext _ _)))))))); refine wpQuiet_nil ?_; intro w3 hw3; obtain hb3 := below_of_ext hw3; clear hw3; obtain ⟨hc3, hf3⟩ := bcell hb3; have hz3 := hb3.size; (try simp at hz3))
          have HB5 := Lib.hid hb3
          clear hc3 hf3 hb3
          go_wp2_with (fail)
          refine (HSET.out _ HB5.out).mono ?_
          rintro e w6 hp
          obtain ⟨rfl, hp2⟩ := hp
          have HF := Lib.hid (HSETP.out HG.out _ _ HB5.out ⟨rfl, hp2⟩)
          clear hp2
          go_wp2
          go_ret
          exact HF.out

end Go.Proofs.YtlljejmblmjjnaaGreatDoor

/- oldheap: Mark of a slab's span; Seal, Unseal. -/
namespace Go.Proofs.YtlljejmblmjjnaaGreatDoor
set_option linter.unusedVariables false
set_option linter.unusedSimpArgs false
open Go.RowKit Go.ChangeMaps

/-- A slab's span is marked. -/
theorem omark_any {w : World} {H : OHL} {pages : Nat} {s : OP} (h : OHeapM w H pages s) {y : OS} (hy : y ∈ H.xs) (sd : Bool) :
    Calls Tryz.prog 63 #[.pointer (some ⟨H.gr, 0, none⟩), .int .i64 y.x.page, .int .i64 0, .int .i64 y.x.cls, .int .i64 (sealK sd : Nat)] w fun e w' => e = .returned (.int .i64 0) ∧
      ∃ H' : OHL, H'.left = H.left ∧ H'.G = H.G ∧ H'.c = H.c ∧ OHeapM w' H' pages ⟨s.l, updO s.A { y.x with sealed := sd }, s.R⟩ ∧ H.Of H' w.heap.size ∧ Turned H.F w w' := by
  have hyM : y.x ∈ s.A ++ H.left.map (·.x) := List.mem_append_left _ (h.mem' hy)
  have htk := h.base.tk y.x hyM
  have hk := idxR_ofO h.base.tile htk
  obtain ⟨st, hst⟩ := h.ent.ent y.x hyM y.x.page (Nat.le_refl _) (by omega)
  have hb4 : 4 ≤ H.b := by
    have h1 := h.cnt
    have h2 := List.length_pos_of_mem (h.mem' hy)
    omega
  have hcl := (h.ok hy).cls
  refine (gMark_yes H.gr H.cl pages H.b 0 H.c (idxR y.x.page s.l) st 0 y.x.cls (sealK sd) H.p s.l H.E ⟨y.x.page, 4, true⟩ _ w h.ground hk rfl hst (by show 0 < 2; decide) hb4 (by decide) (by omega) (by cases sd <;> decide)).mono ?_
  rintro e w' ⟨rfl, p', hg, hpf, ht⟩
  obtain ⟨H', q1, q2, q3, q4, q5⟩ := h.markTurn hy sd (nextSt H.p.stamp) ht hg hpf
  exact ⟨rfl, H', q1, q2, q3, q4, q5, ht.mono fun k hk _ => .inr (.inr (.inr (.inr (.inr (.inl hk)))))⟩

set_option maxRecDepth 8000 in
set_option maxHeartbeats 4000000 in
theorem hsealO_any {w : World} {H : OHL} {pages : Nat} {s : OP} (h : OHeapM w H pages s) (hI : OInv pages s) (p : Int) :
    Calls Tryz.prog 25 #[.pointer (some ⟨H.h, 0, none⟩), .int .i64 p] w (OMPost w H pages s (sealO s p).2 (.int .i64 (sealO s p).1)) := by
  obtain ⟨c0, c1, -⟩ := h.hcells
  have hlk := run_lookup_old h.map p
  have hgt := h.find_get p
  have hmm : ∀ y, (H.xs.find? fun x => (x.x.page : Int) == p) = some y → y ∈ H.xs ∧ (y.x.page : Int) = p := fun y hy => ⟨List.mem_of_find?_eq_some hy, by have := List.find?_some hy; simpa using this⟩
  have HH := Lib.hid h
  have HI := Lib.hid hI
  clear h hI
  cases ho : H.xs.find? fun x => (x.x.page : Int) == p with
  | none =>
    rw [ho] at hlk hgt
    have HS : Hid (sealO s p = (16, s)) := by
      show _ = _
      unfold sealO
      rw [← hgt]
      rfl
    rw [show ptrK none = .pointer none from rfl] at hlk
    clear hgt hmm ho c0
    go_enter Tryz.func25, Tryz.ntmps25
    go_wp2
    go_ret
    have := HH.out.stays (Below.refl _ w) (v := .int .i64 16) (e := .returned (.int .i64 16)) rfl
    rw [HS.out]
    exact this
  | some y =>
    rw [ho] at hlk hgt
    obtain ⟨hy, hyp⟩ := hmm y ho
    have hgo : getO s.A p = some y.x := hgt.symm
    have hyA := HH.out.mem' hy
    have HS : Hid (sealO s p = if y.x.sealed = true then (20, s) else if y.x.empty = true then (0, closeO s y.x) else (0, ⟨s.l, updO s.A { y.x with sealed := true }, frontR s.R y.x.item (4 * y.x.cls + 3)⟩)) := by
      show _ = _
      unfold sealO
      rw [hgo]
    rw [show ptrK (some y) = .pointer (some ⟨y.L.s, 0, none⟩) from rfl] at hlk
    have hIN := oin_any HH.out hy 3 (by decide)
    rw [in_sealed HI.out hyA] at hIN
    have HIN := Lib.hid hIN
    have HST : Hid (∀ W, Below w.heap.size w W → Calls Tryz.prog 57 #[.pointer (some ⟨y.L.s, 0, none⟩)] W fun e w' => e = .returned (.int .i64 (stateO y.x.O : Nat)) ∧ W = w') := fun W hW => ostate_any ((HH.out.below hW).slab hy)
    have HCL : Hid (∀ W, OSlabAt W y.L y.x.O → Calls Tryz.prog 13 #[.pointer (some ⟨y.L.s, 0, none⟩)] W fun e w' => e = .returned (.int .i64 y.x.cls) ∧ W = w') := fun W hW => oclass_any hW
    have HCLO : Hid (∀ W, Below w.heap.size w W → Calls Tryz.prog 59 #[.pointer (some ⟨H.h, 0, none⟩), .pointer (some ⟨y.L.s, 0, none⟩)] W (OMPost W H pages s (closeO s y.x) (.tuple #[]))) := fun W hW => oclose_any (HH.out.below hW) hy
    have HFR : Hid (∀ W, Below w.heap.size w W → Calls Tryz.prog 62 #[.pointer (some ⟨H.h, 0, none⟩), .pointer (some ⟨y.L.s, 0, none⟩), .int .i64 3] W (RingPost W H pages s (frontR s.R y.x.item (4 * y.x.cls + 3)))) := fun W hW => ofront_any (HH.out.below hW) hy 3 (by decide)
    have HMK : Hid (∀ W, OHeapM W H pages ⟨s.l, s.A, frontR s.R y.x.item (4 * y.x.cls + 3)⟩ → Calls Tryz.prog 63 #[.pointer (some ⟨H.gr, 0, none⟩), .int .i64 p, .int .i64 0, .int .i64 y.x.cls, .int .i64 1] W fun e w' => e = .returned (.int .i64 0) ∧
        ∃ H' : OHL, H'.left = H.left ∧ H'.G = H.G ∧ H'.c = H.c ∧ OHeapM w' H' pages ⟨s.l, updO s.A { y.x with sealed := true }, frontR s.R y.x.item (4 * y.x.cls + 3)⟩ ∧ H.Of H' W.heap.size ∧ Turned H.F W w') := fun W hW => by
      rw [← hyp]
      exact omark_any hW hy true
    have HY := Lib.hid hy
    have hem : y.x.empty = decide (stateO y.x.O = 0) := rfl
    rw [hem] at HS
    clear hgt hmm ho hgo hyA hIN hyp hy hem
    generalize hst : stateO y.x.O = st at *
    clear hst
    cases hsd : y.x.sealed with
    | true =>
      rw [hsd, if_pos rfl] at HS
      rw [hsd] at HIN
      clear hsd c0
      go_enter Tryz.func25, Tryz.ntmps25
      go_wp2_with (fail)
      refine HIN.out.mono ?_
      rintro e w1 ⟨rfl, hb⟩
      have HB := Lib.hid hb
      clear hb
      go_wp2
      go_ret
      have := HH.out.stays HB.out (v := .int .i64 20) (e := .returned (.int .i64 20)) rfl
      rw [HS.out]
      exact this
    | false =>
      rw [hsd, if_neg (by simp)] at HS
      rw [hsd] at HIN
      by_cases h0 : st = 0
      · subst h0
        rw [if_pos (by decide)] at HS
        clear hsd c0
        go_enter Tryz.func25, Tryz.ntmps25
        go_wp2_with (fail)
        refine HIN.out.mono ?_
        rintro e w1 ⟨rfl, hb⟩
        have HB := Lib.hid hb
        clear hb
        go_wp2_with (fail)
        refine (HST.out _ HB.out).mono ?_
        rintro e w2 ⟨rfl, rfl⟩
        go_wp2_with (fail)
        refine (HCLO.out _ HB.out).mono ?_
        rintro e w2 ⟨rfl, hp2⟩
        have HF : Hid (OMPost w H pages s (closeO s y.x) (.int .i64 0) (.returned (.int .i64 0)) w2) := OMPost.trans (s1 := s) (v := .int .i64 0) (e := .returned (.int .i64 0)) rfl rfl rfl (OHL.Of.refl _ _) (Turned.of_below HB.out (Nat.le_refl _)) (u := .tuple #[]) (e' := .returned (.tuple #[])) ⟨rfl, hp2⟩ rfl
        clear hp2
        go_wp2
        go_ret
        have := HF.out
        rw [HS.out]
        exact this
      · have h1 : ¬ (st : Int) = 0 := by omega
        have h2 : ((st : Int) == 0) = false := beq_eq_false_iff_ne.2 h1
        rw [decide_eq_false h0, if_neg (by simp)] at HS
        clear hsd h0
        go_enter Tryz.func25, Tryz.ntmps25
        go_wp2_with (fail)
        refine HIN.out.mono ?_
        rintro e w1 ⟨rfl, hb⟩
        have HB := Lib.hid hb
        clear hb
        go_wp2_with (fail)
        refine (HST.out _ HB.out).mono ?_
        rintro e w2 ⟨rfl, rfl⟩
        go_wp2_with (fail)
        refine (HFR.out _ HB.out).mono ?_
        rintro e w2 ⟨rfl, h3, t3⟩
        have d0 := h3.hcells.1
        have H3 := Lib.hid h3
        have HT3 : Hid (Turned H.F w w2) := (Turned.of_below (F := H.F) HB.out (Nat.le_refl _)).trans (t3.mono (G := H.F) fun j hj _ => ringF.sub hj) (fun _ h _ => h)
        clear h3 t3 c0
        go_upto_region 10 with (fail)
        (refine wp_region_quiet_tail_ext 7 (by kernel_rfl) (by kernel_rfl) ?_; simp only [List.take_succ_cons, List.take_zero, List.drop_succ_cons, List.drop_zero])
        ((repeat (first | go_big_quiet_step (((go_at_call 13; exact Calls.ext_same (HCL.out _ ((H3.out.below (below_ext _ _)).slab HY.out))))) | quiet_step (((go_at_call 13; exact Calls.ext_same (HCL.out _ ((H3.out.below (below_ext _ _)).slab HY.out))))))); refine wpQuiet_nil ?_; intro w3 hw3; obtain hb3 := below_of_ext hw3; clear hw3; have hz3 := hb3.size; (try simp at hz3))
        have HB4 := Lib.hid hb3
        clear hb3
        go_wp2_with (fail)
        refine (HMK.out _ (H3.out.below HB4.out)).mono ?_
        rintro e w5 ⟨rfl, H', q1, q2, q3, q4, q5, t5⟩
        have HF : Hid (OMPost w H pages s ⟨s.l, updO s.A { y.x with sealed := true }, frontR s.R y.x.item (4 * y.x.cls + 3)⟩ (.int .i64 0) (.returned (.int .i64 0)) w5) :=
          OMPost.trans (s1 := s) rfl rfl rfl (OHL.Of.refl _ _) (HT3.out.trans (Turned.of_below (F := H.F) HB4.out (Nat.le_refl _)) (fun _ h _ => h)) (u := .int .i64 0) (e := .returned (.int .i64 0)) ⟨rfl, H', q1, q2, q3, q4, q5, t5⟩ rfl
        clear q1 q2 q3 q4 q5 t5
        go_wp2
        go_ret
        have := HF.out
        rw [HS.out]
        exact this

set_option maxRecDepth 8000 in
set_option maxHeartbeats 4000000 in
theorem hunsealO_any {w : World} {H : OHL} {pages : Nat} {s : OP} (h : OHeapM w H pages s) (hI : OInv pages s) (p : Int) :
    Calls Tryz.prog 27 #[.pointer (some ⟨H.h, 0, none⟩), .int .i64 p] w (OMPost w H pages s (unsealO s p).2 (.int .i64 (unsealO s p).1)) := by
  obtain ⟨c0, c1, -⟩ := h.hcells
  have hlk := run_lookup_old h.map p
  have hgt := h.find_get p
  have hmm : ∀ y, (H.xs.find? fun x => (x.x.page : Int) == p) = some y → y ∈ H.xs ∧ (y.x.page : Int) = p := fun y hy => ⟨List.mem_of_find?_eq_some hy, by have := List.find?_some hy; simpa using this⟩
  have HH := Lib.hid h
  have HI := Lib.hid hI
  clear h hI
  cases ho : H.xs.find? fun x => (x.x.page : Int) == p with
  | none =>
    rw [ho] at hlk hgt
    have HS : Hid (unsealO s p = (16, s)) := by
      show _ = _
      unfold unsealO
      rw [← hgt]
      rfl
    rw [show ptrK none = .pointer none from rfl] at hlk
    clear hgt hmm ho c0
    go_enter Tryz.func27, Tryz.ntmps27
    go_wp2
    go_ret
    have := HH.out.stays (Below.refl _ w) (v := .int .i64 16) (e := .returned (.int .i64 16)) rfl
    rw [HS.out]
    exact this
  | some y =>
    rw [ho] at hlk hgt
    obtain ⟨hy, hyp⟩ := hmm y ho
    have hgo : getO s.A p = some y.x := hgt.symm
    have hyA := HH.out.mem' hy
    have hol := of_le y.x.O
    have HS : Hid (unsealO s p = if y.x.sealed = true then (0, ⟨s.l, updO s.A { y.x with sealed := false }, frontR s.R y.x.item (4 * y.x.cls + ofO y.x.O)⟩) else (20, s)) := by
      show _ = _
      unfold unsealO
      rw [hgo]
    rw [show ptrK (some y) = .pointer (some ⟨y.L.s, 0, none⟩) from rfl] at hlk
    have hIN := oin_any HH.out hy 3 (by decide)
    rw [in_sealed HI.out hyA] at hIN
    have HIN := Lib.hid hIN
    have HOF : Hid (∀ W, Below w.heap.size w W → Calls Tryz.prog 64 #[.pointer (some ⟨y.L.s, 0, none⟩)] W fun e w' => e = .returned (.int .i64 (ofO y.x.O : Nat)) ∧ W = w') := fun W hW => oof_any ((HH.out.below hW).slab hy)
    have HCL : Hid (∀ W, OSlabAt W y.L y.x.O → Calls Tryz.prog 13 #[.pointer (some ⟨y.L.s, 0, none⟩)] W fun e w' => e = .returned (.int .i64 y.x.cls) ∧ W = w') := fun W hW => oclass_any hW
    have HFR : Hid (∀ W, Below w.heap.size w W → Calls Tryz.prog 62 #[.pointer (some ⟨H.h, 0, none⟩), .pointer (some ⟨y.L.s, 0, none⟩), .int .i64 (ofO y.x.O : Nat)] W (RingPost W H pages s (frontR s.R y.x.item (4 * y.x.cls + ofO y.x.O)))) := fun W hW => ofront_any (HH.out.below hW) hy (ofO y.x.O) (by omega)
    have HMK : Hid (∀ W, OHeapM W H pages ⟨s.l, s.A, frontR s.R y.x.item (4 * y.x.cls + ofO y.x.O)⟩ → Calls Tryz.prog 63 #[.pointer (some ⟨H.gr, 0, none⟩), .int .i64 p, .int .i64 0, .int .i64 y.x.cls, .int .i64 0] W fun e w' => e = .returned (.int .i64 0) ∧
        ∃ H' : OHL, H'.left = H.left ∧ H'.G = H.G ∧ H'.c = H.c ∧ OHeapM w' H' pages ⟨s.l, updO s.A { y.x with sealed := false }, frontR s.R y.x.item (4 * y.x.cls + ofO y.x.O)⟩ ∧ H.Of H' W.heap.size ∧ Turned H.F W w') := fun W hW => by
      rw [← hyp]
      exact omark_any hW hy false
    have HY := Lib.hid hy
    clear hgt hmm ho hgo hyA hIN hyp hy hol
    cases hsd : y.x.sealed with
    | false =>
      rw [hsd, if_neg (by simp)] at HS
      rw [hsd] at HIN
      clear hsd c0
      go_enter Tryz.func27, Tryz.ntmps27
      go_wp2_with (fail)
      refine HIN.out.mono ?_
      rintro e w1 ⟨rfl, hb⟩
      have HB := Lib.hid hb
      clear hb
      go_wp2
      go_ret
      have := HH.out.stays HB.out (v := .int .i64 20) (e := .returned (.int .i64 20)) rfl
      rw [HS.out]
      exact this
    | true =>
      rw [hsd, if_pos rfl] at HS
      rw [hsd] at HIN
      generalize frontR s.R y.x.item (4 * y.x.cls + ofO y.x.O) = R' at *
      generalize ((ofO y.x.O : Nat) : Int) = o at *
      clear hsd
      go_enter Tryz.func27, Tryz.ntmps27
      go_wp2_with (fail)
      refine HIN.out.mono ?_
      rintro e w1 ⟨rfl, hb⟩
      have HB := Lib.hid hb
      clear hb
      go_wp2_with (fail)
      refine (HOF.out _ HB.out).mono ?_
      rintro e w2 ⟨rfl, rfl⟩
      go_wp2_with (fail)
      refine (HFR.out _ HB.out).mono ?_
      rintro e w2 ⟨rfl, h3, t3⟩
      have d0 := h3.hcells.1
      have H3 := Lib.hid h3
      have HT3 : Hid (Turned H.F w w2) := (Turned.of_below (F := H.F) HB.out (Nat.le_refl _)).trans (t3.mono (G := H.F) fun j hj _ => ringF.sub hj) (fun _ h _ => h)
      clear h3 t3 c0
      go_upto_region 7 with (fail)
      (refine wp_region_quiet_tail_ext 7 (by kernel_rfl) (by kernel_rfl) ?_; simp only [List.take_succ_cons, List.take_zero, List.drop_succ_cons, List.drop_zero])
      ((repeat (first | go_big_quiet_step (((go_at_call 13; exact Calls.ext_same (HCL.out _ ((H3.out.below (below_ext _ _)).slab HY.out))))) | quiet_step (((go_at_call 13; exact Calls.ext_same (HCL.out _ ((H3.out.below (below_ext _ _)).slab HY.out))))))); refine wpQuiet_nil ?_; intro w3 hw3; obtain hb3 := below_of_ext hw3; clear hw3; have hz3 := hb3.size; (try simp at hz3))
      have HB4 := Lib.hid hb3
      clear hb3
      go_wp2_with (fail)
      refine (HMK.out _ (H3.out.below HB4.out)).mono ?_
      rintro e w5 ⟨rfl, H', q1, q2, q3, q4, q5, t5⟩
      have HF : Hid (OMPost w H pages s ⟨s.l, updO s.A { y.x with sealed := false }, R'⟩ (.int .i64 0) (.returned (.int .i64 0)) w5) :=
        OMPost.trans (s1 := s) rfl rfl rfl (OHL.Of.refl _ _) (HT3.out.trans (Turned.of_below (F := H.F) HB4.out (Nat.le_refl _)) (fun _ h _ => h)) (u := .int .i64 0) (e := .returned (.int .i64 0)) ⟨rfl, H', q1, q2, q3, q4, q5, t5⟩ rfl
      clear q1 q2 q3 q4 q5 t5
      go_wp2
      go_ret
      have := HF.out
      rw [HS.out]
      exact this

end Go.Proofs.YtlljejmblmjjnaaGreatDoor

/- oldheap: Leave, Join, Ready, Slab. -/
namespace Go.Proofs.YtlljejmblmjjnaaGreatDoor
set_option linter.unusedVariables false
set_option linter.unusedSimpArgs false
open Go.RowKit Go.ChangeMaps

def LeavePostO (w : World) (H : OHL) (pages : Nat) (s : OP) (y : OS) (e : Ending) (w' : World) : Prop :=
  e = .returned (.tuple #[.pointer (some ⟨y.L.s, 0, none⟩), .int .i64 0]) ∧ OHeapM w' (dropH H y) pages (leaveO s y.x) ∧ H.Of (dropH H y) w.heap.size ∧ Turned H.F w w'
set_option maxRecDepth 8000 in
set_option maxHeartbeats 2000000 in
theorem hleaveO_yes {w : World} {H : OHL} {pages : Nat} {s : OP} (h : OHeapM w H pages s) {y : OS} (hy : y ∈ H.xs) :
    Calls Tryz.prog 31 #[.pointer (some ⟨H.h, 0, none⟩), .int .i64 y.x.page] w (LeavePostO w H pages s y) := by
  obtain ⟨-, c1, -⟩ := h.hcells
  have hlk := run_lookup_old h.map (y.x.page : Int)
  rw [h.lookup hy, show ptrK (some y) = .pointer (some ⟨y.L.s, 0, none⟩) from rfl] at hlk
  have HD := Lib.hid (odrop_any h hy)
  have HH := Lib.hid h
  clear h hy
  go_enter Tryz.func31, Tryz.ntmps31
  go_wp2_with (fail)
  refine HD.out.mono ?_
  rintro e w1 ⟨rfl, h1, o1, t1⟩
  have HF : Hid (LeavePostO w H pages s y (.returned (.tuple #[.pointer (some ⟨y.L.s, 0, none⟩), .int .i64 0])) w1) := ⟨rfl, h1, o1, t1.mono fun k hk _ => by
    rcases hk with rfl | hk
    · exact .inr (.inl rfl)
    · exact ringF.sub hk⟩
  clear h1 o1 t1
  go_wp2
  go_ret2
  exact HF.out
set_option maxRecDepth 8000 in
set_option maxHeartbeats 2000000 in
theorem hleaveO_no {w : World} {H : OHL} {pages : Nat} {s : OP} (h : OHeapM w H pages s) (p : Int) (hp : getO s.A p = none) :
    Calls Tryz.prog 31 #[.pointer (some ⟨H.h, 0, none⟩), .int .i64 p] w fun e w' => e = .returned (.tuple #[.pointer none, .int .i64 16]) ∧ w = w' := by
  obtain ⟨-, c1, -⟩ := h.hcells
  have hlk := run_lookup_old h.map p
  have hf : (H.xs.find? fun x => (x.x.page : Int) == p) = none := by
    have := h.find_get p
    rw [hp] at this
    cases hq : H.xs.find? fun x => (x.x.page : Int) == p with
    | none => rfl
    | some y => rw [hq] at this; cases this
  rw [hf, show ptrK none = .pointer none from rfl] at hlk
  clear h hp hf
  go_enter Tryz.func31, Tryz.ntmps31
  go_wp2
  go_ret2
  exact ⟨rfl, rfl⟩

set_option maxRecDepth 8000 in
set_option maxHeartbeats 4000000 in
theorem hjoinO_yes {w : World} {H : OHL} {pages : Nat} {s : OP} (h : OHeapM w H pages s) {y : OS} {L0 : List OS} (hL : H.left = L0 ++ [y]) :
    Calls Tryz.prog 32 #[.pointer (some ⟨H.h, 0, none⟩), .pointer (some ⟨y.L.s, 0, none⟩)] w fun e w' => e = .returned (.int .i64 0) ∧ ∃ H' : OHL, H'.left = L0 ∧ H'.G = H.G ∧ H'.c = H.c ∧ OHeapM w' H' pages (joinO s y.x) ∧ H.Of H' w.heap.size ∧ Turned H.F w w' := by
  obtain ⟨c0, c1, -⟩ := h.hcells
  have hylm : y ∈ H.left := by rw [hL]; exact List.mem_append_right _ (List.mem_singleton.2 rfl)
  have hyM : y.x ∈ s.A ++ H.left.map (·.x) := List.mem_append_right _ (List.mem_map.2 ⟨y, hylm, rfl⟩)
  have hysl := h.each y (List.mem_append_right _ hylm)
  have hok := h.base.each y.x hyM
  have hr := h.base.tk y.x hyM
  have hk := idxR_ofO h.base.tile hr
  have hm := h.ground.map.most
  have hft := hok.fits
  have hneA : ∀ z ∈ s.A, z.page ≠ y.x.page := fun z hz => h.base.sep z hz y.x (List.mem_map.2 ⟨y, hylm, rfl⟩)
  have HPG := Lib.hid (opage_any hysl)
  have hfind : H.xs.find? (fun z => (z.x.page : Int) == (y.x.page : Int)) = none := by
    rw [List.find?_eq_none]
    intro z hz e
    exact hneA z.x (h.mem' hz) (by simp at e; omega)
  have hlk := run_lookup_old h.map (y.x.page : Int)
  rw [hfind] at hlk
  have hlen : lenR pages s.l (y.x.page : Int) = 4 := by
    unfold lenR findR
    rw [if_pos (by omega), Int.toNat_natCast, hk]
    simp
  have HLEN := Lib.hid (gLen_any H.gr H.cl pages H.b 0 H.c H.p s.l H.E (y.x.page : Int) w h.ground)
  rw [hlen] at HLEN
  have HLEN : Hid (Calls Tryz.prog 28 #[.pointer (some ⟨H.gr, 0, none⟩), .int .i64 y.x.page] w fun e w' => e = .returned (.int .i64 4) ∧ Below w.heap.size w w') := HLEN
  have hneq : ∀ z ∈ H.xs, ¬ (z.x.page : Int) = (y.x.page : Int) := fun z hz e => hneA z.x (h.mem' hz) (by omega)
  have HUP : Hid (∀ W, Below w.heap.size w W → ∀ v, (Instr.mapUpdate 77 (.map (some H.mb)) (.int .i64 y.x.page) v).run Tryz.prog W = .ok () (setBlock W H.mb (.map ((H.xs.map oentry) ++ [MapEntry.mk (.int .i64 y.x.page) v H.clk]).toArray (H.clk + 1)))) := fun W hW v =>
    run_update_old (h.below hW).map (y.x.page : Int) hneq v
  have hol := of_le y.x.O
  have HH := Lib.hid h
  have HL := Lib.hid hL
  have HNE := Lib.hid hneA
  clear h hL hylm hyM hysl hok hr hk hm hft hneA hfind hlen hneq
  rw [show ptrK none = .pointer none from rfl] at hlk
  go_enter Tryz.func32, Tryz.ntmps32
  go_wp2_with (fail)
  refine HPG.out.mono ?_
  rintro e w1 ⟨rfl, rfl⟩
  go_wp2_with (fail)
  refine HLEN.out.mono ?_
  rintro e w2 ⟨rfl, hb2⟩
  have HB2 := Lib.hid hb2
  have d1 := cell_past hb2 (cell_lt c1) c1
  have hup := HUP.out w2 hb2
  clear hb2 hlk c0 c1
  go_upto_region 7 with (fail)
  obtain ⟨W4, hW4e⟩ : ∃ W4, W4 = setBlock w2 H.mb (.map ((H.xs.map oentry) ++ [MapEntry.mk (.int .i64 y.x.page) (.pointer (some ⟨y.L.s, 0, none⟩)) H.clk]).toArray (H.clk + 1)) := ⟨_, rfl⟩
  have h2 := HH.out.below HB2.out
  have tM : Turned (fun j => j = H.mb) w2 W4 := by rw [hW4e]; exact Turned.setBlock (F := fun j => j = H.mb) (Turned.refl _ _) (.inl rfl) _
  have hmap4 : W4.heap[H.mb]? = some (.map ((H.xs.map oentry) ++ [oentry { y with born := H.clk }]).toArray (H.clk + 1)) := by rw [hW4e]; exact heap_setBlock_eq (lt_of_block h2.map) _
  rw [← hW4e]
  obtain ⟨H1, q1, q2, q3, q4, h4, o4⟩ := h2.rejoin HL.out tM hmap4
  have hh1 : H1.h = H.h := o4.h
  have hgr1 : H1.gr = H.gr := o4.gr
  have hsw := HB2.out.size
  have HOT : Hid (H.Of H1 w.heap.size ∧ Turned H.F w W4) := ⟨⟨o4.h, o4.gr, o4.cl, o4.rg, o4.mb, fun k hk => (o4.foot k hk).imp id fun e => Nat.le_trans hsw e⟩,
    (Turned.of_below (F := H.F) HB2.out (Nat.le_refl _)).trans tM fun j hj _ => by rw [hj]; exact .inr (.inl rfl)⟩
  have HQ := Lib.hid (And.intro q1 (And.intro q2 q3))
  obtain ⟨y', hy'⟩ : ∃ y' : OS, y' = { y with born := H.clk } := ⟨_, rfl⟩
  rw [← hy'] at q4
  have hyL : y'.L = y.L := by rw [hy']
  have hyx : y'.x = y.x := by rw [hy']
  have HOF : Hid (Calls Tryz.prog 64 #[.pointer (some ⟨y.L.s, 0, none⟩)] W4 fun e w' => e = .returned (.int .i64 (ofO y.x.O : Nat)) ∧ W4 = w') := by
    have := oof_any (h4.slab q4)
    rw [hyL, hyx] at this
    exact this
  have HFR : Hid (Calls Tryz.prog 62 #[.pointer (some ⟨H.h, 0, none⟩), .pointer (some ⟨y.L.s, 0, none⟩), .int .i64 (ofO y.x.O : Nat)] W4 (RingPost W4 H1 pages ⟨s.l, insO y.x s.A, s.R⟩ (frontR s.R y.x.item (4 * y.x.cls + ofO y.x.O)))) := by
    have := ofront_any h4 q4 (ofO y.x.O) (by omega)
    rw [hyL, hyx, hh1] at this
    exact this
  have HY := Lib.hid q4
  have HYX := Lib.hid (And.intro hyL hyx)
  clear hW4e h2 tM hmap4 q1 q2 q3 q4 h4 o4 hup d1 hy' hyL hyx hol
  go_wp2_with (fail)
  refine HOF.out.mono ?_
  rintro e w5 ⟨rfl, rfl⟩
  go_wp2_with (fail)
  refine HFR.out.mono ?_
  rintro e w6 ⟨rfl, h6, t6⟩
  have d0 := h6.hcells.1
  rw [hh1, hgr1] at d0
  have HCL : Hid (∀ W, Below w6.heap.size w6 W → Calls Tryz.prog 13 #[.pointer (some ⟨y.L.s, 0, none⟩)] W fun e w' => e = .returned (.int .i64 y.x.cls) ∧ W = w') := fun W hW => by
    have := oclass_any ((h6.below hW).slab HY.out)
    rw [HYX.out.1, HYX.out.2] at this
    exact this
  have HMK : Hid (∀ W, Below w6.heap.size w6 W → Calls Tryz.prog 63 #[.pointer (some ⟨H.gr, 0, none⟩), .int .i64 y.x.page, .int .i64 0, .int .i64 y.x.cls, .int .i64 0] W fun e w' => e = .returned (.int .i64 0) ∧
      ∃ H' : OHL, H'.left = H1.left ∧ H'.G = H1.G ∧ H'.c = H1.c ∧ OHeapM w' H' pages ⟨s.l, updO (insO y.x s.A) { y.x with sealed := false }, frontR s.R y.x.item (4 * y.x.cls + ofO y.x.O)⟩ ∧ H1.Of H' W.heap.size ∧ Turned H1.F W w') := fun W hW => by
    have := omark_any (h6.below hW) HY.out false
    rw [HYX.out.2, hgr1] at this
    exact this
  have HT6 : Hid (Turned H.F w w6) := HOT.out.2.trans (t6.mono (G := H1.F) fun j hj _ => ringF.sub hj) fun k hk hlt => (HOT.out.1.foot k hk).elim id fun e => by omega
  have hs6 := HT6.out.size
  clear h6 t6
  go_upto_region 8 with (fail)
  (refine wp_region_quiet_tail_ext 7 (by kernel_rfl) (by kernel_rfl) ?_; simp only [List.take_succ_cons, List.take_zero, List.drop_succ_cons, List.drop_zero])
  ((repeat (first | go_big_quiet_step (((go_at_call 13; exact Calls.ext_same (HCL.out _ (below_ext _ _))))) | quiet_step (((go_at_call 13; exact Calls.ext_same (HCL.out _ (below_ext _ _))))))); refine wpQuiet_nil ?_; intro w3 hw3; obtain hb3 := below_of_ext hw3; clear hw3; have hz3 := hb3.size; (try simp at hz3))
  have HB7 := Lib.hid hb3
  clear hb3
  go_wp2_with (fail)
  refine (HMK.out _ HB7.out).mono ?_
  rintro e w8 ⟨rfl, H', q1, q2, q3, q4, q5, t8⟩
  have HF : Hid (∃ H' : OHL, H'.left = L0 ∧ H'.G = H.G ∧ H'.c = H.c ∧ OHeapM w8 H' pages (joinO s y.x) ∧ H.Of H' w.heap.size ∧ Turned H.F w w8) := by
    have e1 : updO (insO y.x s.A) { y.x with sealed := false } = insO { y.x with sealed := false } s.A := updO_ins (y := y.x) (z := { y.x with sealed := false }) rfl HNE.out
    rw [e1] at q4
    have hs7 := HB7.out.size
    refine ⟨H', q1.trans HQ.out.1, q2.trans HQ.out.2.1, q3.trans HQ.out.2.2, q4, HOT.out.1.trans q5 (by omega), ?_⟩
    exact (HT6.out.trans (Turned.of_below (F := H.F) HB7.out (Nat.le_refl _)) (fun _ h _ => h)).trans t8 fun k hk hlt => (HOT.out.1.foot k hk).elim id fun e => by omega
  clear q1 q2 q3 q4 q5 t8
  go_wp2
  go_ret
  exact ⟨rfl, HF.out⟩

set_option maxRecDepth 8000 in
set_option maxHeartbeats 1000000 in
theorem hreadyO_any {w : World} {H : OHL} {pages : Nat} {s : OP} (h : OHeapM w H pages s) (c : Nat) (hc : c < 16) :
    Calls Tryz.prog 33 #[.pointer (some ⟨H.h, 0, none⟩), .int .i64 c] w fun e w' => e = .returned (.bool (nextO s c).isSome) ∧ Below w.heap.size w w' := by
  have HR := oright_any (c : Int) w
  rw [show clsOkA (c : Int) = true from decide_eq_true ⟨by omega, by omega⟩] at HR
  have HR := Lib.hid HR
  have HNX : Hid (∀ W, Below w.heap.size w W → Calls Tryz.prog 66 #[.pointer (some ⟨H.h, 0, none⟩), .int .i64 c] W (OptPost W H (nextO s c))) := fun W hW => onext_any (h.below hW) c hc
  clear h
  generalize nextO s c = g at *
  go_enter Tryz.func33, Tryz.ntmps33
  go_wp2_with (fail)
  refine HR.out.mono ?_
  rintro e w1 ⟨rfl, hb1⟩
  have HB1 := Lib.hid hb1
  clear hb1
  go_wp2_with (fail)
  refine (HNX.out _ HB1.out).mono ?_
  rintro e w2 ⟨o, rfl, -, hox, hb2⟩
  have HB2 := Lib.hid (Below.via hb2 HB1.out.size HB1.out)
  clear hb2
  cases o with
  | none =>
    obtain rfl : g = none := hox.symm
    rw [show ptrK none = .pointer none from rfl]
    go_wp2
    go_ret
    exact ⟨rfl, HB2.out⟩
  | some y =>
    obtain rfl : g = some y.x := hox.symm
    rw [show ptrK (some y) = .pointer (some ⟨y.L.s, 0, none⟩) from rfl]
    go_wp2
    go_ret
    exact ⟨rfl, HB2.out⟩

/-- Slab: a clone of a slab of the heap, or none. -/
def SlabPostO (w : World) (s : OP) (p : Int) (e : Ending) (w' : World) : Prop :=
  (getO s.A p = none ∧ e = .returned (.pointer none) ∧ Below w.heap.size w w') ∨ ∃ (x : PO) (L : OL), getO s.A p = some x ∧ e = .returned (.pointer (some ⟨L.s, 0, none⟩)) ∧ w.heap.size ≤ L.s ∧ w.heap.size ≤ L.r ∧ w.heap.size ≤ L.b ∧ OSlabAt w' L x.O ∧ Below w.heap.size w w'
set_option maxRecDepth 8000 in
set_option maxHeartbeats 1000000 in
theorem hslabO_any {w : World} {H : OHL} {pages : Nat} {s : OP} (h : OHeapM w H pages s) (p : Int) :
    Calls Tryz.prog 12 #[.pointer (some ⟨H.h, 0, none⟩), .int .i64 p] w (SlabPostO w s p) := by
  obtain ⟨-, c1, -⟩ := h.hcells
  have hlk := run_lookup_old h.map p
  have hgt := h.find_get p
  have hmm : ∀ y, (H.xs.find? fun x => (x.x.page : Int) == p) = some y → y ∈ H.xs := fun y hy => List.mem_of_find?_eq_some hy
  cases ho : H.xs.find? fun x => (x.x.page : Int) == p with
  | none =>
    rw [ho] at hlk hgt
    rw [show ptrK none = .pointer none from rfl] at hlk
    have HG : Hid (getO s.A p = none) := hgt.symm
    clear hgt hmm ho h
    go_enter Tryz.func12, Tryz.ntmps12
    go_wp2
    go_ret
    exact .inl ⟨HG.out, rfl, Below.refl _ _⟩
  | some y =>
    rw [ho] at hlk hgt
    have HG : Hid (getO s.A p = some y.x) := hgt.symm
    rw [show ptrK (some y) = .pointer (some ⟨y.L.s, 0, none⟩) from rfl] at hlk
    have HC := Lib.hid (oclone_any (h.slab (hmm y ho)))
    clear hgt hmm ho h
    go_enter Tryz.func12, Tryz.ntmps12
    go_wp2_with (fail)
    refine HC.out.mono ?_
    rintro e w1 ⟨L, rfl, l1, l2, l3, hs, hb⟩
    have HF : Hid (SlabPostO w s p (.returned (.pointer (some ⟨L.s, 0, none⟩))) w1) := .inr ⟨y.x, L, HG.out, rfl, l1, l2, l3, hs, hb⟩
    clear l1 l2 l3 hs hb
    go_wp2
    go_ret
    exact HF.out

end Go.Proofs.YtlljejmblmjjnaaGreatDoor
