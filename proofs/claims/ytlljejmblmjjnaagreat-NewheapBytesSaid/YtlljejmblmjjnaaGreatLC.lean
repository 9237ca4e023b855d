/- newheap: Find, Has, Ready, Check. -/
import Derived.Test.YtlljejmblmjjnaaGreatLB
import Derived.WalkKit
import Derived.WalkSpells
import Derived.WalkLawsBesides
import Derived.BigQuiet
import Derived.Lib.Hide
import Derived.OrdersHeld
import Derived.Laws.AppendOwn
import Derived.Deep.RegionHeld3
import Derived.Maps.AppendAt
namespace Go.Proofs.YtlljejmblmjjnaaGreat
set_option linter.unusedVariables false
set_option linter.unusedSimpArgs false
open Go.RowKit Go.ChangeMaps

def idxI (l : List Int) (k : Int) : Int := if l.findIdx (· == k) < l.length then (l.findIdx (· == k) : Int) else -1
theorem Ints.cells {w : World} {base : Nat} {v : Value} {l : List Int} (h : Ints w base v l) : ∃ p cap, v = .slice p l.length cap ∧ ∀ i, i < l.length → ∃ g, p = some ⟨g, 0, none⟩ ∧ w.cell? ⟨g, i, none⟩ = some (.int .i64 (l.getD i 0)) := by
  obtain ⟨p, cap, rfl, h⟩ := h
  refine ⟨p, cap, rfl, fun i hi => ?_⟩
  obtain ⟨g, rfl, -, hc⟩ := h (by intro e; rw [e] at hi; simp at hi)
  exact ⟨g, rfl, hc i hi⟩
set_option maxRecDepth 8000 in
set_option maxHeartbeats 1000000 in
theorem indexI_any (l : List Int) (k : Int) (base : Nat) (v : Value) (w : World) (h : Ints w base v l) (hmax : l.length ≤ 5000) :
    Calls Tryz.prog 71 #[v, .int .i64 k] w fun e w' => e = .returned (.int .i64 (idxI l k)) ∧ w = w' := by
  obtain ⟨p, cap, rfl, hc⟩ := h.cells
  have HC := Lib.hid hc
  clear hc h
  go_enter Tryz.func71, Tryz.ntmps71
  go_wp2
  go_loopw [8] (fun i wr => ∃ j : Nat, i = .int .i64 j ∧ j ≤ l.length ∧ j ≤ l.findIdx (· == k) ∧ w = wr) (fun i _ => l.length - numOf i)
  case atStart => exact ⟨0, rfl, Nat.zero_le _, Nat.zero_le _, rfl⟩
  case round =>
    obtain ⟨j, rfl, hj, hjz, rfl⟩ := hrel
    by_cases hlt : j < l.length
    · obtain ⟨g, rfl, x0⟩ := HC.out j hlt
      have hi1 : (0 : Int) ≤ (j : Int) ∧ (j : Int) < l.length := by omega
      have hkw : IntKind.i64.wrap ((j : Int) + 1) = (j : Int) + 1 := by rw [IntKind.wrap_i64]; omega
      have hget : l.getD j 0 = l[j] := by rw [List.getD_eq_getElem?_getD, List.getElem?_eq_getElem hlt]; rfl
      rw [hget] at x0
      cases hz : (l[j] == k) with
      | false =>
        have hne : j ≠ l.findIdx (· == k) := by
          intro e
          have := List.findIdx_getElem (p := (· == k)) (xs := l) (w := by omega)
          simp only [← e] at this
          rw [hz] at this
          cases this
        have hz2 : (k == l[j]) = false := by
          have : ¬ l[j] = k := by simpa using hz
          simpa using Ne.symm this
        clear hz hget
        generalize l[j] = q at *
        go_wp2
        go_roundw
        case rel => exact ⟨j + 1, by go_num, hlt, by omega, by trivial⟩
        case measure => simp [numOf]; omega
      | true =>
        have hle : l.findIdx (· == k) ≤ j := by
          apply Nat.le_of_not_lt
          intro hlt2
          have := List.not_of_lt_findIdx hlt2
          rw [hz] at this
          cases this
        have HKE : Hid (idxI l k = (j : Int)) := by
          have : l.findIdx (· == k) = j := by omega
          show _ = _
          unfold idxI
          rw [this, if_pos hlt]
        have hz2 : (k == l[j]) = true := by
          have : l[j] = k := by simpa using hz
          simp [this]
        clear hz hget
        generalize l[j] = q at *
        go_wp2
        go_ret
        exact ⟨by rw [HKE.out]; rfl, rfl⟩
    · have HKE : Hid (idxI l k = -1) := by
        show _ = _
        unfold idxI
        rw [if_neg (by omega)]
      go_wp2
      go_ret
      exact ⟨by rw [HKE.out]; rfl, rfl⟩
set_option maxRecDepth 8000 in
set_option maxHeartbeats 1000000 in
theorem contains_any (l : List Int) (k : Int) (base : Nat) (v : Value) (w : World) (h : Ints w base v l) (hmax : l.length ≤ 5000) :
    Calls Tryz.prog 35 #[v, .int .i64 k] w fun e w' => e = .returned (.bool (decide (k ∈ l))) ∧ w = w' := by
  have HI := Lib.hid (indexI_any l k base v w h hmax)
  have hb : decide (k ∈ l) = decide (0 ≤ idxI l k) := by
    unfold idxI
    by_cases hm : k ∈ l
    · have : l.findIdx (· == k) < l.length := List.findIdx_lt_length_of_exists ⟨k, hm, by simp⟩
      rw [if_pos this]
      simp [hm]
    · have : ¬ l.findIdx (· == k) < l.length := by
        intro hlt
        have := List.findIdx_getElem (p := (· == k)) (xs := l) (w := hlt)
        simp only [beq_iff_eq] at this
        exact hm (by rw [← this]; exact List.getElem_mem hlt)
      rw [if_neg this]
      simp [hm]
  have HB := Lib.hid hb
  clear hb h
  generalize idxI l k = n at *
  go_enter Tryz.func35, Tryz.ntmps35
  go_wp2_with (fail)
  refine HI.out.mono ?_
  rintro e w1 ⟨rfl, rfl⟩
  go_wp2
  go_ret
  exact ⟨ret_bool (by rw [HB.out]), rfl⟩

def findP (A : List PS) (at_ : Int) : Option (PS × Nat) := match nearP A at_ with | none => none | some x => (slotF x.S at_).map fun k => (x, k)
def findPV (o : Option (PS × Nat)) : Value := match o with | none => .tuple #[.agg #[.int .i64 0, .int .i64 0], .int .i64 12] | some q => .tuple #[.agg #[.int .i64 q.1.page, .int .i64 q.2], .int .i64 0]

set_option maxRecDepth 8000 in
set_option maxHeartbeats 2000000 in
theorem hfind_any {w : World} {H : HL} {pages : Nat} {s : HP} (h : HeapAt w H pages s) (at_ : Int) :
    Calls Tryz.prog 20 #[.pointer (some ⟨H.h, 0, none⟩), .int .i64 at_] w fun e w' => e = .returned (findPV (findP s.A at_)) ∧ Below w.heap.size w w' := by
  have HH := Lib.hid h
  have hAl : Below w.heap.size w (w.alloc (.cells #[.int .i64 0, .int .i64 0] 56)) := (Below.refl _ _).alloc (Nat.le_refl _) _
  have HN := Lib.hid (near_any (h.below hAl) at_)
  have HBA := Lib.hid hAl
  have HBLK0 : Hid ((w.alloc (.cells #[.int .i64 0, .int .i64 0] 56)).heap[w.heap.size]? = some (.cells #[.int .i64 0, .int .i64 0] 56 (0, 0))) := heap_alloc_new _ _
  have hsz0 : (w.alloc (.cells #[.int .i64 0, .int .i64 0] 56)).heap.size = w.heap.size + 1 := by simp
  clear h hAl
  go_enter Tryz.func20, Tryz.ntmps20
  go_wp2_with (fail)
  refine HN.out.mono ?_
  rintro e w1 ⟨o, rfl, hom, hox, hb⟩
  have hs1 := hb.size
  have HB1 : Hid (Below w.heap.size w w1) := Below.via hb (by omega) HBA.out
  have hblk1 := (hb.block _ (by omega)).trans HBLK0.out
  have g0 := cell_of_block hblk1 0
  have g1 := cell_of_block hblk1 1
  have f0 := frozen_of_block hblk1 0
  have f1 := frozen_of_block hblk1 1
  have HBLK1 := Lib.hid hblk1
  clear hb hblk1
  cases o with
  | none =>
    have HF : Hid (findPV (findP s.A at_) = .tuple #[.agg #[.int .i64 0, .int .i64 0], .int .i64 12]) := by
      show _ = _
      unfold findP
      rw [← hox]
      rfl
    clear hom hox
    rw [show ptrH none = .pointer none from rfl]
    go_wp2
    have hgf : ((w1.setCell ⟨w.heap.size, 0, none⟩ (.int .i64 0)).setCell ⟨w.heap.size, 1, none⟩ (.int .i64 0)).heap[w.heap.size]? = some (.cells #[.int .i64 0, .int .i64 0] 56 (0, 0)) := by
      rw [heap_setCell_eq (heap_setCell_eq HBLK1.out _) _]
      rfl
    have q0 := cell_of_block hgf 0
    have q1 := cell_of_block hgf 1
    refine bodyPost_ret (v := .tuple #[.agg #[.int .i64 0, .int .i64 0], .int .i64 12]) (by simp [results, Tryz.results20, go_sem, q0, q1]) rfl ⟨by rw [HF.out], ?_⟩
    exact (HB1.out.setCell (Nat.le_refl _) _).setCell (Nat.le_refl _) _
  | some y =>
    have hy := hom y rfl
    have hnear : nearP s.A at_ = some y.x := hox.symm
    have h1 := HH.out.below HB1.out
    obtain ⟨y0, -⟩ := (h1.each y hy).cells
    have hok := h1.inv.each y.x (h1.mem' hy)
    have hm := h1.ground.map.most
    have hft := hok.fits
    have hSL := slot_any y.sb H.cl y.x.S at_ w1 (h1.each y hy).slab hok.cls (by show 256 * y.x.page < 2 ^ 40; omega)
    have HPG : Hid (∀ W, Below w1.heap.size w1 W → Calls Tryz.prog 42 #[.pointer (some ⟨y.sb, 0, none⟩)] W fun e w' => e = .returned (.int .i64 y.x.page) ∧ W = w') := fun W hW =>
      page_any y.sb H.cl y.x W ((h1.each y hy).slab.below hW)
    rw [show ptrH (some y) = .pointer (some ⟨y.hb, 0, none⟩) from rfl]
    have hyl := cell_lt y0
    have hsl1 := lt_of_block HBLK1.out
    clear hom hox h1 hy hok hm hft
    cases hsl : slotF y.x.S at_ with
    | none =>
      rw [hsl] at hSL
      have HSL : Hid (Calls Tryz.prog 51 #[.pointer (some ⟨y.sb, 0, none⟩), .int .i64 at_] w1 fun e w' => e = .returned (.tuple #[.int .i64 (-1), .int .i64 12]) ∧ Below w1.heap.size w1 w') := hSL
      have HF : Hid (findPV (findP s.A at_) = .tuple #[.agg #[.int .i64 0, .int .i64 0], .int .i64 12]) := by
        show _ = _
        unfold findP
        rw [hnear]
        simp only [hsl]
        rfl
      clear hSL hsl hnear
      go_wp2_with (fail)
      refine HSL.out.mono ?_
      rintro e w2 ⟨rfl, hb2⟩
      have hblk2 := (hb2.block _ hsl1).trans HBLK1.out
      have HB2 := Lib.hid (Below.via hb2 HB1.out.size HB1.out)
      have g0' := cell_of_block hblk2 0
      have g1' := cell_of_block hblk2 1
      have f0' := frozen_of_block hblk2 0
      have f1' := frozen_of_block hblk2 1
      have HBLK2 := Lib.hid hblk2
      clear hb2 hblk2 g0 g1 f0 f1 y0
      go_wp2
      have hgf : ((w2.setCell ⟨w.heap.size, 0, none⟩ (.int .i64 0)).setCell ⟨w.heap.size, 1, none⟩ (.int .i64 0)).heap[w.heap.size]? = some (.cells #[.int .i64 0, .int .i64 0] 56 (0, 0)) := by
        rw [heap_setCell_eq (heap_setCell_eq HBLK2.out _) _]
        rfl
      have q0 := cell_of_block hgf 0
      have q1 := cell_of_block hgf 1
      refine bodyPost_ret (v := .tuple #[.agg #[.int .i64 0, .int .i64 0], .int .i64 12]) (by simp [results, Tryz.results20, go_sem, q0, q1]) rfl ⟨by rw [HF.out], ?_⟩
      exact (HB2.out.setCell (Nat.le_refl _) _).setCell (Nat.le_refl _) _
    | some k =>
      rw [hsl] at hSL
      have HSL : Hid (Calls Tryz.prog 51 #[.pointer (some ⟨y.sb, 0, none⟩), .int .i64 at_] w1 fun e w' => e = .returned (.tuple #[.int .i64 k, .int .i64 0]) ∧ Below w1.heap.size w1 w') := hSL
      have HF : Hid (findPV (findP s.A at_) = .tuple #[.agg #[.int .i64 y.x.page, .int .i64 k], .int .i64 0]) := by
        show _ = _
        unfold findP
        rw [hnear]
        simp only [hsl]
        rfl
      clear hSL hsl hnear
      go_wp2_with (fail)
      refine HSL.out.mono ?_
      rintro e w2 ⟨rfl, hb2⟩
      have hblk2 := (hb2.block _ hsl1).trans HBLK1.out
      have HB2 := Lib.hid (Below.via hb2 HB1.out.size HB1.out)
      have HPG2 := Lib.hid (HPG.out w2 hb2)
      have z0 := cell_past hb2 hyl y0
      have g0' := cell_of_block hblk2 0
      have g1' := cell_of_block hblk2 1
      have f0' := frozen_of_block hblk2 0
      have f1' := frozen_of_block hblk2 1
      have HBLK2 := Lib.hid hblk2
      clear hb2 hblk2 g0 g1 f0 f1 y0
      go_wp2_with (fail)
      refine HPG2.out.mono ?_
      rintro e w2' ⟨rfl, rfl⟩
      generalize y.x.page = pg at *
      go_wp2
      have hgf : ((w2.setCell ⟨w.heap.size, 0, none⟩ (.int .i64 pg)).setCell ⟨w.heap.size, 1, none⟩ (.int .i64 k)).heap[w.heap.size]? = some (.cells #[.int .i64 pg, .int .i64 k] 56 (0, 0)) := by
        rw [heap_setCell_eq (heap_setCell_eq HBLK2.out _) _]
        rfl
      have q0 := cell_of_block hgf 0
      have q1 := cell_of_block hgf 1
      refine bodyPost_ret (v := .tuple #[.agg #[.int .i64 pg, .int .i64 k], .int .i64 0]) (by simp [results, Tryz.results20, go_sem, q0, q1]) rfl ⟨by rw [HF.out], ?_⟩
      exact (HB2.out.setCell (Nat.le_refl _) _).setCell (Nat.le_refl _) _

end Go.Proofs.YtlljejmblmjjnaaGreat

/- newheap: Has, Ready, Check. -/
namespace Go.Proofs.YtlljejmblmjjnaaGreat
set_option linter.unusedVariables false
set_option linter.unusedSimpArgs false
open Go.RowKit Go.ChangeMaps

def hasP (A : List PS) (at_ : Int) : Bool := match findP A at_ with | none => false | some q => decide (q.2 ∉ q.1.L)
theorem findP_is {pages : Nat} {s : HP} (h : HInv pages s) {at_ : Int} {q : PS × Nat} (hf : findP s.A at_ = some q) : q.1 ∈ s.A ∧ q.2 < slB q.1.cls ∧ at_ = (q.1.addr q.2 : Nat) := by
  unfold findP at hf
  cases hn : nearP s.A at_ with
  | none => rw [hn] at hf; cases hf
  | some x =>
    rw [hn] at hf
    cases hs : slotF x.S at_ with
    | none => simp only [hs] at hf; cases hf
    | some k =>
      simp only [hs] at hf
      cases hf
      have hx := (nearP_mem hn).1
      obtain ⟨a1, a2⟩ := slotF_some (S := x.S) (h.each x hx).cls hs
      exact ⟨hx, a2, a1⟩
theorem findP_at {pages : Nat} {s : HP} (h : HInv pages s) {x : PS} (hx : x ∈ s.A) {k : Nat} (hk : k < slB x.cls) : findP s.A (x.addr k : Nat) = some (x, k) := by
  have hok := h.each x hx
  have a1 := hok.addr_in hk
  have a2 := szB_pos hok.cls
  unfold findP
  rw [h.near hx (at_ := (x.addr k : Nat)) (by omega) (by omega)]
  simp only [slotF_addr hok hk]
  rfl
theorem hasP_iff {pages : Nat} {s : HP} (h : HInv pages s) (at_ : Int) : hasP s.A at_ = true ↔ Tkn s.A at_ := by
  unfold hasP
  constructor
  · intro hh
    cases hf : findP s.A at_ with
    | none => rw [hf] at hh; cases hh
    | some q =>
      rw [hf] at hh
      obtain ⟨h1, h2, h3⟩ := findP_is h hf
      exact ⟨q.1, h1, q.2, h2, of_decide_eq_true hh, h3⟩
  · rintro ⟨x, hx, k, h1, h2, rfl⟩
    rw [findP_at h hx h1]
    exact decide_eq_true h2

set_option maxRecDepth 8000 in
set_option maxHeartbeats 2000000 in
theorem hhas_any {w : World} {H : HL} {pages : Nat} {s : HP} (h : HeapAt w H pages s) (at_ : Int) :
    Calls Tryz.prog 11 #[.pointer (some ⟨H.h, 0, none⟩), .int .i64 at_] w fun e w' => e = .returned (.bool (hasP s.A at_)) ∧ Below w.heap.size w w' := by
  have HN := Lib.hid (hfind_any h at_)
  have HH := Lib.hid h
  obtain ⟨-, c1⟩ := h.hcells
  have hinv := h.inv
  clear h
  go_enter Tryz.func11, Tryz.ntmps11
  go_wp2_with (fail)
  refine HN.out.mono ?_
  rintro e w1 ⟨rfl, hb⟩
  have HB1 := Lib.hid hb
  have hs1 := hb.size
  have d1 := cell_past hb (cell_lt c1) c1
  clear hb c1
  cases hf : findP s.A at_ with
  | none =>
    have HF : Hid (hasP s.A at_ = false) := by show _ = _; unfold hasP; rw [hf]
    rw [show findPV none = .tuple #[.agg #[.int .i64 0, .int .i64 0], .int .i64 12] from rfl]
    clear hf
    go_wp2
    go_ret
    exact ⟨by rw [HF.out]; rfl, HB1.out.alloc hs1 _⟩
  | some q =>
    obtain ⟨x, k⟩ := q
    obtain ⟨hx, hk, -⟩ := findP_is hinv hf
    obtain ⟨y, hy, rfl⟩ := HH.out.mem hx
    have HF : Hid (hasP s.A at_ = decide (((k : Nat) : Int) ∈ intsN (takenL y.x.S))) := by
      show _ = _
      unfold hasP
      rw [hf]
      unfold intsN
      have : (((k : Nat) : Int) ∈ (takenL y.x.S).map fun k : Nat => (k : Int)) ↔ k ∉ y.x.L := by
        rw [List.mem_map]
        constructor
        · rintro ⟨j, hj, e⟩
          have : j = k := by omega
          subst this
          exact (takenL_mem.1 hj).2
        · exact fun hn => ⟨k, takenL_mem.2 ⟨hk, hn⟩, rfl⟩
      simp only [this]
    rw [show findPV (some (y.x, k)) = .tuple #[.agg #[.int .i64 y.x.page, .int .i64 k], .int .i64 0] from rfl]
    have HY := Lib.hid hy
    have HTK : Hid (∀ W, Below w.heap.size w W → Calls Tryz.prog 34 #[.pointer (some ⟨y.sb, 0, none⟩)] W (STakenPost W y.x.S)) := fun W hW =>
      staken_yes y.sb H.cl H.cb H.bs y.x.S W ((HH.out.below hW).each y hy).slab (HH.out.below hW).cells (HH.out.each y hy).ok
    obtain ⟨y0, -⟩ := ((HH.out.below HB1.out).each y hy).cells
    have HTL : Hid ((intsN (takenL y.x.S)).length ≤ 5000) := by
      show _ ≤ _
      unfold intsN takenL
      rw [List.length_map]
      refine Nat.le_trans (List.length_filter_le _ _) ?_
      rw [List.length_range]
      have := (slB_le (hinv.each y.x hx).cls).2.1
      show slB y.x.cls ≤ 5000
      omega
    clear hf hx hk hy hinv
    go_upto_region 4 with (fail)
    obtain ⟨W2, hW2⟩ : ∃ W2, W2 = w1.alloc (.cells #[.int .i64 y.x.page, .int .i64 k] 56) := ⟨_, rfl⟩
    have HB2 : Hid (Below w.heap.size w W2) := by rw [hW2]; exact HB1.out.alloc hs1 _
    have HBLK2 : Hid (W2.heap[w1.heap.size]? = some (.cells #[.int .i64 y.x.page, .int .i64 k] 56 (0, 0))) := by rw [hW2]; exact heap_alloc_new _ _
    have p0 : W2.cell? ⟨w1.heap.size, 0, none⟩ = some (.int .i64 y.x.page) := cell_of_block HBLK2.out 0
    have e1 : W2.cell? ⟨H.h, 1, none⟩ = some (.map (some H.mb)) := by rw [hW2]; exact Lib.cell?_alloc_some _ d1
    have z0 : W2.cell? ⟨y.hb, 0, none⟩ = some (.pointer (some ⟨y.sb, 0, none⟩)) := by rw [hW2]; exact Lib.cell?_alloc_some _ y0
    have hlk : (Instr.lookup 77 (.map (some H.mb)) (.int .i64 y.x.page) false).run Tryz.prog W2 = .ok (.pointer (some ⟨y.hb, 0, none⟩)) W2 := (HH.out.below HB2.out).lookup HY.out
    have hl1 : w1.heap.size < W2.heap.size := cell_lt p0
    rw [← hW2]
    clear hW2 d1 y0
    have HLKD : Hid (∀ W, Below w.heap.size w W → (Instr.lookup 77 (.map (some H.mb)) (.int .i64 y.x.page) false).run Tryz.prog W = .ok (.pointer (some ⟨y.hb, 0, none⟩)) W) := fun W hW => (HH.out.below hW).lookup HY.out
    generalize y.x.page = pg at *
    refine wp_region_held_drew (S := fun W : World => W.cell? ⟨H.h, 1, none⟩ = some (.map (some H.mb)) ∧ W.cell? ⟨w1.heap.size, 0, none⟩ = some (.int .i64 pg) ∧ W.cell? ⟨y.hb, 0, none⟩ = some (.pointer (some ⟨y.sb, 0, none⟩)) ∧ (Instr.lookup 77 (.map (some H.mb)) (.int .i64 pg) false).run Tryz.prog W = .ok (.pointer (some ⟨y.hb, 0, none⟩)) W) (by kernel_rfl) ?_ (fun hHeld0 => ?_)
    · exact ⟨e1, p0, z0, HLKD.out _ HB2.out.drew⟩
    (refine wpAnyH_take (i := 0) (v := ?_) rfl (by kernel_rfl) (by kernel_rfl) (by kernel_rfl) (fun _ _ _ h => h) (Or.inl ⟨by rfl, ?_⟩) (by assumption) ?_; rotate_left; focus (intro w hSw; (try dsimp only at hSw); go_simp; first | done | with_reducible rfl); (try simp only [Act.put, List.setIfInBounds_toArray, List.set_cons_zero, List.set_cons_succ, List.getElem_toArray, List.getElem_cons_zero, List.getElem_cons_succ]))
    (refine wpAnyH_take (i := 1) (v := ?_) rfl (by kernel_rfl) (by kernel_rfl) (by kernel_rfl) (fun _ _ _ h => h) (Or.inl ⟨by rfl, ?_⟩) (by assumption) ?_; rotate_left; focus (intro w hSw; (try dsimp only at hSw); go_simp; first | done | with_reducible rfl); (try simp only [Act.put, List.setIfInBounds_toArray, List.set_cons_zero, List.set_cons_succ, List.getElem_toArray, List.getElem_cons_zero, List.getElem_cons_succ]))
    (refine wpAnyH_take (i := 2) (v := ?_) rfl (by kernel_rfl) (by kernel_rfl) (by kernel_rfl) (fun _ _ _ h => h) (Or.inl ⟨by rfl, ?_⟩) (by assumption) ?_; rotate_left; focus (intro w hSw; (try dsimp only at hSw); go_simp; first | done | with_reducible rfl); (try simp only [Act.put, List.setIfInBounds_toArray, List.set_cons_zero, List.set_cons_succ, List.getElem_toArray, List.getElem_cons_zero, List.getElem_cons_succ]))
    (refine wpAnyH_take (i := 3) (v := ?_) rfl (by kernel_rfl) (by kernel_rfl) (by kernel_rfl) (fun _ _ _ h => h) (Or.inl ⟨by rfl, ?_⟩) (by assumption) ?_; rotate_left; focus (intro w hSw; (try dsimp only at hSw); go_simp; first | done | with_reducible rfl); (try simp only [Act.put, List.setIfInBounds_toArray, List.set_cons_zero, List.set_cons_succ, List.getElem_toArray, List.getElem_cons_zero, List.getElem_cons_succ]))
    (refine wpAnyH_take (i := 4) (v := ?_) rfl (by kernel_rfl) (by kernel_rfl) (by kernel_rfl) (fun _ _ _ h => h) (Or.inl ⟨by rfl, ?_⟩) (by assumption) ?_; rotate_left; focus (intro w hSw; (try dsimp only at hSw); go_simp; first | done | with_reducible rfl); (try simp only [Act.put, List.setIfInBounds_toArray, List.set_cons_zero, List.set_cons_succ, List.getElem_toArray, List.getElem_cons_zero, List.getElem_cons_succ]))
    (refine wpAnyH_take (i := 5) (v := ?_) rfl (by kernel_rfl) (by kernel_rfl) (by kernel_rfl) (fun _ _ _ h => h) (Or.inl ⟨by rfl, ?_⟩) (by assumption) ?_; rotate_left; focus (intro w hSw; (try dsimp only at hSw); go_simp; first | done | with_reducible rfl); (try simp only [Act.put, List.setIfInBounds_toArray, List.set_cons_zero, List.set_cons_succ, List.getElem_toArray, List.getElem_cons_zero, List.getElem_cons_succ]))
    (refine wpAnyH_take (i := 6) (v := ?_) rfl (by kernel_rfl) (by kernel_rfl) (by kernel_rfl) (fun _ _ _ h => h) (Or.inl ⟨by rfl, ?_⟩) (by assumption) ?_; rotate_left; focus (intro w hSw; (try dsimp only at hSw); go_simp; first | done | with_reducible rfl); (try simp only [Act.put, List.setIfInBounds_toArray, List.set_cons_zero, List.set_cons_succ, List.getElem_toArray, List.getElem_cons_zero, List.getElem_cons_succ]))
    (refine wpAnyH_take (i := 7) (v := ?_) rfl (by kernel_rfl) (by kernel_rfl) (by kernel_rfl) (fun _ _ _ h => h) (Or.inl ⟨by rfl, ?_⟩) (by assumption) ?_; rotate_left; focus (intro w hSw; (try dsimp only at hSw); go_simp; first | done | with_reducible rfl); (try simp only [Act.put, List.setIfInBounds_toArray, List.set_cons_zero, List.set_cons_succ, List.getElem_toArray, List.getElem_cons_zero, List.getElem_cons_succ]))
    (refine wpAnyH_take (i := 8) (v := ?_) rfl (by kernel_rfl) (by kernel_rfl) (by kernel_rfl) (fun _ _ _ h => h) (Or.inl ⟨by rfl, ?_⟩) (by assumption) ?_; rotate_left; focus (intro w hSw; (try dsimp only at hSw); go_simp; first | done | with_reducible rfl); (try simp only [Act.put, List.setIfInBounds_toArray, List.set_cons_zero, List.set_cons_succ, List.getElem_toArray, List.getElem_cons_zero, List.getElem_cons_succ]))
    (refine wpAnyH_take (i := 9) (v := ?_) rfl (by kernel_rfl) (by kernel_rfl) (by kernel_rfl) (fun _ _ _ h => h) (Or.inl ⟨by rfl, ?_⟩) (by assumption) ?_; rotate_left; focus (intro w hSw; (try dsimp only at hSw); go_simp; first | done | with_reducible rfl); (try simp only [Act.put, List.setIfInBounds_toArray, List.set_cons_zero, List.set_cons_succ, List.getElem_toArray, List.getElem_cons_zero, List.getElem_cons_succ]))
    refine wpAnyH_ready (rs := [10]) (by kernel_rfl) (by simp) ?_
    refine AllReadyH.cons rfl (fun K hK => ?_) AllReadyH.nil
    go_simp
    have HB3 := Lib.hid (HB2.out.drew)
    have hblk3 : W2.drew.heap[w1.heap.size]? = some (.cells #[.int .i64 pg, .int .i64 k] 56 (0, 0)) := HBLK2.out
    have HBLK3 := Lib.hid hblk3
    have hl3 := lt_of_block hblk3
    have hhl := cell_lt e1
    have hyl := cell_lt z0
    clear hlk hblk3
    go_wp2_with (fail)
    refine (HTK.out _ HB3.out).mono ?_
    rintro e w4 ⟨v, rfl, hi, hb4⟩
    refine hK.out _ _ ⟨cell_past hb4 hhl e1, cell_past hb4 hl1 p0, cell_past hb4 hyl z0, HLKD.out _ (Below.via hb4 HB3.out.size HB3.out)⟩ (fun hHeld => ?_)
    clear hK K p0 e1 z0 hHeld0
    (try simp only [Act.put, List.setIfInBounds_toArray, List.set_cons_zero, List.set_cons_succ, List.getElem_toArray, List.getElem_cons_zero, List.getElem_cons_succ])
    (refine wpAnyH_take (i := 11) (v := ?_) rfl (by kernel_rfl) (by kernel_rfl) (by kernel_rfl) (fun _ _ _ h => h) (Or.inl ⟨by rfl, ?_⟩) (by assumption) ?_; rotate_left; focus (intro w hSw; (try dsimp only at hSw); go_simp; first | done | with_reducible rfl); (try simp only [Act.put, List.setIfInBounds_toArray, List.set_cons_zero, List.set_cons_succ, List.getElem_toArray, List.getElem_cons_zero, List.getElem_cons_succ]))
    (refine wpAnyH_take (i := 12) (v := ?_) rfl (by kernel_rfl) (by kernel_rfl) (by kernel_rfl) (fun _ _ _ h => h) (Or.inl ⟨by rfl, ?_⟩) (by assumption) ?_; rotate_left; focus (intro w hSw; (try dsimp only at hSw); go_simp; first | done | with_reducible rfl); (try simp only [Act.put, List.setIfInBounds_toArray, List.set_cons_zero, List.set_cons_succ, List.getElem_toArray, List.getElem_cons_zero, List.getElem_cons_succ]))
    (refine wpAnyH_take (i := 13) (v := ?_) rfl (by kernel_rfl) (by kernel_rfl) (by kernel_rfl) (fun _ _ _ h => h) (Or.inl ⟨by rfl, ?_⟩) (by assumption) ?_; rotate_left; focus (intro w hSw; (try dsimp only at hSw); go_simp; first | done | with_reducible rfl); (try simp only [Act.put, List.setIfInBounds_toArray, List.set_cons_zero, List.set_cons_succ, List.getElem_toArray, List.getElem_cons_zero, List.getElem_cons_succ]))
    (refine wpAnyH_take (i := 14) (v := ?_) rfl (by kernel_rfl) (by kernel_rfl) (by kernel_rfl) (fun _ _ _ h => h) (Or.inl ⟨by rfl, ?_⟩) (by assumption) ?_; rotate_left; focus (intro w hSw; (try dsimp only at hSw); go_simp; first | done | with_reducible rfl); (try simp only [Act.put, List.setIfInBounds_toArray, List.set_cons_zero, List.set_cons_succ, List.getElem_toArray, List.getElem_cons_zero, List.getElem_cons_succ]))
    (refine wpAnyH_take (i := 15) (v := ?_) rfl (by kernel_rfl) (by kernel_rfl) (by kernel_rfl) (fun _ _ _ h => h) (Or.inl ⟨by rfl, ?_⟩) (by assumption) ?_; rotate_left; focus (intro w hSw; (try dsimp only at hSw); go_simp; first | done | with_reducible rfl); (try simp only [Act.put, List.setIfInBounds_toArray, List.set_cons_zero, List.set_cons_succ, List.getElem_toArray, List.getElem_cons_zero, List.getElem_cons_succ]))
    refine wpAnyH_done (by kernel_rfl) ?_ _
    have HI := Lib.hid hi
    have hblk4 := (hb4.block _ hl3).trans HBLK3.out
    have q1 : w4.cell? ⟨w1.heap.size, 1, none⟩ = some (.int .i64 k) := cell_of_block hblk4 1
    have HB4 := Lib.hid (Below.via hb4 HB3.out.size HB3.out)
    have HCT := Lib.hid (contains_any (intsN (takenL y.x.S)) (k : Int) _ v w4 hi HTL.out)
    clear hi hb4 hblk4 hHeld
    go_wp2_with (fail)
    refine HCT.out.mono ?_
    rintro e w5 ⟨rfl, rfl⟩
    go_wp2
    go_ret
    exact ⟨by rw [HF.out]; rfl, HB4.out⟩

set_option maxRecDepth 8000 in
set_option maxHeartbeats 1000000 in
theorem hready_any {w : World} {H : HL} {pages : Nat} {s : HP} (h : HeapAt w H pages s) (cls : Int) :
    Calls Tryz.prog 16 #[.pointer (some ⟨H.h, 0, none⟩), .int .i64 cls] w fun e w' => e = .returned (.bool (bestP s.A cls none).isSome) ∧ Below w.heap.size w w' := by
  obtain ⟨zs, hz⟩ := h.sorted
  have hbx := h.bestY_x hz cls none (by intro y hy; cases hy)
  rw [show (none : Option HS).map (·.x.page) = none from rfl] at hbx
  have HBE := Lib.hid (best_any h hz cls none (by intro y hy; cases hy))
  rw [← hbx]
  have HE : Hid (ptrH (none : Option HS) = .pointer none) := rfl
  rw [HE.out] at HBE
  clear hbx h hz HE
  generalize bestY zs cls none = o at *
  cases o with
  | none =>
    go_enter Tryz.func16, Tryz.ntmps16
    go_wp2_with (fail)
    refine HBE.out.mono ?_
    rintro e w1 ⟨rfl, hb⟩
    have HB1 := Lib.hid hb
    clear hb
    rw [show ptrH none = .pointer none from rfl]
    go_wp2
    go_ret
    exact ⟨rfl, HB1.out⟩
  | some y =>
    go_enter Tryz.func16, Tryz.ntmps16
    go_wp2_with (fail)
    refine HBE.out.mono ?_
    rintro e w1 ⟨rfl, hb⟩
    have HB1 := Lib.hid hb
    clear hb
    rw [show ptrH (some y) = .pointer (some ⟨y.hb, 0, none⟩) from rfl]
    go_wp2
    go_ret
    exact ⟨rfl, HB1.out⟩

/-- The slab of a page, in memory. -/
theorem HeapAt.lookupP {w : World} {H : HL} {pages : Nat} {s : HP} (h : HeapAt w H pages s) (p : Int) :
    ∃ o : Option HS, (∀ y, o = some y → y ∈ H.xs) ∧ o.map (·.x) = getP s.A p ∧ ∀ W, Below w.heap.size w W → (Instr.lookup 77 (.map (some H.mb)) (.int .i64 p) false).run Tryz.prog W = .ok (ptrH o) W := by
  refine ⟨H.xs.find? fun x => (x.x.page : Int) == p, fun y hy => List.mem_of_find?_eq_some hy, ?_, fun W hW => run_lookup_held (h.below hW).map p⟩
  cases hf : H.xs.find? fun x => (x.x.page : Int) == p with
  | some y =>
    have h1 := List.mem_of_find?_eq_some hf
    have h2 := List.find?_some hf
    simp only [beq_iff_eq] at h2
    rw [← h2, h.inv.get (h.mem' h1)]
    rfl
  | none =>
    cases hg : getP s.A p with
    | none => rfl
    | some x =>
      obtain ⟨h1, h2⟩ := getP_mem hg
      obtain ⟨y, hy, rfl⟩ := h.mem h1
      rw [List.find?_eq_none] at hf
      exact absurd (by simpa using h2) (hf y hy)

set_option maxRecDepth 8000 in
set_option maxHeartbeats 1000000 in
theorem hcheck_any {w : World} {H : HL} {pages : Nat} {s : HP} (h : HeapAt w H pages s) (p : Int) :
    Calls Tryz.prog 19 #[.pointer (some ⟨H.h, 0, none⟩), .int .i64 p] w fun e w' => e = .returned (.int .i64 (if (getP s.A p).isSome then 0 else 16)) ∧ Below w.heap.size w w' := by
  obtain ⟨-, c1⟩ := h.hcells
  obtain ⟨o, hom, hox, hlk⟩ := h.lookupP p
  have hlk := hlk w (Below.refl _ _)
  rw [← hox]
  cases o with
  | none =>
    rw [show ptrH none = .pointer none from rfl] at hlk
    clear h hom hox
    go_enter Tryz.func19, Tryz.ntmps19
    go_wp2
    go_ret
    exact ⟨rfl, Below.refl _ _⟩
  | some y =>
    rw [show ptrH (some y) = .pointer (some ⟨y.hb, 0, none⟩) from rfl] at hlk
    have hE := h.each y (hom y rfl)
    obtain ⟨y0, -⟩ := hE.cells
    have HCK := Lib.hid (check_yes y.sb H.cl H.cb H.bs y.x.S w hE.slab h.cells hE.ok)
    clear h hom hox hE
    go_enter Tryz.func19, Tryz.ntmps19
    go_wp2_with (fail)
    refine HCK.out.mono ?_
    rintro e w1 ⟨rfl, hb⟩
    have HB1 := Lib.hid hb
    clear hb
    go_wp2
    go_ret
    exact ⟨rfl, HB1.out⟩

end Go.Proofs.YtlljejmblmjjnaaGreat

/- newheap: Some. -/
namespace Go.Proofs.YtlljejmblmjjnaaGreat
set_option linter.unusedVariables false
set_option linter.unusedSimpArgs false
open Go.RowKit Go.ChangeMaps

theorem nodup_sub {α : Type} [DecidableEq α] : ∀ {l m : List α}, l.Nodup → (∀ a ∈ l, a ∈ m) → l.length ≤ m.length
  | [], _, _, _ => Nat.zero_le _
  | a :: l, m, h, hs => by
    obtain ⟨h1, h2⟩ := List.nodup_cons.1 h
    have ha := hs a List.mem_cons_self
    have := nodup_sub (m := m.erase a) h2 (fun b hb => (List.mem_erase_of_ne (by rintro rfl; exact h1 hb)).2 (hs b (List.mem_cons_of_mem _ hb)))
    have e := List.length_erase_of_mem ha
    have h0 := List.length_pos_of_mem ha
    rw [List.length_cons]
    omega
theorem takenP_le {pages : Nat} : ∀ {A : List PS}, (∀ x ∈ A, x.Ok pages) → (takenP A).length ≤ 128 * A.length
  | [], _ => Nat.zero_le _
  | x :: A, h => by
    have ih := takenP_le (A := A) (fun y hy => h y (List.mem_cons_of_mem _ hy))
    unfold takenP at *
    rw [List.flatMap_cons, List.length_append, List.length_map, List.length_cons]
    have h1 : (takenL x.S).length ≤ slB x.cls := by
      unfold takenL
      refine Nat.le_trans (List.length_filter_le _ _) ?_
      rw [List.length_range]
      exact Nat.le_refl _
    have h2 := (slB_le (h x List.mem_cons_self).cls).2.1
    omega
theorem own_turned {F : Nat → Prop} {w w' : World} {base n size : Nat} {e : TypeId} {v : Value} {xs : List Value} (h : w.ownsRow base e size v n xs) (t : Turned F w w') (hF : ∀ g cs, w.heap[g]? = some (.cells cs e (0, 0)) → v.ownBlock = some g → ¬ F g) : w'.ownsRow base e size v n xs := by
  refine ⟨h.1, ?_⟩
  rcases h.2 with h2 | ⟨g, cap, cur, rfl, hb, hg, h3⟩
  · exact .inl h2
  · exact .inr ⟨g, cap, cur, rfl, hb, (t.block _ (lt_of_block hg) (hF g cur hg rfl)).trans hg, h3⟩
/-- A block of another kind is none of the heap's. -/
theorem HeapAt.offT {w : World} {H : HL} {pages : Nat} {s : HP} (h : HeapAt w H pages s) {x : Nat} {cs : Array Value} {T : TypeId} (hx : w.heap[x]? = some (.cells cs T (0, 0)))
    (hT : [79, 82, 131, 91, 163, 5, 159, 161, 202, 209, 212, 155].contains T = false) : ¬ H.F x := by
  simp only [List.contains_cons, List.contains_nil, Bool.or_eq_false_iff, beq_eq_false_iff_ne] at hT
  obtain ⟨t1, t2, t3, t4, t5, t6, t7, t8, t9, t10, t11, t12, -⟩ := hT
  rintro (e | e | e | e | e | e | ⟨y, hy, e | e⟩)
  · exact block_ne hx h.obj t1 e
  · exact block_ne_map hx h.map e
  · exact block_ne hx h.ground.obj t4 e
  · exact block_ne hx h.cells.obj t5 e
  · exact block_ne hx h.cells.bytes t6 e
  · exact h.ground.off hx t7 t8 t9 t10 t11 t12 e
  · exact block_ne hx (h.each y hy).held t2 e
  · exact block_ne hx (show w.heap[y.sb]? = some (.cells _ 131 (0, 0)) from (h.each y hy).slab) t3 e

theorem Turned.of_grown {w w' : World} {row : Option Nat} (h : w.grownBy w' row) : Turned (fun k => row = some k) w w' :=
  ⟨h.os, h.tape, h.output, h.size, fun k hk hF => h.block k hk (fun e => hF e.symm)⟩
/-- A row of the call's own that grows leaves the heap as it is. -/
theorem HeapAt.grown {w w' : World} {H : HL} {pages : Nat} {s : HP} (h : HeapAt w H pages s) {o : Obj} {base n size : Nat} {T : TypeId} {v : Value} {xs : List Value} (hr : w.ownsRow base T size v n xs) (hg : (w.alloc o).grownBy w' v.ownBlock)
    (hT : [79, 82, 131, 91, 163, 5, 159, 161, 202, 209, 212, 155].contains T = false) :
    HeapAt w' H pages s ∧ Turned (fun k => base ≤ k) w w' := by
  have ha : Below w.heap.size w (w.alloc o) := (Below.refl _ _).alloc (Nat.le_refl _) _
  have h1 := h.below ha
  have hr1 := ownsRow_below hr ha
  have t := Turned.of_grown hg
  refine ⟨h1.turned t fun k hk hF => ?_, (Turned.of_below (F := fun k => base ≤ k) ha (Nat.le_refl _)).trans t fun k hk _ => (hr1.lt k hk).1⟩
  rcases hr1.2 with ⟨rfl, -⟩ | ⟨g, cap, cur, rfl, hb, hgg, -⟩
  · cases hF
  · cases hF
    exact h1.offT hgg hT hk
def SomePost (w : World) (H : HL) (pages : Nat) (s s' : HP) (res : List Int) (err : Int) (e : Ending) (w' : World) : Prop :=
  ∃ v, HPost w H pages s s' (.tuple #[v, .int .i64 err]) e w' ∧ Ints w' w.heap.size v res
structure SomeI (w : World) (H : HL) (pages : Nat) (s : HP) (cls : Int) (n k : Nat) (v : Value) (wr : World) (H1 : HL) (s1 : HP) (out : List Int) : Prop where
  le : k ≤ n
  row : wr.ownsRow w.heap.size 3 1 v out.length (intsV out)
  left : H1.left = H.left
  heap : HeapAt wr H1 pages s1
  of : H.Of H1 s s1 w.heap.size
  turned : Turned H.F w wr
  eq : someL (n - k) s1 cls out = someL n s cls []
  nodup : out.Nodup
  sub : ∀ a ∈ out, Tkn s1.A a
  mono : ∀ t, Tkn s.A t → Tkn s1.A t
  good : HGood pages s1
theorem SomeI.short {w : World} {H : HL} {pages : Nat} {s : HP} {cls : Int} {n k : Nat} {v : Value} {wr : World} {H1 : HL} {s1 : HP} {out : List Int} (h : SomeI w H pages s cls n k v wr H1 s1 out) : out.length ≤ 2048 := by
  have h1 := nodup_sub h.nodup (fun a ha => takenP_mem.2 (h.sub a ha))
  have h2 := takenP_le (pages := pages) h.heap.inv.each
  have h3 := h.heap.bound
  omega

set_option maxRecDepth 8000 in
set_option maxHeartbeats 4000000 in
theorem hsome_any {w : World} {H : HL} {pages : Nat} {s : HP} (h : HeapAt w H pages s) (hg : HGood pages s) (cls n : Int) (hn : n < 2 ^ 63) :
    Calls Tryz.prog 36 #[.pointer (some ⟨H.h, 0, none⟩), .int .i64 cls, .int .i64 n] w (SomePost w H pages s (someP s cls n).2 (someP s cls n).1.1 (someP s cls n).1.2) := by
  obtain ⟨i0, hi, hz0, hz1, hz2⟩ := info_parts info_int2
  have HR := Lib.hid (hright_any cls w)
  have HH := Lib.hid h
  have HG := Lib.hid hg
  clear h hg
  by_cases hc : 0 ≤ cls ∧ cls < 12
  · rw [show clsOk cls = true from decide_eq_true hc] at HR
    by_cases hn1 : 1 ≤ n
    · obtain ⟨m, hm⟩ : ∃ m : Nat, n = m := ⟨n.toNat, by omega⟩
      have HS : Hid (someP s cls n = someL m s cls []) := by
        show _ = _
        unfold someP
        rw [if_pos ⟨hc.1, hc.2, hn1⟩, hm, Int.toNat_natCast]
      have hnl : ¬ n < 1 := by omega
      have HM := Lib.hid hm
      clear hm
      have HN63 := Lib.hid hn
      clear hc hn hn1
      go_enter Tryz.func36, Tryz.ntmps36
      go_wp2_with (fail)
      refine HR.out.mono ?_
      rintro e w1 ⟨rfl, hb⟩
      have HB1 := Lib.hid hb
      clear hb
      go_wp2
      go_loopw [8, 19] (fun v i wr => ∃ (k : Nat) (H1 : HL) (s1 : HP) (out : List Int), i = .int .i64 k ∧ SomeI w H pages s cls m k v wr H1 s1 out) (fun _ i _ => m - numOf i)
      case atStart =>
        exact ⟨0, H, s, [], rfl, Nat.zero_le _, World.ownsRow_nil _ _ _ _, rfl, HH.out.below HB1.out, HL.Of.refl _ _ _, Turned.of_below HB1.out (Nat.le_refl _), rfl, List.nodup_nil, by simp, fun _ h => h, HG.out⟩
      case round =>
        obtain ⟨k, H1, s1, out, rfl, hI⟩ := hrel
        have hle := hI.le
        have hsh := hI.short
        by_cases hlt : k < m
        · have HT := Lib.hid (htake_any hI.heap cls)
          have hhh : H1.h = H.h := hI.of.h
          rw [hhh] at HT
          have hkn : (k : Int) < n := by have := HM.out; omega
          have hm63 : m < 2 ^ 63 := by have := HM.out; have := HN63.out; omega
          have hkw : IntKind.i64.wrap ((k : Int) + 1) = (k : Int) + 1 := by rw [IntKind.wrap_i64]; omega
          have hstep : someL (m - k) s1 cls out = if (takeP s1 cls).1.2 = 0 then someL (m - (k + 1)) (takeP s1 cls).2 cls (out ++ [(takeP s1 cls).1.1]) else if out = [] then (([], (takeP s1 cls).1.2), (takeP s1 cls).2) else ((out, 0), (takeP s1 cls).2) := by
            rw [show m - k = (m - (k + 1)) + 1 by omega]
            rfl
          have HIV := Lib.hid hI
          by_cases he : (takeP s1 cls).1.2 = 0
          · obtain ⟨t1, t2, -, -, -⟩ := take_yes' hI.good he
            rw [if_pos he] at hstep
            have HSTEP := Lib.hid hstep
            have HT1 := Lib.hid t1
            have HT2 := Lib.hid t2
            have HGD := Lib.hid (take_good hI.good cls)
            clear hstep t1 t2 hI
            unfold ansV at HT
            rw [he] at HT
            have HE := Lib.hid he
            clear he
            generalize (takeP s1 cls).1.1 = ad at *
            go_wp2_with (fail)
            refine HT.out.mono ?_
            rintro e w2 ⟨rfl, H2, q1, q2, q3, q4⟩
            have hrow2 := own_turned HIV.out.row q4 (fun g cs hg _ => HIV.out.heap.offT hg (by decide))
            have hTw := HIV.out.turned.trans q4 (fun x hx hxl => (HIV.out.of.foot x hx).elim id (fun hh => by omega))
            have hszw := hTw.size
            have HQ2 := Lib.hid q2
            have HROW2 := Lib.hid hrow2
            have HTW := Lib.hid hTw
            have HOF2 : Hid (H.Of H2 s (takeP s1 cls).2 w.heap.size) := HIV.out.of.trans q3 HIV.out.turned.size (fun t t1 _ => HIV.out.mono t t1)
            have HL2 : Hid (H2.left = H.left) := q1.trans HIV.out.left
            clear q1 q2 q3 q4 hrow2 hTw
            go_wp2_with (at_builtin; refine wpList_append_own _ rfl _ _ 37 rfl w.heap.size 3 i0 (.int .i64 0) 1 8 Tryz.underlying37 hi hz0 hz1 hz2 rfl (by decide) _ _ _ rfl (HROW2.out.alloc _) ⟨w2.heap.size, 0, none⟩ 1 1 [.int .i64 ad] rfl rfl (cell_one_new _ _ _) (fun u hu => by simp at hu; rcases hu with rfl; rfl) (by unfold maxLen; omega) (by omega) (by simp; omega) ?_; intro v' w3 hown' hgrow3 hnil3)
            have hgr := HQ2.out.grown HROW2.out hgrow3 (by decide)
            have HI3 : Hid (SomeI w H pages s cls m (k + 1) v' w3 H2 (takeP s1 cls).2 (out ++ [ad])) := by
              refine ⟨hlt, ?_, HL2.out, hgr.1, HOF2.out, HTW.out.trans hgr.2 (fun x hx hxl => absurd hx (by omega)), ?_, ?_, ?_, fun t ht => (HT2.out t).2 (.inl (HIV.out.mono t ht)), HGD.out⟩
              · rw [List.length_append]
                unfold intsV
                rw [List.map_append]
                exact hown'
              · rw [← HSTEP.out]
                exact HIV.out.eq
              · rw [List.nodup_append]
                exact ⟨HIV.out.nodup, by simp, fun a ha b hb e => HT1.out (by simp at hb; rw [← hb, ← e]; exact HIV.out.sub a ha)⟩
              · intro a ha
                rcases List.mem_append.1 ha with ha | ha
                · exact (HT2.out a).2 (.inl (HIV.out.sub a ha))
                · exact (HT2.out a).2 (.inr (by simpa using ha))
            clear hgr hown' hgrow3 hnil3
            go_wp2
            go_roundw
            case rel => exact ⟨k + 1, H2, _, _, by go_num, HI3.out⟩
            case measure => simp [numOf]; omega
          · rw [if_neg he] at hstep
            have hns := take_no' hI.heap.inv he
            unfold ansV at HT
            rw [hns] at HT hstep
            have HSTEP := Lib.hid hstep
            have hbe : ((takeP s1 cls).1.2 == 0) = false := by simpa using he
            clear hstep hI he hns
            generalize (takeP s1 cls).1.2 = er at *
            generalize (takeP s1 cls).1.1 = ad at *
            obtain ⟨pv, cp, hv, hcell⟩ := ownsRow_ints HIV.out.row
            subst hv
            have HIV2 : Hid (SomeI w H pages s cls m k (.slice pv out.length cp) wr H1 s1 out) := HIV
            cases out with
            | nil =>
              go_wp2_with (fail)
              refine HT.out.mono ?_
              rintro e w2 ⟨rfl, H2, q1, q2, q3, q4⟩
              have HP : Hid (SomePost w H pages s (someP s cls n).2 (someP s cls n).1.1 (someP s cls n).1.2 (.returned (.tuple #[.slice none 0 0, .int .i64 er])) w2) := by
                show SomePost _ _ _ _ _ _ _ _ _
                rw [HS.out, ← HIV2.out.eq, HSTEP.out]
                exact ⟨_, ⟨rfl, H2, q1.trans HIV2.out.left, q2, HIV2.out.of.trans q3 HIV2.out.turned.size (fun t t1 _ => HIV2.out.mono t t1), HIV2.out.turned.trans q4 (fun x hx hxl => (HIV2.out.of.foot x hx).elim id (fun hh => by omega))⟩, Ints.nil _ _⟩
              clear q1 q2 q3 q4
              go_wp2
              go_ret2
              exact HP.out
            | cons a0 out0 =>
              have hpos : (((a0 :: out0).length : Nat) : Int) > 0 := by rw [List.length_cons]; omega
              have hrl : (a0 :: out0).length ≤ 2048 := hsh
              go_wp2_with (fail)
              refine HT.out.mono ?_
              rintro e w2 ⟨rfl, H2, q1, q2, q3, q4⟩
              have hrow2 := own_turned HIV2.out.row q4 (fun g cs hg _ => HIV2.out.heap.offT hg (by decide))
              have HP : Hid (SomePost w H pages s (someP s cls n).2 (someP s cls n).1.1 (someP s cls n).1.2 (.returned (.tuple #[.slice pv (a0 :: out0).length cp, .int .i64 0])) w2) := by
                show SomePost _ _ _ _ _ _ _ _ _
                rw [HS.out, ← HIV2.out.eq, HSTEP.out, if_neg (by simp)]
                exact ⟨_, ⟨rfl, H2, q1.trans HIV2.out.left, q2, HIV2.out.of.trans q3 HIV2.out.turned.size (fun t t1 _ => HIV2.out.mono t t1), HIV2.out.turned.trans q4 (fun x hx hxl => (HIV2.out.of.foot x hx).elim id (fun hh => by omega))⟩, Ints.of_own hrow2 rfl⟩
              clear q1 q2 q3 q4 hrow2 hcell
              generalize (a0 :: out0).length = ln at *
              go_wp2
              go_ret2
              exact HP.out
        · have hkm : k = m := by omega
          have hkn : ¬ (k : Int) < n := by have := HM.out; omega
          obtain ⟨pv, cp, hv, hcell⟩ := ownsRow_ints hI.row
          subst hv
          have HP : Hid (SomePost w H pages s (someP s cls n).2 (someP s cls n).1.1 (someP s cls n).1.2 (.returned (.tuple #[.slice pv out.length cp, .int .i64 0])) wr) := by
            show SomePost _ _ _ _ _ _ _ _ _
            have heq := hI.eq
            rw [show m - k = 0 by omega] at heq
            rw [HS.out, ← heq]
            exact ⟨_, ⟨rfl, H1, hI.left, hI.heap, hI.of, hI.turned⟩, Ints.of_own hI.row rfl⟩
          clear hI hkm hle hlt hcell
          go_wp2
          go_ret2
          exact HP.out
    · have HS : Hid (someP s cls n = (([], 11), s)) := by
        show _ = _
        unfold someP
        rw [if_neg (by omega)]
      have hnl : n < 1 := by omega
      clear hc hn hn1
      go_enter Tryz.func36, Tryz.ntmps36
      go_wp2_with (fail)
      refine HR.out.mono ?_
      rintro e w1 ⟨rfl, hb⟩
      have HB1 := Lib.hid hb
      clear hb
      go_wp2
      go_ret2
      rw [HS.out]
      exact ⟨_, HH.out.stays HB1.out rfl, Ints.nil _ _⟩
  · rw [show clsOk cls = false from decide_eq_false hc] at HR
    have HS : Hid (someP s cls n = (([], 11), s)) := by
      show _ = _
      unfold someP
      rw [if_neg (by omega)]
    clear hc hn
    go_enter Tryz.func36, Tryz.ntmps36
    go_wp2_with (fail)
    refine HR.out.mono ?_
    rintro e w1 ⟨rfl, hb⟩
    have HB1 := Lib.hid hb
    clear hb
    go_wp2
    go_ret2
    rw [HS.out]
    exact ⟨_, HH.out.stays HB1.out rfl, Ints.nil _ _⟩

end Go.Proofs.YtlljejmblmjjnaaGreat

/- newheap: mark, Seal, Unseal. -/
namespace Go.Proofs.YtlljejmblmjjnaaGreat
set_option linter.unusedVariables false
set_option linter.unusedSimpArgs false
open Go.RowKit Go.ChangeMaps

set_option maxRecDepth 8000 in
set_option maxHeartbeats 2000000 in
theorem hmark_any {w : World} {h mb gr cl hb sb pages b st k : Nat} {p : GPl} {l : List Run} {E : List PE} {x : PS} {sd : Bool} {e4 : Ent4} (hobj : w.heap[h]? = some (.cells #[.pointer (some ⟨gr, 0, none⟩), .map (some mb)] 79 (0, 0)))
    (hg : GroundAt w gr cl p pages l E 0 b 0) (hheld : w.heap[hb]? = some (.cells #[.pointer (some ⟨sb, 0, none⟩), .bool sd] 82 (0, 0))) (hs : SlabAt w sb cl x.S) (hx : x.cls < 12) (hk : l[k]? = some ⟨x.page, 4, true⟩)
    (he : E.getD x.page none = some (e4, st)) (hv : e4.version = 1) (hb4 : 4 ≤ b) :
    Calls Tryz.prog 66 #[.pointer (some ⟨h, 0, none⟩), .pointer (some ⟨hb, 0, none⟩)] w
      (GMarkPost w gr cl p pages l (setE E x.page (some (⟨x.page, 1, x.cls, sealN sd⟩, nextSt p.stamp)) 4) 0 b 0) := by
  have c0 : w.cell? ⟨h, 0, none⟩ = some (.pointer (some ⟨gr, 0, none⟩)) := cell_of_block hobj 0
  have y0 : w.cell? ⟨hb, 0, none⟩ = some (.pointer (some ⟨sb, 0, none⟩)) := cell_of_block hheld 0
  have y1 : w.cell? ⟨hb, 1, none⟩ = some (.bool sd) := cell_of_block hheld 1
  have HPG : Hid (∀ W, Below w.heap.size w W → Calls Tryz.prog 42 #[.pointer (some ⟨sb, 0, none⟩)] W fun e w' => e = .returned (.int .i64 x.page) ∧ W = w') := fun W hW => page_any sb cl x W (hs.below hW)
  have HCL : Hid (∀ W, Below w.heap.size w W → Calls Tryz.prog 57 #[.pointer (some ⟨sb, 0, none⟩)] W fun e w' => e = .returned (.int .i64 x.cls) ∧ W = w') := fun W hW => class_any sb cl x.S W (hs.below hW)
  have HMK : Hid (∀ W, Below w.heap.size w W → ∀ state : Nat, state < 2 → Calls Tryz.prog 105 #[.pointer (some ⟨gr, 0, none⟩), .int .i64 x.page, .int .i64 1, .int .i64 x.cls, .int .i64 state] W
      (GMarkPost W gr cl p pages l (setE E x.page (some (⟨x.page, 1, x.cls, state⟩, nextSt p.stamp)) 4) 0 b 0)) := fun W hW state hst => by
    have := gMark_yes gr cl pages 0 b 0 k st 1 x.cls state p l E ⟨x.page, 4, true⟩ e4 W (hg.below hW) hk rfl he (by omega) (by rw [hv]; exact hb4) (by decide) (by omega) hst
    rw [hv] at this
    exact this
  have hpost : ∀ W e w' a' b', Below w.heap.size w W → GMarkPost W gr cl p pages l a' 0 b' 0 e w' → GMarkPost w gr cl p pages l a' 0 b' 0 e w' := by
    rintro W e w' a' b' hW ⟨h1, p', h2, h3, h4⟩
    have := hW.size
    exact ⟨h1, p', h2, fun j hj => (h3 j hj).imp id (fun hh => by omega), (Turned.of_below (F := p.F) hW (Nat.le_refl _)).trans h4 (fun _ h _ => h)⟩
  have HPO := Lib.hid hpost
  clear hobj hg hheld hs hk he hv hb4 hpost
  cases sd with
  | false =>
    go_enter Tryz.func66, Tryz.ntmps66
    go_upto_region 4 with (fail)
    (refine wp_region_quiet_tail_ext 15 (by kernel_rfl) (by kernel_rfl) ?_; simp only [List.take_succ_cons, List.take_zero, List.drop_succ_cons, List.drop_zero])
    ((repeat (first | go_big_quiet_step (((first | (refine Calls.ext_same (HPG.out _ (below_ext _ _))) | (refine Calls.ext_same (HCL.out _ (below_ext _ _)))))) | quiet_step (((first | (refine Calls.ext_same (HPG.out _ (below_ext _ _))) | (refine Calls.ext_same (HCL.out _ (below_ext _ _)))))))); refine wpQuiet_nil ?_; intro w3 hw3; obtain hb3 := below_of_ext hw3; clear hw3; have hz3 := hb3.size; (try simp at hz3))
    have HB3 := Lib.hid hb3
    clear hb3 c0 y0 y1
    go_wp2_with (fail)
    refine (HMK.out _ HB3.out 0 (by decide)).mono ?_
    rintro e w4 hp
    have HF := Lib.hid (HPO.out _ _ _ _ _ HB3.out hp)
    obtain ⟨rfl, -⟩ := hp
    go_wp2
    go_ret
    exact HF.out
  | true =>
    go_enter Tryz.func66, Tryz.ntmps66
    go_upto_region 4 with (fail)
    (refine wp_region_quiet_tail_ext 15 (by kernel_rfl) (by kernel_rfl) ?_; simp only [List.take_succ_cons, List.take_zero, List.drop_succ_cons, List.drop_zero])
    ((repeat (first | go_big_quiet_step (((first | (refine Calls.ext_same (HPG.out _ (below_ext _ _))) | (refine Calls.ext_same (HCL.out _ (below_ext _ _)))))) | quiet_step (((first | (refine Calls.ext_same (HPG.out _ (below_ext _ _))) | (refine Calls.ext_same (HCL.out _ (below_ext _ _)))))))); refine wpQuiet_nil ?_; intro w3 hw3; obtain hb3 := below_of_ext hw3; clear hw3; have hz3 := hb3.size; (try simp at hz3))
    have HB3 := Lib.hid hb3
    clear hb3 c0 y0 y1
    go_wp2_with (fail)
    refine (HMK.out _ HB3.out 1 (by decide)).mono ?_
    rintro e w4 hp
    have HF := Lib.hid (HPO.out _ _ _ _ _ HB3.out hp)
    obtain ⟨rfl, -⟩ := hp
    go_wp2
    go_ret
    exact HF.out

/-- A slab's mark: its holder says b, and the ground's entries too. -/
theorem HPost.of_mark {w w1 w2 : World} {H : HL} {pages : Nat} {s : HP} (h : HeapAt w H pages s) {y : HS} (hy : y ∈ H.xs) (b : Bool) {st : Nat}
    (h1 : w1.heap[y.hb]? = some (.cells #[.pointer (some ⟨y.sb, 0, none⟩), .bool b] 82 (0, 0))) (t1 : Turned (fun k => k = y.hb) w w1) {p : GPl} {e : Ending}
    (hp : GMarkPost w1 H.gr H.cl H.p pages s.l (setE H.E y.x.page (some (⟨y.x.page, 1, y.x.cls, sealN b⟩, st)) 4) 0 H.b 0 e w2) : HPost w H pages s ⟨s.l, updP s.A { y.x with sealed := b }⟩ (.int .i64 0) e w2 := by
  obtain ⟨he, p', hg2, hpf, t2⟩ := hp
  have hyA := h.mem' hy
  have hok := h.inv.each y.x hyA
  have hoff := h.offs
  have hy5 := hoff.2.2.2.2 y hy
  have hs2 : w.heap[y.sb]? = some (.cells _ 131 (0, 0)) := (h.each y hy).slab
  have hne1 := block_ne (h.each y hy).held hs2 (by decide)
  have hne2 := block_ne (h.each y hy).held h.cells.obj (by decide)
  have hne3 := block_ne (h.each y hy).held h.cells.bytes (by decide)
  have hz1 := t1.size
  have hEl := h.ground.map.len
  have hm := h.ground.map.most
  have hft := hok.fits
  obtain ⟨H', q1, q2, q3, q4, q5⟩ := h.upd hy (x := { y.x with sealed := b }) rfl (hok.mark b) (p := p') (E := setE H.E y.x.page (some (⟨y.x.page, 1, y.x.cls, sealN b⟩, st)) 4) (bs := H.bs)
    ((t1.mono (G := updF H y) (fun j hj _ => .inl hj)).trans t2 (fun j hj _ => .inr (.inr (.inr hj)))) hg2 (fun j hj => (hpf j hj).imp id (fun hh => Nat.le_trans hz1 hh))
    ((h.cells.turned t1 (fun e => hne2 e.symm) (fun e => hne3 e.symm)).turned t2 hoff.2.1 hoff.2.2.1) rfl ((t2.block _ (lt_of_block h1) hy5.1).trans h1)
    (((h.each y hy).slab.turned t1 (fun e => hne1 e.symm)).turned t2 hy5.2) (h.each y hy).ok (fun z hz _ => (h.each z hz).ok) (h.ent.mark h.inv (y := { y.x with sealed := b }) hyA rfl (by omega)) ⟨fun _ _ _ _ _ => rfl⟩
  exact ⟨he, H', q1, q3, q4, q5⟩

set_option maxRecDepth 8000 in
set_option maxHeartbeats 4000000 in
theorem hseal_any {w : World} {H : HL} {pages : Nat} {s : HP} (h : HeapAt w H pages s) (p : Int) :
    Calls Tryz.prog 30 #[.pointer (some ⟨H.h, 0, none⟩), .int .i64 p] w (HPost w H pages s (sealP s p).2 (.int .i64 (sealP s p).1)) := by
  obtain ⟨-, c1⟩ := h.hcells
  obtain ⟨o, hom, hox, hlk⟩ := h.lookupP p
  have hlk := hlk w (Below.refl _ _)
  have HH := Lib.hid h
  cases o with
  | none =>
    rw [show ptrH none = .pointer none from rfl] at hlk
    have HS : Hid (sealP s p = (16, s)) := by show _ = _; unfold sealP; rw [← hox]; rfl
    clear h hom hox
    go_enter Tryz.func30, Tryz.ntmps30
    go_wp2
    go_ret
    rw [HS.out]
    exact HH.out.stays (Below.refl _ _) rfl
  | some y =>
    rw [show ptrH (some y) = .pointer (some ⟨y.hb, 0, none⟩) from rfl] at hlk
    have hy := hom y rfl
    have hE := h.each y hy
    obtain ⟨y0, y1⟩ := hE.cells
    have hgp : getP s.A p = some y.x := hox.symm
    have hyA := h.mem' hy
    have HY := Lib.hid hy
    have hsp : sealP s p = if y.x.sealed then (20, s) else if y.x.empty then (0, closeP s y.x) else (0, ⟨s.l, updP s.A { y.x with sealed := true }⟩) := by unfold sealP; rw [hgp]
    have HEM := Lib.hid (hempty_any pages H.cl H.bs y w hE (h.inv.each y.x hyA))
    have HCL := Lib.hid (hclose_any h hy)
    cases hsd : y.x.sealed with
    | true =>
      rw [hsd] at y1 hsp
      have HS : Hid (sealP s p = (20, s)) := hsp
      clear h hom hox hy hE hgp hyA hsd hsp
      go_enter Tryz.func30, Tryz.ntmps30
      go_wp2
      go_ret
      rw [HS.out]
      exact HH.out.stays (Below.refl _ _) rfl
    | false =>
      rw [hsd] at y1 hsp
      cases hem : y.x.empty with
      | true =>
        rw [hem] at hsp HEM
        have HS : Hid (sealP s p = (0, closeP s y.x)) := hsp
        clear h hom hox hy hE hgp hyA hsd hsp hem
        go_enter Tryz.func30, Tryz.ntmps30
        go_wp2_with (fail)
        refine HEM.out.mono ?_
        rintro e w1 ⟨rfl, rfl⟩
        go_wp2_with (fail)
        refine HCL.out.mono ?_
        rintro e w2 hp
        have HF : Hid (HPost w H pages s (closeP s y.x) (.int .i64 0) (.returned (.int .i64 0)) w2) := ⟨rfl, hp.2⟩
        obtain ⟨rfl, -⟩ := hp
        go_wp2
        go_ret
        rw [HS.out]
        exact HF.out
      | false =>
        rw [hem] at hsp HEM
        have HS : Hid (sealP s p = (0, ⟨s.l, updP s.A { y.x with sealed := true }⟩)) := hsp
        have f1 := frozen_of_block hE.held 1
        have hidx := idxR_of h.inv.tile (h.inv.tk y.x hyA)
        obtain ⟨st, hst⟩ := h.ent.ent y.x hyA y.x.page (Nat.le_refl _) (by omega)
        have hb4 := h.sum hyA
        have hcls := (h.inv.each y.x hyA).cls
        have hheld : w.heap[y.hb]? = some (.cells #[.pointer (some ⟨y.sb, 0, none⟩), .bool false] 82 (0, 0)) := by have := hE.held; unfold heldC at this; rw [hsd] at this; exact this
        have hs2 : w.heap[y.sb]? = some (.cells _ 131 (0, 0)) := hE.slab
        have hne1 := block_ne hE.held hs2 (by decide)
        have hne2 := block_ne hE.held h.obj (by decide)
        have hne3 := block_ne hE.held h.ground.obj (by decide)
        have hy5 := (h.offs.2.2.2.2 y hy).1
        have HMK : Hid (Calls Tryz.prog 66 #[.pointer (some ⟨H.h, 0, none⟩), .pointer (some ⟨y.hb, 0, none⟩)] (w.setCell ⟨y.hb, 1, none⟩ (.bool true)) (HPost w H pages s ⟨s.l, updP s.A { y.x with sealed := true }⟩ (.int .i64 0))) := by
          have hh1 : (w.setCell ⟨y.hb, 1, none⟩ (.bool true)).heap[y.hb]? = some (.cells #[.pointer (some ⟨y.sb, 0, none⟩), .bool true] 82 (0, 0)) := by rw [heap_setCell_eq hheld]; rfl
          have t1 : Turned (fun k => k = y.hb) w (w.setCell ⟨y.hb, 1, none⟩ (.bool true)) := (Turned.refl (fun k => k = y.hb) w).setCell (.inl rfl) _
          refine (hmark_any (hb := y.hb) (sb := y.sb) (x := y.x) ((t1.block _ (lt_of_block h.obj) (fun e => hne2 e.symm)).trans h.obj) (h.ground.turned t1 (fun e => hne3 e.symm) (fun j hj e => hy5 (by rw [← e]; exact hj))) hh1 (hE.slab.turned t1 (fun e => hne1 e.symm)) hcls hidx hst rfl hb4).mono ?_
          intro e w' hp
          exact HPost.of_mark h hy true hh1 t1 (p := H.p) hp
        clear h hom hox hy hE hgp hyA hsd hsp hem hidx hst hheld hs2 hne1 hne2 hne3 hy5
        go_enter Tryz.func30, Tryz.ntmps30
        go_wp2_with (fail)
        refine HEM.out.mono ?_
        rintro e w1 ⟨rfl, rfl⟩
        go_wp2_with (fail)
        refine HMK.out.mono ?_
        rintro e w2 hp
        have HF := Lib.hid hp
        obtain ⟨rfl, -⟩ := hp
        go_wp2
        go_ret
        rw [HS.out]
        exact HF.out

set_option maxRecDepth 8000 in
set_option maxHeartbeats 4000000 in
theorem hunseal_any {w : World} {H : HL} {pages : Nat} {s : HP} (h : HeapAt w H pages s) (p : Int) :
    Calls Tryz.prog 31 #[.pointer (some ⟨H.h, 0, none⟩), .int .i64 p] w (HPost w H pages s (unsealP s p).2 (.int .i64 (unsealP s p).1)) := by
  obtain ⟨-, c1⟩ := h.hcells
  obtain ⟨o, hom, hox, hlk⟩ := h.lookupP p
  have hlk := hlk w (Below.refl _ _)
  have HH := Lib.hid h
  cases o with
  | none =>
    rw [show ptrH none = .pointer none from rfl] at hlk
    have HS : Hid (unsealP s p = (16, s)) := by show _ = _; unfold unsealP; rw [← hox]; rfl
    clear h hom hox
    go_enter Tryz.func31, Tryz.ntmps31
    go_wp2
    go_ret
    rw [HS.out]
    exact HH.out.stays (Below.refl _ _) rfl
  | some y =>
    rw [show ptrH (some y) = .pointer (some ⟨y.hb, 0, none⟩) from rfl] at hlk
    have hy := hom y rfl
    have hE := h.each y hy
    obtain ⟨y0, y1⟩ := hE.cells
    have hgp : getP s.A p = some y.x := hox.symm
    have hyA := h.mem' hy
    have HY := Lib.hid hy
    have hsp : unsealP s p = if y.x.sealed then (0, ⟨s.l, updP s.A { y.x with sealed := false }⟩) else (20, s) := by unfold unsealP; rw [hgp]
    cases hsd : y.x.sealed with
    | false =>
      rw [hsd] at y1 hsp
      have HS : Hid (unsealP s p = (20, s)) := hsp
      clear h hom hox hy hE hgp hyA hsd hsp
      go_enter Tryz.func31, Tryz.ntmps31
      go_wp2
      go_ret
      rw [HS.out]
      exact HH.out.stays (Below.refl _ _) rfl
    | true =>
      rw [hsd] at y1 hsp
      have HS : Hid (unsealP s p = (0, ⟨s.l, updP s.A { y.x with sealed := false }⟩)) := hsp
      have f1 := frozen_of_block hE.held 1
      have hidx := idxR_of h.inv.tile (h.inv.tk y.x hyA)
      obtain ⟨st, hst⟩ := h.ent.ent y.x hyA y.x.page (Nat.le_refl _) (by omega)
      have hb4 := h.sum hyA
      have hcls := (h.inv.each y.x hyA).cls
      have hheld : w.heap[y.hb]? = some (.cells #[.pointer (some ⟨y.sb, 0, none⟩), .bool true] 82 (0, 0)) := by have := hE.held; unfold heldC at this; rw [hsd] at this; exact this
      have hs2 : w.heap[y.sb]? = some (.cells _ 131 (0, 0)) := hE.slab
      have hne1 := block_ne hE.held hs2 (by decide)
      have hne2 := block_ne hE.held h.obj (by decide)
      have hne3 := block_ne hE.held h.ground.obj (by decide)
      have hy5 := (h.offs.2.2.2.2 y hy).1
      have HMK : Hid (Calls Tryz.prog 66 #[.pointer (some ⟨H.h, 0, none⟩), .pointer (some ⟨y.hb, 0, none⟩)] (w.setCell ⟨y.hb, 1, none⟩ (.bool false)) (HPost w H pages s ⟨s.l, updP s.A { y.x with sealed := false }⟩ (.int .i64 0))) := by
        have hh1 : (w.setCell ⟨y.hb, 1, none⟩ (.bool false)).heap[y.hb]? = some (.cells #[.pointer (some ⟨y.sb, 0, none⟩), .bool false] 82 (0, 0)) := by rw [heap_setCell_eq hheld]; rfl
        have t1 : Turned (fun k => k = y.hb) w (w.setCell ⟨y.hb, 1, none⟩ (.bool false)) := (Turned.refl (fun k => k = y.hb) w).setCell (.inl rfl) _
        refine (hmark_any (hb := y.hb) (sb := y.sb) (x := y.x) ((t1.block _ (lt_of_block h.obj) (fun e => hne2 e.symm)).trans h.obj) (h.ground.turned t1 (fun e => hne3 e.symm) (fun j hj e => hy5 (by rw [← e]; exact hj))) hh1 (hE.slab.turned t1 (fun e => hne1 e.symm)) hcls hidx hst rfl hb4).mono ?_
        intro e w' hp
        exact HPost.of_mark h hy false hh1 t1 (p := H.p) hp
      clear h hom hox hy hE hgp hyA hsd hsp hidx hst hheld hs2 hne1 hne2 hne3 hy5
      go_enter Tryz.func31, Tryz.ntmps31
      go_wp2_with (fail)
      refine HMK.out.mono ?_
      rintro e w2 hp
      have HF := Lib.hid hp
      obtain ⟨rfl, -⟩ := hp
      go_wp2
      go_ret
      rw [HS.out]
      exact HF.out

end Go.Proofs.YtlljejmblmjjnaaGreat

/- newheap: Rows. -/
namespace Go.Proofs.YtlljejmblmjjnaaGreat
set_option linter.unusedVariables false
set_option linter.unusedSimpArgs false
open Go.RowKit Go.ChangeMaps

theorem info_hrow : (Tryz.prog.info? 52).map (fun i => (i.zero, i.size, i.bytes)) = some (some (.agg #[.int .i64 0, .int .i64 0, .bool false]), 3, 24) := by kernel_rfl
def rowV1 (x : PS) : List Value := [.int .i64 x.page, .int .i64 (x.L.length : Nat), .bool x.sealed]
def rowVs (l : List PS) : List Value := l.flatMap rowV1
theorem rowVs_append (a b : List PS) : rowVs (a ++ b) = rowVs a ++ rowVs b := by simp [rowVs]
theorem cell_three_new (w : World) (a b c : Value) (T : TypeId) : ∀ j u, [a, b, c][j]? = some u → (w.alloc (.cells #[a, b, c] T)).cell? ((⟨w.heap.size, 0, none⟩ : Addr).add j) = some u := by
  intro j u hj
  match j, hj with
  | 0, hj => simp at hj; subst hj; simp [Addr.add, go_sem]
  | 1, hj => simp at hj; subst hj; simp [Addr.add, go_sem]
  | 2, hj => simp at hj; subst hj; simp [Addr.add, go_sem]
theorem Sorted.ofC {H : HL} {s : HP} {zs : List HS} (h : Sorted H s zs) (cls : Int) : (ofC zs cls).map (·.x) = clsP s.A cls := by
  unfold clsP
  rw [← h.2, List.filter_map]
  rfl
def RowsPost (w : World) (l : List PS) (e : Ending) (w' : World) : Prop :=
  ∃ v, e = .returned v ∧ w'.ownsRow w.heap.size 52 3 v l.length (rowVs l) ∧ Below w.heap.size w w'

set_option maxRecDepth 8000 in
set_option maxHeartbeats 2000000 in
theorem hrows_any {w : World} {H : HL} {pages : Nat} {s : HP} (h : HeapAt w H pages s) (cls : Int) :
    Calls Tryz.prog 15 #[.pointer (some ⟨H.h, 0, none⟩), .int .i64 cls] w (RowsPost w (clsP s.A cls)) := by
  obtain ⟨i0, hi, hz0, hz1, hz2⟩ := info_parts info_hrow
  obtain ⟨b1, b2, b3⟩ := h.bound
  obtain ⟨zs, hz⟩ := h.sorted
  have hzl : zs.length = s.A.length := by rw [← hz.2, List.length_map]
  have hol : (ofC zs cls).length ≤ 64 := by have := ofC_le zs cls zs.length; rw [List.take_length] at this; omega
  have HOF := Lib.hid (of_any h hz cls)
  have hmem : ∀ y ∈ ofC zs cls, y ∈ H.xs := fun y hy => hz.1.mem_iff.1 (List.mem_filter.1 hy).1
  have HMAP := Lib.hid (hz.ofC cls)
  have HH := Lib.hid h
  clear h hz
  generalize ofC zs cls = ys at *
  go_enter Tryz.func15, Tryz.ntmps15
  go_wp2_with (fail)
  refine HOF.out.mono ?_
  rintro e w1 ⟨v1, rfl, hrow, hb1⟩
  obtain ⟨pv, cap, rfl, hkeys⟩ := ownsRow_ints hrow
  have HK := Lib.hid hkeys
  have HB1 := Lib.hid hb1
  have hs1 := hb1.size
  clear hrow hkeys hb1
  go_wp2
  go_loopw [5, 12] (fun v i wr => ∃ k : Nat, k ≤ ys.length ∧ i = .int .i64 k ∧ Below w1.heap.size w1 wr ∧ wr.ownsRow w1.heap.size 52 3 v k (rowVs ((ys.take k).map (·.x)))) (fun _ i _ => ys.length - (intOf i).toNat)
  case atStart => exact ⟨0, Nat.zero_le _, rfl, Below.refl _ _, World.ownsRow_nil _ _ _ _⟩
  case round =>
    obtain ⟨k, hk, rfl, hbl, hrow⟩ := hrel
    by_cases hlt : k < ys.length
    · obtain ⟨g, rfl, hg, hcell⟩ := HK.out k hlt
      rw [hbV_get hlt] at hcell
      have hcell2 := cell_past hbl hg hcell
      have hbwr : Below w.heap.size w wr := HB1.out.trans (hbl.mono hs1)
      have hym := hmem _ (List.getElem_mem hlt)
      have hE := (HH.out.below hbwr).each _ hym
      obtain ⟨y0, y1⟩ := hE.cells
      have HST : Hid (rowVs ((ys.take (k + 1)).map (·.x)) = rowVs ((ys.take k).map (·.x)) ++ [.int .i64 (ys[k].x.page : Int), .int .i64 (ys[k].x.L.length : Nat), .bool ys[k].x.sealed]) := by
        show _ = _
        rw [List.take_succ_eq_append_getElem hlt, List.map_append, rowVs_append]
        rfl
      have HPG : Hid (∀ W, Below wr.heap.size wr W → Calls Tryz.prog 42 #[.pointer (some ⟨ys[k].sb, 0, none⟩)] W fun e w' => e = .returned (.int .i64 ys[k].x.page) ∧ W = w') := fun W hW => page_any ys[k].sb H.cl ys[k].x W (hE.slab.below hW)
      have HFR : Hid (∀ W, Below wr.heap.size wr W → Calls Tryz.prog 43 #[.pointer (some ⟨ys[k].sb, 0, none⟩)] W fun e w' => e = .returned (.int .i64 (ys[k].x.L.length : Nat)) ∧ W = w') := fun W hW => free_any ys[k].sb H.cl ys[k].x.S W (hE.slab.below hW)
      have hi1 : (0 : Int) ≤ k ∧ (k : Int) < ys.length := by omega
      have hkw : IntKind.i64.wrap ((k : Int) + 1) = (k : Int) + 1 := by rw [IntKind.wrap_i64]; omega
      have HBL := Lib.hid hbl
      have HROW := Lib.hid hrow
      have hltr := hbl.size
      obtain ⟨yw0, yw1⟩ := ((HH.out.below HB1.out).each _ hym).cells
      have HEH := Lib.hid (HH.out.each _ hym).held
      clear hcell hym hE hbl hrow hbwr
      generalize ys[k] = y at *
      generalize y.x.page = pg at *
      generalize y.x.L.length = fr at *
      generalize y.x.sealed = sd at *
      go_upto_region 5 with (fail)
      have hyl1 : y.hb < w1.heap.size := by have := lt_of_block HEH.out; omega
      have HBD := Lib.hid ((HBL.out).drew)
      have HROWD := Lib.hid (HROW.out.drew)
      go_region_held3 (fun W : World => W.cell? ⟨y.hb, 0, none⟩ = some (.pointer (some ⟨y.sb, 0, none⟩)) ∧ W.cell? ⟨y.hb, 1, none⟩ = some (.bool sd)) (go_keep)
        ((first
          | (go_at_call 42; refine (HPG.out _ (Below.drew (Below.refl _ wr))).mono ?_; rintro e wA ⟨rfl, rfl⟩)
          | (go_at_call 43; refine (HFR.out _ (Below.drew (Below.refl _ wr))).mono ?_; rintro e wB ⟨rfl, rfl⟩)
          | (refine step_append_own rfl _ _ 46 rfl w1.heap.size 52 i0 (.agg #[.int .i64 0, .int .i64 0, .bool false]) 3 24 Tryz.underlying46 hi hz0 hz1 hz2 rfl (by decide) _ _ _ rfl (HROWD.out.alloc _) ⟨wr.heap.size, 0, none⟩ 1 1 [.int .i64 pg, .int .i64 fr, .bool sd] rfl rfl (cell_three_new wr.drew _ _ _ _) (fun u hu => by simp at hu; rcases hu with rfl | rfl | rfl <;> rfl) (by unfold maxLen; omega) (by omega) (by simp; omega) ?_; intro v' w4 hown' hgrow3 hnil3
             have HB4 : Hid (Below w1.heap.size w1 w4) := Below.grown (HBD.out.alloc hltr _) hgrow3 (by simp; omega) (fun j e => (HROWD.out.lt j e).1)
             have HO4 := Lib.hid hown'
             have k0 := cell_past HB4.out hyl1 yw0
             have k1 := cell_past HB4.out hyl1 yw1
             clear hown' hgrow3 hnil3)))
      go_wp2
      go_roundw
      case rel => exact ⟨k + 1, by omega, by go_num, HB4.out, by rw [HST.out]; exact HO4.out⟩
      case measure => simp [intOf]; omega
    · obtain rfl : k = ys.length := by omega
      have HBX := Lib.hid (HB1.out.trans (hbl.mono HB1.out.size))
      have HEND := Lib.hid hrow
      clear hrow hbl
      go_wp2
      go_ret
      have h1 := HEND.out
      rw [List.take_length, HMAP.out] at h1
      have h2 : ys.length = (clsP s.A cls).length := by rw [← HMAP.out, List.length_map]
      rw [h2] at h1
      exact ⟨_, rfl, own_mono h1 hs1, HBX.out⟩

end Go.Proofs.YtlljejmblmjjnaaGreat

/- newheap: Taken. -/
namespace Go.Proofs.YtlljejmblmjjnaaGreat
set_option linter.unusedVariables false
set_option linter.unusedSimpArgs false
open Go.RowKit Go.ChangeMaps

theorem takenP_succ {A : List PS} {k : Nat} (hk : k < A.length) : takenP (A.take (k + 1)) = takenP (A.take k) ++ (takenL A[k].S).map fun j => ((A[k].addr j : Nat) : Int) := by
  unfold takenP
  rw [List.take_succ_eq_append_getElem hk, List.flatMap_append]
  simp
def addrL (x : PS) (j : Nat) : List Int := ((takenL x.S).take j).map fun k => ((x.addr k : Nat) : Int)
theorem addrL_succ {x : PS} {j : Nat} (hj : j < (takenL x.S).length) : addrL x (j + 1) = addrL x j ++ [((x.addr (takenL x.S)[j] : Nat) : Int)] := by
  unfold addrL
  rw [List.take_succ_eq_append_getElem hj, List.map_append]
  rfl
theorem intsV_append (a b : List Int) : intsV (a ++ b) = intsV a ++ intsV b := List.map_append ..
/-- Between two worlds the blocks of a part are as they were. -/
def Part (a b : Nat) (w w' : World) : Prop := ∀ k, a ≤ k → k < b → w'.heap[k]? = w.heap[k]?
def TakI (w1 w2 wr : World) (B : Nat) (pre : List Int) (x : PS) (v i : Value) : Prop :=
  ∃ j : Nat, j ≤ (takenL x.S).length ∧ i = .int .i64 j ∧ Below w1.heap.size w1 wr ∧ wr.ownsRow w1.heap.size 3 1 v (pre.length + j) (intsV (pre ++ addrL x j)) ∧ Part B w2.heap.size w2 wr ∧ (∀ b, v.ownBlock = some b → b < B ∨ w2.heap.size ≤ b) ∧ w2.heap.size ≤ wr.heap.size

set_option maxRecDepth 8000 in
set_option maxHeartbeats 4000000 in
theorem htaken_own {w : World} {H : HL} {pages : Nat} {s : HP} (h : HeapAt w H pages s) :
    Calls Tryz.prog 14 #[.pointer (some ⟨H.h, 0, none⟩)] w fun e w' => ∃ v, e = .returned v ∧ w'.ownsRow w.heap.size 3 1 v (takenP s.A).length (intsV (takenP s.A)) ∧ Below w.heap.size w w' := by
  obtain ⟨i0, hi, hz0, hz1, hz2⟩ := info_parts info_int2
  obtain ⟨b1, b2, b3⟩ := h.bound
  obtain ⟨-, c1⟩ := h.hcells
  have hhl := cell_lt c1
  have HH := Lib.hid h
  have HP := Lib.hid (pages_any h)
  have hmost := h.ground.map.most
  have HOKS := Lib.hid h.inv.each
  clear h
  go_enter Tryz.func14, Tryz.ntmps14
  go_wp2_with (fail)
  refine HP.out.mono ?_
  rintro e w1 ⟨v1, rfl, hrow, hb1⟩
  obtain ⟨pv, cap, rfl, hkeys⟩ := ownsRow_ints hrow
  have HK := Lib.hid hkeys
  have HB1 := Lib.hid hb1
  have hs1 := hb1.size
  clear hrow hkeys hb1
  go_wp2
  go_loopw [3, 16] (fun v i wr => ∃ k : Nat, k ≤ s.A.length ∧ i = .int .i64 k ∧ Below w1.heap.size w1 wr ∧ wr.ownsRow w1.heap.size 3 1 v (takenP (s.A.take k)).length (intsV (takenP (s.A.take k)))) (fun _ i _ => s.A.length - (intOf i).toNat)
  case atStart => exact ⟨0, Nat.zero_le _, rfl, Below.refl _ _, World.ownsRow_nil _ _ _ _⟩
  case round =>
    obtain ⟨k, hk, rfl, hbl, hrow⟩ := hrel
    by_cases hlt : k < s.A.length
    · obtain ⟨g, rfl, hg, hcell⟩ := HK.out k hlt
      have hcell2 : wr.cell? ⟨g, k, none⟩ = some (.int .i64 (s.A[k].page : Int)) := by
        refine cell_past hbl hg (hcell.trans ?_)
        simp [pagesI, hlt]
      have hbwr : Below w.heap.size w wr := HB1.out.trans (hbl.mono hs1)
      have c1' : wr.cell? ⟨H.h, 1, none⟩ = some (.map (some H.mb)) := cell_past hbwr hhl c1
      have hHr := HH.out.below hbwr
      obtain ⟨y, hy, hyx⟩ := HH.out.mem (List.getElem_mem hlt)
      rw [← hyx] at hcell2
      have hlk := hHr.lookup hy
      have hE := hHr.each _ hy
      obtain ⟨y0, -⟩ := hE.cells
      have HSUC := Lib.hid (takenP_succ hlt)
      rw [← hyx] at HSUC
      have hok := HOKS.out _ (List.getElem_mem hlt)
      rw [← hyx] at hok
      have hpre : (takenP (s.A.take k)).length ≤ 128 * 64 := by
        have := takenP_le (pages := pages) (A := s.A.take k) (fun x hx => HOKS.out x (List.mem_of_mem_take hx))
        rw [List.length_take] at this
        omega
      have htl : (takenL y.x.S).length ≤ 128 := by
        unfold takenL
        refine Nat.le_trans (List.length_filter_le _ _) ?_
        rw [List.length_range]
        exact (slB_le hok.cls).2.1
      have HTK := Lib.hid (staken_yes y.sb H.cl H.cb H.bs y.x.S wr hE.slab hHr.cells hE.ok)
      have hi1 : (0 : Int) ≤ k ∧ (k : Int) < s.A.length := by omega
      have hkw : IntKind.i64.wrap ((k : Int) + 1) = (k : Int) + 1 := by rw [IntKind.wrap_i64]; omega
      have HBL := Lib.hid hbl
      have HBW := Lib.hid hbwr
      have hltr := hbl.size
      have HROW := Lib.hid hrow
      have HY := Lib.hid hy
      have HOK := Lib.hid hok
      have hyl := cell_lt y0
      clear hcell hHr hE hbl hbwr hrow hyx hy hok
      generalize takenP (s.A.take k) = pre at *
      go_wp2_with (fail)
      refine HTK.out.mono ?_
      rintro e w2 ⟨vl, rfl, hints, hb2⟩
      obtain ⟨pl, cl, rfl, hcl⟩ := hints
      have hs2 := hb2.size
      have HCL : Hid (∀ j (hj : j < (takenL y.x.S).length), ∃ g, pl = some ⟨g, 0, none⟩ ∧ wr.heap.size ≤ g ∧ g < w2.heap.size ∧ w2.cell? ⟨g, j, none⟩ = some (.int .i64 ((takenL y.x.S)[j] : Nat))) := by
        intro j hj
        have hln : (intsN (takenL y.x.S)).length = (takenL y.x.S).length := List.length_map _
        obtain ⟨g, q1, q2, q3⟩ := hcl (by intro e; rw [e] at hln; simp at hln; omega)
        have q4 := q3 j (by omega)
        refine ⟨g, q1, q2, cell_lt q4, ?_⟩
        rw [q4]
        unfold intsN
        rw [List.getD_eq_getElem?_getD, List.getElem?_map, List.getElem?_eq_getElem hj]
        rfl
      have hlen : (intsN (takenL y.x.S)).length = (takenL y.x.S).length := List.length_map _
      rw [hlen]
      have HB2 := Lib.hid (Below.via hb2 hltr HBL.out)
      have HROW2 := Lib.hid (ownsRow_below HROW.out hb2)
      have HOB : Hid (∀ v : Value, wr.ownsRow w1.heap.size 3 1 v pre.length (intsV pre) → ∀ b, v.ownBlock = some b → b < wr.heap.size) := fun v hv b hb => (hv.lt b hb).2
      have hOB2 := HOB.out _ HROW.out
      have HOB2 := Lib.hid hOB2
      clear hb2 hcl hOB2 HOB
      have z0 := cell_past HB2.out (by have := HB1.out.size; have := lt_of_block (HH.out.each y HY.out).held; omega : y.hb < w1.heap.size) ((((HH.out.below HB1.out).each y HY.out).cells).1)
      go_wp2
      obtain ⟨B, hB⟩ : ∃ B, B = wr.heap.size := ⟨_, rfl⟩
      rw [← hB] at HCL HOB2 hs2
      have hltrB : w1.heap.size ≤ B := by rw [hB]; exact hltr
      go_loopw [3, 36] (fun v i wr => TakI w1 w2 wr B pre y.x v i) (fun _ i _ => (takenL y.x.S).length - (intOf i).toNat)
      case atStart =>
        refine ⟨0, Nat.zero_le _, rfl, HB2.out, ?_, fun _ _ _ => rfl, fun b hb => .inl (HOB2.out b hb), Nat.le_refl _⟩
        rw [show addrL y.x 0 = [] from rfl, List.append_nil]
        exact HROW2.out
      case round =>
        obtain ⟨j, hj, rfl, hbq, hrq, hpq, hob, hsq⟩ := hrel
        by_cases hjl : j < (takenL y.x.S).length
        · obtain ⟨gl, rfl, g1, g2, g3⟩ := HCL.out j hjl
          have x1 : wr.cell? ⟨gl, j, none⟩ = some (.int .i64 ((takenL y.x.S)[j] : Nat)) := (World.cell?_of_block (a := ⟨gl, j, none⟩) (hpq gl g1 g2)).trans g3
          have hy1 : y.hb < w1.heap.size := by have := HB1.out.size; have := lt_of_block (HH.out.each y HY.out).held; omega
          have z1 := cell_past hbq hy1 ((((HH.out.below HB1.out).each y HY.out).cells).1)
          have hBq : Below w.heap.size w wr := HB1.out.trans (hbq.mono hs1)
          have htm := List.getElem_mem hjl
          have htl2 : (takenL y.x.S)[j] < slB y.x.cls := (takenL_mem.1 htm).1
          have hft := HOK.out.fits
          have HAD : Hid (Calls Tryz.prog 40 #[.pointer (some ⟨y.sb, 0, none⟩), .int .i64 ((takenL y.x.S)[j] : Nat)] wr fun e w' => e = .returned (.tuple #[.int .i64 ((y.x.addr (takenL y.x.S)[j] : Nat) : Int), .bool true]) ∧ Below wr.heap.size wr w') := by
            have := address_any y.sb H.cl y.x.S ((takenL y.x.S)[j] : Nat) wr ((HH.out.below hBq).each y HY.out).slab HOK.out.cls (by show 256 * y.x.page < 2 ^ 40; omega)
            rw [if_pos ⟨by omega, by show ((_ : Nat) : Int) < ((slB y.x.cls : Nat) : Int); omega⟩] at this
            have ea : (((y.x.S.base : Nat) : Int) + (((takenL y.x.S)[j] : Nat) : Int) * ((szB y.x.S.cls : Nat) : Int)) = ((y.x.addr (takenL y.x.S)[j] : Nat) : Int) := by
              unfold PS.addr
              rw [Int.natCast_add, Int.natCast_mul]
              rfl
            rw [ea] at this
            exact this
          have HST := Lib.hid (addrL_succ hjl)
          have hj1 : (0 : Int) ≤ j ∧ (j : Int) < (takenL y.x.S).length := by omega
          have hjw : IntKind.i64.wrap ((j : Int) + 1) = (j : Int) + 1 := by rw [IntKind.wrap_i64]; omega
          have HBQ := Lib.hid hbq
          have HRQ := Lib.hid hrq
          have HPQ := Lib.hid hpq
          have HOBQ := Lib.hid hob
          have hszq := hbq.size
          clear hbq hrq hpq hob htm htl2 g3 hBq
          generalize (takenL y.x.S)[j] = tj at *
          generalize y.x.addr tj = ad at *
          go_wp2_with (fail)
          refine HAD.out.mono ?_
          rintro e w3 ⟨rfl, hb3⟩
          have hs3 : wr.heap.size ≤ w3.heap.size := hb3.size
          have HB3 := Lib.hid (Below.via hb3 hszq HBQ.out)
          have HRW3 := Lib.hid (ownsRow_below HRQ.out hb3)
          have HP3 : Hid (Part B w2.heap.size w2 w3) := fun q q1 q2 => (hb3.block q (by omega)).trans (HPQ.out q q1 q2)
          have hw31 := HB3.out.size
          clear hb3 x1 z1
          go_wp2_with (at_builtin; refine wpList_append_own_at _ rfl _ _ 37 rfl w1.heap.size 3 i0 (.int .i64 0) 1 8 Tryz.underlying37 hi hz0 hz1 hz2 rfl (by decide) _ _ _ rfl (HRW3.out.alloc _) ⟨w3.heap.size, 0, none⟩ 1 1 [.int .i64 ad] rfl rfl (cell_one_new _ _ _) (fun u hu => by simp at hu; rcases hu with rfl; rfl) (by unfold maxLen; omega) (by omega) (by simp; omega) ?_; intro v' w4 hown' hgrow4 hnil4 hat4)
          have HI4 : Hid (TakI w1 w2 w4 B pre y.x v' (.int .i64 ((j : Int) + 1))) := by
            have hown3 := HRW3.out.alloc (.cells #[.int .i64 ad] 3)
            have hsz4 := hgrow4.size
            have hal : (w3.alloc (.cells #[.int .i64 ad] 3)).heap.size = w3.heap.size + 1 := by simp
            refine ⟨j + 1, hjl, by go_num, Below.grown (HB3.out.alloc hw31 _) hgrow4 (by simp; omega) (fun q e => (hown3.lt q e).1), ?_, ?_, ?_, by omega⟩
            · rw [HST.out, ← List.append_assoc, intsV_append, ← Nat.add_assoc]
              exact hown'
            · intro q q1 q2
              refine (hgrow4.block q (by omega) (fun e => ?_)).trans ((heap_alloc_old _ _ (by omega)).trans (HP3.out q q1 q2))
              have := HOBQ.out q e.symm
              omega
            · intro b hb
              rcases hat4 with e | e
              · rw [e] at hb; exact HOBQ.out b hb
              · rw [e] at hb
                cases hb
                right
                omega
          clear hown' hgrow4 hnil4 hat4
          go_wp2
          go_roundw
          case rel => exact HI4.out
          case measure => simp [intOf]; omega
        · have hjl2 : j = (takenL y.x.S).length := by omega
          have HRQ : Hid (wr.ownsRow w1.heap.size 3 1 _ _ _) := hrq
          have HBQ := Lib.hid hbq
          clear hbq hrq hpq hob
          go_wp2
          go_roundw
          case rel =>
            refine ⟨k + 1, hlt, by go_num, HBQ.out, ?_⟩
            have h1 := HRQ.out
            rw [hjl2] at h1
            have e1 : addrL y.x (takenL y.x.S).length = (takenL y.x.S).map fun j => ((y.x.addr j : Nat) : Int) := by
              unfold addrL
              rw [List.take_length]
            rw [e1] at h1
            rw [HSUC.out, List.length_append, List.length_map]
            exact h1
          case measure => simp [intOf]; omega
    · obtain rfl : k = s.A.length := by omega
      have HBX := Lib.hid (HB1.out.trans (hbl.mono HB1.out.size))
      have HEND := Lib.hid hrow
      clear hrow hbl
      go_wp2
      go_ret
      have h1 := HEND.out
      rw [List.take_length] at h1
      exact ⟨_, rfl, ⟨h1.1, h1.2.imp id fun ⟨g, c, cur, a1, a2, a3⟩ => ⟨g, c, cur, a1, Nat.le_trans hs1 a2, a3⟩⟩, HBX.out⟩
theorem htaken_any {w : World} {H : HL} {pages : Nat} {s : HP} (h : HeapAt w H pages s) :
    Calls Tryz.prog 14 #[.pointer (some ⟨H.h, 0, none⟩)] w fun e w' => ∃ v, e = .returned v ∧ Ints w' w.heap.size v (takenP s.A) ∧ Below w.heap.size w w' :=
  (htaken_own h).mono fun _ _ ⟨v, h1, h2, h3⟩ => ⟨v, h1, Ints.of_own h2 rfl, h3⟩

end Go.Proofs.YtlljejmblmjjnaaGreat
