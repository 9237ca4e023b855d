/- newslab: a slab in memory; Address, Slot, next, push. -/
import Derived.Test.YtlljejmblmjjnaaGreatNA
import Derived.Laws.Rows
namespace Go.Proofs.YtlljejmblmjjnaaGreat
set_option linter.unusedVariables false
set_option linter.unusedSimpArgs false
open Go.RowKit Go.ChangeMaps

def szB (c : Nat) : Nat := [8, 16, 24, 32, 48, 64, 96, 128, 192, 256, 384, 512].getD c 0
theorem szB_cases {c : Nat} (h : c < 12) : szB c = 8 ∨ szB c = 16 ∨ szB c = 24 ∨ szB c = 32 ∨ szB c = 48 ∨ szB c = 64 ∨ szB c = 96 ∨ szB c = 128 ∨ szB c = 192 ∨ szB c = 256 ∨ szB c = 384 ∨ szB c = 512 := by
  have : c = 0 ∨ c = 1 ∨ c = 2 ∨ c = 3 ∨ c = 4 ∨ c = 5 ∨ c = 6 ∨ c = 7 ∨ c = 8 ∨ c = 9 ∨ c = 10 ∨ c = 11 := by omega
  rcases this with rfl | rfl | rfl | rfl | rfl | rfl | rfl | rfl | rfl | rfl | rfl | rfl <;> decide
theorem szB_sizeB {c : Nat} (h : c < 12) : sizeB (c : Int) = (szB c : Nat) := by
  have : c = 0 ∨ c = 1 ∨ c = 2 ∨ c = 3 ∨ c = 4 ∨ c = 5 ∨ c = 6 ∨ c = 7 ∨ c = 8 ∨ c = 9 ∨ c = 10 ∨ c = 11 := by omega
  rcases this with rfl | rfl | rfl | rfl | rfl | rfl | rfl | rfl | rfl | rfl | rfl | rfl <;> decide
def slB (c : Nat) : Nat := 1024 / szB c
theorem szB_pos {c : Nat} (h : c < 12) : 8 ≤ szB c ∧ szB c ≤ 512 := by have := szB_cases h; omega
theorem slB_le {c : Nat} (h : c < 12) : 2 ≤ slB c ∧ slB c ≤ 128 ∧ slB c * szB c ≤ 1024 := by
  have h1 := szB_cases h
  unfold slB
  rcases h1 with e | e | e | e | e | e | e | e | e | e | e | e <;> rw [e] <;> decide

def nextN : List Nat → Nat | [] => 0 | s :: _ => s + 1
def headI : List Nat → Int | [] => -1 | s :: _ => s
theorem headI_nextN (l : List Nat) : headI l + 1 = (nextN l : Int) := by cases l <;> simp [headI, nextN]
theorem headI_eq (l : List Nat) : headI l = (nextN l : Int) - 1 := by have := headI_nextN l; omega

/-- A slab: where it begins, its class, its free slots. -/
structure SM where
  base : Nat
  cls : Nat
  L : List Nat

/-- The free slots' words. -/
def FreeAt (bs : List Int) (base size cls : Nat) : List Nat → Prop
  | [] => True
  | s :: l => wordN bs (base + s * size) 8 = (slabW s (nextN l) cls : Nat) ∧ FreeAt bs base size cls l

structure SlabOk (bs : List Int) (S : SM) : Prop where
  al : S.base % 1024 = 0
  fits : S.base + 1024 ≤ bs.length
  cls : S.cls < 12
  nodup : S.L.Nodup
  lt : ∀ s ∈ S.L, s < slB S.cls
  free : FreeAt bs S.base (szB S.cls) S.cls S.L

def slabC (c : Nat) (S : SM) : Array Value :=
  #[.pointer (some ⟨c, 0, none⟩), .int .i64 S.base, .int .i64 S.cls, .int .i64 (szB S.cls : Nat), .int .i64 (slB S.cls : Nat), .int .i64 (headI S.L), .int .i64 (S.L.length : Nat)]
def SlabAt (w : World) (s c : Nat) (S : SM) : Prop := w.heap[s]? = some (.cells (slabC c S) 131 (0, 0))

theorem SlabAt.cells {w : World} {s c : Nat} {S : SM} (h : SlabAt w s c S) :
    w.cell? ⟨s, 0, none⟩ = some (.pointer (some ⟨c, 0, none⟩)) ∧ w.cell? ⟨s, 1, none⟩ = some (.int .i64 S.base) ∧ w.cell? ⟨s, 2, none⟩ = some (.int .i64 S.cls) ∧ w.cell? ⟨s, 3, none⟩ = some (.int .i64 (szB S.cls : Nat)) ∧
    w.cell? ⟨s, 4, none⟩ = some (.int .i64 (slB S.cls : Nat)) ∧ w.cell? ⟨s, 5, none⟩ = some (.int .i64 (headI S.L)) ∧ w.cell? ⟨s, 6, none⟩ = some (.int .i64 (S.L.length : Nat)) := by
  refine ⟨?_, ?_, ?_, ?_, ?_, ?_, ?_⟩ <;> rw [cell_of_block h] <;> rfl

theorem SlabAt.turned {F : Nat → Prop} {w w' : World} {s c : Nat} {S : SM} (h : SlabAt w s c S) (t : Turned F w w') (hs : ¬ F s) : SlabAt w' s c S := (t.block _ (lt_of_block h) hs).trans h
theorem SlabAt.below {w w' : World} {s c : Nat} {S : SM} (h : SlabAt w s c S) (hb : Below w.heap.size w w') : SlabAt w' s c S := h.turned (Turned.of_below (F := fun _ => False) hb (Nat.le_refl _)) (fun h => h)

theorem FreeAt.drop {bs : List Int} {base size cls : Nat} : ∀ {l : List Nat} (k : Nat), FreeAt bs base size cls l → FreeAt bs base size cls (l.drop k)
  | l, 0, h => h
  | [], k + 1, h => h
  | s :: l, k + 1, h => FreeAt.drop (l := l) k h.2

theorem FreeAt.congr {bs bs' : List Int} {base size cls : Nat} : ∀ {l : List Nat}, (∀ s ∈ l, wordN bs' (base + s * size) 8 = wordN bs (base + s * size) 8) → FreeAt bs base size cls l → FreeAt bs' base size cls l
  | [], _, h => h
  | s :: l, hh, h => ⟨(hh s (by simp)).trans h.1, FreeAt.congr (fun x hx => hh x (by simp [hx])) h.2⟩

set_option maxHeartbeats 400000 in
theorem address_any (s c : Nat) (S : SM) (k : Int) (w : World) (h : SlabAt w s c S) (hc : S.cls < 12) (hb : S.base < 2 ^ 40) :
    Calls Tryz.prog 40 #[.pointer (some ⟨s, 0, none⟩), .int .i64 k] w
      fun e w' => e = .returned (if 0 ≤ k ∧ k < slB S.cls then .tuple #[.int .i64 (S.base + k * (szB S.cls : Nat)), .bool true] else .tuple #[.int .i64 (-1), .bool false]) ∧ Below w.heap.size w w' := by
  obtain ⟨-, c1, -, c3, c4, -, -⟩ := h.cells
  have hlen' := lt_of_block h
  have hp := szB_pos hc
  have hl := slB_le hc
  clear h
  by_cases h1 : k < 0
  · rw [if_neg (by omega)]
    go_enter Tryz.func40, Tryz.ntmps40
    go_wp2
    go_ret2
    exact ⟨rfl, Below.refl _ _⟩
  · by_cases h2 : (slB S.cls : Int) ≤ k
    · rw [if_neg (by omega)]
      go_enter Tryz.func40, Tryz.ntmps40
      go_wp2
      go_ret2
      exact ⟨rfl, Below.refl _ _⟩
    · rw [if_pos (by omega)]
      obtain ⟨j, rfl⟩ := Int.eq_ofNat_of_zero_le (show 0 ≤ k by omega)
      have hj : j ≤ 128 := by omega
      have hm : (j : Int) * (szB S.cls : Nat) ≤ 128 * 512 := by have := Nat.mul_le_mul hj hp.2; omega
      have hm0 : (0 : Int) ≤ (j : Int) * (szB S.cls : Nat) := by exact_mod_cast Nat.zero_le _
      have e1 : IntKind.i64.wrap ((j : Int) * (szB S.cls : Nat)) = (j : Int) * (szB S.cls : Nat) := by rw [IntKind.wrap_i64]; omega
      have e2 : IntKind.i64.wrap ((S.base : Int) + (j : Int) * (szB S.cls : Nat)) = (S.base : Int) + (j : Int) * (szB S.cls : Nat) := by rw [IntKind.wrap_i64]; omega
      go_enter Tryz.func40, Tryz.ntmps40
      go_wp2
      (refine wp_region_quiet_ext (by kernel_rfl) (by kernel_rfl) ?_; (repeat (first | go_big_quiet_step ((fail)) | quiet_step ((fail)))); refine wpQuiet_nil ?_; intro w1 hw1; obtain hb := below_of_ext hw1; clear hw1; obtain ⟨hc, hf⟩ := bcell hb; have hz := hb.size; (try simp at hz))
      have HB := Lib.hid hb
      clear hb hc hf
      go_wp2
      go_ret2
      exact ⟨rfl, HB.out⟩

theorem unword_slab (k n c : Nat) (h1 : k ≤ 127) (h2 : n ≤ 128) (h3 : c ≤ 11) (w : World) :
    Calls Tryz.prog 155 #[.int .u64 (slabW k n c : Nat)] w fun e w' => e = .returned (.tuple #[.int .i64 k, .int .i64 ((n : Int) - 1), .int .i64 c, .bool true]) ∧ Below w.heap.size w w' := by
  have e := slabW_eq k n c
  refine (unword_core (slabW k n c) k n c (slabW_lt _ _ _ h1 h2 h3) (by omega) (by omega) (by omega) w).mono ?_
  rintro e w1 ⟨⟨-, rfl⟩ | ⟨hn, -⟩, hb⟩
  · exact ⟨rfl, hb⟩
  · exact absurd ⟨h1, h2, h3, rfl⟩ hn

/-- next, at a free slot whose word is right. -/
theorem next_yes (s c b : Nat) (bs : List Int) (S : SM) (k : Nat) (l : List Nat) (w : World) (h : SlabAt w s c S) (hcell : CellsAt w c b bs) (hok : S.base + 1024 ≤ bs.length) (hc : S.cls < 12)
    (hk : k < slB S.cls) (hl : ∀ x ∈ l, x < slB S.cls) (hf : FreeAt bs S.base (szB S.cls) S.cls (k :: l)) :
    Calls Tryz.prog 129 #[.pointer (some ⟨s, 0, none⟩), .int .i64 k] w
      fun e w' => e = .returned (.tuple #[.int .i64 (headI l), .bool true]) ∧ Below w.heap.size w w' := by
  have hlen := hcell.len
  have hsl := slB_le hc
  have hp := szB_pos hc
  have hks : k * szB S.cls + szB S.cls ≤ 1024 := by
    have : (k + 1) * szB S.cls ≤ slB S.cls * szB S.cls := Nat.mul_le_mul_right _ hk
    rw [Nat.add_mul, Nat.one_mul] at this
    omega
  have hn : nextN l ≤ 128 := by
    cases l with
    | nil => decide
    | cons x l => have := hl x (by simp); show x + 1 ≤ 128; omega
  have hns : headI l < (slB S.cls : Int) := by
    cases l with
    | nil => show (-1 : Int) < _; omega
    | cons x l => have := hl x (by simp); show (x : Int) < _; omega
  have HA := Lib.hid (show Calls Tryz.prog 40 #[.pointer (some ⟨s, 0, none⟩), .int .i64 (k : Int)] w fun e w' => e = .returned (.tuple #[.int .i64 ((S.base + k * szB S.cls : Nat) : Int), .bool true]) ∧ Below w.heap.size w w' by
    have := address_any s c S k w h hc (by omega)
    rw [if_pos (by omega)] at this
    simpa using this)
  have HL := Lib.hid (fun w hcell => load_yes c b bs (S.base + k * szB S.cls) 8 w hcell (by omega) (.inr rfl))
  rw [hf.1] at HL
  have HU := Lib.hid (fun w => unword_slab k (nextN l) S.cls (by omega) hn (by omega) w)
  rw [← headI_eq l] at HU
  have HC := Lib.hid hcell
  generalize headI l = hd at *
  generalize slabW k (nextN l) S.cls = x at *
  obtain ⟨c0, -, c2, -, c4, -, -⟩ := h.cells
  clear h hcell hf hl hn hks hok
  generalize S.base + k * szB S.cls = a at *
  generalize slB S.cls = sl at *
  go_enter Tryz.func129, Tryz.ntmps129
  go_wp2_with (fail)
  refine HA.out.mono ?_
  rintro e w1 ⟨rfl, hb1⟩
  have d0 := cell_past hb1 (cell_lt c0) c0
  have HB1 := Lib.hid hb1
  clear hb1
  go_wp2_with (fail)
  refine (HL.out _ (HC.out.below HB1.out)).mono ?_
  rintro e w2 ⟨rfl, rfl⟩
  go_wp2_with (fail)
  refine (HU.out _).mono ?_
  rintro e w2 ⟨rfl, hb⟩
  have hb := HB1.out.trans (hb.mono HB1.out.size)
  have d2 := cell_past hb (cell_lt c2) c2
  have d4 := cell_past hb (cell_lt c4) c4
  have HB := Lib.hid hb
  clear hb HA HL HU HC d0 HB1
  go_wp2
  (refine wp_region_quiet_ext (by kernel_rfl) (by kernel_rfl) ?_; (repeat (first | go_big_quiet_step ((fail)) | quiet_step ((fail)))); refine wpQuiet_nil ?_; intro w3 hw3; obtain hb3 := below_of_ext hw3; clear hw3; obtain ⟨hc3, hf3⟩ := bcell hb3; have hz3 := hb3.size; (try simp at hz3))
  have HB3 := Lib.hid (Below.via hb3 HB.out.size HB.out)
  clear hb3 hc3 hf3
  go_wp2
  go_ret2
  exact ⟨rfl, HB3.out⟩

/-- What a slot's word turns to when the slot is free. -/
def pushB (bs : List Int) (S : SM) (k : Nat) : List Int := putR bs (S.base + k * szB S.cls) (bytesK (slabW k (nextN S.L) S.cls : Nat) 8)
def PushPost (w : World) (s c b : Nat) (bs : List Int) (S : SM) (k : Nat) (e : Ending) (w' : World) : Prop :=
  e = .returned (.tuple #[]) ∧ SlabAt w' s c { S with L := k :: S.L } ∧ CellsAt w' c b (pushB bs S k) ∧ SlabOk (pushB bs S k) { S with L := k :: S.L } ∧ Turned (fun j => j = s ∨ j = b) w w'

theorem slot_apart {cls i j : Nat} (hc : cls < 12) (h : i ≠ j) : i * szB cls + 8 ≤ j * szB cls ∨ j * szB cls + 8 ≤ i * szB cls := by
  have hp := (szB_pos hc).1
  rcases Nat.lt_or_gt_of_ne h with h | h
  · left
    have : (i + 1) * szB cls ≤ j * szB cls := Nat.mul_le_mul_right _ h
    rw [Nat.add_mul, Nat.one_mul] at this
    omega
  · right
    have : (j + 1) * szB cls ≤ i * szB cls := Nat.mul_le_mul_right _ h
    rw [Nat.add_mul, Nat.one_mul] at this
    omega

theorem slot_fits {cls k : Nat} (hc : cls < 12) (hk : k < slB cls) : k * szB cls + szB cls ≤ 1024 := by
  have hsl := slB_le hc
  have : (k + 1) * szB cls ≤ slB cls * szB cls := Nat.mul_le_mul_right _ hk
  rw [Nat.add_mul, Nat.one_mul] at this
  omega

theorem pushB_length {bs : List Int} {S : SM} (hok : SlabOk bs S) {k : Nat} (hk : k < slB S.cls) : (pushB bs S k).length = bs.length := by
  have := slot_fits hok.cls hk
  have := szB_pos hok.cls
  have := hok.fits
  unfold pushB
  rw [putR_length _ _ _ (by rw [bytesK_length]; omega)]

theorem push_ok {bs : List Int} {S : SM} (hok : SlabOk bs S) {k : Nat} (hk : k < slB S.cls) (hn : k ∉ S.L) : SlabOk (pushB bs S k) { S with L := k :: S.L } := by
  have h1 := slot_fits hok.cls hk
  have h2 := szB_pos hok.cls
  have h3 := hok.fits
  have h4 := slB_le hok.cls
  refine ⟨hok.al, by rw [pushB_length hok hk]; exact hok.fits, hok.cls, List.nodup_cons.2 ⟨hn, hok.nodup⟩, fun s hs => ?_, ?_, ?_⟩
  · rcases List.mem_cons.1 hs with rfl | hs
    · exact hk
    · exact hok.lt s hs
  · unfold pushB
    rw [wordN_put_same _ (Nat.le_refl 8) (by omega) (Int.natCast_nonneg _)]
    have hnn : nextN S.L ≤ 128 := by
      cases e : S.L with
      | nil => decide
      | cons x l => have := hok.lt x (by rw [e]; simp); show x + 1 ≤ 128; omega
    have := slabW_lt k (nextN S.L) S.cls (by omega) hnn (by have := hok.cls; omega)
    show ((slabW k (nextN S.L) S.cls : Nat) : Int) % 256 ^ 8 = _
    have h5 : (256 : Int) ^ 8 = 18446744073709551616 := rfl
    rw [h5]
    show _ = ((slabW k (nextN S.L) S.cls : Nat) : Int)
    omega
  · refine FreeAt.congr (fun s hs => ?_) hok.free
    have hne : s ≠ k := fun e => hn (e ▸ hs)
    have := slot_apart hok.cls hne
    show wordN (pushB bs S k) (S.base + s * szB S.cls) 8 = _
    unfold pushB
    exact wordN_put_apart (by rw [bytesK_length]; omega) (by rw [bytesK_length]; omega)

theorem nodup_le : ∀ (n : Nat) (l : List Nat), l.Nodup → (∀ x ∈ l, x < n) → l.length ≤ n
  | 0, l, _, h => by
    cases l with
    | nil => simp
    | cons x l => exact absurd (h x (by simp)) (by omega)
  | n + 1, l, hn, h => by
    have h1 := nodup_le n (l.erase n) (hn.erase n) (fun x hx => by
      have h2 := hn.mem_erase_iff.1 hx
      have := h x h2.2
      have := h2.1
      omega)
    rw [List.length_erase] at h1
    split at h1 <;> omega

set_option maxRecDepth 100000 in
set_option maxHeartbeats 1000000 in
theorem push_yes (s c b : Nat) (bs : List Int) (S : SM) (k : Nat) (w : World) (h : SlabAt w s c S) (hcell : CellsAt w c b bs) (hok : SlabOk bs S) (hk : k < slB S.cls) (hn : k ∉ S.L) (hsb : s ≠ b) (hcs : c ≠ s) :
    Calls Tryz.prog 134 #[.pointer (some ⟨s, 0, none⟩), .int .i64 k] w (PushPost w s c b bs S k) := by
  have hlen := hcell.len
  have hsl := slB_le hok.cls
  have hp := szB_pos hok.cls
  have hks := slot_fits hok.cls hk
  have hfit := hok.fits
  have hnn : nextN S.L ≤ 128 := by
    cases e : S.L with
    | nil => decide
    | cons x l => have := hok.lt x (by rw [e]; simp); show x + 1 ≤ 128; omega
  have HW := Lib.hid (fun w => word_yes_ns k (nextN S.L) S.cls (headI S.L) (headI_nextN _) (by omega) hnn (by have := hok.cls; omega) w)
  have HS := Lib.hid (fun w (hcell : CellsAt w c b bs) => show Calls Tryz.prog 168 #[.pointer (some ⟨c, 0, none⟩), .int .i64 ((S.base + k * szB S.cls : Nat) : Int), .int .i64 ((8 : Nat) : Int), .int .u64 ((slabW k (nextN S.L) S.cls : Nat) : Int)] w (StoreDone w c b (pushB bs S k)) from store_yes c b bs (S.base + k * szB S.cls) 8 (slabW k (nextN S.L) S.cls : Nat) w hcell (by omega) (.inr rfl) (Int.natCast_nonneg _))
  have HO := Lib.hid (push_ok hok hk hn)
  have hcount : S.L.length < 128 := by
    have := nodup_le (slB S.cls) (k :: S.L) (List.nodup_cons.2 ⟨hn, hok.nodup⟩) (fun x hx => by
      rcases List.mem_cons.1 hx with rfl | hx
      · exact hk
      · exact hok.lt x hx)
    simp only [List.length_cons] at this
    omega
  have hfin : ∀ w' : World, SlabAt w' s c S → ((w'.setCell ⟨s, 5, none⟩ (.int .i64 k)).setCell ⟨s, 6, none⟩ (.int .i64 ((S.L.length : Int) + 1))).heap[s]? = some (.cells (slabC c { S with L := k :: S.L }) 131 (0, 0)) := fun w' hw' => by
    have h1 := heap_setCell_eq (i := 5) hw' (.int .i64 k)
    have h2 := heap_setCell_eq (i := 6) h1 (.int .i64 ((S.L.length : Int) + 1))
    rw [h2]
    simp [slabC, headI]
  have hfr : ∀ w' i, SlabAt w' s c S → w'.frozen? ⟨s, i, none⟩ = false := fun w' i hw' => frozen_of_row _ _ _ _ _ hw'
  have HF := Lib.hid hfin
  have HFR := Lib.hid hfr
  have HC := Lib.hid hcell
  have HSL := Lib.hid h
  have HSB := Lib.hid hsb
  have HCS := Lib.hid hcs
  obtain ⟨c0, c1, c2, c3, -, c5, c6⟩ := h.cells
  have hm0 : (0 : Int) ≤ (k : Int) * (szB S.cls : Nat) := by exact_mod_cast Nat.zero_le _
  have hm1 : (k : Int) * (szB S.cls : Nat) ≤ 1024 := by
    have : ((k * szB S.cls : Nat) : Int) ≤ 1024 := by omega
    simpa using this
  have e1 : IntKind.i64.wrap ((k : Int) * (szB S.cls : Nat)) = (k : Int) * (szB S.cls : Nat) := by rw [IntKind.wrap_i64]; omega
  have e2 : IntKind.i64.wrap ((S.base : Int) + (k : Int) * (szB S.cls : Nat)) = ((S.base + k * szB S.cls : Nat) : Int) := by rw [IntKind.wrap_i64]; omega
  clear h hcell hok hn hks hfit hnn hfin hfr hsb hcs
  generalize headI S.L = hd at *
  generalize slabW k (nextN S.L) S.cls = x at *
  go_enter Tryz.func134, Tryz.ntmps134
  go_wp2
  (refine wp_region_quiet_ext (by kernel_rfl) (by kernel_rfl) ?_; (repeat (first | go_big_quiet_step ((go_at_call 167; refine Calls.ext_of (HW.out _))) | quiet_step ((go_at_call 167; refine Calls.ext_of (HW.out _))))); refine wpQuiet_nil ?_; intro w1 hw1; obtain hb := below_of_ext hw1; clear hw1; obtain ⟨hc, hf⟩ := bcell hb; have hz := hb.size; (try simp at hz))
  have d0 := cell_past hb (cell_lt c0) c0
  have d1 := cell_past hb (cell_lt c1) c1
  have d3 := cell_past hb (cell_lt c3) c3
  have HB := Lib.hid hb
  clear hb hc hf
  go_wp2
  go_still_tail 16, (by kernel_rfl)
  go_wp2_with (fail)
  have hbd := Lib.hid (HB.out.trans (Below.drew (Below.refl _ w1)))
  refine (HS.out _ (HC.out.below hbd.out)).mono ?_
  rintro e w2 ⟨rfl, hc2, ht2⟩
  have hs2 : SlabAt w2 s c S := (HSL.out.below hbd.out).turned ht2 HSB.out
  have g6 := hs2.cells.2.2.2.2.2.2
  have f5 := HFR.out w2 5 hs2
  have f6 := HFR.out w2 6 hs2
  have c5' := hs2.cells.2.2.2.2.2.1
  have HFIN := Lib.hid (HF.out w2 hs2)
  have HC2 := Lib.hid hc2
  have HT2 := Lib.hid ht2
  clear hs2 hc2 ht2
  go_wp2
  go_end0
  have hT : Turned (fun j => j = s ∨ j = b) w ((w2.setCell ⟨s, 5, none⟩ (.int .i64 k)).setCell ⟨s, 6, none⟩ (.int .i64 ((S.L.length : Int) + 1))) := by
    refine Turned.setCell (p := ⟨s, 6, none⟩) (Turned.setCell (p := ⟨s, 5, none⟩) ?_ (.inl (.inl rfl)) _) (.inl (.inl rfl)) _
    exact (Turned.of_below hbd.out (Nat.le_refl _)).trans (HT2.out.mono (G := fun j => j = s ∨ j = b) (fun _ h _ => .inr h)) (fun _ h _ => h)
  refine ⟨rfl, HFIN.out, ?_, HO.out, hT⟩
  refine HC2.out.turned (F := fun j => j = s) ?_ HCS.out (Ne.symm HSB.out)
  exact Turned.setCell (p := ⟨s, 6, none⟩) (Turned.setCell (p := ⟨s, 5, none⟩) (Turned.refl (fun j => j = s) w2) (.inl rfl) _) (.inl rfl) _

end Go.Proofs.YtlljejmblmjjnaaGreat

/- newslab: walk, row, Check; small readers. -/
namespace Go.Proofs.YtlljejmblmjjnaaGreat
set_option linter.unusedVariables false
set_option linter.unusedSimpArgs false
open Go.RowKit Go.ChangeMaps

/-- A row of the call's own that has just these bits. -/
structure RowIs (w w' : World) (r n : Nat) (L : List Nat) : Prop where
  row : ∃ b ws, RowAt w' r b n ws ∧ (∀ j, tstB ws j = decide (j ∈ L)) ∧ w.heap.size ≤ b
  new : w.heap.size ≤ r

theorem set_new {w : World} {r b n : Nat} {ws : List Nat} (h : RowAt w r b n ws) {k : Nat} (hk : k < n) (ht : tstB ws k = false) :
    Calls Tryz.prog 133 #[.pointer (some ⟨r, 0, none⟩), .int .i64 k] w fun e w' => e = .returned (.bool true) ∧ RowAt w' r b n (setB ws k) ∧ Turned (fun j => j = b) w w' := by
  refine (set_any r b n ws k w h).mono fun e w' hp => ?_
  unfold SetPost at hp
  rw [if_pos ⟨by omega, by omega, by rw [Int.toNat_natCast]; exact ht⟩, Int.toNat_natCast] at hp
  exact hp
theorem set_old {w : World} {r b n : Nat} {ws : List Nat} (h : RowAt w r b n ws) {k : Int} (ht : ¬ (0 ≤ k ∧ k < n ∧ tstB ws k.toNat = false)) :
    Calls Tryz.prog 133 #[.pointer (some ⟨r, 0, none⟩), .int .i64 k] w fun e w' => e = .returned (.bool false) ∧ Below w.heap.size w w' := by
  refine (set_any r b n ws k w h).mono fun e w' hp => ?_
  unfold SetPost at hp
  rw [if_neg ht] at hp
  exact hp

theorem seeNone_any (k : Int) (w : World) : Calls Tryz.prog 108 #[.int .i64 k] w fun e w' => e = .returned (.tuple #[]) ∧ w = w' := by
  go_enter Tryz.func108, Tryz.ntmps108
  go_wp2
  go_end0
  exact ⟨rfl, rfl⟩

def WalkI (w wr : World) (r rb n : Nat) (L : List Nat) (k : Nat) (a : Value) : Prop :=
  a = .int .i64 (headI (L.drop k)) ∧ Below w.heap.size w wr ∧ ∃ ws, RowAt wr r rb n ws ∧ ∀ j, tstB ws j = decide (j ∈ L.take k)

def RowPost (w : World) (n : Nat) (L : List Nat) (e : Ending) (w' : World) : Prop :=
  ∃ r, e = .returned (.tuple #[.pointer (some ⟨r, 0, none⟩), .int .i64 0]) ∧ RowIs w w' r n L ∧ Below w.heap.size w w'

set_option maxRecDepth 100000 in
set_option maxHeartbeats 2000000 in
theorem walk_yes (s c b : Nat) (bs : List Int) (S : SM) (w : World) (h : SlabAt w s c S) (hcell : CellsAt w c b bs) (hok : SlabOk bs S) :
    Calls Tryz.prog 107 #[.pointer (some ⟨s, 0, none⟩), .func (.func 108) #[] #[]] w (RowPost w (slB S.cls) S.L) := by
  have hsl := slB_le hok.cls
  obtain ⟨c0, c1, c2, c3, c4, c5, c6⟩ := h.cells
  have HSL := Lib.hid h
  have HC := Lib.hid hcell
  have HO := Lib.hid hok
  have HN := Lib.hid (fun w => bitsNew_yes (slB S.cls) w (by omega))
  have HSee := Lib.hid seeNone_any
  have hlen : S.L.length ≤ 128 := by have := nodup_le _ _ hok.nodup hok.lt; omega
  have HL := Lib.hid (show ∀ k, k < S.L.length → ∃ x, x < slB S.cls ∧ x ∉ S.L.take k ∧ S.L.take (k + 1) = S.L.take k ++ [x] ∧ headI (S.L.drop k) = (x : Int) ∧ ∀ (w : World), SlabAt w s c S → CellsAt w c b bs →
      Calls Tryz.prog 129 #[.pointer (some ⟨s, 0, none⟩), .int .i64 x] w fun e w' => e = .returned (.tuple #[.int .i64 (headI (S.L.drop (k + 1))), .bool true]) ∧ Below w.heap.size w w' from fun k hk => by
    have he : S.L.drop k = S.L[k] :: S.L.drop (k + 1) := List.drop_eq_getElem_cons hk
    refine ⟨S.L[k], hok.lt _ (List.getElem_mem hk), ?_, List.take_succ_eq_append_getElem hk, by rw [he]; rfl, fun w hs hc => ?_⟩
    · intro hm
      have hn := hok.nodup
      rw [← List.take_append_drop k S.L, he] at hn
      exact (List.nodup_append.1 hn).2.2 S.L[k] hm S.L[k] List.mem_cons_self rfl
    · refine next_yes s c b bs S S.L[k] (S.L.drop (k + 1)) w hs hc hok.fits hok.cls (hok.lt _ (List.getElem_mem hk)) (fun x hx => hok.lt x (List.mem_of_mem_drop hx)) ?_
      rw [← he]
      exact hok.free.drop k)
  clear h hcell hok c0 c1 c2 c3
  go_enter Tryz.func107, Tryz.ntmps107
  go_wp2_with (fail)
  refine (HN.out _).mono ?_
  rintro e w1 ⟨rfl, hrow, hb, hz⟩
  have d5 := cell_past hb (cell_lt c5) c5
  have d6 := cell_past hb (cell_lt c6) c6
  have HB := Lib.hid hb
  have HR := Lib.hid hrow
  have hs1 := hb.size
  clear hb hrow hz c4 c5 c6
  go_wp2_with (fail)
  go_loopw [8, 27] (fun a i wr => ∃ k : Nat, k ≤ S.L.length ∧ i = .int .i64 k ∧ WalkI w wr (w.heap.size + 1) w.heap.size (slB S.cls) S.L k a) (fun _ i _ => S.L.length - (intOf i).toNat)
  case atStart => exact ⟨0, Nat.zero_le _, rfl, rfl, HB.out, _, HR.out, fun j => by rw [tst_none]; simp⟩
  case round =>
    obtain ⟨k, hk, rfl, rfl, hbw, ws, hrow, htst⟩ := hrel
    have HBW := Lib.hid hbw
    have hszw := hbw.size
    by_cases hlt : k < S.L.length
    · obtain ⟨x, hx, hxn, htk, hhd, hnext⟩ := HL.out k hlt
      rw [hhd]
      have hxt : tstB ws x = false := by rw [htst, decide_eq_false hxn]
      have HNX := Lib.hid (hnext wr (HSL.out.below hbw) (HC.out.below hbw))
      have HSET := Lib.hid (fun (w2 : World) (hb2 : Below wr.heap.size wr w2) => set_new (hrow.below hb2) hx hxt)
      have HT := Lib.hid (show ∀ j, tstB (setB ws x) j = decide (j ∈ S.L.take (k + 1)) from fun j => by
        rw [tst_set (by rw [hrow.len]; omega), htst, htk]
        by_cases h1 : j = x <;> by_cases h2 : j ∈ S.L.take k <;> simp [h1, h2])
      clear hbw hrow htst hhd htk hxn hxt hnext
      have hi1 : (k : Int) < S.L.length := by omega
      have hkw : IntKind.i64.wrap ((k : Int) + 1) = (k : Int) + 1 := by rw [IntKind.wrap_i64]; omega
      generalize hhd2 : headI (S.L.drop (k + 1)) = hd at *
      have HD := Lib.hid hhd2
      clear hhd2
      go_wp2_with (fail)
      refine HNX.out.mono ?_
      rintro e w2 ⟨rfl, hb2⟩
      have HB2 := Lib.hid hb2
      clear hb2
      go_wp2_with (fail)
      refine (HSET.out _ HB2.out).mono ?_
      rintro e w3 ⟨rfl, hrow3, ht3⟩
      have HR3 := Lib.hid hrow3
      have HB3 := Lib.hid (Below.trans (Below.via HB2.out hszw HBW.out) (ht3.below (B := w.heap.size) (fun x hx => by omega) (by have := HB2.out.size; omega)))
      clear hrow3 ht3
      go_wp2_with (fail)
      refine (HSee.out _ _).mono ?_
      rintro e w4 ⟨rfl, rfl⟩
      go_wp2
      go_roundw
      case rel => exact ⟨k + 1, by omega, by go_num, by rw [HD.out], HB3.out, _, HR3.out, HT.out⟩
      case measure => simp [intOf]; omega
    · obtain rfl : k = S.L.length := by omega
      rw [show headI (S.L.drop S.L.length) = -1 from by rw [List.drop_length]; rfl]
      have HEND := Lib.hid (show RowIs w wr (w.heap.size + 1) (slB S.cls) S.L from ⟨⟨_, ws, hrow, fun j => by rw [htst, List.take_length], Nat.le_refl _⟩, Nat.le_succ _⟩)
      clear hbw hrow htst
      go_wp2
      go_ret2
      exact ⟨_, rfl, HEND.out, HBW.out⟩

set_option maxHeartbeats 400000 in
theorem row_yes (s c b : Nat) (bs : List Int) (S : SM) (w : World) (h : SlabAt w s c S) (hcell : CellsAt w c b bs) (hok : SlabOk bs S) :
    Calls Tryz.prog 68 #[.pointer (some ⟨s, 0, none⟩)] w (RowPost w (slB S.cls) S.L) := by
  have HW := Lib.hid (walk_yes s c b bs S w h hcell hok)
  clear h hcell hok
  go_enter Tryz.func68, Tryz.ntmps68
  go_wp2_with (fail)
  refine HW.out.mono ?_
  rintro e w1 ⟨r, rfl, hr, hb⟩
  have HR := Lib.hid hr
  have HB := Lib.hid hb
  clear hr hb
  go_wp2
  go_ret2
  exact ⟨_, rfl, HR.out, HB.out⟩

set_option maxHeartbeats 400000 in
theorem check_yes (s c b : Nat) (bs : List Int) (S : SM) (w : World) (h : SlabAt w s c S) (hcell : CellsAt w c b bs) (hok : SlabOk bs S) :
    Calls Tryz.prog 49 #[.pointer (some ⟨s, 0, none⟩)] w fun e w' => e = .returned (.int .i64 0) ∧ Below w.heap.size w w' := by
  have HW := Lib.hid (row_yes s c b bs S w h hcell hok)
  clear h hcell hok
  go_enter Tryz.func49, Tryz.ntmps49
  go_wp2_with (fail)
  refine HW.out.mono ?_
  rintro e w1 ⟨r, rfl, hr, hb⟩
  have HB := Lib.hid hb
  clear hr hb
  go_wp2
  go_ret
  exact ⟨rfl, HB.out⟩

/-! ### readers -/
set_option maxHeartbeats 400000 in
theorem base_any (s c : Nat) (S : SM) (w : World) (h : SlabAt w s c S) : Calls Tryz.prog 79 #[.pointer (some ⟨s, 0, none⟩)] w fun e w' => e = .returned (.int .i64 S.base) ∧ w = w' := by
  obtain ⟨-, c1, -, -, -, -, -⟩ := h.cells
  clear h
  go_enter Tryz.func79, Tryz.ntmps79
  go_wp2
  go_ret
  exact ⟨rfl, rfl⟩
set_option maxHeartbeats 400000 in
theorem class_any (s c : Nat) (S : SM) (w : World) (h : SlabAt w s c S) : Calls Tryz.prog 57 #[.pointer (some ⟨s, 0, none⟩)] w fun e w' => e = .returned (.int .i64 S.cls) ∧ w = w' := by
  obtain ⟨-, -, c1, -, -, -, -⟩ := h.cells
  clear h
  go_enter Tryz.func57, Tryz.ntmps57
  go_wp2
  go_ret
  exact ⟨rfl, rfl⟩
set_option maxHeartbeats 400000 in
theorem free_any (s c : Nat) (S : SM) (w : World) (h : SlabAt w s c S) : Calls Tryz.prog 43 #[.pointer (some ⟨s, 0, none⟩)] w fun e w' => e = .returned (.int .i64 (S.L.length : Nat)) ∧ w = w' := by
  obtain ⟨-, -, -, -, -, -, c1⟩ := h.cells
  clear h
  go_enter Tryz.func43, Tryz.ntmps43
  go_wp2
  go_ret
  exact ⟨rfl, rfl⟩

/-- 0: empty, 1: partial, 2: full. -/
def stateN (S : SM) : Nat := if S.L.length = slB S.cls then 0 else if S.L.length = 0 then 2 else 1
set_option maxHeartbeats 400000 in
theorem state_any (s c : Nat) (S : SM) (w : World) (h : SlabAt w s c S) (hc : S.cls < 12) : Calls Tryz.prog 96 #[.pointer (some ⟨s, 0, none⟩)] w fun e w' => e = .returned (.int .i64 (stateN S : Nat)) ∧ w = w' := by
  obtain ⟨-, -, -, -, c4, -, c6⟩ := h.cells
  have hl := slB_le hc
  clear h
  by_cases h1 : S.L.length = slB S.cls
  · rw [show stateN S = 0 from if_pos h1]
    rw [h1] at c6
    clear h1
    generalize slB S.cls = n at *
    go_enter Tryz.func96, Tryz.ntmps96
    go_wp2
    go_ret
    exact ⟨rfl, rfl⟩
  · by_cases h2 : S.L.length = 0
    · rw [show stateN S = 2 from by unfold stateN; rw [if_neg h1, if_pos h2]]
      rw [h2] at c6
      have h3 : ¬ (0 : Int) = slB S.cls := by omega
      clear h1 h2
      generalize slB S.cls = n at *
      go_enter Tryz.func96, Tryz.ntmps96
      go_wp2
      go_ret
      exact ⟨rfl, rfl⟩
    · rw [show stateN S = 1 from by unfold stateN; rw [if_neg h1, if_neg h2]]
      have h3 : ¬ (S.L.length : Int) = slB S.cls := by omega
      have h4 : ¬ (S.L.length : Int) = 0 := by omega
      clear h1 h2
      generalize S.L.length = m at *
      generalize slB S.cls = n at *
      go_enter Tryz.func96, Tryz.ntmps96
      go_wp2
      go_ret
      exact ⟨rfl, rfl⟩


end Go.Proofs.YtlljejmblmjjnaaGreat

/- newslab: pop, Take, Slot. -/
namespace Go.Proofs.YtlljejmblmjjnaaGreat
set_option linter.unusedVariables false
set_option linter.unusedSimpArgs false
open Go.RowKit Go.ChangeMaps

theorem SlabAt.frozen {w : World} {s c : Nat} {S : SM} (h : SlabAt w s c S) (i : Nat) : w.frozen? ⟨s, i, none⟩ = false := frozen_of_row _ _ _ _ _ h

theorem pop_ok {bs : List Int} {S : SM} (hok : SlabOk bs S) {x : Nat} {l : List Nat} (he : S.L = x :: l) : SlabOk bs { S with L := l } := by
  refine ⟨hok.al, hok.fits, hok.cls, ?_, ?_, ?_⟩
  · have := hok.nodup
    rw [he] at this
    exact (List.nodup_cons.1 this).2
  · intro s hs
    exact hok.lt s (by rw [he]; exact List.mem_cons_of_mem _ hs)
  · have := hok.free
    rw [he] at this
    exact this.2

def PopPost (w : World) (s c : Nat) (S : SM) (x : Nat) (l : List Nat) (e : Ending) (w' : World) : Prop :=
  e = .returned (.int .i64 ((S.base + x * szB S.cls : Nat) : Int)) ∧ SlabAt w' s c { S with L := l } ∧ Turned (fun j => j = s) w w'

set_option maxRecDepth 100000 in
set_option maxHeartbeats 1000000 in
theorem pop_yes (s c b : Nat) (bs : List Int) (S : SM) (x : Nat) (l : List Nat) (he : S.L = x :: l) (w : World) (h : SlabAt w s c S) (hcell : CellsAt w c b bs) (hok : SlabOk bs S) :
    Calls Tryz.prog 90 #[.pointer (some ⟨s, 0, none⟩)] w (PopPost w s c S x l) := by
  have hlen := hcell.len
  have hsl := slB_le hok.cls
  have hp := szB_pos hok.cls
  have hx := hok.lt x (by rw [he]; simp)
  have hks := slot_fits hok.cls hx
  have hfit := hok.fits
  have hcount : S.L.length ≤ 128 := by have := nodup_le _ _ hok.nodup hok.lt; omega
  have HN := Lib.hid (fun (w : World) hs hc => next_yes s c b bs S x l w hs hc hok.fits hok.cls hx (fun y hy => hok.lt y (by rw [he]; simp [hy])) (by rw [← he]; exact hok.free))
  have hfin : ∀ w' : World, SlabAt w' s c S → ((w'.setCell ⟨s, 5, none⟩ (.int .i64 (headI l))).setCell ⟨s, 6, none⟩ (.int .i64 (l.length : Nat))).heap[s]? = some (.cells (slabC c { S with L := l }) 131 (0, 0)) := fun w' hw' => by
    have h1 := heap_setCell_eq (i := 5) hw' (.int .i64 (headI l))
    have h2 := heap_setCell_eq (i := 6) h1 (.int .i64 (l.length : Nat))
    rw [h2]
    simp [slabC]
  have HF := Lib.hid hfin
  have HC := Lib.hid hcell
  have HSL := Lib.hid h
  obtain ⟨c0, c1, c2, c3, -, c5, c6⟩ := h.cells
  rw [he] at c5 c6
  rw [show headI (x :: l) = (x : Int) from rfl] at c5
  rw [show (((x :: l).length : Nat) : Int) = (l.length : Int) + 1 by simp] at c6
  have hl : (l.length : Int) < 128 := by rw [he] at hcount; simp at hcount; omega
  have hm0 : (0 : Int) ≤ (x : Int) * (szB S.cls : Nat) := by exact_mod_cast Nat.zero_le _
  have hm1 : (x : Int) * (szB S.cls : Nat) ≤ 1024 := by
    have : ((x * szB S.cls : Nat) : Int) ≤ 1024 := by omega
    simpa using this
  have e1 : IntKind.i64.wrap ((x : Int) * (szB S.cls : Nat)) = (x : Int) * (szB S.cls : Nat) := by rw [IntKind.wrap_i64]; omega
  have e2 : IntKind.i64.wrap ((S.base : Int) + (x : Int) * (szB S.cls : Nat)) = ((S.base + x * szB S.cls : Nat) : Int) := by rw [IntKind.wrap_i64]; omega
  have e3 : IntKind.i64.wrap ((l.length : Int) + 1 - 1) = (l.length : Int) := by rw [IntKind.wrap_i64]; omega
  clear h hcell hok hks hfit hfin he hx
  generalize hhd : headI l = hd at *
  have HD := Lib.hid hhd
  clear hhd
  go_enter Tryz.func90, Tryz.ntmps90
  go_wp2
  (refine wp_region_quiet_ext (by kernel_rfl) (by kernel_rfl) ?_; (repeat (first | go_big_quiet_step ((fail)) | quiet_step ((fail)))); refine wpQuiet_nil ?_; intro w1 hw1; obtain hb := below_of_ext hw1; clear hw1; obtain ⟨hc, hf⟩ := bcell hb; have hz := hb.size; (try simp at hz))
  have d5 := cell_past hb (cell_lt c5) c5
  have HB := Lib.hid hb
  clear hb hc hf
  go_wp2_with (fail)
  refine (HN.out _ (HSL.out.below HB.out) (HC.out.below HB.out)).mono ?_
  rintro e w2 ⟨rfl, hb2⟩
  have hB := Lib.hid (Below.via hb2 HB.out.size HB.out)
  have hs2 : SlabAt w2 s c S := HSL.out.below hB.out
  have g6 := cell_past hB.out (cell_lt c6) c6
  have f5 := hs2.frozen 5
  have f6 := hs2.frozen 6
  have c5' := cell_past hB.out (cell_lt c5) c5
  have HFIN := Lib.hid (HF.out w2 hs2)
  clear hs2 hb2 d5
  go_wp2
  go_ret
  refine ⟨rfl, HFIN.out, ?_⟩
  exact Turned.setCell (p := ⟨s, 6, none⟩) (Turned.setCell (F := fun j => j = s) (p := ⟨s, 5, none⟩) (Turned.of_below hB.out (Nat.le_refl _)) (.inl rfl) _) (.inl rfl) _

set_option maxHeartbeats 400000 in
theorem stake_none (s c b : Nat) (bs : List Int) (S : SM) (he : S.L = []) (w : World) (h : SlabAt w s c S) (hcell : CellsAt w c b bs) (hok : SlabOk bs S) :
    Calls Tryz.prog 48 #[.pointer (some ⟨s, 0, none⟩)] w fun e w' => e = .returned (.tuple #[.int .i64 (-1), .int .i64 18]) ∧ Below w.heap.size w w' := by
  have HW := Lib.hid (check_yes s c b bs S w h hcell hok)
  obtain ⟨-, -, -, -, -, -, c6⟩ := h.cells
  rw [he] at c6
  clear h hcell hok he
  go_enter Tryz.func48, Tryz.ntmps48
  go_wp2_with (fail)
  refine HW.out.mono ?_
  rintro e w1 ⟨rfl, hb⟩
  have d6 := cell_past hb (cell_lt c6) c6
  have HB := Lib.hid hb
  clear hb
  go_wp2
  go_ret2
  exact ⟨rfl, HB.out⟩

def STakePost (w : World) (s c : Nat) (S : SM) (x : Nat) (l : List Nat) (e : Ending) (w' : World) : Prop :=
  e = .returned (.tuple #[.int .i64 ((S.base + x * szB S.cls : Nat) : Int), .int .i64 0]) ∧ SlabAt w' s c { S with L := l } ∧ Turned (fun j => j = s) w w'

set_option maxHeartbeats 400000 in
theorem stake_yes (s c b : Nat) (bs : List Int) (S : SM) (x : Nat) (l : List Nat) (he : S.L = x :: l) (w : World) (h : SlabAt w s c S) (hcell : CellsAt w c b bs) (hok : SlabOk bs S) :
    Calls Tryz.prog 48 #[.pointer (some ⟨s, 0, none⟩)] w (STakePost w s c S x l) := by
  have HW := Lib.hid (check_yes s c b bs S w h hcell hok)
  have HP := Lib.hid (fun w hs hc => pop_yes s c b bs S x l he w hs hc hok)
  have HSL := Lib.hid h
  have HC := Lib.hid hcell
  obtain ⟨-, -, -, -, -, -, c6⟩ := h.cells
  rw [he] at c6
  have h0 : ¬ (((x :: l).length : Nat) : Int) = 0 := by simp; omega
  generalize (((x :: l).length : Nat) : Int) = m at c6 h0
  clear h hcell hok he
  go_enter Tryz.func48, Tryz.ntmps48
  go_wp2_with (fail)
  refine HW.out.mono ?_
  rintro e w1 ⟨rfl, hb⟩
  have d6 := cell_past hb (cell_lt c6) c6
  have HB := Lib.hid hb
  clear hb
  go_wp2_with (fail)
  refine (HP.out _ (HSL.out.below HB.out) (HC.out.below HB.out)).mono ?_
  rintro e w2 ⟨rfl, hs2, ht2⟩
  have HS2 := Lib.hid hs2
  have HT2 := Lib.hid ht2
  clear hs2 ht2 d6
  go_wp2
  go_ret2
  exact ⟨rfl, HS2.out, (Turned.of_below HB.out (Nat.le_refl _)).trans HT2.out (fun _ h _ => h)⟩

/-- The slot that begins at an address. -/
def slotF (S : SM) (at_ : Int) : Option Nat :=
  if (S.base : Int) ≤ at_ ∧ at_ < (S.base : Int) + ((szB S.cls * slB S.cls : Nat) : Int) ∧ (at_ - S.base) % (szB S.cls : Nat) = 0 then some ((at_ - S.base) / (szB S.cls : Nat)).toNat else none
theorem slotF_some {S : SM} (hc : S.cls < 12) {at_ : Int} {k : Nat} (h : slotF S at_ = some k) : at_ = ((S.base + k * szB S.cls : Nat) : Int) ∧ k < slB S.cls := by
  unfold slotF at h
  split at h
  · rename_i hh
    obtain ⟨h1, h2, h3⟩ := hh
    have hp := szB_pos hc
    obtain ⟨d, hd⟩ := Int.eq_ofNat_of_zero_le (show 0 ≤ at_ - S.base by omega)
    rw [hd] at h h3
    have e : k = d / szB S.cls := by
      have : ((d : Int) / (szB S.cls : Nat)).toNat = k := Option.some.inj h
      rw [← this, ← Int.natCast_ediv, Int.toNat_natCast]
    have hm : d % szB S.cls = 0 := by
      have : ((d % szB S.cls : Nat) : Int) = 0 := by rw [Int.natCast_emod]; exact h3
      omega
    have hk : k * szB S.cls = d := by
      rw [e]
      exact Nat.div_mul_cancel (Nat.dvd_of_mod_eq_zero hm)
    refine ⟨by omega, ?_⟩
    have hd2 : d < slB S.cls * szB S.cls := by rw [Nat.mul_comm]; omega
    rw [← hk] at hd2
    exact Nat.lt_of_mul_lt_mul_right hd2
  · cases h
theorem slotF_at {S : SM} (hc : S.cls < 12) {k : Nat} (hk : k < slB S.cls) : slotF S ((S.base + k * szB S.cls : Nat) : Int) = some k := by
  have hp := szB_pos hc
  have h1 : k * szB S.cls < szB S.cls * slB S.cls := by rw [Nat.mul_comm (szB S.cls)]; exact Nat.mul_lt_mul_of_pos_right hk (by omega)
  have e : ((S.base + k * szB S.cls : Nat) : Int) - S.base = ((k * szB S.cls : Nat) : Int) := by omega
  unfold slotF
  rw [e, if_pos ⟨by omega, by omega, by rw [← Int.natCast_emod, Nat.mul_mod_left]; rfl⟩]
  rw [← Int.natCast_ediv, Nat.mul_div_cancel _ (by omega), Int.toNat_natCast]

def slotV (o : Option Nat) : Value := match o with | some k => .tuple #[.int .i64 k, .int .i64 0] | none => .tuple #[.int .i64 (-1), .int .i64 12]

set_option maxRecDepth 100000 in
set_option maxHeartbeats 1000000 in
theorem slot_any (s c : Nat) (S : SM) (at_ : Int) (w : World) (h : SlabAt w s c S) (hc : S.cls < 12) (hb : S.base < 2 ^ 40) :
    Calls Tryz.prog 51 #[.pointer (some ⟨s, 0, none⟩), .int .i64 at_] w fun e w' => e = .returned (slotV (slotF S at_)) ∧ Below w.heap.size w w' := by
  obtain ⟨-, c1, -, c3, c4, -, -⟩ := h.cells
  have hlt := lt_of_block h
  have hp := szB_pos hc
  have hl := slB_le hc
  have hm0 : (0 : Int) ≤ (szB S.cls : Int) * (slB S.cls : Int) := by exact_mod_cast Nat.zero_le _
  have hm1 : (szB S.cls : Int) * (slB S.cls : Int) ≤ 1024 := by rw [Int.mul_comm]; exact_mod_cast hl.2.2
  have e1 : IntKind.i64.wrap ((szB S.cls : Int) * (slB S.cls : Int)) = (szB S.cls : Int) * (slB S.cls : Int) := by rw [IntKind.wrap_i64]; omega
  have e2 : IntKind.i64.wrap ((S.base : Int) + (szB S.cls : Int) * (slB S.cls : Int)) = (S.base : Int) + (szB S.cls : Int) * (slB S.cls : Int) := by rw [IntKind.wrap_i64]; omega
  clear h
  by_cases h1 : at_ < S.base
  · rw [show slotF S at_ = none from if_neg (by omega)]
    have d1 : decide (at_ < (S.base : Int)) = true := decide_eq_true h1
    go_enter Tryz.func51, Tryz.ntmps51
    go_wp2
    (refine wp_region_quiet_ext (by kernel_rfl) (by kernel_rfl) ?_; (repeat (first | go_big_quiet_step ((fail)) | quiet_step ((fail)))); refine wpQuiet_nil ?_; intro w1 hw1; obtain hb := below_of_ext hw1; clear hw1; obtain ⟨hc, hf⟩ := bcell hb; have hz := hb.size; (try simp at hz))
    have HB := Lib.hid hb
    clear hb hc hf
    go_wp2
    go_ret2
    exact ⟨rfl, HB.out⟩
  · have d1 : decide (at_ < (S.base : Int)) = false := decide_eq_false h1
    by_cases h2 : at_ < (S.base : Int) + ((szB S.cls * slB S.cls : Nat) : Int)
    · have d2 : decide ((S.base : Int) + (szB S.cls : Int) * (slB S.cls : Int) ≤ at_) = false := decide_eq_false (by rw [Int.natCast_mul] at h2; omega)
      obtain ⟨d, hd⟩ := Int.eq_ofNat_of_zero_le (show 0 ≤ at_ - S.base by omega)
      have hdl : d < szB S.cls * slB S.cls := by omega
      have hd3 : d < 1024 := by rw [Nat.mul_comm] at hdl; omega
      have e3 : IntKind.i64.wrap (at_ - (S.base : Int)) = (d : Int) := by rw [IntKind.wrap_i64]; omega
      have e4 : (d : Int).tmod (szB S.cls : Int) = ((d % szB S.cls : Nat) : Int) := by rw [Int.tmod_eq_emod_of_nonneg (by omega)]; rfl
      have e5 : (d : Int).tdiv (szB S.cls : Int) = ((d / szB S.cls : Nat) : Int) := by rw [Int.tdiv_eq_ediv_of_nonneg (by omega)]; rfl
      have hdv : d / szB S.cls ≤ d := Nat.div_le_self _ _
      have hdn : (0 : Int) ≤ ((d / szB S.cls : Nat) : Int) := Int.natCast_nonneg _
      have e6 : IntKind.i64.wrap ((d / szB S.cls : Nat) : Int) = ((d / szB S.cls : Nat) : Int) := by rw [IntKind.wrap_i64]; omega
      have hz : ¬ (szB S.cls : Int) = 0 := by omega
      have hsz : ((szB S.cls : Int) == 0) = false := by simpa using hz
      by_cases h3 : d % szB S.cls = 0
      · have hsf : slotF S at_ = some (d / szB S.cls) := by
          unfold slotF
          rw [hd, if_pos ⟨by omega, h2, by rw [← Int.natCast_emod, h3]; rfl⟩, ← Int.natCast_ediv, Int.toNat_natCast]
        rw [hsf]
        have d3 : (((d % szB S.cls : Nat) : Int) != 0) = false := by rw [h3]; rfl
        have HE := Lib.hid e5
        clear h2 hsf hd hdl hdv h3 hz
        generalize d / szB S.cls = q at *
        generalize d % szB S.cls = r at *
        generalize slB S.cls = sl at *
        go_enter Tryz.func51, Tryz.ntmps51
        go_wp2
        (refine wp_region_quiet_ext (by kernel_rfl) (by kernel_rfl) ?_; (repeat (first | go_big_quiet_step ((fail)) | quiet_step ((fail)))); refine wpQuiet_nil ?_; intro w1 hw1; obtain hb := below_of_ext hw1; clear hw1; obtain ⟨hc, hf⟩ := bcell hb; have hz := hb.size; (try simp at hz))
        have g1 := cell_past hb (cell_lt c1) c1
        have g3 := cell_past hb (cell_lt c3) c3
        have HB := Lib.hid hb
        clear hb hc hf
        go_wp2
        (refine wp_region_quiet_ext (by kernel_rfl) (by kernel_rfl) ?_; (repeat (first | go_big_quiet_step ((fail)) | quiet_step ((fail)))); refine wpQuiet_nil ?_; intro w2 hw2; obtain hb2 := below_of_ext hw2; clear hw2; obtain ⟨hc2, hf2⟩ := bcell hb2; have hz2 := hb2.size; (try simp at hz2))
        have HB2 := Lib.hid (Below.via hb2 HB.out.size HB.out)
        clear hb2 hc2 hf2
        go_wp2
        go_ret2
        exact ⟨rfl, HB2.out⟩
      · have hsf : slotF S at_ = none := by
          unfold slotF
          rw [hd, if_neg (fun hh => h3 (by have := hh.2.2; rw [← Int.natCast_emod] at this; omega))]
        rw [hsf]
        have d3 : (((d % szB S.cls : Nat) : Int) != 0) = true := by rw [bne_iff_ne]; omega
        clear h2 hsf hd hdl hdv h3 hz e5 e6
        generalize d % szB S.cls = r at *
        generalize slB S.cls = sl at *
        go_enter Tryz.func51, Tryz.ntmps51
        go_wp2
        (refine wp_region_quiet_ext (by kernel_rfl) (by kernel_rfl) ?_; (repeat (first | go_big_quiet_step ((fail)) | quiet_step ((fail)))); refine wpQuiet_nil ?_; intro w1 hw1; obtain hb := below_of_ext hw1; clear hw1; obtain ⟨hc, hf⟩ := bcell hb; have hz := hb.size; (try simp at hz))
        have HB := Lib.hid hb
        clear hb hc hf
        go_wp2
        go_ret2
        exact ⟨rfl, HB.out⟩
    · rw [show slotF S at_ = none from if_neg (by omega)]
      have d2 : decide ((S.base : Int) + (szB S.cls : Int) * (slB S.cls : Int) ≤ at_) = true := decide_eq_true (by rw [Int.natCast_mul] at h2; omega)
      clear h2
      go_enter Tryz.func51, Tryz.ntmps51
      go_wp2
      (refine wp_region_quiet_ext (by kernel_rfl) (by kernel_rfl) ?_; (repeat (first | go_big_quiet_step ((fail)) | quiet_step ((fail)))); refine wpQuiet_nil ?_; intro w1 hw1; obtain hb := below_of_ext hw1; clear hw1; obtain ⟨hc, hf⟩ := bcell hb; have hz := hb.size; (try simp at hz))
      have HB := Lib.hid hb
      clear hb hc hf
      go_wp2
      go_ret2
      exact ⟨rfl, HB.out⟩

end Go.Proofs.YtlljejmblmjjnaaGreat

/- newslab: Give, Taken. -/
namespace Go.Proofs.YtlljejmblmjjnaaGreat
set_option linter.unusedVariables false
set_option linter.unusedSimpArgs false
open Go.RowKit Go.ChangeMaps

def GiveDone (w : World) (s c b : Nat) (bs : List Int) (S : SM) (at_ : Int) (e : Ending) (w' : World) : Prop :=
  match slotF S at_ with
  | none => e = .returned (.int .i64 12) ∧ Below w.heap.size w w'
  | some k => if k ∈ S.L then e = .returned (.int .i64 19) ∧ Below w.heap.size w w'
    else e = .returned (.int .i64 0) ∧ SlabAt w' s c { S with L := k :: S.L } ∧ CellsAt w' c b (pushB bs S k) ∧ SlabOk (pushB bs S k) { S with L := k :: S.L } ∧ Turned (fun j => j = s ∨ j = b) w w'

def GiveI1 (w w1 wr : World) (k : Nat) (i v : Value) : Prop :=
  (i = .int .i64 0 ∧ v = .slice none 0 0 ∧ wr = w1) ∨ (i = .int .i64 1 ∧ wr.ownsRow w.heap.size 3 1 v 1 [.int .i64 k] ∧ Below w.heap.size w wr)
def GiveI2 (w w2 wr : World) (s c b : Nat) (bs : List Int) (S : SM) (k : Nat) (i : Value) : Prop :=
  (i = .int .i64 0 ∧ wr = w2) ∨ (i = .int .i64 1 ∧ SlabAt wr s c { S with L := k :: S.L } ∧ CellsAt wr c b (pushB bs S k) ∧ SlabOk (pushB bs S k) { S with L := k :: S.L } ∧ Turned (fun j => j = s ∨ j = b) w wr)

set_option maxRecDepth 100000 in
set_option maxHeartbeats 2000000 in
theorem giveAll_one (s c b g cap : Nat) (bs : List Int) (S : SM) (at_ : Int) (w : World) (h : SlabAt w s c S) (hcell : CellsAt w c b bs) (hok : SlabOk bs S) (hsb : s ≠ b) (hcs : c ≠ s)
    (ha : w.cell? ⟨g, 0, none⟩ = some (.int .i64 at_)) :
    Calls Tryz.prog 95 #[.pointer (some ⟨s, 0, none⟩), .slice (some ⟨g, 0, none⟩) 1 cap] w (GiveDone w s c b bs S at_) := by
  obtain ⟨i0, hi, hz0, hz1, hz2⟩ := info_parts info_int2
  have HW := Lib.hid (row_yes s c b bs S w h hcell hok)
  have hbase : S.base < 2 ^ 40 := by have := hok.fits; have := hcell.len; omega
  have HS := Lib.hid (fun (w : World) hs => slot_any s c S at_ w hs hok.cls hbase)
  have HSL := Lib.hid h
  have HC := Lib.hid hcell
  have HO := Lib.hid hok
  clear h hcell hok
  unfold GiveDone
  cases hsf : slotF S at_ with
  | none =>
    rw [hsf] at HS
    simp only [slotV] at HS
    simp only []
    clear hsf
    go_enter Tryz.func95, Tryz.ntmps95
    go_wp2_with (fail)
    refine HW.out.mono ?_
    rintro e w1 ⟨r, rfl, hr, hb⟩
    have a1 := cell_past hb (cell_lt ha) ha
    have HB := Lib.hid hb
    clear hr hb
    go_wp2
    go_loopw [7, 24] (fun v i wr => GiveI1 w w1 wr 0 i v ∧ i = .int .i64 0) (fun _ i _ => 1 - (intOf i).toNat)
    case atStart => exact ⟨.inl ⟨rfl, rfl, rfl⟩, rfl⟩
    case round =>
      obtain ⟨⟨-, rfl, rfl⟩ | ⟨h1, -⟩, h0⟩ := hrel
      · subst h0
        go_wp2_with (fail)
        refine (HS.out _ (HSL.out.below HB.out)).mono ?_
        rintro e w2 ⟨rfl, hb2⟩
        have HB2 := Lib.hid (Below.via hb2 HB.out.size HB.out)
        clear hb2
        go_wp2
        go_ret
        exact ⟨rfl, HB2.out⟩
      · rw [h0] at h1
        cases h1
  | some k =>
    rw [hsf] at HS
    simp only [slotV] at HS
    simp only []
    obtain ⟨-, hk⟩ := slotF_some HO.out.cls hsf
    have hk128 : k < 128 := by have := slB_le HO.out.cls; omega
    clear hsf
    by_cases hin : k ∈ S.L
    · simp only [if_pos hin]
      go_enter Tryz.func95, Tryz.ntmps95
      go_wp2_with (fail)
      refine HW.out.mono ?_
      rintro e w1 ⟨r, rfl, hr, hb⟩
      have HR := Lib.hid hr
      have a1 := cell_past hb (cell_lt ha) ha
      have HB := Lib.hid hb
      clear hr hb
      go_wp2
      go_loopw [7, 24] (fun v i wr => GiveI1 w w1 wr 0 i v ∧ i = .int .i64 0) (fun _ i _ => 1 - (intOf i).toNat)
      case atStart => exact ⟨.inl ⟨rfl, rfl, rfl⟩, rfl⟩
      case round =>
        obtain ⟨⟨-, rfl, rfl⟩ | ⟨h1, -⟩, h0⟩ := hrel
        · subst h0
          go_wp2_with (fail)
          refine (HS.out _ (HSL.out.below HB.out)).mono ?_
          rintro e w2 ⟨rfl, hb2⟩
          obtain ⟨⟨rb, ws, hrow, htst, -⟩, -⟩ := HR.out
          have HSET := Lib.hid (set_old (k := (k : Int)) (hrow.below hb2) (by rw [Int.toNat_natCast, htst, decide_eq_true hin]; simp))
          have HB2 := Lib.hid (Below.via hb2 HB.out.size HB.out)
          clear hb2 hrow htst hin
          go_wp2_with (fail)
          refine HSET.out.mono ?_
          rintro e w3 ⟨rfl, hb3⟩
          have HB3 := Lib.hid (Below.via hb3 HB2.out.size HB2.out)
          clear hb3
          go_wp2
          go_ret
          exact ⟨rfl, HB3.out⟩
        · rw [h0] at h1
          cases h1
    · simp only [if_neg hin]
      have HP := Lib.hid (fun (w : World) hs hc => push_yes s c b bs S k w hs hc HO.out hk hin hsb hcs)
      go_enter Tryz.func95, Tryz.ntmps95
      go_wp2_with (fail)
      refine HW.out.mono ?_
      rintro e w1 ⟨r, rfl, hr, hb⟩
      have HR := Lib.hid hr
      have a1 := cell_past hb (cell_lt ha) ha
      have HB := Lib.hid hb
      have hs1 := hb.size
      clear hr hb
      go_wp2
      go_loopw [7, 24] (fun v i wr => GiveI1 w w1 wr k i v) (fun _ i _ => 1 - (intOf i).toNat)
      case atStart => exact .inl ⟨rfl, rfl, rfl⟩
      case round =>
        rcases hrel with ⟨rfl, rfl, rfl⟩ | ⟨rfl, hown, hbw⟩
        · go_wp2_with (fail)
          refine (HS.out _ (HSL.out.below HB.out)).mono ?_
          rintro e w2 ⟨rfl, hb2⟩
          obtain ⟨⟨rb, ws, hrow, htst, hrb⟩, -⟩ := HR.out
          have HSET := Lib.hid (set_new (hrow.below hb2) hk (by rw [htst, decide_eq_false hin]))
          have HB2 := Lib.hid (Below.via hb2 HB.out.size HB.out)
          have hs2 := HB2.out.size
          clear hb2 hrow htst hin
          go_wp2_with (fail)
          refine HSET.out.mono ?_
          rintro e w3 ⟨rfl, -, ht3⟩
          have HB3 := Lib.hid (Below.trans HB2.out (ht3.below (B := w.heap.size) (fun x hx => by omega) hs2))
          have hs3 := HB3.out.size
          clear ht3
          go_wp2_with (at_builtin; refine wpList_append_own _ rfl _ _ 37 rfl _ 3 i0 (.int .i64 0) 1 8 und_ints2 hi hz0 hz1 hz2 rfl (by decide) _ _ _ rfl (World.ownsRow.alloc (World.ownsRow_nil _ w.heap.size _ _) _) ⟨_, 0, none⟩ 1 1 [_] rfl rfl (cell_one_new _ _ _) (fun u hu => by simp at hu; rcases hu with rfl; rfl) (by unfold maxLen; omega) (by omega) (by simp; omega) ?_; intro v9 w9 hown9 hgrow9 hnil9)
          have HB9 := Lib.hid (Below.grown (HB3.out.alloc hs3 _) hgrow9 (by simp; omega) (fun j e => by cases e))
          clear hgrow9 hnil9
          go_roundw
          case rel => exact .inr ⟨rfl, hown9, HB9.out⟩
          case measure => simp [intOf]
        · obtain ⟨g2, cap2, rfl, hg2, hcell2⟩ := own_cell hown (by decide)
          have y0 := hcell2 0 (by decide)
          simp only [List.getElem?_cons_zero] at y0
          have HBW := Lib.hid hbw
          clear hown hcell2 hbw
          go_wp2
          go_loopw [50] (fun i wq => GiveI2 w wr wq s c b bs S k i) (fun i _ => 1 - (intOf i).toNat)
          case atStart => exact .inl ⟨rfl, rfl⟩
          case round =>
            rcases hrel with ⟨rfl, rfl⟩ | ⟨rfl, hs, hc, ho, ht⟩
            · go_wp2_with (fail)
              refine (HP.out _ (HSL.out.below HBW.out) (HC.out.below HBW.out)).mono ?_
              rintro e w3 ⟨rfl, hs, hc, ho, ht⟩
              have HS3 := Lib.hid hs
              have HC3 := Lib.hid hc
              have HO3 := Lib.hid ho
              have HT3 := Lib.hid ((Turned.of_below HBW.out (Nat.le_refl _)).trans ht (fun _ h _ => h))
              clear hs hc ho ht
              go_wp2
              go_roundw
              case rel => exact .inr ⟨rfl, HS3.out, HC3.out, HO3.out, HT3.out⟩
              case measure => simp [intOf]
            · have HS3 := Lib.hid hs
              have HC3 := Lib.hid hc
              have HO3 := Lib.hid ho
              have HT3 := Lib.hid ht
              clear hs hc ho ht
              go_wp2
              go_ret
              exact ⟨rfl, HS3.out, HC3.out, HO3.out, HT3.out⟩

theorem GiveDone.alloc {w : World} {s c b : Nat} {bs : List Int} {S : SM} {at_ : Int} {o : Obj} {e : Ending} {w' : World} (h : GiveDone (w.alloc o) s c b bs S at_ e w') : GiveDone w s c b bs S at_ e w' := by
  unfold GiveDone at *
  have hb : Below w.heap.size w (w.alloc o) := (by repeat (first | exact Below.refl _ _ | assumption | refine Below.alloc ?_ (by first | omega | (simp <;> omega)) _ | refine Below.drew ?_ | refine Below.setCell ?_ (by first | omega | (simp <;> omega)) _ | refine Below.via (by assumption) (by first | omega | (simp <;> omega)) ?_))
  cases hsf : slotF S at_ with
  | none => rw [hsf] at h; exact ⟨h.1, Below.via h.2 (by simp) hb⟩
  | some k =>
    rw [hsf] at h
    simp only [] at h ⊢
    by_cases hk : k ∈ S.L
    · rw [if_pos hk] at h ⊢
      exact ⟨h.1, Below.via h.2 (by simp) hb⟩
    · rw [if_neg hk] at h ⊢
      exact ⟨h.1, h.2.1, h.2.2.1, h.2.2.2.1, (Turned.of_below hb (Nat.le_refl _)).trans h.2.2.2.2 (fun _ h _ => h)⟩

set_option maxHeartbeats 400000 in
theorem sgive_any (s c b : Nat) (bs : List Int) (S : SM) (at_ : Int) (w : World) (h : SlabAt w s c S) (hcell : CellsAt w c b bs) (hok : SlabOk bs S) (hsb : s ≠ b) (hcs : c ≠ s) :
    Calls Tryz.prog 55 #[.pointer (some ⟨s, 0, none⟩), .int .i64 at_] w (GiveDone w s c b bs S at_) := by
  have hbl : ∀ o, Below w.heap.size w (w.alloc o) := fun o => (by repeat (first | exact Below.refl _ _ | assumption | refine Below.alloc ?_ (by first | omega | (simp <;> omega)) _ | refine Below.drew ?_ | refine Below.setCell ?_ (by first | omega | (simp <;> omega)) _ | refine Below.via (by assumption) (by first | omega | (simp <;> omega)) ?_))
  have HG := Lib.hid (fun o cap ha => giveAll_one s c b w.heap.size cap bs S at_ (w.alloc o) (h.below (hbl o)) (hcell.below (hbl o)) hok hsb hcs ha)
  clear h hcell hok
  go_enter Tryz.func55, Tryz.ntmps55
  go_wp2_with (fail)
  refine (HG.out _ _ (by simp [go_sem])).mono ?_
  rintro e w1 hd
  have HD := Lib.hid hd.alloc
  have hr : ∃ n, e = .returned (.int .i64 n) := by
    unfold GiveDone at hd
    cases hsf : slotF S at_ with
    | none => rw [hsf] at hd; exact ⟨_, hd.1⟩
    | some k =>
      rw [hsf] at hd
      simp only [] at hd
      by_cases hk : k ∈ S.L
      · rw [if_pos hk] at hd; exact ⟨_, hd.1⟩
      · rw [if_neg hk] at hd; exact ⟨_, hd.1⟩
  obtain ⟨n, rfl⟩ := hr
  clear hd
  go_wp2
  go_ret
  exact HD.out

end Go.Proofs.YtlljejmblmjjnaaGreat

/- newslab: Taken, With, New. -/
namespace Go.Proofs.YtlljejmblmjjnaaGreat
set_option linter.unusedVariables false
set_option linter.unusedSimpArgs false
open Go.RowKit Go.ChangeMaps

/-- A slice of whole numbers. -/
def Ints (w : World) (base : Nat) (v : Value) (l : List Int) : Prop :=
  ∃ p cap, v = .slice p l.length cap ∧ (l ≠ [] → ∃ g, p = some ⟨g, 0, none⟩ ∧ base ≤ g ∧ ∀ i, i < l.length → w.cell? ⟨g, i, none⟩ = some (.int .i64 (l.getD i 0)))
theorem Ints.nil (w : World) (base : Nat) : Ints w base (.slice none 0 0) [] := ⟨none, 0, rfl, fun h => absurd rfl h⟩
theorem Ints.turned {w w' : World} {F : Nat → Prop} {base : Nat} {v : Value} {l : List Int} (h : Ints w base v l) (t : Turned F w w') (hF : ∀ k, F k → k < base) : Ints w' base v l := by
  obtain ⟨p, cap, rfl, hh⟩ := h
  refine ⟨p, cap, rfl, fun hl => ?_⟩
  obtain ⟨g, rfl, hg, hc⟩ := hh hl
  exact ⟨g, rfl, hg, fun i hi => turned_cell t (fun hf => by have := hF _ hf; omega) (hc i hi)⟩
theorem Ints.below {w w' : World} {base : Nat} {v : Value} {l : List Int} (h : Ints w base v l) (hb : Below w.heap.size w w') : Ints w' base v l := h.turned (Turned.of_below (F := fun _ => False) hb (Nat.le_refl _)) (fun _ h => h.elim)
theorem Ints.mono {w : World} {base base' : Nat} {v : Value} {l : List Int} (h : Ints w base v l) (hb : base' ≤ base) : Ints w base' v l := by
  obtain ⟨p, cap, rfl, hh⟩ := h
  refine ⟨p, cap, rfl, fun hl => ?_⟩
  obtain ⟨g, rfl, hg, hc⟩ := hh hl
  exact ⟨g, rfl, by omega, hc⟩
theorem Ints.of_own {w : World} {base n : Nat} {v : Value} {l : List Int} (h : w.ownsRow base 3 1 v n (intsV l)) (hn : n = l.length) : Ints w base v l := by
  subst hn
  by_cases h0 : l = []
  · subst h0
    obtain ⟨p, c, rfl⟩ := own_slice2 h
    exact ⟨p, c, rfl, fun hh => absurd rfl hh⟩
  · obtain ⟨g, cap, rfl, hg, hc⟩ := own_cell h (by have := List.length_pos_iff.2 h0; omega)
    refine ⟨_, cap, rfl, fun _ => ⟨g, rfl, hg, fun i hi => ?_⟩⟩
    rw [hc i hi]
    show (l.map (Value.int .i64))[i]? = _
    rw [List.getElem?_map, List.getD_eq_getElem?_getD, List.getElem?_eq_getElem hi]
    rfl

set_option maxHeartbeats 400000 in
theorem clip_nil (w : World) : Calls Tryz.prog 70 #[.slice none 0 0] w fun e w' => e = .returned (.slice none 0 0) ∧ w = w' := by
  go_enter Tryz.func70, Tryz.ntmps70
  go_wp2
  go_ret
  exact ⟨rfl, rfl⟩
set_option maxHeartbeats 400000 in
theorem clip_some (w : World) (g n cap : Nat) (h : n ≤ cap) (hn : n ≤ 1000000) : Calls Tryz.prog 70 #[.slice (some ⟨g, 0, none⟩) n cap] w fun e w' => e = .returned (.slice (some ⟨g, 0, none⟩) n n) ∧ w = w' := by
  have h1 : (0 : Int) ≤ (n : Int) ∧ (n : Int) ≤ (n : Int) ∧ (n : Int) ≤ (cap : Int) := by omega
  go_enter Tryz.func70, Tryz.ntmps70
  go_wp2
  go_ret
  exact ⟨rfl, rfl⟩

def takenL (S : SM) : List Nat := (List.range (slB S.cls)).filter fun k => decide (k ∉ S.L)
def intsN (l : List Nat) : List Int := l.map fun (k : Nat) => (k : Int)
def STakenPost (w : World) (S : SM) (e : Ending) (w' : World) : Prop :=
  ∃ v, e = .returned (.tuple #[v, .int .i64 0]) ∧ Ints w' w.heap.size v (intsN (takenL S)) ∧ Below w.heap.size w w'

def takenTo (S : SM) (k : Nat) : List Nat := (List.range k).filter fun k => decide (k ∉ S.L)
theorem takenTo_succ (S : SM) (k : Nat) : takenTo S (k + 1) = if k ∈ S.L then takenTo S k else takenTo S k ++ [k] := by
  unfold takenTo
  rw [List.range_succ, List.filter_append]
  by_cases h : k ∈ S.L <;> simp [h]
theorem takenTo_length (S : SM) (k : Nat) : (takenTo S k).length ≤ k := by
  unfold takenTo
  have := List.length_filter_le (fun k => decide (k ∉ S.L)) (List.range k)
  simpa using this

set_option maxRecDepth 100000 in
set_option maxHeartbeats 2000000 in
theorem staken_yes (s c b : Nat) (bs : List Int) (S : SM) (w : World) (h : SlabAt w s c S) (hcell : CellsAt w c b bs) (hok : SlabOk bs S) :
    Calls Tryz.prog 34 #[.pointer (some ⟨s, 0, none⟩)] w (STakenPost w S) := by
  obtain ⟨i0, hi, hz0, hz1, hz2⟩ := info_parts info_int2
  have HW := Lib.hid (row_yes s c b bs S w h hcell hok)
  have hsl := slB_le hok.cls
  obtain ⟨-, -, -, -, c4, -, -⟩ := h.cells
  clear h hcell hok
  go_enter Tryz.func34, Tryz.ntmps34
  go_wp2_with (fail)
  refine HW.out.mono ?_
  rintro e w1 ⟨r, rfl, hr, hb⟩
  obtain ⟨rb, ws, hrow, htst, hrb⟩ := hr.row
  have HROW := Lib.hid hrow
  have HTST := Lib.hid htst
  have d4 := cell_past hb (cell_lt c4) c4
  have HB := Lib.hid hb
  have hs1 := hb.size
  clear hr hb hrow htst hrb
  go_wp2
  go_loopw [6, 20] (fun v i wr => ∃ k : Nat, k ≤ slB S.cls ∧ i = .int .i64 k ∧ wr.ownsRow w1.heap.size 3 1 v (takenTo S k).length (intsV (intsN (takenTo S k))) ∧ Below w1.heap.size w1 wr) (fun _ i _ => slB S.cls - (intOf i).toNat)
  case atStart => exact ⟨0, Nat.zero_le _, rfl, World.ownsRow_nil _ _ _ _, Below.refl _ _⟩
  case round =>
    obtain ⟨k, hk, rfl, hown, hbw⟩ := hrel
    have HBW := Lib.hid hbw
    have hsw := hbw.size
    by_cases hlt : k < slB S.cls
    · have HTE := Lib.hid (test_any r rb (slB S.cls) ws (k : Int) wr (HROW.out.below hbw))
      have hi1 : (k : Int) < slB S.cls := by omega
      have hkw : IntKind.i64.wrap ((k : Int) + 1) = (k : Int) + 1 := by rw [IntKind.wrap_i64]; omega
      have htl := takenTo_length S k
      by_cases hin : k ∈ S.L
      · have hv : (decide (0 ≤ (k : Int) ∧ (k : Int) < (slB S.cls : Nat)) && tstB ws (k : Int).toNat) = true := by
          rw [Int.toNat_natCast, HTST.out, decide_eq_true hin, decide_eq_true (by omega)]; rfl
        rw [hv] at HTE
        have HS := Lib.hid (show takenTo S (k + 1) = takenTo S k by rw [takenTo_succ, if_pos hin])
        have HOWN := Lib.hid hown
        clear hv hbw hown hin
        go_wp2_with (fail)
        refine HTE.out.mono ?_
        rintro e w2 ⟨rfl, hb2⟩
        have HB2 := Lib.hid (Below.via hb2 hsw HBW.out)
        have HOWN2 := Lib.hid (ownsRow_below HOWN.out hb2)
        clear hb2
        go_wp2
        go_roundw
        case rel => exact ⟨k + 1, by omega, by go_num, by rw [HS.out]; exact HOWN2.out, HB2.out⟩
        case measure => simp [intOf]; omega
      · have hv : (decide (0 ≤ (k : Int) ∧ (k : Int) < (slB S.cls : Nat)) && tstB ws (k : Int).toNat) = false := by
          rw [Int.toNat_natCast, HTST.out, decide_eq_false hin, Bool.and_false]
        rw [hv] at HTE
        have HS := Lib.hid (show takenTo S (k + 1) = takenTo S k ++ [k] by rw [takenTo_succ, if_neg hin])
        have HOWN := Lib.hid hown
        clear hv hbw hown hin
        go_wp2_with (fail)
        refine HTE.out.mono ?_
        rintro e w2 ⟨rfl, hb2⟩
        have HB2 := Lib.hid (Below.via hb2 hsw HBW.out)
        have hown2 := ownsRow_below HOWN.out hb2
        have hs2 := HB2.out.size
        have hlt2 := fun j e => (hown2.lt j e).1
        have HLT2 := Lib.hid hlt2
        clear hb2 hlt2
        go_wp2_with (at_builtin; refine wpList_append_own _ rfl _ _ 37 rfl _ 3 i0 (.int .i64 0) 1 8 und_ints2 hi hz0 hz1 hz2 rfl (by decide) _ _ _ rfl (World.ownsRow.alloc hown2 _) ⟨_, 0, none⟩ 1 1 [_] rfl rfl (cell_one_new _ _ _) (fun u hu => by simp at hu; rcases hu with rfl; rfl) (by unfold maxLen; omega) (by omega) (by simp; omega) ?_; intro v9 w9 hown9 hgrow9 hnil9)
        have HB9 := Lib.hid (Below.grown (HB2.out.alloc hs2 _) hgrow9 (by simp; omega) HLT2.out)
        have HOWN9 := Lib.hid hown9
        clear hgrow9 hnil9 hown9 hown2
        go_roundw
        case rel => exact ⟨k + 1, by omega, by go_num, by rw [HS.out, List.length_append]; unfold intsN; rw [List.map_append]; unfold intsV; rw [List.map_append]; exact HOWN9.out, HB9.out⟩
        case measure => simp [intOf]; omega
    · obtain rfl : k = slB S.cls := by omega
      have hin := Ints.of_own hown (by unfold intsN; simp)
      have HIN := Lib.hid hin
      have htl := takenTo_length S (slB S.cls)
      rcases hown.2 with ⟨rfl, -⟩ | ⟨g, cap, cur, rfl, hg, hgb, hcm, hsz, hle, htk⟩
      · clear hown hin
        have hcl := Lib.hid (fun w => clip_nil w)
        go_wp2_with (fail)
        refine (hcl.out _).mono ?_
        rintro e w2 ⟨rfl, rfl⟩
        go_wp2
        go_ret2
        exact ⟨_, rfl, HIN.out.mono hs1, Below.via HBW.out hs1 HB.out⟩
      · have hcl := Lib.hid (fun w => clip_some w g (takenTo S (slB S.cls)).length cap (by omega) (by omega))
        clear hown hin hgb hsz htk
        go_wp2_with (fail)
        refine (hcl.out _).mono ?_
        rintro e w2 ⟨rfl, rfl⟩
        go_wp2
        go_ret2
        refine ⟨_, rfl, ?_, Below.via HBW.out hs1 HB.out⟩
        obtain ⟨p, cp, hv, hh⟩ := HIN.out.mono hs1
        injection hv with hp hl hc
        subst hp
        exact ⟨_, _, by rw [hl]; rfl, hh⟩

end Go.Proofs.YtlljejmblmjjnaaGreat

/- newslab: empty, With, New. -/
namespace Go.Proofs.YtlljejmblmjjnaaGreat
set_option linter.unusedVariables false
set_option linter.unusedSimpArgs false
open Go.RowKit Go.ChangeMaps

set_option maxHeartbeats 400000 in
theorem clen_any (c b : Nat) (bs : List Int) (w : World) (h : CellsAt w c b bs) : Calls Tryz.prog 176 #[.pointer (some ⟨c, 0, none⟩)] w fun e w' => e = .returned (.int .i64 (bs.length : Nat)) ∧ w = w' := by
  have c0 : w.cell? ⟨c, 0, none⟩ = some (.slice (some ⟨b, 0, none⟩) bs.length bs.length) := by rw [cell_of_block h.obj]; rfl
  clear h
  go_enter Tryz.func176, Tryz.ntmps176
  go_wp2
  go_ret
  exact ⟨rfl, rfl⟩

theorem wraps_i64 (n : Int) (h0 : 0 ≤ n) (h1 : n < 2 ^ 63) : IntKind.i64.wrap n = n := by rw [IntKind.wrap_i64]; omega
theorem and1023 (n : Nat) (h : n < 2 ^ 62) : bits .and .i64 (n : Int) 1023 = ((n % 1024 : Nat) : Int) := by
  have := bits_mask .i64 63 (by decide) wraps_i64 10 (by decide) (n : Int) (Int.natCast_nonneg _) (by omega)
  rw [show (2 : Int) ^ 10 - 1 = 1023 from rfl, show (2 : Int) ^ 10 = 1024 from rfl] at this
  rw [this]
  omega

def EmptyPost (w : World) (c base cls : Nat) (e : Ending) (w' : World) : Prop :=
  ∃ s, e = .returned (.tuple #[.pointer (some ⟨s, 0, none⟩), .int .i64 0]) ∧ SlabAt w' s c ⟨base, cls, []⟩ ∧ Below w.heap.size w w' ∧ w.heap.size ≤ s

set_option maxRecDepth 4000 in
set_option maxHeartbeats 1000000 in
theorem empty_yes (c b base cls : Nat) (bs : List Int) (w : World) (h : CellsAt w c b bs) (ha : base % 1024 = 0) (hf : base + 1024 ≤ bs.length) (hc : cls < 12) :
    Calls Tryz.prog 153 #[.pointer (some ⟨c, 0, none⟩), .int .i64 base, .int .i64 cls] w (EmptyPost w c base cls) := by
  have hl := h.len
  have HZ := Lib.hid (fun w => size_new (cls : Int) w)
  rw [szB_sizeB hc] at HZ
  have HL := Lib.hid (fun w h => clen_any c b bs w h)
  have HC := Lib.hid h
  have ha1 := and1023 base (by omega)
  rw [ha] at ha1
  have hp := szB_pos hc
  have hsl := slB_le hc
  have hb0 : ¬ (base : Int) < 0 := by omega
  have hd0 : decide ((base : Int) < 0) = false := decide_eq_false hb0
  have hw : IntKind.i64.wrap ((bs.length : Int) - 1024) = (bs.length : Int) - 1024 := by rw [IntKind.wrap_i64]; omega
  have hd1 : decide ((bs.length : Int) - 1024 < (base : Int)) = false := decide_eq_false (by omega)
  have hz : ((szB cls : Int) == 0) = false := by simp; omega
  have hz' : ¬ (szB cls : Int) = 0 := by omega
  have hq : (1024 : Int) / (szB cls : Nat) = (slB cls : Nat) := by unfold slB; exact (Int.natCast_ediv 1024 (szB cls)).symm
  have hq2 : IntKind.i64.wrap (slB cls : Int) = (slB cls : Int) := by rw [IntKind.wrap_i64]; omega
  clear h ha hf
  go_enter Tryz.func153, Tryz.ntmps153
  go_wp2_with (fail)
  refine (HZ.out _).mono ?_
  rintro e w1 ⟨rfl, hb⟩
  have HB := Lib.hid hb
  have hs1 := hb.size
  clear hb
  go_wp2_with (fail)
  refine (HL.out _ (HC.out.below HB.out)).mono ?_
  rintro e w2 ⟨rfl, rfl⟩
  go_wp2
  go_ret2
  exact ⟨_, rfl, heap_alloc_new _ _, HB.out.alloc hs1 _, hs1⟩

set_option maxRecDepth 4000 in
set_option maxHeartbeats 1000000 in
theorem empty_no (c b base cls : Nat) (bs : List Int) (w : World) (h : CellsAt w c b bs) (ha : base % 1024 = 0) (hf : bs.length < base + 1024) (hc : cls < 12) (hbb : base < 2 ^ 40) :
    Calls Tryz.prog 153 #[.pointer (some ⟨c, 0, none⟩), .int .i64 base, .int .i64 cls] w fun e w' => e = .returned (.tuple #[.pointer none, .int .i64 11]) ∧ Below w.heap.size w w' := by
  have hl := h.len
  have HZ := Lib.hid (fun w => size_new (cls : Int) w)
  rw [szB_sizeB hc] at HZ
  have HL := Lib.hid (fun w h => clen_any c b bs w h)
  have HC := Lib.hid h
  have ha1 := and1023 base (by omega)
  rw [ha] at ha1
  have hb0 : ¬ (base : Int) < 0 := by omega
  have hd0 : decide ((base : Int) < 0) = false := decide_eq_false hb0
  have hw : IntKind.i64.wrap ((bs.length : Int) - 1024) = (bs.length : Int) - 1024 := by rw [IntKind.wrap_i64]; omega
  have hd1 : decide ((bs.length : Int) - 1024 < (base : Int)) = true := decide_eq_true (by omega)
  clear h ha hf
  go_enter Tryz.func153, Tryz.ntmps153
  go_wp2_with (fail)
  refine (HZ.out _).mono ?_
  rintro e w1 ⟨rfl, hb⟩
  have HB := Lib.hid hb
  have hs1 := hb.size
  clear hb
  go_wp2_with (fail)
  refine (HL.out _ (HC.out.below HB.out)).mono ?_
  rintro e w2 ⟨rfl, rfl⟩
  go_wp2
  go_ret2
  exact ⟨rfl, HB.out⟩

/-- The slots from k on (m of them) that aren't among t. -/
def freeFrom (t : List Nat) : Nat → Nat → List Nat
  | 0, _ => []
  | m + 1, k => if k ∈ t then freeFrom t m (k + 1) else k :: freeFrom t m (k + 1)
theorem freeFrom_mem (t : List Nat) : ∀ (m k x : Nat), x ∈ freeFrom t m k ↔ k ≤ x ∧ x < k + m ∧ x ∉ t
  | 0, k, x => by simp [freeFrom]; omega
  | m + 1, k, x => by
    unfold freeFrom
    have ih := freeFrom_mem t m (k + 1) x
    by_cases h : k ∈ t
    · rw [if_pos h, ih]
      constructor
      · rintro ⟨h1, h2, h3⟩; exact ⟨by omega, by omega, h3⟩
      · rintro ⟨h1, h2, h3⟩
        have : x ≠ k := fun e => h3 (e ▸ h)
        exact ⟨by omega, by omega, h3⟩
    · rw [if_neg h, List.mem_cons, ih]
      constructor
      · rintro (rfl | ⟨h1, h2, h3⟩)
        · exact ⟨Nat.le_refl _, by omega, h⟩
        · exact ⟨by omega, by omega, h3⟩
      · rintro ⟨h1, h2, h3⟩
        by_cases e : x = k
        · exact .inl e
        · exact .inr ⟨by omega, by omega, h3⟩
theorem freeFrom_none (t : List Nat) (k : Nat) : ∀ m, freeFrom t 0 m = [] := fun _ => rfl
/-- The bytes behind the pushes. -/
def freshB (bs : List Int) (base cls : Nat) (t : List Nat) : Nat → Nat → List Int
  | 0, _ => bs
  | m + 1, k => if k ∈ t then freshB bs base cls t m (k + 1) else pushB (freshB bs base cls t m (k + 1)) ⟨base, cls, freeFrom t m (k + 1)⟩ k

theorem dec_snoc (j x : Nat) (l : List Nat) : (decide (j = x) || decide (j ∈ l)) = decide (j ∈ l ++ [x]) := by
  by_cases h1 : j = x <;> by_cases h2 : j ∈ l <;> simp [h1, h2]
def WithI1 (w w2 wr : World) (r rb n : Nat) (t : List Nat) (i : Value) : Prop :=
  ∃ k : Nat, k ≤ t.length ∧ i = .int .i64 k ∧ (∃ ws, RowAt wr r rb n ws ∧ ∀ j, tstB ws j = decide (j ∈ t.take k)) ∧ Turned (fun j => j = rb) w2 wr

def WithI2 (w wr : World) (s c b base cls : Nat) (bs : List Int) (r rb : Nat) (ws : List Nat) (t : List Nat) (i : Value) : Prop :=
  ∃ k : Nat, k ≤ slB cls ∧ i = .int .i64 ((k : Int) - 1) ∧ SlabAt wr s c ⟨base, cls, freeFrom t (slB cls - k) k⟩ ∧ CellsAt wr c b (freshB bs base cls t (slB cls - k) k) ∧ SlabOk (freshB bs base cls t (slB cls - k) k) ⟨base, cls, freeFrom t (slB cls - k) k⟩ ∧
    RowAt wr r rb (slB cls) ws ∧ Turned (fun j => j = b) w wr

def WithPost (w : World) (c b base cls : Nat) (bs : List Int) (t : List Nat) (e : Ending) (w' : World) : Prop :=
  ∃ s, e = .returned (.tuple #[.pointer (some ⟨s, 0, none⟩), .int .i64 0]) ∧ SlabAt w' s c ⟨base, cls, freeFrom t (slB cls) 0⟩ ∧ CellsAt w' c b (freshB bs base cls t (slB cls) 0) ∧ SlabOk (freshB bs base cls t (slB cls) 0) ⟨base, cls, freeFrom t (slB cls) 0⟩ ∧
    Turned (fun j => j = b) w w' ∧ w.heap.size ≤ s

theorem RowAt.ne2 {w : World} {r rb n : Nat} {ws : List Nat} (h : RowAt w r rb n ws) {s c : Nat} {S : SM} (hs : SlabAt w s c S) : s ≠ r ∧ s ≠ rb := by
  constructor
  · rintro rfl
    have h1 := h.obj
    rw [hs] at h1
    simp at h1
  · rintro rfl
    have h1 := h.words
    rw [hs] at h1
    simp at h1
theorem RowAt.ne3 {w : World} {r rb n : Nat} {ws : List Nat} (h : RowAt w r rb n ws) {c b : Nat} {bs : List Int} (hs : CellsAt w c b bs) : b ≠ r ∧ b ≠ rb ∧ c ≠ r ∧ c ≠ rb := by
  refine ⟨?_, ?_, ?_, ?_⟩
  · rintro rfl
    have h1 := h.obj
    rw [hs.bytes] at h1
    simp at h1
  · rintro rfl
    have h1 := h.words
    rw [hs.bytes] at h1
    simp at h1
  · rintro rfl
    have h1 := h.obj
    rw [hs.obj] at h1
    simp at h1
  · rintro rfl
    have h1 := h.words
    rw [hs.obj] at h1
    simp at h1
theorem SlabAt.ne {w : World} {s c b : Nat} {S : SM} {bs : List Int} (h : SlabAt w s c S) (hs : CellsAt w c b bs) : s ≠ b ∧ c ≠ s := by
  constructor
  · rintro rfl
    have h1 := hs.bytes
    rw [h] at h1
    simp at h1
  · rintro rfl
    have h1 := hs.obj
    rw [h] at h1
    simp at h1

set_option maxRecDepth 100000 in
set_option maxHeartbeats 4000000 in
theorem with_yes (c b base cls : Nat) (bs : List Int) (tv : Value) (t : List Nat) (w : World) (h : CellsAt w c b bs) (ha : base % 1024 = 0) (hf : base + 1024 ≤ bs.length) (hc : cls < 12)
    (ht : Ints w 0 tv (intsN t)) (hn : t.Nodup) (hlt : ∀ k ∈ t, k < slB cls) :
    Calls Tryz.prog 128 #[.pointer (some ⟨c, 0, none⟩), .int .i64 base, .int .i64 cls, tv] w (WithPost w c b base cls bs t) := by
  have hsl := slB_le hc
  have htl : t.length ≤ 128 := by have := nodup_le _ _ hn hlt; omega
  have HE := Lib.hid (empty_yes c b base cls bs w h ha hf hc)
  have HN := Lib.hid (fun w => bitsNew_yes (slB cls) w (by omega))
  have HC := Lib.hid h
  have hblt : b < w.heap.size := lt_of_block h.bytes
  have hclt : c < w.heap.size := lt_of_block h.obj
  obtain ⟨p, cap, rfl, hp⟩ := ht
  have hil : (intsN t).length = t.length := by unfold intsN; simp
  rw [hil]
  have HP := Lib.hid (show ∀ i (hi : i < t.length), ∃ g, p = some ⟨g, 0, none⟩ ∧ w.cell? ⟨g, i, none⟩ = some (.int .i64 ((t[i] : Nat) : Int)) from fun i hi => by
    obtain ⟨g, h1, -, h2⟩ := hp (fun e => by rw [e] at hil; simp at hil; omega)
    refine ⟨g, h1, ?_⟩
    rw [h2 i (by omega)]
    unfold intsN
    rw [List.getD_eq_getElem?_getD, List.getElem?_map, List.getElem?_eq_getElem hi]
    rfl)
  have HL := Lib.hid (show ∀ k (hk : k < t.length), t[k] < slB cls ∧ t[k] ∉ t.take k ∧ t.take (k + 1) = t.take k ++ [t[k]] from fun k hk => by
    refine ⟨hlt _ (List.getElem_mem hk), ?_, List.take_succ_eq_append_getElem hk⟩
    intro hm
    have he : t.drop k = t[k] :: t.drop (k + 1) := List.drop_eq_getElem_cons hk
    rw [← List.take_append_drop k t, List.nodup_append] at hn
    exact hn.2.2 t[k] hm t[k] (by rw [he]; exact List.mem_cons_self) rfl)
  have HOK0 := Lib.hid (show SlabOk bs ⟨base, cls, []⟩ from ⟨ha, hf, hc, List.nodup_nil, (fun _ h => (by cases h)), trivial⟩)
  clear h ha hf hp hil hn hlt
  go_enter Tryz.func128, Tryz.ntmps128
  go_wp2_with (fail)
  refine HE.out.mono ?_
  rintro e w1 ⟨s, rfl, hs, hb, hsn⟩
  obtain ⟨-, -, -, -, c4, -, -⟩ := hs.cells
  have HS := Lib.hid hs
  have HB := Lib.hid hb
  have hs1 := hb.size
  have hslt := lt_of_block hs
  clear hs hb
  go_wp2_with (fail)
  refine (HN.out _).mono ?_
  rintro e w2 ⟨rfl, hrow, hb2, hz2⟩
  have HROW := Lib.hid hrow
  have HB2 := Lib.hid (Below.via hb2 hs1 HB.out)
  have HS2 := Lib.hid (HS.out.below hb2)
  have d4 := cell_past hb2 (cell_lt c4) c4
  have hs2 := hb2.size
  generalize hrr : w1.heap.size + 1 = r at *
  generalize hrrb : w1.heap.size = rb at *
  clear hb2 hrow hz2
  go_wp2
  go_loopw [37] (fun i wr => WithI1 w w2 wr r rb (slB cls) t i) (fun i _ => t.length - (intOf i).toNat)
  case atStart => exact ⟨0, Nat.zero_le _, rfl, ⟨_, HROW.out, fun j => by rw [tst_none]; simp⟩, Turned.refl _ _⟩
  case round =>
    obtain ⟨k, hk, rfl, ⟨ws, hrow, htst⟩, htw⟩ := hrel
    have HTW := Lib.hid htw
    by_cases hlt : k < t.length
    · obtain ⟨g, rfl, hcell⟩ := HP.out k hlt
      obtain ⟨h1, h2, h3⟩ := HL.out k hlt
      have hgl := cell_lt hcell
      have y0 : wr.cell? ⟨g, k, none⟩ = some (.int .i64 ((t[k] : Nat) : Int)) := turned_cell htw (by omega) (cell_past HB2.out hgl hcell)
      have HSET := Lib.hid (set_new hrow h1 (by rw [htst, decide_eq_false h2]))
      have HT := Lib.hid (show ∀ j, tstB (setB ws t[k]) j = decide (j ∈ t.take (k + 1)) from fun j => by
        rw [tst_set (by rw [hrow.len]; omega), htst, h3, dec_snoc])
      have hi1 : (0 : Int) ≤ (k : Int) ∧ (k : Int) < t.length := by omega
      have hkw : IntKind.i64.wrap ((k : Int) + 1) = (k : Int) + 1 := by rw [IntKind.wrap_i64]; omega
      clear hcell h1 h2 h3 hrow htst htw
      generalize t[k] = x at *
      go_wp2_with (fail)
      refine HSET.out.mono ?_
      rintro e w3 ⟨rfl, hrow3, ht3⟩
      have HROW3 := Lib.hid hrow3
      have HT3 := Lib.hid (HTW.out.trans ht3 (fun _ h _ => h))
      clear hrow3 ht3
      go_wp2
      go_roundw
      case rel => exact ⟨k + 1, by omega, by go_num, ⟨_, HROW3.out, HT.out⟩, HT3.out⟩
      case measure => first | (simp [intOf]; done) | (simp [intOf]; omega)
    · obtain rfl : k = t.length := by omega
      rw [List.take_length] at htst
      have HTST := Lib.hid htst
      have HR := Lib.hid hrow
      have hTW : Turned (fun j => j = b) w wr := (Turned.of_below HB2.out (Nat.le_refl _)).trans htw (fun x hx hl => by omega)
      have hSW : SlabAt wr s c ⟨base, cls, []⟩ := HS2.out.turned htw (by omega)
      have hCW : CellsAt wr c b bs := HC.out.turned ((Turned.of_below (F := fun _ => False) HB2.out (Nat.le_refl _)).trans htw (fun x hx hl => by omega)) (fun h => h) (fun h => h)
      have e4 : wr.cell? ⟨s, 4, none⟩ = some (.int .i64 (slB cls : Nat)) := turned_cell htw (by omega) d4
      have HTWW := Lib.hid hTW
      have HSW := Lib.hid hSW
      have HCW := Lib.hid hCW
      have hszw := htw.size
      have hsub : IntKind.i64.wrap ((slB cls : Int) - 1) = (slB cls : Int) - 1 := by rw [IntKind.wrap_i64]; omega
      clear htst hrow htw hTW hSW hCW
      go_wp2
      go_loopw [16] (fun i wq => WithI2 w wq s c b base cls bs r rb ws t i) (fun i _ => (intOf i + 1).toNat)
      case atStart => exact ⟨slB cls, Nat.le_refl _, rfl, by rw [Nat.sub_self]; exact HSW.out, by rw [Nat.sub_self]; exact HCW.out, by rw [Nat.sub_self]; exact HOK0.out, HR.out, HTWW.out⟩
      case round =>
        obtain ⟨k, hk, rfl, hs, hc2, ho, hr, htq⟩ := hrel
        have HTQ := Lib.hid htq
        by_cases hk0 : k = 0
        · subst hk0
          have HSF := Lib.hid hs
          have HCF := Lib.hid hc2
          have HOF := Lib.hid ho
          clear hs hc2 ho hr htq
          go_wp2
          go_ret2
          refine ⟨s, rfl, HSF.out, HCF.out, HOF.out, HTQ.out, hsn⟩
        · obtain ⟨j, rfl⟩ : ∃ j, k = j + 1 := ⟨k - 1, by omega⟩
          rw [show (((j + 1 : Nat) : Int) - 1) = (j : Int) by omega]
          have hjn : slB cls - j = slB cls - (j + 1) + 1 := by omega
          have HTE := Lib.hid (test_any r rb (slB cls) ws (j : Int) wr hr)
          have HR2 := Lib.hid hr
          have hws : IntKind.i64.wrap ((j : Int) - 1) = (j : Int) - 1 := by rw [IntKind.wrap_i64]; omega
          have hge : (0 : Int) ≤ (j : Int) := Int.natCast_nonneg _
          have hszq := htq.size
          by_cases hin : j ∈ t
          · have hv : (decide (0 ≤ (j : Int) ∧ (j : Int) < (slB cls : Nat)) && tstB ws (j : Int).toNat) = true := by
              rw [Int.toNat_natCast, HTST.out, decide_eq_true hin, decide_eq_true (by omega)]; rfl
            rw [hv] at HTE
            have e1 : freeFrom t (slB cls - j) j = freeFrom t (slB cls - (j + 1)) (j + 1) := by rw [hjn, freeFrom, if_pos hin]
            have e2 : freshB bs base cls t (slB cls - j) j = freshB bs base cls t (slB cls - (j + 1)) (j + 1) := by rw [hjn, freshB, if_pos hin]
            rw [← e1] at hs ho
            rw [← e2] at hc2 ho
            have HSF := Lib.hid hs
            have HCF := Lib.hid hc2
            have HOF := Lib.hid ho
            clear hs hc2 ho hr htq hv e1 e2 hin hjn
            go_wp2_with (fail)
            refine HTE.out.mono ?_
            rintro e w3 ⟨rfl, hb3⟩
            have HSF3 := Lib.hid (HSF.out.below hb3)
            have HCF3 := Lib.hid (HCF.out.below hb3)
            have HR3 := Lib.hid (HR2.out.below hb3)
            have HTQ3 := Lib.hid (HTQ.out.trans (Turned.of_below (F := fun j => j = b) hb3 (Nat.le_refl _)) (fun _ h _ => h))
            clear hb3
            go_wp2
            go_roundw
            case rel => exact ⟨j, by omega, rfl, HSF3.out, HCF3.out, HOF.out, HR3.out, HTQ3.out⟩
            case measure => first | (simp [intOf]; done) | (simp [intOf]; omega)
          · have hv : (decide (0 ≤ (j : Int) ∧ (j : Int) < (slB cls : Nat)) && tstB ws (j : Int).toNat) = false := by
              rw [Int.toNat_natCast, HTST.out, decide_eq_false hin, Bool.and_false]
            rw [hv] at HTE
            have e1 : freeFrom t (slB cls - j) j = j :: freeFrom t (slB cls - (j + 1)) (j + 1) := by rw [hjn, freeFrom, if_neg hin]
            have e2 : freshB bs base cls t (slB cls - j) j = pushB (freshB bs base cls t (slB cls - (j + 1)) (j + 1)) ⟨base, cls, freeFrom t (slB cls - (j + 1)) (j + 1)⟩ j := by rw [hjn, freshB, if_neg hin]
            have HE1 := Lib.hid e1
            have HE2 := Lib.hid e2
            have hnf : j ∉ freeFrom t (slB cls - (j + 1)) (j + 1) := fun hm => by have := (freeFrom_mem _ _ _ _).1 hm; omega
            have HP3 := Lib.hid (fun (w3 : World) (hb3 : Below wr.heap.size wr w3) => push_yes s c b _ ⟨base, cls, freeFrom t (slB cls - (j + 1)) (j + 1)⟩ j w3 (hs.below hb3) (hc2.below hb3) ho (show j < slB cls by omega) hnf (hs.ne hc2).1 (hs.ne hc2).2)
            have HNB := Lib.hid (⟨hr.ne2 hs, hr.ne3 hc2⟩ : (s ≠ r ∧ s ≠ rb) ∧ b ≠ r ∧ b ≠ rb ∧ c ≠ r ∧ c ≠ rb)
            clear hs hc2 ho hr htq hv e1 e2 hin hjn hnf
            go_wp2_with (fail)
            refine HTE.out.mono ?_
            rintro e w3 ⟨rfl, hb3⟩
            have HR3 := Lib.hid (HR2.out.below hb3)
            have HTQ3 := Lib.hid (HTQ.out.trans (Turned.of_below (F := fun j => j = b) hb3 (Nat.le_refl _)) (fun _ h _ => h))
            have HPB := Lib.hid (HP3.out w3 hb3)
            clear hb3
            go_wp2_with (fail)
            refine HPB.out.mono ?_
            rintro e w4 ⟨rfl, hs4, hc4, ho4, ht4⟩
            rw [← HE2.out] at hc4 ho4
            have hs4' : SlabAt w4 s c ⟨base, cls, freeFrom t (slB cls - j) j⟩ := by rw [HE1.out]; exact hs4
            have ho4' : SlabOk (freshB bs base cls t (slB cls - j) j) ⟨base, cls, freeFrom t (slB cls - j) j⟩ := by rw [HE1.out]; exact ho4
            have HS4 := Lib.hid hs4'
            have HC4 := Lib.hid hc4
            have HO4 := Lib.hid ho4'
            have HR4 := Lib.hid (HR3.out.turned ht4 (fun h => h.elim (fun h => HNB.out.1.1 h.symm) (fun h => HNB.out.2.1 h.symm)) (fun h => h.elim (fun h => HNB.out.1.2 h.symm) (fun h => HNB.out.2.2.1 h.symm)))
            have HTQ4 := Lib.hid (show Turned (fun j => j = b) w w4 from HTQ3.out.trans ht4 (fun x hx hl => hx.elim (fun e => absurd hl (by omega)) (fun e => e)))
            clear hs4 hc4 ho4 ht4 hs4' ho4'
            go_wp2
            go_roundw
            case rel => exact ⟨j, by omega, rfl, HS4.out, HC4.out, HO4.out, HR4.out, HTQ4.out⟩
            case measure => first | (simp [intOf]; done) | (simp [intOf]; omega)

set_option maxHeartbeats 400000 in
theorem new_yes (c b base cls : Nat) (bs : List Int) (w : World) (h : CellsAt w c b bs) (ha : base % 1024 = 0) (hf : base + 1024 ≤ bs.length) (hc : cls < 12) :
    Calls Tryz.prog 89 #[.pointer (some ⟨c, 0, none⟩), .int .i64 base, .int .i64 cls] w (WithPost w c b base cls bs []) := by
  have HW := Lib.hid (with_yes c b base cls bs (.slice none 0 0) [] w h ha hf hc (Ints.nil _ _) List.nodup_nil (fun _ h => (by cases h)))
  clear h ha hf
  go_enter Tryz.func89, Tryz.ntmps89
  go_wp2_with (fail)
  refine HW.out.mono ?_
  rintro e w1 ⟨s, rfl, h1, h2, h3, h4, h5⟩
  have H1 := Lib.hid h1
  have H2 := Lib.hid h2
  have H3 := Lib.hid h3
  have H4 := Lib.hid h4
  clear h1 h2 h3 h4
  go_wp2
  go_ret2
  exact ⟨_, rfl, H1.out, H2.out, H3.out, H4.out, h5⟩

end Go.Proofs.YtlljejmblmjjnaaGreat
