/- The reference's model in memory; New, find. -/
import Derived.Test.YtgcnbiccekaffaaGreatXad
import Derived.Test.YtgcnbiccekaffaaGreatY
namespace Go.Proofs.YtgcnbiccekaffaaGreat
open Go.RowKit Go.ChangeMaps

def codeB : Option Int → Int
  | none => -1
  | some v => v

/-- The bytes tell what is known of the live blocks. -/
def BytesOf (A : AM) (bs : List Int) : Prop := (bs.length : Int) = A.bytes ∧ ∀ b ∈ A.blocks, ∀ k, k < b.n → bs.getD (b.at_.toNat + k) 0 = codeB (b.cells.getD k none)

def intsC (bs : List Int) : Array Value := (bs.map (Value.int .i64)).toArray

/-- What of F turned, and what came. -/
def Tn (F : Nat → Prop) (w w' : World) : Prop := Turned F w w'
theorem Tn.trans {F : Nat → Prop} {a b c : World} (h : Tn F a b) (k : Tn F b c) : Tn F a c := Turned.trans h k (fun _ h _ => h)
theorem Tn.size {F : Nat → Prop} {a b : World} (h : Tn F a b) : a.heap.size ≤ b.heap.size := Turned.size h
theorem Tn.setCell {F : Nat → Prop} {a w : World} (h : Tn F a w) {p : Addr} (hp : F p.block) (u : Value) : Tn F a (w.setCell p u) := Turned.setCell h (.inl hp) u
theorem tof {F : Nat → Prop} {a b : World} (h : Below a.heap.size a b) : Tn F a b := Turned.of_below h (Nat.le_refl _)
theorem fge {F : Nat → Prop} {n n' : Nat} (h : ∀ k, n ≤ k → F k) (hn : n ≤ n') : ∀ k, n' ≤ k → F k := fun k hk => h k (Nat.le_trans hn hk)
theorem own_mono {w : World} {base base' : Nat} {e : TypeId} {size : Nat} {v : Value} {n : Nat} {xs : List Value} (h : w.ownsRow base e size v n xs) (hb : base' ≤ base) : w.ownsRow base' e size v n xs :=
  ⟨h.1, h.2.imp id fun ⟨g, cap, cur, h1, h2, h3⟩ => ⟨g, cap, cur, h1, Nat.le_trans hb h2, h3⟩⟩
theorem own_ge {F : Nat → Prop} {w : World} {base : Nat} {e : TypeId} {size : Nat} {v : Value} {n : Nat} {xs : List Value} (h : w.ownsRow base e size v n xs) (hF : ∀ k, base ≤ k → F k) : ∀ g, v.ownBlock = some g → F g := fun g hg => hF g (h.lt g hg).1

structure RefAt (F : Nat → Prop) (w : World) (m : Nat) (A : AM) (vb : Value) (gy cy : Nat) (bs : List Int) : Prop where
  model : w.heap[m]? = some (.cells #[vb, .slice (some ⟨gy, 0, none⟩) bs.length cy] 52 (0, 0))
  rows : w.ownsRow 0 54 3 vb A.blocks.length (rowV A.blocks)
  own : ∀ g, vb.ownBlock = some g → F g
  bytes : w.heap[gy]? = some (.cells (intsC bs) 3 (0, 0))
  of : BytesOf A bs
  lo : F m ∧ F gy
  cap : A.bytes ≤ (cy : Int)

/-- A model of the reference, in memory from block B on. -/
def RefX (F : Nat → Prop) (w : World) (m : Nat) (A : AM) : Prop := ∃ vb gy cy bs, RefAt F w m A vb gy cy bs

theorem RefX.below {F : Nat → Prop} {w W : World} {m : Nat} {A : AM} (h : RefX F w m A) (hb : Below w.heap.size w W) : RefX F W m A := by
  obtain ⟨vb, gy, cy, bs, h⟩ := h
  exact ⟨vb, gy, cy, bs, (hb.block _ (lt_of_block h.model)).trans h.model, ownsRow_below h.rows hb, h.own, (hb.block _ (lt_of_block h.bytes)).trans h.bytes, h.of, h.lo, h.cap⟩

theorem info_int0 : (Tryz.prog.info? 3).map (fun i => (i.zero, i.size, i.bytes)) = some (some (.int .i64 0), 1, 8) := by kernel_rfl
theorem und_ints : Tryz.prog.underlying 50 = some (.slice 3) := by kernel_rfl
theorem run_make_ints (n : Nat) (hn : n ≤ 1048576) (w : World) :
    (Instr.makeSlice 50 (.int .i64 n) (.int .i64 n)).run Tryz.prog w = .ok (.slice (some ⟨w.heap.size, 0, none⟩) n n) (w.alloc (.cells (intsC (List.replicate n 0)) 3)) := by
  obtain ⟨i0, hi, hz0, hz1, hz2⟩ := info_parts info_int0
  have := run_make (P := Tryz.prog) w _ _ i0 _ und_ints hi hz0 .i64 .i64 n n (by omega) (by omega) (by rw [hz2]; omega) (by omega)
  rw [this, hz1]
  have e : madeCells #[.int .i64 0] n = intsC (List.replicate n 0) := by
    apply Array.ext_getElem?
    intro i
    simp only [madeCells, intsC, Array.getElem?_map, List.getElem?_toArray, List.getElem?_map, List.getElem?_replicate, Array.getElem?_range]
    by_cases h : i < n
    · simp [h, Nat.mod_one]
    · simp [h]
  simp only [Int.toNat_natCast, Value.cells, Nat.mul_one, e]

set_option maxHeartbeats 400000 in
theorem newR_no (n : Int) (w : World) (h : n < 0 ∨ 1048576 < n) :
    Calls Tryz.prog 8 #[.int .i64 n] w fun e w' => e = .returned (.tuple #[.pointer none, .int .i64 11]) ∧ w = w' := by
  have hmk := @run_make_ints
  go_enter Tryz.func8, Tryz.ntmps8
  go_wp2
  all_goals (go_ret2; exact ⟨rfl, rfl⟩)

set_option maxRecDepth 100000 in
set_option maxHeartbeats 400000 in
theorem newR_yes (n : Nat) (w : World) (h : n ≤ 1048576) :
    Calls Tryz.prog 8 #[.int .i64 n] w fun e w' => ∃ m, e = .returned (.tuple #[.pointer (some ⟨m, 0, none⟩), .int .i64 0]) ∧ RefX (fun k => w.heap.size ≤ k) w' m ⟨n, []⟩ ∧ Below w.heap.size w w' := by
  have hmk := run_make_ints n h
  have h1 : ¬ (n : Int) < 0 := by omega
  have h2 : ¬ (1048576 : Int) < n := by omega
  go_enter Tryz.func8, Tryz.ntmps8
  go_wp2
  go_ret2
  refine ⟨w.heap.size + 1, by simp, ⟨.slice none 0 0, w.heap.size, n, List.replicate n 0, ?_, World.ownsRow_nil _ _ _ _, fun g hg => (by cases hg), ?_, ?_, ⟨by omega, by omega⟩, Int.le_refl _⟩, ?_⟩
  · rw [List.length_replicate]
    exact heap_alloc2_new _ _ _
  · exact heap_alloc2_old _ _ _
  · exact ⟨by simp, fun b hb => absurd hb List.not_mem_nil⟩
  · exact (by repeat (first | exact Below.refl _ _ | assumption | refine Below.alloc ?_ (by first | omega | (simp <;> omega)) _ | refine Below.drew ?_ | refine Below.setCell ?_ (by first | omega | (simp <;> omega)) _ | refine Below.via (by assumption) (by first | omega | (simp <;> omega)) ?_))

/-- Where the block stands that begins at an address. -/
def seekI (A : AM) (a : Int) : Option Nat := A.blocks.findIdx? fun b => b.at_ == a
def seekV (A : AM) (a : Int) : Int := match seekI A a with | some i => i | none => -1

theorem seek_some {A : AM} {a : Int} {k : Nat} (hk : k < A.blocks.length) (h : A.blocks[k].at_ = a) (hn : ∀ j (hj : j < k), (A.blocks[j]'(by omega)).at_ ≠ a) : seekV A a = k := by
  have : seekI A a = some k := by
    unfold seekI
    rw [List.findIdx?_eq_some_iff_getElem]
    exact ⟨hk, by simpa using h, fun j hj => by simpa using hn j hj⟩
  rw [seekV, this]

theorem seek_none {A : AM} {a : Int} (hn : ∀ j (hj : j < A.blocks.length), A.blocks[j].at_ ≠ a) : seekV A a = -1 := by
  have : seekI A a = none := by
    unfold seekI
    rw [List.findIdx?_eq_none_iff]
    intro b hb
    obtain ⟨j, hj, rfl⟩ := List.getElem_of_mem hb
    simpa using hn j hj
  rw [seekV, this]

set_option maxRecDepth 100000 in
set_option maxHeartbeats 800000 in
theorem findR_any {F : Nat → Prop} {w : World} {m : Nat} {A : AM} (h : RefX F w m A) (hl : A.blocks.length ≤ 1048576) (a : Int) :
    Calls Tryz.prog 28 #[.pointer (some ⟨m, 0, none⟩), .int .i64 a] w fun e w' => e = .returned (.int .i64 (seekV A a)) ∧ w = w' := by
  obtain ⟨vb, gy, cy, bs, h⟩ := h
  obtain ⟨pb, cb, rfl, hrows⟩ := rowsAt_own h.rows
  have c0 : w.cell? ⟨m, 0, none⟩ = some (.slice pb A.blocks.length cb) := by rw [cell_of_block h.model]; rfl
  have HR := Lib.hid hrows
  clear h hrows
  go_enter Tryz.func28, Tryz.ntmps28
  go_wp2
  go_loopw [5] (fun i wr => ∃ k : Nat, k ≤ A.blocks.length ∧ i = .int .i64 k ∧ (∀ j (hj : j < k) (hj2 : j < A.blocks.length), A.blocks[j].at_ ≠ a) ∧ wr = w) (fun i _ => A.blocks.length - (intOf i).toNat)
  case atStart => exact ⟨0, Nat.zero_le _, rfl, fun j hj => absurd hj (Nat.not_lt_zero j), rfl⟩
  case round =>
    obtain ⟨k, hk, rfl, hn, rfl⟩ := hrel
    by_cases hlt : k < A.blocks.length
    · obtain ⟨g, hg, y0, y1, y2⟩ := HR.out k hlt
      subst hg
      have hs := Lib.hid (fun he => seek_some (A := A) (a := a) hlt he (fun j hj => hn j hj (by omega)))
      have hnx : A.blocks[k].at_ ≠ a → ∀ j (hj : j < k + 1) (hj2 : j < A.blocks.length), A.blocks[j].at_ ≠ a := fun he j hj hj2 => by
        rcases Nat.lt_succ_iff_lt_or_eq.1 hj with hj | rfl
        · exact hn j hj hj2
        · exact he
      have HN := Lib.hid hnx
      have hi1 : (0 : Int) ≤ k ∧ (k : Int) < A.blocks.length := by omega
      have hkw : IntKind.i64.wrap ((k : Int) + 1) = (k : Int) + 1 := by rw [IntKind.wrap_i64]; omega
      clear hn hnx y1 y2
      generalize A.blocks[k].at_ = t at *
      by_cases hta : (t == a) = true
      · have HS := Lib.hid (hs.out (by simpa using hta))
        clear hs HN
        go_wp2
        go_ret
        exact ⟨(by rw [HS.out]; rfl), rfl⟩
      · have HNX := Lib.hid (HN.out (by simpa using hta))
        have hta' : (t == a) = false := by simpa using hta
        clear hs HN hta
        go_wp2
        go_roundw
        case rel => exact ⟨k + 1, by omega, by go_num, HNX.out, (by first | rfl | trivial)⟩
        case measure => simp [intOf]; omega
    · obtain rfl : k = A.blocks.length := by omega
      have hs := Lib.hid (seek_none (A := A) (a := a) (fun j hj => hn j hj hj))
      clear hn
      go_wp2
      go_ret
      exact ⟨(by rw [hs.out]; rfl), rfl⟩

end Go.Proofs.YtgcnbiccekaffaaGreat
