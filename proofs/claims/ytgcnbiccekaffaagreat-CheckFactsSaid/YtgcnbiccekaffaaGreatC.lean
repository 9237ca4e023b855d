/- apart: is a place in the memory, and apart from all live blocks? -/
import Derived.Test.YtgcnbiccekaffaaGreatExt
namespace Go.Proofs.YtgcnbiccekaffaaGreat
open Go.RowKit

theorem RepG.cell0 {w : World} {m : Nat} {bytes : Int} {mb clk : Nat} {ents : List Ent} (h : RepG w m bytes mb clk ents) : w.cell? ⟨m, 0, none⟩ = some (.int .i64 bytes) := by
  rw [cell_of_block h.model]; rfl
theorem RepG.cell1 {w : World} {m : Nat} {bytes : Int} {mb clk : Nat} {ents : List Ent} (h : RepG w m bytes mb clk ents) : w.cell? ⟨m, 1, none⟩ = some (.map (some mb)) := by
  rw [cell_of_block h.model]; rfl

def inB (bytes a n : Int) : Prop := 0 ≤ a ∧ 1 ≤ n ∧ a ≤ bytes ∧ n ≤ bytes - a

set_option maxHeartbeats 400000 in
theorem apart_out (m : Nat) (bytes a n s : Int) (w : World) (hb0 : 0 ≤ bytes) (hb1 : bytes ≤ 1048576) (c0 : w.cell? ⟨m, 0, none⟩ = some (.int .i64 bytes)) (h : ¬ inB bytes a n) :
    Calls Tryz.prog 91 #[.pointer (some ⟨m, 0, none⟩), .agg #[.int .i64 a, .int .i64 n, .int .i64 s]] w
      fun e w' => e = .returned (.bool false) ∧ Below w.heap.size w w' := by
  have hm := cell_lt c0
  have h' : a < 0 ∨ (0 ≤ a ∧ n < 1) ∨ (0 ≤ a ∧ 1 ≤ n ∧ bytes < a) ∨ (0 ≤ a ∧ 1 ≤ n ∧ a ≤ bytes ∧ bytes - a < n) := by unfold inB at h; omega
  clear h
  rcases h' with h1 | ⟨h1, h2⟩ | ⟨h1, h2, h3⟩ | ⟨h1, h2, h3, h4⟩
  all_goals
    go_enter Tryz.func91, Tryz.ntmps91
    go_wp2
  · have d1 : decide (a < 0) = true := by simpa using h1
    (refine wp_region_quiet_ext (by kernel_rfl) (by kernel_rfl) ?_; (repeat (first | go_big_quiet_step ((fail)) | quiet_step ((fail)))); refine wpQuiet_nil ?_; intro w1 hw1; obtain hb := below_of_ext hw1; clear hw1; obtain ⟨hc, hf⟩ := bcell hb; have hz := hb.size; (try simp at hz))
    go_wp2
    go_ret
    exact ⟨rfl, (by repeat (first | exact Below.refl _ _ | assumption | refine Below.alloc ?_ (by first | omega | (simp <;> omega)) _ | refine Below.drew ?_ | refine Below.setCell ?_ (by first | omega | (simp <;> omega)) _ | refine Below.via (by assumption) (by first | omega | (simp <;> omega)) ?_))⟩
  · have d1 : decide (a < 0) = false := by simpa using h1
    have d2 : decide (n < 1) = true := by simpa using h2
    (refine wp_region_quiet_ext (by kernel_rfl) (by kernel_rfl) ?_; (repeat (first | go_big_quiet_step ((fail)) | quiet_step ((fail)))); refine wpQuiet_nil ?_; intro w1 hw1; obtain hb := below_of_ext hw1; clear hw1; obtain ⟨hc, hf⟩ := bcell hb; have hz := hb.size; (try simp at hz))
    go_wp2
    go_ret
    exact ⟨rfl, (by repeat (first | exact Below.refl _ _ | assumption | refine Below.alloc ?_ (by first | omega | (simp <;> omega)) _ | refine Below.drew ?_ | refine Below.setCell ?_ (by first | omega | (simp <;> omega)) _ | refine Below.via (by assumption) (by first | omega | (simp <;> omega)) ?_))⟩
  · have d1 : decide (a < 0) = false := by simpa using h1
    have d2 : decide (n < 1) = false := by simpa using h2
    have d3 : decide (bytes < a) = true := by simpa using h3
    (refine wp_region_quiet_ext (by kernel_rfl) (by kernel_rfl) ?_; (repeat (first | go_big_quiet_step ((fail)) | quiet_step ((fail)))); refine wpQuiet_nil ?_; intro w1 hw1; obtain hb := below_of_ext hw1; clear hw1; obtain ⟨hc, hf⟩ := bcell hb; have hz := hb.size; (try simp at hz))
    go_wp2
    go_ret
    exact ⟨rfl, (by repeat (first | exact Below.refl _ _ | assumption | refine Below.alloc ?_ (by first | omega | (simp <;> omega)) _ | refine Below.drew ?_ | refine Below.setCell ?_ (by first | omega | (simp <;> omega)) _ | refine Below.via (by assumption) (by first | omega | (simp <;> omega)) ?_))⟩
  · have d1 : decide (a < 0) = false := by simpa using h1
    have d2 : decide (n < 1) = false := by simpa using h2
    have d3 : decide (bytes < a) = false := by simpa using h3
    have d4 : decide (bytes - a < n) = true := by simpa using h4
    (refine wp_region_quiet_ext (by kernel_rfl) (by kernel_rfl) ?_; (repeat (first | go_big_quiet_step ((fail)) | quiet_step ((fail)))); refine wpQuiet_nil ?_; intro w1 hw1; obtain hb := below_of_ext hw1; clear hw1; obtain ⟨hc, hf⟩ := bcell hb; have hz := hb.size; (try simp at hz))
    go_wp2
    go_ret
    exact ⟨rfl, (by repeat (first | exact Below.refl _ _ | assumption | refine Below.alloc ?_ (by first | omega | (simp <;> omega)) _ | refine Below.drew ?_ | refine Below.setCell ?_ (by first | omega | (simp <;> omega)) _ | refine Below.via (by assumption) (by first | omega | (simp <;> omega)) ?_))⟩

/-- Have a place and a block a byte in common? -/
def meetB (a n : Int) (b : Blk) : Bool := decide (a < b.at_ + b.n ∧ b.at_ < a + n)

/-- Between two rounds: those that came have no byte in common with the place. -/
def ApartI (w0 wr : World) (r mb : Nat) (ents : List Ent) (a n : Int) : Prop :=
  ∃ left done, Iter wr r mb left ∧ Below r w0 wr ∧ ents.Perm (done ++ left) ∧ (done.all fun x => !meetB a n x.b) = true

theorem foot_blk {m mb : Nat} {ents : List Ent} {x : Ent} (h : x ∈ ents) : x.blk ∈ foot m mb ents := by
  simp only [foot, List.mem_cons, List.mem_flatMap]; exact .inr (.inr ⟨x, h, by simp⟩)
theorem foot_cb {m mb : Nat} {ents : List Ent} {x : Ent} (h : x ∈ ents) : x.cb ∈ foot m mb ents := by
  simp only [foot, List.mem_cons, List.mem_flatMap]; exact .inr (.inr ⟨x, h, by simp⟩)

theorem apart_all {ents done left : List Ent} {a n : Int} (hp : ents.Perm (done ++ left)) (ha : (done.all fun x => !meetB a n x.b) = true) (hl : left = []) : (ents.all fun x => !meetB a n x.b) = true := by
  subst hl
  rw [List.append_nil] at hp
  rw [List.all_eq_true] at ha ⊢
  exact fun x hx => ha x (hp.mem_iff.1 hx)
theorem apart_some {ents : List Ent} {x : Ent} {a n : Int} (hx : x ∈ ents) (h1 : a < x.b.at_ + x.b.n) (h2 : x.b.at_ < a + n) : (ents.all fun x => !meetB a n x.b) = false := by
  rw [Bool.eq_false_iff]
  intro h
  have := List.all_eq_true.1 h x hx
  simp [meetB] at this
  omega
theorem apart_not {a n : Int} {b : Blk} (h : ¬ a < b.at_ + b.n ∨ ¬ b.at_ < a + n) : meetB a n b = false := by
  simp [meetB]; omega
theorem apart_next {ents done left left' : List Ent} {x : Ent} {a n : Int} {w0 w' : World} {r mb : Nat} (hp : ents.Perm (done ++ left)) (ha : (done.all fun x => !meetB a n x.b) = true) (hp' : left.Perm (x :: left'))
    (hx : meetB a n x.b = false) (hi : Iter w' r mb left') (hb : Below r w0 w') : ApartI w0 w' r mb ents a n :=
  ⟨left', done ++ [x], hi, hb, by
    refine hp.trans ?_
    rw [List.append_assoc]
    exact List.Perm.append_left _ hp', by simp [List.all_append, ha, hx]⟩

set_option maxHeartbeats 1000000 in
theorem apart_in (m mb clk : Nat) (ents : List Ent) (bytes a n s : Int) (w : World) (hb1 : bytes ≤ 1048576) (hR : RepG w m bytes mb clk ents)
    (hin : ∀ x ∈ ents, 0 ≤ x.b.at_ ∧ x.b.at_ ≤ 1048576 ∧ x.b.n ≤ 1048576) (h : inB bytes a n) :
    Calls Tryz.prog 91 #[.pointer (some ⟨m, 0, none⟩), .agg #[.int .i64 a, .int .i64 n, .int .i64 s]] w
      fun e w' => e = .returned (.bool (ents.all fun x => !meetB a n x.b)) ∧ Below w.heap.size w w' := by
  have c0 := hR.cell0
  have c1 := hR.cell1
  have hm := cell_lt c0
  obtain ⟨h1, h2, h3, h4⟩ := h
  have d1 : decide (a < 0) = false := by simpa using h1
  have d2 : decide (n < 1) = false := by simpa using h2
  have d3 : decide (bytes < a) = false := by simpa using h3
  have d4 : decide (bytes - a < n) = false := by simpa using h4
  go_enter Tryz.func91, Tryz.ntmps91
  go_wp2
  (refine wp_region_quiet_ext (by kernel_rfl) (by kernel_rfl) ?_; (repeat (first | go_big_quiet_step ((fail)) | quiet_step ((fail)))); refine wpQuiet_nil ?_; intro w1 hw1; obtain hb := below_of_ext hw1; clear hw1; obtain ⟨hc, hf⟩ := bcell hb; have hz := hb.size; (try simp at hz))
  have hR1 := Lib.hid (hR.same (w' := w1) (fun k hk => (hb.block k (by have := hR.lt k hk; simp; omega)).trans (heap_alloc_old _ _ (hR.lt k hk))))
  go_wp2_with (at_range; refine wpList_range_ents rfl _ rfl rfl hR1.out.map hR1.out.born hR1.out.old ?_; intro hit)
  go_frame
  go_loopw [6] (fun _ wr => ApartI w1 wr w1.heap.size mb ents a n) (fun _ wr => leftN wr w1.heap.size mb)
  case atStart => exact ⟨ents, [], hit, (Below.refl _ _).alloc (Nat.le_refl _) _, List.Perm.refl _, rfl⟩
  case round =>
    obtain ⟨left, done, hi, hbl, hp, hall⟩ := hrel
    have hlen := Lib.hid hi.leftN
    have hP := Lib.hid hp
    have hA := Lib.hid hall
    clear hp hall
    go_wp2_with (at_next; refine wpList_next_ents rfl _ rfl rfl hi ?_ ?_)
    · intro hl
      have hfin := Lib.hid (apart_all hP.out hA.out hl)
      clear hl
      go_wp2
      go_ret
      exact ⟨by rw [hfin.out]; rfl, Below.via hbl (by omega) (by repeat (first | exact Below.refl _ _ | assumption | refine Below.alloc ?_ (by first | omega | (simp <;> omega)) _ | refine Below.drew ?_ | refine Below.setCell ?_ (by first | omega | (simp <;> omega)) _ | refine Below.via (by assumption) (by first | omega | (simp <;> omega)) ?_))⟩
    · rintro x left' w' hp' hi' ht hs hen
      have hxm : x ∈ ents := hP.out.mem_iff.2 (List.mem_append.2 (.inr (hp'.mem_iff.2 (List.mem_cons_self))))
      have hbl' : Below w1.heap.size w1 w' := hbl.trans (ht.below (by rintro _ rfl; exact Nat.le_refl _) (Nat.le_of_lt hi.lt.1))
      have hx : EntAt w' x := (hR1.out.each x hxm).same (hbl'.block _ (hR1.out.lt _ (foot_blk hxm))) (hbl'.block _ (hR1.out.lt _ (foot_cb hxm)))
      have x0 : w'.cell? ⟨x.blk, 0, none⟩ = some (.int .i64 x.b.at_) := by rw [cell_of_block hx.1]; rfl
      have x1 : w'.cell? ⟨x.blk, 1, none⟩ = some (.int .i64 x.b.n) := by rw [cell_of_block hx.1]; rfl
      have x2 : w'.cell? ⟨x.blk, 2, none⟩ = some (.int .i64 x.b.size) := by rw [cell_of_block hx.1]; rfl
      have y0 : w'.cell? ⟨w.heap.size, 0, none⟩ = some (.int .i64 a) := by rw [hbl'.cell (p := ⟨_, _, _⟩) (by simp; omega), hc _ _ (by simp)]; simp
      have y1 : w'.cell? ⟨w.heap.size, 1, none⟩ = some (.int .i64 n) := by rw [hbl'.cell (p := ⟨_, _, _⟩) (by simp; omega), hc _ _ (by simp)]; simp
      have y2 : w'.cell? ⟨w.heap.size, 2, none⟩ = some (.int .i64 s) := by rw [hbl'.cell (p := ⟨_, _, _⟩) (by simp; omega), hc _ _ (by simp)]; simp
      obtain ⟨hx1, hx2, hx3⟩ := hin x hxm
      have q1 : wrap64 (x.b.at_ + x.b.n) = x.b.at_ + x.b.n := by unfold wrap64; omega
      have q2 : wrap64 (a + n) = a + n := by unfold wrap64; omega
      have Q1 := Lib.hid q1
      have Q2 := Lib.hid q2
      have HP' := Lib.hid hp'
      have hroom := hi'.lt.1
      have hle := hbl'.size
      clear q1 q2 hp'
      by_cases e1 : a < wrap64 (x.b.at_ + x.b.n)
      · have d5 : decide (a < wrap64 (x.b.at_ + x.b.n)) = true := by simpa using e1
        by_cases e2 : x.b.at_ < wrap64 (a + n)
        · have d6 : decide (x.b.at_ < wrap64 (a + n)) = true := by simpa using e2
          have hfin := Lib.hid (apart_some hxm (Q1.out ▸ e1) (Q2.out ▸ e2))
          go_wp2
          (refine wp_region_quiet_ext (by kernel_rfl) (by kernel_rfl) ?_; (repeat (first | go_big_quiet_step ((go_at_call 108; refine Calls.ext_of (end_any _ _ _ _))) | quiet_step ((go_at_call 108; refine Calls.ext_of (end_any _ _ _ _))))); refine wpQuiet_nil ?_; intro w2 hw2; obtain hb2 := below_of_ext hw2; clear hw2; obtain ⟨hc2, hf2⟩ := bcell hb2; have hz2 := hb2.size; (try simp at hz2))
          go_wp2
          go_ret
          exact ⟨by rw [hfin.out]; rfl, Below.via hb2 (by omega) (Below.via hbl' (by omega) (by repeat (first | exact Below.refl _ _ | assumption | refine Below.alloc ?_ (by first | omega | (simp <;> omega)) _ | refine Below.drew ?_ | refine Below.setCell ?_ (by first | omega | (simp <;> omega)) _ | refine Below.via (by assumption) (by first | omega | (simp <;> omega)) ?_)))⟩
        · have d6 : decide (x.b.at_ < wrap64 (a + n)) = false := by simpa using e2
          have hnew := Lib.hid (apart_not (a := a) (n := n) (b := x.b) (.inr (fun h => e2 (by rw [Q2.out]; exact h))))
          go_wp2
          (refine wp_region_quiet_ext (by kernel_rfl) (by kernel_rfl) ?_; (repeat (first | go_big_quiet_step ((go_at_call 108; refine Calls.ext_of (end_any _ _ _ _))) | quiet_step ((go_at_call 108; refine Calls.ext_of (end_any _ _ _ _))))); refine wpQuiet_nil ?_; intro w2 hw2; obtain hb2 := below_of_ext hw2; clear hw2; obtain ⟨hc2, hf2⟩ := bcell hb2; have hz2 := hb2.size; (try simp at hz2))
          go_wp2
          go_roundw
          case rel => exact apart_next hP.out hA.out HP'.out hnew.out (hi'.below hb2) (Below.via hb2 (by omega) hbl')
          case measure => rw [hlen.out, (hi'.below hb2).leftN, HP'.out.length_eq]; simp
      · have d5 : decide (a < wrap64 (x.b.at_ + x.b.n)) = false := by simpa using e1
        have hnew := Lib.hid (apart_not (a := a) (n := n) (b := x.b) (.inl (fun h => e1 (by rw [Q1.out]; exact h))))
        go_wp2
        (refine wp_region_quiet_ext (by kernel_rfl) (by kernel_rfl) ?_; (repeat (first | go_big_quiet_step ((go_at_call 108; refine Calls.ext_of (end_any _ _ _ _))) | quiet_step ((go_at_call 108; refine Calls.ext_of (end_any _ _ _ _))))); refine wpQuiet_nil ?_; intro w2 hw2; obtain hb2 := below_of_ext hw2; clear hw2; obtain ⟨hc2, hf2⟩ := bcell hb2; have hz2 := hb2.size; (try simp at hz2))
        go_wp2
        go_roundw
        case rel => exact apart_next hP.out hA.out HP'.out hnew.out (hi'.below hb2) (Below.via hb2 (by omega) hbl')
        case measure => rw [hlen.out, (hi'.below hb2).leftN, HP'.out.length_eq]; simp

end Go.Proofs.YtgcnbiccekaffaaGreat
