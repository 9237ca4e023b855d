/- place: the new place of an answer. -/
import Derived.Test.YtgcnbiccekaffaaGreatC
namespace Go.Proofs.YtgcnbiccekaffaaGreat
open Go.RowKit

instance (bytes a n : Int) : Decidable (inB bytes a n) := by unfold inB; infer_instance

/-- What is true of all models that are reached. -/
structure Inv (A : AM) : Prop where
  b0 : 0 ≤ A.bytes
  b1 : A.bytes ≤ 1048576
  lo : ∀ b ∈ A.blocks, 0 ≤ b.at_ ∧ 1 ≤ b.n ∧ b.at_ + b.n ≤ A.bytes ∧ b.at_ % 8 = 0 ∧ 0 ≤ b.size ∧ b.size ≤ b.n
  sorted : A.blocks.Pairwise fun x y => x.at_ + (x.n : Int) ≤ y.at_
  known : ∀ b ∈ A.blocks, b.cells.length = b.n ∧ ∀ v, some v ∈ b.cells → 0 ≤ v ∧ v ≤ 255

def apartB (A : AM) (a n : Int) : Bool := decide (inB A.bytes a n) && A.blocks.all fun b => !meetB a n b

theorem all_perm {α : Type} {p : α → Bool} {l l' : List α} (h : l.Perm l') : l.all p = l'.all p := by
  induction h with
  | nil => rfl
  | cons x _ ih => simp [ih]
  | swap x y l => simp [← Bool.and_assoc, Bool.and_comm]
  | trans _ _ h1 h2 => exact h1.trans h2

theorem apart_any {w : World} {m : Nat} {A : AM} {F : Nat → Prop} (h : Rep w m A F) (hI : Inv A) (a n s : Int) :
    Calls Tryz.prog 91 #[.pointer (some ⟨m, 0, none⟩), .agg #[.int .i64 a, .int .i64 n, .int .i64 s]] w
      fun e w' => e = .returned (.bool (apartB A a n)) ∧ Below w.heap.size w w' := by
  obtain ⟨mb, clk, ents, g, p, _⟩ := h
  by_cases hin : inB A.bytes a n
  · have e : apartB A a n = ents.all fun x => !meetB a n x.b := by
      rw [apartB, decide_eq_true hin, Bool.true_and, ← all_perm p, List.all_map]; rfl
    rw [e]
    refine apart_in m mb clk ents A.bytes a n s w hI.b1 g (fun x hx => ?_) hin
    have := hI.lo x.b (p.mem_iff.1 (List.mem_map.2 ⟨x, hx, rfl⟩))
    have := hI.b1
    omega
  · have e : apartB A a n = false := by rw [apartB, decide_eq_false hin, Bool.false_and]
    rw [e]
    exact apart_out m A.bytes a n s w hI.b0 hI.b1 g.cell0 hin

def placeB (A : AM) (err at_ n count : Int) (l : Nat) (size align : Int) : Bool :=
  err == 0 && (count == 0 && (((l : Int) == 0) && (decide (size ≤ n) && (at_.tmod 8 == 0 && (at_.tmod align == 0 && apartB A at_ n)))))

set_option maxHeartbeats 1000000 in
theorem place_any {w : World} {m : Nat} {A : AM} {F : Nat → Prop} (h : Rep w m A F) (hI : Inv A) (err at_ n count : Int) (p : Option Addr) (l c : Nat) (size align : Int) (ha : 1 ≤ align) (ha2 : align ≤ 4096) :
    Calls Tryz.prog 65 #[.pointer (some ⟨m, 0, none⟩), .agg #[.int .i64 err, .int .i64 at_, .int .i64 n, .int .i64 count, .slice p l c], .int .i64 size, .int .i64 align] w
      fun e w' => e = .returned (.tuple #[.agg #[.int .i64 at_, .int .i64 n, .int .i64 size], .bool (placeB A err at_ n count l size align)]) ∧ Below w.heap.size w w' := by
  have H := Lib.hid h
  have HI := Lib.hid hI
  clear h hI
  go_enter Tryz.func65, Tryz.ntmps65
  go_wp2_with (go_at_call 91; refine (apart_any (H.out.below (by repeat (first | exact Below.refl _ _ | assumption | refine Below.alloc ?_ (by first | omega | (simp <;> omega)) _ | refine Below.drew ?_ | refine Below.setCell ?_ (by first | omega | (simp <;> omega)) _ | refine Below.via (by assumption) (by first | omega | (simp <;> omega)) ?_))) HI.out _ _ _).mono ?_; rintro e w1 ⟨rfl, hb⟩; obtain ⟨hc, hf⟩ := bcell hb; have hz := hb.size; (try simp at hz))
  all_goals (refine bodyPost_ret (v := _) ?_ rfl ⟨rfl, ?_⟩; rotate_left; exact (by repeat (first | exact Below.refl _ _ | assumption | refine Below.alloc ?_ (by first | omega | (simp <;> omega)) _ | refine Below.drew ?_ | refine Below.setCell ?_ (by first | omega | (simp <;> omega)) _ | refine Below.via (by assumption) (by first | omega | (simp <;> omega)) ?_)); simp [results, Tryz.results65, go_sem, placeB, *] <;> (intros; omega))

end Go.Proofs.YtgcnbiccekaffaaGreat
