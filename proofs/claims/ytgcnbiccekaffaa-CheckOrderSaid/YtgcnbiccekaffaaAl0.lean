/- The pure values of alive. -/
import Derived.Test.YtgcnbiccekaffaaY
import Derived.Test.YtgcnbiccekaffaaGr
namespace Go.Proofs.Ytgcnbiccekaffaa
open Go.RowKit Go.ChangeMaps

def al0 : AM := ⟨64, []⟩
def alOp : OpA := ⟨0, 8, 0, 0, 0, 0, []⟩
def alX (at_ n : Int) (d : List Int) : AnsA := ⟨0, at_, n, 0, d⟩
def alRd : OpA := ⟨6, 0, 0, 0, 0, 1, []⟩
def alRe : OpA := ⟨3, 20, 0, 0, 0, 0, []⟩
def alBad : OpA := ⟨9, 0, 0, 0, 0, 0, []⟩
def al1 : AM := ⟨64, [⟨0, 16, 8, List.replicate 16 none⟩]⟩
def al3 : AM := ⟨64, [⟨0, 16, 8, some 7 :: List.replicate 15 none⟩]⟩
def al5 : AM := ⟨64, [⟨40, 24, 20, some 7 :: List.replicate 23 none⟩]⟩

theorem al_e1 : takeE al0 alOp (alX 0 16 []) = 0 := by kernel_rfl
theorem al_a1 : takeA al0 alOp (alX 0 16 []) = al1 := by kernel_rfl
theorem al_e2 : takeE al1 alOp (alX 8 16 []) = 20 := by kernel_rfl
theorem al_a2 : takeA al1 alOp (alX 8 16 []) = al1 := by kernel_rfl
theorem al_m : mayB al1 alOp (alX 16 16 []) = true := by kernel_rfl
theorem al_e3 : takeE al1 alRd (alX 0 0 [7]) = 0 := by kernel_rfl
theorem al_a3 : takeA al1 alRd (alX 0 0 [7]) = al3 := by kernel_rfl
theorem al_e4 : takeE al3 alRd (alX 0 0 [8]) = 20 := by kernel_rfl
theorem al_a4 : takeA al3 alRd (alX 0 0 [8]) = al3 := by kernel_rfl
theorem al_k0 : knownA al3 0 0 = some 7 := by kernel_rfl
theorem al_k1 : knownA al3 0 1 = none := by kernel_rfl
theorem al_e5 : takeE al3 alRe (alX 40 24 []) = 0 := by kernel_rfl
theorem al_a5 : takeA al3 alRe (alX 40 24 []) = al5 := by kernel_rfl
theorem al_k5 : knownA al5 40 0 = some 7 := by kernel_rfl
theorem al_e6 : takeE al5 alBad (alX 0 0 []) = 10 := by kernel_rfl

/-- The three events. -/
def alEv0 : EvM := ⟨0, alOp, ⟨0, 0, 8, 0, []⟩, none, 0, none, 0, 1, 4, 4⟩
def alEv1 (t : Int) : EvM := ⟨1, ⟨4, 0, 0, 0, 0, 0, []⟩, ⟨0, 0, 0, 0, []⟩, none, 0, none, 0, 2, t, 0⟩
def alEv2 : EvM := ⟨2, ⟨0, 0, 0, 0, 0, 0, []⟩, ⟨0, 0, 0, 0, []⟩, none, 0, none, 0, 0, 0, 0⟩
def alEvs (t : Int) : List EvM := [alEv0, alEv1 t, alEv2]

theorem al_order {t : Int} {ys : List Nat} {i j : Nat} (hp : pickK (alEvs t) 3 = [0, 1]) (hperm : ys.Perm (pickK (alEvs t) 3)) (hpair : ys.Pairwise (fun i j => tookAt (alEvs t) i ≤ tookAt (alEvs t) j)) (hij : (i = 0 ∧ j = 1) ∨ (i = 1 ∧ j = 0))
    (hlt : tookAt (alEvs t) i < tookAt (alEvs t) j) : ys = [i, j] := by
  rw [hp] at hperm
  have hl : ys.length = 2 := hperm.length_eq
  match ys, hl with
  | [a, b], _ =>
    have ha : a = 0 ∨ a = 1 := by have := hperm.mem_iff.1 (List.mem_cons_self : a ∈ [a, b]); simpa using this
    have hb : b = 0 ∨ b = 1 := by have := hperm.mem_iff.1 (by simp : b ∈ [a, b]); simpa using this
    have hn : a ≠ b := by
      have := (hperm.nodup_iff).2 (by decide)
      simpa using this
    have hle : tookAt (alEvs t) a ≤ tookAt (alEvs t) b := by simpa using hpair
    rcases hij with ⟨rfl, rfl⟩ | ⟨rfl, rfl⟩ <;> rcases ha with rfl | rfl <;> rcases hb with rfl | rfl <;> simp_all <;> omega

theorem al_ys4 {ys : List Nat} (hperm : ys.Perm (pickK (alEvs 5) 3)) (hpair : ys.Pairwise (fun i j => tookAt (alEvs 5) i ≤ tookAt (alEvs 5) j)) : ys = [0, 1] :=
  al_order (by decide) hperm hpair (.inl ⟨rfl, rfl⟩) (by decide)
theorem al_ys3 {ys : List Nat} (hperm : ys.Perm (pickK (alEvs 3) 3)) (hpair : ys.Pairwise (fun i j => tookAt (alEvs 3) i ≤ tookAt (alEvs 3) j)) : ys = [1, 0] :=
  al_order (by decide) hperm hpair (.inr ⟨rfl, rfl⟩) (by decide)

theorem al_t5 : (alEvs 5).all timelyE = true := by decide
theorem al_t3 : (alEvs 3).all timelyE = true := by decide
theorem al_ok5 : okFrom (alEvs 5) [] [0, 1] = true := by decide
theorem al_ok3 : okFrom (alEvs 3) [] [1, 0] = true := by decide
theorem al_run5 : runE (alEvs 5) ⟨64, []⟩ [0, 1] = (-1, 0) := by kernel_rfl
theorem al_run3 : runE (alEvs 3) ⟨64, []⟩ [1, 0] = (1, 20) := by kernel_rfl

end Go.Proofs.Ytgcnbiccekaffaa
