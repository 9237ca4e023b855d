/- Facts in memory; great. -/
import Derived.Test.YtgcnbiccekaffaaGreatV
namespace Go.Proofs.YtgcnbiccekaffaaGreat
open Go.RowKit Go.ChangeMaps

structure FactM where
  o : OpA
  x : AnsA
  p1 : Option Addr
  q1 : Nat
  p2 : Option Addr
  q2 : Nat

def factV (e : FactM) : List Value :=
  [.int .i64 e.o.k, .int .u64 e.o.a, .int .u64 e.o.b, .int .i64 e.o.at_, .int .i64 e.o.fr, .int .i64 e.o.n, .slice e.p1 e.o.data.length e.q1,
    .int .i64 e.x.err, .int .i64 e.x.at_, .int .i64 e.x.n, .int .i64 e.x.count, .slice e.p2 e.x.data.length e.q2]

def FactsAt (w : World) (pv : Option Addr) (fs : List FactM) : Prop :=
  ∀ i (h : i < fs.length), ∃ g o, pv = some ⟨g, o, none⟩ ∧ ∀ j v, (factV fs[i])[j]? = some v → w.cell? ⟨g, o + i * 12 + j, none⟩ = some v

theorem FactsAt.below {w W : World} {pv : Option Addr} {fs : List FactM} (h : FactsAt w pv fs) (hb : Below w.heap.size w W) : FactsAt W pv fs := by
  intro i hi
  obtain ⟨g, o, e, hc⟩ := h i hi
  exact ⟨g, o, e, fun j v hv => cell_past hb (cell_lt (hc j v hv)) (hc j v hv)⟩

def GreatPost (w : World) (e : Ending) (w' : World) : Prop := ∃ b, e = .returned (.bool b) ∧ Below w.heap.size w w'

set_option maxRecDepth 100000 in
set_option maxHeartbeats 4000000 in
theorem great_any (w : World) (bytes : Int) (pv : Option Addr) (cap : Nat) (fs : List FactM) (h : FactsAt w pv fs) :
    Calls Tryz.prog 6 #[.int .i64 bytes, .slice pv fs.length cap] w (GreatPost w) := by
  by_cases hb : 20000 < bytes
  · go_enter Tryz.func6, Tryz.ntmps6
    go_wp2
    go_ret
    exact ⟨_, rfl, Below.refl _ _⟩
  · by_cases hl : 60 < fs.length
    · have hl' : (60 : Int) < fs.length := by omega
      go_enter Tryz.func6, Tryz.ntmps6
      go_wp2
      go_ret
      exact ⟨_, rfl, Below.refl _ _⟩
    · have hl' : ¬ (60 : Int) < fs.length := by omega
      have hl3 : ¬ 60 < fs.length := hl
      go_enter Tryz.func6, Tryz.ntmps6
      go_wp2
      go_loopw [5] (fun i wr => ∃ k : Nat, k ≤ fs.length ∧ i = .int .i64 k ∧ w = wr) (fun i _ => fs.length - (intOf i).toNat)
      case atStart => exact ⟨0, Nat.zero_le _, rfl, rfl⟩
      case round =>
        obtain ⟨k, hk, rfl, rfl⟩ := hrel
        by_cases hlt : k < fs.length
        · obtain ⟨g, o, rfl, hc⟩ := h k hlt
          have y1 := hc 6 _ rfl
          have y2 := hc 11 _ rfl
          clear hc h
          generalize fs[k] = f at *
          have hi1 : (0 : Int) ≤ k ∧ (k : Int) < fs.length := by omega
          have hkw : IntKind.i64.wrap ((k : Int) + 1) = (k : Int) + 1 := by rw [IntKind.wrap_i64]; omega
          by_cases h1 : 5000 < f.o.data.length
          · have h1' : (5000 : Int) < f.o.data.length := by omega
            go_wp2
            go_ret
            exact ⟨_, rfl, Below.refl _ _⟩
          · have h1' : ¬ (5000 : Int) < f.o.data.length := by omega
            by_cases h2 : 5000 < f.x.data.length
            · have h2' : (5000 : Int) < f.x.data.length := by omega
              go_wp2
              go_ret
              exact ⟨_, rfl, Below.refl _ _⟩
            · have h2' : ¬ (5000 : Int) < f.x.data.length := by omega
              go_wp2
              go_roundw
              case rel => exact ⟨k + 1, by omega, by go_num, trivial⟩
              case measure => simp [intOf]; omega
        · obtain rfl : k = fs.length := by omega
          go_wp2
          go_ret
          exact ⟨_, rfl, Below.refl _ _⟩

end Go.Proofs.YtgcnbiccekaffaaGreat
