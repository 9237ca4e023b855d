/- Facts: what great lets in; two models side by side. -/
import Derived.Test.YtgcnbiccekaffaaGreatXq
import Derived.StillTailTactics
import Derived.Deep.RegionHeld3
namespace Go.Proofs.YtgcnbiccekaffaaGreat
open Go.RowKit Go.ChangeMaps

/-- A fact that came in. -/
structure FactJ (w : World) (f : FactM) : Prop where
  op : OpOk f.o
  bytes : BytesOk f.x.data
  in1 : BytesIn w f.p1 f.o.data
  in2 : BytesIn w f.p2 f.x.data
  lt1 : f.o.data ≠ [] → ∀ b o, f.p1 = some ⟨b, o, none⟩ → b < w.heap.size
  lt2 : f.x.data ≠ [] → ∀ b o, f.p2 = some ⟨b, o, none⟩ → b < w.heap.size
  n1 : f.p1 = none → f.q1 = 0
  n2 : f.p2 = none → f.q2 = 0

def GreatB (bytes : Int) (fs : List FactM) : Prop := bytes ≤ 20000 ∧ fs.length ≤ 60 ∧ ∀ f ∈ fs, f.o.data.length ≤ 5000 ∧ f.x.data.length ≤ 5000
def GreatPostB (w : World) (bytes : Int) (fs : List FactM) (e : Ending) (w' : World) : Prop := ∃ b, e = .returned (.bool b) ∧ (b = false → GreatB bytes fs) ∧ w = w'

set_option maxRecDepth 100000 in
set_option maxHeartbeats 4000000 in
theorem great_bound (w : World) (bytes : Int) (pv : Option Addr) (cap : Nat) (fs : List FactM) (h : FactsAt w pv fs) :
    Calls Tryz.prog 6 #[.int .i64 bytes, .slice pv fs.length cap] w (GreatPostB w bytes fs) := by
  by_cases hb : 20000 < bytes
  · go_enter Tryz.func6, Tryz.ntmps6
    go_wp2
    go_ret
    exact ⟨_, rfl, fun h => (by cases h), rfl⟩
  · by_cases hl : 60 < fs.length
    · have hl' : (60 : Int) < fs.length := by omega
      go_enter Tryz.func6, Tryz.ntmps6
      go_wp2
      go_ret
      exact ⟨_, rfl, fun h => (by cases h), rfl⟩
    · have hl' : ¬ (60 : Int) < fs.length := by omega
      have hl3 : ¬ 60 < fs.length := hl
      go_enter Tryz.func6, Tryz.ntmps6
      go_wp2
      go_loopw [5] (fun i wr => ∃ k : Nat, k ≤ fs.length ∧ i = .int .i64 k ∧ w = wr ∧ ∀ f ∈ fs.take k, f.o.data.length ≤ 5000 ∧ f.x.data.length ≤ 5000) (fun i _ => fs.length - (intOf i).toNat)
      case atStart => exact ⟨0, Nat.zero_le _, rfl, rfl, fun f hf => by simp at hf⟩
      case round =>
        obtain ⟨k, hk, rfl, rfl, hall⟩ := hrel
        by_cases hlt : k < fs.length
        · obtain ⟨g, o, rfl, hc⟩ := h k hlt
          have y1 := hc 6 _ rfl
          have y2 := hc 11 _ rfl
          have hnx : fs[k].o.data.length ≤ 5000 ∧ fs[k].x.data.length ≤ 5000 → ∀ f ∈ fs.take (k + 1), f.o.data.length ≤ 5000 ∧ f.x.data.length ≤ 5000 := fun hh f hf => by
            rw [List.take_succ_eq_append_getElem hlt, List.mem_append] at hf
            rcases hf with hf | hf
            · exact hall f hf
            · obtain rfl : f = fs[k] := by simpa using hf
              exact hh
          have HN := Lib.hid hnx
          clear hc h hnx hall
          generalize fs[k] = f at *
          have hi1 : (0 : Int) ≤ k ∧ (k : Int) < fs.length := by omega
          have hkw : IntKind.i64.wrap ((k : Int) + 1) = (k : Int) + 1 := by rw [IntKind.wrap_i64]; omega
          by_cases h1 : 5000 < f.o.data.length
          · have h1' : (5000 : Int) < f.o.data.length := by omega
            go_wp2
            go_ret
            exact ⟨_, rfl, fun h => (by cases h), rfl⟩
          · have h1' : ¬ (5000 : Int) < f.o.data.length := by omega
            by_cases h2 : 5000 < f.x.data.length
            · have h2' : (5000 : Int) < f.x.data.length := by omega
              go_wp2
              go_ret
              exact ⟨_, rfl, fun h => (by cases h), rfl⟩
            · have h2' : ¬ (5000 : Int) < f.x.data.length := by omega
              have HNX := Lib.hid (HN.out ⟨by omega, by omega⟩)
              clear HN
              go_wp2
              go_roundw
              case rel => exact ⟨k + 1, by omega, by go_num, (by first | rfl | trivial), HNX.out⟩
              case measure => simp [intOf]; omega
        · obtain rfl : k = fs.length := by omega
          rw [List.take_length] at hall
          have HALL := Lib.hid hall
          clear hall
          go_wp2
          go_ret
          exact ⟨_, rfl, fun _ => ⟨by omega, by omega, HALL.out⟩, rfl⟩

/-! ### a region, by hand: what holds of the world may change on the way -/
theorem wpAnyH_mono {P : Program} {md : Region.Mode} {ops : Array Oper} {Q : Exit → Act → World → Prop} {S S' : World → Prop} (hS : ∀ w, S' w → S w) :
    ∀ (fuel : Nat) (listed : Array Bool) (a : Act) (w : World), wpAnyH P md ops Q S' fuel listed a w → wpAnyH P md ops Q S fuel listed a w
  | 0, _, _, _, h => h
  | fuel + 1, _, _, _, h => ⟨h.1, fun i hi => wpOp_mono (fun a' w' h' => ⟨hS w' h'.1, wpAnyH_mono hS fuel _ a' w' h'.2⟩) (h.2 i hi)⟩

/-! ### two models -/
theorem RefX.turned {F G : Nat → Prop} {w w' : World} {m : Nat} {A : AM} (h : RefX G w m A) (t : Turned F w w') (hd : ∀ k, G k → ¬ F k) : RefX G w' m A := by
  obtain ⟨vb, gy, cy, bs, h⟩ := h
  refine ⟨vb, gy, cy, bs, (t.block m (lt_of_block h.model) (hd _ h.lo.1)).trans h.model, ?_, h.own, (t.block gy (lt_of_block h.bytes) (hd _ h.lo.2)).trans h.bytes, h.of, h.lo, h.cap⟩
  have hr := h.rows
  rcases hr.2 with ⟨h1, h2⟩ | ⟨g, cap, cur, h1, h2, h3, h4⟩
  · exact ⟨hr.1, .inl ⟨h1, h2⟩⟩
  · exact ⟨hr.1, .inr ⟨g, cap, cur, h1, h2, (t.block g (lt_of_block h3) (hd g (h.own g (by rw [h1]; rfl)))).trans h3, h4⟩⟩

/-- The program's model and the reference's: the same blocks, no block of memory in common. -/
structure Both (B : Nat) (w : World) (m r : Nat) (A A' : AM) (F G : Nat → Prop) : Prop where
  mod : RepX B w m A F
  ref : RefX G w r A'
  gb : ∀ k, G k → B ≤ k ∧ k < w.heap.size
  dis : ∀ k, F k → ¬ G k

theorem Both.below {B : Nat} {w W : World} {m r : Nat} {A A' : AM} {F G : Nat → Prop} (h : Both B w m r A A' F G) (hb : Below w.heap.size w W) : Both B W m r A A' F G :=
  ⟨h.mod.below hb, h.ref.below hb, fun k hk => ⟨(h.gb k hk).1, Nat.lt_of_lt_of_le (h.gb k hk).2 hb.size⟩, h.dis⟩

theorem Both.take {B : Nat} {w W : World} {m r : Nat} {A A' A2 : AM} {F G F2 : Nat → Prop} (h : Both B w m r A A' F G) (h2 : RepX B W m A2 F2) (hF : ∀ j, F2 j → F j ∨ w.heap.size ≤ j) (t : Turned F w W) : Both B W m r A2 A' F2 G :=
  ⟨h2, h.ref.turned t (fun k hk hf => h.dis k hf hk), fun k hk => ⟨(h.gb k hk).1, Nat.lt_of_lt_of_le (h.gb k hk).2 t.size⟩, fun k hk hg => by
    rcases hF k hk with h1 | h1
    · exact h.dis k h1 hg
    · have := (h.gb k hg).2; omega⟩

theorem Both.taker {B : Nat} {w W : World} {m r : Nat} {A A' A2 : AM} {F G : Nat → Prop} (h : Both B w m r A A' F G) (h2 : RefX (fun k => G k ∨ w.heap.size ≤ k) W r A2) (t : Tn (fun k => G k ∨ w.heap.size ≤ k) w W) : Both B W m r A A2 F (fun k => (G k ∨ w.heap.size ≤ k) ∧ k < W.heap.size) := by
  have hd : ∀ k, F k → k < w.heap.size → ¬ (G k ∨ w.heap.size ≤ k) := fun k hk hl hh => by
    rcases hh with hh | hh
    · exact h.dis k hk hh
    · omega
  have hs : w.heap.size ≤ W.heap.size := t.size
  refine ⟨⟨h.mod.1.turned t hd, h.mod.2.1, fun k hk => Nat.lt_of_lt_of_le (h.mod.2.2.1 k hk) hs, h.mod.2.2.2.1, Nat.le_trans h.mod.2.2.2.2 hs⟩, h2.mono (fun k h1 h2 => ⟨h1, h2⟩), fun k hk => ⟨?_, hk.2⟩, fun k hk hg => hd k hk (h.mod.2.2.1 k hk) hg.1⟩
  rcases hk.1 with h1 | h1
  · exact (h.gb k h1).1
  · have := h.mod.2.2.2.2; omega

theorem Both.taker_below {B : Nat} {w W : World} {m r : Nat} {A A' : AM} {F G : Nat → Prop} (h : Both B w m r A A' F G) (t : Tn (fun k => G k ∨ w.heap.size ≤ k) w W) : Below B w W :=
  Turned.below t (fun k hk => by
    rcases hk with hk | hk
    · exact (h.gb k hk).1
    · exact Nat.le_trans h.mod.2.2.2.2 hk) h.mod.2.2.2.2

theorem findB_in {A : AM} (hI : Inv A) {b : Blk} (hb : b ∈ A.blocks) : findB A b.at_ = some b := by
  cases h : findB A b.at_ with
  | none =>
    unfold findB at h
    have := List.find?_eq_none.1 h b hb
    simp at this
  | some c =>
    obtain ⟨h1, h2⟩ := findB_some h
    rw [hI.same h1 hb h2]

theorem known_block {A : AM} (hI : Inv A) {b : Blk} (hb : b ∈ A.blocks) {k : Nat} (hk : k < b.n) : knownA A b.at_ k = b.cells.getD k none := by
  unfold knownA
  rw [findB_in hI hb]
  show (if (k : Int) < 0 ∨ (b.n : Int) ≤ k then none else b.cells.getD (k : Int).toNat none) = _
  rw [if_neg (by omega), Int.toNat_natCast]

theorem known_no {A : AM} {at_ kk : Int} (h : ∀ j (hj : j < A.blocks.length), ¬ (A.blocks[j].at_ = at_ ∧ 0 ≤ kk ∧ kk < A.blocks[j].n)) : knownA A at_ kk = none := by
  unfold knownA
  cases hf : findB A at_ with
  | none => rfl
  | some b =>
    obtain ⟨hb, he⟩ := findB_some hf
    obtain ⟨j, hj, rfl⟩ := List.getElem_of_mem hb
    have := h j hj
    show (if kk < 0 ∨ (A.blocks[j].n : Int) ≤ kk then none else A.blocks[j].cells.getD kk.toNat none) = none
    rw [if_pos (by omega)]

theorem may_take (A : AM) (o : OpA) (x : AnsA) : mayB A o x = (takeE A o x == 0) := by
  unfold mayB takeE
  cases rightA o <;> cases (legalA A o x).2 <;> rfl

theorem takeA_bytes (A : AM) (o : OpA) (x : AnsA) : (takeA A o x).bytes = A.bytes := by
  unfold takeA
  split
  · split
    · cases (legalA A o x).1 <;> rfl
    · rfl
  · rfl

end Go.Proofs.YtgcnbiccekaffaaGreat
