/- The reference's Order: what stands between two rounds. -/
import Derived.Test.YtgcnbiccekaffaaGreatOr
namespace Go.Proofs.YtgcnbiccekaffaaGreat
open Go.RowKit Go.ChangeMaps

def NoClash (es : List EvM) (k : Nat) : Prop := ∀ i j, i < k → j < i → (evAt es i).took ≠ 0 → (evAt es j).took ≠ 0 → clashE (evAt es i) (evAt es j) = false
def GoodE (es : List EvM) : Prop := es.all timelyE = true ∧ NoClash es es.length

def RefPost (w : World) (es : List EvM) (e : Ending) (w' : World) : Prop :=
  Below w.heap.size w w' ∧
    ((¬ GoodE es ∧ e = .returned (.tuple #[.slice none 0 0, .bool false])) ∨
      (GoodE es ∧ ∃ xs : List Nat, xs.Perm (pickK es es.length) ∧ xs.Pairwise (fun i j => tookAt es i ≤ tookAt es j) ∧
        ∃ v, e = .returned (.tuple #[v, .bool true]) ∧ w'.ownsRow w.heap.size 3 1 v xs.length (xs.map natV)))

def RefI (w wr : World) (es : List EvM) (k : Nat) (v : Value) : Prop :=
  Below w.heap.size w wr ∧ (es.take k).all timelyE = true ∧ NoClash es k ∧
    ∃ xs : List Nat, xs.Perm (pickK es k) ∧ xs.Pairwise (fun i j => tookAt es i ≤ tookAt es j) ∧ wr.ownsRow w.heap.size 3 1 v xs.length (xs.map natV)

theorem not_good_time {es : List EvM} {k : Nat} (hk : k < es.length) (h : timelyE (evAt es k) = false) : ¬ GoodE es := fun hg => by
  have h1 := List.all_eq_true.1 hg.1 _ (List.getElem_mem hk)
  rw [evAt_get hk, h] at h1
  cases h1

theorem not_good_clash {es : List EvM} {k j : Nat} (hk : k < es.length) (hj : j < k) (h1 : (evAt es k).took ≠ 0) (h2 : (evAt es j).took ≠ 0) (h : clashE (evAt es k) (evAt es j) = true) : ¬ GoodE es := fun hg => by
  have := hg.2 k j hk hj h1 h2
  rw [h] at this
  cases this

theorem noClash_zero {es : List EvM} {k : Nat} (h : NoClash es k) (h0 : (evAt es k).took = 0) : NoClash es (k + 1) := fun i j hi hj h1 h2 => by
  rcases Nat.lt_succ_iff_lt_or_eq.1 hi with hi | rfl
  · exact h i j hi hj h1 h2
  · exact absurd h0 h1

theorem noClash_next {es : List EvM} {k : Nat} (h : NoClash es k) (h0 : ∀ j, j < k → (evAt es j).took ≠ 0 → clashE (evAt es k) (evAt es j) = false) : NoClash es (k + 1) := fun i j hi hj h1 h2 => by
  rcases Nat.lt_succ_iff_lt_or_eq.1 hi with hi | rfl
  · exact h i j hi hj h1 h2
  · exact h0 j hj h2

theorem own_slice {w : World} {base n size : Nat} {T : TypeId} {v : Value} {xs : List Value} (h : w.ownsRow base T size v n xs) : ∃ p c, v = .slice p n c := by
  rcases h.2 with ⟨h0, h1⟩ | ⟨g, cap, cur, h0, _⟩
  · exact ⟨none, 0, by rw [h0, h1]⟩
  · exact ⟨_, _, h0⟩

/-- Between two swaps. -/
def SwapI (W7 wr : World) (es : List EvM) (g7 cap7 : Nat) (xs : List Nat) (q : Nat) (t : Int) (A B : List Nat) : Prop :=
  xs = A ++ B ∧ (∀ b ∈ B, t < tookAt es b) ∧ Turned (fun j => j = g7) W7 wr ∧ ∃ cur, wr.heap[g7]? = some (.cells cur 3 (0, 0)) ∧ cur.size = cap7 ∧ cur.toList.take (xs.length + 1) = (A ++ q :: B).map natV

theorem swap_cell {W7 wr : World} {es : List EvM} {g7 cap7 q : Nat} {xs : List Nat} {t : Int} {A B : List Nat} (h : SwapI W7 wr es g7 cap7 xs q t A B) {i j : Nat} (hi : (A ++ q :: B)[i]? = some j) : wr.cell? ⟨g7, i, none⟩ = some (.int .i64 j) := by
  obtain ⟨h1, _, _, cur, h2, _, h4⟩ := h
  have hl : i < xs.length + 1 := by
    have := (List.getElem?_eq_some_iff.1 hi).1
    rw [h1]
    simp only [List.length_append, List.length_cons] at *
    omega
  rw [cell_of_block h2, ← Array.getElem?_toList]
  have : cur.toList[i]? = ((A ++ q :: B).map natV)[i]? := by rw [← h4, List.getElem?_take, if_pos hl]
  rw [this, List.getElem?_map, hi]
  rfl

theorem swap_next {W7 wr : World} {es : List EvM} {g7 cap7 q p : Nat} {xs : List Nat} {t : Int} {A B : List Nat} (h : SwapI W7 wr es g7 cap7 xs q t (A ++ [p]) B) (hp : t < tookAt es p) (hc : xs.length + 1 ≤ cap7) :
    SwapI W7 ((wr.setCell ⟨g7, A.length, none⟩ (.int .i64 q)).setCell ⟨g7, A.length + 1, none⟩ (.int .i64 p)) es g7 cap7 xs q t A (p :: B) := by
  obtain ⟨h1, h2, h3, cur, h4, h5, h6⟩ := h
  refine ⟨by rw [h1]; simp, fun b hb => ?_, turned_set (turned_set h3 _ _) _ _, _, heap_setCell_eq (heap_setCell_eq h4 _) _, by simp [h5], ?_⟩
  · rcases List.mem_cons.1 hb with rfl | hb
    · exact hp
    · exact h2 b hb
  · have hl : A.length + 1 < xs.length + 1 := by rw [h1]; simp <;> omega
    have e : ((cur.setIfInBounds A.length (.int .i64 q)).setIfInBounds (A.length + 1) (.int .i64 p)).toList = (cur.toList.set A.length (.int .i64 q)).set (A.length + 1) (.int .i64 p) := by simp
    rw [e, List.take_set, List.take_set, h6]
    have e2 : (A ++ [p] ++ q :: B).map natV = A.map natV ++ natV p :: natV q :: B.map natV := by simp
    have e3 : (A ++ q :: p :: B).map natV = A.map natV ++ natV q :: natV p :: B.map natV := by simp
    rw [e2, e3]
    have e4 : (A.map natV).length = A.length := by simp
    rw [List.set_append_right _ _ (by omega), e4, Nat.sub_self, List.set_cons_zero, List.set_append_right _ _ (by omega), e4, show A.length + 1 - A.length = 1 from by omega]
    rfl

theorem swap_done {w W7 wr : World} {es : List EvM} {g7 cap7 q : Nat} {xs : List Nat} {t : Int} {A B : List Nat} (h : SwapI W7 wr es g7 cap7 xs q t A B) (hq : tookAt es q = t) (hxs : xs.Perm (pickK es q)) (hpair : xs.Pairwise (fun i j => tookAt es i ≤ tookAt es j))
    (hA : ∀ a ∈ A, tookAt es a ≤ t) (ht : t ≠ 0) (hb : w.heap.size ≤ g7) (hc : xs.length + 1 ≤ cap7) (hm : cap7 ≤ maxLen) :
    ∃ zs : List Nat, zs.Perm (pickK es (q + 1)) ∧ zs.Pairwise (fun i j => tookAt es i ≤ tookAt es j) ∧ wr.ownsRow w.heap.size 3 1 (.slice (some ⟨g7, 0, none⟩) (xs.length + 1) cap7) zs.length (zs.map natV) := by
  obtain ⟨h1, h2, h3, cur, h4, h5, h6⟩ := h
  have hzl : (A ++ q :: B).length = xs.length + 1 := by { rw [h1]; simp only [List.length_append, List.length_cons]; omega }
  refine ⟨A ++ q :: B, ?_, ?_, ?_⟩
  · rw [pickK_succ, if_pos (by rw [hq]; simpa using ht)]
    have e1 : (A ++ q :: B).Perm (q :: (A ++ B)) := List.perm_middle
    have e2 : (q :: (A ++ B)).Perm (q :: pickK es q) := (h1 ▸ hxs).cons q
    exact (e1.trans e2).trans (List.perm_append_singleton q _).symm
  · rw [h1, List.pairwise_append] at hpair
    rw [List.pairwise_append]
    refine ⟨hpair.1, List.pairwise_cons.2 ⟨fun b hb => ?_, hpair.2.1⟩, fun a ha b hb => ?_⟩
    · rw [hq]; exact Int.le_of_lt (h2 b hb)
    · rcases List.mem_cons.1 hb with rfl | hb
      · rw [hq]; exact hA a ha
      · exact hpair.2.2 a ha b hb
  · rw [hzl]
    refine ⟨by rw [List.length_map, hzl]; omega, .inr ⟨g7, cap7, cur, rfl, hb, h4, hc, hm, by omega, by rw [Nat.mul_one]; exact h6⟩⟩

theorem own_row1 {w W7 : World} {v : Value} {xs : List Nat} {q : Nat} (h : W7.ownsRow w.heap.size 3 1 v (xs.length + 1) (xs.map natV ++ [.int .i64 q])) :
    ∃ g7 cap7 cur7, v = .slice (some ⟨g7, 0, none⟩) (xs.length + 1) cap7 ∧ w.heap.size ≤ g7 ∧ W7.heap[g7]? = some (.cells cur7 3 (0, 0)) ∧ xs.length + 1 ≤ cap7 ∧ cap7 ≤ maxLen ∧ cur7.size = cap7 ∧ cur7.toList.take (xs.length + 1) = (xs ++ [q]).map natV := by
  rcases h.2 with ⟨_, h1⟩ | ⟨g, cap, cur, h0, hb, hg, h1, h2, h3, h4⟩
  · omega
  · exact ⟨g, cap, cur, h0, hb, hg, h1, h2, by omega, by rw [Nat.mul_one] at h4; rw [h4, List.map_append]; rfl⟩

theorem SwapI.below {W7 wr w1 : World} {es : List EvM} {g7 cap7 q : Nat} {xs : List Nat} {t : Int} {A B : List Nat} (h : SwapI W7 wr es g7 cap7 xs q t A B) (hb : Below wr.heap.size wr w1) : SwapI W7 w1 es g7 cap7 xs q t A B := by
  obtain ⟨h1, h2, h3, cur, h4, h5, h6⟩ := h
  refine ⟨h1, h2, ⟨hb.os.trans h3.os, hb.tape.trans h3.tape, hb.output.trans h3.output, Nat.le_trans h3.size hb.size, fun x hx hn => ?_⟩, cur, (hb.block _ (lt_of_block h4)).trans h4, h5, h6⟩
  exact (hb.block x (Nat.lt_of_lt_of_le hx h3.size)).trans (h3.block x hx hn)

theorem swap_all {W7 wr : World} {es : List EvM} {g7 cap7 q p : Nat} {xs : List Nat} {t : Int} {A B : List Nat} (h : SwapI W7 wr es g7 cap7 xs q t (A ++ [p]) B) (hpair : xs.Pairwise (fun i j => tookAt es i ≤ tookAt es j)) (hp : tookAt es p ≤ t) : ∀ a ∈ A ++ [p], tookAt es a ≤ t := by
  intro a ha
  rw [h.1, List.pairwise_append] at hpair
  have h1 := hpair.1
  rw [List.pairwise_append] at h1
  rcases List.mem_append.1 ha with ha | ha
  · exact Int.le_trans (h1.2.2 a ha p (by simp)) hp
  · obtain rfl : a = p := by simpa using ha
    exact hp

theorem blk_ne {w : World} {a b : Nat} {c c' : Array Value} {T T' : TypeId} (h : w.heap[a]? = some (.cells c T (0, 0))) (h' : w.heap[b]? = some (.cells c' T' (0, 0))) (hT : T ≠ T') : a ≠ b := fun e => by
  rw [e, h'] at h
  cases h
  exact hT rfl

end Go.Proofs.YtgcnbiccekaffaaGreat
