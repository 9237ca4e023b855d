/- drop, as the reference has it. -/
import Derived.Test.YtgcnbiccekaffaaGreatXi
namespace Go.Proofs.YtgcnbiccekaffaaGreat
open Go.RowKit Go.ChangeMaps

theorem dropB_at {A : AM} (hI : Inv A) {i : Nat} (hi : i < A.blocks.length) : dropB A.blocks[i].at_ A.blocks = A.blocks.take i ++ A.blocks.drop (i + 1) := by
  have e : A.blocks = A.blocks.take i ++ A.blocks[i] :: A.blocks.drop (i + 1) := by simp
  have hs : Sorted A.blocks := hI.sorted
  unfold Sorted at hs
  have hne : ∀ j (hj : j < A.blocks.length), j ≠ i → A.blocks[j].at_ ≠ A.blocks[i].at_ := fun j hj hji he => by
    rcases Nat.lt_or_gt_of_ne hji with h | h
    · have := List.pairwise_iff_getElem.1 hs j i hj hi h
      have := (hI.lo _ (List.getElem_mem hj)).2.2.2
      have := (hI.lo _ (List.getElem_mem hj))
      omega
    · have := List.pairwise_iff_getElem.1 hs i j hi hj h
      have := (hI.lo _ (List.getElem_mem hi))
      omega
  have h1 : (A.blocks.take i).filter (fun b => b.at_ != A.blocks[i].at_) = A.blocks.take i := by
    rw [List.filter_eq_self]
    intro b hb
    obtain ⟨j, hj, rfl⟩ := List.getElem_of_mem hb
    rw [List.length_take] at hj
    rw [List.getElem_take]
    simpa using hne j (by omega) (by omega)
  have h2 : (A.blocks.drop (i + 1)).filter (fun b => b.at_ != A.blocks[i].at_) = A.blocks.drop (i + 1) := by
    rw [List.filter_eq_self]
    intro b hb
    obtain ⟨j, hj, rfl⟩ := List.getElem_of_mem hb
    rw [List.length_drop] at hj
    rw [List.getElem_drop]
    simpa using hne (i + 1 + j) (by omega) (by omega)
  unfold dropB
  generalize hk : A.blocks[i].at_ = k at *
  conv => lhs; rw [e]
  rw [List.filter_append, h1, List.filter_cons, h2, hk]
  simp

theorem bytes_drop {A : AM} {bs : List Int} (h : BytesOf A bs) (k : Int) : BytesOf (applyC A (.drop k)) bs :=
  ⟨h.1, fun b hb => h.2 b (List.mem_filter.1 (show b ∈ A.blocks.filter _ from hb)).1⟩

theorem drop_done {F : Nat → Prop} {w w4 : World} {m gy cy : Nat} {A : AM} {bs : List Int} {v vb : Value} {l : List Blk} (h : RefAt F w m A vb gy cy bs) (hB : ∀ k, w.heap.size ≤ k → F k) (hb : Below w.heap.size w w4)
    (hr : w4.ownsRow w.heap.size 54 3 v l.length (rowV l)) (hl : BytesOf { A with blocks := l } bs) : LayDone F w m gy cy { A with blocks := l } bs (w4.setCell ⟨m, 0, none⟩ v) := by
  have hm : w4.heap[m]? = _ := (hb.block _ (lt_of_block h.model)).trans h.model
  have hy : w4.heap[gy]? = _ := (hb.block _ (lt_of_block h.bytes)).trans h.bytes
  have hlm := lt_of_block h.model
  have hne : m ≠ gy := fun e => by
    rw [e, hy] at hm
    simp at hm
  refine ⟨⟨v, ?_, own_mono (ownsRow_setCell_below hr (by show m < _; omega) _) (Nat.zero_le _), own_ge hr hB, ?_, hl, h.lo, h.cap⟩, Turned.setCell (F := fun j => j = m ∨ j = gy) (p := ⟨m, 0, none⟩) (Turned.of_below hb (Nat.le_refl _)) (.inl (.inl rfl)) _, (tof (F := F) hb).setCell (h.lo.1) _⟩
  · have := heap_setCell_eq (i := 0) hm v
    rw [this]
    rfl
  · rw [Below.heap_setCell _ _ _ _ (Ne.symm hne)]
    exact hy

set_option maxRecDepth 100000 in
set_option maxHeartbeats 1000000 in
theorem dropR_at {F : Nat → Prop} {w : World} {m gy cy : Nat} {A : AM} {vb : Value} {bs : List Int} (h : RefAt F w m A vb gy cy bs) (hI : Inv A) (i : Nat) (hi : i < A.blocks.length) (hB : ∀ k, w.heap.size ≤ k → F k) :
    Calls Tryz.prog 54 #[.pointer (some ⟨m, 0, none⟩), .int .i64 i] w (fun e w' => e = .returned (.tuple #[]) ∧ LayDone F w m gy cy (applyC A (.drop A.blocks[i].at_)) bs w') := by
  obtain ⟨i0, hi0, hz0, hz1, hz2⟩ := info_parts info_rblock
  obtain ⟨g, cap, cur, hv, hg1, hg2, hg3, hg4, hg5, hg6⟩ : ∃ g cap cur, vb = .slice (some ⟨g, 0, none⟩) A.blocks.length cap ∧ 0 ≤ g ∧ w.heap[g]? = some (.cells cur 54 (0, 0)) ∧ A.blocks.length ≤ cap ∧ cap ≤ maxLen ∧ cur.size = cap * 3 ∧ cur.toList.take (A.blocks.length * 3) = rowV A.blocks := by
    rcases h.rows.2 with ⟨_, h1⟩ | h1
    · omega
    · exact h1
  subst hv
  have c0 : w.cell? ⟨m, 0, none⟩ = some (.slice (some ⟨g, 0, none⟩) A.blocks.length cap) := by rw [cell_of_block h.model]; rfl
  have hcount := hI.count
  have hb1 := hI.b1
  have hi1 : (0 : Int) ≤ i ∧ (i : Int) ≤ A.blocks.length := by omega
  have hi2 : (i : Int) ≤ cap := by omega
  have hlm : m < w.heap.size := lt_of_block h.model
  have HH := Lib.hid h
  have hkw : IntKind.i64.wrap ((i : Int) + 1) = (i : Int) + 1 := by rw [IntKind.wrap_i64]; omega
  have hown : (w.alloc (.cells #[] 54)).ownsRow w.heap.size 54 3 (.slice (some ⟨w.heap.size, 0, none⟩) 0 0) 0 [] := World.ownsRow_made w #[] 0 (Nat.le_refl _) (Nat.zero_le _) rfl
  have HOWN := Lib.hid hown
  have hnews : ∀ j u, (rowV (A.blocks.take i))[j]? = some u → (w.alloc (.cells #[] 54)).cell? ((⟨g, 0, none⟩ : Addr).add j) = some u := fun j u hu => by
    have hj : j < i * 3 := by
      have := (List.getElem?_eq_some_iff.1 hu).1
      rw [rowV_length, List.length_take] at this
      omega
    have ha : (⟨g, 0, none⟩ : Addr).add j = ⟨g, j, none⟩ := by unfold Addr.add; split <;> simp_all
    have e : rowV A.blocks = rowV (A.blocks.take i) ++ rowV (A.blocks.drop i) := by rw [← rowV_append, List.take_append_drop]
    rw [ha, World.cell?_alloc_past _ _ _ (lt_of_block hg2), cell_of_block hg2, ← Array.getElem?_toList, ← hu]
    have h1 : cur.toList[j]? = (rowV A.blocks)[j]? := by rw [← hg6, List.getElem?_take, if_pos (by omega)]
    rw [h1, e, List.getElem?_append_left (by rw [rowV_length, List.length_take]; omega)]
  have HN := Lib.hid hnews
  have hone : ∀ l : List Blk, ∀ u ∈ rowV l, u.oneCell' = true := fun l u hu => by
    unfold rowV at hu
    obtain ⟨b, _, hb⟩ := List.mem_flatMap.1 hu
    simp only [blkV, List.mem_cons, List.not_mem_nil, or_false] at hb
    rcases hb with rfl | rfl | rfl <;> rfl
  have HONE := Lib.hid hone
  have HLEN : Hid ((rowV (A.blocks.take i)).length = i * 3) := by show _ = _; rw [rowV_length, List.length_take]; omega
  clear hown hnews hone h
  have HLEN2 : Hid ((rowV (A.blocks.drop (i + 1))).length = (A.blocks.length - (i + 1)) * 3) := by show _ = _; rw [rowV_length, List.length_drop]
  have HAPP : Hid (applyC A (.drop A.blocks[i].at_) = { A with blocks := A.blocks.take i ++ A.blocks.drop (i + 1) }) := by show ({ A with blocks := dropB A.blocks[i].at_ A.blocks } : AM) = _; rw [dropB_at hI hi]
  have HBY : Hid (BytesOf { A with blocks := A.blocks.take i ++ A.blocks.drop (i + 1) } bs) := by
    have := bytes_drop HH.out.of A.blocks[i].at_
    rw [HAPP.out] at this
    exact this
  by_cases hcap : cap = i + 1
  · subst hcap
    have HN2 : Hid (∀ W, Below w.heap.size w W → ∀ j u, (rowV (A.blocks.drop (i + 1)))[j]? = some u → W.cell? ((⟨g, 0, none⟩ : Addr).add j) = some u) := fun W hb j u hu => by
      rw [List.drop_eq_nil_of_le (by omega)] at hu
      cases hu
    have HROW : Hid (∀ (w4 : World) (v4 : Value), w4.ownsRow w.heap.size 54 3 v4 (0 + i + 0) ([] ++ rowV (A.blocks.take i) ++ []) → w4.ownsRow w.heap.size 54 3 v4 (A.blocks.take i ++ A.blocks.drop (i + 1)).length (rowV (A.blocks.take i ++ A.blocks.drop (i + 1)))) := fun w4 v4 hh => by
      rw [List.drop_eq_nil_of_le (by omega), List.append_nil, List.length_take, Nat.min_eq_left (by omega)]
      simpa using hh
    (go_enter Tryz.func54, Tryz.ntmps54; go_wp2_with (first | (at_builtin; (refine wpList_append_own _ rfl _ _ 48 rfl w.heap.size 54 i0 (.agg #[.int .i64 0, .int .i64 0, .int .i64 0]) 3 24 Tryz.underlying48 hi0 hz0 hz1 hz2 rfl (by decide) _ _ _ rfl HR3.out ⟨g, 0, none⟩ 0 _ [] rfl rfl (fun j u hu => by cases hu) (fun u hu => by cases hu) (by unfold maxLen; omega) (by omega) HB3.out.size ?_; intro v4 w4 hown4 hgrow4 hnil4; go_must (have hb4 : Below w.heap.size w w4 := Below.grown HB3.out hgrow4 HB3.out.size (fun j e => (HR3.out.lt j e).1); have hfin := drop_done (l := A.blocks.take i ++ A.blocks.drop (i + 1)) HH.out hB hb4 (HROW.out _ _ hown4) HBY.out; obtain ⟨pv, cv, rfl⟩ := own_slice2 hown4; have hm4 := (hb4.block _ hlm).trans HH.out.model; have d4 : w4.cell? ⟨m, 0, none⟩ = some (.slice (some ⟨g, 0, none⟩) A.blocks.length _) := cell_of_block hm4 0; have f4 : w4.frozen? ⟨m, 0, none⟩ = false := frozen_of_row _ _ _ _ _ hm4; have HFIN := Lib.hid hfin; clear hfin hb4 hm4 hown4 hgrow4 hnil4))) | (at_builtin; refine wpList_append_own _ rfl _ _ 48 rfl w.heap.size 54 i0 (.agg #[.int .i64 0, .int .i64 0, .int .i64 0]) 3 24 Tryz.underlying48 hi0 hz0 hz1 hz2 rfl (by decide) _ 0 [] rfl HOWN.out ⟨g, 0, none⟩ i _ (rowV (A.blocks.take i)) rfl HLEN.out HN.out (HONE.out _) (by unfold maxLen; omega) (by omega) (by simp) ?_; intro v' w3 hown3 hgrow3 hnil3; go_must (have hb3 : Below w.heap.size w w3 := Below.grown ((Below.refl _ w).alloc (Nat.le_refl _) _) hgrow3 (by simp) (fun j e => by cases e; exact Nat.le_refl _); have d3 := cell_past hb3 (cell_lt c0) c0; have HB3 := Lib.hid hb3; have HR3 := Lib.hid hown3; clear hb3 hown3 hgrow3 hnil3))))
    go_wp2
    go_end0
    have hfin := HFIN.out
    simp only [Nat.zero_add, Nat.add_zero] at hfin
    exact ⟨rfl, by rw [HAPP.out]; exact hfin⟩
  · have HN2 : Hid (∀ W, Below w.heap.size w W → ∀ j u, (rowV (A.blocks.drop (i + 1)))[j]? = some u → W.cell? ((⟨g, (i + 1) * 3, none⟩ : Addr).add j) = some u) := fun W hb j u hu => by
      have hj := (List.getElem?_eq_some_iff.1 hu).1
      rw [rowV_length, List.length_drop] at hj
      have ha : (⟨g, (i + 1) * 3, none⟩ : Addr).add j = ⟨g, (i + 1) * 3 + j, none⟩ := by unfold Addr.add; split <;> simp_all
      have e : rowV A.blocks = rowV (A.blocks.take (i + 1)) ++ rowV (A.blocks.drop (i + 1)) := by rw [← rowV_append, List.take_append_drop]
      have hc : w.cell? ⟨g, (i + 1) * 3 + j, none⟩ = some u := by
        rw [cell_of_block hg2, ← Array.getElem?_toList, ← hu]
        have h1 : cur.toList[(i + 1) * 3 + j]? = (rowV A.blocks)[(i + 1) * 3 + j]? := by rw [← hg6, List.getElem?_take, if_pos (by omega)]
        have h2 : (rowV (A.blocks.take (i + 1))).length = (i + 1) * 3 := by rw [rowV_length, List.length_take]; omega
        rw [h1, e, List.getElem?_append_right (by omega), h2]
        congr 1
        omega
      rw [ha]
      exact cell_past hb (cell_lt hc) hc
    have HROW : Hid (∀ (w4 : World) (v4 : Value), w4.ownsRow w.heap.size 54 3 v4 (0 + i + (A.blocks.length - (i + 1))) ([] ++ rowV (A.blocks.take i) ++ rowV (A.blocks.drop (i + 1))) → w4.ownsRow w.heap.size 54 3 v4 (A.blocks.take i ++ A.blocks.drop (i + 1)).length (rowV (A.blocks.take i ++ A.blocks.drop (i + 1)))) := fun w4 v4 hh => by
      rw [List.length_append, List.length_take, Nat.min_eq_left (by omega), List.length_drop, rowV_append]
      simpa using hh
    have hlt : i + 1 < cap := by omega
    (go_enter Tryz.func54, Tryz.ntmps54; go_wp2_with (first | (at_builtin; (refine wpList_append_own _ rfl _ _ 48 rfl w.heap.size 54 i0 (.agg #[.int .i64 0, .int .i64 0, .int .i64 0]) 3 24 Tryz.underlying48 hi0 hz0 hz1 hz2 rfl (by decide) _ _ _ rfl HR3.out ⟨g, (i + 1) * 3, none⟩ (A.blocks.length - (i + 1)) _ (rowV (A.blocks.drop (i + 1))) rfl HLEN2.out (fun j u hu => HN2.out w3 HB3.out j u hu) (HONE.out _) (by unfold maxLen; omega) (by omega) HB3.out.size ?_; intro v4 w4 hown4 hgrow4 hnil4; go_must (have hb4 : Below w.heap.size w w4 := Below.grown HB3.out hgrow4 HB3.out.size (fun j e => (HR3.out.lt j e).1); have hfin := drop_done (l := A.blocks.take i ++ A.blocks.drop (i + 1)) HH.out hB hb4 (HROW.out _ _ hown4) HBY.out; obtain ⟨pv, cv, rfl⟩ := own_slice2 hown4; have hm4 := (hb4.block _ hlm).trans HH.out.model; have d4 : w4.cell? ⟨m, 0, none⟩ = some (.slice (some ⟨g, 0, none⟩) A.blocks.length _) := cell_of_block hm4 0; have f4 : w4.frozen? ⟨m, 0, none⟩ = false := frozen_of_row _ _ _ _ _ hm4; have HFIN := Lib.hid hfin; clear hfin hb4 hm4 hown4 hgrow4 hnil4))) | (at_builtin; refine wpList_append_own _ rfl _ _ 48 rfl w.heap.size 54 i0 (.agg #[.int .i64 0, .int .i64 0, .int .i64 0]) 3 24 Tryz.underlying48 hi0 hz0 hz1 hz2 rfl (by decide) _ 0 [] rfl HOWN.out ⟨g, 0, none⟩ i _ (rowV (A.blocks.take i)) rfl HLEN.out HN.out (HONE.out _) (by unfold maxLen; omega) (by omega) (by simp) ?_; intro v' w3 hown3 hgrow3 hnil3; go_must (have hb3 : Below w.heap.size w w3 := Below.grown ((Below.refl _ w).alloc (Nat.le_refl _) _) hgrow3 (by simp) (fun j e => by cases e; exact Nat.le_refl _); have d3 := cell_past hb3 (cell_lt c0) c0; have HB3 := Lib.hid hb3; have HR3 := Lib.hid hown3; clear hb3 hown3 hgrow3 hnil3))))
    go_wp2
    go_end0
    have hfin := HFIN.out
    simp only [Nat.zero_add, Nat.add_zero] at hfin
    exact ⟨rfl, by rw [HAPP.out]; exact hfin⟩

theorem dropR_any {F : Nat → Prop} {w : World} {m : Nat} {A : AM} (h : RefX F w m A) (hI : Inv A) (i : Nat) (hi : i < A.blocks.length) (hB : ∀ k, w.heap.size ≤ k → F k) :
    Calls Tryz.prog 54 #[.pointer (some ⟨m, 0, none⟩), .int .i64 i] w (fun e w' => e = .returned (.tuple #[]) ∧ RefX F w' m (applyC A (.drop A.blocks[i].at_)) ∧ Tn F w w') := by
  obtain ⟨vb, gy, cy, bs, h⟩ := h
  exact (dropR_at h hI i hi hB).mono fun e w' ⟨he, ⟨vX, hx⟩, _, hb⟩ => ⟨he, ⟨vX, gy, cy, _, hx⟩, hb⟩

end Go.Proofs.YtgcnbiccekaffaaGreat

/- Bytes written into a live block: lists. -/
namespace Go.Proofs.YtgcnbiccekaffaaGreat
open Go.RowKit Go.ChangeMaps

/-- Bytes laid from a on. -/
def putR (bs : List Int) (a : Nat) (ds : List Int) : List Int := bs.take a ++ (ds ++ bs.drop (a + ds.length))

theorem putR_get (bs : List Int) (a : Nat) (ds : List Int) (h : a + ds.length ≤ bs.length) (k : Nat) : (putR bs a ds)[k]? = if a ≤ k ∧ k < a + ds.length then ds[k - a]? else bs[k]? := by
  unfold putR
  have hl : (bs.take a).length = a := by rw [List.length_take]; omega
  by_cases h1 : k < a
  · rw [List.getElem?_append_left (by omega), List.getElem?_take, if_pos h1, if_neg (by omega)]
  · rw [List.getElem?_append_right (by omega), hl]
    by_cases h2 : k < a + ds.length
    · rw [List.getElem?_append_left (by omega), if_pos ⟨by omega, h2⟩]
    · rw [List.getElem?_append_right (by omega), if_neg (by omega), List.getElem?_drop]
      congr 1
      omega

theorem putR_length (bs : List Int) (a : Nat) (ds : List Int) (h : a + ds.length ≤ bs.length) : (putR bs a ds).length = bs.length := by
  simp only [putR, List.length_append, List.length_take, List.length_drop]
  omega

theorem putR_nil (bs : List Int) (a : Nat) : putR bs a [] = bs := by simp [putR]

theorem putR_succ (bs : List Int) (a : Nat) (ds : List Int) (v : Int) (h : a + ds.length < bs.length) : (putR bs a ds).set (a + ds.length) v = putR bs a (ds ++ [v]) := by
  apply List.ext_getElem?
  intro i
  have hl : (ds ++ [v]).length = ds.length + 1 := by simp
  rw [putR_get bs a (ds ++ [v]) (by omega), List.getElem?_set, putR_get bs a ds (by omega), putR_length bs a ds (by omega), hl]
  by_cases h1 : a + ds.length = i
  · subst h1
    rw [if_pos rfl, if_pos h, if_pos (by omega), List.getElem?_append_right (by omega)]
    simp
  · rw [if_neg h1]
    by_cases h2 : a ≤ i ∧ i < a + ds.length
    · rw [if_pos h2, if_pos (by omega), List.getElem?_append_left (by omega)]
    · rw [if_neg h2, if_neg (by omega)]

theorem learnL_get (cs : List (Option Int)) (f : Nat) (ds : List Int) (h : f + ds.length ≤ cs.length) (k : Nat) : (learnL cs f ds)[k]? = if f ≤ k ∧ k < f + ds.length then (ds[k - f]?).map some else cs[k]? := by
  unfold learnL
  have hl : (cs.take f).length = f := by rw [List.length_take]; omega
  have hm : (ds.map some).length = ds.length := by simp
  by_cases h1 : k < f
  · rw [List.getElem?_append_left (by omega), List.getElem?_take, if_pos h1, if_neg (by omega)]
  · rw [List.getElem?_append_right (by omega), hl]
    by_cases h2 : k < f + ds.length
    · rw [List.getElem?_append_left (by omega), if_pos ⟨by omega, h2⟩, List.getElem?_map]
    · rw [List.getElem?_append_right (by omega), if_neg (by omega), List.getElem?_drop, hm]
      congr 1
      omega

/-- Two live blocks are one, or lie apart. -/
theorem blocks_apart {A : AM} (hI : Inv A) {x b : Blk} (hx : x ∈ A.blocks) (hb : b ∈ A.blocks) : x = b ∨ x.at_ + x.n ≤ b.at_ ∨ b.at_ + b.n ≤ x.at_ := by
  obtain ⟨i, hi, rfl⟩ := List.getElem_of_mem hx
  obtain ⟨j, hj, rfl⟩ := List.getElem_of_mem hb
  rcases Nat.lt_trichotomy i j with h | h | h
  · exact .inr (.inl (List.pairwise_iff_getElem.1 hI.sorted i j hi hj h))
  · subst h
    exact .inl rfl
  · exact .inr (.inr (List.pairwise_iff_getElem.1 hI.sorted j i hj hi h))

theorem bytes_learn {A : AM} (hI : Inv A) {bs : List Int} {b : Blk} {f : Nat} {ds : List Int} (hB : BytesOf A bs) (hb : b ∈ A.blocks) (hf : f + ds.length ≤ b.n) :
    BytesOf (applyC A (.upd b.at_ { b with cells := learnL b.cells f ds })) (putR bs (b.at_.toNat + f) ds) := by
  obtain ⟨hlen, hbs⟩ := hB
  obtain ⟨l1, l2, l3, _⟩ := hI.lo b hb
  have hk := (hI.known b hb).1
  have hfit : b.at_.toNat + f + ds.length ≤ bs.length := by omega
  refine ⟨by rw [putR_length _ _ _ hfit]; exact hlen, fun y hy k hyk => ?_⟩
  obtain ⟨x, hx, hxy⟩ := List.mem_map.1 (show y ∈ A.blocks.map (fun x => if x.at_ = b.at_ then { b with cells := learnL b.cells f ds } else x) from hy)
  rw [List.getD_eq_getElem?_getD, putR_get _ _ _ hfit]
  by_cases he : x.at_ = b.at_
  · rw [if_pos he] at hxy
    subst hxy
    have hkn : k < b.n := hyk
    show Option.getD (if b.at_.toNat + f ≤ b.at_.toNat + k ∧ b.at_.toNat + k < b.at_.toNat + f + ds.length then ds[b.at_.toNat + k - (b.at_.toNat + f)]? else bs[b.at_.toNat + k]?) 0 = codeB ((learnL b.cells f ds).getD k none)
    rw [List.getD_eq_getElem?_getD, learnL_get b.cells f ds (by omega)]
    by_cases hin : f ≤ k ∧ k < f + ds.length
    · rw [if_pos (by omega), if_pos hin, show b.at_.toNat + k - (b.at_.toNat + f) = k - f from by omega, List.getElem?_eq_getElem (by omega)]
      rfl
    · rw [if_neg (by omega), if_neg hin, ← List.getD_eq_getElem?_getD, ← List.getD_eq_getElem?_getD]
      exact hbs b hb k hkn
  · rw [if_neg he] at hxy
    subst hxy
    obtain ⟨m1, m2, m3, _⟩ := hI.lo x hx
    rcases blocks_apart hI hx hb with h | h | h
    · exact absurd (by rw [h]) he
    · rw [if_neg (by omega), ← List.getD_eq_getElem?_getD]
      exact hbs x hx k hyk
    · rw [if_neg (by omega), ← List.getD_eq_getElem?_getD]
      exact hbs x hx k hyk

theorem rowV_upd {A : AM} (hI : Inv A) {b : Blk} (hb : b ∈ A.blocks) (cs : List (Option Int)) : rowV (updB b.at_ { b with cells := cs } A.blocks) = rowV A.blocks := by
  have h : ∀ l : List Blk, (∀ x ∈ l, x ∈ A.blocks) → rowV (updB b.at_ { b with cells := cs } l) = rowV l := by
    intro l
    induction l with
    | nil => intro _; rfl
    | cons x l ih =>
      intro hl
      have e : updB b.at_ { b with cells := cs } (x :: l) = (if x.at_ = b.at_ then { b with cells := cs } else x) :: updB b.at_ { b with cells := cs } l := rfl
      have e2 : ∀ (y : Blk) (l : List Blk), rowV (y :: l) = blkV y ++ rowV l := fun y l => rfl
      rw [e, e2, e2, ih (fun y hy => hl y (by simp [hy]))]
      by_cases hx : x.at_ = b.at_
      · rw [if_pos hx]
        obtain rfl := hI.same (hl x (by simp)) hb hx
        rfl
      · rw [if_neg hx]
  exact h A.blocks (fun _ h => h)

theorem updB_length (k : Int) (b : Blk) (l : List Blk) : (updB k b l).length = l.length := by simp [updB]

theorem RefAt.below {F : Nat → Prop} {w W : World} {m gy cy : Nat} {A : AM} {vb : Value} {bs : List Int} (h : RefAt F w m A vb gy cy bs) (hb : Below w.heap.size w W) : RefAt F W m A vb gy cy bs :=
  ⟨(hb.block _ (lt_of_block h.model)).trans h.model, ownsRow_below h.rows hb, h.own, (hb.block _ (lt_of_block h.bytes)).trans h.bytes, h.of, h.lo, h.cap⟩

/-- Bytes were written into a live block. -/
theorem ref_put {F : Nat → Prop} {w wr : World} {m gy cy : Nat} {A : AM} {bs : List Int} {vb : Value} {b : Blk} {f : Nat} {ds : List Int} (h : RefAt F w m A vb gy cy bs) (hI : Inv A) (hb : b ∈ A.blocks) (hf : f + ds.length ≤ b.n)
    (hT : Turned (fun j => j = gy) w wr) (hy : wr.heap[gy]? = some (.cells (intsC (putR bs (b.at_.toNat + f) ds)) 3 (0, 0))) (hB : ∀ k, w.heap.size ≤ k → F k) :
    RefX F wr m (applyC A (.upd b.at_ { b with cells := learnL b.cells f ds })) ∧ Tn F w wr := by
  have hlen := h.of.1
  obtain ⟨l1, l2, l3, _⟩ := hI.lo b hb
  have hfit : b.at_.toNat + f + ds.length ≤ bs.length := by omega
  have hne : m ≠ gy := fun e => by
    have hm := h.model
    rw [e, h.bytes] at hm
    simp at hm
  have hrows : rowV (applyC A (.upd b.at_ { b with cells := learnL b.cells f ds })).blocks = rowV A.blocks := rowV_upd hI hb _
  have hl : (applyC A (.upd b.at_ { b with cells := learnL b.cells f ds })).blocks.length = A.blocks.length := updB_length _ _ _
  refine ⟨⟨vb, gy, cy, putR bs (b.at_.toNat + f) ds, ⟨?_, ?_, h.own, hy, bytes_learn hI h.of hb hf, h.lo, h.cap⟩⟩, Turned.mono hT (fun x hx _ => by rw [hx]; exact h.lo.2)⟩
  · rw [putR_length _ _ _ hfit]
    exact (hT.block _ (lt_of_block h.model) hne).trans h.model
  · rw [hrows, hl]
    have hr := h.rows
    rcases hr.2 with ⟨h1, h2⟩ | ⟨g, cap, cur, h1, h2, h3, h4⟩
    · exact ⟨hr.1, .inl ⟨h1, h2⟩⟩
    · refine ⟨hr.1, .inr ⟨g, cap, cur, h1, h2, ?_, h4⟩⟩
      have hg : g ≠ gy := fun e => by
        rw [e, h.bytes] at h3
        simp at h3
      exact (hT.block g (lt_of_block h3) hg).trans h3

/-- What a cell of the bytes of a live block tells. -/
theorem ref_byte {F : Nat → Prop} {w : World} {m gy cy : Nat} {A : AM} {bs : List Int} {vb : Value} {b : Blk} (h : RefAt F w m A vb gy cy bs) (hI : Inv A) (hb : b ∈ A.blocks) {k : Nat} (hk : k < b.n) :
    w.cell? ⟨gy, b.at_.toNat + k, none⟩ = some (.int .i64 (codeB (b.cells.getD k none))) := by
  obtain ⟨l1, l2, l3, _⟩ := hI.lo b hb
  have hlen := h.of.1
  have hlt : b.at_.toNat + k < bs.length := by omega
  rw [cell_of_block h.bytes, intsC, List.getElem?_toArray, List.getElem?_map, List.getElem?_eq_getElem hlt]
  have := h.of.2 b hb k hk
  rw [List.getD_eq_getElem?_getD, List.getElem?_eq_getElem hlt] at this
  simpa using this

theorem code_known {A : AM} (hI : Inv A) {b : Blk} (hb : b ∈ A.blocks) {k : Nat} {v : Int} (h : b.cells.getD k none = some v) : 0 ≤ v ∧ v ≤ 255 := by
  rw [List.getD_eq_getElem?_getD] at h
  cases hc : b.cells[k]? with
  | none => rw [hc] at h; cases h
  | some u =>
    rw [hc] at h
    have hu : u = some v := h
    subst hu
    exact (hI.known b hb).2 v (List.mem_of_getElem? hc)

/-- Bytes that are read lie elsewhere. -/
theorem data_apart {w : World} {gy db off i : Nat} {bs : List Int} {d : Int} (hy : w.heap[gy]? = some (.cells (intsC bs) 3 (0, 0))) (hc : w.cell? ⟨db, off + i, none⟩ = some (.int .u8 d)) : db ≠ gy := fun e => by
  rw [e, cell_of_block hy, intsC, List.getElem?_toArray, List.getElem?_map] at hc
  cases h : bs[off + i]? <;> rw [h] at hc <;> simp at hc

end Go.Proofs.YtgcnbiccekaffaaGreat
