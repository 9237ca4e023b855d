/- What the operations on memory make of a model. -/
import Derived.Test.YtgcnbiccekaffaaGreatF
namespace Go.Proofs.YtgcnbiccekaffaaGreat
open Go.RowKit Go.ChangeMaps

theorem mem_foot {m mb k : Nat} {ents : List Ent} : k ∈ foot m mb ents ↔ k = m ∨ k = mb ∨ ∃ x ∈ ents, k = x.blk ∨ k = x.cb := by
  simp [foot, List.mem_flatMap]

theorem foot_append (m mb : Nat) (l : List Ent) (x : Ent) : foot m mb (l ++ [x]) = foot m mb l ++ [x.blk, x.cb] := by simp [foot]

theorem foot_sublist {m mb : Nat} {l l' : List Ent} (h : l'.Sublist l) : (foot m mb l').Sublist (foot m mb l) := by
  unfold foot
  refine List.Sublist.cons_cons _ (List.Sublist.cons_cons _ ?_)
  induction h with
  | slnil => exact List.Sublist.refl _
  | cons a _ ih => simp only [List.flatMap_cons]; exact ih.trans (List.sublist_append_right _ _)
  | cons_cons a _ ih => simp only [List.flatMap_cons]; exact List.Sublist.append (List.Sublist.refl _) ih

/-- The blocks of two entries. -/
theorem RepG.apart {w : World} {m : Nat} {bytes : Int} {mb clk : Nat} {ents : List Ent} (g : RepG w m bytes mb clk ents) {x : Ent} (hx : x ∈ ents) :
    x.blk ≠ x.cb ∧ x.blk ≠ m ∧ x.blk ≠ mb ∧ x.cb ≠ m ∧ x.cb ≠ mb ∧ m ≠ mb ∧ ∀ y ∈ ents, y ≠ x → y.blk ≠ x.blk ∧ y.blk ≠ x.cb ∧ y.cb ≠ x.blk ∧ y.cb ≠ x.cb := by
  have hn := g.nodup
  simp only [foot, List.nodup_cons, List.mem_cons, List.mem_flatMap, List.not_mem_nil, or_false, not_or, not_exists, not_and] at hn
  obtain ⟨⟨h1, h2⟩, h3, h4⟩ := hn
  have a1 := h2 x hx
  have a2 := h3 x hx
  have key : ∀ (l : List Ent), (l.flatMap fun x => [x.blk, x.cb]).Nodup → x ∈ l → x.blk ≠ x.cb ∧ ∀ y ∈ l, y ≠ x → y.blk ≠ x.blk ∧ y.blk ≠ x.cb ∧ y.cb ≠ x.blk ∧ y.cb ≠ x.cb := by
    intro l
    induction l with
    | nil => intro _ h; cases h
    | cons z l ih =>
      intro hd hx
      simp only [List.flatMap_cons, List.cons_append, List.nil_append, List.nodup_cons, List.mem_cons, List.mem_flatMap, List.not_mem_nil, or_false, not_or, not_exists, not_and] at hd
      obtain ⟨⟨b1, b2⟩, b3, b4⟩ := hd
      rcases List.mem_cons.1 hx with rfl | hx'
      · refine ⟨b1, fun y hy hne => ?_⟩
        rcases List.mem_cons.1 hy with rfl | hy'
        · exact absurd rfl hne
        · have c1 := b2 y hy'
          have c2 := b3 y hy'
          exact ⟨Ne.symm c1.1, Ne.symm c2.1, Ne.symm c1.2, Ne.symm c2.2⟩
      · obtain ⟨i1, i2⟩ := ih b4 hx'
        refine ⟨i1, fun y hy hne => ?_⟩
        rcases List.mem_cons.1 hy with rfl | hy'
        · have c1 := b2 x hx'
          have c2 := b3 x hx'
          exact ⟨c1.1, c1.2, c2.1, c2.2⟩
        · exact i2 y hy' hne
  obtain ⟨k1, k2⟩ := key ents h4 hx
  exact ⟨k1, Ne.symm a1.1, Ne.symm a2.1, Ne.symm a1.2, Ne.symm a2.2, h1, k2⟩

theorem RepG.m_ne {w : World} {m : Nat} {bytes : Int} {mb clk : Nat} {ents : List Ent} (g : RepG w m bytes mb clk ents) : m ≠ mb := by
  rintro rfl
  have h1 := g.model
  have h2 := g.map
  rw [h1] at h2
  cases h2

/-- A block more. -/
theorem RepG.lay {w w' : World} {m : Nat} {A : AM} {mb clk : Nat} {ents : List Ent} {F : Nat → Prop} (g : RepG w m A.bytes mb clk ents) (p : (ents.map Ent.b).Perm A.blocks) (f : ∀ k ∈ foot m mb ents, F k)
    {a s : Int} {n : Nat} {cs : List (Option Int)} (h : Laid2 mb clk ents a s n cs w w') (hc : cs.length = n) :
    Rep w' m { A with blocks := insB ⟨a, n, s, cs⟩ A.blocks } fun k => F k ∨ w.heap.size ≤ k := by
  obtain ⟨hT, blk, cb, h1, h2, h3, h4, h5, h6⟩ := h
  have hlt := g.lt
  have hap := g.m_ne
  have hold : ∀ k ∈ foot m mb ents, k ≠ mb → w'.heap[k]? = w.heap[k]? := fun k hk hne => hT.block k (hlt k hk) hne
  refine ⟨mb, clk + 1, ents ++ [⟨blk, cb, n, clk, ⟨a, n, s, cs⟩⟩], ⟨?_, ?_, ?_, ?_, ?_, ?_⟩, ?_, ?_⟩
  · rw [hold m (by simp [foot]) hap]; exact g.model
  · rw [h6]; simp [entry]
  · intro x hx
    rcases List.mem_append.1 hx with hx | hx
    · have ha := g.apart hx
      exact (g.each x hx).same (hold _ (foot_blk hx) ha.2.2.1) (hold _ (foot_cb hx) ha.2.2.2.2.1)
    · obtain rfl := List.mem_singleton.1 hx
      exact ⟨h4, hc, [], by simpa using h5⟩
  · rw [foot_append, List.nodup_append]
    refine ⟨g.nodup, by simp [h3], ?_⟩
    intro k hk j hj
    have := hlt k hk
    simp at hj
    omega
  · rw [List.map_append, List.nodup_append]
    refine ⟨g.born, by simp, ?_⟩
    intro k hk j hj
    obtain ⟨x, hx, rfl⟩ := List.mem_map.1 hk
    have := g.old x hx
    simp at hj
    omega
  · intro x hx
    rcases List.mem_append.1 hx with hx | hx
    · have := g.old x hx; omega
    · obtain rfl := List.mem_singleton.1 hx; exact Nat.lt_succ_self _
  · rw [List.map_append]
    refine (List.perm_append_comm).trans ?_
    exact (List.Perm.cons _ p).trans (insB_perm _ _)
  · intro k hk
    rw [foot_append, List.mem_append] at hk
    rcases hk with hk | hk
    · exact .inl (f k hk)
    · simp at hk
      right; omega

theorem filter_perm_b {k : Int} {ents : List Ent} {l : List Blk} (p : (ents.map Ent.b).Perm l) : ((ents.filter fun y => y.b.at_ != k).map Ent.b).Perm (dropB k l) := by
  have e : (ents.filter fun y => y.b.at_ != k).map Ent.b = (ents.map Ent.b).filter fun b => b.at_ != k := by
    rw [List.filter_map]; rfl
  rw [e]
  exact p.filter _

/-- A block less. -/
theorem RepG.drop {w w' : World} {m : Nat} {A : AM} {mb clk : Nat} {ents : List Ent} {F : Nat → Prop} (g : RepG w m A.bytes mb clk ents) (p : (ents.map Ent.b).Perm A.blocks) (f : ∀ k ∈ foot m mb ents, F k)
    (k : Int) (hw : w' = setBlock w mb (.map ((ents.filter fun y => y.b.at_ != k).map entry).toArray clk)) :
    RepG w' m A.bytes mb clk (ents.filter fun y => y.b.at_ != k) ∧ ((ents.filter fun y => y.b.at_ != k).map Ent.b).Perm (dropB k A.blocks) ∧ (∀ j ∈ foot m mb (ents.filter fun y => y.b.at_ != k), F j) ∧ Turned (fun j => j = mb) w w' := by
  subst hw
  have hsub := foot_sublist (m := m) (mb := mb) (l := ents) (l' := ents.filter fun y => y.b.at_ != k) List.filter_sublist
  refine ⟨⟨?_, ?_, ?_, g.nodup.sublist hsub, g.born.sublist (List.Sublist.map _ List.filter_sublist), fun x hx => g.old x (List.mem_filter.1 hx).1⟩, filter_perm_b p, fun j hj => f j (hsub.subset hj),
    Turned.setBlock (F := fun j => j = mb) (Turned.refl _ _) (.inl rfl) _⟩
  · rw [heap_setBlock_ne _ _ _ g.m_ne]; exact g.model
  · exact heap_setBlock_eq (lt_of_block g.map) _
  · intro x hx
    have hx' := (List.mem_filter.1 hx).1
    have ha := g.apart hx'
    exact (g.each x hx').same (heap_setBlock_ne _ _ _ ha.2.2.1) (heap_setBlock_ne _ _ _ ha.2.2.2.2.1)

def setE (k : Int) (b' : Blk) (ents : List Ent) : List Ent := ents.map fun y => if y.b.at_ = k then { y with b := b' } else y

/-- A block that is another, at its place. -/
theorem RepG.upd {w w' : World} {m : Nat} {A : AM} {mb clk : Nat} {ents : List Ent} {F : Nat → Prop} (g : RepG w m A.bytes mb clk ents) (p : (ents.map Ent.b).Perm A.blocks) (f : ∀ k ∈ foot m mb ents, F k) (hn : (ents.map (·.b.at_)).Nodup)
    {x : Ent} (hx : x ∈ ents) {b' : Blk} (hk : b'.at_ = x.b.at_) (hT : Turned (fun j => j = x.blk ∨ j = x.cb) w w') (he : EntAt w' { x with b := b' }) :
    Rep w' m { A with blocks := updB x.b.at_ b' A.blocks } F := by
  have ha := g.apart hx
  have same : ∀ y ∈ ents, y.b.at_ = x.b.at_ → y = x := by
    intro y hy e
    rw [List.Nodup, List.pairwise_map] at hn
    rcases pairwise_or hn hy hx with h | h | h
    · exact h
    · exact absurd e h
    · exact absurd e.symm h
  have hfoot : foot m mb (setE x.b.at_ b' ents) = foot m mb ents := by
    unfold foot setE
    rw [List.flatMap_map]
    congr 2
    congr 1
    funext y
    split <;> rfl
  refine ⟨mb, clk, setE x.b.at_ b' ents, ⟨?_, ?_, ?_, by rw [hfoot]; exact g.nodup, ?_, ?_⟩, ?_, by rw [hfoot]; exact f⟩
  · rw [hT.block m (lt_of_block g.model) (fun h => h.elim (fun h => ha.2.1 h.symm) (fun h => ha.2.2.2.1 h.symm))]; exact g.model
  · rw [hT.block mb (lt_of_block g.map) (fun h => h.elim (fun h => ha.2.2.1 h.symm) (fun h => ha.2.2.2.2.1 h.symm)), g.map]
    congr 3
    rw [setE, List.map_map]
    apply List.map_congr_left
    intro y hy
    simp only [Function.comp]
    split
    · rename_i e; simp [entry, hk, e]
    · rfl
  · intro y hy
    obtain ⟨z, hz, rfl⟩ := List.mem_map.1 hy
    split
    · rename_i e
      obtain rfl := same z hz e
      exact he
    · rename_i e
      have hne : z ≠ x := fun h => e (by rw [h])
      have hd := ha.2.2.2.2.2.2 z hz hne
      have hl := g.lt
      exact (g.each z hz).same (hT.block _ (hl _ (foot_blk hz)) (fun h => h.elim (fun h => hd.1 h) (fun h => hd.2.1 h))) (hT.block _ (hl _ (foot_cb hz)) (fun h => h.elim (fun h => hd.2.2.1 h) (fun h => hd.2.2.2 h)))
  · have : (setE x.b.at_ b' ents).map (·.born) = ents.map (·.born) := by
      rw [setE, List.map_map]; apply List.map_congr_left; intro y _; simp only [Function.comp]; split <;> rfl
    rw [this]; exact g.born
  · intro y hy
    obtain ⟨z, hz, rfl⟩ := List.mem_map.1 hy
    have := g.old z hz
    split <;> exact this
  · have : (setE x.b.at_ b' ents).map Ent.b = updB x.b.at_ b' (ents.map Ent.b) := by
      rw [setE, updB, List.map_map, List.map_map]; apply List.map_congr_left; intro y _; simp only [Function.comp]; split <;> rfl
    rw [this]
    exact p.map _

theorem ents_nodup {A : AM} (hI : Inv A) {ents : List Ent} (p : (ents.map Ent.b).Perm A.blocks) : (ents.map (·.b.at_)).Nodup := by
  have := (p.map (·.at_)).nodup_iff.2 hI.keys
  rw [List.map_map] at this
  exact this

theorem find_none {A : AM} {ents : List Ent} (p : (ents.map Ent.b).Perm A.blocks) {k : Int} (h : findB A k = none) : ents.find? (fun x => x.b.at_ == k) = none := by
  rw [List.find?_eq_none]
  intro x hx e
  unfold findB at h
  rw [List.find?_eq_none] at h
  exact h x.b (p.mem_iff.1 (List.mem_map.2 ⟨x, hx, rfl⟩)) e

theorem find_some {A : AM} (hI : Inv A) {ents : List Ent} (p : (ents.map Ent.b).Perm A.blocks) {k : Int} {b : Blk} (h : findB A k = some b) : ∃ x ∈ ents, ents.find? (fun x => x.b.at_ == k) = some x ∧ x.b = b := by
  obtain ⟨hb, hk⟩ := findB_some h
  obtain ⟨y, hy, hyb⟩ := List.mem_map.1 (p.mem_iff.2 hb)
  cases hf : ents.find? (fun x => x.b.at_ == k) with
  | none =>
    rw [List.find?_eq_none] at hf
    exact absurd (by rw [hyb, hk]; simp) (hf y hy)
  | some x =>
    have hx := List.mem_of_find?_eq_some hf
    have hxk := List.find?_some hf
    simp at hxk
    exact ⟨x, hx, rfl, hI.same (p.mem_iff.1 (List.mem_map.2 ⟨x, hx, rfl⟩)) hb (by rw [hxk, hk])⟩

end Go.Proofs.YtgcnbiccekaffaaGreat
