/- The keys of the map, sorted; Live. -/
import Derived.Test.YtgcnbiccekaffaaGreatO
import Derived.Test.YtgcnbiccekaffaaGreatShelf2
import Derived.Laws.AppendOwn
namespace Go.Proofs.YtgcnbiccekaffaaGreat
open Go.RowKit Go.ChangeMaps

theorem Inv.count {A : AM} (h : Inv A) : (A.blocks.length : Int) ≤ A.bytes := by
  have key : ∀ {l : List Blk} {lo hi : Int}, Sorted l → (∀ b ∈ l, lo ≤ b.at_ ∧ 1 ≤ b.n ∧ b.at_ + b.n ≤ hi) → lo ≤ hi → (l.length : Int) ≤ hi - lo := by
    intro l
    induction l with
    | nil => intro lo hi _ _ h; simp; omega
    | cons b l ih =>
      intro lo hi hs hb _
      unfold Sorted at hs
      rw [List.pairwise_cons] at hs
      have h1 := hb b (by simp)
      have h2 := ih (lo := b.at_ + b.n) (hi := hi) hs.2 (fun x hx => ⟨hs.1 x hx, (hb x (by simp [hx])).2⟩) h1.2.2
      simp only [List.length_cons]
      omega
  have := key (lo := 0) (hi := A.bytes) h.sorted (fun b hb => by have := h.lo b hb; exact ⟨this.1, this.2.1, this.2.2.1⟩) h.b0
  omega

def rdOne : Value → Option (DataW Unit × List MemPlace) := fun _ => some (.nil, [])

theorem insert_perm {H : Type} (x : Lit × DataW H) : ∀ l, (DataW.insert x l).Perm (x :: l)
  | [] => List.Perm.refl _
  | y :: r => by
    unfold DataW.insert
    split
    · exact List.Perm.refl _
    · exact ((insert_perm x r).cons y).trans (List.Perm.swap _ _ _)
theorem fold_insert_perm {H : Type} : ∀ l : List (Lit × DataW H), (l.foldr DataW.insert []).Perm l
  | [] => List.Perm.refl _
  | x :: l => (insert_perm x _).trans ((fold_insert_perm l).cons x)

noncomputable def mapD (ents : List Ent) : DataW Unit := .map (((ents.map entry).toArray.toList.map (WideElems.rg Tryz.prog 3 rdOne)).foldr DataW.insert [])

theorem key_rg {x : Ent} (h : (Lit.int .i64 x.b.at_).wf = true) : WideElems.rg Tryz.prog 3 rdOne (entry x) = (.int .i64 x.b.at_, .nil) := by
  unfold WideElems.rg WideElems.rd entry
  rw [Maps.keyOf_int_mk Tryz.underlying3 h]
  rfl

theorem keys_mapD {ents : List Ent} (h : ∀ x ∈ ents, (Lit.int .i64 x.b.at_).wf = true) : (intKeys (mapD ents)).Perm (ents.map fun x => x.b.at_) := by
  unfold mapD intKeys
  refine ((fold_insert_perm _).map _).trans ?_
  rw [List.toList_toArray, List.map_map, List.map_map]
  rw [List.map_congr_left (g := fun x => x.b.at_)]
  intro x hx
  simp [key_rg (h x hx), Go.intOf]

theorem size_mapD (ents : List Ent) : Maps.size (mapD ents) = ents.length := by
  unfold mapD Maps.size
  simp only
  rw [(fold_insert_perm _).length_eq]
  simp

theorem wf_key {A : AM} (hI : Inv A) {ents : List Ent} (p : (ents.map Ent.b).Perm A.blocks) : ∀ x ∈ ents, (Lit.int .i64 x.b.at_).wf = true := by
  intro x hx
  have h1 := hI.lo x.b (p.mem_iff.1 (List.mem_map.2 ⟨x, hx, rfl⟩))
  have h2 := hI.b1
  exact WalkArith.wf_i64 (by omega)

theorem rep_owns {w : World} {m mb clk : Nat} {A : AM} {ents : List Ent} (hI : Inv A) (g : RepG w m A.bytes mb clk ents) (p : (ents.map Ent.b).Perm A.blocks) : w.ownsMap Tryz.prog 3 rdOne mb ents.length (mapD ents) := by
  have hl : ents.length = A.blocks.length := by rw [← p.length_eq, List.length_map]
  have hc := hI.count
  have hb := hI.b1
  refine ⟨_, clk, g.map, ⟨?_, ⟨?_, ?_, ?_⟩, ?_⟩, by simp, rfl⟩
  · simp only [List.size_toArray, List.length_map]; unfold maxLen; omega
  · intro x hx
    rw [List.toList_toArray] at hx
    obtain ⟨y, hy, rfl⟩ := List.mem_map.1 hx
    exact g.old y hy
  · rw [List.toList_toArray, List.map_map]
    exact g.born
  · rw [List.toList_toArray, List.map_map]
    have hk : (ents.map fun x => x.b.at_).Nodup := by
      have h2 : ((ents.map Ent.b).map (·.at_)).Nodup := ((p.map _).nodup_iff).2 hI.keys
      rwa [List.map_map] at h2
    rw [List.Nodup, List.pairwise_map] at hk ⊢
    exact hk.imp (fun h e => h (by simpa [entry] using e))
  · intro x hx
    rw [List.toList_toArray] at hx
    obtain ⟨y, hy, rfl⟩ := List.mem_map.1 hx
    exact ⟨_, by unfold WideElems.rd entry; rw [Maps.keyOf_int_mk Tryz.underlying3 (wf_key hI p y hy)]; rfl⟩

theorem sort_keys {A : AM} (hI : Inv A) {ents : List Ent} (p : (ents.map Ent.b).Perm A.blocks) {ss : List Int} (h : ss.Perm (intKeys (mapD ents))) : ss.mergeSort (fun x y => decide (x ≤ y)) = A.blocks.map (·.at_) := by
  have h1 : ss.Perm (A.blocks.map (·.at_)) := by
    refine (h.trans (keys_mapD (wf_key hI p))).trans ?_
    have := p.map (·.at_)
    rwa [List.map_map] at this
  have hs : (A.blocks.map (·.at_)).Pairwise (fun a b => decide (a ≤ b) = true) := by
    rw [List.pairwise_map]
    refine hI.sorted.imp_of_mem ?_
    intro x y hx _ hxy
    have := (hI.lo x hx).2.1
    simp only [decide_eq_true_eq]
    omega
  refine List.Perm.eq_of_pairwise (le := fun a b => decide (a ≤ b) = true) ?_ ?_ hs ((List.mergeSort_perm ss _).trans h1)
  · intro a b _ _ h1 h2
    simp only [decide_eq_true_eq] at h1 h2
    omega
  · exact List.pairwise_mergeSort (fun a b c h1 h2 => by simp only [decide_eq_true_eq] at *; omega) (fun a b => by simp only [Bool.or_eq_true, decide_eq_true_eq]; omega) ss

theorem sorts_any (n : Nat) : AnyZI.SortsIn Tryz.prog Tryz.sortedA_ren Fence.wide n :=
  ⟨fun blk off cap ss W hH hblk hsz => callsIn_wide.2 (Go.Proofs.Tryz.slices_Sort_int blk off cap ss W hH hblk hsz),
   fun p cap W => callsIn_wide.2 (Go.Proofs.Tryz.slices_Sort_int_none p cap W)⟩

theorem keys_any (mb : Nat) (W : World) : Calls Tryz.prog 40 #[.map (some mb)] W fun e w' =>
    e = .returned (.func (.func 63) #[] #[.pointer (some ⟨W.heap.size, 0, none⟩)]) ∧ w' = W.alloc (.cells #[.map (some mb)] 74) :=
  (callsIn_wide (n := 5)).1 (AnyZI.keys_in Tryz.keysA Fence.wide 5 trivial rfl (some mb) W)

/-- slices.Sorted(maps.Keys(m)): the keys, ascending. -/
theorem sorted_any {W : World} {A : AM} (hI : Inv A) {ents : List Ent} (p : (ents.map Ent.b).Perm A.blocks) (mb bm : Nat) (hown : W.ownsMap Tryz.prog 3 rdOne mb ents.length (mapD ents)) (hm : W.cell? ⟨bm, 0, none⟩ = some (.map (some mb))) :
    Calls Tryz.prog 39 #[.func (.func 63) #[] #[.pointer (some ⟨bm, 0, none⟩)]] W fun e w' =>
      ∃ v, e = .returned v ∧ w'.ownsRow W.heap.size 3 1 v A.blocks.length ((A.blocks.map (·.at_)).map (Value.int .i64)) ∧ Below W.heap.size W w' := by
  refine (callsIn_wide (n := 5)).1 ?_
  have hl : ents.length = A.blocks.length := by rw [← p.length_eq, List.length_map]
  have hc := hI.count
  have hb := hI.b1
  have hseq : SeqGives Fence.wide 2 Tryz.prog 63 #[.pointer (some ⟨bm, 0, none⟩)] encZ (fun ss => ss.Perm (intKeys (mapD ents))) (Maps.size (mapD ents)) W :=
    AnyZI.keys_gives (ρ := Tryz.keysA_ren) { Tryz.keysA with } Fence.wide _ trivial rfl (by omega) bm mb ents.length (mapD ents) W (cell_lt hm) hm hown
  have cS := AnyZI.sorted_in Tryz.sortedA Fence.wide 5 trivial trivial trivial trivial rfl (by omega) (sorts_any _) (enters_of Tryz.func62 (by kernel_rfl) rfl) 63 #[.pointer (some ⟨bm, 0, none⟩)] trivial
    (enters_of Tryz.func63 (by kernel_rfl) rfl) _ _ (by rw [size_mapD]; unfold maxLen; omega) (by rw [size_mapD]; omega) _ hseq
  change CallsIn _ _ Tryz.prog 39 _ _ _ at cS
  refine cS.mono ?_
  rintro e w' ⟨v, ss, rfl, hS, hrow, _, hbl⟩
  have hsort := sort_keys hI p hS
  have hlen : ss.length = A.blocks.length := by rw [← List.length_mergeSort ss, hsort, List.length_map]
  rw [hsort, hlen] at hrow
  exact ⟨v, rfl, hrow, hbl⟩

end Go.Proofs.YtgcnbiccekaffaaGreat
