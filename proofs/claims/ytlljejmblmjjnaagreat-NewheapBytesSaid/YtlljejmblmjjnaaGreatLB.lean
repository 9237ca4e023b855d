/- newheap: a slab of the heap turns, comes, goes. -/
import Derived.Test.YtlljejmblmjjnaaGreatLA
import Derived.WalkKit
import Derived.WalkSpells
import Derived.WalkLawsBesides
import Derived.BigQuiet
import Derived.Lib.Hide
namespace Go.Proofs.YtlljejmblmjjnaaGreat
set_option linter.unusedVariables false
set_option linter.unusedSimpArgs false
open Go.RowKit Go.ChangeMaps

theorem HeapAt.offs {w : World} {H : HL} {pages : Nat} {s : HP} (h : HeapAt w H pages s) : ¬ H.p.F H.h ∧ ¬ H.p.F H.cl ∧ ¬ H.p.F H.cb ∧ ¬ H.p.F H.gr ∧ ∀ y ∈ H.xs, ¬ H.p.F y.hb ∧ ¬ H.p.F y.sb :=
  ⟨h.ground.off h.obj (by decide) (by decide) (by decide) (by decide) (by decide) (by decide), h.ground.off h.cells.obj (by decide) (by decide) (by decide) (by decide) (by decide) (by decide),
    h.ground.off h.cells.bytes (by decide) (by decide) (by decide) (by decide) (by decide) (by decide), h.ground.off h.ground.obj (by decide) (by decide) (by decide) (by decide) (by decide) (by decide),
    fun y hy => ⟨h.ground.off (h.each y hy).held (by decide) (by decide) (by decide) (by decide) (by decide) (by decide), h.ground.off (h.each y hy).slab (by decide) (by decide) (by decide) (by decide) (by decide) (by decide)⟩⟩
/-- The blocks that a turn of one slab may touch. -/
def updF (H : HL) (y : HS) : Nat → Prop := fun k => k = y.hb ∨ k = y.sb ∨ k = H.cb ∨ H.p.F k
theorem updF.sub {H : HL} {y : HS} (hy : y ∈ H.xs) {k : Nat} (h : updF H y k) : H.F k := by
  rcases h with rfl | rfl | rfl | h
  · exact .inr (.inr (.inr (.inr (.inr (.inr ⟨y, hy, .inl rfl⟩)))))
  · exact .inr (.inr (.inr (.inr (.inr (.inr ⟨y, hy, .inr rfl⟩)))))
  · exact .inr (.inr (.inr (.inr (.inl rfl))))
  · exact .inr (.inr (.inr (.inr (.inr (.inl h)))))
theorem HeapAt.offUpd {w : World} {H : HL} {pages : Nat} {s : HP} (h : HeapAt w H pages s) {y : HS} (hy : y ∈ H.xs) :
    ¬ updF H y H.h ∧ ¬ updF H y H.mb ∧ ¬ updF H y H.cl ∧ ¬ updF H y H.gr ∧ ∀ z ∈ H.xs, z ≠ y → ¬ updF H y z.hb ∧ ¬ updF H y z.sb := by
  obtain ⟨o1, o2, o3, o4, o5⟩ := h.offs
  have hy1 := (h.each y hy).held
  have hy2 : w.heap[y.sb]? = some (.cells _ 131 (0, 0)) := (h.each y hy).slab
  refine ⟨?_, ?_, ?_, ?_, fun z hz hne => ⟨?_, ?_⟩⟩
  · rintro (e | e | e | e)
    · exact block_ne h.obj hy1 (by decide) e
    · exact block_ne h.obj hy2 (by decide) e
    · exact block_ne h.obj h.cells.bytes (by decide) e
    · exact o1 e
  · rintro (e | e | e | e)
    · exact block_ne_map hy1 h.map e.symm
    · exact block_ne_map hy2 h.map e.symm
    · exact block_ne_map h.cells.bytes h.map e.symm
    · exact h.off e
  · rintro (e | e | e | e)
    · exact block_ne h.cells.obj hy1 (by decide) e
    · exact block_ne h.cells.obj hy2 (by decide) e
    · exact block_ne h.cells.obj h.cells.bytes (by decide) e
    · exact o2 e
  · rintro (e | e | e | e)
    · exact block_ne h.ground.obj hy1 (by decide) e
    · exact block_ne h.ground.obj hy2 (by decide) e
    · exact block_ne h.ground.obj h.cells.bytes (by decide) e
    · exact o4 e
  · rintro (e | e | e | e)
    · exact hne (nodup_uniq h.xs.hbs hz hy e)
    · exact block_ne (h.each z hz).held hy2 (by decide) e
    · exact block_ne (h.each z hz).held h.cells.bytes (by decide) e
    · exact (o5 z hz).1 e
  · have hz2 : w.heap[z.sb]? = some (.cells _ 131 (0, 0)) := (h.each z hz).slab
    rintro (e | e | e | e)
    · exact block_ne hz2 hy1 (by decide) e
    · exact hne (nodup_uniq h.xs.sbs hz hy e)
    · exact block_ne hz2 h.cells.bytes (by decide) e
    · exact (o5 z hz).2 e

def updX (x : PS) (xs : List HS) : List HS := xs.map fun z => if z.x.page = x.page then { z with x := x } else z
theorem updX_mem {x : PS} {xs : List HS} {z : HS} (h : z ∈ updX x xs) : (∃ u ∈ xs, u.x.page = x.page ∧ z = { u with x := x }) ∨ (z ∈ xs ∧ z.x.page ≠ x.page) := by
  obtain ⟨u, hu, rfl⟩ := List.mem_map.1 h
  split
  · next e => exact .inl ⟨u, hu, e, rfl⟩
  · next e => exact .inr ⟨hu, e⟩
theorem updX_maps (x : PS) (xs : List HS) : (updX x xs).map (·.hb) = xs.map (·.hb) ∧ (updX x xs).map (·.sb) = xs.map (·.sb) ∧ (updX x xs).map (·.born) = xs.map (·.born) ∧ (updX x xs).map hentry = xs.map hentry := by
  unfold updX
  simp only [List.map_map]
  refine ⟨?_, ?_, ?_, ?_⟩ <;> (apply List.map_congr_left; intro z _; simp only [Function.comp]; split)
  all_goals first | rfl | (next e => unfold hentry; rw [← e])
structure KeepB (A A' : List PS) (bs bs' : List Int) : Prop where
  keep : ∀ t : Nat, Tkn A t → Tkn A' t → ∀ j, j < 8 → bs'.getD (t + j) 0 = bs.getD (t + j) 0
/-- The heap that stands behind an operation. -/
structure HL.Of (H H' : HL) (s s' : HP) (n : Nat) : Prop where
  h : H'.h = H.h
  gr : H'.gr = H.gr
  cl : H'.cl = H.cl
  cb : H'.cb = H.cb
  mb : H'.mb = H.mb
  foot : ∀ k, H'.F k → H.F k ∨ n ≤ k
  keep : KeepB s.A s'.A H.bs H'.bs
theorem HeapAt.upd {w w' : World} {H : HL} {pages : Nat} {s : HP} (h : HeapAt w H pages s) {y : HS} (hy : y ∈ H.xs) {x : PS} (hp : x.page = y.x.page) (hok : x.Ok pages) {p : GPl} {E : List PE} {bs : List Int}
    (ht : Turned (updF H y) w w') (hg : GroundAt w' H.gr H.cl p pages s.l E 0 H.b 0) (hpf : ∀ k, p.F k → H.p.F k ∨ w.heap.size ≤ k)
    (hc : CellsAt w' H.cl H.cb bs) (hbl : bs.length = H.bs.length) (hh : w'.heap[y.hb]? = some (.cells (heldC { y with x := x }) 82 (0, 0))) (hs : SlabAt w' y.sb H.cl x.S) (hs2 : SlabOk bs x.S)
    (hso : ∀ z ∈ H.xs, z ≠ y → SlabOk bs z.x.S) (he : EntOk s.l E (updP s.A x)) (hkeep : KeepB s.A (updP s.A x) H.bs bs) :
    ∃ H' : HL, H'.left = H.left ∧ { y with x := x } ∈ H'.xs ∧ HeapAt w' H' pages ⟨s.l, updP s.A x⟩ ∧ H.Of H' s ⟨s.l, updP s.A x⟩ w.heap.size ∧ Turned H.F w w' := by
  obtain ⟨o1, o2, o3, o4, o5⟩ := h.offUpd hy
  obtain ⟨m1, m2, m3, m4⟩ := updX_maps x H.xs
  have hyA := h.mem' hy
  refine ⟨{ H with p := p, E := E, bs := bs, xs := updX x H.xs }, rfl, List.mem_map.2 ⟨y, hy, if_pos hp.symm⟩, ⟨(ht.block _ (lt_of_block h.obj) o1).trans h.obj, hg, hc, ?_, ?_, ?_, ⟨?_, ?_, ?_, ?_⟩, ?_, h.inv.upd hyA hp hok, hbl.trans h.blen, he, h.num, ?_⟩, ⟨rfl, rfl, rfl, rfl, rfl, ?_, hkeep⟩, ht.mono (fun k hk _ => updF.sub hy hk)⟩
  · show w'.heap[H.mb]? = some (.map ((updX x H.xs).map hentry).toArray H.clk)
    rw [m4]
    exact (ht.block _ (lt_of_block h.map) o2).trans h.map
  · intro e
    rcases hpf _ e with e | e
    · exact h.off e
    · have h1 := lt_of_block h.map
      have h2 : w.heap.size ≤ H.mb := e
      omega
  · intro z hz
    rcases updX_mem hz with ⟨u, hu, e, rfl⟩ | ⟨hz, e⟩
    · obtain rfl : u = y := h.uniq hu hy (e.trans hp)
      exact ⟨hh, hs, hs2⟩
    · have hne : z ≠ y := fun e2 => e (by rw [e2, hp])
      have hz' := (h.each z hz).turned ht (o5 z hz hne).1 (o5 z hz hne).2
      exact ⟨hz'.held, hz'.slab, hso z hz hne⟩
  · show ((updX x H.xs).map (·.hb)).Nodup
    rw [m1]; exact h.xs.hbs
  · show ((updX x H.xs).map (·.sb)).Nodup
    rw [m2]; exact h.xs.sbs
  · show ((updX x H.xs).map (·.born)).Nodup
    rw [m3]; exact h.xs.borns
  · intro z hz
    rcases updX_mem hz with ⟨u, hu, e, rfl⟩ | ⟨hz, e⟩
    · exact h.xs.old u hu
    · exact h.xs.old z hz
  · show ((updX x H.xs).map (·.x)).Perm (updP s.A x)
    have e : (updX x H.xs).map (·.x) = (H.xs.map (·.x)).map fun u => if u.page = x.page then x else u := by
      unfold updX
      rw [List.map_map, List.map_map]
      apply List.map_congr_left
      intro z _
      simp only [Function.comp]
      split <;> rfl
    rw [e]
    exact h.perm.map _
  · show H.b = 4 * ((updP s.A x).length + H.left)
    rw [updP_length]; exact h.cnt
  · intro k hk
    rcases hk with hk | hk | hk | hk | hk | hk | ⟨z, hz, hk⟩
    · exact .inl (.inl hk)
    · exact .inl (.inr (.inl hk))
    · exact .inl (.inr (.inr (.inl hk)))
    · exact .inl (.inr (.inr (.inr (.inl hk))))
    · exact .inl (.inr (.inr (.inr (.inr (.inl hk)))))
    · exact (hpf k hk).imp (fun e => .inr (.inr (.inr (.inr (.inr (.inl e)))))) id
    · rcases updX_mem hz with ⟨u, hu, e, rfl⟩ | ⟨hz, e⟩
      · exact .inl (.inr (.inr (.inr (.inr (.inr (.inr ⟨u, hu, hk⟩))))))
      · exact .inl (.inr (.inr (.inr (.inr (.inr (.inr ⟨z, hz, hk⟩))))))
theorem EntOk.same {l : List Run} {E : List PE} {A : List PS} (h : EntOk l E A) {u x : PS} (hu : u ∈ A) (hp : x.page = u.page) (hc : x.cls = u.cls) (hs : x.sealed = u.sealed) : EntOk l E (updP A x) := by
  refine ⟨fun z hz k h1 h2 => ?_, h.back⟩
  rcases (updP_mem ⟨u, hu, hp.symm⟩).1 hz with rfl | ⟨hz, -⟩
  · rw [hp, hc, hs]
    exact h.ent u hu k (by omega) (by omega)
  · exact h.ent z hz k h1 h2

def insF (H : HL) : Nat → Prop := fun k => k = H.mb ∨ k = H.cb ∨ H.p.F k
theorem insF.sub {H : HL} {k : Nat} (h : insF H k) : H.F k := by
  rcases h with rfl | rfl | h
  · exact .inr (.inl rfl)
  · exact .inr (.inr (.inr (.inr (.inl rfl))))
  · exact .inr (.inr (.inr (.inr (.inr (.inl h)))))
theorem HeapAt.offIns {w : World} {H : HL} {pages : Nat} {s : HP} (h : HeapAt w H pages s) :
    ¬ insF H H.h ∧ ¬ insF H H.cl ∧ ¬ insF H H.gr ∧ ∀ z ∈ H.xs, ¬ insF H z.hb ∧ ¬ insF H z.sb := by
  obtain ⟨o1, o2, o3, o4, o5⟩ := h.offs
  refine ⟨?_, ?_, ?_, fun z hz => ⟨?_, ?_⟩⟩
  · rintro (e | e | e)
    · exact block_ne_map h.obj h.map e
    · exact block_ne h.obj h.cells.bytes (by decide) e
    · exact o1 e
  · rintro (e | e | e)
    · exact block_ne_map h.cells.obj h.map e
    · exact block_ne h.cells.obj h.cells.bytes (by decide) e
    · exact o2 e
  · rintro (e | e | e)
    · exact block_ne_map h.ground.obj h.map e
    · exact block_ne h.ground.obj h.cells.bytes (by decide) e
    · exact o4 e
  · rintro (e | e | e)
    · exact block_ne_map (h.each z hz).held h.map e
    · exact block_ne (h.each z hz).held h.cells.bytes (by decide) e
    · exact (o5 z hz).1 e
  · have hz2 : w.heap[z.sb]? = some (.cells _ 131 (0, 0)) := (h.each z hz).slab
    rintro (e | e | e)
    · exact block_ne_map hz2 h.map e
    · exact block_ne hz2 h.cells.bytes (by decide) e
    · exact (o5 z hz).2 e

theorem HeapAt.ins {w w' : World} {H : HL} {pages : Nat} {s : HP} (h : HeapAt w H pages s) {y : HS} {p : GPl} {l : List Run} {E : List PE} {bs : List Int} {b left n : Nat} (hn : n ≤ w.heap.size)
    (ht : Turned (insF H) w w') (hg : GroundAt w' H.gr H.cl p pages l E 0 b 0) (hpf : ∀ k, p.F k → H.p.F k ∨ w.heap.size ≤ k)
    (hc : CellsAt w' H.cl H.cb bs) (hbl : bs.length = H.bs.length) (hmap : w'.heap[H.mb]? = some (.map ((H.xs.map hentry) ++ [hentry y]).toArray (H.clk + 1))) (hborn : y.born = H.clk)
    (hy : HeldAt w' H.cl bs y) (hn1 : y.hb ∉ H.xs.map (·.hb)) (hn2 : y.sb ∉ H.xs.map (·.sb)) (hfy : ∀ k, k = y.hb ∨ k = y.sb → n ≤ k) (hso : ∀ z ∈ H.xs, SlabOk bs z.x.S) (hinv : HInv pages ⟨l, insP y.x s.A⟩)
    (he : EntOk l E (insP y.x s.A)) (hnum : freeN l + b = pages) (hcnt : b = 4 * (s.A.length + 1 + left)) (hkeep : KeepB s.A (insP y.x s.A) H.bs bs) :
    ∃ H' : HL, H'.left = left ∧ y ∈ H'.xs ∧ HeapAt w' H' pages ⟨l, insP y.x s.A⟩ ∧ H.Of H' s ⟨l, insP y.x s.A⟩ n ∧ Turned H.F w w' := by
  obtain ⟨o1, o2, o3, o5⟩ := h.offIns
  refine ⟨{ H with p := p, E := E, b := b, bs := bs, xs := H.xs ++ [y], clk := H.clk + 1, left := left }, rfl, List.mem_append.2 (.inr (List.mem_singleton.2 rfl)), ⟨(ht.block _ (lt_of_block h.obj) o1).trans h.obj, hg, hc, ?_, ?_, ?_, ⟨?_, ?_, ?_, ?_⟩, ?_, hinv, hbl.trans h.blen, he, hnum, ?_⟩, ⟨rfl, rfl, rfl, rfl, rfl, ?_, hkeep⟩, ht.mono (fun k hk _ => insF.sub hk)⟩
  · show w'.heap[H.mb]? = some (.map ((H.xs ++ [y]).map hentry).toArray (H.clk + 1))
    rw [List.map_append]
    exact hmap
  · intro e
    rcases hpf _ e with e | e
    · exact h.off e
    · have h1 := lt_of_block h.map
      have h2 : w.heap.size ≤ H.mb := e
      omega
  · intro z hz
    rcases List.mem_append.1 hz with hz | hz
    · have hz' := (h.each z hz).turned ht (o5 z hz).1 (o5 z hz).2
      exact ⟨hz'.held, hz'.slab, hso z hz⟩
    · obtain rfl := List.mem_singleton.1 hz
      exact hy
  · show ((H.xs ++ [y]).map (·.hb)).Nodup
    rw [List.map_append, List.nodup_append]
    exact ⟨h.xs.hbs, by simp, fun a ha b hb e => hn1 (by simp at hb; rw [← hb, ← e]; exact ha)⟩
  · show ((H.xs ++ [y]).map (·.sb)).Nodup
    rw [List.map_append, List.nodup_append]
    exact ⟨h.xs.sbs, by simp, fun a ha b hb e => hn2 (by simp at hb; rw [← hb, ← e]; exact ha)⟩
  · show ((H.xs ++ [y]).map (·.born)).Nodup
    rw [List.map_append, List.nodup_append]
    refine ⟨h.xs.borns, by simp, fun a ha b hb e => ?_⟩
    obtain ⟨u, hu, rfl⟩ := List.mem_map.1 ha
    have := h.xs.old u hu
    simp at hb
    omega
  · intro z hz
    show z.born < H.clk + 1
    rcases List.mem_append.1 hz with hz | hz
    · have := h.xs.old z hz; omega
    · obtain rfl := List.mem_singleton.1 hz
      omega
  · show ((H.xs ++ [y]).map (·.x)).Perm (insP y.x s.A)
    rw [List.map_append]
    exact (List.perm_append_comm.trans ((h.perm.cons y.x))).trans (insP_perm _ _).symm
  · show b = 4 * ((insP y.x s.A).length + left)
    rw [insP_length]; exact hcnt
  · intro k hk
    rcases hk with hk | hk | hk | hk | hk | hk | ⟨z, hz, hk⟩
    · exact .inl (.inl hk)
    · exact .inl (.inr (.inl hk))
    · exact .inl (.inr (.inr (.inl hk)))
    · exact .inl (.inr (.inr (.inr (.inl hk))))
    · exact .inl (.inr (.inr (.inr (.inr (.inl hk)))))
    · exact (hpf k hk).imp (fun e => .inr (.inr (.inr (.inr (.inr (.inl e)))))) (fun e => Nat.le_trans hn e)
    · rcases List.mem_append.1 hz with hz | hz
      · exact .inl (.inr (.inr (.inr (.inr (.inr (.inr ⟨z, hz, hk⟩))))))
      · obtain rfl := List.mem_singleton.1 hz
        exact .inr (hfy k hk)
theorem HeapAt.del {w w' : World} {H : HL} {pages : Nat} {s : HP} (h : HeapAt w H pages s) {x : PS} (hx : x ∈ s.A) {p : GPl} {l : List Run} {E : List PE} {b left : Nat}
    (ht : Turned (insF H) w w') (hg : GroundAt w' H.gr H.cl p pages l E 0 b 0) (hpf : ∀ k, p.F k → H.p.F k ∨ w.heap.size ≤ k)
    (hc : CellsAt w' H.cl H.cb H.bs) (hmap : w'.heap[H.mb]? = some (.map ((H.xs.filter fun y => (y.x.page : Int) != (x.page : Int)).map hentry).toArray H.clk))
    (hinv : HInv pages ⟨l, delP s.A x.page⟩)
    (he : EntOk l E (delP s.A x.page)) (hnum : freeN l + b = pages) (hcnt : b = 4 * (s.A.length - 1 + left)) :
    ∃ H' : HL, (H'.left = left ∧ H'.E = E ∧ H'.bs = H.bs ∧ H'.xs = H.xs.filter fun y => (y.x.page : Int) != (x.page : Int)) ∧ HeapAt w' H' pages ⟨l, delP s.A x.page⟩ ∧ H.Of H' s ⟨l, delP s.A x.page⟩ w.heap.size ∧ Turned H.F w w' := by
  obtain ⟨o1, o2, o3, o5⟩ := h.offIns
  have hsub : ∀ z ∈ H.xs.filter (fun y => (y.x.page : Int) != (x.page : Int)), z ∈ H.xs := fun z hz => (List.mem_filter.1 hz).1
  have hsl : (H.xs.filter fun y => (y.x.page : Int) != (x.page : Int)).Sublist H.xs := List.filter_sublist
  refine ⟨{ H with p := p, E := E, b := b, xs := H.xs.filter fun y => (y.x.page : Int) != (x.page : Int), left := left }, ⟨rfl, rfl, rfl, rfl⟩, ⟨(ht.block _ (lt_of_block h.obj) o1).trans h.obj, hg, hc, hmap, ?_, ?_, ⟨?_, ?_, ?_, ?_⟩, ?_, hinv, h.blen, he, hnum, ?_⟩, ⟨rfl, rfl, rfl, rfl, rfl, ?_, ⟨fun _ _ _ _ _ => rfl⟩⟩, ht.mono (fun k hk _ => insF.sub hk)⟩
  · intro e
    rcases hpf _ e with e | e
    · exact h.off e
    · have h1 := lt_of_block h.map
      have h2 : w.heap.size ≤ H.mb := e
      omega
  · intro z hz
    exact (h.each z (hsub z hz)).turned ht (o5 z (hsub z hz)).1 (o5 z (hsub z hz)).2
  · exact h.xs.hbs.sublist (hsl.map _)
  · exact h.xs.sbs.sublist (hsl.map _)
  · exact h.xs.borns.sublist (hsl.map _)
  · exact fun z hz => h.xs.old z (hsub z hz)
  · show ((H.xs.filter fun y => (y.x.page : Int) != (x.page : Int)).map (·.x)).Perm (delP s.A x.page)
    have e : (H.xs.filter fun y => (y.x.page : Int) != (x.page : Int)).map (·.x) = delP (H.xs.map (·.x)) x.page := by
      unfold delP
      rw [List.filter_map]
      congr 1
      apply List.filter_congr
      intro z _
      show ((z.x.page : Int) != (x.page : Int)) = (z.x.page != x.page)
      by_cases e : z.x.page = x.page
      · rw [e]; simp
      · have e2 : (z.x.page : Int) ≠ (x.page : Int) := by omega
        rw [bne_iff_ne.2 e, bne_iff_ne.2 e2]
    rw [e]
    exact h.perm.filter _
  · show b = 4 * ((delP s.A x.page).length + left)
    have := (delP_perm h.inv hx).length_eq
    rw [List.length_cons] at this
    omega
  · intro k hk
    rcases hk with hk | hk | hk | hk | hk | hk | ⟨z, hz, hk⟩
    · exact .inl (.inl hk)
    · exact .inl (.inr (.inl hk))
    · exact .inl (.inr (.inr (.inl hk)))
    · exact .inl (.inr (.inr (.inr (.inl hk))))
    · exact .inl (.inr (.inr (.inr (.inr (.inl hk)))))
    · exact (hpf k hk).imp (fun e => .inr (.inr (.inr (.inr (.inr (.inl e)))))) id
    · exact .inl (.inr (.inr (.inr (.inr (.inr (.inr ⟨z, hsub z hz, hk⟩))))))

end Go.Proofs.YtlljejmblmjjnaaGreat

/- newheap: bytes and entries behind an opening and a closing. -/
namespace Go.Proofs.YtlljejmblmjjnaaGreat
set_option linter.unusedVariables false
set_option linter.unusedSimpArgs false
open Go.RowKit Go.ChangeMaps

theorem putR_getD (bs : List Int) (a : Nat) (ds : List Int) (h : a + ds.length ≤ bs.length) (k : Nat) (hk : k < a ∨ a + ds.length ≤ k) : (putR bs a ds).getD k 0 = bs.getD k 0 := by
  rw [List.getD_eq_getElem?_getD, List.getD_eq_getElem?_getD, putR_get _ _ _ h, if_neg (by omega)]
theorem pushB_getD {bs : List Int} {S : SM} (hok : SlabOk bs S) {k : Nat} (hk : k < slB S.cls) (i : Nat) (hi : i < S.base + k * szB S.cls ∨ S.base + k * szB S.cls + 8 ≤ i) : (pushB bs S k).getD i 0 = bs.getD i 0 := by
  have h1 := slot_fits hok.cls hk
  have h2 := szB_pos hok.cls
  have h3 := hok.fits
  refine putR_getD _ _ _ ?_ _ ?_
  · rw [bytesK_length]; omega
  · rw [bytesK_length]; exact hi
theorem freshB_at {base cls : Nat} {bs : List Int} (t : List Nat) (ha : base % 1024 = 0) (hf : base + 1024 ≤ bs.length) (hc : cls < 12) : ∀ (m k : Nat), k + m ≤ slB cls → (freshB bs base cls t m k).length = bs.length ∧ ∀ i, i < base ∨ base + 1024 ≤ i → (freshB bs base cls t m k).getD i 0 = bs.getD i 0
  | 0, _, _ => ⟨rfl, fun _ _ => rfl⟩
  | m + 1, k, h => by
    obtain ⟨h1, h2⟩ := freshB_at t ha hf hc m (k + 1) (by omega)
    unfold freshB
    split
    · exact ⟨h1, h2⟩
    · have h3 := slot_fits hc (show k < slB cls by omega)
      have h4 := szB_pos hc
      have hfit : base + k * szB cls + (bytesK (slabW k (nextN (freeFrom t m (k + 1))) cls : Nat) 8).length ≤ (freshB bs base cls t m (k + 1)).length := by rw [bytesK_length, h1]; omega
      refine ⟨?_, fun i hi => ?_⟩
      · unfold pushB
        rw [putR_length _ _ _ hfit, h1]
      · unfold pushB
        rw [putR_getD _ _ _ hfit _ (by rw [bytesK_length]; show i < base + k * szB cls ∨ _ + 8 ≤ i; omega)]
        exact h2 i hi
theorem SlabOk.congr {bs bs' : List Int} {S : SM} (h : SlabOk bs S) (hl : bs'.length = bs.length) (hb : ∀ i, S.base ≤ i → i < S.base + 1024 → bs'.getD i 0 = bs.getD i 0) : SlabOk bs' S := by
  refine ⟨h.al, by rw [hl]; exact h.fits, h.cls, h.nodup, h.lt, h.free.congr fun s hs => wordN_congr fun k hk => ?_⟩
  have h1 := slot_fits h.cls (h.lt s hs)
  have h2 := szB_pos h.cls
  exact hb _ (by omega) (by omega)

theorem EntOk.open {pages : Nat} {s : HP} {E : List PE} (h : EntOk s.l E s.A) (hi : HInv pages s) {k : Nat} {r : Run} {c st : Nat} {y : PS} (hp : placeR 4 4 s.l = some k) (hr : s.l[k]? = some r) (hy : y.page = r.first 4) (hyc : y.cls = c) (hys : y.sealed = false) (hE : y.page + 4 ≤ E.length) :
    EntOk (takeR s.l k r 4 4) (setE E (r.first 4) (some (⟨r.first 4, 1, c, 0⟩, st)) 4) (insP y s.A) := by
  obtain ⟨ht, hfit⟩ := placeR_free hp hr
  have hge := r.first_ge (al := 4) (by decide)
  refine ⟨fun x hx j h1 h2 => ?_, fun j e u hj => ?_⟩
  · rw [setE_get _ _ _ _ _ (by omega)]
    rcases insP_mem.1 hx with rfl | hx
    · rw [if_pos (by omega), hy, hyc, hys]
      exact ⟨st, rfl⟩
    · rw [if_neg ?_]
      · exact h.ent x hx j h1 h2
      · intro hh
        have := hi.tile.uniq (hi.tk x hx) (List.mem_of_getElem? hr) (k := j) h1 (show j < x.page + 4 from h2) (by omega) (by omega)
        rw [← this] at ht
        cases ht
  · rw [setE_get _ _ _ _ _ (by omega)] at hj
    split at hj
    · next hh =>
      cases hj
      exact ⟨⟨r.first 4, 4, true⟩, ((take_mem hr ht (by decide) _).2 (.inr rfl)).1, rfl, rfl, hh.1, hh.2⟩
    · obtain ⟨r0, q1, q2, q3⟩ := h.back j e u hj
      exact ⟨r0, ((take_mem hr ht (by decide) _).2 (.inl ⟨q1, q2⟩)).1, q2, q3⟩
theorem EntOk.close {pages : Nat} {s : HP} {E : List PE} (h : EntOk s.l E s.A) (hi : HInv pages s) {x : PS} (hx : x ∈ s.A) (hE : x.page + 4 ≤ E.length) :
    EntOk (giveR s.l (idxR x.page s.l) ⟨x.page, 4, true⟩) (setE E x.page none 4) (delP s.A x.page) := by
  have hk := idxR_of hi.tile (hi.tk x hx)
  refine ⟨fun z hz j h1 h2 => ?_, fun j e u hj => ?_⟩
  · obtain ⟨z1, z2⟩ := delP_mem.1 hz
    rw [setE_get _ _ _ _ _ hE, if_neg ?_]
    · exact h.ent z z1 j h1 h2
    · intro hh
      exact z2 (by rw [hi.uniq z1 hx (k := j) ⟨h1, h2⟩ hh])
  · rw [setE_get _ _ _ _ _ hE] at hj
    split at hj
    · cases hj
    · next hh =>
      obtain ⟨r0, q1, q2, q3, q4, q5⟩ := h.back j e u hj
      refine ⟨r0, ((give_mem hi.tile hk rfl _).2 ⟨⟨q1, q2⟩, fun e2 => hh ?_⟩).1, q2, q3, q4, q5⟩
      subst e2
      exact ⟨q4, q5⟩
theorem EntOk.mark {pages : Nat} {s : HP} {E : List PE} (h : EntOk s.l E s.A) (hi : HInv pages s) {x y : PS} {st : Nat} (hx : x ∈ s.A) (hp : y.page = x.page) (hE : x.page + 4 ≤ E.length) :
    EntOk s.l (setE E x.page (some (⟨x.page, 1, y.cls, sealN y.sealed⟩, st)) 4) (updP s.A y) := by
  refine ⟨fun z hz j h1 h2 => ?_, fun j e u hj => ?_⟩
  · rw [setE_get _ _ _ _ _ hE]
    rcases (updP_mem ⟨x, hx, hp.symm⟩).1 hz with rfl | ⟨z1, z2⟩
    · rw [if_pos (by omega), hp]
      exact ⟨st, rfl⟩
    · rw [if_neg ?_]
      · exact h.ent z z1 j h1 h2
      · intro hh
        exact z2 (by rw [hp, hi.uniq z1 hx (k := j) ⟨h1, h2⟩ hh])
  · rw [setE_get _ _ _ _ _ hE] at hj
    split at hj
    · next hh =>
      cases hj
      exact ⟨⟨x.page, 4, true⟩, hi.tk x hx, rfl, rfl, hh.1, hh.2⟩
    · exact h.back j e u hj
/-- A slab that leaves: its run and entries stay. -/
theorem EntOk.leave {l : List Run} {E : List PE} {A : List PS} (h : EntOk l E A) (p : Nat) : EntOk l E (delP A p) := ⟨fun x hx => h.ent x (delP_mem.1 hx).1, h.back⟩

theorem updP_ins {y z : PS} (hp : z.page = y.page) : ∀ {A : List PS}, (∀ u ∈ A, u.page ≠ y.page) → updP (insP y A) z = insP z A
  | [], _ => by simp [insP, updP, hp]
  | u :: l, h => by
    have hu := h u List.mem_cons_self
    have hid : ∀ {l : List PS}, (∀ u ∈ l, u.page ≠ y.page) → updP l z = l := by
      intro l hl
      unfold updP
      conv => rhs; rw [← List.map_id l]
      apply List.map_congr_left
      intro v hv
      rw [if_neg (by rw [hp]; exact hl v hv)]
      rfl
    unfold insP
    rw [hp]
    split
    · show updP (y :: u :: l) z = _
      unfold updP
      rw [List.map_cons, if_pos hp.symm]
      exact congrArg _ (hid h)
    · show updP (u :: insP y l) z = _
      unfold updP
      rw [List.map_cons, if_neg (by rw [hp]; exact hu)]
      exact congrArg _ (updP_ins hp fun v hv => h v (List.mem_cons_of_mem _ hv))

theorem HL.Of.refl (H : HL) (s : HP) (n : Nat) : H.Of H s s n := ⟨rfl, rfl, rfl, rfl, rfl, fun _ h => .inl h, ⟨fun _ _ _ _ _ => rfl⟩⟩
theorem HL.Of.trans {H H1 H2 : HL} {s s1 s2 : HP} {n m : Nat} (h : H.Of H1 s s1 n) (k : H1.Of H2 s1 s2 m) (hn : n ≤ m) (ht : ∀ t, Tkn s.A t → Tkn s2.A t → Tkn s1.A t) : H.Of H2 s s2 n :=
  ⟨k.h.trans h.h, k.gr.trans h.gr, k.cl.trans h.cl, k.cb.trans h.cb, k.mb.trans h.mb, fun j hj => (k.foot j hj).elim (fun e => h.foot j e) (fun e => .inr (Nat.le_trans hn e)),
    ⟨fun t t1 t2 j hj => (k.keep.keep t (ht t t1 t2) t2 j hj).trans (h.keep.keep t t1 (ht t t1 t2) j hj)⟩⟩

/-- What an operation leaves: its answer, and the heap behind it. -/
def HPost (w : World) (H : HL) (pages : Nat) (s s' : HP) (v : Value) (e : Ending) (w' : World) : Prop :=
  e = .returned v ∧ ∃ H', H'.left = H.left ∧ HeapAt w' H' pages s' ∧ H.Of H' s s' w.heap.size ∧ Turned H.F w w'
theorem HeapAt.stays {w w' : World} {H : HL} {pages : Nat} {s : HP} (h : HeapAt w H pages s) (hb : Below w.heap.size w w') {v : Value} {e : Ending} (he : e = .returned v) : HPost w H pages s s v e w' :=
  ⟨he, H, rfl, h.below hb, HL.Of.refl H s _, Turned.of_below hb (Nat.le_refl _)⟩

end Go.Proofs.YtlljejmblmjjnaaGreat

/- newheap: open. -/
namespace Go.Proofs.YtlljejmblmjjnaaGreat
set_option linter.unusedVariables false
set_option linter.unusedSimpArgs false
open Go.RowKit Go.ChangeMaps

def HOpenPost (w : World) (H : HL) (pages : Nat) (s s' : HP) (x : PS) (e : Ending) (w' : World) : Prop :=
  ∃ y : HS, e = .returned (.tuple #[.pointer (some ⟨y.hb, 0, none⟩), .int .i64 0]) ∧ y.x = x ∧ ∃ H', H'.left = H.left ∧ y ∈ H'.xs ∧ HeapAt w' H' pages s' ∧ H.Of H' s s' w.heap.size ∧ Turned H.F w w'

set_option maxRecDepth 8000 in
set_option maxHeartbeats 1000000 in
theorem hopen_no {w : World} {H : HL} {pages : Nat} {s : HP} (h : HeapAt w H pages s) (c : Nat) (hc : c < 12) (hp : placeR 4 4 s.l = none) :
    Calls Tryz.prog 47 #[.pointer (some ⟨H.h, 0, none⟩), .int .i64 c] w fun e w' => e = .returned (.tuple #[.pointer none, .int .i64 13]) ∧ Below w.heap.size w w' := by
  obtain ⟨c0, -⟩ := h.hcells
  have HO : Hid (Calls Tryz.prog 37 #[.pointer (some ⟨H.gr, 0, none⟩), .int .i64 4, .int .i64 4, .int .i64 1, .int .i64 c] w fun e w' => e = .returned (.tuple #[.int .i64 (-1), .int .i64 13]) ∧ Below w.heap.size w w') :=
    gOpen_no H.gr H.cl pages 0 H.b 0 4 4 1 c H.p s.l H.E w h.ground ⟨2, by decide, rfl⟩ (by decide) (by decide) (by decide) (by omega) hp
  clear h hp
  go_enter Tryz.func47, Tryz.ntmps47
  go_wp2_with (fail)
  refine HO.out.mono ?_
  rintro e w1 ⟨rfl, hb⟩
  have HB := Lib.hid hb
  clear hb
  go_wp2
  go_ret2
  exact ⟨rfl, HB.out⟩

set_option maxRecDepth 8000 in
set_option maxHeartbeats 2000000 in
theorem hopen_yes {w : World} {H : HL} {pages : Nat} {s : HP} (h : HeapAt w H pages s) (c : Nat) (hc : c < 12) {k : Nat} {r : Run} (hp : placeR 4 4 s.l = some k) (hr : s.l[k]? = some r) :
    Calls Tryz.prog 47 #[.pointer (some ⟨H.h, 0, none⟩), .int .i64 c] w (HOpenPost w H pages s ⟨takeR s.l k r 4 4, insP (freshP (r.first 4) c) s.A⟩ (freshP (r.first 4) c)) := by
  obtain ⟨c0, c1⟩ := h.hcells
  obtain ⟨htk, hfit⟩ := placeR_free hp hr
  have hbd := h.inv.tile.bounds r (List.mem_of_getElem? hr)
  have hfr := free_take (al := 4) hr htk (by decide) (by decide) hfit
  have hnum := h.num
  have hm := h.ground.map.most
  have hmod := Run.first_mod r 4
  have hok : (freshP (r.first 4) c).Ok pages := fresh_ok hmod (by omega) hc
  have hEl := h.ground.map.len
  obtain ⟨hinv, hne⟩ := h.inv.open (y := freshP (r.first 4) c) hp hr rfl hok
  have hent := h.ent.open h.inv (y := freshP (r.first 4) c) (c := c) (st := nextSt H.p.stamp) hp hr rfl rfl rfl (by show r.first 4 + 4 ≤ _; omega)
  have HO : Hid (Calls Tryz.prog 37 #[.pointer (some ⟨H.gr, 0, none⟩), .int .i64 4, .int .i64 4, .int .i64 1, .int .i64 c] w
      (GOpenPost w H.gr H.cl H.p pages (takeR s.l k r 4 4) (setE H.E (r.first 4) (some (⟨r.first 4, 1, c, 0⟩, nextSt H.p.stamp)) 4) 0 (H.b + 4) 0 (r.first 4 : Nat) 0)) :=
    gOpen_yes H.gr H.cl pages 0 H.b 0 4 4 1 c k H.p s.l H.E r w h.ground ⟨2, by decide, rfl⟩ (by decide) (by decide) (by omega) hp hr (by omega)
  have HH := Lib.hid h
  have HINV := Lib.hid hinv
  have HNE := Lib.hid hne
  have HENT := Lib.hid hent
  have HNUM : Hid (freeN (takeR s.l k r 4 4) + (H.b + 4) = pages) := show _ = _ by omega
  have hcnt := h.cnt
  have hoff := h.offs
  clear h hp hr htk hbd hinv hne hent hfr hnum
  generalize takeR s.l k r 4 4 = l' at *
  generalize hf : r.first 4 = f at *
  have hf2 : f + 4 ≤ pages := hok.fits
  generalize hE : setE H.E f (some (⟨f, 1, c, 0⟩, nextSt H.p.stamp)) 4 = E' at *
  clear hE hf hfit
  go_enter Tryz.func47, Tryz.ntmps47
  go_wp2_with (fail)
  refine HO.out.mono ?_
  rintro e w1 ⟨rfl, p', hg1, hpf, ht1⟩
  have d0 := turned_cell ht1 hoff.1 c0
  have d1 := turned_cell ht1 hoff.1 c1
  have hcl1 := HH.out.cells.turned ht1 hoff.2.1 hoff.2.2.1
  have HG1 := Lib.hid hg1
  have HPF := Lib.hid hpf
  have HT1 := Lib.hid ht1
  have HCL1 := Lib.hid hcl1
  have HGC := Lib.hid (gCells_any H.gr H.cl pages 0 (H.b + 4) 0 p' l' E' w1 hg1)
  have hbl := HH.out.blen
  have HNEW : Hid (Calls Tryz.prog 89 #[.pointer (some ⟨H.cl, 0, none⟩), .int .i64 ((f : Int) * 256), .int .i64 c] w1 (WithPost w1 H.cl H.cb (256 * f) c H.bs [])) := by
    have := new_yes H.cl H.cb (256 * f) c H.bs w1 hcl1 (by have := hok.al; show 256 * f % 1024 = 0; change f % 4 = 0 at this; omega) (by omega) hc
    rw [show ((f : Int) * 256) = ((256 * f : Nat) : Int) by omega]
    exact this
  clear hg1 hpf ht1 hcl1 c0 c1
  go_wp2_with (fail)
  refine HGC.out.mono ?_
  rintro e w1' ⟨rfl, rfl⟩
  have hsh : IntKind.i64.wrap ((f : Int) * 256) = (f : Int) * 256 := wraps_i64 _ (by omega) (by omega)
  go_wp2_with (fail)
  refine HNEW.out.mono ?_
  rintro e w2 ⟨sb, rfl, hs2, hc2, hok2, ht2, hsb⟩
  have hn1 := HT1.out.size
  have hn2 := ht2.size
  have hbg : ¬ p'.F H.cb := HG1.out.off HCL1.out.bytes (by decide) (by decide) (by decide) (by decide) (by decide) (by decide)
  have hmbl := lt_of_block HH.out.map
  have hhl := lt_of_block HH.out.obj
  have hmbc : H.mb ≠ H.cb := fun e => block_ne_map HH.out.cells.bytes HH.out.map e.symm
  have hg2 := HG1.out.turned ht2 (block_ne HG1.out.obj HCL1.out.bytes (by decide)) (fun j hj e => hbg (by rw [← e]; exact hj))
  have d1' := turned_cell ht2 (block_ne_map HH.out.obj HH.out.map |> fun _ => (block_ne HH.out.obj HH.out.cells.bytes (by decide))) d1
  have hmap2 := (ht2.block _ (by omega) hmbc).trans ((HT1.out.block _ hmbl HH.out.off).trans HH.out.map)
  have HS2 := Lib.hid hs2
  have HC2 := Lib.hid hc2
  have HOK2 := Lib.hid hok2
  have HT2 := Lib.hid ht2
  have HG2 := Lib.hid hg2
  have HMAP2 := Lib.hid hmap2
  have hsbl := lt_of_block hs2
  clear hs2 hc2 hok2 ht2 hg2 hmap2 hbg d0 d1
  go_upto_region 6 with (fail)
  obtain ⟨W3, hW3⟩ : ∃ W3, W3 = w2.alloc (.cells #[.pointer (some ⟨sb, 0, none⟩), .bool false] 82) := ⟨_, rfl⟩
  have HB3 : Hid (Below w2.heap.size w2 W3) := by rw [hW3]; exact (Below.refl _ _).alloc (Nat.le_refl _) _
  have HBLK3 : Hid (W3.heap[w2.heap.size]? = some (.cells #[.pointer (some ⟨sb, 0, none⟩), .bool false] 82 (0, 0))) := by rw [hW3]; exact heap_alloc_new _ _
  have e1 := cell_past HB3.out (by omega) d1'
  have hmap3 : W3.heap[H.mb]? = some (.map (H.xs.map hentry).toArray H.clk) := (HB3.out.block _ (by omega)).trans HMAP2.out
  have hup := fun v => run_update_held hmap3 (f : Int) (fun x hx => by have h1 := HNE.out x.x (HH.out.mem' hx); have h2 : x.x.page ≠ f := h1; omega) v
  rw [← hW3]
  clear hW3 d1'
  have HUP := Lib.hid hmap3
  have hO := HB3.out.size
  go_wp2
  go_ret2
  obtain ⟨y, hyb, hys, hyn, hxy⟩ : ∃ y : HS, y.hb = w2.heap.size ∧ y.sb = sb ∧ y.born = H.clk ∧ y.x = freshP f c := ⟨⟨w2.heap.size, sb, H.clk, freshP f c⟩, rfl, rfl, rfl, rfl⟩
  have hen : ({ key := .int .i64 f, val := .pointer (some ⟨w2.heap.size, 0, none⟩), born := H.clk } : MapEntry) = hentry y := by unfold hentry; rw [hxy, hyb, hyn]; rfl
  rw [hen]
  obtain ⟨W4, hW4e⟩ : ∃ W4, W4 = setBlock W3 H.mb (.map ((H.xs.map hentry) ++ [hentry y]).toArray (H.clk + 1)) := ⟨_, rfl⟩
  have hob4 : ∀ j, j ≠ H.mb → W4.heap[j]? = W3.heap[j]? := fun j hj => by rw [hW4e]; exact heap_setBlock_ne _ _ _ hj
  have tM : Turned (fun j => j = H.mb) W3 W4 := by rw [hW4e]; exact Turned.setBlock (F := fun j => j = H.mb) (Turned.refl _ _) (.inl rfl) _
  have hW4 : Turned (insF H) W3 W4 := tM.mono (fun j hj _ => .inl hj)
  have hmap4 : W4.heap[H.mb]? = some (.map ((H.xs.map hentry) ++ [hentry y]).toArray (H.clk + 1)) := by rw [hW4e]; exact heap_setBlock_eq (by omega) _
  rw [← hW4e]
  clear hW4e
  have hfb := freshB_at (base := 256 * f) (cls := c) (bs := H.bs) [] (by have := hok.al; change f % 4 = 0 at this; omega) (by omega) hc (slB c) 0 (by omega)
  have hpmb : ¬ p'.F H.mb := fun e => (HPF.out _ e).elim HH.out.off (fun e => by omega)
  have hyh : HeldAt W4 H.cl (freshB H.bs (256 * f) c [] (slB c) 0) y := by
    refine ⟨?_, ?_, ?_⟩
    · unfold heldC
      rw [hyb, hys, hxy]
      exact (hob4 _ (by omega)).trans HBLK3.out
    · rw [hys, hxy]
      exact (HS2.out.below HB3.out).turned tM (by show sb ≠ H.mb; omega)
    · rw [hxy]
      exact HOK2.out
  have hTT : Turned (insF H) w W4 :=
    (((HT1.out.mono (G := insF H) (fun j hj _ => .inr (.inr hj))).trans HT2.out (fun j hj _ => .inr (.inl hj))).trans (Turned.of_below (F := fun _ => False) HB3.out (Nat.le_refl _)) (fun j hj _ => hj.elim)).trans hW4 (fun j hj _ => hj)
  obtain ⟨H', q1, q5, q2, q3, q4⟩ := HH.out.ins (y := y) (p := p') (l := l') (E := E') (b := H.b + 4) (left := H.left) (n := w.heap.size) (Nat.le_refl _) hTT
    ((HG2.out.below HB3.out).turned tM (by show H.gr ≠ H.mb; exact fun e => block_ne_map HH.out.ground.obj HH.out.map e) (fun j hj e => hpmb (by rw [← e]; exact hj)))
    HPF.out ((HC2.out.below HB3.out).turned tM (fun e => block_ne_map HH.out.cells.obj HH.out.map e) (fun e => hmbc e.symm)) hfb.1
    hmap4 hyn hyh
    (by intro hm; obtain ⟨z, hz, e⟩ := List.mem_map.1 hm; have := lt_of_block (HH.out.each z hz).held; have e' : z.hb = y.hb := e; omega)
    (by intro hm; obtain ⟨z, hz, e⟩ := List.mem_map.1 hm; have := lt_of_block (HH.out.each z hz).slab; have e' : z.sb = y.sb := e; omega)
    (by rintro j (e | e) <;> omega)
    (fun z hz => (HH.out.each z hz).ok.congr hfb.1 (fun i h1 h2 => hfb.2 i (by
      have a1 := HH.out.inv.each z.x (HH.out.mem' hz)
      have a2 := a1.al
      have a3 := HNE.out z.x (HH.out.mem' hz)
      have a4 := hok.al
      change z.x.page ≠ f at a3
      change f % 4 = 0 at a4
      change 256 * z.x.page ≤ i at h1
      change i < 256 * z.x.page + 1024 at h2
      omega)))
    (by rw [hxy]; exact HINV.out) (by rw [hxy]; exact HENT.out) HNUM.out (by omega)
    ⟨fun t t1 t2 j hj => hfb.2 _ (by
      obtain ⟨z, hz, i, i1, i2, e⟩ := t1
      have a1 := HH.out.inv.each z hz
      have a2 := a1.al
      have a3 := HNE.out z hz
      have a4 := hok.al
      have a5 := a1.addr_in i1
      have a6 := szB_pos a1.cls
      change z.page ≠ f at a3
      change f % 4 = 0 at a4
      omega)⟩
  rw [hxy] at q2 q3
  exact ⟨y, by rw [hyb]; rfl, hxy, H', q1, q5, q2, q3, q4⟩

end Go.Proofs.YtlljejmblmjjnaaGreat

/- newheap: Take. -/
namespace Go.Proofs.YtlljejmblmjjnaaGreat
set_option linter.unusedVariables false
set_option linter.unusedSimpArgs false
open Go.RowKit Go.ChangeMaps

theorem HPost.of_pop {w w' : World} {H : HL} {pages : Nat} {s : HP} (h : HeapAt w H pages s) {y : HS} (hy : y ∈ H.xs) {j : Nat} {l : List Nat} (hl : y.x.L = j :: l) {e : Ending} (hp : STakePost w y.sb H.cl y.x.S j l e w') :
    HPost w H pages s ⟨s.l, updP s.A { y.x with L := l }⟩ (.tuple #[.int .i64 ((y.x.addr j : Nat) : Int), .int .i64 0]) e w' := by
  obtain ⟨he, hs, ht⟩ := hp
  have hyA := h.mem' hy
  have hok := (h.inv.each y.x hyA).tail
  rw [hl] at hok
  have hne1 : y.hb ≠ y.sb := block_ne (h.each y hy).held (show w.heap[y.sb]? = some (.cells _ 131 (0, 0)) from (h.each y hy).slab) (by decide)
  have hs2 : w.heap[y.sb]? = some (.cells _ 131 (0, 0)) := (h.each y hy).slab
  have hof := h.ground.off hs2 (by decide) (by decide) (by decide) (by decide) (by decide) (by decide)
  have hc := h.cells.turned ht (block_ne h.cells.obj hs2 (by decide)) (block_ne h.cells.bytes hs2 (by decide))
  have hg := h.ground.turned ht (block_ne h.ground.obj hs2 (by decide)) (fun k hk e => hof (by rw [← e]; exact hk))
  obtain ⟨H', q1, q2, q3, q4, q5⟩ := h.upd hy (x := { y.x with L := l }) rfl hok (bs := H.bs) (ht.mono (G := updF H y) (fun k hk _ => .inr (.inl hk))) hg (fun k hk => .inl hk) hc rfl ((ht.block _ (lt_of_block (h.each y hy).held) hne1).trans (h.each y hy).held) hs
    (pop_ok (S := y.x.S) (h.each y hy).ok hl) (fun z hz _ => (h.each z hz).ok) (h.ent.same hyA rfl rfl rfl) ⟨fun _ _ _ _ _ => rfl⟩
  exact ⟨he, H', q1, q3, q4, q5⟩

theorem HPost.trans {w w1 w2 : World} {H H1 : HL} {pages : Nat} {s s1 s2 : HP} {v : Value} {e : Ending} (hl : H1.left = H.left) (h : H.Of H1 s s1 w.heap.size) (ht : Turned H.F w w1) (k : HPost w1 H1 pages s1 s2 v e w2) (hk : ∀ t, Tkn s.A t → Tkn s2.A t → Tkn s1.A t) :
    HPost w H pages s s2 v e w2 := by
  obtain ⟨he, H2, q1, q2, q3, q4⟩ := k
  exact ⟨he, H2, q1.trans hl, q2, h.trans q3 ht.size hk, ht.trans q4 (fun x hx hxl => (h.foot x hx).elim id (fun hh => by omega))⟩

def ansV (a : Int × Int) : Value := .tuple #[.int .i64 a.1, .int .i64 a.2]

set_option maxRecDepth 8000 in
set_option maxHeartbeats 2000000 in
theorem htake_any {w : World} {H : HL} {pages : Nat} {s : HP} (h : HeapAt w H pages s) (cls : Int) :
    Calls Tryz.prog 18 #[.pointer (some ⟨H.h, 0, none⟩), .int .i64 cls] w (HPost w H pages s (takeP s cls).2 (ansV (takeP s cls).1)) := by
  have hi := takeP_is h.inv cls
  have HR := Lib.hid (hright_any cls w)
  obtain ⟨zs, hz⟩ := h.sorted
  have hbx := h.bestY_x hz cls none (by intro y hy; cases hy)
  rw [show (none : Option HS).map (·.x.page) = none from rfl] at hbx
  revert hi
  generalize hqq : takeP s cls = qq
  intro hi
  cases hi with
  | range hh =>
    rw [show clsOk cls = false from decide_eq_false hh] at HR
    have HH := Lib.hid h
    clear h hbx hqq hz
    go_enter Tryz.func18, Tryz.ntmps18
    go_wp2_with (fail)
    refine HR.out.mono ?_
    rintro e w1 ⟨rfl, hb⟩
    have HB := Lib.hid hb
    clear hb
    go_wp2
    go_ret2
    exact HH.out.stays HB.out rfl
  | old x j l c hc hc2 hb hx hxc hxs hl =>
    rw [show clsOk cls = true from decide_eq_true (by omega)] at HR
    rw [hb] at hbx
    cases hby : bestY zs cls none with
    | none => rw [hby] at hbx; cases hbx
    | some y =>
      rw [hby] at hbx
      simp only [Option.map_some, Option.some.injEq] at hbx
      subst hbx
      have hy : y ∈ H.xs := hz.1.mem_iff.1 (bestY_mem hby)
      have HH := Lib.hid h
      have HBEST : Hid (∀ W, Below w.heap.size w W → Calls Tryz.prog 44 #[.pointer (some ⟨H.h, 0, none⟩), .int .i64 cls, .pointer none] W fun e w' => e = .returned (.pointer (some ⟨y.hb, 0, none⟩)) ∧ Below W.heap.size W w') := fun W hW => by
        have := best_any (h.below hW) hz cls none (by intro y hy; cases hy)
        rw [hby] at this
        exact this
      have HTK : Hid (∀ W, Below w.heap.size w W → Calls Tryz.prog 48 #[.pointer (some ⟨y.sb, 0, none⟩)] W (STakePost W y.sb H.cl y.x.S j l)) := fun W hW =>
        stake_yes y.sb H.cl H.cb H.bs y.x.S j l hl W ((h.below hW).each y hy).slab (h.below hW).cells (h.each y hy).ok
      obtain ⟨y0, -⟩ := (h.each y hy).cells
      have HY := Lib.hid hy
      have HLL := Lib.hid hl
      clear h hb hqq hz hx hxc hxs hby hl hy hc
      go_enter Tryz.func18, Tryz.ntmps18
      go_wp2_with (fail)
      refine HR.out.mono ?_
      rintro e w1 ⟨rfl, hb⟩
      have HB1 := Lib.hid hb
      clear hb
      go_wp2_with (fail)
      refine (HBEST.out _ HB1.out).mono ?_
      rintro e w2 ⟨rfl, hb2⟩
      have HB2 := Lib.hid (Below.via hb2 HB1.out.size HB1.out)
      have y0' := cell_past HB2.out (cell_lt y0) y0
      clear hb2 y0
      go_wp2_with (fail)
      refine (HTK.out _ HB2.out).mono ?_
      rintro e w3 hp
      have hq := HPost.of_pop (HH.out.below HB2.out) HY.out HLL.out hp
      obtain ⟨rfl, -, -⟩ := hp
      have HQ : Hid (HPost w H pages s ⟨s.l, updP s.A { y.x with L := l }⟩ (.tuple #[.int .i64 ((y.x.addr j : Nat) : Int), .int .i64 0]) (.returned (.tuple #[.int .i64 ((y.x.addr j : Nat) : Int), .int .i64 0])) w3) :=
        HPost.trans rfl (HL.Of.refl _ _ _) (Turned.of_below HB2.out (Nat.le_refl _)) ⟨rfl, hq.2⟩ (fun t t1 _ => t1)
      clear hq
      have hva : (y.x.S.base + j * szB y.x.S.cls : Nat) = y.x.addr j := rfl
      rw [hva]
      generalize y.x.addr j = ad at *
      go_wp2
      go_ret2
      exact HQ.out
  | full c hc hc2 hb hp =>
    rw [show clsOk cls = true from decide_eq_true (by omega)] at HR
    rw [hb] at hbx
    cases hby : bestY zs cls none with
    | some y => rw [hby] at hbx; cases hbx
    | none =>
      have HH := Lib.hid h
      subst hc
      have HBEST : Hid (∀ W, Below w.heap.size w W → Calls Tryz.prog 44 #[.pointer (some ⟨H.h, 0, none⟩), .int .i64 c, .pointer none] W fun e w' => e = .returned (.pointer none) ∧ Below W.heap.size W w') := fun W hW => by
        have := best_any (h.below hW) hz c none (by intro y hy; cases hy)
        rw [hby] at this
        exact this
      have HOP : Hid (∀ W, Below w.heap.size w W → Calls Tryz.prog 47 #[.pointer (some ⟨H.h, 0, none⟩), .int .i64 c] W fun e w' => e = .returned (.tuple #[.pointer none, .int .i64 13]) ∧ Below W.heap.size W w') := fun W hW => hopen_no (h.below hW) c hc2 hp
      clear h hb hqq hz hbx hby hp
      go_enter Tryz.func18, Tryz.ntmps18
      go_wp2_with (fail)
      refine HR.out.mono ?_
      rintro e w1 ⟨rfl, hb⟩
      have HB1 := Lib.hid hb
      clear hb
      go_wp2_with (fail)
      refine (HBEST.out _ HB1.out).mono ?_
      rintro e w2 ⟨rfl, hb2⟩
      have HB2 := Lib.hid (Below.via hb2 HB1.out.size HB1.out)
      clear hb2
      go_wp2_with (fail)
      refine (HOP.out _ HB2.out).mono ?_
      rintro e w3 ⟨rfl, hb3⟩
      have HB3 := Lib.hid (Below.via hb3 HB2.out.size HB2.out)
      clear hb3
      go_wp2
      go_ret2
      exact HH.out.stays HB3.out rfl
  | new c hc hc2 hb k r hp hr hf hfit =>
    rw [show clsOk cls = true from decide_eq_true (by omega)] at HR
    rw [hb] at hbx
    cases hby : bestY zs cls none with
    | some y => rw [hby] at hbx; cases hbx
    | none =>
      have HH := Lib.hid h
      subst hc
      have HBEST : Hid (∀ W, Below w.heap.size w W → Calls Tryz.prog 44 #[.pointer (some ⟨H.h, 0, none⟩), .int .i64 c, .pointer none] W fun e w' => e = .returned (.pointer none) ∧ Below W.heap.size W w') := fun W hW => by
        have := best_any (h.below hW) hz c none (by intro y hy; cases hy)
        rw [hby] at this
        exact this
      have HOP : Hid (∀ W, Below w.heap.size w W → Calls Tryz.prog 47 #[.pointer (some ⟨H.h, 0, none⟩), .int .i64 c] W (HOpenPost W H pages s ⟨takeR s.l k r 4 4, insP (freshP (r.first 4) c) s.A⟩ (freshP (r.first 4) c))) := fun W hW => hopen_yes (h.below hW) c hc2 hp hr
      have HNE : Hid (∀ z ∈ s.A, z.page ≠ (freshP (r.first 4) c).page) := (h.inv.open (y := freshP (r.first 4) c) hp hr rfl (fresh_ok hf hfit hc2)).2
      clear h hb hqq hz hbx hby hp hr
      generalize takeR s.l k r 4 4 = l' at *
      generalize r.first 4 = f at *
      go_enter Tryz.func18, Tryz.ntmps18
      go_wp2_with (fail)
      refine HR.out.mono ?_
      rintro e w1 ⟨rfl, hb⟩
      have HB1 := Lib.hid hb
      clear hb
      go_wp2_with (fail)
      refine (HBEST.out _ HB1.out).mono ?_
      rintro e w2 ⟨rfl, hb2⟩
      have HB2 := Lib.hid (Below.via hb2 HB1.out.size HB1.out)
      clear hb2
      go_wp2_with (fail)
      refine (HOP.out _ HB2.out).mono ?_
      rintro e w3 ⟨y, rfl, hyx, H1, hl1, hy1, hA1, hOf1, hT1⟩
      obtain ⟨y0, -⟩ := (hA1.each y hy1).cells
      have hfl : y.x.L = 0 :: (freeFrom [] (slB c) 0).tail := by
        rw [hyx]
        show freeFrom [] (slB c) 0 = _
        have := slB_two hc2
        obtain ⟨m, hm⟩ : ∃ m, slB c = m + 1 := ⟨slB c - 1, by omega⟩
        rw [hm, freeFrom_range, List.range'_succ]
        rfl
      have HTK := Lib.hid (stake_yes y.sb H1.cl H1.cb H1.bs y.x.S 0 _ hfl w3 (hA1.each y hy1).slab hA1.cells (hA1.each y hy1).ok)
      have HA1 := Lib.hid hA1
      have HOF1 := Lib.hid hOf1
      have HT1 := Lib.hid hT1
      have HY1 := Lib.hid hy1
      have HYX := Lib.hid hyx
      have HFL := Lib.hid hfl
      clear hA1 hOf1 hT1 hy1 hyx hfl
      go_wp2_with (fail)
      refine HTK.out.mono ?_
      rintro e w4 hp
      have hq := HPost.of_pop HA1.out HY1.out HFL.out hp
      obtain ⟨rfl, -, -⟩ := hp
      have hup : updP (insP (freshP f c) s.A) { y.x with L := (freeFrom [] (slB c) 0).tail } = insP { freshP f c with L := (freeFrom [] (slB c) 0).tail } s.A := by
        rw [HYX.out]
        exact updP_ins (y := freshP f c) (z := { freshP f c with L := (freeFrom [] (slB c) 0).tail }) rfl HNE.out
      have had : y.x.addr 0 = 256 * f := by
        rw [HYX.out]
        show 256 * f + 0 * szB c = 256 * f
        omega
      rw [had] at hq
      have hva : (y.x.S.base + 0 * szB y.x.S.cls : Nat) = 256 * f := had
      rw [hva]
      have HQ : Hid (HPost w H pages s ⟨l', insP { freshP f c with L := (freeFrom [] (slB c) 0).tail } s.A⟩ (.tuple #[.int .i64 ((256 * f : Nat) : Int), .int .i64 0]) (.returned (.tuple #[.int .i64 ((256 * f : Nat) : Int), .int .i64 0])) w4) := by
        rw [← hup]
        refine HPost.trans rfl (HL.Of.refl _ _ _) (Turned.of_below HB2.out (Nat.le_refl _)) ?_ (fun t t1 _ => t1)
        exact HPost.trans hl1 HOF1.out HT1.out ⟨rfl, hq.2⟩ (fun t t1 _ => (tkn_ins _).2 (.inl t1))
      clear hq hup had hva
      generalize 256 * f = ad at *
      go_wp2
      go_ret2
      exact HQ.out

end Go.Proofs.YtlljejmblmjjnaaGreat

/- newheap: near. -/
namespace Go.Proofs.YtlljejmblmjjnaaGreat
set_option linter.unusedVariables false
set_option linter.unusedSimpArgs false
open Go.RowKit Go.ChangeMaps

theorem entAt_nat {pages : Nat} {E : List PE} {y : Nat} : entAt pages E (y : Int) = if y < pages then E.getD y none else none := by
  unfold entAt
  by_cases h : y < pages
  · rw [if_pos (by omega), if_pos h, Int.toNat_natCast]
  · rw [if_neg (by omega), if_neg h]
/-- Where an address lies, by the ground's entries. -/
theorem HeapAt.nearIs {w : World} {H : HL} {pages : Nat} {s : HP} (h : HeapAt w H pages s) (x : Nat) :
    (entAt pages H.E ((x / 256 : Nat) : Int) = none → nearP s.A x = none) ∧
    ∀ e st, entAt pages H.E ((x / 256 : Nat) : Int) = some (e, st) → (H.xs.find? fun y => (y.x.page : Int) == (e.span : Int)).map (·.x) = nearP s.A x := by
  have hcov : ∀ z ∈ s.A, nearP s.A x = some z → ∃ st, entAt pages H.E ((x / 256 : Nat) : Int) = some (⟨z.page, 1, z.cls, sealN z.sealed⟩, st) := by
    intro z hz hn
    obtain ⟨-, h1, h2⟩ := nearP_mem hn
    have hf := (h.inv.each z hz).fits
    obtain ⟨st, hst⟩ := h.ent.ent z hz (x / 256) (by omega) (by omega)
    exact ⟨st, by rw [entAt_nat, if_pos (by omega)]; exact hst⟩
  refine ⟨fun hn => ?_, fun e st he => ?_⟩
  · cases hq : nearP s.A x with
    | none => rfl
    | some z =>
      obtain ⟨st, hst⟩ := hcov z (nearP_mem hq).1 hq
      rw [hn] at hst
      cases hst
  · cases hf : H.xs.find? fun y => (y.x.page : Int) == (e.span : Int) with
    | none =>
      cases hq : nearP s.A x with
      | none => rfl
      | some z =>
        exfalso
        obtain ⟨st', hst⟩ := hcov z (nearP_mem hq).1 hq
        rw [he] at hst
        cases hst
        obtain ⟨y, hy, rfl⟩ := h.mem (nearP_mem hq).1
        rw [List.find?_eq_none] at hf
        exact hf y hy (by simp)
    | some y =>
      have hy := List.mem_of_find?_eq_some hf
      have hp := List.find?_some hf
      simp only [beq_iff_eq] at hp
      rw [entAt_nat] at he
      split at he
      · obtain ⟨r, r1, r2, r3, r4, r5⟩ := h.ent.back _ e st he
        have hyA := h.mem' hy
        have e1 := h.inv.tile.same_page (h.inv.tk y.x hyA) r1 (by show y.x.page = r.page; omega)
        rw [← e1] at r4 r5
        change y.x.page ≤ x / 256 at r4
        change x / 256 < y.x.page + 4 at r5
        rw [h.inv.near hyA (at_ := x) (by omega) (by omega)]
        rfl
      · cases he
def NearPost (w : World) (H : HL) (s : HP) (at_ : Int) (e : Ending) (w' : World) : Prop :=
  ∃ o : Option HS, e = .returned (ptrH o) ∧ (∀ y, o = some y → y ∈ H.xs) ∧ o.map (·.x) = nearP s.A at_ ∧ Below w.heap.size w w'

set_option maxRecDepth 8000 in
set_option maxHeartbeats 2000000 in
theorem near_any {w : World} {H : HL} {pages : Nat} {s : HP} (h : HeapAt w H pages s) (at_ : Int) :
    Calls Tryz.prog 50 #[.pointer (some ⟨H.h, 0, none⟩), .int .i64 at_] w (NearPost w H s at_) := by
  obtain ⟨c0, c1⟩ := h.hcells
  have hnone : ∀ (hn : nearP s.A at_ = none) (HA : Hid (Calls Tryz.prog 13 #[.pointer (some ⟨H.gr, 0, none⟩), .int .i64 at_] w fun e w' => e = .returned (.tuple #[.agg #[.int .i64 0, .int .i64 0, .int .i64 0, .int .i64 0], .bool false]) ∧ Below w.heap.size w w')),
      Calls Tryz.prog 50 #[.pointer (some ⟨H.h, 0, none⟩), .int .i64 at_] w (NearPost w H s at_) := by
    intro hn HA
    have HN := Lib.hid hn
    clear hn h
    go_enter Tryz.func50, Tryz.ntmps50
    go_wp2_with (fail)
    refine HA.out.mono ?_
    rintro e w1 ⟨rfl, hb⟩
    have HB := Lib.hid hb
    have hz := hb.size
    clear hb
    go_wp2
    go_ret
    exact ⟨none, rfl, (by intro y hy; cases hy), (by rw [HN.out]; rfl), HB.out.alloc hz _⟩
  by_cases hneg : at_ < 0
  · refine hnone ?_ (gAt_neg H.gr at_ w hneg)
    cases hq : nearP s.A at_ with
    | none => rfl
    | some z => have := (nearP_mem hq).2.1; omega
  · obtain ⟨x, rfl⟩ : ∃ x : Nat, at_ = x := ⟨at_.toNat, by omega⟩
    obtain ⟨n1, n2⟩ := h.nearIs x
    cases he : entAt pages H.E ((x / 256 : Nat) : Int) with
    | none => exact hnone (n1 he) (gAt_none H.gr H.cl pages 0 H.b 0 x H.p s.l H.E w h.ground he)
    | some pr =>
      obtain ⟨e4, st⟩ := pr
      have hf := n2 e4 st he
      have HA : Hid (Calls Tryz.prog 13 #[.pointer (some ⟨H.gr, 0, none⟩), .int .i64 x] w fun e w' => e = .returned (.tuple #[.agg #[.int .i64 e4.span, .int .i64 e4.version, .int .i64 e4.cls, .int .i64 e4.state], .bool true]) ∧ Below w.heap.size w w') :=
        gAt_some H.gr H.cl pages 0 H.b 0 x st e4 H.p s.l H.E w h.ground he
      have HF := Lib.hid hf
      have HM : Hid (∀ y, (H.xs.find? fun y => (y.x.page : Int) == (e4.span : Int)) = some y → y ∈ H.xs) := fun y hy => List.mem_of_find?_eq_some hy
      have HLK : Hid (∀ W, Below w.heap.size w W → ∀ X, (Instr.lookup 77 (.map (some H.mb)) (.int .i64 (e4.span : Int)) false).run Tryz.prog (W.ext X) = .ok (ptrH (H.xs.find? fun y => (y.x.page : Int) == (e4.span : Int))) (W.ext X)) := fun W hW X =>
        run_lookup_held (((h.below hW).below (below_ext W X)).map) _
      have hhl := cell_lt c0
      clear h hnone n1 n2 he hf
      generalize (H.xs.find? fun y => (y.x.page : Int) == (e4.span : Int)) = o at *
      obtain ⟨q, hq⟩ : ∃ q, ptrH o = .pointer q := by cases o <;> exact ⟨_, rfl⟩
      rw [hq] at HLK
      have HQ := Lib.hid hq
      clear hq
      generalize hs0 : e4.span = s0 at *
      clear hs0
      go_enter Tryz.func50, Tryz.ntmps50
      go_wp2_with (fail)
      refine HA.out.mono ?_
      rintro e w1 ⟨rfl, hb⟩
      have HB1 := Lib.hid hb
      have hz := hb.size
      clear hb
      go_upto_region 4 with (fail)
      obtain ⟨W2, hW2⟩ : ∃ W2, W2 = w1.alloc (.cells #[.int .i64 s0, .int .i64 e4.version, .int .i64 e4.cls, .int .i64 e4.state] 42) := ⟨_, rfl⟩
      have HB2 : Hid (Below w.heap.size w W2) := by rw [hW2]; exact HB1.out.alloc hz _
      have y0 : W2.cell? ⟨w1.heap.size, 0, none⟩ = some (.int .i64 s0) := by rw [hW2, cell_of_block (heap_alloc_new _ _)]; rfl
      have y1 := cell_past HB2.out (cell_lt c1) c1
      have hlk := HLK.out W2 HB2.out
      have hsz := HB2.out.size
      have hl1 : w1.heap.size < W2.heap.size := cell_lt y0
      rw [← hW2]
      clear hW2 c0 c1
      (refine wp_region_quiet_ext (by kernel_rfl) (by kernel_rfl) ?_; (repeat (first | go_big_quiet_step ((fail)) | quiet_step ((fail)))); refine wpQuiet_nil ?_; intro w3 hw3; obtain hb3 := below_of_ext hw3; clear hw3; obtain ⟨hc3, hf3⟩ := bcell hb3; have hz3 := hb3.size; (try simp at hz3))
      have HB3 := Lib.hid (Below.via hb3 hsz HB2.out)
      clear hb3
      go_wp2
      go_ret
      exact ⟨o, by rw [HQ.out]; rfl, HM.out, HF.out, HB3.out⟩

end Go.Proofs.YtlljejmblmjjnaaGreat

/- newheap: close. -/
namespace Go.Proofs.YtlljejmblmjjnaaGreat
set_option linter.unusedVariables false
set_option linter.unusedSimpArgs false
open Go.RowKit Go.ChangeMaps

theorem HeapAt.sum {w : World} {H : HL} {pages : Nat} {s : HP} (h : HeapAt w H pages s) {x : PS} (hx : x ∈ s.A) : 4 ≤ H.b := by
  have h1 := h.cnt
  have h2 := List.length_pos_of_mem hx
  omega

set_option maxRecDepth 8000 in
set_option maxHeartbeats 2000000 in
theorem hclose_any {w : World} {H : HL} {pages : Nat} {s : HP} (h : HeapAt w H pages s) {y : HS} (hy : y ∈ H.xs) :
    Calls Tryz.prog 58 #[.pointer (some ⟨H.h, 0, none⟩), .pointer (some ⟨y.hb, 0, none⟩)] w (HPost w H pages s (closeP s y.x) (.tuple #[])) := by
  obtain ⟨c0, c1⟩ := h.hcells
  have hE := h.each y hy
  obtain ⟨y0, -⟩ := hE.cells
  have hyA := h.mem' hy
  have hok := h.inv.each y.x hyA
  have hk := idxR_of h.inv.tile (h.inv.tk y.x hyA)
  have hEl := h.ground.map.len
  have hm := h.ground.map.most
  have hfits := hok.fits
  obtain ⟨st, hst⟩ := h.ent.ent y.x hyA y.x.page (Nat.le_refl _) (by omega)
  have hall : ∀ j, j < 4 → (H.E.getD (y.x.page + j) none).isSome = true := fun j hj => by
    obtain ⟨st', hst'⟩ := h.ent.ent y.x hyA (y.x.page + j) (by omega) (by omega)
    rw [hst']; rfl
  have hb4 := h.sum hyA
  have hent := h.ent.close h.inv hyA (by omega)
  have hinv := h.inv.close hyA
  have hfr := free_give hk rfl
  have HCL : Hid (∀ W, Turned (fun k => k = H.mb) w W → Calls Tryz.prog 97 #[.pointer (some ⟨H.gr, 0, none⟩), .int .i64 y.x.page] W
      (GOpenPost W H.gr H.cl H.p pages (giveR s.l (idxR y.x.page s.l) ⟨y.x.page, 4, true⟩) (setE H.E y.x.page none 4) 0 (H.b - 4) 0 4 0)) := fun W hW => by
    have hgW := h.ground.turned hW (fun e => block_ne_map h.ground.obj h.map e) (fun j hj e => h.off (by rw [← e]; exact hj))
    exact gClose_yes H.gr H.cl pages 0 H.b 0 (idxR y.x.page s.l) st H.p s.l H.E ⟨y.x.page, 4, true⟩ _ W hgW hk rfl hst (by show 1 < 3; decide) hall hb4
  have HPG : Hid (∀ W, Turned (fun k => k = H.mb) w W → Calls Tryz.prog 42 #[.pointer (some ⟨y.sb, 0, none⟩)] W fun e w' => e = .returned (.int .i64 y.x.page) ∧ W = w') := fun W hW =>
    page_any y.sb H.cl y.x W (hE.slab.turned hW (fun e => block_ne_map (show w.heap[y.sb]? = some (.cells _ 131 (0, 0)) from hE.slab) h.map e))
  have HDEL : Hid (∀ W, Below w.heap.size w W → ∀ ty, (Builtin.delete_ #[77, 3] ty #[.map (some H.mb), .int .i64 y.x.page]).run Tryz.prog W = .ok (.tuple #[]) (setBlock W H.mb (.map ((H.xs.filter fun z => (z.x.page : Int) != (y.x.page : Int)).map hentry).toArray H.clk))) := fun W hW ty =>
    run_delete_held (h.below hW).map h.keys _ ty
  have hne1 : H.h ≠ H.mb := fun e => block_ne_map h.obj h.map e
  have hne2 : y.hb ≠ H.mb := fun e => block_ne_map hE.held h.map e
  have hmbl := lt_of_block h.map
  have hhl := cell_lt c0
  have hyl := cell_lt y0
  have HH := Lib.hid h
  have HY := Lib.hid hyA
  have HENT := Lib.hid hent
  have HINV := Lib.hid hinv
  have HNUM : Hid (freeN (giveR s.l (idxR y.x.page s.l) ⟨y.x.page, 4, true⟩) + (H.b - 4) = pages) := show _ = _ by have := h.num; have h2 : freeN (giveR s.l (idxR y.x.page s.l) ⟨y.x.page, 4, true⟩) = freeN s.l + 4 := hfr; omega
  have hcnt := h.cnt
  have hal := List.length_pos_of_mem hyA
  have hcb := block_ne_map h.cells.bytes h.map
  have hco := block_ne_map h.cells.obj h.map
  clear h hE hyA hok hk hst hall hent hinv hfr hy
  go_enter Tryz.func58, Tryz.ntmps58
  go_upto_region 0 with (fail)
  (refine wp_region_quiet_tail_ext 9 (by kernel_rfl) (by kernel_rfl) ?_; simp only [List.take_succ_cons, List.take_zero, List.drop_succ_cons, List.drop_zero])
  ((repeat (first | go_big_quiet_step (((refine Calls.ext_same (HPG.out _ (Turned.of_below (F := fun k => k = H.mb) (below_ext _ _) (Nat.le_refl _)))))) | quiet_step (((refine Calls.ext_same (HPG.out _ (Turned.of_below (F := fun k => k = H.mb) (below_ext _ _) (Nat.le_refl _)))))))); refine wpQuiet_nil ?_; intro w3 hw3; obtain hb3 := below_of_ext hw3; clear hw3; have hz3 := hb3.size; (try simp at hz3))
  have HB3 := Lib.hid hb3
  have hdel := HDEL.out w3 hb3
  have d0 := cell_past hb3 hhl c0
  have d1 := cell_past hb3 hhl c1
  have z0 := cell_past hb3 hyl y0
  clear hb3 c0 c1 y0
  go_upto_region 1 with (fail)
  obtain ⟨W4, hW4⟩ : ∃ W4, W4 = setBlock w3 H.mb (.map ((H.xs.filter fun z => (z.x.page : Int) != (y.x.page : Int)).map hentry).toArray H.clk) := ⟨_, rfl⟩
  have hT34 : Turned (fun k => k = H.mb) w3 W4 := by rw [hW4]; exact Turned.setBlock (F := fun k => k = H.mb) (Turned.refl _ _) (.inl rfl) _
  have hT4 : Turned (fun k => k = H.mb) w W4 := (Turned.of_below (F := fun k => k = H.mb) HB3.out (Nat.le_refl _)).trans hT34 (fun _ h _ => h)
  have hm4 : W4.heap[H.mb]? = some (.map ((H.xs.filter fun z => (z.x.page : Int) != (y.x.page : Int)).map hentry).toArray H.clk) := by rw [hW4]; exact heap_setBlock_eq (by omega) _
  have e0 : W4.cell? ⟨H.h, 0, none⟩ = some (.pointer (some ⟨H.gr, 0, none⟩)) := turned_cell hT34 hne1 d0
  have x0 : W4.cell? ⟨y.hb, 0, none⟩ = some (.pointer (some ⟨y.sb, 0, none⟩)) := turned_cell hT34 hne2 z0
  have HT4 := Lib.hid hT4
  have HM4 := Lib.hid hm4
  have hs4 := hT4.size
  rw [← hW4]
  clear hW4 hdel d0 d1 z0 hT34 hT4 hm4
  (refine wp_region_quiet_tail_ext 9 (by kernel_rfl) (by kernel_rfl) ?_; simp only [List.take_succ_cons, List.take_zero, List.drop_succ_cons, List.drop_zero])
  ((repeat (first | go_big_quiet_step (((refine Calls.ext_same (HPG.out _ (HT4.out.trans (Turned.of_below (F := fun _ => False) (below_ext _ _) (Nat.le_refl _)) (fun _ h _ => h.elim)))))) | quiet_step (((refine Calls.ext_same (HPG.out _ (HT4.out.trans (Turned.of_below (F := fun _ => False) (below_ext _ _) (Nat.le_refl _)) (fun _ h _ => h.elim)))))))); refine wpQuiet_nil ?_; intro w3 hw3; obtain hb3 := below_of_ext hw3; clear hw3; have hz3 := hb3.size; (try simp at hz3))
  have HT5 : Hid (Turned (fun k => k = H.mb) w w3) := HT4.out.trans (Turned.of_below (F := fun _ => False) hb3 (Nat.le_refl _)) (fun _ h _ => h.elim)
  have HM5 := Lib.hid ((hb3.block _ (by omega)).trans HM4.out)
  clear hb3 e0 x0
  go_wp2_with (fail)
  refine (HCL.out _ HT5.out).mono ?_
  rintro e w6 ⟨rfl, p', hg6, hpf6, ht6⟩
  have HFIN : Hid (HPost w H pages s (closeP s y.x) (.tuple #[]) (.returned (.tuple #[])) w6) := by
    have hTI : Turned (insF H) w w6 := (HT5.out.mono (G := insF H) (fun j hj _ => .inl hj)).trans ht6 (fun j hj _ => .inr (.inr hj))
    have hoff := HH.out.offs
    have hc6 : CellsAt w6 H.cl H.cb H.bs := (HH.out.cells.turned HT5.out hco hcb).turned ht6 hoff.2.1 hoff.2.2.1
    have hs5 := HT5.out.size
    obtain ⟨H', ⟨q1, -⟩, q2, q3, q4⟩ := HH.out.del HY.out (p := p') (left := H.left) hTI hg6 (fun j hj => (hpf6 j hj).imp id (fun h => by omega)) hc6 ((ht6.block _ (by omega) HH.out.off).trans HM5.out) HINV.out HENT.out HNUM.out (by omega)
    exact ⟨rfl, H', q1, q2, q3, q4⟩
  clear hg6 hpf6 ht6
  go_wp2
  go_end0
  exact HFIN.out

end Go.Proofs.YtlljejmblmjjnaaGreat

/- newheap: Give. -/
namespace Go.Proofs.YtlljejmblmjjnaaGreat
set_option linter.unusedVariables false
set_option linter.unusedSimpArgs false
open Go.RowKit Go.ChangeMaps

theorem delP_upd (A : List PS) (x : PS) : delP (updP A x) x.page = delP A x.page := by
  induction A with
  | nil => rfl
  | cons u l ih =>
    unfold delP updP at *
    rw [List.map_cons, List.filter_cons, List.filter_cons]
    by_cases e : u.page = x.page
    · rw [if_pos e, if_neg (by simp), if_neg (by simp [e])]
      exact ih
    · rw [if_neg e, if_pos (by simp [e]), if_pos (by simp [e])]
      exact congrArg _ ih
theorem readyP_upd (A : List PS) (x : PS) (cls : Int) : readyP (updP A x) cls (some x.page) = readyP A cls (some x.page) := by
  induction A with
  | nil => rfl
  | cons u l ih =>
    unfold readyP clsP updP at *
    rw [List.filter_filter, List.filter_filter] at *
    rw [List.map_cons, List.filter_cons, List.filter_cons]
    by_cases e : u.page = x.page
    · rw [if_pos e, if_neg (by simp), if_neg (by simp [e])]
      exact ih
    · rw [if_neg e]
      split
      · exact congrArg _ ih
      · exact ih
theorem bestP_upd (A : List PS) (x : PS) (cls : Int) : bestP (updP A x) cls (some x.page) = bestP A cls (some x.page) := by
  unfold bestP
  rw [readyP_upd]

theorem HPost.of_push {w w' : World} {H : HL} {pages : Nat} {s : HP} (h : HeapAt w H pages s) {y : HS} (hy : y ∈ H.xs) {k : Nat} (hk : k < slB y.x.cls) (hn : k ∉ y.x.L)
    (hs : SlabAt w' y.sb H.cl { y.x.S with L := k :: y.x.S.L }) (hc : CellsAt w' H.cl H.cb (pushB H.bs y.x.S k)) (hok2 : SlabOk (pushB H.bs y.x.S k) { y.x.S with L := k :: y.x.S.L }) (ht : Turned (fun j => j = y.sb ∨ j = H.cb) w w') :
    ∃ H' : HL, H'.left = H.left ∧ { y with x := { y.x with L := k :: y.x.L } } ∈ H'.xs ∧ HeapAt w' H' pages ⟨s.l, updP s.A { y.x with L := k :: y.x.L }⟩ ∧ H.Of H' s ⟨s.l, updP s.A { y.x with L := k :: y.x.L }⟩ w.heap.size ∧ Turned H.F w w' := by
  have hyA := h.mem' hy
  have hok := h.inv.each y.x hyA
  have hs2 : w.heap[y.sb]? = some (.cells _ 131 (0, 0)) := (h.each y hy).slab
  have hof := h.ground.off hs2 (by decide) (by decide) (by decide) (by decide) (by decide) (by decide)
  have hoff := h.offs
  have hg := h.ground.turned ht (by rintro (e | e); exact block_ne h.ground.obj hs2 (by decide) e; exact block_ne h.ground.obj h.cells.bytes (by decide) e)
    (fun j hj => by rintro (e | e); exact hof (by rw [← e]; exact hj); exact hoff.2.2.1 (by rw [← e]; exact hj))
  have hne1 : ¬ (y.hb = y.sb ∨ y.hb = H.cb) := by rintro (e | e); exact block_ne (h.each y hy).held hs2 (by decide) e; exact block_ne (h.each y hy).held h.cells.bytes (by decide) e
  refine h.upd hy (x := { y.x with L := k :: y.x.L }) rfl (hok.push hk hn) (bs := pushB H.bs y.x.S k) (ht.mono (G := updF H y) (fun j hj _ => hj.elim (fun e => .inr (.inl e)) (fun e => .inr (.inr (.inl e))))) hg (fun j hj => .inl hj) hc
    (pushB_length (h.each y hy).ok hk) ((ht.block _ (lt_of_block (h.each y hy).held) hne1).trans (h.each y hy).held) hs hok2 ?_ (h.ent.same hyA rfl rfl rfl) ⟨?_⟩
  · intro z hz hne
    refine (h.each z hz).ok.congr (pushB_length (h.each y hy).ok hk) (fun i h1 h2 => pushB_getD (h.each y hy).ok hk i ?_)
    have a1 := h.inv.each z.x (h.mem' hz)
    have a2 := a1.al
    have a3 : z.x.page ≠ y.x.page := fun e => hne (h.uniq hz hy e)
    have a4 := hok.al
    have a5 := hok.addr_in hk
    have a6 := szB_pos hok.cls
    change 256 * z.x.page ≤ i at h1
    change i < 256 * z.x.page + 1024 at h2
    show i < y.x.addr k ∨ y.x.addr k + 8 ≤ i
    omega
  · intro t t1 t2 j hj
    have t3 := ((tkn_push h.inv hyA hk hn t).1 t2).2
    obtain ⟨z, hz, i, i1, i2, e⟩ := t1
    refine pushB_getD (h.each y hy).ok hk _ ?_
    have a1 := h.inv.each z hz
    have a2 := a1.al
    have a4 := hok.al
    have a5 := hok.addr_in hk
    have a6 := szB_pos hok.cls
    have a7 := a1.addr_in i1
    have a8 := szB_pos a1.cls
    show t + j < y.x.addr k ∨ y.x.addr k + 8 ≤ t + j
    by_cases hzx : z = y.x
    · subst hzx
      have hik : i ≠ k := fun e2 => t3 (by rw [e, e2])
      have := slot_apart (cls := y.x.cls) hok.cls hik
      unfold PS.addr at *
      omega
    · have a3 : z.page ≠ y.x.page := fun e2 => hzx (h.inv.same hz hyA e2)
      omega

theorem tkn_of_del {A : List PS} {p : Nat} {a : Int} (h : Tkn (delP A p) a) : Tkn A a := by
  obtain ⟨x, hx, k, h1, h2, h3⟩ := h
  exact ⟨x, (delP_mem.1 hx).1, k, h1, h2, h3⟩

end Go.Proofs.YtlljejmblmjjnaaGreat

/- newheap: Give. -/
namespace Go.Proofs.YtlljejmblmjjnaaGreat
set_option linter.unusedVariables false
set_option linter.unusedSimpArgs false
open Go.RowKit Go.ChangeMaps

theorem closeP_upd (s : HP) (x : PS) (L : List Nat) : closeP ⟨s.l, updP s.A { x with L := L }⟩ { x with L := L } = closeP s x := by
  unfold closeP
  show HP.mk _ (delP (updP s.A { x with L := L }) ({ x with L := L } : PS).page) = _
  rw [delP_upd]

set_option maxRecDepth 8000 in
set_option maxHeartbeats 4000000 in
theorem hgive_any {w : World} {H : HL} {pages : Nat} {s : HP} (h : HeapAt w H pages s) (at_ : Int) :
    Calls Tryz.prog 23 #[.pointer (some ⟨H.h, 0, none⟩), .int .i64 at_] w (HPost w H pages s (giveP s at_).2 (.int .i64 (giveP s at_).1)) := by
  have HN := Lib.hid (near_any h at_)
  have HH := Lib.hid h
  clear h
  go_enter Tryz.func23, Tryz.ntmps23
  go_wp2_with (fail)
  refine HN.out.mono ?_
  rintro e w1 ⟨o, rfl, hom, hox, hb⟩
  have HB1 := Lib.hid hb
  clear hb
  cases o with
  | none =>
    have HG : Hid (giveP s at_ = (12, s)) := by
      show _ = _
      unfold giveP
      rw [← hox]
      rfl
    clear hom hox
    rw [show ptrH none = .pointer none from rfl]
    go_wp2
    go_ret
    have := HH.out.stays HB1.out (v := .int .i64 12) (e := .returned (.int .i64 12)) rfl
    rw [HG.out]
    exact this
  | some y =>
    have hy := hom y rfl
    have hnear : nearP s.A at_ = some y.x := hox.symm
    clear hom hox
    rw [show ptrH (some y) = .pointer (some ⟨y.hb, 0, none⟩) from rfl]
    have h1 := HH.out.below HB1.out
    obtain ⟨y0, y1⟩ := (h1.each y hy).cells
    have hok := h1.inv.each y.x (h1.mem' hy)
    have hsb := SlabAt.ne (h1.each y hy).slab h1.cells
    have hGV := sgive_any y.sb H.cl H.cb H.bs y.x.S at_ w1 (h1.each y hy).slab h1.cells (h1.each y hy).ok hsb.1 hsb.2
    have hGI := giveP_is s at_
    have H1 := Lib.hid h1
    have HY := Lib.hid hy
    have HOK := Lib.hid hok
    unfold GiveDone at hGV
    cases hsl : slotF y.x.S at_ with
    | none =>
      rw [hsl] at hGV
      have HGV : Hid (Calls Tryz.prog 55 #[.pointer (some ⟨y.sb, 0, none⟩), .int .i64 at_] w1 fun e w' => e = .returned (.int .i64 12) ∧ Below w1.heap.size w1 w') := hGV
      have HG : Hid (giveP s at_ = (12, s)) := by
        show _ = _
        unfold giveP
        rw [hnear]
        simp only [hsl]
      clear hGV hGI hsl hnear h1 hy hok hsb y1
      go_wp2_with (fail)
      refine HGV.out.mono ?_
      rintro e w2 ⟨rfl, hb2⟩
      have HB2 := Lib.hid (Below.via hb2 HB1.out.size HB1.out)
      clear hb2
      go_wp2
      go_ret
      have := HH.out.stays HB2.out (v := .int .i64 12) (e := .returned (.int .i64 12)) rfl
      rw [HG.out]
      exact this
    | some k =>
      rw [hsl] at hGV
      by_cases hk : k ∈ y.x.L
      · have HGV : Hid (Calls Tryz.prog 55 #[.pointer (some ⟨y.sb, 0, none⟩), .int .i64 at_] w1 fun e w' => e = .returned (.int .i64 19) ∧ Below w1.heap.size w1 w') := hGV.mono (fun e w' hh => by
          have hk' : k ∈ y.x.S.L := hk
          simp only [hk', if_true] at hh
          exact hh)
        have HG : Hid (giveP s at_ = (19, s)) := by
          show _ = _
          unfold giveP
          rw [hnear]
          simp only [hsl, hk, if_true]
        clear hGV hGI hsl hnear h1 hy hok hsb y1 hk
        go_wp2_with (fail)
        refine HGV.out.mono ?_
        rintro e w2 ⟨rfl, hb2⟩
        have HB2 := Lib.hid (Below.via hb2 HB1.out.size HB1.out)
        clear hb2
        go_wp2
        go_ret
        have := HH.out.stays HB2.out (v := .int .i64 19) (e := .returned (.int .i64 19)) rfl
        rw [HG.out]
        exact this
      · have hlt : k < slB y.x.cls := (slotF_some (S := y.x.S) hok.cls hsl).2
        have HGV : Hid (Calls Tryz.prog 55 #[.pointer (some ⟨y.sb, 0, none⟩), .int .i64 at_] w1 fun e w' => e = .returned (.int .i64 0) ∧ SlabAt w' y.sb H.cl { y.x.S with L := k :: y.x.S.L } ∧ CellsAt w' H.cl H.cb (pushB H.bs y.x.S k) ∧ SlabOk (pushB H.bs y.x.S k) { y.x.S with L := k :: y.x.S.L } ∧ Turned (fun j => j = y.sb ∨ j = H.cb) w1 w') := hGV.mono (fun e w' hh => by
          have hk' : ¬ k ∈ y.x.S.L := hk
          simp only [hk', if_false] at hh
          exact hh)
        have HG : Hid (giveP s at_ = if (({ y.x with L := k :: y.x.L } : PS).empty && (y.x.sealed || (bestP s.A y.x.cls (some y.x.page)).isSome)) = true then (0, closeP s y.x) else (0, ⟨s.l, updP s.A { y.x with L := k :: y.x.L }⟩)) := by
          show _ = _
          unfold giveP
          rw [hnear]
          simp only [hsl, hk, if_false]
        have HTS : Hid (∀ t, Tkn s.A t → Tkn (closeP s y.x).A t → Tkn (updP s.A { y.x with L := k :: y.x.L }) t) := by
          intro t t1 t2
          have hyA := h1.mem' hy
          rw [tkn_push h1.inv hyA hlt hk]
          refine ⟨t1, fun e => ?_⟩
          obtain ⟨z, z1, z2, j, j1, j2, j3⟩ := (tkn_del h1.inv hyA t).1 t2
          exact z2 (h1.inv.tkn_uniq z1 hyA j1 hlt (by rw [j3] at e; exact_mod_cast e)).1
        have HK := Lib.hid hk
        have HLT := Lib.hid hlt
        clear hGV hGI hsl hnear h1 hy hok hsb y1 hk hlt
        go_wp2_with (fail)
        refine HGV.out.mono ?_
        rintro e w2 ⟨rfl, hs2, hc2, hok2, ht2⟩
        obtain ⟨H2, hl2, hy2, hA2, hOf2, hT2⟩ := HPost.of_push H1.out HY.out HLT.out HK.out hs2 hc2 hok2 ht2
        obtain ⟨z0, z1⟩ := (hA2.each _ hy2).cells
        have hokx := hA2.inv.each _ (hA2.mem' hy2)
        obtain ⟨x', hx'⟩ : ∃ x' : PS, x' = { y.x with L := k :: y.x.L } := ⟨_, rfl⟩
        obtain ⟨y', hy'⟩ : ∃ y' : HS, y' = { y with x := { y.x with L := k :: y.x.L } } := ⟨_, rfl⟩
        have hh : H2.h = H.h := hOf2.h
        rw [← hy'] at hy2 z0 z1 hokx
        have hhb : y'.hb = y.hb := by rw [hy']
        have hsbb : y'.sb = y.sb := by rw [hy']
        have hsd : y'.x.sealed = y.x.sealed := by rw [hy']
        have hcls : y'.x.cls = y.x.cls := by rw [hy']
        have hpg : y'.x.page = y.x.page := by rw [hy']
        have hyx : y'.x = x' := by rw [hy', hx']
        have HEM := Lib.hid (hempty_any pages H2.cl H2.bs y' w2 (hA2.each _ hy2) hokx)
        have HCLS := Lib.hid (class_any y'.sb H2.cl y'.x.S w2 (hA2.each _ hy2).slab)
        obtain ⟨zs, hz⟩ := hA2.sorted
        have hBY := hA2.bestY_x hz (y.x.cls : Int) (some y') (by rintro u hu; cases hu; exact hy2)
        have HBE : Hid (∀ W, Below w2.heap.size w2 W → Calls Tryz.prog 44 #[.pointer (some ⟨H.h, 0, none⟩), .int .i64 (y.x.cls : Int), .pointer (some ⟨y.hb, 0, none⟩)] W fun e w' => e = .returned (ptrH (bestY zs (y.x.cls : Int) (some y'))) ∧ Below W.heap.size W w') := fun W hW => by
          have := best_any (hA2.below hW) hz (y.x.cls : Int) (some y') (by rintro u hu; cases hu; exact hy2)
          rw [hh] at this
          rw [show ptrH (some y') = .pointer (some ⟨y'.hb, 0, none⟩) from rfl, hhb] at this
          exact this
        have HCL : Hid (∀ W, Below w2.heap.size w2 W → Calls Tryz.prog 58 #[.pointer (some ⟨H.h, 0, none⟩), .pointer (some ⟨y.hb, 0, none⟩)] W (HPost W H2 pages ⟨s.l, updP s.A x'⟩ (closeP s y.x) (.tuple #[]))) := fun W hW => by
          have := hclose_any (hA2.below hW) hy2
          rw [hh, hhb, hyx, hx', closeP_upd] at this
          rw [hx']
          exact this
        rw [hhb] at HEM z0 z1
        rw [hsbb] at z0
        rw [hsd] at z1
        rw [hsbb] at HCLS
        have hcs : y'.x.S.cls = y.x.cls := hcls
        rw [hcs] at HCLS
        rw [hyx] at HEM
        have hBY2 : (bestY zs (y.x.cls : Int) (some y')).map (·.x) = bestP s.A y.x.cls (some y.x.page) := by
          rw [hBY]
          show bestP (updP s.A { y.x with L := k :: y.x.L }) _ (some y'.x.page) = _
          rw [hpg]
          exact bestP_upd s.A { y.x with L := k :: y.x.L } _
        have HSTAY : Hid (giveP s at_ = (0, ⟨s.l, updP s.A x'⟩) → ∀ W, Below w2.heap.size w2 W → HPost w H pages s (giveP s at_).2 (.int .i64 (giveP s at_).1) (.returned (.int .i64 0)) W) := by
          intro hg W hW
          rw [hg]
          have hA2' := hA2
          rw [← hx'] at hA2' hOf2
          exact HPost.trans rfl (HL.Of.refl H s _) (Turned.of_below HB1.out (Nat.le_refl _)) (HPost.trans hl2 hOf2 hT2 (hA2'.stays hW (v := .int .i64 0) rfl) (fun t _ t2 => t2)) (fun t t1 _ => t1)
        have HCLO : Hid (giveP s at_ = (0, closeP s y.x) → ∀ W w3, Below w2.heap.size w2 W → HPost W H2 pages ⟨s.l, updP s.A x'⟩ (closeP s y.x) (.tuple #[]) (.returned (.tuple #[])) w3 → HPost w H pages s (giveP s at_).2 (.int .i64 (giveP s at_).1) (.returned (.int .i64 0)) w3) := by
          intro hg W w3 hW hp
          rw [hg]
          rw [← hx'] at hOf2
          have hp' : HPost W H2 pages ⟨s.l, updP s.A x'⟩ (closeP s y.x) (.int .i64 0) (.returned (.int .i64 0)) w3 := ⟨rfl, hp.2⟩
          refine HPost.trans rfl (HL.Of.refl H s _) (Turned.of_below HB1.out (Nat.le_refl _)) (HPost.trans hl2 hOf2 hT2 (HPost.trans rfl (HL.Of.refl H2 _ _) (Turned.of_below hW (Nat.le_refl _)) hp' (fun t t1 _ => t1)) ?_) (fun t t1 _ => t1)
          rw [hx']
          exact HTS.out
        rw [← hx'] at HG
        clear hs2 hc2 hok2 ht2 hA2 hOf2 hT2 hy2 hokx hBY hz hy' hhb hsbb hsd hcls hpg hyx hcs hl2 hh HGV HN HTS y0
        clear hx'
        cases hem : x'.empty with
        | false =>
          rw [hem] at HEM HG
          have hG : giveP s at_ = (0, ⟨s.l, updP s.A x'⟩) := HG.out
          have HS := Lib.hid (HSTAY.out hG w2 (Below.refl _ _))
          clear hG hBY2 z0 z1
          go_wp2_with (fail)
          refine HEM.out.mono ?_
          rintro e w3 ⟨rfl, rfl⟩
          go_wp2
          go_ret
          exact HS.out
        | true =>
          rw [hem] at HEM HG
          cases hsd : y.x.sealed with
          | true =>
            rw [hsd] at HG z1
            have hG : giveP s at_ = (0, closeP s y.x) := HG.out
            have HS := Lib.hid (HCLO.out hG w2)
            clear hG hBY2 z0 hsd
            go_wp2_with (fail)
            refine HEM.out.mono ?_
            rintro e w3 ⟨rfl, rfl⟩
            go_wp2_with (fail)
            refine (HCL.out _ (Below.refl _ _)).mono ?_
            rintro e w4 hp
            have hF := HS.out w4 (Below.refl _ _) ⟨rfl, hp.2⟩
            obtain ⟨rfl, -⟩ := hp
            have HF := Lib.hid hF
            clear hF
            go_wp2
            go_ret
            exact HF.out
          | false =>
            rw [hsd] at HG z1
            rw [← hBY2] at HG
            cases hby : bestY zs (y.x.cls : Int) (some y') with
            | none =>
              rw [hby] at HG HBE
              simp only [ptrH] at HBE
              have hG : giveP s at_ = (0, ⟨s.l, updP s.A x'⟩) := HG.out
              have HS := Lib.hid (HSTAY.out hG)
              clear hG hBY2 hsd hby
              go_wp2_with (fail)
              refine HEM.out.mono ?_
              rintro e w3 ⟨rfl, rfl⟩
              go_wp2_with (fail)
              refine HCLS.out.mono ?_
              rintro e w3 ⟨rfl, rfl⟩
              go_wp2_with (fail)
              refine (HBE.out _ (Below.refl _ _)).mono ?_
              rintro e w4 ⟨rfl, hb4⟩
              have HB4 := Lib.hid hb4
              clear hb4
              go_wp2
              go_ret
              exact HS.out _ HB4.out
            | some u =>
              rw [hby] at HG HBE
              simp only [ptrH] at HBE
              have hG : giveP s at_ = (0, closeP s y.x) := HG.out
              have HS := Lib.hid (HCLO.out hG)
              clear hG hBY2 hsd hby
              go_wp2_with (fail)
              refine HEM.out.mono ?_
              rintro e w3 ⟨rfl, rfl⟩
              go_wp2_with (fail)
              refine HCLS.out.mono ?_
              rintro e w3 ⟨rfl, rfl⟩
              go_wp2_with (fail)
              refine (HBE.out _ (Below.refl _ _)).mono ?_
              rintro e w4 ⟨rfl, hb4⟩
              have HB4 := Lib.hid hb4
              clear hb4
              go_wp2_with (fail)
              refine (HCL.out _ HB4.out).mono ?_
              rintro e w5 hp
              have hF := HS.out w4 w5 HB4.out ⟨rfl, hp.2⟩
              obtain ⟨rfl, -⟩ := hp
              have HF := Lib.hid hF
              clear hF
              go_wp2
              go_ret
              exact HF.out

end Go.Proofs.YtlljejmblmjjnaaGreat
