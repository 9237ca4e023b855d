/- Rows of slabs in memory; the best of a row: plain lists. -/
import Derived.Test.YtlljejmblmjjnaaGreatMh
import Derived.WalkKit
import Derived.WalkSpells
import Derived.WalkLawsBesides
import Derived.BigQuiet
import Derived.Lib.Hide
namespace Go.Proofs.YtlljejmblmjjnaaGreat
set_option linter.unusedVariables false
set_option linter.unusedSimpArgs false
open Go.RowKit Go.ChangeMaps

/-- A row of what is told of slabs, in memory. -/
def RowsV (w : World) (base : Nat) (v : Value) (l : List PS) : Prop := w.ownsRow base 52 3 v l.length (rowVs l)
theorem RowsV.below {w w' : World} {base : Nat} {v : Value} {l : List PS} (h : RowsV w base v l) (hb : Below w.heap.size w w') : RowsV w' base v l := ownsRow_below h hb
theorem RowsV.turned {w w' : World} {base : Nat} {v : Value} {l : List PS} {H : HL} {pages : Nat} {s : HP} (h : RowsV w base v l) (ha : HeapAt w H pages s) (t : Turned H.F w w') : RowsV w' base v l :=
  own_turned h t (fun g cs hg _ => ha.offT hg (by decide))
theorem rowVs_get {l : List PS} {i : Nat} (h : i < l.length) : (rowVs l)[i * 3]? = some (.int .i64 (l[i].page : Int)) ∧ (rowVs l)[i * 3 + 1]? = some (.int .i64 (l[i].L.length : Nat)) ∧ (rowVs l)[i * 3 + 2]? = some (.bool l[i].sealed) := by
  have e : l = l.take i ++ (l[i] :: l.drop (i + 1)) := by simp
  have h0 : ∀ m : List PS, (rowVs m).length = m.length * 3 := fun m => by
    induction m with
    | nil => rfl
    | cons b m ih => unfold rowVs at *; rw [List.flatMap_cons, List.length_append, ih, List.length_cons]; simp [rowV1]; omega
  have h1 : rowVs l = rowVs (l.take i) ++ (rowV1 l[i] ++ rowVs (l.drop (i + 1))) := by
    rw [show rowVs l = rowVs (l.take i ++ (l[i] :: l.drop (i + 1))) from by rw [← e], rowVs_append]; rfl
  have h2 : (rowVs (l.take i)).length = i * 3 := by rw [h0, List.length_take]; omega
  refine ⟨?_, ?_, ?_⟩
  · rw [h1, List.getElem?_append_right (by omega), h2, Nat.sub_self]; rfl
  · rw [h1, List.getElem?_append_right (by omega), h2, show i * 3 + 1 - i * 3 = 1 by omega]; rfl
  · rw [h1, List.getElem?_append_right (by omega), h2, show i * 3 + 2 - i * 3 = 2 by omega]; rfl
theorem RowsV.open {w : World} {base : Nat} {v : Value} {l : List PS} (h : RowsV w base v l) : ∃ p cap, v = .slice p l.length cap ∧ ∀ i (hi : i < l.length), ∃ g, p = some ⟨g, 0, none⟩ ∧ base ≤ g ∧
    w.cell? ⟨g, i * 3, none⟩ = some (.int .i64 (l[i].page : Int)) ∧ w.cell? ⟨g, i * 3 + 1, none⟩ = some (.int .i64 (l[i].L.length : Nat)) ∧ w.cell? ⟨g, i * 3 + 2, none⟩ = some (.bool l[i].sealed) := by
  by_cases h0 : 0 < l.length
  · obtain ⟨g, cap, rfl, hb, -, -, -, hc⟩ := own_cells h h0
    refine ⟨_, cap, rfl, fun i hi => ⟨g, rfl, hb, ?_, ?_, ?_⟩⟩
    · rw [hc _ (by omega)]; exact (rowVs_get hi).1
    · rw [hc _ (by omega)]; exact (rowVs_get hi).2.1
    · rw [hc _ (by omega)]; exact (rowVs_get hi).2.2
  · obtain ⟨p, c, rfl⟩ := own_slice2 h
    exact ⟨p, c, rfl, fun i hi => absurd hi (by omega)⟩

/-- The fullest ready slab of a list. -/
def bestOf (l : List PS) : Option PS := match l.filter PS.ready with | [] => none | m :: t => some (minP m t)
theorem minP_snoc : ∀ (t : List PS) (m x : PS), minP m (t ++ [x]) = if x.L.length < (minP m t).L.length then x else minP m t
  | [], m, x => rfl
  | y :: t, m, x => by
    show minP _ (t ++ [x]) = _
    rw [minP_snoc t]
    rfl
theorem bestOf_snoc (l : List PS) (x : PS) : bestOf (l ++ [x]) = if x.ready then (match bestOf l with | none => some x | some m => if x.L.length < m.L.length then some x else some m) else bestOf l := by
  unfold bestOf
  rw [List.filter_append]
  cases hx : x.ready with
  | false =>
    rw [if_neg (by simp), show [x].filter PS.ready = [] by simp [hx], List.append_nil]
  | true =>
    rw [if_pos rfl, show [x].filter PS.ready = [x] by simp [hx]]
    cases l.filter PS.ready with
    | nil => rfl
    | cons m t =>
      show some (minP m (t ++ [x])) = _
      rw [minP_snoc]
      simp only
      split <;> rfl
theorem bestP_bestOf (A : List PS) (cls : Int) : bestP A cls none = bestOf (clsP A cls) := by
  have : readyP A cls none = (clsP A cls).filter PS.ready := by
    unfold readyP
    apply List.filter_congr
    intro x _
    simp
  unfold bestP bestOf
  rw [this]
  cases (clsP A cls).filter PS.ready <;> rfl
theorem clsP_upd (A : List PS) (x : PS) (cls : Int) (hc : ∀ y ∈ A, y.page = x.page → y.cls = x.cls) : clsP (updP A x) cls = updP (clsP A cls) x := by
  unfold clsP updP
  rw [List.filter_map]
  congr 1
  apply List.filter_congr
  intro y hy
  simp only [Function.comp]
  split
  · next e => rw [hc y hy e]
  · rfl
theorem clsP_ins (A : List PS) (y : PS) (cls : Int) (hc : (y.cls : Int) = cls) : (clsP (insP y A) cls).length = (clsP A cls).length + 1 := by
  have := ((insP_perm y A).filter (fun x : PS => (x.cls : Int) == cls)).length_eq
  unfold clsP
  rw [this, List.filter_cons, if_pos (by simpa using hc), List.length_cons]
theorem clsP_srt {A : List PS} (cls : Int) (h : A.Pairwise fun x y => x.page < y.page) : (clsP A cls).Pairwise fun x y => x.page < y.page := h.filter _
theorem srt_inj {l : List PS} (h : l.Pairwise fun x y => x.page < y.page) {i j : Nat} (hi : i < l.length) (hj : j < l.length) (e : l[i].page = l[j].page) : i = j := by
  have hp := List.pairwise_iff_getElem.1 h
  rcases Nat.lt_trichotomy i j with hij | rfl | hij
  · have := hp i j hi hj hij; omega
  · rfl
  · have := hp j i hj hi hij; omega
theorem bestP_range {pages : Nat} {s : HP} (h : HInv pages s) {cls : Int} (hc : ¬ (0 ≤ cls ∧ cls < 12)) : bestP s.A cls none = none := by
  cases hb : bestP s.A cls none with
  | none => rfl
  | some x =>
    obtain ⟨h1, h2, -⟩ := bestP_mem hb
    have := (h.each x h1).cls
    omega
theorem addr_page {pages : Nat} {x : PS} (h : x.Ok pages) {k : Nat} (hk : k < slB x.cls) : ((x.addr k : Nat) : Int) / 1024 * 4 = (x.page : Int) := by
  have h1 := h.addr_in hk
  have h2 := h.al
  have h3 := szB_pos h.cls
  omega

theorem bestOf_mem {l : List PS} {b : PS} (h : bestOf l = some b) : b ∈ l ∧ b.ready = true := by
  unfold bestOf at h
  split at h
  · cases h
  · next m t e =>
    cases h
    have : minP m t ∈ l.filter PS.ready := by
      rw [e]
      rcases minP_mem t m with hh | hh
      · rw [hh]; exact List.mem_cons_self
      · exact List.mem_cons_of_mem _ hh
    exact List.mem_filter.1 this
/-- What Take does to the rows of a class. -/
theorem take_rows {pages : Nat} {s : HP} (h : HGood pages s) {cls : Int} (hc : 0 ≤ cls ∧ cls < 12) :
    (bestOf (clsP s.A cls) = none → ((takeP s cls).1.2 = 0 ∧ (placeR 4 4 s.l).isSome = true ∧ (clsP (takeP s cls).2.A cls).length = (clsP s.A cls).length + 1) ∨ ((takeP s cls).1.2 = 13 ∧ (placeR 4 4 s.l).isSome = false)) ∧
    (∀ j (hj : j < (clsP s.A cls).length), bestOf (clsP s.A cls) = some (clsP s.A cls)[j] → (takeP s cls).1.2 = 0 ∧ 0 ≤ (takeP s cls).1.1 ∧ (takeP s cls).1.1 / 1024 * 4 = ((clsP s.A cls)[j].page : Int) ∧
      (clsP (takeP s cls).2.A cls).length = (clsP s.A cls).length ∧ ∀ i (hi : i < (clsP s.A cls).length) (hi2 : i < (clsP (takeP s cls).2.A cls).length), (clsP (takeP s cls).2.A cls)[i].page = (clsP s.A cls)[i].page ∧ (clsP (takeP s cls).2.A cls)[i].sealed = (clsP s.A cls)[i].sealed ∧
        ((clsP (takeP s cls).2.A cls)[i].L.length : Int) = if i = j then ((clsP s.A cls)[i].L.length : Int) - 1 else ((clsP s.A cls)[i].L.length : Int)) := by
  have hi := takeP_is h.inv cls
  rw [← bestP_bestOf]
  revert hi
  generalize takeP s cls = q
  intro hi
  cases hi with
  | range hh => exact absurd hc hh
  | full c hcc hc2 hb hp => exact ⟨fun _ => .inr ⟨rfl, by rw [hp]; rfl⟩, fun j hj e => by rw [hb] at e; cases e⟩
  | new c hcc hc2 hb k r hp hr hf hfit =>
    refine ⟨fun _ => .inl ⟨rfl, by rw [hp]; rfl, ?_⟩, fun j hj e => by rw [hb] at e; cases e⟩
    exact clsP_ins s.A _ cls hcc.symm
  | old x j l c hcc hc2 hb hx hxc hxs hl =>
    refine ⟨fun e => (by rw [hb] at e; cases e), fun k hk e => ?_⟩
    rw [hb] at e
    have ek : (clsP s.A cls)[k] = x := (Option.some.inj e).symm
    have hj := (h.inv.each x hx).lt j (by rw [hl]; exact List.mem_cons_self)
    have hcu : clsP (updP s.A { x with L := l }) cls = updP (clsP s.A cls) { x with L := l } := clsP_upd _ _ _ (fun y hy ep => by rw [h.inv.same hy hx ep])
    refine ⟨rfl, Int.natCast_nonneg _, by rw [ek]; exact addr_page (h.inv.each x hx) hj, ?_⟩
    have hlen : (clsP (updP s.A { x with L := l }) cls).length = (clsP s.A cls).length := by rw [hcu, updP_length]
    refine ⟨hlen, fun i hi hi2 => ?_⟩
    have hget : (clsP (updP s.A { x with L := l }) cls)[i] = if (clsP s.A cls)[i].page = x.page then { x with L := l } else (clsP s.A cls)[i] := by
      simp only [hcu]
      unfold updP
      rw [List.getElem_map]
    have hpk : (clsP s.A cls)[i].page = x.page ↔ i = k := by
      constructor
      · intro ep
        exact srt_inj (clsP_srt cls h.inv.srt) hi hk (by rw [ek]; exact ep)
      · intro ei
        subst ei
        rw [ek]
    rw [hget]
    by_cases ei : i = k
    · subst ei
      rw [if_pos rfl, if_pos (hpk.2 rfl), ek]
      refine ⟨rfl, rfl, ?_⟩
      show ((l.length : Nat) : Int) = _
      rw [hl, List.length_cons]
      omega
    · rw [if_neg ei, if_neg (fun ep => ei (hpk.1 ep))]
      exact ⟨rfl, rfl, rfl⟩

end Go.Proofs.YtlljejmblmjjnaaGreat
