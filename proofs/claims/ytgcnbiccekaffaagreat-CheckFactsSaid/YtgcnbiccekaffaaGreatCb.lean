/- CopyBytes: a copy of bytes, in memory of its own. -/
import Derived.Test.YtgcnbiccekaffaaGreatAlz
import Derived.Laws.AppendOwn
import Derived.Laws.AppendOwnNone
namespace Go.Proofs.YtgcnbiccekaffaaGreat
open Go.RowKit Go.ChangeMaps

def byteV (v : Int) : Value := .int .u8 v

/-- What CopyBytes hands back. -/
def CopyPost (w : World) (ds : List Int) (e : Ending) (w' : World) : Prop :=
  ∃ p q, e = .returned (.slice p ds.length q) ∧ w'.ownsRow w.heap.size 5 1 (.slice p ds.length q) ds.length (ds.map byteV) ∧ BytesIn w' p ds ∧ Below w.heap.size w w'

theorem bytes_own {w : World} {base : Nat} {p : Option Addr} {n q : Nat} {ds : List Int} (hn : n = ds.length) (h : w.ownsRow base 5 1 (.slice p n q) n (ds.map byteV)) : BytesIn w p ds := by
  subst hn
  intro i hi
  rcases h.2 with ⟨h0, h1⟩ | ⟨g, cap, cur, h0, hb, hg, r1, r2, r3, r4⟩
  · omega
  · cases h0
    refine ⟨g, 0, rfl, ?_⟩
    rw [cell_of_block hg, ← Array.getElem?_toList]
    have : cur.toList[0 + i]? = (ds.map byteV)[i]? := by rw [← r4, List.getElem?_take, if_pos (by omega), Nat.zero_add]
    rw [this]
    simp [List.getElem?_map, List.getElem?_eq_getElem hi, byteV, List.getD]

set_option maxRecDepth 100000 in
set_option maxHeartbeats 4000000 in
theorem copy_any (w : World) (p : Option Addr) (q : Nat) (ds : List Int) (h : BytesIn w p ds) (hl : ds.length ≤ 140737488355328) (h0 : p = none → q = 0) :
    Calls Tryz.prog 32 #[.slice p ds.length q] w (CopyPost w ds) := by
  obtain ⟨i0, hi, hz0, hz1, hz2⟩ := info_parts info_byte
  have hown : (w.alloc (.cells #[] 5)).ownsRow w.heap.size 5 1 (.slice (some ⟨w.heap.size, 0, none⟩) 0 0) 0 [] := World.ownsRow_made w #[] 0 (Nat.le_refl _) (Nat.zero_le _) rfl
  have hb1 : Below w.heap.size w (w.alloc (.cells #[] 5)) := (Below.refl _ _).alloc (Nat.le_refl _) _
  have HB1 := Lib.hid hb1
  have HOWN := Lib.hid hown
  have HMAX : Hid (0 + ds.length ≤ maxLen) := by show _ ≤ _; unfold maxLen; omega
  have HBY : Hid ((0 + ds.length) * 1 ≤ 140737488355328) := by show _ ≤ _; omega
  have HONE : Hid (∀ u ∈ ds.map byteV, u.oneCell' = true) := fun u hu => by
    obtain ⟨v, _, rfl⟩ := List.mem_map.1 hu
    rfl
  have HLEN : Hid ((ds.map byteV).length = ds.length * 1) := by show _ = _; simp
  clear hown hb1 hl
  cases p with
  | none =>
    have hds : ds = [] := by
      cases ds with
      | nil => rfl
      | cons v l => obtain ⟨b, o, e, _⟩ := h 0 (by simp); cases e
    subst hds
    obtain rfl : q = 0 := h0 rfl
    go_enter Tryz.func32, Tryz.ntmps32
    go_wp2_with (at_builtin; refine wpList_append_own_none rfl _ _ 34 rfl w.heap.size 5 i0 1 Tryz.underlying34 hi _ 0 [] rfl HOWN.out rfl ?_)
    go_ret
    exact ⟨_, _, rfl, HOWN.out, fun i hi => absurd hi (Nat.not_lt_zero i), HB1.out⟩
  | some a =>
    have HN : Hid (∀ j u, (ds.map byteV)[j]? = some u → (w.alloc (.cells #[] 5)).cell? (a.add j) = some u) := fun j u hu => by
      have hj : j < ds.length := by simpa using (List.getElem?_eq_some_iff.1 hu).1
      obtain ⟨b, o, e, hc⟩ := h j hj
      cases e
      rw [show Addr.add ⟨b, o, none⟩ j = ⟨b, o + j, none⟩ from by unfold Addr.add; split; (rename_i h; subst h; rfl); rfl]
      rw [World.cell?_alloc_past _ _ _ (cell_lt hc), hc, ← hu]
      simp [List.getElem?_map, List.getElem?_eq_getElem hj, byteV, List.getD]
    clear h h0
    go_enter Tryz.func32, Tryz.ntmps32
    go_wp2_with (at_builtin; refine wpList_append_own _ rfl _ _ 34 rfl w.heap.size 5 i0 (.int .u8 0) 1 1 Tryz.underlying34 hi hz0 hz1 hz2 rfl (by decide) _ 0 [] rfl HOWN.out a ds.length q (ds.map byteV) rfl HLEN.out HN.out HONE.out HMAX.out HBY.out (by simp) ?_; intro v' w3 hown' hgrow3 hnil3)
    have hown2 : w3.ownsRow w.heap.size 5 1 v' ds.length (ds.map byteV) := by simpa using hown'
    have hbel : Below w.heap.size w w3 := HB1.out.grown hgrow3 (by simp) (fun j e => by cases e; exact Nat.le_refl _)
    obtain ⟨p', q', rfl⟩ : ∃ p' q', v' = .slice p' ds.length q' := by
      rcases hown2.2 with ⟨h1, h2⟩ | ⟨g, cap, cur, h1, _⟩
      · exact ⟨none, 0, by rw [h1, h2]⟩
      · exact ⟨_, _, h1⟩
    go_ret
    exact ⟨_, _, rfl, hown2, bytes_own rfl hown2, hbel⟩

end Go.Proofs.YtgcnbiccekaffaaGreat
