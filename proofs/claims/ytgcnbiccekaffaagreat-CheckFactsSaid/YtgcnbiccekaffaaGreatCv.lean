/- Events and their copies: plain lemmas. -/
import Derived.Test.YtgcnbiccekaffaaGreatOs
import Derived.Test.YtgcnbiccekaffaaGreatOl
import Derived.Test.YtgcnbiccekaffaaGreatOg
namespace Go.Proofs.YtgcnbiccekaffaaGreat
open Go.RowKit Go.ChangeMaps

theorem evC_at {es es' : List EvM} (h : es'.map evC = es.map evC) (i : Nat) : evC (evAt es' i) = evC (evAt es i) := by
  have h1 := congrArg (fun l => l[i]?) h
  simp only [List.getElem?_map] at h1
  unfold evAt
  rw [List.getD_eq_getElem?_getD, List.getD_eq_getElem?_getD]
  cases h2 : es'[i]? <;> cases h3 : es[i]? <;> rw [h2, h3] at h1 <;> simp at h1
  all_goals first | rfl | exact h1

theorem evC_parts {x y : EvM} (h : evC x = evC y) : x.wk = y.wk ∧ x.asked = y.asked ∧ x.took = y.took ∧ x.ended = y.ended := by
  unfold evC at h
  simp only [Prod.mk.injEq] at h
  exact ⟨h.1, h.2.2.2.1, h.2.2.2.2.1, h.2.2.2.2.2⟩

theorem evC_len {es es' : List EvM} (h : es'.map evC = es.map evC) : es'.length = es.length := by simpa using congrArg List.length h

theorem evC_pick {es es' : List EvM} (h : es'.map evC = es.map evC) (k : Nat) : pickK es' k = pickK es k := by
  unfold pickK
  refine List.filter_congr fun i _ => ?_
  rw [tookAt_ev, tookAt_ev, (evC_parts (evC_at h i)).2.2.1]

theorem evC_clash {x y x' y' : EvM} (h : evC x = evC x') (h2 : evC y = evC y') : clashE x y = clashE x' y' := by
  obtain ⟨a1, a2, a3, a4⟩ := evC_parts h
  obtain ⟨b1, b2, b3, b4⟩ := evC_parts h2
  unfold clashE befE
  rw [a1, a2, a3, a4, b1, b2, b3, b4]

theorem evC_timely {es es' : List EvM} (h : es'.map evC = es.map evC) : es'.all timelyE = es.all timelyE := by
  have e : ∀ l : List EvM, l.all timelyE = (l.map evC).all (fun t => t.2.2.2.2.1 == 0 || timelyB t.2.2.2.1 t.2.2.2.2.1 t.2.2.2.2.2) := fun l => by rw [List.all_map]; rfl
  rw [e, e, h]

theorem evC_good {es es' : List EvM} (h : es'.map evC = es.map evC) : GoodE es' ↔ GoodE es := by
  unfold GoodE
  rw [noClash_pairs, noClash_pairs, evC_timely h, evC_len h, evC_pick h]
  have e : ∀ a b, clashE (evAt es' a) (evAt es' b) = clashE (evAt es a) (evAt es b) := fun a b => evC_clash (evC_at h a) (evC_at h b)
  simp only [e]

theorem evC_took {es es' : List EvM} (h : es'.map evC = es.map evC) (i : Nat) : tookAt es' i = tookAt es i := by
  rw [tookAt_ev, tookAt_ev, (evC_parts (evC_at h i)).2.2.1]

theorem ints_own {w : World} {base : Nat} {v : Value} {ys : List Nat} (h : w.ownsRow base 3 1 v ys.length (ys.map natV)) : ∃ p c, v = .slice p ys.length c ∧ IntsAt w p (ys.map fun (i : Nat) => (i : Int)) := by
  rcases h.2 with ⟨h0, h1⟩ | ⟨g, cap, cur, h0, hb, hg, r1, r2, r3, r4⟩
  · refine ⟨none, 0, by rw [h0, h1], fun i hi => ?_⟩
    rw [List.length_map] at hi
    omega
  · refine ⟨_, cap, h0, fun i hi => ⟨g, 0, rfl, ?_⟩⟩
    have hi2 : i < ys.length := by simpa using hi
    rw [cell_of_block hg, ← Array.getElem?_toList, Nat.zero_add]
    have e : cur.toList[i]? = (ys.map natV)[i]? := by rw [← r4, List.getElem?_take, if_pos (by omega)]
    rw [e]
    simp [hi2, natV]

theorem evs_own {w : World} {base : Nat} {v : Value} {es : List EvM} {n : Nat} (hn : es.length = n) (h : w.ownsRow base 96 16 v n (es.flatMap evV)) : ∃ p c, v = .slice p es.length c ∧ EvsAt w p es := by
  subst hn
  rcases h.2 with ⟨h0, h1⟩ | ⟨g, cap, cur, h0, hb, hg, r1, r2, r3, r4⟩
  · exact ⟨none, 0, by rw [h0, h1], fun i hi => by omega⟩
  · refine ⟨_, cap, h0, fun i hi => ⟨g, 0, rfl, fun j v hv => ?_⟩⟩
    have hj : j < 16 := (List.getElem?_eq_some_iff.1 hv).1
    rw [cell_of_block hg, ← Array.getElem?_toList, Nat.zero_add]
    have e : cur.toList[i * 16 + j]? = (es.flatMap evV)[i * 16 + j]? := by rw [← r4, List.getElem?_take, if_pos (by omega)]
    rw [e, evs_get es i j hi hj]
    exact hv

theorem EvIn.below {w W : World} {e : EvM} (h : EvIn w e) (hb : Below w.heap.size w W) : EvIn W e := ⟨h.in1.below hb, h.in2.below hb, h.l1, h.l2, h.n1, h.n2⟩

end Go.Proofs.YtgcnbiccekaffaaGreat
