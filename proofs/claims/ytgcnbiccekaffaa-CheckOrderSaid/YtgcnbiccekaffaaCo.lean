/- CheckOrder: the walk. -/
import Derived.Test.YtgcnbiccekaffaaOs
import Derived.Test.YtgcnbiccekaffaaOl
import Derived.Test.YtgcnbiccekaffaaOg
namespace Go.Proofs.Ytgcnbiccekaffaa
open Go.RowKit Go.ChangeMaps

theorem evC_at {es es' : List EvM} (h : es'.map evC = es.map evC) (i : Nat) : evC (evAt es' i) = evC (evAt es i) := by
  have h1 := congrArg (fun l => l[i]?) h
  simp only [List.getElem?_map] at h1
  unfold evAt
  rw [List.getD_eq_getElem?_getD, List.getD_eq_getElem?_getD]
  cases h2 : es'[i]? <;> cases h3 : es[i]? <;> rw [h2, h3] at h1 <;> simp at h1
  all_goals first | rfl | exact h1

theorem evC_parts {x y : EvM} (h : evC x = evC y) : x.wk = y.wk ∧ x.asked = y.asked ∧ x.took = y.took ∧ x.ended = y.ended := by
  unfold evC at h
  simp only [Prod.mk.injEq] at h
  exact ⟨h.1, h.2.2.2.1, h.2.2.2.2.1, h.2.2.2.2.2⟩

theorem evC_len {es es' : List EvM} (h : es'.map evC = es.map evC) : es'.length = es.length := by simpa using congrArg List.length h

theorem evC_pick {es es' : List EvM} (h : es'.map evC = es.map evC) (k : Nat) : pickK es' k = pickK es k := by
  unfold pickK
  refine List.filter_congr fun i _ => ?_
  rw [tookAt_ev, tookAt_ev, (evC_parts (evC_at h i)).2.2.1]

theorem evC_clash {x y x' y' : EvM} (h : evC x = evC x') (h2 : evC y = evC y') : clashE x y = clashE x' y' := by
  obtain ⟨a1, a2, a3, a4⟩ := evC_parts h
  obtain ⟨b1, b2, b3, b4⟩ := evC_parts h2
  unfold clashE befE
  rw [a1, a2, a3, a4, b1, b2, b3, b4]

theorem evC_timely {es es' : List EvM} (h : es'.map evC = es.map evC) : es'.all timelyE = es.all timelyE := by
  have e : ∀ l : List EvM, l.all timelyE = (l.map evC).all (fun t => t.2.2.2.2.1 == 0 || timelyB t.2.2.2.1 t.2.2.2.2.1 t.2.2.2.2.2) := fun l => by rw [List.all_map]; rfl
  rw [e, e, h]

theorem evC_good {es es' : List EvM} (h : es'.map evC = es.map evC) : GoodE es' ↔ GoodE es := by
  unfold GoodE
  rw [noClash_pairs, noClash_pairs, evC_timely h, evC_len h, evC_pick h]
  have e : ∀ a b, clashE (evAt es' a) (evAt es' b) = clashE (evAt es a) (evAt es b) := fun a b => evC_clash (evC_at h a) (evC_at h b)
  simp only [e]

theorem evC_took {es es' : List EvM} (h : es'.map evC = es.map evC) (i : Nat) : tookAt es' i = tookAt es i := by
  rw [tookAt_ev, tookAt_ev, (evC_parts (evC_at h i)).2.2.1]

theorem ints_own {w : World} {base : Nat} {v : Value} {ys : List Nat} (h : w.ownsRow base 3 1 v ys.length (ys.map natV)) : ∃ p c, v = .slice p ys.length c ∧ IntsAt w p (ys.map fun (i : Nat) => (i : Int)) := by
  rcases h.2 with ⟨h0, h1⟩ | ⟨g, cap, cur, h0, hb, hg, r1, r2, r3, r4⟩
  · refine ⟨none, 0, by rw [h0, h1], fun i hi => ?_⟩
    rw [List.length_map] at hi
    omega
  · refine ⟨_, cap, h0, fun i hi => ⟨g, 0, rfl, ?_⟩⟩
    have hi2 : i < ys.length := by simpa using hi
    rw [cell_of_block hg, ← Array.getElem?_toList, Nat.zero_add]
    have e : cur.toList[i]? = (ys.map natV)[i]? := by rw [← r4, List.getElem?_take, if_pos (by omega)]
    rw [e]
    simp [hi2, natV]

theorem evs_own {w : World} {base : Nat} {v : Value} {es : List EvM} {n : Nat} (hn : es.length = n) (h : w.ownsRow base 94 16 v n (es.flatMap evV)) : ∃ p c, v = .slice p es.length c ∧ EvsAt w p es := by
  subst hn
  rcases h.2 with ⟨h0, h1⟩ | ⟨g, cap, cur, h0, hb, hg, r1, r2, r3, r4⟩
  · exact ⟨none, 0, by rw [h0, h1], fun i hi => by omega⟩
  · refine ⟨_, cap, h0, fun i hi => ⟨g, 0, rfl, fun j v hv => ?_⟩⟩
    have hj : j < 16 := (List.getElem?_eq_some_iff.1 hv).1
    rw [cell_of_block hg, ← Array.getElem?_toList, Nat.zero_add]
    have e : cur.toList[i * 16 + j]? = (es.flatMap evV)[i * 16 + j]? := by rw [← r4, List.getElem?_take, if_pos (by omega)]
    rw [e, evs_get es i j hi hj]
    exact hv

theorem EvIn.below {w W : World} {e : EvM} (h : EvIn w e) (hb : Below w.heap.size w W) : EvIn W e := ⟨h.in1.below hb, h.in2.below hb, h.l1, h.l2, h.n1, h.n2⟩

set_option maxRecDepth 100000 in
set_option maxHeartbeats 1000000 in
theorem checkOrder_any (w : World) (pv : Option Addr) (cap : Nat) (es : List EvM) (h : EvsAt w pv es) (hin : ∀ e ∈ es, EvIn w e) (hwk : ∀ e ∈ es, (Lit.int .i64 e.wk).wf = true) (hpv : ∀ g o, pv = some ⟨g, o, none⟩ → g < w.heap.size) :
    Calls Try.prog 5 #[.slice pv es.length cap] w (fun e w' => e = .returned (.bool true) ∧ Below w.heap.size w w') := by
  have HH := Lib.hid h
  have HIN := Lib.hid hin
  have HWK := Lib.hid hwk
  have HPV := Lib.hid hpv
  clear h hin hwk hpv
  by_cases hl : (100 : Int) < es.length
  · go_enter Try.func5, Try.ntmps5
    go_wp2_with (fail)
    refine (alive_any w).mono ?_
    rintro e w1 ⟨rfl, hb1⟩
    go_wp2
    go_ret
    exact ⟨rfl, hb1⟩
  · go_enter Try.func5, Try.ntmps5
    go_wp2_with (fail)
    refine (alive_any w).mono ?_
    rintro e w1 ⟨rfl, hb1⟩
    have HB1 := Lib.hid hb1
    clear hb1
    go_wp2_with (fail)
    refine (order_any w1 pv cap es (HH.out.below HB1.out) (by omega) HWK.out (fun g o e => Nat.lt_of_lt_of_le (HPV.out g o e) HB1.out.size)).mono ?_
    rintro e w2 ⟨hb2, hcase⟩
    have HB2 := Lib.hid (HB1.out.trans (hb2.mono HB1.out.size))
    have hof := Lib.hid (ofAll_any w2 pv cap es (HH.out.below HB2.out) (fun e he => (HIN.out e he).below HB2.out) (by omega))
    clear hb2
    by_cases hgood : GoodE es
    · obtain ⟨ys, v, hp, hs, rfl, hrow⟩ : ∃ (ys : List Nat) (v : Value), ys.Perm (pickK es es.length) ∧ ys.Pairwise (fun i j => tookAt es i ≤ tookAt es j) ∧ e = .returned (.tuple #[v, .int .i64 0]) ∧ w2.ownsRow w1.heap.size 3 1 v ys.length (ys.map natV) := by
        rcases hcase with ⟨hA, _⟩ | ⟨hA, ys, hp, hs, ⟨hO, _⟩ | ⟨hO, v, rfl, hrow⟩⟩
        · exact absurd hgood.1 (by rw [hA]; decide)
        · rw [(okFrom_good hA hp hs).2 hgood] at hO; cases hO
        · exact ⟨ys, v, hp, hs, rfl, hrow⟩
      obtain ⟨py, cy, rfl, hints⟩ := ints_own hrow
      have HINTS := Lib.hid hints
      have HYS : Hid (ys.Perm (pickK es es.length) ∧ ys.Pairwise (fun i j => tookAt es i ≤ tookAt es j)) := ⟨hp, hs⟩
      have hyl : ys.length ≤ 100 := by rw [hp.length_eq]; have := pickK_length es es.length; omega
      have HGOOD := Lib.hid hgood
      clear hcase hp hs hrow hints hgood
      go_wp2_with (fail)
      refine hof.out.mono ?_
      rintro e w3 ⟨es', v3, rfl, hlen, hmap, hrow3, _, hb3⟩
      obtain ⟨p3, c3, rfl, hevs⟩ := evs_own hlen hrow3
      have HB3 := Lib.hid (HB2.out.trans (hb3.mono HB2.out.size))
      have HI3 := Lib.hid (HINTS.out.below hb3)
      have href := Lib.hid (refOrder_any w3 p3 c3 es' hevs (by omega))
      have HMAP := Lib.hid hmap
      clear hrow3 hb3 hevs hmap hof HINTS hlen
      go_wp2_with (fail)
      refine href.out.mono ?_
      rintro e w4 ⟨hb4, hcase4⟩
      obtain ⟨xs, v4, hxp, hxs, rfl, hrow4⟩ : ∃ (xs : List Nat) (v : Value), xs.Perm (pickK es' es'.length) ∧ xs.Pairwise (fun i j => tookAt es' i ≤ tookAt es' j) ∧ e = .returned (.tuple #[v, .bool true]) ∧ w4.ownsRow w3.heap.size 3 1 v xs.length (xs.map natV) := by
        rcases hcase4 with ⟨h1, _⟩ | ⟨_, xs, h1, h2, v, rfl, h3⟩
        · exact absurd ((evC_good HMAP.out).2 HGOOD.out) h1
        · exact ⟨xs, v, h1, h2, rfl, h3⟩
      obtain ⟨px, cx, rfl, hintx⟩ := ints_own hrow4
      have HB4 := Lib.hid (HB3.out.trans (hb4.mono HB3.out.size))
      have HI4 := Lib.hid (HI3.out.below hb4)
      have hxy : ys = xs := one_order HGOOD.out HYS.out.1 (by rw [evC_len HMAP.out, evC_pick HMAP.out] at hxp; exact hxp) HYS.out.2 (hxs.imp (fun {a b} h => by rw [evC_took HMAP.out, evC_took HMAP.out] at h; exact h))
      subst hxy
      have hsame := sameInts_any w4 py px cy cx (ys.map fun (i : Nat) => (i : Int)) (ys.map fun (i : Nat) => (i : Int)) HI4.out hintx (by simp; omega)
      rw [List.length_map, show decide ((ys.map fun (i : Nat) => (i : Int)) = (ys.map fun (i : Nat) => (i : Int))) = true from decide_eq_true rfl] at hsame
      have HSAME := Lib.hid hsame
      clear hcase4 hxp hxs hrow4 hintx hb4 hsame href HI3
      go_wp2_with (fail)
      refine HSAME.out.mono ?_
      rintro e w5 ⟨rfl, hb5⟩
      have HB5 := Lib.hid (HB4.out.trans (hb5.mono HB4.out.size))
      clear hb5
      go_wp2
      go_ret
      exact ⟨rfl, HB5.out⟩
    · obtain rfl : e = .returned (.tuple #[.slice none 0 0, .int .i64 10]) := by
        rcases hcase with ⟨_, h1⟩ | ⟨hA, ys, hp, hs, ⟨_, h1⟩ | ⟨hO, _⟩⟩
        · exact h1
        · exact h1
        · exact absurd ((okFrom_good hA hp hs).1 hO) hgood
      have HGOOD := Lib.hid hgood
      clear hcase hgood
      go_wp2_with (fail)
      refine hof.out.mono ?_
      rintro e w3 ⟨es', v3, rfl, hlen, hmap, hrow3, _, hb3⟩
      obtain ⟨p3, c3, rfl, hevs⟩ := evs_own hlen hrow3
      have HB3 := Lib.hid (HB2.out.trans (hb3.mono HB2.out.size))
      have href := Lib.hid (refOrder_any w3 p3 c3 es' hevs (by omega))
      have HMAP := Lib.hid hmap
      clear hrow3 hb3 hevs hmap hof hlen
      go_wp2_with (fail)
      refine href.out.mono ?_
      rintro e w4 ⟨hb4, hcase4⟩
      obtain rfl : e = .returned (.tuple #[.slice none 0 0, .bool false]) := by
        rcases hcase4 with ⟨_, h1⟩ | ⟨h1, _⟩
        · exact h1
        · exact absurd ((evC_good HMAP.out).1 h1) HGOOD.out
      have HB4 := Lib.hid (HB3.out.trans (hb4.mono HB3.out.size))
      clear hcase4 hb4 href
      go_wp2
      go_ret
      exact ⟨rfl, HB4.out⟩

end Go.Proofs.Ytgcnbiccekaffaa
