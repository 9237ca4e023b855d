/- Events, read with the lengths of their bytes. -/
import Derived.Test.YtgcnbiccekaffaaRd
import Derived.Test.YtgcnbiccekaffaaOg
import Derived.SizedLaws
namespace Go.Proofs.Ytgcnbiccekaffaa
open Go.ChangeShapes Go.WideShapes Go.ChangeAt Go.RowKit Go.Deep

section
variable {H : Type} {enc : TypeId × Value → H} {W : World} {base : Nat} {spare : Nat → Bool} {held : Bool}

def InReach {H : Type} (t : TypeId) (d : DataW H) : Prop := ∀ n ∈ d.weights Try.prog t, n ≤ reachBytes

theorem weightsAll_mem {e : TypeId} {d : DataW H} {l : List (DataW H)} (hd : d ∈ l) {n : Nat} (hn : n ∈ d.weights Try.prog e) : n ∈ DataW.weightsAll Try.prog e l := by
  induction l with
  | nil => cases hd
  | cons x l ih =>
    unfold DataW.weightsAll
    rcases List.mem_cons.1 hd with rfl | hd
    · exact List.mem_append_left _ hn
    · exact List.mem_append_right _ (ih hd)

theorem reach_field {t : TypeId} {fs : Array Field} {parts : List (DataW H)} (ht : Try.prog.underlying t = some (.struct fs)) (h : InReach t (.agg parts)) {i : Nat} {f : Field} {d : DataW H} (hf : fs[i]? = some f) (hd : parts[i]? = some d) : InReach f.type d := by
  intro n hn
  refine h n ?_
  unfold DataW.weights
  rw [ht]
  exact DataW.weights_mem_each (j := i) (t := f.type) (d := d) (by simp [hf]) hd n hn

theorem field_cell2 {P : Program} {fs : Array Field} {cs : List Value} {xs : List (DataW H × List MemPlace)} {n : Nat} (hx : xs.length = fs.size)
    (hf : ∀ (i : Nat) (f : Field), fs[i]? = some f → DataW.trod enc P W base spare held n f.type ((cs.drop f.offset).take (P.cellsOf f.type)) = xs[i]?) (i : Nat) (f : Field) (h : fs[i]? = some f) :
    ∃ y, DataW.trod enc P W base spare held n f.type ((cs.drop f.offset).take (P.cellsOf f.type)) = some y ∧ (xs.map (·.1))[i]? = some y.1 := by
  have hi : i < xs.length := by rw [hx]; exact (Array.getElem?_eq_some_iff.1 h).1
  exact ⟨xs[i], by rw [hf i f h, List.getElem?_eq_getElem hi], by simp [hi]⟩

theorem bytes_readL {n : Nat} {cs : List Value} {x : DataW H × List MemPlace} (h : DataW.trod enc Try.prog W base spare held n 31 cs = some x) (hw : InReach 31 x.1) :
    ∃ (p : Option Addr) (ds : List Int) (q : Nat), cs = [.slice p ds.length q] ∧ BytesIn W p ds ∧ ds.length ≤ 140737488355328 ∧ (p = none → q = 0) := by
  rcases open_ints Try.underlying31 Try.underlying5 (by kernel_rfl) h with ⟨hcs, _⟩ | ⟨a, l, c, zs, hcs, _, hl, _, hz, hx, hcell, _⟩
  · exact ⟨none, [], 0, hcs, fun i hi => absurd hi (Nat.not_lt_zero i), Nat.zero_le _, fun _ => rfl⟩
  · subst hcs hx
    have hlz : l ≤ zs.length := by rw [hz]; split <;> omega
    have hbig : zs.length ≤ reachBytes := by
      refine hw _ ?_
      unfold DataW.weights
      rw [Try.underlying31]
      refine List.mem_cons.2 (.inl ?_)
      rw [show Try.prog.bytesOf 5 = 1 from by kernel_rfl]
      simp [lits]
      omega
    refine ⟨some a, zs.take l, c, by rw [List.length_take, Nat.min_eq_left hlz], ?_, ?_, fun e => by cases e⟩
    · intro i hi
      have hi2 : i < l := by rw [List.length_take, Nat.min_eq_left hlz] at hi; exact hi
      have hc := hcell i (by omega)
      have hc0 := hcell 0 (by omega)
      obtain ⟨b, o, sp⟩ := a
      obtain rfl := spot_none (show W.cell? ⟨b, o, sp⟩ = _ from hc0)
      refine ⟨b, o, rfl, ?_⟩
      rw [show (zs.take l).getD i 0 = zs.getD i 0 from by simp [List.getD, hi2]]
      rw [add_plain] at hc
      exact hc
    · rw [List.length_take, Nat.min_eq_left hlz]
      unfold reachBytes at hbig
      omega

set_option maxRecDepth 100000 in
theorem op_readL {n : Nat} {cs : List Value} {x : DataW H × List MemPlace} (h : DataW.trod enc Try.prog W base spare held n 33 cs = some x) (hw : InReach 33 x.1) :
    ∃ (o : OpA) (p : Option Addr) (q : Nat), cs = [.int .i64 o.k, .int .u64 o.a, .int .u64 o.b, .int .i64 o.at_, .int .i64 o.fr, .int .i64 o.n, .slice p o.data.length q] ∧ BytesIn W p o.data ∧ o.data.length ≤ 140737488355328 ∧ (p = none → q = 0) := by
  obtain ⟨xs, m, rfl, rfl, hl, hx, hf⟩ := DataW.trod_struct Try.underlying33 h
  rw [show Try.prog.cellsOf 33 = 7 from by kernel_rfl] at hl
  obtain ⟨c0, c1, c2, c3, c4, c5, c6, rfl⟩ : ∃ c0 c1 c2 c3 c4 c5 c6, cs = [c0, c1, c2, c3, c4, c5, c6] := by
    match cs, hl with
    | [a, b, c, d, e, f, g], _ => exact ⟨_, _, _, _, _, _, _, rfl⟩
  have e3 : Try.prog.cellsOf 3 = 1 := by kernel_rfl
  have e30 : Try.prog.cellsOf 30 = 1 := by kernel_rfl
  have e31 : Try.prog.cellsOf 31 = 1 := by kernel_rfl
  have g := field_cell hx hf
  obtain ⟨y0, h0⟩ : ∃ y, DataW.trod enc Try.prog W base spare held m 3 ((List.drop 0 [c0, c1, c2, c3, c4, c5, c6]).take (Try.prog.cellsOf 3)) = some y := g 0 _ rfl
  obtain ⟨y1, h1⟩ : ∃ y, DataW.trod enc Try.prog W base spare held m 30 ((List.drop 1 [c0, c1, c2, c3, c4, c5, c6]).take (Try.prog.cellsOf 30)) = some y := g 1 _ rfl
  obtain ⟨y2, h2⟩ : ∃ y, DataW.trod enc Try.prog W base spare held m 30 ((List.drop 2 [c0, c1, c2, c3, c4, c5, c6]).take (Try.prog.cellsOf 30)) = some y := g 2 _ rfl
  obtain ⟨y3, h3⟩ : ∃ y, DataW.trod enc Try.prog W base spare held m 3 ((List.drop 3 [c0, c1, c2, c3, c4, c5, c6]).take (Try.prog.cellsOf 3)) = some y := g 3 _ rfl
  obtain ⟨y4, h4⟩ : ∃ y, DataW.trod enc Try.prog W base spare held m 3 ((List.drop 4 [c0, c1, c2, c3, c4, c5, c6]).take (Try.prog.cellsOf 3)) = some y := g 4 _ rfl
  obtain ⟨y5, h5⟩ : ∃ y, DataW.trod enc Try.prog W base spare held m 3 ((List.drop 5 [c0, c1, c2, c3, c4, c5, c6]).take (Try.prog.cellsOf 3)) = some y := g 5 _ rfl
  obtain ⟨y6, h6, d6⟩ : ∃ y, DataW.trod enc Try.prog W base spare held m 31 ((List.drop 6 [c0, c1, c2, c3, c4, c5, c6]).take (Try.prog.cellsOf 31)) = some y ∧ (xs.map (·.1))[6]? = some y.1 := field_cell2 hx hf 6 _ rfl
  have hw6 : InReach 31 y6.1 := reach_field Try.underlying33 hw (i := 6) rfl d6
  simp only [e3, e30, e31, List.drop_succ_cons, List.drop_zero, List.take_succ_cons, List.take_zero] at h0 h1 h2 h3 h4 h5 h6
  obtain ⟨k, z0, _, _⟩ := DataW.trod_int Try.underlying3 h0
  obtain ⟨a, z1, _, _⟩ := DataW.trod_int Try.underlying30 h1
  obtain ⟨b, z2, _, _⟩ := DataW.trod_int Try.underlying30 h2
  obtain ⟨at_, z3, _, _⟩ := DataW.trod_int Try.underlying3 h3
  obtain ⟨fr, z4, _, _⟩ := DataW.trod_int Try.underlying3 h4
  obtain ⟨nn, z5, _, _⟩ := DataW.trod_int Try.underlying3 h5
  obtain ⟨p, ds, q, z6, hi, hll, hn⟩ := bytes_readL h6 hw6
  cases z0; cases z1; cases z2; cases z3; cases z4; cases z5; cases z6
  exact ⟨⟨k, a, b, at_, fr, nn, ds⟩, p, q, rfl, hi, hll, hn⟩

set_option maxRecDepth 100000 in
theorem ans_readL {n : Nat} {cs : List Value} {x : DataW H × List MemPlace} (h : DataW.trod enc Try.prog W base spare held n 35 cs = some x) (hw : InReach 35 x.1) :
    ∃ (a : AnsA) (p : Option Addr) (q : Nat), cs = [.int .i64 a.err, .int .i64 a.at_, .int .i64 a.n, .int .i64 a.count, .slice p a.data.length q] ∧ BytesIn W p a.data ∧ a.data.length ≤ 140737488355328 ∧ (p = none → q = 0) := by
  obtain ⟨xs, m, rfl, rfl, hl, hx, hf⟩ := DataW.trod_struct Try.underlying35 h
  rw [show Try.prog.cellsOf 35 = 5 from by kernel_rfl] at hl
  obtain ⟨c0, c1, c2, c3, c4, rfl⟩ : ∃ c0 c1 c2 c3 c4, cs = [c0, c1, c2, c3, c4] := by
    match cs, hl with
    | [a, b, c, d, e], _ => exact ⟨_, _, _, _, _, rfl⟩
  have e3 : Try.prog.cellsOf 3 = 1 := by kernel_rfl
  have e26 : Try.prog.cellsOf 26 = 1 := by kernel_rfl
  have e31 : Try.prog.cellsOf 31 = 1 := by kernel_rfl
  have g := field_cell hx hf
  obtain ⟨y0, h0⟩ : ∃ y, DataW.trod enc Try.prog W base spare held m 26 ((List.drop 0 [c0, c1, c2, c3, c4]).take (Try.prog.cellsOf 26)) = some y := g 0 _ rfl
  obtain ⟨y1, h1⟩ : ∃ y, DataW.trod enc Try.prog W base spare held m 3 ((List.drop 1 [c0, c1, c2, c3, c4]).take (Try.prog.cellsOf 3)) = some y := g 1 _ rfl
  obtain ⟨y2, h2⟩ : ∃ y, DataW.trod enc Try.prog W base spare held m 3 ((List.drop 2 [c0, c1, c2, c3, c4]).take (Try.prog.cellsOf 3)) = some y := g 2 _ rfl
  obtain ⟨y3, h3⟩ : ∃ y, DataW.trod enc Try.prog W base spare held m 3 ((List.drop 3 [c0, c1, c2, c3, c4]).take (Try.prog.cellsOf 3)) = some y := g 3 _ rfl
  obtain ⟨y4, h4, d4⟩ : ∃ y, DataW.trod enc Try.prog W base spare held m 31 ((List.drop 4 [c0, c1, c2, c3, c4]).take (Try.prog.cellsOf 31)) = some y ∧ (xs.map (·.1))[4]? = some y.1 := field_cell2 hx hf 4 _ rfl
  have hw4 : InReach 31 y4.1 := reach_field Try.underlying35 hw (i := 4) rfl d4
  simp only [e3, e26, e31, List.drop_succ_cons, List.drop_zero, List.take_succ_cons, List.take_zero] at h0 h1 h2 h3 h4
  obtain ⟨er, z0, _, _⟩ := DataW.trod_int Try.underlying26 h0
  obtain ⟨at_, z1, _, _⟩ := DataW.trod_int Try.underlying3 h1
  obtain ⟨nn, z2, _, _⟩ := DataW.trod_int Try.underlying3 h2
  obtain ⟨ct, z3, _, _⟩ := DataW.trod_int Try.underlying3 h3
  obtain ⟨p, ds, q, z4, hi, hll, hn⟩ := bytes_readL h4 hw4
  cases z0; cases z1; cases z2; cases z3; cases z4
  exact ⟨⟨er, at_, nn, ct, ds⟩, p, q, rfl, hi, hll, hn⟩

set_option maxRecDepth 100000 in
theorem ev_readL {n : Nat} {cs : List Value} {x : DataW H × List MemPlace} (h : DataW.trod enc Try.prog W base spare held n 64 cs = some x) (hw : InReach 64 x.1) :
    ∃ e : EvM, cs = evV e ∧ EvIn W e ∧ (Lit.int .i64 e.wk).wf = true := by
  obtain ⟨xs, m, rfl, rfl, hl, hx, hf⟩ := DataW.trod_struct Try.underlying64 h
  rw [show Try.prog.cellsOf 64 = 16 from by kernel_rfl] at hl
  have e3 : Try.prog.cellsOf 3 = 1 := by kernel_rfl
  have e33 : Try.prog.cellsOf 33 = 7 := by kernel_rfl
  have e35 : Try.prog.cellsOf 35 = 5 := by kernel_rfl
  have g := field_cell hx hf
  obtain ⟨y0, h0⟩ : ∃ y, DataW.trod enc Try.prog W base spare held m 3 ((List.drop 0 cs).take (Try.prog.cellsOf 3)) = some y := g 0 _ rfl
  obtain ⟨y1, h1, d1⟩ : ∃ y, DataW.trod enc Try.prog W base spare held m 33 ((List.drop 1 cs).take (Try.prog.cellsOf 33)) = some y ∧ (xs.map (·.1))[1]? = some y.1 := field_cell2 hx hf 1 _ rfl
  obtain ⟨y2, h2, d2⟩ : ∃ y, DataW.trod enc Try.prog W base spare held m 35 ((List.drop 8 cs).take (Try.prog.cellsOf 35)) = some y ∧ (xs.map (·.1))[2]? = some y.1 := field_cell2 hx hf 2 _ rfl
  obtain ⟨y3, h3⟩ : ∃ y, DataW.trod enc Try.prog W base spare held m 3 ((List.drop 13 cs).take (Try.prog.cellsOf 3)) = some y := g 3 _ rfl
  obtain ⟨y4, h4⟩ : ∃ y, DataW.trod enc Try.prog W base spare held m 3 ((List.drop 14 cs).take (Try.prog.cellsOf 3)) = some y := g 4 _ rfl
  obtain ⟨y5, h5⟩ : ∃ y, DataW.trod enc Try.prog W base spare held m 3 ((List.drop 15 cs).take (Try.prog.cellsOf 3)) = some y := g 5 _ rfl
  rw [e3] at h0 h3 h4 h5
  rw [e33] at h1
  rw [e35] at h2
  obtain ⟨wk, z0, _, wwk⟩ := DataW.trod_int Try.underlying3 h0
  obtain ⟨o, p1, q1, z1, in1, l1, n1⟩ := op_readL h1 (reach_field Try.underlying64 hw (i := 1) rfl d1)
  obtain ⟨a, p2, q2, z2, in2, l2, n2⟩ := ans_readL h2 (reach_field Try.underlying64 hw (i := 2) rfl d2)
  obtain ⟨as_, z3, _, _⟩ := DataW.trod_int Try.underlying3 h3
  obtain ⟨tk, z4, _, _⟩ := DataW.trod_int Try.underlying3 h4
  obtain ⟨en, z5, _, _⟩ := DataW.trod_int Try.underlying3 h5
  refine ⟨⟨wk, o, a, p1, q1, p2, q2, as_, tk, en⟩, ?_, ⟨in1, in2, l1, l2, n1, n2⟩, wwk⟩
  match cs, hl with
  | [c0, c1, c2, c3, c4, c5, c6, c7, c8, c9, c10, c11, c12, c13, c14, c15], _ =>
    simp only [List.drop_succ_cons, List.drop_zero, List.take_succ_cons, List.take_zero] at z0 z1 z2 z3 z4 z5
    cases z0; cases z1; cases z2; cases z3; cases z4; cases z5
    rfl

/- Rows of structs, read within the reach. -/
set_option maxRecDepth 100000 in
theorem rows_readL {t e : TypeId} {n K : Nat} {cs : List Value} {x : DataW H × List MemPlace} (ht : Try.prog.underlying t = some (.slice e)) (hK : Try.prog.cellsOf e = K) (hK0 : 0 < K)
    (h : DataW.trod enc Try.prog W base spare held n t cs = some x) (hw : InReach t x.1) {α : Type} [Inhabited α] (V : α → List Value) (Ok : α → Prop)
    (hel : ∀ (m : Nat) (cs' : List Value) (y : DataW H × List MemPlace), DataW.trod enc Try.prog W base spare held m e cs' = some y → InReach e y.1 → ∃ a, cs' = V a ∧ Ok a) :
    ∃ (rs : List α) (pv : Option Addr) (cap : Nat), cs = [.slice pv rs.length cap] ∧ rs.length ≤ maxLen ∧ (∀ a ∈ rs, Ok a) ∧
      ∀ i (hi : i < rs.length), ∃ g o, pv = some ⟨g, o, none⟩ ∧ ∀ j v, (V rs[i])[j]? = some v → W.cell? ⟨g, o + i * K + j, none⟩ = some v := by
  rcases open_slice ht h with ⟨hcs, _⟩ | ⟨a, len, cap, m, n', D, Pl, hcs, hb, hl, hm, hmm, hxe, hall⟩
  · exact ⟨[], none, 0, hcs, Nat.zero_le _, fun a ha => absurd ha (List.not_mem_nil), fun i hi => absurd hi (Nat.not_lt_zero i)⟩
  · subst hcs hxe
    have hlm : len ≤ m := by rw [hmm]; split <;> omega
    obtain ⟨ab, ao, asp⟩ := a
    have hsp : 0 < len → asp = none := by
      intro h0
      obtain ⟨cs', h1, _⟩ := hall 0 (by omega)
      rw [hK] at h1
      unfold World.cells? at h1
      rw [if_pos (show base ≤ (Addr.add ⟨ab, ao, asp⟩ (0 * K)).block from by rw [Nat.zero_mul]; exact hb)] at h1
      have h2 : W.cell? (Addr.add (Addr.add ⟨ab, ao, asp⟩ (0 * K)) 0) = cs'[0]? := mapM_some_get h1 0 0 (by simp [hK0])
      rw [Nat.zero_mul, List.getElem?_eq_getElem (by have hlen : cs'.length = K := by simpa using mapM_some_length h1
                                                     omega)] at h2
      exact spot_none (show W.cell? ⟨ab, ao, asp⟩ = _ from h2)
    have hcells : ∀ i, i < len → ∃ a, Ok a ∧ ∀ j v, (V a)[j]? = some v → W.cell? ⟨ab, ao + i * K + j, none⟩ = some v := by
      intro i hi
      obtain rfl := hsp (by omega)
      obtain ⟨cs', h1, h2⟩ := hall i (by omega)
      rw [hK, add_plain] at h1
      unfold World.cells? at h1
      rw [if_pos hb] at h1
      have hlen : cs'.length = K := by simpa using mapM_some_length h1
      have hget : ∀ j, j < K → W.cell? ⟨ab, ao + i * K + j, none⟩ = cs'[j]? := fun j hj => by
        have := mapM_some_get h1 j j (by simp [hj])
        rw [add_plain] at this
        exact this
      obtain ⟨a, rfl, hok⟩ := hel _ _ _ h2 (fun n hn => hw n (by
        unfold DataW.weights
        rw [ht]
        exact List.mem_cons_of_mem _ (List.mem_append_left _ (weightsAll_mem (List.mem_map.2 ⟨i, List.mem_range.2 hi, rfl⟩) hn))))
      refine ⟨a, hok, fun j v hv => ?_⟩
      rw [hget j (by have := (List.getElem?_eq_some_iff.1 hv).1; omega)]
      exact hv
    obtain ⟨f, hf⟩ := choose_lt hcells
    refine ⟨(List.range len).map f, some ⟨ab, ao, asp⟩, cap, by simp, by simp; omega, fun a ha => ?_, fun i hi => ?_⟩
    · obtain ⟨i, hi, rfl⟩ := List.mem_map.1 ha
      exact (hf i (List.mem_range.1 hi)).1
    · have hi2 : i < len := by simpa using hi
      obtain ⟨_, hc⟩ := hf i hi2
      obtain rfl := hsp (by omega)
      refine ⟨ab, ao, rfl, fun j v hv => hc j v ?_⟩
      simpa using hv

theorem evs_readL {n : Nat} {cs : List Value} {x : DataW H × List MemPlace} (h : DataW.trod enc Try.prog W base spare held n 52 cs = some x) (hw : InReach 52 x.1) :
    ∃ (es : List EvM) (pv : Option Addr) (cap : Nat), cs = [.slice pv es.length cap] ∧ es.length ≤ maxLen ∧ (∀ e ∈ es, EvIn W e ∧ (Lit.int .i64 e.wk).wf = true) ∧ EvsAt W pv es :=
  haveI : Inhabited EvM := ⟨⟨0, ⟨0, 0, 0, 0, 0, 0, []⟩, ⟨0, 0, 0, 0, []⟩, none, 0, none, 0, 0, 0, 0⟩⟩
  rows_readL Try.underlying52 (show Try.prog.cellsOf 64 = 16 from by kernel_rfl) (by decide) h hw evV (fun e => EvIn W e ∧ (Lit.int .i64 e.wk).wf = true) (fun _ _ _ h2 h3 => ev_readL h2 h3)

end

end Go.Proofs.Ytgcnbiccekaffaa
