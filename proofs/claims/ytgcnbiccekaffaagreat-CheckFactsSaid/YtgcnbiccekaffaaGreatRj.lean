/- The inputs of the laws, opened: operations, answers, bytes, facts, events. -/
import Derived.Test.YtgcnbiccekaffaaGreatRows
import Derived.Test.YtgcnbiccekaffaaGreatGr
import Derived.Test.YtgcnbiccekaffaaGreatY
import Derived.WalkKit
import Derived.ProofKit
import Derived.OpenShut
import Derived.ShutString
import Derived.ChangeOld
import Derived.Below
import Derived.Deep.Slices
namespace Go.Proofs.YtgcnbiccekaffaaGreat
open Go.ChangeShapes Go.WideShapes Go.ChangeAt Go.RowKit Go.Deep

theorem add_plain (b o n : Nat) : Addr.add ⟨b, o, none⟩ n = ⟨b, o + n, none⟩ := by
  unfold Addr.add
  split
  · rename_i h; subst h; rfl
  · rfl

theorem spot_none {w : World} {b o : Nat} {sp : Option Nat} {v : Value} (h : w.cell? ⟨b, o, sp⟩ = some v) : sp = none := by
  cases sp with
  | none => rfl
  | some s =>
    unfold World.cell? at h
    split at h
    · simp at h
    · cases h

theorem has_lt {P : Program} {w : World} {r : Reach} {base : Nat} {a : Addr} {e : TypeId} {n : Nat} (h : w.has P r base a e n) : a.block < w.heap.size := by
  obtain ⟨_, _, row, cells, hs, _⟩ := h
  unfold World.shape? at hs
  split at hs
  · rename_i h1
    exact (Array.getElem?_eq_some_iff.1 h1).1
  · cases hs

theorem cell_ok_lt {P : Program} {w : World} {r : Reach} {base : Nat} {u : TypeId} {a : Addr} {len cap : Nat} (h : Cell.ok P w r base u (.slice (some a) len cap)) : a.block < w.heap.size := by
  unfold Cell.ok at h
  split at h <;> first | (rename_i h1; cases h1; exact has_lt h.2.2) | (rename_i h1; cases h1; done) | cases h | simp_all

theorem top_lt {P : Program} {w : World} {r : Reach} {base : Nat} {t e : TypeId} {a : Addr} {len cap : Nat} (ht : P.underlying t = some (.slice e)) (h : Value.okWide P w r base t (.slice (some a) len cap)) : a.block < w.heap.size := by
  simp only [Value.okWide, ht, Cell.okWide] at h
  exact cell_ok_lt h

section
variable {H : Type} {enc : TypeId × Value → H} {W : World} {base : Nat} {spare : Nat → Bool} {held : Bool}

theorem field_cell {P : Program} {fs : Array Field} {cs : List Value} {xs : List (DataW H × List MemPlace)} {n : Nat} (hx : xs.length = fs.size)
    (hf : ∀ (i : Nat) (f : Field), fs[i]? = some f → DataW.trod enc P W base spare held n f.type ((cs.drop f.offset).take (P.cellsOf f.type)) = xs[i]?) (i : Nat) (f : Field) (h : fs[i]? = some f) :
    ∃ y, DataW.trod enc P W base spare held n f.type ((cs.drop f.offset).take (P.cellsOf f.type)) = some y := by
  have hi : i < xs.length := by rw [hx]; exact (Array.getElem?_eq_some_iff.1 h).1
  exact ⟨xs[i], by rw [hf i f h, List.getElem?_eq_getElem hi]⟩

theorem bytes_read {n : Nat} {cs : List Value} {x : DataW H × List MemPlace} (h : DataW.trod enc Tryz.prog W base spare held n 34 cs = some x) :
    ∃ (p : Option Addr) (ds : List Int) (q : Nat), cs = [.slice p ds.length q] ∧ BytesOk ds ∧ BytesIn W p ds ∧ (ds ≠ [] → ∀ b o, p = some ⟨b, o, none⟩ → b < W.heap.size) ∧ (p = none → q = 0) := by
  rcases open_ints Tryz.underlying34 Tryz.underlying5 (by kernel_rfl) h with ⟨hcs, _⟩ | ⟨a, l, c, zs, hcs, _, hl, _, hz, _, hcell, hwz⟩
  · exact ⟨none, [], 0, hcs, fun v hv => absurd hv (List.not_mem_nil), fun i hi => absurd hi (Nat.not_lt_zero i), fun h => absurd rfl h, fun _ => rfl⟩
  · subst hcs
    have hlz : l ≤ zs.length := by rw [hz]; split <;> omega
    refine ⟨some a, zs.take l, c, by rw [List.length_take, Nat.min_eq_left hlz], fun v hv => bounds_u8 (hwz v (List.mem_of_mem_take hv)), ?_, fun hne b o e => ?_, fun e => by cases e⟩
    · intro i hi
      have hi2 : i < l := by rw [List.length_take, Nat.min_eq_left hlz] at hi; exact hi
      have hc := hcell i (by omega)
      have hc0 := hcell 0 (by omega)
      obtain ⟨b, o, sp⟩ := a
      obtain rfl := spot_none (show W.cell? ⟨b, o, sp⟩ = _ from hc0)
      refine ⟨b, o, rfl, ?_⟩
      rw [show (zs.take l).getD i 0 = zs.getD i 0 from by simp [List.getD, hi2]]
      rw [add_plain] at hc
      exact hc
    · cases e
      have hl0 : 0 < l := by
        cases l with
        | zero => exact absurd (List.take_zero) hne
        | succ l => omega
      exact cell_lt (show W.cell? ⟨b, o, none⟩ = _ from hcell 0 (by omega))

set_option maxRecDepth 100000 in
theorem op_read {n : Nat} {cs : List Value} {x : DataW H × List MemPlace} (h : DataW.trod enc Tryz.prog W base spare held n 36 cs = some x) :
    ∃ (o : OpA) (p : Option Addr) (q : Nat), cs = [.int .i64 o.k, .int .u64 o.a, .int .u64 o.b, .int .i64 o.at_, .int .i64 o.fr, .int .i64 o.n, .slice p o.data.length q] ∧ OpOk o ∧ BytesIn W p o.data ∧
      (o.data ≠ [] → ∀ b o', p = some ⟨b, o', none⟩ → b < W.heap.size) ∧ (p = none → q = 0) := by
  obtain ⟨xs, m, rfl, _, hl, hx, hf⟩ := DataW.trod_struct Tryz.underlying36 h
  rw [show Tryz.prog.cellsOf 36 = 7 from by kernel_rfl] at hl
  obtain ⟨c0, c1, c2, c3, c4, c5, c6, rfl⟩ : ∃ c0 c1 c2 c3 c4 c5 c6, cs = [c0, c1, c2, c3, c4, c5, c6] := by
    match cs, hl with
    | [a, b, c, d, e, f, g], _ => exact ⟨_, _, _, _, _, _, _, rfl⟩
  have e3 : Tryz.prog.cellsOf 3 = 1 := by kernel_rfl
  have e30 : Tryz.prog.cellsOf 33 = 1 := by kernel_rfl
  have e31 : Tryz.prog.cellsOf 34 = 1 := by kernel_rfl
  have g := field_cell hx hf
  obtain ⟨y0, h0⟩ : ∃ y, DataW.trod enc Tryz.prog W base spare held m 3 ((List.drop 0 [c0, c1, c2, c3, c4, c5, c6]).take (Tryz.prog.cellsOf 3)) = some y := g 0 _ rfl
  obtain ⟨y1, h1⟩ : ∃ y, DataW.trod enc Tryz.prog W base spare held m 33 ((List.drop 1 [c0, c1, c2, c3, c4, c5, c6]).take (Tryz.prog.cellsOf 33)) = some y := g 1 _ rfl
  obtain ⟨y2, h2⟩ : ∃ y, DataW.trod enc Tryz.prog W base spare held m 33 ((List.drop 2 [c0, c1, c2, c3, c4, c5, c6]).take (Tryz.prog.cellsOf 33)) = some y := g 2 _ rfl
  obtain ⟨y3, h3⟩ : ∃ y, DataW.trod enc Tryz.prog W base spare held m 3 ((List.drop 3 [c0, c1, c2, c3, c4, c5, c6]).take (Tryz.prog.cellsOf 3)) = some y := g 3 _ rfl
  obtain ⟨y4, h4⟩ : ∃ y, DataW.trod enc Tryz.prog W base spare held m 3 ((List.drop 4 [c0, c1, c2, c3, c4, c5, c6]).take (Tryz.prog.cellsOf 3)) = some y := g 4 _ rfl
  obtain ⟨y5, h5⟩ : ∃ y, DataW.trod enc Tryz.prog W base spare held m 3 ((List.drop 5 [c0, c1, c2, c3, c4, c5, c6]).take (Tryz.prog.cellsOf 3)) = some y := g 5 _ rfl
  obtain ⟨y6, h6⟩ : ∃ y, DataW.trod enc Tryz.prog W base spare held m 34 ((List.drop 6 [c0, c1, c2, c3, c4, c5, c6]).take (Tryz.prog.cellsOf 34)) = some y := g 6 _ rfl
  simp only [e3, e30, e31, List.drop_succ_cons, List.drop_zero, List.take_succ_cons, List.take_zero] at h0 h1 h2 h3 h4 h5 h6
  obtain ⟨k, z0, _, _⟩ := DataW.trod_int Tryz.underlying3 h0
  obtain ⟨a, z1, _, wa⟩ := DataW.trod_int Tryz.underlying33 h1
  obtain ⟨b, z2, _, wb⟩ := DataW.trod_int Tryz.underlying33 h2
  obtain ⟨at_, z3, _, _⟩ := DataW.trod_int Tryz.underlying3 h3
  obtain ⟨fr, z4, _, _⟩ := DataW.trod_int Tryz.underlying3 h4
  obtain ⟨nn, z5, _, _⟩ := DataW.trod_int Tryz.underlying3 h5
  obtain ⟨p, ds, q, z6, hb, hi, hlt, hn⟩ := bytes_read h6
  cases z0; cases z1; cases z2; cases z3; cases z4; cases z5; cases z6
  have ba := bounds_u64 wa
  have bb := bounds_u64 wb
  exact ⟨⟨k, a, b, at_, fr, nn, ds⟩, p, q, rfl, ⟨ba.1, Int.lt_of_le_of_lt ba.2 (by decide), bb.1, Int.lt_of_le_of_lt bb.2 (by decide), hb⟩, hi, hlt, hn⟩

set_option maxRecDepth 100000 in
theorem ans_read {n : Nat} {cs : List Value} {x : DataW H × List MemPlace} (h : DataW.trod enc Tryz.prog W base spare held n 38 cs = some x) :
    ∃ (a : AnsA) (p : Option Addr) (q : Nat), cs = [.int .i64 a.err, .int .i64 a.at_, .int .i64 a.n, .int .i64 a.count, .slice p a.data.length q] ∧ BytesOk a.data ∧ BytesIn W p a.data ∧
      (a.data ≠ [] → ∀ b o', p = some ⟨b, o', none⟩ → b < W.heap.size) ∧ (p = none → q = 0) := by
  obtain ⟨xs, m, rfl, _, hl, hx, hf⟩ := DataW.trod_struct Tryz.underlying38 h
  rw [show Tryz.prog.cellsOf 38 = 5 from by kernel_rfl] at hl
  obtain ⟨c0, c1, c2, c3, c4, rfl⟩ : ∃ c0 c1 c2 c3 c4, cs = [c0, c1, c2, c3, c4] := by
    match cs, hl with
    | [a, b, c, d, e], _ => exact ⟨_, _, _, _, _, rfl⟩
  have e3 : Tryz.prog.cellsOf 3 = 1 := by kernel_rfl
  have e26 : Tryz.prog.cellsOf 26 = 1 := by kernel_rfl
  have e31 : Tryz.prog.cellsOf 34 = 1 := by kernel_rfl
  have g := field_cell hx hf
  obtain ⟨y0, h0⟩ : ∃ y, DataW.trod enc Tryz.prog W base spare held m 26 ((List.drop 0 [c0, c1, c2, c3, c4]).take (Tryz.prog.cellsOf 26)) = some y := g 0 _ rfl
  obtain ⟨y1, h1⟩ : ∃ y, DataW.trod enc Tryz.prog W base spare held m 3 ((List.drop 1 [c0, c1, c2, c3, c4]).take (Tryz.prog.cellsOf 3)) = some y := g 1 _ rfl
  obtain ⟨y2, h2⟩ : ∃ y, DataW.trod enc Tryz.prog W base spare held m 3 ((List.drop 2 [c0, c1, c2, c3, c4]).take (Tryz.prog.cellsOf 3)) = some y := g 2 _ rfl
  obtain ⟨y3, h3⟩ : ∃ y, DataW.trod enc Tryz.prog W base spare held m 3 ((List.drop 3 [c0, c1, c2, c3, c4]).take (Tryz.prog.cellsOf 3)) = some y := g 3 _ rfl
  obtain ⟨y4, h4⟩ : ∃ y, DataW.trod enc Tryz.prog W base spare held m 34 ((List.drop 4 [c0, c1, c2, c3, c4]).take (Tryz.prog.cellsOf 34)) = some y := g 4 _ rfl
  simp only [e3, e26, e31, List.drop_succ_cons, List.drop_zero, List.take_succ_cons, List.take_zero] at h0 h1 h2 h3 h4
  obtain ⟨er, z0, _, _⟩ := DataW.trod_int Tryz.underlying26 h0
  obtain ⟨at_, z1, _, _⟩ := DataW.trod_int Tryz.underlying3 h1
  obtain ⟨nn, z2, _, _⟩ := DataW.trod_int Tryz.underlying3 h2
  obtain ⟨ct, z3, _, _⟩ := DataW.trod_int Tryz.underlying3 h3
  obtain ⟨p, ds, q, z4, hb, hi, hlt, hn⟩ := bytes_read h4
  cases z0; cases z1; cases z2; cases z3; cases z4
  exact ⟨⟨er, at_, nn, ct, ds⟩, p, q, rfl, hb, hi, hlt, hn⟩

/- Rows of structs, read. -/
set_option maxRecDepth 100000 in
theorem rows_read {t e : TypeId} {n K : Nat} {cs : List Value} {x : DataW H × List MemPlace} (ht : Tryz.prog.underlying t = some (.slice e)) (hK : Tryz.prog.cellsOf e = K) (hK0 : 0 < K)
    (h : DataW.trod enc Tryz.prog W base spare held n t cs = some x) {α : Type} [Inhabited α] (V : α → List Value) (Ok : α → Prop)
    (hel : ∀ (m : Nat) (cs' : List Value) (y : DataW H × List MemPlace), DataW.trod enc Tryz.prog W base spare held m e cs' = some y → ∃ a, cs' = V a ∧ Ok a) :
    ∃ (rs : List α) (pv : Option Addr) (cap : Nat), cs = [.slice pv rs.length cap] ∧ rs.length ≤ maxLen ∧ (∀ a ∈ rs, Ok a) ∧
      ∀ i (hi : i < rs.length), ∃ g o, pv = some ⟨g, o, none⟩ ∧ ∀ j v, (V rs[i])[j]? = some v → W.cell? ⟨g, o + i * K + j, none⟩ = some v := by
  rcases open_slice ht h with ⟨hcs, _⟩ | ⟨a, len, cap, m, n', D, Pl, hcs, hb, hl, hm, hmm, _, hall⟩
  · exact ⟨[], none, 0, hcs, Nat.zero_le _, fun a ha => absurd ha (List.not_mem_nil), fun i hi => absurd hi (Nat.not_lt_zero i)⟩
  · subst hcs
    have hlm : len ≤ m := by rw [hmm]; split <;> omega
    obtain ⟨ab, ao, asp⟩ := a
    have hsp : 0 < len → asp = none := by
      intro h0
      obtain ⟨cs', h1, _⟩ := hall 0 (by omega)
      rw [hK] at h1
      unfold World.cells? at h1
      rw [if_pos (show base ≤ (Addr.add ⟨ab, ao, asp⟩ (0 * K)).block from by rw [Nat.zero_mul]; exact hb)] at h1
      have h2 : W.cell? (Addr.add (Addr.add ⟨ab, ao, asp⟩ (0 * K)) 0) = cs'[0]? := mapM_some_get h1 0 0 (by simp [hK0])
      rw [Nat.zero_mul, List.getElem?_eq_getElem (by have hlen : cs'.length = K := by simpa using mapM_some_length h1
                                                     omega)] at h2
      exact spot_none (show W.cell? ⟨ab, ao, asp⟩ = _ from h2)
    have hcells : ∀ i, i < len → ∃ a, Ok a ∧ ∀ j v, (V a)[j]? = some v → W.cell? ⟨ab, ao + i * K + j, none⟩ = some v := by
      intro i hi
      obtain rfl := hsp (by omega)
      obtain ⟨cs', h1, h2⟩ := hall i (by omega)
      rw [hK, add_plain] at h1
      unfold World.cells? at h1
      rw [if_pos hb] at h1
      have hlen : cs'.length = K := by simpa using mapM_some_length h1
      have hget : ∀ j, j < K → W.cell? ⟨ab, ao + i * K + j, none⟩ = cs'[j]? := fun j hj => by
        have := mapM_some_get h1 j j (by simp [hj])
        rw [add_plain] at this
        exact this
      obtain ⟨a, rfl, hok⟩ := hel _ _ _ h2
      refine ⟨a, hok, fun j v hv => ?_⟩
      rw [hget j (by have := (List.getElem?_eq_some_iff.1 hv).1; omega)]
      exact hv
    obtain ⟨f, hf⟩ := choose_lt hcells
    refine ⟨(List.range len).map f, some ⟨ab, ao, asp⟩, cap, by simp, by simp; omega, fun a ha => ?_, fun i hi => ?_⟩
    · obtain ⟨i, hi, rfl⟩ := List.mem_map.1 ha
      exact (hf i (List.mem_range.1 hi)).1
    · have hi2 : i < len := by simpa using hi
      obtain ⟨_, hc⟩ := hf i hi2
      obtain rfl := hsp (by omega)
      refine ⟨ab, ao, rfl, fun j v hv => hc j v ?_⟩
      simpa using hv

/-- An event that came in. -/
structure EvJ (w : World) (e : EvM) : Prop where
  ok : EvOk w e
  n1 : e.p1 = none → e.q1 = 0
  n2 : e.p2 = none → e.q2 = 0

set_option maxRecDepth 100000 in
theorem ev_read {n : Nat} {cs : List Value} {x : DataW H × List MemPlace} (h : DataW.trod enc Tryz.prog W base spare held n 60 cs = some x) :
    ∃ e : EvM, cs = evV e ∧ EvJ W e := by
  obtain ⟨xs, m, rfl, _, hl, hx, hf⟩ := DataW.trod_struct Tryz.underlying60 h
  rw [show Tryz.prog.cellsOf 60 = 16 from by kernel_rfl] at hl
  have e3 : Tryz.prog.cellsOf 3 = 1 := by kernel_rfl
  have e33 : Tryz.prog.cellsOf 36 = 7 := by kernel_rfl
  have e35 : Tryz.prog.cellsOf 38 = 5 := by kernel_rfl
  have g := field_cell hx hf
  obtain ⟨y0, h0⟩ : ∃ y, DataW.trod enc Tryz.prog W base spare held m 3 ((List.drop 0 cs).take (Tryz.prog.cellsOf 3)) = some y := g 0 _ rfl
  obtain ⟨y1, h1⟩ : ∃ y, DataW.trod enc Tryz.prog W base spare held m 36 ((List.drop 1 cs).take (Tryz.prog.cellsOf 36)) = some y := g 1 _ rfl
  obtain ⟨y2, h2⟩ : ∃ y, DataW.trod enc Tryz.prog W base spare held m 38 ((List.drop 8 cs).take (Tryz.prog.cellsOf 38)) = some y := g 2 _ rfl
  obtain ⟨y3, h3⟩ : ∃ y, DataW.trod enc Tryz.prog W base spare held m 3 ((List.drop 13 cs).take (Tryz.prog.cellsOf 3)) = some y := g 3 _ rfl
  obtain ⟨y4, h4⟩ : ∃ y, DataW.trod enc Tryz.prog W base spare held m 3 ((List.drop 14 cs).take (Tryz.prog.cellsOf 3)) = some y := g 4 _ rfl
  obtain ⟨y5, h5⟩ : ∃ y, DataW.trod enc Tryz.prog W base spare held m 3 ((List.drop 15 cs).take (Tryz.prog.cellsOf 3)) = some y := g 5 _ rfl
  rw [e3] at h0 h3 h4 h5
  rw [e33] at h1
  rw [e35] at h2
  obtain ⟨wk, z0, _, wwk⟩ := DataW.trod_int Tryz.underlying3 h0
  obtain ⟨o, p1, q1, z1, ok1, in1, lt1, n1⟩ := op_read h1
  obtain ⟨a, p2, q2, z2, ok2, in2, lt2, n2⟩ := ans_read h2
  obtain ⟨as_, z3, _, _⟩ := DataW.trod_int Tryz.underlying3 h3
  obtain ⟨tk, z4, _, _⟩ := DataW.trod_int Tryz.underlying3 h4
  obtain ⟨en, z5, _, _⟩ := DataW.trod_int Tryz.underlying3 h5
  refine ⟨⟨wk, o, a, p1, q1, p2, q2, as_, tk, en⟩, ?_, ⟨ok1, ok2, in1, in2, lt1, lt2, wwk⟩, n1, n2⟩
  match cs, hl with
  | [c0, c1, c2, c3, c4, c5, c6, c7, c8, c9, c10, c11, c12, c13, c14, c15], _ =>
    simp only [List.drop_succ_cons, List.drop_zero, List.take_succ_cons, List.take_zero] at z0 z1 z2 z3 z4 z5
    cases z0; cases z1; cases z2; cases z3; cases z4; cases z5
    rfl

theorem evs_read {n : Nat} {cs : List Value} {x : DataW H × List MemPlace} (h : DataW.trod enc Tryz.prog W base spare held n 58 cs = some x) :
    ∃ (es : List EvM) (pv : Option Addr) (cap : Nat), cs = [.slice pv es.length cap] ∧ es.length ≤ maxLen ∧ (∀ e ∈ es, EvJ W e) ∧ EvsAt W pv es :=
  haveI : Inhabited EvM := ⟨⟨0, ⟨0, 0, 0, 0, 0, 0, []⟩, ⟨0, 0, 0, 0, []⟩, none, 0, none, 0, 0, 0, 0⟩⟩
  rows_read Tryz.underlying58 (show Tryz.prog.cellsOf 60 = 16 from by kernel_rfl) (by decide) h evV (EvJ W) (fun _ _ _ h2 => ev_read h2)

end

end Go.Proofs.YtgcnbiccekaffaaGreat
