/- CheckFacts: for every input the law returns true, and each argument reads behind the call as it read before. No condition. -/
import Derived.Test.YtgcnbiccekaffaaGreatRj
import Derived.Test.YtgcnbiccekaffaaGreatFb
namespace Go.Proofs.YtgcnbiccekaffaaGreat
open Go.ChangeShapes Go.WideShapes Go.ChangeAt Go.RowKit Go.Deep
set_option linter.unusedVariables false

section
variable {H : Type} {enc : TypeId × Value → H} {W : World} {base : Nat} {spare : Nat → Bool} {held : Bool}

set_option maxRecDepth 100000 in
theorem fact_read {n : Nat} {cs : List Value} {x : DataW H × List MemPlace} (h : DataW.trod enc Tryz.prog W base spare held n 40 cs = some x) :
    ∃ e : FactM, cs = factV e ∧ FactJ W e := by
  obtain ⟨xs, m, rfl, _, hl, hx, hf⟩ := DataW.trod_struct Tryz.underlying40 h
  rw [show Tryz.prog.cellsOf 40 = 12 from by kernel_rfl] at hl
  have e33 : Tryz.prog.cellsOf 36 = 7 := by kernel_rfl
  have e35 : Tryz.prog.cellsOf 38 = 5 := by kernel_rfl
  have g := field_cell hx hf
  obtain ⟨y1, h1⟩ : ∃ y, DataW.trod enc Tryz.prog W base spare held m 36 ((List.drop 0 cs).take (Tryz.prog.cellsOf 36)) = some y := g 0 _ rfl
  obtain ⟨y2, h2⟩ : ∃ y, DataW.trod enc Tryz.prog W base spare held m 38 ((List.drop 7 cs).take (Tryz.prog.cellsOf 38)) = some y := g 1 _ rfl
  rw [e33] at h1
  rw [e35] at h2
  obtain ⟨o, p1, q1, z1, ok1, in1, lt1, n1⟩ := op_read h1
  obtain ⟨a, p2, q2, z2, ok2, in2, lt2, n2⟩ := ans_read h2
  refine ⟨⟨o, a, p1, q1, p2, q2⟩, ?_, ok1, ok2, in1, in2, lt1, lt2, n1, n2⟩
  match cs, hl with
  | [c0, c1, c2, c3, c4, c5, c6, c7, c8, c9, c10, c11], _ =>
    simp only [List.drop_succ_cons, List.drop_zero, List.take_succ_cons, List.take_zero] at z1 z2
    cases z1; cases z2
    rfl

theorem facts_read {n : Nat} {cs : List Value} {x : DataW H × List MemPlace} (h : DataW.trod enc Tryz.prog W base spare held n 22 cs = some x) :
    ∃ (es : List FactM) (pv : Option Addr) (cap : Nat), cs = [.slice pv es.length cap] ∧ es.length ≤ maxLen ∧ (∀ e ∈ es, FactJ W e) ∧ FactsAt W pv es :=
  haveI : Inhabited FactM := ⟨⟨⟨0, 0, 0, 0, 0, 0, []⟩, ⟨0, 0, 0, 0, []⟩, none, 0, none, 0⟩⟩
  rows_read Tryz.underlying22 (show Tryz.prog.cellsOf 40 = 12 from by kernel_rfl) (by decide) h factV (FactJ W) (fun _ _ _ h2 => fact_read h2)
end

theorem fc_own : ownKnob Tryz.prog.godebug = none := by kernel_rfl
theorem fc_laidOut : laidOutB Tryz.prog = true := by kernel_rfl

set_option maxRecDepth 100000 in
theorem facts_lifted (os : Os) (started : os.Started) (H : Type) (enc : TypeId × Value → H) :
    ReturnsInHanded {} Tryz.checked os 3 .any (Rows.checkFactsSpec.pre6 enc Tryz.prog Tryz.f3 Rows.checkFactsRow.domain false) (Rows.checkFactsSpec.post enc Tryz.prog Tryz.f3 false true false false) := by
  refine returnsInHanded_of_change (C := Tryz.checked) fc_own started (by kernel_rfl) Tryz.func3
    (ChangeSpec.witness6 (enc := enc) (C := Tryz.checked) false ⟨#[], #[.int .i64 0, .slice none 0 0, .int .i64 0, .int .i64 0], []⟩ 8 (by kernel_rfl) (by kernel_rfl) (by kernel_rfl) (by kernel_rfl)) ?_
  intro W base args ds gs before hval0 hW hcnd _
  have hval : ∀ (j : Nat) t v, Tryz.f3.params[j]? = some t → args[j]? = some v → Value.okWide Tryz.prog W .any base t v := hval0
  have hW' := hW
  obtain ⟨p, q, hA0, hV, rfl, hfz, hnd⟩ := hW
  have hA : DataW.TrodAll enc Tryz.prog W 0 (fun _ => true) true Tryz.f3.params.toList args.toList ds p := hA0
  rw [Tryz.params3] at hA hval
  obtain ⟨v0, vs0, d0, ds0, p0, q0, hargs, rfl, rfl, h0, r0⟩ := trodAll_cons hA
  obtain ⟨v1, vs1, d1, ds1, p1, q1, rfl, rfl, rfl, h1, r1⟩ := trodAll_cons r0
  obtain ⟨v2, vs2, d2, ds2, p2, q2, rfl, rfl, rfl, h2, r2⟩ := trodAll_cons r1
  obtain ⟨v3, vs3, d3, ds3, p3, q3, rfl, rfl, rfl, h3, r3⟩ := trodAll_cons r2
  obtain ⟨rfl, rfl, rfl⟩ := trodAll_nil r3
  obtain rfl : args = #[v0, v1, v2, v3] := by cases args; simp_all
  obtain ⟨rfl, rfl⟩ := trodVars_none hV
  obtain ⟨a0, rfl, rfl, rfl, w0⟩ := open_int Tryz.underlying3 (hval 0 3 v0 rfl rfl) h0
  obtain ⟨a1, len1, cap1, rfl⟩ := okWide_slice Tryz.underlying22 (hval 1 22 v1 rfl rfl)
  obtain ⟨a2, rfl, rfl, rfl, w2⟩ := open_int Tryz.underlying3 (hval 2 3 v2 rfl rfl) h2
  obtain ⟨a3, rfl, rfl, rfl, w3⟩ := open_int Tryz.underlying3 (hval 3 3 v3 rfl rfl) h3
  have k1 := h1
  have lt1 : ∀ x ∈ p1, x.block < W.heap.size := by obtain ⟨m, hm⟩ := k1; exact DataW.trod_lt m _ _ _ hm
  obtain ⟨fuel, hf⟩ := h1
  obtain ⟨fs, pv, cap, hcs, hlen, hok, hfs⟩ := facts_read hf
  simp only [Value.cells, List.cons.injEq, and_true, Value.slice.injEq] at hcs
  obtain ⟨rfl, rfl, rfl⟩ := hcs
  clear hA0 hval0
  refine (checkFacts_any W a0 a2 a3 _ _ fs hfs hok).mono fun e W' ⟨he, bel⟩ => ?_
  subst he
  exact ⟨_, rfl, _, _, _, [], _, [], hW', trodAll_mk1 (shut_bool Tryz.underlying4 _), (trodAll_cons_mk (shut_int Tryz.underlying3 w0) (trodAll_cons_mk (Below.trod fc_laidOut (by kernel_rfl) (of_decide_eq_true (by kernel_rfl)) k1 bel lt1) (trodAll_cons_mk (shut_int Tryz.underlying3 w2) (trodAll_cons_mk (shut_int Tryz.underlying3 w3) trodAll_mk0)))), rfl, bel.frame _, fun h => by cases h⟩

theorem facts_over : Rows.checkFactsRow.holds Tryz.pinned (OpenSpec.ofChange Rows.checkFactsSpec) :=
  OpenClaim.holds_of_wide 3 Tryz.f3 rfl rfl rfl rfl rfl rfl rfl ⟨rfl, rfl, rfl, rfl, rfl⟩ rfl rfl rfl rfl rfl (by kernel_rfl) Tryz.func3 (by kernel_rfl)
    (of_decide_eq_true (by kernel_rfl)) (by unfold Func.isWrapper; first | (rw [if_pos (by decide +kernel)]; kernel_rfl) | (rw [if_neg (by decide +kernel)]; exact ⟨rfl, rfl⟩))
    (fun os started H enc _ => facts_lifted os started H enc)

theorem checkFacts_holds : Rows.CheckFactsSaid := facts_over
#print axioms checkFacts_holds
end Go.Proofs.YtgcnbiccekaffaaGreat
