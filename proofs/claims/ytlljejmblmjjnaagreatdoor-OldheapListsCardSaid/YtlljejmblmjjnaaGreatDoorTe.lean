/- The law's alive: true. (printed by gen_te.py) -/
import Derived.Test.YtlljejmblmjjnaaGreatDoorTA
import Derived.Laws.StructEq
import Derived.WalkKit
import Derived.WalkSpells
import Derived.WalkLawsBesides
import Derived.BigQuiet
import Derived.Lib.Hide
namespace Go.Proofs.YtlljejmblmjjnaaGreatDoor
set_option linter.unusedVariables false
set_option linter.unusedSimpArgs false
open Go.RowKit Go.ChangeMaps

set_option maxRecDepth 8000 in
set_option maxHeartbeats 8000000 in
theorem alive_any (w : World) (ht : Tab w) : Calls Tryz.prog 7 #[] w fun e w' => e = .returned (.bool true) ∧ Below w.heap.size w w' := by
  have HB : Hid (Calls Tryz.prog 9 #[.int .i64 16] w (BeginPostO w 16)) := begin_yes 16 (by decide) w ht
  clear ht
  go_enter Tryz.func7, Tryz.ntmps7
  go_wp2_with (fail)
  refine HB.out.mono ?_
  intro e w1 hbp
  obtain ⟨x, y, H1, rfl, hI1⟩ := hbp.quiet
  have HI1 := Lib.hid hI1
  obtain ⟨hh, hhe⟩ : ∃ hh, hh = H1.h := ⟨_, rfl⟩
  have HE1 := Lib.hid hhe
  have c1 := HI1.out.cx
  rw [← hhe] at c1
  clear hbp hI1 hhe
  have HC1 := Lib.hid (htakeO_any HI1.out.at_.heap HI1.out.good.inv 15)
  rw [← HE1.out, al1_is] at HC1
  unfold ansO at HC1
  go_wp2_with (fail)
  refine HC1.out.mono ?_
  rintro e w2 hp
  obtain ⟨H2, hI2, hhe2, ht, ho⟩ := HI1.out.step hp (by have := take_goodO HI1.out.good 15; rw [al1_is] at this; exact this)
  obtain ⟨rfl, -⟩ := hp
  have HE2 : Hid (hh = H2.h) := HE1.out.trans hhe2.symm
  have c2 := hI2.cx
  rw [← HE2.out] at c2
  have HI2 := Lib.hid hI2
  clear hI2 hhe2 ht ho c1 HC1
  have HC2 := Lib.hid (htakeO_any HI2.out.at_.heap HI2.out.good.inv 15)
  rw [← HE2.out, al2_is] at HC2
  unfold ansO at HC2
  go_wp2_with (fail)
  refine HC2.out.mono ?_
  rintro e w3 hp
  obtain ⟨H3, hI3, hhe3, ht, ho⟩ := HI2.out.step hp (by have := take_goodO HI2.out.good 15; rw [al2_is] at this; exact this)
  obtain ⟨rfl, -⟩ := hp
  have HE3 : Hid (hh = H3.h) := HE2.out.trans hhe3.symm
  have c3 := hI3.cx
  rw [← HE3.out] at c3
  have HI3 := Lib.hid hI3
  clear hI3 hhe3 ht ho c2 HC2
  have HC3 := Lib.hid (htakeO_any HI3.out.at_.heap HI3.out.good.inv 15)
  rw [← HE3.out, al3_is] at HC3
  unfold ansO at HC3
  go_wp2_with (fail)
  refine HC3.out.mono ?_
  rintro e w4 hp
  obtain ⟨H4, hI4, hhe4, ht, ho⟩ := HI3.out.step hp (by have := take_goodO HI3.out.good 15; rw [al3_is] at this; exact this)
  obtain ⟨rfl, -⟩ := hp
  have HE4 : Hid (hh = H4.h) := HE3.out.trans hhe4.symm
  have c4 := hI4.cx
  rw [← HE4.out] at c4
  have HI4 := Lib.hid hI4
  clear hI4 hhe4 ht ho c3 HC3
  have HC4 := Lib.hid (olist_any HI4.out.at_.heap 15 1 (by decide) (by decide))
  rw [← HE4.out, al3_full] at HC4
  go_wp2_with (fail)
  refine HC4.out.mono ?_
  rintro e w5 ⟨vFA, rfl, hrow, hb⟩
  have HI5 := Lib.hid (HI4.out.below' hb)
  have HE5 : Hid (hh = H4.h) := HE4.out
  have c5 := HI5.out.cx
  rw [← HE5.out] at c5
  obtain ⟨pFA, qFA, hv⟩ := own_slice2 hrow
  have hv : vFA = .slice pFA 1 qFA := hv
  subst hv
  have FA5 : Hid (w5.ownsRow w4.heap.size 3 1 (.slice pFA 1 qFA) 1 (intsV [0])) := hrow
  obtain ⟨bFA, hbFA⟩ : ∃ bFA, bFA = w4.heap.size := ⟨_, rfl⟩
  rw [← hbFA] at FA5
  clear hrow hbFA
  clear hb c4 HC4
  have HC5 := Lib.hid (hfindO_any HI5.out.at_.heap 512)
  rw [← HE5.out, al3_find] at HC5
  simp only [findOV] at HC5
  go_wp2_with (fail)
  refine HC5.out.mono ?_
  rintro e w6 ⟨rfl, hb⟩
  have HI6 := Lib.hid (HI5.out.below' hb)
  have HE6 : Hid (hh = H4.h) := HE5.out
  have c6 := HI6.out.cx
  rw [← HE6.out] at c6
  have FA6 := Lib.hid (rowI_below hb FA5.out)
  clear hb c5 HC5
  go_upto_region 9 with (fail)
  obtain ⟨w7, hv6⟩ : ∃ w7, w7 = w6.alloc (.cells #[.int .i64 0, .int .i64 1] 59) := ⟨_, rfl⟩
  have hb : Below w6.heap.size w6 w7 := by rw [hv6]; exact (Below.refl _ _).alloc (Nat.le_refl _) _
  have PL7 : Hid (w7.heap[w6.heap.size]? = some (.cells #[.int .i64 0, .int .i64 1] 59 (0, 0))) := by rw [hv6]; exact heap_alloc_new _ _
  have HI7 := Lib.hid (HI6.out.below' hb)
  have HE7 : Hid (hh = H4.h) := HE6.out
  have c7 := HI7.out.cx
  rw [← HE7.out] at c7
  try rw [← hv6]
  have FA7 := Lib.hid (rowI_below hb FA6.out)
  clear hv6 hb c6
  generalize w6.heap.size = OP at *
  have HC7 := Lib.hid (hhasO_any HI7.out.at_.heap 512)
  rw [← HE7.out, al3_has] at HC7
  go_wp2_with (fail)
  refine HC7.out.mono ?_
  rintro e w8 ⟨rfl, hb⟩
  have HI8 := Lib.hid (HI7.out.below' hb)
  have HE8 : Hid (hh = H4.h) := HE7.out
  have c8 := HI8.out.cx
  rw [← HE8.out] at c8
  have FA8 := Lib.hid (rowI_below hb FA7.out)
  have PL8 := Lib.hid ((hb.block _ (lt_of_block PL7.out)).trans PL7.out)
  clear hb c7 HC7
  have HC8 := Lib.hid (hgiveO_any HI8.out.at_.heap HI8.out.good.inv 0)
  rw [← HE8.out, al4_is] at HC8
  go_wp2_with (fail)
  refine HC8.out.mono ?_
  rintro e w9 hp
  obtain ⟨H9, hI9, hhe9, ht, ho⟩ := HI8.out.step hp (by have := give_goodO HI8.out.good 0; rw [al4_is] at this; exact this)
  obtain ⟨rfl, -⟩ := hp
  have HE9 : Hid (hh = H9.h) := HE8.out.trans hhe9.symm
  have c9 := hI9.cx
  rw [← HE9.out] at c9
  have FA9 := Lib.hid (HI8.out.at_.heap.stayR ht FA8.out)
  have PL9 := Lib.hid (HI8.out.at_.heap.stay ht PL8.out (by decide))
  have HI9 := Lib.hid hI9
  clear hI9 hhe9 ht ho c8 HC8
  have HC9 := Lib.hid (olist_any HI9.out.at_.heap 15 0 (by decide) (by decide))
  rw [← HE9.out, al4_part] at HC9
  go_wp2_with (fail)
  refine HC9.out.mono ?_
  rintro e w10 ⟨vFB, rfl, hrow, hb⟩
  have HI10 := Lib.hid (HI9.out.below' hb)
  have HE10 : Hid (hh = H9.h) := HE9.out
  have c10 := HI10.out.cx
  rw [← HE10.out] at c10
  have FA10 := Lib.hid (rowI_below hb FA9.out)
  have PL10 := Lib.hid ((hb.block _ (lt_of_block PL9.out)).trans PL9.out)
  obtain ⟨pFB, qFB, hv⟩ := own_slice2 hrow
  have hv : vFB = .slice pFB 2 qFB := hv
  subst hv
  have FB10 : Hid (w10.ownsRow w9.heap.size 3 1 (.slice pFB 2 qFB) 2 (intsV [0, 4])) := hrow
  obtain ⟨bFB, hbFB⟩ : ∃ bFB, bFB = w9.heap.size := ⟨_, rfl⟩
  rw [← hbFB] at FB10
  clear hrow hbFB
  clear hb c9 HC9
  have HC10 := Lib.hid (hsealO_any HI10.out.at_.heap HI10.out.good.inv 4)
  rw [← HE10.out, al5_is] at HC10
  go_wp2_with (fail)
  refine HC10.out.mono ?_
  rintro e w11 hp
  obtain ⟨H11, hI11, hhe11, ht, ho⟩ := HI10.out.step hp (by have := seal_goodO HI10.out.good 4; rw [al5_is] at this; exact this)
  obtain ⟨rfl, -⟩ := hp
  have HE11 : Hid (hh = H11.h) := HE10.out.trans hhe11.symm
  have c11 := hI11.cx
  rw [← HE11.out] at c11
  have FA11 := Lib.hid (HI10.out.at_.heap.stayR ht FA10.out)
  have PL11 := Lib.hid (HI10.out.at_.heap.stay ht PL10.out (by decide))
  have FB11 := Lib.hid (HI10.out.at_.heap.stayR ht FB10.out)
  have HI11 := Lib.hid hI11
  clear hI11 hhe11 ht ho c10 HC10
  have HC11 := Lib.hid (hslabO_any HI11.out.at_.heap 0)
  rw [← HE11.out] at HC11
  have HLT11 := Lib.hid HI11.out.at_.heap.F_lt
  go_wp2_with (fail)
  refine HC11.out.mono ?_
  rintro e w12 (⟨hn, -⟩ | ⟨xx, L, hx, rfl, l1, l2, l3, hos, hb⟩)
  · rw [al5_get] at hn; cases hn
  rw [al5_get] at hx
  obtain rfl := Option.some.inj hx
  have HI12 := Lib.hid (HI11.out.below' hb)
  have HE12 : Hid (hh = H11.h) := HE11.out
  have c12 := HI12.out.cx
  rw [← HE12.out] at c12
  have FA12 := Lib.hid (rowI_below hb FA11.out)
  have PL12 := Lib.hid ((hb.block _ (lt_of_block PL11.out)).trans PL11.out)
  have FB12 := Lib.hid (rowI_below hb FB11.out)
  have CL12 : Hid (CloneI w12 H11 L (⟨0, 15, 2, false⟩ : PO).O) := ⟨hos, fun hf => absurd (HLT11.out _ hf) (by omega), fun hf => absurd (HLT11.out _ hf) (by omega), fun hf => absurd (HLT11.out _ hf) (by omega)⟩
  clear hb c11 HC11 hos l1 l2 l3 hx HLT11
  have HC12 := Lib.hid (hgiveO_any HI12.out.at_.heap HI12.out.good.inv 512)
  rw [← HE12.out, al6_is] at HC12
  go_wp2_with (fail)
  refine HC12.out.mono ?_
  rintro e w13 hp
  obtain ⟨H13, hI13, hhe13, ht, ho⟩ := HI12.out.step hp (by have := give_goodO HI12.out.good 512; rw [al6_is] at this; exact this)
  obtain ⟨rfl, -⟩ := hp
  have HE13 : Hid (hh = H13.h) := HE12.out.trans hhe13.symm
  have c13 := hI13.cx
  rw [← HE13.out] at c13
  have FA13 := Lib.hid (HI12.out.at_.heap.stayR ht FA12.out)
  have PL13 := Lib.hid (HI12.out.at_.heap.stay ht PL12.out (by decide))
  have FB13 := Lib.hid (HI12.out.at_.heap.stayR ht FB12.out)
  have CL13 := Lib.hid (CL12.out.step ht ho)
  have HI13 := Lib.hid hI13
  clear hI13 hhe13 ht ho c12 HC12
  have HC13 := Lib.hid (hgiveO_any HI13.out.at_.heap HI13.out.good.inv 1024)
  rw [← HE13.out, al7_is] at HC13
  go_wp2_with (fail)
  refine HC13.out.mono ?_
  rintro e w14 hp
  obtain ⟨H14, hI14, hhe14, ht, ho⟩ := HI13.out.step hp (by have := give_goodO HI13.out.good 1024; rw [al7_is] at this; exact this)
  obtain ⟨rfl, -⟩ := hp
  have HE14 : Hid (hh = H14.h) := HE13.out.trans hhe14.symm
  have c14 := hI14.cx
  rw [← HE14.out] at c14
  have FA14 := Lib.hid (HI13.out.at_.heap.stayR ht FA13.out)
  have PL14 := Lib.hid (HI13.out.at_.heap.stay ht PL13.out (by decide))
  have FB14 := Lib.hid (HI13.out.at_.heap.stayR ht FB13.out)
  have CL14 := Lib.hid (CL13.out.step ht ho)
  have HI14 := Lib.hid hI14
  clear hI14 hhe14 ht ho c13 HC13
  obtain ⟨yy, hyy, hyx⟩ := HI14.out.at_.heap.mem (x := alX) (by rw [al7_A]; exact List.mem_singleton.2 rfl)
  have HLV : Hid (Calls Tryz.prog 31 #[.pointer (some ⟨hh, 0, none⟩), .int .i64 0] w14 (LeavePostO w14 H14 16 al7 yy)) := by
    have := hleaveO_yes HI14.out.at_.heap hyy
    rw [← HE14.out, hyx] at this
    exact this
  have HYX := Lib.hid hyx
  clear hyy hyx
  go_wp2_with (fail)
  refine HLV.out.mono ?_
  rintro e w15 ⟨rfl, hA, ho, ht⟩
  have hxF : ¬ H14.F x := HI14.out.at_.heap.offT HI14.out.at_.obj (by decide)
  have c15 := turned_cell ht hxF c14
  rw [HYX.out] at hA
  have HJN : Hid (Calls Tryz.prog 32 #[.pointer (some ⟨hh, 0, none⟩), .pointer (some ⟨yy.L.s, 0, none⟩)] w15 fun e w' => e = .returned (.int .i64 0) ∧ ∃ H', QuietI w w' x (.slice none 0 0) H' 16 al8 ∧ hh = H'.h ∧ Turned (dropH H14 yy).F w15 w' ∧ (dropH H14 yy).Of H' w15.heap.size) := by
    have hj := hjoinO_yes hA (y := yy) (L0 := H14.left) rfl
    rw [show (dropH H14 yy).h = hh from HE14.out.symm, HYX.out] at hj
    refine hj.mono ?_
    rintro e w' ⟨rfl, H', q1, q2, q3, q4, q5, q6⟩
    have hob := (ht.block _ (lt_of_block HI14.out.at_.obj) hxF).trans HI14.out.at_.obj
    have hxF' : ¬ (dropH H14 yy).F x := hA.offT hob (by decide)
    have hfd : ∀ k, (dropH H14 yy).F k → w.heap.size ≤ k := fun k hk => (ho.foot k hk).elim (HI14.out.foot k) fun e => Nat.le_trans HI14.out.below.size e
    have hbj : Below w.heap.size w w15 := HI14.out.below.trans (ht.below (B := w.heap.size) HI14.out.foot HI14.out.below.size)
    refine ⟨rfl, H', ⟨⟨?_, ?_, q4⟩, al8_good HI14.out.good, ⟨q1.trans HI14.out.left.1, q2.trans HI14.out.left.2.1, q3.trans HI14.out.left.2.2⟩, ?_, HI14.out.x, ?_⟩, ?_, q6, q5⟩
    · rw [q5.gr, q5.h]
      exact (q6.block _ (lt_of_block hob) hxF').trans hob
    · rw [q1, HI14.out.left.1]
      exact World.ownsRow_nil _ _ _ _
    · intro k hk
      rcases q5.foot k hk with e | e
      · exact hfd k e
      · exact Nat.le_trans hbj.size e
    · exact hbj.trans (q6.below (B := w.heap.size) hfd hbj.size)
    · rw [q5.h]; exact HE14.out
  have FA15 := Lib.hid (HI14.out.at_.heap.stayR ht FA14.out)
  have PL15 := Lib.hid (HI14.out.at_.heap.stay ht PL14.out (by decide))
  have FB15 := Lib.hid (HI14.out.at_.heap.stayR ht FB14.out)
  have CL15 := Lib.hid (CL14.out.step ht ho)
  have HA15 := Lib.hid hA
  clear hA ho ht hxF c14
  go_wp2_with (fail)
  refine HJN.out.mono ?_
  rintro e w16 ⟨rfl, H16, hI16, hhe16, ht, ho⟩
  have HE16 := Lib.hid hhe16
  have c16 := hI16.cx
  rw [← HE16.out] at c16
  have FA16 := Lib.hid (HA15.out.stayR ht FA15.out)
  have PL16 := Lib.hid (HA15.out.stay ht PL15.out (by decide))
  have FB16 := Lib.hid (HA15.out.stayR ht FB15.out)
  have CL16 := Lib.hid (CL15.out.step ht ho)
  have HI16 := Lib.hid hI16
  clear hI16 hhe16 ht ho c15
  have p0 : w16.cell? ⟨OP, 0, none⟩ = some (.int .i64 0) := cell_of_block PL16.out 0
  have p1 : w16.cell? ⟨OP, 1, none⟩ = some (.int .i64 1) := cell_of_block PL16.out 1
  obtain ⟨pp, cp, hvp, hat⟩ := (Ints.of_own FA16.out rfl).at
  have hvp' := hvp
  simp only [Value.slice.injEq] at hvp'
  obtain ⟨hp1, -, hp3⟩ := hvp'
  subst hp1 hp3
  obtain ⟨w17, hva⟩ : ∃ w17, w17 = w16.alloc (.cells #[.int .i64 0] 3) := ⟨_, rfl⟩
  have hb : Below w16.heap.size w16 w17 := by rw [hva]; exact (Below.refl _ _).alloc (Nat.le_refl _) _
  have HS16 : Hid (Calls Tryz.prog 26 #[.slice pFA 1 qFA, .slice (some ⟨w16.heap.size, 0, none⟩) 1 1] w17 fun e w' => e = .returned (.bool true) ∧ Below w17.heap.size w17 w') :=
    sameInts_any w17 pFA _ qFA 1 [0] [0] (hat.below hb) (fun i hi => by
      refine ⟨w16.heap.size, 0, rfl, ?_⟩
      rw [Nat.zero_add, hva, cell_of_block (heap_alloc_new _ _)]
      match i, hi with
      | 0, _ => rfl) (by decide)
  have HVA := Lib.hid hva
  have HBA := Lib.hid hb
  have HI17 := Lib.hid (HI16.out.below' hb)
  have HE17 : Hid (hh = H16.h) := HE16.out
  have FA17 := Lib.hid (rowI_below hb FA16.out)
  have FB17 := Lib.hid (rowI_below hb FB16.out)
  have CL17 := Lib.hid (CL16.out.below hb)
  clear hat hva hb hvp
  go_wp2_with (fail)
  rw [← HVA.out]
  refine HS16.out.mono ?_
  rintro e w18 ⟨rfl, hb⟩
  have HI18 := Lib.hid (HI17.out.below' hb)
  have HE18 : Hid (hh = H16.h) := HE17.out
  have c18 := HI18.out.cx
  rw [← HE18.out] at c18
  have FA18 := Lib.hid (rowI_below hb FA17.out)
  have FB18 := Lib.hid (rowI_below hb FB17.out)
  have CL18 := Lib.hid (CL17.out.below hb)
  clear hb c16 HS16 HVA HBA p0 p1
  obtain ⟨pp, cp, hvp, hat⟩ := (Ints.of_own FB18.out rfl).at
  have hvp' := hvp
  simp only [Value.slice.injEq] at hvp'
  obtain ⟨hp1, -, hp3⟩ := hvp'
  subst hp1 hp3
  obtain ⟨w19, hva⟩ : ∃ w19, w19 = w18.alloc (.cells #[.int .i64 0, .int .i64 4] 3) := ⟨_, rfl⟩
  have hb : Below w18.heap.size w18 w19 := by rw [hva]; exact (Below.refl _ _).alloc (Nat.le_refl _) _
  have HS18 : Hid (Calls Tryz.prog 26 #[.slice pFB 2 qFB, .slice (some ⟨w18.heap.size, 0, none⟩) 2 2] w19 fun e w' => e = .returned (.bool true) ∧ Below w19.heap.size w19 w') :=
    sameInts_any w19 pFB _ qFB 2 [0, 4] [0, 4] (hat.below hb) (fun i hi => by
      refine ⟨w18.heap.size, 0, rfl, ?_⟩
      rw [Nat.zero_add, hva, cell_of_block (heap_alloc_new _ _)]
      match i, hi with
      | 0, _ => rfl
      | 1, _ => rfl) (by decide)
  have HVA := Lib.hid hva
  have HBA := Lib.hid hb
  have HI19 := Lib.hid (HI18.out.below' hb)
  have HE19 : Hid (hh = H16.h) := HE18.out
  have FB19 := Lib.hid (rowI_below hb FB18.out)
  have CL19 := Lib.hid (CL18.out.below hb)
  clear hat hva hb hvp
  go_wp2_with (fail)
  rw [← HVA.out]
  refine HS18.out.mono ?_
  rintro e w20 ⟨rfl, hb⟩
  have HI20 := Lib.hid (HI19.out.below' hb)
  have HE20 : Hid (hh = H16.h) := HE19.out
  have c20 := HI20.out.cx
  rw [← HE20.out] at c20
  have FB20 := Lib.hid (rowI_below hb FB19.out)
  have CL20 := Lib.hid (CL19.out.below hb)
  clear hb c18 HS18 HVA HBA
  have HC20 := Lib.hid (pagesO_any HI20.out.at_.heap)
  rw [← HE20.out] at HC20
  go_wp2_with (fail)
  refine HC20.out.mono ?_
  rintro e w21 ⟨vFC, rfl, hrow, hb⟩
  have HI21 := Lib.hid (HI20.out.below' hb)
  have HE21 : Hid (hh = H16.h) := HE20.out
  have c21 := HI21.out.cx
  rw [← HE21.out] at c21
  have CL21 := Lib.hid (CL20.out.below hb)
  rw [al8_pages] at hrow
  obtain ⟨pFC, qFC, hv⟩ := own_slice2 hrow
  have hv : vFC = .slice pFC 1 qFC := hv
  subst hv
  have FC21 : Hid (w21.ownsRow w20.heap.size 3 1 (.slice pFC 1 qFC) 1 (intsV [0])) := hrow
  clear hrow
  clear hb c20 HC20
  obtain ⟨pp, cp, hvp, hat⟩ := (Ints.of_own FC21.out rfl).at
  have hvp' := hvp
  simp only [Value.slice.injEq] at hvp'
  obtain ⟨hp1, -, hp3⟩ := hvp'
  subst hp1 hp3
  obtain ⟨w22, hva⟩ : ∃ w22, w22 = w21.alloc (.cells #[.int .i64 0] 3) := ⟨_, rfl⟩
  have hb : Below w21.heap.size w21 w22 := by rw [hva]; exact (Below.refl _ _).alloc (Nat.le_refl _) _
  have HS21 : Hid (Calls Tryz.prog 26 #[.slice pFC 1 qFC, .slice (some ⟨w21.heap.size, 0, none⟩) 1 1] w22 fun e w' => e = .returned (.bool true) ∧ Below w22.heap.size w22 w') :=
    sameInts_any w22 pFC _ qFC 1 [0] [0] (hat.below hb) (fun i hi => by
      refine ⟨w21.heap.size, 0, rfl, ?_⟩
      rw [Nat.zero_add, hva, cell_of_block (heap_alloc_new _ _)]
      match i, hi with
      | 0, _ => rfl) (by decide)
  have HVA := Lib.hid hva
  have HBA := Lib.hid hb
  have HI22 := Lib.hid (HI21.out.below' hb)
  have HE22 : Hid (hh = H16.h) := HE21.out
  have CL22 := Lib.hid (CL21.out.below hb)
  have FC22 := Lib.hid (rowI_below hb FC21.out)
  clear hat hva hb hvp
  go_wp2_with (fail)
  rw [← HVA.out]
  refine HS21.out.mono ?_
  rintro e w23 ⟨rfl, hb⟩
  have HI23 := Lib.hid (HI22.out.below' hb)
  have HE23 : Hid (hh = H16.h) := HE22.out
  have c23 := HI23.out.cx
  rw [← HE23.out] at c23
  have CL23 := Lib.hid (CL22.out.below hb)
  have FC23 := Lib.hid (rowI_below hb FC22.out)
  clear hb c21 HS21 HVA HBA
  have HC23 := Lib.hid (htakenO_any HI23.out.at_.heap)
  rw [← HE23.out] at HC23
  go_wp2_with (fail)
  refine HC23.out.mono ?_
  rintro e w24 ⟨vt, rfl, hints, hb⟩
  have HI24 := Lib.hid (HI23.out.below' hb)
  have HE24 : Hid (hh = H16.h) := HE23.out
  have c24 := HI24.out.cx
  rw [← HE24.out] at c24
  have CL24 := Lib.hid (CL23.out.below hb)
  rw [al8_taken] at hints
  obtain ⟨pt, qt, hvt, -⟩ := hints.at
  have hvt : vt = .slice pt 0 qt := hvt
  subst hvt
  clear hints
  clear hb c23 HC23
  have HFR : Hid (Calls Tryz.prog 20 #[.pointer (some ⟨L.s, 0, none⟩)] w24 fun e w' => e = .returned (.int .i64 1) ∧ Below w24.heap.size w24 w') := by
    have h9 := ofree_any CL24.out.at_
    rw [show ((slA (⟨0, 15, 2, false⟩ : PO).O.cls - ones (⟨0, 15, 2, false⟩ : PO).O.x (slA (⟨0, 15, 2, false⟩ : PO).O.cls) : Nat) : Int) = 1 from congrArg Int.ofNat al8_free] at h9
    exact h9
  go_wp2_with (fail)
  refine HFR.out.mono ?_
  rintro e w25 ⟨rfl, hb⟩
  have HI25 := Lib.hid (HI24.out.below' hb)
  have HE25 : Hid (hh = H16.h) := HE24.out
  have c25 := HI25.out.cx
  rw [← HE25.out] at c25
  clear hb c24 HFR
  have HC25 := Lib.hid (hreadyO_any HI25.out.at_.heap 15 (by decide))
  rw [← HE25.out, al8_ready] at HC25
  go_wp2_with (fail)
  refine HC25.out.mono ?_
  rintro e w26 ⟨rfl, hb⟩
  have HI26 := Lib.hid (HI25.out.below' hb)
  have HE26 : Hid (hh = H16.h) := HE25.out
  have c26 := HI26.out.cx
  rw [← HE26.out] at c26
  clear hb c25 HC25
  have HC26 := Lib.hid (hunsealO_any HI26.out.at_.heap HI26.out.good.inv 0)
  rw [← HE26.out, al8_un0] at HC26
  go_wp2_with (fail)
  refine HC26.out.mono ?_
  rintro e w27 hp
  obtain ⟨H27, hI27, hhe27, ht, ho⟩ := HI26.out.step hp (by have := unseal_goodO HI26.out.good 0; rw [al8_un0] at this; exact this)
  obtain ⟨rfl, -⟩ := hp
  have HE27 : Hid (hh = H27.h) := HE26.out.trans hhe27.symm
  have c27 := hI27.cx
  rw [← HE27.out] at c27
  have HI27 := Lib.hid hI27
  clear hI27 hhe27 ht ho c26 HC26
  have HC27 := Lib.hid (hunsealO_any HI27.out.at_.heap HI27.out.good.inv 4)
  rw [← HE27.out, al8_un4] at HC27
  go_wp2_with (fail)
  refine HC27.out.mono ?_
  rintro e w28 hp
  obtain ⟨H28, hI28, hhe28, ht, ho⟩ := HI27.out.step hp (by have := unseal_goodO HI27.out.good 4; rw [al8_un4] at this; exact this)
  obtain ⟨rfl, -⟩ := hp
  have HE28 : Hid (hh = H28.h) := HE27.out.trans hhe28.symm
  have c28 := hI28.cx
  rw [← HE28.out] at c28
  have HI28 := Lib.hid hI28
  clear hI28 hhe28 ht ho c27 HC27
  go_wp2
  go_ret
  exact ⟨rfl, HI28.out.below⟩

end Go.Proofs.YtlljejmblmjjnaaGreatDoor
