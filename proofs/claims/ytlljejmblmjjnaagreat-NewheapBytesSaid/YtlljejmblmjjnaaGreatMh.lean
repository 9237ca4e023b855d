/- The law's alive: true. (printed by gen_alive.py) -/
import Derived.Test.YtlljejmblmjjnaaGreatMg
import Derived.Laws.StructEq
import Derived.WalkKit
import Derived.WalkSpells
import Derived.WalkLawsBesides
import Derived.BigQuiet
import Derived.Lib.Hide
namespace Go.Proofs.YtlljejmblmjjnaaGreat
set_option linter.unusedVariables false
set_option linter.unusedSimpArgs false
open Go.RowKit Go.ChangeMaps

theorem QuietI.step {w w1 w2 : World} {x : Nat} {H : HL} {pages : Nat} {s s' : HP} {v : Value} {e : Ending} (h : QuietI w w1 x H pages s) (hp : HPost w1 H pages s s' v e w2) (hg : HGood pages s') : ∃ H' : HL, QuietI w w2 x H' pages s' ∧ H'.h = H.h ∧ Turned H.F w1 w2 := by
  obtain ⟨-, H', q1, q2, q3, q4⟩ := hp
  have hx : ¬ H.F x := h.at_.heap.offT h.at_.obj (by decide)
  refine ⟨H', h.next ⟨?_, q2⟩ hg q1 q3 q4, q3.h, q4⟩
  rw [q3.gr, q3.h]
  exact (q4.block _ (lt_of_block h.at_.obj) hx).trans h.at_.obj
theorem QuietI.cx {w w1 : World} {x : Nat} {H : HL} {pages : Nat} {s : HP} (h : QuietI w w1 x H pages s) : w1.cell? ⟨x, 1, none⟩ = some (.pointer (some ⟨H.h, 0, none⟩)) := h.at_.cells.2
/-- A block of another kind stays. -/
theorem HeapAt.stay {w1 w2 : World} {H : HL} {pages : Nat} {s : HP} (h : HeapAt w1 H pages s) (t : Turned H.F w1 w2) {g : Nat} {cs : Array Value} {T : TypeId} (hg : w1.heap[g]? = some (.cells cs T (0, 0)))
    (hT : [79, 82, 131, 91, 163, 5, 159, 161, 202, 209, 212, 155].contains T = false) : w2.heap[g]? = some (.cells cs T (0, 0)) :=
  (t.block _ (lt_of_block hg) (h.offT hg hT)).trans hg

theorem own_block8 {w : World} {base : Nat} {v : Value} (h : w.ownsRow base 52 3 v al4.A.length (rowVs al4.A)) :
    ∃ g cap, v = .slice (some ⟨g, 0, none⟩) 2 cap ∧ 2 ≤ cap ∧ ∃ cur, w.heap[g]? = some (.cells cur 52 (0, 0)) ∧ ∀ i, i < 6 → cur[i]? = ([.int .i64 0, .int .i64 1, .bool false, .int .i64 4, .int .i64 1, .bool false] : List Value)[i]? := by
  obtain ⟨g, cap, cur, rfl, -, hg, h1, -, h3, h4⟩ := own_block h (by decide)
  refine ⟨g, cap, rfl, h1, cur, hg, fun i hi => ?_⟩
  have h5 : (cur.toList.take 6)[i]? = (rowVs al4.A)[i]? := by rw [← h4]; rfl
  rw [List.getElem?_take, if_pos hi, Array.getElem?_toList] at h5
  exact h5

set_option maxRecDepth 8000 in
set_option maxHeartbeats 8000000 in
theorem alive_any (w : World) : Calls Tryz.prog 8 #[] w fun e w' => e = .returned (.bool true) ∧ Below w.heap.size w w' := by
  have HB : Hid (Calls Tryz.prog 29 #[.int .i64 16] w (BeginPost w 16)) := begin_yes 16 (by decide) w
  go_enter Tryz.func8, Tryz.ntmps8
  go_wp2_with (fail)
  refine HB.out.mono ?_
  rintro e w1 ⟨x, y, H1, rfl, hA, hl, hF, hx, hb⟩
  have HI1 : Hid (QuietI w w1 x H1 16 (s0 16)) := ⟨hA, init_good 16 hA.heap.inv.tile, hl, hF, hx, hb⟩
  obtain ⟨hh, hhe⟩ : ∃ hh, hh = H1.h := ⟨_, rfl⟩
  have HE1 := Lib.hid hhe
  have c1 := HI1.out.cx
  rw [← hhe] at c1
  clear hA hl hF hx hb hhe
  have HC1 := Lib.hid (htake_any HI1.out.at_.heap 11)
  rw [← HE1.out, al1_is] at HC1
  unfold ansV at HC1
  go_wp2_with (fail)
  refine HC1.out.mono ?_
  rintro e w2 hp
  obtain ⟨H2, hI2, hhe2, ht2⟩ := HI1.out.step hp (by have := take_good HI1.out.good 11; rw [al1_is] at this; exact this)
  obtain ⟨rfl, -⟩ := hp
  have HE2 : Hid (hh = H2.h) := HE1.out.trans hhe2.symm
  have c2 := hI2.cx
  rw [← HE2.out] at c2
  have HI2 := Lib.hid hI2
  clear hI2 hhe2 ht2 c1 HC1
  have HC2 := Lib.hid (htake_any HI2.out.at_.heap 11)
  rw [← HE2.out, al2_is] at HC2
  unfold ansV at HC2
  go_wp2_with (fail)
  refine HC2.out.mono ?_
  rintro e w3 hp
  obtain ⟨H3, hI3, hhe3, ht3⟩ := HI2.out.step hp (by have := take_good HI2.out.good 11; rw [al2_is] at this; exact this)
  obtain ⟨rfl, -⟩ := hp
  have HE3 : Hid (hh = H3.h) := HE2.out.trans hhe3.symm
  have c3 := hI3.cx
  rw [← HE3.out] at c3
  have HI3 := Lib.hid hI3
  clear hI3 hhe3 ht3 c2 HC2
  have HC3 := Lib.hid (htake_any HI3.out.at_.heap 11)
  rw [← HE3.out, al3_is] at HC3
  unfold ansV at HC3
  go_wp2_with (fail)
  refine HC3.out.mono ?_
  rintro e w4 hp
  obtain ⟨H4, hI4, hhe4, ht4⟩ := HI3.out.step hp (by have := take_good HI3.out.good 11; rw [al3_is] at this; exact this)
  obtain ⟨rfl, -⟩ := hp
  have HE4 : Hid (hh = H4.h) := HE3.out.trans hhe4.symm
  have c4 := hI4.cx
  rw [← HE4.out] at c4
  have HI4 := Lib.hid hI4
  clear hI4 hhe4 ht4 c3 HC3
  have HC4 := Lib.hid (hfind_any HI4.out.at_.heap 512)
  rw [← HE4.out, al3_find] at HC4
  simp only [findPV] at HC4
  go_wp2_with (fail)
  refine HC4.out.mono ?_
  rintro e w5 ⟨rfl, hb⟩
  have HI5 := Lib.hid (HI4.out.below' hb)
  have HE5 : Hid (hh = H4.h) := HE4.out
  have c5 := HI5.out.cx
  rw [← HE5.out] at c5
  clear hb c4 HC4
  go_upto_region 8 with (fail)
  obtain ⟨v5, hv5⟩ : ∃ v5, v5 = w5.alloc (.cells #[.int .i64 0, .int .i64 1] 56) := ⟨_, rfl⟩
  have hb : Below w5.heap.size w5 v5 := by rw [hv5]; exact (Below.refl _ _).alloc (Nat.le_refl _) _
  have PL6 : Hid (v5.heap[w5.heap.size]? = some (.cells #[.int .i64 0, .int .i64 1] 56 (0, 0))) := by rw [hv5]; exact heap_alloc_new _ _
  have HI6 := Lib.hid (HI5.out.below' hb)
  have HE6 : Hid (hh = H4.h) := HE5.out
  have c6 := HI6.out.cx
  rw [← HE6.out] at c6
  have HR : Hid (v5 = v5) := rfl
  try rw [← hv5]
  clear hv5 hb c5 HR
  generalize w5.heap.size = OP at *
  have HC6 := Lib.hid (hhas_any HI6.out.at_.heap 512)
  rw [← HE6.out, al3_has] at HC6
  go_wp2_with (fail)
  refine HC6.out.mono ?_
  rintro e w7 ⟨rfl, hb⟩
  have HI7 := Lib.hid (HI6.out.below' hb)
  have HE7 : Hid (hh = H4.h) := HE6.out
  have c7 := HI7.out.cx
  rw [← HE7.out] at c7
  have PL7 := Lib.hid ((hb.block _ (lt_of_block PL6.out)).trans PL6.out)
  clear hb c6 HC6
  have HC7 := Lib.hid (hgive_any HI7.out.at_.heap 0)
  rw [← HE7.out, al4_is] at HC7
  go_wp2_with (fail)
  refine HC7.out.mono ?_
  rintro e w8 hp
  obtain ⟨H8, hI8, hhe8, ht8⟩ := HI7.out.step hp (by have := give_good HI7.out.good 0; rw [al4_is] at this; exact this)
  obtain ⟨rfl, -⟩ := hp
  have HE8 : Hid (hh = H8.h) := HE7.out.trans hhe8.symm
  have c8 := hI8.cx
  rw [← HE8.out] at c8
  have PL8 := Lib.hid (HI7.out.at_.heap.stay ht8 PL7.out (by decide))
  have HI8 := Lib.hid hI8
  clear hI8 hhe8 ht8 c7 HC7
  have HC8 := Lib.hid (hrows_any HI8.out.at_.heap 11)
  rw [← HE8.out, al4_rows] at HC8
  go_wp2_with (fail)
  refine HC8.out.mono ?_
  rintro e w9 ⟨vr, rfl, hrow, hb⟩
  have HI9 := Lib.hid (HI8.out.below' hb)
  have HE9 : Hid (hh = H8.h) := HE8.out
  have c9 := HI9.out.cx
  rw [← HE9.out] at c9
  have PL9 := Lib.hid ((hb.block _ (lt_of_block PL8.out)).trans PL8.out)
  obtain ⟨gr, capr, hvr, hcp, cur, hgr2, hcur⟩ := own_block8 hrow
  subst hvr
  have HCUR := Lib.hid hcur
  have RW9 := Lib.hid hgr2
  clear hrow hgr2 hcur
  clear hb c8 HC8
  have HC9 := Lib.hid (hgive_any HI9.out.at_.heap 512)
  rw [← HE9.out, al5_is] at HC9
  go_wp2_with (fail)
  refine HC9.out.mono ?_
  rintro e w10 hp
  obtain ⟨H10, hI10, hhe10, ht10⟩ := HI9.out.step hp (by have := give_good HI9.out.good 512; rw [al5_is] at this; exact this)
  obtain ⟨rfl, -⟩ := hp
  have HE10 : Hid (hh = H10.h) := HE9.out.trans hhe10.symm
  have c10 := hI10.cx
  rw [← HE10.out] at c10
  have PL10 := Lib.hid (HI9.out.at_.heap.stay ht10 PL9.out (by decide))
  have RW10 := Lib.hid (HI9.out.at_.heap.stay ht10 RW9.out (by decide))
  have HI10 := Lib.hid hI10
  clear hI10 hhe10 ht10 c9 HC9
  have HC10 := Lib.hid (hseal_any HI10.out.at_.heap 4)
  rw [← HE10.out, al6_is] at HC10
  go_wp2_with (fail)
  refine HC10.out.mono ?_
  rintro e w11 hp
  obtain ⟨H11, hI11, hhe11, ht11⟩ := HI10.out.step hp (by have := (seal_good HI10.out.good 4).1; rw [al6_is] at this; exact this)
  obtain ⟨rfl, -⟩ := hp
  have HE11 : Hid (hh = H11.h) := HE10.out.trans hhe11.symm
  have c11 := hI11.cx
  rw [← HE11.out] at c11
  have PL11 := Lib.hid (HI10.out.at_.heap.stay ht11 PL10.out (by decide))
  have RW11 := Lib.hid (HI10.out.at_.heap.stay ht11 RW10.out (by decide))
  have HI11 := Lib.hid hI11
  clear hI11 hhe11 ht11 c10 HC10
  have HC11 := Lib.hid (hunseal_any HI11.out.at_.heap 4)
  rw [← HE11.out, al7_is] at HC11
  go_wp2_with (fail)
  refine HC11.out.mono ?_
  rintro e w12 hp
  obtain ⟨H12, hI12, hhe12, ht12⟩ := HI11.out.step hp (by have := (unseal_good HI11.out.good 4).1; rw [al7_is] at this; exact this)
  obtain ⟨rfl, -⟩ := hp
  have HE12 : Hid (hh = H12.h) := HE11.out.trans hhe12.symm
  have c12 := hI12.cx
  rw [← HE12.out] at c12
  have PL12 := Lib.hid (HI11.out.at_.heap.stay ht12 PL11.out (by decide))
  have RW12 := Lib.hid (HI11.out.at_.heap.stay ht12 RW11.out (by decide))
  have HI12 := Lib.hid hI12
  clear hI12 hhe12 ht12 c11 HC11
  have HLV : Hid (Calls Tryz.prog 32 #[.pointer (some ⟨hh, 0, none⟩), .int .i64 4] w12 (LeavePost w12 H12 16 al5 ⟨4, 11, [1], false⟩)) := by
    have := hleave_yes HI12.out.at_.heap (x := ⟨4, 11, [1], false⟩) (List.mem_singleton.2 rfl)
    rw [← HE12.out] at this
    exact this
  go_wp2_with (fail)
  refine HLV.out.mono ?_
  rintro e w13 ⟨sb, rfl, hsbF, H13, hl13, hLA, hA13, hOf, hT⟩
  have hxF : ¬ H12.F x := HI12.out.at_.heap.offT HI12.out.at_.obj (by decide)
  have c13 := turned_cell hT hxF c12
  rw [al8_is] at hA13 hOf
  have hx13 : w13.heap[x]? = some (.cells #[.pointer (some ⟨H13.gr, 0, none⟩), .pointer (some ⟨H13.h, 0, none⟩), .slice none 0 0] 35 (0, 0)) := by
    rw [hOf.gr, hOf.h]
    exact (hT.block _ (lt_of_block HI12.out.at_.obj) hxF).trans HI12.out.at_.obj
  have HJN : Hid (Calls Tryz.prog 33 #[.pointer (some ⟨hh, 0, none⟩), .pointer (some ⟨sb, 0, none⟩)] w13 fun e w' => e = .returned (.int .i64 0) ∧ ∃ H', QuietI w w' x H' 16 al5 ∧ hh = H'.h ∧ Turned H13.F w13 w') := by
    have hbj := hT.below (B := w.heap.size) HI12.out.foot HI12.out.below.size
    have hsz := HI12.out.below.size
    have := hjoin_yes hA13 (x := ⟨4, 11, [1], false⟩) (sb := sb) (n := w.heap.size) hLA (HI12.out.at_.heap.inv.each _ (List.mem_singleton.2 rfl)) (HI12.out.at_.heap.inv.tk _ (List.mem_singleton.2 rfl)) (fun z hz => absurd hz List.not_mem_nil) (by omega) (Nat.le_trans hsz hT.size) (HI12.out.foot sb hsbF)
    rw [show H13.h = hh from hOf.h.trans HE12.out.symm] at this
    refine this.mono ?_
    rintro e w' ⟨rfl, H', l', a', o', t'⟩
    have hxF' : ¬ H13.F x := hA13.offT hx13 (by decide)
    refine ⟨rfl, H', ⟨⟨?_, a'⟩, HI12.out.good, ?_, ?_, HI12.out.x, ?_⟩, ?_, t'⟩
    · rw [o'.gr, o'.h]
      exact (t'.block _ (lt_of_block hx13) hxF').trans hx13
    · have := HI12.out.left
      omega
    · intro k hk
      rcases o'.foot k hk with e | e
      · rcases hOf.foot k e with e | e
        · exact HI12.out.foot k e
        · omega
      · exact e
    · refine (HI12.out.below.trans hbj).trans (t'.below (B := w.heap.size) (fun k hk => ?_) (Nat.le_trans hsz hT.size))
      rcases hOf.foot k hk with e | e
      · exact HI12.out.foot k e
      · omega
    · rw [o'.h, hOf.h]; exact HE12.out
  have PL13 := Lib.hid (HI12.out.at_.heap.stay hT PL12.out (by decide))
  have RW13 := Lib.hid (HI12.out.at_.heap.stay hT RW12.out (by decide))
  have HA13 := Lib.hid hA13
  clear hl13 hLA hA13 hOf hT hxF hx13 c12 hsbF
  go_wp2_with (fail)
  refine HJN.out.mono ?_
  rintro e w14 ⟨rfl, H14, hI14, hhe14, ht14⟩
  have HE14 := Lib.hid hhe14
  have c14 := hI14.cx
  rw [← HE14.out] at c14
  have PL14 := Lib.hid (HA13.out.stay ht14 PL13.out (by decide))
  have RW14 := Lib.hid (HA13.out.stay ht14 RW13.out (by decide))
  have HI14 := Lib.hid hI14
  clear hI14 hhe14 ht14 c13
  have HC14 := Lib.hid (hcheck_any HI14.out.at_.heap 4)
  rw [← HE14.out, al9_get] at HC14
  rw [if_pos rfl] at HC14
  go_wp2_with (fail)
  refine HC14.out.mono ?_
  rintro e w15 ⟨rfl, hb⟩
  have HI15 := Lib.hid (HI14.out.below' hb)
  have HE15 : Hid (hh = H14.h) := HE14.out
  have c15 := HI15.out.cx
  rw [← HE15.out] at c15
  have PL15 := Lib.hid ((hb.block _ (lt_of_block PL14.out)).trans PL14.out)
  have RW15 := Lib.hid ((hb.block _ (lt_of_block RW14.out)).trans RW14.out)
  clear hb c14 HC14
  have p0 : w15.cell? ⟨OP, 0, none⟩ = some (.int .i64 0) := cell_of_block PL15.out 0
  have p1 : w15.cell? ⟨OP, 1, none⟩ = some (.int .i64 1) := cell_of_block PL15.out 1
  have r0 : w15.cell? ⟨gr, 0, none⟩ = some (.int .i64 0) := (cell_of_block RW15.out 0).trans (HCUR.out 0 (by decide))
  have r1 : w15.cell? ⟨gr, 1, none⟩ = some (.int .i64 1) := (cell_of_block RW15.out 1).trans (HCUR.out 1 (by decide))
  have r2 : w15.cell? ⟨gr, 2, none⟩ = some (.bool false) := (cell_of_block RW15.out 2).trans (HCUR.out 2 (by decide))
  have r3 : w15.cell? ⟨gr, 3, none⟩ = some (.int .i64 4) := (cell_of_block RW15.out 3).trans (HCUR.out 3 (by decide))
  have r4 : w15.cell? ⟨gr, 4, none⟩ = some (.int .i64 1) := (cell_of_block RW15.out 4).trans (HCUR.out 4 (by decide))
  have r5 : w15.cell? ⟨gr, 5, none⟩ = some (.bool false) := (cell_of_block RW15.out 5).trans (HCUR.out 5 (by decide))
  have HC15 := Lib.hid (pages_any HI15.out.at_.heap)
  rw [← HE15.out] at HC15
  go_wp2_with (fail)
  refine HC15.out.mono ?_
  rintro e w16 ⟨vp, rfl, hrow, hb⟩
  have HI16 := Lib.hid (HI15.out.below' hb)
  have HE16 : Hid (hh = H14.h) := HE15.out
  have c16 := HI16.out.cx
  rw [← HE16.out] at c16
  have HP16 : Hid (Ints w16 w15.heap.size vp [4]) := by
    have h9 := hrow
    rw [al9_pages] at h9
    exact Ints.of_own h9 rfl
  clear hrow p0 p1 r0 r1 r2 r3 r4 r5
  clear hb c15 HC15
  obtain ⟨pp, cp, hvp, hat⟩ := HP16.out.at
  have hvp : vp = .slice pp 1 cp := hvp
  subst hvp
  have hba : Below w16.heap.size w16 (w16.alloc (.cells #[.int .i64 4] 3)) := (Below.refl _ _).alloc (Nat.le_refl _) _
  have HS16 : Hid (Calls Tryz.prog 25 #[.slice pp 1 cp, .slice (some ⟨w16.heap.size, 0, none⟩) 1 1] (w16.alloc (.cells #[.int .i64 4] 3)) fun e w' => e = .returned (.bool true) ∧ Below (w16.alloc (.cells #[.int .i64 4] 3)).heap.size (w16.alloc (.cells #[.int .i64 4] 3)) w') :=
    sameInts_any _ pp _ cp 1 [4] [4] (hat.below hba) (fun i hi => by
      have : i = 0 := by simpa using hi
      subst this
      refine ⟨w16.heap.size, 0, rfl, ?_⟩
      rw [cell_of_block (heap_alloc_new _ _)]
      rfl) (by decide)
  have HBA16 := Lib.hid (HI16.out.below' hba)
  clear hat hba
  go_wp2_with (fail)
  refine HS16.out.mono ?_
  rintro e w17 ⟨rfl, hb⟩
  have HI17 := Lib.hid (HBA16.out.below' hb)
  have HE17 : Hid (hh = H14.h) := HE16.out
  have c17 := HI17.out.cx
  rw [← HE17.out] at c17
  clear hb c16 HS16
  have HC17 := Lib.hid (htaken_any HI17.out.at_.heap)
  rw [← HE17.out, al9_taken] at HC17
  go_wp2_with (fail)
  refine HC17.out.mono ?_
  rintro e w18 ⟨vp, rfl, hints, hb⟩
  have HI18 := Lib.hid (HI17.out.below' hb)
  have HE18 : Hid (hh = H14.h) := HE17.out
  have c18 := HI18.out.cx
  rw [← HE18.out] at c18
  have HP18 := Lib.hid hints
  clear hints
  clear hb c17 HC17
  obtain ⟨pp, cp, hvp, hat⟩ := HP18.out.at
  have hvp : vp = .slice pp 1 cp := hvp
  subst hvp
  have hba : Below w18.heap.size w18 (w18.alloc (.cells #[.int .i64 1024] 3)) := (Below.refl _ _).alloc (Nat.le_refl _) _
  have HS18 : Hid (Calls Tryz.prog 25 #[.slice pp 1 cp, .slice (some ⟨w18.heap.size, 0, none⟩) 1 1] (w18.alloc (.cells #[.int .i64 1024] 3)) fun e w' => e = .returned (.bool true) ∧ Below (w18.alloc (.cells #[.int .i64 1024] 3)).heap.size (w18.alloc (.cells #[.int .i64 1024] 3)) w') :=
    sameInts_any _ pp _ cp 1 [1024] [1024] (hat.below hba) (fun i hi => by
      have : i = 0 := by simpa using hi
      subst this
      refine ⟨w18.heap.size, 0, rfl, ?_⟩
      rw [cell_of_block (heap_alloc_new _ _)]
      rfl) (by decide)
  have HBA18 := Lib.hid (HI18.out.below' hba)
  clear hat hba
  go_wp2_with (fail)
  refine HS18.out.mono ?_
  rintro e w19 ⟨rfl, hb⟩
  have HI19 := Lib.hid (HBA18.out.below' hb)
  have HE19 : Hid (hh = H14.h) := HE18.out
  have c19 := HI19.out.cx
  rw [← HE19.out] at c19
  clear hb c18 HS18
  have HC19 := Lib.hid (hready_any HI19.out.at_.heap 11)
  rw [← HE19.out, al9_ready] at HC19
  go_wp2_with (fail)
  refine HC19.out.mono ?_
  rintro e w20 ⟨rfl, hb⟩
  have HI20 := Lib.hid (HI19.out.below' hb)
  have HE20 : Hid (hh = H14.h) := HE19.out
  have c20 := HI20.out.cx
  rw [← HE20.out] at c20
  clear hb c19 HC19
  have HC20 := Lib.hid (hcheck_any HI20.out.at_.heap 0)
  rw [← HE20.out, al9_none] at HC20
  rw [if_neg (by decide)] at HC20
  go_wp2_with (fail)
  refine HC20.out.mono ?_
  rintro e w21 ⟨rfl, hb⟩
  have HI21 := Lib.hid (HI20.out.below' hb)
  have HE21 : Hid (hh = H14.h) := HE20.out
  have c21 := HI21.out.cx
  rw [← HE21.out] at c21
  clear hb c20 HC20
  go_wp2
  go_ret
  exact ⟨rfl, HI21.out.below⟩

end Go.Proofs.YtlljejmblmjjnaaGreat
