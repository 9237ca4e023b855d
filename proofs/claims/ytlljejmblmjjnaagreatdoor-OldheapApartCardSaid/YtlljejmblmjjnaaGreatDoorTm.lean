/- OldheapApart: its walk. (printed by gen_tm.py) -/
import Derived.Test.YtlljejmblmjjnaaGreatDoorTl
import Derived.Test.YtlljejmblmjjnaaGreatDoorTg
import Derived.WalkKit
import Derived.WalkSpells
import Derived.WalkLawsBesides
import Derived.BigQuiet
import Derived.Lib.Hide
namespace Go.Proofs.YtlljejmblmjjnaaGreatDoor
set_option linter.unusedVariables false
set_option linter.unusedSimpArgs false
open Go.RowKit Go.ChangeMaps

/-- A slot, and the slab that it is of. -/
theorem AtO.slab {pages : Nat} {s : OP} (h : OInv pages s) {c a : Int} (h1 : AtO s.A c a) : ∃ x ∈ s.A, (x.cls : Int) = c ∧ x.cls < 16 ∧ 0 ≤ a ∧ a < 256 * pages ∧ a % 16 = 0 ∧ a / 1024 * 4 = x.page ∧ getO s.A (a / 1024 * 4) = some x := by
  obtain ⟨x, hx, e1, i, hi, rfl⟩ := h1
  have a1 := (h.each x hx).addr_in hi
  have a2 := (h.each x hx).fits
  have a3 := szA_pos (h.each x hx).cls
  have a4 := (h.each x hx).al
  have e : ((x.addr i : Nat) : Int) / 1024 * 4 = x.page := by omega
  refine ⟨x, hx, e1, (h.each x hx).cls, by omega, by omega, ?_, e, by rw [e]; exact h.get hx⟩
  unfold PO.addr
  obtain ⟨m, hm⟩ : ∃ m, szA x.cls = 16 * m := ⟨szA x.cls / 16, by omega⟩
  rw [hm, show i * (16 * m) = 16 * (i * m) from Nat.mul_left_comm _ _ _]
  generalize i * m = z
  omega
/-- Slab at an address of a slab. -/
theorem AtO.clone {w : World} {H : OHL} {pages : Nat} {s : OP} (h : OHeapM w H pages s) {x : PO} {p : Int} (hg : getO s.A p = some x) : ∀ W, Below w.heap.size w W → Calls Tryz.prog 12 #[.pointer (some ⟨H.h, 0, none⟩), .int .i64 p] W fun e w' => ∃ L, e = .returned (.pointer (some ⟨L.s, 0, none⟩)) ∧ OSlabAt w' L x.O ∧ Below W.heap.size W w' := fun W hW => by
  refine (hslabO_any (h.below hW) p).mono ?_
  rintro e w' (⟨hn, -⟩ | ⟨x', L, hx, rfl, -, -, -, hos, hb⟩)
  · rw [hg] at hn; cases hn
  · rw [hg] at hx
    obtain rfl := Option.some.inj hx
    exact ⟨L, rfl, hos, hb⟩

set_option maxRecDepth 8000 in
set_option maxHeartbeats 80000000 in
theorem apart_any (n : Int) (cs : List CallM) (pv : Option Addr) (cap : Nat) (w : World) (hT : Tab w) (h : CallsAt w pv cs) (hcs : ∀ c ∈ cs, CallOk c) :
    Calls Tryz.prog 3 #[.int .i64 n, .slice pv cs.length cap] w fun e w' => e = .returned (.bool true) ∧ Below w.heap.size w w' := by
  have HALV := Lib.hid (alive_any w hT)
  have HTB := Lib.hid hT
  have HC := Lib.hid h
  have HOK := Lib.hid hcs
  clear h hcs hT
  go_enter Tryz.func3, Tryz.ntmps3
  go_wp2_with (fail)
  refine HALV.out.mono ?_
  rintro e w1 ⟨rfl, hb⟩
  have HB1 := Lib.hid hb
  have HC1 := Lib.hid (HC.out.below hb)
  have HT1 := Lib.hid (HTB.out.below hb)
  clear hb
  go_wp2_with (fail)
  refine (great_any n cs.length pv cap w1).mono ?_
  rintro e w1' ⟨rfl, rfl⟩
  cases hgt : greatB n cs.length with
  | true =>
    go_wp2
    go_ret
    exact ⟨rfl, HB1.out⟩
  | false =>
    obtain ⟨hn40, hc40⟩ := greatB_false hgt
    by_cases hneg : n < 0
    · have HQ := Lib.hid (begin_no n hneg w1)
      clear hgt hn40 hc40
      go_wp2_with (fail)
      refine HQ.out.mono ?_
      rintro e w2 ⟨rfl, hb2⟩
      have HB2 := Lib.hid (Below.via hb2 HB1.out.size HB1.out)
      clear hb2
      go_wp2
      go_ret
      exact ⟨rfl, HB2.out⟩
    · obtain ⟨pages, hpg⟩ : ∃ pages : Nat, n = pages := ⟨n.toNat, by omega⟩
      have HQ : Hid (Calls Tryz.prog 9 #[.int .i64 n] w1 (BeginPostO w1 pages)) := by
        rw [hpg]
        exact begin_yes pages (by omega) w1 HT1.out
      have HNP := Lib.hid hpg
      have HPOS : Hid (0 < w1.heap.size) := cell_lt (HT1.out 0 (by decide))
      have hp40 : pages ≤ 60 := by omega
      clear hgt hneg hpg
      go_wp2_with (fail)
      refine HQ.out.mono ?_
      intro e w2 hbp
      obtain ⟨x, y, H, rfl, hI⟩ := hbp.quiet
      have HA0 : Hid (ApartI w1 (w2.alloc (.map #[] 0)) x (.slice none 0 0) H pages (s0 pages) w2.heap.size (Value.int .i64) []) := ApartI.start hI HPOS.out _
      have HS0 := Lib.hid (s0_ok pages)
      clear hI hbp
      have hmm := @run_makeMap Tryz.prog
      go_wp2
      clear hmm
      generalize w2.heap.size = mb at *
      generalize w2.alloc (.map #[] 0) = wA at *
      generalize s0 pages = s00 at *
      rename_i K0 hK0
      have HK0 := Lib.hid hK0
      clear hK0
      go_loopw [8] (fun iv wr => ∃ (k : Nat) (H1 : OHL) (s : OP) (E : List ME), k ≤ cs.length ∧ iv = .int .i64 k ∧ ApartI w1 wr x (.slice none 0 0) H1 pages s mb (Value.int .i64) E ∧ MapOk s E ∧ SizesOk s E) (fun iv _ => cs.length - numOf iv)
      case atStart => exact ⟨0, H, s00, [], Nat.zero_le _, rfl, HA0.out, HS0.out.1, HS0.out.2⟩
      case round =>
        obtain ⟨k, H1, s, E, hk, rfl, hA, hM, hS⟩ := hrel
        have HA := Lib.hid hA
        have HM := Lib.hid hM
        have HS := Lib.hid hS
        by_cases hlt : k < cs.length
        · obtain ⟨g, o, rfl, hcell⟩ := HC1.out k hlt
          have hin : ∀ j v, (callV cs[k])[j]? = some v → wr.cell? ⟨g, o + k * 5 + j, none⟩ = some v := fun j v hv => cell_past hA.q.below (cell_lt (hcell j v hv)) (hcell j v hv)
          have x0 : wr.cell? ⟨g, o + k * 5, none⟩ = some (.int .i64 cs[k].what) := hin 0 _ rfl
          have x1 : wr.cell? ⟨g, o + k * 5 + 1, none⟩ = some (.int .i64 cs[k].cls) := hin 1 _ rfl
          have x2 : wr.cell? ⟨g, o + k * 5 + 2, none⟩ = some (.int .i64 cs[k].at_) := hin 2 _ rfl
          have x3 : wr.cell? ⟨g, o + k * 5 + 3, none⟩ = some (.int .i64 cs[k].n) := hin 3 _ rfl
          have x4 : wr.cell? ⟨g, o + k * 5 + 4, none⟩ = some (.int .i64 cs[k].pg) := hin 4 _ rfl
          have hi1 : (0 : Int) ≤ (k : Int) ∧ (k : Int) < cs.length := by omega
          have hkw : IntKind.i64.wrap ((k : Int) + 1) = (k : Int) + 1 := by rw [IntKind.wrap_i64]; omega
          have hok := HOK.out _ (List.getElem_mem hlt)
          have e1 := hA.q.cx
          clear hcell hin hA hM hS
          generalize hck : cs[k] = c at *
          clear hck
          obtain ⟨what, cls, at_, cn, pg⟩ := c
          simp only at x0 x1 x2 x3 x4
          have HOKC := Lib.hid hok
          clear hok
          by_cases hw4 : 4 < what
          · go_wp2
            go_roundw
            case rel => exact ⟨k + 1, H1, s, E, hlt, by go_num, HA.out.below' (Below.alloc (Below.refl _ _) (Nat.le_refl _) _), HM.out, HS.out⟩
            case measure => simp [numOf]; omega
          · by_cases hw0 : what < 0
            · go_wp2
              go_roundw
              case rel => exact ⟨k + 1, H1, s, E, hlt, by go_num, HA.out.below' (Below.alloc (Below.refl _ _) (Nat.le_refl _) _), HM.out, HS.out⟩
              case measure => simp [numOf]; omega
            · have HHS : Hid (∀ W, Below wr.heap.size wr W → Calls Tryz.prog 10 #[.pointer (some ⟨H1.h, 0, none⟩), .int .i64 at_] W fun e w' => e = .returned (.bool (hasO s.A at_)) ∧ Below W.heap.size W w') := fun W hW => hhasO_any (HA.out.q.at_.below hW).heap at_
              go_upto_region 14 with (fail)
              obtain ⟨W1, hW1⟩ : ∃ W1, W1 = wr.alloc (.cells #[.int .i64 what, .int .i64 cls, .int .i64 at_, .int .i64 cn, .int .i64 pg] 31) := ⟨_, rfl⟩
              have HBW1 : Hid (Below wr.heap.size wr W1) := by rw [hW1]; exact Below.alloc (Below.refl _ _) (Nat.le_refl _) _
              have hblk : W1.heap[wr.heap.size]? = some (.cells #[.int .i64 what, .int .i64 cls, .int .i64 at_, .int .i64 cn, .int .i64 pg] 31 (0, 0)) := by rw [hW1]; exact heap_alloc_new _ _
              have q2 := cell_of_block hblk 2
              simp only [List.getElem?_toArray, List.getElem?_cons_zero, List.getElem?_cons_succ] at q2
              have d1 := cell_past HBW1.out (cell_lt e1) e1
              have hsW1 := HBW1.out.size
              rw [← hW1]
              clear hW1 x0 x1 x2 x3 x4 e1
              (refine wp_region_quiet_ext (by kernel_rfl) (by kernel_rfl) ?_; (repeat (first | go_big_quiet_step ((go_at_call 10; exact Calls.ext_of (HHS.out _ (Below.via (below_ext _ _) hsW1 HBW1.out)))) | quiet_step ((go_at_call 10; exact Calls.ext_of (HHS.out _ (Below.via (below_ext _ _) hsW1 HBW1.out)))))); refine wpQuiet_nil ?_; intro w3 hw3; obtain hb3 := below_of_ext hw3; clear hw3; obtain ⟨hc3, hf3⟩ := bcell hb3; have hz3 := hb3.size; (try simp at hz3))
              have HB3 : Hid (Below wr.heap.size wr w3) := Below.via hb3 hsW1 HBW1.out
              have hblk3 := (hb3.block _ (lt_of_block hblk)).trans hblk
              have HBLK3 := Lib.hid hblk3
              have p0 := cell_of_block hblk3 0
              have p1 := cell_of_block hblk3 1
              have p2 := cell_of_block hblk3 2
              have p3 := cell_of_block hblk3 3
              have p4 := cell_of_block hblk3 4
              simp only [List.getElem?_toArray, List.getElem?_cons_zero, List.getElem?_cons_succ] at p0 p1 p2 p3 p4
              have hs3 := HB3.out.size
              have HOFF : Hid (¬ H1.F wr.heap.size) := (HA.out.below' HB3.out).q.at_.heap.offT HBLK3.out (by decide)
              have hmlt : mb < w3.heap.size := (HA.out.below' HB3.out).map.lt
              have HDO : Hid (Calls Tryz.prog 11 #[.pointer (some ⟨x, 0, none⟩), .agg #[.int .i64 what, .int .i64 cls, .int .i64 at_, .int .i64 cn, .int .i64 pg]] w3 (DoPost w3 x w1.heap.size (.slice none 0 0) H1 pages s (doO s ⟨what, cls, at_, cn, pg⟩).2 (doO s ⟨what, cls, at_, cn, pg⟩).1.1 (doO s ⟨what, cls, at_, cn, pg⟩).1.2)) :=
                do_any (HA.out.q.at_.below HB3.out) HA.out.q.good.inv ⟨what, cls, at_, cn, pg⟩ HOKC.out (by show 0 ≤ what; omega) (by show what < 5; omega)
              have HGD := Lib.hid (doO_good HA.out.q.good ⟨what, cls, at_, cn, pg⟩)
              clear hc3 hf3 hb3 hz3 hblk q2 d1 HHS hblk3 HBW1 hsW1
              by_cases hw1 : what = 1
              · subst hw1
                rw [doO_give _ rfl] at HDO HGD
                clear hw4 hw0
                obtain ⟨g1, g2⟩ := give_tknO HA.out.q.good.inv at_
                have hhas := hasO_iff HA.out.q.good.inv at_
                by_cases ht : TknO s.A at_
                · have hz := g1.2 ht
                  rw [hhas.2 ht]
                  have hm : MapOk (giveO s at_).2 (E.filter fun y => y.k != at_) := HM.out.del (fun b => by rw [g2]; exact ⟨fun h => ⟨h.1, h.2 hz⟩, fun h => ⟨h.1, fun _ => h.2⟩⟩)
                  have HM2 := Lib.hid (And.intro hm ((HS.out.del _).same HA.out.q.good.inv hm (give_sub s at_)))
                  have hv : 0 < valE E at_ := (HM.out.pos HS.out at_).2 ht
                  simp only at HDO HGD
                  rw [hz] at HDO
                  clear hz hm g1 g2 hhas ht
                  generalize (giveO s at_).2 = s' at *
                  go_wp2_with (fail)
                  refine HDO.out.mono ?_
                  rintro e wD hp
                  obtain ⟨v, H2, rfl, hints, hA4, -, -, ht4⟩ := (HA.out.below' HB3.out).done HGD.out hp
                  obtain ⟨pD, cD, rfl, -⟩ := hints
                  have hblk4 := (ht4.block _ (lt_of_block HBLK3.out) HOFF.out).trans HBLK3.out
                  have r0 := cell_of_block hblk4 0
                  have r2 := cell_of_block hblk4 2
                  simp only [List.getElem?_toArray, List.getElem?_cons_zero, List.getElem?_cons_succ] at r0 r2
                  have hlk := run_lookup_m und_imap zero_int' hA4.map at_
                  obtain ⟨blk, hdel, hmap⟩ := run_delete_m und_imap hA4.map HM.out.nodup at_
                  have HA5 := Lib.hid (hA4.wrote hmap)
                  simp only [List.length_nil]
                  clear hA4 ht4 hblk4 hmap p0 p1 p2 p3 p4 hp
                  generalize valE E at_ = vv at *
                  go_wp2
                  go_roundw
                  case rel => exact ⟨k + 1, H2, s', _, hlt, by go_num, HA5.out, HM2.out.1, HM2.out.2⟩
                  case measure => simp [numOf]; omega
                · have hz : ¬ (giveO s at_).1 = 0 := fun e => ht (g1.1 e)
                  have hh : hasO s.A at_ = false := by
                    cases hq : hasO s.A at_ with
                    | false => rfl
                    | true => exact absurd (hhas.1 hq) ht
                  rw [hh]
                  have hm : MapOk (giveO s at_).2 E := HM.out.same (fun a => by rw [g2]; exact ⟨fun h => h.1, fun h => ⟨h, fun e => absurd e hz⟩⟩)
                  have HM2 := Lib.hid (And.intro hm (HS.out.same HA.out.q.good.inv hm (give_sub s at_)))
                  have HV : Hid (valE E at_ = 0) := HM.out.val ht
                  have hzb : ((giveO s at_).1 == 0) = false := by simpa using hz
                  simp only at HDO HGD
                  clear hm g1 g2 hhas ht hh
                  generalize (giveO s at_).2 = s' at *
                  generalize (giveO s at_).1 = er at *
                  go_wp2_with (fail)
                  refine HDO.out.mono ?_
                  rintro e wD hp
                  obtain ⟨v, H2, rfl, hints, hA4, -, -, ht4⟩ := (HA.out.below' HB3.out).done HGD.out hp
                  obtain ⟨pD, cD, rfl, -⟩ := hints
                  have hblk4 := (ht4.block _ (lt_of_block HBLK3.out) HOFF.out).trans HBLK3.out
                  have r0 := cell_of_block hblk4 0
                  have r2 := cell_of_block hblk4 2
                  simp only [List.getElem?_toArray, List.getElem?_cons_zero, List.getElem?_cons_succ] at r0 r2
                  have hlk := run_lookup_m und_imap zero_int' hA4.map at_
                  rw [HV.out] at hlk
                  have HA5 := Lib.hid hA4
                  simp only [List.length_nil]
                  clear hA4 ht4 hblk4 p0 p1 p2 p3 p4 hp
                  go_wp2
                  go_roundw
                  case rel => exact ⟨k + 1, H2, s', _, hlt, by go_num, HA5.out, HM2.out.1, HM2.out.2⟩
                  case measure => simp [numOf]; omega
              · have hw1b : (what == 1) = false := by simpa using hw1
                generalize hasO s.A at_ = hsb at *
                by_cases he : (doO s ⟨what, cls, at_, cn, pg⟩).1.2 = 0
                · obtain ⟨n1, n2, n3, n4⟩ := doO_new HA.out.q.good ⟨what, cls, at_, cn, pg⟩ (by show 0 ≤ what; omega) (by show what < 5; omega) hw1 he
                  rw [he] at HDO
                  have HN1 := Lib.hid n1
                  have HN2 := Lib.hid n2
                  have HN3 := Lib.hid n3
                  have HSZ := Lib.hid (n4 E HM.out HS.out)
                  clear n1 n2 n3 n4 he
                  simp only at HN2
                  generalize (doO s ⟨what, cls, at_, cn, pg⟩).1.1 = new at *
                  generalize (doO s ⟨what, cls, at_, cn, pg⟩).2 = s' at *
                  go_wp2_with (fail)
                  refine HDO.out.mono ?_
                  rintro e wD hp
                  obtain ⟨v, H2, rfl, hints, hA4, -, -, ht4⟩ := (HA.out.below' HB3.out).done HGD.out hp
                  have HIN := Lib.hid hints
                  obtain ⟨pD, cD, rfl, -⟩ := hints
                  have hblk4 := (ht4.block _ (lt_of_block HBLK3.out) HOFF.out).trans HBLK3.out
                  have r0 := cell_of_block hblk4 0
                  simp only [List.getElem?_toArray, List.getElem?_cons_zero, List.getElem?_cons_succ] at r0
                  have hnl : new.length ≤ 10000 := by
                    have h1 := new_le HGD.out.inv HN1.out (fun a ha => (HN3.out a).2 (.inr ha))
                    have h2 := taken_bound hA4.q
                    omega
                  have HA4 := Lib.hid hA4
                  have HBK4 := Lib.hid hblk4
                  clear hA4 ht4 hblk4 p0 p1 p2 p3 p4 hp
                  go_wp2
                  go_loopw [13] (fun iv wq => ∃ (j : Nat) (E' : List ME), j ≤ new.length ∧ iv = .int .i64 j ∧ ApartI w1 wq x (.slice none 0 0) H2 pages s' mb (Value.int .i64) E' ∧ MapMid s new j E' ∧ SizesOk s' E' ∧ wq.heap[wr.heap.size]? = some (.cells #[.int .i64 what, .int .i64 cls, .int .i64 at_, .int .i64 cn, .int .i64 pg] 31 (0, 0)) ∧ Ints wq w3.heap.size (.slice pD new.length cD) new) (fun iv _ => new.length - numOf iv)
                  case atStart => exact ⟨0, E, Nat.zero_le _, rfl, HA4.out, MapMid.start HM.out new, HSZ.out, HBK4.out, HIN.out⟩
                  case round =>
                    rename World => wq
                    obtain ⟨j, E', hj, rfl, hA5, hMM, hS5, hbk5, hin5⟩ := hrel
                    by_cases hlj : j < new.length
                    · obtain ⟨p6, c6, hv6, hc6⟩ := hin5
                      cases hv6
                      obtain ⟨g5, rfl, hg5, hce5⟩ := hc6 (by intro e; rw [e] at hlj; exact absurd hlj (Nat.not_lt_zero j))
                      have y0 := hce5 j hlj
                      have hgd : new.getD j 0 = new[j] := by simp [List.getD, hlj]
                      rw [hgd] at y0
                      obtain ⟨a1, a2, a3, a4⟩ := HN2.out new[j] (List.getElem_mem hlj)
                      have ht' : TknO s'.A new[j] := (HN3.out _).2 (.inr (List.getElem_mem hlj))
                      have hhas := (hasO_iff hA5.q.good.inv _).2 ht'
                      obtain ⟨xx, hxm, hxc, hc12, ha0, hab, ham, hpgx, hget⟩ := a2.slab hA5.q.good.inv
                      subst hxc
                      have HSL := Lib.hid (AtO.clone hA5.q.at_.heap hget)
                      have HHS5 : Hid (∀ W, Below wq.heap.size wq W → Calls Tryz.prog 10 #[.pointer (some ⟨H2.h, 0, none⟩), .int .i64 new[j]] W fun e w' => e = .returned (.bool true) ∧ Below W.heap.size W w') := fun W hW => by
                        have := hhasO_any (hA5.q.at_.below hW).heap new[j]
                        rw [hhas] at this
                        exact this
                      have hfresh := hMM.fresh HN1.out (fun a ha => (HN2.out a ha).1) hlj
                      have HLK : Hid (∀ W, Below wq.heap.size wq W → (Instr.lookup 29 (.map (some mb)) (.int .i64 new[j]) false).run Tryz.prog W = .ok (.int .i64 0) W) := fun W hW => by
                        have := run_lookup_m und_imap zero_int' (hA5.map.below hW) new[j]
                        rw [valE_out hfresh] at this
                        exact this
                      have HUP : Hid (∀ W, Below wq.heap.size wq W → ∃ b blk, (Instr.mapUpdate 29 (.map (some mb)) (.int .i64 new[j]) (.int .i64 (szA xx.cls : Nat))).run Tryz.prog W = .ok () (setBlock W mb blk) ∧ ApartI w1 (setBlock W mb blk) x (.slice none 0 0) H2 pages s' mb (Value.int .i64) (E' ++ [⟨new[j], (szA xx.cls : Nat), b⟩])) := fun W hW => by
                        obtain ⟨b, blk, h1, h2⟩ := run_update_m und_imap (hA5.map.below hW) new[j] hfresh (szA xx.cls : Nat)
                        exact ⟨b, blk, h1, (hA5.below' hW).wrote h2⟩
                      have HNX : Hid (∀ b, MapMid s new (j + 1) (E' ++ [⟨new[j], (szA xx.cls : Nat), b⟩]) ∧ SizesOk s' (E' ++ [⟨new[j], (szA xx.cls : Nat), b⟩])) := fun b => ⟨hMM.next HN1.out (fun a ha => (HN2.out a ha).1) hlj _ b, hS5.next hc12 a2 b⟩
                      have HA5 := Lib.hid hA5
                      have HBK5 := Lib.hid hbk5
                      have HCE5 : Hid (Ints wq w3.heap.size (.slice (some ⟨g5, 0, none⟩) new.length cD) new) := ⟨_, _, rfl, fun _ => ⟨g5, rfl, hg5, hce5⟩⟩
                      obtain ⟨e0, e1, -⟩ := hA5.q.at_.cells
                      have y1 := cell_of_block hbk5 1
                      simp only [List.getElem?_toArray, List.getElem?_cons_zero, List.getElem?_cons_succ] at y1
                      have hj1 : (0 : Int) ≤ (j : Int) ∧ (j : Int) < new.length := by omega
                      have hjw : IntKind.i64.wrap ((j : Int) + 1) = (j : Int) + 1 := by rw [IntKind.wrap_i64]; omega
                      have hgl := cell_lt y0
                      have hxl := cell_lt e1
                      have hbl := lt_of_block hbk5
                      have hmbq := hA5.map.lt
                      have hgmb : g5 ≠ mb := by omega
                      have hbmb : wr.heap.size ≠ mb := by have := HA.out.map.lt; omega
                      clear hA5 hbk5 hce5 hc6 hgd a1 a2 a3 a4 ht' hhas hfresh hMM hS5 hget hxm hpgx e0
                      generalize new[j] = a at *
                      generalize hqq : szA xx.cls = sz at *
                      have HQQ := Lib.hid hqq
                      clear hqq
                      have hd1 : wrap64 (a / 1024) = a / 1024 := by unfold wrap64; omega
                      go_upto_region 24 with (fail)
                      (refine wp_region_quiet_tail_ext 10 (by kernel_rfl) (by kernel_rfl) ?_; simp only [List.take_succ_cons, List.take_zero, List.drop_succ_cons, List.drop_zero])
                      ((repeat (first | go_big_quiet_step ((fail)) | quiet_step ((fail)))); refine wpQuiet_nil ?_; intro w4 hw4; obtain hb4 := below_of_ext hw4; clear hw4; have hz4 := hb4.size; (try simp at hz4))
                      have HB4 := Lib.hid hb4
                      have l0 := cell_past hb4 hgl y0
                      have l1 := cell_past hb4 hbl y1
                      have l2 := cell_past hb4 hxl e1
                      clear hb4 y0 y1 e1
                      go_wp2_with (fail)
                      refine (HSL.out _ HB4.out).mono ?_
                      rintro e w5 ⟨L, rfl, hos, hb5⟩
                      have HB5 := Lib.hid (Below.via hb5 HB4.out.size HB4.out)
                      have m0 := cell_past hb5 (cell_lt l0) l0
                      have m1 := cell_past hb5 (cell_lt l1) l1
                      have m2 := cell_past hb5 (cell_lt l2) l2
                      have hs5 := HB5.out.size
                      have HOS := Lib.hid hos
                      have HCL : Hid (∀ W, OSlabAt W L xx.O → Calls Tryz.prog 13 #[.pointer (some ⟨L.s, 0, none⟩)] W fun e w' => e = .returned (.int .i64 xx.cls) ∧ W = w') := fun W hW => oclass_any hW
                      have HSZ : Hid (∀ W, OSlabAt W L xx.O → Calls Tryz.prog 14 #[.pointer (some ⟨L.s, 0, none⟩)] W fun e w' => e = .returned (.int .i64 sz) ∧ W = w') := fun W hW => by
                        have h9 := osize_any hW
                        rw [show szA xx.O.cls = sz from HQQ.out] at h9
                        exact h9
                      have hlk : ∀ X, (Instr.lookup 29 (.map (some mb)) (.int .i64 a) false).run Tryz.prog (w5.ext X) = .ok (.int .i64 0) (w5.ext X) := fun X => HLK.out _ (Below.via (below_ext _ _) hs5 HB5.out)
                      have hmod : Int.tmod a 16 = 0 := by rw [Int.tmod_eq_emod_of_nonneg ha0]; exact ham
                      clear hb5 l0 l1 l2 hos hd1
                      go_upto_region 25 with (fail)
                      (refine wp_region_quiet_ext (by kernel_rfl) (by kernel_rfl) ?_; (repeat (first | go_big_quiet_step (((first | (go_at_call 10; exact Calls.ext_of (HHS5.out _ (Below.via (below_ext _ _) hs5 HB5.out))) | (go_at_call 13; exact Calls.ext_same (HCL.out _ (HOS.out.below (below_ext _ _))))))) | quiet_step (((first | (go_at_call 10; exact Calls.ext_of (HHS5.out _ (Below.via (below_ext _ _) hs5 HB5.out))) | (go_at_call 13; exact Calls.ext_same (HCL.out _ (HOS.out.below (below_ext _ _))))))))); refine wpQuiet_nil ?_; intro w6 hw6; obtain hb6 := below_of_ext hw6; clear hw6; have hz6 := hb6.size; (try simp at hz6))
                      have HB6 := Lib.hid (Below.via hb6 hs5 HB5.out)
                      have hs6 := HB6.out.size
                      have n0 := cell_past hb6 (cell_lt m0) m0
                      have HOS6 := Lib.hid (HOS.out.below hb6)
                      clear hb6 m0 m1 m2 hlk hmod HB5 HB4 hs5
                      go_upto_region 27 with (fail)
                      (refine wp_region_quiet_tail_ext 7 (by kernel_rfl) (by kernel_rfl) ?_; simp only [List.take_succ_cons, List.take_zero, List.drop_succ_cons, List.drop_zero])
                      ((repeat (first | go_big_quiet_step (((go_at_call 14; exact Calls.ext_same (HSZ.out _ (HOS6.out.below (below_ext _ _)))))) | quiet_step (((go_at_call 14; exact Calls.ext_same (HSZ.out _ (HOS6.out.below (below_ext _ _)))))))); refine wpQuiet_nil ?_; intro w7 hw7; obtain hb7 := below_of_ext hw7; clear hw7; have hz7 := hb7.size; (try simp at hz7))
                      have HB7 := Lib.hid (Below.via hb7 hs6 HB6.out)
                      obtain ⟨bn, blk, hup, hA7⟩ := HUP.out _ HB7.out
                      have HA7 := Lib.hid hA7
                      have hT7 : Turned (fun k => k = mb) w7 (setBlock w7 mb blk) := Turned.setBlock (F := fun k => k = mb) (Turned.refl _ _) (.inl rfl) _
                      have HT7 : Hid (Turned (fun k => k = mb) wq (setBlock w7 mb blk)) := (Turned.of_below (F := fun k => k = mb) HB7.out (Nat.le_refl _)).trans hT7 (fun _ h _ => h)
                      clear hb7 hA7 hT7 n0
                      go_wp2
                      go_roundw
                      case rel => exact ⟨j + 1, _, hlj, by go_num, HA7.out, (HNX.out bn).1, (HNX.out bn).2, (HT7.out.block _ hbl hbmb).trans HBK5.out, HCE5.out.turned HT7.out (fun k e => by rw [e]; exact hmlt)⟩
                      case measure => simp [numOf]; omega
                    · obtain rfl : j = new.length := by omega
                      have HM6 : Hid (MapOk s' E') := hMM.fin HN3.out
                      have HA6 := Lib.hid hA5
                      have HS6 := Lib.hid hS5
                      clear hA5 hMM hS5 hbk5 hin5
                      go_wp2
                      go_roundw
                      case rel => exact ⟨k + 1, H2, s', E', hlt, by go_num, HA6.out, HM6.out, HS6.out⟩
                      case measure => simp [numOf]; omega
                · obtain ⟨n1, n2⟩ := doO_no HA.out.q.good ⟨what, cls, at_, cn, pg⟩ (by show 0 ≤ what; omega) (by show what < 5; omega) hw1 he
                  have hm : MapOk (doO s ⟨what, cls, at_, cn, pg⟩).2 E := HM.out.same n1
                  have HM2 := Lib.hid (And.intro hm (HS.out.same HA.out.q.good.inv hm n2))
                  have heb : ((doO s ⟨what, cls, at_, cn, pg⟩).1.2 == 0) = false := by simpa using he
                  clear n1 n2 hm
                  generalize (doO s ⟨what, cls, at_, cn, pg⟩).1.1 = new at *
                  generalize (doO s ⟨what, cls, at_, cn, pg⟩).1.2 = er at *
                  generalize (doO s ⟨what, cls, at_, cn, pg⟩).2 = s' at *
                  go_wp2_with (fail)
                  refine HDO.out.mono ?_
                  rintro e wD hp
                  obtain ⟨v, H2, rfl, hints, hA4, -, -, ht4⟩ := (HA.out.below' HB3.out).done HGD.out hp
                  obtain ⟨pD, cD, rfl, -⟩ := hints
                  have hblk4 := (ht4.block _ (lt_of_block HBLK3.out) HOFF.out).trans HBLK3.out
                  have r0 := cell_of_block hblk4 0
                  simp only [List.getElem?_toArray, List.getElem?_cons_zero, List.getElem?_cons_succ] at r0
                  have HA5 := Lib.hid hA4
                  clear hA4 ht4 hblk4 p0 p1 p2 p3 p4 hp
                  go_wp2
                  go_loopw [13] (fun iv wq => iv = .int .i64 0 ∧ wD = wq) (fun _ _ => 0)
                  case atStart => exact ⟨rfl, rfl⟩
                  case round =>
                    obtain ⟨rfl, rfl⟩ := hrel
                    by_cases hnl : (0 : Int) < (new.length : Int)
                    · go_wp2
                      go_roundw
                      case rel => exact ⟨k + 1, H2, s', E, hlt, by go_num, HA5.out, HM2.out.1, HM2.out.2⟩
                      case measure => simp [numOf]; omega
                    · go_wp2
                      go_roundw
                      case rel => exact ⟨k + 1, H2, s', E, hlt, by go_num, HA5.out, HM2.out.1, HM2.out.2⟩
                      case measure => simp [numOf]; omega
        · obtain rfl : k = cs.length := by omega
          clear hA hM hS
          go_wp2
          refine HK0.out _ _ ?_
          exact apart_end HNP.out hp40 HB1.out HA.out HM.out HS.out


end Go.Proofs.YtlljejmblmjjnaaGreatDoor
