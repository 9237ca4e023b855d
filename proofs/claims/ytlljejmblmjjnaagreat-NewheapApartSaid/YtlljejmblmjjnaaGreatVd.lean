/- NewheapApart: its walk. -/
import Derived.Test.YtlljejmblmjjnaaGreatVdd
import Derived.WalkKit
import Derived.WalkSpells
import Derived.WalkLawsBesides
import Derived.BigQuiet
import Derived.Lib.Hide
namespace Go.Proofs.YtlljejmblmjjnaaGreat
set_option linter.unusedVariables false
set_option linter.unusedSimpArgs false
open Go.RowKit Go.ChangeMaps

theorem szB_at {c : Nat} (h : c < 12) : ((#[.int .i64 8, .int .i64 16, .int .i64 24, .int .i64 32, .int .i64 48, .int .i64 64, .int .i64 96, .int .i64 128, .int .i64 192, .int .i64 256, .int .i64 384, .int .i64 512] : Array Value)[c]?) = some (.int .i64 (szB c : Nat)) := by
  have : ∀ c, c < 12 → ((#[.int .i64 8, .int .i64 16, .int .i64 24, .int .i64 32, .int .i64 48, .int .i64 64, .int .i64 96, .int .i64 128, .int .i64 192, .int .i64 256, .int .i64 384, .int .i64 512] : Array Value)[c]?) = some (.int .i64 (szB c : Nat)) := by
    intro c hc
    obtain rfl | rfl | rfl | rfl | rfl | rfl | rfl | rfl | rfl | rfl | rfl | rfl : c = 0 ∨ c = 1 ∨ c = 2 ∨ c = 3 ∨ c = 4 ∨ c = 5 ∨ c = 6 ∨ c = 7 ∨ c = 8 ∨ c = 9 ∨ c = 10 ∨ c = 11 := by omega
    all_goals rfl
  exact this c h
theorem AtA.mod {pages : Nat} {s : HP} (h : HInv pages s) {c a : Int} (h1 : AtA s.A c a) : 0 ≤ a ∧ a < 256 * pages ∧ a % 8 = 0 := by
  obtain ⟨x, hx, e1, i, hi, rfl⟩ := h1
  have a1 := (h.each x hx).addr_in hi
  have a2 := (h.each x hx).fits
  have a3 := szB_pos (h.each x hx).cls
  refine ⟨by omega, by omega, ?_⟩
  have : ∀ c, c < 12 → szB c % 8 = 0 := by decide
  have h8 := this _ (h.each x hx).cls
  unfold PS.addr
  obtain ⟨m, hm⟩ : ∃ m, szB x.cls = 8 * m := ⟨szB x.cls / 8, by omega⟩
  rw [hm, show i * (8 * m) = 8 * (i * m) from Nat.mul_left_comm _ _ _]
  generalize i * m = z
  omega
/-- What At tells of an address of a slab. -/
theorem AtA.entry {w : World} {H : HL} {pages : Nat} {s : HP} (h : HeapAt w H pages s) {c a : Int} (h1 : AtA s.A c a) : ∃ (pg st : Nat), ∀ W, Below w.heap.size w W → Calls Tryz.prog 13 #[.pointer (some ⟨H.gr, 0, none⟩), .int .i64 a] W fun e w' => e = .returned (.tuple #[.agg #[.int .i64 pg, .int .i64 1, .int .i64 c, .int .i64 st], .bool true]) ∧ Below W.heap.size W w' := by
  obtain ⟨x, hx, rfl, i, hi, rfl⟩ := h1
  have a1 := (h.inv.each x hx).addr_in hi
  have a2 := (h.inv.each x hx).fits
  have a3 := szB_pos (h.inv.each x hx).cls
  obtain ⟨st, hst⟩ := h.ent.ent x hx (x.addr i / 256) (by omega) (by omega)
  refine ⟨x.page, sealN x.sealed, fun W hW => ?_⟩
  have hent : entAt pages H.E ((x.addr i / 256 : Nat) : Int) = some (⟨x.page, 1, x.cls, sealN x.sealed⟩, st) := by
    rw [entAt_nat, if_pos (by omega)]
    exact hst
  exact gAt_some H.gr H.cl pages 0 H.b 0 (x.addr i) st _ H.p s.l H.E W (h.below hW).ground hent

set_option maxRecDepth 8000 in
set_option maxHeartbeats 80000000 in
theorem apart_any (n : Int) (cs : List CallM) (pv : Option Addr) (cap : Nat) (w : World) (h : CallsAt w pv cs) (hcs : ∀ c ∈ cs, CallOk c) :
    Calls Tryz.prog 3 #[.int .i64 n, .slice pv cs.length cap] w fun e w' => e = .returned (.bool true) ∧ Below w.heap.size w w' := by
  have HALV := Lib.hid alive_any
  have HC := Lib.hid h
  have HOK := Lib.hid hcs
  clear h hcs
  go_enter Tryz.func3, Tryz.ntmps3
  (go_wp2_with (fail); refine (HALV.out _).mono ?_; rintro e w1 ⟨rfl, hb⟩; have HB1 := Lib.hid hb; have HC1 := Lib.hid (HC.out.below hb); clear hb; have HGT := Lib.hid (great_any n cs pv cap w1 HC1.out); go_wp2_with (fail); refine HGT.out.mono ?_; rintro e w1' ⟨rfl, rfl⟩)
  cases hgt : greatB n cs with
  | true =>
    go_wp2
    go_ret
    exact ⟨rfl, HB1.out⟩
  | false =>
    obtain ⟨hn40, hc40⟩ := greatB_no hgt
    by_cases hneg : n < 0
    · have HQ := Lib.hid (quiet_no n hneg none 0 0 w1)
      clear hgt hn40 hc40
      go_wp2_with (fail)
      refine HQ.out.mono ?_
      rintro e w2 ⟨rfl, hb2⟩
      have HB2 := Lib.hid (Below.via hb2 HB1.out.size HB1.out)
      clear hb2
      go_wp2
      go_ret
      exact ⟨rfl, HB2.out⟩
    · obtain ⟨pages, hpg⟩ : ∃ pages : Nat, n = pages := ⟨n.toNat, by omega⟩
      have HQ : Hid (Calls Tryz.prog 10 #[.int .i64 n, .slice none 0 0] w1 (QuietPost w1 pages (s0 pages))) := by
        rw [hpg]
        exact quiet_yes pages (by omega) [] (by simp) (by simp) none 0 w1 (fun i hi => absurd hi (Nat.not_lt_zero i))
      have HNP := Lib.hid hpg
      have hp40 : pages ≤ 40 := by omega
      clear hgt hneg hpg
      go_wp2_with (fail)
      refine HQ.out.mono ?_
      rintro e w2 ⟨x, H, rfl, hI⟩
      have HA0 : Hid (ApartI w1 (w2.alloc (.map #[] 0)) x H pages (s0 pages) w2.heap.size (Value.int .i64) []) := ApartI.start hI _
      have HS0 := Lib.hid (s0_ok pages)
      clear hI
      have hmm := @run_makeMap Tryz.prog
      go_wp2
      clear hmm
      generalize w2.heap.size = mb at *
      generalize w2.alloc (.map #[] 0) = wA at *
      generalize s0 pages = s00 at *
      rename_i K0 hK0
      have HK0 := Lib.hid hK0
      clear hK0
      go_loopw [7] (fun iv wr => ∃ (k : Nat) (H1 : HL) (s : HP) (E : List ME), k ≤ cs.length ∧ iv = .int .i64 k ∧ ApartI w1 wr x H1 pages s mb (Value.int .i64) E ∧ MapOk s E ∧ SizesOk s E) (fun iv _ => cs.length - numOf iv)
      case atStart => exact ⟨0, H, s00, [], Nat.zero_le _, rfl, HA0.out, HS0.out.1, HS0.out.2⟩
      case round =>
        obtain ⟨k, H1, s, E, hk, rfl, hA, hM, hS⟩ := hrel
        have HA := Lib.hid hA
        have HM := Lib.hid hM
        have HS := Lib.hid hS
        by_cases hlt : k < cs.length
        · obtain ⟨g, o, rfl, hcell⟩ := HC1.out k hlt
          have hin : ∀ j v, (callV cs[k])[j]? = some v → wr.cell? ⟨g, o + k * 6 + j, none⟩ = some v := fun j v hv => cell_past hA.q.below (cell_lt (hcell j v hv)) (hcell j v hv)
          have x0 : wr.cell? ⟨g, o + k * 6, none⟩ = some (.int .i64 cs[k].what) := hin 0 _ rfl
          have x1 : wr.cell? ⟨g, o + k * 6 + 1, none⟩ = some (.int .i64 cs[k].cls) := hin 1 _ rfl
          have x2 : wr.cell? ⟨g, o + k * 6 + 2, none⟩ = some (.int .i64 cs[k].at_) := hin 2 _ rfl
          have x3 : wr.cell? ⟨g, o + k * 6 + 3, none⟩ = some (.int .i64 cs[k].n) := hin 3 _ rfl
          have x4 : wr.cell? ⟨g, o + k * 6 + 4, none⟩ = some (.int .i64 cs[k].pg) := hin 4 _ rfl
          have x5 : wr.cell? ⟨g, o + k * 6 + 5, none⟩ = some (.slice cs[k].p cs[k].len cs[k].cap) := hin 5 _ rfl
          have hi1 : (0 : Int) ≤ (k : Int) ∧ (k : Int) < cs.length := by omega
          have hkw : IntKind.i64.wrap ((k : Int) + 1) = (k : Int) + 1 := by rw [IntKind.wrap_i64]; omega
          have hok := HOK.out _ (List.getElem_mem hlt)
          have e1 := hA.q.cx
          clear hcell hin hA hM hS
          generalize hck : cs[k] = c at *
          clear hck
          obtain ⟨what, cls, at_, cn, pg, p, len, cp⟩ := c
          simp only at x0 x1 x2 x3 x4 x5
          have HOKC := Lib.hid hok
          clear hok
          by_cases hw4 : 4 < what
          · go_wp2
            go_roundw
            case rel => exact ⟨k + 1, H1, s, E, hlt, by go_num, HA.out.below' (Below.alloc (Below.refl _ _) (Nat.le_refl _) _), HM.out, HS.out⟩
            case measure => simp [numOf]; omega
          · by_cases hw0 : what < 0
            · go_wp2
              go_roundw
              case rel => exact ⟨k + 1, H1, s, E, hlt, by go_num, HA.out.below' (Below.alloc (Below.refl _ _) (Nat.le_refl _) _), HM.out, HS.out⟩
              case measure => simp [numOf]; omega
            · have HHS : Hid (∀ W, Below wr.heap.size wr W → Calls Tryz.prog 11 #[.pointer (some ⟨H1.h, 0, none⟩), .int .i64 at_] W fun e w' => e = .returned (.bool (hasP s.A at_)) ∧ Below W.heap.size W w') := fun W hW => hhas_any (HA.out.q.at_.below hW).heap at_
              go_upto_region 14 with (fail)
              obtain ⟨W1, hW1⟩ : ∃ W1, W1 = wr.alloc (.cells #[.int .i64 what, .int .i64 cls, .int .i64 at_, .int .i64 cn, .int .i64 pg, .slice p len cp] 30) := ⟨_, rfl⟩
              have HBW1 : Hid (Below wr.heap.size wr W1) := by rw [hW1]; exact Below.alloc (Below.refl _ _) (Nat.le_refl _) _
              have hblk : W1.heap[wr.heap.size]? = some (.cells #[.int .i64 what, .int .i64 cls, .int .i64 at_, .int .i64 cn, .int .i64 pg, .slice p len cp] 30 (0, 0)) := by rw [hW1]; exact heap_alloc_new _ _
              have q2 := cell_of_block hblk 2
              simp only [List.getElem?_toArray, List.getElem?_cons_zero, List.getElem?_cons_succ] at q2
              have d1 := cell_past HBW1.out (cell_lt e1) e1
              have hsW1 := HBW1.out.size
              rw [← hW1]
              clear hW1 x0 x1 x2 x3 x4 x5 e1
              (refine wp_region_quiet_ext (by kernel_rfl) (by kernel_rfl) ?_; (repeat (first | go_big_quiet_step ((go_at_call 11; exact Calls.ext_of (HHS.out _ (Below.via (below_ext _ _) hsW1 HBW1.out)))) | quiet_step ((go_at_call 11; exact Calls.ext_of (HHS.out _ (Below.via (below_ext _ _) hsW1 HBW1.out)))))); refine wpQuiet_nil ?_; intro w3 hw3; obtain hb3 := below_of_ext hw3; clear hw3; obtain ⟨hc3, hf3⟩ := bcell hb3; have hz3 := hb3.size; (try simp at hz3))
              have HB3 : Hid (Below wr.heap.size wr w3) := Below.via hb3 hsW1 HBW1.out
              have hblk3 := (hb3.block _ (lt_of_block hblk)).trans hblk
              have HBLK3 := Lib.hid hblk3
              have p0 := cell_of_block hblk3 0
              have p1 := cell_of_block hblk3 1
              have p2 := cell_of_block hblk3 2
              have p3 := cell_of_block hblk3 3
              have p4 := cell_of_block hblk3 4
              have p5 := cell_of_block hblk3 5
              simp only [List.getElem?_toArray, List.getElem?_cons_zero, List.getElem?_cons_succ] at p0 p1 p2 p3 p4 p5
              have hs3 := HB3.out.size
              have HOFF : Hid (¬ H1.F wr.heap.size) := (HA.out.below' HB3.out).q.at_.heap.offT HBLK3.out (by decide)
              have hmlt : mb < w3.heap.size := (HA.out.below' HB3.out).map.lt
              have HDO : Hid (Calls Tryz.prog 12 #[.pointer (some ⟨x, 0, none⟩), .agg #[.int .i64 what, .int .i64 cls, .int .i64 at_, .int .i64 cn, .int .i64 pg, .slice p len cp]] w3 (DoPost w3 x H1 pages s (doP s ⟨what, cls, at_, cn, pg, p, len, cp⟩).2 (doP s ⟨what, cls, at_, cn, pg, p, len, cp⟩).1.1 (doP s ⟨what, cls, at_, cn, pg, p, len, cp⟩).1.2)) :=
                do_any (HA.out.q.at_.below HB3.out) HA.out.q.good ⟨what, cls, at_, cn, pg, p, len, cp⟩ HOKC.out (by show 0 ≤ what; omega) (by show what < 5; omega)
              have HGD := Lib.hid (doP_good HA.out.q.good ⟨what, cls, at_, cn, pg, p, len, cp⟩)
              clear hc3 hf3 hb3 hz3 hblk q2 d1 HHS hblk3 HBW1 hsW1
              by_cases hw1 : what = 1
              · subst hw1
                rw [doP_give _ rfl] at HDO HGD
                clear hw4 hw0
                obtain ⟨g1, g2⟩ := give_tkn HA.out.q.good at_
                have hhas := hasP_iff HA.out.q.good.inv at_
                by_cases ht : Tkn s.A at_
                · have hz := g1.2 ht
                  rw [hhas.2 ht]
                  have hm : MapOk (giveP s at_).2 (E.filter fun y => y.k != at_) := HM.out.del (fun b => by rw [g2]; exact ⟨fun h => ⟨h.1, h.2 hz⟩, fun h => ⟨h.1, fun _ => h.2⟩⟩)
                  have HM2 := Lib.hid (And.intro hm ((HS.out.del _).same HA.out.q.good.inv hm (give_sub s at_)))
                  have hv : 0 < valE E at_ := (HM.out.pos HS.out at_).2 ht
                  simp only at HDO HGD
                  rw [hz] at HDO
                  clear hz hm g1 g2 hhas ht
                  generalize (giveP s at_).2 = s' at *
                  go_wp2_with (fail)
                  refine HDO.out.mono ?_
                  rintro e wD hp
                  obtain ⟨v, H2, rfl, hints, hA4, -, -, ht4⟩ := (HA.out.below' HB3.out).done HGD.out hp
                  obtain ⟨pD, cD, rfl, -⟩ := hints
                  have hblk4 := (ht4.block _ (lt_of_block HBLK3.out) HOFF.out).trans HBLK3.out
                  have r0 := cell_of_block hblk4 0
                  have r2 := cell_of_block hblk4 2
                  simp only [List.getElem?_toArray, List.getElem?_cons_zero, List.getElem?_cons_succ] at r0 r2
                  have hlk := run_lookup_m und_imap zero_int' hA4.map at_
                  obtain ⟨blk, hdel, hmap⟩ := run_delete_m und_imap hA4.map HM.out.nodup at_
                  have HA5 := Lib.hid (hA4.wrote hmap)
                  simp only [List.length_nil]
                  clear hA4 ht4 hblk4 hmap p0 p1 p2 p3 p4 p5 hp
                  generalize valE E at_ = vv at *
                  go_wp2
                  go_roundw
                  case rel => exact ⟨k + 1, H2, s', _, hlt, by go_num, HA5.out, HM2.out.1, HM2.out.2⟩
                  case measure => simp [numOf]; omega
                · have hz : ¬ (giveP s at_).1 = 0 := fun e => ht (g1.1 e)
                  have hh : hasP s.A at_ = false := by
                    cases hq : hasP s.A at_ with
                    | false => rfl
                    | true => exact absurd (hhas.1 hq) ht
                  rw [hh]
                  have hm : MapOk (giveP s at_).2 E := HM.out.same (fun a => by rw [g2]; exact ⟨fun h => h.1, fun h => ⟨h, fun e => absurd e hz⟩⟩)
                  have HM2 := Lib.hid (And.intro hm (HS.out.same HA.out.q.good.inv hm (give_sub s at_)))
                  have HV : Hid (valE E at_ = 0) := HM.out.val ht
                  have hzb : ((giveP s at_).1 == 0) = false := by simpa using hz
                  simp only at HDO HGD
                  clear hm g1 g2 hhas ht hh
                  generalize (giveP s at_).2 = s' at *
                  generalize (giveP s at_).1 = er at *
                  go_wp2_with (fail)
                  refine HDO.out.mono ?_
                  rintro e wD hp
                  obtain ⟨v, H2, rfl, hints, hA4, -, -, ht4⟩ := (HA.out.below' HB3.out).done HGD.out hp
                  obtain ⟨pD, cD, rfl, -⟩ := hints
                  have hblk4 := (ht4.block _ (lt_of_block HBLK3.out) HOFF.out).trans HBLK3.out
                  have r0 := cell_of_block hblk4 0
                  have r2 := cell_of_block hblk4 2
                  simp only [List.getElem?_toArray, List.getElem?_cons_zero, List.getElem?_cons_succ] at r0 r2
                  have hlk := run_lookup_m und_imap zero_int' hA4.map at_
                  rw [HV.out] at hlk
                  have HA5 := Lib.hid hA4
                  simp only [List.length_nil]
                  clear hA4 ht4 hblk4 p0 p1 p2 p3 p4 p5 hp
                  go_wp2
                  go_roundw
                  case rel => exact ⟨k + 1, H2, s', _, hlt, by go_num, HA5.out, HM2.out.1, HM2.out.2⟩
                  case measure => simp [numOf]; omega
              · have hw1b : (what == 1) = false := by simpa using hw1
                generalize hasP s.A at_ = hsb at *
                by_cases he : (doP s ⟨what, cls, at_, cn, pg, p, len, cp⟩).1.2 = 0
                · obtain ⟨n1, n2, n3, n4⟩ := doP_new HA.out.q.good ⟨what, cls, at_, cn, pg, p, len, cp⟩ (by show 0 ≤ what; omega) (by show what < 5; omega) hw1 he
                  rw [he] at HDO
                  have HN1 := Lib.hid n1
                  have HN2 := Lib.hid n2
                  have HN3 := Lib.hid n3
                  have HSZ := Lib.hid (n4 E HM.out HS.out)
                  clear n1 n2 n3 n4 he
                  simp only at HN2
                  generalize (doP s ⟨what, cls, at_, cn, pg, p, len, cp⟩).1.1 = new at *
                  generalize (doP s ⟨what, cls, at_, cn, pg, p, len, cp⟩).2 = s' at *
                  go_wp2_with (fail)
                  refine HDO.out.mono ?_
                  rintro e wD hp
                  obtain ⟨v, H2, rfl, hints, hA4, -, -, ht4⟩ := (HA.out.below' HB3.out).done HGD.out hp
                  have HIN := Lib.hid hints
                  obtain ⟨pD, cD, rfl, -⟩ := hints
                  have hblk4 := (ht4.block _ (lt_of_block HBLK3.out) HOFF.out).trans HBLK3.out
                  have r0 := cell_of_block hblk4 0
                  simp only [List.getElem?_toArray, List.getElem?_cons_zero, List.getElem?_cons_succ] at r0
                  have hnl : new.length ≤ 10000 := by
                    have h1 := new_le HGD.out.inv HN1.out (fun a ha => (HN3.out a).2 (.inr ha))
                    have h2 := taken_bound hA4.q
                    omega
                  have HA4 := Lib.hid hA4
                  have HBK4 := Lib.hid hblk4
                  clear hA4 ht4 hblk4 p0 p1 p2 p3 p4 p5 hp
                  go_wp2
                  go_loopw [12] (fun iv wq => ∃ (j : Nat) (E' : List ME), j ≤ new.length ∧ iv = .int .i64 j ∧ ApartI w1 wq x H2 pages s' mb (Value.int .i64) E' ∧ MapMid s new j E' ∧ SizesOk s' E' ∧ wq.heap[wr.heap.size]? = some (.cells #[.int .i64 what, .int .i64 cls, .int .i64 at_, .int .i64 cn, .int .i64 pg, .slice p len cp] 30 (0, 0)) ∧ Ints wq w3.heap.size (.slice pD new.length cD) new) (fun iv _ => new.length - numOf iv)
                  case atStart => exact ⟨0, E, Nat.zero_le _, rfl, HA4.out, MapMid.start HM.out new, HSZ.out, HBK4.out, HIN.out⟩
                  case round =>
                    rename World => wq
                    obtain ⟨j, E', hj, rfl, hA5, hMM, hS5, hbk5, hin5⟩ := hrel
                    by_cases hlj : j < new.length
                    · obtain ⟨p6, c6, hv6, hc6⟩ := hin5
                      cases hv6
                      obtain ⟨g5, rfl, hg5, hce5⟩ := hc6 (by intro e; rw [e] at hlj; exact absurd hlj (Nat.not_lt_zero j))
                      have y0 := hce5 j hlj
                      have hgd : new.getD j 0 = new[j] := by simp [List.getD, hlj]
                      rw [hgd] at y0
                      obtain ⟨a1, a2, a3, a4⟩ := HN2.out new[j] (List.getElem_mem hlj)
                      have ht' : Tkn s'.A new[j] := (HN3.out _).2 (.inr (List.getElem_mem hlj))
                      have hhas := (hasP_iff hA5.q.good.inv _).2 ht'
                      obtain ⟨ha0, hab, ham⟩ := a2.mod hA5.q.good.inv
                      obtain ⟨c0, rfl⟩ : ∃ c0 : Nat, cls = c0 := ⟨cls.toNat, by omega⟩
                      obtain ⟨epg, est, HATq⟩ := a2.entry hA5.q.at_.heap
                      have HAT := Lib.hid HATq
                      have HHS5 : Hid (∀ W, Below wq.heap.size wq W → Calls Tryz.prog 11 #[.pointer (some ⟨H2.h, 0, none⟩), .int .i64 new[j]] W fun e w' => e = .returned (.bool true) ∧ Below W.heap.size W w') := fun W hW => by
                        have := hhas_any (hA5.q.at_.below hW).heap new[j]
                        rw [hhas] at this
                        exact this
                      have hfresh := hMM.fresh HN1.out (fun a ha => (HN2.out a ha).1) hlj
                      have HLK : Hid (∀ W, Below wq.heap.size wq W → (Instr.lookup 27 (.map (some mb)) (.int .i64 new[j]) false).run Tryz.prog W = .ok (.int .i64 0) W) := fun W hW => by
                        have := run_lookup_m und_imap zero_int' (hA5.map.below hW) new[j]
                        rw [valE_out hfresh] at this
                        exact this
                      have HUP : Hid (∀ W, Below wq.heap.size wq W → ∃ b blk, (Instr.mapUpdate 27 (.map (some mb)) (.int .i64 new[j]) (.int .i64 (szB c0 : Nat))).run Tryz.prog W = .ok () (setBlock W mb blk) ∧ ApartI w1 (setBlock W mb blk) x H2 pages s' mb (Value.int .i64) (E' ++ [⟨new[j], (szB c0 : Nat), b⟩])) := fun W hW => by
                        obtain ⟨b, blk, h1, h2⟩ := run_update_m und_imap (hA5.map.below hW) new[j] hfresh (szB c0 : Nat)
                        exact ⟨b, blk, h1, (hA5.below' hW).wrote h2⟩
                      have HNX : Hid (∀ b, MapMid s new (j + 1) (E' ++ [⟨new[j], (szB c0 : Nat), b⟩]) ∧ SizesOk s' (E' ++ [⟨new[j], (szB c0 : Nat), b⟩])) := fun b => ⟨hMM.next HN1.out (fun a ha => (HN2.out a ha).1) hlj _ b, hS5.next (by omega) a2 b⟩
                      have HA5 := Lib.hid hA5
                      have HBK5 := Lib.hid hbk5
                      have HCE5 : Hid (Ints wq w3.heap.size (.slice (some ⟨g5, 0, none⟩) new.length cD) new) := ⟨_, _, rfl, fun _ => ⟨g5, rfl, hg5, hce5⟩⟩
                      have hmbq := hA5.map.lt
                      obtain ⟨e0, e1⟩ := hA5.q.at_.cells
                      have y1 := cell_of_block hbk5 1
                      simp only [List.getElem?_toArray, List.getElem?_cons_zero, List.getElem?_cons_succ] at y1
                      have hj1 : (0 : Int) ≤ (j : Int) ∧ (j : Int) < new.length := by omega
                      have hjw : IntKind.i64.wrap ((j : Int) + 1) = (j : Int) + 1 := by rw [IntKind.wrap_i64]; omega
                      have hcl : ¬ (c0 : Int) < 0 ∧ ¬ (11 : Int) < c0 := by omega
                      have hc12 : c0 < 12 := by omega
                      have hc12i : (c0 : Int) < 12 := by omega
                      have hgl := cell_lt y0
                      have hxl := cell_lt e0
                      have hbl := lt_of_block hbk5
                      have hgmb : g5 ≠ mb := by omega
                      have hbmb : wr.heap.size ≠ mb := by have := HA.out.map.lt; omega
                      clear hA5 hbk5 hce5 hc6 hgd a1 a2 a3 a4 ht' hhas hfresh hMM hS5 HATq
                      generalize new[j] = a at *
                      go_upto_region 24 with (fail)
                      apply tail_two (P := fun (b : Nat) (W5 : World) => W5.cell? ⟨b, 1, none⟩ = some (.int .i64 1) ∧ W5.cell? ⟨b, 2, none⟩ = some (.int .i64 c0) ∧ Below wq.heap.size wq W5)
                      case h1 =>
                        intro hT
                        have HTAIL := Lib.hid hT
                        clear hT
                        refine wp_region_held_drew (S := fun W : World => W.cell? ⟨x, 0, none⟩ = some (.pointer (some ⟨H2.gr, 0, none⟩)) ∧ W.cell? ⟨g5, j, none⟩ = some (.int .i64 a)) (by kernel_rfl) ?_ (fun hHeld0 => ?_)
                        · exact ⟨e0, y0⟩
                        (refine wpAnyH_take (i := 0) (v := ?_) rfl (by kernel_rfl) (by kernel_rfl) (by kernel_rfl) (fun _ _ _ h => h) (Or.inl ⟨by rfl, ?_⟩) (by assumption) ?_; rotate_left; focus (intro w hSw; (try dsimp only at hSw); go_simp; first | done | with_reducible rfl); (try simp only [Act.put, List.setIfInBounds_toArray, List.set_cons_zero, List.set_cons_succ, List.getElem_toArray, List.getElem_cons_zero, List.getElem_cons_succ]))
                        (refine wpAnyH_take (i := 1) (v := ?_) rfl (by kernel_rfl) (by kernel_rfl) (by kernel_rfl) (fun _ _ _ h => h) (Or.inl ⟨by rfl, ?_⟩) (by assumption) ?_; rotate_left; focus (intro w hSw; (try dsimp only at hSw); go_simp; first | done | with_reducible rfl); (try simp only [Act.put, List.setIfInBounds_toArray, List.set_cons_zero, List.set_cons_succ, List.getElem_toArray, List.getElem_cons_zero, List.getElem_cons_succ]))
                        (refine wpAnyH_take (i := 2) (v := ?_) rfl (by kernel_rfl) (by kernel_rfl) (by kernel_rfl) (fun _ _ _ h => h) (Or.inl ⟨by rfl, ?_⟩) (by assumption) ?_; rotate_left; focus (intro w hSw; (try dsimp only at hSw); go_simp; first | done | with_reducible rfl); (try simp only [Act.put, List.setIfInBounds_toArray, List.set_cons_zero, List.set_cons_succ, List.getElem_toArray, List.getElem_cons_zero, List.getElem_cons_succ]))
                        (refine wpAnyH_take (i := 3) (v := ?_) rfl (by kernel_rfl) (by kernel_rfl) (by kernel_rfl) (fun _ _ _ h => h) (Or.inl ⟨by rfl, ?_⟩) (by assumption) ?_; rotate_left; focus (intro w hSw; (try dsimp only at hSw); go_simp; first | done | with_reducible rfl); (try simp only [Act.put, List.setIfInBounds_toArray, List.set_cons_zero, List.set_cons_succ, List.getElem_toArray, List.getElem_cons_zero, List.getElem_cons_succ]))
                        (refine wpAnyH_take (i := 4) (v := ?_) rfl (by kernel_rfl) (by kernel_rfl) (by kernel_rfl) (fun _ _ _ h => h) (Or.inl ⟨by rfl, ?_⟩) (by assumption) ?_; rotate_left; focus (intro w hSw; (try dsimp only at hSw); go_simp; first | done | with_reducible rfl); (try simp only [Act.put, List.setIfInBounds_toArray, List.set_cons_zero, List.set_cons_succ, List.getElem_toArray, List.getElem_cons_zero, List.getElem_cons_succ]))
                        (refine wpAnyH_take (i := 5) (v := ?_) rfl (by kernel_rfl) (by kernel_rfl) (by kernel_rfl) (fun _ _ _ h => h) (Or.inl ⟨by rfl, ?_⟩) (by assumption) ?_; rotate_left; focus (intro w hSw; (try dsimp only at hSw); go_simp; first | done | with_reducible rfl); (try simp only [Act.put, List.setIfInBounds_toArray, List.set_cons_zero, List.set_cons_succ, List.getElem_toArray, List.getElem_cons_zero, List.getElem_cons_succ]))
                        (refine wpAnyH_take (i := 6) (v := ?_) rfl (by kernel_rfl) (by kernel_rfl) (by kernel_rfl) (fun _ _ _ h => h) (Or.inl ⟨by rfl, ?_⟩) (by assumption) ?_; rotate_left; focus (intro w hSw; (try dsimp only at hSw); go_simp; first | done | with_reducible rfl); (try simp only [Act.put, List.setIfInBounds_toArray, List.set_cons_zero, List.set_cons_succ, List.getElem_toArray, List.getElem_cons_zero, List.getElem_cons_succ]))
                        (refine wpAnyH_take (i := 7) (v := ?_) rfl (by kernel_rfl) (by kernel_rfl) (by kernel_rfl) (fun _ _ _ h => h) (Or.inl ⟨by rfl, ?_⟩) (by assumption) ?_; rotate_left; focus (intro w hSw; (try dsimp only at hSw); go_simp; first | done | with_reducible rfl); (try simp only [Act.put, List.setIfInBounds_toArray, List.set_cons_zero, List.set_cons_succ, List.getElem_toArray, List.getElem_cons_zero, List.getElem_cons_succ]))
                        refine wpAnyH_ready (rs := [8, 12]) (by kernel_rfl) (by simp) ?_
                        refine AllReadyH.cons rfl (fun K hK => ?_) (AllReadyH.cons rfl (fun K hK => ?_) AllReadyH.nil)
                        · go_simp
                          refine (HAT.out wq.drew (Below.drew (Below.refl _ _))).mono ?_
                          rintro e w4 ⟨rfl, hb4⟩
                          have k0 := cell_past hb4 hxl e0
                          have k1 := cell_past hb4 hgl y0
                          have HB4 := Lib.hid (Below.via hb4 (Nat.le_refl _) (Below.drew (Below.refl _ _)))
                          refine hK.out _ _ ⟨k0, k1⟩ (fun hHeld => ?_)
                          clear hK K hHeld0 hb4
                          (try simp only [Act.put, List.setIfInBounds_toArray, List.set_cons_zero, List.set_cons_succ, List.getElem_toArray, List.getElem_cons_zero, List.getElem_cons_succ])
                          (refine wpAnyH_take (i := 9) (v := ?_) rfl (by kernel_rfl) (by kernel_rfl) (by kernel_rfl) (fun _ _ _ h => h) (Or.inl ⟨by rfl, ?_⟩) (by assumption) ?_; rotate_left; focus (intro w hSw; (try dsimp only at hSw); go_simp; first | done | with_reducible rfl); (try simp only [Act.put, List.setIfInBounds_toArray, List.set_cons_zero, List.set_cons_succ, List.getElem_toArray, List.getElem_cons_zero, List.getElem_cons_succ]))
                          (refine wpAnyH_take (i := 10) (v := ?_) rfl (by kernel_rfl) (by kernel_rfl) (by kernel_rfl) (fun _ _ _ h => h) (Or.inl ⟨by rfl, ?_⟩) (by assumption) ?_; rotate_left; focus (intro w hSw; (try dsimp only at hSw); go_simp; first | done | with_reducible rfl); (try simp only [Act.put, List.setIfInBounds_toArray, List.set_cons_zero, List.set_cons_succ, List.getElem_toArray, List.getElem_cons_zero, List.getElem_cons_succ]))
                          (refine wpAnyH_take (i := 11) (v := ?_) rfl (by kernel_rfl) (by kernel_rfl) (by kernel_rfl) (fun _ _ _ h => h) (Or.inl ⟨by rfl, ?_⟩) (by assumption) ?_; rotate_left; focus (intro w hSw; (try dsimp only at hSw); go_simp; first | done | with_reducible rfl); (try simp only [Act.put, List.setIfInBounds_toArray, List.set_cons_zero, List.set_cons_succ, List.getElem_toArray, List.getElem_cons_zero, List.getElem_cons_succ]))
                          refine wpAnyH_ready (rs := [12]) (by kernel_rfl) (by simp) ?_
                          refine AllReadyH.cons rfl (fun K hK => ?_) AllReadyH.nil
                          go_simp
                          refine hK.out _ _ ⟨Lib.cell?_alloc_some _ k0, Lib.cell?_alloc_some _ k1⟩ (fun hHeld => ?_)
                          clear hK K
                          (try simp only [Act.put, List.setIfInBounds_toArray, List.set_cons_zero, List.set_cons_succ, List.getElem_toArray, List.getElem_cons_zero, List.getElem_cons_succ])
                          refine wpAnyH_ready (rs := [13]) (by kernel_rfl) (by simp) ?_
                          refine AllReadyH.cons rfl (fun K hK => ?_) AllReadyH.nil
                          go_simp
                          refine hK.out _ _ ⟨Lib.cell?_alloc_some _ k0, Lib.cell?_alloc_some _ k1⟩ (fun hHeld => ?_)
                          clear hK K
                          (try simp only [Act.put, List.setIfInBounds_toArray, List.set_cons_zero, List.set_cons_succ, List.getElem_toArray, List.getElem_cons_zero, List.getElem_cons_succ])
                          (refine wpAnyH_take (i := 14) (v := ?_) rfl (by kernel_rfl) (by kernel_rfl) (by kernel_rfl) (fun _ _ _ h => h) (Or.inl ⟨by rfl, ?_⟩) (by assumption) ?_; rotate_left; focus (intro w hSw; (try dsimp only at hSw); go_simp; first | done | with_reducible rfl); (try simp only [Act.put, List.setIfInBounds_toArray, List.set_cons_zero, List.set_cons_succ, List.getElem_toArray, List.getElem_cons_zero, List.getElem_cons_succ]))
                          refine wpAnyH_done (by kernel_rfl) ?_ _
                          (try simp only [Act.put, List.setIfInBounds_toArray, List.set_cons_zero, List.set_cons_succ, List.getElem_toArray, List.getElem_cons_zero, List.getElem_cons_succ])
                          obtain ⟨W5, hW5⟩ : ∃ W5, W5 = w4.alloc (.cells #[.int .i64 epg, .int .i64 1, .int .i64 c0, .int .i64 est] 42) := ⟨_, rfl⟩
                          have HP : Hid (W5.cell? ⟨w4.heap.size, 1, none⟩ = some (.int .i64 1) ∧ W5.cell? ⟨w4.heap.size, 2, none⟩ = some (.int .i64 c0) ∧ Below wq.heap.size wq W5) := by
                            rw [hW5]
                            refine ⟨?_, ?_, Below.alloc HB4.out HB4.out.size _⟩
                            all_goals simp [go_sem]
                          rw [← hW5]
                          clear hW5 hHeld k0 k1 HB4
                          generalize w4.heap.size = b at *
                          exact HTAIL.out b W5 HP.out
                        · go_simp
                          have k0 : (wq.drew.alloc (.cells #[.int .i64 0, .int .i64 0, .int .i64 0, .int .i64 0] 42)).cell? ⟨x, 0, none⟩ = some (.pointer (some ⟨H2.gr, 0, none⟩)) := Lib.cell?_alloc_some _ e0
                          have k1 : (wq.drew.alloc (.cells #[.int .i64 0, .int .i64 0, .int .i64 0, .int .i64 0] 42)).cell? ⟨g5, j, none⟩ = some (.int .i64 a) := Lib.cell?_alloc_some _ y0
                          refine hK.out _ _ ⟨k0, k1⟩ (fun hHeld => ?_)
                          clear hK K hHeld0
                          (try simp only [Act.put, List.setIfInBounds_toArray, List.set_cons_zero, List.set_cons_succ, List.getElem_toArray, List.getElem_cons_zero, List.getElem_cons_succ])
                          have HBA : Hid (Below wq.heap.size wq (wq.drew.alloc (.cells #[.int .i64 0, .int .i64 0, .int .i64 0, .int .i64 0] 42))) := Below.alloc (Below.drew (Below.refl _ _)) (Nat.le_refl _) _
                          have hbk : (wq.drew.alloc (.cells #[.int .i64 0, .int .i64 0, .int .i64 0, .int .i64 0] 42)).heap[wq.heap.size]? = some (.cells #[.int .i64 0, .int .i64 0, .int .i64 0, .int .i64 0] 42 (0, 0)) := heap_alloc_new wq.drew _
                          refine wpAnyH_ready (rs := [8]) (by kernel_rfl) (by simp) ?_
                          refine AllReadyH.cons rfl (fun K hK => ?_) AllReadyH.nil
                          go_simp
                          refine (HAT.out _ HBA.out).mono ?_
                          rintro e w4 ⟨rfl, hb4⟩
                          have k0 := cell_past hb4 (cell_lt k0) k0
                          have k1 := cell_past hb4 (cell_lt k1) k1
                          have HB4 := Lib.hid (Below.via hb4 HBA.out.size HBA.out)
                          have hb4k := (hb4.block _ (lt_of_block hbk)).trans hbk
                          have q0 := cell_of_block hb4k 0
                          have q1 := cell_of_block hb4k 1
                          have q2 := cell_of_block hb4k 2
                          have q3 := cell_of_block hb4k 3
                          have r0 := frozen_of_block hb4k 0
                          have r1 := frozen_of_block hb4k 1
                          have r2 := frozen_of_block hb4k 2
                          have r3 := frozen_of_block hb4k 3
                          simp only [List.getElem?_toArray, List.getElem?_cons_zero, List.getElem?_cons_succ] at q0 q1 q2 q3
                          clear hbk
                          refine hK.out _ _ ⟨k0, k1⟩ (fun hHeld => ?_)
                          clear hK K hb4
                          (try simp only [Act.put, List.setIfInBounds_toArray, List.set_cons_zero, List.set_cons_succ, List.getElem_toArray, List.getElem_cons_zero, List.getElem_cons_succ])
                          (refine wpAnyH_take (i := 9) (v := ?_) rfl (by kernel_rfl) (by kernel_rfl) (by kernel_rfl) (fun _ _ _ h => h) (Or.inl ⟨by rfl, ?_⟩) (by assumption) ?_; rotate_left; focus (intro w hSw; (try dsimp only at hSw); go_simp; first | done | with_reducible rfl); (try simp only [Act.put, List.setIfInBounds_toArray, List.set_cons_zero, List.set_cons_succ, List.getElem_toArray, List.getElem_cons_zero, List.getElem_cons_succ]))
                          (refine wpAnyH_take (i := 10) (v := ?_) rfl (by kernel_rfl) (by kernel_rfl) (by kernel_rfl) (fun _ _ _ h => h) (Or.inl ⟨by rfl, ?_⟩) (by assumption) ?_; rotate_left; focus (intro w hSw; (try dsimp only at hSw); go_simp; first | done | with_reducible rfl); (try simp only [Act.put, List.setIfInBounds_toArray, List.set_cons_zero, List.set_cons_succ, List.getElem_toArray, List.getElem_cons_zero, List.getElem_cons_succ]))
                          (refine wpAnyH_take (i := 11) (v := ?_) rfl (by kernel_rfl) (by kernel_rfl) (by kernel_rfl) (fun _ _ _ h => h) (Or.inl ⟨by rfl, ?_⟩) (by assumption) ?_; rotate_left; focus (intro w hSw; (try dsimp only at hSw); go_simp; first | done | with_reducible rfl); (try simp only [Act.put, List.setIfInBounds_toArray, List.set_cons_zero, List.set_cons_succ, List.getElem_toArray, List.getElem_cons_zero, List.getElem_cons_succ]))
                          refine wpAnyH_ready (rs := [13]) (by kernel_rfl) (by simp) ?_
                          refine AllReadyH.cons rfl (fun K hK => ?_) AllReadyH.nil
                          go_simp
                          obtain ⟨W5, hW5⟩ : ∃ W5, W5 = (((w4.setCell ⟨wq.heap.size, 0, none⟩ (.int .i64 epg)).setCell ⟨wq.heap.size, 1, none⟩ (.int .i64 1)).setCell ⟨wq.heap.size, 2, none⟩ (.int .i64 c0)).setCell ⟨wq.heap.size, 3, none⟩ (.int .i64 est) := ⟨_, rfl⟩
                          have hbx : W5.heap[wq.heap.size]? = some (.cells #[.int .i64 epg, .int .i64 1, .int .i64 c0, .int .i64 est] 42 (0, 0)) := by
                            rw [hW5, heap_setCell_eq (heap_setCell_eq (heap_setCell_eq (heap_setCell_eq hb4k _) _) _) _]
                            rfl
                          have hnx : wq.heap.size ≠ x := by omega
                          have hng : wq.heap.size ≠ g5 := by omega
                          have HP : Hid (W5.cell? ⟨wq.heap.size, 1, none⟩ = some (.int .i64 1) ∧ W5.cell? ⟨wq.heap.size, 2, none⟩ = some (.int .i64 c0) ∧ Below wq.heap.size wq W5) := by
                            refine ⟨cell_of_block hbx 1, cell_of_block hbx 2, ?_⟩
                            rw [hW5]
                            exact Below.setCell (Below.setCell (Below.setCell (Below.setCell HB4.out (Nat.le_refl _) _) (Nat.le_refl _) _) (Nat.le_refl _) _) (Nat.le_refl _) _
                          have k0' : W5.cell? ⟨x, 0, none⟩ = some (.pointer (some ⟨H2.gr, 0, none⟩)) := by rw [hW5]; exact (World.cell?_setCell_far _ _ _ _ hnx).trans ((World.cell?_setCell_far _ _ _ _ hnx).trans ((World.cell?_setCell_far _ _ _ _ hnx).trans ((World.cell?_setCell_far _ _ _ _ hnx).trans k0)))
                          have k1' : W5.cell? ⟨g5, j, none⟩ = some (.int .i64 a) := by rw [hW5]; exact (World.cell?_setCell_far _ _ _ _ hng).trans ((World.cell?_setCell_far _ _ _ _ hng).trans ((World.cell?_setCell_far _ _ _ _ hng).trans ((World.cell?_setCell_far _ _ _ _ hng).trans k1)))
                          rw [← hW5]
                          refine hK.out _ W5 ⟨k0', k1'⟩ (fun hHeld => ?_)
                          clear hK K
                          (try simp only [Act.put, List.setIfInBounds_toArray, List.set_cons_zero, List.set_cons_succ, List.getElem_toArray, List.getElem_cons_zero, List.getElem_cons_succ])
                          (refine wpAnyH_take (i := 14) (v := ?_) rfl (by kernel_rfl) (by kernel_rfl) (by kernel_rfl) (fun _ _ _ h => h) (Or.inl ⟨by rfl, ?_⟩) (by assumption) ?_; rotate_left; focus (intro w hSw; (try dsimp only at hSw); go_simp; first | done | with_reducible rfl); (try simp only [Act.put, List.setIfInBounds_toArray, List.set_cons_zero, List.set_cons_succ, List.getElem_toArray, List.getElem_cons_zero, List.getElem_cons_succ]))
                          refine wpAnyH_done (by kernel_rfl) ?_ _
                          (try simp only [Act.put, List.setIfInBounds_toArray, List.set_cons_zero, List.set_cons_succ, List.getElem_toArray, List.getElem_cons_zero, List.getElem_cons_succ])
                          clear hW5 hHeld k0 k1 k0' k1' HB4 hbx hnx hng q0 q1 q2 q3 r0 r1 r2 r3 hb4k
                          exact HTAIL.out _ W5 HP.out
                      case h2 =>
                        rintro b w5 ⟨B1, B2, hb5⟩
                        have HB5 := Lib.hid hb5
                        have hs5 := hb5.size
                        have z0 := cell_past hb5 hgl y0
                        have z1 := cell_past hb5 hbl y1
                        have z2 := cell_past hb5 hxl e1
                        have hlk : ∀ X, (Instr.lookup 27 (.map (some mb)) (.int .i64 a) false).run Tryz.prog (w5.ext X) = .ok (.int .i64 0) (w5.ext X) := fun X => HLK.out _ (Below.via (below_ext _ _) hs5 hb5)
                        have hmod : Int.tmod a 8 = 0 := by rw [Int.tmod_eq_emod_of_nonneg ha0]; exact ham
                        clear hb5 e0 e1 y0 y1
                        go_upto_region 25 with (fail)
                        (refine wp_region_quiet_ext (by kernel_rfl) (by kernel_rfl) ?_; (repeat (first | go_big_quiet_step ((go_at_call 11; exact Calls.ext_of (HHS5.out _ (Below.via (below_ext _ _) hs5 HB5.out)))) | quiet_step ((go_at_call 11; exact Calls.ext_of (HHS5.out _ (Below.via (below_ext _ _) hs5 HB5.out)))))); refine wpQuiet_nil ?_; intro w4 hw4; obtain hb4 := below_of_ext hw4; clear hw4; obtain ⟨hc4, hf4⟩ := bcell hb4; have hz4 := hb4.size; (try simp at hz4))
                        have HB6 := Lib.hid (Below.via hb4 hs5 HB5.out)
                        have hs6 := HB6.out.size
                        have l0 := cell_past hb4 (cell_lt z0) z0
                        have l1 := cell_past hb4 (cell_lt z1) z1
                        clear hc4 hf4 hb4 hz4 B1 B2 z0 z1 z2 HB5 hs5 hlk
                        go_upto_region 27 with (fail)
                        refine wp_region_held_drew (S := fun W : World => W.cell? ⟨g5, j, none⟩ = some (.int .i64 a) ∧ W.cell? ⟨wr.heap.size, 1, none⟩ = some (.int .i64 c0)) (by kernel_rfl) ?_ (fun hHeld0 => ?_)
                        · exact ⟨l0, l1⟩
                        (refine wpAnyH_take (i := 0) (v := ?_) rfl (by kernel_rfl) (by kernel_rfl) (by kernel_rfl) (fun _ _ _ h => h) (Or.inl ⟨by rfl, ?_⟩) (by assumption) ?_; rotate_left; focus (intro w hSw; (try dsimp only at hSw); go_simp; first | done | with_reducible rfl); (try simp only [Act.put, List.setIfInBounds_toArray, List.set_cons_zero, List.set_cons_succ, List.getElem_toArray, List.getElem_cons_zero, List.getElem_cons_succ]))
                        (refine wpAnyH_take (i := 1) (v := ?_) rfl (by kernel_rfl) (by kernel_rfl) (by kernel_rfl) (fun _ _ _ h => h) (Or.inl ⟨by rfl, ?_⟩) (by assumption) ?_; rotate_left; focus (intro w hSw; (try dsimp only at hSw); go_simp; first | done | with_reducible rfl); (try simp only [Act.put, List.setIfInBounds_toArray, List.set_cons_zero, List.set_cons_succ, List.getElem_toArray, List.getElem_cons_zero, List.getElem_cons_succ]))
                        (refine wpAnyH_take (i := 2) (v := ?_) rfl (by kernel_rfl) (by kernel_rfl) (by kernel_rfl) (fun _ _ _ h => h) (Or.inl ⟨by rfl, ?_⟩) (by assumption) ?_; rotate_left; focus (intro w hSw; (try dsimp only at hSw); go_simp; first | done | with_reducible rfl); (try simp only [Act.put, List.setIfInBounds_toArray, List.set_cons_zero, List.set_cons_succ, List.getElem_toArray, List.getElem_cons_zero, List.getElem_cons_succ]))
                        (refine wpAnyH_take (i := 3) (v := ?_) rfl (by kernel_rfl) (by kernel_rfl) (by kernel_rfl) (fun _ _ _ h => h) (Or.inl ⟨by rfl, ?_⟩) (by assumption) ?_; rotate_left; focus (intro w hSw; (try dsimp only at hSw); go_simp; first | done | with_reducible rfl); (try simp only [Act.put, List.setIfInBounds_toArray, List.set_cons_zero, List.set_cons_succ, List.getElem_toArray, List.getElem_cons_zero, List.getElem_cons_succ]))
                        (refine wpAnyH_take (i := 4) (v := ?_) rfl (by kernel_rfl) (by kernel_rfl) (by kernel_rfl) (fun _ _ _ h => h) (Or.inl ⟨by rfl, ?_⟩) (by assumption) ?_; rotate_left; focus (intro w hSw; (try dsimp only at hSw); go_simp; first | done | with_reducible rfl); (try simp only [Act.put, List.setIfInBounds_toArray, List.set_cons_zero, List.set_cons_succ, List.getElem_toArray, List.getElem_cons_zero, List.getElem_cons_succ]))
                        (refine wpAnyH_take (i := 6) (v := ?_) rfl (by kernel_rfl) (by kernel_rfl) (by kernel_rfl) (fun _ _ _ h => h) (Or.inl ⟨by rfl, ?_⟩) (by assumption) ?_; rotate_left; focus (intro w hSw; (try dsimp only at hSw); go_simp; first | done | with_reducible rfl); (try simp only [Act.put, List.setIfInBounds_toArray, List.set_cons_zero, List.set_cons_succ, List.getElem_toArray, List.getElem_cons_zero, List.getElem_cons_succ]))
                        (refine wpAnyH_take (i := 7) (v := ?_) rfl (by kernel_rfl) (by kernel_rfl) (by kernel_rfl) (fun _ _ _ h => h) (Or.inl ⟨by rfl, ?_⟩) (by assumption) ?_; rotate_left; focus (intro w hSw; (try dsimp only at hSw); go_simp; first | done | with_reducible rfl); (try simp only [Act.put, List.setIfInBounds_toArray, List.set_cons_zero, List.set_cons_succ, List.getElem_toArray, List.getElem_cons_zero, List.getElem_cons_succ]))
                        refine wpAnyH_ready (rs := [5]) (by kernel_rfl) (by simp) ?_
                        refine AllReadyH.cons rfl (fun K hK => ?_) AllReadyH.nil
                        go_simp
                        obtain ⟨W7, hW7⟩ : ∃ W7, W7 = (w4.alloc (.cells #[.int .i64 8, .int .i64 16, .int .i64 24, .int .i64 32, .int .i64 48, .int .i64 64, .int .i64 96, .int .i64 128, .int .i64 192, .int .i64 256, .int .i64 384, .int .i64 512] 3)).drew := ⟨_, rfl⟩
                        have m0 : W7.cell? ⟨w4.heap.size, c0, none⟩ = some (.int .i64 (szB c0 : Nat)) := by rw [hW7]; exact (cell_of_block (heap_alloc_new w4 _) c0).trans (szB_at hc12)
                        have HB7 : Hid (Below wq.heap.size wq W7) := by rw [hW7]; exact Below.drew (Below.alloc HB6.out hs6 _)
                        have k0 : W7.cell? ⟨g5, j, none⟩ = some (.int .i64 a) := by rw [hW7]; exact Lib.cell?_alloc_some _ l0
                        have k1 : W7.cell? ⟨wr.heap.size, 1, none⟩ = some (.int .i64 c0) := by rw [hW7]; exact Lib.cell?_alloc_some _ l1
                        rw [← hW7]
                        refine hK.out _ _ ⟨k0, k1⟩ (fun hHeld => ?_)
                        clear hK K hHeld0 hW7 l0 l1
                        (try simp only [Act.put, List.setIfInBounds_toArray, List.set_cons_zero, List.set_cons_succ, List.getElem_toArray, List.getElem_cons_zero, List.getElem_cons_succ])
                        (refine wpAnyH_take (i := 8) (v := ?_) rfl (by kernel_rfl) (by kernel_rfl) (by kernel_rfl) (fun _ _ _ h => h) (Or.inl ⟨by rfl, ?_⟩) (by assumption) ?_; rotate_left; focus (intro w hSw; (try dsimp only at hSw); go_simp; first | done | with_reducible rfl); (try simp only [Act.put, List.setIfInBounds_toArray, List.set_cons_zero, List.set_cons_succ, List.getElem_toArray, List.getElem_cons_zero, List.getElem_cons_succ]))
                        obtain ⟨bn, blk, hup, hA7⟩ := HUP.out _ HB7.out
                        have HA7 := Lib.hid hA7
                        clear hA7
                        refine wpAnyH_ready (rs := [9]) (by kernel_rfl) (by simp) ?_
                        refine AllReadyH.cons rfl (fun K hK => ?_) AllReadyH.nil
                        go_simp
                        refine hK.out _ _ ⟨k0, k1⟩ (fun hHeld => ?_)
                        clear hK K
                        (try simp only [Act.put, List.setIfInBounds_toArray, List.set_cons_zero, List.set_cons_succ, List.getElem_toArray, List.getElem_cons_zero, List.getElem_cons_succ])
                        refine wpAnyH_ready (rs := [10]) (by kernel_rfl) (by simp) ?_
                        refine AllReadyH.cons rfl (fun K hK => ?_) AllReadyH.nil
                        go_simp
                        have hT7 : Turned (fun k => k = mb) W7 (setBlock W7 mb blk) := Turned.setBlock (F := fun k => k = mb) (Turned.refl _ _) (.inl rfl) _
                        have HT7 : Hid (Turned (fun k => k = mb) wq (setBlock W7 mb blk)) := (Turned.of_below (F := fun k => k = mb) HB7.out (Nat.le_refl _)).trans hT7 (fun _ h _ => h)
                        have n0 := turned_cell hT7 hgmb k0
                        have n1 := turned_cell hT7 hbmb k1
                        generalize setBlock W7 mb blk = W8 at *
                        refine hK.out _ _ ⟨n0, n1⟩ (fun hHeld => ?_)
                        clear hK K
                        (try simp only [Act.put, List.setIfInBounds_toArray, List.set_cons_zero, List.set_cons_succ, List.getElem_toArray, List.getElem_cons_zero, List.getElem_cons_succ])
                        refine wpAnyH_done (by kernel_rfl) ?_ _
                        clear hHeld hup hT7 n0 n1 m0 k0 k1
                        go_wp2
                        go_roundw
                        case rel => exact ⟨j + 1, _, hlj, by go_num, HA7.out, (HNX.out bn).1, (HNX.out bn).2, (HT7.out.block _ hbl hbmb).trans HBK5.out, HCE5.out.turned HT7.out (fun k e => by rw [e]; exact hmlt)⟩
                        case measure => simp [numOf]; omega
                    · obtain rfl : j = new.length := by omega
                      have HM6 : Hid (MapOk s' E') := hMM.fin HN3.out
                      have HA6 := Lib.hid hA5
                      have HS6 := Lib.hid hS5
                      clear hA5 hMM hS5 hbk5 hin5
                      go_wp2
                      go_roundw
                      case rel => exact ⟨k + 1, H2, s', E', hlt, by go_num, HA6.out, HM6.out, HS6.out⟩
                      case measure => simp [numOf]; omega
                · obtain ⟨n1, n2⟩ := doP_no HA.out.q.good ⟨what, cls, at_, cn, pg, p, len, cp⟩ (by show 0 ≤ what; omega) (by show what < 5; omega) hw1 he
                  have hm : MapOk (doP s ⟨what, cls, at_, cn, pg, p, len, cp⟩).2 E := HM.out.same n1
                  have HM2 := Lib.hid (And.intro hm (HS.out.same HA.out.q.good.inv hm n2))
                  have heb : ((doP s ⟨what, cls, at_, cn, pg, p, len, cp⟩).1.2 == 0) = false := by simpa using he
                  clear n1 n2 hm
                  generalize (doP s ⟨what, cls, at_, cn, pg, p, len, cp⟩).1.1 = new at *
                  generalize (doP s ⟨what, cls, at_, cn, pg, p, len, cp⟩).1.2 = er at *
                  generalize (doP s ⟨what, cls, at_, cn, pg, p, len, cp⟩).2 = s' at *
                  go_wp2_with (fail)
                  refine HDO.out.mono ?_
                  rintro e wD hp
                  obtain ⟨v, H2, rfl, hints, hA4, -, -, ht4⟩ := (HA.out.below' HB3.out).done HGD.out hp
                  obtain ⟨pD, cD, rfl, -⟩ := hints
                  have hblk4 := (ht4.block _ (lt_of_block HBLK3.out) HOFF.out).trans HBLK3.out
                  have r0 := cell_of_block hblk4 0
                  simp only [List.getElem?_toArray, List.getElem?_cons_zero, List.getElem?_cons_succ] at r0
                  have HA5 := Lib.hid hA4
                  clear hA4 ht4 hblk4 p0 p1 p2 p3 p4 p5 hp
                  go_wp2
                  go_loopw [12] (fun iv wq => iv = .int .i64 0 ∧ wD = wq) (fun _ _ => 0)
                  case atStart => exact ⟨rfl, rfl⟩
                  case round =>
                    obtain ⟨rfl, rfl⟩ := hrel
                    by_cases hnl : (0 : Int) < (new.length : Int)
                    · go_wp2
                      go_roundw
                      case rel => exact ⟨k + 1, H2, s', E, hlt, by go_num, HA5.out, HM2.out.1, HM2.out.2⟩
                      case measure => simp [numOf]; omega
                    · go_wp2
                      go_roundw
                      case rel => exact ⟨k + 1, H2, s', E, hlt, by go_num, HA5.out, HM2.out.1, HM2.out.2⟩
                      case measure => simp [numOf]; omega
        · obtain rfl : k = cs.length := by omega
          clear hA hM hS
          go_wp2
          refine HK0.out _ _ ?_
          exact apart_end HNP.out hp40 HB1.out HA.out HM.out HS.out

end Go.Proofs.YtlljejmblmjjnaaGreat
