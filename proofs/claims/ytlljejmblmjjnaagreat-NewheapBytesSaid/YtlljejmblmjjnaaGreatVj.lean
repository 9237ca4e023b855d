/- NewheapBytes: its walk. -/
import Derived.Test.YtlljejmblmjjnaaGreatVi
import Derived.WalkKit
import Derived.WalkSpells
import Derived.WalkLawsBesides
import Derived.BigQuiet
import Derived.Lib.Hide
namespace Go.Proofs.YtlljejmblmjjnaaGreat
set_option linter.unusedVariables false
set_option linter.unusedSimpArgs false
open Go.RowKit Go.ChangeMaps

/-- What a call does to what is taken, by cases. -/
inductive DoIs (s s' : HP) (c : CallM) (res : List Int) (er : Int) : Prop
  | giveYes (h : c.what = 1) (hr : res = []) (he : er = 0) (ht : ∀ b, Tkn s'.A b ↔ Tkn s.A b ∧ b ≠ c.at_) : DoIs s s' c res er
  | still (he : er ≠ 0) (hl : res.length ≤ 1) (ht : ∀ b, Tkn s'.A b ↔ Tkn s.A b) : DoIs s s' c res er
  | new (h : c.what ≠ 1) (he : er = 0) (hn : res.Nodup) (hf : ∀ a ∈ res, ¬ Tkn s.A a) (ht : ∀ b, Tkn s'.A b ↔ Tkn s.A b ∨ b ∈ res) (h02 : res ≠ [] → c.what = 0 ∨ c.what = 2) : DoIs s s' c res er
theorem doP_short {s : HP} {pages : Nat} (h : HGood pages s) (c : CallM) (h0 : 0 ≤ c.what) (h5 : c.what < 5) (he : (doP s c).1.2 ≠ 0) : (doP s c).1.1.length ≤ 1 := by
  revert he
  unfold doP
  split
  · intro _; simp
  · split
    · intro _; simp
    · split
      · intro he
        unfold someP at he ⊢
        split
        · next hr =>
          rw [if_pos hr] at he
          rw [((some_is c.n.toNat s c.cls [] h).no he).2.1]
          simp
        · simp
      · split
        · intro _; simp
        · split
          · intro _; simp
          · intro _; simp
theorem doP_none {s : HP} (c : CallM) (h : ¬ (c.what = 0 ∨ c.what = 2)) : (doP s c).1.1 = [] := by
  unfold doP
  split
  · next e => exact absurd (.inl e) h
  · split
    · rfl
    · split
      · next e => exact absurd (.inr e) h
      · split
        · rfl
        · split
          · rfl
          · rfl
theorem doP_cases {s : HP} {pages : Nat} (h : HGood pages s) (c : CallM) (h0 : 0 ≤ c.what) (h5 : c.what < 5) : DoIs s (doP s c).2 c (doP s c).1.1 (doP s c).1.2 := by
  by_cases h1 : c.what = 1
  · rw [doP_give c h1]
    obtain ⟨g1, g2⟩ := give_tkn h c.at_
    by_cases he : (giveP s c.at_).1 = 0
    · exact .giveYes h1 rfl he fun b => by rw [g2]; exact ⟨fun h => ⟨h.1, h.2 he⟩, fun h => ⟨h.1, fun _ => h.2⟩⟩
    · exact .still he (by simp) fun b => by rw [g2]; exact ⟨fun h => h.1, fun h => ⟨h, fun e => absurd e he⟩⟩
  · by_cases he : (doP s c).1.2 = 0
    · obtain ⟨n1, n2, n3, -⟩ := doP_new h c h0 h5 h1 he
      exact .new h1 he n1 (fun a ha => (n2 a ha).1) n3 fun hne => Classical.byContradiction fun hc => hne (doP_none c hc)
    · exact .still he (doP_short h c h0 h5 he) (doP_no h c h0 h5 h1 he).1

set_option maxRecDepth 8000 in
set_option maxHeartbeats 80000000 in
theorem bytes_any (n : Int) (cs : List CallM) (pv : Option Addr) (cap : Nat) (fv : Option Addr) (fl fcap : Nat) (w : World) (h : CallsAt w pv cs) (hcs : ∀ c ∈ cs, CallOk c) (hf : FillAt w fv fl) :
    Calls Tryz.prog 7 #[.int .i64 n, .slice pv cs.length cap, .slice fv fl fcap] w fun e w' => e = .returned (.bool true) ∧ Below w.heap.size w w' := by
  have HALV := Lib.hid alive_any
  have HC := Lib.hid h
  have HOK := Lib.hid hcs
  have HF0 := Lib.hid hf
  clear h hcs hf
  go_enter Tryz.func7, Tryz.ntmps7
  (go_wp2_with (fail); refine (HALV.out _).mono ?_; rintro e w1 ⟨rfl, hb⟩; have HB1 := Lib.hid hb; have HC1 := Lib.hid (HC.out.below hb); clear hb; have HGT := Lib.hid (great_any n cs pv cap w1 HC1.out); go_wp2_with (fail); refine HGT.out.mono ?_; rintro e w1' ⟨rfl, rfl⟩)
  cases hgt : greatB n cs with
  | true =>
    go_wp2
    go_ret
    exact ⟨rfl, HB1.out⟩
  | false =>
    obtain ⟨hn40, hc40⟩ := greatB_no hgt
    by_cases hfl : (60 : Int) < (fl : Int)
    · clear hgt hn40 hc40
      go_wp2
      go_ret
      exact ⟨rfl, HB1.out⟩
    · by_cases hneg : n < 0
      · have HQ := Lib.hid (quiet_no n hneg none 0 0 w1)
        clear hgt hn40 hc40
        go_wp2_with (fail)
        refine HQ.out.mono ?_
        rintro e w2 ⟨rfl, hb2⟩
        have HB2 := Lib.hid (Below.via hb2 HB1.out.size HB1.out)
        have HQ2 := Lib.hid (quiet_no n hneg none 0 0 w2)
        clear hb2
        go_wp2_with (fail)
        refine HQ2.out.mono ?_
        rintro e w3 ⟨rfl, hb3⟩
        have HB3 := Lib.hid (Below.via hb3 HB2.out.size HB2.out)
        clear hb3
        go_wp2
        go_ret
        exact ⟨rfl, HB3.out⟩
      · obtain ⟨pages, hpg⟩ : ∃ pages : Nat, n = pages := ⟨n.toNat, by omega⟩
        have hp40 : pages ≤ 40 := by omega
        have HQ : Hid (∀ W, Calls Tryz.prog 10 #[.int .i64 n, .slice none 0 0] W (QuietPost W pages (s0 pages))) := fun W => by
          rw [hpg]
          exact quiet_yes pages (by omega) [] (by simp) (by simp) none 0 W (fun i hi => absurd hi (Nat.not_lt_zero i))
        have HF1 := Lib.hid (HF0.out.below HB1.out)
        clear hgt hneg hpg
        go_wp2_with (fail)
        refine (HQ.out _).mono ?_
        rintro e w2 ⟨x, Hx, rfl, hIx⟩
        have HIX := Lib.hid hIx
        clear hIx
        go_wp2_with (fail)
        refine (HQ.out _).mono ?_
        rintro e w3 ⟨y, Hy, rfl, hIy⟩
        have HA0 : Hid (TwoI w1 (w3.alloc (.map #[] 0)) x Hx y Hy pages (s0 pages) w3.heap.size (Value.int .u8) []) := by
          have hIx := HIX.out
          refine TwoI.start (hIx.below' hIy.below) ⟨hIy.at_, hIy.good, hIy.left, fun k hk => Nat.le_trans hIx.below.size (hIy.foot k hk), Nat.le_trans hIx.below.size hIy.x, Below.via hIy.below hIx.below.size hIx.below⟩ (fun k hk hk2 => ?_) _
          have h1 := hIx.at_.heap.lt hk
          have h2 := hIy.foot k hk2
          omega
        have HS0 := Lib.hid (s0_ok pages)
        have hmm := @run_makeMap Tryz.prog
        clear hIy HIX
        go_wp2
        clear hmm
        generalize w3.heap.size = mb at *
        generalize w3.alloc (.map #[] 0) = wA at *
        generalize s0 pages = s00 at *
        rename_i K0 hK0
        have HK0 := Lib.hid hK0
        clear hK0
        go_loopw [10] (fun iv wr => ∃ (k : Nat) (Hx1 Hy1 : HL) (s : HP) (E : List ME), k ≤ cs.length ∧ iv = .int .i64 k ∧ TwoI w1 wr x Hx1 y Hy1 pages s mb (Value.int .u8) E ∧ MapOk s E ∧ BytesOk Hx1.bs E) (fun iv _ => cs.length - numOf iv)
        case atStart => exact ⟨0, Hx, Hy, s00, [], Nat.zero_le _, rfl, HA0.out, HS0.out.1, fun e he => absurd he List.not_mem_nil⟩
        case round =>
          obtain ⟨k, Hx1, Hy1, s, E, hk, rfl, hA, hM, hY⟩ := hrel
          have HA := Lib.hid hA
          have HM := Lib.hid hM
          have HY := Lib.hid hY
          by_cases hlt : k < cs.length
          · obtain ⟨g, o, rfl, hcell⟩ := HC1.out k hlt
            have hin : ∀ j v, (callV cs[k])[j]? = some v → wr.cell? ⟨g, o + k * 6 + j, none⟩ = some v := fun j v hv => cell_past hA.qx.below (cell_lt (hcell j v hv)) (hcell j v hv)
            have x0 : wr.cell? ⟨g, o + k * 6, none⟩ = some (.int .i64 cs[k].what) := hin 0 _ rfl
            have x1 : wr.cell? ⟨g, o + k * 6 + 1, none⟩ = some (.int .i64 cs[k].cls) := hin 1 _ rfl
            have x2 : wr.cell? ⟨g, o + k * 6 + 2, none⟩ = some (.int .i64 cs[k].at_) := hin 2 _ rfl
            have x3 : wr.cell? ⟨g, o + k * 6 + 3, none⟩ = some (.int .i64 cs[k].n) := hin 3 _ rfl
            have x4 : wr.cell? ⟨g, o + k * 6 + 4, none⟩ = some (.int .i64 cs[k].pg) := hin 4 _ rfl
            have x5 : wr.cell? ⟨g, o + k * 6 + 5, none⟩ = some (.slice cs[k].p cs[k].len cs[k].cap) := hin 5 _ rfl
            have hi1 : (0 : Int) ≤ (k : Int) ∧ (k : Int) < cs.length := by omega
            have hkw : IntKind.i64.wrap ((k : Int) + 1) = (k : Int) + 1 := by rw [IntKind.wrap_i64]; omega
            have hok := HOK.out _ (List.getElem_mem hlt)
            clear hcell hin hA hM hY
            generalize hck : cs[k] = c at *
            clear hck
            obtain ⟨what, cls, at_, cn, pg, p, len, cp⟩ := c
            simp only at x0 x1 x2 x3 x4 x5
            have HOKC := Lib.hid hok
            clear hok
            by_cases hw4 : 4 < what
            · go_wp2
              go_roundw
              case rel => exact ⟨k + 1, Hx1, Hy1, s, E, hlt, by go_num, HA.out.below' (Below.alloc (Below.refl _ _) (Nat.le_refl _) _), HM.out, HY.out⟩
              case measure => simp [numOf]; omega
            · by_cases hw0 : what < 0
              · go_wp2
                go_roundw
                case rel => exact ⟨k + 1, Hx1, Hy1, s, E, hlt, by go_num, HA.out.below' (Below.alloc (Below.refl _ _) (Nat.le_refl _) _), HM.out, HY.out⟩
                case measure => simp [numOf]; omega
              · go_upto_region 15 with (fail)
                obtain ⟨W1, hW1⟩ : ∃ W1, W1 = wr.alloc (.cells #[.int .i64 what, .int .i64 cls, .int .i64 at_, .int .i64 cn, .int .i64 pg, .slice p len cp] 30) := ⟨_, rfl⟩
                have HBW1 : Hid (Below wr.heap.size wr W1) := by rw [hW1]; exact Below.alloc (Below.refl _ _) (Nat.le_refl _) _
                have hblk : W1.heap[wr.heap.size]? = some (.cells #[.int .i64 what, .int .i64 cls, .int .i64 at_, .int .i64 cn, .int .i64 pg, .slice p len cp] 30 (0, 0)) := by rw [hW1]; exact heap_alloc_new _ _
                have HBLK := Lib.hid hblk
                have HA1 := Lib.hid (HA.out.below' HBW1.out)
                have p0 := cell_of_block hblk 0
                have p1 := cell_of_block hblk 1
                have p2 := cell_of_block hblk 2
                have p3 := cell_of_block hblk 3
                have p4 := cell_of_block hblk 4
                have p5 := cell_of_block hblk 5
                simp only [List.getElem?_toArray, List.getElem?_cons_zero, List.getElem?_cons_succ] at p0 p1 p2 p3 p4 p5
                have HDO : Hid (∀ W z Hz, WorldAt W z Hz pages s → Calls Tryz.prog 12 #[.pointer (some ⟨z, 0, none⟩), .agg #[.int .i64 what, .int .i64 cls, .int .i64 at_, .int .i64 cn, .int .i64 pg, .slice p len cp]] W (DoPost W z Hz pages s (doP s ⟨what, cls, at_, cn, pg, p, len, cp⟩).2 (doP s ⟨what, cls, at_, cn, pg, p, len, cp⟩).1.1 (doP s ⟨what, cls, at_, cn, pg, p, len, cp⟩).1.2)) :=
                  fun W z Hz hz => do_any hz HA.out.qx.good ⟨what, cls, at_, cn, pg, p, len, cp⟩ HOKC.out (by show 0 ≤ what; omega) (by show what < 5; omega)
                have HGD := Lib.hid (doP_good HA.out.qx.good ⟨what, cls, at_, cn, pg, p, len, cp⟩)
                have HIS := Lib.hid (doP_cases HA.out.qx.good ⟨what, cls, at_, cn, pg, p, len, cp⟩ (by show 0 ≤ what; omega) (by show what < 5; omega))
                rw [← hW1]
                clear hW1 x0 x1 x2 x3 x4 x5 hblk
                generalize (doP s ⟨what, cls, at_, cn, pg, p, len, cp⟩).1.1 = res at *
                generalize (doP s ⟨what, cls, at_, cn, pg, p, len, cp⟩).1.2 = er at *
                generalize (doP s ⟨what, cls, at_, cn, pg, p, len, cp⟩).2 = s' at *
                go_wp2_with (fail)
                refine (HDO.out _ _ _ HA1.out.qx.at_).mono ?_
                rintro e wX hp
                obtain ⟨v, Hx2, rfl, hints, hH, hcbx, hkp, htx⟩ := HA1.out.doX HGD.out hp
                have HIN := Lib.hid hints
                obtain ⟨pX, cX, rfl, -⟩ := hints
                have HH := Lib.hid hH
                have HKP := Lib.hid hkp
                have hblkx := (htx.block _ (lt_of_block HBLK.out) (HA1.out.qx.at_.heap.offT HBLK.out (by decide))).trans HBLK.out
                have HBLKX := Lib.hid hblkx
                have r0 := cell_of_block hblkx 0
                have r1 := cell_of_block hblkx 1
                have r2 := cell_of_block hblkx 2
                have r3 := cell_of_block hblkx 3
                have r4 := cell_of_block hblkx 4
                have r5 := cell_of_block hblkx 5
                simp only [List.getElem?_toArray, List.getElem?_cons_zero, List.getElem?_cons_succ] at r0 r1 r2 r3 r4 r5
                have hrl : res.length ≤ 10000 := by
                  cases HIS.out with
                  | giveYes h hr => rw [hr]; simp
                  | still he hl => omega
                  | new h he hn hf ht h02 =>
                    have h1 := new_le HGD.out.inv hn (fun a ha => (ht a).2 (.inr ha))
                    have h2 := taken_bound hH.qx
                    omega
                clear hp hH hkp htx hblkx p0 p1 p2 p3 p4 p5
                go_wp2_with (fail)
                refine (HDO.out _ _ _ HH.out.qy.at_).mono ?_
                rintro e wY hp
                obtain ⟨v2, Hy2, rfl, hints2, hT, hty⟩ := HH.out.doY HGD.out hp
                obtain ⟨pY, cY, rfl, hiy⟩ := hints2.at
                have hINY := HIN.out.turned hty (fun k hk => HA1.out.qy.at_.heap.lt hk)
                obtain ⟨p8, c8, hv8, hix⟩ := hINY.at
                cases hv8
                have HSI := Lib.hid (sameInts_any wY pX pY cX cY res res hix hiy (by omega))
                have hblky := (hty.block _ (lt_of_block HBLKX.out) (HH.out.qy.at_.heap.offT HBLKX.out (by decide))).trans HBLKX.out
                have HBLKY := Lib.hid hblky
                have HT := Lib.hid hT
                have HINY := Lib.hid hINY
                simp only [decide_true] at HSI
                clear hp hT hty hints2 hiy hix hINY hblky r0 r1 r2 r3 r4 r5
                go_wp2_with (fail)
                refine HSI.out.mono ?_
                rintro e wZ ⟨rfl, hbZ⟩
                have HTZ := Lib.hid (HT.out.below' hbZ)
                have HINZ := Lib.hid (HINY.out.below hbZ)
                have hblkz := (hbZ.block _ (lt_of_block HBLKY.out)).trans HBLKY.out
                have HBLKZ := Lib.hid hblkz
                have q0 := cell_of_block hblkz 0
                have q2 := cell_of_block hblkz 2
                simp only [List.getElem?_toArray, List.getElem?_cons_zero, List.getElem?_cons_succ] at q0 q2
                clear hbZ hblkz HSI
                obtain ⟨HISV⟩ : ∃ _ : Hid (DoIs s s' ⟨what, cls, at_, cn, pg, p, len, cp⟩ res er), True := ⟨HIS, trivial⟩
                cases HISV.out with
                | giveYes h hr he ht =>
                  simp only at h ht
                  subst h hr he
                  have hm := HM.out.del ht
                  have HM2 := Lib.hid (And.intro hm (HY.out.keep HM.out HKP.out fun e he => ⟨(List.mem_filter.1 he).1, (hm.mem _).1 ⟨e, he, rfl⟩⟩))
                  obtain ⟨blk, hdel, hmap⟩ := run_delete_m und_bmap HTZ.out.map HM.out.nodup at_
                  have HT5 := Lib.hid (HTZ.out.wrote hmap)
                  simp only [List.length_nil]
                  clear hm ht hmap hw4 hw0 HIS HISV
                  go_wp2
                  generalize setBlock wZ mb blk = wD at *
                  go_loopw [16] (fun iv wq => iv = .int .i64 0 ∧ wD = wq) (fun _ _ => 0)
                  case atStart => exact ⟨rfl, rfl⟩
                  case round =>
                    obtain ⟨rfl, rfl⟩ := hrel
                    go_wp2
                    go_roundw
                    case rel => exact ⟨k + 1, Hx2, Hy2, s', _, hlt, by go_num, HT5.out, HM2.out.1, HM2.out.2⟩
                    case measure => simp [numOf]; omega
                | still he hl ht =>
                  have heb : (er == 0) = false := by simpa using he
                  have hm := HM.out.same ht
                  have HM2 := Lib.hid (And.intro hm (HY.out.keep HM.out HKP.out fun e he => ⟨he, (hm.mem _).1 ⟨e, he, rfl⟩⟩))
                  have HT5 := HTZ
                  clear hm ht hl HIS HISV
                  by_cases hw1 : what = 1
                  · subst hw1
                    clear hw4 hw0
                    go_wp2
                    go_loopw [16] (fun iv wq => iv = .int .i64 0 ∧ wZ = wq) (fun _ _ => 0)
                    case atStart => exact ⟨rfl, rfl⟩
                    case round =>
                      obtain ⟨rfl, rfl⟩ := hrel
                      by_cases hnl : (0 : Int) < (res.length : Int)
                      · go_wp2
                        go_roundw
                        case rel => exact ⟨k + 1, Hx2, Hy2, s', E, hlt, by go_num, HT5.out, HM2.out.1, HM2.out.2⟩
                        case measure => simp [numOf]; omega
                      · go_wp2
                        go_roundw
                        case rel => exact ⟨k + 1, Hx2, Hy2, s', E, hlt, by go_num, HT5.out, HM2.out.1, HM2.out.2⟩
                        case measure => simp [numOf]; omega
                  · have hw1b : (what == 1) = false := by simpa using hw1
                    go_wp2
                    go_loopw [16] (fun iv wq => iv = .int .i64 0 ∧ wZ = wq) (fun _ _ => 0)
                    case atStart => exact ⟨rfl, rfl⟩
                    case round =>
                      obtain ⟨rfl, rfl⟩ := hrel
                      by_cases hnl : (0 : Int) < (res.length : Int)
                      · go_wp2
                        go_roundw
                        case rel => exact ⟨k + 1, Hx2, Hy2, s', E, hlt, by go_num, HT5.out, HM2.out.1, HM2.out.2⟩
                        case measure => simp [numOf]; omega
                      · go_wp2
                        go_roundw
                        case rel => exact ⟨k + 1, Hx2, Hy2, s', E, hlt, by go_num, HT5.out, HM2.out.1, HM2.out.2⟩
                        case measure => simp [numOf]; omega
                | new h he hn hf ht h02 =>
                  simp only at h h02
                  subst he
                  have hw1b : (what == 1) = false := by simpa using h
                  have HN1 := Lib.hid hn
                  have HN2 := Lib.hid hf
                  have HN3 := Lib.hid ht
                  have HW02 := Lib.hid h02
                  have HY2 : Hid (BytesOk Hx2.bs E) := HY.out.keep HM.out HKP.out fun e he => ⟨he, (ht _).2 (.inl ((HM.out.mem _).1 ⟨e, he, rfl⟩))⟩
                  have HMB : Hid (mb < W1.heap.size) := HA1.out.map.lt
                  have HCB : Hid (Hx2.cb < W1.heap.size) := by
                    show _ < _
                    rw [hcbx]
                    exact lt_of_block HA1.out.qx.at_.heap.cells.bytes
                  clear hn hf ht h02 HIS HISV
                  go_wp2
                  go_loopw [16] (fun iv wq => ∃ (j : Nat) (Hx' : HL) (E' : List ME), j ≤ res.length ∧ iv = .int .i64 j ∧ TwoI w1 wq x Hx' y Hy2 pages s' mb (Value.int .u8) E' ∧ MapMid s res j E' ∧ BytesOk Hx'.bs E' ∧ wq.heap[wr.heap.size]? = some (.cells #[.int .i64 what, .int .i64 cls, .int .i64 at_, .int .i64 cn, .int .i64 pg, .slice p len cp] 30 (0, 0)) ∧ Ints wq W1.heap.size (.slice pX res.length cX) res ∧ Hx'.cb = Hx2.cb) (fun iv _ => res.length - numOf iv)
                  case atStart => exact ⟨0, Hx2, E, Nat.zero_le _, rfl, HTZ.out, MapMid.start HM.out res, HY2.out, HBLKZ.out, HINZ.out, rfl⟩
                  case round =>
                    rename World => wq
                    obtain ⟨j, Hx5, E5, hj, rfl, hA5, hMM, hY5, hbk5, hin5, hcb5⟩ := hrel
                    by_cases hlj : j < res.length
                    · have hj1 : (j : Int) < (res.length : Int) := by omega
                      have hq0 := cell_of_block hbk5 0
                      simp only [List.getElem?_toArray, List.getElem?_cons_zero, List.getElem?_cons_succ] at hq0
                      have HA5 := Lib.hid hA5
                      have HMM := Lib.hid hMM
                      have HY5 := Lib.hid hY5
                      have HBK5 := Lib.hid hbk5
                      have HIN5 := Lib.hid hin5
                      have HCB5 := Lib.hid hcb5
                      have HFQ : Hid (FillAt wq fv fl) := HF1.out.below hA5.qx.below
                      have hwd := HW02.out (by intro e; rw [e] at hlj; exact absurd hlj (Nat.not_lt_zero j))
                      clear hA5 hMM hY5 hbk5 hin5 hcb5 q0 q2
                      rcases hwd with rfl | rfl
                      · go_upto_region 22 with (fail)
                        rename_i KA hKA KB hKB
                        have HKA := Lib.hid hKA
                        clear hKA
                        go_wp2
                        refine HKA.out _ _ (bytes_fill HA5.out HMM.out HY5.out HN1.out HN2.out HN3.out hlj hrl (by omega) HIN5.out HMB.out (by rw [HCB5.out]; exact HCB.out) HBK5.out HFQ.out (fun c a w i v h => by cases i <;> exact h) ?_)
                        intro u17 u113 u114 u115 u116 u117 u118 u119 u120 u121 u122 u123 u124 u125 u126 u127 u128 u129 u130 u131 u132 u133 u134 u135 u136 u137 u138 u139 u140 u141 u142 u143 u144 u145 W Hx' E' z1 z2 z3 z4 z5 z6 z7
                        have HZ := Lib.hid (And.intro z1 (And.intro z2 (And.intro z3 (And.intro z4 (And.intro z5 (z7.trans HCB5.out))))))
                        clear z1 z2 z3 z4 z5 z6 z7
                        dsimp only
                        go_wp2
                        go_roundw
                        case rel => exact ⟨j + 1, Hx', E', hlj, by go_num, HZ.out⟩
                        case measure => simp [numOf]; omega
                      · go_upto_region 22 with (fail)
                        rename_i KA hKA KB hKB
                        have HKA := Lib.hid hKA
                        clear hKA
                        go_wp2
                        refine HKA.out _ _ (bytes_fill HA5.out HMM.out HY5.out HN1.out HN2.out HN3.out hlj hrl (by omega) HIN5.out HMB.out (by rw [HCB5.out]; exact HCB.out) HBK5.out HFQ.out (fun c a w i v h => by cases i <;> exact h) ?_)
                        intro u17 u113 u114 u115 u116 u117 u118 u119 u120 u121 u122 u123 u124 u125 u126 u127 u128 u129 u130 u131 u132 u133 u134 u135 u136 u137 u138 u139 u140 u141 u142 u143 u144 u145 W Hx' E' z1 z2 z3 z4 z5 z6 z7
                        have HZ := Lib.hid (And.intro z1 (And.intro z2 (And.intro z3 (And.intro z4 (And.intro z5 (z7.trans HCB5.out))))))
                        clear z1 z2 z3 z4 z5 z6 z7
                        dsimp only
                        go_wp2
                        go_roundw
                        case rel => exact ⟨j + 1, Hx', E', hlj, by go_num, HZ.out⟩
                        case measure => simp [numOf]; omega
                    · obtain rfl : j = res.length := by omega
                      have HM6 : Hid (MapOk s' E5) := hMM.fin HN3.out
                      have HA6 := Lib.hid hA5
                      have HY6 := Lib.hid hY5
                      clear hA5 hMM hY5 hbk5 hin5 hcb5
                      go_wp2
                      go_roundw
                      case rel => exact ⟨k + 1, Hx5, Hy2, s', E5, hlt, by go_num, HA6.out, HM6.out, HY6.out⟩
                      case measure => simp [numOf]; omega
          · obtain rfl : k = cs.length := by omega
            clear hA hM hY
            go_wp2
            refine HK0.out _ _ ?_
            exact bytes_end HB1.out HA.out HM.out HY.out

end Go.Proofs.YtlljejmblmjjnaaGreat
