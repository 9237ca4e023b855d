/- again, as the reference has it. -/
import Derived.Test.YtgcnbiccekaffaaGreatXl
namespace Go.Proofs.YtgcnbiccekaffaaGreat
open Go.RowKit Go.ChangeMaps

theorem at_ne {A : AM} (hI : Inv A) {i j : Nat} (hi : i < A.blocks.length) (hj : j < A.blocks.length) (hji : j ≠ i) : A.blocks[j].at_ ≠ A.blocks[i].at_ := fun he => by
  have hs : Sorted A.blocks := hI.sorted
  unfold Sorted at hs
  rcases Nat.lt_or_gt_of_ne hji with h | h
  · have := List.pairwise_iff_getElem.1 hs j i hj hi h
    have := (hI.lo _ (List.getElem_mem hj))
    omega
  · have := List.pairwise_iff_getElem.1 hs i j hi hj h
    have := (hI.lo _ (List.getElem_mem hi))
    omega

theorem updB_set {A : AM} (hI : Inv A) {i : Nat} (hi : i < A.blocks.length) (b' : Blk) : updB A.blocks[i].at_ b' A.blocks = A.blocks.set i b' := by
  apply List.ext_getElem
  · simp [updB]
  · intro j h1 h2
    have hj : j < A.blocks.length := by simpa [updB] using h1
    have e : (updB A.blocks[i].at_ b' A.blocks)[j] = if A.blocks[j].at_ = A.blocks[i].at_ then b' else A.blocks[j] := by simp [updB]
    rw [e, List.getElem_set]
    by_cases hji : i = j
    · subst hji
      simp
    · rw [if_neg (at_ne hI hi hj (Ne.symm hji)), if_neg hji]

theorem rowV_set (l : List Blk) {i : Nat} (hi : i < l.length) (s : Int) : rowV (l.set i { l[i] with size := s }) = (rowV l).set (i * 3 + 2) (.int .i64 s) := by
  have e : l = l.take i ++ l[i] :: l.drop (i + 1) := by simp
  have e1 : rowV l = rowV (l.take i) ++ (blkV l[i] ++ rowV (l.drop (i + 1))) := by
    conv => lhs; rw [e]
    rw [rowV_append]
    rfl
  have e2 : l.set i { l[i] with size := s } = l.take i ++ { l[i] with size := s } :: l.drop (i + 1) := by
    rw [List.set_eq_take_append_cons_drop, if_pos hi]
  have hl : (rowV (l.take i)).length = i * 3 := by rw [rowV_length, List.length_take, Nat.min_eq_left (by omega)]
  rw [e1, e2, rowV_append, List.set_append, if_neg (by rw [hl]; omega), hl, List.set_append, if_pos (by simp [blkV]), show i * 3 + 2 - i * 3 = 2 from by omega]
  rfl

/-- A live block's size was written. -/
theorem ref_size {F : Nat → Prop} {w : World} {m gy cy g cb : Nat} {A : AM} {bs : List Int} {i : Nat} (hi : i < A.blocks.length) (s : Int) (h : RefAt F w m A (.slice (some ⟨g, 0, none⟩) A.blocks.length cb) gy cy bs) (hI : Inv A) (hB : ∀ k, w.heap.size ≤ k → F k) :
    RefX F (w.setCell ⟨g, i * 3 + 2, none⟩ (.int .i64 s)) m (applyC A (.upd A.blocks[i].at_ { A.blocks[i] with size := s })) ∧ Tn F w (w.setCell ⟨g, i * 3 + 2, none⟩ (.int .i64 s)) := by
  obtain ⟨g', cap, cur, hv, hg1, hg2, hg3, hg4, hg5, hg6⟩ : ∃ g' cap cur, Value.slice (some ⟨g, 0, none⟩) A.blocks.length cb = .slice (some ⟨g', 0, none⟩) A.blocks.length cap ∧ 0 ≤ g' ∧ w.heap[g']? = some (.cells cur 54 (0, 0)) ∧ A.blocks.length ≤ cap ∧ cap ≤ maxLen ∧ cur.size = cap * 3 ∧ cur.toList.take (A.blocks.length * 3) = rowV A.blocks := by
    rcases h.rows.2 with ⟨_, h1⟩ | h1
    · omega
    · exact h1
  simp only [Value.slice.injEq, Option.some.injEq, Addr.mk.injEq, and_true, true_and] at hv
  obtain ⟨rfl, rfl⟩ := hv
  have hm : m ≠ g := fun e => by
    have := h.model
    rw [e, hg2] at this
    simp at this
  have hy : gy ≠ g := fun e => by
    have := h.bytes
    rw [e, hg2] at this
    simp at this
  have hset : updB A.blocks[i].at_ { A.blocks[i] with size := s } A.blocks = A.blocks.set i { A.blocks[i] with size := s } := updB_set hI hi _
  refine ⟨⟨.slice (some ⟨g, 0, none⟩) A.blocks.length cb, gy, cy, bs, ?_, ?_, h.own, ?_, ?_, h.lo, h.cap⟩, Tn.setCell (tof (F := F) (Below.refl _ _)) (p := ⟨g, i * 3 + 2, none⟩) (h.own g rfl) _⟩
  · rw [Below.heap_setCell _ _ _ _ hm]
    exact h.model
  · show (w.setCell _ _).ownsRow 0 _ 3 _ (updB _ _ A.blocks).length (rowV (updB _ _ A.blocks))
    rw [hset, rowV_set _ hi, List.length_set]
    refine ⟨by rw [List.length_set]; exact h.rows.1, .inr ⟨g, cb, cur.setIfInBounds (i * 3 + 2) (.int .i64 s), rfl, hg1, heap_setCell_eq hg2 _, hg3, hg4, by simpa using hg5, ?_⟩⟩
    rw [Array.toList_setIfInBounds, List.take_set, hg6]
  · rw [Below.heap_setCell _ _ _ _ hy]
    exact h.bytes
  · refine ⟨h.of.1, fun b hb k hk => ?_⟩
    have hb' : b ∈ A.blocks.set i { A.blocks[i] with size := s } := by rw [← hset]; exact hb
    rcases List.mem_or_eq_of_mem_set hb' with hb' | rfl
    · exact h.of.2 b hb' k hk
    · exact h.of.2 A.blocks[i] (List.getElem_mem hi) k hk

theorem rowV_insB {b1 b2 : Blk} (h1 : b1.at_ = b2.at_) (h2 : b1.n = b2.n) (h3 : b1.size = b2.size) : ∀ l : List Blk, rowV (insB b1 l) = rowV (insB b2 l) ∧ (insB b1 l).length = (insB b2 l).length
  | [] => by simp [insB, rowV, blkV, h1, h2, h3]
  | x :: l => by
    have ih := rowV_insB h1 h2 h3 l
    unfold insB
    rw [h1]
    split
    · simp [rowV, blkV, h1, h2, h3]
    · refine ⟨?_, by simp [ih.2]⟩
      show blkV x ++ rowV (insB b1 l) = blkV x ++ rowV (insB b2 l)
      rw [ih.1]

/-- Bytes were turned: blocks lie as they did. -/
theorem ref_bytes {F : Nat → Prop} {w wr : World} {m gy cy : Nat} {A A' : AM} {bs bs' : List Int} {vb : Value} (h : RefAt F w m A vb gy cy bs) (hT : Turned (fun j => j = gy) w wr) (hy : wr.heap[gy]? = some (.cells (intsC bs') 3 (0, 0)))
    (hl : bs'.length = bs.length) (hA : A'.bytes = A.bytes) (hr : rowV A'.blocks = rowV A.blocks) (hn : A'.blocks.length = A.blocks.length) (hof : BytesOf A' bs') (hB : ∀ k, w.heap.size ≤ k → F k) : RefX F wr m A' ∧ Tn F w wr := by
  have hne : m ≠ gy := fun e => by
    have hm := h.model
    rw [e, h.bytes] at hm
    simp at hm
  refine ⟨⟨vb, gy, cy, bs', ⟨?_, ?_, h.own, hy, hof, h.lo, by rw [hA]; exact h.cap⟩⟩, Turned.mono hT (fun x hx _ => by rw [hx]; exact h.lo.2)⟩
  · rw [hl]
    exact (hT.block _ (lt_of_block h.model) hne).trans h.model
  · rw [hr, hn]
    have hr := h.rows
    rcases hr.2 with ⟨h1, h2⟩ | ⟨g, cap, cur, h1, h2, h3, h4⟩
    · exact ⟨hr.1, .inl ⟨h1, h2⟩⟩
    · refine ⟨hr.1, .inr ⟨g, cap, cur, h1, h2, ?_, h4⟩⟩
      have hg : g ≠ gy := fun e => by
        rw [e, h.bytes] at h3
        simp at h3
      exact (hT.block g (lt_of_block h3) hg).trans h3

/-- The bytes behind a move. -/
theorem bytes_move {A : AM} (hI : Inv A) {bs : List Int} {b : Blk} (hB : BytesOf A bs) (hb : b ∈ A.blocks) {xa nn : Nat} {s : Int} (hfit : (xa : Int) + nn ≤ A.bytes) (hap : ∀ y ∈ A.blocks, meetB xa nn y = false) :
    BytesOf (applyC A (.move b.at_ ⟨xa, nn, s, grownC b.cells nn⟩)) (putR (setR bs xa nn (-1)) xa (((bs.drop b.at_.toNat).take b.n).take (min b.n nn))) := by
  obtain ⟨hlen, hbs⟩ := hB
  obtain ⟨l1, l2, l3, _⟩ := hI.lo b hb
  have hk := (hI.known b hb).1
  have hf1 : xa + nn ≤ bs.length := by omega
  have hol : (((bs.drop b.at_.toNat).take b.n).take (min b.n nn)).length = min b.n nn := by simp only [List.length_take, List.length_drop]; omega
  have hsl := setR_length bs xa nn (-1) hf1
  have hf2 : xa + (((bs.drop b.at_.toNat).take b.n).take (min b.n nn)).length ≤ (setR bs xa nn (-1)).length := by rw [hol, hsl]; omega
  refine ⟨by rw [putR_length _ _ _ hf2, hsl]; exact hlen, fun y hy k hyk => ?_⟩
  have hy' : y ∈ insB ⟨xa, nn, s, grownC b.cells nn⟩ (dropB b.at_ A.blocks) := hy
  rw [List.getD_eq_getElem?_getD, putR_get _ _ _ hf2, hol]
  rcases mem_insB.1 hy' with rfl | hy'
  · have hkn : k < nn := hyk
    show Option.getD (if xa ≤ (xa : Int).toNat + k ∧ (xa : Int).toNat + k < xa + min b.n nn then (((bs.drop b.at_.toNat).take b.n).take (min b.n nn))[(xa : Int).toNat + k - xa]? else (setR bs xa nn (-1))[(xa : Int).toNat + k]?) 0 = codeB ((grownC b.cells nn).getD k none)
    rw [Int.toNat_natCast, setR_get _ _ _ _ hf1, show xa + k - xa = k from by omega]
    have hgl : (b.cells.take nn).length = min nn b.n := by rw [List.length_take, hk]
    by_cases hkb : k < b.n
    · have hh := hbs b hb k hkb
      rw [List.getD_eq_getElem?_getD] at hh
      rw [if_pos (by omega), List.getElem?_take, if_pos (by omega), List.getElem?_take, if_pos hkb, List.getElem?_drop, hh]
      unfold grownC
      rw [List.getD_eq_getElem?_getD, List.getD_eq_getElem?_getD, List.getElem?_append_left (by omega), List.getElem?_take, if_pos hkn]
    · rw [if_neg (by omega), if_pos (by omega)]
      unfold grownC
      rw [List.getD_eq_getElem?_getD, List.getElem?_append_right (by omega), List.getElem?_replicate]
      split <;> rfl
  · have hyA : y ∈ A.blocks := (List.mem_filter.1 (show y ∈ A.blocks.filter _ from hy')).1
    have hm := hap y hyA
    obtain ⟨m1, m2, m3, _⟩ := hI.lo y hyA
    unfold meetB at hm
    have hm' := of_decide_eq_false hm
    rw [if_neg (by omega), setR_get _ _ _ _ hf1, if_neg (by omega), ← List.getD_eq_getElem?_getD]
    exact hbs y hyA k hyk

theorem rows_frozen {F : Nat → Prop} {w : World} {m gy cy g cb : Nat} {A : AM} {bs : List Int} {i : Nat} (h : RefAt F w m A (.slice (some ⟨g, 0, none⟩) A.blocks.length cb) gy cy bs) (hi : i < A.blocks.length) (k : Nat) : w.frozen? ⟨g, k, none⟩ = false := by
  obtain ⟨g', cap, cur, hv, hg1, hg2, _⟩ : ∃ g' cap cur, Value.slice (some ⟨g, 0, none⟩) A.blocks.length cb = .slice (some ⟨g', 0, none⟩) A.blocks.length cap ∧ 0 ≤ g' ∧ w.heap[g']? = some (.cells cur 54 (0, 0)) ∧ A.blocks.length ≤ cap ∧ cap ≤ maxLen ∧ cur.size = cap * 3 ∧ cur.toList.take (A.blocks.length * 3) = rowV A.blocks := by
    rcases h.rows.2 with ⟨_, h1⟩ | h1
    · omega
    · exact h1
  simp only [Value.slice.injEq, Option.some.injEq, Addr.mk.injEq, and_true, true_and] at hv
  obtain ⟨rfl, rfl⟩ := hv
  exact frozen_of_row _ _ _ _ _ hg2

set_option maxRecDepth 100000 in
set_option maxHeartbeats 1500000 in
theorem againR_any {F : Nat → Prop} {w : World} {m : Nat} {A : AM} (h : RefX F w m A) (hI : Inv A) (i : Nat) (hi : i < A.blocks.length) (o : OpA) (x : AnsA) (ho : OpOk o) (p1 p2 : Option Addr) (q1 q2 : Nat) (hB : ∀ k, w.heap.size ≤ k → F k) :
    Calls Tryz.prog 53 #[.pointer (some ⟨m, 0, none⟩), .int .i64 i, .agg (opR o p1 q1), .agg (ansR x p2 q2)] w (RefDone F w m A (againA A A.blocks[i] o x)) := by
  obtain ⟨i0, hi0, hz0, hz1, hz2⟩ := info_parts info_int0
  obtain ⟨vb, gy, cy, bs, hat⟩ := h
  obtain ⟨pb, cb, rfl, hrows⟩ := rowsAt_own hat.rows
  obtain ⟨g, hg, y0, y1, y2⟩ := hrows i hi
  subst hg
  have hcm : w.cell? ⟨m, 0, none⟩ = some (.slice (some ⟨g, 0, none⟩) A.blocks.length cb) := by rw [cell_of_block hat.model]; rfl
  have lm := cell_lt hcm
  have lg := cell_lt y0
  have hask := askedR_any 0 o.a 0 0 0 0 none 0 0
  have HASK := Lib.hid (fun W => hask W ho.a0 ho.a1 (by omega) (by omega))
  have HA0 : Hid (askedF 0 o.a 0 = ((ofF o.a).1, 1, (ofF o.a).2)) := asked_other (by decide) (by decide)
  have hlo := hI.lo _ (List.getElem_mem hi)
  have hb1 := hI.b1
  have hszlo := ofF_lo o.a ho.a0
  have HO := Lib.hid ho
  have HAT := Lib.hid hat
  have HI := Lib.hid hI
  have hi2 : (i : Int) < A.blocks.length := by omega
  have hmem := List.getElem_mem hi
  have HREFS := Lib.hid (fun (W : World) (s : Int) (hh : RefAt F W m A (.slice (some ⟨g, 0, none⟩) A.blocks.length cb) gy cy bs) (hBW : ∀ k, W.heap.size ≤ k → F k) => ref_size hi s hh hI hBW)
  have HDROP := Lib.hid (fun (W : World) (hh : RefAt F W m A (.slice (some ⟨g, 0, none⟩) A.blocks.length cb) gy cy bs) (hBW : ∀ k, W.heap.size ≤ k → F k) => dropR_at hh hI i hi hBW)
  clear hask ho hat hI hrows
  unfold opR ansR
  generalize hbd : A.blocks[i] = b at *
  have HBD := Lib.hid hbd
  have HMEM := Lib.hid hmem
  clear hbd hmem
  obtain ⟨W0, hW0⟩ : ∃ W0, W0 = ((w.alloc (.cells #[.int .i64 o.k, .int .u64 o.a, .int .u64 o.b, .int .i64 o.at_, .int .i64 o.fr, .int .i64 o.n, .slice p1 o.data.length q1] 43)).alloc (.cells #[.int .i64 x.err, .int .i64 x.at_, .int .i64 x.n, .int .i64 x.count, .slice p2 x.data.length q2] 45)).alloc (.cells #[.int .i64 b.at_, .int .i64 b.n, .int .i64 b.size] 54) := ⟨_, rfl⟩
  have hb0 : Below w.heap.size w W0 := by rw [hW0]; exact (by repeat (first | exact Below.refl _ _ | assumption | refine Below.alloc ?_ (by first | omega | (simp <;> omega)) _ | refine Below.drew ?_ | refine Below.setCell ?_ (by first | omega | (simp <;> omega)) _ | refine Below.via (by assumption) (by first | omega | (simp <;> omega)) ?_))
  have r0 : W0.cell? ⟨w.heap.size + 1, 0, none⟩ = some (.int .i64 x.err) := by rw [hW0]; simp [go_sem]
  have r1 : W0.cell? ⟨w.heap.size + 1, 1, none⟩ = some (.int .i64 x.at_) := by rw [hW0]; simp [go_sem]
  have r2 : W0.cell? ⟨w.heap.size + 1, 2, none⟩ = some (.int .i64 x.n) := by rw [hW0]; simp [go_sem]
  have r3 : W0.cell? ⟨w.heap.size + 1, 3, none⟩ = some (.int .i64 x.count) := by rw [hW0]; simp [go_sem]
  have r4 : W0.cell? ⟨w.heap.size + 1, 4, none⟩ = some (.slice p2 x.data.length q2) := by rw [hW0]; simp [go_sem]
  have s0 : W0.cell? ⟨w.heap.size + 1 + 1, 0, none⟩ = some (.int .i64 b.at_) := by rw [hW0]; simp [go_sem]
  have s1 : W0.cell? ⟨w.heap.size + 1 + 1, 1, none⟩ = some (.int .i64 b.n) := by rw [hW0]; simp [go_sem]
  have HW0 := Lib.hid hW0
  have HB0 := Lib.hid hb0
  clear hW0 hb0
  have HEND : Hid (∀ (W : World) (c : Bool), RefAt F W m A (.slice (some ⟨g, 0, none⟩) A.blocks.length cb) gy cy bs → Below w.heap.size w W → RefX F W m (if c = true then applyC A .keep else A) ∧ Tn F w W) := fun W c hh hbb => ⟨by rw [show applyC A .keep = A from rfl, ite_self]; exact ⟨_, _, _, _, hh⟩, tof (F := F) hbb⟩
  cases he : ((ofF o.a).2 != 0)
  · have HE0 : Hid ((askedF 0 o.a 0).2.2 = 0) := by show _ = _; rw [HA0.out]; simpa using he
    have hbare : bareA x 13 = bareB x.err x.at_ x.n x.count 13 x.data.length := rfl
    have hag : againA A b o x = if bareB x.err x.at_ x.n x.count 13 x.data.length = true then (.keep, true) else if (x.at_ == b.at_) = true then (.upd b.at_ { b with size := (ofF o.a).1 }, onlyA x 0 b.at_ b.n 0 && decide ((ofF o.a).1 ≤ b.n)) else (.move b.at_ ⟨x.at_, x.n.toNat, (ofF o.a).1, grownC b.cells x.n.toNat⟩, placedB x.err x.count x.data.length && placeR A x.at_ x.n (ofF o.a).1 1) := by
      unfold againA
      rw [if_neg (by rw [he]; decide), hbare]
      unfold placeA
      rw [placeB_eq]
    rw [hag]
    have HHE := Lib.hid he
    clear hag hbare
    generalize hsz : (ofF o.a).1 = sz at *
    have HSZ := Lib.hid hsz
    clear hsz
    cases h13 : bareB x.err x.at_ x.n x.count 13 x.data.length
    · rw [if_neg (by decide)]
      cases hp : placedB x.err x.count x.data.length
      · have hno : (if (x.at_ == b.at_) = true then ((.upd b.at_ { b with size := sz }, onlyA x 0 b.at_ b.n 0 && decide (sz ≤ b.n)) : Chg × Bool) else (.move b.at_ ⟨x.at_, x.n.toNat, sz, grownC b.cells x.n.toNat⟩, false && placeR A x.at_ x.n sz 1)).2 = false := by
          have hon : onlyA x 0 b.at_ b.n 0 = false := by
            rw [Bool.eq_false_iff]
            intro hh
            unfold onlyA onlyB at hh
            simp only [Bool.and_eq_true] at hh
            unfold placedB at hp
            rw [hh.1.1, hh.1.2.2.2, hh.2] at hp
            cases hp
          split
          · rw [hon]; rfl
          · rfl
        generalize (if (x.at_ == b.at_) = true then ((.upd b.at_ { b with size := sz }, onlyA x 0 b.at_ b.n 0 && decide (sz ≤ b.n)) : Chg × Bool) else (.move b.at_ ⟨x.at_, x.n.toNat, sz, grownC b.cells x.n.toNat⟩, false && placeR A x.at_ x.n sz 1)) = cc at *
        have HNO := Lib.hid hno
        clear hno
        (go_enter Tryz.func53, Tryz.ntmps53; go_wp2_with (fail); rw [← HW0.out]; refine (HASK.out _).mono ?_; rintro e W1 ⟨vx, vy, rfl, hxy, hb1⟩; obtain ⟨rfl, rfl⟩ := hxy HE0.out; rw [HA0.out] at hxy ⊢; clear hxy; (have HAT1 := Lib.hid (HAT.out.below (HB0.out.trans (hb1.mono HB0.out.size))); have HB1 := Lib.hid (HB0.out.trans (hb1.mono HB0.out.size)); have r0' := cell_past hb1 (cell_lt r0) r0; have r1' := cell_past hb1 (cell_lt r1) r1; have r2' := cell_past hb1 (cell_lt r2) r2; have r3' := cell_past hb1 (cell_lt r3) r3; have r4' := cell_past hb1 (cell_lt r4) r4; have s0' := cell_past hb1 (cell_lt s0) s0; have s1' := cell_past hb1 (cell_lt s1) s1; clear hb1 r0 r1 r2 r3 r4 s0 s1); go_wp2_with (fail); refine (bareR_any _ _ _ _ _ _ _ _ _).mono ?_; rintro e W2 ⟨rfl, hb2⟩; rw [h13]; (have HAT2 := Lib.hid (HAT1.out.below hb2); have HB2 := Lib.hid (HB1.out.trans (hb2.mono HB1.out.size)); have r0'' := cell_past hb2 (cell_lt r0') r0'; have r1'' := cell_past hb2 (cell_lt r1') r1'; have r2'' := cell_past hb2 (cell_lt r2') r2'; have r3'' := cell_past hb2 (cell_lt r3') r3'; have r4'' := cell_past hb2 (cell_lt r4') r4'; have s0'' := cell_past hb2 (cell_lt s0') s0'; have s1'' := cell_past hb2 (cell_lt s1') s1'; clear hb2 r0' r1' r2' r3' r4' s0' s1'))
        go_wp2_with (fail)
        refine (placedR_any _ _ _ _ _ _ _ _).mono ?_
        rintro e W3 ⟨rfl, hb3⟩
        rw [hp]
        have HAT3 := Lib.hid (HAT2.out.below hb3)
        have HB3 := Lib.hid (HB2.out.trans (hb3.mono HB2.out.size))
        clear hb3
        go_wp2
        go_ret
        refine ⟨by rw [HNO.out]; rfl, ?_, tof (F := F) HB3.out⟩
        rw [HNO.out]
        exact ⟨_, _, _, _, HAT3.out⟩
      · cases hae : (x.at_ == b.at_)
        · rw [if_neg (by decide), Bool.true_and]
          cases hq : placeR A x.at_ x.n sz 1
          · (go_enter Tryz.func53, Tryz.ntmps53; go_wp2_with (fail); rw [← HW0.out]; refine (HASK.out _).mono ?_; rintro e W1 ⟨vx, vy, rfl, hxy, hb1⟩; obtain ⟨rfl, rfl⟩ := hxy HE0.out; rw [HA0.out] at hxy ⊢; clear hxy; (have HAT1 := Lib.hid (HAT.out.below (HB0.out.trans (hb1.mono HB0.out.size))); have HB1 := Lib.hid (HB0.out.trans (hb1.mono HB0.out.size)); have r0' := cell_past hb1 (cell_lt r0) r0; have r1' := cell_past hb1 (cell_lt r1) r1; have r2' := cell_past hb1 (cell_lt r2) r2; have r3' := cell_past hb1 (cell_lt r3) r3; have r4' := cell_past hb1 (cell_lt r4) r4; have s0' := cell_past hb1 (cell_lt s0) s0; have s1' := cell_past hb1 (cell_lt s1) s1; clear hb1 r0 r1 r2 r3 r4 s0 s1); go_wp2_with (fail); refine (bareR_any _ _ _ _ _ _ _ _ _).mono ?_; rintro e W2 ⟨rfl, hb2⟩; rw [h13]; (have HAT2 := Lib.hid (HAT1.out.below hb2); have HB2 := Lib.hid (HB1.out.trans (hb2.mono HB1.out.size)); have r0'' := cell_past hb2 (cell_lt r0') r0'; have r1'' := cell_past hb2 (cell_lt r1') r1'; have r2'' := cell_past hb2 (cell_lt r2') r2'; have r3'' := cell_past hb2 (cell_lt r3') r3'; have r4'' := cell_past hb2 (cell_lt r4') r4'; have s0'' := cell_past hb2 (cell_lt s0') s0'; have s1'' := cell_past hb2 (cell_lt s1') s1'; clear hb2 r0' r1' r2' r3' r4' s0' s1'))
            (go_wp2_with (fail); refine (placedR_any _ _ _ _ _ _ _ _).mono ?_; rintro e W3 ⟨rfl, hb3⟩; rw [hp]; have HAT3 := Lib.hid (HAT2.out.below hb3); have HB3 := Lib.hid (HB2.out.trans (hb3.mono HB2.out.size)); have u1 := cell_past hb3 (cell_lt r1'') r1''; have u2 := cell_past hb3 (cell_lt r2'') r2''; have t0 := cell_past hb3 (cell_lt s0'') s0''; have t1 := cell_past hb3 (cell_lt s1'') s1''; clear hb3 r0'' r1'' r2'' r3'' r4'' s0'' s1'')
            go_wp2_with (fail)
            refine (placeR_any ⟨_, _, _, _, HAT3.out⟩ HI.out _ _ _ _ (by omega) (by omega)).mono ?_
            rintro e W4 ⟨rfl, hb4⟩
            rw [hq]
            have HAT4 := Lib.hid (HAT3.out.below hb4)
            have HB4 := Lib.hid (HB3.out.trans (hb4.mono HB3.out.size))
            clear hb4
            go_wp2
            go_ret
            exact ⟨rfl, HEND.out _ false HAT4.out HB4.out⟩
          · have hspec : (0 ≤ x.at_ ∧ 1 ≤ x.n ∧ x.at_ ≤ A.bytes ∧ x.n ≤ A.bytes - x.at_) ∧ ∀ y ∈ A.blocks, meetB x.at_ x.n y = false := by
              have hh := hq
              unfold placeR apartB inB at hh
              simp only [Bool.and_eq_true, beq_iff_eq] at hh
              refine ⟨of_decide_eq_true hh.2.2.2.1, fun y hy => ?_⟩
              have := List.all_eq_true.1 hh.2.2.2.2 y hy
              simpa using this
            obtain ⟨hin, hap⟩ := hspec
            have hbl := HAT.out.of.1
            have hcap := HAT.out.cap
            have hne : m ≠ gy := fun e => by
              have hm := HAT.out.model
              rw [e, HAT.out.bytes] at hm
              simp at hm
            have HNE := Lib.hid hne
            have HMV := Lib.hid (fun (xa nn : Nat) (hf : (xa : Int) + nn ≤ A.bytes) (hh : ∀ y ∈ A.blocks, meetB xa nn y = false) => bytes_move (s := sz) HI.out HAT.out.of HMEM.out hf hh)
            have HINV : Hid (Inv (applyC A (.drop b.at_))) := HI.out.drop b.at_
            have hcm1 : w.cell? ⟨m, 1, none⟩ = some (.slice (some ⟨gy, 0, none⟩) bs.length cy) := by rw [cell_of_block HAT.out.model]; rfl
            clear hne
            generalize hba : b.at_ = ba at *
            generalize hxa : x.at_ = xa at *
            generalize hxn : x.n = xn at *
            obtain ⟨a, rfl⟩ := Int.eq_ofNat_of_zero_le hlo.1
            obtain ⟨xa, rfl⟩ := Int.eq_ofNat_of_zero_le hin.1
            obtain ⟨nn, rfl⟩ := Int.eq_ofNat_of_zero_le (show 0 ≤ xn by omega)
            simp only [Int.toNat_natCast] at HMV ⊢
            have HAP := Lib.hid hap
            have HBA := Lib.hid hba
            have HXA := Lib.hid hxa
            have HXN := Lib.hid hxn
            clear hap hba hxa hxn
            have hfit : a + b.n ≤ bs.length := by omega
            have hbsl : bs.length ≤ 1048576 := by omega
            have hcy : a < cy := by omega
            have hcy2 : a + b.n ≤ cy := by omega
            have hsum : IntKind.i64.wrap ((a : Int) + b.n) = (a : Int) + b.n := by rw [IntKind.wrap_i64]; omega
            have hidx : (0 : Int) ≤ a ∧ (a : Int) ≤ (a : Int) + b.n ∧ (a : Int) + b.n ≤ cy := by omega
            (go_enter Tryz.func53, Tryz.ntmps53; go_wp2_with (fail); rw [← HW0.out]; refine (HASK.out _).mono ?_; rintro e W1 ⟨vx, vy, rfl, hxy, hb1⟩; obtain ⟨rfl, rfl⟩ := hxy HE0.out; rw [HA0.out] at hxy ⊢; clear hxy; (have HAT1 := Lib.hid (HAT.out.below (HB0.out.trans (hb1.mono HB0.out.size))); have HB1 := Lib.hid (HB0.out.trans (hb1.mono HB0.out.size)); have r0' := cell_past hb1 (cell_lt r0) r0; have r1' := cell_past hb1 (cell_lt r1) r1; have r2' := cell_past hb1 (cell_lt r2) r2; have r3' := cell_past hb1 (cell_lt r3) r3; have r4' := cell_past hb1 (cell_lt r4) r4; have s0' := cell_past hb1 (cell_lt s0) s0; have s1' := cell_past hb1 (cell_lt s1) s1; clear hb1 r0 r1 r2 r3 r4 s0 s1); go_wp2_with (fail); refine (bareR_any _ _ _ _ _ _ _ _ _).mono ?_; rintro e W2 ⟨rfl, hb2⟩; rw [h13]; (have HAT2 := Lib.hid (HAT1.out.below hb2); have HB2 := Lib.hid (HB1.out.trans (hb2.mono HB1.out.size)); have r0'' := cell_past hb2 (cell_lt r0') r0'; have r1'' := cell_past hb2 (cell_lt r1') r1'; have r2'' := cell_past hb2 (cell_lt r2') r2'; have r3'' := cell_past hb2 (cell_lt r3') r3'; have r4'' := cell_past hb2 (cell_lt r4') r4'; have s0'' := cell_past hb2 (cell_lt s0') s0'; have s1'' := cell_past hb2 (cell_lt s1') s1'; clear hb2 r0' r1' r2' r3' r4' s0' s1'))
            (go_wp2_with (fail); refine (placedR_any _ _ _ _ _ _ _ _).mono ?_; rintro e W3 ⟨rfl, hb3⟩; rw [hp]; have HAT3 := Lib.hid (HAT2.out.below hb3); have HB3 := Lib.hid (HB2.out.trans (hb3.mono HB2.out.size)); have u1 := cell_past hb3 (cell_lt r1'') r1''; have u2 := cell_past hb3 (cell_lt r2'') r2''; have t0 := cell_past hb3 (cell_lt s0'') s0''; have t1 := cell_past hb3 (cell_lt s1'') s1''; clear hb3 r0'' r1'' r2'' r3'' r4'' s0'' s1'')
            go_wp2_with (fail)
            refine (placeR_any ⟨_, _, _, _, HAT3.out⟩ HI.out _ _ _ _ (by omega) (by omega)).mono ?_
            rintro e W4 ⟨rfl, hb4⟩
            rw [hq]
            have HAT4 := Lib.hid (HAT3.out.below hb4)
            have HB4 := Lib.hid (HB3.out.trans (hb4.mono HB3.out.size))
            have v1 := cell_past hb4 (cell_lt u1) u1
            have v2 := cell_past hb4 (cell_lt u2) u2
            have pp0 := cell_past hb4 (cell_lt t0) t0
            have pp1 := cell_past hb4 (cell_lt t1) t1
            have zm := cell_past HB4.out lm hcm1
            clear hb4 u1 u2 t0 t1
            have hmade : (W4.drew.alloc (.cells #[] 3)).ownsRow W4.heap.size 3 1 (.slice (some ⟨W4.heap.size, 0, none⟩) 0 0) 0 [] := World.ownsRow_made W4.drew #[] 0 (Nat.le_refl _) (Nat.zero_le _) rfl
            have hnews : ∀ (j : Nat) (u : Value), (((bs.drop a).take b.n).map (Value.int .i64))[j]? = some u → (W4.drew.alloc (.cells #[] 3)).cell? ((⟨gy, a, none⟩ : Addr).add j) = some u := fun j u hu => by
              have hgy := lt_of_block HAT4.out.bytes
              have ha : (⟨gy, a, none⟩ : Addr).add j = ⟨gy, a + j, none⟩ := by unfold Addr.add; split <;> simp_all
              have h1 : W4.drew.cell? ⟨gy, a + j, none⟩ = W4.cell? ⟨gy, a + j, none⟩ := rfl
              rw [ha, World.cell?_alloc_past _ _ _ (show (⟨gy, a + j, none⟩ : Addr).block < W4.drew.heap.size from hgy), h1, cell_of_block HAT4.out.bytes, intsC, List.getElem?_toArray, List.getElem?_map, ← hu, List.getElem?_map]
              have hj := (List.getElem?_eq_some_iff.1 hu).1
              rw [List.length_map, List.length_take, List.length_drop] at hj
              rw [List.getElem?_take, if_pos (by omega), List.getElem?_drop]
            have HM := Lib.hid hmade
            have HNW := Lib.hid hnews
            have HLN : Hid ((((bs.drop a).take b.n).map (Value.int .i64)).length = b.n * 1) := by show _ = _; simp only [List.length_map, List.length_take, List.length_drop]; omega
            have HON : Hid (∀ u ∈ ((bs.drop a).take b.n).map (Value.int .i64), u.oneCell' = true) := fun u hu => by
              obtain ⟨v, _, rfl⟩ := List.mem_map.1 hu
              rfl
            clear hmade hnews
            have lm4 : m < W4.heap.size := cell_lt zm
            have ls4 : w.heap.size + 1 + 1 < W4.heap.size := cell_lt pp0
            have lx4 : w.heap.size + 1 < W4.heap.size := cell_lt v1
            have hcn : cy ≠ a := by omega
            have hla : ((a : Int) + b.n).toNat - a = b.n := by omega
            have hlb : ((a : Int) + b.n).toNat = a + b.n := by omega
            go_wp2
            go_region_held3 (fun W : World => W.cell? ⟨m, 1, none⟩ = some (.slice (some ⟨gy, 0, none⟩) bs.length cy) ∧ W.cell? ⟨w.heap.size + 1 + 1, 0, none⟩ = some (.int .i64 a) ∧ W.cell? ⟨w.heap.size + 1 + 1, 1, none⟩ = some (.int .i64 b.n)) (go_keep)
              ((refine step_append_own rfl _ _ 50 rfl W4.heap.size 3 i0 (.int .i64 0) 1 8 und_ints hi0 hz0 hz1 hz2 rfl (by decide) _ _ _ rfl HM.out ⟨gy, a, none⟩ b.n _ (((bs.drop a).take b.n).map (Value.int .i64)) rfl HLN.out HNW.out HON.out (by unfold maxLen; omega) (by omega) (by simp) ?_; intro v' w5 hown5 hgrow5 hnil5; go_must (have hb5 : Below W4.heap.size W4 w5 := Below.grown ((Below.drew (Below.refl _ W4)).alloc (Nat.le_refl _) _) hgrow5 (by simp) (fun j e => by cases e; exact Nat.le_refl _); have k0 := cell_past hb5 lm4 zm; have k1 := cell_past hb5 ls4 pp0; have k2 := cell_past hb5 ls4 pp1; have k3 := cell_past hb5 lx4 v1; have k4 := cell_past hb5 lx4 v2)))
            obtain ⟨g5, cap5, cur5, hv5, hg5, hh5, hc5, hm5, hs5, hx5⟩ : ∃ g5 cap5 cur5, v' = .slice (some ⟨g5, 0, none⟩) b.n cap5 ∧ W4.heap.size ≤ g5 ∧ w5.heap[g5]? = some (.cells cur5 3 (0, 0)) ∧ b.n ≤ cap5 ∧ cap5 ≤ maxLen ∧ cur5.size = cap5 * 1 ∧ cur5.toList.take (b.n * 1) = ((bs.drop a).take b.n).map (Value.int .i64) := by
              rcases hown5.2 with ⟨_, h1⟩ | h1
              · omega
              · simpa using h1
            subst hv5
            have hcells : ∀ k, k < b.n → cur5[k]? = some (.int .i64 (((bs.drop a).take b.n).getD k 0)) := fun k hk => by
              have h1 : (cur5.toList.take (b.n * 1))[k]? = cur5[k]? := by rw [List.getElem?_take, if_pos (by omega), Array.getElem?_toList]
              have hl : k < ((bs.drop a).take b.n).length := by rw [List.length_take, List.length_drop]; omega
              rw [← h1, hx5, List.getElem?_map, List.getElem?_eq_getElem hl, List.getD_eq_getElem?_getD, List.getElem?_eq_getElem hl]
              rfl
            have lgy : gy < w.heap.size := lt_of_block HAT.out.bytes
            have hws4 : w.heap.size + 1 + 1 < W4.heap.size := ls4
            have hg5m : ¬ (g5 = m ∨ g5 = gy) := by omega
            have HC5 := Lib.hid hcells
            have HH5 := Lib.hid hh5
            have HAT5 := Lib.hid (HAT4.out.below hb5)
            have HB5 := Lib.hid (HB4.out.trans (hb5.mono HB4.out.size))
            clear hown5 hgrow5 hnil5 hb5 hcells hh5 hx5 hs5 hcn hla hlb v1 v2 pp0 pp1 zm
            go_wp2_with (fail)
            refine (HDROP.out w5 HAT5.out (fge hB HB5.out.size)).mono ?_
            rintro e W6 ⟨rfl, ⟨v6, hat6⟩, hT6, hb6⟩
            have l0 := turned_cell hT6 (by show ¬ (w.heap.size + 1 + 1 = m ∨ w.heap.size + 1 + 1 = gy); omega) k1
            have l1 := turned_cell hT6 (by show ¬ (w.heap.size + 1 + 1 = m ∨ w.heap.size + 1 + 1 = gy); omega) k2
            have l2 := turned_cell hT6 (by show ¬ (w.heap.size + 1 = m ∨ w.heap.size + 1 = gy); omega) k3
            have l3 := turned_cell hT6 (by show ¬ (w.heap.size + 1 = m ∨ w.heap.size + 1 = gy); omega) k4
            have HH6 := Lib.hid ((hT6.block g5 (lt_of_block HH5.out) hg5m).trans HH5.out)
            have HAT6 := Lib.hid hat6
            have HB6 := Lib.hid hb6
            have hs6 : ∀ k, W6.heap.size ≤ k → F k := fge (fge hB HB5.out.size) hT6.size
            clear hat6 hT6 hb6 k0 k1 k2 k3 k4 HH5
            go_wp2_with (fail)
            have hlay := layR_at HAT6.out HINV.out (xa : Int) sz (-1) nn (List.replicate nn none) (by omega) (by show (xa : Int) + nn ≤ A.bytes; omega) (fun y hy => HAP.out y (List.mem_filter.1 hy).1) (fun k hk => by simp [List.getD, hk, codeB]) hs6
            refine hlay.mono ?_
            clear hlay
            rintro e W7 ⟨rfl, ⟨v7, hat7⟩, hT7, hb7⟩
            have q0 := turned_cell hT7 (by show ¬ (w.heap.size + 1 + 1 = m ∨ w.heap.size + 1 + 1 = gy); omega) l0
            have q1' := turned_cell hT7 (by show ¬ (w.heap.size + 1 + 1 = m ∨ w.heap.size + 1 + 1 = gy); omega) l1
            have q2' := turned_cell hT7 (by show ¬ (w.heap.size + 1 = m ∨ w.heap.size + 1 = gy); omega) l2
            have q3 := turned_cell hT7 (by show ¬ (w.heap.size + 1 = m ∨ w.heap.size + 1 = gy); omega) l3
            have HH7 := Lib.hid ((hT7.block g5 (lt_of_block HH6.out) hg5m).trans HH6.out)
            rw [Int.toNat_natCast] at hat7
            have HAT7 := Lib.hid hat7
            have HB7 := Lib.hid ((tof (F := F) HB5.out).trans (HB6.out.trans hb7))
            have hs7 : ∀ k, W7.heap.size ≤ k → F k := fge hs6 hT7.size
            have hsl : (setR bs xa nn (-1)).length = bs.length := setR_length _ _ _ _ (by omega)
            have hzm : W7.cell? ⟨m, 1, none⟩ = some (.slice (some ⟨gy, 0, none⟩) bs.length cy) := by rw [cell_of_block hat7.model, hsl]; rfl
            have HSL := Lib.hid hsl
            clear hat7 hT7 hb7 l0 l1 l2 l3 HH6 hsl
            obtain ⟨mn, hmn⟩ : ∃ mn, mn = min b.n nn := ⟨_, rfl⟩
            have hmn1 : mn ≤ b.n := by omega
            have hmn2 : mn ≤ nn := by omega
            have hmn3 : b.n ≤ mn ∨ nn ≤ mn := by omega
            have HMN := Lib.hid hmn
            clear hmn
            go_wp2
            go_loopw [14] (fun i wr => ∃ k : Nat, k ≤ mn ∧ i = .int .i64 k ∧ Turned (fun j => j = gy) W7 wr ∧ wr.heap[gy]? = some (.cells (intsC (putR (setR bs xa nn (-1)) xa (((bs.drop a).take b.n).take k))) 3 (0, 0))) (fun i _ => mn - (intOf i).toNat)
            case atStart => exact ⟨0, Nat.zero_le _, rfl, Turned.refl _ _, by rw [List.take_zero, putR_nil]; exact HAT7.out.bytes⟩
            case round =>
              obtain ⟨k, hk, rfl, hT, hy⟩ := hrel
              have p0 := turned_cell hT (by show ¬ w.heap.size + 1 + 1 = gy; omega) q0
              have p1 := turned_cell hT (by show ¬ w.heap.size + 1 + 1 = gy; omega) q1'
              have p2 := turned_cell hT (by show ¬ w.heap.size + 1 = gy; omega) q2'
              have p3 := turned_cell hT (by show ¬ w.heap.size + 1 = gy; omega) q3
              have pm := turned_cell hT (by show ¬ m = gy; exact HNE.out) hzm
              by_cases hlt : k < mn
              · have hkb : k < b.n := by omega
                have hkn : k < nn := by omega
                have hco : wr.cell? ⟨g5, k, none⟩ = some (.int .i64 (((bs.drop a).take b.n).getD k 0)) := by
                  rw [cell_of_block ((hT.block g5 (lt_of_block HH7.out) (by show ¬ g5 = gy; omega)).trans HH7.out)]
                  exact HC5.out k hkb
                have hol : ((bs.drop a).take b.n).length = b.n := by rw [List.length_take, List.length_drop]; omega
                have htk : ((bs.drop a).take b.n).take (k + 1) = ((bs.drop a).take b.n).take k ++ [((bs.drop a).take b.n).getD k 0] := by
                  rw [List.take_succ_eq_append_getElem (by rw [hol]; exact hkb), List.getD_eq_getElem?_getD, List.getElem?_eq_getElem (by rw [hol]; exact hkb)]
                  rfl
                have htl : (((bs.drop a).take b.n).take k).length = k := by rw [List.length_take, hol]; omega
                have hpl : (putR (setR bs xa nn (-1)) xa (((bs.drop a).take b.n).take k)).length = bs.length := by rw [putR_length _ _ _ (by rw [htl, HSL.out]; omega), HSL.out]
                have hck : wr.cell? ⟨gy, xa + k, none⟩ = some (.int .i64 ((putR (setR bs xa nn (-1)) xa (((bs.drop a).take b.n).take k)).getD (xa + k) 0)) := by
                  rw [cell_of_block hy, intsC, List.getElem?_toArray, List.getElem?_map, List.getElem?_eq_getElem (by rw [hpl]; omega)]
                  simp [List.getD, List.getElem?_eq_getElem (show xa + k < (putR (setR bs xa nn (-1)) xa (((bs.drop a).take b.n).take k)).length from by rw [hpl]; omega)]
                have hfk : wr.frozen? ⟨gy, xa + k, none⟩ = false := frozen_of_row _ _ _ _ _ hy
                have hnx : (wr.drew.setCell ⟨gy, xa + k, none⟩ (.int .i64 (((bs.drop a).take b.n).getD k 0))).heap[gy]? = some (.cells (intsC (putR (setR bs xa nn (-1)) xa (((bs.drop a).take b.n).take (k + 1)))) 3 (0, 0)) := by
                  have := heap_setCell_eq (w := wr.drew) (b := gy) (i := xa + k) hy (.int .i64 (((bs.drop a).take b.n).getD k 0))
                  have hps := putR_succ (setR bs xa nn (-1)) xa (((bs.drop a).take b.n).take k) (((bs.drop a).take b.n).getD k 0) (by rw [htl, HSL.out]; omega)
                  rw [htl] at hps
                  rw [this, intsC_set, hps, htk]
                have hTx : Turned (fun j => j = gy) W7 (wr.drew.setCell ⟨gy, xa + k, none⟩ (.int .i64 (((bs.drop a).take b.n).getD k 0))) := turned_set2 (show Turned (fun j => j = gy) W7 wr.drew from ⟨hT.os, hT.tape, hT.output, hT.size, hT.block⟩) _ _
                have HNX := Lib.hid hnx
                have HTX := Lib.hid hTx
                clear hnx hTx hy hT htk htl hpl hol
                generalize ((bs.drop a).take b.n).getD k 0 = d at *
                generalize (putR (setR bs xa nn (-1)) xa (((bs.drop a).take b.n).take k)).getD (xa + k) 0 = d0 at *
                have hidx : (0 : Int) ≤ (xa : Int) + k ∧ (xa : Int) + k < bs.length := by omega
                have hi3 : xa + k < bs.length := by omega
                have hwk : IntKind.i64.wrap ((xa : Int) + k) = (xa : Int) + k := by rw [IntKind.wrap_i64]; omega
                have hkw : IntKind.i64.wrap ((k : Int) + 1) = (k : Int) + 1 := by rw [IntKind.wrap_i64]; omega
                go_wp2
                go_region
                go_wp2
                go_roundw
                case rel => exact ⟨k + 1, by omega, by go_num, HTX.out, HNX.out⟩
                case measure => first | (simp [intOf]; done) | (simp [intOf]; omega)
              · obtain rfl : k = mn := by omega
                have hfin := ref_bytes (A' := applyC A (.move (a : Int) ⟨xa, nn, sz, grownC b.cells nn⟩)) HAT7.out hT hy (putR_length _ _ _ (by simp only [List.length_take, List.length_drop, HSL.out]; omega)) rfl (rowV_insB (b1 := ⟨xa, nn, sz, grownC b.cells nn⟩) (b2 := ⟨xa, nn, sz, List.replicate nn none⟩) rfl rfl rfl (dropB (a : Int) A.blocks)).1 (rowV_insB (b1 := ⟨xa, nn, sz, grownC b.cells nn⟩) (b2 := ⟨xa, nn, sz, List.replicate nn none⟩) rfl rfl rfl (dropB (a : Int) A.blocks)).2 (by rw [HMN.out]; exact HMV.out xa nn (by omega) HAP.out) hs7
                have HFIN := Lib.hid hfin
                clear hfin hT hy
                by_cases hkb : k < b.n
                · have hkn : ¬ k < nn := by omega
                  go_wp2
                  go_ret
                  exact ⟨rfl, HFIN.out.1, HB7.out.trans HFIN.out.2⟩
                · go_wp2
                  go_ret
                  exact ⟨rfl, HFIN.out.1, HB7.out.trans HFIN.out.2⟩
        · rw [if_pos rfl]
          have hae2 : x.at_ = b.at_ := by simpa using hae
          have hon : onlyA x 0 b.at_ b.n 0 = (x.n == b.n) := by
            unfold onlyA onlyB
            unfold placedB at hp
            simp only [Bool.and_eq_true] at hp
            rw [hp.1, hp.2.1, hp.2.2, hae]
            simp
          rw [hon]
          rw [hae2] at HW0 r1 h13
          rw [hae2]
          have HAE := Lib.hid hae2
          clear hon hae hae2
          cases hnn : (x.n == b.n)
          · have hnn2 : (x.n != b.n) = true := by rw [bne, hnn]; rfl
            clear hnn
            (go_enter Tryz.func53, Tryz.ntmps53; go_wp2_with (fail); rw [← HW0.out]; refine (HASK.out _).mono ?_; rintro e W1 ⟨vx, vy, rfl, hxy, hb1⟩; obtain ⟨rfl, rfl⟩ := hxy HE0.out; rw [HA0.out] at hxy ⊢; clear hxy; (have HAT1 := Lib.hid (HAT.out.below (HB0.out.trans (hb1.mono HB0.out.size))); have HB1 := Lib.hid (HB0.out.trans (hb1.mono HB0.out.size)); have r0' := cell_past hb1 (cell_lt r0) r0; have r1' := cell_past hb1 (cell_lt r1) r1; have r2' := cell_past hb1 (cell_lt r2) r2; have r3' := cell_past hb1 (cell_lt r3) r3; have r4' := cell_past hb1 (cell_lt r4) r4; have s0' := cell_past hb1 (cell_lt s0) s0; have s1' := cell_past hb1 (cell_lt s1) s1; clear hb1 r0 r1 r2 r3 r4 s0 s1); go_wp2_with (fail); refine (bareR_any _ _ _ _ _ _ _ _ _).mono ?_; rintro e W2 ⟨rfl, hb2⟩; rw [h13]; (have HAT2 := Lib.hid (HAT1.out.below hb2); have HB2 := Lib.hid (HB1.out.trans (hb2.mono HB1.out.size)); have r0'' := cell_past hb2 (cell_lt r0') r0'; have r1'' := cell_past hb2 (cell_lt r1') r1'; have r2'' := cell_past hb2 (cell_lt r2') r2'; have r3'' := cell_past hb2 (cell_lt r3') r3'; have r4'' := cell_past hb2 (cell_lt r4') r4'; have s0'' := cell_past hb2 (cell_lt s0') s0'; have s1'' := cell_past hb2 (cell_lt s1') s1'; clear hb2 r0' r1' r2' r3' r4' s0' s1'))
            (go_wp2_with (fail); refine (placedR_any _ _ _ _ _ _ _ _).mono ?_; rintro e W3 ⟨rfl, hb3⟩; rw [hp]; have HAT3 := Lib.hid (HAT2.out.below hb3); have HB3 := Lib.hid (HB2.out.trans (hb3.mono HB2.out.size)); have u1 := cell_past hb3 (cell_lt r1'') r1''; have u2 := cell_past hb3 (cell_lt r2'') r2''; have t0 := cell_past hb3 (cell_lt s0'') s0''; have t1 := cell_past hb3 (cell_lt s1'') s1''; clear hb3 r0'' r1'' r2'' r3'' r4'' s0'' s1'')
            go_wp2
            go_ret
            exact ⟨rfl, HEND.out _ false HAT3.out HB3.out⟩
          · have hnn2 : (x.n != b.n) = false := by rw [bne, hnn]; rfl
            clear hnn
            by_cases hsl : sz ≤ b.n
            · have hsl2 : ¬ (b.n : Int) < sz := by omega
              have HR := Lib.hid (fun (W : World) hh hBW => HREFS.out W sz hh hBW)
              have hdec : decide (sz ≤ (b.n : Int)) = true := decide_eq_true hsl
              rw [hdec]
              clear hdec
              (go_enter Tryz.func53, Tryz.ntmps53; go_wp2_with (fail); rw [← HW0.out]; refine (HASK.out _).mono ?_; rintro e W1 ⟨vx, vy, rfl, hxy, hb1⟩; obtain ⟨rfl, rfl⟩ := hxy HE0.out; rw [HA0.out] at hxy ⊢; clear hxy; (have HAT1 := Lib.hid (HAT.out.below (HB0.out.trans (hb1.mono HB0.out.size))); have HB1 := Lib.hid (HB0.out.trans (hb1.mono HB0.out.size)); have r0' := cell_past hb1 (cell_lt r0) r0; have r1' := cell_past hb1 (cell_lt r1) r1; have r2' := cell_past hb1 (cell_lt r2) r2; have r3' := cell_past hb1 (cell_lt r3) r3; have r4' := cell_past hb1 (cell_lt r4) r4; have s0' := cell_past hb1 (cell_lt s0) s0; have s1' := cell_past hb1 (cell_lt s1) s1; clear hb1 r0 r1 r2 r3 r4 s0 s1); go_wp2_with (fail); refine (bareR_any _ _ _ _ _ _ _ _ _).mono ?_; rintro e W2 ⟨rfl, hb2⟩; rw [h13]; (have HAT2 := Lib.hid (HAT1.out.below hb2); have HB2 := Lib.hid (HB1.out.trans (hb2.mono HB1.out.size)); have r0'' := cell_past hb2 (cell_lt r0') r0'; have r1'' := cell_past hb2 (cell_lt r1') r1'; have r2'' := cell_past hb2 (cell_lt r2') r2'; have r3'' := cell_past hb2 (cell_lt r3') r3'; have r4'' := cell_past hb2 (cell_lt r4') r4'; have s0'' := cell_past hb2 (cell_lt s0') s0'; have s1'' := cell_past hb2 (cell_lt s1') s1'; clear hb2 r0' r1' r2' r3' r4' s0' s1'))
              (go_wp2_with (fail); refine (placedR_any _ _ _ _ _ _ _ _).mono ?_; rintro e W3 ⟨rfl, hb3⟩; rw [hp]; have HAT3 := Lib.hid (HAT2.out.below hb3); have HB3 := Lib.hid (HB2.out.trans (hb3.mono HB2.out.size)); have u1 := cell_past hb3 (cell_lt r1'') r1''; have u2 := cell_past hb3 (cell_lt r2'') r2''; have t0 := cell_past hb3 (cell_lt s0'') s0''; have t1 := cell_past hb3 (cell_lt s1'') s1''; clear hb3 r0'' r1'' r2'' r3'' r4'' s0'' s1'')
              have hm3 := cell_past HB3.out lm hcm
              have z2 := cell_past HB3.out (cell_lt y2) y2
              have hf3 : W3.frozen? ⟨g, i * 3 + 2, none⟩ = false := rows_frozen HAT3.out hi _
              have HFIN := Lib.hid (HR.out W3 HAT3.out (fge hB HB3.out.size))
              go_wp2
              go_ret
              exact ⟨rfl, HFIN.out.1, (tof (F := F) HB3.out).trans HFIN.out.2⟩
            · have hdec : decide (sz ≤ (b.n : Int)) = false := decide_eq_false hsl
              rw [hdec]
              have hsl2 : (b.n : Int) < sz := by omega
              clear hdec hsl
              (go_enter Tryz.func53, Tryz.ntmps53; go_wp2_with (fail); rw [← HW0.out]; refine (HASK.out _).mono ?_; rintro e W1 ⟨vx, vy, rfl, hxy, hb1⟩; obtain ⟨rfl, rfl⟩ := hxy HE0.out; rw [HA0.out] at hxy ⊢; clear hxy; (have HAT1 := Lib.hid (HAT.out.below (HB0.out.trans (hb1.mono HB0.out.size))); have HB1 := Lib.hid (HB0.out.trans (hb1.mono HB0.out.size)); have r0' := cell_past hb1 (cell_lt r0) r0; have r1' := cell_past hb1 (cell_lt r1) r1; have r2' := cell_past hb1 (cell_lt r2) r2; have r3' := cell_past hb1 (cell_lt r3) r3; have r4' := cell_past hb1 (cell_lt r4) r4; have s0' := cell_past hb1 (cell_lt s0) s0; have s1' := cell_past hb1 (cell_lt s1) s1; clear hb1 r0 r1 r2 r3 r4 s0 s1); go_wp2_with (fail); refine (bareR_any _ _ _ _ _ _ _ _ _).mono ?_; rintro e W2 ⟨rfl, hb2⟩; rw [h13]; (have HAT2 := Lib.hid (HAT1.out.below hb2); have HB2 := Lib.hid (HB1.out.trans (hb2.mono HB1.out.size)); have r0'' := cell_past hb2 (cell_lt r0') r0'; have r1'' := cell_past hb2 (cell_lt r1') r1'; have r2'' := cell_past hb2 (cell_lt r2') r2'; have r3'' := cell_past hb2 (cell_lt r3') r3'; have r4'' := cell_past hb2 (cell_lt r4') r4'; have s0'' := cell_past hb2 (cell_lt s0') s0'; have s1'' := cell_past hb2 (cell_lt s1') s1'; clear hb2 r0' r1' r2' r3' r4' s0' s1'))
              (go_wp2_with (fail); refine (placedR_any _ _ _ _ _ _ _ _).mono ?_; rintro e W3 ⟨rfl, hb3⟩; rw [hp]; have HAT3 := Lib.hid (HAT2.out.below hb3); have HB3 := Lib.hid (HB2.out.trans (hb3.mono HB2.out.size)); have u1 := cell_past hb3 (cell_lt r1'') r1''; have u2 := cell_past hb3 (cell_lt r2'') r2''; have t0 := cell_past hb3 (cell_lt s0'') s0''; have t1 := cell_past hb3 (cell_lt s1'') s1''; clear hb3 r0'' r1'' r2'' r3'' r4'' s0'' s1'')
              go_wp2
              go_ret
              exact ⟨rfl, HEND.out _ false HAT3.out HB3.out⟩
    · rw [if_pos rfl]
      (go_enter Tryz.func53, Tryz.ntmps53; go_wp2_with (fail); rw [← HW0.out]; refine (HASK.out _).mono ?_; rintro e W1 ⟨vx, vy, rfl, hxy, hb1⟩; obtain ⟨rfl, rfl⟩ := hxy HE0.out; rw [HA0.out] at hxy ⊢; clear hxy; (have HAT1 := Lib.hid (HAT.out.below (HB0.out.trans (hb1.mono HB0.out.size))); have HB1 := Lib.hid (HB0.out.trans (hb1.mono HB0.out.size)); have r0' := cell_past hb1 (cell_lt r0) r0; have r1' := cell_past hb1 (cell_lt r1) r1; have r2' := cell_past hb1 (cell_lt r2) r2; have r3' := cell_past hb1 (cell_lt r3) r3; have r4' := cell_past hb1 (cell_lt r4) r4; have s0' := cell_past hb1 (cell_lt s0) s0; have s1' := cell_past hb1 (cell_lt s1) s1; clear hb1 r0 r1 r2 r3 r4 s0 s1); go_wp2_with (fail); refine (bareR_any _ _ _ _ _ _ _ _ _).mono ?_; rintro e W2 ⟨rfl, hb2⟩; rw [h13]; (have HAT2 := Lib.hid (HAT1.out.below hb2); have HB2 := Lib.hid (HB1.out.trans (hb2.mono HB1.out.size)); have r0'' := cell_past hb2 (cell_lt r0') r0'; have r1'' := cell_past hb2 (cell_lt r1') r1'; have r2'' := cell_past hb2 (cell_lt r2') r2'; have r3'' := cell_past hb2 (cell_lt r3') r3'; have r4'' := cell_past hb2 (cell_lt r4') r4'; have s0'' := cell_past hb2 (cell_lt s0') s0'; have s1'' := cell_past hb2 (cell_lt s1') s1'; clear hb2 r0' r1' r2' r3' r4' s0' s1'))
      go_wp2
      go_ret
      exact ⟨rfl, HEND.out _ true HAT2.out HB2.out⟩
  · have hag : againA A b o x = (.keep, bareA x (ofF o.a).2) := by unfold againA; rw [if_pos he]
    rw [hag]
    unfold bareA
    have HHE := Lib.hid he
    clear hag
    go_enter Tryz.func53, Tryz.ntmps53
    go_wp2_with (fail)
    rw [← HW0.out]
    refine (HASK.out _).mono ?_
    rintro e W1 ⟨vx, vy, rfl, _, hb1⟩
    rw [HA0.out]
    (have HAT1 := Lib.hid (HAT.out.below (HB0.out.trans (hb1.mono HB0.out.size))); have HB1 := Lib.hid (HB0.out.trans (hb1.mono HB0.out.size)); have r0' := cell_past hb1 (cell_lt r0) r0; have r1' := cell_past hb1 (cell_lt r1) r1; have r2' := cell_past hb1 (cell_lt r2) r2; have r3' := cell_past hb1 (cell_lt r3) r3; have r4' := cell_past hb1 (cell_lt r4) r4; have s0' := cell_past hb1 (cell_lt s0) s0; have s1' := cell_past hb1 (cell_lt s1) s1; clear hb1 r0 r1 r2 r3 r4 s0 s1)
    go_wp2_with (fail)
    refine (bareR_any _ _ _ _ _ _ _ _ _).mono ?_
    rintro e W2 ⟨rfl, hb2⟩
    (have HAT2 := Lib.hid (HAT1.out.below hb2); have HB2 := Lib.hid (HB1.out.trans (hb2.mono HB1.out.size)); have r0'' := cell_past hb2 (cell_lt r0') r0'; have r1'' := cell_past hb2 (cell_lt r1') r1'; have r2'' := cell_past hb2 (cell_lt r2') r2'; have r3'' := cell_past hb2 (cell_lt r3') r3'; have r4'' := cell_past hb2 (cell_lt r4') r4'; have s0'' := cell_past hb2 (cell_lt s0') s0'; have s1'' := cell_past hb2 (cell_lt s1') s1'; clear hb2 r0' r1' r2' r3' r4' s0' s1')
    go_wp2
    go_ret
    exact ⟨rfl, HEND.out _ _ HAT2.out HB2.out⟩

end Go.Proofs.YtgcnbiccekaffaaGreat
