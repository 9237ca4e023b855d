/- oldheap: Pages. -/
import Derived.Test.YtlljejmblmjjnaaGreatDoorKC
import Derived.Test.YtlljejmblmjjnaaGreatDoorShelf
import Derived.Test.YtlljejmblmjjnaaGreatDoorShelf2
import Derived.Laws.AppendOwn
import Derived.WalkKit
import Derived.WalkSpells
import Derived.WalkLawsBesides
import Derived.BigQuiet
import Derived.Lib.Hide
import Derived.Maps.AppendAt
namespace Go.Proofs.YtlljejmblmjjnaaGreatDoor
set_option linter.unusedVariables false
set_option linter.unusedSimpArgs false
open Go.RowKit Go.ChangeMaps

theorem own_monoO {w : World} {base base' : Nat} {e : TypeId} {size : Nat} {v : Value} {n : Nat} {xs : List Value} (h : w.ownsRow base e size v n xs) (hb : base' ≤ base) : w.ownsRow base' e size v n xs :=
  ⟨h.1, h.2.imp id fun ⟨g, cap, cur, h1, h2, h3⟩ => ⟨g, cap, cur, h1, Nat.le_trans hb h2, h3⟩⟩
def rdOneO : Value → Option (DataW Unit × List MemPlace) := fun _ => some (.nil, [])
theorem insertO_perm {H : Type} (x : Lit × DataW H) : ∀ l, (DataW.insert x l).Perm (x :: l)
  | [] => List.Perm.refl _
  | y :: r => by
    unfold DataW.insert
    split
    · exact List.Perm.refl _
    · exact ((insertO_perm x r).cons y).trans (List.Perm.swap _ _ _)
theorem foldO_insert_perm {H : Type} : ∀ l : List (Lit × DataW H), (l.foldr DataW.insert []).Perm l
  | [] => List.Perm.refl _
  | x :: l => (insertO_perm x _).trans ((foldO_insert_perm l).cons x)
noncomputable def mapK (xs : List OS) : DataW Unit := .map (((xs.map oentry).toArray.toList.map (WideElems.rg Tryz.prog 3 rdOneO)).foldr DataW.insert [])
theorem key_rgK {x : OS} (h : (Lit.int .i64 (x.x.page : Int)).wf = true) : WideElems.rg Tryz.prog 3 rdOneO (oentry x) = (.int .i64 (x.x.page : Int), .nil) := by
  unfold WideElems.rg WideElems.rd oentry
  rw [Maps.keyOf_int_mk Tryz.underlying3 h]
  rfl
theorem keys_mapK {xs : List OS} (h : ∀ x ∈ xs, (Lit.int .i64 (x.x.page : Int)).wf = true) : (intKeys (mapK xs)).Perm (xs.map fun x => (x.x.page : Int)) := by
  unfold mapK intKeys
  refine ((foldO_insert_perm _).map _).trans ?_
  rw [List.toList_toArray, List.map_map, List.map_map]
  rw [List.map_congr_left (g := fun x => (x.x.page : Int))]
  intro x hx
  simp [key_rgK (h x hx), Go.intOf]
theorem size_mapK (xs : List OS) : Maps.size (mapK xs) = xs.length := by
  unfold mapK Maps.size
  simp only
  rw [(foldO_insert_perm _).length_eq]
  simp
theorem OHeapM.wf {w : World} {H : OHL} {pages : Nat} {s : OP} (h : OHeapM w H pages s) : ∀ x ∈ H.xs, (Lit.int .i64 (x.x.page : Int)).wf = true := by
  intro x hx
  have h1 := (h.ok hx).fits
  have h2 := h.ground.map.most
  exact WalkArith.wf_i64 (by omega)
theorem OHeapM.owns {w : World} {H : OHL} {pages : Nat} {s : OP} (h : OHeapM w H pages s) : w.ownsMap Tryz.prog 3 rdOneO H.mb H.xs.length (mapK H.xs) := by
  obtain ⟨b1, b2, b3⟩ := h.bound
  refine ⟨_, H.clk, h.map, ⟨?_, ⟨?_, ?_, ?_⟩, ?_⟩, by simp, rfl⟩
  · simp only [List.size_toArray, List.length_map]; unfold maxLen; omega
  · intro x hx
    rw [List.toList_toArray] at hx
    obtain ⟨y, hy, rfl⟩ := List.mem_map.1 hx
    exact h.xs.old y hy
  · rw [List.toList_toArray, List.map_map]
    exact h.xs.borns
  · rw [List.toList_toArray, List.map_map]
    have hk := h.keys
    rw [List.Nodup, List.pairwise_map] at hk ⊢
    exact hk.imp (fun h e => h (by simpa [oentry] using e))
  · intro x hx
    rw [List.toList_toArray] at hx
    obtain ⟨y, hy, rfl⟩ := List.mem_map.1 hx
    exact ⟨_, by unfold WideElems.rd oentry; rw [Maps.keyOf_int_mk Tryz.underlying3 (h.wf y hy)]; rfl⟩
def pagesIO (s : OP) : List Int := s.A.map fun x => (x.page : Int)
theorem sort_pagesO {w : World} {H : OHL} {pages : Nat} {s : OP} (h : OHeapM w H pages s) {ss : List Int} (hs : ss.Perm (intKeys (mapK H.xs))) : ss.mergeSort (fun x y => decide (x ≤ y)) = pagesIO s := by
  have h1 : ss.Perm (pagesIO s) := by
    refine (hs.trans (keys_mapK h.wf)).trans ?_
    have := h.perm.map fun x => (x.page : Int)
    rwa [List.map_map] at this
  have hs : (pagesIO s).Pairwise (fun a b => decide (a ≤ b) = true) := by
    unfold pagesIO
    rw [List.pairwise_map]
    refine h.base.srt.imp ?_
    intro x y hxy
    simp only [decide_eq_true_eq]
    omega
  refine List.Perm.eq_of_pairwise (le := fun a b => decide (a ≤ b) = true) ?_ ?_ hs ((List.mergeSort_perm ss _).trans h1)
  · intro a b _ _ h1 h2
    simp only [decide_eq_true_eq] at h1 h2
    omega
  · exact List.pairwise_mergeSort (fun a b c h1 h2 => by simp only [decide_eq_true_eq] at *; omega) (fun a b => by simp only [Bool.or_eq_true, decide_eq_true_eq]; omega) ss
theorem sortsO_any (n : Nat) : AnyZI.SortsIn Tryz.prog Tryz.sortedA_ren Fence.wide n :=
  ⟨fun blk off cap ss W hH hblk hsz => callsIn_wide.2 (Go.Proofs.Tryz.slices_Sort_int blk off cap ss W hH hblk hsz),
   fun p cap W => callsIn_wide.2 (Go.Proofs.Tryz.slices_Sort_int_none p cap W)⟩
theorem keysO_any (mb : Nat) (W : World) : Calls Tryz.prog 52 #[.map (some mb)] W fun e w' =>
    e = .returned (.func (.func 102) #[] #[.pointer (some ⟨W.heap.size, 0, none⟩)]) ∧ w' = W.alloc (.cells #[.map (some mb)] 77) :=
  (callsIn_wide (n := 5)).1 (AnyZI.keys_in Tryz.keysA Fence.wide 5 trivial rfl (some mb) W)
def PagesPostO (w : World) (s : OP) (e : Ending) (w' : World) : Prop :=
  ∃ v, e = .returned v ∧ w'.ownsRow w.heap.size 3 1 v s.A.length ((pagesIO s).map (Value.int .i64)) ∧ Below w.heap.size w w'
/-- slices.Sorted(maps.Keys(m)): the keys, ascending. -/
theorem sortedO_any {w : World} {H : OHL} {pages : Nat} {s : OP} (h : OHeapM w H pages s) (W : World) (bm : Nat) (hown : W.ownsMap Tryz.prog 3 rdOneO H.mb H.xs.length (mapK H.xs)) (hm : W.cell? ⟨bm, 0, none⟩ = some (.map (some H.mb))) :
    Calls Tryz.prog 51 #[.func (.func 102) #[] #[.pointer (some ⟨bm, 0, none⟩)]] W (PagesPostO W s) := by
  refine (callsIn_wide (n := 5)).1 ?_
  obtain ⟨b1, b2, b3⟩ := h.bound
  have hseq : SeqGives Fence.wide 2 Tryz.prog 102 #[.pointer (some ⟨bm, 0, none⟩)] encZ (fun ss => ss.Perm (intKeys (mapK H.xs))) (Maps.size (mapK H.xs)) W :=
    AnyZI.keys_gives (ρ := Tryz.keysA_ren) { Tryz.keysA with } Fence.wide _ trivial rfl (by omega) bm H.mb H.xs.length (mapK H.xs) W (cell_lt hm) hm hown
  have cS := AnyZI.sorted_in Tryz.sortedA Fence.wide 5 trivial trivial trivial trivial rfl (by omega) (sortsO_any _) (enters_of Tryz.func101 (by kernel_rfl) rfl) 102 #[.pointer (some ⟨bm, 0, none⟩)] trivial
    (enters_of Tryz.func102 (by kernel_rfl) rfl) _ _ (by rw [size_mapK]; unfold maxLen; omega) (by rw [size_mapK]; omega) _ hseq
  change CallsIn _ _ Tryz.prog 51 _ _ _ at cS
  refine cS.mono ?_
  rintro e w' ⟨v, ss, rfl, hS, hrow, _, hbl⟩
  have hsort := sort_pagesO h hS
  have hlen : ss.length = s.A.length := by rw [← List.length_mergeSort ss, hsort]; exact List.length_map _
  rw [hsort, hlen] at hrow
  exact ⟨v, rfl, hrow, hbl⟩

set_option maxRecDepth 8000 in
set_option maxHeartbeats 1000000 in
theorem pagesO_any {w : World} {H : OHL} {pages : Nat} {s : OP} (h : OHeapM w H pages s) : Calls Tryz.prog 21 #[.pointer (some ⟨H.h, 0, none⟩)] w (PagesPostO w s) := by
  obtain ⟨-, c1, -⟩ := h.hcells
  have hmb := lt_of_block h.map
  have HH := Lib.hid h
  clear h
  go_enter Tryz.func21, Tryz.ntmps21
  go_wp2_with (fail)
  refine (keysO_any _ _).mono ?_
  rintro e w0 ⟨rfl, rfl⟩
  have HOWN : Hid ((w.alloc (.cells #[.map (some H.mb)] 77)).ownsMap Tryz.prog 3 rdOneO H.mb H.xs.length (mapK H.xs)) := (HH.out.below ((Below.refl _ _).alloc (Nat.le_refl _) _)).owns
  go_wp2_with (fail)
  refine (sortedO_any HH.out _ w.heap.size HOWN.out (by simp [go_sem])).mono ?_
  rintro e w1 ⟨v1, rfl, hrow, hb1⟩
  have HR := Lib.hid hrow
  have HB := Lib.hid hb1
  clear hrow hb1
  go_wp2
  go_ret
  have hz : w.heap.size ≤ (w.alloc (.cells #[.map (some H.mb)] 77)).heap.size := by simp
  exact ⟨_, rfl, own_monoO HR.out hz, Below.via HB.out hz ((Below.refl _ _).alloc (Nat.le_refl _) _)⟩

end Go.Proofs.YtlljejmblmjjnaaGreatDoor

/- oldheap: Taken. -/
namespace Go.Proofs.YtlljejmblmjjnaaGreatDoor
set_option linter.unusedVariables false
set_option linter.unusedSimpArgs false
open Go.RowKit Go.ChangeMaps

theorem takenOP_succ {A : List PO} {k : Nat} (hk : k < A.length) : takenOP (A.take (k + 1)) = takenOP (A.take k) ++ (takenO A[k].O).map fun j => ((A[k].addr j : Nat) : Int) := by
  unfold takenOP
  rw [List.take_succ_eq_append_getElem hk, List.flatMap_append]
  simp
def addrQ (x : PO) (j : Nat) : List Int := ((takenO x.O).take j).map fun k => ((x.addr k : Nat) : Int)
theorem addrQ_succ {x : PO} {j : Nat} (hj : j < (takenO x.O).length) : addrQ x (j + 1) = addrQ x j ++ [((x.addr (takenO x.O)[j] : Nat) : Int)] := by
  unfold addrQ
  rw [List.take_succ_eq_append_getElem hj, List.map_append]
  rfl
theorem intsV_appendO (a b : List Int) : intsV (a ++ b) = intsV a ++ intsV b := List.map_append ..
/-- Between two worlds the blocks of a part are as they were. -/
def PartO (a b : Nat) (w w' : World) : Prop := ∀ k, a ≤ k → k < b → w'.heap[k]? = w.heap[k]?
def TakIO (w1 w2 wr : World) (B : Nat) (pre : List Int) (x : PO) (v i : Value) : Prop :=
  ∃ j : Nat, j ≤ (takenO x.O).length ∧ i = .int .i64 j ∧ Below w1.heap.size w1 wr ∧ wr.ownsRow w1.heap.size 3 1 v (pre.length + j) (intsV (pre ++ addrQ x j)) ∧ PartO B w2.heap.size w2 wr ∧ (∀ b, v.ownBlock = some b → b < B ∨ w2.heap.size ≤ b) ∧ w2.heap.size ≤ wr.heap.size

set_option maxRecDepth 8000 in
set_option maxHeartbeats 4000000 in
theorem htakenO_own {w : World} {H : OHL} {pages : Nat} {s : OP} (h : OHeapM w H pages s) :
    Calls Tryz.prog 15 #[.pointer (some ⟨H.h, 0, none⟩)] w fun e w' => ∃ v, e = .returned v ∧ w'.ownsRow w.heap.size 3 1 v (takenOP s.A).length (intsV (takenOP s.A)) ∧ Below w.heap.size w w' := by
  obtain ⟨i0, hi, hz0, hz1, hz2⟩ := info_parts info_int2
  obtain ⟨b1, b2, b3⟩ := h.bound
  obtain ⟨-, c1, -⟩ := h.hcells
  have hhl := cell_lt c1
  have HH := Lib.hid h
  have OP := Lib.hid (pagesO_any h)
  have hmost := h.ground.map.most
  have HOKS : Hid (∀ x ∈ s.A, x.Ok0 pages) := fun x hx => h.base.each x (List.mem_append_left _ hx)
  clear h
  go_enter Tryz.func15, Tryz.ntmps15
  go_wp2_with (fail)
  refine OP.out.mono ?_
  rintro e w1 ⟨v1, rfl, hrow, hb1⟩
  obtain ⟨pv, cap, rfl, hkeys⟩ := ownsRow_intsO hrow
  have HK := Lib.hid hkeys
  have HB1 := Lib.hid hb1
  have hs1 := hb1.size
  clear hrow hkeys hb1
  go_wp2
  go_loopw [3, 14] (fun v i wr => ∃ k : Nat, k ≤ s.A.length ∧ i = .int .i64 k ∧ Below w1.heap.size w1 wr ∧ wr.ownsRow w1.heap.size 3 1 v (takenOP (s.A.take k)).length (intsV (takenOP (s.A.take k)))) (fun _ i _ => s.A.length - (intOf i).toNat)
  case atStart => exact ⟨0, Nat.zero_le _, rfl, Below.refl _ _, World.ownsRow_nil _ _ _ _⟩
  case round =>
    obtain ⟨k, hk, rfl, hbl, hrow⟩ := hrel
    by_cases hlt : k < s.A.length
    · obtain ⟨g, rfl, hg, hcell⟩ := HK.out k hlt
      have hcell2 : wr.cell? ⟨g, k, none⟩ = some (.int .i64 (s.A[k].page : Int)) := by
        refine cell_past hbl hg (hcell.trans ?_)
        simp [pagesIO, hlt]
      have hbwr : Below w.heap.size w wr := HB1.out.trans (hbl.mono hs1)
      have c1' : wr.cell? ⟨H.h, 1, none⟩ = some (.map (some H.mb)) := cell_past hbwr hhl c1
      have hHr := HH.out.below hbwr
      obtain ⟨y, hy, hyx⟩ := HH.out.mem (List.getElem_mem hlt)
      rw [← hyx] at hcell2
      have hlk := run_lookup_old hHr.map (y.x.page : Int)
      rw [hHr.lookup hy, show ptrK (some y) = .pointer (some ⟨y.L.s, 0, none⟩) from rfl] at hlk
      have HSUC := Lib.hid (takenOP_succ hlt)
      rw [← hyx] at HSUC
      have hok := HOKS.out _ (List.getElem_mem hlt)
      rw [← hyx] at hok
      have hpre : (takenOP (s.A.take k)).length ≤ 64 * 64 := by
        have := takenOP_le (pages := pages) (A := s.A.take k) (fun x hx => HOKS.out x (List.mem_of_mem_take hx))
        rw [List.length_take] at this
        omega
      have htl : (takenO y.x.O).length ≤ 64 := Nat.le_trans (ones_le y.x.x (slA y.x.cls)) (szA_all _ hok.cls).2.2.2.2.1
      have HTK := Lib.hid (otaken_any (hHr.slab hy) hHr.tab)
      have hi1 : (0 : Int) ≤ k ∧ (k : Int) < s.A.length := by omega
      have hkw : IntKind.i64.wrap ((k : Int) + 1) = (k : Int) + 1 := by rw [IntKind.wrap_i64]; omega
      have HBL := Lib.hid hbl
      have HBW := Lib.hid hbwr
      have hltr := hbl.size
      have HROW := Lib.hid hrow
      have HY := Lib.hid hy
      have HOK := Lib.hid hok
      clear hcell hHr hbl hbwr hrow hyx hy hok
      generalize takenOP (s.A.take k) = pre at *
      go_wp2_with (fail)
      refine HTK.out.mono ?_
      rintro e w2 ⟨vl, rfl, hown2, hb2⟩
      obtain ⟨pl, cl, rfl, hcl⟩ := Ints.of_own hown2 (show (takenO y.x.O).length = (intsN (takenO y.x.O)).length from (List.length_map _).symm)
      have hs2 := hb2.size
      have HCL : Hid (∀ j (hj : j < (takenO y.x.O).length), ∃ g, pl = some ⟨g, 0, none⟩ ∧ wr.heap.size ≤ g ∧ g < w2.heap.size ∧ w2.cell? ⟨g, j, none⟩ = some (.int .i64 ((takenO y.x.O)[j] : Nat))) := by
        intro j hj
        have hln : (intsN (takenO y.x.O)).length = (takenO y.x.O).length := List.length_map _
        obtain ⟨g, q1, q2, q3⟩ := hcl (by intro e; rw [e] at hln; simp at hln; omega)
        have q4 := q3 j (by omega)
        refine ⟨g, q1, q2, cell_lt q4, ?_⟩
        rw [q4]
        unfold intsN
        rw [List.getD_eq_getElem?_getD, List.getElem?_map, List.getElem?_eq_getElem hj]
        rfl
      have hlen : (intsN (takenO y.x.O)).length = (takenO y.x.O).length := List.length_map _
      rw [hlen]
      have HB2 := Lib.hid (Below.via hb2 hltr HBL.out)
      have HROW2 := Lib.hid (ownsRow_below HROW.out hb2)
      have HOB : Hid (∀ v : Value, wr.ownsRow w1.heap.size 3 1 v pre.length (intsV pre) → ∀ b, v.ownBlock = some b → b < wr.heap.size) := fun v hv b hb => (hv.lt b hb).2
      have hOB2 := HOB.out _ HROW.out
      have HOB2 := Lib.hid hOB2
      clear hb2 hcl hOB2 HOB hown2
      go_wp2
      obtain ⟨B, hB⟩ : ∃ B, B = wr.heap.size := ⟨_, rfl⟩
      rw [← hB] at HCL HOB2 hs2
      have hltrB : w1.heap.size ≤ B := by rw [hB]; exact hltr
      go_loopw [3, 27] (fun v i wr => TakIO w1 w2 wr B pre y.x v i) (fun _ i _ => (takenO y.x.O).length - (intOf i).toNat)
      case atStart =>
        refine ⟨0, Nat.zero_le _, rfl, HB2.out, ?_, fun _ _ _ => rfl, fun b hb => .inl (HOB2.out b hb), Nat.le_refl _⟩
        rw [show addrQ y.x 0 = [] from rfl, List.append_nil]
        exact HROW2.out
      case round =>
        obtain ⟨j, hj, rfl, hbq, hrq, hpq, hob, hsq⟩ := hrel
        by_cases hjl : j < (takenO y.x.O).length
        · obtain ⟨gl, rfl, g1, g2, g3⟩ := HCL.out j hjl
          have x1 : wr.cell? ⟨gl, j, none⟩ = some (.int .i64 ((takenO y.x.O)[j] : Nat)) := (World.cell?_of_block (a := ⟨gl, j, none⟩) (hpq gl g1 g2)).trans g3
          have hBq : Below w.heap.size w wr := HB1.out.trans (hbq.mono hs1)
          have htm := List.getElem_mem hjl
          have htl2 : (takenO y.x.O)[j] < slA y.x.cls := (onL_mem.1 htm).1
          have HAD : Hid (Calls Tryz.prog 43 #[.pointer (some ⟨y.L.s, 0, none⟩), .int .i64 ((takenO y.x.O)[j] : Nat)] wr fun e w' => e = .returned (.tuple #[.int .i64 ((y.x.addr (takenO y.x.O)[j] : Nat) : Int), .bool true]) ∧ Below wr.heap.size wr w') :=
            oaddress_yes ((HH.out.below hBq).slab HY.out) _ htl2
          have HST := Lib.hid (addrQ_succ hjl)
          have hj1 : (0 : Int) ≤ j ∧ (j : Int) < (takenO y.x.O).length := by omega
          have hjw : IntKind.i64.wrap ((j : Int) + 1) = (j : Int) + 1 := by rw [IntKind.wrap_i64]; omega
          have HBQ := Lib.hid hbq
          have HRQ := Lib.hid hrq
          have HPQ := Lib.hid hpq
          have HOBQ := Lib.hid hob
          have hszq := hbq.size
          clear hbq hrq hpq hob htm htl2 g3 hBq
          generalize (takenO y.x.O)[j] = tj at *
          generalize y.x.addr tj = ad at *
          go_wp2_with (fail)
          refine HAD.out.mono ?_
          rintro e w3 ⟨rfl, hb3⟩
          have hs3 : wr.heap.size ≤ w3.heap.size := hb3.size
          have HB3 := Lib.hid (Below.via hb3 hszq HBQ.out)
          have HRW3 := Lib.hid (ownsRow_below HRQ.out hb3)
          have HP3 : Hid (PartO B w2.heap.size w2 w3) := fun q q1 q2 => (hb3.block q (by omega)).trans (HPQ.out q q1 q2)
          have hw31 := HB3.out.size
          clear hb3 x1
          go_wp2_with (at_builtin; refine wpList_append_own_at _ rfl _ _ 38 rfl w1.heap.size 3 i0 (.int .i64 0) 1 8 Tryz.underlying38 hi hz0 hz1 hz2 rfl (by decide) _ _ _ rfl (HRW3.out.alloc _) ⟨w3.heap.size, 0, none⟩ 1 1 [.int .i64 ad] rfl rfl (cell_one_new _ _ _) (fun u hu => by simp at hu; rcases hu with rfl; rfl) (by unfold maxLen; omega) (by omega) (by simp; omega) ?_; intro v' w4 hown' hgrow4 hnil4 hat4)
          have HI4 : Hid (TakIO w1 w2 w4 B pre y.x v' (.int .i64 ((j : Int) + 1))) := by
            have hown3 := HRW3.out.alloc (.cells #[.int .i64 ad] 3)
            have hsz4 := hgrow4.size
            have hal : (w3.alloc (.cells #[.int .i64 ad] 3)).heap.size = w3.heap.size + 1 := by simp
            refine ⟨j + 1, hjl, by go_num, Below.grown (HB3.out.alloc hw31 _) hgrow4 (by simp; omega) (fun q e => (hown3.lt q e).1), ?_, ?_, ?_, by omega⟩
            · rw [HST.out, ← List.append_assoc, intsV_appendO, ← Nat.add_assoc]
              exact hown'
            · intro q q1 q2
              refine (hgrow4.block q (by omega) (fun e => ?_)).trans ((heap_alloc_old _ _ (by omega)).trans (HP3.out q q1 q2))
              have := HOBQ.out q e.symm
              omega
            · intro b hb
              rcases hat4 with e | e
              · rw [e] at hb; exact HOBQ.out b hb
              · rw [e] at hb
                cases hb
                right
                omega
          clear hown' hgrow4 hnil4 hat4
          go_wp2
          go_roundw
          case rel => exact HI4.out
          case measure => simp [intOf]; omega
        · have hjl2 : j = (takenO y.x.O).length := by omega
          have HRQ : Hid (wr.ownsRow w1.heap.size 3 1 _ _ _) := hrq
          have HBQ := Lib.hid hbq
          clear hbq hrq hpq hob
          go_wp2
          go_roundw
          case rel =>
            refine ⟨k + 1, hlt, by go_num, HBQ.out, ?_⟩
            have h1 := HRQ.out
            rw [hjl2] at h1
            have e1 : addrQ y.x (takenO y.x.O).length = (takenO y.x.O).map fun j => ((y.x.addr j : Nat) : Int) := by
              unfold addrQ
              rw [List.take_length]
            rw [e1] at h1
            rw [HSUC.out, List.length_append, List.length_map]
            exact h1
          case measure => simp [intOf]; omega
    · obtain rfl : k = s.A.length := by omega
      have HBX := Lib.hid (HB1.out.trans (hbl.mono HB1.out.size))
      have HEND := Lib.hid hrow
      clear hrow hbl
      go_wp2
      go_ret
      have h1 := HEND.out
      rw [List.take_length] at h1
      exact ⟨_, rfl, ⟨h1.1, h1.2.imp id fun ⟨g, c, cur, a1, a2, a3⟩ => ⟨g, c, cur, a1, Nat.le_trans hs1 a2, a3⟩⟩, HBX.out⟩
theorem htakenO_any {w : World} {H : OHL} {pages : Nat} {s : OP} (h : OHeapM w H pages s) :
    Calls Tryz.prog 15 #[.pointer (some ⟨H.h, 0, none⟩)] w fun e w' => ∃ v, e = .returned v ∧ Ints w' w.heap.size v (takenOP s.A) ∧ Below w.heap.size w w' :=
  (htakenO_own h).mono fun _ _ ⟨v, h1, h2, h3⟩ => ⟨v, h1, Ints.of_own h2 rfl, h3⟩

end Go.Proofs.YtlljejmblmjjnaaGreatDoor

/- tablea.Sizes; ground.Pages; oldheap.New. -/
namespace Go.Proofs.YtlljejmblmjjnaaGreatDoor
set_option linter.unusedVariables false
set_option linter.unusedSimpArgs false
open Go.RowKit Go.ChangeMaps

theorem mkA16 : mkA 16 = #[.int .i64 16, .int .i64 32, .int .i64 48, .int .i64 64, .int .i64 80, .int .i64 96, .int .i64 112, .int .i64 128, .int .i64 160, .int .i64 192, .int .i64 224, .int .i64 256, .int .i64 320, .int .i64 384, .int .i64 448, .int .i64 512] := by kernel_rfl
def tabI : List Int := [16, 32, 48, 64, 80, 96, 112, 128, 160, 192, 224, 256, 320, 384, 448, 512]
set_option maxRecDepth 8000 in
set_option maxHeartbeats 2000000 in
theorem asizes_any (w : World) : Calls Tryz.prog 81 #[] w fun e w' => ∃ p c, e = .returned (.slice p 16 c) ∧ Below w.heap.size w w' := by
  have HT := Lib.hid (atable_any w)
  rw [mkA16] at HT
  go_enter Tryz.func81, Tryz.ntmps81
  go_wp2_with (fail)
  refine HT.out.mono ?_
  rintro e w1 ⟨rfl, hb⟩
  have HB := Lib.hid hb
  clear hb
  go_upto_region 2 with (fail)
  obtain ⟨W2, hW2⟩ : ∃ W2, W2 = w1.alloc (.cells (intsV tabI).toArray 192) := ⟨_, rfl⟩
  have hW2' := hW2
  rw [show (intsV tabI).toArray = #[.int .i64 16, .int .i64 32, .int .i64 48, .int .i64 64, .int .i64 80, .int .i64 96, .int .i64 112, .int .i64 128, .int .i64 160, .int .i64 192, .int .i64 224, .int .i64 256, .int .i64 320, .int .i64 384, .int .i64 448, .int .i64 512] from rfl] at hW2'
  rw [← hW2']
  have HB2 : Hid (Below w.heap.size w W2) := by rw [hW2]; exact HB.out.alloc HB.out.size _
  have HCL : Hid (Calls Tryz.prog 119 #[.slice (some ⟨w1.heap.size, 0, none⟩) 16 16] W2 fun e w' => ∃ v', e = .returned v' ∧ w'.ownsRow W2.heap.size 3 1 v' 16 ((tabI.take 16).map (Value.int .i64)) ∧ v' ≠ .slice none 0 0 ∧ Below W2.heap.size W2 w') :=
    Tryz.slices_Clone_int w1.heap.size 0 16 16 tabI W2 (by decide) (by decide) fun j hj => by
      rw [hW2, Nat.zero_add, cell_of_block (heap_alloc_new _ _), List.getElem?_toArray]
      unfold intsV
      rw [List.getElem?_map, List.getElem?_eq_getElem hj, List.getD_eq_getElem?_getD, List.getElem?_eq_getElem hj]
      rfl
  clear hW2 hW2'
  generalize w1.heap.size = b at *
  go_wp2_with (fail)
  refine HCL.out.mono ?_
  rintro e w3 ⟨v, rfl, hrow, -, hb3⟩
  obtain ⟨p, c, rfl⟩ := own_slice2 hrow
  have HB3 := Lib.hid (Below.via hb3 HB2.out.size HB2.out)
  clear hrow hb3
  go_wp2
  go_ret
  exact ⟨p, c, rfl, HB3.out⟩
set_option maxHeartbeats 400000 in
theorem gPages_any (gr cl pages a b c : Nat) (p : GPl) (l : List Run) (E : List PE) (w : World) (h : GroundAt w gr cl p pages l E a b c) :
    Calls Tryz.prog 80 #[.pointer (some ⟨gr, 0, none⟩)] w fun e w' => e = .returned (.int .i64 pages) ∧ w = w' := by
  obtain ⟨-, -, -, -, c4⟩ := h.cells
  clear h
  go_enter Tryz.func80, Tryz.ntmps80
  go_wp2
  go_ret
  exact ⟨rfl, rfl⟩

def R0 : Nat → List Nat := fun _ => []
theorem init_invO (pages : Nat) (hT : Tile 0 (initR pages) pages) : OInv pages ⟨initR pages, [], R0⟩ :=
  ⟨hT, List.Pairwise.nil, fun x hx => absurd hx List.not_mem_nil, fun x hx => absurd hx List.not_mem_nil, fun x hx => absurd hx List.not_mem_nil, fun _ _ q hq => absurd hq List.not_mem_nil, fun _ _ => List.nodup_nil⟩
theorem init_goodO (pages : Nat) (hT : Tile 0 (initR pages) pages) : OGood pages ⟨initR pages, [], R0⟩ := ⟨init_invO pages hT, fun _ _ => Nat.zero_le _⟩
theorem freeN_initO (pages : Nat) : freeN (initR pages) = pages := by
  unfold initR
  split
  · next h => rw [h]; rfl
  · rw [freeN_cons]
    simp [freeN]
def NewPostO (w : World) (gr cl pages n : Nat) (e : Ending) (w' : World) : Prop :=
  ∃ H : OHL, e = .returned (.pointer (some ⟨H.h, 0, none⟩)) ∧ H.gr = gr ∧ H.cl = cl ∧ H.left = [] ∧ H.G = [] ∧ H.c = 0 ∧ OHeapM w' H pages ⟨initR pages, [], R0⟩ ∧ (∀ k, H.F k → n ≤ k) ∧ Below w.heap.size w w'
set_option maxRecDepth 8000 in
set_option maxHeartbeats 2000000 in
theorem hNewO_yes {w : World} {gr cl pages : Nat} {p : GPl} (hg : GroundAt w gr cl p pages (initR pages) (List.replicate 64 none) 0 0 0) (ht : Tab w) {n : Nat} (hn : n ≤ w.heap.size) (hn0 : 0 < n) (h1 : n ≤ gr) (h4 : ∀ k, p.F k → n ≤ k) :
    Calls Tryz.prog 36 #[.pointer (some ⟨gr, 0, none⟩)] w (NewPostO w gr cl pages n) := by
  have hpm := hg.map.most
  have HPG := Lib.hid (gPages_any gr cl pages 0 0 0 p _ _ w hg)
  have HSZ := Lib.hid (asizes_any w)
  have HRN := Lib.hid (fun W => rNew_yes (pages / 4) (by omega) W)
  have hq2 : wrap64 ((pages : Int) / 4) = (pages : Int) / 4 := by unfold wrap64; omega
  have HG := Lib.hid (And.intro hg ht)
  have hmm := @run_makeMap Tryz.prog
  clear hg ht hpm
  go_enter Tryz.func36, Tryz.ntmps36
  go_wp2_with (fail)
  refine HPG.out.mono ?_
  rintro e w1 ⟨rfl, rfl⟩
  go_wp2_with (fail)
  refine HSZ.out.mono ?_
  rintro e w1 ⟨ps, cs, rfl, hb1⟩
  have HB1 := Lib.hid hb1
  clear hb1
  go_wp2_with (fail)
  rw [show ((pages : Int) / 4) = ((pages / 4 : Nat) : Int) by omega]
  refine (HRN.out _).mono ?_
  rintro e w2 ⟨rg, ib, lb, rfl, hr, r1, r2, r3, hb2⟩
  have hs1 := HB1.out.size
  have HB2 := Lib.hid (Below.via hb2 HB1.out.size HB1.out)
  have HR := Lib.hid hr
  have HRS : Hid (w.heap.size ≤ rg ∧ w.heap.size ≤ ib ∧ w.heap.size ≤ lb) := ⟨by omega, by omega, by omega⟩
  have hs2 := hb2.size
  clear hr r1 r2 r3 hb2
  go_wp2
  go_ret
  obtain ⟨W3, hW3⟩ : ∃ W3, W3 = w2.alloc (.map #[] 0) := ⟨_, rfl⟩
  obtain ⟨W4, hW4⟩ : ∃ W4, W4 = W3.alloc (.cells #[.pointer (some ⟨gr, 0, none⟩), .map (some w2.heap.size), .pointer (some ⟨rg, 0, none⟩)] 80) := ⟨_, rfl⟩
  have hb3 : Below w2.heap.size w2 W3 := by rw [hW3]; exact (Below.refl _ _).alloc (Nat.le_refl _) _
  have hz3 : W3.heap.size = w2.heap.size + 1 := by rw [hW3]; simp
  have hm3 : W3.heap[w2.heap.size]? = some (.map #[] 0) := by rw [hW3]; show (w2.heap.push _)[w2.heap.size]? = _; exact Array.getElem?_push_size
  have hb4 : Below W3.heap.size W3 W4 := by rw [hW4]; exact (Below.refl _ _).alloc (Nat.le_refl _) _
  have ho4 : W4.heap[W3.heap.size]? = some (.cells #[.pointer (some ⟨gr, 0, none⟩), .map (some w2.heap.size), .pointer (some ⟨rg, 0, none⟩)] 80 (0, 0)) := by rw [hW4]; exact heap_alloc_new _ _
  have hm4 := (hb4.block _ (by omega)).trans hm3
  have hb24 : Below w2.heap.size w2 W4 := Below.via hb4 (by omega) hb3
  have hb : Below w.heap.size w W4 := Below.via hb24 HB2.out.size HB2.out
  have hsw := HB2.out.size
  obtain ⟨hg, ht⟩ := HG.out
  have hgl : ∀ k, p.F k → k < w.heap.size := by
    rintro k (hk | hk | hk | hk | hk | hk | hk)
    · rw [hk]; exact hg.spans.lt.1
    · exact (hg.spans.lt.2 k hk).1
    · rw [hk]; exact lt_of_block hg.map.obj
    · rw [hk]; exact lt_of_block hg.map.root
    · exact lt_of_block (hg.map.leaf k hk).1
    · rw [hk]; exact hg.led.lt.1
    · rw [hk]; exact hg.led.lt.2.1
  have hF : ∀ k, (OHL.mk W3.heap.size w2.heap.size 0 gr cl rg ib lb p (List.replicate 64 none) 0 0 [] [] []).F k → n ≤ k := by
    obtain ⟨s1, s2, s3⟩ := HRS.out
    rintro k (hk | hk | hk | hk | hk | hk | ⟨y, hy, -⟩)
    · have e : k = W3.heap.size := hk; omega
    · have e : k = w2.heap.size := hk; omega
    · have e : k = gr := hk; omega
    · have e : k = rg := hk; omega
    · rcases hk with hk | hk
      · have e : k = ib := hk; omega
      · have e : k = lb := hk; omega
    · exact h4 k hk
    · exact absurd hy List.not_mem_nil
  have hend : NewPostO w gr cl pages n (.returned (.pointer (some ⟨W3.heap.size, 0, none⟩))) W4 := by
    refine ⟨⟨W3.heap.size, w2.heap.size, 0, gr, cl, rg, ib, lb, p, List.replicate 64 none, 0, 0, [], [], []⟩, rfl, rfl, rfl, rfl, rfl, rfl, ⟨ho4, hg.below hb, HR.out.below hb24, hm4, ?_, ht.below hb, ?_, fun y hy => absurd hy List.not_mem_nil, ⟨List.nodup_nil, List.nodup_nil, List.nodup_nil, List.nodup_nil, fun y hy => absurd hy List.not_mem_nil⟩, .nil,
      ⟨hg.spans.tile, List.Pairwise.nil, fun x hx => absurd hx List.not_mem_nil, fun x hx => absurd hx List.not_mem_nil, fun x hx => absurd hx List.not_mem_nil, List.nodup_nil⟩, ⟨fun x hx => absurd hx List.not_mem_nil, ?_, fun g hg => absurd hg List.not_mem_nil, ?_, List.nodup_nil, rfl⟩, freeN_initO pages, rfl⟩, hF, hb⟩
    · intro e
      have := hgl _ e
      exact absurd this (by show ¬ w2.heap.size < w.heap.size; omega)
    · intro e
      have := hF 0 e
      omega
    · intro k e st hk
      rw [List.getD_eq_getElem?_getD, List.getElem?_replicate] at hk
      split at hk <;> cases hk
    · intro k e st hk
      rw [List.getD_eq_getElem?_getD, List.getElem?_replicate] at hk
      split at hk <;> cases hk
  rw [hW4, hW3] at hend
  simpa using hend

end Go.Proofs.YtlljejmblmjjnaaGreatDoor
