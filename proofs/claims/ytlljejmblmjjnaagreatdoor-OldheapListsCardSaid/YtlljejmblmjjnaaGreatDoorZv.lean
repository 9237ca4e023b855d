/- ring: slices.Repeat of one link, of one list's ends; New. -/
import Derived.Test.YtlljejmblmjjnaaGreatDoorZu
import Derived.Test.YtlljejmblmjjnaaGreatDoorDB
import Derived.Laws.MakeOwn
import Derived.Deep.Cut
import Derived.OrdersHeld
import Derived.WalkKit
import Derived.WalkSpells
import Derived.WalkLawsBesides
import Derived.BigQuiet
import Derived.Lib.Hide
namespace Go.Proofs.YtlljejmblmjjnaaGreatDoor
set_option linter.unusedVariables false
set_option linter.unusedSimpArgs false
open Go.RowKit Go.ChangeMaps

theorem addr_add3 (g o k : Nat) : (⟨g, o, none⟩ : Addr).add k = ⟨g, o + k, none⟩ := by unfold Addr.add; split <;> simp_all
section
variable {P : Program}
theorem wp_copy_is {w : World} {o : Oper} {a : Act} {K : Act → World → Prop} {Q : Exit → Act → World → Prop} (d s : Operand) (dT sT : TypeId)
    (ho : o.op = .call { callee := .builtin .copy, args := #[d, s], argTypes := #[dT, sT] }) (elem : TypeId) (hu : P.underlying dT = some (.slice elem)) (size : Nat) (hsz : (P.info? elem).map (·.size) = some size) (hs0 : 0 < size)
    (dp sp : Option Addr) (dLen dCap sLen sCap : Nat) (hd : a.eval d = .slice dp dLen dCap) (hs : a.eval s = .slice sp sLen sCap)
    (g off : Nat) (cur : List Value) (t : TypeId) (hg : w.heap[g]? = some (.cells cur.toArray t (0, 0))) (cs : List Value) (hn : cs.length = Nat.min sLen dLen * size)
    (hpos : 0 < cs.length → dp = some ⟨g, off, none⟩ ∧ ∃ ad, sp = some ad ∧ ∀ j v, cs[j]? = some v → w.cell? (ad.add j) = some v)
    (hfit : off + cs.length ≤ cur.length) (h1 : ∀ v ∈ cs, v.oneCell' = true)
    (h : ∀ w', Hid (w'.heap[g]? = some (.cells (splice cur off cs).toArray t (0, 0))) → Hid (Turned (fun k => k = g) w w') → K (a.put o.dst (goInt (Nat.min sLen dLen))) w') :
    o.wp P a w K Q := by
  by_cases h0 : Nat.min sLen dLen = 0
  · have hrun := run_copy_none_n (P := P) w dT sT o.type elem dp sp dLen dCap sLen sCap hu size hsz h0
    have hc : cs = [] := List.eq_nil_of_length_eq_zero (by rw [hn, h0, Nat.zero_mul])
    unfold Oper.wp
    simp [execOp, ho, resolve, invoke, builtin, hd, hs, hrun, Result.andThen]
    rw [h0] at h
    refine h w (show _ = _ from ?_) (Turned.refl _ _)
    rw [hg, hc]
    simp [splice]
  · obtain ⟨rfl, ad, rfl, hsrc⟩ := hpos (by rw [hn]; exact Nat.mul_pos (Nat.pos_of_ne_zero h0) hs0)
    have hrun := run_copy_rown (P := P) w dT sT o.type elem size g off dLen dCap ad sLen sCap cur t cs hu hsz hg hn hsrc hfit h1
    unfold Oper.wp
    simp [execOp, ho, resolve, invoke, builtin, hd, hs, hrun, Result.andThen]
    exact h _ (show _ = _ from setRow_heap w g _ _ t _ hg) (turned_setRow _ _ _)
theorem wpList_copy_is {w : World} {ops : Array Oper} {rest : List Oper} {o : Oper} {a : Act} {Q : Exit → Act → World → Prop} (hgd : o.guard = none) (d s : Operand) (dT sT : TypeId)
    (ho : o.op = .call { callee := .builtin .copy, args := #[d, s], argTypes := #[dT, sT] }) (elem : TypeId) (hu : P.underlying dT = some (.slice elem)) (size : Nat) (hsz : (P.info? elem).map (·.size) = some size) (hs0 : 0 < size)
    (dp sp : Option Addr) (dLen dCap sLen sCap : Nat) (hd : a.eval d = .slice dp dLen dCap) (hs : a.eval s = .slice sp sLen sCap)
    (g off : Nat) (cur : List Value) (t : TypeId) (hg : w.heap[g]? = some (.cells cur.toArray t (0, 0))) (cs : List Value) (hn : cs.length = Nat.min sLen dLen * size)
    (hpos : 0 < cs.length → dp = some ⟨g, off, none⟩ ∧ ∃ ad, sp = some ad ∧ ∀ j v, cs[j]? = some v → w.cell? (ad.add j) = some v)
    (hfit : off + cs.length ≤ cur.length) (h1 : ∀ v ∈ cs, v.oneCell' = true)
    (h : ∀ w', Hid (w'.heap[g]? = some (.cells (splice cur off cs).toArray t (0, 0))) → Hid (Turned (fun k => k = g) w w') → wpList P ops Q rest (a.put o.dst (goInt (Nat.min sLen dLen))) w') :
    wpList P ops Q (o :: rest) a w :=
  wpList_plain hgd fun _ hK => wp_copy_is d s dT sT ho elem hu size hsz hs0 dp sp dLen dCap sLen sCap hd hs g off cur t hg cs hn hpos hfit h1 fun w' h2 h3 => hK _ _ (h w' h2 h3)
end
def rep3 (t : Tri) (k : Nat) : List Value := (List.replicate k t).flatMap triV
theorem rep3_length (t : Tri) : ∀ k, (rep3 t k).length = k * 3
  | 0 => rfl
  | k + 1 => by
    show ((List.replicate (k + 1) t).flatMap triV).length = _
    rw [List.replicate_succ, List.flatMap_cons, List.length_append, show ((List.replicate k t).flatMap triV).length = k * 3 from rep3_length t k]
    show 3 + k * 3 = _
    omega
theorem rep3_add (t : Tri) (a b : Nat) : rep3 t (a + b) = rep3 t a ++ rep3 t b := by
  unfold rep3
  rw [← List.flatMap_append, List.replicate_append_replicate]
theorem rep3_take (t : Tri) {a b : Nat} (h : a ≤ b) : (rep3 t b).take (a * 3) = rep3 t a := by
  obtain ⟨c, rfl⟩ := Nat.exists_eq_add_of_le h
  rw [rep3_add, List.take_append_of_le_length (by rw [rep3_length]; omega), List.take_of_length_le (by rw [rep3_length]; omega)]
theorem rep3_one (t : Tri) (k : Nat) : ∀ v ∈ rep3 t k, v.oneCell' = true := by
  intro v hv
  obtain ⟨x, -, hx⟩ := List.mem_flatMap.1 hv
  simp only [triV, List.mem_cons, List.mem_nil_iff, or_false] at hx
  rcases hx with rfl | rfl | rfl <;> rfl

theorem info_link : (Tryz.prog.info? 187).map (fun i => (i.zero, i.size, i.bytes)) = some (some (.agg #[.int .i64 0, .int .i64 0, .int .i64 0]), 3, 24) := by kernel_rfl
theorem und_link : Tryz.prog.underlying 184 = some (.slice 187) := by kernel_rfl
theorem run_make_link (m : Nat) (hm : m ≤ 4096) (w : World) : ∃ cur : List Value, cur.length = m * 3 ∧ (Instr.makeSlice 184 (.int .i64 m) (.int .i64 m)).run Tryz.prog w = .ok (.slice (some ⟨w.heap.size, 0, none⟩) m m) (w.alloc (.cells cur.toArray 187)) := by
  obtain ⟨i0, hi, hz0, hz1, hz2⟩ := info_parts info_link
  refine ⟨(madeCells (Value.cells (.agg #[.int .i64 0, .int .i64 0, .int .i64 0])) (m * 3)).toList, by rw [Array.length_toList, size_madeCells], ?_⟩
  have := run_make (P := Tryz.prog) w _ _ i0 _ und_link hi hz0 .i64 .i64 m m (by omega) (by omega) (by rw [hz2]; omega) (by omega)
  rw [this, hz1]
  simp only [Int.toNat_natCast, Array.toArray_toList]
set_option maxRecDepth 8000 in
set_option maxHeartbeats 2000000 in
theorem repeat_link (t : Tri) (m : Nat) (hm : m ≤ 4096) (g : Nat) (w : World) (hg : w.heap[g]? = some (.cells (trisC [t]) 187 (0, 0))) :
    Calls Tryz.prog 116 #[.slice (some ⟨g, 0, none⟩) 1 1, .int .i64 m] w fun e w' => ∃ b, e = .returned (.slice (some ⟨b, 0, none⟩) m m) ∧ w.heap.size ≤ b ∧ w'.heap[b]? = some (.cells (trisC (List.replicate m t)) 187 (0, 0)) ∧ Below w.heap.size w w' := by
  have HMU : Hid (∀ W, Calls Tryz.prog 147 #[.int .u64 1, .int .u64 m] W fun e w' => e = .returned (.tuple #[.int .u64 0, .int .u64 m]) ∧ w' = W) := fun W => by
    have := Tryz.bits_Mul 1 m (by omega) (by omega) W
    rw [Nat.one_mul, Nat.div_eq_of_lt (by omega), Nat.mod_eq_of_lt (by omega)] at this
    exact this
  obtain ⟨cur0, hcl, hmk⟩ := run_make_link m hm w
  have HG := Lib.hid hg
  have hgl := lt_of_block hg
  have HM := Lib.hid hm
  have hm0 : ¬ (m : Int) < 0 := by omega
  have hm1 : ¬ (9223372036854775807 : Int) < m := by omega
  have hwu : IntKind.u64.wrap (m : Int) = (m : Int) := by rw [IntKind.wrap_u64]; omega
  have hwi : IntKind.i64.wrap (m : Int) = (m : Int) := by rw [IntKind.wrap_i64]; omega
  clear hg
  go_enter Tryz.func116, Tryz.ntmps116
  go_wp2_with (fail)
  refine (HMU.out _).mono ?_
  rintro e w1 ⟨rfl, rfl⟩
  go_upto_region 7 with (fail)
  obtain ⟨W2, hW2⟩ : ∃ W2, W2 = w1.alloc (.cells cur0.toArray 187) := ⟨_, rfl⟩
  have HG2 : Hid (W2.heap[w1.heap.size]? = some (.cells cur0.toArray 187 (0, 0))) := by rw [hW2]; exact heap_alloc_new _ _
  have hB2 : Below w1.heap.size w1 W2 := by rw [hW2]; exact (Below.refl _ _).alloc (Nat.le_refl _) _
  have HB2 := Lib.hid hB2
  have HGS : Hid (∀ j v, (rep3 t (Nat.min 1 m))[j]? = some v → W2.cell? ((⟨g, 0, none⟩ : Addr).add j) = some v) := fun j v hv => by
    have hg2 := (hB2.block _ hgl).trans HG.out
    rw [addr_add3, Nat.zero_add, cell_of_block hg2]
    have e : rep3 t (Nat.min 1 m) = (rep3 t 1).take (Nat.min 1 m * 3) := (rep3_take t (Nat.min_le_left 1 m)).symm
    rw [e] at hv
    show (rep3 t 1).toArray[j]? = _
    rw [List.getElem?_toArray]
    rw [List.getElem?_take] at hv
    split at hv
    · exact hv
    · cases hv
  rw [← hW2]
  clear hW2 hB2 hmk
  have HCL := Lib.hid hcl
  generalize hbe : w1.heap.size = b at *
  have HBE : Hid (w1.heap.size = b) := hbe
  clear hbe
  go_upto_region 8 with (refine wpList_copy_is rfl _ _ 184 184 rfl 187 und_link 3 (by kernel_rfl) (by decide) _ _ _ _ _ _ rfl rfl b 0 cur0 _ HG2.out (rep3 t (Nat.min 1 m)) (rep3_length t _) (fun _ => ⟨rfl, _, rfl, HGS.out⟩) (by rw [rep3_length, HCL.out, Nat.zero_add]; exact Nat.mul_le_mul_right _ (Nat.min_le_right 1 m)) (rep3_one t _) ?_; intro wA HGA TA)
  have HS0 : Hid ((splice cur0 0 (rep3 t (Nat.min 1 m))).length = m * 3 ∧ (splice cur0 0 (rep3 t (Nat.min 1 m))).take (Nat.min 1 m * 3) = rep3 t (Nat.min 1 m)) := by
    have hl := rep3_length t (Nat.min 1 m)
    have hmn := Nat.min_le_right 1 m
    have hcl := HCL.out
    refine ⟨by rw [length_splice _ _ _ (by rw [hl, hcl, Nat.zero_add]; exact Nat.mul_le_mul_right _ hmn)]; exact hcl, ?_⟩
    unfold splice
    rw [List.take_zero, List.nil_append, List.take_append_of_le_length (by omega), List.take_of_length_le (by omega)]
  have hb0 : ∃ k : Nat, k = Nat.min 1 m ∧ k ≤ m ∧ (m = 0 ∨ 1 ≤ k) := ⟨_, rfl, Nat.min_le_right 1 m, by have : Nat.min 1 m = min 1 m := rfl; omega⟩
  obtain ⟨k0, hk0, hk1, hk2⟩ := hb0
  rw [← hk0] at HS0 HGA ⊢
  have HK0 : Hid (k0 ≤ m ∧ (m = 0 ∨ 1 ≤ k0)) := ⟨hk1, hk2⟩
  clear hk0 hk1 hk2 hcl hwu
  go_loopw [8] (fun i wr => ∃ (k : Nat) (cur : List Value), i = .int .i64 k ∧ k ≤ m ∧ (m = 0 ∨ 1 ≤ k) ∧ wr.heap[b]? = some (.cells cur.toArray 187 (0, 0)) ∧ cur.length = m * 3 ∧ cur.take (k * 3) = rep3 t k ∧ Turned (fun j => j = b) W2 wr) (fun i _ => m - (intOf i).toNat)
  case atStart => exact ⟨k0, _, rfl, HK0.out.1, HK0.out.2, HGA.out, HS0.out.1, HS0.out.2, TA.out⟩
  case round =>
    obtain ⟨k, cur, rfl, hk, hkm, hgr, hcl, htk, htu⟩ := hrel
    by_cases hlt : k < m
    · have HR := Lib.hid (And.intro hgr (And.intro hcl (And.intro htk htu)))
      have hkl : ¬ m ≤ k := by omega
      have hk1 : (0 : Int) ≤ (k : Int) ∧ (k : Int) ≤ m := by omega
      have hk2 : (k : Int) ≤ (m : Int) := by omega
      have hk3 : ¬ (k : Int) < 0 := by omega
      have hk4 : ¬ (m : Int) < (k : Int) := by omega
      have hki : (k : Int) < (m : Int) := by omega
      clear hgr hcl htk htu
      go_upto_region 9 with (fail)
      refine wp_region_held_drew (S := fun _ : World => True) (by kernel_rfl) ?_ (fun hHeld0 => ?_)
      · exact trivial
      (refine wpAnyH_take (i := 0) (v := ?_) rfl (by kernel_rfl) (by kernel_rfl) (by kernel_rfl) (fun _ _ _ h => h) (Or.inl ⟨by rfl, ?_⟩) (by assumption) ?_; rotate_left; focus (intro w hSw; (try dsimp only at hSw); go_simp; first | done | with_reducible rfl); (try simp only [Act.put, List.setIfInBounds_toArray, List.set_cons_zero, List.set_cons_succ, List.getElem_toArray, List.getElem_cons_zero, List.getElem_cons_succ]))
      (refine wpAnyH_take (i := 1) (v := ?_) rfl (by kernel_rfl) (by kernel_rfl) (by kernel_rfl) (fun _ _ _ h => h) (Or.inl ⟨by rfl, ?_⟩) (by assumption) ?_; rotate_left; focus (intro w hSw; (try dsimp only at hSw); go_simp; first | done | with_reducible rfl); (try simp only [Act.put, List.setIfInBounds_toArray, List.set_cons_zero, List.set_cons_succ, List.getElem_toArray, List.getElem_cons_zero, List.getElem_cons_succ]))
      (refine wpAnyH_take (i := 2) (v := ?_) rfl (by kernel_rfl) (by kernel_rfl) (by kernel_rfl) (fun _ _ _ h => h) (Or.inl ⟨by rfl, ?_⟩) (by assumption) ?_; rotate_left; focus (intro w hSw; (try dsimp only at hSw); go_simp; first | done | with_reducible rfl); (try simp only [Act.put, List.setIfInBounds_toArray, List.set_cons_zero, List.set_cons_succ, List.getElem_toArray, List.getElem_cons_zero, List.getElem_cons_succ]))
      (refine wpAnyH_take (i := 3) (v := ?_) rfl (by kernel_rfl) (by kernel_rfl) (by kernel_rfl) (fun _ _ _ h => h) (Or.inl ⟨by rfl, ?_⟩) (by assumption) ?_; rotate_left; focus (intro w hSw; (try dsimp only at hSw); go_simp; first | done | with_reducible rfl); (try simp only [Act.put, List.setIfInBounds_toArray, List.set_cons_zero, List.set_cons_succ, List.getElem_toArray, List.getElem_cons_zero, List.getElem_cons_succ]))
      (refine wpAnyH_take (i := 4) (v := ?_) rfl (by kernel_rfl) (by kernel_rfl) (by kernel_rfl) (fun _ _ _ h => h) (Or.inl ⟨by rfl, ?_⟩) (by assumption) ?_; rotate_left; focus (intro w hSw; (try dsimp only at hSw); go_simp; first | done | with_reducible rfl); (try simp only [Act.put, List.setIfInBounds_toArray, List.set_cons_zero, List.set_cons_succ, List.getElem_toArray, List.getElem_cons_zero, List.getElem_cons_succ]))
      (refine wpAnyH_take (i := 5) (v := ?_) rfl (by kernel_rfl) (by kernel_rfl) (by kernel_rfl) (fun _ _ _ h => h) (Or.inl ⟨by rfl, ?_⟩) (by assumption) ?_; rotate_left; focus (intro w hSw; (try dsimp only at hSw); go_simp; first | done | with_reducible rfl); (try simp only [Act.put, List.setIfInBounds_toArray, List.set_cons_zero, List.set_cons_succ, List.getElem_toArray, List.getElem_cons_zero, List.getElem_cons_succ]))
      (refine wpAnyH_take (i := 6) (v := ?_) rfl (by kernel_rfl) (by kernel_rfl) (by kernel_rfl) (fun _ _ _ h => h) (Or.inl ⟨by rfl, ?_⟩) (by assumption) ?_; rotate_left; focus (intro w hSw; (try dsimp only at hSw); go_simp; first | done | with_reducible rfl); (try simp only [Act.put, List.setIfInBounds_toArray, List.set_cons_zero, List.set_cons_succ, List.getElem_toArray, List.getElem_cons_zero, List.getElem_cons_succ]))
      refine wpAnyH_ready (rs := [7]) (by kernel_rfl) (by simp) ?_
      refine AllReadyH.cons rfl (fun K hK => ?_) AllReadyH.nil
      go_simp
      have hmk : ¬ m = k := by omega
      obtain ⟨c, hc⟩ : ∃ c : Nat, c = Nat.min k (m - k) := ⟨_, rfl⟩
      have hc1 : c ≤ k ∧ c ≤ m - k ∧ 1 ≤ c := by
        have : Nat.min k (m - k) = min k (m - k) := rfl
        rw [hc, this]
        omega
      have hrun : ∃ W9, (Builtin.copy_ #[184, 184] 3 #[.slice (some ⟨b, k * 3, none⟩) (m - k) (m - k), .slice (some ⟨b, 0, none⟩) k m]).run Tryz.prog wr.drew = .ok (goInt c) W9 ∧ W9.heap[b]? = some (.cells (splice cur (k * 3) (rep3 t c)).toArray 187 (0, 0)) ∧ Turned (fun j => j = b) wr.drew W9 := by
        obtain ⟨hgr, hcl, htk, htu⟩ := HR.out
        have hgd : wr.drew.heap[b]? = some (.cells cur.toArray 187 (0, 0)) := hgr
        have hrr := run_copy_rown (P := Tryz.prog) wr.drew 184 184 3 187 3 b (k * 3) (m - k) (m - k) ⟨b, 0, none⟩ k m cur _ (rep3 t c) und_link (by kernel_rfl) hgd (by rw [rep3_length, hc]) (fun j v hv => ?_) (by rw [rep3_length, hcl]; omega) (rep3_one t c)
        · rw [← hc] at hrr
          exact ⟨_, hrr, setRow_heap _ _ _ _ _ _ hgd, turned_setRow _ _ _⟩
        rw [addr_add3, Nat.zero_add, cell_of_block hgd, List.getElem?_toArray]
        rw [← rep3_take t hc1.1, ← htk, List.take_take, List.getElem?_take] at hv
        split at hv
        · exact hv
        · cases hv
      obtain ⟨W9, hrun, hg9, ht9⟩ := hrun
      have HQ9 : Hid (∃ cur' : List Value, W9.heap[b]? = some (.cells cur'.toArray 187 (0, 0)) ∧ cur'.length = m * 3 ∧ cur'.take ((k + c) * 3) = rep3 t (k + c) ∧ Turned (fun j => j = b) W2 W9) := by
        obtain ⟨hgr, hcl, htk, htu⟩ := HR.out
        have hrl := rep3_length t c
        refine ⟨_, hg9, by rw [length_splice _ _ _ (by omega)]; exact hcl, ?_, htu.drew.trans ht9 (fun _ h _ => h)⟩
        unfold splice
        rw [htk, rep3_add, show (k + c) * 3 = (rep3 t k).length + c * 3 by rw [rep3_length]; omega, List.take_length_add_append, List.take_append_of_le_length (by omega), List.take_of_length_le (by omega)]
      have HCC : Hid (c ≤ m - k ∧ 1 ≤ c) := hc1.2
      have hkw : IntKind.i64.wrap ((k : Int) + (c : Int)) = (k : Int) + (c : Int) := by rw [IntKind.wrap_i64]; omega
      have hrun2 : (Builtin.copy_ #[184, 184] 3 #[.slice (some ⟨b, k * 3, none⟩) (m - k) (m - k), .slice (some ⟨b, 0, none⟩) k m]).run Tryz.prog wr.drew = .ok (.int .i64 c) W9 := hrun
      clear hc hc1 hg9 ht9 hrun
      rw [if_neg hmk, hrun2]
      go_simp
      refine hK.out _ _ trivial (fun hHeld => ?_)
      clear hK K hrun2 hHeld0
      (refine wpAnyH_take (i := 8) (v := ?_) rfl (by kernel_rfl) (by kernel_rfl) (by kernel_rfl) (fun _ _ _ h => h) (Or.inl ⟨by rfl, ?_⟩) (by assumption) ?_; rotate_left; focus (intro w hSw; (try dsimp only at hSw); go_simp; first | done | with_reducible rfl); (try simp only [Act.put, List.setIfInBounds_toArray, List.set_cons_zero, List.set_cons_succ, List.getElem_toArray, List.getElem_cons_zero, List.getElem_cons_succ]))
      (refine wpAnyH_take (i := 9) (v := ?_) rfl (by kernel_rfl) (by kernel_rfl) (by kernel_rfl) (fun _ _ _ h => h) (Or.inl ⟨by rfl, ?_⟩) (by assumption) ?_; rotate_left; focus (intro w hSw; (try dsimp only at hSw); go_simp; first | done | with_reducible rfl); (try simp only [Act.put, List.setIfInBounds_toArray, List.set_cons_zero, List.set_cons_succ, List.getElem_toArray, List.getElem_cons_zero, List.getElem_cons_succ]))
      refine wpAnyH_done (by kernel_rfl) ?_ _
      clear hHeld
      go_wp2
      go_roundw
      case rel =>
        obtain ⟨cur', q1, q2, q3, q4⟩ := HQ9.out
        have := HCC.out
        refine ⟨k + c, by omega, ?_⟩
        first | exact ⟨cur', by omega, by omega, q1, q2, q3, q4⟩ | exact ⟨by omega, by omega, cur', q1, q2, q3, q4⟩ | exact ⟨by omega, cur', by omega, q1, q2, q3, q4⟩
      case measure => have := HCC.out; simp [intOf]; omega
    · obtain rfl : k = m := by omega
      have hl : cur = rep3 t k := by rw [← htk, List.take_of_length_le (by omega)]
      have HF : Hid (wr.heap[b]? = some (.cells (trisC (List.replicate k t)) 187 (0, 0)) ∧ Below b w1 wr) := by
        refine ⟨by rw [hgr, hl]; rfl, HB2.out.trans (htu.below (B := b) (fun j hj => Nat.le_of_eq hj.symm) ?_)⟩
        have := lt_of_block HG2.out
        omega
      clear hgr hcl htk htu hl
      go_wp2
      go_ret
      refine ⟨b, rfl, Nat.le_of_eq HBE.out, HF.out.1, ?_⟩
      rw [HBE.out]
      exact HF.out.2
theorem info_ends : (Tryz.prog.info? 166).map (fun i => (i.zero, i.size, i.bytes)) = some (some (.agg #[.int .i64 0, .int .i64 0, .int .i64 0]), 3, 24) := by kernel_rfl
theorem und_ends : Tryz.prog.underlying 188 = some (.slice 166) := by kernel_rfl
theorem run_make_ends (m : Nat) (hm : m ≤ 4096) (w : World) : ∃ cur : List Value, cur.length = m * 3 ∧ (Instr.makeSlice 188 (.int .i64 m) (.int .i64 m)).run Tryz.prog w = .ok (.slice (some ⟨w.heap.size, 0, none⟩) m m) (w.alloc (.cells cur.toArray 166)) := by
  obtain ⟨i0, hi, hz0, hz1, hz2⟩ := info_parts info_ends
  refine ⟨(madeCells (Value.cells (.agg #[.int .i64 0, .int .i64 0, .int .i64 0])) (m * 3)).toList, by rw [Array.length_toList, size_madeCells], ?_⟩
  have := run_make (P := Tryz.prog) w _ _ i0 _ und_ends hi hz0 .i64 .i64 m m (by omega) (by omega) (by rw [hz2]; omega) (by omega)
  rw [this, hz1]
  simp only [Int.toNat_natCast, Array.toArray_toList]
set_option maxRecDepth 8000 in
set_option maxHeartbeats 2000000 in
theorem repeat_ends (t : Tri) (m : Nat) (hm : m ≤ 4096) (g : Nat) (w : World) (hg : w.heap[g]? = some (.cells (trisC [t]) 166 (0, 0))) :
    Calls Tryz.prog 117 #[.slice (some ⟨g, 0, none⟩) 1 1, .int .i64 m] w fun e w' => ∃ b, e = .returned (.slice (some ⟨b, 0, none⟩) m m) ∧ w.heap.size ≤ b ∧ w'.heap[b]? = some (.cells (trisC (List.replicate m t)) 166 (0, 0)) ∧ Below w.heap.size w w' := by
  have HMU : Hid (∀ W, Calls Tryz.prog 147 #[.int .u64 1, .int .u64 m] W fun e w' => e = .returned (.tuple #[.int .u64 0, .int .u64 m]) ∧ w' = W) := fun W => by
    have := Tryz.bits_Mul 1 m (by omega) (by omega) W
    rw [Nat.one_mul, Nat.div_eq_of_lt (by omega), Nat.mod_eq_of_lt (by omega)] at this
    exact this
  obtain ⟨cur0, hcl, hmk⟩ := run_make_ends m hm w
  have HG := Lib.hid hg
  have hgl := lt_of_block hg
  have HM := Lib.hid hm
  have hm0 : ¬ (m : Int) < 0 := by omega
  have hm1 : ¬ (9223372036854775807 : Int) < m := by omega
  have hwu : IntKind.u64.wrap (m : Int) = (m : Int) := by rw [IntKind.wrap_u64]; omega
  have hwi : IntKind.i64.wrap (m : Int) = (m : Int) := by rw [IntKind.wrap_i64]; omega
  clear hg
  go_enter Tryz.func117, Tryz.ntmps117
  go_wp2_with (fail)
  refine (HMU.out _).mono ?_
  rintro e w1 ⟨rfl, rfl⟩
  go_upto_region 7 with (fail)
  obtain ⟨W2, hW2⟩ : ∃ W2, W2 = w1.alloc (.cells cur0.toArray 166) := ⟨_, rfl⟩
  have HG2 : Hid (W2.heap[w1.heap.size]? = some (.cells cur0.toArray 166 (0, 0))) := by rw [hW2]; exact heap_alloc_new _ _
  have hB2 : Below w1.heap.size w1 W2 := by rw [hW2]; exact (Below.refl _ _).alloc (Nat.le_refl _) _
  have HB2 := Lib.hid hB2
  have HGS : Hid (∀ j v, (rep3 t (Nat.min 1 m))[j]? = some v → W2.cell? ((⟨g, 0, none⟩ : Addr).add j) = some v) := fun j v hv => by
    have hg2 := (hB2.block _ hgl).trans HG.out
    rw [addr_add3, Nat.zero_add, cell_of_block hg2]
    have e : rep3 t (Nat.min 1 m) = (rep3 t 1).take (Nat.min 1 m * 3) := (rep3_take t (Nat.min_le_left 1 m)).symm
    rw [e] at hv
    show (rep3 t 1).toArray[j]? = _
    rw [List.getElem?_toArray]
    rw [List.getElem?_take] at hv
    split at hv
    · exact hv
    · cases hv
  rw [← hW2]
  clear hW2 hB2 hmk
  have HCL := Lib.hid hcl
  generalize hbe : w1.heap.size = b at *
  have HBE : Hid (w1.heap.size = b) := hbe
  clear hbe
  go_upto_region 8 with (refine wpList_copy_is rfl _ _ 188 188 rfl 166 und_ends 3 (by kernel_rfl) (by decide) _ _ _ _ _ _ rfl rfl b 0 cur0 _ HG2.out (rep3 t (Nat.min 1 m)) (rep3_length t _) (fun _ => ⟨rfl, _, rfl, HGS.out⟩) (by rw [rep3_length, HCL.out, Nat.zero_add]; exact Nat.mul_le_mul_right _ (Nat.min_le_right 1 m)) (rep3_one t _) ?_; intro wA HGA TA)
  have HS0 : Hid ((splice cur0 0 (rep3 t (Nat.min 1 m))).length = m * 3 ∧ (splice cur0 0 (rep3 t (Nat.min 1 m))).take (Nat.min 1 m * 3) = rep3 t (Nat.min 1 m)) := by
    have hl := rep3_length t (Nat.min 1 m)
    have hmn := Nat.min_le_right 1 m
    have hcl := HCL.out
    refine ⟨by rw [length_splice _ _ _ (by rw [hl, hcl, Nat.zero_add]; exact Nat.mul_le_mul_right _ hmn)]; exact hcl, ?_⟩
    unfold splice
    rw [List.take_zero, List.nil_append, List.take_append_of_le_length (by omega), List.take_of_length_le (by omega)]
  have hb0 : ∃ k : Nat, k = Nat.min 1 m ∧ k ≤ m ∧ (m = 0 ∨ 1 ≤ k) := ⟨_, rfl, Nat.min_le_right 1 m, by have : Nat.min 1 m = min 1 m := rfl; omega⟩
  obtain ⟨k0, hk0, hk1, hk2⟩ := hb0
  rw [← hk0] at HS0 HGA ⊢
  have HK0 : Hid (k0 ≤ m ∧ (m = 0 ∨ 1 ≤ k0)) := ⟨hk1, hk2⟩
  clear hk0 hk1 hk2 hcl hwu
  go_loopw [8] (fun i wr => ∃ (k : Nat) (cur : List Value), i = .int .i64 k ∧ k ≤ m ∧ (m = 0 ∨ 1 ≤ k) ∧ wr.heap[b]? = some (.cells cur.toArray 166 (0, 0)) ∧ cur.length = m * 3 ∧ cur.take (k * 3) = rep3 t k ∧ Turned (fun j => j = b) W2 wr) (fun i _ => m - (intOf i).toNat)
  case atStart => exact ⟨k0, _, rfl, HK0.out.1, HK0.out.2, HGA.out, HS0.out.1, HS0.out.2, TA.out⟩
  case round =>
    obtain ⟨k, cur, rfl, hk, hkm, hgr, hcl, htk, htu⟩ := hrel
    by_cases hlt : k < m
    · have HR := Lib.hid (And.intro hgr (And.intro hcl (And.intro htk htu)))
      have hkl : ¬ m ≤ k := by omega
      have hk1 : (0 : Int) ≤ (k : Int) ∧ (k : Int) ≤ m := by omega
      have hk2 : (k : Int) ≤ (m : Int) := by omega
      have hk3 : ¬ (k : Int) < 0 := by omega
      have hk4 : ¬ (m : Int) < (k : Int) := by omega
      have hki : (k : Int) < (m : Int) := by omega
      clear hgr hcl htk htu
      go_upto_region 9 with (fail)
      refine wp_region_held_drew (S := fun _ : World => True) (by kernel_rfl) ?_ (fun hHeld0 => ?_)
      · exact trivial
      (refine wpAnyH_take (i := 0) (v := ?_) rfl (by kernel_rfl) (by kernel_rfl) (by kernel_rfl) (fun _ _ _ h => h) (Or.inl ⟨by rfl, ?_⟩) (by assumption) ?_; rotate_left; focus (intro w hSw; (try dsimp only at hSw); go_simp; first | done | with_reducible rfl); (try simp only [Act.put, List.setIfInBounds_toArray, List.set_cons_zero, List.set_cons_succ, List.getElem_toArray, List.getElem_cons_zero, List.getElem_cons_succ]))
      (refine wpAnyH_take (i := 1) (v := ?_) rfl (by kernel_rfl) (by kernel_rfl) (by kernel_rfl) (fun _ _ _ h => h) (Or.inl ⟨by rfl, ?_⟩) (by assumption) ?_; rotate_left; focus (intro w hSw; (try dsimp only at hSw); go_simp; first | done | with_reducible rfl); (try simp only [Act.put, List.setIfInBounds_toArray, List.set_cons_zero, List.set_cons_succ, List.getElem_toArray, List.getElem_cons_zero, List.getElem_cons_succ]))
      (refine wpAnyH_take (i := 2) (v := ?_) rfl (by kernel_rfl) (by kernel_rfl) (by kernel_rfl) (fun _ _ _ h => h) (Or.inl ⟨by rfl, ?_⟩) (by assumption) ?_; rotate_left; focus (intro w hSw; (try dsimp only at hSw); go_simp; first | done | with_reducible rfl); (try simp only [Act.put, List.setIfInBounds_toArray, List.set_cons_zero, List.set_cons_succ, List.getElem_toArray, List.getElem_cons_zero, List.getElem_cons_succ]))
      (refine wpAnyH_take (i := 3) (v := ?_) rfl (by kernel_rfl) (by kernel_rfl) (by kernel_rfl) (fun _ _ _ h => h) (Or.inl ⟨by rfl, ?_⟩) (by assumption) ?_; rotate_left; focus (intro w hSw; (try dsimp only at hSw); go_simp; first | done | with_reducible rfl); (try simp only [Act.put, List.setIfInBounds_toArray, List.set_cons_zero, List.set_cons_succ, List.getElem_toArray, List.getElem_cons_zero, List.getElem_cons_succ]))
      (refine wpAnyH_take (i := 4) (v := ?_) rfl (by kernel_rfl) (by kernel_rfl) (by kernel_rfl) (fun _ _ _ h => h) (Or.inl ⟨by rfl, ?_⟩) (by assumption) ?_; rotate_left; focus (intro w hSw; (try dsimp only at hSw); go_simp; first | done | with_reducible rfl); (try simp only [Act.put, List.setIfInBounds_toArray, List.set_cons_zero, List.set_cons_succ, List.getElem_toArray, List.getElem_cons_zero, List.getElem_cons_succ]))
      (refine wpAnyH_take (i := 5) (v := ?_) rfl (by kernel_rfl) (by kernel_rfl) (by kernel_rfl) (fun _ _ _ h => h) (Or.inl ⟨by rfl, ?_⟩) (by assumption) ?_; rotate_left; focus (intro w hSw; (try dsimp only at hSw); go_simp; first | done | with_reducible rfl); (try simp only [Act.put, List.setIfInBounds_toArray, List.set_cons_zero, List.set_cons_succ, List.getElem_toArray, List.getElem_cons_zero, List.getElem_cons_succ]))
      (refine wpAnyH_take (i := 6) (v := ?_) rfl (by kernel_rfl) (by kernel_rfl) (by kernel_rfl) (fun _ _ _ h => h) (Or.inl ⟨by rfl, ?_⟩) (by assumption) ?_; rotate_left; focus (intro w hSw; (try dsimp only at hSw); go_simp; first | done | with_reducible rfl); (try simp only [Act.put, List.setIfInBounds_toArray, List.set_cons_zero, List.set_cons_succ, List.getElem_toArray, List.getElem_cons_zero, List.getElem_cons_succ]))
      refine wpAnyH_ready (rs := [7]) (by kernel_rfl) (by simp) ?_
      refine AllReadyH.cons rfl (fun K hK => ?_) AllReadyH.nil
      go_simp
      have hmk : ¬ m = k := by omega
      obtain ⟨c, hc⟩ : ∃ c : Nat, c = Nat.min k (m - k) := ⟨_, rfl⟩
      have hc1 : c ≤ k ∧ c ≤ m - k ∧ 1 ≤ c := by
        have : Nat.min k (m - k) = min k (m - k) := rfl
        rw [hc, this]
        omega
      have hrun : ∃ W9, (Builtin.copy_ #[188, 188] 3 #[.slice (some ⟨b, k * 3, none⟩) (m - k) (m - k), .slice (some ⟨b, 0, none⟩) k m]).run Tryz.prog wr.drew = .ok (goInt c) W9 ∧ W9.heap[b]? = some (.cells (splice cur (k * 3) (rep3 t c)).toArray 166 (0, 0)) ∧ Turned (fun j => j = b) wr.drew W9 := by
        obtain ⟨hgr, hcl, htk, htu⟩ := HR.out
        have hgd : wr.drew.heap[b]? = some (.cells cur.toArray 166 (0, 0)) := hgr
        have hrr := run_copy_rown (P := Tryz.prog) wr.drew 188 188 3 166 3 b (k * 3) (m - k) (m - k) ⟨b, 0, none⟩ k m cur _ (rep3 t c) und_ends (by kernel_rfl) hgd (by rw [rep3_length, hc]) (fun j v hv => ?_) (by rw [rep3_length, hcl]; omega) (rep3_one t c)
        · rw [← hc] at hrr
          exact ⟨_, hrr, setRow_heap _ _ _ _ _ _ hgd, turned_setRow _ _ _⟩
        rw [addr_add3, Nat.zero_add, cell_of_block hgd, List.getElem?_toArray]
        rw [← rep3_take t hc1.1, ← htk, List.take_take, List.getElem?_take] at hv
        split at hv
        · exact hv
        · cases hv
      obtain ⟨W9, hrun, hg9, ht9⟩ := hrun
      have HQ9 : Hid (∃ cur' : List Value, W9.heap[b]? = some (.cells cur'.toArray 166 (0, 0)) ∧ cur'.length = m * 3 ∧ cur'.take ((k + c) * 3) = rep3 t (k + c) ∧ Turned (fun j => j = b) W2 W9) := by
        obtain ⟨hgr, hcl, htk, htu⟩ := HR.out
        have hrl := rep3_length t c
        refine ⟨_, hg9, by rw [length_splice _ _ _ (by omega)]; exact hcl, ?_, htu.drew.trans ht9 (fun _ h _ => h)⟩
        unfold splice
        rw [htk, rep3_add, show (k + c) * 3 = (rep3 t k).length + c * 3 by rw [rep3_length]; omega, List.take_length_add_append, List.take_append_of_le_length (by omega), List.take_of_length_le (by omega)]
      have HCC : Hid (c ≤ m - k ∧ 1 ≤ c) := hc1.2
      have hkw : IntKind.i64.wrap ((k : Int) + (c : Int)) = (k : Int) + (c : Int) := by rw [IntKind.wrap_i64]; omega
      have hrun2 : (Builtin.copy_ #[188, 188] 3 #[.slice (some ⟨b, k * 3, none⟩) (m - k) (m - k), .slice (some ⟨b, 0, none⟩) k m]).run Tryz.prog wr.drew = .ok (.int .i64 c) W9 := hrun
      clear hc hc1 hg9 ht9 hrun
      rw [if_neg hmk, hrun2]
      go_simp
      refine hK.out _ _ trivial (fun hHeld => ?_)
      clear hK K hrun2 hHeld0
      (refine wpAnyH_take (i := 8) (v := ?_) rfl (by kernel_rfl) (by kernel_rfl) (by kernel_rfl) (fun _ _ _ h => h) (Or.inl ⟨by rfl, ?_⟩) (by assumption) ?_; rotate_left; focus (intro w hSw; (try dsimp only at hSw); go_simp; first | done | with_reducible rfl); (try simp only [Act.put, List.setIfInBounds_toArray, List.set_cons_zero, List.set_cons_succ, List.getElem_toArray, List.getElem_cons_zero, List.getElem_cons_succ]))
      (refine wpAnyH_take (i := 9) (v := ?_) rfl (by kernel_rfl) (by kernel_rfl) (by kernel_rfl) (fun _ _ _ h => h) (Or.inl ⟨by rfl, ?_⟩) (by assumption) ?_; rotate_left; focus (intro w hSw; (try dsimp only at hSw); go_simp; first | done | with_reducible rfl); (try simp only [Act.put, List.setIfInBounds_toArray, List.set_cons_zero, List.set_cons_succ, List.getElem_toArray, List.getElem_cons_zero, List.getElem_cons_succ]))
      refine wpAnyH_done (by kernel_rfl) ?_ _
      clear hHeld
      go_wp2
      go_roundw
      case rel =>
        obtain ⟨cur', q1, q2, q3, q4⟩ := HQ9.out
        have := HCC.out
        refine ⟨k + c, by omega, ?_⟩
        first | exact ⟨cur', by omega, by omega, q1, q2, q3, q4⟩ | exact ⟨by omega, by omega, cur', q1, q2, q3, q4⟩ | exact ⟨by omega, cur', by omega, q1, q2, q3, q4⟩
      case measure => have := HCC.out; simp [intOf]; omega
    · obtain rfl : k = m := by omega
      have hl : cur = rep3 t k := by rw [← htk, List.take_of_length_le (by omega)]
      have HF : Hid (wr.heap[b]? = some (.cells (trisC (List.replicate k t)) 166 (0, 0)) ∧ Below b w1 wr) := by
        refine ⟨by rw [hgr, hl]; rfl, HB2.out.trans (htu.below (B := b) (fun j hj => Nat.le_of_eq hj.symm) ?_)⟩
        have := lt_of_block HG2.out
        omega
      clear hgr hcl htk htu hl
      go_wp2
      go_ret
      refine ⟨b, rfl, Nat.le_of_eq HBE.out, HF.out.1, ?_⟩
      rw [HBE.out]
      exact HF.out.2

end Go.Proofs.YtlljejmblmjjnaaGreatDoor
