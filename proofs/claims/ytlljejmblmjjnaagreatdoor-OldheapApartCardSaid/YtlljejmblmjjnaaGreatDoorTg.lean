/- OldheapBack: its walk. (printed by gen_tg.py) -/
import Derived.Test.YtlljejmblmjjnaaGreatDoorTe
import Derived.Test.YtlljejmblmjjnaaGreatDoorTf
import Derived.OrdersHeld
import Derived.Laws.AppendOwnNone
import Derived.Deep.RegionHeld3
import Derived.WalkKit
import Derived.WalkSpells
import Derived.WalkLawsBesides
import Derived.BigQuiet
import Derived.Lib.Hide
namespace Go.Proofs.YtlljejmblmjjnaaGreatDoor
set_option linter.unusedVariables false
set_option linter.unusedSimpArgs false
open Go.RowKit Go.ChangeMaps

theorem greatB_false {n : Int} {k : Nat} (h : greatB n k = false) : n ≤ 60 ∧ k ≤ 60 := by
  unfold greatB at h
  simp only [Bool.or_eq_false_iff, decide_eq_false_iff_not] at h
  omega
theorem step_append_none {P : Program} {ops : Array Oper} {o : Oper} {a : Act} {w : World} {K : Act → World → Prop} {Q : Exit → Act → World → Prop} {E : Prop} (hgd : o.guard = none) (s x : Operand) (t : TypeId)
    (ho : o.op = .call { callee := .builtin .append, args := #[s, x], argTypes := #[t, t] })
    (base : Nat) (e : TypeId) (i : TypeInfo) (size : Nat) (ht : P.underlying t = some (.slice e)) (hi : P.info? e = some i)
    (v : Value) (n : Nat) (xs : List Value) (hs : a.eval s = v) (hown : w.ownsRow base e size v n xs) (hx : a.eval x = .slice none 0 0)
    (h : K (a.put o.dst v) w) : if Region.wanted o (yielded ops a.tmps) = true then Oper.wp P o a w K Q else E := by
  have hw : Region.wanted o (yielded ops a.tmps) = true := by simp [Region.wanted, hgd]
  rw [if_pos hw]
  have hrun := run_append_owned_none (P := P) (w := w) base t o.type e i size ht hi v n xs hown
  unfold Oper.wp
  simp [execOp, ho, resolve, invoke, builtin, hs, hx, hrun, Result.andThen]
  exact h
theorem news_drop {T : List Int} {W : World} {g : Nat} (k : Nat) (h : ∀ i (_ : i < T.length), W.cell? ⟨g, i, none⟩ = some (.int .i64 T[i])) : ∀ (j : Nat) (u : Value), (intsV (T.drop k))[j]? = some u → W.cell? ((⟨g, k, none⟩ : Addr).add j) = some u := by
  intro j u hu
  unfold intsV at hu
  rw [List.getElem?_map, List.getElem?_drop] at hu
  by_cases hj : k + j < T.length
  · rw [List.getElem?_eq_getElem hj] at hu
    cases hu
    have := h _ hj
    unfold Addr.add
    by_cases h0 : j = 0
    · subst h0; simpa using this
    · rw [if_neg h0]; exact this
  · rw [List.getElem?_eq_none (by omega)] at hu
    cases hu
theorem news_take {T : List Int} {W : World} {g : Nat} (k : Nat) (h : ∀ i (_ : i < T.length), W.cell? ⟨g, i, none⟩ = some (.int .i64 T[i])) : ∀ (j : Nat) (u : Value), (intsV (T.take k))[j]? = some u → W.cell? ((⟨g, 0, none⟩ : Addr).add j) = some u := by
  intro j u hu
  unfold intsV at hu
  rw [List.getElem?_map, List.getElem?_take] at hu
  by_cases hj : j < k
  · rw [if_pos hj] at hu
    by_cases hl : j < T.length
    · rw [List.getElem?_eq_getElem hl] at hu
      cases hu
      have := h _ hl
      unfold Addr.add
      by_cases h0 : j = 0
      · subst h0; simpa using this
      · rw [if_neg h0]; simpa using this
    · rw [List.getElem?_eq_none (by omega)] at hu
      cases hu
  · rw [if_neg hj] at hu
    cases hu
theorem news_none {T : List Int} {W : World} {g : Nat} {k : Nat} (h : T.length ≤ k) : ∀ (j : Nat) (u : Value), (intsV (T.drop k))[j]? = some u → W.cell? ((⟨g, 0, none⟩ : Addr).add j) = some u := by
  intro j u hu
  rw [List.drop_eq_nil_of_le h] at hu
  cases hu
theorem own_base {w : World} {base n size : Nat} {e : TypeId} {v : Value} {xs : List Value} (h : w.ownsRow base e size v n xs) : ∀ j, v.ownBlock = some j → base ≤ j := by
  rcases h.2 with ⟨rfl, -⟩ | ⟨g, cap, cur, rfl, hb, -⟩
  · intro j e; cases e
  · intro j e; cases e; exact hb
theorem ints_one' (l : List Int) : ∀ u ∈ intsV l, u.oneCell' = true := by
  intro u hu
  unfold intsV at hu
  obtain ⟨a, -, rfl⟩ := List.mem_map.1 hu
  rfl
theorem tail_of6 {P G : Value → World → Value → Value → Value → Value → Prop} {Goal : Prop} (h1 : (∀ a b c d e f, P a b c d e f → G a b c d e f) → Goal) (h2 : ∀ a b c d e f, P a b c d e f → G a b c d e f) : Goal := h1 h2

/-- The region of a number, and the code behind it. -/
def regionAt (n : Nat) : Code → Option (Code × Code)
  | .seq (.region id l d) b => if id = n then some (.region id l d, b) else regionAt n b
  | .seq a b => match regionAt n a with
    | some c => some c
    | none => regionAt n b
  | .loop c => regionAt n c
  | .block _ c => regionAt n c
  | .scope c => regionAt n c
  | .cond _ a b => match regionAt n a with
    | some c => some c
    | none => regionAt n b
  | _ => none
noncomputable def backR : Code := ((Tryz.f5.body.bind (regionAt 16)).map (·.1)).getD .skip
noncomputable def backK : Code := ((Tryz.f5.body.bind (regionAt 16)).map (·.2)).getD .skip

set_option maxRecDepth 100000 in
set_option maxHeartbeats 80000000 in
theorem back_end {t1 t3 t4 t5 t6 t8 t9 t11 t12 t13 t14 t15 t16 t17 t18 t19 t20 t21 t22 t23 t24 t25 t26 t27 t28 t29 t30 t31 t32 t33 t34 t35 t36 t37 t38 t39 t40 t41 t42 t43 t44 t45 t46 t47 t48 t49 t50 t51 t52 t53 t54 t55 t56 t57 t58 t59 t60 t61 t62 t63 t64 t65 t66 t67 t68 t69 t70 t71 t72 t73 t74 t75 t76 t77 t78 t79 t80 t81 t82 t83 t84 t85 t86 t87 t88 t89 t90 t91 t92 t93 t94 t95 t96 t97 t98 t99 t100 t101 t102 t103 t104 t105 t106 t107 t108 t109 t110 t111 t112 t113 t114 t115 t116 t117 t118 t119 t120 t121 t122 t123 t124 t125 t126 t127 t128 t129 t130 t131 t132 t133 t134 t135 t136 t137 t138 t139 t140 t141 t142 t143 t144 t145 t146 t147 : Value} {n : Int} {pages k c3 : Nat} {p3 : Option Addr} {T : List Int} {w w1 w2 w3 : World} {x : Nat} {H : OHL} {s : OP} (hn : n = pages) (hB1 : Below w.heap.size w w1) (hI2 : QuietI w1 w2 x (.slice none 0 0) H pages s) (hb3 : Below w2.heap.size w2 w3)
    (hint : w3.ownsRow w2.heap.size 3 1 (.slice p3 T.length c3) T.length (intsV T)) (hTT : takenOP s.A = T) (hkn : k ≤ T.length) (K : Act → World → Prop) (Q : Exit → Act → World → Prop) (hQ : Q = bodyPost Tryz.prog Tryz.f5 fun e w' => e = .returned (.bool true) ∧ Below w.heap.size w w') (hK : ∀ a w, Code.wp Tryz.prog backK Q a w → K a w) :
    Code.wp Tryz.prog backR (Exit.then K Q) ⟨#[.int .i64 n, t1, .int .i64 (k : Int), t3, t4, t5, t6, .pointer (some ⟨x, 0, none⟩), t8, t9, .slice p3 T.length c3, t11, t12, t13, t14, t15, t16, t17, t18, t19, t20, t21, t22, t23, t24, t25, t26, t27, t28, t29, t30, t31, t32, t33, t34, t35, t36, t37, t38, t39, t40, t41, t42, t43, t44, t45, t46, t47, t48, t49, t50, t51, t52, t53, t54, t55, t56, t57, t58, t59, t60, t61, t62, t63, t64, t65, t66, t67, t68, t69, t70, t71, t72, t73, t74, t75, t76, t77, t78, t79, t80, t81, t82, t83, t84, t85, t86, t87, t88, t89, t90, t91, t92, t93, t94, t95, t96, t97, t98, t99, t100, t101, t102, t103, t104, t105, t106, t107, t108, t109, t110, t111, t112, t113, t114, t115, t116, t117, t118, t119, t120, t121, t122, t123, t124, t125, t126, t127, t128, t129, t130, t131, t132, t133, t134, t135, t136, t137, t138, t139, t140, t141, t142, t143, t144, t145, t146, t147], []⟩ w3 := by
  obtain ⟨bd1, bd2, bd3⟩ := hI2.at_.heap.bound
  have hb2s := hI2.below.size
  have hbnd : T.length ≤ 10000 := by
    have h1 := takenOP_bound hI2.good.inv.each
    rw [hTT] at h1
    omega
  have HI2 := Lib.hid hI2
  have HI3 := Lib.hid (hI2.below' hb3)
  have HINT := Lib.hid hint
  have HTT := Lib.hid hTT
  have HNP := Lib.hid hn
  have HB1 := Lib.hid hB1
  clear hI2 hb3 hint hTT hn hB1 bd3
  subst hQ
  conv => arg 2; whnf
  conv at hK => enter [a, w, 1, 2]; whnf
  obtain ⟨i0, hi, hz0, hz1, hz2⟩ := info_parts info_int2
  have hint := HINT.out
  clear HINT
  rcases hint.2 with ⟨hv, hn0⟩ | ⟨g, c3', cur, hv, hgb, hblk, hgc, hc3, hcs, htk⟩
  · simp only [Value.slice.injEq] at hv
    obtain ⟨rfl, hT0, rfl⟩ := hv
    have hk0 : k = 0 := by omega
    simp only [hk0, hT0, Int.natCast_zero, Int.lt_irrefl, decide_false, Nat.lt_irrefl, Bool.or_false, Nat.not_lt_zero]
    refine wp_region_held_drew (S := fun _ : World => True) (by kernel_rfl) trivial (fun hHeld0 => ?_)
    (refine wpAnyH_take (i := 1) (v := ?_) rfl (by kernel_rfl) (by kernel_rfl) (by kernel_rfl) (fun _ _ _ h => h) (Or.inl ⟨by rfl, ?_⟩) (by assumption) ?_; rotate_left; focus (intro w hSw; (try dsimp only at hSw); go_simp; first | done | with_reducible rfl); (try simp only [Act.put, List.setIfInBounds_toArray, List.set_cons_zero, List.set_cons_succ, List.getElem_toArray, List.getElem_cons_zero, List.getElem_cons_succ]))
    (refine wpAnyH_take (i := 2) (v := ?_) rfl (by kernel_rfl) (by kernel_rfl) (by kernel_rfl) (fun _ _ _ h => h) (Or.inl ⟨by rfl, ?_⟩) (by assumption) ?_; rotate_left; focus (intro w hSw; (try dsimp only at hSw); go_simp; first | done | with_reducible rfl); (try simp only [Act.put, List.setIfInBounds_toArray, List.set_cons_zero, List.set_cons_succ, List.getElem_toArray, List.getElem_cons_zero, List.getElem_cons_succ]))
    (refine wpAnyH_take (i := 3) (v := ?_) rfl (by kernel_rfl) (by kernel_rfl) (by kernel_rfl) (fun _ _ _ h => h) (Or.inl ⟨by rfl, ?_⟩) (by assumption) ?_; rotate_left; focus (intro w hSw; (try dsimp only at hSw); go_simp; first | done | with_reducible rfl); (try simp only [Act.put, List.setIfInBounds_toArray, List.set_cons_zero, List.set_cons_succ, List.getElem_toArray, List.getElem_cons_zero, List.getElem_cons_succ]))
    (refine wpAnyH_take (i := 5) (v := ?_) rfl (by kernel_rfl) (by kernel_rfl) (by kernel_rfl) (fun _ _ _ h => h) (Or.inl ⟨by rfl, ?_⟩) (by assumption) ?_; rotate_left; focus (intro w hSw; (try dsimp only at hSw); go_simp; first | done | with_reducible rfl); (try simp only [Act.put, List.setIfInBounds_toArray, List.set_cons_zero, List.set_cons_succ, List.getElem_toArray, List.getElem_cons_zero, List.getElem_cons_succ]))
    (refine wpAnyH_take (i := 6) (v := ?_) rfl (by kernel_rfl) (by kernel_rfl) (by kernel_rfl) (fun _ _ _ h => h) (Or.inl ⟨by rfl, ?_⟩) (by assumption) ?_; rotate_left; focus (intro w hSw; (try dsimp only at hSw); go_simp; first | done | with_reducible rfl); (try simp only [Act.put, List.setIfInBounds_toArray, List.set_cons_zero, List.set_cons_succ, List.getElem_toArray, List.getElem_cons_zero, List.getElem_cons_succ]))
    (refine wpAnyH_take (i := 7) (v := ?_) rfl (by kernel_rfl) (by kernel_rfl) (by kernel_rfl) (fun _ _ _ h => h) (Or.inl ⟨by rfl, ?_⟩) (by assumption) ?_; rotate_left; focus (intro w hSw; (try dsimp only at hSw); go_simp; first | done | with_reducible rfl); (try simp only [Act.put, List.setIfInBounds_toArray, List.set_cons_zero, List.set_cons_succ, List.getElem_toArray, List.getElem_cons_zero, List.getElem_cons_succ]))
    refine wpAnyH_ready (rs := [0]) (by kernel_rfl) (by simp) ?_
    refine AllReadyH.cons rfl (fun K hK => ?_) AllReadyH.nil
    go_simp
    refine hK.out _ _ trivial (fun hHeld => ?_)
    clear hK K
    (try simp only [Act.put, List.setIfInBounds_toArray, List.set_cons_zero, List.set_cons_succ, List.getElem_toArray, List.getElem_cons_zero, List.getElem_cons_succ])
    have hb9 : Below w3.heap.size w3 (w3.alloc (.cells #[] 3)).drew := Below.drew (Below.alloc (Below.refl _ _) (Nat.le_refl _) _)
    have HOWN0 : Hid ((w3.alloc (.cells #[] 3)).drew.ownsRow w3.heap.size 3 1 (.slice (some ⟨w3.heap.size, 0, none⟩) 0 0) 0 []) := ⟨rfl, .inr ⟨_, 0, #[], rfl, Nat.le_refl _, heap_alloc_new w3 _, Nat.le_refl _, by decide, rfl, rfl⟩⟩
    refine wpAnyH_ready (rs := [4]) (by kernel_rfl) (by simp) ?_
    refine AllReadyH.cons rfl (fun K hK => ?_) AllReadyH.nil
    refine step_append_none rfl _ _ 38 rfl w3.heap.size 3 i0 1 Tryz.underlying38 hi (.slice (some ⟨w3.heap.size, 0, none⟩) 0 0) 0 [] rfl HOWN0.out rfl ?_
    refine hK.out _ _ trivial (fun hHeld => ?_)
    clear hK K
    (try simp only [Act.put, List.setIfInBounds_toArray, List.set_cons_zero, List.set_cons_succ, List.getElem_toArray, List.getElem_cons_zero, List.getElem_cons_succ])
    refine wpAnyH_ready (rs := [8]) (by kernel_rfl) (by simp) ?_
    refine AllReadyH.cons rfl (fun K hK => ?_) AllReadyH.nil
    refine step_append_none rfl _ _ 38 rfl w3.heap.size 3 i0 1 Tryz.underlying38 hi (.slice (some ⟨w3.heap.size, 0, none⟩) 0 0) 0 [] rfl HOWN0.out rfl ?_
    refine hK.out _ _ trivial (fun hHeld => ?_)
    clear hK K
    (try simp only [Act.put, List.setIfInBounds_toArray, List.set_cons_zero, List.set_cons_succ, List.getElem_toArray, List.getElem_cons_zero, List.getElem_cons_succ])
    (refine wpAnyH_take (i := 9) (v := ?_) rfl (by kernel_rfl) (by kernel_rfl) (by kernel_rfl) (fun _ _ _ h => h) (Or.inl ⟨by rfl, ?_⟩) (by assumption) ?_; rotate_left; focus (intro w hSw; (try dsimp only at hSw); go_simp; first | done | with_reducible rfl); (try simp only [Act.put, List.setIfInBounds_toArray, List.set_cons_zero, List.set_cons_succ, List.getElem_toArray, List.getElem_cons_zero, List.getElem_cons_succ]))
    refine wpAnyH_done (by kernel_rfl) ?_ _
    (try simp only [Act.put, List.setIfInBounds_toArray, List.set_cons_zero, List.set_cons_succ, List.getElem_toArray, List.getElem_cons_zero, List.getElem_cons_succ])
    have hown : (w3.alloc (.cells #[] 3)).drew.ownsRow w3.heap.size 3 1 (.slice (some ⟨w3.heap.size, 0, none⟩) 0 0) T.length (intsV (turnI T k)) := by
      have h1 := HOWN0.out
      have h2 : turnI T k = [] := by rw [List.eq_nil_of_length_eq_zero hT0]; unfold turnI; simp
      rw [hT0, h2]
      exact h1
    have hb4 := hb9
    clear hb9 HOWN0 hint hHeld0
    generalize (w3.alloc (.cells #[] 3)).drew = w4 at *
    generalize Value.slice (some ⟨w3.heap.size, 0, none⟩) 0 0 = v at *
    clear hT0 hk0
    obtain ⟨p4, c4, rfl⟩ := own_slice2 hown
    have HI4 := Lib.hid (HI3.out.below' hb4)
    have HND := Lib.hid (turnI_nodup (k := k) (takenOP_nodup HI2.out.good.inv))
    have HMEM : Hid (∀ a, a ∈ turnI T k ↔ TknO s.A a) := fun a => by rw [turnI_mem, ← HTT.out]; exact takenOP_mem
    have hLl := turnI_length hkn
    rw [HTT.out] at HND
    (try clear HTK)
    clear hb4
    generalize turnI T k = L at *
    rw [← hLl] at hown ⊢
    have hLb : L.length ≤ 10000 := by omega
    clear hLl hkn hbnd
    have HROW4 := Lib.hid hown
    clear hown
    go_wp2
    go_loopw [11] (fun iv wq => ∃ (k : Nat) (H' : OHL), k ≤ L.length ∧ iv = .int .i64 k ∧ QuietI w1 wq x (.slice none 0 0) H' pages (givesO (L.take k) s) ∧ wq.ownsRow w3.heap.size 3 1 (.slice p4 L.length c4) L.length (intsV L)) (fun iv _ => L.length - numOf iv)
    case atStart => exact ⟨0, H, Nat.zero_le _, rfl, HI4.out, HROW4.out⟩
    case round =>
      obtain ⟨k, H1, hk, rfl, hI, hrow⟩ := hrel
      have HI := Lib.hid hI
      have HROW := Lib.hid hrow
      by_cases hlk : k < L.length
      · have HID := Lib.hid (hI.below' (Below.drew (Below.refl _ _)))
        have HROWD := Lib.hid hrow.drew
        have HGV := Lib.hid (hgiveO_any HID.out.at_.heap HID.out.good.inv L[k])
        rw [givesO_zero HI2.out.good HND.out HMEM.out hlk] at HGV
        obtain ⟨g4, cap4, hv4, -, hgc4, -, hgl4, hce4⟩ := own_cells hrow (by omega)
        cases hv4
        have hcell : ∀ W : World, W.ownsRow w3.heap.size 3 1 (.slice (some ⟨g4, 0, none⟩) L.length c4) L.length (intsV L) → W.cell? ⟨g4, k, none⟩ = some (.int .i64 L[k]) := fun W hW => by
          obtain ⟨g5, cap5, hv5, -, -, -, -, hce5⟩ := own_cells hW (by omega)
          cases hv5
          rw [hce5 k (by omega)]
          unfold intsV
          rw [List.getElem?_map, List.getElem?_eq_getElem hlk]
          rfl
        have hck := hcell _ hrow
        have HCELL4 := Lib.hid hcell
        have e1 := hI.cx
        have hki : (0 : Int) ≤ (k : Int) ∧ (k : Int) < L.length := by omega
        have hkw : IntKind.i64.wrap ((k : Int) + 1) = (k : Int) + 1 := by rw [IntKind.wrap_i64]; omega
        have HGT2 := Lib.hid (givesO_take hlk s)
        clear hI hrow hce4 hgc4 hcell
        generalize L[k] = lk at *
        go_upto_region 20 with (fail)
        refine wp_region_held_drew (S := fun W : World => W.cell? ⟨x, 1, none⟩ = some (.pointer (some ⟨H1.h, 0, none⟩)) ∧ W.cell? ⟨g4, k, none⟩ = some (.int .i64 lk)) (by kernel_rfl) ?_ (fun hHeld0 => ?_)
        · exact ⟨e1, hck⟩
        (refine wpAnyH_take (i := 0) (v := ?_) rfl (by kernel_rfl) (by kernel_rfl) (by kernel_rfl) (fun _ _ _ h => h) (Or.inl ⟨by rfl, ?_⟩) (by assumption) ?_; rotate_left; focus (intro w hSw; (try dsimp only at hSw); go_simp; first | done | with_reducible rfl); (try simp only [Act.put, List.setIfInBounds_toArray, List.set_cons_zero, List.set_cons_succ, List.getElem_toArray, List.getElem_cons_zero, List.getElem_cons_succ]))
        (refine wpAnyH_take (i := 1) (v := ?_) rfl (by kernel_rfl) (by kernel_rfl) (by kernel_rfl) (fun _ _ _ h => h) (Or.inl ⟨by rfl, ?_⟩) (by assumption) ?_; rotate_left; focus (intro w hSw; (try dsimp only at hSw); go_simp; first | done | with_reducible rfl); (try simp only [Act.put, List.setIfInBounds_toArray, List.set_cons_zero, List.set_cons_succ, List.getElem_toArray, List.getElem_cons_zero, List.getElem_cons_succ]))
        (refine wpAnyH_take (i := 2) (v := ?_) rfl (by kernel_rfl) (by kernel_rfl) (by kernel_rfl) (fun _ _ _ h => h) (Or.inl ⟨by rfl, ?_⟩) (by assumption) ?_; rotate_left; focus (intro w hSw; (try dsimp only at hSw); go_simp; first | done | with_reducible rfl); (try simp only [Act.put, List.setIfInBounds_toArray, List.set_cons_zero, List.set_cons_succ, List.getElem_toArray, List.getElem_cons_zero, List.getElem_cons_succ]))
        (refine wpAnyH_take (i := 3) (v := ?_) rfl (by kernel_rfl) (by kernel_rfl) (by kernel_rfl) (fun _ _ _ h => h) (Or.inl ⟨by rfl, ?_⟩) (by assumption) ?_; rotate_left; focus (intro w hSw; (try dsimp only at hSw); go_simp; first | done | with_reducible rfl); (try simp only [Act.put, List.setIfInBounds_toArray, List.set_cons_zero, List.set_cons_succ, List.getElem_toArray, List.getElem_cons_zero, List.getElem_cons_succ]))
        (refine wpAnyH_take (i := 4) (v := ?_) rfl (by kernel_rfl) (by kernel_rfl) (by kernel_rfl) (fun _ _ _ h => h) (Or.inl ⟨by rfl, ?_⟩) (by assumption) ?_; rotate_left; focus (intro w hSw; (try dsimp only at hSw); go_simp; first | done | with_reducible rfl); (try simp only [Act.put, List.setIfInBounds_toArray, List.set_cons_zero, List.set_cons_succ, List.getElem_toArray, List.getElem_cons_zero, List.getElem_cons_succ]))
        (refine wpAnyH_take (i := 5) (v := ?_) rfl (by kernel_rfl) (by kernel_rfl) (by kernel_rfl) (fun _ _ _ h => h) (Or.inl ⟨by rfl, ?_⟩) (by assumption) ?_; rotate_left; focus (intro w hSw; (try dsimp only at hSw); go_simp; first | done | with_reducible rfl); (try simp only [Act.put, List.setIfInBounds_toArray, List.set_cons_zero, List.set_cons_succ, List.getElem_toArray, List.getElem_cons_zero, List.getElem_cons_succ]))
        (refine wpAnyH_take (i := 6) (v := ?_) rfl (by kernel_rfl) (by kernel_rfl) (by kernel_rfl) (fun _ _ _ h => h) (Or.inl ⟨by rfl, ?_⟩) (by assumption) ?_; rotate_left; focus (intro w hSw; (try dsimp only at hSw); go_simp; first | done | with_reducible rfl); (try simp only [Act.put, List.setIfInBounds_toArray, List.set_cons_zero, List.set_cons_succ, List.getElem_toArray, List.getElem_cons_zero, List.getElem_cons_succ]))
        (refine wpAnyH_take (i := 7) (v := ?_) rfl (by kernel_rfl) (by kernel_rfl) (by kernel_rfl) (fun _ _ _ h => h) (Or.inl ⟨by rfl, ?_⟩) (by assumption) ?_; rotate_left; focus (intro w hSw; (try dsimp only at hSw); go_simp; first | done | with_reducible rfl); (try simp only [Act.put, List.setIfInBounds_toArray, List.set_cons_zero, List.set_cons_succ, List.getElem_toArray, List.getElem_cons_zero, List.getElem_cons_succ]))
        refine wpAnyH_ready (rs := [8]) (by kernel_rfl) (by simp) ?_
        refine AllReadyH.cons rfl (fun K hK => ?_) AllReadyH.nil
        go_simp
        go_wp2_with (fail)
        refine HGV.out.mono ?_
        rintro e w5 hp
        obtain ⟨H2, hI2, hh2, ht2, -⟩ := HID.out.step hp (give_goodO HI.out.good lk)
        obtain ⟨rfl, -⟩ := hp
        have HROW2 := Lib.hid (own_turnedO HROWD.out ht2 (fun g cs hg _ => HID.out.at_.heap.offT hg (by decide)))
        have e2 := hI2.cx
        rw [hh2] at e2
        rw [← HGT2.out] at hI2
        have HI5 := Lib.hid hI2
        refine hK.out _ _ ⟨e2, HCELL4.out _ HROW2.out⟩ (fun hHeld => ?_)
        clear hK K hI2 hh2 ht2 e1 hck e2 hHeld0
        (try simp only [Act.put, List.setIfInBounds_toArray, List.set_cons_zero, List.set_cons_succ, List.getElem_toArray, List.getElem_cons_zero, List.getElem_cons_succ])
        (refine wpAnyH_take (i := 9) (v := ?_) rfl (by kernel_rfl) (by kernel_rfl) (by kernel_rfl) (fun _ _ _ h => h) (Or.inl ⟨by rfl, ?_⟩) (by assumption) ?_; rotate_left; focus (intro w hSw; (try dsimp only at hSw); go_simp; first | done | with_reducible rfl); (try simp only [Act.put, List.setIfInBounds_toArray, List.set_cons_zero, List.set_cons_succ, List.getElem_toArray, List.getElem_cons_zero, List.getElem_cons_succ]))
        refine wpAnyH_done (by kernel_rfl) ?_ _
        clear hHeld
        go_wp2
        go_roundw
        case rel => exact ⟨k + 1, H2, hlk, by go_num, HI5.out, HROW2.out⟩
        case measure => simp [numOf]; omega
      · obtain rfl : k = L.length := by omega
        have HNO : Hid (∀ a, ¬ TknO (givesO (L.take L.length) s).A a) := fun a ha => by
          have := (givesO_tkn HI2.out.good HND.out HMEM.out (Nat.le_refl _) a).1 ha
          rw [List.drop_length] at this
          cases this
        obtain ⟨bd3, bd4, -⟩ := hI.at_.heap.bound
        have hsr : w1.heap.size ≤ wr.heap.size := hI.below.size
        clear hI hrow HROW
        generalize givesO (L.take L.length) s = sE at *
        have HEACH := Lib.hid HI.out.good.inv.each
        obtain ⟨wE, hwE⟩ : ∃ wE, wE = wr := ⟨_, rfl⟩
        have HIE : Hid (QuietI w1 wE x (.slice none 0 0) H1 pages sE) := by rw [hwE]; exact HI.out
        rw [← hwE] at hsr ⊢
        clear hwE HI
        go_wp2
        go_loopw [12, 13] (fun lv cv wq => ∃ (c : Nat) (t : Int), c ≤ 16 ∧ lv = .int .i64 t ∧ cv = .int .i64 c ∧ t = ((underO sE.A c).length : Nat) ∧ Below wE.heap.size wE wq) (fun _ cv _ => 16 - numOf cv)
        case atStart => exact ⟨0, 0, Nat.zero_le _, rfl, rfl, by rw [underO_zero]; rfl, Below.refl _ _⟩
        case round =>
          obtain ⟨c, t, hc, rfl, rfl, ht, hbl⟩ := hrel
          have hszr := hbl.size
          have HIr := Lib.hid (HIE.out.below' hbl)
          have HBL := Lib.hid hbl
          have hul : (underO sE.A c).length ≤ sE.A.length := List.length_filter_le _ _
          have hbt : 0 ≤ t ∧ t ≤ 64 := by omega
          have cx := HIr.out.cx
          by_cases hlt : c < 16
          · have HU := Lib.hid (underO_succ sE.A c)
            have HR := olist_any HIr.out.at_.heap c 2 hlt (by decide)
            have HR3 : Hid (∀ W, Below wr.heap.size wr W → Calls Tryz.prog 16 #[.pointer (some ⟨H1.h, 0, none⟩), .int .i64 c, .int .i64 3] W fun e w' => ∃ p q, e = .returned (.slice p 0 q) ∧ Below W.heap.size W w') := fun W hW => by
              have h9 := olist_any (HIr.out.below' hW).at_.heap c 3 hlt (by decide)
              rw [noneO_sealed HIE.out.good.inv HNO.out hlt] at h9
              refine h9.mono ?_
              rintro e w' ⟨v, rfl, hrow, hb⟩
              obtain ⟨p, q, rfl⟩ := own_slice2 hrow
              exact ⟨p, q, rfl, hb⟩
            have hm1 := HIE.out.good.one c hlt
            have hm2 := noneO_length HIE.out.good.inv HNO.out hlt
            rw [← hm2] at HU
            generalize sE.R (4 * c + 2) = R at *
            have HR := Lib.hid HR
            have hcw : IntKind.i64.wrap ((c : Int) + 1) = (c : Int) + 1 := by rw [IntKind.wrap_i64]; omega
            have HTT2 := Lib.hid ht
            clear ht hbl hul hm2
            go_wp2_with (fail)
            refine HR.out.mono ?_
            rintro e w6 ⟨v1, rfl, hrow, hb⟩
            obtain ⟨p1, cap1, rfl⟩ := own_slice2 hrow
            have HB6 := Lib.hid (Below.via hb hszr HBL.out)
            have HB6r := Lib.hid hb
            have cx6 := cell_past hb (cell_lt cx) cx
            clear hrow hb cx HR
            obtain hm | hm : R.length = 0 ∨ R.length = 1 := by omega
            · rw [hm] at HU ⊢
              clear hm hm1
              have hwt : IntKind.i64.wrap (t + 0) = t + 0 := wraps_i64 _ (by omega) (by omega)
              have HEND : Hid (t + 0 = ((underO sE.A (c + 1)).length : Nat)) := by show _ = _; rw [HU.out, HTT2.out]; simp
              go_wp2_with (fail)
              refine (HR3.out _ HB6r.out).mono ?_
              rintro e w7 ⟨p7, q7, rfl, hb7⟩
              have HB7 := Lib.hid (Below.via hb7 HB6.out.size HB6.out)
              clear hb7 cx6
              go_wp2
              go_roundw
              case rel => exact ⟨c + 1, _, by omega, by go_num, by go_num, HEND.out, HB7.out⟩
              case measure => simp [numOf]; omega
            · rw [hm] at HU ⊢
              clear hm hm1
              have hwt : IntKind.i64.wrap (t + 1) = t + 1 := wraps_i64 _ (by omega) (by omega)
              have HEND : Hid (t + 1 = ((underO sE.A (c + 1)).length : Nat)) := by show _ = _; rw [HU.out, HTT2.out]; simp
              go_wp2_with (fail)
              refine (HR3.out _ HB6r.out).mono ?_
              rintro e w7 ⟨p7, q7, rfl, hb7⟩
              have HB7 := Lib.hid (Below.via hb7 HB6.out.size HB6.out)
              clear hb7 cx6
              go_wp2
              go_roundw
              case rel => exact ⟨c + 1, _, by omega, by go_num, by go_num, HEND.out, HB7.out⟩
              case measure => simp [numOf]; omega
          · obtain rfl : c = 16 := by omega
            have hua := underO_all (A := sE.A) (fun y hy => (HEACH.out y hy).cls)
            rw [hua] at ht
            have HTK3 := Lib.hid (htakenO_any HIr.out.at_.heap)
            rw [noneO_taken HNO.out] at HTK3
            obtain ⟨e0, -, -⟩ := HIr.out.at_.cells
            have HFR : Hid (((freeN sE.l : Nat) : Int) = n - 4 * t) := by
              have h1 := HIE.out.at_.heap.num
              have h2 := HIE.out.at_.heap.cnt
              obtain ⟨h3, -, h4⟩ := HIE.out.left
              rw [h3, List.length_nil] at h2
              show _ = _
              rw [HNP.out, ht]
              omega
            have hnb : n ≤ 64 ∧ 0 ≤ n := by have := HNP.out; omega
            have hnf : 0 ≤ n - 4 * t := by rw [← HFR.out]; omega
            have hw4 : IntKind.i64.wrap (4 * t) = 4 * t := wraps_i64 _ (by omega) (by omega)
            have hwn : IntKind.i64.wrap (n - 4 * t) = n - 4 * t := wraps_i64 _ (by omega) (by omega)
            have HTT2 := Lib.hid ht
            clear ht hul hbl hua
            go_wp2_with (fail)
            refine HTK3.out.mono ?_
            rintro e w6 ⟨v6, rfl, hints, hb6⟩
            obtain ⟨p6, c6, rfl, -⟩ := hints.at
            have HB6 := Lib.hid (Below.via hb6 hszr HBL.out)
            have hs6 := HB6.out.size
            have x0 := cell_past hb6 (cell_lt e0) e0
            have x1 := cell_past hb6 (cell_lt cx) cx
            have HPG := Lib.hid (pagesO_any (HIE.out.below' HB6.out).at_.heap)
            simp only [List.length_nil]
            clear hints hb6 e0 cx
            go_wp2_with (fail)
            refine HPG.out.mono ?_
            rintro e w7 ⟨v7, rfl, hown7, hb7⟩
            obtain ⟨p7, c7, rfl⟩ := own_slice2 hown7
            have HB7 := Lib.hid (Below.via hb7 hs6 HB6.out)
            have y0 := cell_past hb7 (cell_lt x0) x0
            have HFD := Lib.hid (gFree_any H1.gr H1.cl pages H1.b 0 H1.c H1.p sE.l H1.E w7 (HIE.out.below' HB7.out).at_.heap.ground)
            rw [HFR.out] at HFD
            have htl3 : t = ((sE.A.length : Nat) : Int) := HTT2.out
            rw [htl3] at hw4 hwn HFD
            clear hown7 hb7 x0 x1
            go_wp2_with (fail)
            refine HFD.out.mono ?_
            rintro e w8 ⟨rfl, hb8⟩
            have HB8 := Lib.hid (Below.via hb8 (HB7.out.size) HB7.out)
            clear hb8
            go_wp2
            go_ret
            exact ⟨rfl, HB1.out.trans ((HIE.out.below' HB8.out).below.mono HB1.out.size)⟩
  · cases hv
    have HCELL : Hid (∀ W, Below w3.heap.size w3 W → ∀ i (_ : i < T.length), W.cell? ⟨g, i, none⟩ = some (.int .i64 T[i])) := fun W hW i hi => by
      refine cell_past hW (lt_of_block hblk) ?_
      rw [cell_of_block hblk, ← Array.getElem?_toList, ← List.getElem?_take_of_lt (show i < T.length * 1 by omega), htk]
      unfold intsV
      rw [List.getElem?_map, List.getElem?_eq_getElem hi]
      rfl
    have hkc : (k : Int) ≤ (c3 : Int) := by omega
    clear hint hblk htk hcs hgb
    apply tail_of6 (P := fun (v : Value) (W : World) (_ _ _ _ : Value) => W.ownsRow w3.heap.size 3 1 v T.length (intsV (turnI T k)) ∧ Below w3.heap.size w3 W)
    case h1 =>
      intro hT
      have HTAIL := Lib.hid hT
      clear hT
      by_cases hkc2 : ¬ c3 = k
      · have HKC := Lib.hid hkc2
        clear hkc2
        refine wp_region_held_drew (S := fun _ : World => True) (by kernel_rfl) trivial (fun hHeld0 => ?_)
        (refine wpAnyH_take (i := 1) (v := ?_) rfl (by kernel_rfl) (by kernel_rfl) (by kernel_rfl) (fun _ _ _ h => h) (Or.inl ⟨by rfl, ?_⟩) (by assumption) ?_; rotate_left; focus (intro w hSw; (try dsimp only at hSw); go_simp; first | done | with_reducible rfl); (try simp only [Act.put, List.setIfInBounds_toArray, List.set_cons_zero, List.set_cons_succ, List.getElem_toArray, List.getElem_cons_zero, List.getElem_cons_succ]))
        (refine wpAnyH_take (i := 2) (v := ?_) rfl (by kernel_rfl) (by kernel_rfl) (by kernel_rfl) (fun _ _ _ h => h) (Or.inl ⟨by rfl, ?_⟩) (by assumption) ?_; rotate_left; focus (intro w hSw; (try dsimp only at hSw); go_simp; first | done | with_reducible rfl); (try simp only [Act.put, List.setIfInBounds_toArray, List.set_cons_zero, List.set_cons_succ, List.getElem_toArray, List.getElem_cons_zero, List.getElem_cons_succ]))
        (refine wpAnyH_take (i := 3) (v := ?_) rfl (by kernel_rfl) (by kernel_rfl) (by kernel_rfl) (fun _ _ _ h => h) (Or.inl ⟨by rfl, ?_⟩) (by assumption) ?_; rotate_left; focus (intro w hSw; (try dsimp only at hSw); go_simp; first | done | with_reducible rfl); (try simp only [Act.put, List.setIfInBounds_toArray, List.set_cons_zero, List.set_cons_succ, List.getElem_toArray, List.getElem_cons_zero, List.getElem_cons_succ]))
        (refine wpAnyH_take (i := 5) (v := ?_) rfl (by kernel_rfl) (by kernel_rfl) (by kernel_rfl) (fun _ _ _ h => h) (Or.inl ⟨by rfl, ?_⟩) (by assumption) ?_; rotate_left; focus (intro w hSw; (try dsimp only at hSw); go_simp; first | done | with_reducible rfl); (try simp only [Act.put, List.setIfInBounds_toArray, List.set_cons_zero, List.set_cons_succ, List.getElem_toArray, List.getElem_cons_zero, List.getElem_cons_succ]))
        (refine wpAnyH_take (i := 6) (v := ?_) rfl (by kernel_rfl) (by kernel_rfl) (by kernel_rfl) (fun _ _ _ h => h) (Or.inl ⟨by rfl, ?_⟩) (by assumption) ?_; rotate_left; focus (intro w hSw; (try dsimp only at hSw); go_simp; first | done | with_reducible rfl); (try simp only [Act.put, List.setIfInBounds_toArray, List.set_cons_zero, List.set_cons_succ, List.getElem_toArray, List.getElem_cons_zero, List.getElem_cons_succ]))
        (refine wpAnyH_take (i := 7) (v := ?_) rfl (by kernel_rfl) (by kernel_rfl) (by kernel_rfl) (fun _ _ _ h => h) (Or.inl ⟨by rfl, ?_⟩) (by assumption) ?_; rotate_left; focus (intro w hSw; (try dsimp only at hSw); go_simp; first | done | with_reducible rfl); (try simp only [Act.put, List.setIfInBounds_toArray, List.set_cons_zero, List.set_cons_succ, List.getElem_toArray, List.getElem_cons_zero, List.getElem_cons_succ]))
        rw [if_neg HKC.out]
        refine wpAnyH_ready (rs := [0]) (by kernel_rfl) (by simp) ?_
        refine AllReadyH.cons rfl (fun K hK => ?_) AllReadyH.nil
        go_simp
        refine hK.out _ _ trivial (fun hHeld => ?_)
        clear hK K
        (try simp only [Act.put, List.setIfInBounds_toArray, List.set_cons_zero, List.set_cons_succ, List.getElem_toArray, List.getElem_cons_zero, List.getElem_cons_succ])
        have hb9 : Below w3.heap.size w3 (w3.alloc (.cells #[] 3)).drew := Below.drew (Below.alloc (Below.refl _ _) (Nat.le_refl _) _)
        have HOWN0 : Hid ((w3.alloc (.cells #[] 3)).drew.ownsRow w3.heap.size 3 1 (.slice (some ⟨w3.heap.size, 0, none⟩) 0 0) 0 []) := ⟨rfl, .inr ⟨_, 0, #[], rfl, Nat.le_refl _, heap_alloc_new w3 _, Nat.le_refl _, by decide, rfl, rfl⟩⟩
        have HN1 := Lib.hid (news_drop k (HCELL.out _ hb9))
        refine wpAnyH_ready (rs := [4]) (by kernel_rfl) (by simp) ?_
        refine AllReadyH.cons rfl (fun K hK => ?_) AllReadyH.nil
        refine step_append_own rfl _ _ 38 rfl w3.heap.size 3 i0 (.int .i64 0) 1 8 Tryz.underlying38 hi hz0 hz1 hz2 rfl (by decide) _ 0 [] rfl HOWN0.out ⟨g, k, none⟩ (T.length - k) _ (intsV (T.drop k)) rfl (by unfold intsV; rw [List.length_map, List.length_drop]; omega) HN1.out (ints_one' _) (by unfold maxLen; omega) (by omega) (by simp) ?_
        intro v5 w5 hown5 hgrow5 hnil5
        have hb5 : Below w3.heap.size w3 w5 := Below.grown hb9 hgrow5 (by simp) (fun j e => by cases e; exact Nat.le_refl _)
        have HOWN5 := Lib.hid hown5
        have HOB5 : Hid (∀ j, v5.ownBlock = some j → w3.heap.size ≤ j) := own_base hown5
        have HN2 := Lib.hid (news_take k (HCELL.out _ hb5))
        have hs5 := hb5.size
        have HB5 := Lib.hid hb5
        refine hK.out _ _ trivial (fun hHeld => ?_)
        clear hK K hown5 hgrow5 hnil5 hb9 hb5 HN1 HOWN0
        (try simp only [Act.put, List.setIfInBounds_toArray, List.set_cons_zero, List.set_cons_succ, List.getElem_toArray, List.getElem_cons_zero, List.getElem_cons_succ])
        refine wpAnyH_ready (rs := [8]) (by kernel_rfl) (by simp) ?_
        refine AllReadyH.cons rfl (fun K hK => ?_) AllReadyH.nil
        refine step_append_own rfl _ _ 38 rfl w3.heap.size 3 i0 (.int .i64 0) 1 8 Tryz.underlying38 hi hz0 hz1 hz2 rfl (by decide) v5 (0 + (T.length - k)) ([] ++ intsV (T.drop k)) rfl HOWN5.out ⟨g, 0, none⟩ k _ (intsV (T.take k)) rfl (by unfold intsV; rw [List.length_map, List.length_take]; omega) HN2.out (ints_one' _) (by unfold maxLen; omega) (by omega) hs5 ?_
        intro v6 w6 hown6 hgrow6 hnil6
        have HB6 : Hid (Below w3.heap.size w3 w6) := Below.grown HB5.out hgrow6 hs5 (fun j e => HOB5.out j e)
        have HOWN6 : Hid (w6.ownsRow w3.heap.size 3 1 v6 T.length (intsV (turnI T k))) := by
          rw [show 0 + (T.length - k) + k = T.length by omega] at hown6
          unfold turnI intsV at *
          rw [List.map_append]
          exact hown6
        refine hK.out _ _ trivial (fun hHeld => ?_)
        clear hK K hown6 hgrow6 hnil6
        (try simp only [Act.put, List.setIfInBounds_toArray, List.set_cons_zero, List.set_cons_succ, List.getElem_toArray, List.getElem_cons_zero, List.getElem_cons_succ])
        (refine wpAnyH_take (i := 9) (v := ?_) rfl (by kernel_rfl) (by kernel_rfl) (by kernel_rfl) (fun _ _ _ h => h) (Or.inl ⟨by rfl, ?_⟩) (by assumption) ?_; rotate_left; focus (intro w hSw; (try dsimp only at hSw); go_simp; first | done | with_reducible rfl); (try simp only [Act.put, List.setIfInBounds_toArray, List.set_cons_zero, List.set_cons_succ, List.getElem_toArray, List.getElem_cons_zero, List.getElem_cons_succ]))
        refine wpAnyH_done (by kernel_rfl) ?_ _
        (try simp only [Act.put, List.setIfInBounds_toArray, List.set_cons_zero, List.set_cons_succ, List.getElem_toArray, List.getElem_cons_zero, List.getElem_cons_succ])
        generalize hja : Value.slice (some ⟨w3.heap.size, 0, none⟩) 0 0 = ja
        generalize hjb : Value.slice (some ⟨g, k, none⟩) (T.length - k) (c3 - k) = jb
        generalize hjd : Value.slice (some ⟨g, 0, none⟩) k c3 = jd
        exact HTAIL.out v6 w6 ja v5 jb jd ⟨HOWN6.out, HB6.out⟩
      · have HKC : Hid (c3 = k) := Classical.not_not.1 hkc2
        clear hkc2
        refine wp_region_held_drew (S := fun _ : World => True) (by kernel_rfl) trivial (fun hHeld0 => ?_)
        (refine wpAnyH_take (i := 1) (v := ?_) rfl (by kernel_rfl) (by kernel_rfl) (by kernel_rfl) (fun _ _ _ h => h) (Or.inl ⟨by rfl, ?_⟩) (by assumption) ?_; rotate_left; focus (intro w hSw; (try dsimp only at hSw); go_simp; first | done | with_reducible rfl); (try simp only [Act.put, List.setIfInBounds_toArray, List.set_cons_zero, List.set_cons_succ, List.getElem_toArray, List.getElem_cons_zero, List.getElem_cons_succ]))
        (refine wpAnyH_take (i := 2) (v := ?_) rfl (by kernel_rfl) (by kernel_rfl) (by kernel_rfl) (fun _ _ _ h => h) (Or.inl ⟨by rfl, ?_⟩) (by assumption) ?_; rotate_left; focus (intro w hSw; (try dsimp only at hSw); go_simp; first | done | with_reducible rfl); (try simp only [Act.put, List.setIfInBounds_toArray, List.set_cons_zero, List.set_cons_succ, List.getElem_toArray, List.getElem_cons_zero, List.getElem_cons_succ]))
        (refine wpAnyH_take (i := 3) (v := ?_) rfl (by kernel_rfl) (by kernel_rfl) (by kernel_rfl) (fun _ _ _ h => h) (Or.inl ⟨by rfl, ?_⟩) (by assumption) ?_; rotate_left; focus (intro w hSw; (try dsimp only at hSw); go_simp; first | done | with_reducible rfl); (try simp only [Act.put, List.setIfInBounds_toArray, List.set_cons_zero, List.set_cons_succ, List.getElem_toArray, List.getElem_cons_zero, List.getElem_cons_succ]))
        (refine wpAnyH_take (i := 5) (v := ?_) rfl (by kernel_rfl) (by kernel_rfl) (by kernel_rfl) (fun _ _ _ h => h) (Or.inl ⟨by rfl, ?_⟩) (by assumption) ?_; rotate_left; focus (intro w hSw; (try dsimp only at hSw); go_simp; first | done | with_reducible rfl); (try simp only [Act.put, List.setIfInBounds_toArray, List.set_cons_zero, List.set_cons_succ, List.getElem_toArray, List.getElem_cons_zero, List.getElem_cons_succ]))
        (refine wpAnyH_take (i := 6) (v := ?_) rfl (by kernel_rfl) (by kernel_rfl) (by kernel_rfl) (fun _ _ _ h => h) (Or.inl ⟨by rfl, ?_⟩) (by assumption) ?_; rotate_left; focus (intro w hSw; (try dsimp only at hSw); go_simp; first | done | with_reducible rfl); (try simp only [Act.put, List.setIfInBounds_toArray, List.set_cons_zero, List.set_cons_succ, List.getElem_toArray, List.getElem_cons_zero, List.getElem_cons_succ]))
        (refine wpAnyH_take (i := 7) (v := ?_) rfl (by kernel_rfl) (by kernel_rfl) (by kernel_rfl) (fun _ _ _ h => h) (Or.inl ⟨by rfl, ?_⟩) (by assumption) ?_; rotate_left; focus (intro w hSw; (try dsimp only at hSw); go_simp; first | done | with_reducible rfl); (try simp only [Act.put, List.setIfInBounds_toArray, List.set_cons_zero, List.set_cons_succ, List.getElem_toArray, List.getElem_cons_zero, List.getElem_cons_succ]))
        rw [if_pos HKC.out]
        refine wpAnyH_ready (rs := [0]) (by kernel_rfl) (by simp) ?_
        refine AllReadyH.cons rfl (fun K hK => ?_) AllReadyH.nil
        go_simp
        refine hK.out _ _ trivial (fun hHeld => ?_)
        clear hK K
        (try simp only [Act.put, List.setIfInBounds_toArray, List.set_cons_zero, List.set_cons_succ, List.getElem_toArray, List.getElem_cons_zero, List.getElem_cons_succ])
        have hb9 : Below w3.heap.size w3 (w3.alloc (.cells #[] 3)).drew := Below.drew (Below.alloc (Below.refl _ _) (Nat.le_refl _) _)
        have HOWN0 : Hid ((w3.alloc (.cells #[] 3)).drew.ownsRow w3.heap.size 3 1 (.slice (some ⟨w3.heap.size, 0, none⟩) 0 0) 0 []) := ⟨rfl, .inr ⟨_, 0, #[], rfl, Nat.le_refl _, heap_alloc_new w3 _, Nat.le_refl _, by decide, rfl, rfl⟩⟩
        have HN1 := Lib.hid (news_none (g := g) (W := (w3.alloc (.cells #[] 3)).drew) (show T.length ≤ k by have := HKC.out; omega))
        refine wpAnyH_ready (rs := [4]) (by kernel_rfl) (by simp) ?_
        refine AllReadyH.cons rfl (fun K hK => ?_) AllReadyH.nil
        refine step_append_own rfl _ _ 38 rfl w3.heap.size 3 i0 (.int .i64 0) 1 8 Tryz.underlying38 hi hz0 hz1 hz2 rfl (by decide) _ 0 [] rfl HOWN0.out ⟨g, 0, none⟩ (T.length - k) _ (intsV (T.drop k)) rfl (by unfold intsV; rw [List.length_map, List.length_drop]; omega) HN1.out (ints_one' _) (by unfold maxLen; omega) (by omega) (by simp) ?_
        intro v5 w5 hown5 hgrow5 hnil5
        have hb5 : Below w3.heap.size w3 w5 := Below.grown hb9 hgrow5 (by simp) (fun j e => by cases e; exact Nat.le_refl _)
        have HOWN5 := Lib.hid hown5
        have HOB5 : Hid (∀ j, v5.ownBlock = some j → w3.heap.size ≤ j) := own_base hown5
        have HN2 := Lib.hid (news_take k (HCELL.out _ hb5))
        have hs5 := hb5.size
        have HB5 := Lib.hid hb5
        refine hK.out _ _ trivial (fun hHeld => ?_)
        clear hK K hown5 hgrow5 hnil5 hb9 hb5 HN1 HOWN0
        (try simp only [Act.put, List.setIfInBounds_toArray, List.set_cons_zero, List.set_cons_succ, List.getElem_toArray, List.getElem_cons_zero, List.getElem_cons_succ])
        refine wpAnyH_ready (rs := [8]) (by kernel_rfl) (by simp) ?_
        refine AllReadyH.cons rfl (fun K hK => ?_) AllReadyH.nil
        refine step_append_own rfl _ _ 38 rfl w3.heap.size 3 i0 (.int .i64 0) 1 8 Tryz.underlying38 hi hz0 hz1 hz2 rfl (by decide) v5 (0 + (T.length - k)) ([] ++ intsV (T.drop k)) rfl HOWN5.out ⟨g, 0, none⟩ k _ (intsV (T.take k)) rfl (by unfold intsV; rw [List.length_map, List.length_take]; omega) HN2.out (ints_one' _) (by unfold maxLen; omega) (by omega) hs5 ?_
        intro v6 w6 hown6 hgrow6 hnil6
        have HB6 : Hid (Below w3.heap.size w3 w6) := Below.grown HB5.out hgrow6 hs5 (fun j e => HOB5.out j e)
        have HOWN6 : Hid (w6.ownsRow w3.heap.size 3 1 v6 T.length (intsV (turnI T k))) := by
          rw [show 0 + (T.length - k) + k = T.length by omega] at hown6
          unfold turnI intsV at *
          rw [List.map_append]
          exact hown6
        refine hK.out _ _ trivial (fun hHeld => ?_)
        clear hK K hown6 hgrow6 hnil6
        (try simp only [Act.put, List.setIfInBounds_toArray, List.set_cons_zero, List.set_cons_succ, List.getElem_toArray, List.getElem_cons_zero, List.getElem_cons_succ])
        (refine wpAnyH_take (i := 9) (v := ?_) rfl (by kernel_rfl) (by kernel_rfl) (by kernel_rfl) (fun _ _ _ h => h) (Or.inl ⟨by rfl, ?_⟩) (by assumption) ?_; rotate_left; focus (intro w hSw; (try dsimp only at hSw); go_simp; first | done | with_reducible rfl); (try simp only [Act.put, List.setIfInBounds_toArray, List.set_cons_zero, List.set_cons_succ, List.getElem_toArray, List.getElem_cons_zero, List.getElem_cons_succ]))
        refine wpAnyH_done (by kernel_rfl) ?_ _
        (try simp only [Act.put, List.setIfInBounds_toArray, List.set_cons_zero, List.set_cons_succ, List.getElem_toArray, List.getElem_cons_zero, List.getElem_cons_succ])
        exact HTAIL.out v6 w6 _ v5 _ _ ⟨HOWN6.out, HB6.out⟩
    case h2 =>
      rintro v w4 ja jc jb jd ⟨hown, hb4⟩
      obtain ⟨p4, c4, rfl⟩ := own_slice2 hown
      have HI4 := Lib.hid (HI3.out.below' hb4)
      have HND := Lib.hid (turnI_nodup (k := k) (takenOP_nodup HI2.out.good.inv))
      have HMEM : Hid (∀ a, a ∈ turnI T k ↔ TknO s.A a) := fun a => by rw [turnI_mem, ← HTT.out]; exact takenOP_mem
      have hLl := turnI_length hkn
      rw [HTT.out] at HND
      (try clear HTK)
      clear hb4
      generalize turnI T k = L at *
      rw [← hLl] at hown ⊢
      have hLb : L.length ≤ 10000 := by omega
      clear hLl hkn hbnd
      have HROW4 := Lib.hid hown
      clear hown
      go_wp2
      go_loopw [11] (fun iv wq => ∃ (k : Nat) (H' : OHL), k ≤ L.length ∧ iv = .int .i64 k ∧ QuietI w1 wq x (.slice none 0 0) H' pages (givesO (L.take k) s) ∧ wq.ownsRow w3.heap.size 3 1 (.slice p4 L.length c4) L.length (intsV L)) (fun iv _ => L.length - numOf iv)
      case atStart => exact ⟨0, H, Nat.zero_le _, rfl, HI4.out, HROW4.out⟩
      case round =>
        obtain ⟨k, H1, hk, rfl, hI, hrow⟩ := hrel
        have HI := Lib.hid hI
        have HROW := Lib.hid hrow
        by_cases hlk : k < L.length
        · have HID := Lib.hid (hI.below' (Below.drew (Below.refl _ _)))
          have HROWD := Lib.hid hrow.drew
          have HGV := Lib.hid (hgiveO_any HID.out.at_.heap HID.out.good.inv L[k])
          rw [givesO_zero HI2.out.good HND.out HMEM.out hlk] at HGV
          obtain ⟨g4, cap4, hv4, -, hgc4, -, hgl4, hce4⟩ := own_cells hrow (by omega)
          cases hv4
          have hcell : ∀ W : World, W.ownsRow w3.heap.size 3 1 (.slice (some ⟨g4, 0, none⟩) L.length c4) L.length (intsV L) → W.cell? ⟨g4, k, none⟩ = some (.int .i64 L[k]) := fun W hW => by
            obtain ⟨g5, cap5, hv5, -, -, -, -, hce5⟩ := own_cells hW (by omega)
            cases hv5
            rw [hce5 k (by omega)]
            unfold intsV
            rw [List.getElem?_map, List.getElem?_eq_getElem hlk]
            rfl
          have hck := hcell _ hrow
          have HCELL4 := Lib.hid hcell
          have e1 := hI.cx
          have hki : (0 : Int) ≤ (k : Int) ∧ (k : Int) < L.length := by omega
          have hkw : IntKind.i64.wrap ((k : Int) + 1) = (k : Int) + 1 := by rw [IntKind.wrap_i64]; omega
          have HGT2 := Lib.hid (givesO_take hlk s)
          clear hI hrow hce4 hgc4 hcell
          generalize L[k] = lk at *
          go_upto_region 20 with (fail)
          refine wp_region_held_drew (S := fun W : World => W.cell? ⟨x, 1, none⟩ = some (.pointer (some ⟨H1.h, 0, none⟩)) ∧ W.cell? ⟨g4, k, none⟩ = some (.int .i64 lk)) (by kernel_rfl) ?_ (fun hHeld0 => ?_)
          · exact ⟨e1, hck⟩
          (refine wpAnyH_take (i := 0) (v := ?_) rfl (by kernel_rfl) (by kernel_rfl) (by kernel_rfl) (fun _ _ _ h => h) (Or.inl ⟨by rfl, ?_⟩) (by assumption) ?_; rotate_left; focus (intro w hSw; (try dsimp only at hSw); go_simp; first | done | with_reducible rfl); (try simp only [Act.put, List.setIfInBounds_toArray, List.set_cons_zero, List.set_cons_succ, List.getElem_toArray, List.getElem_cons_zero, List.getElem_cons_succ]))
          (refine wpAnyH_take (i := 1) (v := ?_) rfl (by kernel_rfl) (by kernel_rfl) (by kernel_rfl) (fun _ _ _ h => h) (Or.inl ⟨by rfl, ?_⟩) (by assumption) ?_; rotate_left; focus (intro w hSw; (try dsimp only at hSw); go_simp; first | done | with_reducible rfl); (try simp only [Act.put, List.setIfInBounds_toArray, List.set_cons_zero, List.set_cons_succ, List.getElem_toArray, List.getElem_cons_zero, List.getElem_cons_succ]))
          (refine wpAnyH_take (i := 2) (v := ?_) rfl (by kernel_rfl) (by kernel_rfl) (by kernel_rfl) (fun _ _ _ h => h) (Or.inl ⟨by rfl, ?_⟩) (by assumption) ?_; rotate_left; focus (intro w hSw; (try dsimp only at hSw); go_simp; first | done | with_reducible rfl); (try simp only [Act.put, List.setIfInBounds_toArray, List.set_cons_zero, List.set_cons_succ, List.getElem_toArray, List.getElem_cons_zero, List.getElem_cons_succ]))
          (refine wpAnyH_take (i := 3) (v := ?_) rfl (by kernel_rfl) (by kernel_rfl) (by kernel_rfl) (fun _ _ _ h => h) (Or.inl ⟨by rfl, ?_⟩) (by assumption) ?_; rotate_left; focus (intro w hSw; (try dsimp only at hSw); go_simp; first | done | with_reducible rfl); (try simp only [Act.put, List.setIfInBounds_toArray, List.set_cons_zero, List.set_cons_succ, List.getElem_toArray, List.getElem_cons_zero, List.getElem_cons_succ]))
          (refine wpAnyH_take (i := 4) (v := ?_) rfl (by kernel_rfl) (by kernel_rfl) (by kernel_rfl) (fun _ _ _ h => h) (Or.inl ⟨by rfl, ?_⟩) (by assumption) ?_; rotate_left; focus (intro w hSw; (try dsimp only at hSw); go_simp; first | done | with_reducible rfl); (try simp only [Act.put, List.setIfInBounds_toArray, List.set_cons_zero, List.set_cons_succ, List.getElem_toArray, List.getElem_cons_zero, List.getElem_cons_succ]))
          (refine wpAnyH_take (i := 5) (v := ?_) rfl (by kernel_rfl) (by kernel_rfl) (by kernel_rfl) (fun _ _ _ h => h) (Or.inl ⟨by rfl, ?_⟩) (by assumption) ?_; rotate_left; focus (intro w hSw; (try dsimp only at hSw); go_simp; first | done | with_reducible rfl); (try simp only [Act.put, List.setIfInBounds_toArray, List.set_cons_zero, List.set_cons_succ, List.getElem_toArray, List.getElem_cons_zero, List.getElem_cons_succ]))
          (refine wpAnyH_take (i := 6) (v := ?_) rfl (by kernel_rfl) (by kernel_rfl) (by kernel_rfl) (fun _ _ _ h => h) (Or.inl ⟨by rfl, ?_⟩) (by assumption) ?_; rotate_left; focus (intro w hSw; (try dsimp only at hSw); go_simp; first | done | with_reducible rfl); (try simp only [Act.put, List.setIfInBounds_toArray, List.set_cons_zero, List.set_cons_succ, List.getElem_toArray, List.getElem_cons_zero, List.getElem_cons_succ]))
          (refine wpAnyH_take (i := 7) (v := ?_) rfl (by kernel_rfl) (by kernel_rfl) (by kernel_rfl) (fun _ _ _ h => h) (Or.inl ⟨by rfl, ?_⟩) (by assumption) ?_; rotate_left; focus (intro w hSw; (try dsimp only at hSw); go_simp; first | done | with_reducible rfl); (try simp only [Act.put, List.setIfInBounds_toArray, List.set_cons_zero, List.set_cons_succ, List.getElem_toArray, List.getElem_cons_zero, List.getElem_cons_succ]))
          refine wpAnyH_ready (rs := [8]) (by kernel_rfl) (by simp) ?_
          refine AllReadyH.cons rfl (fun K hK => ?_) AllReadyH.nil
          go_simp
          go_wp2_with (fail)
          refine HGV.out.mono ?_
          rintro e w5 hp
          obtain ⟨H2, hI2, hh2, ht2, -⟩ := HID.out.step hp (give_goodO HI.out.good lk)
          obtain ⟨rfl, -⟩ := hp
          have HROW2 := Lib.hid (own_turnedO HROWD.out ht2 (fun g cs hg _ => HID.out.at_.heap.offT hg (by decide)))
          have e2 := hI2.cx
          rw [hh2] at e2
          rw [← HGT2.out] at hI2
          have HI5 := Lib.hid hI2
          refine hK.out _ _ ⟨e2, HCELL4.out _ HROW2.out⟩ (fun hHeld => ?_)
          clear hK K hI2 hh2 ht2 e1 hck e2 hHeld0
          (try simp only [Act.put, List.setIfInBounds_toArray, List.set_cons_zero, List.set_cons_succ, List.getElem_toArray, List.getElem_cons_zero, List.getElem_cons_succ])
          (refine wpAnyH_take (i := 9) (v := ?_) rfl (by kernel_rfl) (by kernel_rfl) (by kernel_rfl) (fun _ _ _ h => h) (Or.inl ⟨by rfl, ?_⟩) (by assumption) ?_; rotate_left; focus (intro w hSw; (try dsimp only at hSw); go_simp; first | done | with_reducible rfl); (try simp only [Act.put, List.setIfInBounds_toArray, List.set_cons_zero, List.set_cons_succ, List.getElem_toArray, List.getElem_cons_zero, List.getElem_cons_succ]))
          refine wpAnyH_done (by kernel_rfl) ?_ _
          clear hHeld
          go_wp2
          go_roundw
          case rel => exact ⟨k + 1, H2, hlk, by go_num, HI5.out, HROW2.out⟩
          case measure => simp [numOf]; omega
        · obtain rfl : k = L.length := by omega
          have HNO : Hid (∀ a, ¬ TknO (givesO (L.take L.length) s).A a) := fun a ha => by
            have := (givesO_tkn HI2.out.good HND.out HMEM.out (Nat.le_refl _) a).1 ha
            rw [List.drop_length] at this
            cases this
          obtain ⟨bd3, bd4, -⟩ := hI.at_.heap.bound
          have hsr : w1.heap.size ≤ wr.heap.size := hI.below.size
          clear hI hrow HROW
          generalize givesO (L.take L.length) s = sE at *
          have HEACH := Lib.hid HI.out.good.inv.each
          obtain ⟨wE, hwE⟩ : ∃ wE, wE = wr := ⟨_, rfl⟩
          have HIE : Hid (QuietI w1 wE x (.slice none 0 0) H1 pages sE) := by rw [hwE]; exact HI.out
          rw [← hwE] at hsr ⊢
          clear hwE HI
          go_wp2
          go_loopw [12, 13] (fun lv cv wq => ∃ (c : Nat) (t : Int), c ≤ 16 ∧ lv = .int .i64 t ∧ cv = .int .i64 c ∧ t = ((underO sE.A c).length : Nat) ∧ Below wE.heap.size wE wq) (fun _ cv _ => 16 - numOf cv)
          case atStart => exact ⟨0, 0, Nat.zero_le _, rfl, rfl, by rw [underO_zero]; rfl, Below.refl _ _⟩
          case round =>
            obtain ⟨c, t, hc, rfl, rfl, ht, hbl⟩ := hrel
            have hszr := hbl.size
            have HIr := Lib.hid (HIE.out.below' hbl)
            have HBL := Lib.hid hbl
            have hul : (underO sE.A c).length ≤ sE.A.length := List.length_filter_le _ _
            have hbt : 0 ≤ t ∧ t ≤ 64 := by omega
            have cx := HIr.out.cx
            by_cases hlt : c < 16
            · have HU := Lib.hid (underO_succ sE.A c)
              have HR := olist_any HIr.out.at_.heap c 2 hlt (by decide)
              have HR3 : Hid (∀ W, Below wr.heap.size wr W → Calls Tryz.prog 16 #[.pointer (some ⟨H1.h, 0, none⟩), .int .i64 c, .int .i64 3] W fun e w' => ∃ p q, e = .returned (.slice p 0 q) ∧ Below W.heap.size W w') := fun W hW => by
                have h9 := olist_any (HIr.out.below' hW).at_.heap c 3 hlt (by decide)
                rw [noneO_sealed HIE.out.good.inv HNO.out hlt] at h9
                refine h9.mono ?_
                rintro e w' ⟨v, rfl, hrow, hb⟩
                obtain ⟨p, q, rfl⟩ := own_slice2 hrow
                exact ⟨p, q, rfl, hb⟩
              have hm1 := HIE.out.good.one c hlt
              have hm2 := noneO_length HIE.out.good.inv HNO.out hlt
              rw [← hm2] at HU
              generalize sE.R (4 * c + 2) = R at *
              have HR := Lib.hid HR
              have hcw : IntKind.i64.wrap ((c : Int) + 1) = (c : Int) + 1 := by rw [IntKind.wrap_i64]; omega
              have HTT2 := Lib.hid ht
              clear ht hbl hul hm2
              go_wp2_with (fail)
              refine HR.out.mono ?_
              rintro e w6 ⟨v1, rfl, hrow, hb⟩
              obtain ⟨p1, cap1, rfl⟩ := own_slice2 hrow
              have HB6 := Lib.hid (Below.via hb hszr HBL.out)
              have HB6r := Lib.hid hb
              have cx6 := cell_past hb (cell_lt cx) cx
              clear hrow hb cx HR
              obtain hm | hm : R.length = 0 ∨ R.length = 1 := by omega
              · rw [hm] at HU ⊢
                clear hm hm1
                have hwt : IntKind.i64.wrap (t + 0) = t + 0 := wraps_i64 _ (by omega) (by omega)
                have HEND : Hid (t + 0 = ((underO sE.A (c + 1)).length : Nat)) := by show _ = _; rw [HU.out, HTT2.out]; simp
                go_wp2_with (fail)
                refine (HR3.out _ HB6r.out).mono ?_
                rintro e w7 ⟨p7, q7, rfl, hb7⟩
                have HB7 := Lib.hid (Below.via hb7 HB6.out.size HB6.out)
                clear hb7 cx6
                go_wp2
                go_roundw
                case rel => exact ⟨c + 1, _, by omega, by go_num, by go_num, HEND.out, HB7.out⟩
                case measure => simp [numOf]; omega
              · rw [hm] at HU ⊢
                clear hm hm1
                have hwt : IntKind.i64.wrap (t + 1) = t + 1 := wraps_i64 _ (by omega) (by omega)
                have HEND : Hid (t + 1 = ((underO sE.A (c + 1)).length : Nat)) := by show _ = _; rw [HU.out, HTT2.out]; simp
                go_wp2_with (fail)
                refine (HR3.out _ HB6r.out).mono ?_
                rintro e w7 ⟨p7, q7, rfl, hb7⟩
                have HB7 := Lib.hid (Below.via hb7 HB6.out.size HB6.out)
                clear hb7 cx6
                go_wp2
                go_roundw
                case rel => exact ⟨c + 1, _, by omega, by go_num, by go_num, HEND.out, HB7.out⟩
                case measure => simp [numOf]; omega
            · obtain rfl : c = 16 := by omega
              have hua := underO_all (A := sE.A) (fun y hy => (HEACH.out y hy).cls)
              rw [hua] at ht
              have HTK3 := Lib.hid (htakenO_any HIr.out.at_.heap)
              rw [noneO_taken HNO.out] at HTK3
              obtain ⟨e0, -, -⟩ := HIr.out.at_.cells
              have HFR : Hid (((freeN sE.l : Nat) : Int) = n - 4 * t) := by
                have h1 := HIE.out.at_.heap.num
                have h2 := HIE.out.at_.heap.cnt
                obtain ⟨h3, -, h4⟩ := HIE.out.left
                rw [h3, List.length_nil] at h2
                show _ = _
                rw [HNP.out, ht]
                omega
              have hnb : n ≤ 64 ∧ 0 ≤ n := by have := HNP.out; omega
              have hnf : 0 ≤ n - 4 * t := by rw [← HFR.out]; omega
              have hw4 : IntKind.i64.wrap (4 * t) = 4 * t := wraps_i64 _ (by omega) (by omega)
              have hwn : IntKind.i64.wrap (n - 4 * t) = n - 4 * t := wraps_i64 _ (by omega) (by omega)
              have HTT2 := Lib.hid ht
              clear ht hul hbl hua
              go_wp2_with (fail)
              refine HTK3.out.mono ?_
              rintro e w6 ⟨v6, rfl, hints, hb6⟩
              obtain ⟨p6, c6, rfl, -⟩ := hints.at
              have HB6 := Lib.hid (Below.via hb6 hszr HBL.out)
              have hs6 := HB6.out.size
              have x0 := cell_past hb6 (cell_lt e0) e0
              have x1 := cell_past hb6 (cell_lt cx) cx
              have HPG := Lib.hid (pagesO_any (HIE.out.below' HB6.out).at_.heap)
              simp only [List.length_nil]
              clear hints hb6 e0 cx
              go_wp2_with (fail)
              refine HPG.out.mono ?_
              rintro e w7 ⟨v7, rfl, hown7, hb7⟩
              obtain ⟨p7, c7, rfl⟩ := own_slice2 hown7
              have HB7 := Lib.hid (Below.via hb7 hs6 HB6.out)
              have y0 := cell_past hb7 (cell_lt x0) x0
              have HFD := Lib.hid (gFree_any H1.gr H1.cl pages H1.b 0 H1.c H1.p sE.l H1.E w7 (HIE.out.below' HB7.out).at_.heap.ground)
              rw [HFR.out] at HFD
              have htl3 : t = ((sE.A.length : Nat) : Int) := HTT2.out
              rw [htl3] at hw4 hwn HFD
              clear hown7 hb7 x0 x1
              go_wp2_with (fail)
              refine HFD.out.mono ?_
              rintro e w8 ⟨rfl, hb8⟩
              have HB8 := Lib.hid (Below.via hb8 (HB7.out.size) HB7.out)
              clear hb8
              go_wp2
              go_ret
              exact ⟨rfl, HB1.out.trans ((HIE.out.below' HB8.out).below.mono HB1.out.size)⟩

set_option maxRecDepth 8000 in
set_option maxHeartbeats 8000000 in
theorem back_any (n : Int) (cs : List CallM) (pv : Option Addr) (cap : Nat) (turn : Int) (w : World) (hT : Tab w) (h : CallsAt w pv cs) (hcs : ∀ c ∈ cs, CallOk c) :
    Calls Tryz.prog 5 #[.int .i64 n, .slice pv cs.length cap, .int .i64 turn] w fun e w' => e = .returned (.bool true) ∧ Below w.heap.size w w' := by
  have HALV := Lib.hid (alive_any w hT)
  have HTB := Lib.hid hT
  have HC := Lib.hid h
  have HOK := Lib.hid hcs
  clear h hcs hT
  go_enter Tryz.func5, Tryz.ntmps5
  go_wp2_with (fail)
  refine HALV.out.mono ?_
  rintro e w1 ⟨rfl, hb⟩
  have HB1 := Lib.hid hb
  have HC1 := Lib.hid (HC.out.below hb)
  have HT1 := Lib.hid (HTB.out.below hb)
  clear hb
  go_wp2_with (fail)
  refine (great_any n cs.length pv cap w1).mono ?_
  rintro e w1' ⟨rfl, rfl⟩
  cases hgt : greatB n cs.length with
  | true =>
    go_wp2
    go_ret
    exact ⟨rfl, HB1.out⟩
  | false =>
    obtain ⟨hn40, hc40⟩ := greatB_false hgt
    by_cases hneg : n < 0
    · have HQ := Lib.hid (begin_no n hneg w1)
      clear hgt hn40 hc40
      go_wp2_with (fail)
      refine HQ.out.mono ?_
      rintro e w2 ⟨rfl, hb2⟩
      have HB2 := Lib.hid (Below.via hb2 HB1.out.size HB1.out)
      clear hb2
      go_wp2
      go_ret
      exact ⟨rfl, HB2.out⟩
    · obtain ⟨pages, hpg⟩ : ∃ pages : Nat, n = pages := ⟨n.toNat, by omega⟩
      have HQ : Hid (Calls Tryz.prog 9 #[.int .i64 n] w1 (BeginPostO w1 pages)) := by
        rw [hpg]
        exact begin_yes pages (by omega) w1 HT1.out
      have HNP := Lib.hid hpg
      clear hgt hpg hn40
      go_wp2_with (fail)
      refine HQ.out.mono ?_
      intro e w2 hbp
      obtain ⟨x, y, H0, rfl, hI0⟩ := hbp.quiet
      have HI0 := Lib.hid hI0
      clear hbp hI0
      go_wp2
      go_loopw [9] (fun i wr => ∃ (k : Nat) (H1 : OHL), i = .int .i64 k ∧ k ≤ cs.length ∧ QuietI w1 wr x (.slice none 0 0) H1 pages (foldO (s0 pages) (cs.take k))) (fun i _ => cs.length - numOf i)
      case atStart => exact ⟨0, H0, rfl, Nat.zero_le _, HI0.out⟩
      case round =>
        obtain ⟨k, H1, rfl, hk, hI⟩ := hrel
        have HI := Lib.hid hI
        by_cases hlt : k < cs.length
        · obtain ⟨g, o, rfl, hcell⟩ := HC1.out k hlt
          have hin : ∀ j v, (callV cs[k])[j]? = some v → wr.cell? ⟨g, o + k * 5 + j, none⟩ = some v := fun j v hv => cell_past hI.below (cell_lt (hcell j v hv)) (hcell j v hv)
          have x0 : wr.cell? ⟨g, o + k * 5, none⟩ = some (.int .i64 cs[k].what) := hin 0 _ rfl
          have x1 : wr.cell? ⟨g, o + k * 5 + 1, none⟩ = some (.int .i64 cs[k].cls) := hin 1 _ rfl
          have x2 : wr.cell? ⟨g, o + k * 5 + 2, none⟩ = some (.int .i64 cs[k].at_) := hin 2 _ rfl
          have x3 : wr.cell? ⟨g, o + k * 5 + 3, none⟩ = some (.int .i64 cs[k].n) := hin 3 _ rfl
          have x4 : wr.cell? ⟨g, o + k * 5 + 4, none⟩ = some (.int .i64 cs[k].pg) := hin 4 _ rfl
          have hi1 : (0 : Int) ≤ (k : Int) ∧ (k : Int) < cs.length := by omega
          have hkw : IntKind.i64.wrap ((k : Int) + 1) = (k : Int) + 1 := by rw [IntKind.wrap_i64]; omega
          have HST := Lib.hid (foldO_succ (s := s0 pages) hlt)
          have hok := HOK.out _ (List.getElem_mem hlt)
          by_cases hw : 0 ≤ cs[k].what ∧ cs[k].what < 5
          · have HD : Hid (Calls Tryz.prog 11 #[.pointer (some ⟨x, 0, none⟩), .agg #[.int .i64 cs[k].what, .int .i64 cs[k].cls, .int .i64 cs[k].at_, .int .i64 cs[k].n, .int .i64 cs[k].pg]] wr (DoPost wr x w1.heap.size (.slice none 0 0) H1 pages (foldO (s0 pages) (cs.take k)) (doO (foldO (s0 pages) (cs.take k)) cs[k]).2 (doO (foldO (s0 pages) (cs.take k)) cs[k]).1.1 (doO (foldO (s0 pages) (cs.take k)) cs[k]).1.2)) :=
              do_any hI.at_ hI.good.inv cs[k] hok hw.1 hw.2
            have HGD := Lib.hid (doO_good hI.good cs[k])
            obtain ⟨hw1, hw2⟩ := hw
            clear hcell hin hI hok
            generalize hck : cs[k] = c at *
            clear hck
            obtain ⟨what, cls, at_, n, pg⟩ := c
            simp only at x0 x1 x2 x3 x4 hw1 hw2 HD
            go_wp2_with (fail)
            refine HD.out.mono ?_
            rintro e w2 ⟨v, H2, rfl, -, q2, q3, q4, q5, q6, q7⟩
            have HI2 : Hid (QuietI w1 w2 x (.slice none 0 0) H2 pages (foldO (s0 pages) (cs.take (k + 1)))) := by
              show QuietI _ _ _ _ _ _ _
              rw [HST.out]
              exact HI.out.next q2 HGD.out q3 q4 q5 q6 q7
            clear q2 q3 q4 q5 q6 q7 x0 x1 x2 x3 x4
            go_wp2
            go_roundw
            case rel => exact ⟨k + 1, H2, by go_num, hlt, HI2.out⟩
            case measure => simp [numOf]; omega
          · have HI2 : Hid (QuietI w1 wr x (.slice none 0 0) H1 pages (foldO (s0 pages) (cs.take (k + 1)))) := by
              show QuietI _ _ _ _ _ _ _
              rw [HST.out, doO_out hw]
              exact HI.out
            by_cases hw0 : 0 ≤ cs[k].what
            · have hw1 : ¬ cs[k].what < 5 := fun e => hw ⟨hw0, e⟩
              clear hcell hin hI hok hw x1 x2 x3 x4
              generalize cs[k].what = wh at *
              go_wp2
              go_roundw
              case rel => exact ⟨k + 1, H1, by go_num, hlt, HI2.out⟩
              case measure => simp [numOf]; omega
            · clear hcell hin hI hok hw x1 x2 x3 x4
              generalize cs[k].what = wh at *
              go_wp2
              go_roundw
              case rel => exact ⟨k + 1, H1, by go_num, hlt, HI2.out⟩
              case measure => simp [numOf]; omega
        · obtain rfl : k = cs.length := by omega
          rw [List.take_length] at hI
          clear HI
          generalize foldO (s0 pages) cs = s at *
          obtain ⟨H, hHX⟩ : ∃ H, H = H1 := ⟨_, rfl⟩
          rw [← hHX] at hI
          clear hHX
          rename World => w2
          have HI2 := Lib.hid hI
          obtain ⟨bd1, bd2, bd3⟩ := hI.at_.heap.bound
          have hbnd : (takenOP s.A).length ≤ 10000 := by
            have h1 := takenOP_bound hI.good.inv.each
            omega
          have HTK := Lib.hid (htakenO_own hI.at_.heap)
          have e1 := hI.cx
          clear hI bd3
          go_wp2_with (fail)
          refine HTK.out.mono ?_
          rintro e w3 ⟨v3, rfl, hints, hb3⟩
          have HINT := Lib.hid hints
          have HB3 := Lib.hid hb3
          obtain ⟨p3, c3, rfl⟩ := own_slice2 hints
          generalize hTT : takenOP s.A = T at *
          have HTT := Lib.hid hTT
          clear hTT hints hb3 e1
          by_cases ht : 0 ≤ turn ∧ turn ≤ (T.length : Int)
          · have ht1 := ht.1
            have ht2 := ht.2
            obtain ⟨k, rfl⟩ : ∃ k : Nat, turn = k := ⟨turn.toNat, by omega⟩
            clear ht
            clear ht1
            have hkn : k ≤ T.length := by omega
            go_upto_region 16 with (fail)
            exact back_end HNP.out HB1.out HI2.out HB3.out HINT.out HTT.out hkn _ _ rfl ‹_›
          · obtain ⟨k, hk0⟩ : ∃ k : Nat, k = 0 := ⟨0, rfl⟩
            have hkn : k ≤ T.length := by omega
            have HZ : Hid (Value.int .i64 0 = Value.int .i64 (k : Int)) := by show _ = _; rw [hk0]; rfl
            clear hk0
            by_cases ht0 : turn < 0
            · clear ht
              go_upto_region 16 with (fail)
              rw [HZ.out]
              clear HZ
              exact back_end HNP.out HB1.out HI2.out HB3.out HINT.out HTT.out hkn _ _ rfl ‹_›
            · have ht1 : (T.length : Int) < turn := by omega
              clear ht
              go_upto_region 16 with (fail)
              rw [HZ.out]
              clear HZ
              exact back_end HNP.out HB1.out HI2.out HB3.out HINT.out HTT.out hkn _ _ rfl ‹_›
end Go.Proofs.YtlljejmblmjjnaaGreatDoor
