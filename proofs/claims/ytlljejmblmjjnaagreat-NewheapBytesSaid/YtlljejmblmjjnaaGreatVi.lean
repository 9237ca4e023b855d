/- NewheapBytes: a round of its inner loop, from the fill on. -/
import Derived.Test.YtlljejmblmjjnaaGreatVh
import Derived.WalkKit
import Derived.WalkSpells
import Derived.WalkLawsBesides
import Derived.BigQuiet
import Derived.Lib.Hide
namespace Go.Proofs.YtlljejmblmjjnaaGreat
set_option linter.unusedVariables false
set_option linter.unusedSimpArgs false
open Go.RowKit Go.ChangeMaps

/-- A block with what follows. -/
def blockFrom (n : Nat) : Code → Option Code
  | .seq (.block id c) b => if id = n then some (.seq (.block id c) b) else match blockFrom n c with
    | some c => some c
    | none => blockFrom n b
  | .seq a b => match blockFrom n a with
    | some c => some c
    | none => blockFrom n b
  | .loop c => blockFrom n c
  | .block _ c => blockFrom n c
  | .scope c => blockFrom n c
  | .cond _ a b => match blockFrom n a with
    | some c => some c
    | none => blockFrom n b
  | _ => none
noncomputable def bytesFill : Code := (Tryz.f7.body.bind (blockFrom 3)).getD .skip
theorem u8_range (z : Int) : 0 ≤ IntKind.u8.wrap z ∧ IntKind.u8.wrap z ≤ 255 := by
  rw [IntKind.wrap_u8]
  omega

set_option maxRecDepth 100000 in
set_option maxHeartbeats 80000000 in
theorem bytes_fill {t0 t1 t3 t4 t5 t6 t8 t11 t13 t14 t15 t17 t18 t19 t20 t21 t22 t23 t24 t25 t26 t27 t28 t29 t30 t31 t32 t33 t34 t35 t36 t37 t38 t39 t40 t41 t42 t43 t44 t45 t46 t47 t48 t49 t50 t51 t52 t53 t54 t55 t56 t57 t58 t59 t60 t61 t62 t63 t64 t65 t66 t67 t68 t69 t70 t71 t72 t73 t74 t75 t76 t77 t78 t79 t80 t81 t82 t83 t84 t85 t86 t87 t88 t89 t90 t91 t92 t93 t94 t95 t96 t97 t98 t99 t100 t101 t102 t103 t104 t105 t106 t107 t108 t109 t110 t111 t112 t113 t114 t115 t116 t117 t118 t119 t120 t121 t122 t123 t124 t125 t126 t127 t128 t129 t130 t131 t132 t133 t134 t135 t136 t137 t138 t139 t140 t141 t142 t143 t144 t145 t146 t147 t148 t149 t150 t151 t152 t153 t154 t155 t156 t157 t158 t159 t160 t161 t162 t163 t164 t165 t166 t167 t168 t169 t170 t171 t172 t173 t174 t175 t176 t177 t178 t179 t180 t181 t182 t183 t184 t185 t186 t187 t188 t189 t190 t191 t192 t193 t194 t195 t196 t197 t198 t199 t200 t201 t202 t203 t204 t205 : Value} {w1 wq : World} {x y mb pages k j fl fcap base bx cD : Nat} {fv pD : Option Addr} {Hx Hy : HL} {s s' : HP} {E : List ME} {new : List Int} {bc : Array Value} {Q : Exit → Act → World → Prop}
    (hA : TwoI w1 wq x Hx y Hy pages s' mb (Value.int .u8) E) (hMM : MapMid s new j E) (hY : BytesOk Hx.bs E) (n1 : new.Nodup) (n2 : ∀ a ∈ new, ¬ Tkn s.A a) (n3 : ∀ b, Tkn s'.A b ↔ Tkn s.A b ∨ b ∈ new)
    (hj : j < new.length) (hnl : new.length ≤ 10000) (hk : k < 41) (hrow : Ints wq base (.slice pD new.length cD) new) (hmb : mb < base) (hcb : Hx.cb < base) (hbx : wq.heap[bx]? = some (.cells bc 30 (0, 0))) (hfill : FillAt wq fv fl)
    (hP : ∀ c a w i v, Q (.panic c) (Act.put a i v) w → Q (.panic c) a w)
    (hQ : ∀ (u17 u113 u114 u115 u116 u117 u118 u119 u120 u121 u122 u123 u124 u125 u126 u127 u128 u129 u130 u131 u132 u133 u134 u135 u136 u137 u138 u139 u140 u141 u142 u143 u144 u145 : Value) (W : World) (Hx' : HL) (E' : List ME), TwoI w1 W x Hx' y Hy pages s' mb (Value.int .u8) E' → MapMid s new (j + 1) E' → BytesOk Hx'.bs E' → W.heap[bx]? = some (.cells bc 30 (0, 0)) → Ints W base (.slice pD new.length cD) new → Turned (fun k => k = mb ∨ k = Hx.cb) wq W → Hx'.cb = Hx.cb → Q .normal ⟨#[t0, t1, .slice fv fl fcap, t3, t4, t5, t6, .pointer (some ⟨x, 0, none⟩), t8, .map (some mb), .int .i64 (k : Int), t11, .slice pD new.length cD, t13, t14, t15, .int .i64 ((j + 1 : Nat) : Int), u17, t18, t19, t20, t21, t22, t23, t24, t25, t26, t27, t28, t29, t30, t31, t32, t33, t34, t35, t36, t37, t38, t39, t40, t41, t42, t43, t44, t45, t46, t47, t48, t49, t50, t51, t52, t53, t54, t55, t56, t57, t58, t59, t60, t61, t62, t63, t64, t65, t66, t67, t68, t69, t70, t71, t72, t73, t74, t75, t76, t77, t78, t79, t80, t81, t82, t83, t84, t85, t86, t87, t88, t89, t90, t91, t92, t93, t94, t95, t96, t97, t98, t99, t100, t101, t102, t103, t104, t105, t106, t107, t108, t109, t110, t111, t112, u113, u114, u115, u116, u117, u118, u119, u120, u121, u122, u123, u124, u125, u126, u127, u128, u129, u130, u131, u132, u133, u134, u135, u136, u137, u138, u139, u140, u141, u142, u143, u144, u145, t146, t147, t148, t149, t150, t151, t152, t153, t154, t155, t156, t157, t158, t159, t160, t161, t162, t163, t164, t165, t166, t167, t168, t169, t170, t171, t172, t173, t174, t175, t176, t177, t178, t179, t180, t181, t182, t183, t184, t185, t186, t187, t188, t189, t190, t191, t192, t193, t194, t195, t196, t197, t198, t199, t200, t201, t202, t203, t204, t205], []⟩ W) :
    Code.wp Tryz.prog bytesFill Q ⟨#[t0, t1, .slice fv fl fcap, t3, t4, t5, t6, .pointer (some ⟨x, 0, none⟩), t8, .map (some mb), .int .i64 (k : Int), t11, .slice pD new.length cD, t13, t14, t15, .int .i64 (j : Int), t17, t18, t19, t20, t21, t22, t23, t24, t25, t26, t27, t28, t29, t30, t31, t32, t33, t34, t35, t36, t37, t38, t39, t40, t41, t42, t43, t44, t45, t46, t47, t48, t49, t50, t51, t52, t53, t54, t55, t56, t57, t58, t59, t60, t61, t62, t63, t64, t65, t66, t67, t68, t69, t70, t71, t72, t73, t74, t75, t76, t77, t78, t79, t80, t81, t82, t83, t84, t85, t86, t87, t88, t89, t90, t91, t92, t93, t94, t95, t96, t97, t98, t99, t100, t101, t102, t103, t104, t105, t106, t107, t108, t109, t110, t111, t112, t113, t114, t115, t116, t117, t118, t119, t120, t121, t122, t123, t124, t125, t126, t127, t128, t129, t130, t131, t132, t133, t134, t135, t136, t137, t138, t139, t140, t141, t142, t143, t144, t145, t146, t147, t148, t149, t150, t151, t152, t153, t154, t155, t156, t157, t158, t159, t160, t161, t162, t163, t164, t165, t166, t167, t168, t169, t170, t171, t172, t173, t174, t175, t176, t177, t178, t179, t180, t181, t182, t183, t184, t185, t186, t187, t188, t189, t190, t191, t192, t193, t194, t195, t196, t197, t198, t199, t200, t201, t202, t203, t204, t205], []⟩ wq := by
  have HA := Lib.hid hA
  have HQ := Lib.hid hQ
  have HP := Lib.hid hP
  obtain ⟨p6, c6, hv6, hc6⟩ := id hrow
  cases hv6
  obtain ⟨g5, rfl, hg5, hce5⟩ := hc6 (by intro e; rw [e] at hj; exact absurd hj (Nat.not_lt_zero j))
  have y0 : wq.cell? ⟨g5, j, none⟩ = some (.int .i64 new[j]) := by
    have := hce5 j hj
    have hgd : new.getD j 0 = new[j] := by simp [List.getD, hj]
    rw [hgd] at this
    exact this
  have ht : Tkn s'.A new[j] := (n3 _).2 (.inr (List.getElem_mem hj))
  obtain ⟨b, hab, hfit⟩ := ht.nat hA.qx.good.inv
  have HTK : Hid (Tkn s'.A b) := by show Tkn _ _; rw [← hab]; exact ht
  have hfresh := hMM.fresh n1 n2 hj
  have HFR := Lib.hid hfresh
  have hEk : ∀ x ∈ E, x.k ≠ b ∧ Tkn s'.A x.k := fun x hx => ⟨by rw [← hab]; exact hfresh x hx, (n3 _).2 (((hMM.mem _).1 ⟨x, hx, rfl⟩).imp id List.mem_of_mem_take)⟩
  have HNX : Hid (∀ v bn, MapMid s new (j + 1) (E ++ [⟨new[j], v, bn⟩]) ∧ BytesOk (putR Hx.bs b (List.replicate 8 v)) (E ++ [⟨new[j], v, bn⟩])) := fun v bn => ⟨hMM.next n1 n2 hj v bn, by rw [hab]; exact hY.next hA.qx.good.inv hA.qx.at_.heap.blen HTK.out hEk v bn⟩
  have HAB := Lib.hid hab
  have HCL : Hid (∀ W, Below wq.heap.size wq W → Calls Tryz.prog 26 #[.pointer (some ⟨Hx.gr, 0, none⟩)] W fun e w' => e = .returned (.pointer (some ⟨Hx.cl, 0, none⟩)) ∧ W = w') := fun W hW => gCells_any Hx.gr Hx.cl pages 0 Hx.b 0 Hx.p s'.l Hx.E W (HA.out.below' hW).qx.at_.heap.ground
  have e0 := hA.qx.at_.cells.1
  have HBX := Lib.hid hbx
  have HROW := Lib.hid hrow
  have hxcb : x ≠ Hx.cb := block_ne hA.qx.at_.obj hA.qx.at_.heap.cells.bytes (by decide)
  have hgcb : g5 ≠ Hx.cb := by omega
  have hbmb : ¬ bx = mb := fun e => by
    obtain ⟨clk, hm⟩ := hA.map
    exact block_ne_map hbx hm e
  have hbcb : ¬ bx = Hx.cb := block_ne hbx hA.qx.at_.heap.cells.bytes (by decide)
  have hj1 : (0 : Int) ≤ (j : Int) ∧ (j : Int) < new.length := by omega
  have hjw : IntKind.i64.wrap ((j : Int) + 1) = (j : Int) + 1 := by rw [IntKind.wrap_i64]; omega
  have hw3 : IntKind.i64.wrap (3 * (j : Int)) = 3 * (j : Int) := by rw [IntKind.wrap_i64]; omega
  have hwk : IntKind.i64.wrap ((k : Int) + 3 * (j : Int)) = (k : Int) + 3 * (j : Int) := by rw [IntKind.wrap_i64]; omega
  have hk1 : (0 : Int) ≤ (k : Int) := by omega
  have hur := u8_range ((k : Int) + 3 * (j : Int))
  have HFILL := Lib.hid hfill
  clear hA hQ hP hMM hY n1 n2 n3 hrow hbx hfill hc6 hce5 ht hfresh hEk hab
  generalize new[j] = a at *
  conv => arg 2; whnf
  by_cases hkf : k < fl
  · obtain ⟨gf, of, v, rfl, hv1, hv2, hcf⟩ := HFILL.out k hkf
    have hv := And.intro hv1 hv2
    clear hv1 hv2 hur
    have hkf1 : (k : Int) < fl := by omega
    focus

      have HV := Lib.hid hv
      have HFL : Hid (∀ W, Below wq.heap.size wq W → Calls Tryz.prog 27 #[.pointer (some ⟨Hx.cl, 0, none⟩), .int .i64 a, .int .i64 8, .int .u8 v] W (StoreDone W Hx.cl Hx.cb (putR Hx.bs b (List.replicate 8 v)))) := fun W hW => by
        rw [HAB.out]
        have hh := (HA.out.below' hW).qx.at_.heap
        exact fill_yes Hx.cl Hx.cb Hx.bs b v W hh.cells (by rw [hh.blen]; exact hfit) HV.out
      clear hv
      go_upto_region 27 with (fail)
      refine wp_region_held_drew (S := fun W : World => W.cell? ⟨x, 0, none⟩ = some (.pointer (some ⟨Hx.gr, 0, none⟩)) ∧ W.cell? ⟨g5, j, none⟩ = some (.int .i64 a)) (by kernel_rfl) ?_ (fun hHeld0 => ?_)
      · exact ⟨e0, y0⟩
      (refine wpAnyH_take (i := 0) (v := ?_) rfl (by kernel_rfl) (by kernel_rfl) (by kernel_rfl) (fun _ _ _ h => HP.out _ _ _ _ _ h) (Or.inl ⟨by rfl, ?_⟩) (by assumption) ?_; rotate_left; focus (intro w hSw; (try dsimp only at hSw); go_simp; first | done | with_reducible rfl); (try simp only [Act.put, List.setIfInBounds_toArray, List.set_cons_zero, List.set_cons_succ, List.getElem_toArray, List.getElem_cons_zero, List.getElem_cons_succ]))
      (refine wpAnyH_take (i := 1) (v := ?_) rfl (by kernel_rfl) (by kernel_rfl) (by kernel_rfl) (fun _ _ _ h => HP.out _ _ _ _ _ h) (Or.inl ⟨by rfl, ?_⟩) (by assumption) ?_; rotate_left; focus (intro w hSw; (try dsimp only at hSw); go_simp; first | done | with_reducible rfl); (try simp only [Act.put, List.setIfInBounds_toArray, List.set_cons_zero, List.set_cons_succ, List.getElem_toArray, List.getElem_cons_zero, List.getElem_cons_succ]))
      (refine wpAnyH_take (i := 2) (v := ?_) rfl (by kernel_rfl) (by kernel_rfl) (by kernel_rfl) (fun _ _ _ h => HP.out _ _ _ _ _ h) (Or.inl ⟨by rfl, ?_⟩) (by assumption) ?_; rotate_left; focus (intro w hSw; (try dsimp only at hSw); go_simp; first | done | with_reducible rfl); (try simp only [Act.put, List.setIfInBounds_toArray, List.set_cons_zero, List.set_cons_succ, List.getElem_toArray, List.getElem_cons_zero, List.getElem_cons_succ]))
      (refine wpAnyH_take (i := 3) (v := ?_) rfl (by kernel_rfl) (by kernel_rfl) (by kernel_rfl) (fun _ _ _ h => HP.out _ _ _ _ _ h) (Or.inl ⟨by rfl, ?_⟩) (by assumption) ?_; rotate_left; focus (intro w hSw; (try dsimp only at hSw); go_simp; first | done | with_reducible rfl); (try simp only [Act.put, List.setIfInBounds_toArray, List.set_cons_zero, List.set_cons_succ, List.getElem_toArray, List.getElem_cons_zero, List.getElem_cons_succ]))
      (refine wpAnyH_take (i := 5) (v := ?_) rfl (by kernel_rfl) (by kernel_rfl) (by kernel_rfl) (fun _ _ _ h => HP.out _ _ _ _ _ h) (Or.inl ⟨by rfl, ?_⟩) (by assumption) ?_; rotate_left; focus (intro w hSw; (try dsimp only at hSw); go_simp; first | done | with_reducible rfl); (try simp only [Act.put, List.setIfInBounds_toArray, List.set_cons_zero, List.set_cons_succ, List.getElem_toArray, List.getElem_cons_zero, List.getElem_cons_succ]))
      (refine wpAnyH_take (i := 6) (v := ?_) rfl (by kernel_rfl) (by kernel_rfl) (by kernel_rfl) (fun _ _ _ h => HP.out _ _ _ _ _ h) (Or.inl ⟨by rfl, ?_⟩) (by assumption) ?_; rotate_left; focus (intro w hSw; (try dsimp only at hSw); go_simp; first | done | with_reducible rfl); (try simp only [Act.put, List.setIfInBounds_toArray, List.set_cons_zero, List.set_cons_succ, List.getElem_toArray, List.getElem_cons_zero, List.getElem_cons_succ]))
      (refine wpAnyH_take (i := 7) (v := ?_) rfl (by kernel_rfl) (by kernel_rfl) (by kernel_rfl) (fun _ _ _ h => HP.out _ _ _ _ _ h) (Or.inl ⟨by rfl, ?_⟩) (by assumption) ?_; rotate_left; focus (intro w hSw; (try dsimp only at hSw); go_simp; first | done | with_reducible rfl); (try simp only [Act.put, List.setIfInBounds_toArray, List.set_cons_zero, List.set_cons_succ, List.getElem_toArray, List.getElem_cons_zero, List.getElem_cons_succ]))
      (refine wpAnyH_take (i := 8) (v := ?_) rfl (by kernel_rfl) (by kernel_rfl) (by kernel_rfl) (fun _ _ _ h => HP.out _ _ _ _ _ h) (Or.inl ⟨by rfl, ?_⟩) (by assumption) ?_; rotate_left; focus (intro w hSw; (try dsimp only at hSw); go_simp; first | done | with_reducible rfl); (try simp only [Act.put, List.setIfInBounds_toArray, List.set_cons_zero, List.set_cons_succ, List.getElem_toArray, List.getElem_cons_zero, List.getElem_cons_succ]))
      (refine wpAnyH_take (i := 9) (v := ?_) rfl (by kernel_rfl) (by kernel_rfl) (by kernel_rfl) (fun _ _ _ h => HP.out _ _ _ _ _ h) (Or.inl ⟨by rfl, ?_⟩) (by assumption) ?_; rotate_left; focus (intro w hSw; (try dsimp only at hSw); go_simp; first | done | with_reducible rfl); (try simp only [Act.put, List.setIfInBounds_toArray, List.set_cons_zero, List.set_cons_succ, List.getElem_toArray, List.getElem_cons_zero, List.getElem_cons_succ]))
      refine wpAnyH_ready (rs := [4]) (by kernel_rfl) (by simp) ?_
      refine AllReadyH.cons rfl (fun K hK => ?_) AllReadyH.nil
      go_simp
      refine (HCL.out wq.drew (Below.drew (Below.refl _ _))).mono ?_
      rintro e w4 ⟨rfl, rfl⟩
      refine hK.out _ _ ⟨e0, y0⟩ (fun hHeld => ?_)
      clear hK K hHeld0
      (try simp only [Act.put, List.setIfInBounds_toArray, List.set_cons_zero, List.set_cons_succ, List.getElem_toArray, List.getElem_cons_zero, List.getElem_cons_succ])
      refine wpAnyH_ready (rs := [10]) (by kernel_rfl) (by simp) ?_
      refine AllReadyH.cons rfl (fun K hK => ?_) AllReadyH.nil
      go_simp
      refine (HFL.out wq.drew (Below.drew (Below.refl _ _))).mono ?_
      intro e w5 hsd
      obtain ⟨hT5, ht5⟩ := (HA.out.below' (Below.drew (Below.refl _ _))).fill HTK.out hsd
      obtain ⟨rfl, -⟩ := hsd
      have k0 := turned_cell ht5 hxcb e0
      have k1 := turned_cell ht5 hgcb y0
      obtain ⟨bn, blk, hup, hmap⟩ := run_update_m und_bmap hT5.map a HFR.out v
      have HT6 := Lib.hid (hT5.wrote hmap)
      have hTn : Turned (fun k => k = mb) w5 (setBlock w5 mb blk) := Turned.setBlock (F := fun k => k = mb) (Turned.refl _ _) (.inl rfl) _
      have HTN : Hid (Turned (fun k => k = mb ∨ k = Hx.cb) wq (setBlock w5 mb blk)) := ((Turned.of_below (F := fun k => k = mb ∨ k = Hx.cb) (Below.drew (Below.refl _ wq)) (Nat.le_refl _)).trans ht5 (fun _ h _ => .inr h)).trans hTn (fun _ h _ => .inl h)
      refine hK.out _ _ ⟨k0, k1⟩ (fun hHeld => ?_)
      clear hK K ht5 hT5 hmap hTn
      (try simp only [Act.put, List.setIfInBounds_toArray, List.set_cons_zero, List.set_cons_succ, List.getElem_toArray, List.getElem_cons_zero, List.getElem_cons_succ])
      (refine wpAnyH_take (i := 11) (v := ?_) rfl (by kernel_rfl) (by kernel_rfl) (by kernel_rfl) (fun _ _ _ h => HP.out _ _ _ _ _ h) (Or.inl ⟨by rfl, ?_⟩) (by assumption) ?_; rotate_left; focus (intro w hSw; (try dsimp only at hSw); go_simp; first | done | with_reducible rfl); (try simp only [Act.put, List.setIfInBounds_toArray, List.set_cons_zero, List.set_cons_succ, List.getElem_toArray, List.getElem_cons_zero, List.getElem_cons_succ]))
      refine wpAnyH_done (by kernel_rfl) ?_ _
      clear hHeld e0 y0
      go_wp2
      generalize setBlock w5 mb blk = W8 at *
      exact HQ.out _ _ _ _ _ _ _ _ _ _ _ _ _ _ _ _ _ _ _ _ _ _ _ _ _ _ _ _ _ _ _ _ _ _ _ _ _ HT6.out (HNX.out v bn).1 (HNX.out v bn).2 ((HTN.out.block _ (lt_of_block HBX.out) (fun h => h.elim hbmb hbcb)).trans HBX.out) (HROW.out.turned HTN.out (fun k h => h.elim (fun e => by rw [e]; exact hmb) (fun e => by rw [e]; exact hcb))) HTN.out rfl
  · have hkf1 : ¬ (k : Int) < fl := by omega
    obtain ⟨v, hvv⟩ : ∃ v, v = IntKind.u8.wrap ((k : Int) + 3 * (j : Int)) := ⟨_, rfl⟩
    have hv : 0 ≤ v ∧ v ≤ 255 := by rw [hvv]; exact hur
    have hvw := hvv.symm
    clear hur hvv
    focus

      have HV := Lib.hid hv
      have HFL : Hid (∀ W, Below wq.heap.size wq W → Calls Tryz.prog 27 #[.pointer (some ⟨Hx.cl, 0, none⟩), .int .i64 a, .int .i64 8, .int .u8 v] W (StoreDone W Hx.cl Hx.cb (putR Hx.bs b (List.replicate 8 v)))) := fun W hW => by
        rw [HAB.out]
        have hh := (HA.out.below' hW).qx.at_.heap
        exact fill_yes Hx.cl Hx.cb Hx.bs b v W hh.cells (by rw [hh.blen]; exact hfit) HV.out
      clear hv
      go_upto_region 27 with (fail)
      refine wp_region_held_drew (S := fun W : World => W.cell? ⟨x, 0, none⟩ = some (.pointer (some ⟨Hx.gr, 0, none⟩)) ∧ W.cell? ⟨g5, j, none⟩ = some (.int .i64 a)) (by kernel_rfl) ?_ (fun hHeld0 => ?_)
      · exact ⟨e0, y0⟩
      (refine wpAnyH_take (i := 0) (v := ?_) rfl (by kernel_rfl) (by kernel_rfl) (by kernel_rfl) (fun _ _ _ h => HP.out _ _ _ _ _ h) (Or.inl ⟨by rfl, ?_⟩) (by assumption) ?_; rotate_left; focus (intro w hSw; (try dsimp only at hSw); go_simp; first | done | with_reducible rfl); (try simp only [Act.put, List.setIfInBounds_toArray, List.set_cons_zero, List.set_cons_succ, List.getElem_toArray, List.getElem_cons_zero, List.getElem_cons_succ]))
      (refine wpAnyH_take (i := 1) (v := ?_) rfl (by kernel_rfl) (by kernel_rfl) (by kernel_rfl) (fun _ _ _ h => HP.out _ _ _ _ _ h) (Or.inl ⟨by rfl, ?_⟩) (by assumption) ?_; rotate_left; focus (intro w hSw; (try dsimp only at hSw); go_simp; first | done | with_reducible rfl); (try simp only [Act.put, List.setIfInBounds_toArray, List.set_cons_zero, List.set_cons_succ, List.getElem_toArray, List.getElem_cons_zero, List.getElem_cons_succ]))
      (refine wpAnyH_take (i := 2) (v := ?_) rfl (by kernel_rfl) (by kernel_rfl) (by kernel_rfl) (fun _ _ _ h => HP.out _ _ _ _ _ h) (Or.inl ⟨by rfl, ?_⟩) (by assumption) ?_; rotate_left; focus (intro w hSw; (try dsimp only at hSw); go_simp; first | done | with_reducible rfl); (try simp only [Act.put, List.setIfInBounds_toArray, List.set_cons_zero, List.set_cons_succ, List.getElem_toArray, List.getElem_cons_zero, List.getElem_cons_succ]))
      (refine wpAnyH_take (i := 3) (v := ?_) rfl (by kernel_rfl) (by kernel_rfl) (by kernel_rfl) (fun _ _ _ h => HP.out _ _ _ _ _ h) (Or.inl ⟨by rfl, ?_⟩) (by assumption) ?_; rotate_left; focus (intro w hSw; (try dsimp only at hSw); go_simp; first | done | with_reducible rfl); (try simp only [Act.put, List.setIfInBounds_toArray, List.set_cons_zero, List.set_cons_succ, List.getElem_toArray, List.getElem_cons_zero, List.getElem_cons_succ]))
      (refine wpAnyH_take (i := 5) (v := ?_) rfl (by kernel_rfl) (by kernel_rfl) (by kernel_rfl) (fun _ _ _ h => HP.out _ _ _ _ _ h) (Or.inl ⟨by rfl, ?_⟩) (by assumption) ?_; rotate_left; focus (intro w hSw; (try dsimp only at hSw); go_simp; first | done | with_reducible rfl); (try simp only [Act.put, List.setIfInBounds_toArray, List.set_cons_zero, List.set_cons_succ, List.getElem_toArray, List.getElem_cons_zero, List.getElem_cons_succ]))
      (refine wpAnyH_take (i := 6) (v := ?_) rfl (by kernel_rfl) (by kernel_rfl) (by kernel_rfl) (fun _ _ _ h => HP.out _ _ _ _ _ h) (Or.inl ⟨by rfl, ?_⟩) (by assumption) ?_; rotate_left; focus (intro w hSw; (try dsimp only at hSw); go_simp; first | done | with_reducible rfl); (try simp only [Act.put, List.setIfInBounds_toArray, List.set_cons_zero, List.set_cons_succ, List.getElem_toArray, List.getElem_cons_zero, List.getElem_cons_succ]))
      (refine wpAnyH_take (i := 7) (v := ?_) rfl (by kernel_rfl) (by kernel_rfl) (by kernel_rfl) (fun _ _ _ h => HP.out _ _ _ _ _ h) (Or.inl ⟨by rfl, ?_⟩) (by assumption) ?_; rotate_left; focus (intro w hSw; (try dsimp only at hSw); go_simp; first | done | with_reducible rfl); (try simp only [Act.put, List.setIfInBounds_toArray, List.set_cons_zero, List.set_cons_succ, List.getElem_toArray, List.getElem_cons_zero, List.getElem_cons_succ]))
      (refine wpAnyH_take (i := 8) (v := ?_) rfl (by kernel_rfl) (by kernel_rfl) (by kernel_rfl) (fun _ _ _ h => HP.out _ _ _ _ _ h) (Or.inl ⟨by rfl, ?_⟩) (by assumption) ?_; rotate_left; focus (intro w hSw; (try dsimp only at hSw); go_simp; first | done | with_reducible rfl); (try simp only [Act.put, List.setIfInBounds_toArray, List.set_cons_zero, List.set_cons_succ, List.getElem_toArray, List.getElem_cons_zero, List.getElem_cons_succ]))
      (refine wpAnyH_take (i := 9) (v := ?_) rfl (by kernel_rfl) (by kernel_rfl) (by kernel_rfl) (fun _ _ _ h => HP.out _ _ _ _ _ h) (Or.inl ⟨by rfl, ?_⟩) (by assumption) ?_; rotate_left; focus (intro w hSw; (try dsimp only at hSw); go_simp; first | done | with_reducible rfl); (try simp only [Act.put, List.setIfInBounds_toArray, List.set_cons_zero, List.set_cons_succ, List.getElem_toArray, List.getElem_cons_zero, List.getElem_cons_succ]))
      refine wpAnyH_ready (rs := [4]) (by kernel_rfl) (by simp) ?_
      refine AllReadyH.cons rfl (fun K hK => ?_) AllReadyH.nil
      go_simp
      refine (HCL.out wq.drew (Below.drew (Below.refl _ _))).mono ?_
      rintro e w4 ⟨rfl, rfl⟩
      refine hK.out _ _ ⟨e0, y0⟩ (fun hHeld => ?_)
      clear hK K hHeld0
      (try simp only [Act.put, List.setIfInBounds_toArray, List.set_cons_zero, List.set_cons_succ, List.getElem_toArray, List.getElem_cons_zero, List.getElem_cons_succ])
      refine wpAnyH_ready (rs := [10]) (by kernel_rfl) (by simp) ?_
      refine AllReadyH.cons rfl (fun K hK => ?_) AllReadyH.nil
      go_simp
      refine (HFL.out wq.drew (Below.drew (Below.refl _ _))).mono ?_
      intro e w5 hsd
      obtain ⟨hT5, ht5⟩ := (HA.out.below' (Below.drew (Below.refl _ _))).fill HTK.out hsd
      obtain ⟨rfl, -⟩ := hsd
      have k0 := turned_cell ht5 hxcb e0
      have k1 := turned_cell ht5 hgcb y0
      obtain ⟨bn, blk, hup, hmap⟩ := run_update_m und_bmap hT5.map a HFR.out v
      have HT6 := Lib.hid (hT5.wrote hmap)
      have hTn : Turned (fun k => k = mb) w5 (setBlock w5 mb blk) := Turned.setBlock (F := fun k => k = mb) (Turned.refl _ _) (.inl rfl) _
      have HTN : Hid (Turned (fun k => k = mb ∨ k = Hx.cb) wq (setBlock w5 mb blk)) := ((Turned.of_below (F := fun k => k = mb ∨ k = Hx.cb) (Below.drew (Below.refl _ wq)) (Nat.le_refl _)).trans ht5 (fun _ h _ => .inr h)).trans hTn (fun _ h _ => .inl h)
      refine hK.out _ _ ⟨k0, k1⟩ (fun hHeld => ?_)
      clear hK K ht5 hT5 hmap hTn
      (try simp only [Act.put, List.setIfInBounds_toArray, List.set_cons_zero, List.set_cons_succ, List.getElem_toArray, List.getElem_cons_zero, List.getElem_cons_succ])
      (refine wpAnyH_take (i := 11) (v := ?_) rfl (by kernel_rfl) (by kernel_rfl) (by kernel_rfl) (fun _ _ _ h => HP.out _ _ _ _ _ h) (Or.inl ⟨by rfl, ?_⟩) (by assumption) ?_; rotate_left; focus (intro w hSw; (try dsimp only at hSw); go_simp; first | done | with_reducible rfl); (try simp only [Act.put, List.setIfInBounds_toArray, List.set_cons_zero, List.set_cons_succ, List.getElem_toArray, List.getElem_cons_zero, List.getElem_cons_succ]))
      refine wpAnyH_done (by kernel_rfl) ?_ _
      clear hHeld e0 y0
      go_wp2
      generalize setBlock w5 mb blk = W8 at *
      exact HQ.out _ _ _ _ _ _ _ _ _ _ _ _ _ _ _ _ _ _ _ _ _ _ _ _ _ _ _ _ _ _ _ _ _ _ _ _ _ HT6.out (HNX.out v bn).1 (HNX.out v bn).2 ((HTN.out.block _ (lt_of_block HBX.out) (fun h => h.elim hbmb hbcb)).trans HBX.out) (HROW.out.turned HTN.out (fun k h => h.elim (fun e => by rw [e]; exact hmb) (fun e => by rw [e]; exact hcb))) HTN.out rfl

end Go.Proofs.YtlljejmblmjjnaaGreat
