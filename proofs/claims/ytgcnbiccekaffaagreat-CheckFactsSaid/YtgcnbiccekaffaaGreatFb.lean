/- CheckFacts: the walk. -/
import Derived.Test.YtgcnbiccekaffaaGreatFa
import Derived.StillTailTactics
import Derived.Deep.RegionHeld3
namespace Go.Proofs.YtgcnbiccekaffaaGreat
open Go.RowKit Go.ChangeMaps

set_option maxRecDepth 100000 in
set_option maxHeartbeats 2000000 in
theorem checkFacts_any (w : World) (bytes at_ kk : Int) (pv : Option Addr) (cap : Nat) (fs : List FactM) (h : FactsAt w pv fs) (hok : ∀ f ∈ fs, FactJ w f) :
    Calls Tryz.prog 3 #[.int .i64 bytes, .slice pv fs.length cap, .int .i64 at_, .int .i64 kk] w (fun e w' => e = .returned (.bool true) ∧ Below w.heap.size w w') := by
  have HH := Lib.hid h
  have HOK := Lib.hid hok
  clear h hok
  go_enter Tryz.func3, Tryz.ntmps3
  go_wp2_with (fail)
  refine (alive_any w).mono ?_
  rintro e W1 ⟨rfl, hb1⟩
  have HB1 := Lib.hid hb1
  clear hb1
  go_wp2_with (fail)
  refine (great_bound W1 bytes pv cap fs (HH.out.below HB1.out)).mono ?_
  rintro e W2 ⟨b, rfl, hgb, hW⟩
  subst hW
  cases b
  · have hg := hgb rfl
    have HG := Lib.hid hg
    have hl60 := hg.2.1
    have hby := hg.1
    clear hgb hg
    by_cases hneg : bytes < 0
    · have HN1 := Lib.hid (new_no bytes W1 (.inl hneg))
      have HN2 := Lib.hid (newR_no bytes W1 (.inl hneg))
      go_wp2_with (fail)
      refine HN1.out.mono ?_
      rintro e W3 ⟨rfl, hW3⟩
      subst hW3
      go_wp2_with (fail)
      refine HN2.out.mono ?_
      rintro e W3 ⟨rfl, hW3⟩
      subst hW3
      go_wp2
      go_ret
      exact ⟨rfl, HB1.out⟩
    · obtain ⟨nb, rfl⟩ := Int.eq_ofNat_of_zero_le (show 0 ≤ bytes by omega)
      have hnb : nb ≤ 1048576 := by omega
      have HN1 := Lib.hid (new_yes (nb : Int) W1 (by omega) (by omega))
      have HN2 := Lib.hid (fun W => newR_yes nb W hnb)
      clear hneg
      go_wp2_with (fail)
      refine HN1.out.mono ?_
      rintro e W3 ⟨rfl, hW3⟩
      have hbW : Below W1.heap.size W1 W3 := by rw [hW3]; exact (by repeat (first | exact Below.refl _ _ | assumption | refine Below.alloc ?_ (by first | omega | (simp <;> omega)) _ | refine Below.drew ?_ | refine Below.setCell ?_ (by first | omega | (simp <;> omega)) _ | refine Below.via (by assumption) (by first | omega | (simp <;> omega)) ?_))
      have hx0 : RepX W1.heap.size W3 (W1.heap.size + 1) ⟨nb, []⟩ (fun k => k = W1.heap.size ∨ k = W1.heap.size + 1) := by
        rw [hW3]
        exact ⟨rep_new W1 nb, inv_new (by omega) (by omega), fun k hk => by simp; omega, fun k hk => by omega, by simp; omega⟩
      have hs3 : W1.heap.size + 2 ≤ W3.heap.size := by rw [hW3]; simp
      clear hW3
      go_wp2_with (fail)
      refine (HN2.out W3).mono ?_
      rintro e W4 ⟨r, rfl, hx4, hb4⟩
      have hboth : Both W1.heap.size W4 (W1.heap.size + 1) r ⟨nb, []⟩ ⟨nb, []⟩ (fun k => k = W1.heap.size ∨ k = W1.heap.size + 1) (fun k => W3.heap.size ≤ k ∧ k < W4.heap.size) :=
        ⟨hx0.below hb4, hx4.mono (fun k h1 h2 => ⟨h1, h2⟩), fun k hk => ⟨by omega, hk.2⟩, fun k hk hg => by omega⟩
      have HBOTH := Lib.hid hboth
      have HB4 := Lib.hid (hbW.trans (hb4.mono hbW.size))
      have hs14 : W1.heap.size ≤ W4.heap.size := HB4.out.size
      clear hbW hx0 hs3 hx4 hb4 hboth HN1 HN2
      go_wp2
      go_loopw [13] (fun i wr => ∃ k : Nat, k ≤ fs.length ∧ i = .int .i64 k ∧ ∃ A F G, Both W1.heap.size wr (W1.heap.size + 1) r A A F G ∧ Below W1.heap.size W4 wr ∧ A.bytes = nb) (fun i _ => fs.length - (intOf i).toNat)
      case atStart => exact ⟨0, Nat.zero_le _, rfl, _, _, _, HBOTH.out, Below.refl _ _, rfl⟩
      case round =>
        obtain ⟨k, hk, rfl, A, F, G, hbo, hbl, hAb⟩ := hrel
        have HAB := Lib.hid hAb
        have HBL := Lib.hid hbl
        have hbx : Below w.heap.size w wr := HB1.out.trans ((HB4.out.trans hbl).mono HB1.out.size)
        have HBX := Lib.hid hbx
        have HBO := Lib.hid hbo
        clear hAb hbl hbx hbo
        by_cases hlt : k < fs.length
        · obtain ⟨ge, oe, rfl, hc⟩ := HH.out k hlt
          have hf := HOK.out _ (List.getElem_mem hlt)
          have hlen := HG.out.2.2 _ (List.getElem_mem hlt)
          generalize fs[k] = f at *
          have HC := Lib.hid hc
          have HF := Lib.hid hf
          have HLEN := Lib.hid hlen
          have ap : ∀ {A A' : AM} {F G : Nat → Prop} {W : World}, Both W1.heap.size W (W1.heap.size + 1) r A A' F G → Apart f.o.data f.p1 F ∧ Apart f.x.data f.p2 F := fun hB => ⟨fun hne b o e hF => by have := HF.out.lt1 hne b o e; have := hB.mod.2.2.2.1 b hF; have := HB1.out.size; omega, fun hne b o e hF => by have := HF.out.lt2 hne b o e; have := hB.mod.2.2.2.1 b hF; have := HB1.out.size; omega⟩
          have HAP : Hid (∀ {A A' : AM} {F G : Nat → Prop} {W : World}, Both W1.heap.size W (W1.heap.size + 1) r A A' F G → Apart f.o.data f.p1 F ∧ Apart f.x.data f.p2 F) := ap
          clear hc hf hlen ap
          have hi1 : (0 : Int) ≤ k ∧ (k : Int) < fs.length := by omega
          have hkw : IntKind.i64.wrap ((k : Int) + 1) = (k : Int) + 1 := by rw [IntKind.wrap_i64]; omega
          (have y0 := cell_past HBX.out (cell_lt (HC.out 0 _ rfl)) (HC.out 0 _ rfl); have y1 := cell_past HBX.out (cell_lt (HC.out 1 _ rfl)) (HC.out 1 _ rfl); have y2 := cell_past HBX.out (cell_lt (HC.out 2 _ rfl)) (HC.out 2 _ rfl); have y3 := cell_past HBX.out (cell_lt (HC.out 3 _ rfl)) (HC.out 3 _ rfl); have y4 := cell_past HBX.out (cell_lt (HC.out 4 _ rfl)) (HC.out 4 _ rfl); have y5 := cell_past HBX.out (cell_lt (HC.out 5 _ rfl)) (HC.out 5 _ rfl); have y6 := cell_past HBX.out (cell_lt (HC.out 6 _ rfl)) (HC.out 6 _ rfl); have y7 := cell_past HBX.out (cell_lt (HC.out 7 _ rfl)) (HC.out 7 _ rfl); have y8 := cell_past HBX.out (cell_lt (HC.out 8 _ rfl)) (HC.out 8 _ rfl); have y9 := cell_past HBX.out (cell_lt (HC.out 9 _ rfl)) (HC.out 9 _ rfl); have y10 := cell_past HBX.out (cell_lt (HC.out 10 _ rfl)) (HC.out 10 _ rfl); have y11 := cell_past HBX.out (cell_lt (HC.out 11 _ rfl)) (HC.out 11 _ rfl); simp only [Nat.add_zero] at y0)
          go_wp2
          go_still_tail 11, (by kernel_rfl)
          go_wp2_with (fail)
          have hbd : Below wr.heap.size wr wr.drew := Below.drew (Below.refl _ _)
          have hBd := HBO.out.below hbd
          refine (may_any hBd.mod.1 hBd.mod.2.1 hBd.mod.2.2.1 f.o f.x HF.out.op f.p1 f.p2 f.q1 f.q2 (HF.out.in1.below (HBX.out.trans (hbd.mono HBX.out.size))) (HAP.out hBd).1 (HF.out.in2.below (HBX.out.trans (hbd.mono HBX.out.size))) (HAP.out hBd).2).mono ?_
          rintro e W5 ⟨rfl, hb5⟩
          rw [may_take]
          have HBO5 := Lib.hid (hBd.below hb5)
          have hb5' : Below wr.heap.size wr W5 := hbd.trans hb5
          have HBX5 := Lib.hid (HBX.out.trans (hb5'.mono HBX.out.size))
          have HBL5 := Lib.hid (HBL.out.trans (hb5'.mono (Nat.le_trans hs14 HBL.out.size)))
          clear hbd hBd hb5 hb5'
          clear y0 y1 y2 y3 y4 y5 y6 y7 y8 y9 y10 y11
          generalize htk : takeE A f.o f.x = te at *
          have HTK := Lib.hid htk
          clear htk
          (have y0 := cell_past HBX5.out (cell_lt (HC.out 0 _ rfl)) (HC.out 0 _ rfl); have y1 := cell_past HBX5.out (cell_lt (HC.out 1 _ rfl)) (HC.out 1 _ rfl); have y2 := cell_past HBX5.out (cell_lt (HC.out 2 _ rfl)) (HC.out 2 _ rfl); have y3 := cell_past HBX5.out (cell_lt (HC.out 3 _ rfl)) (HC.out 3 _ rfl); have y4 := cell_past HBX5.out (cell_lt (HC.out 4 _ rfl)) (HC.out 4 _ rfl); have y5 := cell_past HBX5.out (cell_lt (HC.out 5 _ rfl)) (HC.out 5 _ rfl); have y6 := cell_past HBX5.out (cell_lt (HC.out 6 _ rfl)) (HC.out 6 _ rfl); have y7 := cell_past HBX5.out (cell_lt (HC.out 7 _ rfl)) (HC.out 7 _ rfl); have y8 := cell_past HBX5.out (cell_lt (HC.out 8 _ rfl)) (HC.out 8 _ rfl); have y9 := cell_past HBX5.out (cell_lt (HC.out 9 _ rfl)) (HC.out 9 _ rfl); have y10 := cell_past HBX5.out (cell_lt (HC.out 10 _ rfl)) (HC.out 10 _ rfl); have y11 := cell_past HBX5.out (cell_lt (HC.out 11 _ rfl)) (HC.out 11 _ rfl); simp only [Nat.add_zero] at y0)
          go_wp2
          go_still_tail 11, (by kernel_rfl)
          go_wp2_with (fail)
          have hbd : Below W5.heap.size W5 W5.drew := Below.drew (Below.refl _ _)
          have hBd := HBO5.out.below hbd
          refine (take_x hBd.mod f.o f.x HF.out.op HF.out.bytes f.p1 f.p2 f.q1 f.q2 (HF.out.in1.below (HBX5.out.trans (hbd.mono HBX5.out.size))) (HAP.out hBd).1 (HF.out.in2.below (HBX5.out.trans (hbd.mono HBX5.out.size))) (HAP.out hBd).2 HTK.out rfl).mono ?_
          rintro e W6 ⟨rfl, F6, hx6, hF6, ht6, hb6⟩
          have HBO6 := Lib.hid (hBd.take hx6 hF6 ht6)
          have HBX6 := Lib.hid (HBX5.out.trans (Below.trans (hbd.mono HBX5.out.size) (hb6.mono HB1.out.size)))
          have HBL6 := Lib.hid (HBL5.out.trans (Below.trans (hbd.mono (Nat.le_trans hs14 HBL5.out.size)) hb6))
          clear hbd hBd hx6 hF6 ht6 hb6
          clear y0 y1 y2 y3 y4 y5 y6 y7 y8 y9 y10 y11
          have hop := fun (W : World) (hb : Below W6.heap.size W6 W) => op_any W f.o f.p1 f.q1 (HF.out.in1.below (HBX6.out.trans (hb.mono HBX6.out.size))) (by have := HLEN.out; omega) HF.out.n1
          have han := fun (W : World) (hb : Below W6.heap.size W6 W) => answer_any W f.x f.p2 f.q2 (HF.out.in2.below (HBX6.out.trans (hb.mono HBX6.out.size))) (by have := HLEN.out; omega) HF.out.n2
          have htr := fun (W : World) (hb : Below W6.heap.size W6 W) (pa pb : Option Addr) (qa qb : Nat) (h1 : BytesIn W pa f.o.data) (h2 : BytesIn W pb f.x.data) =>
            takeR_any (F := fun k => G k ∨ W.heap.size ≤ k) ((HBO6.out.below hb).ref.mono (fun k h _ => .inl h)) (HBO.out.mod.2.1) f.o f.x HF.out.op HF.out.bytes pa pb qa qb h1 h2 (fun k hk => .inr hk)
          unfold opR at hop
          unfold ansR at han
          have HOPC := Lib.hid hop
          have HANS := Lib.hid han
          have HTR := Lib.hid htr
          have hA60 : HBO6.out.mod.2.1.count = HBO6.out.mod.2.1.count := rfl
          have hcnt : (takeA A f.o f.x).blocks.length ≤ 1048576 := by have h1 := HBO6.out.mod.2.1.count; have h2 := HBO6.out.mod.2.1.b1; omega
          clear hop han htr hA60
          (have y0 := cell_past HBX6.out (cell_lt (HC.out 0 _ rfl)) (HC.out 0 _ rfl); have y1 := cell_past HBX6.out (cell_lt (HC.out 1 _ rfl)) (HC.out 1 _ rfl); have y2 := cell_past HBX6.out (cell_lt (HC.out 2 _ rfl)) (HC.out 2 _ rfl); have y3 := cell_past HBX6.out (cell_lt (HC.out 3 _ rfl)) (HC.out 3 _ rfl); have y4 := cell_past HBX6.out (cell_lt (HC.out 4 _ rfl)) (HC.out 4 _ rfl); have y5 := cell_past HBX6.out (cell_lt (HC.out 5 _ rfl)) (HC.out 5 _ rfl); have y6 := cell_past HBX6.out (cell_lt (HC.out 6 _ rfl)) (HC.out 6 _ rfl); have y7 := cell_past HBX6.out (cell_lt (HC.out 7 _ rfl)) (HC.out 7 _ rfl); have y8 := cell_past HBX6.out (cell_lt (HC.out 8 _ rfl)) (HC.out 8 _ rfl); have y9 := cell_past HBX6.out (cell_lt (HC.out 9 _ rfl)) (HC.out 9 _ rfl); have y10 := cell_past HBX6.out (cell_lt (HC.out 10 _ rfl)) (HC.out 10 _ rfl); have y11 := cell_past HBX6.out (cell_lt (HC.out 11 _ rfl)) (HC.out 11 _ rfl); simp only [Nat.add_zero] at y0)
          have HBXa0 := Lib.hid HBX6.out
          go_wp2
          refine wp_region_held_drew (S := fun W : World => W.cell? ⟨ge, oe + k * 12, none⟩ = some (.int .i64 f.o.k) ∧ W.cell? ⟨ge, oe + k * 12 + 1, none⟩ = some (.int .u64 f.o.a) ∧ W.cell? ⟨ge, oe + k * 12 + 2, none⟩ = some (.int .u64 f.o.b) ∧ W.cell? ⟨ge, oe + k * 12 + 3, none⟩ = some (.int .i64 f.o.at_) ∧ W.cell? ⟨ge, oe + k * 12 + 4, none⟩ = some (.int .i64 f.o.fr) ∧ W.cell? ⟨ge, oe + k * 12 + 5, none⟩ = some (.int .i64 f.o.n) ∧ W.cell? ⟨ge, oe + k * 12 + 6, none⟩ = some (.slice f.p1 f.o.data.length f.q1) ∧ W.cell? ⟨ge, oe + k * 12 + 7, none⟩ = some (.int .i64 f.x.err) ∧ W.cell? ⟨ge, oe + k * 12 + 8, none⟩ = some (.int .i64 f.x.at_) ∧ W.cell? ⟨ge, oe + k * 12 + 9, none⟩ = some (.int .i64 f.x.n) ∧ W.cell? ⟨ge, oe + k * 12 + 10, none⟩ = some (.int .i64 f.x.count) ∧ W.cell? ⟨ge, oe + k * 12 + 11, none⟩ = some (.slice f.p2 f.x.data.length f.q2)) (by kernel_rfl) ?_ (fun hHeld => ?_)
          · exact ⟨y0, y1, y2, y3, y4, y5, y6, y7, y8, y9, y10, y11⟩
          refine wpAnyH_take (i := 0) (v := ?_) rfl (by kernel_rfl) (by kernel_rfl) (by kernel_rfl) (fun _ _ _ h => h) (Or.inl ⟨by rfl, ?_⟩) (by assumption) ?_
          rotate_left
          · intro w hSw
            (try dsimp only at hSw)
            go_simp
            first | done | with_reducible rfl
          (try simp only [Act.put, List.setIfInBounds_toArray, List.set_cons_zero, List.set_cons_succ, List.getElem_toArray, List.getElem_cons_zero, List.getElem_cons_succ])
          refine wpAnyH_take (i := 1) (v := ?_) rfl (by kernel_rfl) (by kernel_rfl) (by kernel_rfl) (fun _ _ _ h => h) (Or.inl ⟨by rfl, ?_⟩) (by assumption) ?_
          rotate_left
          · intro w hSw
            (try dsimp only at hSw)
            go_simp
            first | done | with_reducible rfl
          (try simp only [Act.put, List.setIfInBounds_toArray, List.set_cons_zero, List.set_cons_succ, List.getElem_toArray, List.getElem_cons_zero, List.getElem_cons_succ])
          refine wpAnyH_take (i := 2) (v := ?_) rfl (by kernel_rfl) (by kernel_rfl) (by kernel_rfl) (fun _ _ _ h => h) (Or.inl ⟨by rfl, ?_⟩) (by assumption) ?_
          rotate_left
          · intro w hSw
            (try dsimp only at hSw)
            go_simp
            first | done | with_reducible rfl
          (try simp only [Act.put, List.setIfInBounds_toArray, List.set_cons_zero, List.set_cons_succ, List.getElem_toArray, List.getElem_cons_zero, List.getElem_cons_succ])
          refine wpAnyH_take (i := 3) (v := ?_) rfl (by kernel_rfl) (by kernel_rfl) (by kernel_rfl) (fun _ _ _ h => h) (Or.inl ⟨by rfl, ?_⟩) (by assumption) ?_
          rotate_left
          · intro w hSw
            (try dsimp only at hSw)
            go_simp
            first | done | with_reducible rfl
          (try simp only [Act.put, List.setIfInBounds_toArray, List.set_cons_zero, List.set_cons_succ, List.getElem_toArray, List.getElem_cons_zero, List.getElem_cons_succ])
          refine wpAnyH_take (i := 4) (v := ?_) rfl (by kernel_rfl) (by kernel_rfl) (by kernel_rfl) (fun _ _ _ h => h) (Or.inl ⟨by rfl, ?_⟩) (by assumption) ?_
          rotate_left
          · intro w hSw
            (try dsimp only at hSw)
            go_simp
            first | done | with_reducible rfl
          (try simp only [Act.put, List.setIfInBounds_toArray, List.set_cons_zero, List.set_cons_succ, List.getElem_toArray, List.getElem_cons_zero, List.getElem_cons_succ])
          refine wpAnyH_take (i := 5) (v := ?_) rfl (by kernel_rfl) (by kernel_rfl) (by kernel_rfl) (fun _ _ _ h => h) (Or.inl ⟨by rfl, ?_⟩) (by assumption) ?_
          rotate_left
          · intro w hSw
            (try dsimp only at hSw)
            go_simp
            first | done | with_reducible rfl
          (try simp only [Act.put, List.setIfInBounds_toArray, List.set_cons_zero, List.set_cons_succ, List.getElem_toArray, List.getElem_cons_zero, List.getElem_cons_succ])
          refine wpAnyH_take (i := 6) (v := ?_) rfl (by kernel_rfl) (by kernel_rfl) (by kernel_rfl) (fun _ _ _ h => h) (Or.inl ⟨by rfl, ?_⟩) (by assumption) ?_
          rotate_left
          · intro w hSw
            (try dsimp only at hSw)
            go_simp
            first | done | with_reducible rfl
          (try simp only [Act.put, List.setIfInBounds_toArray, List.set_cons_zero, List.set_cons_succ, List.getElem_toArray, List.getElem_cons_zero, List.getElem_cons_succ])
          refine wpAnyH_take (i := 8) (v := ?_) rfl (by kernel_rfl) (by kernel_rfl) (by kernel_rfl) (fun _ _ _ h => h) (Or.inl ⟨by rfl, ?_⟩) (by assumption) ?_
          rotate_left
          · intro w hSw
            (try dsimp only at hSw)
            go_simp
            first | done | with_reducible rfl
          (try simp only [Act.put, List.setIfInBounds_toArray, List.set_cons_zero, List.set_cons_succ, List.getElem_toArray, List.getElem_cons_zero, List.getElem_cons_succ])
          refine wpAnyH_take (i := 9) (v := ?_) rfl (by kernel_rfl) (by kernel_rfl) (by kernel_rfl) (fun _ _ _ h => h) (Or.inl ⟨by rfl, ?_⟩) (by assumption) ?_
          rotate_left
          · intro w hSw
            (try dsimp only at hSw)
            go_simp
            first | done | with_reducible rfl
          (try simp only [Act.put, List.setIfInBounds_toArray, List.set_cons_zero, List.set_cons_succ, List.getElem_toArray, List.getElem_cons_zero, List.getElem_cons_succ])
          refine wpAnyH_take (i := 10) (v := ?_) rfl (by kernel_rfl) (by kernel_rfl) (by kernel_rfl) (fun _ _ _ h => h) (Or.inl ⟨by rfl, ?_⟩) (by assumption) ?_
          rotate_left
          · intro w hSw
            (try dsimp only at hSw)
            go_simp
            first | done | with_reducible rfl
          (try simp only [Act.put, List.setIfInBounds_toArray, List.set_cons_zero, List.set_cons_succ, List.getElem_toArray, List.getElem_cons_zero, List.getElem_cons_succ])
          refine wpAnyH_take (i := 11) (v := ?_) rfl (by kernel_rfl) (by kernel_rfl) (by kernel_rfl) (fun _ _ _ h => h) (Or.inl ⟨by rfl, ?_⟩) (by assumption) ?_
          rotate_left
          · intro w hSw
            (try dsimp only at hSw)
            go_simp
            first | done | with_reducible rfl
          (try simp only [Act.put, List.setIfInBounds_toArray, List.set_cons_zero, List.set_cons_succ, List.getElem_toArray, List.getElem_cons_zero, List.getElem_cons_succ])
          refine wpAnyH_take (i := 12) (v := ?_) rfl (by kernel_rfl) (by kernel_rfl) (by kernel_rfl) (fun _ _ _ h => h) (Or.inl ⟨by rfl, ?_⟩) (by assumption) ?_
          rotate_left
          · intro w hSw
            (try dsimp only at hSw)
            go_simp
            first | done | with_reducible rfl
          (try simp only [Act.put, List.setIfInBounds_toArray, List.set_cons_zero, List.set_cons_succ, List.getElem_toArray, List.getElem_cons_zero, List.getElem_cons_succ])
          refine wpAnyH_ready (rs := [7]) (by kernel_rfl) (by simp) ?_
          refine AllReadyH.cons rfl (fun K hK => ?_) AllReadyH.nil
          go_simp
          refine (HOPC.out _ (Below.drew (Below.refl _ _))).mono ?_
          rintro e Wa ⟨pa, qa, rfl, howna, hba⟩
          have hba' : Below W6.heap.size W6 Wa := (Below.drew (Below.refl _ _)).trans hba
          have HBA := Lib.hid hba'
          have HOA := Lib.hid howna
          have HBXa := Lib.hid (HBX6.out.trans (hba'.mono HBX6.out.size))
          (have za0 := cell_past HBXa.out (cell_lt (HC.out 0 _ rfl)) (HC.out 0 _ rfl); have za1 := cell_past HBXa.out (cell_lt (HC.out 1 _ rfl)) (HC.out 1 _ rfl); have za2 := cell_past HBXa.out (cell_lt (HC.out 2 _ rfl)) (HC.out 2 _ rfl); have za3 := cell_past HBXa.out (cell_lt (HC.out 3 _ rfl)) (HC.out 3 _ rfl); have za4 := cell_past HBXa.out (cell_lt (HC.out 4 _ rfl)) (HC.out 4 _ rfl); have za5 := cell_past HBXa.out (cell_lt (HC.out 5 _ rfl)) (HC.out 5 _ rfl); have za6 := cell_past HBXa.out (cell_lt (HC.out 6 _ rfl)) (HC.out 6 _ rfl); have za7 := cell_past HBXa.out (cell_lt (HC.out 7 _ rfl)) (HC.out 7 _ rfl); have za8 := cell_past HBXa.out (cell_lt (HC.out 8 _ rfl)) (HC.out 8 _ rfl); have za9 := cell_past HBXa.out (cell_lt (HC.out 9 _ rfl)) (HC.out 9 _ rfl); have za10 := cell_past HBXa.out (cell_lt (HC.out 10 _ rfl)) (HC.out 10 _ rfl); have za11 := cell_past HBXa.out (cell_lt (HC.out 11 _ rfl)) (HC.out 11 _ rfl); simp only [Nat.add_zero] at za0)
          clear hba hba' howna
          go_wp2_with (fail)
          refine hK.out _ _ ?_ (fun hHeld => ?_)
          · exact ⟨za0, za1, za2, za3, za4, za5, za6, za7, za8, za9, za10, za11⟩
          clear hK K
          (try simp only [Act.put, List.setIfInBounds_toArray, List.set_cons_zero, List.set_cons_succ, List.getElem_toArray, List.getElem_cons_zero, List.getElem_cons_succ])
          refine wpAnyH_ready (rs := [13]) (by kernel_rfl) (by simp) ?_
          refine AllReadyH.cons rfl (fun K hK => ?_) AllReadyH.nil
          go_simp
          refine (HANS.out _ HBA.out).mono ?_
          rintro e Wb ⟨pb, qb, rfl, hownb, hbb⟩
          have hbb' : Below W6.heap.size W6 Wb := HBA.out.trans (hbb.mono HBA.out.size)
          have HTK2 := Lib.hid (HTR.out Wb hbb' pa pb qa qb (HOA.out.1.below hbb) hownb.1)
          have HBB := Lib.hid hbb'
          have HBXb := Lib.hid (HBX6.out.trans (hbb'.mono HBX6.out.size))
          (have zb0 := cell_past HBXb.out (cell_lt (HC.out 0 _ rfl)) (HC.out 0 _ rfl); have zb1 := cell_past HBXb.out (cell_lt (HC.out 1 _ rfl)) (HC.out 1 _ rfl); have zb2 := cell_past HBXb.out (cell_lt (HC.out 2 _ rfl)) (HC.out 2 _ rfl); have zb3 := cell_past HBXb.out (cell_lt (HC.out 3 _ rfl)) (HC.out 3 _ rfl); have zb4 := cell_past HBXb.out (cell_lt (HC.out 4 _ rfl)) (HC.out 4 _ rfl); have zb5 := cell_past HBXb.out (cell_lt (HC.out 5 _ rfl)) (HC.out 5 _ rfl); have zb6 := cell_past HBXb.out (cell_lt (HC.out 6 _ rfl)) (HC.out 6 _ rfl); have zb7 := cell_past HBXb.out (cell_lt (HC.out 7 _ rfl)) (HC.out 7 _ rfl); have zb8 := cell_past HBXb.out (cell_lt (HC.out 8 _ rfl)) (HC.out 8 _ rfl); have zb9 := cell_past HBXb.out (cell_lt (HC.out 9 _ rfl)) (HC.out 9 _ rfl); have zb10 := cell_past HBXb.out (cell_lt (HC.out 10 _ rfl)) (HC.out 10 _ rfl); have zb11 := cell_past HBXb.out (cell_lt (HC.out 11 _ rfl)) (HC.out 11 _ rfl); simp only [Nat.add_zero] at zb0)
          clear hbb hbb' hownb
          go_wp2_with (fail)
          refine hK.out _ _ ?_ (fun hHeld => ?_)
          · exact ⟨zb0, zb1, zb2, zb3, zb4, zb5, zb6, zb7, zb8, zb9, zb10, zb11⟩
          clear hK K
          (try simp only [Act.put, List.setIfInBounds_toArray, List.set_cons_zero, List.set_cons_succ, List.getElem_toArray, List.getElem_cons_zero, List.getElem_cons_succ])
          refine wpAnyH_ready (rs := [14]) (by kernel_rfl) (by simp) ?_
          refine AllReadyH.cons rfl (fun K hK => ?_) AllReadyH.nil
          go_simp
          refine HTK2.out.mono ?_
          rintro e Wc ⟨rfl, hxc, htc⟩
          rw [HTK.out]
          have HBOC := Lib.hid ((HBO6.out.below HBB.out).taker hxc htc)
          have hbc := (HBO6.out.below HBB.out).taker_below htc
          have HBLC := Lib.hid (HBL6.out.trans ((HBB.out.mono (Nat.le_trans hs14 HBL6.out.size)).trans hbc))
          have HBXc := Lib.hid (HBXb.out.trans (hbc.mono HB1.out.size))
          obtain ⟨vb, gy, cy, bs, hat⟩ := HBOC.out.ref
          obtain ⟨pr, cr, rfl, hrows⟩ := rowsAt_own hat.rows
          have c7 : Wc.cell? ⟨r, 0, none⟩ = some (.slice pr (takeA A f.o f.x).blocks.length cr) := (by rw [cell_of_block hat.model]; rfl)
          have HRW := Lib.hid hrows
          (have zc0 := cell_past HBXc.out (cell_lt (HC.out 0 _ rfl)) (HC.out 0 _ rfl); have zc1 := cell_past HBXc.out (cell_lt (HC.out 1 _ rfl)) (HC.out 1 _ rfl); have zc2 := cell_past HBXc.out (cell_lt (HC.out 2 _ rfl)) (HC.out 2 _ rfl); have zc3 := cell_past HBXc.out (cell_lt (HC.out 3 _ rfl)) (HC.out 3 _ rfl); have zc4 := cell_past HBXc.out (cell_lt (HC.out 4 _ rfl)) (HC.out 4 _ rfl); have zc5 := cell_past HBXc.out (cell_lt (HC.out 5 _ rfl)) (HC.out 5 _ rfl); have zc6 := cell_past HBXc.out (cell_lt (HC.out 6 _ rfl)) (HC.out 6 _ rfl); have zc7 := cell_past HBXc.out (cell_lt (HC.out 7 _ rfl)) (HC.out 7 _ rfl); have zc8 := cell_past HBXc.out (cell_lt (HC.out 8 _ rfl)) (HC.out 8 _ rfl); have zc9 := cell_past HBXc.out (cell_lt (HC.out 9 _ rfl)) (HC.out 9 _ rfl); have zc10 := cell_past HBXc.out (cell_lt (HC.out 10 _ rfl)) (HC.out 10 _ rfl); have zc11 := cell_past HBXc.out (cell_lt (HC.out 11 _ rfl)) (HC.out 11 _ rfl); simp only [Nat.add_zero] at zc0)
          clear hxc htc hat hrows hbc
          go_wp2_with (fail)
          refine hK.out _ _ ?_ (fun hHeld => ?_)
          · exact ⟨zc0, zc1, zc2, zc3, zc4, zc5, zc6, zc7, zc8, zc9, zc10, zc11⟩
          clear hK K
          (try simp only [Act.put, List.setIfInBounds_toArray, List.set_cons_zero, List.set_cons_succ, List.getElem_toArray, List.getElem_cons_zero, List.getElem_cons_succ])
          refine wpAnyH_mono (S' := fun W : World => (W.cell? ⟨ge, oe + k * 12, none⟩ = some (.int .i64 f.o.k) ∧ W.cell? ⟨ge, oe + k * 12 + 1, none⟩ = some (.int .u64 f.o.a) ∧ W.cell? ⟨ge, oe + k * 12 + 2, none⟩ = some (.int .u64 f.o.b) ∧ W.cell? ⟨ge, oe + k * 12 + 3, none⟩ = some (.int .i64 f.o.at_) ∧ W.cell? ⟨ge, oe + k * 12 + 4, none⟩ = some (.int .i64 f.o.fr) ∧ W.cell? ⟨ge, oe + k * 12 + 5, none⟩ = some (.int .i64 f.o.n) ∧ W.cell? ⟨ge, oe + k * 12 + 6, none⟩ = some (.slice f.p1 f.o.data.length f.q1) ∧ W.cell? ⟨ge, oe + k * 12 + 7, none⟩ = some (.int .i64 f.x.err) ∧ W.cell? ⟨ge, oe + k * 12 + 8, none⟩ = some (.int .i64 f.x.at_) ∧ W.cell? ⟨ge, oe + k * 12 + 9, none⟩ = some (.int .i64 f.x.n) ∧ W.cell? ⟨ge, oe + k * 12 + 10, none⟩ = some (.int .i64 f.x.count) ∧ W.cell? ⟨ge, oe + k * 12 + 11, none⟩ = some (.slice f.p2 f.x.data.length f.q2)) ∧ W.cell? ⟨r, 0, none⟩ = some (.slice pr (takeA A f.o f.x).blocks.length cr)) (fun _ h => h.1) _ _ _ _ ?_
          have hHeld2 : (fun W : World => (W.cell? ⟨ge, oe + k * 12, none⟩ = some (.int .i64 f.o.k) ∧ W.cell? ⟨ge, oe + k * 12 + 1, none⟩ = some (.int .u64 f.o.a) ∧ W.cell? ⟨ge, oe + k * 12 + 2, none⟩ = some (.int .u64 f.o.b) ∧ W.cell? ⟨ge, oe + k * 12 + 3, none⟩ = some (.int .i64 f.o.at_) ∧ W.cell? ⟨ge, oe + k * 12 + 4, none⟩ = some (.int .i64 f.o.fr) ∧ W.cell? ⟨ge, oe + k * 12 + 5, none⟩ = some (.int .i64 f.o.n) ∧ W.cell? ⟨ge, oe + k * 12 + 6, none⟩ = some (.slice f.p1 f.o.data.length f.q1) ∧ W.cell? ⟨ge, oe + k * 12 + 7, none⟩ = some (.int .i64 f.x.err) ∧ W.cell? ⟨ge, oe + k * 12 + 8, none⟩ = some (.int .i64 f.x.at_) ∧ W.cell? ⟨ge, oe + k * 12 + 9, none⟩ = some (.int .i64 f.x.n) ∧ W.cell? ⟨ge, oe + k * 12 + 10, none⟩ = some (.int .i64 f.x.count) ∧ W.cell? ⟨ge, oe + k * 12 + 11, none⟩ = some (.slice f.p2 f.x.data.length f.q2)) ∧ W.cell? ⟨r, 0, none⟩ = some (.slice pr (takeA A f.o f.x).blocks.length cr)) Wc := ⟨hHeld, c7⟩
          refine wpAnyH_take (i := 15) (v := ?_) rfl (by kernel_rfl) (by kernel_rfl) (by kernel_rfl) (fun _ _ _ h => h) (Or.inl ⟨by rfl, ?_⟩) (by assumption) ?_
          rotate_left
          · intro w hSw
            (try dsimp only at hSw)
            go_simp
            first | done | with_reducible rfl
          (try simp only [Act.put, List.setIfInBounds_toArray, List.set_cons_zero, List.set_cons_succ, List.getElem_toArray, List.getElem_cons_zero, List.getElem_cons_succ])
          refine wpAnyH_take (i := 16) (v := ?_) rfl (by kernel_rfl) (by kernel_rfl) (by kernel_rfl) (fun _ _ _ h => h) (Or.inl ⟨by rfl, ?_⟩) (by assumption) ?_
          rotate_left
          · intro w hSw
            (try dsimp only at hSw)
            go_simp
            first | done | with_reducible rfl
          (try simp only [Act.put, List.setIfInBounds_toArray, List.set_cons_zero, List.set_cons_succ, List.getElem_toArray, List.getElem_cons_zero, List.getElem_cons_succ])
          refine wpAnyH_take (i := 17) (v := ?_) rfl (by kernel_rfl) (by kernel_rfl) (by kernel_rfl) (fun _ _ _ h => h) (Or.inl ⟨by rfl, ?_⟩) (by assumption) ?_
          rotate_left
          · intro w hSw
            (try dsimp only at hSw)
            go_simp
            first | done | with_reducible rfl
          (try simp only [Act.put, List.setIfInBounds_toArray, List.set_cons_zero, List.set_cons_succ, List.getElem_toArray, List.getElem_cons_zero, List.getElem_cons_succ])
          refine wpAnyH_take (i := 18) (v := ?_) rfl (by kernel_rfl) (by kernel_rfl) (by kernel_rfl) (fun _ _ _ h => h) (Or.inl ⟨by rfl, ?_⟩) (by assumption) ?_
          rotate_left
          · intro w hSw
            (try dsimp only at hSw)
            go_simp
            first | done | with_reducible rfl
          (try simp only [Act.put, List.setIfInBounds_toArray, List.set_cons_zero, List.set_cons_succ, List.getElem_toArray, List.getElem_cons_zero, List.getElem_cons_succ])
          refine wpAnyH_take (i := 19) (v := ?_) rfl (by kernel_rfl) (by kernel_rfl) (by kernel_rfl) (fun _ _ _ h => h) (Or.inl ⟨by rfl, ?_⟩) (by assumption) ?_
          rotate_left
          · intro w hSw
            (try dsimp only at hSw)
            go_simp
            first | done | with_reducible rfl
          (try simp only [Act.put, List.setIfInBounds_toArray, List.set_cons_zero, List.set_cons_succ, List.getElem_toArray, List.getElem_cons_zero, List.getElem_cons_succ])
          refine wpAnyH_take (i := 20) (v := ?_) rfl (by kernel_rfl) (by kernel_rfl) (by kernel_rfl) (fun _ _ _ h => h) (Or.inl ⟨by rfl, ?_⟩) (by assumption) ?_
          rotate_left
          · intro w hSw
            (try dsimp only at hSw)
            go_simp
            first | done | with_reducible rfl
          (try simp only [Act.put, List.setIfInBounds_toArray, List.set_cons_zero, List.set_cons_succ, List.getElem_toArray, List.getElem_cons_zero, List.getElem_cons_succ])
          refine wpAnyH_take (i := 21) (v := ?_) rfl (by kernel_rfl) (by kernel_rfl) (by kernel_rfl) (fun _ _ _ h => h) (Or.inl ⟨by rfl, ?_⟩) (by assumption) ?_
          rotate_left
          · intro w hSw
            (try dsimp only at hSw)
            go_simp
            first | done | with_reducible rfl
          (try simp only [Act.put, List.setIfInBounds_toArray, List.set_cons_zero, List.set_cons_succ, List.getElem_toArray, List.getElem_cons_zero, List.getElem_cons_succ])
          refine wpAnyH_take (i := 22) (v := ?_) rfl (by kernel_rfl) (by kernel_rfl) (by kernel_rfl) (fun _ _ _ h => h) (Or.inl ⟨by rfl, ?_⟩) (by assumption) ?_
          rotate_left
          · intro w hSw
            (try dsimp only at hSw)
            go_simp
            first | done | with_reducible rfl
          (try simp only [Act.put, List.setIfInBounds_toArray, List.set_cons_zero, List.set_cons_succ, List.getElem_toArray, List.getElem_cons_zero, List.getElem_cons_succ])
          refine wpAnyH_take (i := 23) (v := ?_) rfl (by kernel_rfl) (by kernel_rfl) (by kernel_rfl) (fun _ _ _ h => h) (Or.inl ⟨by rfl, ?_⟩) (by assumption) ?_
          rotate_left
          · intro w hSw
            (try dsimp only at hSw)
            go_simp
            first | done | with_reducible rfl
          (try simp only [Act.put, List.setIfInBounds_toArray, List.set_cons_zero, List.set_cons_succ, List.getElem_toArray, List.getElem_cons_zero, List.getElem_cons_succ])
          refine wpAnyH_take (i := 25) (v := ?_) rfl (by kernel_rfl) (by kernel_rfl) (by kernel_rfl) (fun _ _ _ h => h) (Or.inl ⟨by rfl, ?_⟩) (by assumption) ?_
          rotate_left
          · intro w hSw
            (try dsimp only at hSw)
            go_simp
            first | done | with_reducible rfl
          (try simp only [Act.put, List.setIfInBounds_toArray, List.set_cons_zero, List.set_cons_succ, List.getElem_toArray, List.getElem_cons_zero, List.getElem_cons_succ])
          refine wpAnyH_take (i := 26) (v := ?_) rfl (by kernel_rfl) (by kernel_rfl) (by kernel_rfl) (fun _ _ _ h => h) (Or.inl ⟨by rfl, ?_⟩) (by assumption) ?_
          rotate_left
          · intro w hSw
            (try dsimp only at hSw)
            go_simp
            first | done | with_reducible rfl
          (try simp only [Act.put, List.setIfInBounds_toArray, List.set_cons_zero, List.set_cons_succ, List.getElem_toArray, List.getElem_cons_zero, List.getElem_cons_succ])
          refine wpAnyH_take (i := 27) (v := ?_) rfl (by kernel_rfl) (by kernel_rfl) (by kernel_rfl) (fun _ _ _ h => h) (Or.inl ⟨by rfl, ?_⟩) (by assumption) ?_
          rotate_left
          · intro w hSw
            (try dsimp only at hSw)
            go_simp
            first | done | with_reducible rfl
          (try simp only [Act.put, List.setIfInBounds_toArray, List.set_cons_zero, List.set_cons_succ, List.getElem_toArray, List.getElem_cons_zero, List.getElem_cons_succ])
          refine wpAnyH_take (i := 28) (v := ?_) rfl (by kernel_rfl) (by kernel_rfl) (by kernel_rfl) (fun _ _ _ h => h) (Or.inl ⟨by rfl, ?_⟩) (by assumption) ?_
          rotate_left
          · intro w hSw
            (try dsimp only at hSw)
            go_simp
            first | done | with_reducible rfl
          (try simp only [Act.put, List.setIfInBounds_toArray, List.set_cons_zero, List.set_cons_succ, List.getElem_toArray, List.getElem_cons_zero, List.getElem_cons_succ])
          refine wpAnyH_ready (rs := [24]) (by kernel_rfl) (by simp) ?_
          refine AllReadyH.cons rfl (fun K hK => ?_) AllReadyH.nil
          go_simp
          refine (blocks_any HBOC.out.mod.1 HBOC.out.mod.2.1).mono ?_
          rintro e Wd ⟨vd, rfl, hrowd, hbd⟩
          obtain ⟨pd, cd, rfl, hrd⟩ := rowsAt_own hrowd
          have HBD := Lib.hid hbd
          have HRD := Lib.hid hrd
          have c8 := cell_past hbd (cell_lt c7) c7
          clear hbd hrd hrowd
          have HBXd := Lib.hid (HBXc.out.trans (HBD.out.mono HBXc.out.size))
          (have zd0 := cell_past HBXd.out (cell_lt (HC.out 0 _ rfl)) (HC.out 0 _ rfl); have zd1 := cell_past HBXd.out (cell_lt (HC.out 1 _ rfl)) (HC.out 1 _ rfl); have zd2 := cell_past HBXd.out (cell_lt (HC.out 2 _ rfl)) (HC.out 2 _ rfl); have zd3 := cell_past HBXd.out (cell_lt (HC.out 3 _ rfl)) (HC.out 3 _ rfl); have zd4 := cell_past HBXd.out (cell_lt (HC.out 4 _ rfl)) (HC.out 4 _ rfl); have zd5 := cell_past HBXd.out (cell_lt (HC.out 5 _ rfl)) (HC.out 5 _ rfl); have zd6 := cell_past HBXd.out (cell_lt (HC.out 6 _ rfl)) (HC.out 6 _ rfl); have zd7 := cell_past HBXd.out (cell_lt (HC.out 7 _ rfl)) (HC.out 7 _ rfl); have zd8 := cell_past HBXd.out (cell_lt (HC.out 8 _ rfl)) (HC.out 8 _ rfl); have zd9 := cell_past HBXd.out (cell_lt (HC.out 9 _ rfl)) (HC.out 9 _ rfl); have zd10 := cell_past HBXd.out (cell_lt (HC.out 10 _ rfl)) (HC.out 10 _ rfl); have zd11 := cell_past HBXd.out (cell_lt (HC.out 11 _ rfl)) (HC.out 11 _ rfl); simp only [Nat.add_zero] at zd0)
          go_wp2_with (fail)
          refine hK.out _ _ ?_ (fun hHeld => ?_)
          · exact ⟨⟨zd0, zd1, zd2, zd3, zd4, zd5, zd6, zd7, zd8, zd9, zd10, zd11⟩, c8⟩
          clear hK K
          (try simp only [Act.put, List.setIfInBounds_toArray, List.set_cons_zero, List.set_cons_succ, List.getElem_toArray, List.getElem_cons_zero, List.getElem_cons_succ])
          refine wpAnyH_ready (rs := [29]) (by kernel_rfl) (by simp) ?_
          refine AllReadyH.cons rfl (fun K hK => ?_) AllReadyH.nil
          go_simp
          refine (sameBlocks_any _ pd pr cd cr (takeA A f.o f.x).blocks (takeA A f.o f.x).blocks HRD.out (HRW.out.below HBD.out) (by omega)).mono ?_
          rintro e We ⟨rfl, hbe⟩
          rw [show decide ((takeA A f.o f.x).blocks.map tri = (takeA A f.o f.x).blocks.map tri) = true from decide_eq_true rfl]
          have HBE := Lib.hid (HBD.out.trans (hbe.mono HBD.out.size))
          have c9 := cell_past hbe (cell_lt c8) c8
          clear hbe
          have HBXe := Lib.hid (HBXc.out.trans (HBE.out.mono HBXc.out.size))
          (have ze0 := cell_past HBXe.out (cell_lt (HC.out 0 _ rfl)) (HC.out 0 _ rfl); have ze1 := cell_past HBXe.out (cell_lt (HC.out 1 _ rfl)) (HC.out 1 _ rfl); have ze2 := cell_past HBXe.out (cell_lt (HC.out 2 _ rfl)) (HC.out 2 _ rfl); have ze3 := cell_past HBXe.out (cell_lt (HC.out 3 _ rfl)) (HC.out 3 _ rfl); have ze4 := cell_past HBXe.out (cell_lt (HC.out 4 _ rfl)) (HC.out 4 _ rfl); have ze5 := cell_past HBXe.out (cell_lt (HC.out 5 _ rfl)) (HC.out 5 _ rfl); have ze6 := cell_past HBXe.out (cell_lt (HC.out 6 _ rfl)) (HC.out 6 _ rfl); have ze7 := cell_past HBXe.out (cell_lt (HC.out 7 _ rfl)) (HC.out 7 _ rfl); have ze8 := cell_past HBXe.out (cell_lt (HC.out 8 _ rfl)) (HC.out 8 _ rfl); have ze9 := cell_past HBXe.out (cell_lt (HC.out 9 _ rfl)) (HC.out 9 _ rfl); have ze10 := cell_past HBXe.out (cell_lt (HC.out 10 _ rfl)) (HC.out 10 _ rfl); have ze11 := cell_past HBXe.out (cell_lt (HC.out 11 _ rfl)) (HC.out 11 _ rfl); simp only [Nat.add_zero] at ze0)
          go_wp2_with (fail)
          refine hK.out _ _ ?_ (fun hHeld => ?_)
          · exact ⟨⟨ze0, ze1, ze2, ze3, ze4, ze5, ze6, ze7, ze8, ze9, ze10, ze11⟩, c9⟩
          clear hK K
          (try simp only [Act.put, List.setIfInBounds_toArray, List.set_cons_zero, List.set_cons_succ, List.getElem_toArray, List.getElem_cons_zero, List.getElem_cons_succ])
          refine wpAnyH_take (i := 30) (v := ?_) rfl (by kernel_rfl) (by kernel_rfl) (by kernel_rfl) (fun _ _ _ h => h) (Or.inl ⟨by rfl, ?_⟩) (by assumption) ?_
          rotate_left
          · intro w hSw
            (try dsimp only at hSw)
            go_simp
            first | done | with_reducible rfl
          (try simp only [Act.put, List.setIfInBounds_toArray, List.set_cons_zero, List.set_cons_succ, List.getElem_toArray, List.getElem_cons_zero, List.getElem_cons_succ])
          refine wpAnyH_take (i := 31) (v := ?_) rfl (by kernel_rfl) (by kernel_rfl) (by kernel_rfl) (fun _ _ _ h => h) (Or.inl ⟨by rfl, ?_⟩) (by assumption) ?_
          rotate_left
          · intro w hSw
            (try dsimp only at hSw)
            go_simp
            first | done | with_reducible rfl
          (try simp only [Act.put, List.setIfInBounds_toArray, List.set_cons_zero, List.set_cons_succ, List.getElem_toArray, List.getElem_cons_zero, List.getElem_cons_succ])
          refine wpAnyH_done (by kernel_rfl) ?_ _
          clear hHeld hHeld2
          go_wp2
          go_roundw
          case rel => exact ⟨k + 1, by omega, by go_num, _, _, _, HBOC.out.below HBE.out, HBLC.out.trans (HBE.out.mono (Nat.le_trans hs14 HBLC.out.size)), by rw [takeA_bytes]; exact HAB.out⟩
          case measure => simp [intOf]; omega
        · obtain rfl : k = fs.length := by omega
          obtain ⟨V, hV⟩ : ∃ V : World, V = wr := ⟨wr, rfl⟩
          subst wr
          have HINV := Lib.hid HBO.out.mod.2.1
          have hcnt : A.blocks.length ≤ 1048576 := by have h1 := HINV.out.count; have h2 := HINV.out.b1; omega
          obtain ⟨vb, gy, cy, bs, hat⟩ := HBO.out.ref
          obtain ⟨pr, cr, rfl, hrows⟩ := rowsAt_own hat.rows
          have c0 : V.cell? ⟨r, 0, none⟩ = some (.slice pr A.blocks.length cr) := by rw [cell_of_block hat.model]; rfl
          have c1 : V.cell? ⟨r, 1, none⟩ = some (.slice (some ⟨gy, 0, none⟩) bs.length cy) := by rw [cell_of_block hat.model]; rfl
          have hbsl : (bs.length : Int) = A.bytes := hat.of.1
          have hbs2 : (bs.length : Int) ≤ 1048576 := by have := HINV.out.b1; omega
          have HBSL := Lib.hid hbsl
          have HAT := Lib.hid hat
          have HRW := Lib.hid hrows
          clear hat hrows hbsl hlt
          go_wp2
          go_loopw [16] (fun i wr => ∃ k : Nat, k ≤ A.blocks.length ∧ i = .int .i64 k ∧ Below V.heap.size V wr) (fun i _ => A.blocks.length - (intOf i).toNat)
          case atStart => exact ⟨0, Nat.zero_le _, rfl, Below.refl _ _⟩
          case round =>
            obtain ⟨i, hi, rfl, hbl⟩ := hrel
            obtain ⟨U, hU⟩ : ∃ U : World, U = wr := ⟨wr, rfl⟩
            subst wr
            have HBU := Lib.hid hbl
            have d0 := cell_past hbl (cell_lt c0) c0
            have d1 := cell_past hbl (cell_lt c1) c1
            have hvu : V.heap.size ≤ U.heap.size := hbl.size
            clear hbl
            have hik : IntKind.i64.wrap ((i : Int) + 1) = (i : Int) + 1 := by rw [IntKind.wrap_i64]; omega
            by_cases hlt : i < A.blocks.length
            · obtain ⟨g, hg, y0, y1, y2⟩ := (HRW.out.below HBU.out) i hlt
              subst hg
              have hmem := List.getElem_mem hlt
              have hlo := HINV.out.lo _ hmem
              have hi1 : (0 : Int) ≤ i ∧ (i : Int) < A.blocks.length := by omega
              generalize A.blocks[i] = b at *
              have HMEM := Lib.hid hmem
              clear hmem
              generalize hba : b.at_ = ba at *
              obtain ⟨a, rfl⟩ := Int.eq_ofNat_of_zero_le hlo.1
              have HBA := Lib.hid hba
              have hfit : a + b.n ≤ bs.length := by have := HBSL.out; omega
              have hnb2 : b.n ≤ 1048576 := by omega
              clear hba hlo
              go_wp2
              go_loopw [18] (fun j wr => ∃ k : Nat, k ≤ b.n ∧ j = .int .i64 k ∧ Below U.heap.size U wr ∧ wr.cell? ⟨U.heap.size, 0, none⟩ = some (.int .i64 a) ∧ wr.cell? ⟨U.heap.size, 1, none⟩ = some (.int .i64 b.n)) (fun j _ => b.n - (intOf j).toNat)
              case atStart => exact ⟨0, Nat.zero_le _, rfl, (Below.refl _ _).alloc (Nat.le_refl _) _, by simp [go_sem], by simp [go_sem]⟩
              case round =>
                obtain ⟨j, hj, rfl, hbl, s0, s1⟩ := hrel
                have HBJ := Lib.hid hbl
                have e1 := cell_past hbl (cell_lt d1) d1
                have hjk : IntKind.i64.wrap ((j : Int) + 1) = (j : Int) + 1 := by rw [IntKind.wrap_i64]; omega
                have lj : U.heap.size < wr.heap.size := cell_lt s0
                clear hbl
                by_cases hjn : j < b.n
                · have hBj := (HBO.out.below HBU.out).below HBJ.out
                  have hkn := known_any hBj.mod.1 HINV.out (a : Int) (j : Int)
                  have hkb := known_block HINV.out HMEM.out hjn
                  rw [HBA.out] at hkb
                  rw [hkb] at hkn
                  have hcode := ref_byte HAT.out HINV.out HMEM.out hjn
                  rw [HBA.out, Int.toNat_natCast] at hcode
                  have hcode1 := cell_past HBU.out (cell_lt hcode) hcode
                  have hcode2 := cell_past HBJ.out (cell_lt hcode1) hcode1
                  have hkv := fun v (e : b.cells.getD j none = some v) => code_known HINV.out HMEM.out e
                  have HKN := Lib.hid hkn
                  clear hBj hkn hkb hcode hcode1
                  have hsum : IntKind.i64.wrap ((a : Int) + j) = (a : Int) + j := by rw [IntKind.wrap_i64]; omega
                  have hidx : (0 : Int) ≤ (a : Int) + j ∧ (a : Int) + j < bs.length := by omega
                  have hix : ((a : Int) + j).toNat = a + j := by omega
                  rcases hu : b.cells.getD j none with _ | v
                  · rw [hu] at HKN hcode2
                    simp only [codeB, cv, Option.isSome_none] at HKN hcode2
                    clear hu hkv
                    go_wp2_with (fail)
                    refine HKN.out.mono ?_
                    rintro e W8 ⟨rfl, hb8⟩
                    have HB8 := Lib.hid (HBJ.out.trans (hb8.mono HBJ.out.size))
                    have q0 := cell_past hb8 (cell_lt s0) s0
                    have q1 := cell_past hb8 (cell_lt s1) s1
                    have q2 := cell_past hb8 (cell_lt e1) e1
                    have q3 := cell_past hb8 (cell_lt hcode2) hcode2
                    clear hb8 s0 s1 e1 hcode2
                    go_wp2
                    (refine wp_region_quiet_ext (by kernel_rfl) (by kernel_rfl) ?_; (repeat (first | go_big_quiet_step ((fail)) | quiet_step ((fail)))); refine wpQuiet_nil ?_; intro w1 hw1; obtain hb := below_of_ext hw1; clear hw1; obtain ⟨hc, hf⟩ := bcell hb; have hz := hb.size; (try simp at hz))
                    have HBq := Lib.hid (HB8.out.trans (hb.mono HB8.out.size))
                    have f0 := cell_past hb (cell_lt q0) q0
                    have f1 := cell_past hb (cell_lt q1) q1
                    clear hb hc hf q0 q1 q2 q3
                    go_wp2
                    go_roundw
                    case rel => exact ⟨j + 1, by omega, by go_num, HBq.out, f0, f1⟩
                    case measure => simp [intOf]; omega
                  · have hv := hkv v hu
                    rw [hu] at HKN hcode2
                    simp only [codeB, cv, Option.isSome_some] at HKN hcode2
                    have hvw : IntKind.i64.wrap v = v := by rw [IntKind.wrap_i64]; omega
                    clear hu hkv
                    go_wp2_with (fail)
                    refine HKN.out.mono ?_
                    rintro e W8 ⟨rfl, hb8⟩
                    have HB8 := Lib.hid (HBJ.out.trans (hb8.mono HBJ.out.size))
                    have q0 := cell_past hb8 (cell_lt s0) s0
                    have q1 := cell_past hb8 (cell_lt s1) s1
                    have q2 := cell_past hb8 (cell_lt e1) e1
                    have q3 := cell_past hb8 (cell_lt hcode2) hcode2
                    clear hb8 s0 s1 e1 hcode2
                    go_wp2
                    (refine wp_region_quiet_ext (by kernel_rfl) (by kernel_rfl) ?_; (repeat (first | go_big_quiet_step ((fail)) | quiet_step ((fail)))); refine wpQuiet_nil ?_; intro w1 hw1; obtain hb := below_of_ext hw1; clear hw1; obtain ⟨hc, hf⟩ := bcell hb; have hz := hb.size; (try simp at hz))
                    have HBq := Lib.hid (HB8.out.trans (hb.mono HB8.out.size))
                    have f0 := cell_past hb (cell_lt q0) q0
                    have f1 := cell_past hb (cell_lt q1) q1
                    clear hb hc hf q0 q1 q2 q3
                    go_wp2
                    go_roundw
                    case rel => exact ⟨j + 1, by omega, by go_num, HBq.out, f0, f1⟩
                    case measure => simp [intOf]; omega
                · obtain rfl : j = b.n := by omega
                  clear s0 hjk
                  go_wp2
                  go_roundw
                  case rel => exact ⟨i + 1, by omega, by go_num, HBU.out.trans (HBJ.out.mono hvu)⟩
                  case measure => simp [intOf]; omega
            · obtain rfl : i = A.blocks.length := by omega
              have hBU := HBO.out.below HBU.out
              have hkn := Lib.hid (known_any hBU.mod.1 HINV.out at_ kk)
              clear hBU hlt hik
              go_wp2_with (fail)
              refine hkn.out.mono ?_
              rintro e W9 ⟨rfl, hb9⟩
              have HB9 := Lib.hid (HBU.out.trans (hb9.mono hvu))
              have q0 := cell_past hb9 (cell_lt d0) d0
              have q1 := cell_past hb9 (cell_lt d1) d1
              have hvw9 : V.heap.size ≤ W9.heap.size := HB9.out.size
              have HBF := Lib.hid (HBX.out.trans (HB9.out.mono HBX.out.size))
              generalize hku : knownA A at_ kk = u at *
              have HKU := Lib.hid hku
              clear hb9 d0 d1 hkn hku
              go_wp2
              go_loopw [24] (fun i wr => ∃ k : Nat, k ≤ A.blocks.length ∧ i = .int .i64 k ∧ wr = W9 ∧ ∀ j (hj : j < k) (hj2 : j < A.blocks.length), ¬ (A.blocks[j].at_ = at_ ∧ 0 ≤ kk ∧ kk < A.blocks[j].n)) (fun i _ => A.blocks.length - (intOf i).toNat)
              case atStart => exact ⟨0, Nat.zero_le _, rfl, rfl, fun j hj => absurd hj (Nat.not_lt_zero j)⟩
              case round =>
                obtain ⟨i, hi2, rfl, rfl, hn⟩ := hrel
                have hik : IntKind.i64.wrap ((i : Int) + 1) = (i : Int) + 1 := by rw [IntKind.wrap_i64]; omega
                by_cases hlt : i < A.blocks.length
                · obtain ⟨g, hg, y0, y1, y2⟩ := (HRW.out.below HB9.out) i hlt
                  subst hg
                  have hmem := List.getElem_mem hlt
                  have hlo := HINV.out.lo _ hmem
                  have hi1 : (0 : Int) ≤ i ∧ (i : Int) < A.blocks.length := by omega
                  have hnx : ¬ (A.blocks[i].at_ = at_ ∧ 0 ≤ kk ∧ kk < A.blocks[i].n) → ∀ j (hj : j < i + 1) (hj2 : j < A.blocks.length), ¬ (A.blocks[j].at_ = at_ ∧ 0 ≤ kk ∧ kk < A.blocks[j].n) := fun hc j hj hj2 => by
                    rcases Nat.lt_succ_iff_lt_or_eq.1 hj with hj | rfl
                    · exact hn j hj hj2
                    · exact hc
                  have HN := Lib.hid hnx
                  clear hn hnx y2
                  generalize A.blocks[i] = b at *
                  have HMEM := Lib.hid hmem
                  clear hmem
                  cases c1 : (b.at_ == at_)
                  · have HNX := Lib.hid (HN.out (fun hh => by rw [hh.1] at c1; simp at c1))
                    clear HN hlo
                    go_wp2
                    go_roundw
                    case rel => exact ⟨i + 1, by omega, by go_num, (by first | rfl | trivial), HNX.out⟩
                    case measure => simp [intOf]; omega
                  · by_cases c2 : 0 ≤ kk
                    · by_cases c3 : kk < (b.n : Int)
                      · have hae : b.at_ = at_ := by simpa using c1
                        subst hae
                        clear HN c1
                        obtain ⟨kn, rfl⟩ := Int.eq_ofNat_of_zero_le c2
                        have hkn : kn < b.n := by omega
                        have hkb := known_block HINV.out HMEM.out hkn
                        rw [HKU.out] at hkb
                        have hcode := ref_byte HAT.out HINV.out HMEM.out hkn
                        have hcode2 := cell_past HB9.out (cell_lt hcode) hcode
                        have hkv := fun v (e : b.cells.getD kn none = some v) => code_known HINV.out HMEM.out e
                        generalize hba : b.at_ = ba at *
                        obtain ⟨a, rfl⟩ := Int.eq_ofNat_of_zero_le hlo.1
                        have hfit : a + b.n ≤ bs.length := by have := HBSL.out; omega
                        rw [Int.toNat_natCast] at hcode2
                        have hsum : IntKind.i64.wrap ((a : Int) + kn) = (a : Int) + kn := by rw [IntKind.wrap_i64]; omega
                        have hidx : (0 : Int) ≤ (a : Int) + kn ∧ (a : Int) + kn < bs.length := by omega
                        have hix : ((a : Int) + kn).toNat = a + kn := by omega
                        have HBA := Lib.hid hba
                        have c3' : kn < b.n := hkn
                        clear hcode hba hlo hkn
                        subst hkb
                        rcases hu : b.cells.getD kn none with _ | v
                        · rw [hu] at hcode2
                          simp only [codeB, cv, Option.isSome_none] at hcode2 ⊢
                          clear hu hkv
                          go_wp2
                          go_ret
                          exact ⟨rfl, HBF.out⟩
                        · have hv := hkv v hu
                          rw [hu] at hcode2
                          simp only [codeB, cv, Option.isSome_some] at hcode2 ⊢
                          clear hu hkv
                          go_wp2
                          go_ret
                          exact ⟨rfl, HBF.out⟩
                      · have HNX := Lib.hid (HN.out (fun hh => c3 hh.2.2))
                        clear HN hlo
                        go_wp2
                        go_roundw
                        case rel => exact ⟨i + 1, by omega, by go_num, (by first | rfl | trivial), HNX.out⟩
                        case measure => simp [intOf]; omega
                    · have HNX := Lib.hid (HN.out (fun hh => c2 hh.2.1))
                      clear HN hlo
                      go_wp2
                      go_roundw
                      case rel => exact ⟨i + 1, by omega, by go_num, (by first | rfl | trivial), HNX.out⟩
                      case measure => simp [intOf]; omega
                · obtain rfl : i = A.blocks.length := by omega
                  have hno := known_no (fun j hj => hn j hj hj)
                  rw [HKU.out] at hno
                  subst hno
                  simp only [cv, Option.isSome_none]
                  clear hn hik hlt
                  go_wp2
                  go_ret
                  exact ⟨rfl, HBF.out⟩
  · go_wp2
    go_ret
    exact ⟨rfl, HB1.out⟩

end Go.Proofs.YtgcnbiccekaffaaGreat
