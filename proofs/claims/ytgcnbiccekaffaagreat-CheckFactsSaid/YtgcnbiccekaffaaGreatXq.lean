/- CheckJudges: the walk. -/
import Derived.Test.YtgcnbiccekaffaaGreatXp
import Derived.Test.YtgcnbiccekaffaaGreatCv
import Derived.Test.YtgcnbiccekaffaaGreatRj
import Derived.Test.YtgcnbiccekaffaaGreatAlz
namespace Go.Proofs.YtgcnbiccekaffaaGreat
open Go.RowKit Go.ChangeMaps

theorem runE_copy {es es' : List EvM} (h : es'.map evC = es.map evC) : ∀ (r : List Nat) (A : AM), runE es' A r = runE es A r
  | [], _ => rfl
  | i :: r, A => by
    have h1 := evC_at h i
    have h2 : (evAt es' i).o = (evAt es i).o ∧ (evAt es' i).x = (evAt es i).x := by
      unfold evC at h1
      simp only [Prod.mk.injEq] at h1
      exact ⟨h1.2.1, h1.2.2.1⟩
    rw [runE, runE, h2.1, h2.2, runE_copy h r]

theorem judges_same {w w' w2 w2' : World} {bytes : Int} {es es' : List EvM} {e e2 : Ending} (h1 : JudgePost w bytes es e w') (h2 : JudgeRPost w2 bytes es' e2 w2') (hm : es'.map evC = es.map evC) :
    ∃ n er, e = .returned (.tuple #[.int .i64 n, .int .i64 er]) ∧ e2 = .returned (.tuple #[.int .i64 n, .int .i64 er]) := by
  obtain ⟨_, n, er, rfl, c1⟩ := h1
  obtain ⟨_, m, f, rfl, c2⟩ := h2
  have key : n = m ∧ er = f := by
    rcases c1 with ⟨hb, rfl, rfl⟩ | ⟨hb, c1⟩
    · rcases c2 with ⟨_, rfl, rfl⟩ | ⟨hb2, _⟩
      · exact ⟨rfl, rfl⟩
      · omega
    · rcases c2 with ⟨hb2, _⟩ | ⟨_, c2⟩
      · omega
      · rcases c1 with ⟨hA, rfl, rfl⟩ | ⟨hA, ys, hp, hs, ⟨hO, rfl, rfl⟩ | ⟨hO, hr⟩⟩
        · rcases c2 with ⟨_, rfl, rfl⟩ | ⟨hg, _⟩
          · exact ⟨rfl, rfl⟩
          · exact absurd ((evC_good hm).1 hg).1 (by rw [hA]; decide)
        · rcases c2 with ⟨_, rfl, rfl⟩ | ⟨hg, _⟩
          · exact ⟨rfl, rfl⟩
          · have := (okFrom_good hA hp hs).2 ((evC_good hm).1 hg)
            rw [hO] at this
            cases this
        · have hg := (okFrom_good hA hp hs).1 hO
          rcases c2 with ⟨hn, _⟩ | ⟨_, xs, hxp, hxs, hx⟩
          · exact absurd ((evC_good hm).2 hg) hn
          · have hxy : ys = xs := one_order hg hp (by rw [evC_len hm, evC_pick hm] at hxp; exact hxp) hs (hxs.imp (fun {a b} h => by rw [evC_took hm, evC_took hm] at h; exact h))
            subst hxy
            rw [runE_copy hm, ← hr] at hx
            simp only [Prod.mk.injEq] at hx
            exact ⟨hx.1.symm, hx.2.symm⟩
  obtain ⟨rfl, rfl⟩ := key
  exact ⟨n, er, rfl, rfl⟩

theorem evR_copy {w w2 w3 : World} {es es' : List EvM} (hm : es'.map evC = es.map evC) (hok : ∀ e ∈ es, EvOk w e) (hown : ∀ x ∈ es', EvOwn w2 w3 x) : ∀ e ∈ es', EvR w3 e := fun e he => by
  have h1 : evC e ∈ es.map evC := by rw [← hm]; exact List.mem_map.2 ⟨e, he, rfl⟩
  obtain ⟨x, hx, hxe⟩ := List.mem_map.1 h1
  unfold evC at hxe
  simp only [Prod.mk.injEq] at hxe
  have hx' := hok x hx
  exact ⟨by rw [← hxe.2.1]; exact hx'.op, by rw [← hxe.2.2.1]; exact hx'.bytes, (hown e he).1.1, (hown e he).2.1⟩

theorem EvOk.below {w W : World} {e : EvM} (h : EvOk w e) (hb : Below w.heap.size w W) : EvOk W e :=
  ⟨h.op, h.bytes, h.in1.below hb, h.in2.below hb, fun a b c d => Nat.lt_of_lt_of_le (h.lt1 a b c d) hb.size, fun a b c d => Nat.lt_of_lt_of_le (h.lt2 a b c d) hb.size, h.wk⟩

set_option maxRecDepth 100000 in
set_option maxHeartbeats 1000000 in
theorem checkJudges_any (w : World) (bytes : Int) (pv : Option Addr) (cap : Nat) (es : List EvM) (h : EvsAt w pv es) (hin : ∀ e ∈ es, EvJ w e) (hpv : ∀ g o, pv = some ⟨g, o, none⟩ → g < w.heap.size) :
    Calls Tryz.prog 4 #[.int .i64 bytes, .slice pv es.length cap] w (fun e w' => e = .returned (.bool true) ∧ Below w.heap.size w w') := by
  have HH := Lib.hid h
  have HIN := Lib.hid hin
  have HPV := Lib.hid hpv
  clear h hin hpv
  by_cases hby : 20000 < bytes ∧ bytes ≤ 1048576
  · obtain ⟨h1, h2⟩ := hby
    go_enter Tryz.func4, Tryz.ntmps4
    go_wp2_with (fail)
    refine (alive_any w).mono ?_
    rintro e w1 ⟨rfl, hb1⟩
    go_wp2
    go_ret
    exact ⟨rfl, hb1⟩
  · by_cases hl : (100 : Int) < es.length
    · have hby2 : bytes ≤ 20000 ∨ 1048576 < bytes := by omega
      clear hby
      rcases hby2 with h1 | h1
      · have h1' : ¬ 20000 < bytes := by omega
        go_enter Tryz.func4, Tryz.ntmps4
        go_wp2_with (fail)
        refine (alive_any w).mono ?_
        rintro e w1 ⟨rfl, hb1⟩
        go_wp2
        go_ret
        exact ⟨rfl, hb1⟩
      · have h1' : (20000 : Int) < bytes := by omega
        have h1'' : ¬ bytes ≤ 1048576 := by omega
        go_enter Tryz.func4, Tryz.ntmps4
        go_wp2_with (fail)
        refine (alive_any w).mono ?_
        rintro e w1 ⟨rfl, hb1⟩
        go_wp2
        go_ret
        exact ⟨rfl, hb1⟩
    · have hby2 : bytes ≤ 20000 ∨ 1048576 < bytes := by omega
      have hl' : es.length ≤ 100 := by omega
      have hlk : ∀ k : Nat, (k : Int) < es.length → IntKind.i64.wrap ((k : Int) + 1) = (k : Int) + 1 := fun k hk => by rw [IntKind.wrap_i64]; omega
      have HLK := Lib.hid hlk
      have HL' := Lib.hid hl'
      clear hby hlk hl'
      have key : ∀ w1, Below w.heap.size w w1 → True := fun _ _ => trivial
      clear key
      rcases hby2 with h1 | h1
      all_goals
        first
          | have h1' : ¬ 20000 < bytes := by omega
          | (have h1' : (20000 : Int) < bytes := by omega
             have h1'' : ¬ bytes ≤ 1048576 := by omega)
        go_enter Tryz.func4, Tryz.ntmps4
        go_wp2_with (fail)
        refine (alive_any w).mono ?_
        rintro e W1 ⟨rfl, hb1⟩
        have HB1 := Lib.hid hb1
        clear hb1
        go_wp2
        go_loopw [5] (fun i wr => ∃ k : Nat, k ≤ es.length ∧ i = .int .i64 k ∧ wr = W1 ∧ ∀ e ∈ es.take k, e.o.data.length ≤ 5000 ∧ e.x.data.length ≤ 5000) (fun i _ => es.length - (intOf i).toNat)
        case atStart => exact ⟨0, Nat.zero_le _, rfl, rfl, fun e he => by simp at he⟩
        case round =>
          obtain ⟨k, hk, rfl, rfl, hall⟩ := hrel
          by_cases hlt : k < es.length
          · obtain ⟨ge, oe, rfl, hc⟩ := (HH.out.below HB1.out) k hlt
            have hnx : es[k].o.data.length ≤ 5000 ∧ es[k].x.data.length ≤ 5000 → ∀ e ∈ es.take (k + 1), e.o.data.length ≤ 5000 ∧ e.x.data.length ≤ 5000 := fun hh e he => by
              rw [List.take_succ_eq_append_getElem hlt, List.mem_append] at he
              rcases he with he | he
              · exact hall e he
              · obtain rfl : e = es[k] := by simpa using he
                exact hh
            have HN := Lib.hid hnx
            have hkw := HLK.out k (by omega)
            generalize es[k] = ev at *
            have y7 := hc 7 _ rfl
            have y12 := hc 12 _ rfl
            have hi1 : (0 : Int) ≤ k ∧ (k : Int) < es.length := by omega
            clear hc hnx hall
            by_cases d1 : (5000 : Int) < ev.o.data.length
            · go_wp2
              go_ret
              exact ⟨rfl, HB1.out⟩
            · by_cases d2 : (5000 : Int) < ev.x.data.length
              · go_wp2
                go_ret
                exact ⟨rfl, HB1.out⟩
              · have HNX := Lib.hid (HN.out ⟨by omega, by omega⟩)
                clear HN
                go_wp2
                go_roundw
                case rel => exact ⟨k + 1, by omega, by go_num, (by first | rfl | trivial), HNX.out⟩
                case measure => simp [intOf]; omega
          · obtain rfl : k = es.length := by omega
            rw [List.take_length] at hall
            have hevin : ∀ e ∈ es, EvIn w e := fun e he => ⟨(HIN.out e he).ok.in1, (HIN.out e he).ok.in2, by have := hall e he; omega, by have := hall e he; omega, (HIN.out e he).n1, (HIN.out e he).n2⟩
            have HEV := Lib.hid hevin
            have HOK := Lib.hid (fun e he => (HIN.out e he).ok)
            clear hall hevin hk hlt
            go_wp2_with (fail)
            refine (judge_any wr bytes pv cap es (HH.out.below HB1.out) (by have := HL'.out; omega) (fun e he => (HOK.out e he).below HB1.out) (fun g o e => Nat.lt_of_lt_of_le (HPV.out g o e) HB1.out.size)).mono ?_
            rintro e1 w2 hj
            have HJ := Lib.hid hj
            have HB2 := Lib.hid (HB1.out.trans (hj.1.mono HB1.out.size))
            have hof := Lib.hid (ofAll_any w2 pv cap es (HH.out.below HB2.out) (fun e he => (HEV.out e he).below HB2.out) (by have := HL'.out; omega))
            obtain ⟨_, n, er, rfl, _⟩ := hj
            go_wp2_with (fail)
            refine hof.out.mono ?_
            rintro e w3 ⟨es', v3, rfl, hlen, hmap, hrow3, hown3, hb3⟩
            obtain ⟨p3, c3, rfl, hevs⟩ := evs_own hlen hrow3
            have HB3 := Lib.hid (HB2.out.trans (hb3.mono HB2.out.size))
            have HREF := Lib.hid (judgeR_any w3 bytes p3 c3 es' hevs (by have := HL'.out; omega) (evR_copy hmap HOK.out hown3))
            have HMAP := Lib.hid hmap
            clear hrow3 hb3 hevs hmap hof hown3 hlen
            go_wp2_with (fail)
            refine HREF.out.mono ?_
            rintro e2 w4 hr
            have HB4 := Lib.hid (HB3.out.trans (hr.1.mono HB3.out.size))
            obtain ⟨n2, er2, hq, rfl⟩ := judges_same HJ.out hr HMAP.out
            obtain ⟨rfl, rfl⟩ : n = n2 ∧ er = er2 := by
              simp at hq
              exact hq
            clear hr hq HJ HREF
            go_wp2
            go_ret
            exact ⟨rfl, HB4.out⟩

end Go.Proofs.YtgcnbiccekaffaaGreat
