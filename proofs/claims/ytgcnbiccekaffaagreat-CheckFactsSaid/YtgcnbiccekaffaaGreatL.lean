/- legal: what an answer changes; whether it is legal. -/
import Derived.Test.YtgcnbiccekaffaaGreatK
namespace Go.Proofs.YtgcnbiccekaffaaGreat
open Go.RowKit Go.ChangeMaps

set_option maxRecDepth 100000 in
set_option maxHeartbeats 2000000 in
theorem legal_fresh {w : World} {m : Nat} {A : AM} {F : Nat → Prop} (h : Rep w m A F) (hI : Inv A) (hF : ∀ k, F k → k < w.heap.size) (o : OpA) (xa : AnsA) (ho : OpOk o) (hkind : (o.k == 0) = true ∨ (o.k == 1) = true ∨ (o.k == 2) = true) (p1 p2 : Option Addr) (q1 q2 : Nat) :
    Calls Tryz.prog 24 #[.pointer (some ⟨m, 0, none⟩), opV o p1 q1, ansV xa p2 q2] w (LegalPost m A F w (legalA A o xa)) := by
  have e : legalA A o xa = freshA A o xa := by rw [legalA, if_pos hkind]
  rw [e]
  clear e
  have hcall := Lib.hid (fun W (hb : Below w.heap.size w W) => fresh_any (w := W) (h.below hb) hI (fun k hk => Nat.lt_of_lt_of_le (hF k hk) hb.size) o xa ho p1 p2 q1 q2)
  clear h hI hF ho
  unfold opV ansV at *
  rcases hkind with hk | hk | hk
  · go_enter Tryz.func24, Tryz.ntmps24
    go_wp2_with (go_at_call 41; refine (hcall.out _ (by repeat (first | exact Below.refl _ _ | assumption | refine Below.alloc ?_ (by first | omega | (simp <;> omega)) _ | refine Below.drew ?_ | refine Below.setCell ?_ (by first | omega | (simp <;> omega)) _ | refine Below.via (by assumption) (by first | omega | (simp <;> omega)) ?_))).mono ?_; rintro e w1 ⟨c, rfl, hb, hd⟩)
    go_ret2
    exact ⟨c, rfl, (by repeat (first | exact Below.refl _ _ | assumption | refine Below.alloc ?_ (by first | omega | (simp <;> omega)) _ | refine Below.drew ?_ | refine Below.setCell ?_ (by first | omega | (simp <;> omega)) _ | refine Below.via (by assumption) (by first | omega | (simp <;> omega)) ?_)), hd⟩
  · have hk0 : (o.k == 0) = false := by have : o.k = 1 := by simpa using hk
                                        simp [this]
    go_enter Tryz.func24, Tryz.ntmps24
    go_wp2_with (go_at_call 41; refine (hcall.out _ (by repeat (first | exact Below.refl _ _ | assumption | refine Below.alloc ?_ (by first | omega | (simp <;> omega)) _ | refine Below.drew ?_ | refine Below.setCell ?_ (by first | omega | (simp <;> omega)) _ | refine Below.via (by assumption) (by first | omega | (simp <;> omega)) ?_))).mono ?_; rintro e w1 ⟨c, rfl, hb, hd⟩)
    go_ret2
    exact ⟨c, rfl, (by repeat (first | exact Below.refl _ _ | assumption | refine Below.alloc ?_ (by first | omega | (simp <;> omega)) _ | refine Below.drew ?_ | refine Below.setCell ?_ (by first | omega | (simp <;> omega)) _ | refine Below.via (by assumption) (by first | omega | (simp <;> omega)) ?_)), hd⟩
  · have hk0 : (o.k == 0) = false := by have : o.k = 2 := by simpa using hk
                                        simp [this]
    have hk1 : (o.k == 1) = false := by have : o.k = 2 := by simpa using hk
                                        simp [this]
    go_enter Tryz.func24, Tryz.ntmps24
    go_wp2_with (go_at_call 41; refine (hcall.out _ (by repeat (first | exact Below.refl _ _ | assumption | refine Below.alloc ?_ (by first | omega | (simp <;> omega)) _ | refine Below.drew ?_ | refine Below.setCell ?_ (by first | omega | (simp <;> omega)) _ | refine Below.via (by assumption) (by first | omega | (simp <;> omega)) ?_))).mono ?_; rintro e w1 ⟨c, rfl, hb, hd⟩)
    go_ret2
    exact ⟨c, rfl, (by repeat (first | exact Below.refl _ _ | assumption | refine Below.alloc ?_ (by first | omega | (simp <;> omega)) _ | refine Below.drew ?_ | refine Below.setCell ?_ (by first | omega | (simp <;> omega)) _ | refine Below.via (by assumption) (by first | omega | (simp <;> omega)) ?_)), hd⟩

/-! ### the sum of all sizes -/
def sumS (l : List Blk) : Int := (l.map (·.size)).sum
theorem sumS_cons (b : Blk) (l : List Blk) : sumS (b :: l) = b.size + sumS l := by simp [sumS]
theorem sumS_append (a b : List Blk) : sumS (a ++ b) = sumS a + sumS b := by simp [sumS]
theorem sumS_perm {a b : List Blk} (h : a.Perm b) : sumS a = sumS b := by
  induction h with
  | nil => rfl
  | cons x _ ih => simp [sumS_cons, ih]
  | swap x y l => simp [sumS_cons]; omega
  | trans _ _ h1 h2 => exact h1.trans h2
theorem sumS_nonneg {l : List Blk} (h : ∀ b ∈ l, 0 ≤ b.size) : 0 ≤ sumS l := by
  induction l with
  | nil => simp [sumS]
  | cons b l ih =>
    have h1 := h b (by simp)
    have h2 := ih (fun x hx => h x (by simp [hx]))
    rw [sumS_cons]; omega
theorem sumS_le {hi : Int} : ∀ {l : List Blk} {lo : Int}, Sorted l → (∀ b ∈ l, lo ≤ b.at_ ∧ b.at_ + b.n ≤ hi ∧ 0 ≤ b.size ∧ b.size ≤ b.n) → lo ≤ hi → sumS l ≤ hi - lo
  | [], lo, _, _, h => by simp [sumS]; omega
  | b :: l, lo, hs, hb, _ => by
    unfold Sorted at hs
    rw [List.pairwise_cons] at hs
    have h1 := hb b (by simp)
    have h2 := sumS_le (hi := hi) (l := l) (lo := b.at_ + b.n) hs.2 (fun x hx => ⟨hs.1 x hx, (hb x (by simp [hx])).2⟩) h1.2.1
    rw [sumS_cons]; omega
theorem Inv.sum_le {A : AM} (h : Inv A) : sumS A.blocks ≤ A.bytes := by
  have h0 := h.b0
  have := sumS_le (hi := A.bytes) (l := A.blocks) (lo := 0) h.sorted (fun b hb => by have := h.lo b hb; omega) (by omega)
  omega

/-- Between two rounds: the sum of the sizes of those that came. -/
def SumI (w0 wr : World) (r mb : Nat) (ents : List Ent) (s : Int) : Prop :=
  ∃ left done, Iter wr r mb left ∧ Below r w0 wr ∧ ents.Perm (done ++ left) ∧ s = sumS (done.map Ent.b)

theorem sum_next {ents done left left' : List Ent} {x : Ent} {w0 w' : World} {r mb : Nat} (hp : ents.Perm (done ++ left)) (hp' : left.Perm (x :: left')) (hi : Iter w' r mb left') (hb : Below r w0 w') :
    SumI w0 w' r mb ents (sumS (done.map Ent.b) + x.b.size) :=
  ⟨left', done ++ [x], hi, hb, by
    refine hp.trans ?_
    rw [List.append_assoc]
    exact List.Perm.append_left _ hp', by simp [sumS]⟩

theorem sum_bound {A : AM} (hI : Inv A) {ents done left : List Ent} (p : (ents.map Ent.b).Perm A.blocks) (hp : ents.Perm (done ++ left)) : 0 ≤ sumS (done.map Ent.b) ∧ sumS (done.map Ent.b) ≤ 1048576 ∧ (left = [] → sumS (done.map Ent.b) = sumB A) := by
  have h1 := (hp.map Ent.b).symm.trans p
  rw [List.map_append] at h1
  have h2 := sumS_perm h1
  rw [sumS_append] at h2
  have h3 := hI.sum_le
  have h4 := hI.b1
  have nn : ∀ b ∈ done.map Ent.b ++ left.map Ent.b, 0 ≤ b.size := fun b hb => (hI.lo b (h1.mem_iff.1 hb)).2.2.2.2.1
  have h5 := sumS_nonneg (l := done.map Ent.b) (fun b hb => nn b (List.mem_append.2 (.inl hb)))
  have h6 := sumS_nonneg (l := left.map Ent.b) (fun b hb => nn b (List.mem_append.2 (.inr hb)))
  refine ⟨h5, by omega, fun hl => ?_⟩
  subst hl
  simp only [List.map_nil] at h2
  rw [show sumB A = sumS A.blocks from rfl, ← h2]
  simp [sumS]

set_option maxRecDepth 100000 in
set_option maxHeartbeats 4000000 in
theorem legal_stats {w : World} {m : Nat} {A : AM} {F : Nat → Prop} (h : Rep w m A F) (hI : Inv A) (o : OpA) (xa : AnsA) (hk : o.k = 8) (p1 p2 : Option Addr) (q1 q2 : Nat) :
    Calls Tryz.prog 24 #[.pointer (some ⟨m, 0, none⟩), opV o p1 q1, ansV xa p2 q2] w (LegalPost m A F w (legalA A o xa)) := by
  have hl : legalA A o xa = (.keep, onlyA xa 0 0 (sumB A) A.blocks.length) := by rw [legalA, if_neg (by simp [hk]), if_pos (by simp [hk])]
  rw [hl]
  clear hl
  have k0 : (o.k == 0) = false := by simp [hk]
  have k1 : (o.k == 1) = false := by simp [hk]
  have k2 : (o.k == 2) = false := by simp [hk]
  have k8 : (o.k == 8) = true := by simp [hk]
  clear hk
  have R := Lib.hid h
  obtain ⟨mb, clk, ents, g, p, f⟩ := h
  have hlen : ents.length = A.blocks.length := by rw [← p.length_eq, List.length_map]
  rw [← hlen]
  have H := Lib.hid hI
  have P := Lib.hid p
  have c1 := g.cell1
  have hm := cell_lt c1
  have hm1 : m < w.heap.size + 1 := by omega
  have hm2 : m < w.heap.size + 1 + 1 := by omega
  have hmb := lt_of_block g.map
  have G := Lib.hid g
  clear hI p f hlen g
  unfold opV ansV
  have key : ∀ b1 b2 : Bool, onlyB xa.err xa.at_ xa.n xa.count 0 0 (sumB A) ents.length = b1 → ((xa.data.length : Int) == 0) = b2 →
      Calls Tryz.prog 24 #[.pointer (some ⟨m, 0, none⟩), .agg #[.int .i64 o.k, .int .u64 o.a, .int .u64 o.b, .int .i64 o.at_, .int .i64 o.fr, .int .i64 o.n, .slice p1 o.data.length q1], .agg #[.int .i64 xa.err, .int .i64 xa.at_, .int .i64 xa.n, .int .i64 xa.count, .slice p2 xa.data.length q2]] w
        (LegalPost m A F w (.keep, b1 && b2)) := by
    intro b1 b2 d1 d2
    have D1 := Lib.hid d1
    clear d1
    go_enter Tryz.func24, Tryz.ntmps24
    have hR1 := Lib.hid (G.out.below (W := ((w.alloc (.cells #[.pointer (some ⟨m, 0, none⟩)] 25)).alloc (.cells #[.int .i64 o.k, .int .u64 o.a, .int .u64 o.b, .int .i64 o.at_, .int .i64 o.fr, .int .i64 o.n, .slice p1 o.data.length q1] 36)).alloc (.cells #[.int .i64 xa.err, .int .i64 xa.at_, .int .i64 xa.n, .int .i64 xa.count, .slice p2 xa.data.length q2] 38)) (by repeat (first | exact Below.refl _ _ | assumption | refine Below.alloc ?_ (by first | omega | (simp <;> omega)) _ | refine Below.drew ?_ | refine Below.setCell ?_ (by first | omega | (simp <;> omega)) _ | refine Below.via (by assumption) (by first | omega | (simp <;> omega)) ?_)))
    go_wp2_with (at_range; refine wpList_range_ents rfl _ rfl rfl hR1.out.map hR1.out.born hR1.out.old ?_; intro hit)
    try go_frame
    obtain ⟨W0, hW0⟩ : ∃ W0, W0 = ((w.alloc (.cells #[.pointer (some ⟨m, 0, none⟩)] 25)).alloc (.cells #[.int .i64 o.k, .int .u64 o.a, .int .u64 o.b, .int .i64 o.at_, .int .i64 o.fr, .int .i64 o.n, .slice p1 o.data.length q1] 36)).alloc (.cells #[.int .i64 xa.err, .int .i64 xa.at_, .int .i64 xa.n, .int .i64 xa.count, .slice p2 xa.data.length q2] 38) := ⟨_, rfl⟩
    have hbW : Below w.heap.size w W0 := by rw [hW0]; exact (by repeat (first | exact Below.refl _ _ | assumption | refine Below.alloc ?_ (by first | omega | (simp <;> omega)) _ | refine Below.drew ?_ | refine Below.setCell ?_ (by first | omega | (simp <;> omega)) _ | refine Below.via (by assumption) (by first | omega | (simp <;> omega)) ?_))
    have hsW : w.heap.size + 3 ≤ W0.heap.size := by rw [hW0]; simp
    have B0 : W0.cell? ⟨w.heap.size, 0, none⟩ = some (.pointer (some ⟨m, 0, none⟩)) := by rw [hW0]; simp [go_sem]
    have BA : ∀ i, W0.cell? ⟨w.heap.size + 1 + 1, i, none⟩ = (#[.int .i64 xa.err, .int .i64 xa.at_, .int .i64 xa.n, .int .i64 xa.count, .slice p2 xa.data.length q2] : Array Value)[i]? := fun i => by rw [hW0]; simp [go_sem]
    rw [← hW0] at hR1 hit ⊢
    clear hW0
    go_loopw [8] (fun s wr => ∃ sv : Int, s = .int .i64 sv ∧ SumI W0 wr W0.heap.size mb ents sv) (fun _ wr => leftN wr W0.heap.size mb)
    case atStart => exact ⟨0, rfl, ents, [], hit, (Below.refl _ _).alloc (Nat.le_refl _) _, List.Perm.refl _, rfl⟩
    case round =>
      obtain ⟨sv, rfl, left, done, hi, hbl, hp, hsv⟩ := hrel
      have hsb := sum_bound H.out P.out hp
      rw [← hsv] at hsb
      obtain ⟨hs0, hs1, hs2⟩ := hsb
      have HLEN := Lib.hid hi.leftN
      have HP := Lib.hid hp
      have HSV := Lib.hid hsv
      have hltr := hi.lt.1
      clear hp hsv
      have wrB : ∀ (b i : Nat) (v : Value), b < W0.heap.size → W0.cell? ⟨b, i, none⟩ = some v → wr.cell? ⟨b, i, none⟩ = some v := fun b i v hb hv => cell_past hbl hb hv
      go_wp2_with (at_next; refine wpList_next_ents rfl _ rfl rfl hi ?_ ?_)
      · intro hl
        have hsum := hs2 hl
        have HSUM := Lib.hid hsum
        clear hl hs2 hsum
        have V0 := wrB _ _ _ (by omega) B0
        have VM : wr.cell? ⟨m, 1, none⟩ = some (.map (some mb)) := by
          rw [(hbW.trans (hbl.mono (by omega : w.heap.size ≤ _))).cell (p := ⟨m, 1, none⟩) hm]; exact c1
        have VA0 := wrB _ _ _ (by omega) (BA 0)
        have VA1 := wrB _ _ _ (by omega) (BA 1)
        have VA2 := wrB _ _ _ (by omega) (BA 2)
        have VA3 := wrB _ _ _ (by omega) (BA 3)
        have VA4 := wrB _ _ _ (by omega) (BA 4)
        have hmapr : wr.heap[mb]? = some (.map (ents.map entry).toArray clk) := (hbl.block _ (by have := hbW.size; omega)).trans hR1.out.map
        have hlenr : ∀ X ty, (Builtin.len_ #[74] ty #[.map (some mb)]).run Tryz.prog (wr.ext X) = .ok (.int .i64 ents.length) (wr.ext X) := fun X ty =>
          run_len_ents (w := wr.ext X) (mb := mb) (clk := clk) (ents := ents) (((below_ext wr X).block _ (lt_of_block hmapr)).trans hmapr) ty
        have hbwr := Lib.hid (hbW.trans (hbl.mono (by omega : w.heap.size ≤ _)))
        clear hmapr wrB hi hbl hit hR1
        have D2 := Lib.hid d2
        have D3 : onlyB xa.err xa.at_ xa.n xa.count 0 0 sv ents.length = b1 := by rw [HSUM.out]; exact D1.out
        clear d2
        have d2 := D2.out
        cases b1 <;> cases b2
        all_goals
          go_wp2
          (refine wp_region_quiet_ext (by kernel_rfl) (by kernel_rfl) ?_; (repeat (first | go_big_quiet_step ((go_at_call 43; refine Calls.ext_of (only_any _ _ _ _ _ _ _ _ _ _ _))) | quiet_step ((go_at_call 43; refine Calls.ext_of (only_any _ _ _ _ _ _ _ _ _ _ _))))); refine wpQuiet_nil ?_; intro w2 hw2; obtain hb2 := below_of_ext hw2; clear hw2; obtain ⟨hc2, hf2⟩ := bcell hb2; have hz2 := hb2.size; (try simp at hz2))
          go_wp2
          go_ret2
          exact ⟨_, rfl, Below.via hb2 (by have := hbwr.out.size; omega) hbwr.out, fun _ => does_nothing (R.out.below (Below.via hb2 (by have := hbwr.out.size; omega) hbwr.out))⟩
      · rintro x left' w' hp' hi' ht hs hen
        have hxm : x ∈ ents := HP.out.mem_iff.2 (List.mem_append.2 (.inr (hp'.mem_iff.2 (List.mem_cons_self))))
        have hbl' : Below W0.heap.size W0 w' := hbl.trans (ht.below (by rintro _ rfl; exact Nat.le_refl _) (Nat.le_of_lt hi.lt.1))
        have hx : EntAt w' x := (hR1.out.each x hxm).same (hbl'.block _ (hR1.out.lt _ (foot_blk hxm))) (hbl'.block _ (hR1.out.lt _ (foot_cb hxm)))
        have x2 : w'.cell? ⟨x.blk, 2, none⟩ = some (.int .i64 x.b.size) := by rw [cell_of_block hx.1]; rfl
        have hxs := H.out.lo x.b (P.out.mem_iff.1 (List.mem_map.2 ⟨x, hxm, rfl⟩))
        have hbb := H.out.b1
        have s0 : 0 ≤ x.b.size := hxs.2.2.2.2.1
        have s1 : x.b.size ≤ 1048576 := by omega
        have HP' := Lib.hid hp'
        clear hxs hbb hp' hs2
        go_wp2
        go_roundw
        case rel =>
          have hn := sum_next HP.out HP'.out hi' hbl'
          rw [← HSV.out] at hn
          first | exact ⟨_, rfl, hn⟩ | exact hn
        case measure => rw [HLEN.out, hi'.leftN, HP'.out.length_eq]; simp
  exact key _ _ rfl rfl

end Go.Proofs.YtgcnbiccekaffaaGreat
