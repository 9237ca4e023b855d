/- Judge, called with the six events of CheckSpoilt. -/
import Derived.Test.YtgcnbiccekaffaaSp0
import Derived.Test.YtgcnbiccekaffaaCb
namespace Go.Proofs.Ytgcnbiccekaffaa
open Go.RowKit Go.ChangeMaps

theorem xor_u8 (v b : Int) (hv : 0 ≤ v ∧ v ≤ 255) (hb : 0 ≤ b ∧ b ≤ 255) (h0 : b ≠ 0) : (0 ≤ bits .xor .u8 v b ∧ bits .xor .u8 v b ≤ 255) ∧ bits .xor .u8 v b ≠ v := by
  obtain ⟨a, rfl⟩ := Int.eq_ofNat_of_zero_le hv.1
  obtain ⟨c, rfl⟩ := Int.eq_ofNat_of_zero_le hb.1
  have ha : a < 256 := by omega
  have hc : c < 256 := by omega
  have e : bits .xor .u8 (a : Int) (c : Int) = ((a ^^^ c : Nat) : Int) := by
    have h1 : a ^^^ c < 256 := Nat.xor_lt_two_pow (n := 8) ha hc
    have h2 : (BitVec.ofNat 8 a ^^^ BitVec.ofNat 8 c).toNat = a ^^^ c := by
      rw [BitVec.toNat_xor, BitVec.toNat_ofNat, BitVec.toNat_ofNat, Nat.mod_eq_of_lt ha, Nat.mod_eq_of_lt hc]
    show IntKind.u8.wrap (((BitVec.ofInt 8 (a : Int) ^^^ BitVec.ofInt 8 (c : Int)).toNat : Nat) : Int) = _
    rw [BitVec.ofInt_natCast, BitVec.ofInt_natCast, h2]
    simp [IntKind.wrap, IntKind.bits, IntKind.signed]
    omega
  have h1 : a ^^^ c < 256 := Nat.xor_lt_two_pow (n := 8) ha hc
  rw [e]
  refine ⟨by omega, fun hh => h0 ?_⟩
  have h2 : a ^^^ c = a := by omega
  have h3 : a ^^^ (a ^^^ c) = a ^^^ a := by rw [h2]
  rw [← Nat.xor_assoc, Nat.xor_self, Nat.zero_xor] at h3
  omega

/-- What Judge is told of the six events. -/
structure SpIn (W : World) (P : SpP) : Prop where
  ds : BytesOk P.ds
  rd : BytesOk P.rd
  in1 : BytesIn W P.p1 P.ds
  in2 : BytesIn W P.p2 P.rd
  lt1 : ∀ b o, P.p1 = some ⟨b, o, none⟩ → b < W.heap.size
  lt2 : ∀ b o, P.p2 = some ⟨b, o, none⟩ → b < W.heap.size

theorem SpIn.below {w W : World} {P : SpP} (h : SpIn w P) (hb : Below w.heap.size w W) : SpIn W P :=
  ⟨h.ds, h.rd, h.in1.below hb, h.in2.below hb, fun b o e => Nat.lt_of_lt_of_le (h.lt1 b o e) hb.size, fun b o e => Nat.lt_of_lt_of_le (h.lt2 b o e) hb.size⟩

theorem sp_evok {W : World} {P : SpP} {bytes : Int} (h : SpIn W P) (hk : SpOk P bytes) (t er : Int) : ∀ e ∈ spEvs P t er, EvOk W e := by
  have h1 := hk.l1
  have h2 := hk.l2
  have h3 := hk.s1
  have h4 := hk.s2
  intro e he
  simp only [spEvs, List.mem_cons, List.not_mem_nil, or_false] at he
  rcases he with rfl | rfl | rfl | rfl | rfl | rfl
  · exact ⟨opOk_nil _ _ _ _ _ (by omega) (by omega), fun _ h => (by cases h), bytesIn_nil _ _, bytesIn_nil _ _, fun h => absurd rfl h, fun h => absurd rfl h, (show (Lit.int .i64 0).wf = true from by decide)⟩
  · exact ⟨⟨by show (0 : Int) ≤ 0; omega, by show (0 : Int) < _; omega, by show (0 : Int) ≤ 0; omega, by show (0 : Int) < _; omega, h.ds⟩, fun _ h => (by cases h), h.in1, bytesIn_nil _ _, fun _ => h.lt1, fun h => absurd rfl h, (show (Lit.int .i64 0).wf = true from by decide)⟩
  · exact ⟨opOk_nil _ _ _ _ _ (by decide) (by decide), h.rd, bytesIn_nil _ _, h.in2, fun h => absurd rfl h, fun _ => h.lt2, (show (Lit.int .i64 0).wf = true from by decide)⟩
  · exact ⟨opOk_nil _ _ _ _ _ (by omega) (by omega), fun _ h => (by cases h), bytesIn_nil _ _, bytesIn_nil _ _, fun h => absurd rfl h, fun h => absurd rfl h, (show (Lit.int .i64 1).wf = true from by decide)⟩
  · exact ⟨opOk_nil _ _ _ _ _ (by decide) (by decide), fun _ h => (by cases h), bytesIn_nil _ _, bytesIn_nil _ _, fun h => absurd rfl h, fun h => absurd rfl h, (show (Lit.int .i64 0).wf = true from by decide)⟩
  · exact ⟨opOk_nil _ _ _ _ _ (by decide) (by decide), fun _ h => (by cases h), bytesIn_nil _ _, bytesIn_nil _ _, fun h => absurd rfl h, fun h => absurd rfl h, (show (Lit.int .i64 0).wf = true from by decide)⟩

theorem sp_call {W : World} {P : SpP} {bytes : Int} {g : Nat} {er n r : Int} (hl : W.heap[g]? = some (.cells (evsC (spEvs P 8 er)) 64 (0, 0))) (h : SpIn W P) (hk : SpOk P bytes) (hb : bytes ≤ 1048576)
    (hr : runE (spEvs P 8 er) ⟨bytes, []⟩ [0, 1, 2, 3, 4, 5] = (n, r)) :
    Calls Try.prog 22 #[.int .i64 bytes, .slice (some ⟨g, 0, none⟩) 6 6] W (fun e w' => e = .returned (.tuple #[.int .i64 n, .int .i64 r]) ∧ Below W.heap.size W w') := by
  have hb0 : 0 ≤ bytes := by have := hk.n1; have := hk.b1; omega
  refine (judge_any W bytes (some ⟨g, 0, none⟩) 6 (spEvs P 8 er) (evsAt_of hl) (by show 6 ≤ _; decide) (sp_evok h hk 8 er) (fun g o e => by cases e; exact lt_of_block hl)).mono ?_
  rintro e w' ⟨hbel, n', r', rfl, hcase⟩
  refine ⟨?_, hbel⟩
  have : (n', r') = (n, r) := by
    rcases hcase with ⟨h1, _⟩ | ⟨_, ⟨h1, _⟩ | ⟨_, ys, h1, h2, h3⟩⟩
    · omega
    · rw [sp_timely] at h1; cases h1
    · obtain rfl := sp_ys h1 h2
      rcases h3 with ⟨h3, _⟩ | ⟨_, h3⟩
      · rw [sp_ok] at h3; cases h3
      · rw [h3, hr]
  cases this
  rfl

theorem sp_call_late {W : World} {P : SpP} {bytes : Int} {g : Nat} {er : Int} (hl : W.heap[g]? = some (.cells (evsC (spEvs P 4 er)) 64 (0, 0))) (h : SpIn W P) (hk : SpOk P bytes) (hb : bytes ≤ 1048576) :
    Calls Try.prog 22 #[.int .i64 bytes, .slice (some ⟨g, 0, none⟩) 6 6] W (fun e w' => e = .returned (.tuple #[.int .i64 (-1), .int .i64 10]) ∧ Below W.heap.size W w') := by
  have hb0 : 0 ≤ bytes := by have := hk.n1; have := hk.b1; omega
  refine (judge_any W bytes (some ⟨g, 0, none⟩) 6 (spEvs P 4 er) (evsAt_of hl) (by show 6 ≤ _; decide) (sp_evok h hk 4 er) (fun g o e => by cases e; exact lt_of_block hl)).mono ?_
  rintro e w' ⟨hbel, n', r', rfl, hcase⟩
  refine ⟨?_, hbel⟩
  rcases hcase with ⟨h1, _⟩ | ⟨_, ⟨_, rfl, rfl⟩ | ⟨h1, _⟩⟩
  · omega
  · rfl
  · rw [sp_late] at h1; cases h1

end Go.Proofs.Ytgcnbiccekaffaa
