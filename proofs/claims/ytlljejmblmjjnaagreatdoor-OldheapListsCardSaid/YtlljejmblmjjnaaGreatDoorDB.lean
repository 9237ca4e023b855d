/- copy, clear, append over elements of several cells, in a row that is known whole: of no program. -/
import Derived.Test.YtlljejmblmjjnaaGreatDoorNA
import Derived.Laws.CopyRow
import Derived.Laws.CopyOwn
import Derived.Lib.AppendZerosOnto
import Derived.Maps.AppendAt
import Derived.Test.YtlljejmblmjjnaaGreatDoorDA
import Derived.WalkKit
import Derived.WalkSpells
import Derived.WalkLawsBesides
import Derived.BigQuiet
import Derived.Lib.Hide
import Derived.Lib.Overlaps
import Derived.Deep.Cut
namespace Go.Proofs.YtlljejmblmjjnaaGreatDoor
set_option linter.unusedVariables false
set_option linter.unusedSimpArgs false
open Go.RowKit Go.ChangeMaps

section
variable {P : Program}

theorem run_copy_rown (w : World) (dT sT ty elem : TypeId) (size g o dLen dCap : Nat) (a : Addr) (sLen sCap : Nat) (cur : List Value) (t : TypeId) (cs : List Value)
    (hu : P.underlying dT = some (.slice elem)) (hs : (P.info? elem).map (·.size) = some size)
    (hg : w.heap[g]? = some (.cells cur.toArray t (0, 0))) (hn : cs.length = Nat.min sLen dLen * size)
    (hsrc : ∀ j v, cs[j]? = some v → w.cell? (a.add j) = some v) (hfit : o + cs.length ≤ cur.length) (h1 : ∀ v ∈ cs, v.oneCell' = true) :
    (Builtin.copy_ #[dT, sT] ty #[.slice (some ⟨g, o, none⟩) dLen dCap, .slice (some a) sLen sCap]).run P w = .ok (goInt (Nat.min sLen dLen)) (w.setRow g (splice cur o cs).toArray) := by
  have hl := run_loadCells_list (P := P) w a cs hsrc
  have hst := run_storeCells_at P g o t cs 0 cur.toArray w hg (by simpa using hfit) h1
  simp only [Nat.add_zero] at hst
  cases hq : P.info? elem with
  | none => simp [hq] at hs
  | some i =>
    have hi : i.size = size := by simpa [hq] using hs
    simp [Builtin.copy_, run_underlying hu, Builtin.lenOf, Builtin.firstCells, sizeOf, typeInfo, hq, hi, ← hn, hl, hst, splice]

theorem run_copy_none_n (w : World) (dT sT ty elem : TypeId) (d a : Option Addr) (dLen dCap sLen sCap : Nat) (hu : P.underlying dT = some (.slice elem)) (size : Nat) (hs : (P.info? elem).map (·.size) = some size) (hn : Nat.min sLen dLen = 0) :
    (Builtin.copy_ #[dT, sT] ty #[.slice d dLen dCap, .slice a sLen sCap]).run P w = .ok (goInt 0) w := by
  cases hq : P.info? elem with
  | none => simp [hq] at hs
  | some i =>
    have hl : ∀ (x : Addr), (loadCells x 0).run P w = .ok #[] w := fun x => by simpa using run_loadCells_list (P := P) w x [] (by simp)
    cases d <;> cases a <;> simp [Builtin.copy_, run_underlying hu, Builtin.lenOf, Builtin.firstCells, sizeOf, typeInfo, hq, hn, storeCells, hl]

theorem turned_setRow (w : World) (g : Nat) (cs : Array Value) : Turned (fun k => k = g) w (w.setRow g cs) :=
  ⟨rfl, rfl, rfl, by simp [World.setRow], fun k _ hk => setRow_other w g k cs hk⟩

theorem wpList_copy_any {w : World} {ops : Array Oper} {rest : List Oper} {o : Oper} {a : Act} {Q : Exit → Act → World → Prop} (hgd : o.guard = none) (d s : Operand) (dT sT : TypeId)
    (ho : o.op = .call { callee := .builtin .copy, args := #[d, s], argTypes := #[dT, sT] }) (elem : TypeId) (hu : P.underlying dT = some (.slice elem)) (size : Nat) (hsz : (P.info? elem).map (·.size) = some size) (hs0 : 0 < size)
    (dp sp : Option Addr) (dLen dCap sLen sCap : Nat) (hd : a.eval d = .slice dp dLen dCap) (hs : a.eval s = .slice sp sLen sCap)
    (g off : Nat) (cur : List Value) (t : TypeId) (hg : w.heap[g]? = some (.cells cur.toArray t (0, 0))) (cs : List Value) (hn : cs.length = Nat.min sLen dLen * size)
    (hpos : 0 < cs.length → dp = some ⟨g, off, none⟩ ∧ ∃ ad, sp = some ad ∧ ∀ j v, cs[j]? = some v → w.cell? (ad.add j) = some v)
    (hfit : off + cs.length ≤ cur.length) (h1 : ∀ v ∈ cs, v.oneCell' = true)
    (h : ∀ w' v', Hid (w'.heap[g]? = some (.cells (splice cur off cs).toArray t (0, 0))) → Hid (Turned (fun k => k = g) w w') → wpList P ops Q rest (a.put o.dst v') w') :
    wpList P ops Q (o :: rest) a w := by
  refine wpList_plain hgd fun K hK => ?_
  by_cases h0 : Nat.min sLen dLen = 0
  · have hrun := run_copy_none_n (P := P) w dT sT o.type elem dp sp dLen dCap sLen sCap hu size hsz h0
    have hc : cs = [] := List.eq_nil_of_length_eq_zero (by rw [hn, h0, Nat.zero_mul])
    unfold Oper.wp
    simp [execOp, ho, resolve, invoke, builtin, hd, hs, hrun, Result.andThen]
    refine hK _ _ (h w _ (show _ = _ from ?_) (Turned.refl _ _))
    rw [hg, hc]
    simp [splice]
  · obtain ⟨rfl, ad, rfl, hsrc⟩ := hpos (by rw [hn]; exact Nat.mul_pos (Nat.pos_of_ne_zero h0) hs0)
    have hrun := run_copy_rown (P := P) w dT sT o.type elem size g off dLen dCap ad sLen sCap cur t cs hu hsz hg hn hsrc hfit h1
    unfold Oper.wp
    simp [execOp, ho, resolve, invoke, builtin, hd, hs, hrun, Result.andThen]
    exact hK _ _ (h _ _ (show _ = _ from setRow_heap w g _ _ t _ hg) (turned_setRow _ _ _))

/-- clear of a part of the row: what stands there is some list of zeros. -/
theorem wpList_clear_any {w : World} {ops : Array Oper} {rest : List Oper} {o : Oper} {a : Act} {Q : Exit → Act → World → Prop} (hgd : o.guard = none) (d : Operand) (dT : TypeId)
    (ho : o.op = .call { callee := .builtin .clear, args := #[d], argTypes := #[dT] }) (elem : TypeId) (hu : P.underlying dT = some (.slice elem)) (z : Value) (hv : ∀ w, (zeroValue elem).run P w = .ok z w) (size : Nat) (hz : z.cells.size = size) (hs0 : 0 < size)
    (hz1 : ∀ n, ∀ v ∈ (Builtin.zeroCells z.cells n).toList, v.oneCell' = true)
    (dp : Option Addr) (n dCap : Nat) (hd : a.eval d = .slice dp n dCap)
    (g off : Nat) (cur : List Value) (t : TypeId) (hg : w.heap[g]? = some (.cells cur.toArray t (0, 0)))
    (hpos : 0 < n → dp = some ⟨g, off, none⟩) (hfit : off + n * size ≤ cur.length)
    (h : ∀ w' v' Z, Hid (Z.length = n * size) → Hid (w'.heap[g]? = some (.cells (splice cur off Z).toArray t (0, 0))) → Hid (Turned (fun k => k = g) w w') → wpList P ops Q rest (a.put o.dst v') w') :
    wpList P ops Q (o :: rest) a w := by
  refine wpList_plain hgd fun K hK => ?_
  cases n with
  | zero =>
    have hrun : (Builtin.clear_ #[dT] o.type #[.slice dp 0 dCap]).run P w = .ok (.tuple #[]) w := by
      cases dp <;> simp [Builtin.clear_, run_underlying hu]
    unfold Oper.wp
    simp [execOp, ho, resolve, invoke, builtin, hd, hrun, Result.andThen]
    refine hK _ _ (h w _ [] (show _ = _ by simp) (show _ = _ from ?_) (Turned.refl _ _))
    rw [hg]
    simp [splice]
  | succ n =>
    obtain rfl := hpos (by omega)
    have hlen : (Builtin.zeroCells z.cells (n + 1)).toList.length = (n + 1) * size := by rw [Array.length_toList, size_zeroCells, hz]
    have hst := run_storeCells_at P g off t (Builtin.zeroCells z.cells (n + 1)).toList 0 cur.toArray w hg (by rw [hlen]; simpa using hfit) (hz1 _)
    simp only [Nat.add_zero] at hst
    have hrun : (Builtin.clear_ #[dT] o.type #[.slice (some ⟨g, off, none⟩) (n + 1) dCap]).run P w = .ok (.tuple #[]) (w.setRow g (splice cur off (Builtin.zeroCells z.cells (n + 1)).toList).toArray) := by
      simp [Builtin.clear_, run_underlying hu, hv, hst, splice]
    unfold Oper.wp
    simp [execOp, ho, resolve, invoke, builtin, hd, hrun, Result.andThen]
    exact hK _ _ (h _ _ _ hlen (show _ = _ from setRow_heap w g _ _ t _ hg) (turned_setRow _ _ _))

/-- append onto a cut row that has room: in place. -/
theorem wpList_append_room_any {w : World} {ops : Array Oper} {rest : List Oper} {o : Oper} {a : Act} {Q : Exit → Act → World → Prop} (hgd : o.guard = none) (s x : Operand) (t : TypeId)
    (ho : o.op = .call { callee := .builtin .append, args := #[s, x], argTypes := #[t, t] }) (e : TypeId) (i : TypeInfo) (ht : P.underlying t = some (.slice e)) (hi : P.info? e = some i) (size : Nat) (hsz : i.size = size)
    (g n cap : Nat) (hs : a.eval s = .slice (some ⟨g, 0, none⟩) n cap) (cur : List Value) (hg : w.heap[g]? = some (.cells cur.toArray e (0, 0)))
    (ad : Addr) (m c : Nat) (news : List Value) (hx : a.eval x = .slice (some ad) m c) (hl : news.length = m * size) (hnews : ∀ j u, news[j]? = some u → w.cell? (ad.add j) = some u) (h1 : ∀ u ∈ news, u.oneCell' = true)
    (hroom : n + m ≤ cap) (hfit : n * size + news.length ≤ cur.length)
    (h : ∀ w', Hid (w'.heap[g]? = some (.cells (splice cur (n * size) news).toArray e (0, 0))) → Hid (Turned (fun k => k = g) w w') → wpList P ops Q rest (a.put o.dst (.slice (some ⟨g, 0, none⟩) (n + m) cap)) w') :
    wpList P ops Q (o :: rest) a w := by
  refine wpList_plain hgd fun K hK => ?_
  subst hsz
  have hr := run_append_room (P := P) w t o.type e i ht hi g n cap cur.toArray hg ad m c news hl hnews h1 hroom (by simpa using hfit)
  unfold Oper.wp execOp
  simp only [ho, resolve, invoke, builtin, Sem.run_bind, Sem.run_pure, Result.andThen_ok, List.map_toArray, List.map_cons, List.map_nil, hs, hx, hr]
  exact hK _ _ (h _ (show _ = _ by simpa [splice] using setRow_heap w g _ _ e _ hg) (turned_setRow _ _ _))

/-- 'append(s, make(.., k)...)' where there is no room: a new row; what stands behind the old elements is some list. -/
theorem wpList_append_made_any {w : World} {ops : Array Oper} {rest : List Oper} {o : Oper} {a : Act} {Q : Exit → Act → World → Prop} (hgd : o.guard = none) (s x : Operand) (t tn : TypeId)
    (ho : o.op = .call { callee := .builtin .append, args := #[s, x], argTypes := #[t, tn] }) (e : TypeId) (i : TypeInfo) (z : Value) (kq kn : IntKind) (ht : P.underlying t = some (.slice e)) (htn : P.underlying tn = some (.int kn)) (hi : P.info? e = some i) (hz : i.zero = some z)
    (size : Nat) (hsz : i.size = size) (hzs : z.cells.size = size) (hs0 : 0 < size)
    (ad : Addr) (n cap : Nat) (olds : List Value) (hs : a.eval s = .slice (some ad) n cap) (hlo : olds.length = n * size) (hold : ∀ j u, olds[j]? = some u → w.cell? (ad.add j) = some u)
    (k : Nat) (kv : Int) (hx : a.eval x = .int kq kv) (hkv : kv = (k : Int)) (h0 : 0 < k) (hg : cap < n + k) (h63 : n + k ≤ maxLen) (hbytes : (n + k) * i.bytes ≤ 140737488355328)
    (h : ∀ w' Z cap', n + k ≤ cap' → cap' ≤ maxLen → Hid ((olds ++ Z).length = cap' * size) → Hid (w'.heap[w.heap.size]? = some (.cells (olds ++ Z).toArray e (0, 0))) → Hid (Below w.heap.size w w') → wpList P ops Q rest (a.put o.dst (.slice (some ⟨w.heap.size, 0, none⟩) (n + k) cap')) w') :
    wpList P ops Q (o :: rest) a w := by
  refine wpList_plain hgd fun K hK => ?_
  subst hsz
  subst hkv
  have hf : (Builtin.firstCells i.size n (.slice (some ad) n cap)).run P w.drew = .ok olds.toArray w.drew := by
    have := run_loadCells_list (P := P) w.drew ad olds hold
    simpa [Builtin.firstCells, ← hlo] using this
  have hr := Lib.run_append_grow_zeros (P := P) w t tn o.type e i z kq kn ht htn hi hz (some ad) n cap olds hf k h0 hs0 hg (by unfold maxLen at h63; omega) (by have : k * i.bytes ≤ (n + k) * i.bytes := Nat.mul_le_mul_right _ (by omega); omega) (growslice_fits (by omega) hbytes)
  have hge := grownCap_ge w (n + k) cap e
  have hcm := grownCap_le_maxLen w (n + k) cap e h63
  unfold Oper.wp execOp
  simp only [ho, resolve, invoke, builtin, Sem.run_bind, Sem.run_pure, Result.andThen_ok, List.map_toArray, List.map_cons, List.map_nil, hs, hx, hr]
  refine hK _ _ (h _ ((Builtin.zeroCells z.cells k).toList ++ (Builtin.zeroCells z.cells (grownCap w (n + k) cap e - (n + k))).toList) _ hge hcm (show _ = _ from ?_) (show _ = _ from ?_) (show Below _ _ _ from ?_))
  · simp only [List.length_append, Array.length_toList, size_zeroCells, hzs, hlo]
    rw [← Nat.add_mul, ← Nat.add_mul]
    congr 1
    omega
  · rw [show w.heap.size = w.drew.heap.size from rfl, heap_alloc_new]
    simp
  · exact Below.alloc (Below.drew (Below.refl _ _)) (Nat.le_refl _) _

end
end Go.Proofs.YtlljejmblmjjnaaGreatDoor

/- slices.Replace over runs. -/
namespace Go.Proofs.YtlljejmblmjjnaaGreatDoor
set_option linter.unusedVariables false
set_option linter.unusedSimpArgs false
open Go.RowKit Go.ChangeMaps

theorem splice_take_lo {α : Type} (L : List α) (off : Nat) (cs : List α) (k : Nat) (hk : k ≤ off) (ho : off ≤ L.length) : (splice L off cs).take k = L.take k := by
  unfold splice
  rw [List.take_append_of_le_length (by simp; omega), List.take_take, Nat.min_eq_left hk]
theorem splice_take_hi {α : Type} (L : List α) (off : Nat) (cs : List α) (ho : off ≤ L.length) : (splice L off cs).take (off + cs.length) = L.take off ++ cs := by
  unfold splice
  rw [← List.append_assoc]
  exact List.take_left' (by simp; omega)
theorem splice_get_hi {α : Type} (L : List α) (off : Nat) (cs : List α) (k : Nat) (ho : off ≤ L.length) (hk : off + cs.length ≤ k) : (splice L off cs)[k]? = L[k]? := by
  unfold splice
  rw [List.getElem?_append_right (by simp; omega), List.getElem?_append_right (by simp; omega), List.getElem?_drop]
  congr 1
  simp
  omega
theorem splice_get_lo {α : Type} (L : List α) (off : Nat) (cs : List α) (k : Nat) (ho : off ≤ L.length) (hk : k < off) : (splice L off cs)[k]? = L[k]? := by
  unfold splice
  rw [List.getElem?_append_left (by simp; omega), List.getElem?_take_of_lt hk]

theorem und_runs : Tryz.prog.underlying 167 = some (.slice 108) := by kernel_rfl
theorem size_run : (Tryz.prog.info? 108).map (·.size) = some 3 := by kernel_rfl
theorem runsV_one (l : List Run) : ∀ v ∈ runsV l, v.oneCell' = true := by
  intro v hv
  unfold runsV at hv
  obtain ⟨r, -, hr⟩ := List.mem_flatMap.1 hv
  simp [runV] at hr
  rcases hr with rfl | rfl | rfl <;> rfl
theorem runsV_take (l : List Run) (k : Nat) : (runsV l).take (k * 3) = runsV (l.take k) := by
  rcases Nat.lt_or_ge k l.length with h | h
  · have e : runsV l = runsV (l.take k) ++ runsV (l.drop k) := by rw [← runsV_append, List.take_append_drop]
    rw [e]
    exact List.take_left' (by rw [runsV_length]; simp; omega)
  · rw [List.take_of_length_le (by rw [runsV_length]; omega), List.take_of_length_le h]
theorem runsV_drop (l : List Run) (k : Nat) : (runsV l).drop (k * 3) = runsV (l.drop k) := by
  rcases Nat.lt_or_ge k l.length with h | h
  · have e : runsV l = runsV (l.take k) ++ runsV (l.drop k) := by rw [← runsV_append, List.take_append_drop]
    rw [e]
    exact List.drop_left' (by rw [runsV_length]; simp; omega)
  · rw [List.drop_eq_nil_of_le (by rw [runsV_length]; omega), List.drop_eq_nil_of_le h]; rfl
theorem runsV_drop_get (l : List Run) (k i : Nat) : (runsV (l.drop k))[i]? = (runsV l)[k * 3 + i]? := by rw [← runsV_drop, List.getElem?_drop]

/-- A row known whole. -/
structure RowIn (w : World) (g cap : Nat) (cur : List Value) (l : List Run) : Prop where
  at_ : w.heap[g]? = some (.cells cur.toArray 108 (0, 0))
  len : cur.length = cap * 3
  fits : l.length ≤ cap
  most : cap ≤ maxLen
  has : cur.take (l.length * 3) = runsV l
theorem RowIn.get {w : World} {g cap : Nat} {cur : List Value} {l : List Run} (h : RowIn w g cap cur l) {k : Nat} {u : Value} (hk : (runsV l)[k]? = some u) : cur[k]? = some u := by
  have hlt : k < l.length * 3 := by rw [← runsV_length]; exact (List.getElem?_eq_some_iff.1 hk).1
  rw [← h.has, List.getElem?_take_of_lt hlt] at hk
  exact hk
theorem RowIn.take {w : World} {g cap : Nat} {cur : List Value} {l : List Run} (h : RowIn w g cap cur l) {k : Nat} (hk : k ≤ l.length) : cur.take (k * 3) = runsV (l.take k) := by
  rw [← runsV_take, ← h.has, List.take_take, Nat.min_eq_left (by omega)]
theorem RowIn.turned {F : Nat → Prop} {w w' : World} {g cap : Nat} {cur : List Value} {l : List Run} (h : RowIn w g cap cur l) (t : Turned F w w') (hg : ¬ F g) : RowIn w' g cap cur l :=
  ⟨(t.block _ (lt_of_block h.at_) hg).trans h.at_, h.len, h.fits, h.most, h.has⟩
theorem RowIn.own {w : World} {g cap : Nat} {cur : List Value} {l : List Run} (h : RowIn w g cap cur l) : w.ownsRow 0 108 3 (.slice (some ⟨g, 0, none⟩) l.length cap) l.length (runsV l) :=
  ⟨runsV_length l, .inr ⟨g, cap, cur.toArray, rfl, Nat.zero_le _, h.at_, h.fits, h.most, by simpa using h.len, by simpa using h.has⟩⟩
theorem cellg_of_list {w : World} {g : Nat} {cur : List Value} {t : TypeId} {f : Nat × Nat} (h : w.heap[g]? = some (.cells cur.toArray t f)) (k : Nat) : w.cell? ⟨g, k, none⟩ = cur[k]? := by
  rw [cell_of_block h]; simp

theorem addr_add (g o k : Nat) : (⟨g, o, none⟩ : Addr).add k = ⟨g, o + k, none⟩ := by unfold Addr.add; split <;> simp_all

def repl (l v : List Run) (i j : Nat) : List Run := l.take i ++ v ++ l.drop j
def ReplDone (w : World) (g : Nat) (l : List Run) (e : Ending) (w' : World) : Prop :=
  ∃ g' cap' cur', e = .returned (.slice (some ⟨g', 0, none⟩) l.length cap') ∧ RowIn w' g' cap' cur' l ∧ (g' = g ∨ w.heap.size ≤ g') ∧ Turned (fun k => k = g) w w'

theorem repl_length {l v : List Run} {i j n m : Nat} (hn : l.length = n) (hm : v.length = m) (hi : i ≤ n) (hj : j ≤ n) : (repl l v i j).length = i + m + (n - j) := by
  unfold repl
  simp only [List.length_append, List.length_take, List.length_drop, hn, hm]
  omega
def zeroRun : Value := .agg #[.int .i64 0, .int .i64 0, .bool false]
theorem zero_run (w : World) : (zeroValue 108).run Tryz.prog w = .ok zeroRun w := by kernel_rfl
theorem zero_one (n : Nat) : ∀ v ∈ (Builtin.zeroCells zeroRun.cells n).toList, v.oneCell' = true := by
  intro v hv
  simp only [Builtin.zeroCells, Array.toList_map, List.mem_map] at hv
  obtain ⟨k, -, rfl⟩ := hv
  show Value.oneCell' ((#[.int .i64 0, .int .i64 0, .bool false] : Array Value)[k % 3]!) = true
  have h3 : k % 3 < 3 := Nat.mod_lt _ (by decide)
  generalize k % 3 = x at *
  match x, h3 with
  | 0, _ => rfl
  | 1, _ => rfl
  | 2, _ => rfl

set_option maxRecDepth 8000 in
set_option maxHeartbeats 4000000 in
theorem replaceFit (l v : List Run) (i j g cap q mc : Nat) (cur : List Value) (w : World) (h : RowIn w g cap cur l) (hq : ∀ k u, (runsV v)[k]? = some u → w.cell? ⟨q, k, none⟩ = some u) (hqg : q ≠ g)
    (hij : i + v.length ≤ j) (hj : j < l.length) (hv : 0 < v.length) (hmax : l.length ≤ 5000) :
    Calls Tryz.prog 126 #[.slice (some ⟨g, 0, none⟩) l.length cap, .int .i64 i, .int .i64 j, .slice (some ⟨q, 0, none⟩) v.length mc] w (ReplDone w g (repl l v i j)) := by
  have hV := runsV_length v
  have hg := Lib.hid h.at_
  have hcl := h.len
  have hfits := h.fits
  have hmost := h.most
  unfold maxLen at hmost
  have H := Lib.hid h
  clear h
  have HQ := Lib.hid hq
  clear hq
  generalize hV0 : runsV v = V at *
  have HV0 := Lib.hid hV0
  clear hV0
  have HV1 : Hid (∀ u ∈ V, u.oneCell' = true) := by rw [← HV0.out]; exact runsV_one v
  generalize hm0 : v.length = m at *
  have HM0 := Lib.hid hm0
  clear hm0
  generalize hn0 : l.length = n at *
  have HN0 := Lib.hid hn0
  clear hn0
  have f1 : i < cap := by omega
  have f2 : j < cap := by omega
  have f3 : i + m < cap := by omega
  have f4 : i < j := by omega
  go_enter Tryz.func126, Tryz.ntmps126
  go_wp2
  (refine wp_region_quiet_ext (by kernel_rfl) (by kernel_rfl) ?_; (repeat (first | go_big_quiet_step ((fail)) | quiet_step ((fail)))); refine wpQuiet_nil ?_; intro w1 hw1; obtain hb := below_of_ext hw1; clear hw1; obtain ⟨hc, hf⟩ := bcell hb; have hz := hb.size; (try simp at hz))
  have HB := Lib.hid (show Below w.heap.size w w1 from hb)
  have HG1 := Lib.hid ((hb.block _ (lt_of_block hg.out)).trans hg.out)
  have HQ1 : Hid (∀ k u, V[k]? = some u → w1.cell? ⟨q, k, none⟩ = some u) := fun k u hk => cell_past hb (cell_lt (HQ.out k u hk)) (HQ.out k u hk)
  clear hb hc hf
  go_wp2_with (refine wpList_copy_any rfl _ _ 167 167 rfl 108 und_runs 3 size_run (by decide) _ _ _ _ _ _ rfl rfl g (i * 3) cur _ HG1.out V (by rw [hV, show Nat.min m (i + m + (n - j) - i) = m from Nat.min_eq_left (by omega)]) (fun _ => ⟨rfl, _, rfl, fun k u hk => by rw [addr_add, Nat.zero_add]; exact HQ1.out k u hk⟩) (by omega) HV1.out ?_; intro wA vA HGA TA)
  have hLA : (splice cur (i * 3) V).length = cap * 3 := by rw [length_splice _ _ _ (by omega)]; exact hcl
  (refine wp_region_quiet_tail_ext 9 (by kernel_rfl) (by kernel_rfl) ?_; simp only [List.take_succ_cons, List.take_zero, List.drop_succ_cons, List.drop_zero])
  ((repeat (first | go_big_quiet_step ((fail)) | quiet_step ((fail)))); refine wpQuiet_nil ?_; intro w3 hw3; obtain hb3 := below_of_ext hw3; clear hw3; have hz3 := hb3.size; (try simp at hz3))
  have HG3 := Lib.hid ((hb3.block _ (lt_of_block HGA.out)).trans HGA.out)
  have HTA := Lib.hid (show Turned (fun k => k = g) w w3 from ((Turned.of_below (F := fun k => k = g) HB.out (Nat.le_refl _)).trans TA.out (fun _ h _ => h)).trans (Turned.of_below (F := fun k => k = g) hb3 (Nat.le_refl _)) (fun _ h _ => h))
  have HX1 : Hid (∀ u ∈ runsV (l.drop j), u.oneCell' = true) := runsV_one _
  have hXl : (runsV (l.drop j)).length = (n - j) * 3 := by rw [runsV_length, List.length_drop, HN0.out]
  have HXG : Hid (∀ k u, (runsV (l.drop j))[k]? = some u → w3.cell? ⟨g, j * 3 + k, none⟩ = some u) := fun k u hk => by
    rw [cellg_of_list HG3.out, splice_get_hi _ _ _ _ (by omega) (by omega)]
    rw [runsV_drop_get] at hk
    exact H.out.get hk
  generalize hX : runsV (l.drop j) = X at *
  have HX := Lib.hid hX
  clear hX
  go_upto_region 19 with (refine wpList_copy_any rfl _ _ 167 167 rfl 108 und_runs 3 size_run (by decide) _ _ _ _ _ _ rfl rfl g ((i + m) * 3) (splice cur (i * 3) V) _ HG3.out X (by show _ = min _ _ * 3; rw [hXl]; congr 1; omega) (fun _ => ⟨rfl, _, rfl, fun k u hk => by rw [addr_add]; exact HXG.out k u hk⟩) (by rw [length_splice _ _ _ (by omega)]; omega) HX1.out ?_; intro wB vB HGB TB)
  have HTB := Lib.hid (HTA.out.trans TB.out (fun _ h _ => h))
  have hLB : (splice (splice cur (i * 3) V) ((i + m) * 3) X).length = cap * 3 := by rw [length_splice _ _ _ (by rw [hLA]; omega)]; exact hLA
  obtain ⟨cB, hcB⟩ : ∃ cB, cB = splice (splice cur (i * 3) V) ((i + m) * 3) X := ⟨_, rfl⟩
  have HCB := Lib.hid hcB
  rw [← hcB] at HGB hLB
  clear hcB
  go_wp2_with (refine wpList_clear_any rfl _ 167 rfl 108 und_runs zeroRun zero_run 3 rfl (by decide) zero_one _ (n - (i + m + (n - j))) _ rfl g ((i + m + (n - j)) * 3) cB _ HGB.out (fun hp => by first | rfl | (rw [if_neg (by omega)]) | (rw [if_neg (by omega)]; rfl) | (exfalso; omega)) (by omega) ?_; intro wC vC Z HZ HGC TC)
  all_goals
    go_ret
    have hZ := HZ.out
    have hr := repl_length (i := i) (j := j) HN0.out HM0.out (by omega) (by omega)
    refine ⟨g, cap, _, by rw [hr]; first | rfl | (rw [show cap = i + m + (n - j) by omega]; rfl), ⟨HGC.out, ?_, by rw [hr]; omega, by unfold maxLen; omega, ?_⟩, .inl rfl, HTB.out.trans TC.out (fun _ h _ => h)⟩
    · rw [length_splice _ _ _ (by omega)]; exact hLB
    · rw [hr, splice_take_lo _ _ _ _ (Nat.le_refl _) (by omega), HCB.out, show (i + m + (n - j)) * 3 = (i + m) * 3 + X.length by omega, splice_take_hi _ _ _ (by rw [hLA]; omega), show (i + m) * 3 = i * 3 + V.length by omega, splice_take_hi _ _ _ (by omega), H.out.take (by rw [HN0.out]; omega), repl, runsV_append, runsV_append, HV0.out, HX.out]

end Go.Proofs.YtlljejmblmjjnaaGreatDoor

/- slices.Replace over runs: opened in place. -/
namespace Go.Proofs.YtlljejmblmjjnaaGreatDoor
set_option linter.unusedVariables false
set_option linter.unusedSimpArgs false
open Go.RowKit Go.ChangeMaps

theorem overlaps_no {w : World} {g q : Nat} {cg cq : Array Value} {tg tq : TypeId} (hg : w.heap[g]? = some (.cells cg tg (0, 0))) (hq : w.heap[q]? = some (.cells cq tq (0, 0))) (hne : g ≠ q) (h0 : cq.size ≠ 0) (o lb cb lv cv : Nat) :
    (callFunc 152 #[.slice (some ⟨g, o, none⟩) lb cb, .slice (some ⟨q, 0, none⟩) lv cv]).run Tryz.prog w = .ok (.value (.bool false)) w := by
  rw [run_callFunc_extern Tryz.func152 (by kernel_rfl) (by kernel_rfl) (by kernel_rfl) (e := Extern.SlicesOverlaps.overlaps #[167, 167] #[4]) (by kernel_rfl),
    Lib.run_overlaps_apart w 167 4 108 und_runs 3 (fun w => by kernel_rfl) ⟨g, o, none⟩ ⟨q, 0, none⟩ lb cb lv cv hne tg tq cg.size cq.size (by simp [World.shape?, hg]) (by simp [World.shape?, hq]) h0 (frozen_of_block hg _) (frozen_of_block hg _)]
  rfl

set_option maxRecDepth 8000 in
set_option maxHeartbeats 4000000 in
theorem replaceOpen (l v : List Run) (i j g cap q mc : Nat) (cur : List Value) (cq : Array Value) (tq : TypeId) (w : World) (h : RowIn w g cap cur l) (hqb : w.heap[q]? = some (.cells cq tq (0, 0))) (hq : ∀ k u, (runsV v)[k]? = some u → w.cell? ⟨q, k, none⟩ = some u) (hqg : q ≠ g)
    (hij : i < j) (hov : j < i + v.length) (hfit : i + v.length + (l.length - j) ≤ cap) (hj : j < l.length) (hv : 0 < v.length) (hmax : l.length ≤ 5000) :
    Calls Tryz.prog 126 #[.slice (some ⟨g, 0, none⟩) l.length cap, .int .i64 i, .int .i64 j, .slice (some ⟨q, 0, none⟩) v.length mc] w (ReplDone w g (repl l v i j)) := by
  have hq0 : cq.size ≠ 0 := by
    intro h0
    have hx := hq 0 ((runsV v)[0]'(by rw [runsV_length]; omega)) (List.getElem?_eq_getElem _)
    rw [cell_of_block hqb, Array.getElem?_eq_none (by omega)] at hx
    cases hx
  have hV := runsV_length v
  have hg := Lib.hid h.at_
  have hcl := h.len
  have hfits := h.fits
  have hmost := h.most
  unfold maxLen at hmost
  have H := Lib.hid h
  clear h
  have HQ := Lib.hid hq
  have HQB := Lib.hid hqb
  clear hq hqb
  generalize hV0 : runsV v = V at *
  have HV0 := Lib.hid hV0
  clear hV0
  have HV1 : Hid (∀ u ∈ V, u.oneCell' = true) := by rw [← HV0.out]; exact runsV_one v
  generalize hm0 : v.length = m at *
  have HM0 := Lib.hid hm0
  clear hm0
  generalize hn0 : l.length = n at *
  have HN0 := Lib.hid hn0
  clear hn0
  have f1 : i < cap := by omega
  have f2 : j < cap := by omega
  have f3 : i + m < cap := by omega
  go_enter Tryz.func126, Tryz.ntmps126
  go_wp2
  (refine wp_region_quiet_ext (by kernel_rfl) (by kernel_rfl) ?_; (repeat (first | go_big_quiet_step ((fail)) | quiet_step ((fail)))); refine wpQuiet_nil ?_; intro w1 hw1; obtain hb := below_of_ext hw1; clear hw1; obtain ⟨hc, hf⟩ := bcell hb; have hz := hb.size; (try simp at hz))
  have HB := Lib.hid (show Below w.heap.size w w1 from hb)
  have HG1 := Lib.hid ((hb.block _ (lt_of_block hg.out)).trans hg.out)
  have HQ1 : Hid (∀ k u, V[k]? = some u → w1.cell? ⟨q, k, none⟩ = some u) := fun k u hk => cell_past hb (cell_lt (HQ.out k u hk)) (HQ.out k u hk)
  have HOV : ∀ o lb cb lv cv, (callFunc 152 #[.slice (some ⟨g, o, none⟩) lb cb, .slice (some ⟨q, 0, none⟩) lv cv]).run Tryz.prog w1 = .ok (.value (.bool false)) w1 := overlaps_no HG1.out ((hb.block _ (lt_of_block HQB.out)).trans HQB.out) (Ne.symm hqg) hq0
  clear hb hc hf
  go_wp2_with (simp only [HOV])
  have HB1 := HB.out
  (refine wp_region_quiet_tail_ext 9 (by kernel_rfl) (by kernel_rfl) ?_; simp only [List.take_succ_cons, List.take_zero, List.drop_succ_cons, List.drop_zero])
  ((repeat (first | go_big_quiet_step ((fail)) | quiet_step ((fail)))); refine wpQuiet_nil ?_; intro w3 hw3; obtain hb3 := below_of_ext hw3; clear hw3; have hz3 := hb3.size; (try simp at hz3))
  have HG3 := Lib.hid ((hb3.block _ (lt_of_block HG1.out)).trans HG1.out)
  have HQ3 : Hid (∀ k u, V[k]? = some u → w3.cell? ⟨q, k, none⟩ = some u) := fun k u hk => cell_past hb3 (cell_lt (HQ1.out k u hk)) (HQ1.out k u hk)
  have HTA := Lib.hid (show Turned (fun k => k = g) w w3 from (Turned.of_below (F := fun k => k = g) HB.out (Nat.le_refl _)).trans (Turned.of_below (F := fun k => k = g) hb3 (Nat.le_refl _)) (fun _ h _ => h))
  have HX1 : Hid (∀ u ∈ runsV (l.drop j), u.oneCell' = true) := runsV_one _
  have hXl : (runsV (l.drop j)).length = (n - j) * 3 := by rw [runsV_length, List.length_drop, HN0.out]
  have HXG : Hid (∀ k u, (runsV (l.drop j))[k]? = some u → w3.cell? ⟨g, j * 3 + k, none⟩ = some u) := fun k u hk => by
    rw [cellg_of_list HG3.out]
    rw [runsV_drop_get] at hk
    exact H.out.get hk
  generalize hX : runsV (l.drop j) = X at *
  have HX := Lib.hid hX
  clear hX HOV
  go_upto_region 23 with (refine wpList_copy_any rfl _ _ 167 167 rfl 108 und_runs 3 size_run (by decide) _ _ _ _ _ _ rfl rfl g ((i + m) * 3) cur _ HG3.out X (by show _ = min _ _ * 3; rw [hXl]; congr 1; omega) (fun _ => ⟨rfl, _, rfl, fun k u hk => by rw [addr_add]; exact HXG.out k u hk⟩) (by omega) HX1.out ?_; intro wB vB HGB TB)
  have HTB := Lib.hid (HTA.out.trans TB.out (fun _ h _ => h))
  have HQB2 : Hid (∀ k u, V[k]? = some u → wB.cell? ⟨q, k, none⟩ = some u) := fun k u hk => turned_cell TB.out hqg (HQ3.out k u hk)
  have hLB : (splice cur ((i + m) * 3) X).length = cap * 3 := by rw [length_splice _ _ _ (by omega)]; exact hcl
  obtain ⟨cB, hcB⟩ : ∃ cB, cB = splice cur ((i + m) * 3) X := ⟨_, rfl⟩
  have HCB := Lib.hid hcB
  rw [← hcB] at HGB hLB
  clear hcB
  go_wp2_with (refine wpList_copy_any rfl _ _ 167 167 rfl 108 und_runs 3 size_run (by decide) _ _ _ _ _ _ rfl rfl g (i * 3) cB _ HGB.out V (by show _ = min _ _ * 3; rw [hV]; congr 1; omega) (fun _ => ⟨rfl, _, rfl, fun k u hk => by rw [addr_add, Nat.zero_add]; exact HQB2.out k u hk⟩) (by omega) HV1.out ?_; intro wC vC HGC TC)
  go_ret
  have hr := repl_length (i := i) (j := j) HN0.out HM0.out (by omega) (by omega)
  refine ⟨g, cap, _, by rw [hr]; rfl, ⟨HGC.out, ?_, by rw [hr]; omega, by unfold maxLen; omega, ?_⟩, .inl rfl, HTB.out.trans TC.out (fun _ h _ => h)⟩
  · rw [length_splice _ _ _ (by omega)]; exact hLB
  · rw [hr]
    have e1 : (splice cB (i * 3) V).take ((i + m + (n - j)) * 3) = cur.take (i * 3) ++ V ++ X := by
      have hlen : V.length = m * 3 := hV
      apply List.ext_getElem?
      intro k
      by_cases hk : k < (i + m + (n - j)) * 3
      · rw [List.getElem?_take_of_lt hk]
        by_cases hk1 : k < (i + m) * 3
        · rw [List.getElem?_append_left (by simp; omega)]
          have e2 : (splice cB (i * 3) V)[k]? = ((splice cB (i * 3) V).take (i * 3 + V.length))[k]? := (List.getElem?_take_of_lt (by omega)).symm
          rw [e2, splice_take_hi _ _ _ (by omega), HCB.out, splice_take_lo _ _ _ _ (by omega) (by omega)]
        · rw [splice_get_hi _ _ _ _ (by omega) (by omega), HCB.out, List.getElem?_append_right (by simp; omega)]
          have e2 : (splice cur ((i + m) * 3) X)[k]? = ((splice cur ((i + m) * 3) X).take ((i + m) * 3 + X.length))[k]? := (List.getElem?_take_of_lt (by omega)).symm
          rw [e2, splice_take_hi _ _ _ (by omega), List.getElem?_append_right (by simp; omega)]
          congr 1
          simp
          omega
      · rw [List.getElem?_eq_none (by simp; omega), List.getElem?_eq_none (by simp; omega)]
    rw [e1, H.out.take (by rw [HN0.out]; omega), repl, runsV_append, runsV_append, HV0.out, HX.out]

end Go.Proofs.YtlljejmblmjjnaaGreatDoor

/- slices.Replace over runs: a new row; at the end. -/
namespace Go.Proofs.YtlljejmblmjjnaaGreatDoor
set_option linter.unusedVariables false
set_option linter.unusedSimpArgs false
open Go.RowKit Go.ChangeMaps

theorem info_run : (Tryz.prog.info? 108).map (fun i => (i.zero, i.size, i.bytes)) = some (some zeroRun, 3, 24) := by kernel_rfl
theorem und_int_ : Tryz.prog.underlying 3 = some (.int .i64) := by kernel_rfl

set_option maxRecDepth 8000 in
set_option maxHeartbeats 4000000 in
theorem replaceGrow (l v : List Run) (i j g cap q mc : Nat) (cur : List Value) (w : World) (h : RowIn w g cap cur l) (hq : ∀ k u, (runsV v)[k]? = some u → w.cell? ⟨q, k, none⟩ = some u)
    (hij : i < j) (hfit : cap < i + v.length + (l.length - j)) (hj : j < l.length) (hv : 0 < v.length) (hvm : v.length ≤ 1000) (hmax : l.length ≤ 5000) :
    Calls Tryz.prog 126 #[.slice (some ⟨g, 0, none⟩) l.length cap, .int .i64 i, .int .i64 j, .slice (some ⟨q, 0, none⟩) v.length mc] w (ReplDone w g (repl l v i j)) := by
  obtain ⟨i0, hi, hz0, hz1, hz2⟩ := info_parts info_run
  have hV := runsV_length v
  have hg := Lib.hid h.at_
  have hcl := h.len
  have hfits := h.fits
  have hmost := h.most
  unfold maxLen at hmost
  have H := Lib.hid h
  clear h
  have HQ := Lib.hid hq
  have hql : q < w.heap.size := cell_lt (hq 0 ((runsV v)[0]'(by rw [runsV_length]; omega)) (List.getElem?_eq_getElem _))
  clear hq
  generalize hV0 : runsV v = V at *
  have HV0 := Lib.hid hV0
  clear hV0
  have HV1 : Hid (∀ u ∈ V, u.oneCell' = true) := by rw [← HV0.out]; exact runsV_one v
  generalize hm0 : v.length = m at *
  have HM0 := Lib.hid hm0
  clear hm0
  generalize hn0 : l.length = n at *
  have HN0 := Lib.hid hn0
  clear hn0
  have f1 : i < cap := by omega
  have f2 : j < cap := by omega
  go_enter Tryz.func126, Tryz.ntmps126
  go_wp2
  (refine wp_region_quiet_ext (by kernel_rfl) (by kernel_rfl) ?_; (repeat (first | go_big_quiet_step ((fail)) | quiet_step ((fail)))); refine wpQuiet_nil ?_; intro w1 hw1; obtain hb := below_of_ext hw1; clear hw1; obtain ⟨hc, hf⟩ := bcell hb; have hz := hb.size; (try simp at hz))
  have HB := Lib.hid (show Below w.heap.size w w1 from hb)
  have HG1 := Lib.hid ((hb.block _ (lt_of_block hg.out)).trans hg.out)
  have HQ1 : Hid (∀ k u, V[k]? = some u → w1.cell? ⟨q, k, none⟩ = some u) := fun k u hk => cell_past hb (cell_lt (HQ.out k u hk)) (HQ.out k u hk)
  clear hb hc hf
  have hgl : g < w1.heap.size := lt_of_block HG1.out
  have HI1 : Hid (∀ k u, (runsV (l.take i))[k]? = some u → w1.cell? ⟨g, k, none⟩ = some u) := fun k u hk => by
    rw [cellg_of_list HG1.out]
    rw [← runsV_take] at hk
    exact H.out.get (by rw [← hk]; exact (List.getElem?_take_of_lt (by have := (List.getElem?_eq_some_iff.1 hk).1; rw [List.length_take] at this; omega)).symm)
  have hIl : (runsV (l.take i)).length = i * 3 := by rw [runsV_length, List.length_take, HN0.out]; congr 1; omega
  have HX1 : Hid (∀ u ∈ runsV (l.drop j), u.oneCell' = true) := runsV_one _
  have hXl : (runsV (l.drop j)).length = (n - j) * 3 := by rw [runsV_length, List.length_drop, HN0.out]
  have HXG : Hid (∀ k u, (runsV (l.drop j))[k]? = some u → w1.cell? ⟨g, j * 3 + k, none⟩ = some u) := fun k u hk => by
    rw [cellg_of_list HG1.out]
    rw [runsV_drop_get] at hk
    exact H.out.get hk
  generalize hX : runsV (l.drop j) = X at *
  have HX := Lib.hid hX
  clear hX
  generalize hI : runsV (l.take i) = I at *
  have HI := Lib.hid hI
  clear hI
  go_upto_region 12 with (at_builtin; refine wpList_append_made_any rfl _ _ 167 3 rfl 108 i0 zeroRun .i64 .i64 und_runs und_int_ hi hz0 3 hz1 rfl (by decide) ⟨g, 0, none⟩ i _ I rfl hIl (fun k u hk => by rw [addr_add, Nat.zero_add]; exact HI1.out k u hk) (m + (n - j)) _ rfl (by omega) (by omega) (by omega) (by unfold maxLen; omega) (by rw [hz2]; omega) ?_; intro w2 Z cap' hc1 hc2 HZL HG2 HB2)
  have hb2 := HB2.out
  have hz2' := hb2.size
  have hGl : w1.heap.size < w2.heap.size := lt_of_block HG2.out
  have HQ2 : Hid (∀ k u, V[k]? = some u → w2.cell? ⟨q, k, none⟩ = some u) := fun k u hk => cell_past hb2 (cell_lt (HQ1.out k u hk)) (HQ1.out k u hk)
  have HXG2 : Hid (∀ k u, X[k]? = some u → w2.cell? ⟨g, j * 3 + k, none⟩ = some u) := fun k u hk => cell_past hb2 (cell_lt (HXG.out k u hk)) (HXG.out k u hk)
  have HTB2 := Lib.hid (show Turned (fun k => w.heap.size ≤ k) w w2 from Turned.of_below (Below.trans HB.out (hb2.mono HB.out.size)) (Nat.le_refl _))
  have hGne : g ≠ w1.heap.size := by omega
  have hGq : q ≠ w1.heap.size := by have := HB.out.size; omega
  have hGw : w.heap.size ≤ w1.heap.size := HB.out.size
  generalize w1.heap.size = G at *
  obtain ⟨c0, hc0⟩ : ∃ c0, c0 = I ++ Z := ⟨_, rfl⟩
  have HC0 := Lib.hid hc0
  have hc0l : c0.length = cap' * 3 := by rw [hc0]; exact HZL.out
  rw [← hc0] at HG2
  clear hc0 hb2
  have f3 : i < cap' := by omega
  have f4 : i + m < cap' := by omega
  have hcm : cap' ≤ 2 ^ 63 - 1 := hc2
  go_wp2_with (refine wpList_copy_any rfl _ _ 167 167 rfl 108 und_runs 3 size_run (by decide) _ _ _ _ _ _ rfl rfl G (i * 3) c0 _ HG2.out V (by show _ = min _ _ * 3; rw [hV]; congr 1; omega) (fun _ => ⟨rfl, _, rfl, fun k u hk => by rw [addr_add, Nat.zero_add]; exact HQ2.out k u hk⟩) (by omega) HV1.out ?_; intro wA vA HGA TA)
  have hLA : (splice c0 (i * 3) V).length = cap' * 3 := by rw [length_splice _ _ _ (by omega)]; exact hc0l
  have HXA : Hid (∀ k u, X[k]? = some u → wA.cell? ⟨g, j * 3 + k, none⟩ = some u) := fun k u hk => turned_cell TA.out hGne (HXG2.out k u hk)
  have HTA := Lib.hid (HTB2.out.trans TA.out (fun x hx _ => by rw [hx]; exact hGw))
  have hGA := HGA.out
  obtain ⟨cA, hcA⟩ : ∃ cA, cA = splice c0 (i * 3) V := ⟨_, rfl⟩
  have HCA := Lib.hid hcA
  rw [← hcA] at HGA hLA hGA
  clear hcA
  (refine wp_region_quiet_tail_ext 9 (by kernel_rfl) (by kernel_rfl) ?_; simp only [List.take_succ_cons, List.take_zero, List.drop_succ_cons, List.drop_zero])
  ((repeat (first | go_big_quiet_step ((fail)) | quiet_step ((fail)))); refine wpQuiet_nil ?_; intro w3 hw3; obtain hb3 := below_of_ext hw3; clear hw3; have hz3 := hb3.size; (try simp at hz3))
  have HG3 := Lib.hid ((hb3.block _ (lt_of_block hGA)).trans hGA)
  have HX3 : Hid (∀ k u, X[k]? = some u → w3.cell? ⟨g, j * 3 + k, none⟩ = some u) := fun k u hk => cell_past hb3 (cell_lt (HXA.out k u hk)) (HXA.out k u hk)
  have HT3 := Lib.hid (HTA.out.trans (Turned.of_below (F := fun _ => False) hb3 (Nat.le_refl _)) (fun x hx _ => hx.elim))
  clear hb3 hGA
  go_wp2_with (refine wpList_copy_any rfl _ _ 167 167 rfl 108 und_runs 3 size_run (by decide) _ _ _ _ _ _ rfl rfl G ((i + m) * 3) cA _ HG3.out X (by show _ = min _ _ * 3; rw [hXl]; congr 1; omega) (fun _ => ⟨rfl, _, rfl, fun k u hk => by rw [addr_add]; exact HX3.out k u hk⟩) (by omega) HX1.out ?_; intro wB vB HGB TB)
  go_ret
  have hr := repl_length (i := i) (j := j) HN0.out HM0.out (by omega) (by omega)
  refine ⟨G, cap', _, by rw [hr, Nat.add_assoc]; rfl, ⟨HGB.out, ?_, by rw [hr]; omega, hc2, ?_⟩, .inr hGw, (HT3.out.trans TB.out (fun x hx _ => by rw [hx]; exact hGw)).mono (fun x hx hlt => by omega)⟩
  · rw [length_splice _ _ _ (by omega)]; exact hLA
  · rw [hr, show (i + m + (n - j)) * 3 = (i + m) * 3 + X.length by omega, splice_take_hi _ _ _ (by omega), HCA.out, show (i + m) * 3 = i * 3 + V.length by omega, splice_take_hi _ _ _ (by omega), HC0.out, show i * 3 = I.length by omega, List.take_left, repl, runsV_append, runsV_append, HV0.out, HX.out, HI.out]

end Go.Proofs.YtlljejmblmjjnaaGreatDoor

/- slices.Replace over runs: at the end; whole. -/
namespace Go.Proofs.YtlljejmblmjjnaaGreatDoor
set_option linter.unusedVariables false
set_option linter.unusedSimpArgs false
open Go.RowKit Go.ChangeMaps

set_option maxRecDepth 8000 in
set_option maxHeartbeats 4000000 in
theorem replaceEnd (l v : List Run) (i g cap q mc : Nat) (cur : List Value) (w : World) (h : RowIn w g cap cur l) (hq : ∀ k u, (runsV v)[k]? = some u → w.cell? ⟨q, k, none⟩ = some u)
    (hij : i < l.length) (hfit : i + v.length ≤ cap) (hv : 0 < v.length) (hmax : l.length ≤ 5000) :
    Calls Tryz.prog 126 #[.slice (some ⟨g, 0, none⟩) l.length cap, .int .i64 i, .int .i64 l.length, .slice (some ⟨q, 0, none⟩) v.length mc] w (ReplDone w g (repl l v i l.length)) := by
  obtain ⟨i0, hi, hz0, hz1, hz2⟩ := info_parts info_run
  have hV := runsV_length v
  have hg := Lib.hid h.at_
  have hcl := h.len
  have hfits := h.fits
  have hmost := h.most
  unfold maxLen at hmost
  have H := Lib.hid h
  clear h
  have HQ := Lib.hid hq
  clear hq
  generalize hV0 : runsV v = V at *
  have HV0 := Lib.hid hV0
  clear hV0
  have HV1 : Hid (∀ u ∈ V, u.oneCell' = true) := by rw [← HV0.out]; exact runsV_one v
  generalize hm0 : v.length = m at *
  have HM0 := Lib.hid hm0
  clear hm0
  generalize hn0 : l.length = n at *
  have HN0 := Lib.hid hn0
  clear hn0
  have f1 : i < cap := by omega
  go_enter Tryz.func126, Tryz.ntmps126
  go_upto_region 6 with (at_builtin; refine wpList_append_room_any rfl _ _ 167 rfl 108 i0 und_runs hi 3 hz1 g i _ rfl cur hg.out ⟨q, 0, none⟩ m _ V rfl hV (fun k u hk => by rw [addr_add, Nat.zero_add]; exact HQ.out k u hk) HV1.out hfit (by omega) ?_; intro wA HGA TA)
  have hLA : (splice cur (i * 3) V).length = cap * 3 := by rw [length_splice _ _ _ (by omega)]; exact hcl
  have hr := repl_length (i := i) (j := n) HN0.out HM0.out (by omega) (by omega)
  rw [show i + m + (n - n) = i + m by omega] at hr
  have HR := Lib.hid hr
  have eD : runsV (l.drop n) = [] := by rw [List.drop_eq_nil_of_le (by rw [HN0.out]; omega)]; rfl
  have HE : Hid ((splice cur (i * 3) V).take ((i + m) * 3) = runsV (repl l v i n)) := by
    show _ = _
    rw [show (i + m) * 3 = i * 3 + V.length by omega, splice_take_hi _ _ _ (by omega), H.out.take (by rw [HN0.out]; omega), repl, runsV_append, runsV_append, HV0.out, eD, List.append_nil]
  clear eD hr
  obtain ⟨cA, hcA⟩ : ∃ cA, cA = splice cur (i * 3) V := ⟨_, rfl⟩
  rw [← hcA] at HGA hLA HE
  clear hcA
  by_cases hlt : i + m < n
  · have f2 : i + m < cap := by omega
    go_wp2_with (refine wpList_clear_any rfl _ 167 rfl 108 und_runs zeroRun zero_run 3 rfl (by decide) zero_one _ (n - (i + m)) _ rfl g ((i + m) * 3) cA _ HGA.out (fun hp => by first | rfl | (rw [if_neg (by omega)]) | (rw [if_neg (by omega)]; rfl) | (exfalso; omega)) (by omega) ?_; intro wC vC Z HZ HGC TC)
    go_ret
    have hZ := HZ.out
    refine ⟨g, cap, _, by rw [HR.out]; rfl, ⟨HGC.out, ?_, by rw [HR.out]; omega, by unfold maxLen; omega, ?_⟩, .inl rfl, TA.out.trans TC.out (fun _ h _ => h)⟩
    · rw [length_splice _ _ _ (by omega)]; exact hLA
    · rw [HR.out, splice_take_lo _ _ _ _ (Nat.le_refl _) (by omega), HE.out]
  · go_wp2
    go_ret
    exact ⟨g, cap, _, by rw [HR.out]; rfl, ⟨HGA.out, hLA, by rw [HR.out]; omega, by unfold maxLen; omega, by rw [HR.out, HE.out]⟩, .inl rfl, TA.out⟩

set_option maxRecDepth 8000 in
set_option maxHeartbeats 4000000 in
theorem replaceMore (l v : List Run) (i g cap q mc : Nat) (cur : List Value) (w : World) (h : RowIn w g cap cur l) (hq : ∀ k u, (runsV v)[k]? = some u → w.cell? ⟨q, k, none⟩ = some u)
    (hij : i < l.length) (hfit : cap < i + v.length) (hv : 0 < v.length) (hvm : v.length ≤ 1000) (hmax : l.length ≤ 5000) :
    Calls Tryz.prog 126 #[.slice (some ⟨g, 0, none⟩) l.length cap, .int .i64 i, .int .i64 l.length, .slice (some ⟨q, 0, none⟩) v.length mc] w (ReplDone w g (repl l v i l.length)) := by
  obtain ⟨i0, hi, hz0, hz1, hz2⟩ := info_parts info_run
  have hV := runsV_length v
  have hfits := h.fits
  have hmost := h.most
  unfold maxLen at hmost
  have hrow : w.ownsRow 0 108 3 (.slice (some ⟨g, 0, none⟩) i cap) i (runsV (l.take i)) := by
    refine ⟨by rw [runsV_length, List.length_take]; congr 1; omega, .inr ⟨g, cap, cur.toArray, rfl, Nat.zero_le _, h.at_, by omega, h.most, by simpa using h.len, ?_⟩⟩
    simpa using h.take (by omega)
  have HROW := Lib.hid hrow
  clear hrow h
  have HQ := Lib.hid hq
  clear hq
  generalize hV0 : runsV v = V at *
  have HV0 := Lib.hid hV0
  clear hV0
  have HV1 : Hid (∀ u ∈ V, u.oneCell' = true) := by rw [← HV0.out]; exact runsV_one v
  generalize hm0 : v.length = m at *
  have HM0 := Lib.hid hm0
  clear hm0
  generalize hn0 : l.length = n at *
  have HN0 := Lib.hid hn0
  clear hn0
  have f1 : i < cap := by omega
  go_enter Tryz.func126, Tryz.ntmps126
  go_upto_region 6 with (at_builtin; refine wpList_append_own_at _ rfl _ _ 167 rfl 0 108 i0 zeroRun 3 24 und_runs hi hz0 hz1 hz2 rfl (by decide) (.slice (some ⟨g, 0, none⟩) i cap) i _ rfl HROW.out ⟨q, 0, none⟩ m _ V rfl hV (fun k u hk => by rw [addr_add, Nat.zero_add]; exact HQ.out k u hk) HV1.out (by unfold maxLen; omega) (by omega) (Nat.zero_le _) ?_; intro v9 w9 hown9 hgrow9 hnil9 hat9)
  have hr := repl_length (i := i) (j := n) HN0.out HM0.out (by omega) (by omega)
  rw [show i + m + (n - n) = i + m by omega] at hr
  have HR := Lib.hid hr
  have eD : runsV (l.drop n) = [] := by rw [List.drop_eq_nil_of_le (by rw [HN0.out]; omega)]; rfl
  have HE : Hid (runsV (l.take i) ++ V = runsV (repl l v i n)) := by
    show _ = _
    rw [repl, runsV_append, runsV_append, HV0.out, eD, List.append_nil]
  obtain ⟨g9, cap9, cur9, rfl, hb9, hg9, hn9, hm9, hs9, ht9⟩ := own_block hown9 (by omega)
  have hG : g9 = g ∨ w.heap.size ≤ g9 := by
    rcases hat9 with h | h
    · left; simpa [Value.ownBlock] using h
    · right; have : g9 = w.heap.size := by simpa [Value.ownBlock] using h
      omega
  have HT : Hid (Turned (fun k => k = g) w w9) := show Turned _ _ _ from ⟨hgrow9.os, hgrow9.tape, hgrow9.output, hgrow9.size, fun k hk hne => hgrow9.block k hk (fun he => hne (by simpa [Value.ownBlock] using he))⟩
  have HD : Hid (ReplDone w g (repl l v i n) (.returned (.slice (some ⟨g9, 0, none⟩) (i + m) cap9)) w9) := by
    refine ⟨g9, cap9, cur9.toList, by rw [HR.out], ⟨by simpa using hg9, by simpa using hs9, by rw [HR.out]; exact hn9, hm9, ?_⟩, hG, HT.out⟩
    rw [HR.out, ← HE.out]
    exact ht9
  clear eD hr hown9 hgrow9 hnil9 hat9 HE HT hG ht9 hg9
  have hlt : n ≤ i + m := by omega
  go_wp2
  go_ret
  exact HD.out

/-- Replace, whole. -/
theorem replace_any (l v : List Run) (i j g cap q mc qcap : Nat) (cur qcur : List Value) (w : World) (h : RowIn w g cap cur l) (hqr : RowIn w q qcap qcur v) (hqg : q ≠ g)
    (hij : i < j) (hj : j ≤ l.length) (hv : 0 < v.length) (hvm : v.length ≤ 1000) (hmax : l.length ≤ 5000) :
    Calls Tryz.prog 126 #[.slice (some ⟨g, 0, none⟩) l.length cap, .int .i64 i, .int .i64 j, .slice (some ⟨q, 0, none⟩) v.length mc] w (ReplDone w g (repl l v i j)) := by
  have hq : ∀ k u, (runsV v)[k]? = some u → w.cell? ⟨q, k, none⟩ = some u := fun k u hk => by rw [cellg_of_list hqr.at_]; exact hqr.get hk
  by_cases h1 : j = l.length
  · subst h1
    by_cases h2 : i + v.length ≤ cap
    · exact replaceEnd l v i g cap q mc cur w h hq hij h2 hv hmax
    · exact replaceMore l v i g cap q mc cur w h hq hij (by omega) hv hvm hmax
  · have hj' : j < l.length := by omega
    by_cases h2 : cap < i + v.length + (l.length - j)
    · exact replaceGrow l v i j g cap q mc cur w h hq hij h2 hj' hv hvm hmax
    · by_cases h3 : i + v.length ≤ j
      · exact replaceFit l v i j g cap q mc cur w h hq hqg h3 hj' hv hmax
      · exact replaceOpen l v i j g cap q mc cur qcur.toArray _ w h hqr.at_ hq hqg hij (by omega) (by omega) hj' hv hmax

end Go.Proofs.YtlljejmblmjjnaaGreatDoor

/- slices.IndexFunc, DeleteFunc over runs. -/
namespace Go.Proofs.YtlljejmblmjjnaaGreatDoor
set_option linter.unusedVariables false
set_option linter.unusedSimpArgs false
open Go.RowKit Go.ChangeMaps

def nz (r : Run) : Bool := r.n != 0
theorem RowIn.cells {w : World} {g cap : Nat} {cur : List Value} {l : List Run} (h : RowIn w g cap cur l) {k : Nat} (hk : k < l.length) :
    w.cell? ⟨g, k * 3, none⟩ = some (.int .i64 (l[k].page : Int)) ∧ w.cell? ⟨g, k * 3 + 1, none⟩ = some (.int .i64 (l[k].n : Int)) ∧ w.cell? ⟨g, k * 3 + 2, none⟩ = some (.bool l[k].taken) := by
  obtain ⟨h1, h2, h3⟩ := runsV_get hk
  exact ⟨(cellg_of_list h.at_ _).trans (h.get h1), (cellg_of_list h.at_ _).trans (h.get h2), (cellg_of_list h.at_ _).trans (h.get h3)⟩

set_option maxHeartbeats 400000 in
theorem isZero_any (r : Run) (w : World) :
    Calls Tryz.prog 125 #[.agg #[.int .i64 r.page, .int .i64 r.n, .bool r.taken]] w fun e w' => e = .returned (.bool (!nz r)) ∧ Below w.heap.size w w' := by
  have e1 : (!nz r) = ((r.n : Int) == 0) := by
    unfold nz
    by_cases h : r.n = 0
    · simp [h]
    · have h1 : ¬ (r.n : Int) = 0 := by omega
      rw [show (r.n != 0) = true by simpa using h, show ((r.n : Int) == 0) = false by simpa using h]
      rfl
  rw [e1]
  generalize r.page = a at *
  generalize r.n = b at *
  generalize r.taken = c at *
  go_enter Tryz.func125, Tryz.ntmps125
  go_wp2
  go_ret
  exact ⟨rfl, (by repeat (first | exact Below.refl _ _ | assumption | refine Below.alloc ?_ (by first | omega | (simp <;> omega)) _ | refine Below.drew ?_ | refine Below.setCell ?_ (by first | omega | (simp <;> omega)) _ | refine Below.via (by assumption) (by first | omega | (simp <;> omega)) ?_))⟩

def zIdx (l : List Run) : Nat := l.findIdx fun r => !nz r
theorem zIdx_lt {l : List Run} {k : Nat} (hk : k < l.length) (h : k < zIdx l) : nz l[k] = true := by
  have := List.not_of_lt_findIdx h
  simpa using this
theorem zIdx_at {l : List Run} (h : zIdx l < l.length) : nz (l[zIdx l]) = false := by
  have := List.findIdx_getElem (p := fun r => !nz r) (w := h)
  exact (Bool.not_eq_true' _).mp this
theorem zIdx_ge {l : List Run} {k : Nat} (hk : k < l.length) (h : nz l[k] = false) : zIdx l ≤ k := by
  apply Nat.le_of_not_lt
  intro hlt
  have := zIdx_lt hk hlt
  rw [h] at this
  cases this
theorem zIdx_le (l : List Run) : zIdx l ≤ l.length := List.findIdx_le_length

def idxZ (l : List Run) : Int := if zIdx l < l.length then (zIdx l : Int) else -1

set_option maxRecDepth 8000 in
set_option maxHeartbeats 1000000 in
theorem indexFunc_any (l : List Run) (g cap : Nat) (cur : List Value) (w : World) (h : RowIn w g cap cur l) (hmax : l.length ≤ 5000) :
    Calls Tryz.prog 150 #[.slice (some ⟨g, 0, none⟩) l.length cap, .func (.func 125) #[] #[]] w fun e w' => e = .returned (.int .i64 (idxZ l)) ∧ Below w.heap.size w w' := by
  have HC := Lib.hid (fun k (hk : k < l.length) => h.cells hk)
  have HCM := Lib.hid isZero_any
  have hgl := lt_of_block h.at_
  clear h
  go_enter Tryz.func150, Tryz.ntmps150
  go_wp2
  go_loopw [8] (fun i wr => ∃ k : Nat, i = .int .i64 k ∧ k ≤ l.length ∧ k ≤ zIdx l ∧ Below w.heap.size w wr) (fun i _ => l.length - numOf i)
  case atStart => exact ⟨0, rfl, Nat.zero_le _, Nat.zero_le _, Below.refl _ _⟩
  case round =>
    obtain ⟨k, rfl, hk, hkz, hb⟩ := hrel
    have HB := Lib.hid hb
    have hszr := hb.size
    by_cases hlt : k < l.length
    · obtain ⟨y0, y1, y2⟩ := HC.out k hlt
      have x0 := cell_past hb hgl y0
      have x1 := cell_past hb hgl y1
      have x2 := cell_past hb hgl y2
      have hCM := Lib.hid (HCM.out l[k])
      have hi1 : (0 : Int) ≤ (k : Int) ∧ (k : Int) < l.length := by omega
      have hkw : IntKind.i64.wrap ((k : Int) + 1) = (k : Int) + 1 := by rw [IntKind.wrap_i64]; omega
      cases hz : nz l[k] with
      | true =>
        have hne : k ≠ zIdx l := by rintro rfl; rw [zIdx_at hlt] at hz; cases hz
        have HZ := Lib.hid hz
        clear y0 y1 y2 hb hz
        rw [HZ.out] at hCM
        generalize l[k].page = p0 at *
        generalize l[k].n = p1 at *
        generalize l[k].taken = p2 at *
        go_wp2_with (fail)
        refine (hCM.out _).mono ?_
        rintro e w2 ⟨rfl, hb2⟩
        have HB2 := Lib.hid (Below.via hb2 hszr HB.out)
        clear hb2
        go_wp2
        go_roundw
        case rel => exact ⟨k + 1, by go_num, hlt, by omega, HB2.out⟩
        case measure => simp [numOf]; omega
      | false =>
        have hle := zIdx_ge hlt hz
        have hke : idxZ l = (k : Int) := by
          have : zIdx l = k := by omega
          unfold idxZ
          rw [this, if_pos hlt]
        have HZ := Lib.hid hz
        clear y0 y1 y2 hb hz
        rw [HZ.out] at hCM
        have HKE := Lib.hid hke
        clear hke
        generalize l[k].page = p0 at *
        generalize l[k].n = p1 at *
        generalize l[k].taken = p2 at *
        go_wp2_with (fail)
        refine (hCM.out _).mono ?_
        rintro e w2 ⟨rfl, hb2⟩
        have HB2 := Lib.hid (Below.via hb2 hszr HB.out)
        clear hb2
        go_wp2
        go_ret
        exact ⟨by rw [HKE.out]; rfl, HB2.out⟩
    · have hke : idxZ l = -1 := by
        unfold idxZ
        rw [if_neg (by omega)]
      have HKE := Lib.hid hke
      clear hb hke
      go_wp2
      go_ret
      exact ⟨by rw [HKE.out]; rfl, HB.out⟩

theorem set3 (c : List Value) (o : Nat) (x y z : Value) (h : o + 3 ≤ c.length) : ((c.set o x).set (o + 1) y).set (o + 2) z = splice c o [x, y, z] := by
  apply List.ext_getElem?
  intro k
  by_cases h1 : k < o
  · rw [splice_get_lo _ _ _ _ (by omega) h1, List.getElem?_set_ne (by omega), List.getElem?_set_ne (by omega), List.getElem?_set_ne (by omega)]
  · by_cases h2 : o + 3 ≤ k
    · rw [splice_get_hi _ _ _ _ (by omega) (by simpa using h2), List.getElem?_set_ne (by omega), List.getElem?_set_ne (by omega), List.getElem?_set_ne (by omega)]
    · unfold splice
      rw [List.getElem?_append_right (by simp; omega), show (c.take o).length = o by simp; omega]
      obtain rfl | rfl | rfl : k = o ∨ k = o + 1 ∨ k = o + 2 := by omega
      · rw [List.getElem?_set_ne (by omega), List.getElem?_set_ne (by omega), List.getElem?_set_self (by omega), Nat.sub_self]
        rfl
      · rw [List.getElem?_set_ne (by omega), List.getElem?_set_self (by simp; omega), Nat.add_sub_cancel_left]
        rfl
      · rw [List.getElem?_set_self (by simp; omega), Nat.add_sub_cancel_left]
        rfl
theorem set3_array (c : List Value) (o : Nat) (x y z : Value) (h : o + 3 ≤ c.length) : ((c.toArray.setIfInBounds o x).setIfInBounds (o + 1) y).setIfInBounds (o + 2) z = (splice c o [x, y, z]).toArray := by
  rw [← set3 c o x y z h]
  apply Array.toList_inj.1
  simp only [Array.toList_setIfInBounds]

/-- What the loop keeps. -/
def DelI (w wr : World) (p cap : Nat) (cur : List Value) (l : List Run) (i j : Value) : Prop :=
  ∃ (a b : Nat) (cb : List Value), i = .int .i64 a ∧ j = .int .i64 b ∧ a < b ∧ b ≤ l.length ∧ wr.heap[p]? = some (.cells cb.toArray 108 (0, 0)) ∧ cb.length = cap * 3 ∧ a = ((l.take b).filter nz).length ∧ cb.take (a * 3) = runsV ((l.take b).filter nz) ∧
    (∀ k, b * 3 ≤ k → cb[k]? = cur[k]?) ∧ Turned (fun k => k = p) w wr
def DelDone (w : World) (p cap : Nat) (l : List Run) (e : Ending) (w' : World) : Prop :=
  ∃ cur', e = .returned (.slice (some ⟨p, 0, none⟩) l.length cap) ∧ RowIn w' p cap cur' l ∧ Turned (fun k => k = p) w w'

theorem filter_take_succ {l : List Run} {b : Nat} (hb : b < l.length) : (l.take (b + 1)).filter nz = (l.take b).filter nz ++ if nz l[b] then [l[b]] else [] := by
  rw [List.take_succ_eq_append_getElem hb, List.filter_append]
  congr 1
  cases h : nz l[b] <;> simp [h]

set_option maxRecDepth 8000 in
set_option maxHeartbeats 2000000 in
theorem deleteFunc_any (l : List Run) (g cap : Nat) (cur : List Value) (w : World) (h : RowIn w g cap cur l) (hmax : l.length ≤ 5000) :
    Calls Tryz.prog 124 #[.slice (some ⟨g, 0, none⟩) l.length cap, .func (.func 125) #[] #[]] w (DelDone w g cap (l.filter nz)) := by
  have HI := Lib.hid (indexFunc_any l g cap cur w h hmax)
  have H := Lib.hid h
  have HCM := Lib.hid isZero_any
  have hgl := lt_of_block h.at_
  have hfit := h.fits
  have hcl := h.len
  have hmo := h.most
  unfold maxLen at hmo
  clear h
  have hzl := zIdx_le l
  by_cases hd : zIdx l < l.length
  · have hpre : (l.take (zIdx l)).filter nz = l.take (zIdx l) := by
      rw [List.filter_eq_self]
      intro r hr
      obtain ⟨k, hk, rfl⟩ := List.mem_iff_getElem.1 hr
      rw [List.length_take] at hk
      rw [List.getElem_take]
      exact zIdx_lt (by omega) (by omega)
    have hst : (l.take (zIdx l + 1)).filter nz = l.take (zIdx l) := by
      rw [filter_take_succ hd, zIdx_at hd, hpre]
      simp
    rw [show idxZ l = (zIdx l : Int) by unfold idxZ; rw [if_pos hd]] at HI
    have HST := Lib.hid hst
    have hdl : (l.take (zIdx l)).length = zIdx l := by rw [List.length_take]; omega
    clear hst hpre
    go_enter Tryz.func124, Tryz.ntmps124
    go_wp2_with (fail)
    refine HI.out.mono ?_
    rintro e w1 ⟨rfl, hb⟩
    have h1 : ((zIdx l : Int) == -1) = false := by simp
    have HG1 := Lib.hid ((hb.block _ hgl).trans H.out.at_)
    have HB1 := Lib.hid hb
    clear hb
    go_wp2
    go_loopw [5, 6] (fun i j wr => DelI w wr g cap cur l i j) (fun _ j _ => l.length - numOf j)
    case atStart =>
      refine ⟨zIdx l, zIdx l + 1, cur, rfl, by go_num, Nat.lt_succ_self _, hd, HG1.out, hcl, ?_, ?_, fun _ _ => rfl, Turned.of_below HB1.out (Nat.le_refl _)⟩
      · rw [HST.out, hdl]
      · rw [HST.out]; exact H.out.take (Nat.le_of_lt hd)
    case round =>
      obtain ⟨a, b, cb, rfl, rfl, hab, hbl, hgr, hcb, hal, htk, hrest, ht⟩ := hrel
      have hszr := ht.size
      have HGR := Lib.hid hgr
      have hgrl := lt_of_block hgr
      by_cases hlt : b < l.length
      · obtain ⟨q0, q1, q2⟩ := runsV_get hlt
        have y0 : wr.cell? ⟨g, b * 3, none⟩ = some (.int .i64 (l[b].page : Int)) := by rw [cellg_of_list hgr, hrest _ (Nat.le_refl _)]; exact H.out.get q0
        have y1 : wr.cell? ⟨g, b * 3 + 1, none⟩ = some (.int .i64 (l[b].n : Int)) := by rw [cellg_of_list hgr, hrest _ (by omega)]; exact H.out.get q1
        have y2 : wr.cell? ⟨g, b * 3 + 2, none⟩ = some (.bool l[b].taken) := by rw [cellg_of_list hgr, hrest _ (by omega)]; exact H.out.get q2
        have hCM := Lib.hid (HCM.out l[b])
        have hi1 : (0 : Int) ≤ (b : Int) ∧ (b : Int) < l.length := by omega
        have hkw : IntKind.i64.wrap ((b : Int) + 1) = (b : Int) + 1 := by rw [IntKind.wrap_i64]; omega
        have hs := filter_take_succ hlt
        have HREST := Lib.hid hrest
        have HTK := Lib.hid htk
        have HT := Lib.hid ht
        have HAL := Lib.hid hal
        have HAB := Lib.hid hab
        clear q0 q1 q2 hgr hrest htk ht hal
        cases hz : nz l[b] with
        | true =>
          rw [hz] at hs
          have HS := Lib.hid hs
          rw [hz] at hCM
          have hrun : runsV [l[b]] = [.int .i64 (l[b].page : Int), .int .i64 (l[b].n : Int), .bool l[b].taken] := rfl
          have HRUN := Lib.hid hrun
          have HLB : Hid (∃ r : Run, r = l[b]) := ⟨_, rfl⟩
          clear hz hs hrun
          generalize hr0 : l[b] = rr at *
          clear hr0 HLB
          obtain ⟨p0, p1, p2⟩ := rr
          simp only [] at y0 y1 y2 hCM HRUN
          go_wp2_with (fail)
          refine (hCM.out _).mono ?_
          rintro e w2 ⟨rfl, hb2⟩
          have t0 : w2.cell? ⟨wr.heap.size, 0, none⟩ = some (.int .i64 (p0 : Int)) := cell_past hb2 (by simp) (by simp [go_sem])
          have t1 : w2.cell? ⟨wr.heap.size, 1, none⟩ = some (.int .i64 (p1 : Int)) := cell_past hb2 (by simp) (by simp [go_sem])
          have t2 : w2.cell? ⟨wr.heap.size, 2, none⟩ = some (.bool p2) := cell_past hb2 (by simp) (by simp [go_sem])
          have hg2 : w2.heap[g]? = some (.cells cb.toArray 108 (0, 0)) := (hb2.block _ (by simp; omega)).trans ((heap_alloc_old _ _ hgrl).trans HGR.out)
          have HT2 := Lib.hid (show Turned (fun k => k = g) w w2 from (HT.out.alloc _).trans (Turned.of_below (F := fun _ => False) hb2 (Nat.le_refl _)) (fun x hx _ => hx.elim))
          have o0 : w2.cell? ⟨g, a * 3, none⟩ = some (cb[a * 3]'(by omega)) := (cellg_of_list hg2 _).trans (List.getElem?_eq_getElem _)
          have o1 : w2.cell? ⟨g, a * 3 + 1, none⟩ = some (cb[a * 3 + 1]'(by omega)) := (cellg_of_list hg2 _).trans (List.getElem?_eq_getElem _)
          have o2 : w2.cell? ⟨g, a * 3 + 2, none⟩ = some (cb[a * 3 + 2]'(by omega)) := (cellg_of_list hg2 _).trans (List.getElem?_eq_getElem _)
          have f0 := frozen_of_block hg2 (a * 3)
          have f1 := frozen_of_block hg2 (a * 3 + 1)
          have f2 := frozen_of_block hg2 (a * 3 + 2)
          have HG2 := Lib.hid hg2
          have hwl : wr.heap.size < w2.heap.size := cell_lt t0
          have hne : wr.heap.size ≠ g := by omega
          generalize hQ0 : cb[a * 3] = Q0 at o0
          generalize hQ1 : cb[a * 3 + 1] = Q1 at o1
          generalize hQ2 : cb[a * 3 + 2] = Q2 at o2
          clear hb2 hg2 y0 y1 y2 hQ0 hQ1 hQ2
          have hi2 : (0 : Int) ≤ (a : Int) ∧ (a : Int) < l.length := by omega
          have hkw2 : IntKind.i64.wrap ((a : Int) + 1) = (a : Int) + 1 := by rw [IntKind.wrap_i64]; omega
          go_wp2
          go_roundw
          case rel =>
            refine ⟨a + 1, b + 1, splice cb (a * 3) [.int .i64 p0, .int .i64 p1, .bool p2], by go_num, by go_num, by omega, hlt, ?_, ?_, ?_, ?_, ?_, ?_⟩
            · rw [heap_setCell_eq (heap_setCell_eq (heap_setCell_eq HG2.out _) _) _, set3_array _ _ _ _ _ (by omega)]
            · rw [length_splice _ _ _ (by simp; omega)]; exact hcb
            · rw [HS.out, List.length_append, ← HAL.out]; rfl
            · rw [HS.out, show (a + 1) * 3 = a * 3 + ([.int .i64 p0, .int .i64 p1, .bool p2] : List Value).length by simp; omega, splice_take_hi _ _ _ (by omega), HTK.out, if_pos trivial, runsV_append]; rfl
            · intro k hk
              rw [splice_get_hi _ _ _ _ (by omega) (by simp; omega)]
              exact HREST.out k (by omega)
            · exact ((HT2.out.setCell (.inl rfl) _).setCell (.inl rfl) _).setCell (.inl rfl) _
          case measure => simp [numOf]; omega
        | false =>
          rw [hz] at hs
          have HS := Lib.hid hs
          rw [hz] at hCM
          clear hz hs
          generalize hr0 : l[b] = rr at *
          clear hr0
          obtain ⟨p0, p1, p2⟩ := rr
          simp only [] at y0 y1 y2 hCM
          go_wp2_with (fail)
          refine (hCM.out _).mono ?_
          rintro e w2 ⟨rfl, hb2⟩
          have t0 : w2.cell? ⟨wr.heap.size, 0, none⟩ = some (.int .i64 (p0 : Int)) := cell_past hb2 (by simp) (by simp [go_sem])
          have t1 : w2.cell? ⟨wr.heap.size, 1, none⟩ = some (.int .i64 (p1 : Int)) := cell_past hb2 (by simp) (by simp [go_sem])
          have t2 : w2.cell? ⟨wr.heap.size, 2, none⟩ = some (.bool p2) := cell_past hb2 (by simp) (by simp [go_sem])
          have hg2 : w2.heap[g]? = some (.cells cb.toArray 108 (0, 0)) := (hb2.block _ (by simp; omega)).trans ((heap_alloc_old _ _ hgrl).trans HGR.out)
          have HT2 := Lib.hid (show Turned (fun k => k = g) w w2 from (HT.out.alloc _).trans (Turned.of_below (F := fun _ => False) hb2 (Nat.le_refl _)) (fun x hx _ => hx.elim))
          have HG2 := Lib.hid hg2
          clear t0 t1 t2 hb2 hg2 y0 y1 y2
          go_wp2
          go_roundw
          case rel =>
            refine ⟨a, b + 1, cb, rfl, by go_num, by omega, hlt, HG2.out, hcb, ?_, ?_, fun k hk => HREST.out k (by omega), HT2.out⟩
            · rw [HS.out, List.length_append, ← HAL.out]; rfl
            · rw [HS.out, if_neg (by simp), List.append_nil]; exact HTK.out
          case measure => simp [numOf]; omega
      · obtain rfl : b = l.length := by omega
        rw [List.take_length] at hal htk
        have HTK := Lib.hid htk
        have HT := Lib.hid ht
        have HAL := Lib.hid hal
        have hac : a ≤ l.length := by omega
        have hac2 : a < cap := by omega
        clear hgr hrest htk ht hal
        go_wp2_with (refine wpList_clear_any rfl _ 167 rfl 108 und_runs zeroRun zero_run 3 rfl (by decide) zero_one _ (l.length - a) _ rfl g (a * 3) cb _ HGR.out (fun hp => by first | rfl | (rw [if_neg (by omega)]) | (rw [if_neg (by omega)]; rfl) | (exfalso; omega)) (by omega) ?_; intro wC vC Z HZ HGC TC)
        go_ret
        have hZ := HZ.out
        refine ⟨_, by rw [← HAL.out]; rfl, ⟨HGC.out, ?_, by rw [← HAL.out]; omega, by unfold maxLen; omega, ?_⟩, HT.out.trans TC.out (fun _ h _ => h)⟩
        · rw [length_splice _ _ _ (by omega)]; exact hcb
        · rw [← HAL.out, splice_take_lo _ _ _ _ (Nat.le_refl _) (by omega), HTK.out]
  · have hall : l.filter nz = l := by
      rw [List.filter_eq_self]
      intro r hr
      obtain ⟨k, hk, rfl⟩ := List.mem_iff_getElem.1 hr
      exact zIdx_lt hk (by omega)
    rw [hall]
    rw [show idxZ l = -1 by unfold idxZ; rw [if_neg hd]] at HI
    go_enter Tryz.func124, Tryz.ntmps124
    go_wp2_with (fail)
    refine HI.out.mono ?_
    rintro e w1 ⟨rfl, hb⟩
    have HD : Hid (DelDone w g cap l (.returned (.slice (some ⟨g, 0, none⟩) l.length cap)) w1) := ⟨cur, rfl, H.out.turned (Turned.of_below (F := fun _ => False) hb (Nat.le_refl _)) (fun h => h), Turned.of_below hb (Nat.le_refl _)⟩
    clear hb
    go_wp2
    go_ret
    exact HD.out

end Go.Proofs.YtlljejmblmjjnaaGreatDoor

/- spans: TakeAligned. -/
namespace Go.Proofs.YtlljejmblmjjnaaGreatDoor
set_option linter.unusedVariables false
set_option linter.unusedSimpArgs false
open Go.RowKit Go.ChangeMaps

theorem RowIn.of_spans {w : World} {sp pages : Nat} {v : Value} {l : List Run} (h : SpansAt w sp v pages l) (h0 : 0 < l.length) :
    ∃ g cap cur, v = .slice (some ⟨g, 0, none⟩) l.length cap ∧ RowIn w g cap cur l := by
  obtain ⟨g, cap, cur, rfl, hb, hg, h1, h2, h3, h4⟩ := own_block h.row h0
  exact ⟨g, cap, cur.toList, rfl, by simpa using hg, by simpa using h3, h1, h2, h4⟩

/-- What turns a row of runs. -/
def spF (sp : Nat) (v : Value) : Nat → Prop := fun k => k = sp ∨ v.ownBlock = some k
def SpTook (w : World) (sp pages : Nat) (v : Value) (l : List Run) (r1 r2 : Int) (e : Ending) (w' : World) : Prop :=
  ∃ v', e = .returned (.tuple #[.int .i64 r1, .int .i64 r2]) ∧ SpansAt w' sp v' pages l ∧ (v'.ownBlock = v.ownBlock ∨ ∃ g, v'.ownBlock = some g ∧ w.heap.size ≤ g) ∧ Turned (spF sp v) w w'

set_option maxRecDepth 8000 in
set_option maxHeartbeats 2000000 in
theorem take_none (sp pages n al : Nat) (v : Value) (l : List Run) (w : World) (h : SpansAt w sp v pages l) (ha : Pow2 al) (hn : 1 ≤ n) (hn2 : n < 2 ^ 62) (hp : placeR n al l = none) :
    Calls Tryz.prog 84 #[.pointer (some ⟨sp, 0, none⟩), .int .i64 n, .int .i64 al] w fun e w' => e = .returned (.tuple #[.int .i64 (-1), .int .i64 13]) ∧ Below w.heap.size w w' := by
  have HR := Lib.hid (fun w => spRight_yes n al hn ha w)
  have HP := Lib.hid (place_yes sp pages n al v l w h ha hn2)
  rw [hp, show placeI none = -1 from rfl] at HP
  clear h
  go_enter Tryz.func84, Tryz.ntmps84
  go_wp2_with (fail)
  refine (HR.out _).mono ?_
  rintro e w1 ⟨rfl, rfl⟩
  go_wp2_with (fail)
  refine HP.out.mono ?_
  rintro e w1 ⟨rfl, hb⟩
  have HB1 := Lib.hid hb
  clear hb
  go_wp2
  go_ret2
  exact ⟨rfl, HB1.out⟩

def parts3 (r : Run) (n al : Nat) : List Run := [⟨r.page, r.first al - r.page, false⟩, ⟨r.first al, n, true⟩, ⟨r.first al + n, r.stop - (r.first al + n), false⟩]

set_option maxRecDepth 8000 in
set_option maxHeartbeats 4000000 in
theorem take_yes (sp pages n al k : Nat) (v : Value) (l : List Run) (r : Run) (w : World) (h : SpansAt w sp v pages l) (ha : Pow2 al) (hn : 1 ≤ n) (hn2 : n < 2 ^ 62) (hp : placeR n al l = some k) (hr : l[k]? = some r) :
    Calls Tryz.prog 84 #[.pointer (some ⟨sp, 0, none⟩), .int .i64 n, .int .i64 al] w (SpTook w sp pages v (takeR l k r n al) (r.first al : Nat) 0) := by
  have HR := Lib.hid (fun w => spRight_yes n al hn ha w)
  have HP := Lib.hid (place_yes sp pages n al v l w h ha hn2)
  rw [hp, show placeI (some k) = (k : Int) from rfl] at HP
  obtain ⟨hkl, r', hr', hh⟩ := placeR_spec hp
  obtain rfl : r' = r := by rw [hr] at hr'; exact (Option.some.inj hr').symm
  have hal : 0 < al := by
    obtain ⟨i, hi, rfl⟩ := ha
    exact Nat.pow_pos (by decide)
  have hfit : r'.first al + n ≤ r'.stop := by
    unfold Run.holds at hh
    rw [Bool.and_eq_true] at hh
    exact of_decide_eq_true hh.2
  have hfge := r'.first_ge hal
  have HTILE : Hid (Tile 0 (takeR l k r' n al) pages) := take_tile h.tile hr hn hal hfit
  have hpl : (partsR r' n al).length ≤ 3 := by
    unfold partsR
    exact List.length_filter_le _ _
  have hpt : 0 < (partsR r' n al).length := by
    apply List.length_pos_of_mem (a := ⟨r'.first al, n, true⟩)
    unfold partsR
    rw [List.mem_filter]
    exact ⟨by simp, by simp; omega⟩
  have hll := h.tile.length_le
  have hm := h.most
  have hlk : l[k] = r' := by rw [List.getElem?_eq_getElem hkl] at hr; exact Option.some.inj hr
  have hbd := h.tile.bounds r' (List.mem_of_getElem? hr)
  have hsl : r'.stop ≤ 4096 := by omega
  have hpg : r'.page ≤ 4096 := by unfold Run.stop at hsl; omega
  have HF := Lib.hid (fun w => runFirst_any r' al ha hpg w)
  have HE := Lib.hid (fun w => runEnd_any r' hsl w)
  obtain ⟨g, cap, cur, rfl, hrow⟩ := RowIn.of_spans h (by omega)
  obtain ⟨y0, y1, y2⟩ := hrow.cells hkl
  have c1 : w.cell? ⟨sp, 1, none⟩ = some (.slice (some ⟨g, 0, none⟩) l.length cap) := by rw [cell_of_block h.obj]; rfl
  have hspl := lt_of_block h.obj
  have hgsp : g ≠ sp := (h.lt.2 g rfl).2
  have hgl := lt_of_block hrow.at_
  have HROW := Lib.hid hrow
  have HOBJ := Lib.hid h.obj
  have HPARTS : Hid (parts3 r' n al = [⟨r'.page, r'.first al - r'.page, false⟩, ⟨r'.first al, n, true⟩, ⟨r'.first al + n, r'.stop - (r'.first al + n), false⟩]) := rfl
  have HPF : Hid ((parts3 r' n al).filter nz = partsR r' n al) := rfl
  have HP3 : Hid ((parts3 r' n al).length = 3) := rfl
  have HTK : Hid (repl l (partsR r' n al) k (k + 1) = takeR l k r' n al) := rfl
  rw [hlk] at y0 y1 y2
  have hi1 : (0 : Int) ≤ (k : Int) ∧ (k : Int) < l.length := by omega
  have hk1 : (k : Int) < 4096 := by omega
  clear h hrow hp hr hr' hh hlk hbd
  generalize hfst : r'.first al = f at *
  generalize hstp : r'.stop = s at *
  generalize r'.page = p0 at *
  generalize r'.n = p1 at *
  generalize r'.taken = p2 at *
  have h13 : ((k : Int) == -1) = false := by simp
  go_enter Tryz.func84, Tryz.ntmps84
  go_wp2_with (fail)
  refine (HR.out _).mono ?_
  rintro e w1 ⟨rfl, rfl⟩
  go_wp2_with (fail)
  refine HP.out.mono ?_
  rintro e w1 ⟨rfl, hb⟩
  have d1 := cell_past hb hspl c1
  have z0 := cell_past hb hgl y0
  have z1 := cell_past hb hgl y1
  have z2 := cell_past hb hgl y2
  have HB1 := Lib.hid hb
  have hz1 := hb.size
  clear hb c1 y0 y1 y2
  go_wp2_with (fail)
  refine (HF.out _).mono ?_
  rintro e w2 ⟨rfl, hb2⟩
  have t0 : w2.cell? ⟨w1.heap.size, 0, none⟩ = some (.int .i64 (p0 : Int)) := cell_past hb2 (by simp) (by simp [go_sem])
  have t1 : w2.cell? ⟨w1.heap.size, 1, none⟩ = some (.int .i64 (p1 : Int)) := cell_past hb2 (by simp) (by simp [go_sem])
  have t2 : w2.cell? ⟨w1.heap.size, 2, none⟩ = some (.bool p2) := cell_past hb2 (by simp) (by simp [go_sem])
  have d2 := cell_past hb2 (by simp; omega) (Lib.cell?_alloc_some _ d1)
  have HB2 := Lib.hid (show Below w.heap.size w w2 from Below.via hb2 (by simp; omega) (HB1.out.alloc hz1 _))
  clear hb2 z0 z1 z2 d1
  go_upto_region 8 with (fail)
  (refine wp_region_quiet_tail_ext 20 (by kernel_rfl) (by kernel_rfl) ?_; simp only [List.take_succ_cons, List.take_zero, List.drop_succ_cons, List.drop_zero])
  ((repeat (first | go_big_quiet_step ((go_at_call 123; exact Calls.ext_of (HE.out _))) | quiet_step ((go_at_call 123; exact Calls.ext_of (HE.out _))))); refine wpQuiet_nil ?_; intro w3 hw3; obtain hb3 := below_of_ext hw3; clear hw3; have hz3 := hb3.size; (try simp at hz3))
  have HB3 := Lib.hid (Below.via hb3 HB2.out.size HB2.out)
  have d3 := cell_past hb3 (cell_lt d2) d2
  clear hb3 d2 t0 t1 t2
  go_upto_region 9 with (fail)
  obtain ⟨W4, hW4⟩ : ∃ W4, W4 = w3.alloc (.cells #[.int .i64 (p0 : Int), .int .i64 ((f : Int) - (p0 : Int)), .bool false, .int .i64 (f : Int), .int .i64 (n : Int), .bool true, .int .i64 ((f : Int) + (n : Int)), .int .i64 ((s : Int) - (f : Int) - (n : Int)), .bool false] 108) := ⟨_, rfl⟩
  have hb4 : Below w.heap.size w W4 := by rw [hW4]; exact HB3.out.alloc HB3.out.size _
  have hz3 := HB3.out.size
  have d4 : W4.cell? ⟨sp, 1, none⟩ = some (.slice (some ⟨g, 0, none⟩) l.length cap) := by rw [hW4]; exact Lib.cell?_alloc_some _ d3
  have hri : RowIn W4 w3.heap.size 3 (runsV (parts3 r' n al)) (parts3 r' n al) := by
    refine ⟨?_, by rw [runsV_length, HP3.out], by rw [HP3.out]; omega, by decide, List.take_of_length_le (by rw [runsV_length]; omega)⟩
    rw [hW4, heap_alloc_new, HPARTS.out, show (f : Int) - (p0 : Int) = ((f - p0 : Nat) : Int) by omega, show (s : Int) - (f : Int) - (n : Int) = ((s - (f + n) : Nat) : Int) by omega, show (f : Int) + (n : Int) = ((f + n : Nat) : Int) by omega]
    rfl
  have hD := deleteFunc_any (parts3 r' n al) w3.heap.size 3 _ W4 hri (by rw [HP3.out]; omega)
  rw [HP3.out, HPF.out] at hD
  have HD := Lib.hid hD
  have HB4 := Lib.hid hb4
  have hG3l : w3.heap.size < W4.heap.size := lt_of_block hri.at_
  rw [← hW4]
  clear hW4 hri hD d3 hb4
  have hspG : sp ≠ w3.heap.size := by omega
  have hgG : g ≠ w3.heap.size := by omega
  generalize w3.heap.size = G3 at *
  generalize hPR : partsR r' n al = PR at *
  clear hPR HPARTS
  go_wp2_with (fail)
  refine HD.out.mono ?_
  rintro e w5 ⟨cur5, rfl, hrow5, ht5⟩
  have d5 := turned_cell ht5 hspG d4
  have hrow45 := (HROW.out.turned (Turned.of_below (F := fun _ => False) HB4.out (Nat.le_refl _)) (fun h => h)).turned ht5 hgG
  have hobj5 := (ht5.block _ (by have := HB4.out.size; omega) hspG).trans ((HB4.out.block _ hspl).trans HOBJ.out)
  have hR := replace_any l PR k (k + 1) g cap G3 3 3 cur cur5 w5 hrow45 hrow5 (Ne.symm hgG) (Nat.lt_succ_self _) hkl hpt (by omega) (by omega)
  rw [show ((k + 1 : Nat) : Int) = (k : Int) + 1 by omega, HTK.out] at hR
  have HREP := Lib.hid hR
  have HT5 := Lib.hid (show Turned (spF sp (.slice (some ⟨g, 0, none⟩) l.length cap)) w w5 from (Turned.of_below (F := spF sp (.slice (some ⟨g, 0, none⟩) l.length cap)) HB4.out (Nat.le_refl _)).trans ht5 (fun x hx hlt => by omega))
  have HOBJ5 := Lib.hid hobj5
  have hsp5 : sp < w5.heap.size := lt_of_block hobj5
  have hz5 : w.heap.size ≤ w5.heap.size := HT5.out.size
  clear hR hrow5 ht5 d4 hrow45 hobj5
  go_wp2_with (fail)
  refine HREP.out.mono ?_
  rintro e w6 ⟨g', cap', cur', rfl, hrow6, hg6, ht6⟩
  have d6 := turned_cell ht6 (Ne.symm hgsp) d5
  have hobj6 := (ht6.block _ hsp5 (Ne.symm hgsp)).trans HOBJ5.out
  have f6 := frozen_of_block hobj6 1
  have HOBJ6 := Lib.hid hobj6
  have HROW6 := Lib.hid hrow6
  have HT6 := Lib.hid (HT5.out.trans ht6 (fun x hx _ => .inr (by rw [hx]; rfl)))
  have HG6 := Lib.hid hg6
  clear hobj6 hrow6 ht6 hg6 d5
  go_wp2
  go_ret2
  have hgsp' : g' ≠ sp := by rcases HG6.out with h | h <;> omega
  refine ⟨_, rfl, ⟨?_, ((HROW6.out).turned (F := fun k => k = sp) (Turned.setCell (F := fun k => k = sp) (p := ⟨sp, 1, none⟩) (Turned.refl _ _) (.inl rfl) _) hgsp').own, HTILE.out, hm⟩, ?_, HT6.out.setCell (.inl (.inl rfl)) _⟩
  · rw [heap_setCell_eq HOBJ6.out]
    rfl
  · rcases HG6.out with h | h
    · left; rw [h]; rfl
    · right; exact ⟨g', rfl, by omega⟩

end Go.Proofs.YtlljejmblmjjnaaGreatDoor
