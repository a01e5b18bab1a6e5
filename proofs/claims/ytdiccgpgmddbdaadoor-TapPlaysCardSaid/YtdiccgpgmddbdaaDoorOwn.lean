/- Slices that an object owns, and what an object may grow by: small laws. -/
import Derived.Test.YtdiccgpgmddbdaaDoorShaSum
import Derived.Laws.IdiomStrings
import Derived.Laws.AppendOwn
import Derived.OwnWalk
namespace Go.Proofs.YtdiccgpgmddbdaaDoor
open Go.RowKit

theorem ret_bool {a b : Bool} (h : a = b) : Ending.returned (.bool a) = .returned (.bool b) := by rw [h]
theorem ret_num {k : IntKind} {a b : Int} (h : a = b) : Ending.returned (.int k a) = .returned (.int k b) := by rw [h]
theorem ret_str {a b : ByteArray} (h : a = b) : Ending.returned (.string a) = .returned (.string b) := by rw [h]

theorem addr_plain (b o j : Nat) : (⟨b, o, none⟩ : Addr).add j = ⟨b, o + j, none⟩ := by unfold Addr.add; split <;> simp_all

/-- Bytes as cells. -/
def u8s (l : List UInt8) : List Value := l.map fun c => Value.int .u8 (c.toNat : Int)
@[simp] theorem u8s_len (l : List UInt8) : (u8s l).length = l.length := by simp [u8s]
theorem u8s_snoc (l : List UInt8) (c : UInt8) : u8s l ++ [Value.int .u8 (c.toNat : Int)] = u8s (l ++ [c]) := by simp [u8s]

/-- What a footprint has become behind a call: it, and what is new. -/
def grow (S : Nat → Prop) (w w' : World) : Nat → Prop := fun k => S k ∨ (w.heap.size ≤ k ∧ k < w'.heap.size)
theorem grow.old {S : Nat → Prop} {w w' : World} {k : Nat} (h : S k) : grow S w w' k := .inl h
theorem grow.trans {S : Nat → Prop} {a b c : World} {k : Nat} (hab : a.heap.size ≤ b.heap.size) (hbc : b.heap.size ≤ c.heap.size) (h : grow (grow S a b) b c k) : grow S a c k := by
  rcases h with (h | h) | h
  · exact .inl h
  · exact .inr ⟨h.1, by omega⟩
  · exact .inr ⟨by omega, h.2⟩
theorem grow.left {S : Nat → Prop} {a b c : World} {k : Nat} (hbc : b.heap.size ≤ c.heap.size) (h : grow S a b k) : grow S a c k := by
  rcases h with h | h
  · exact .inl h
  · exact .inr ⟨h.1, by omega⟩

theorem Only.of_grown {S : Nat → Prop} {w w' : World} {row : Option Nat} (hg : w.grownBy w' row) (h : ∀ k, row = some k → S k) : Only S w w' :=
  ⟨hg.os, hg.tape, hg.output, hg.size, fun k hk hn => hg.block k hk (fun e => hn (h k e.symm))⟩
theorem Only.alloc {S : Nat → Prop} {w : World} (o : Obj) : Only S w (w.alloc o) := ⟨rfl, rfl, rfl, by simp, fun k hk _ => heap_alloc_old w o hk⟩
/-- What one call may turn, the next one's new blocks being new to the first, too. -/
theorem Only.step {S : Nat → Prop} {a b c : World} (h : Only S a b) (k : Only (grow S a b) b c) : Only S a c :=
  ⟨k.os.trans h.os, k.tape.trans h.tape, k.output.trans h.output, Nat.le_trans h.size k.size, fun i hi hn =>
    (k.block i (Nat.lt_of_lt_of_le hi h.size) (fun hs => hs.elim hn (fun hx => by omega))).trans (h.block i hi hn)⟩
theorem Only.trans' {S : Nat → Prop} {a b c : World} (h : Only S a b) (k : Only S b c) : Only S a c := h.trans k
/-- Blocks at hand are not touched by what begins later. -/
theorem Only.after {S T : Nat → Prop} {a b c : World} (h : Only S a b) (k : Only T b c) (hT : ∀ i, i < a.heap.size → T i → S i) : Only S a c :=
  ⟨k.os.trans h.os, k.tape.trans h.tape, k.output.trans h.output, Nat.le_trans h.size k.size, fun i hi hn =>
    (k.block i (Nat.lt_of_lt_of_le hi h.size) (fun hs => hn (hT i hi hs))).trans (h.block i hi hn)⟩

theorem own_of_heap {w w' : World} {base : Nat} {e : TypeId} {size : Nat} {v : Value} {n : Nat} {xs : List Value} (h : w.ownsRow base e size v n xs) (hk : ∀ k, v.ownBlock = some k → w'.heap[k]? = w.heap[k]?) : w'.ownsRow base e size v n xs := by
  refine ⟨h.1, ?_⟩
  rcases h.2 with hn | ⟨g, cap, cur, rfl, hb, hg, rest⟩
  · exact .inl hn
  · exact .inr ⟨g, cap, cur, rfl, hb, (hk g rfl).trans hg, rest⟩
theorem own_base {w : World} {base : Nat} {e : TypeId} {size : Nat} {v : Value} {n : Nat} {xs : List Value} (h : w.ownsRow base e size v n xs) (b : Nat) (hb : ∀ k, v.ownBlock = some k → b ≤ k) : w.ownsRow b e size v n xs := by
  refine ⟨h.1, ?_⟩
  rcases h.2 with hn | ⟨g, cap, cur, rfl, _, rest⟩
  · exact .inl hn
  · exact .inr ⟨g, cap, cur, rfl, hb g rfl, rest⟩
/-- A slice of no elements over what a slice owns. -/
theorem own_none {w : World} {base : Nat} {e : TypeId} {g n cap : Nat} {xs : List Value} (h : w.ownsRow base e 1 (.slice (some ⟨g, 0, none⟩) n cap) n xs) : w.ownsRow base e 1 (.slice (some ⟨g, 0, none⟩) 0 cap) 0 [] := by
  refine ⟨rfl, ?_⟩
  rcases h.2 with ⟨h, _⟩ | ⟨g', cap', cur, hv, hb, hg, hn, hm, hs, _⟩
  · cases h
  · cases hv
    exact .inr ⟨_, _, cur, rfl, hb, hg, Nat.zero_le _, hm, hs, by simp⟩
theorem own_string {w : World} {base : Nat} {v : Value} {l : List UInt8} (h : w.ownsRow base 5 1 v l.length (u8s l)) :
    (convert 70 9 v).run Tryd.prog w = .ok (.string ⟨l.toArray⟩) w := by
  rcases h.2 with ⟨rfl, h0⟩ | ⟨g, cap, cur, rfl, hb, hg, hn, hm, hs, ht⟩
  · obtain rfl := List.eq_nil_of_length_eq_zero h0
    exact run_convert_bytes_nil w 70 5 Tryd.underlying70 Tryd.underlying5 0 0 9 Tryd.underlying9
  · refine run_convert_bytes_back w 70 9 5 ⟨g, 0, none⟩ cap l Tryd.underlying70 Tryd.underlying5 Tryd.underlying9 (fun j hj => ?_)
    refine h.cells (g := g) rfl j _ ?_
    simp [u8s, List.getElem?_eq_getElem hj]

/-- Numbers as cells. -/
def i64s (l : List Nat) : List Value := l.map fun n : Nat => Value.int .i64 n
@[simp] theorem i64s_len (l : List Nat) : (i64s l).length = l.length := by simp [i64s]
@[simp] theorem u32s_len (l : List Nat) : (u32s l).length = l.length := by simp [u32s]
theorem i64s_get (l : List Nat) {j : Nat} (hj : j < l.length) : (i64s l)[j]? = some (.int .i64 (l.getD j 0 : Nat)) := by
  simp [i64s, List.getElem?_eq_getElem hj, List.getD_eq_getElem?_getD]
theorem u32s_get' (l : List Nat) {j : Nat} (hj : j < l.length) : (u32s l)[j]? = some (.int .u32 (l.getD j 0 : Nat)) := by
  simp [u32s, List.getElem?_eq_getElem hj, List.getD_eq_getElem?_getD]
theorem i64s_one (l : List Nat) : ∀ u ∈ i64s l, u.oneCell' = true := by intro u hu; simp [i64s] at hu; obtain ⟨n, _, rfl⟩ := hu; rfl
theorem u32s_one' (l : List Nat) : ∀ u ∈ u32s l, u.oneCell' = true := by intro u hu; simp [u32s] at hu; obtain ⟨n, _, rfl⟩ := hu; rfl
theorem u8s_one (l : List UInt8) : ∀ u ∈ u8s l, u.oneCell' = true := by intro u hu; simp [u8s] at hu; obtain ⟨n, _, rfl⟩ := hu; rfl
theorem i64s_snoc (l : List Nat) (x : Nat) : i64s l ++ [Value.int .i64 (x : Int)] = i64s (l ++ [x]) := by simp [i64s]
theorem u32s_snoc (l : List Nat) (x : Nat) : u32s l ++ [Value.int .u32 (x : Int)] = u32s (l ++ [x]) := by simp [u32s]
theorem own_xs {w : World} {base : Nat} {e : TypeId} {size : Nat} {v : Value} {n n' : Nat} {xs ys : List Value} (h : w.ownsRow base e size v n xs) (hn : n = n') (hx : xs = ys) : w.ownsRow base e size v n' ys := by subst hn hx; exact h
/-- The cells of what a slice owns. -/
theorem own_cell {w : World} {base : Nat} {e : TypeId} {g n cap : Nat} {xs : List Value} (h : w.ownsRow base e 1 (.slice (some ⟨g, 0, none⟩) n cap) n xs) {j : Nat} {u : Value} (hj : xs[j]? = some u) : w.cell? ⟨g, j, none⟩ = some u := by
  have h1 := h.cells (g := g) rfl j u hj
  rwa [addr_plain, Nat.zero_add] at h1
/-- A store into a cell that a slice owns. -/
theorem own_set {w : World} {base : Nat} {e : TypeId} {g n cap j : Nat} {xs : List Value} (h : w.ownsRow base e 1 (.slice (some ⟨g, 0, none⟩) n cap) n xs) (hj : j < n) (u : Value) :
    (w.setCell ⟨g, j, none⟩ u).ownsRow base e 1 (.slice (some ⟨g, 0, none⟩) n cap) n (xs.set j u) := by
  refine ⟨by simpa using h.1, ?_⟩
  rcases h.2 with ⟨h, _⟩ | ⟨g', cap', cur, hv, hb, hg, hn, hm, hs, ht⟩
  · cases h
  · cases hv
    refine .inr ⟨g, cap, _, rfl, hb, heap_set hg u, hn, hm, by simpa using hs, ?_⟩
    rw [← ht]
    simp [List.take_set]
theorem own_free {w : World} {base : Nat} {e : TypeId} {g n cap : Nat} {xs : List Value} (h : w.ownsRow base e 1 (.slice (some ⟨g, 0, none⟩) n cap) n xs) (j : Nat) : w.frozen? ⟨g, j, none⟩ = false := by
  rcases h.2 with ⟨h, _⟩ | ⟨g', cap', cur, hv, hb, hg, _⟩
  · cases h
  · cases hv
    exact heap_free hg
/-- A literal's slice. -/
theorem own_lit (w : World) (base : Nat) (xs : List Value) (n : Nat) (e : TypeId) (hn : xs.length = n) (hb : base ≤ w.heap.size) (hm : n ≤ maxLen) : (w.alloc (.cells xs.toArray e)).ownsRow base e 1 (.slice (some ⟨w.heap.size, 0, none⟩) n n) n xs := by
  subst hn
  exact ⟨by simp, .inr ⟨w.heap.size, _, _, rfl, hb, heap_alloc_last w _, Nat.le_refl _, hm, by simp, by simp⟩⟩

theorem info_i64 : (Tryd.prog.info? 3).map (fun i => (i.zero, i.size, i.bytes)) = some (some (.int .i64 0), 1, 8) := by kernel_rfl
theorem info_u32 : (Tryd.prog.info? 34).map (fun i => (i.zero, i.size, i.bytes)) = some (some (.int .u32 0), 1, 4) := by kernel_rfl
theorem info_u8 : (Tryd.prog.info? 5).map (fun i => (i.zero, i.size, i.bytes)) = some (some (.int .u8 0), 1, 1) := by kernel_rfl

/-- The cells of a new block. -/
theorem cells_new (w : World) (xs : List Value) (t : TypeId) : ∀ j u, xs[j]? = some u → (w.alloc (.cells xs.toArray t)).cell? ((⟨w.heap.size, 0, none⟩ : Addr).add j) = some u := by
  intro j u hj
  rw [addr_plain, Nat.zero_add, cell_of_row _ _ _ _ _ _ (heap_alloc_last w _)]
  simpa using hj

theorem conv1 (n : Nat) (c : UInt8) (w : World) (hn : n = w.heap.size) : (convert 70 9 (.slice (some ⟨n, 0, none⟩) 1 1)).run Tryd.prog (w.alloc (.cells #[.int .u8 (c.toNat : Int)] 5)) =
    .ok (.string ⟨#[c]⟩) (w.alloc (.cells #[.int .u8 (c.toNat : Int)] 5)) := by
  subst hn
  refine run_convert_bytes_back _ 70 9 5 ⟨w.heap.size, 0, none⟩ 1 [c] Tryd.underlying70 Tryd.underlying5 Tryd.underlying9 (fun j hj => ?_)
  refine cells_new w [.int .u8 (c.toNat : Int)] _ j _ ?_
  match j, hj with
  | 0, _ => rfl

theorem conv1d (c : UInt8) (w : World) : (convert 70 9 (.slice (some ⟨w.heap.size, 0, none⟩) 1 1)).run Tryd.prog (w.alloc (.cells #[.int .u8 (c.toNat : Int)] 5)).drew =
    .ok (.string ⟨#[c]⟩) (w.alloc (.cells #[.int .u8 (c.toNat : Int)] 5)).drew := conv1 w.heap.size c w.drew rfl

/-- A slice with an element shows what it is. -/
theorem own_shows {w : World} {base : Nat} {e : TypeId} {size : Nat} {v : Value} {n : Nat} {xs : List Value} (h : w.ownsRow base e size v n xs) (hn : 0 < n) : ∃ g cap, v = .slice (some ⟨g, 0, none⟩) n cap := by
  rcases h.2 with ⟨_, h⟩ | ⟨g, cap', _, h, _⟩
  · omega
  · exact ⟨g, cap', h⟩

/-- 'append' onto a slice that an object owns: the row is the old one, where it has room, or a new one. -/
theorem run_append_mine {P : Program} (w : World) (t ty e : TypeId) (i : TypeInfo) (z : Value) (size bytes : Nat) (ht : P.underlying t = some (.slice e)) (hi : P.info? e = some i) (hz : i.zero = some z)
    (hsize : i.size = size) (hby : i.bytes = bytes) (hzs : z.cells.size = size) (hsz : 0 < size)
    (base : Nat) (v : Value) (n : Nat) (xs : List Value) (hown : w.ownsRow base e size v n xs)
    (a : Addr) (m c : Nat) (news : List Value) (hl : news.length = m * size) (hnews : ∀ j u, news[j]? = some u → w.cell? (a.add j) = some u) (h1 : ∀ u ∈ news, u.oneCell' = true)
    (hm : 0 < n + m) (h63 : n + m ≤ maxLen) (hbytes : (n + m) * bytes ≤ 140737488355328) (hbase : base ≤ w.heap.size) :
    ∃ g cap' w', (Builtin.append_ #[t, t] ty #[v, .slice (some a) m c]).run P w = .ok (.slice (some ⟨g, 0, none⟩) (n + m) cap') w' ∧
      w'.ownsRow base e size (.slice (some ⟨g, 0, none⟩) (n + m) cap') (n + m) (xs ++ news) ∧ w.grownBy w' v.ownBlock ∧ (v.ownBlock = some g ∨ w.heap.size ≤ g) ∧
      (∀ g0 cap0, v = .slice (some ⟨g0, 0, none⟩) n cap0 → n + m ≤ cap0 → g = g0 ∧ cap' = cap0) := by
  have shows : ∀ {v' : Value} {w' : World}, w'.ownsRow w.heap.size e size v' (n + m) (xs ++ news) → ∃ g cap', v' = .slice (some ⟨g, 0, none⟩) (n + m) cap' ∧ w.heap.size ≤ g := by
    intro v' w' h
    rcases h.2 with ⟨_, h0⟩ | ⟨g, cap', cur, rfl, hb, _⟩
    · omega
    · exact ⟨g, cap', rfl, hb⟩
  have low : ∀ {v' : Value} {w' : World}, w'.ownsRow w.heap.size e size v' (n + m) (xs ++ news) → w'.ownsRow base e size v' (n + m) (xs ++ news) := by
    intro v' w' h
    refine own_base h base (fun k hk => ?_)
    have := (h.lt k hk).1
    omega
  have gmono : ∀ {w' : World} {row : Option Nat}, w.grownBy w' none → w.grownBy w' row := fun h => ⟨h.os, h.tape, h.output, h.size, fun k hk _ => h.block k hk (by simp)⟩
  rcases hown.2 with ⟨rfl, rfl⟩ | ⟨g, cap, cur, rfl, hbg, hg, hnc, hcm, hcs, htake⟩
  · obtain rfl : xs = [] := List.eq_nil_of_length_eq_zero (by simpa using hown.1)
    obtain ⟨v', w', hr, h2, h3, h4⟩ := run_append_own (P := P) w base t ty e i z size bytes ht hi hz hsize hby hzs hsz (.slice none 0 0) 0 [] hown a m c news hl hnews h1 h63 hbytes hbase
    subst hsize
    subst hby
    have hr2 := run_append_nil (P := P) w t ty e i z ht hi hz a m c news hl hnews (by omega) (by simp only [maxLen] at h63; omega) (by have hb := hbytes; simp only [Nat.zero_add] at hb; omega)
    rw [hr] at hr2
    obtain ⟨rfl, rfl⟩ : v' = _ ∧ w' = _ := by
      injection hr2 with e1 e2
      exact ⟨e1, e2⟩
    refine ⟨w.heap.size, _, _, by rw [hr, Nat.zero_add], by simpa using h2, h3, .inr (Nat.le_refl _), fun g0 cap0 e => by cases e⟩
  · by_cases hroom : n + m ≤ cap
    · subst hsize
      subst hby
      have hfit : n * i.size + news.length ≤ cur.size := by rw [hl, hcs, ← Nat.add_mul]; exact Nat.mul_le_mul_right _ hroom
      have hr := run_append_room (P := P) w t ty e i ht hi g n cap cur hg a m c news hl hnews h1 hroom hfit
      have hlen : (xs ++ news).length = (n + m) * i.size := by rw [List.length_append, hown.1, hl, Nat.add_mul]
      refine ⟨g, cap, _, hr, ⟨hlen, .inr ⟨g, cap, _, rfl, hbg, setRow_heap w g cur _ e _ hg, hroom, hcm, ?_, ?_⟩⟩, ⟨rfl, rfl, rfl, by simp, fun k _ hk => setRow_other w g k _ (fun e => hk (by simp [Value.ownBlock, e]))⟩, .inl rfl, fun g0 cap0 e _ => by cases e; exact ⟨rfl, rfl⟩⟩
      · simp only [List.size_toArray, List.length_append, List.length_take, List.length_drop, Array.length_toList]
        omega
      · rw [htake, ← hlen]
        exact List.take_left
    · have holds : ∀ j u, xs[j]? = some u → w.cell? ((⟨g, 0, none⟩ : Addr).add j) = some u := hown.cells (g := g) rfl
      obtain ⟨v', w', hr, h2, h3⟩ := run_append_arg_grows (P := P) w t ty e i z size bytes ht hi hz hsize hby hzs hsz ⟨g, 0, none⟩ n cap xs hown.1 holds a m c news hl hnews (by omega) h63 hbytes
      obtain ⟨g', cap', rfl, hg'⟩ := shows h2
      exact ⟨g', cap', w', hr, low h2, gmono h3, .inr hg', fun g0 cap0 e h => by cases e; omega⟩

theorem wp_append_mine {P : Program} {w : World} {o : Oper} {a : Act} {K : Act → World → Prop} {Q : Exit → Act → World → Prop} (s x : Operand) (t : TypeId)
    (ho : o.op = .call { callee := .builtin .append, args := #[s, x], argTypes := #[t, t] })
    (base : Nat) (e : TypeId) (i : TypeInfo) (z : Value) (size bytes : Nat) (ht : P.underlying t = some (.slice e)) (hi : P.info? e = some i) (hz : i.zero = some z)
    (hsize : i.size = size) (hby : i.bytes = bytes) (hzs : z.cells.size = size) (hsz : 0 < size)
    (v : Value) (n : Nat) (xs : List Value) (hs : a.eval s = v) (hown : w.ownsRow base e size v n xs)
    (ad : Addr) (m c : Nat) (news : List Value) (hx : a.eval x = .slice (some ad) m c) (hl : news.length = m * size) (hnews : ∀ j u, news[j]? = some u → w.cell? (ad.add j) = some u) (h1 : ∀ u ∈ news, u.oneCell' = true)
    (hm : 0 < n + m) (h63 : n + m ≤ maxLen) (hbytes : (n + m) * bytes ≤ 140737488355328) (hbase : base ≤ w.heap.size)
    (h : ∀ g cap' w', w'.ownsRow base e size (.slice (some ⟨g, 0, none⟩) (n + m) cap') (n + m) (xs ++ news) → w.grownBy w' v.ownBlock → (v.ownBlock = some g ∨ w.heap.size ≤ g) →
      (∀ g0 cap0, v = .slice (some ⟨g0, 0, none⟩) n cap0 → n + m ≤ cap0 → g = g0 ∧ cap' = cap0) → K (a.put o.dst (.slice (some ⟨g, 0, none⟩) (n + m) cap')) w') : o.wp P a w K Q := by
  obtain ⟨g, cap', w', hr, h2, h3, h4, h5⟩ := run_append_mine (P := P) w t o.type e i z size bytes ht hi hz hsize hby hzs hsz base v n xs hown ad m c news hl hnews h1 hm h63 hbytes hbase
  unfold Oper.wp execOp
  simp only [ho, resolve, invoke, builtin, Sem.run_bind, Sem.run_pure, Result.andThen_ok, List.map_toArray, List.map_cons, List.map_nil, hs, hx, hr]
  exact h g cap' w' h2 h3 h4 h5
theorem wpList_append_mine {P : Program} {w : World} {ops : Array Oper} {rest : List Oper} {o : Oper} {a : Act} {Q : Exit → Act → World → Prop} (hgd : o.guard = none) (s x : Operand) (t : TypeId)
    (ho : o.op = .call { callee := .builtin .append, args := #[s, x], argTypes := #[t, t] })
    (base : Nat) (e : TypeId) (i : TypeInfo) (z : Value) (size bytes : Nat) (ht : P.underlying t = some (.slice e)) (hi : P.info? e = some i) (hz : i.zero = some z)
    (hsize : i.size = size) (hby : i.bytes = bytes) (hzs : z.cells.size = size) (hsz : 0 < size)
    (v : Value) (n : Nat) (xs : List Value) (hs : a.eval s = v) (hown : w.ownsRow base e size v n xs)
    (ad : Addr) (m c : Nat) (news : List Value) (hx : a.eval x = .slice (some ad) m c) (hl : news.length = m * size) (hnews : ∀ j u, news[j]? = some u → w.cell? (ad.add j) = some u) (h1 : ∀ u ∈ news, u.oneCell' = true)
    (hm : 0 < n + m) (h63 : n + m ≤ maxLen) (hbytes : (n + m) * bytes ≤ 140737488355328) (hbase : base ≤ w.heap.size)
    (h : ∀ g cap' w', w'.ownsRow base e size (.slice (some ⟨g, 0, none⟩) (n + m) cap') (n + m) (xs ++ news) → w.grownBy w' v.ownBlock → (v.ownBlock = some g ∨ w.heap.size ≤ g) →
      (∀ g0 cap0, v = .slice (some ⟨g0, 0, none⟩) n cap0 → n + m ≤ cap0 → g = g0 ∧ cap' = cap0) → wpList P ops Q rest (a.put o.dst (.slice (some ⟨g, 0, none⟩) (n + m) cap')) w') : wpList P ops Q (o :: rest) a w :=
  wpList_plain hgd fun _ hK => wp_append_mine s x t ho base e i z size bytes ht hi hz hsize hby hzs hsz v n xs hs hown ad m c news hx hl hnews h1 hm h63 hbytes hbase fun g cap' w' h2 h3 h4 h5 => hK _ _ (h g cap' w' h2 h3 h4 h5)
end Go.Proofs.YtdiccgpgmddbdaaDoor
