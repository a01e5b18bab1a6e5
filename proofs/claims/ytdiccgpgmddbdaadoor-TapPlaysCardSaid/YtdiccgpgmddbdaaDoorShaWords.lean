/- The walk of sha.words: the schedule of a block of 64 bytes. -/
import Derived.Test.YtdiccgpgmddbdaaDoorCells
import Derived.LoopTactic
import Derived.Test.YtdiccgpgmddbdaaDoorQuietTail
namespace Go.Proofs.YtdiccgpgmddbdaaDoor
open Go.RowKit

theorem be4_be32 (s : ByteArray) (k : Nat) : be4 s (4 * k) = Sha.be32 s.data.toList k := rfl
theorem words16_len (s : List UInt8) (k : Nat) : (Sha.words16 s k).length = k := by
  induction k with
  | zero => rfl
  | succ k ih => simp [Sha.words16, ih]
theorem sched_len (l : List Nat) (k : Nat) : (Sha.sched l k).length = l.length + k := by
  induction k with
  | zero => rfl
  | succ k ih => simp [Sha.sched, ih]; omega

/-- The array behind k rounds of the first loop. -/
def WA (s : ByteArray) (B : Nat) (k : Nat) (wr : World) : Prop := wr.heap[B]? = some (.cells (arr (Sha.words16 s.data.toList k) 64) 36 (0, 0))
theorem WA.cell {s : ByteArray} {B k : Nat} {wr : World} (h : WA s B k wr) (hk : k < 16) : wr.cell? ⟨B, k, none⟩ = some (.int .u32 ((Sha.words16 s.data.toList k).getD k 0 : Nat)) :=
  heap_cell h (arr_get (by rw [words16_len]; omega) (by omega))
theorem WA.free {s : ByteArray} {B k : Nat} {wr : World} (h : WA s B k wr) (j : Nat) : wr.frozen? ⟨B, j, none⟩ = false := heap_free h
theorem WA.next {s : ByteArray} {B k n : Nat} {wr : World} (h : WA s B k wr) (hk : k < 16) {v : Int} (hv : v = (be4 s (4 * k) : Nat)) : WA s B (k + 1) ((wr.drewN n).setCell ⟨B, k, none⟩ (.int .u32 v)) := by
  have := heap_set (j := k) (show (wr.drewN n).heap[B]? = _ from h) (.int .u32 v)
  unfold WA
  rw [this, hv, be4_be32]
  have e := arr_set (l := Sha.words16 s.data.toList k) (n := 64) (x := Sha.be32 s.data.toList k) (by rw [words16_len]; omega)
  rw [words16_len] at e
  rw [e]; rfl

theorem be32_lt (s : List UInt8) (k : Nat) : Sha.be32 s k < 4294967296 := by
  unfold Sha.be32
  have h : ∀ x : UInt8, x.toNat < 256 := fun x => x.toNat_lt
  have h0 := h (s.getD (4 * k) 0)
  have h1 := h (s.getD (4 * k + 1) 0)
  have h2 := h (s.getD (4 * k + 2) 0)
  have h3 := h (s.getD (4 * k + 3) 0)
  omega
theorem getD_app_lt {l : List Nat} {x n : Nat} (h : ∀ j, l.getD j 0 < 4294967296) (hx : x < 4294967296) : (l ++ [x]).getD n 0 < 4294967296 := by
  rw [List.getD_eq_getElem?_getD, List.getElem?_append]
  split
  · rw [← List.getD_eq_getElem?_getD]; exact h n
  · cases h2 : n - l.length with
    | zero => simpa [h2] using hx
    | succ m => simp
theorem words16_lt (s : List UInt8) (k : Nat) : ∀ j, (Sha.words16 s k).getD j 0 < 4294967296 := by
  induction k with
  | zero => intro j; simp [Sha.words16]
  | succ k ih => intro j; exact getD_app_lt ih (be32_lt s k)
theorem words_lt (s : List UInt8) (k : Nat) : ∀ j, (Sha.sched (Sha.words16 s 16) k).getD j 0 < 4294967296 := by
  induction k with
  | zero => exact words16_lt s 16
  | succ k ih => intro j; exact getD_app_lt ih (Nat.mod_lt _ (by decide))

theorem div_lt32 {x n : Nat} (hx : x < 4294967296) : x / n < 2 ^ 32 := Nat.lt_of_le_of_lt (Nat.div_le_self _ _) hx
theorem sg0_bits (x : Nat) (hx : x < 4294967296) : bits .xor .u32 (bits .xor .u32 (Sha.rotr x 7 : Nat) (Sha.rotr x 18 : Nat)) ((x : Int) / 8) = ((Sha.sg0 x : Nat) : Int) := by
  have h7 := rotr_lt (n := 7) hx (by omega)
  have h18 := rotr_lt (n := 18) hx (by omega)
  rw [xor_u32 h7 h18, show (x : Int) / 8 = ((x / 8 : Nat) : Int) by omega, xor_u32 (Nat.xor_lt_two_pow h7 h18) (div_lt32 hx)]
  rfl
theorem sg1_bits (x : Nat) (hx : x < 4294967296) : bits .xor .u32 (bits .xor .u32 (Sha.rotr x 17 : Nat) (Sha.rotr x 19 : Nat)) ((x : Int) / 1024) = ((Sha.sg1 x : Nat) : Int) := by
  have h7 := rotr_lt (n := 17) hx (by omega)
  have h18 := rotr_lt (n := 19) hx (by omega)
  rw [xor_u32 h7 h18, show (x : Int) / 1024 = ((x / 1024 : Nat) : Int) by omega, xor_u32 (Nat.xor_lt_two_pow h7 h18) (div_lt32 hx)]
  rfl
theorem sg0_lt {x : Nat} (hx : x < 4294967296) : Sha.sg0 x < 4294967296 :=
  Nat.xor_lt_two_pow (n := 32) (Nat.xor_lt_two_pow (rotr_lt hx (by omega)) (rotr_lt hx (by omega))) (div_lt32 hx)
theorem sg1_lt {x : Nat} (hx : x < 4294967296) : Sha.sg1 x < 4294967296 :=
  Nat.xor_lt_two_pow (n := 32) (Nat.xor_lt_two_pow (rotr_lt hx (by omega)) (rotr_lt hx (by omega))) (div_lt32 hx)

/-- The array behind k rounds of the second loop. -/
def WB (s : ByteArray) (B : Nat) (k : Nat) (wr : World) : Prop := wr.heap[B]? = some (.cells (arr (Sha.sched (Sha.words16 s.data.toList 16) k) 64) 36 (0, 0))
theorem WB.at {s : ByteArray} {B k : Nat} {wr : World} (h : WB s B k wr) {j : Nat} (m : Nat) (hj : j = m ∧ m < 64 ∧ k ≤ 48) : wr.cell? ⟨B, j, none⟩ = some (.int .u32 ((Sha.sched (Sha.words16 s.data.toList 16) k).getD m 0 : Nat)) := by
  obtain ⟨rfl, h1, h2⟩ := hj
  exact heap_cell h (arr_get (by rw [sched_len, words16_len]; omega) h1)
theorem WB.next {s : ByteArray} {B k m : Nat} {wr : World} (h : WB s B k wr) (hk : k < 48) {j : Nat} (hj : j = k + 16) {v : Int}
    (hv : v = (((Sha.sched (Sha.words16 s.data.toList 16) k).getD k 0 + Sha.sg0 ((Sha.sched (Sha.words16 s.data.toList 16) k).getD (k + 1) 0) + (Sha.sched (Sha.words16 s.data.toList 16) k).getD (k + 9) 0
      + Sha.sg1 ((Sha.sched (Sha.words16 s.data.toList 16) k).getD (k + 14) 0)) % Sha.M32 : Nat)) : WB s B (k + 1) ((wr.setCell ⟨B, j, none⟩ (.int .u32 v)).drewN m) := by
  have h1 := heap_set (j := j) h (.int .u32 v)
  unfold WB
  have hl : (Sha.sched (Sha.words16 s.data.toList 16) k).length = j := by rw [sched_len, words16_len]; omega
  rw [World.heap_drewN, h1, hv, ← hl, arr_set (by rw [hl]; omega)]
  rfl
theorem WB.free {s : ByteArray} {B k : Nat} {wr : World} (h : WB s B k wr) (j : Nat) : wr.frozen? ⟨B, j, none⟩ = false := heap_free h

set_option maxHeartbeats 1000000 in
set_option maxRecDepth 100000 in
theorem words_any (s : ByteArray) (w : World) (hs : s.size = 64) :
    Calls Tryd.prog 46 #[.string s] w fun e w' => e = .returned (.agg (u32s (Sha.words s.data.toList)).toArray) ∧ Below w.heap.size w w' := by
  have Hs := Lib.hid hs
  have hs1 : (64 : Int) ≤ s.size := by omega
  have hs2 : s.size ≤ 9223372036854775807 := by omega
  clear hs
  go_enter Tryd.func46, Tryd.ntmps46
  go_wp2_with fail
  go_loopw [9] (fun i wr => ∃ k : Nat, k ≤ 16 ∧ i = .int .i64 k ∧ Below w.heap.size w wr ∧ WA s w.heap.size k wr) (fun i _ => 16 - (intOf i).toNat)
  case atStart => exact ⟨0, by omega, rfl, (Below.refl _ _).alloc (Nat.le_refl _) _, heap_alloc_last w _⟩
  case round =>
    obtain ⟨k, hk, rfl, hb, hwa⟩ := hrel
    have HW := Lib.hid hwa
    have hlt0 : w.heap.size < wr.heap.size := heap_lt hwa
    by_cases hlt : k < 16
    · have hc := hwa.cell hlt
      have hf := hwa.free k
      clear hwa
      go_wp2_with (go_at_call 50; refine (get_any s _ _ (by omega) (by omega) (by omega)).mono ?_; rintro e w' ⟨rfl, nd, rfl⟩)
      go_roundw
      case rel => 
        refine ⟨k + 1, by omega, by go_num, ?_, ?_⟩
        · exact (below_drewN (hb.setCell (by simp) _) nd)
        · exact HW.out.next hlt (by congr 1)
      case measure => simp [intOf]; omega
    · obtain rfl : k = 16 := by omega
      clear hwa hlt hk
      rw [show ((16 : Nat) : Int) = 16 from rfl]
      go_wp2_with fail
      go_loopw [4] (fun i wr => ∃ (k : Nat) (n : Int), k ≤ 48 ∧ Hid (n = 16 + (k : Int)) ∧ i = .int .i64 n ∧ Below w.heap.size w wr ∧ WB s w.heap.size k wr) (fun i _ => 64 - (intOf i).toNat)
      case atStart => exact ⟨0, 16, by omega, rfl, rfl, hb, HW.out⟩
      case round =>
        clear HW hb hlt0
        obtain ⟨k, n, hk, Hn, rfl, hb, hwb⟩ := hrel
        have HW := Lib.hid hwb
        have hlt0 : w.heap.size < wr.heap.size := heap_lt hwb
        have hn0 : 16 ≤ n := by have := Hn.out; omega
        have hn1 : n ≤ 64 := by have := Hn.out; omega
        by_cases hlt : n < 64
        · have hk1 : k < 48 := by have := Hn.out; omega
          have c15 := hwb.at (j := (n - 15).toNat) (k + 1) (by have := Hn.out; omega)
          have c2 := hwb.at (j := (n - 2).toNat) (k + 14) (by have := Hn.out; omega)
          have c16 := hwb.at (j := (n - 16).toNat) k (by have := Hn.out; omega)
          have c7 := hwb.at (j := (n - 7).toNat) (k + 9) (by have := Hn.out; omega)
          have c0 := hwb.at (j := n.toNat) (k + 16) (by have := Hn.out; omega)
          have hf := hwb.free n.toNat
          clear hwb
          have lt := words_lt s.data.toList k
          have l15 := lt (k + 1)
          have l2 := lt (k + 14)
          have l16 := lt k
          have l7 := lt (k + 9)
          clear lt
          generalize h15 : (Sha.sched (Sha.words16 s.data.toList 16) k).getD (k + 1) 0 = x15 at *
          generalize h2 : (Sha.sched (Sha.words16 s.data.toList 16) k).getD (k + 14) 0 = x2 at *
          generalize h16 : (Sha.sched (Sha.words16 s.data.toList 16) k).getD k 0 = x16 at *
          generalize h7 : (Sha.sched (Sha.words16 s.data.toList 16) k).getD (k + 9) 0 = x7 at *
          have H15 := Lib.hid h15
          have H2 := Lib.hid h2
          have H16 := Lib.hid h16
          have H7 := Lib.hid h7
          clear h15 h2 h16 h7
          have i15 : (x15 : Int) < 4294967296 := by omega
          have i2 : (x2 : Int) < 4294967296 := by omega
          have w15 : IntKind.i64.wrap (n - 15) = n - 15 := IntWalk.i64_in _ (by omega)
          have w2 : IntKind.i64.wrap (n - 2) = n - 2 := IntWalk.i64_in _ (by omega)
          have w16 : IntKind.i64.wrap (n - 16) = n - 16 := IntWalk.i64_in _ (by omega)
          have w7 : IntKind.i64.wrap (n - 7) = n - 7 := IntWalk.i64_in _ (by omega)
          have z15 : 0 ≤ n - 15 := by omega
          have z2 : 0 ≤ n - 2 := by omega
          have z16 : 0 ≤ n - 16 := by omega
          have z7 : 0 ≤ n - 7 := by omega
          have y15 : 15 ≤ n := by omega
          have y2 : 2 ≤ n := by omega
          have y7 : 7 ≤ n := by omega
          have y0 : 0 ≤ n := by omega
          have b15 : n - 15 < 64 := by omega
          have b2 : n - 2 < 64 := by omega
          have b16 : n - 16 < 64 := by omega
          have b7 : n - 7 < 64 := by omega
          have e0 := sg0_bits x15 l15
          have e1 := sg1_bits x2 l2
          have l0 := sg0_lt l15
          have l1 := sg1_lt l2
          generalize hg0 : Sha.sg0 x15 = g0 at e0 l0
          generalize hg1 : Sha.sg1 x2 = g1 at e1 l1
          have G0 := Lib.hid hg0
          have G1 := Lib.hid hg1
          clear hg0 hg1
          go_wp2_with fail
          go_quiet (fail)
          go_wp2_with (go_at_call 47; refine (turn_any _ _ _ (by omega) (by omega) (by omega) (by omega)).mono ?_; rintro e w' ⟨rfl, rfl⟩)
          refine wp_region_drew_tail 15 (by kernel_rfl) (by kernel_rfl) ?_
          simp only [List.take_succ_cons, List.take_zero, List.drop_succ_cons, List.drop_zero]
          repeat (go_big_quiet_step (fail))
          refine wpQuiet_nil ?_
          intro _ hw'
          obtain ⟨nq2, hw''⟩ := hw'
          subst hw''
          go_wp2
          go_roundw
          case rel =>
            have hn' := Hn.out
            refine ⟨k + 1, n + 1, by omega, (show n + 1 = 16 + ((k + 1 : Nat) : Int) by omega), rfl, below_drewN (hb.setCell (by simp) _) _, ?_⟩
            refine HW.out.next hk1 (by omega) ?_
            rw [H15.out, H2.out, H16.out, H7.out, G0.out, G1.out]
            unfold Sha.M32
            omega
          case measure => simp [intOf]; omega
        · obtain rfl : n = 64 := by omega
          have hk48 : k = 48 := by have := Hn.out; omega
          have HW2 := Lib.hid hwb
          clear hwb hlt hn0 hn1
          subst hk48
          have hrow : wr.heap[w.heap.size]? = some (.cells (u32s (Sha.words s.data.toList)).toArray 36 (0, 0)) := by
            rw [HW2.out, arr_full (by rw [sched_len, words16_len])]; rfl
          have hsz : (u32s (Sha.words s.data.toList)).toArray.size = 64 := by simp [u32s, Sha.words, sched_len, words16_len]
          have hone : (u32s (Sha.words s.data.toList)).toArray.all (·.oneCell') = true := by simp [u32s, Value.oneCell']
          clear HW2 HW
          generalize hC : (u32s (Sha.words s.data.toList)).toArray = C at hrow hsz hone
          have HC := Lib.hid hC
          clear hC
          have HR := Lib.hid hrow
          have HS := Lib.hid hsz
          have HO := Lib.hid hone
          clear hrow hsz hone
          have hinfo : (Tryd.prog.info? 36).map (·.size) = some C.size := by rw [HS.out]; kernel_rfl
          have HI := Lib.hid hinfo
          clear hinfo
          go_wp2_with (first | (refine wpList_load_row rfl 36 _ rfl w.heap.size rfl 36 C (0, 0) _ HR.out Tryd.underlying36 rfl HI.out ?_) | (refine wpList_store_row rfl 36 _ _ rfl w.heap.size C rfl rfl 36 C HR.out HI.out rfl HO.out ?_))
          rw [setRow_self _ _ _ _ _ HR.out]
          refine bodyPost_ret (v := .agg C) (results_cell_row (P := Tryd.prog) rfl _ _ w.heap.size 36 C (0, 0) _ rfl HR.out Tryd.underlying36 rfl HI.out) rfl ⟨?_, hb⟩
          rw [HC.out]
end Go.Proofs.YtdiccgpgmddbdaaDoor
