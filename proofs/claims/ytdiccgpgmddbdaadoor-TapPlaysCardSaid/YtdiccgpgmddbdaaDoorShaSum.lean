/- The walks of (*sha.Hash).Write, whatever is open, of (*sha.Hash).Sum and of sha.Sum: the digest of all that came. -/
import Derived.Test.YtdiccgpgmddbdaaDoorShaPart
namespace Go.Proofs.YtdiccgpgmddbdaaDoor
open Go.RowKit

theorem write_any (b : Nat) (m : List UInt8) (s : ByteArray) (w : World) (ht : Tabs w) (hb2 : 2 ≤ b) (h : HashAt w b m) (hlen : m.length + s.size < 4611686018427387904) :
    Calls Tryd.prog 18 #[.pointer (some ⟨b, 0, none⟩), .string s] w fun e w' => e = .returned (.tuple #[]) ∧ HashAt w' b (m ++ s.data.toList) ∧ Only (· = b) w w' := by
  obtain ⟨c, r, rfl, hc, hr, hh⟩ := h
  rcases Nat.eq_zero_or_pos r.length with h0 | h0
  · obtain rfl := List.eq_nil_of_length_eq_zero h0
    rw [List.append_nil] at hh hlen ⊢
    exact write_empty b c s w ht hb2 hc hh hlen
  · rcases Nat.lt_or_ge (r.length + s.size) 64 with h1 | h1
    · exact write_part b c r s w hc h0 h1 hh hlen
    · exact write_full b c r s w ht hb2 hc h0 hr h1 hh hlen
#print axioms write_any

/-- The bytes behind the text, so many zeros. -/
def padS (k : Nat) : ByteArray := ⟨(128 :: List.replicate k 0).toArray⟩
theorem padS_size (k : Nat) : (padS k).size = k + 1 := by simp [padS, ByteArray.size]
theorem padS_next (k : Nat) : padS k ++ ⟨#[0]⟩ = padS (k + 1) := by
  apply ByteArray.ext; simp [padS, List.replicate_succ']
def outk (l : List Nat) : Nat → List UInt8
  | 0 => []
  | k + 1 => outk l k ++ Sha.put32 (l.getD k 0)
theorem index8 (s : Sha.S8) (k : Nat) (hk : k < 8) (w : World) : (Instr.index 35 (.agg (S8v s)) (.int .i64 (k : Int))).run Tryd.prog w = .ok (.int .u32 (s.l.getD k 0 : Nat)) w := by
  match k, hk with
  | 0, _ => exact (show (Instr.index 35 (.agg (S8v s)) (.int .i64 0)).run Tryd.prog w = .ok (.int .u32 (s.a : Nat)) w by kernel_rfl)
  | 1, _ => exact (show (Instr.index 35 (.agg (S8v s)) (.int .i64 1)).run Tryd.prog w = .ok (.int .u32 (s.b : Nat)) w by kernel_rfl)
  | 2, _ => exact (show (Instr.index 35 (.agg (S8v s)) (.int .i64 2)).run Tryd.prog w = .ok (.int .u32 (s.c : Nat)) w by kernel_rfl)
  | 3, _ => exact (show (Instr.index 35 (.agg (S8v s)) (.int .i64 3)).run Tryd.prog w = .ok (.int .u32 (s.d : Nat)) w by kernel_rfl)
  | 4, _ => exact (show (Instr.index 35 (.agg (S8v s)) (.int .i64 4)).run Tryd.prog w = .ok (.int .u32 (s.e : Nat)) w by kernel_rfl)
  | 5, _ => exact (show (Instr.index 35 (.agg (S8v s)) (.int .i64 5)).run Tryd.prog w = .ok (.int .u32 (s.f : Nat)) w by kernel_rfl)
  | 6, _ => exact (show (Instr.index 35 (.agg (S8v s)) (.int .i64 6)).run Tryd.prog w = .ok (.int .u32 (s.g : Nat)) w by kernel_rfl)
  | 7, _ => exact (show (Instr.index 35 (.agg (S8v s)) (.int .i64 7)).run Tryd.prog w = .ok (.int .u32 (s.h : Nat)) w by kernel_rfl)

set_option maxRecDepth 100000 in
set_option maxHeartbeats 1000000 in
theorem sum_any (b : Nat) (m : List UInt8) (w : World) (ht : Tabs w) (hb2 : 2 ≤ b) (h : HashAt w b m) (hlen : m.length < 1152921504606846976) :
    Calls Tryd.prog 19 #[.pointer (some ⟨b, 0, none⟩)] w fun e w' => e = .returned (.string ⟨(Sha.sum m).toArray⟩) ∧ Below w.heap.size w w' := by
  have hblt := h.lt
  have HA := Lib.hid h
  obtain ⟨c, r, hm, hc, hr, hh⟩ := h
  have hml : m.length = c.length + r.length := by rw [hm]; simp
  have hrm : r.length = m.length % 64 := by omega
  have HRM := Lib.hid hrm
  have HH := Lib.hid hh
  have HLEN := Lib.hid hlen
  clear hm hml hrm hh hc hlen
  generalize hst : Sha.stc c = st at *
  clear hst
  generalize ho : (⟨r.toArray⟩ : ByteArray) = o at *
  have hos : o.size = r.length := by rw [← ho]; rfl
  have p1 : (o.size : Int) < 64 := by omega
  have HOS := Lib.hid hos
  clear ho hos
  go_enter Tryd.func19, Tryd.ntmps19
  go_wp2_with (go_at_call 21; refine (copy_any b m _ HA.out).mono ?_; rintro e w1 ⟨rfl, hc1, hb1, hz1⟩)
  have hrow : w1.heap[b]? = some (.cells (hashC st o (m.length : Int)) 62 (0, 0)) := by rw [hb1.block _ hblt]; exact HH.out
  have c8 : w1.cell? ⟨b, 8, none⟩ = some (.string o) := heap_cell (j := 8) hrow rfl
  have c9 : w1.cell? ⟨b, 9, none⟩ = some (.int .u64 (m.length : Int)) := heap_cell (j := 9) hrow rfl
  clear hrow
  go_loop [4] (fun v => ∃ k : Nat, k ≤ Sha.zeros m.length ∧ v = .string (padS k)) (fun v => Sha.zeros m.length + 1 - strLen v)
  case atStart => exact ⟨0, Nat.zero_le _, rfl⟩
  case round =>
    obtain ⟨k, hk, rfl⟩ := hrel
    have hps := padS_size k
    have hz : Sha.zeros m.length < 64 := Nat.mod_lt _ (by decide)
    have q1 : ((padS k).size : Int) ≤ 64 := by omega
    have q2 : (1 : Int) ≤ (padS k).size := by omega
    have HPS := Lib.hid hps
    have hnext := padS_next k
    have HN := Lib.hid hnext
    clear hps hnext
    by_cases hlt : k < Sha.zeros m.length
    · have ht1 : ((((o.size : Int) + (padS k).size) % 64) != 56) = true := by
        rw [bne_iff_ne, HPS.out, HOS.out, HRM.out]
        unfold Sha.zeros at hlt
        omega
      generalize padS k = pk at *
      go_wp2
      refine ⟨⟨k + 1, by omega, by rw [HN.out]⟩, ?_⟩
      have h1 := HPS.out
      show Sha.zeros m.length + 1 - (pk ++ ⟨#[0]⟩ : ByteArray).size < Sha.zeros m.length + 1 - pk.size
      have h2 : (pk ++ (⟨#[0]⟩ : ByteArray)).size = pk.size + 1 := by simp; rfl
      omega
    · have hkz : k = Sha.zeros m.length := by omega
      have ht1 : ((((o.size : Int) + (padS k).size) % 64) != 56) = false := by
        rw [HPS.out, HOS.out, HRM.out, hkz]
        unfold Sha.zeros
        simp
        omega
      have HKZ := Lib.hid hkz
      clear hkz
      have hp64 : ∀ x, (Sha.put64 x).length = 8 := fun _ => rfl
      have q3 : (padS k).size ≤ 64 := by omega
      have w8 : IntKind.u64.wrap ((m.length : Int) * 8) = (m.length : Int) * 8 := wraps_u64 _ (by omega) (by have := HLEN.out; omega)
      have w9 : ((m.length : Int) * 8) % 18446744073709551616 = (m.length : Int) * 8 := by have := HLEN.out; omega
      generalize hpk : padS k = pk at *
      have HPK : Hid (pk = padS k) := hpk.symm
      clear hpk
      go_wp2_with (go_at_call 39; refine (put64_any _ _ (by omega) (by have := HLEN.out; omega)).mono ?_; rintro e w2 ⟨rfl, hb2'⟩)
      generalize hS : pk ++ (⟨(Sha.put64 _).toArray⟩ : ByteArray) = S
      have e8 : ((m.length : Int) * 8).toNat = m.length * 8 := by omega
      try rw [e8] at hS
      have hpad : m ++ S.data.toList = Sha.pad m := by
        rw [← hS, HPK.out, HKZ.out, Nat.mul_comm]
        unfold Sha.pad padS
        simp
      have hpz : S.size < 100 := by
        have h1 := HPS.out
        have h2 : (pk ++ ⟨(Sha.put64 (m.length * 8)).toArray⟩ : ByteArray).size = pk.size + (Sha.put64 (m.length * 8)).length := by rw [ByteArray.size_append]; rfl
        rw [hS, Sha.put64_len] at h2
        omega
      clear hS e8
      have hsz2 : w.heap.size < w2.heap.size := by have := hb2'.size; omega
      have hbw : Below w.heap.size w w2 := hb1.trans (hb2'.mono (by omega))
      refine (write_any w.heap.size m S w2 (ht.keep hbw (by omega)) (by omega) (hc1.keep (hb2'.block _ hz1)) (by have := HLEN.out; omega)).mono ?_
      rintro e w3 ⟨rfl, h3, ho3⟩
      rw [hpad] at h3
      obtain ⟨c', r', hp, hc', hr', hh'⟩ := h3
      have hr0 : r' = [] := by
        have h1 := Sha.pad_len m
        rw [hp] at h1
        simp at h1
        exact List.eq_nil_of_length_eq_zero (by omega)
      subst hr0
      rw [List.append_nil] at hp
      subst hp
      have hb3 : Below w.heap.size w w3 := hbw.trans (ho3.below (by omega) (fun k hk e => by omega))
      generalize hsp : Sha.stc (Sha.pad m) = sp at hh'
      have d0 := heap_cell (j := 0) hh' rfl
      have d1 := heap_cell (j := 1) hh' rfl
      have d2 := heap_cell (j := 2) hh' rfl
      have d3 := heap_cell (j := 3) hh' rfl
      have d4 := heap_cell (j := 4) hh' rfl
      have d5 := heap_cell (j := 5) hh' rfl
      have d6 := heap_cell (j := 6) hh' rfl
      have d7 := heap_cell (j := 7) hh' rfl
      have hok : S8ok sp := by rw [← hsp]; exact stc_ok _
      have HSP := Lib.hid hsp
      clear hsp hh' hpad hpz c8 c9 ho3 hbw hsz2 hc' w8 w9
      go_wp2_with fail
      clear d0 d1 d2 d3 d4 d5 d6 d7 ht1 hp64 q1 q2 q3
      go_loopw [5, 36] (fun v i wr => ∃ j : Nat, j ≤ 8 ∧ i = .int .i64 j ∧ v = .string ⟨(outk sp.l j).toArray⟩ ∧ Below w.heap.size w wr) (fun _ i _ => 8 - (intOf i).toNat)
      case atStart => exact ⟨0, by omega, rfl, rfl, hb3⟩
      case round =>
        clear hb3
        obtain ⟨j, hj, rfl, rfl, hbr⟩ := hrel
        have hol : (outk sp.l j).length = 4 * j := by
          clear hj
          induction j with
          | zero => rfl
          | succ j ih => simp [outk, ih, Sha.put32_len]; omega
        have hos2 : (outk sp.l j).length ≤ 32 := by omega
        by_cases hlt : j < 8
        · have hidx := index8 sp j hlt
          have hxl := S8l_lt hok j
          have hnx : outk sp.l (j + 1) = outk sp.l j ++ Sha.put32 (sp.l.getD j 0) := rfl
          have HNX := Lib.hid hnx
          clear hnx hol
          generalize sp.l.getD j 0 = x at *
          generalize outk sp.l j = ol at *
          have hp32 : ∀ x, (Sha.put32 x).length = 4 := fun _ => rfl
          go_wp2_with (go_at_call 40; refine (put32_any _ _ (by omega) (by omega)).mono ?_; rintro e w4 ⟨rfl, hb4⟩)
          refine ⟨⟨j + 1, by omega, by go_num, ?_, hbr.trans (hb4.mono hbr.size)⟩, by simp [intOf]; omega⟩
          rw [HNX.out, ← str_join]
        · obtain rfl : j = 8 := by omega
          clear hlt hj hol hos2
          go_wp2
          go_ret
          refine ⟨?_, hbr⟩
          have hfin : outk sp.l 8 = Sha.sum m := by rw [Sha.sum_eq, HSP.out]; simp [outk, Sha.out8, Sha.S8.l]
          exact congrArg (fun l : List UInt8 => Ending.returned (Value.string ⟨l.toArray⟩)) hfin
end Go.Proofs.YtdiccgpgmddbdaaDoor
