/- The walk of the references' times: a product by bytes. -/
import Derived.Test.YtdiccgpgmddbdaaDoorRefB
import Derived.Laws.MakeOwn
namespace Go.Proofs.YtdiccgpgmddbdaaDoor
open Go.RowKit

/-- The block g holds the digits c; below B all is as in w. -/
structure Digs (w : World) (g : Nat) (c : List Nat) (wr : World) : Prop where
  heap : wr.heap[g]? = some (.cells (i64s c).toArray 3 (0, 0))
  below : Below w.heap.size w wr
  own : w.heap.size ≤ g

theorem Digs.cell {w : World} {g : Nat} {c : List Nat} {wr : World} (h : Digs w g c wr) {j : Nat} (hj : j < c.length) : wr.cell? ⟨g, j, none⟩ = some (.int .i64 (c.getD j 0 : Nat)) :=
  heap_cell h.heap (by simpa using i64s_get c hj)
theorem Digs.free {w : World} {g : Nat} {c : List Nat} {wr : World} (h : Digs w g c wr) (j : Nat) : wr.frozen? ⟨g, j, none⟩ = false := heap_free h.heap
theorem i64s_set (c : List Nat) (j x : Nat) : (i64s c).toArray.setIfInBounds j (.int .i64 (x : Int)) = (i64s (c.set j x)).toArray := by
  simp [i64s, List.setIfInBounds_toArray, List.map_set]
theorem Digs.set {w : World} {g : Nat} {c : List Nat} {wr : World} (h : Digs w g c wr) (j x : Nat) : Digs w g (c.set j x) (wr.setCell ⟨g, j, none⟩ (.int .i64 (x : Int))) :=
  ⟨by rw [heap_set h.heap, i64s_set], h.below.setCell h.own _, h.own⟩
theorem Digs.drewN {w : World} {g : Nat} {c : List Nat} {wr : World} (h : Digs w g c wr) (n : Nat) : Digs w g c (wr.drewN n) := ⟨h.heap, below_drewN h.below n, h.own⟩

theorem times_lt {a b : List Nat} (ha : Num.Small a) (hb : Num.Small b) : Num.val a * Num.val b < 256 ^ (a.length + b.length) := by
  rw [Nat.pow_add]
  exact Nat.mul_lt_mul'' (Num.val_lt ha) (Num.val_lt hb)

set_option maxRecDepth 100000 in
set_option maxHeartbeats 4000000 in
theorem times_any (ga ca gb cb : Nat) (a b : List Nat) (w : World) (ha : Num.Small a) (hb : Num.Small b) (la : a.length ≤ 40) (lb : b.length ≤ 40) (hga : ga < w.heap.size) (hgb : gb < w.heap.size)
    (hca : ∀ j, j < a.length → w.cell? ⟨ga, j, none⟩ = some (.int .i64 (a.getD j 0 : Nat))) (hcb : ∀ j, j < b.length → w.cell? ⟨gb, j, none⟩ = some (.int .i64 (b.getD j 0 : Nat))) :
    Calls Tryd.prog 42 #[.slice (some ⟨ga, 0, none⟩) a.length ca, .slice (some ⟨gb, 0, none⟩) b.length cb] w fun e w' =>
      ∃ g, e = .returned (.slice (some ⟨g, 0, none⟩) (a.length + b.length + 1) (a.length + b.length + 1)) ∧ Digs w g (Num.digs (a.length + b.length + 1) (Num.val a * Num.val b)) w' := by
  obtain ⟨i0, hi, hz0, hz1, hz2⟩ := info_parts info_i64
  obtain ⟨L, hL⟩ : ∃ L, L = a.length + b.length + 1 := ⟨_, rfl⟩
  have hmk : ∀ W : World, (Instr.makeSlice 66 (.int .i64 ((a.length : Int) + b.length + 1)) (.int .i64 ((a.length : Int) + b.length + 1))).run Tryd.prog W = .ok (.slice (some ⟨W.heap.size, 0, none⟩) L L) (W.alloc (.cells (i64s (List.replicate L 0)).toArray 3)) := by
    intro W
    have hby : (i0.bytes : Int) * ((a.length : Int) + b.length + 1) ≤ 281474976710656 := by rw [hz2]; omega
    have h := run_make (P := Tryd.prog) W 66 3 i0 (.int .i64 0) Tryd.underlying66 hi hz0 .i64 .i64 ((a.length : Int) + b.length + 1) ((a.length : Int) + b.length + 1) (by omega) (by omega) hby (by omega)
    rw [h, hz1]
    have e1 : ((a.length : Int) + b.length + 1).toNat = L := by omega
    rw [e1]
    have e2 : madeCells (Value.cells (.int .i64 0)) (L * 1) = (i64s (List.replicate L 0)).toArray := by
      rw [Nat.mul_one]
      apply Array.ext
      · simp [madeCells]
      · intro i h1 h2
        simp [madeCells, i64s, Value.cells]
        rw [Nat.mod_one]; rfl
    rw [e2]
  have hLb : L ≤ 81 := by omega
  have HL := Lib.hid hL
  have HA := Lib.hid ha
  have HB := Lib.hid hb
  have HCA : Hid (∀ j, j < a.length → w.cell? ⟨ga, j, none⟩ = some (.int .i64 (a.getD j 0 : Nat))) := Lib.hid hca
  have HCB : Hid (∀ j, j < b.length → w.cell? ⟨gb, j, none⟩ = some (.int .i64 (b.getD j 0 : Nat))) := Lib.hid hcb
  clear hL ha hb hca hcb hi hz0 hz1 hz2
  generalize hna : a.length = na at *
  generalize hnb : b.length = nb at *
  have HNA := Lib.hid hna
  have HNB := Lib.hid hnb
  clear hna hnb
  go_enter Tryd.func42, Tryd.ntmps42
  go_wp2
  go_loopw [6] (fun vi wr => ∃ (i : Nat) (c : List Nat), i ≤ na ∧ vi = .int .i64 i ∧ Digs w w.heap.size c wr ∧ c.length = L ∧ Num.Small c ∧ Num.val c = Num.val (a.take i) * Num.val b) (fun vi _ => na - (intOf vi).toNat)
  case atStart =>
    refine ⟨0, List.replicate L 0, by omega, rfl, ⟨heap_alloc_last w _, (Below.refl _ _).alloc (Nat.le_refl _) _, Nat.le_refl _⟩, by simp, fun d hd => by rw [List.eq_of_mem_replicate hd]; omega, ?_⟩
    have e : ∀ n, Num.val (List.replicate n 0) = 0 := fun n => by
      induction n with
      | zero => rfl
      | succ n ih => simp [List.replicate_succ, Num.val, ih]
    rw [e]; simp [Num.val]
  case round =>
    clear hmk
    obtain ⟨i, c, hia, rfl, hD, hlen, hsm, hval⟩ := hrel
    have HD := Lib.hid hD
    have HLN := Lib.hid hlen
    have HSM := Lib.hid hsm
    have HV := Lib.hid hval
    clear hD hlen hsm hval
    by_cases hlt : i < na
    · go_wp2_with fail
      go_loopw [7] (fun vk wr => ∃ (k : Nat) (c : List Nat), k ≤ nb ∧ vk = .int .i64 k ∧ Digs w w.heap.size c wr ∧ c.length = L ∧ Num.Small c ∧ Num.val c = Num.val (a.take i) * Num.val b + a.getD i 0 * 256 ^ i * Num.val (b.take k)) (fun vk _ => nb - (intOf vk).toNat)
      case atStart => exact ⟨0, c, by omega, rfl, HD.out, HLN.out, HSM.out, by rw [HV.out]; simp [Num.val]⟩
      case round =>
        clear HD HLN HSM HV c
        obtain ⟨k, c, hkb, rfl, hD, hlen, hsm, hval⟩ := hrel
        have HD := Lib.hid hD
        have HLN := Lib.hid hlen
        have HSM := Lib.hid hsm
        have HV := Lib.hid hval
        clear hD hlen hsm hval
        by_cases hlk : k < nb
        · have hijL : i + k < L := by have := HL.out; omega
          have c1 := HD.out.cell (j := i + k) (by rw [HLN.out]; exact hijL)
          have f1 := HD.out.free (i + k)
          have c2 : wr.cell? ⟨ga, i, none⟩ = some (.int .i64 (a.getD i 0 : Nat)) := by rw [HD.out.below.cell (p := ⟨ga, i, none⟩) hga]; exact HCA.out i hlt
          have c3 : wr.cell? ⟨gb, k, none⟩ = some (.int .i64 (b.getD k 0 : Nat)) := by rw [HD.out.below.cell (p := ⟨gb, k, none⟩) hgb]; exact HCB.out k hlk
          obtain ⟨x, hx⟩ : ∃ x, x = c.getD (i + k) 0 := ⟨_, rfl⟩
          obtain ⟨y, hy⟩ : ∃ y, y = a.getD i 0 := ⟨_, rfl⟩
          obtain ⟨z, hz⟩ : ∃ z, z = b.getD k 0 := ⟨_, rfl⟩
          rw [← hx] at c1
          rw [← hy] at c2
          rw [← hz] at c3
          have hx1 : x ≤ 255 := by have := Num.small_getD HSM.out (i + k); omega
          have hy1 : y ≤ 255 := by have := Num.small_getD HA.out i; omega
          have hz1 : z ≤ 255 := by have := Num.small_getD HB.out k; omega
          obtain ⟨q, hq⟩ : ∃ q, q = y * z := ⟨_, rfl⟩
          have hq1 : q ≤ 65025 := by rw [hq]; exact Nat.mul_le_mul hy1 hz1
          have hm : IntKind.i64.wrap ((y : Int) * (z : Int)) = (q : Int) := by
            have e : (y : Int) * (z : Int) = (q : Int) := by rw [hq]; push_cast; rfl
            rw [e, IntKind.wrap_i64]; omega
          have HX := Lib.hid hx
          have HY := Lib.hid hy
          have HZ := Lib.hid hz
          have HQ := Lib.hid hq
          clear hx hy hz hq
          go_wp2_with fail
          refine wp_region_drew_tail 21 (by kernel_rfl) (by kernel_rfl) ?_
          simp only [List.take_succ_cons, List.take_zero, List.drop_succ_cons, List.drop_zero]
          repeat (go_big_quiet_step (fail))
          refine wpQuiet_nil ?_
          intro _ hw'
          obtain ⟨nq, hw''⟩ := hw'
          subst hw''
          go_wp2_with fail
          have hlen2 : i + k < c.length := by rw [HLN.out]; exact hijL
          have hD2 := (HD.out.drewN nq).set (i + k) (x + q)
          rw [show ((x + q : Nat) : Int) = (x : Int) + (q : Int) from rfl] at hD2
          have hv2 := Num.times_step (q := q) hlen2 HX.out (by rw [← HY.out, ← HZ.out]; exact HQ.out) HV.out
          have hs2 : ∀ m, m ≠ i + k → (c.set (i + k) (x + q)).getD m 0 < 256 := fun m hm => by rw [Num.getD_set_other (Ne.symm hm)]; exact Num.small_getD HSM.out m
          have hx2 : (c.set (i + k) (x + q)).getD (i + k) 0 ≤ 70000 := by rw [Num.getD_set_self hlen2]; omega
          have hl2 : (c.set (i + k) (x + q)).length = L := by rw [List.length_set]; exact HLN.out
          have HD2 := Lib.hid hD2
          have HV2 := Lib.hid hv2
          have HS2 : Hid (∀ m, m ≠ i + k → (c.set (i + k) (x + q)).getD m 0 < 256) := Lib.hid hs2
          have HX2 := Lib.hid hx2
          have HL2 := Lib.hid hl2
          clear hD2 hv2 hs2 hx2 hl2 c1 c2 c3 f1 hm
          go_loopw [8] (fun vj wr => ∃ (j : Nat) (c : List Nat), vj = .int .i64 j ∧ j < L ∧ Digs w w.heap.size c wr ∧ c.length = L ∧ (∀ m, m ≠ j → c.getD m 0 < 256) ∧ c.getD j 0 ≤ 70000 ∧ Num.val c = Num.val (a.take i) * Num.val b + a.getD i 0 * 256 ^ i * Num.val (b.take (k + 1))) (fun vj _ => L - (intOf vj).toNat)
          case atStart => exact ⟨i + k, _, rfl, hijL, HD2.out, HL2.out, HS2.out, HX2.out, HV2.out⟩
          case round =>
            clear HD2 HL2 HS2 HX2 HV2 HD HLN HSM HV HX HQ hlen2 hijL
            obtain ⟨j, c, rfl, hjL, hD, hlen, hsm, hxj, hval⟩ := hrel
            have HD := Lib.hid hD
            have HLN := Lib.hid hlen
            have HSM : Hid (∀ m, m ≠ j → c.getD m 0 < 256) := Lib.hid hsm
            have HV := Lib.hid hval
            have c1 := hD.cell (j := j) (by rw [hlen]; exact hjL)
            have f1 := hD.free j
            obtain ⟨x, hx⟩ : ∃ x, x = c.getD j 0 := ⟨_, rfl⟩
            rw [← hx] at c1 hxj
            have HX := Lib.hid hx
            clear hD hlen hsm hval hx
            by_cases hbig : 255 < x
            · have hroom : j + 1 < L := by
                have h1 := Num.times_room (c := c) (j := j) (n := na + nb) (by rw [HV.out]; exact Nat.lt_of_le_of_lt (Num.times_le a b i (k + 1)) (by have := times_lt HA.out HB.out; rw [HNA.out, HNB.out] at this; exact this)) (by rw [← HX.out]; exact hbig)
                have := HL.out; omega
              have c2 := HD.out.cell (j := j + 1) (by rw [HLN.out]; exact hroom)
              have f2 := HD.out.free (j + 1)
              obtain ⟨t, htt⟩ : ∃ t, t = c.getD (j + 1) 0 := ⟨_, rfl⟩
              have ht1 : t ≤ 255 := by have := HSM.out (j + 1) (by omega); omega
              rw [← htt] at c2
              have HT := Lib.hid htt
              clear htt
              have hbig' : (255 : Int) < (x : Int) := by omega
              go_wp2_with fail
              refine wp_region_drew_tail 15 (by kernel_rfl) (by kernel_rfl) ?_
              simp only [List.take_succ_cons, List.take_zero, List.drop_succ_cons, List.drop_zero]
              repeat (go_big_quiet_step (fail))
              refine wpQuiet_nil ?_
              intro _ hw'
              obtain ⟨nq2, hw''⟩ := hw'
              subst hw''
              go_wp2
              have hjc : j + 1 < c.length := by rw [HLN.out]; exact hroom
              have hD3 := ((HD.out.drewN nq2).set (j + 1) (t + x / 256)).set j (x % 256)
              go_roundw
              case rel =>
                refine ⟨j + 1, _, by go_num, hroom, hD3, by simp [HLN.out], fun m hm => ?_, ?_, by rw [Num.times_carry hjc HX.out HT.out]; exact HV.out⟩
                · by_cases hmj : m = j
                  · subst hmj
                    rw [Num.getD_set_self (by simp; omega)]; omega
                  · rw [Num.getD_set_other (Ne.symm hmj), Num.getD_set_other (Ne.symm hm)]
                    exact HSM.out m hmj
                · rw [Num.getD_set_other (by omega), Num.getD_set_self hjc]; omega
              case measure => simp [intOf]; omega
            · have hsm : Num.Small c := Num.small_of_getD (fun m _ => by
                by_cases hm : m = j
                · rw [hm, ← HX.out]; omega
                · exact HSM.out m hm)
              have HS3 := Lib.hid hsm
              clear hsm
              have hbig' : ¬ (255 : Int) < (x : Int) := by omega
              go_wp2
              go_roundw
              case rel => exact ⟨k + 1, c, by omega, by go_num, HD.out, HLN.out, HS3.out, HV.out⟩
              case measure => simp [intOf]; omega
        · obtain rfl : k = nb := by omega
          clear hlk
          go_wp2
          go_roundw
          case rel => exact ⟨i + 1, c, by omega, by go_num, HD.out, HLN.out, HSM.out, by rw [HV.out, Num.times_all (by rw [HNB.out]; exact Nat.le_refl _)]⟩
          case measure => simp [intOf]; omega
    · obtain rfl : i = na := by omega
      clear hlt
      go_wp2
      go_ret
      refine ⟨w.heap.size, by rw [← HL.out]; rfl, ?_⟩
      have hv := HV.out
      rw [Num.val_take_all (by rw [HNA.out]; exact Nat.le_refl _)] at hv
      rw [← HL.out, ← hv, ← HLN.out, Num.digs_val HSM.out]
      exact HD.out
#print axioms times_any
end Go.Proofs.YtdiccgpgmddbdaaDoor
