/- The walks of the references' Pad and Sum: a text's digest, by definition. -/
import Derived.Test.YtdiccgpgmddbdaaDoorRefMix
namespace Go.Proofs.YtdiccgpgmddbdaaDoor
open Go.RowKit

set_option maxHeartbeats 400000 in
theorem pad02_any (s : ByteArray) (w : World) (hs : s.size ≤ 1048576) :
    Calls Tryd.prog 35 #[.string s] w fun e w' => e = .returned (.string ⟨(Sha.pad s.data.toList).toArray⟩) ∧ Below w.heap.size w w' := by
  obtain ⟨n, hn⟩ : ∃ n, n = s.size := ⟨_, rfl⟩
  have hsl : s.data.toList.length = n := by rw [hn]; simp
  have HN := Lib.hid hn
  have HSL := Lib.hid hsl
  have hs1 : (s.size : Int) ≤ 1048576 := by omega
  have hn1 : n ≤ 1048576 := by omega
  have HN1 := Lib.hid hn1
  clear hn hsl hs hn1
  go_enter Tryd.func35, Tryd.ntmps35
  go_wp2
  go_loop [3] (fun v => ∃ k : Nat, k ≤ Sha.zeros n ∧ v = .string (s ++ padS k)) (fun v => n + Sha.zeros n + 1 - strLen v)
  case atStart => exact ⟨0, Nat.zero_le _, rfl⟩
  case round =>
    obtain ⟨k, hk, rfl⟩ := hrel
    have hps : (s ++ padS k).size = n + k + 1 := by rw [ByteArray.size_append, padS_size, HN.out]; omega
    have hz : Sha.zeros n < 64 := Nat.mod_lt _ (by decide)
    have hnext : (s ++ padS k) ++ ⟨#[0]⟩ = s ++ padS (k + 1) := by rw [ByteArray.append_assoc, padS_next]
    have HPS := Lib.hid hps
    have HX := Lib.hid hnext
    obtain ⟨pk, hpk⟩ : ∃ pk, pk = s ++ padS k := ⟨_, rfl⟩
    rw [← hpk] at HPS HX
    rw [← hpk]
    have HPK := Lib.hid hpk
    have q1 : (pk.size : Int) ≤ 1048700 := by have := HPS.out; have := HN1.out; omega
    clear hps hnext hpk
    by_cases hlt : k < Sha.zeros n
    · have ht1 : (((pk.size : Int) % 64) != 56) = true := by
        rw [bne_iff_ne, HPS.out]
        unfold Sha.zeros at hlt
        omega
      go_wp2
      refine ⟨⟨k + 1, by omega, by rw [HX.out]⟩, ?_⟩
      have h1 := HPS.out
      show n + Sha.zeros n + 1 - (pk ++ ⟨#[0]⟩ : ByteArray).size < n + Sha.zeros n + 1 - pk.size
      have h2 : (pk ++ (⟨#[0]⟩ : ByteArray)).size = pk.size + 1 := by simp; rfl
      omega
    · have hkz : k = Sha.zeros n := by omega
      have ht1 : (((pk.size : Int) % 64) != 56) = false := by
        rw [HPS.out, hkz]
        unfold Sha.zeros
        simp
        omega
      have HKZ := Lib.hid hkz
      clear hkz
      have hput : ∀ W : World, Calls Tryd.prog 37 #[.int .u64 (8 * (s.size : Int)), .int .i64 8] W fun e w' => e = .returned (.string ⟨(Sha.put64 (8 * n)).toArray⟩) ∧ Below W.heap.size W w' := fun W => by
        have h := put_any (8 * n) 8 W (by have := HN1.out; omega) (by omega)
        rw [Num.put8 _ (by have := HN1.out; omega)] at h
        rw [← HN.out]
        exact h
      have hpad : pk ++ (⟨(Sha.put64 (8 * n)).toArray⟩ : ByteArray) = ⟨(Sha.pad s.data.toList).toArray⟩ := by
        apply ByteArray.ext
        rw [HPK.out, HKZ.out]
        unfold Sha.pad padS
        rw [HSL.out]
        simp
      have HPAD := Lib.hid hpad
      clear hpad
      have hqs : (⟨(Sha.put64 (8 * n)).toArray⟩ : ByteArray).size ≤ 8 := Nat.le_refl 8
      generalize (⟨(Sha.put64 (8 * n)).toArray⟩ : ByteArray) = q at *
      go_wp2_with fail
      refine (hput _).mono ?_
      rintro e w1 ⟨rfl, hb1⟩
      clear hput
      go_wp2
      go_ret
      exact ⟨ret_str HPAD.out, hb1⟩

theorem blocks_ok (p : List UInt8) (k : Nat) : S8ok (Sha.blocks Sha.first p k) := by
  cases k with
  | zero => exact (⟨by decide, by decide, by decide, by decide, by decide, by decide, by decide, by decide⟩ : S8ok Sha.first)
  | succ k => exact ⟨Nat.mod_lt _ (by decide), Nat.mod_lt _ (by decide), Nat.mod_lt _ (by decide), Nat.mod_lt _ (by decide), Nat.mod_lt _ (by decide), Nat.mod_lt _ (by decide), Nat.mod_lt _ (by decide), Nat.mod_lt _ (by decide)⟩

set_option maxRecDepth 100000 in
set_option maxHeartbeats 1000000 in
theorem sum02_any (s : ByteArray) (w : World) (hs : s.size ≤ 1048576) :
    Calls Tryd.prog 15 #[.string s] w fun e w' => e = .returned (.string ⟨(Sha.sum s.data.toList).toArray⟩) ∧ Below w.heap.size w w' := by
  obtain ⟨p, hp⟩ : ∃ p, p = Sha.pad s.data.toList := ⟨_, rfl⟩
  obtain ⟨P, hP⟩ : ∃ P : ByteArray, P = ⟨p.toArray⟩ := ⟨_, rfl⟩
  have hpl : p.length % 64 = 0 := by rw [hp]; exact Sha.pad_len _
  have hpb : p.length ≤ 1048700 := by
    rw [hp]
    unfold Sha.pad
    have hz : Sha.zeros s.data.toList.length < 64 := Nat.mod_lt _ (by decide)
    have hl : s.data.toList.length = s.size := by simp
    simp only [List.length_append, List.length_replicate, Sha.put64_len, List.length_cons, List.length_nil]
    omega
  obtain ⟨m, hm⟩ : ∃ m, m = p.length / 64 := ⟨_, rfl⟩
  have hPs : P.size = 64 * m := by rw [hP]; show p.toArray.size = _; simp; omega
  have hPd : P.data.toList = p := by rw [hP]
  have hmb : m ≤ 20000 := by omega
  have hpad : ∀ W : World, Calls Tryd.prog 35 #[.string s] W fun e w' => e = .returned (.string P) ∧ Below W.heap.size W w' := fun W => by
    rw [hP, hp]; exact pad02_any s W hs
  have HP := Lib.hid hp
  have HM := Lib.hid hm
  have HPS := Lib.hid hPs
  have HPD := Lib.hid hPd
  clear hp hP hpl hpb hm hPs hPd hs
  go_enter Tryd.func15, Tryd.ntmps15
  go_wp2_with fail
  refine (const02_any w).mono ?_
  rintro e w1 ⟨ga, ca, gb, cb, rfl, hA, hB, hb1⟩
  have HA := Lib.hid hA
  have HB := Lib.hid hB
  clear hA hB
  go_wp2_with fail
  refine (hpad _).mono ?_
  rintro e w2 ⟨rfl, hb2⟩
  have HA2 : Hid (Words w2 ga (Sha.blocks Sha.first p 0).l) := HA.out.keep hb2
  have HB2 := Lib.hid (HB.out.keep hb2)
  have hb2' := hb1.trans (hb2.mono hb1.size)
  clear hpad HA HB
  go_wp2_with fail
  go_loopw [3, 6] (fun v vi wr => ∃ k g c : Nat, k ≤ m ∧ vi = .int .i64 (64 * (k : Int)) ∧ v = .slice (some ⟨g, 0, none⟩) 8 c ∧ Words wr g (Sha.blocks Sha.first p k).l ∧ Words wr gb Sha.rounds ∧ Below w.heap.size w wr) (fun _ vi _ => 64 * m - (intOf vi).toNat)
  case atStart => exact ⟨0, ga, ca, by omega, rfl, rfl, HA2.out, HB2.out, hb2'⟩
  case round =>
    clear HA2 HB2 hb2' hb2 hb1
    obtain ⟨k, g, c, hk, rfl, rfl, hA, hB, hb⟩ := hrel
    have HA := Lib.hid hA
    have HB := Lib.hid hB
    have hbs := hb.size
    clear hA hB
    by_cases hlt : k < m
    · have hmix : ∀ W : World, W = wr → Calls Tryd.prog 36 #[.slice (some ⟨g, 0, none⟩) 8 c, .string (P.extract (64 * k) (64 * k + 64)), .slice (some ⟨gb, 0, none⟩) 64 cb] W fun e w' => ∃ g c, e = .returned (.slice (some ⟨g, 0, none⟩) 8 c) ∧ Words w' g (Sha.blocks Sha.first p (k + 1)).l ∧ Below W.heap.size W w' := by
        rintro W rfl
        have hex : (P.extract (64 * k) (64 * k + 64)).data.toList = (p.drop (64 * k)).take 64 := by
          rw [← HPD.out]
          simp [List.extract_eq_take_drop]
        have h := mix02_any g c gb cb (Sha.blocks Sha.first p k) (P.extract (64 * k) (64 * k + 64)) W ?_ ?_ HA.out HB.out
        · rw [hex] at h
          exact h
        · exact blocks_ok p k
        · have := HPS.out; simp; omega
      have hcmp : ((64 * (k : Int) + 64) ≤ (P.size : Int)) := by have := HPS.out; omega
      have hcmp2 : (64 * (k : Int) + 64) < 9223372036854775807 := by omega
      have t1 : (64 * (k : Int)).toNat = 64 * k := by omega
      have t2 : (64 * (k : Int) + 64).toNat = 64 * k + 64 := by omega
      have t3 : (0 : Int) ≤ 64 * (k : Int) := by omega
      have t4 : (0 : Int) ≤ 64 * (k : Int) + 64 := by omega
      have t5 : 64 * (k : Int) ≤ 64 * (k : Int) + 64 := by omega
      have t6 : IntKind.i64.wrap (64 * (k : Int) + 64) = 64 * (k : Int) + 64 := by rw [IntKind.wrap_i64]; omega
      have HT := Lib.hid hcmp2
      clear hcmp2
      go_wp2_with fail
      refine (hmix _ rfl).mono ?_
      rintro e w3 ⟨g3, c3, rfl, hA3, hb3⟩
      have HA3 := Lib.hid hA3
      have HB3 := Lib.hid (HB.out.keep hb3)
      have hb3' := hb.trans (hb3.mono hbs)
      clear hA3 hmix
      go_wp2
      go_roundw
      case rel => exact ⟨k + 1, g3, c3, by omega, by go_num, rfl, HA3.out, HB3.out, hb3'⟩
      case measure => simp [intOf]; omega
    · obtain rfl : k = m := by omega
      have hcmp : ¬ ((64 * (k : Int) + 64) ≤ (P.size : Int)) := by have := HPS.out; omega
      have t6 : IntKind.i64.wrap (64 * (k : Int) + 64) = 64 * (k : Int) + 64 := by rw [IntKind.wrap_i64]; omega
      obtain ⟨sl, hsl⟩ : ∃ sl, sl = (Sha.blocks Sha.first p k).l := ⟨_, rfl⟩
      have hsll : sl.length = 8 := by rw [hsl]; rfl
      have hok := blocks_ok p k
      have hslt : ∀ j, sl.getD j 0 < 4294967296 := fun j => by rw [hsl]; exact S8l_lt hok j
      have hfin : outk sl 8 = Sha.sum s.data.toList := by rw [Sha.sum, hsl, ← HP.out, ← HM.out]; simp [outk, Sha.out8, Sha.S8.l]
      rw [← hsl] at HA
      have HLL := Lib.hid hsll
      have HLT : Hid (∀ j, sl.getD j 0 < 4294967296) := Lib.hid hslt
      have HF := Lib.hid hfin
      clear hsl hsll hok hslt hfin HB hlt hk hmb
      go_wp2_with fail
      go_loopw [7, 8] (fun v vi wr => ∃ j : Nat, j ≤ 8 ∧ vi = .int .i64 j ∧ v = .string ⟨(outk sl j).toArray⟩ ∧ Words wr g sl ∧ Below w.heap.size w wr) (fun _ vi _ => 8 - (intOf vi).toNat)
      case atStart => exact ⟨0, by omega, rfl, rfl, HA.out, hb⟩
      case round =>
        clear HA hb hbs
        obtain ⟨j, hj, rfl, rfl, hA, hb⟩ := hrel
        have HA := Lib.hid hA
        have hbs := hb.size
        clear hA
        have hol : (outk sl j).length = 4 * j := by
          clear hj
          induction j with
          | zero => rfl
          | succ j ih => simp [outk, ih, Sha.put32_len]; omega
        have hos2 : (outk sl j).length ≤ 32 := by omega
        by_cases hlt : j < 8
        · have cS := HA.out.cell j (by rw [HLL.out]; exact hlt)
          have hxl := HLT.out j
          have hnx : outk sl (j + 1) = outk sl j ++ Sha.put32 (sl.getD j 0) := rfl
          have HNX := Lib.hid hnx
          clear hnx hol
          have k0 : (0 : Int) ≤ (j : Int) := by omega
          generalize sl.getD j 0 = x at *
          generalize outk sl j = ol at *
          have hput : ∀ W : World, Calls Tryd.prog 37 #[.int .u64 (x : Int), .int .i64 4] W fun e w' => e = .returned (.string ⟨(Sha.put32 x).toArray⟩) ∧ Below W.heap.size W w' := fun W => by
            have h := put_any x 4 W (by omega) (by omega)
            rw [Num.put4] at h
            exact h
          have hp32 : ∀ x, (Sha.put32 x).length = 4 := fun _ => rfl
          go_wp2_with fail
          refine (hput _).mono ?_
          rintro e w4 ⟨rfl, hb4⟩
          have HA4 := Lib.hid (HA.out.keep hb4)
          have hb4' := hb.trans (hb4.mono hbs)
          clear hput
          go_wp2
          refine ⟨⟨j + 1, by omega, by go_num, ?_, HA4.out, hb4'⟩, by simp [intOf]; omega⟩
          rw [HNX.out, ← str_join]
        · obtain rfl : j = 8 := by omega
          clear hlt hj hol hos2
          go_wp2
          go_ret
          exact ⟨congrArg (fun l : List UInt8 => Ending.returned (Value.string ⟨l.toArray⟩)) HF.out, hb⟩
#print axioms sum02_any
end Go.Proofs.YtdiccgpgmddbdaaDoor
