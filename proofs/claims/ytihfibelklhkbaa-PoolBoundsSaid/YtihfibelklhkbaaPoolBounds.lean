/- conduitlaw21.PoolBounds answers true at every argument. No condition. -/
import Derived.Test.YtihfibelklhkbaaPoolStep
namespace Go.Proofs.Ytihfibelklhkbaa
open Go.RowKit

theorem wrap_small (p : Int) (h : 0 ≤ p ∧ p ≤ 32) : wrap64 p = p := by
  unfold wrap64
  omega

set_option maxRecDepth 100000 in
set_option maxHeartbeats 8000000 in
theorem pool_bounds_said (x y z : Int) (hx : 0 ≤ x ∧ x < 256) (hy : 0 ≤ y ∧ y < 256) (hz : 0 ≤ z ∧ z < 256) (w : World) :
    Calls Try.prog 3 #[.int .u8 x, .int .u8 y, .int .u8 z] w fun e w' => e = .returned (.bool true) ∧ Below w.heap.size w w' := by
  go_enter Try.func3, Try.ntmps3
  go_wp2_with fail
  refine (known21 _).mono ?_
  rintro e w1 ⟨rfl, W1⟩
  go_wp2_with fail
  obtain ⟨c, hc⟩ : ∃ c : Nat, (c : Int) = x % 4 + 1 := ⟨(x % 4 + 1).toNat, by omega⟩
  obtain ⟨k, hk⟩ : ∃ k : Nat, (k : Int) = y % 8 + 1 := ⟨(y % 8 + 1).toNat, by omega⟩
  simp only [← hc, ← hk]
  have hc4 : 1 ≤ c ∧ c ≤ 4 := by omega
  have hk8 : 1 ≤ k ∧ k ≤ 8 := by omega
  refine (pnew_any 1 c k (by omega) hc4 hk8 w1).mono ?_
  rintro e w2 ⟨pb, rfl, p2, W2⟩
  replace W2 := below_later W1 W2
  have hB := W1.size
  generalize w1.heap.size = B at *
  clear W1 hc hk hx hy
  have hZ : ∀ i, (runP ⟨1, c, k, 0, []⟩ i).zero := run_zero (fun c h => by cases h)
  have hI : ∀ i, (runP ⟨1, c, k, 0, []⟩ i).ids = k := run_same _
  have hP := fun {j : Nat} (hj : j < 50) => pool_bounds hc4 hk8 hj
  replace p2 : PoolAt B w2 pb (runP ⟨1, c, k, 0, []⟩ 0) := p2
  have hR : ∀ i, runP ⟨1, c, k, 0, []⟩ (i + 1) = (runP ⟨1, c, k, 0, []⟩ i).step.S := fun _ => rfl
  have HP := Lib.hid (And.intro (And.intro hZ hI) (And.intro @hP hR))
  clear hZ hI hP hR
  generalize runP ⟨1, c, k, 0, []⟩ = R at *
  have hmul : 0 ≤ (c : Int) * (k : Int) ∧ (c : Int) * (k : Int) ≤ 32 ∧ (c : Int) * (k : Int) = ((c * k : Nat) : Int) := by
    have h1 := Nat.mul_le_mul hc4.2 hk8.2
    have h2 : ((c * k : Nat) : Int) = (c : Int) * (k : Int) := Int.natCast_mul c k
    omega
  have hmr := wrap_small ((c : Int) * (k : Int)) ⟨hmul.1, hmul.2.1⟩
  have HM := Lib.hid hmul
  clear hmul
  go_wp2_with fail
  go_loopw [10] (fun i wr => ∃ j : Nat, i = .int .i64 j ∧ (j : Int) ≤ z % 50 ∧ PoolAt B wr pb (R j) ∧ Below w.heap.size w wr) (fun i _ => 50 - (zOf i).toNat)
  case atStart => exact ⟨0, rfl, by omega, p2, W2⟩
  case round =>
    obtain ⟨j, rfl, hj, pj, hW⟩ := hrel
    by_cases hlt : (j : Int) < z % 50
    · have hj50 : j < 50 := by omega
      obtain ⟨⟨hZ, hI⟩, hP, hR⟩ := HP.out
      obtain ⟨a1, a2, a3⟩ := hP hj50
      have hO := popen_step B wr pb (R j) pj (hZ j) (by omega)
      rw [a1] at hO
      rw [← hR j] at hO
      have hO2 := Lib.hid hO
      clear hO a1 hZ hI hP hR
      have q1 : decide ((j : Int) < z % 50) = true := decide_eq_true hlt
      generalize (R j).step.n = on at *
      generalize (R j).step.id = oi at *
      go_wp2_with fail
      refine hO2.out.mono ?_
      rintro e w3 ⟨rfl, p3, W3⟩
      have hW3 := hW.trans (W3.mono hB)
      by_cases hjk : j < c * k
      · rw [decide_eq_true hjk]
        have q2 : decide ((j : Int) < (c : Int) * (k : Int)) = true := decide_eq_true (by have := HM.out; omega)
        simp only [errO, if_true]
        go_wp2_with fail
        refine (pconns_any B w3 pb (R (j + 1)) p3).mono ?_
        rintro e w4 ⟨v, rfl, hrow, W4⟩
        have p4 := p3.keep W4
        have hW4 := hW3.trans (W4.mono hW3.size)
        rw [a2] at hrow
        obtain ⟨va, vc, rfl⟩ := own_slice hrow
        have q3 : min (c : Int) ((j : Int) + 1) = ((min c (j + 1) : Nat) : Int) := by omega
        clear hrow hO2 p3 pj a2 a3
        generalize min c (j + 1) = mn at *
        go_wp2_with fail
        go_roundw
        case rel => exact ⟨j + 1, by go_num, by omega, p4, hW4⟩
        case measure => simp [zOf]; omega
      · rw [decide_eq_false hjk]
        have q2 : decide ((j : Int) < (c : Int) * (k : Int)) = false := decide_eq_false (by have := HM.out; omega)
        simp only [errO]
        go_wp2_with fail
        refine (pconns_any B w3 pb (R (j + 1)) p3).mono ?_
        rintro e w4 ⟨v, rfl, hrow, W4⟩
        have p4 := p3.keep W4
        have hW4 := hW3.trans (W4.mono hW3.size)
        rw [a2] at hrow
        obtain ⟨va, vc, rfl⟩ := own_slice hrow
        have q3 : min (c : Int) ((j : Int) + 1) = ((min c (j + 1) : Nat) : Int) := by omega
        clear hrow hO2 p3 pj a2 a3
        generalize min c (j + 1) = mn at *
        go_wp2_with fail
        go_roundw
        case rel => exact ⟨j + 1, by go_num, by omega, p4, hW4⟩
        case measure => simp [zOf]; omega
    · have hj50 : j < 50 := by omega
      obtain ⟨⟨hZ, hI⟩, hP, hR⟩ := HP.out
      have hIj := hI j
      have hok : (R j).Ok := by obtain ⟨_, _, _, h⟩ := pj; exact h.ok
      have q1 : decide ((j : Int) < z % 50) = false := decide_eq_false hlt
      have hlen := hok.len
      clear hZ hI hP hR HP HM hmr
      go_wp2_with fail
      refine (pconns_any B wr pb (R j) pj).mono ?_
      rintro e w4 ⟨v, rfl, hrow, W4⟩
      have p4 := pj.keep W4
      have hW4 := hW.trans (W4.mono hW.size)
      obtain ⟨va, vc, rfl⟩ := own_slice hrow
      generalize R j = S at *
      have HROW := Lib.hid hrow
      have HOK := Lib.hid hok
      have HI := Lib.hid hIj
      clear hrow hok hIj pj
      go_wp2_with fail
      go_loopw [15] (fun i wq => ∃ jj : Nat, jj ≤ S.l.length ∧ i = .int .i64 jj ∧ Below w4.heap.size w4 wq) (fun i _ => S.l.length - (zOf i).toNat)
      case atStart => exact ⟨0, Nat.zero_le _, rfl, Below.refl _ _⟩
      case round =>
        obtain ⟨jj, hjj, rfl, hq⟩ := hrel
        by_cases hlj : jj < S.l.length
        · obtain ⟨g, cap, hv, _, hgl, hc⟩ := own_open HROW.out (by omega)
          obtain ⟨rfl, rfl⟩ : va = some ⟨g, 0, none⟩ ∧ vc = cap := by simpa using hv
          have d0 := hc jj (.int .i64 (S.l[jj].n : Int)) (by simp [hlj])
          rw [← hq.cell hgl] at d0
          have z1 := Nat.lt_of_lt_of_le hgl hq.size
          have hmem : S.l[jj] ∈ S.l := List.getElem_mem hlj
          have hkk := HOK.out.fits _ hmem
          rw [HI.out] at hkk
          have pq := p4.keep hq
          have hM := pmux_some B _ pb S pq S.l[jj] hmem
          rw [HI.out] at hM
          have HMX := Lib.hid hM
          have q2 : decide ((jj : Int) < (S.l.length : Int)) = true := decide_eq_true (by omega)
          have q3 : decide ((jj : Int) < 0) = false := decide_eq_false (by omega)
          have q4 : decide ((S.l.length : Int) ≤ (jj : Int)) = false := decide_eq_false (by omega)
          have q5 : decide (((S.l[jj].k : Nat) : Int) > (k : Int)) = false := decide_eq_false (by omega)
          have q6 : decide ((k : Int) < ((S.l[jj].k : Nat) : Int)) = false := decide_eq_false (by omega)
          generalize S.l[jj] = cj at *
          clear hc hv hM
          go_wp2_with fail
          refine HMX.out.mono ?_
          rintro e w5 ⟨⟨m1, l1, rfl, _⟩, h5⟩
          subst h5
          go_wp2_with fail
          refine HMX.out.mono ?_
          rintro e w6 ⟨⟨m2, l2, rfl, hmx⟩, h6⟩
          subst h6
          go_wp2_with fail
          refine (mlive_any _ m2 l2 k cj.k (by omega) hmx).mono ?_
          rintro e w7 ⟨v7, rfl, hrow7, W7⟩
          obtain ⟨v7a, v7c, rfl⟩ := own_slice hrow7
          have hq7 := below_later hq W7
          clear hrow7 hmx
          go_wp2_with fail
          go_roundw
          case rel => exact ⟨jj + 1, by omega, by go_num, hq7⟩
          case measure => simp [zOf]; omega
        · obtain rfl : jj = S.l.length := by omega
          go_wp2_with fail
          go_ret
          exact ⟨rfl, hW4.trans (hq.mono hW4.size)⟩
end Go.Proofs.Ytihfibelklhkbaa
