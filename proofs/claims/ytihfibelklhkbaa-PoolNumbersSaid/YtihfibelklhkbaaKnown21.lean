/- conduitlaw21.known answers true; with pool.New and conduitref18.SameInts. No condition. -/
import Derived.Test.YtihfibelklhkbaaPoolNew
namespace Go.Proofs.Ytihfibelklhkbaa
open Go.RowKit

set_option maxHeartbeats 4000000 in
theorem pnew_any (bk cs ids : Nat) (hb : 1 ≤ bk ∧ bk ≤ 2) (hc : 1 ≤ cs ∧ cs ≤ 4) (hi : 1 ≤ ids ∧ ids ≤ 8) (w : World) :
    Calls Try.prog 6 #[.int .i64 (bk : Int), .int .i64 (cs : Int), .int .i64 (ids : Int)] w fun e w' => ∃ pb, e = .returned (.pointer (some ⟨pb, 0, none⟩)) ∧ PoolAt w.heap.size w' pb ⟨bk, cs, ids, 0, []⟩ ∧ Below w.heap.size w w' := by
  have q1 : max (bk : Int) 1 = bk := by omega
  have q2 : min (bk : Int) 2 = bk := by omega
  have q3 : max (cs : Int) 1 = cs := by omega
  have q4 : min (cs : Int) 4 = cs := by omega
  have hmm := @run_makeMap Try.prog
  go_enter Try.func6, Try.ntmps6
  go_wp2_with fail
  go_ret
  have hbox : ((w.alloc (.map #[] 0)).alloc (poolObj bk cs ids w.heap.size 0)).heap[w.heap.size + 1]? = some (poolObj bk cs ids w.heap.size 0) := by
    rw [show w.heap.size + 1 = (w.alloc (.map #[] 0)).heap.size by simp]
    exact heap_alloc_new _ _
  have W := below_later (below_alloc w (.map #[] 0)) (below_alloc (w.alloc (.map #[] 0)) (poolObj bk cs ids w.heap.size 0))
  refine ⟨w.heap.size + 1, rfl, ⟨w.heap.size, fun _ => 0, fun _ => 0, ⟨⟨by simp, fun c h => (by cases h), fun c h => (by cases h), hi, hb, hc, Nat.zero_le _⟩, W.size, hbox, ?_, fun c h => (by cases h), fun c h => (by cases h), fun c h => (by cases h), Nat.le_succ _, Nat.le_refl _, fun c h => (by cases h)⟩⟩, W⟩
  exact ((GMap.made (E := ECon) w).kept (below_alloc (w.alloc (.map #[] 0)) _)).congr (fun i _ => rfl)

set_option maxRecDepth 100000 in
set_option maxHeartbeats 4000000 in
theorem same_ints (B C : Nat) (w : World) (n : Nat) (hn : n ≤ 1000) (xs : List Int) (a b : Option Addr) (ca cb : Nat) (hx : w.ownsRow B 3 1 (.slice a n ca) n (xs.map (Value.int .i64))) (hy : w.ownsRow C 3 1 (.slice b n cb) n (xs.map (Value.int .i64))) :
    Calls Try.prog 13 #[.slice a n ca, .slice b n cb] w fun e w' => e = .returned (.bool true) ∧ Below w.heap.size w w' := by
  have hlen : xs.length = n := by have := hx.1; simpa using this
  go_enter Try.func13, Try.ntmps13
  go_wp2_with fail
  go_loopw [5] (fun i wr => ∃ j : Nat, j ≤ n ∧ i = .int .i64 j ∧ Below w.heap.size w wr) (fun i _ => n - (zOf i).toNat)
  case atStart => exact ⟨0, Nat.zero_le _, rfl, Below.refl _ _⟩
  case round =>
    obtain ⟨j, hj, rfl, hW⟩ := hrel
    by_cases hlt : j < n
    · obtain ⟨g, cap, hv, _, hgl, hc⟩ := own_open hx (by omega)
      obtain ⟨rfl, rfl⟩ : a = some ⟨g, 0, none⟩ ∧ ca = cap := by simpa using hv
      obtain ⟨g2, cap2, hv2, _, hgl2, hc2⟩ := own_open hy (by omega)
      obtain ⟨rfl, rfl⟩ : b = some ⟨g2, 0, none⟩ ∧ cb = cap2 := by simpa using hv2
      have hjx : j < xs.length := by omega
      have d0 := hc j (.int .i64 xs[j]) (by simp [hjx])
      have d1 := hc2 j (.int .i64 xs[j]) (by simp [hjx])
      rw [← hW.cell hgl] at d0
      rw [← hW.cell hgl2] at d1
      have z1 := Nat.lt_of_lt_of_le hgl hW.size
      have z2 := Nat.lt_of_lt_of_le hgl2 hW.size
      have q1 : decide ((j : Int) < (n : Int)) = true := decide_eq_true (by omega)
      have q2 : decide ((j : Int) < 0) = false := decide_eq_false (by omega)
      have q3 : decide ((n : Int) ≤ (j : Int)) = false := decide_eq_false (by omega)
      generalize xs[j] = x at *
      clear hc hc2 hx hy hlen hjx
      go_wp2_with fail
      go_quiet (fail)
      go_wp2_with fail
      go_roundw
      case rel => exact ⟨j + 1, by omega, by go_num, below_drewN hW _⟩
      case measure => simp [zOf]; omega
    · obtain rfl : j = n := by omega
      have q1 : decide ((j : Int) < (j : Int)) = false := decide_eq_false (by omega)
      go_wp2_with fail
      go_ret
      exact ⟨rfl, hW⟩

def K0 : Pl := ⟨2, 2, 1, 0, []⟩
def K1 : Pl := ⟨2, 2, 1, 1, [⟨1, 0, 1⟩]⟩
def K2 : Pl := ⟨2, 2, 1, 2, [⟨1, 0, 1⟩, ⟨2, 0, 1⟩]⟩
def K3 : Pl := ⟨2, 2, 1, 3, [⟨1, 0, 1⟩, ⟨2, 0, 1⟩, ⟨3, 1, 1⟩]⟩
def K4 : Pl := ⟨2, 2, 1, 3, [⟨2, 0, 1⟩, ⟨3, 1, 1⟩]⟩
abbrev openArgs (pb : Nat) (b : Int) : Array Value := #[.pointer (some ⟨pb, 0, none⟩), .int .i64 b, .slice none 0 0, .string (bs [])]
section
variable (B : Nat) (w : World) (pb : Nat)
theorem k_open1 (h : PoolAt B w pb K0) : Calls Try.prog 7 (openArgs pb 0) w fun e w' => e = .returned (.tuple #[.int .i64 1, .int .i64 1, .nilIface]) ∧ PoolAt B w' pb K1 ∧ Below B w w' :=
  popen_new B w pb K0 h 0 (by decide) [] (.inl ⟨rfl, by simp [K0]⟩) rfl (by decide)
theorem k_open2 (h : PoolAt B w pb K1) : Calls Try.prog 7 (openArgs pb 0) w fun e w' => e = .returned (.tuple #[.int .i64 2, .int .i64 1, .nilIface]) ∧ PoolAt B w' pb K2 ∧ Below B w w' :=
  popen_new B w pb K1 h 0 (by decide) _ (.inl ⟨rfl, by simp [K1]⟩) (by decide) (by decide)
theorem k_open3 (h : PoolAt B w pb K2) : Calls Try.prog 7 (openArgs pb 0) w fun e w' => e = .returned (.tuple #[.int .i64 0, .int .i64 0, eV 16]) ∧ PoolAt B w' pb K2 ∧ Below B w w' :=
  popen_full B w pb K2 h 0 (by decide) _ (.inl ⟨rfl, by simp [K2]⟩) ⟨1, 0, 1⟩ (by simp [K2]) (by decide) rfl
theorem k_open4 (h : PoolAt B w pb K2) : Calls Try.prog 7 (openArgs pb 1) w fun e w' => e = .returned (.tuple #[.int .i64 3, .int .i64 1, .nilIface]) ∧ PoolAt B w' pb K3 ∧ Below B w w' :=
  popen_new B w pb K2 h 1 (by decide) [] (.inr ⟨rfl, by decide, by decide, by simp [K2]⟩) rfl (by decide)
theorem k_open5 (h : PoolAt B w pb K3) : Calls Try.prog 7 (openArgs pb 2) w fun e w' => e = .returned (.tuple #[.int .i64 0, .int .i64 0, eV 16]) ∧ w' = w :=
  popen_out B w pb K3 h 2 (by decide)
theorem k_close (h : PoolAt B w pb K3) : Calls Try.prog 11 #[.pointer (some ⟨pb, 0, none⟩), .int .i64 1] w fun e w' => ∃ v, e = .returned v ∧ w'.ownsRow w.heap.size 3 1 v 1 [.int .i64 1] ∧ PoolAt B w' pb K4 ∧ Below B w w' :=
  pclose_some B w pb K3 h ⟨1, 0, 1⟩ (by simp [K3])
end
set_option maxRecDepth 100000 in
set_option maxHeartbeats 8000000 in
theorem known21 (w : World) : Calls Try.prog 5 #[] w fun e w' => e = .returned (.bool true) ∧ Below w.heap.size w w' := by
  go_enter Try.func5, Try.ntmps5
  go_wp2_with fail
  refine (pnew_any 2 2 1 (by decide) (by decide) (by decide) w).mono ?_
  rintro e w1 ⟨pb, rfl, p1, W1⟩
  go_wp2_with fail
  refine (k_open1 _ w1 pb p1).mono ?_
  rintro e w2 ⟨rfl, p2, W2⟩
  replace W2 := W1.trans W2
  clear p1 W1
  go_wp2_with fail
  refine (k_open2 _ w2 pb p2).mono ?_
  rintro e w3 ⟨rfl, p3, W3⟩
  replace W3 := W2.trans W3
  clear p2 W2
  go_wp2_with fail
  refine (k_open3 _ w3 pb p3).mono ?_
  rintro e w4 ⟨rfl, p4, W4⟩
  replace W4 := W3.trans W4
  clear p3 W3
  go_wp2_with fail
  refine (k_open4 _ w4 pb p4).mono ?_
  rintro e w5 ⟨rfl, p5, W5⟩
  replace W5 := W4.trans W5
  clear p4 W4
  go_wp2_with fail
  refine (k_open5 _ w5 pb p5).mono ?_
  rintro e w6 ⟨rfl, rfl⟩
  go_wp2_with fail
  refine (k_close _ w6 pb p5).mono ?_
  rintro e w7 ⟨v, rfl, hrow, p7, W7⟩
  replace W7 := W5.trans W7
  clear p5 W5
  obtain ⟨va, vc, rfl⟩ := own_slice hrow
  clear hrow
  go_wp2_with fail
  refine (is_num 16 16 _).mono ?_
  rintro e w8 ⟨rfl, rfl⟩
  go_wp2_with fail
  refine (is_num 16 16 _).mono ?_
  rintro e w8 ⟨rfl, rfl⟩
  go_wp2_with fail
  refine (pconns_any _ w7 pb K4 p7).mono ?_
  rintro e w8 ⟨v, rfl, hrow, W8⟩
  have p8 := p7.keep W8
  replace W8 := W7.trans (W8.mono W7.size)
  clear p7 W7
  obtain ⟨vb, vd, rfl⟩ := own_slice hrow
  change w8.ownsRow _ _ 1 (.slice vb 2 vd) 2 _ at hrow
  go_wp2_with fail
  have W9 := below_alloc w8 (.cells #[.int .i64 2, .int .i64 3] 3)
  have hy := (Rg.row_new w8 3 1 2 #[.int .i64 2, .int .i64 3] rfl (by simp [maxLen])).1
  refine (same_ints _ _ _ 2 (by omega) [2, 3] vb _ vd _ (own_kept hrow W9) hy).mono ?_
  rintro e w9 ⟨rfl, W10⟩
  have W11 := below_later W9 W10
  have p9 := p8.keep W11
  replace W11 := W8.trans (W11.mono W8.size)
  clear p8 W8 W9 W10 hy hrow
  go_wp2_with fail
  refine (pback_some _ w9 pb K4 p9 ⟨3, 1, 1⟩ (by simp [K4])).mono ?_
  rintro e w10 ⟨rfl, W12⟩
  have p10 := p9.keep W12
  replace W12 := W11.trans (W12.mono W11.size)
  clear p9 W11
  go_wp2_with fail
  refine (pback_none _ w10 pb K4 p10 1 rfl (by simp [K4])).mono ?_
  rintro e w11 ⟨rfl, W13⟩
  have p11 := p10.keep W13
  replace W13 := W12.trans (W13.mono W12.size)
  clear p10 W12
  go_wp2_with fail
  refine (pmux_none _ w11 pb K4 p11 1 rfl (by simp [K4])).mono ?_
  rintro e w12 ⟨rfl, rfl⟩
  go_wp2_with fail
  refine (pmux_some _ w12 pb K4 p11 ⟨2, 0, 1⟩ (by simp [K4])).mono ?_
  rintro e w13 ⟨⟨m, lb, rfl, _⟩, rfl⟩
  go_wp2_with fail
  go_ret
  exact ⟨rfl, W13⟩
end Go.Proofs.Ytihfibelklhkbaa
