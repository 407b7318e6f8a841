/- conduitlaw18.FramesTells answers true at every argument. No condition. -/
import Derived.Test.YtfhddeghmlnobaaBuildRef
import Derived.Test.YtfhddeghmlnobaaAid
namespace Go.Proofs.Ytfhddeghmlnobaa
open Go.RowKit

set_option maxRecDepth 100000 in
set_option maxHeartbeats 4000000 in
theorem ft_any (t i : Int) (l : List (Bs × Bs)) (v : Value) (body : Bs) (w : World) (hR : Reads w v 2 l.length (l.flatMap pairCells)) (hF : ∀ p ∈ l, PairFit p) (hbody : body.length ≤ 9223372036854775807) :
    Calls Try.prog 3 #[.int .i64 t, .int .i64 i, v, .string (bs body)] w fun e w' => e = .returned (.bool true) ∧ Below w.heap.size w w' := by
  have hR0 := hR
  have hlm := hR.2.1
  unfold maxLen at hlm
  obtain ⟨a, cap, rfl, h⟩ := hR.opened (fun _ _ => rfl) (by decide)
  have HR := Lib.hid hR0
  have HH := Lib.hid h
  have HF := Lib.hid hF
  clear hR hR0 h hF
  go_enter Try.func3, Try.ntmps3
  go_wp2_with fail
  refine (known18 _).mono ?_
  rintro e w1 ⟨rfl, W1⟩
  by_cases h30 : 30 < l.length
  · have q1 : decide ((30 : Int) < (l.length : Int)) = true := by simp; omega
    go_wp2_with fail
    go_ret
    exact ⟨rfl, W1⟩
  have q1 : decide ((30 : Int) < (l.length : Int)) = false := by simp; omega
  by_cases h5 : 5000 < body.length
  · have q2 : decide ((5000 : Int) < (body.length : Int)) = true := by simp; omega
    go_wp2_with fail
    go_ret
    exact ⟨rfl, W1⟩
  have q2 : decide ((5000 : Int) < (body.length : Int)) = false := by simp; omega
  go_wp2_with fail
  clear q1 q2
  go_loopw [9] (fun i wr => ∃ k : Nat, k ≤ l.length ∧ i = .int .i64 k ∧ Below w.heap.size w wr ∧ ∀ j (h : j < l.length), j < k → l[j].1.length ≤ 600 ∧ l[j].2.length ≤ 600) (fun i _ => l.length - (intOf i).toNat)
  case atStart => exact ⟨0, Nat.zero_le _, rfl, W1, fun j _ hj => by omega⟩
  case round =>
    obtain ⟨k, hk, rfl, hW, hall⟩ := hrel
    by_cases hlt : k < l.length
    · obtain ⟨b, off, rfl, hbl, hc⟩ := HH.out (by omega)
      have c0 : w.cell? ⟨b, off + k * 2, none⟩ = some (.string (bs l[k].1)) := hc k hlt 0 _ rfl
      have c1 : w.cell? ⟨b, off + k * 2 + 1, none⟩ = some (.string (bs l[k].2)) := hc k hlt 1 _ rfl
      rw [← hW.cell hbl] at c0 c1
      have hz := Nat.lt_of_lt_of_le hbl hW.size
      have hfit := HF.out _ (List.getElem_mem hlt)
      have hnext : l[k].1.length ≤ 600 → l[k].2.length ≤ 600 → ∀ j (h : j < l.length), j < k + 1 → l[j].1.length ≤ 600 ∧ l[j].2.length ≤ 600 := by
        intro h1 h2 j hj hjk
        by_cases e : j = k
        · subst e; exact ⟨h1, h2⟩
        · exact hall j hj (by omega)
      have HN := Lib.hid hnext
      clear hnext hall hc
      unfold PairFit maxLen at hfit
      obtain ⟨hf1, hf2⟩ := hfit
      generalize hx : l[k].1 = x at *
      generalize hy : l[k].2 = y at *
      by_cases hx6 : 600 < x.length
      · have q3 : decide ((600 : Int) < (x.length : Int)) = true := by simp; omega
        go_wp2_with fail
        go_ret
        exact ⟨rfl, hW⟩
      have q3 : decide ((600 : Int) < (x.length : Int)) = false := by simp; omega
      by_cases hy6 : 600 < y.length
      · have q4 : decide ((600 : Int) < (y.length : Int)) = true := by simp; omega
        go_wp2_with fail
        go_ret
        exact ⟨rfl, hW⟩
      have q4 : decide ((600 : Int) < (y.length : Int)) = false := by simp; omega
      go_wp2_with fail
      go_roundw
      case rel => exact ⟨k + 1, by omega, by go_num, hW, HN.out (by omega) (by omega)⟩
      case measure => simp [intOf]; omega
    · obtain rfl : k = l.length := by omega
      have hall2 : ∀ p ∈ l, p.1.length ≤ 600 ∧ p.2.length ≤ 600 := by
        intro p hp
        obtain ⟨j, hj, rfl⟩ := List.getElem_of_mem hp
        exact hall j hj hj
      have hpl : (pairB l).length ≤ 1000000 := by
        have := pairB_le 600 l hall2
        have : (2 * 600 + 8) * l.length ≤ (2 * 600 + 8) * 30 := Nat.mul_le_mul_left _ (by omega)
        omega
      have hall3 : ∀ p ∈ l, p.1.length ≤ 100000 ∧ p.2.length ≤ 100000 := fun p hp => ⟨by have := (hall2 p hp).1; omega, by have := (hall2 p hp).2; omega⟩
      have hRd : ∀ w', Below w.heap.size w w' → Reads w' (.slice a l.length cap) 2 l.length (l.flatMap pairCells) := fun w' hb => HR.out.later (by decide) hb
      have HB := Lib.hid (fun w' (hb : Below w.heap.size w w') => build_any i l body (.slice a l.length cap) w' (fun w'' hb' => pbytes_any l _ w'' (hRd w'' (below_later hb hb')) (by omega) hall3) hpl (by omega))
      have HRB := Lib.hid (fun w' (hb : Below w.heap.size w w') => rbuild_any i l body (.slice a l.length cap) w' (fun w'' hb' => rpairs_any l _ w'' (hRd w'' (below_later hb hb')) (by omega) hall3) hpl (by omega))
      have hbl : (buildR i l body).length ≤ 1000000000 := by
        have lA := splitR_len 4 i (pairB l)
        have lB := splitR_len 5 i body
        simp [buildR]; omega
      have lS := splitR_len t i body
      have HBL := Lib.hid hbl
      clear hall hall2 hall3 hRd hpl hbl
      generalize buildR i l body = BR at *
      go_wp2_with fail
      refine (HB.out _ hW).mono ?_
      rintro e w2 ⟨u, rfl, o2, hb⟩
      have W2 := below_later hW hb
      clear hb
      go_wp2_with fail
      refine (HRB.out _ W2).mono ?_
      rintro e w3 ⟨u3, rfl, o3, hb⟩
      have W3 := below_later W2 hb
      have o2' := own_kept o2 hb
      clear hb o2 W2
      go_wp2_with fail
      refine (same_any BR u u3 w3 HBL.out (own_reads o2') (own_reads o3)).mono ?_
      rintro e w4 ⟨rfl, hb⟩
      have W4 := below_later W3 hb
      clear hb o2' o3 W3
      go_wp2_with fail
      refine (split_any t i body _ (by omega)).mono ?_
      rintro e w5 ⟨u5, rfl, o5, hb⟩
      have W5 := below_later W4 hb
      clear hb W4
      go_wp2_with fail
      refine (rsplit_any t i body _ (by omega)).mono ?_
      rintro e w6 ⟨u6, rfl, o6, hb⟩
      have W6 := below_later W5 hb
      have o5' := own_kept o5 hb
      clear hb W5 o5
      go_wp2_with fail
      refine (same_any _ u5 u6 w6 (by omega) (own_reads o5') (own_reads o6)).mono ?_
      rintro e w7 ⟨rfl, hb⟩
      have W7 := below_later W6 hb
      clear hb W6 o5' o6
      go_wp2_with fail
      refine (abort_any i _).mono ?_
      rintro e w8 ⟨rfl, hb⟩
      have W8 := below_later W7 hb
      clear hb W7
      go_wp2_with fail
      refine (rabort_any i _).mono ?_
      rintro e w9 ⟨rfl, hb⟩
      have W9 := below_later W8 hb
      clear hb W8
      go_wp2_with fail
      go_ret
      exact ⟨rfl, W9⟩

theorem ft_said (t i : Int) (v : Value) (l : List (Bs × Bs)) (s : ByteArray) (w : World) (hR : Reads w v 2 l.length (l.flatMap pairCells)) (hF : ∀ p ∈ l, PairFit p) (hs : s.size ≤ maxLen) :
    Calls Try.prog 3 #[.int .i64 t, .int .i64 i, v, .string s] w fun e w' => e = .returned (.bool true) ∧ Below w.heap.size w w' := by
  rw [bs_of s]
  exact ft_any t i l v _ w hR hF (size_bs hs)
end Go.Proofs.Ytfhddeghmlnobaa
