/- conduitlaw18.FramesBack answers true at every argument. No condition. -/
import Derived.Test.YtfhddeghmlnobaaFramesBackPlain
import Derived.Test.YtfhddeghmlnobaaReadPairs
import Derived.Test.YtfhddeghmlnobaaBytes
import Derived.Test.YtfhddeghmlnobaaAid
namespace Go.Proofs.Ytfhddeghmlnobaa
open Go.RowKit

set_option maxRecDepth 100000 in
set_option maxHeartbeats 8000000 in
theorem fb_any (i : Int) (l : List (Bs × Bs)) (v : Value) (body : Bs) (w : World) (hi0 : 0 ≤ i) (hi1 : i < 256) (hR : Reads w v 2 l.length (l.flatMap pairCells)) (hF : ∀ p ∈ l, PairFit p) (hbody : body.length ≤ 9223372036854775807) :
    Calls Try.prog 4 #[.int .u8 i, v, .string (bs body)] w fun e w' => e = .returned (.bool true) ∧ Below w.heap.size w w' := by
  have hR0 := hR
  have hlm := hR.2.1
  unfold maxLen at hlm
  obtain ⟨a, cap, rfl, h⟩ := hR.opened (fun _ _ => rfl) (by decide)
  have HR := Lib.hid hR0
  have HH := Lib.hid h
  have HF := Lib.hid hF
  clear hR hR0 h hF
  go_enter Try.func4, Try.ntmps4
  go_wp2_with fail
  refine (known18 _).mono ?_
  rintro e w1 ⟨rfl, W1⟩
  by_cases h30 : 30 < l.length
  · have q1 : decide ((30 : Int) < (l.length : Int)) = true := by simp; omega
    go_wp2_with fail
    go_ret
    exact ⟨rfl, W1⟩
  have q1 : decide ((30 : Int) < (l.length : Int)) = false := by simp; omega
  by_cases h5 : 5000 < body.length
  · have q2 : decide ((5000 : Int) < (body.length : Int)) = true := by simp; omega
    go_wp2_with fail
    go_ret
    exact ⟨rfl, W1⟩
  have q2 : decide ((5000 : Int) < (body.length : Int)) = false := by simp; omega
  by_cases hi : i = 0
  · have q3 : (i == 0) = true := by simpa using hi
    go_wp2_with fail
    go_ret
    exact ⟨rfl, W1⟩
  have q3 : (i == 0) = false := by simpa using hi
  go_wp2_with fail
  clear q1 q2 q3
  go_loopw [7] (fun i wr => ∃ k : Nat, k ≤ l.length ∧ i = .int .i64 k ∧ Below w.heap.size w wr ∧ ∀ j (h : j < l.length), j < k → l[j].1.length ≤ 600 ∧ l[j].2.length ≤ 600) (fun i _ => l.length - (intOf i).toNat)
  case atStart => exact ⟨0, Nat.zero_le _, rfl, W1, fun j _ hj => by omega⟩
  case round =>
    obtain ⟨k, hk, rfl, hW, hall⟩ := hrel
    by_cases hlt : k < l.length
    · obtain ⟨b, off, rfl, hbl, hc⟩ := HH.out (by omega)
      have c0 : w.cell? ⟨b, off + k * 2, none⟩ = some (.string (bs l[k].1)) := hc k hlt 0 _ rfl
      have c1 : w.cell? ⟨b, off + k * 2 + 1, none⟩ = some (.string (bs l[k].2)) := hc k hlt 1 _ rfl
      rw [← hW.cell hbl] at c0 c1
      have hz := Nat.lt_of_lt_of_le hbl hW.size
      have hfit := HF.out _ (List.getElem_mem hlt)
      have hnext : l[k].1.length ≤ 600 → l[k].2.length ≤ 600 → ∀ j (h : j < l.length), j < k + 1 → l[j].1.length ≤ 600 ∧ l[j].2.length ≤ 600 := by
        intro h1 h2 j hj hjk
        by_cases e : j = k
        · subst e; exact ⟨h1, h2⟩
        · exact hall j hj (by omega)
      have HN := Lib.hid hnext
      clear hnext hall hc
      unfold PairFit maxLen at hfit
      obtain ⟨hf1, hf2⟩ := hfit
      generalize hx : l[k].1 = x at *
      generalize hy : l[k].2 = y at *
      by_cases hx6 : 600 < x.length
      · have q3 : decide ((600 : Int) < (x.length : Int)) = true := by simp; omega
        go_wp2_with fail
        go_ret
        exact ⟨rfl, hW⟩
      have q3 : decide ((600 : Int) < (x.length : Int)) = false := by simp; omega
      by_cases hy6 : 600 < y.length
      · have q4 : decide ((600 : Int) < (y.length : Int)) = true := by simp; omega
        go_wp2_with fail
        go_ret
        exact ⟨rfl, hW⟩
      have q4 : decide ((600 : Int) < (y.length : Int)) = false := by simp; omega
      go_wp2_with fail
      go_roundw
      case rel => exact ⟨k + 1, by omega, by go_num, hW, HN.out (by omega) (by omega)⟩
      case measure => simp [intOf]; omega
    · obtain rfl : k = l.length := by omega
      have hall2 : ∀ p ∈ l, p.1.length ≤ 600 ∧ p.2.length ≤ 600 := by
        intro p hp
        obtain ⟨j, hj, rfl⟩ := List.getElem_of_mem hp
        exact hall j hj hj
      have hpl : (pairB l).length ≤ 1000000 := by
        have := pairB_le 600 l hall2
        have : (2 * 600 + 8) * l.length ≤ (2 * 600 + 8) * 30 := Nat.mul_le_mul_left _ (by omega)
        omega
      have hall3 : ∀ p ∈ l, p.1.length ≤ 100000 ∧ p.2.length ≤ 100000 := fun p hp => ⟨by have := (hall2 p hp).1; omega, by have := (hall2 p hp).2; omega⟩
      have hRd : ∀ w', Below w.heap.size w w' → Reads w' (.slice a l.length cap) 2 l.length (l.flatMap pairCells) := fun w' hb => HR.out.later (by decide) hb
      have HB := Lib.hid (fun w' (hb : Below w.heap.size w w') => build_any i l body (.slice a l.length cap) w' (fun w'' hb' => pbytes_any l _ w'' (hRd w'' (below_later hb hb')) (by omega) hall3) hpl (by omega))
      have HP := Lib.hid (fun w' => rreadpairs_any l w' (by omega) hall3)
      have HRd := Lib.hid hRd
      have hbl : (buildR i l body).length ≤ 1000000000 := by
        have lA := splitR_len 4 i (pairB l)
        have lB := splitR_len 5 i body
        simp [buildR]; omega
      have hbz : 0 < (buildR i l body).length := by simp [buildR]
      clear hall hall2 hall3 hRd
      go_wp2_with fail
      refine (HB.out _ hW).mono ?_
      rintro e w2 ⟨u, rfl, o2, hb⟩
      have W2 := below_later hW hb
      obtain ⟨g, gcap, rfl, _, hg, hc⟩ := own_open o2 hbz
      have hC : ∀ k (h : k < (buildR i l body).length), w2.cell? ⟨g, k * 4, none⟩ = some (.int .i64 (buildR i l body)[k].t) ∧ w2.cell? ⟨g, k * 4 + 1, none⟩ = some (.int .i64 (buildR i l body)[k].id) ∧ w2.cell? ⟨g, k * 4 + 2, none⟩ = some (.string (bs (buildR i l body)[k].c)) ∧ w2.cell? ⟨g, k * 4 + 3, none⟩ = some (.int .i64 (buildR i l body)[k].p) := by
        intro k h
        obtain ⟨h1, h2, h3, h0⟩ := rec_at _ k h
        exact ⟨hc _ _ h0, hc _ _ h1, hc _ _ h2, hc _ _ h3⟩
      have HC := Lib.hid hC
      have HQ := Lib.hid (build_case i l body)
      have HE := Lib.hid (back_end i l body)
      have HZ := Lib.hid (back_zero i l body)
      have HPM := Lib.hid (back_params i l body)
      have HBD := Lib.hid (back_body i l body)
      have hpk : ∀ k, (backP l k).length ≤ 1000000 := fun k => by unfold backP; rw [List.length_take]; omega
      have hsk : ∀ k, (backS i l body k).length ≤ 1000000 := fun k => by unfold backS; rw [List.length_take]; omega
      have HPK := Lib.hid hpk
      have HSK := Lib.hid hsk
      clear hC hc hb o2 hW hpk hsk
      go_wp2_with fail
      generalize hRR : buildR i l body = RR at *
      go_loopw [9, 10, 11, 12] (fun p s t j wr => ∃ k : Nat, k ≤ RR.length ∧ j = .int .i64 k ∧ p = .string (bs (backP l k)) ∧ s = .string (bs (backS i l body k)) ∧ t = .int .i64 (backT i l body k) ∧ Below w2.heap.size w2 wr) (fun _ _ _ j _ => RR.length - (intOf j).toNat)
      case atStart =>
        obtain ⟨z1, z2, z3, _⟩ := HZ.out
        exact ⟨0, Nat.zero_le _, rfl, by rw [z1]; rfl, by rw [z2]; rfl, by rw [z3], Below.refl _ _⟩
      case round =>
        obtain ⟨k, hk, rfl, rfl, rfl, rfl, hW⟩ := hrel
        by_cases hlt : k < RR.length
        · obtain ⟨c0, c1, c2, c3⟩ := HC.out k hlt
          rw [← hW.cell hg] at c0 c1 c2 c3
          have hz := Nat.lt_of_lt_of_le hg hW.size
          have hpk := HPK.out k
          have hsk := HSK.out k
          have hQ := HQ.out k hlt
          have hgen : RR[k].Is ∧ ((RR[k].bytes.length : Int) % 8 = 0) ∧ RR[k].c.length ≤ 512 ∧ RR[k].id = i := by
            rcases hQ with ⟨_, hr⟩ | ⟨_, _, ht, hid, hcc, hp⟩ | ⟨_, ht, hid, hcc, hp⟩
            · rw [hr]
              exact begin_rec i hi0 (by omega)
            · have h512 : RR[k].c.length ≤ 512 := by rw [hcc, List.length_take]; omega
              obtain ⟨h1, h2⟩ := stream_rec _ i hi0 (by omega) (.inl ht) hid h512 hp
              exact ⟨h1, h2, h512, hid⟩
            · have h512 : RR[k].c.length ≤ 512 := by rw [hcc, List.length_take]; omega
              obtain ⟨h1, h2⟩ := stream_rec _ i hi0 (by omega) (.inr ht) hid h512 hp
              exact ⟨h1, h2, h512, hid⟩
          have HQ2 := Lib.hid hQ
          clear hQ
          generalize RR[k] = r at *
          obtain ⟨hIs, h8, h512, hid⟩ := hgen
          have hI : ∀ w, Calls Try.prog 20 #[r.v] w fun e w' => e = .returned (.bool true) ∧ Below w.heap.size w w' := fun w => by
            have := ris_any r w (by omega)
            rwa [decide_eq_true hIs] at this
          have hBy := fun w => rbytes_any r w (by omega)
          generalize r.bytes = X at *
          obtain ⟨rt, ri, rc, rp⟩ := r
          simp only at hid h512 c0 c1 c2 c3
          subst hid
          have hI' : ∀ w, Calls Try.prog 20 #[.agg #[.int .i64 rt, .int .i64 ri, .string (bs rc), .int .i64 rp]] w fun e w' => e = .returned (.bool true) ∧ Below w.heap.size w w' := hI
          have hBy' : ∀ w, Calls Try.prog 21 #[.agg #[.int .i64 rt, .int .i64 ri, .string (bs rc), .int .i64 rp]] w fun e w' => e = .returned (.string (bs X)) ∧ Below w.heap.size w w' := hBy
          have HI := Lib.hid hI'
          have HBy := Lib.hid hBy'
          have q8 : ((X.length : Int) % 8 != 0) = false := by simp; omega
          have q5 : decide ((512 : Int) < (rc.length : Int)) = false := by simp; omega
          clear hI hBy hI' hBy' hIs h8
          rcases HQ2.out with ⟨hk0, hr⟩ | ⟨hk1, hk2, ht, hx1, hcc, hx2⟩ | ⟨hk2, ht, hx1, hcc, hx2⟩
          · obtain ⟨z1, z2, z3, z4, z5, z6⟩ := HZ.out
            rw [show beginR ri true = ⟨1, ri, [0, 1, 1, 0, 0, 0, 0, 0], 0⟩ from rfl, Rec.mk.injEq] at hr
            obtain ⟨rfl, _, rfl, rfl⟩ := hr
            have qk0 : ((k : Int) == 0) = true := by simp; omega
            have qk1 : decide ((0 : Int) < (k : Int)) = false := by simp; omega
            have qk2 : ¬ 0 < k := by omega
            have y1 : backP l k = [] := by rw [hk0, z1]
            have y2 : backS ri l body k = [] := by rw [hk0, z2]
            have y3 : backT ri l body k = 0 := by rw [hk0, z3]
            have y4 : backP l (k + 1) = [] := by rw [hk0, z4]
            have y5 : backS ri l body (k + 1) = [] := by rw [hk0, z5]
            have y6 : backT ri l body (k + 1) = 0 := by rw [hk0, z6]
            rw [y1, y2, y3]
            clear hpk hsk hk0
            go_wp2_with fail
            refine (HI.out _).mono ?_
            rintro e w3 ⟨rfl, hb⟩
            rw [← hb.cell hz] at c0 c1 c2 c3
            have W3 := below_later hW hb
            replace hz := Nat.lt_of_lt_of_le hz hb.size
            clear hb hW
            go_wp2_with fail
            refine (HBy.out _).mono ?_
            rintro e w4 ⟨rfl, hb⟩
            rw [← hb.cell hz] at c0 c1 c2 c3
            have W4 := below_later W3 hb
            replace hz := Nat.lt_of_lt_of_le hz hb.size
            clear hb W3
            go_wp2_with fail
            go_roundw
            case rel => exact ⟨k + 1, by omega, by go_num, by rw [y4], by rw [y5], by rw [y6], W4⟩
            case measure => simp [intOf]; omega
          · simp only at ht hcc
            subst ht
            obtain ⟨y1, y2, y3, y4, y5⟩ := HPM.out k hk1 hk2 rc hcc
            have qk0 : ((k : Int) == 0) = false := by simp; omega
            have qk1 : decide ((0 : Int) < (k : Int)) = true := by simp; omega
            have qk2 : 0 < k := by omega
            rw [y3]
            have Y1 := Lib.hid y1
            have Y2 := Lib.hid y2
            clear y1 y2 y3 hcc hx1 hx2
            by_cases hc0 : rc = []
            · have qc : (rc == []) = true := by simpa using hc0
              have y6 := y4 hc0
              have Y6 := Lib.hid y6
              clear y4 y5 y6 hc0
              go_wp2_with fail
              refine (HI.out _).mono ?_
              rintro e w3 ⟨rfl, hb⟩
              rw [← hb.cell hz] at c0 c1 c2 c3
              have W3 := below_later hW hb
              replace hz := Nat.lt_of_lt_of_le hz hb.size
              clear hb hW
              go_wp2_with fail
              refine (HBy.out _).mono ?_
              rintro e w4 ⟨rfl, hb⟩
              rw [← hb.cell hz] at c0 c1 c2 c3
              have W4 := below_later W3 hb
              replace hz := Nat.lt_of_lt_of_le hz hb.size
              clear hb W3
              go_wp2_with fail
              go_roundw
              case rel => exact ⟨k + 1, by omega, by go_num, by rw [Y1.out], by rw [Y2.out], by rw [Y6.out], W4⟩
              case measure => simp [intOf]; omega
            · have qc : (rc == []) = false := by simpa using hc0
              have y6 := y5 hc0
              have Y6 := Lib.hid y6
              clear y4 y5 y6 hc0
              go_wp2_with fail
              refine (HI.out _).mono ?_
              rintro e w3 ⟨rfl, hb⟩
              rw [← hb.cell hz] at c0 c1 c2 c3
              have W3 := below_later hW hb
              replace hz := Nat.lt_of_lt_of_le hz hb.size
              clear hb hW
              go_wp2_with fail
              refine (HBy.out _).mono ?_
              rintro e w4 ⟨rfl, hb⟩
              rw [← hb.cell hz] at c0 c1 c2 c3
              have W4 := below_later W3 hb
              replace hz := Nat.lt_of_lt_of_le hz hb.size
              clear hb W3
              go_wp2_with fail
              go_roundw
              case rel => exact ⟨k + 1, by omega, by go_num, by rw [Y1.out], by rw [Y2.out], by rw [Y6.out], W4⟩
              case measure => simp [intOf]; omega
          · simp only at ht hcc
            subst ht
            obtain ⟨y1, y2, y3, y4, y5⟩ := HBD.out k hlt hk2 rc hcc
            have qk0 : ((k : Int) == 0) = false := by simp; omega
            have qk1 : decide ((0 : Int) < (k : Int)) = true := by simp; omega
            have qk2 : 0 < k := by omega
            rw [y3]
            have Y1 := Lib.hid y1
            have Y2 := Lib.hid y2
            clear y1 y2 y3 hcc hx1 hx2
            by_cases hc0 : rc = []
            · have qc : (rc == []) = true := by simpa using hc0
              have y6 := y4 hc0
              have Y6 := Lib.hid y6
              clear y4 y5 y6 hc0
              go_wp2_with fail
              refine (HI.out _).mono ?_
              rintro e w3 ⟨rfl, hb⟩
              rw [← hb.cell hz] at c0 c1 c2 c3
              have W3 := below_later hW hb
              replace hz := Nat.lt_of_lt_of_le hz hb.size
              clear hb hW
              go_wp2_with fail
              refine (HBy.out _).mono ?_
              rintro e w4 ⟨rfl, hb⟩
              rw [← hb.cell hz] at c0 c1 c2 c3
              have W4 := below_later W3 hb
              replace hz := Nat.lt_of_lt_of_le hz hb.size
              clear hb W3
              go_wp2_with fail
              go_roundw
              case rel => exact ⟨k + 1, by omega, by go_num, by rw [Y1.out], by rw [Y2.out], by rw [Y6.out], W4⟩
              case measure => simp [intOf]; omega
            · have qc : (rc == []) = false := by simpa using hc0
              have y6 := y5 hc0
              have Y6 := Lib.hid y6
              clear y4 y5 y6 hc0
              go_wp2_with fail
              refine (HI.out _).mono ?_
              rintro e w3 ⟨rfl, hb⟩
              rw [← hb.cell hz] at c0 c1 c2 c3
              have W3 := below_later hW hb
              replace hz := Nat.lt_of_lt_of_le hz hb.size
              clear hb hW
              go_wp2_with fail
              refine (HBy.out _).mono ?_
              rintro e w4 ⟨rfl, hb⟩
              rw [← hb.cell hz] at c0 c1 c2 c3
              have W4 := below_later W3 hb
              replace hz := Nat.lt_of_lt_of_le hz hb.size
              clear hb W3
              go_wp2_with fail
              go_roundw
              case rel => exact ⟨k + 1, by omega, by go_num, by rw [Y1.out], by rw [Y2.out], by rw [Y6.out], W4⟩
              case measure => simp [intOf]; omega
        · obtain rfl : k = RR.length := by omega
          obtain ⟨z1, z2, z3⟩ := HE.out
          rw [z1, z2, z3]
          have W3 := below_later W2 hW
          go_wp2_with fail
          refine (HP.out _).mono ?_
          rintro e w4 ⟨vq, rfl, oq, hb⟩
          have W4 := below_later W3 hb
          clear hb
          go_wp2_with fail
          refine (samep_any l vq _ w4 (by omega) (own_reads oq) (HRd.out w4 W4)).mono ?_
          rintro e w5 ⟨rfl, hb⟩
          go_wp2_with fail
          go_ret
          exact ⟨rfl, below_later W4 hb⟩

theorem fb_said (i : Int) (v : Value) (l : List (Bs × Bs)) (s : ByteArray) (w : World) (hi : 0 ≤ i ∧ i < 256) (hR : Reads w v 2 l.length (l.flatMap pairCells)) (hF : ∀ p ∈ l, PairFit p) (hs : s.size ≤ maxLen) :
    Calls Try.prog 4 #[.int .u8 i, v, .string s] w fun e w' => e = .returned (.bool true) ∧ Below w.heap.size w w' := by
  rw [bs_of s]
  exact fb_any i l v _ w hi.1 hi.2 hR hF (size_bs hs)
end Go.Proofs.Ytfhddeghmlnobaa
