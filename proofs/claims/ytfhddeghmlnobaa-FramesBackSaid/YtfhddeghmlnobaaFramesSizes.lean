/- conduitlaw18.FramesSizes answers true at every number. No condition. -/
import Derived.Test.YtfhddeghmlnobaaKnown18
import Derived.Test.YtfhddeghmlnobaaAid
namespace Go.Proofs.Ytfhddeghmlnobaa
open Go.RowKit

theorem splitR_count (t d : Int) (s : Bs) : (splitR t d s).length = (s.length + 511) / 512 + 1 := by
  fun_induction splitR t d s with
  | case1 => simp
  | case2 s h ih =>
    have : 0 < s.length := List.length_pos_iff.2 h
    simp only [List.length_cons, List.length_drop] at *
    omega
theorem splitR_get (t d : Int) (s : Bs) : ∀ i r, (splitR t d s)[i]? = some r → r.c.length = min 512 (s.length - 512 * i) ∧ r.p = padN (r.c.length : Int) ∧ r.id = d := by
  fun_induction splitR t d s with
  | case1 =>
    intro i r hr
    match i with
    | 0 => simp at hr; subst hr; exact ⟨by simp, rfl, rfl⟩
    | i + 1 => simp at hr
  | case2 s h ih =>
    intro i r hr
    match i with
    | 0 =>
      simp at hr
      subst hr
      refine ⟨by simp [List.length_take], ?_, rfl⟩
      simp only [List.length_take]
      congr 1
      omega
    | i + 1 =>
      simp at hr
      obtain ⟨h1, h2, h3⟩ := ih i r hr
      refine ⟨?_, h2, h3⟩
      rw [h1, List.length_drop]
      omega
theorem rec_at (l : List Rec) (i : Nat) (h : i < l.length) : (recCells l)[i * 4 + 1]? = some (.int .i64 l[i].id) ∧ (recCells l)[i * 4 + 2]? = some (.string (bs l[i].c)) ∧ (recCells l)[i * 4 + 3]? = some (.int .i64 l[i].p) ∧ (recCells l)[i * 4]? = some (.int .i64 l[i].t) := by
  have hk : l[i]? = some l[i] := List.getElem?_eq_getElem h
  have e := fun j (hj : j < 4) => flat_at Rec.cells l (fun _ _ => rfl) i j l[i] hk hj
  exact ⟨e 1 (by omega), e 2 (by omega), e 3 (by omega), e 0 (by omega)⟩

set_option maxRecDepth 100000 in
set_option maxHeartbeats 4000000 in
theorem fs_any (n : Int) (w : World) (hn : 0 ≤ n) (hn' : n < 65536) :
    Calls Try.prog 5 #[.int .u16 n] w fun e w' => e = .returned (.bool true) ∧ Below w.heap.size w w' := by
  have hmk := fun w => make_bytes w (n % 3000) (by omega) (by omega)
  have htx := fun w => text_made w (n % 3000).toNat (by unfold maxLen; omega)
  go_enter Try.func5, Try.ntmps5
  go_wp2_with fail
  refine (known18 _).mono ?_
  rintro e w1 ⟨rfl, W1⟩
  go_wp2_with fail
  clear hmk htx
  obtain ⟨k, hk⟩ : ∃ k : Int, k = n % 3000 := ⟨_, rfl⟩
  rw [← hk]
  have k0 : 0 ≤ k := by omega
  have k1 : k < 3000 := by omega
  clear hk hn hn'
  have hS := fun w => split_any 5 4 (List.replicate k.toNat 0) w (by simp; omega)
  have hcnt := splitR_count 5 4 (List.replicate k.toNat 0)
  have hget := splitR_get 5 4 (List.replicate k.toNat 0)
  rw [List.length_replicate] at hcnt
  simp only [List.length_replicate] at hget
  generalize splitR 5 4 (List.replicate k.toNat 0) = L at *
  have hL : ((L.length : Int)) = (k + 511) / 512 + 1 := by omega
  have HG := Lib.hid hget
  have HS := Lib.hid hS
  clear hget hS hcnt
  refine (HS.out _).mono ?_
  rintro e w2 ⟨u, rfl, ho, hb⟩
  have W2 := below_later W1 (below_after hb)
  obtain ⟨g, cap, rfl, _, hg, hc⟩ := own_open ho (by omega)
  have hC : ∀ i (h : i < L.length), w2.cell? ⟨g, i * 4 + 1, none⟩ = some (.int .i64 L[i].id) ∧ w2.cell? ⟨g, i * 4 + 2, none⟩ = some (.string (bs L[i].c)) ∧ w2.cell? ⟨g, i * 4 + 3, none⟩ = some (.int .i64 L[i].p) := by
    intro i h
    obtain ⟨h1, h2, h3, _⟩ := rec_at L i h
    exact ⟨hc _ _ h1, hc _ _ h2, hc _ _ h3⟩
  have HC := Lib.hid hC
  have q0 : ((L.length : Int) != (k + 511) / 512 + 1) = false := by simp; omega
  have HL := Lib.hid hL
  clear hC hc ho hb W1 hL
  go_wp2_with fail
  go_loopw [5] (fun i wr => ∃ j : Nat, j ≤ L.length ∧ i = .int .i64 j ∧ Below w2.heap.size w2 wr) (fun i _ => L.length - (intOf i).toNat)
  case atStart => exact ⟨0, Nat.zero_le _, rfl, Below.refl _ _⟩
  case round =>
    obtain ⟨j, hj, rfl, hW⟩ := hrel
    by_cases hlt : j < L.length
    · obtain ⟨c1, c2, c3⟩ := HC.out j hlt
      rw [← hW.cell hg] at c1 c2 c3
      obtain ⟨g1, g2, g3⟩ := HG.out j _ (List.getElem?_eq_getElem hlt)
      rw [g2] at c3
      rw [g3] at c1
      have hz := Nat.lt_of_lt_of_le hg hW.size
      have hl := HL.out
      generalize L[j].c = x at *
      have hP : 0 ≤ padN x.length ∧ padN x.length ≤ 7 ∧ ((x.length : Int) + padN x.length) % 8 = 0 := by unfold padN; omega
      generalize padN (x.length : Int) = P at *
      obtain ⟨p0, p1, p2⟩ := hP
      clear g2 g3
      have q3 : decide (7 < P) = false := by simp; omega
      have hx : (x.length : Int) = min 512 (max 0 (k - 512 * j)) := by omega
      have hj10 : (j : Int) ≤ 10 := by omega
      have q1 : ((x.length : Int) != min 512 (max 0 (k - 512 * j))) = false := by simp; exact hx
      have q2 : ((min 512 (max 0 (k - 512 * (j : Int))) + P) % 8 != 0) = false := by rw [← hx]; simp; omega
      clear g1 hl p2 hx
      go_wp2_with fail
      go_roundw
      case rel => exact ⟨j + 1, by omega, by go_num, hW⟩
      case measure => simp [intOf]; omega
    · obtain rfl : j = L.length := by omega
      go_wp2_with fail
      go_ret
      exact ⟨rfl, below_later W2 hW⟩

theorem fs_said (n : Int) (w : World) (wn : (Lit.int .u16 n).wf = true) :
    Calls Try.prog 5 #[.int .u16 n] w fun e w' => e = .returned (.bool true) ∧ Below w.heap.size w w' :=
  fs_any n w (wf_u16 wn).1 (wf_u16 wn).2
end Go.Proofs.Ytfhddeghmlnobaa
