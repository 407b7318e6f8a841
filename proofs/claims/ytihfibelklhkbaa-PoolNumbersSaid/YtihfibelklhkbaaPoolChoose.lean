/- What (*pool.Pool).choose computes. Conditions: the pool in memory; connections of row's numbers. -/
import Derived.Test.YtihfibelklhkbaaPoolNone
namespace Go.Proofs.Ytihfibelklhkbaa
open Go.RowKit

theorem best_in (f : Nat → Nat) : ∀ (l : List Nat) (b : Nat), bestOf f b l = b ∨ bestOf f b l ∈ l
  | [], b => .inl rfl
  | n :: l, b => by
    unfold bestOf
    rcases best_in f l (if b = 0 ∨ f n < f b then n else b) with h | h
    · rw [h]
      split
      · exact .inr (by simp)
      · exact .inl rfl
    · exact .inr (by simp [h])

set_option maxRecDepth 100000 in
set_option maxHeartbeats 8000000 in
theorem pchoose_any (B : Nat) (w : World) (pb : Nat) (S : Pl) (h : PoolAt B w pb S) (M : List Cn) (hM : ∀ c ∈ M, c ∈ S.l) (hml : M.length ≤ 1000) (a : Option Addr) (cap : Nat)
    (hrow : 0 < M.length → ∃ g, a = some ⟨g, 0, none⟩ ∧ g < w.heap.size ∧ ∀ j (hj : j < M.length), w.cell? ⟨g, j, none⟩ = some (.int .i64 (M[j].n : Int))) :
    Calls Try.prog 15 #[.pointer (some ⟨pb, 0, none⟩), .slice a M.length cap] w fun e w' => e = .returned (.int .i64 (chooseN (kOf S.l) S.cs (M.map (·.n)) : Int)) ∧ Below w.heap.size w w' := by
  have hok : S.Ok := by obtain ⟨_, _, _, h⟩ := h; exact h.ok
  have hlive := fun (wr : World) (hW : Below w.heap.size w wr) (c : Cn) (hc : c ∈ S.l) => plive_any B wr pb S (h.keep hW) c hc
  have hkof := fun (c : Cn) (hc : c ∈ S.l) => kOf_mem hok.sorted hc
  have hcs : ∀ wr : World, Below w.heap.size w wr → wr.cell? ⟨pb, 1, none⟩ = some (.int .i64 (S.cs : Int)) ∧ pb < wr.heap.size := by
    obtain ⟨_, _, _, h⟩ := h
    intro wr hW
    exact ⟨box_cells (kept h.box hW) 1, box_lt (kept h.box hW)⟩
  have hpos : ∀ c ∈ S.l, 0 < c.n := fun c hc => (hok.low c hc).1
  have HL := Lib.hid hlive
  have HC := Lib.hid hcs
  have HK := Lib.hid hkof
  clear hlive hcs h hkof
  generalize kOf S.l = f at *
  generalize S.cs = cs at *
  obtain ⟨R, hR⟩ : ∃ R, R = chooseN f cs (M.map (·.n)) := ⟨_, rfl⟩
  rw [← hR]
  have HR := Lib.hid hR
  clear hR
  go_enter Try.func15, Try.ntmps15
  go_wp2_with fail
  go_loopw [5, 10] (fun bs i wr => ∃ (j bst : Nat), j ≤ M.length ∧ i = .int .i64 j ∧ bs = .int .i64 (bst : Int) ∧ bestOf f 0 (M.map (·.n)) = bestOf f bst ((M.drop j).map (·.n)) ∧ (bst = 0 ∨ ∃ c ∈ S.l, c.n = bst) ∧ Below w.heap.size w wr) (fun _ i _ => M.length - (zOf i).toNat)
  case atStart => exact ⟨0, 0, Nat.zero_le _, rfl, rfl, rfl, .inl rfl, Below.refl _ _⟩
  case round =>
    obtain ⟨j, bst, hj, rfl, rfl, hbest, hbs, hW⟩ := hrel
    by_cases hlt : j < M.length
    · obtain ⟨g, rfl, hgl, hc⟩ := hrow (by omega)
      have d0 := hc j hlt
      rw [← hW.cell hgl] at d0
      have hgl2 := Nat.lt_of_lt_of_le hgl hW.size
      have q1 : decide ((j : Int) < (M.length : Int)) = true := decide_eq_true (by omega)
      have q2 : decide ((j : Int) < 0) = false := decide_eq_false (by omega)
      have q3 : decide ((M.length : Int) ≤ (j : Int)) = false := decide_eq_false (by omega)
      have hmem : M[j] ∈ S.l := hM _ (List.getElem_mem hlt)
      rw [List.drop_eq_getElem_cons hlt] at hbest
      generalize M[j] = cj at *
      simp only [List.map_cons, bestOf] at hbest
      have HB := Lib.hid hbest
      clear hbest hc
      by_cases hz : bst = 0
      · subst hz
        go_wp2_with fail
        go_roundw
        case rel => exact ⟨j + 1, cj.n, by omega, by go_num, rfl, by have := HB.out; simpa using this, .inr ⟨cj, hmem, rfl⟩, hW⟩
        case measure => simp [zOf]; omega
      · obtain ⟨cb, hcb, rfl⟩ := hbs.resolve_left hz
        have q4 : decide ((cb.n : Int) = 0) = false := decide_eq_false (by omega)
        have q5 : ((cb.n : Int) == 0) = false := by simp; omega
        have hL1 := HL.out wr hW cj hmem
        have hL2 := fun wx hx => HL.out wx hx cb hcb
        rw [← HK.out cj hmem] at hL1
        rw [← HK.out cb hcb] at hL2
        go_wp2_with fail
        refine hL1.mono ?_
        rintro e w1 ⟨rfl, W1⟩
        have hW1 := below_later hW W1
        go_wp2_with fail
        refine (hL2 w1 hW1).mono ?_
        rintro e w2 ⟨rfl, W2⟩
        have hW2 := below_later hW1 W2
        by_cases hlf : f cj.n < f cb.n
        · have q6 : decide ((f cj.n : Int) < (f cb.n : Int)) = true := decide_eq_true (by omega)
          go_wp2_with fail
          go_roundw
          case rel => exact ⟨j + 1, cj.n, by omega, by go_num, rfl, by have := HB.out; rw [if_pos (.inr hlf)] at this; exact this, .inr ⟨cj, hmem, rfl⟩, hW2⟩
          case measure => simp [zOf]; omega
        · have q6 : decide ((f cj.n : Int) < (f cb.n : Int)) = false := decide_eq_false (by omega)
          go_wp2_with fail
          go_roundw
          case rel => exact ⟨j + 1, cb.n, by omega, by go_num, rfl, by have := HB.out; rw [if_neg (by omega)] at this; exact this, .inr ⟨cb, hcb, rfl⟩, hW2⟩
          case measure => simp [zOf]; omega
    · obtain rfl : j = M.length := by omega
      simp only [List.drop_length, List.map_nil, bestOf] at hbest
      have hch : R = if 0 < bst ∧ 0 < f bst ∧ M.length < cs then 0 else bst := by
        rw [HR.out]
        unfold chooseN
        rw [hbest, List.length_map]
      have q1 : decide ((M.length : Int) < (M.length : Int)) = false := decide_eq_false (by omega)
      clear hbest hrow HR
      by_cases hz : bst = 0
      · subst hz
        rw [if_neg (by omega)] at hch
        subst hch
        go_wp2_with fail
        go_ret
        exact ⟨rfl, hW⟩
      · obtain ⟨cb, hcb, rfl⟩ := hbs.resolve_left hz
        have hL := HL.out wr hW cb hcb
        rw [← HK.out cb hcb] at hL
        have q2 : decide (0 < (cb.n : Int)) = true := decide_eq_true (by omega)
        have q3 : decide ((cb.n : Int) > 0) = true := decide_eq_true (by omega)
        generalize f cb.n = fv at *
        go_wp2_with fail
        refine hL.mono ?_
        rintro e w1 ⟨rfl, W1⟩
        have hW1 := below_later hW W1
        obtain ⟨c1, z⟩ := HC.out w1 hW1
        by_cases hf : 0 < fv
        · have q4 : decide (0 < (fv : Int)) = true := decide_eq_true (by omega)
          by_cases hl : M.length < cs
          · rw [if_pos ⟨by omega, hf, hl⟩] at hch
            subst hch
            have q5 : decide ((M.length : Int) < (cs : Int)) = true := decide_eq_true (by omega)
            go_wp2_with fail
            go_ret
            exact ⟨rfl, hW1⟩
          · rw [if_neg (fun h => hl h.2.2)] at hch
            subst hch
            have q5 : decide ((M.length : Int) < (cs : Int)) = false := decide_eq_false (by omega)
            go_wp2_with fail
            go_ret
            exact ⟨rfl, hW1⟩
        · obtain rfl : fv = 0 := by omega
          rw [if_neg (fun h => hf h.2.1)] at hch
          subst hch
          go_wp2_with fail
          go_ret
          exact ⟨rfl, hW1⟩
end Go.Proofs.Ytihfibelklhkbaa
