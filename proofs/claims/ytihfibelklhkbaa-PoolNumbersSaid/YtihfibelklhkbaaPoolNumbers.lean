/- conduitlaw21.PoolNumbers answers true at every argument. No condition. -/
import Derived.Test.YtihfibelklhkbaaPoolStep
import Derived.Test.YtihfibelklhkbaaOpenT
namespace Go.Proofs.Ytihfibelklhkbaa
open Go.RowKit

/-- A pool of one backend, of at most two connections of one id each. -/
structure Num (S : Pl) : Prop where
  ok : S.Ok
  zero : S.zero
  cs : S.cs = 2
  ids : S.ids = 1
  one : ∀ c ∈ S.l, c.k = 1
  two : S.l.length ≤ 2
theorem Num.drop {S : Pl} (h : Num S) (n : Nat) : Num { S with l := dropC S.l n } where
  ok := h.ok.drop n
  zero := fun c hc => h.zero c (dropC_mem.1 hc).1
  cs := h.cs
  ids := h.ids
  one := fun c hc => h.one c (dropC_mem.1 hc).1
  two := Nat.le_trans (List.length_filter_le _ _) h.two
theorem bump_more {S : Pl} (h : S.Ok) (b : Nat) : bump (S.more b).l (S.last + 1) = S.l ++ [⟨S.last + 1, b, 1⟩] := by
  show (S.l ++ [_]).map _ = _
  rw [List.map_append]
  congr 1
  · rw [List.map_congr_left (g := id), List.map_id]
    intro c hc
    have := h.low c hc
    rw [if_neg (by omega)]
    rfl
  · simp
theorem num_new {S : Pl} (h : Num S) (hl : S.l.length < 2) (hlast : S.last < 1000) (hs : S.step = ⟨{ S.more 0 with l := bump (S.more 0).l (S.last + 1) }, S.last + 1, 1, true⟩) : Num S.step.S ∧ S.step.S.last = S.last + 1 := by
  have hz := zero_step h.zero
  rw [hs] at hz ⊢
  have hm := h.ok.more 0 hlast
  have hmem : (⟨S.last + 1, 0, 0⟩ : Cn) ∈ (S.more 0).l := by simp
  refine ⟨⟨hm.bumped hmem h.ok.ids.1, hz, h.cs, h.ids, ?_, ?_⟩, rfl⟩
  · show ∀ c ∈ bump (S.more 0).l (S.last + 1), c.k = 1
    rw [bump_more h.ok 0]
    intro c hc
    rcases List.mem_append.1 hc with hc | hc
    · exact h.one c hc
    · simp at hc; subst hc; rfl
  · show (bump (S.more 0).l (S.last + 1)).length ≤ 2
    rw [bump_more h.ok 0]
    simp
    omega
theorem num_step {S : Pl} (h : Num S) (hlast : S.last < 1000) : if S.l.length < 2 then S.step.ok = true ∧ S.step.n = S.last + 1 ∧ S.step.id = 1 ∧ Num S.step.S ∧ S.step.S.last = S.last + 1 else S.step.ok = false ∧ S.step.S = S := by
  have hkof : ∀ c ∈ S.l, kOf S.l c.n = 1 := fun c hc => by rw [kOf_mem h.ok.sorted hc, h.one c hc]
  have hpos : ∀ c ∈ S.l, 0 < c.n := fun c hc => (h.ok.low c hc).1
  by_cases hl : S.l.length < 2
  · rw [if_pos hl]
    have hch : chooseN (kOf S.l) S.cs (S.l.map (·.n)) = 0 := by
      rw [h.cs]
      cases e : S.l with
      | nil => rfl
      | cons a L =>
        cases L with
        | cons b L => rw [e] at hl; simp at hl; omega
        | nil =>
          have h1 := hkof a (by rw [e]; simp)
          have h2 := hpos a (by rw [e]; simp)
          rw [e] at h1
          unfold chooseN
          simp only [List.map_cons, List.map_nil, bestOf, true_or, if_true, h1]
          rw [if_pos ⟨h2, by omega, by simp⟩]
    have hs : S.step = ⟨{ S.more 0 with l := bump (S.more 0).l (S.last + 1) }, S.last + 1, 1, true⟩ := by
      unfold Pl.step
      rw [hch]
      rfl
    obtain ⟨a1, a2⟩ := num_new h hl hlast hs
    refine ⟨by rw [hs], by rw [hs], by rw [hs], a1, a2⟩
  · rw [if_neg hl]
    have hb : bestOf (kOf S.l) 0 (S.l.map (·.n)) ∈ S.l.map (·.n) := by
      rcases best_in (kOf S.l) (S.l.map (·.n)) 0 with e | e
      · exfalso
        cases e1 : S.l with
        | nil => rw [e1] at hl; simp at hl
        | cons a L =>
          rw [e1] at e
          simp only [List.map_cons, bestOf, true_or, if_true] at e
          rcases best_in (kOf (a :: L)) (L.map (·.n)) a.n with e2 | e2
          · have := hpos a (by rw [e1]; simp)
            omega
          · rw [e] at e2
            obtain ⟨c, hc, he⟩ := List.mem_map.1 e2
            have := hpos c (by rw [e1]; simp [hc])
            omega
      · exact e
    obtain ⟨c, hc, he⟩ := List.mem_map.1 hb
    have hch : chooseN (kOf S.l) S.cs (S.l.map (·.n)) = c.n := by
      unfold chooseN
      rw [if_neg (by rw [h.cs, List.length_map]; omega)]
      exact he.symm
    have hs : S.step = ⟨S, 0, 0, false⟩ := by
      unfold Pl.step
      dsimp only
      rw [hch, if_neg (by have := hpos c hc; omega), hkof c hc, h.ids, if_neg (by omega)]
    rw [hs]
    exact ⟨rfl, rfl⟩

set_option maxRecDepth 100000 in
set_option maxHeartbeats 8000000 in
theorem numbers_said (l : List UInt8) (v : Value) (w : World) (hR : Reads w v 1 l.length (l.flatMap fun b => [bv b])) :
    Calls Try.prog 4 #[v] w fun e w' => e = .returned (.bool true) ∧ Below w.heap.size w w' := by
  have hla := hR.2.1
  unfold maxLen at hla
  obtain ⟨a, cap, rfl, h⟩ := hR.opened (fun _ _ => rfl) (by decide)
  have HH := Lib.hid h
  clear hR h
  go_enter Try.func4, Try.ntmps4
  go_wp2_with fail
  refine (known21 _).mono ?_
  rintro e w1 ⟨rfl, W1⟩
  by_cases h30 : 30 < l.length
  · have q1 : decide ((30 : Int) < (l.length : Int)) = true := decide_eq_true (by omega)
    go_wp2_with fail
    go_ret
    exact ⟨rfl, W1⟩
  have q1 : decide ((30 : Int) < (l.length : Int)) = false := decide_eq_false (by omega)
  go_wp2_with fail
  refine (pnew_any 1 2 1 (by decide) (by decide) (by decide) w1).mono ?_
  rintro e w2 ⟨pb, rfl, p2, W2⟩
  replace W2 := below_later W1 W2
  have hB := W1.size
  generalize w1.heap.size = B at *
  clear W1 q1
  have hN : Num ⟨1, 2, 1, 0, []⟩ := ⟨by obtain ⟨_, _, _, h⟩ := p2; exact h.ok, fun c h => (by cases h), rfl, rfl, fun c h => (by cases h), by simp⟩
  go_wp2_with fail
  go_loopw [4, 5] (fun la i wr => ∃ (j : Nat) (S : Pl), j ≤ l.length ∧ i = .int .i64 j ∧ la = .int .i64 (S.last : Int) ∧ S.last ≤ j ∧ Num S ∧ PoolAt B wr pb S ∧ Below w.heap.size w wr) (fun _ i _ => l.length - (zOf i).toNat)
  case atStart => exact ⟨0, _, Nat.zero_le _, rfl, rfl, Nat.le_refl _, hN, p2, W2⟩
  case round =>
    obtain ⟨j, S, hj, rfl, rfl, hsl, hS, pS, hW⟩ := hrel
    by_cases hlt : j < l.length
    · obtain ⟨b, off, rfl, hbl, hc⟩ := HH.out (by omega)
      have d0 : w.cell? ⟨b, off + j, none⟩ = some (.int .u8 (l[j].toNat : Int)) := by have := hc j hlt 0 _ rfl; rwa [Nat.mul_one, Nat.add_zero] at this
      rw [← hW.cell hbl] at d0
      have hz := Nat.lt_of_lt_of_le hbl hW.size
      have hx : l[j].toNat < 256 := l[j].toNat_lt
      generalize l[j].toNat = x at *
      clear hc
      have q1 : decide ((j : Int) < (l.length : Int)) = true := decide_eq_true (by omega)
      have q2 : decide ((j : Int) < 0) = false := decide_eq_false (by omega)
      have q3 : decide ((l.length : Int) ≤ (j : Int)) = false := decide_eq_false (by omega)
      by_cases h3 : (x : Int) % 3 = 0
      · go_wp2_with fail
        refine (pconns_any B _ pb S pS).mono ?_
        rintro e w3 ⟨v3, rfl, hr3, W3⟩
        obtain ⟨a3, cp3, rfl⟩ := own_slice hr3
        clear hr3
        have p3 := pS.keep W3
        have hW3 := below_later hW W3
        rw [← W3.cell hz] at d0
        replace hz := Nat.lt_of_lt_of_le hz W3.size
        by_cases hl0 : 0 < S.l.length
        · have q4 : decide ((0 : Int) < (S.l.length : Int)) = true := decide_eq_true (by omega)
          go_wp2_with fail
          refine (pconns_any B _ pb S p3).mono ?_
          rintro e w4 ⟨v4, rfl, hr4, W4⟩
          obtain ⟨g, cap4, rfl, _, hgl, hc4⟩ := own_open hr4 hl0
          have p4 := p3.keep W4
          have hW4 := below_later hW3 W4
          rw [← W4.cell hz] at d0
          replace hz := Nat.lt_of_lt_of_le hz W4.size
          obtain ⟨idx, hidx, hil⟩ : ∃ idx : Nat, (x : Int) % (S.l.length : Int) = (idx : Int) ∧ idx < S.l.length := ⟨x % S.l.length, rfl, Nat.mod_lt _ hl0⟩
          have e0 := hc4 idx (.int .i64 (S.l[idx].n : Int)) (by simp [hil])
          have hmem : S.l[idx] ∈ S.l := List.getElem_mem hil
          generalize S.l[idx] = c at *
          have hC := pclose_some B w4 pb S p4 c hmem
          rw [hS.one c hmem] at hC
          have HC := Lib.hid hC
          have q5 : decide ((idx : Int) < 0) = false := decide_eq_false (by omega)
          have q6 : decide ((S.l.length : Int) ≤ (idx : Int)) = false := decide_eq_false (by omega)
          have q7 : decide ((S.l.length : Int) = 0) = false := decide_eq_false (by omega)
          have q8 : ((S.l.length : Int) == 0) = false := by rw [beq_eq_false_iff_ne]; omega
          clear hr4 hc4 hC
          go_wp2_with fail
          refine HC.out.mono ?_
          rintro e w5 ⟨v5, rfl, hr5, p5, W5⟩
          obtain ⟨g5, cap5, rfl, _, hgl5, hc5⟩ := own_open hr5 (by omega)
          have f0 := hc5 0 (.int .i64 1) rfl
          clear hr5 hc5
          go_wp2_with fail
          go_roundw
          case rel => exact ⟨j + 1, { S with l := dropC S.l c.n }, by omega, by go_num, rfl, Nat.le_succ_of_le hsl, hS.drop _, p5, hW4.trans (W5.mono hB)⟩
          case measure => simp [zOf]; omega
        · have hl1 : S.l.length = 0 := by omega
          have q4 : decide ((0 : Int) < (S.l.length : Int)) = false := decide_eq_false (by omega)
          go_wp2_with fail
          have hnum := num_step hS (by omega)
          refine (pconns_any B _ pb S p3).mono ?_
          rintro e w8 ⟨v8, rfl, hr8, W8⟩
          obtain ⟨a8, c8, rfl⟩ := own_slice hr8
          clear hr8
          have p8 := p3.keep W8
          have hW8 := below_later hW3 W8
          have hO := popen_step B w8 pb S p8 hS.zero (by omega)
          by_cases h2 : S.l.length < 2
          · rw [if_pos h2] at hnum
            obtain ⟨n1, n2, n3, n4, n5⟩ := hnum
            rw [n1, n2, n3] at hO
            have q7 : decide ((S.l.length : Int) < 2) = true := decide_eq_true (by omega)
            have e1 : ((S.last + 1 : Nat) : Int) = (S.last : Int) + 1 := by omega
            rw [e1] at hO
            simp only [errO, if_true] at hO
            have HO := Lib.hid hO
            have HN := Lib.hid (And.intro n4 n5)
            clear hO n1 n2 n3 n4 n5 e1
            generalize S.step.S = S2 at *
            go_wp2_with fail
            refine HO.out.mono ?_
            rintro e w9 ⟨rfl, p9, W9⟩
            go_wp2_with fail
            go_roundw
            case rel => exact ⟨j + 1, S2, by omega, by go_num, by rw [HN.out.2]; go_num, by rw [HN.out.2]; omega, HN.out.1, p9, hW8.trans (W9.mono hB)⟩
            case measure => simp [zOf]; omega
          · exact absurd (by omega) h2
      · go_wp2_with fail
        have hnum := num_step hS (by omega)
        refine (pconns_any B _ pb S pS).mono ?_
        rintro e w8 ⟨v8, rfl, hr8, W8⟩
        obtain ⟨a8, c8, rfl⟩ := own_slice hr8
        clear hr8
        have p8 := pS.keep W8
        have hW8 := below_later hW W8
        have hO := popen_step B w8 pb S p8 hS.zero (by omega)
        by_cases h2 : S.l.length < 2
        · rw [if_pos h2] at hnum
          obtain ⟨n1, n2, n3, n4, n5⟩ := hnum
          rw [n1, n2, n3] at hO
          have q7 : decide ((S.l.length : Int) < 2) = true := decide_eq_true (by omega)
          have e1 : ((S.last + 1 : Nat) : Int) = (S.last : Int) + 1 := by omega
          rw [e1] at hO
          simp only [errO, if_true] at hO
          have HO := Lib.hid hO
          have HN := Lib.hid (And.intro n4 n5)
          clear hO n1 n2 n3 n4 n5 e1
          generalize S.step.S = S2 at *
          go_wp2_with fail
          refine HO.out.mono ?_
          rintro e w9 ⟨rfl, p9, W9⟩
          go_wp2_with fail
          go_roundw
          case rel => exact ⟨j + 1, S2, by omega, by go_num, by rw [HN.out.2]; go_num, by rw [HN.out.2]; omega, HN.out.1, p9, hW8.trans (W9.mono hB)⟩
          case measure => simp [zOf]; omega
        · rw [if_neg h2] at hnum
          obtain ⟨n1, n2⟩ := hnum
          rw [n1, n2] at hO
          have q7 : decide ((S.l.length : Int) < 2) = false := decide_eq_false (by omega)
          generalize S.step.n = on at *
          generalize S.step.id = oi at *
          have hE : errO false = eV 16 := rfl
          rw [hE] at hO
          have HO := Lib.hid hO
          clear hO n1 n2 hE
          go_wp2_with fail
          refine HO.out.mono ?_
          rintro e w9 ⟨rfl, p9, W9⟩
          go_wp2_with fail
          go_roundw
          case rel => exact ⟨j + 1, S, by omega, by go_num, rfl, by omega, hS, p9, hW8.trans (W9.mono hB)⟩
          case measure => simp [zOf]; omega
    · obtain rfl : j = l.length := by omega
      have q1 : decide ((l.length : Int) < (l.length : Int)) = false := decide_eq_false (by omega)
      have hw5 : (Lit.int .i64 ((S.last : Int) + 5)).wf = true := wf_small (by omega) (by omega)
      have hC := pclose_none B _ pb S pS ((S.last : Int) + 5) hw5 (fun c hc => by have := hS.ok.low c hc; omega)
      have HC := Lib.hid hC
      clear hC
      go_wp2_with fail
      refine HC.out.mono ?_
      rintro e w9 ⟨rfl, W9⟩
      go_wp2_with fail
      go_ret
      exact ⟨rfl, below_later hW W9⟩
end Go.Proofs.Ytihfibelklhkbaa
