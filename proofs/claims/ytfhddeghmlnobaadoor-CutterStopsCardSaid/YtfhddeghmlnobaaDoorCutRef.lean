/- What the reference's cutter computes: the same; Feed, dead or not. Conditions: the box of a cutter; for the package's, the errors' variable. -/
import Derived.Test.YtfhddeghmlnobaaDoorCutFeed
import Derived.Test.YtfhddeghmlnobaaDoorCutLaws
import Derived.Test.YtfhddeghmlnobaaDoorReadRef
namespace Go.Proofs.YtfhddeghmlnobaaDoor
open Go.RowKit

theorem cfeed_any (b : Nat) (s chunk : Bs) (most : Int) (d : Bool) (w : World) (hb : w.heap[b]? = some (cutObj s most d)) (hg : w.cell? ⟨0, 0, none⟩ = some errTypeV) (hne : 0 ≠ b) (hl : s.length + chunk.length ≤ 1000000) :
    Calls Tryd.prog 21 #[.pointer (some ⟨b, 0, none⟩), .string (bs chunk)] w fun e w' => ∃ v, e = .returned (.tuple #[v, errV (cutFeed most d s chunk).2.1]) ∧ w'.ownsRow w.heap.size 58 4 v (cutFeed most d s chunk).1.length (recCells (cutFeed most d s chunk).1) ∧
      w'.heap[b]? = some (cutObj (cutFeed most d s chunk).2.2.1 most (cutFeed most d s chunk).2.2.2) ∧ Only b w w' := by
  cases d
  · exact cfeed_live b s chunk most w hb hg hne hl
  · refine (cfeed_dead b s chunk most w hb).mono ?_
    rintro e w' ⟨rfl, rfl⟩
    exact ⟨_, rfl, ⟨rfl, .inl ⟨rfl, rfl⟩⟩, hb, Rg.Step.refl _ _⟩

theorem rdies_any (b : Nat) (s : Bs) (most c : Int) (d : Bool) (w : World) (hb : w.heap[b]? = some (rcutObj most s d)) :
    Calls Tryd.prog 56 #[.pointer (some ⟨b, 0, none⟩), .int .i64 c] w fun e w' => e = .returned (.int .i64 c) ∧ w'.heap[b]? = some (rcutObj most [] true) ∧ Only b w w' := by
  have d0 := box_cells hb 0
  have d1 := box_cells hb 1
  have d2 := box_cells hb 2
  have g1 := box_free hb 1
  have g2 := box_free hb 2
  have z := box_lt hb
  go_enter Tryd.func56, Tryd.ntmps56
  go_wp2_with fail
  go_ret
  have h := rcut_set (rcut_kill hb true) []
  exact ⟨rfl, h, only_trans (only_set w 2 (.bool true)) (only_set _ 1 (.string (bs [])))⟩

set_option maxRecDepth 100000 in
theorem rcfeed_dead (b : Nat) (s chunk : Bs) (most : Int) (w : World) (hb : w.heap[b]? = some (rcutObj most s true)) :
    Calls Tryd.prog 22 #[.pointer (some ⟨b, 0, none⟩), .string (bs chunk)] w fun e w' => e = .returned (.tuple #[.slice none 0 0, .int .i64 18]) ∧ w' = w := by
  have c2 := box_cells hb 2
  have z := box_lt hb
  go_enter Tryd.func22, Tryd.ntmps22
  go_wp2_with fail
  exact bodyPost_ret (v := .tuple #[.slice none 0 0, .int .i64 18]) (by simp [results, Tryd.results22, go_sem]; try rfl) rfl ⟨rfl, rfl⟩

def rwaitLen (b : Nat) (w : World) : Nat := match w.cell? ⟨b, 1, none⟩ with | some (.string c) => c.size | _ => 0
theorem rwaitLen_of {b : Nat} {w : World} {s : Bs} {most : Int} {d : Bool} (h : w.heap[b]? = some (rcutObj most s d)) : rwaitLen b w = s.length := by
  have := box_cells h 1
  unfold rwaitLen
  rw [this]
  simp [bs_size]

set_option maxRecDepth 100000 in
set_option maxHeartbeats 8000000 in
theorem rcfeed_live (b : Nat) (s chunk : Bs) (most : Int) (w : World) (hb : w.heap[b]? = some (rcutObj most s false)) (hl : s.length + chunk.length ≤ 1000000) :
    Calls Tryd.prog 22 #[.pointer (some ⟨b, 0, none⟩), .string (bs chunk)] w fun e w' => ∃ v, e = .returned (.tuple #[v, .int .i64 (cutRun most (s ++ chunk)).2.1]) ∧ w'.ownsRow w.heap.size 58 4 v (cutRun most (s ++ chunk)).1.length (recCells (cutRun most (s ++ chunk)).1) ∧
      w'.heap[b]? = some (rcutObj most (cutRun most (s ++ chunk)).2.2.1 (cutRun most (s ++ chunk)).2.2.2) ∧ Only b w w' := by
  have c1 := box_cells hb 1
  have c2 := box_cells hb 2
  have f1 := box_free hb 1
  have z := box_lt hb
  generalize hR : cutRun most (s ++ chunk) = R at *
  obtain ⟨L, C, S, D⟩ := R
  simp only
  have HR := Lib.hid hR
  have hlen : (s ++ chunk).length ≤ 1000000 := by rw [List.length_append]; omega
  have HLN := Lib.hid hlen
  clear hR hlen
  go_enter Tryd.func22, Tryd.ntmps22
  go_wp2_with fail
  clear c1 c2 f1
  go_loopw [6] (fun o wr => ∃ (acc : List Rec) (rest : Bs), wr.heap[b]? = some (rcutObj most rest false) ∧ (L, C, S, D) = glueC acc (cutRun most rest) ∧ acc.length + rest.length ≤ (s ++ chunk).length ∧ wr.ownsRow w.heap.size 58 4 o acc.length (recCells acc) ∧ Only b w wr) (fun _ wr => rwaitLen b wr)
  case atStart => exact ⟨[], s ++ chunk, rcut_set hb _, by rw [HR.out]; rfl, by simp, ⟨rfl, .inl ⟨rfl, rfl⟩⟩, only_set _ _ _⟩
  case round =>
    obtain ⟨acc, rest, e0, hsp, hle, hrow, hW⟩ := hrel
    have hN := fun w' => rread_any rest w'
    have hlt := cutNext_lt most rest
    have hre := cutNext_rest most rest
    have hs0 := glueC_step acc most rest
    have hs1 := glueC_lacks acc most rest
    have hs2 := glueC_bad acc most rest
    have hdef := cutNext_def most rest
    have d0 := box_cells e0 0
    have d1 := box_cells e0 1
    have z0 := box_lt e0
    have a4 := at0_lo rest 4
    have b4 := at0_hi rest 4
    have a5 := at0_lo rest 5
    have b5 := at0_hi rest 5
    have hz := hW.size
    have HWL := Lib.hid (rwaitLen_of e0)
    have HLE := Lib.hid hle
    clear hle
    by_cases hLg : Large most rest
    · rw [if_pos hLg] at hdef
      rw [hs2 (by rw [hdef]; simp) (by rw [hdef]; simp), hdef] at hsp
      simp only at hsp
      obtain ⟨rfl, rfl, rfl, rfl⟩ : L = acc ∧ C = 12 ∧ S = [] ∧ D = true := by simpa using hsp
      obtain ⟨l1, l2, l3⟩ := hLg
      have q1 : decide ((6 : Int) ≤ (rest.length : Int)) = true := by simp; omega
      have q2 : (at0 rest 0 == 1) = true := by simpa using l2
      have q3 : decide (most < at0 rest 4 * 256 + at0 rest 5) = true := by simpa using l3
      clear hlt hre hs0 hs1 hs2 hsp hdef hN l2 l3
      go_wp2_with fail
      go_quiet (fail)
      go_wp2_with fail
      obtain ⟨u, hu⟩ : ∃ u, u = wr.drewN nq := ⟨_, rfl⟩
      replace e0 : u.heap[b]? = some (rcutObj most rest false) := by rw [hu]; exact e0
      replace hW : Only b w u := by rw [hu]; exact only_drewN hW _
      replace hrow : u.ownsRow w.heap.size 58 4 u6 L.length (recCells L) := by rw [hu]; exact hrow
      rw [← hu]
      clear hu
      refine (rdies_any b rest most 12 false _ e0).mono ?_
      rintro e w1 ⟨rfl, e1, hon⟩
      have W1 := only_trans hW hon
      replace hrow := own_only hrow hon z
      go_wp2_with fail
      exact bodyPost_ret (v := .tuple #[u6, .int .i64 12]) (by simp [results, Tryd.results22, go_sem]) rfl ⟨_, rfl, hrow, e1, W1⟩
    · rw [if_neg hLg] at hdef
      rw [hdef] at hlt hre hs0 hs1 hs2
      have arms : (decide ((6 : Int) ≤ (rest.length : Int)) = false) ∨ (6 ≤ rest.length ∧ decide ((6 : Int) ≤ (rest.length : Int)) = true ∧ (at0 rest 0 == 1) = false) ∨ (6 ≤ rest.length ∧ decide ((6 : Int) ≤ (rest.length : Int)) = true ∧ (at0 rest 0 == 1) = true ∧ decide (most < at0 rest 4 * 256 + at0 rest 5) = false) := by
        by_cases h1 : 6 ≤ rest.length
        · right
          have q1 : decide ((6 : Int) ≤ (rest.length : Int)) = true := by simp; omega
          by_cases h2 : at0 rest 0 = 1
          · right
            exact ⟨h1, q1, by simpa using h2, by simp; have h3 : ¬ most < at0 rest 4 * 256 + at0 rest 5 := fun h3 => hLg ⟨h1, h2, h3⟩; omega⟩
          · left; exact ⟨h1, q1, by simpa using h2⟩
        · left; simp; omega
      clear hLg hdef
      generalize recRead rest = q at *
      obtain ⟨x, rest', c⟩ := q
      obtain ⟨xt, xi, xc, xp⟩ := x
      simp only at hlt hre hs0 hs1 hs2 hN
      have HN := Lib.hid hN
      clear hN
      by_cases hc0 : c = 0
      · subst hc0
        rw [hs0 rfl] at hsp
        have HSP := Lib.hid hsp
        have HL := Lib.hid (hlt rfl)
        clear hlt hre hs0 hs1 hs2 hsp
        rcases arms with q1 | ⟨h1, q1, q2⟩ | ⟨h1, q1, q2, q3⟩
        all_goals
          go_wp2_with fail
          go_quiet (fail)
          go_wp2_with fail
          obtain ⟨u, hu⟩ : ∃ u, u = wr.drewN nq := ⟨_, rfl⟩
          replace e0 : u.heap[b]? = some (rcutObj most rest false) := by rw [hu]; exact e0
          replace hW : Only b w u := by rw [hu]; exact only_drewN hW _
          replace hrow : u.ownsRow w.heap.size 58 4 u6 acc.length (recCells acc) := by rw [hu]; exact hrow
          rw [← hu]
          clear hu
          refine (HN.out _).mono ?_
          rintro e w1 ⟨rfl, hbw⟩
          replace e0 := kept e0 hbw
          replace hrow := own_kept hrow hbw
          have W1 := only_trans hW (only_below hbw)
          clear hbw hW z0 d0 d1
          have d0 := box_cells e0 0
          have d1 := box_cells e0 1
          have d2 := box_cells e0 2
          have g1 := box_free e0 1
          have z0 := box_lt e0
          have r1 := row_rec (w1.alloc (.cells #[.int .i64 xt, .int .i64 xi, .string (bs xc), .int .i64 xp] 58)) ⟨xt, xi, xc, xp⟩
          rw [show (w1.alloc (.cells #[.int .i64 xt, .int .i64 xi, .string (bs xc), .int .i64 xp] 58)).heap.size = w1.heap.size + 1 from by simp] at r1
          have zs := W1.size
          have o2 := own_up (B := w.heap.size) r1.1 (fun k hk => by have h : k = w1.heap.size + 1 := r1.2 k hk; omega)
          have o1 := (hrow.alloc (.cells #[.int .i64 xt, .int .i64 xi, .string (bs xc), .int .i64 xp] 58)).alloc (.cells #[.int .i64 xt, .int .i64 xi, .string (bs xc), .int .i64 xp] 58)
          have W2 := only_trans (only_trans W1 (only_new _ (.cells #[.int .i64 xt, .int .i64 xi, .string (bs xc), .int .i64 xp] 58))) (only_new _ (.cells #[.int .i64 xt, .int .i64 xi, .string (bs xc), .int .i64 xp] 58))
          have e2 := keep_new (.cells #[.int .i64 xt, .int .i64 xi, .string (bs xc), .int .i64 xp] 58) (keep_new (.cells #[.int .i64 xt, .int .i64 xi, .string (bs xc), .int .i64 xp] 58) e0)
          have HE2 := Lib.hid e2
          have hbd : acc.length + 1 ≤ 1000000000 := by have := HLE.out; have := HLN.out; omega
          have HBD := Lib.hid hbd
          clear r1 hrow e2 hbd d0 d1 d2 g1 e0
          simp only at o2
          go_wp2_with (at_builtin; refine wpList_append_rows o1 o2 W2.size (rec_one _) HBD.out rfl _ _ rfl rfl rfl rfl ?_; intro v4 w4 o4 hb4; have W4 := only_then W2 hb4; have e4 : w4.heap[b]? = some (rcutObj most rest false) := (hb4.block b z).trans HE2.out; have k1 := box_cells e4 1; have k2 := box_free e4 1; have z4 := box_lt e4)
          have e5 := rcut_set e4 rest'
          have W5 := only_trans W4 (only_set w4 1 (.string (bs rest')))
          have o5 := own_only o4 (only_set w4 1 (.string (bs rest'))) z
          have h5 := rwaitLen_of e5
          go_roundw
          case rel =>
            have h1 := HLE.out
            have h2 := HL.out
            have h3 : (acc ++ [(⟨xt, xi, xc, xp⟩ : Rec)]).length = acc.length + 1 := by simp
            refine ⟨acc ++ [⟨xt, xi, xc, xp⟩], rest', e5, HSP.out, by omega, ?_, W5⟩
            rw [recCells_append, List.length_append]
            exact o5
          case measure => have := HWL.out; have := HL.out; omega
      · by_cases hc1 : c = 11
        · subst hc1
          rw [hs1 rfl] at hsp
          obtain ⟨rfl, rfl, rfl, rfl⟩ : L = acc ∧ C = 0 ∧ S = rest ∧ D = false := by simpa using hsp
          clear hlt hre hs0 hs1 hs2 hsp hc0
          rcases arms with q1 | ⟨h1, q1, q2⟩ | ⟨h1, q1, q2, q3⟩
          all_goals
            go_wp2_with fail
            go_quiet (fail)
            go_wp2_with fail
            obtain ⟨u, hu⟩ : ∃ u, u = wr.drewN nq := ⟨_, rfl⟩
            replace e0 : u.heap[b]? = some (rcutObj most S false) := by rw [hu]; exact e0
            replace hW : Only b w u := by rw [hu]; exact only_drewN hW _
            replace hrow : u.ownsRow w.heap.size 58 4 u6 L.length (recCells L) := by rw [hu]; exact hrow
            rw [← hu]
            clear hu
            refine (HN.out _).mono ?_
            rintro e w1 ⟨rfl, hbw⟩
            replace e0 := kept e0 hbw
            replace hrow := own_kept hrow hbw
            have W1 := only_trans hW (only_below hbw)
            clear hbw hW z0 d0 d1
            go_wp2_with fail
            exact bodyPost_ret (v := .tuple #[u6, .int .i64 0]) (by simp [results, Tryd.results22, go_sem]) rfl ⟨_, rfl, hrow.alloc _, keep_new _ e0, only_trans W1 (only_new _ _)⟩
        · rw [hs2 hc0 hc1] at hsp
          obtain ⟨rfl, rfl, rfl, rfl⟩ : L = acc ∧ C = c ∧ S = [] ∧ D = true := by simpa using hsp
          have q11 : (C == 11) = false := by simpa using hc1
          have q00 : (C != 0) = true := by simpa using hc0
          clear hlt hre hs0 hs1 hs2 hsp hc0 hc1
          rcases arms with q1 | ⟨h1, q1, q2⟩ | ⟨h1, q1, q2, q3⟩
          all_goals
            go_wp2_with fail
            go_quiet (fail)
            go_wp2_with fail
            obtain ⟨u, hu⟩ : ∃ u, u = wr.drewN nq := ⟨_, rfl⟩
            replace e0 : u.heap[b]? = some (rcutObj most rest false) := by rw [hu]; exact e0
            replace hW : Only b w u := by rw [hu]; exact only_drewN hW _
            replace hrow : u.ownsRow w.heap.size 58 4 u6 L.length (recCells L) := by rw [hu]; exact hrow
            rw [← hu]
            clear hu
            refine (HN.out _).mono ?_
            rintro e w1 ⟨rfl, hbw⟩
            replace e0 := kept e0 hbw
            replace hrow := own_kept hrow hbw
            have W1 := only_trans hW (only_below hbw)
            clear hbw hW z0 d0 d1
            replace hrow := hrow.alloc (.cells #[.int .i64 xt, .int .i64 xi, .string (bs xc), .int .i64 xp] 58)
            replace e0 := keep_new (.cells #[.int .i64 xt, .int .i64 xi, .string (bs xc), .int .i64 xp] 58) e0
            replace W1 := only_trans W1 (only_new _ (.cells #[.int .i64 xt, .int .i64 xi, .string (bs xc), .int .i64 xp] 58))
            go_wp2_with fail
            refine (rdies_any b rest most C false _ e0).mono ?_
            rintro e w2 ⟨rfl, e2, hon⟩
            have W2 := only_trans W1 hon
            replace hrow := own_only hrow hon z
            go_wp2_with fail
            exact bodyPost_ret (v := .tuple #[u6, .int .i64 C]) (by simp [results, Tryd.results22, go_sem]) rfl ⟨_, rfl, hrow, e2, W2⟩

theorem rcfeed_any (b : Nat) (s chunk : Bs) (most : Int) (d : Bool) (w : World) (hb : w.heap[b]? = some (rcutObj most s d)) (hl : s.length + chunk.length ≤ 1000000) :
    Calls Tryd.prog 22 #[.pointer (some ⟨b, 0, none⟩), .string (bs chunk)] w fun e w' => ∃ v, e = .returned (.tuple #[v, .int .i64 (cutFeed most d s chunk).2.1]) ∧ w'.ownsRow w.heap.size 58 4 v (cutFeed most d s chunk).1.length (recCells (cutFeed most d s chunk).1) ∧
      w'.heap[b]? = some (rcutObj most (cutFeed most d s chunk).2.2.1 (cutFeed most d s chunk).2.2.2) ∧ Only b w w' := by
  cases d
  · exact rcfeed_live b s chunk most w hb hl
  · refine (rcfeed_dead b s chunk most w hb).mono ?_
    rintro e w' ⟨rfl, rfl⟩
    exact ⟨_, rfl, ⟨rfl, .inl ⟨rfl, rfl⟩⟩, hb, Rg.Step.refl _ _⟩
end Go.Proofs.YtfhddeghmlnobaaDoor
