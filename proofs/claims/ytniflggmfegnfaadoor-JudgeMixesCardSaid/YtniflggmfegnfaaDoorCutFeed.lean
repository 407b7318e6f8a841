/- What the cutter's Feed computes. Conditions: the box of a cutter; the package errors' variable. -/
import Derived.Test.YtniflggmfegnfaaDoorCut
namespace Go.Proofs.YtniflggmfegnfaaDoor
open Go.RowKit

set_option maxRecDepth 100000 in
set_option maxHeartbeats 4000000 in
theorem cfeed_dead (b : Nat) (s chunk : Bs) (most : Int) (w : World) (hb : w.heap[b]? = some (cutObj s most true)) :
    Calls Tryd.prog 24 #[.pointer (some ⟨b, 0, none⟩), .string (bs chunk)] w fun e w' => e = .returned (.tuple #[.slice none 0 0, eV 18]) ∧ w' = w := by
  have c2 := box_cells hb 2
  have z := box_lt hb
  go_enter Tryd.func24, Tryd.ntmps24
  go_wp2_with fail
  exact bodyPost_ret (v := .tuple #[.slice none 0 0, eV 18]) (by simp [results, Tryd.results24, go_sem]; try rfl) rfl ⟨rfl, rfl⟩

theorem own_only {B b : Nat} {e : TypeId} {size n : Nat} {xs : List Value} {v : Value} {w w' : World} (h : w.ownsRow B e size v n xs) (hs : Only b w w') (hb : b < B) : w'.ownsRow B e size v n xs :=
  Rg.ownsRow_step h hs (fun k hk => by have := (h.lt k hk).1; omega)
theorem only_then {b : Nat} {w w1 w2 : World} (h : Only b w w1) (k : Below w.heap.size w1 w2) : Only b w w2 :=
  ⟨k.os.trans h.os, k.tape.trans h.tape, k.output.trans h.output, Nat.le_trans h.size k.size, fun i hi hn => (k.block i hi).trans (h.block i hi hn)⟩
theorem only_drewN {b : Nat} {w w1 : World} (h : Only b w w1) (n : Nat) : Only b w (w1.drewN n) := ⟨h.os, h.tape, h.output, h.size, h.block⟩
theorem only_box {b c : Nat} {w w' : World} (hB : ∀ B, B ≤ c → B ≤ w.heap.size → Below B w w') (w0 : World) (h : Only b w0 w) (hc : w0.heap.size ≤ c) : Only b w0 w' :=
  have k := hB w0.heap.size hc h.size
  ⟨k.os.trans h.os, k.tape.trans h.tape, k.output.trans h.output, Nat.le_trans h.size k.size, fun i hi hn => (k.block i hi).trans (h.block i hi hn)⟩
def waitLen (b : Nat) (w : World) : Nat := match w.cell? ⟨b, 0, none⟩ with | some (.string c) => c.size | _ => 0

theorem waitLen_of {b : Nat} {w : World} {s : Bs} {most : Int} {d : Bool} (h : w.heap[b]? = some (cutObj s most d)) : waitLen b w = s.length := by
  have := box_cells h 0
  unfold waitLen
  rw [this]
  simp [bs_size]
set_option maxRecDepth 100000 in
set_option maxHeartbeats 8000000 in
theorem cfeed_live (b : Nat) (s chunk : Bs) (most : Int) (w : World) (hb : w.heap[b]? = some (cutObj s most false)) (hg : w.cell? ⟨0, 0, none⟩ = some errTypeV) (hne : 0 ≠ b) (hl : s.length + chunk.length ≤ 1000000) :
    Calls Tryd.prog 24 #[.pointer (some ⟨b, 0, none⟩), .string (bs chunk)] w fun e w' => ∃ v, e = .returned (.tuple #[v, errV (cutRun most (s ++ chunk)).2.1]) ∧ w'.ownsRow w.heap.size 33 4 v (cutRun most (s ++ chunk)).1.length (recCells (cutRun most (s ++ chunk)).1) ∧
      w'.heap[b]? = some (cutObj (cutRun most (s ++ chunk)).2.2.1 most (cutRun most (s ++ chunk)).2.2.2) ∧ Only b w w' := by
  have hg' : ∀ w', Only b w w' → w'.cell? ⟨0, 0, none⟩ = some errTypeV := fun w' h => by rw [only_cell h (World.block_lt_of_cell? w _ hg) hne]; exact hg
  have HG := Lib.hid hg'
  clear hg hg'
  have c0 := box_cells hb 0
  have c2 := box_cells hb 2
  have f0 := box_free hb 0
  have z := box_lt hb
  have hgl : glueC [] (cutRun most (s ++ chunk)) = cutRun most (s ++ chunk) := glueC_nil _
  generalize hR : cutRun most (s ++ chunk) = R at *
  obtain ⟨L, C, S, D⟩ := R
  simp only at hgl ⊢
  have HR := Lib.hid hR
  have hlen : (s ++ chunk).length ≤ 1000000 := by rw [List.length_append]; omega
  have HLN := Lib.hid hlen
  clear hgl hR hlen
  go_enter Tryd.func24, Tryd.ntmps24
  go_wp2_with fail
  clear c0 c2 f0
  go_loopw [6] (fun o wr => ∃ (acc : List Rec) (rest : Bs), wr.heap[b]? = some (cutObj rest most false) ∧ (L, C, S, D) = glueC acc (cutRun most rest) ∧ acc.length + rest.length ≤ (s ++ chunk).length ∧ wr.ownsRow w.heap.size 33 4 o acc.length (recCells acc) ∧ Only b w wr) (fun _ wr => waitLen b wr)
  case atStart => exact ⟨[], s ++ chunk, cut_set hb _, by rw [HR.out]; rfl, by simp, ⟨rfl, .inl ⟨rfl, rfl⟩⟩, only_set _ _ _⟩
  case round =>
    obtain ⟨acc, rest, e0, hsp, hle, hrow, hW⟩ := hrel
    have hN := fun w' h => cnext_any b rest most false w' h
    have hlt := cutNext_lt most rest
    have hre := cutNext_rest most rest
    have hs0 := glueC_step acc most rest
    have hs1 := glueC_lacks acc most rest
    have hs2 := glueC_bad acc most rest
    generalize cutNext most rest = q at *
    obtain ⟨x, rest', c⟩ := q
    simp only at hlt hre hs0 hs1 hs2 hN
    have HN := Lib.hid hN
    have HLE := Lib.hid hle
    have hz := hW.size
    have hwl := waitLen_of e0
    have HWL := Lib.hid hwl
    clear hN hle hwl
    by_cases hc0 : c = 0
    · subst hc0
      have hl := hlt rfl
      rw [hs0 rfl] at hsp
      have HSP := Lib.hid hsp
      have HL := Lib.hid hl
      rw [errV_zero] at HN
      obtain ⟨xt, xi, xc, xp⟩ := x
      clear hlt hre hs0 hs1 hs2 hsp hl
      go_wp2_with fail
      refine (HN.out _ e0).mono ?_
      rintro e w1 ⟨rfl, e1, hon⟩
      have W1 := only_trans hW hon
      replace hrow := own_only hrow hon z
      clear hon e0 hW hz
      have r1 := row_rec ((w1.alloc (.cells #[.int .i64 xt, .int .i64 xi, .string (bs xc), .int .i64 xp] 33)).alloc (.cells #[.int .i64 0] 46)) ⟨xt, xi, xc, xp⟩
      rw [show ((w1.alloc (.cells #[.int .i64 xt, .int .i64 xi, .string (bs xc), .int .i64 xp] 33)).alloc (.cells #[.int .i64 0] 46)).heap.size = w1.heap.size + 1 + 1 from by simp] at r1
      have zs := W1.size
      have o2 := own_up (B := w.heap.size) r1.1 (fun k hk => by have h : k = w1.heap.size + 1 + 1 := r1.2 k hk; omega)
      have o1 := ((hrow.alloc (.cells #[.int .i64 xt, .int .i64 xi, .string (bs xc), .int .i64 xp] 33)).alloc (.cells #[.int .i64 0] 46)).alloc (.cells #[.int .i64 xt, .int .i64 xi, .string (bs xc), .int .i64 xp] 33)
      have W2 := only_trans (only_trans (only_trans W1 (only_new _ (.cells #[.int .i64 xt, .int .i64 xi, .string (bs xc), .int .i64 xp] 33))) (only_new _ (.cells #[.int .i64 0] 46))) (only_new _ (.cells #[.int .i64 xt, .int .i64 xi, .string (bs xc), .int .i64 xp] 33))
      have e2 := keep_new (.cells #[.int .i64 xt, .int .i64 xi, .string (bs xc), .int .i64 xp] 33) (keep_new (.cells #[.int .i64 0] 46) (keep_new (.cells #[.int .i64 xt, .int .i64 xi, .string (bs xc), .int .i64 xp] 33) e1))
      have HE2 := Lib.hid e2
      have hbd : acc.length + 1 ≤ 1000000000 := by have := HLE.out; have := HLN.out; omega
      have HBD := Lib.hid hbd
      clear r1 hrow e1 e2 hbd
      simp only at o2
      go_wp2_with (at_builtin; refine wpList_append_rows o1 o2 W2.size (rec_one _) HBD.out rfl _ _ rfl rfl rfl rfl ?_; intro v4 w4 o4 hb4)
      have W4 := only_then W2 hb4
      have e4 : w4.heap[b]? = some (cutObj rest' most false) := (hb4.block b z).trans HE2.out
      have h4 := waitLen_of e4
      go_roundw
      case rel =>
        have h1 := HLE.out
        have h2 := HL.out
        have h3 : (acc ++ [(⟨xt, xi, xc, xp⟩ : Rec)]).length = acc.length + 1 := by simp
        refine ⟨acc ++ [⟨xt, xi, xc, xp⟩], rest', e4, HSP.out, by omega, ?_, W4⟩
        rw [recCells_append, List.length_append]
        exact o4
      case measure => have := HWL.out; have := HL.out; omega
    · by_cases hc1 : c = 11
      · subst hc1
        rw [hs1 rfl] at hsp
        obtain ⟨rfl, rfl, rfl, rfl⟩ : L = acc ∧ C = 0 ∧ S = rest ∧ D = false := by simpa using hsp
        have hr := hre (by decide)
        subst hr
        rw [errV_num (by decide)] at HN
        clear hlt hre hs0 hs1 hs2 hsp hc0
        go_wp2_with fail
        refine (HN.out _ e0).mono ?_
        rintro e w1 ⟨rfl, e1, hon⟩
        have W1 := only_trans hW hon
        replace hrow := own_only hrow hon z
        clear hon e0 hW hz
        go_wp2_with fail
        refine (is_num 11 11 _).mono ?_
        rintro e w2 ⟨rfl, rfl⟩
        go_wp2_with fail
        exact bodyPost_ret (v := .tuple #[u6, errV 0]) (by simp [results, Tryd.results24, go_sem]; try rfl) rfl ⟨_, rfl, (hrow.alloc _).alloc _, keep_new _ (keep_new _ e1), only_trans (only_trans W1 (only_new _ _)) (only_new _ _)⟩
      · rw [hs2 hc0 hc1] at hsp
        obtain ⟨rfl, rfl, rfl, rfl⟩ : L = acc ∧ C = c ∧ S = [] ∧ D = true := by simpa using hsp
        rw [errV_num hc0] at HN
        have q11 : (C == 11) = false := by simpa using hc1
        clear hlt hre hs0 hs1 hs2 hsp
        have HC0 := Lib.hid hc0
        clear hc0 hc1
        go_wp2_with fail
        refine (HN.out _ e0).mono ?_
        rintro e w1 ⟨rfl, e1, hon⟩
        have W1 := only_trans hW hon
        replace hrow := own_only hrow hon z
        clear hon e0 hW hz
        go_wp2_with fail
        refine (is_num C 11 _).mono ?_
        rintro e w2 ⟨rfl, rfl⟩
        go_wp2_with fail
        obtain ⟨u, hu⟩ : ∃ u, u = (w1.alloc (.cells #[.int .i64 x.t, .int .i64 x.id, .string (bs x.c), .int .i64 x.p] 33)).alloc (.cells #[.int .i64 0] 46) := ⟨_, rfl⟩
        have be : u.heap[w1.heap.size + 1]? = some (.cells #[.int .i64 0] 46) := by rw [hu]; exact heap_alloc2_new w1 _ _
        have bb : u.heap[b]? = some (cutObj rest' most false) := by rw [hu]; exact keep_new _ (keep_new _ e1)
        have W2 : Only b w u := by rw [hu]; exact only_trans (only_trans W1 (only_new _ _)) (only_new _ _)
        have hkk := fun k hk => (hrow.lt k hk).2
        replace hrow : u.ownsRow w.heap.size 33 4 u6 L.length (recCells L) := by rw [hu]; exact (hrow.alloc _).alloc _
        rw [← hu]
        clear hu
        have z1 := W1.size
        refine (as_box C 0 _ u (HG.out u W2) be).mono ?_
        rintro e w3 ⟨rfl, b3, hB, hk⟩
        have hne3 : b ≠ w1.heap.size + 1 := by omega
        have W3 := only_box hB w W2 (by omega)
        have bb3 := hk b _ hne3 bb
        have hrow3 : w3.ownsRow w.heap.size 33 4 u6 L.length (recCells L) := Rg.ownsRow_step (M := fun k => k = w1.heap.size + 1) hrow ⟨(hB 0 (by omega) (by omega)).os, (hB 0 (by omega) (by omega)).tape, (hB 0 (by omega) (by omega)).output, (hB 0 (by omega) (by omega)).size, fun k hk2 hn => by
          obtain ⟨o, ho⟩ : ∃ o, u.heap[k]? = some o := ⟨_, Array.getElem?_eq_getElem hk2⟩
          rw [ho]; exact hk k o hn ho⟩ (fun k hk2 hx => by have := hkk k hk2; omega)
        have c0 := box_cells b3 0
        have z3 := box_lt b3
        have d0 := box_cells bb3 0
        have d1 := box_cells bb3 1
        have d2 := box_cells bb3 2
        have g0 := box_free bb3 0
        have g2 := box_free bb3 2
        have z4 := box_lt bb3
        clear hB hk be bb b3
        go_wp2_with fail
        go_quiet (fail)
        go_wp2_with fail
        have hown5 := own_only (own_only hrow3 (only_set w3 2 (.bool true)) z) (only_set (w3.setCell ⟨b, 2, none⟩ (.bool true)) 0 (.string (bs []))) z
        have hbox5 := cut_set (cut_kill bb3 true) []
        have hon5 := fun n => only_drewN (only_trans (only_trans W3 (only_set w3 2 (.bool true))) (only_set _ 0 (.string (bs [])))) n
        exact bodyPost_ret (v := .tuple #[u6, eV C]) (by simp [results, Tryd.results24, go_sem]) rfl ⟨_, by rw [errV_num HC0.out], hown5, hbox5, hon5 _⟩
end Go.Proofs.YtniflggmfegnfaaDoor
