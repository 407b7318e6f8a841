/- What pair.Read computes: the pairs of bytes, or what is wrong. Condition: the package errors' variable holds what it was given. -/
import Derived.Test.YtniflggmfegnfaaDoorOne
import Derived.Test.YtniflggmfegnfaaDoorOwn
import Derived.Test.YtniflggmfegnfaaDoorAsBox
import Derived.Test.YtniflggmfegnfaaDoorRead
import Derived.Test.YtniflggmfegnfaaDoorAid
import Derived.BigQuiet
namespace Go.Proofs.YtniflggmfegnfaaDoor
open Go.RowKit

theorem oneP_lt {s : Bs} {p : Bs × Bs} {rest : Bs} (h : oneP s = some (p, rest)) : rest.length < s.length := by
  unfold oneP at h
  split at h
  next hh =>
    obtain ⟨h1, h2, h3⟩ := hh
    simp only [Option.some.injEq, Prod.mk.injEq] at h
    obtain ⟨_, rfl⟩ := h
    have ht : ∀ s : Bs, LenOk s → (lenTail s).length < s.length := by
      intro s h
      have := List.length_pos_iff.2 h.1
      unfold lenTail
      split
      · rw [List.length_drop]; omega
      · rw [List.length_drop]; have := h.2; omega
    have a := ht s h1
    have b := ht _ h2
    rw [List.length_drop]
    omega
  next => cases h

/-- What Read tells: the pairs and 0, or none and what is wrong; k: how many came already. -/
def readP (k : Nat) (s : Bs) : List (Bs × Bs) × Int :=
  if s = [] then ([], 0) else if _h : 200 ≤ k then ([], 12) else
  match oneP s with
  | none => ([], 11)
  | some (p, rest) => if (readP (k + 1) rest).2 = 0 then (p :: (readP (k + 1) rest).1, 0) else ([], (readP (k + 1) rest).2)
termination_by 200 - k
def glueP (acc : List (Bs × Bs)) (q : List (Bs × Bs) × Int) : List (Bs × Bs) × Int := if q.2 = 0 then (acc ++ q.1, 0) else ([], q.2)
theorem glue_zero (q : List (Bs × Bs) × Int) (h : q.2 ≠ 0 → q.1 = []) : glueP [] q = q := by
  unfold glueP
  split
  next h0 => rw [List.nil_append, ← h0]
  next h0 => rw [← h h0]
theorem readP_bad (k : Nat) (s : Bs) : (readP k s).2 ≠ 0 → (readP k s).1 = [] := by
  rw [readP.eq_def]
  split
  · simp
  · split
    · simp
    · split
      · simp
      · split <;> simp
theorem glue_nil (acc : List (Bs × Bs)) (k : Nat) : glueP acc (readP k []) = (acc, 0) := by rw [readP.eq_def]; simp [glueP]
theorem glue_many (acc : List (Bs × Bs)) (k : Nat) (s : Bs) (h : s ≠ []) (hk : 200 ≤ k) : glueP acc (readP k s) = ([], 12) := by rw [readP.eq_def, if_neg h, dif_pos hk]; simp [glueP]
theorem glue_bad (acc : List (Bs × Bs)) (k : Nat) (s : Bs) (h : s ≠ []) (hk : k < 200) (ho : oneP s = none) : glueP acc (readP k s) = ([], 11) := by
  rw [readP.eq_def, if_neg h, dif_neg (by omega), ho]; simp [glueP]
theorem glue_step (acc : List (Bs × Bs)) (k : Nat) (s : Bs) (h : s ≠ []) (hk : k < 200) (p : Bs × Bs) (rest : Bs) (ho : oneP s = some (p, rest)) : glueP acc (readP k s) = glueP (acc ++ [p]) (readP (k + 1) rest) := by
  rw [readP.eq_def, if_neg h, dif_neg (by omega), ho]
  simp only
  split <;> simp_all [glueP]

set_option maxRecDepth 100000 in
set_option maxHeartbeats 8000000 in
theorem pread_any (s : Bs) (w : World) (hg : w.cell? ⟨0, 0, none⟩ = some errTypeV) :
    Calls Tryd.prog 40 #[.string (bs s)] w fun e w' => ∃ v, e = .returned (.tuple #[v, errV (readP 0 s).2]) ∧ w'.ownsRow w.heap.size 29 2 v (readP 0 s).1.length ((readP 0 s).1.flatMap pairCells) ∧ Below w.heap.size w w' := by
  have hg' : ∀ w', Below w.heap.size w w' → w'.cell? ⟨0, 0, none⟩ = some errTypeV := fun w' hb => by rw [hb.cell (World.block_lt_of_cell? w _ hg)]; exact hg
  have HG := Lib.hid hg'
  clear hg hg'
  have hgl : glueP [] (readP 0 s) = readP 0 s := glue_zero _ (readP_bad 0 s)
  have hst : s.length ≤ s.length := Nat.le_refl _
  generalize hR : readP 0 s = R at *
  obtain ⟨l, c⟩ := R
  simp only at hgl ⊢
  have HGL := Lib.hid hgl
  have HR := Lib.hid hR
  clear hgl hR
  go_enter Tryd.func40, Tryd.ntmps40
  go_wp2_with fail
  go_loopw [4, 0] (fun o r wr => ∃ (acc : List (Bs × Bs)) (rest : Bs), r = .string (bs rest) ∧ (l, c) = glueP acc (readP acc.length rest) ∧ acc.length ≤ 200 ∧ wr.ownsRow w.heap.size 29 2 o acc.length (acc.flatMap pairCells) ∧ Below w.heap.size w wr) (fun _ r _ => textLen r)
  case atStart => exact ⟨[], s, rfl, by rw [← HGL.out, ← HR.out]; rfl, by simp, ⟨rfl, .inl ⟨rfl, rfl⟩⟩, Below.refl _ _⟩
  case round =>
    obtain ⟨acc, rest, rfl, hsp, hle, hrow, hW⟩ := hrel
    by_cases hnil : rest = []
    · subst hnil
      rw [glue_nil] at hsp
      obtain ⟨rfl, rfl⟩ := Prod.mk.inj hsp
      go_wp2_with fail
      exact bodyPost_ret (v := .tuple #[u4, errV 0]) (by simp [results, Tryd.results40, go_sem]; try rfl) rfl ⟨_, rfl, hrow, hW⟩
    have hb0 : (rest == []) = false := by simpa using hnil
    have hb1 : (rest != []) = true := by simpa using hnil
    obtain ⟨a, cap, rfl⟩ := own_slice hrow
    by_cases h200 : 200 ≤ acc.length
    · rw [glue_many _ _ _ hnil h200] at hsp
      obtain ⟨rfl, rfl⟩ := Prod.mk.inj hsp
      have q : decide ((200 : Int) ≤ (acc.length : Int)) = true := by simp; omega
      clear hnil
      go_wp2_with fail
      exact bodyPost_ret (v := .tuple #[.slice none 0 0, errV 12]) (by simp [results, Tryd.results40, go_sem]; try rfl) rfl ⟨_, rfl, ⟨rfl, .inl ⟨rfl, rfl⟩⟩, hW⟩
    have q : decide ((200 : Int) ≤ (acc.length : Int)) = false := by simp; omega
    rcases hone : oneP rest with _ | ⟨p, rest'⟩
    · rw [glue_bad _ _ _ hnil (by omega) hone] at hsp
      obtain ⟨rfl, rfl⟩ := Prod.mk.inj hsp
      clear hnil h200
      go_wp2_with fail
      refine (one_no rest _ hone).mono ?_
      rintro e w1 ⟨⟨r, rfl⟩, hb⟩
      have W1 := below_later hW hb
      clear hb hone
      go_wp2_with fail
      obtain ⟨u, hu⟩ : ∃ u, u = (w1.alloc (.cells #[.string (bs []), .string (bs [])] 29)).alloc (.cells #[.int .i64 0] 46) := ⟨_, rfl⟩
      have be : u.heap[w1.heap.size + 1]? = some (.cells #[.int .i64 0] 46) := by rw [hu]; exact new_alloc2 (Below.refl _ _)
      have W2 : Below w.heap.size w u := by rw [hu]; exact below_later W1 (below_later (below_alloc _ _) (below_alloc _ _))
      rw [← hu]
      clear hu
      have z1 := W1.size
      refine (as_box 11 0 _ u (HG.out u W2) be).mono ?_
      rintro e w3 ⟨rfl, b3, hB, _⟩
      have W3 := W2.trans (hB _ (by omega) W2.size)
      have c0 := box_cells b3 0
      have z3 := box_lt b3
      clear hB be b3
      go_wp2_with fail
      go_quiet (fail)
      go_wp2_with fail
      exact bodyPost_ret (v := .tuple #[.slice none 0 0, errV 11]) (by simp [results, Tryd.results40, go_sem]; try rfl) rfl ⟨_, rfl, ⟨rfl, .inl ⟨rfl, rfl⟩⟩, below_drewN W3 _⟩
    · rw [glue_step _ _ _ hnil (by omega) _ _ hone] at hsp
      have hlt := oneP_lt hone
      have HO := Lib.hid (fun w => one_ok rest w p rest' hone)
      obtain ⟨x, y⟩ := p
      have HSP := Lib.hid hsp
      clear hnil hsp hone
      have hlen : acc.length + 1 = (acc ++ [(x, y)]).length := by simp
      have hcl : acc.flatMap pairCells ++ pairCells (x, y) = (acc ++ [(x, y)]).flatMap pairCells := by simp
      have HLN := Lib.hid hlen
      have HCL := Lib.hid hcl
      clear hlen hcl
      go_wp2_with fail
      refine (HO.out _).mono ?_
      rintro e w1 ⟨rfl, hb⟩
      have W1 := below_later hW hb
      replace hrow := own_kept hrow hb
      clear hb
      go_wp2_with fail
      refine (as_nil _ _).mono ?_
      rintro e w2 ⟨rfl, rfl⟩
      obtain ⟨u, hu⟩ : ∃ u, u = (w1.alloc (.cells #[.string (bs x), .string (bs y)] 29)).alloc (.cells #[.int .i64 0] 46) := ⟨_, rfl⟩
      have bp : u.heap[w1.heap.size]? = some (.cells #[.string (bs x), .string (bs y)] 29) := by rw [hu]; exact kept_alloc (heap_alloc_new w1 _) (Below.refl _ _)
      have W2 : Below w.heap.size w u := by rw [hu]; exact below_later W1 (below_later (below_alloc _ _) (below_alloc _ _))
      replace hrow : u.ownsRow w.heap.size 29 2 (.slice a acc.length cap) acc.length (acc.flatMap pairCells) := by rw [hu]; exact (hrow.alloc _).alloc _
      rw [← hu]
      clear hu W1
      generalize w1.heap.size = B1 at *
      have c0 := box_cells bp 0
      have c1 := box_cells bp 1
      have z1 := box_lt bp
      have r1 := row_pair u x y
      have o1 := hrow.alloc (.cells #[.string (bs x), .string (bs y)] 29)
      have o2 := own_up (B := w.heap.size) r1.1 (fun k hk => by have := r1.2 k hk; subst this; exact W2.size)
      have W3 := W2.alloc W2.size (.cells #[.string (bs x), .string (bs y)] 29)
      clear r1 hrow bp
      generalize Value.slice a acc.length cap = vo at *
      go_wp2_with (at_builtin; refine wpList_append_pairs o1 o2 W3.size (pair_one _) (by omega) rfl _ _ rfl rfl rfl rfl ?_; intro v4 w4 o4 hb4)
      go_roundw
      case rel =>
        refine ⟨acc ++ [(x, y)], rest', rfl, ?_, by simp; omega, ?_, W3.trans hb4⟩
        · rw [← HLN.out]; exact HSP.out
        · rw [← HLN.out, ← HCL.out]; exact o4
      case measure => simp [textLen, bs_size]; omega
end Go.Proofs.YtniflggmfegnfaaDoor
