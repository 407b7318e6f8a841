/- What (*pool.Pool).Open computes. Conditions: the pool in memory; all connections are the backend's, or none is; fewer than a thousand numbers. -/
import Derived.Test.YtihfibelklhkbaaPoolChoose
import Derived.Test.YtihfibelklhkbaaErr
namespace Go.Proofs.Ytihfibelklhkbaa
open Go.RowKit

/-! ### plain -/
def bumpC (n : Nat) (c : Cn) : Cn := if c.n = n then ⟨c.n, c.b, c.k + 1⟩ else c
theorem bumpC_n (n : Nat) (c : Cn) : (bumpC n c).n = c.n ∧ (bumpC n c).b = c.b := by
  unfold bumpC; split <;> exact ⟨rfl, rfl⟩
theorem bump_mem {L : List Cn} {n : Nat} {d : Cn} : d ∈ bump L n ↔ ∃ a ∈ L, d = bumpC n a := by
  unfold bump
  rw [List.mem_map]
  exact ⟨fun ⟨a, h, e⟩ => ⟨a, h, e.symm⟩, fun ⟨a, h, e⟩ => ⟨a, h, e.symm⟩⟩
theorem bump_find (L : List Cn) (n : Nat) (i : Int) : findC (bump L n) i = (findC L i).map (bumpC n) := by
  induction L with
  | nil => rfl
  | cons a L ih =>
    unfold bump findC at *
    rw [List.map_cons, List.find?_cons, List.find?_cons]
    rw [show decide (((if a.n = n then (⟨a.n, a.b, a.k + 1⟩ : Cn) else a).n : Int) = i) = decide ((a.n : Int) = i) from by split <;> rfl]
    by_cases h : (a.n : Int) = i
    · rw [show decide ((a.n : Int) = i) = true from decide_eq_true h]; rfl
    · rw [show decide ((a.n : Int) = i) = false from decide_eq_false h]; exact ih
theorem uniq {L : List Cn} (hs : L.Pairwise (fun a b => a.n < b.n)) {a c : Cn} (ha : a ∈ L) (hc : c ∈ L) (h : a.n = c.n) : a = c := by
  have h1 := find_mem hs ha
  have h2 := find_mem hs hc
  rw [h] at h1
  rw [h1] at h2
  exact Option.some.inj h2
theorem Pl.Ok.bumped {S : Pl} (h : S.Ok) {c : Cn} (hc : c ∈ S.l) (hk : c.k < S.ids) : Pl.Ok { S with l := bump S.l c.n } where
  sorted := by
    show (bump S.l c.n).Pairwise _
    unfold bump
    rw [List.pairwise_map]
    refine h.sorted.imp (fun {a b} hab => ?_)
    have h1 := (bumpC_n c.n a).1
    have h2 := (bumpC_n c.n b).1
    unfold bumpC at h1 h2
    rw [h1, h2]
    exact hab
  low := fun d hd => by
    obtain ⟨a, ha, rfl⟩ := bump_mem.1 hd
    rw [(bumpC_n c.n a).1]
    exact h.low a ha
  fits := fun d hd => by
    obtain ⟨a, ha, rfl⟩ := bump_mem.1 hd
    unfold bumpC
    split
    next e =>
      have := uniq h.sorted ha hc e
      subst this
      exact hk
    next => exact h.fits a ha
  ids := h.ids
  bk := h.bk
  cs := h.cs
  last := h.last
/-- One connection more. -/
abbrev Pl.more (S : Pl) (b : Nat) : Pl := ⟨S.bk, S.cs, S.ids, S.last + 1, S.l ++ [⟨S.last + 1, b, 0⟩]⟩
theorem Pl.Ok.more {S : Pl} (h : S.Ok) (b : Nat) (hl : S.last < 1000) : (S.more b).Ok where
  sorted := by
    show (S.l ++ [_]).Pairwise _
    rw [List.pairwise_append]
    refine ⟨h.sorted, by simp, fun a ha c hc => ?_⟩
    simp at hc
    subst hc
    have := h.low a ha
    show a.n < S.last + 1
    omega
  low := fun c hc => by
    rcases List.mem_append.1 hc with hc | hc
    · have := h.low c hc
      exact ⟨this.1, Nat.le_succ_of_le this.2⟩
    · simp at hc
      subst hc
      exact ⟨by simp, Nat.le_refl _⟩
  fits := fun c hc => by
    rcases List.mem_append.1 hc with hc | hc
    · exact h.fits c hc
    · simp at hc
      subst hc
      exact Nat.zero_le _
  ids := h.ids
  bk := h.bk
  cs := h.cs
  last := hl
theorem more_find (S : Pl) (b : Nat) (h : S.Ok) (i : Int) : findC (S.more b).l i = if i = ((S.last + 1 : Nat) : Int) then some ⟨S.last + 1, b, 0⟩ else findC S.l i := by
  unfold Pl.more findC
  rw [List.find?_append]
  by_cases hi : i = ((S.last + 1 : Nat) : Int)
  · rw [if_pos hi]
    have : S.l.find? (fun c => decide ((c.n : Int) = i)) = none := by
      rw [List.find?_eq_none]
      intro c hc
      have := h.low c hc
      simp
      omega
    rw [this]
    simp [hi]
  · rw [if_neg hi]
    cases hf : S.l.find? (fun c => decide ((c.n : Int) = i)) with
    | some c => rfl
    | none =>
      have : ¬ (((S.last + 1 : Nat) : Int) = i) := fun e => hi e.symm
      simp only [Option.none_or, List.find?_cons, List.find?_nil, show decide (((S.last + 1 : Nat) : Int) = i) = false from decide_eq_false this]

/-! ### in memory -/
theorem PoolH.opened {B : Nat} {w w' : World} {pb mb : Nat} {mo lo : Nat → Nat} {S : Pl} (h : PoolH B w pb mb mo lo S) {c : Cn} (hc : c ∈ S.l) (hk : c.k < S.ids) (hm : MuxAt w' (mo c.n) (lo c.n) S.ids (c.k + 1)) (hs : Only (lo c.n) w w') :
    PoolH B w' pb mb mo lo { S with l := bump S.l c.n } := by
  obtain ⟨n1, n2, n3⟩ := h.mo_ne hc
  refine ⟨h.ok.bumped hc hk, Nat.le_trans h.base hs.size, (hs.block pb (box_lt h.box) (fun e => n3 e.symm)).trans h.box, ?_, fun d hd => ?_, fun a ha b hb => ?_, fun a ha => ?_, h.low.1, h.low.2.1, fun a ha => ?_⟩
  · refine (h.map.step hs (fun e => h.lne c hc e.symm)).congr (fun i _ => ?_)
    unfold conF
    rw [bump_find]
    cases findC S.l i with
    | none => rfl
    | some a => simp [(bumpC_n c.n a).1, (bumpC_n c.n a).2]
  · obtain ⟨a, ha, rfl⟩ := bump_mem.1 hd
    by_cases e : a.n = c.n
    · have := uniq h.ok.sorted ha hc e
      subst this
      simp only [bumpC, if_true]
      exact hm
    · simp only [bumpC, if_neg e]
      exact (h.mux a ha).step hs (h.mo_lo ha hc) (h.apart a ha c hc e).2
  · obtain ⟨a, ha1, rfl⟩ := bump_mem.1 ha
    obtain ⟨b, hb1, rfl⟩ := bump_mem.1 hb
    rw [(bumpC_n c.n a).1, (bumpC_n c.n b).1]
    exact h.apart a ha1 b hb1
  · obtain ⟨a, ha1, rfl⟩ := bump_mem.1 ha
    rw [(bumpC_n c.n a).1]
    exact h.lne a ha1
  · obtain ⟨a, ha1, rfl⟩ := bump_mem.1 ha
    rw [(bumpC_n c.n a).1]
    exact h.low.2.2 a ha1

/-- The backend's connections are all of them, or none. -/
def Whole (S : Pl) (b : Nat) (M : List Cn) : Prop := (M = S.l ∧ ∀ c ∈ S.l, c.b = b) ∨ (M = [] ∧ b ≠ 0 ∧ 0 < S.l.length ∧ ∀ c ∈ S.l, c.b ≠ b)
theorem Whole.mem {S : Pl} {b : Nat} {M : List Cn} (h : Whole S b M) : (∀ c ∈ M, c ∈ S.l) ∧ M.length ≤ S.l.length := by
  rcases h with ⟨rfl, _⟩ | ⟨rfl, _⟩
  · exact ⟨fun _ h => h, Nat.le_refl _⟩
  · exact ⟨fun _ h => (by cases h), Nat.zero_le _⟩
theorem to_whole (B : Nat) (w : World) (pb : Nat) (S : Pl) (h : PoolAt B w pb S) (b : Nat) (M : List Cn) (hw : Whole S b M) :
    Calls Try.prog 16 #[.pointer (some ⟨pb, 0, none⟩), .int .i64 (b : Int)] w fun e w' => ∃ a cap, e = .returned (.slice a M.length cap) ∧ Below w.heap.size w w' ∧
      (0 < M.length → ∃ g, a = some ⟨g, 0, none⟩ ∧ g < w'.heap.size ∧ ∀ j (hj : j < M.length), w'.cell? ⟨g, j, none⟩ = some (.int .i64 (M[j].n : Int))) := by
  rcases hw with ⟨rfl, hall⟩ | ⟨rfl, h0, hl, hall⟩
  · refine (to_all B w pb S h b hall).mono ?_
    rintro e w' ⟨v, rfl, hrow, hb⟩
    obtain ⟨a, cap, rfl⟩ := own_slice hrow
    refine ⟨a, cap, rfl, hb, fun hp => ?_⟩
    obtain ⟨g, cap', hv, _, hgl, hc⟩ := own_open hrow hp
    obtain ⟨rfl, rfl⟩ : a = some ⟨g, 0, none⟩ ∧ cap = cap' := by simpa using hv
    exact ⟨g, rfl, hgl, fun j hj => hc j _ (by simp [hj])⟩
  · refine (to_none B w pb S h b h0 hall hl).mono ?_
    rintro e w' ⟨⟨a, cap, rfl⟩, hb⟩
    exact ⟨a, cap, rfl, hb, fun hp => absurd hp (by simp)⟩

set_option maxRecDepth 100000 in
set_option maxHeartbeats 4000000 in
theorem popen_out (B : Nat) (w : World) (pb : Nat) (S : Pl) (h : PoolAt B w pb S) (b : Nat) (hb : S.bk ≤ b) :
    Calls Try.prog 7 #[.pointer (some ⟨pb, 0, none⟩), .int .i64 (b : Int), .slice none 0 0, .string (bs [])] w fun e w' => e = .returned (.tuple #[.int .i64 0, .int .i64 0, eV 16]) ∧ w' = w := by
  obtain ⟨mb, mo, lo, h⟩ := h
  have c0 := box_cells h.box 0
  have z := box_lt h.box
  have q1 : decide ((b : Int) < 0) = false := decide_eq_false (by omega)
  have q2 : decide ((b : Int) ≥ (S.bk : Int)) = true := decide_eq_true (by omega)
  have q3 : decide ((S.bk : Int) ≤ (b : Int)) = true := decide_eq_true (by omega)
  go_enter Try.func7, Try.ntmps7
  go_wp2_with fail
  go_ret3
  exact ⟨rfl, rfl⟩
set_option maxRecDepth 100000 in
set_option maxHeartbeats 4000000 in
theorem popen_full (B : Nat) (w : World) (pb : Nat) (S : Pl) (h : PoolAt B w pb S) (b : Nat) (hb : b < S.bk) (M : List Cn) (hw : Whole S b M) (c : Cn) (hc : c ∈ S.l) (hch : chooseN (kOf S.l) S.cs (M.map (·.n)) = c.n) (hk : c.k = S.ids) :
    Calls Try.prog 7 #[.pointer (some ⟨pb, 0, none⟩), .int .i64 (b : Int), .slice none 0 0, .string (bs [])] w fun e w' => e = .returned (.tuple #[.int .i64 0, .int .i64 0, eV 16]) ∧ PoolAt B w' pb S ∧ Below B w w' := by
  have hT := to_whole B w pb S h b M hw
  have hC := fun w1 (W1 : Below w.heap.size w w1) a cap hr => pchoose_any B w1 pb S (h.keep W1) M hw.mem.1 (by obtain ⟨_, _, _, h⟩ := h; exact Nat.le_trans hw.mem.2 h.ok.len) a cap hr
  rw [hch] at hC
  have HC := Lib.hid hC
  clear hC
  obtain ⟨mb, mo, lo, h⟩ := h
  have hpos := (h.ok.low c hc).1
  have hHk := Lib.hid hk
  have h8 := h.ok.ids.2
  clear hk hch hw
  have c0 := box_cells h.box 0
  have z := box_lt h.box
  have q1 : decide ((b : Int) < 0) = false := decide_eq_false (by omega)
  have q2 : decide ((b : Int) ≥ (S.bk : Int)) = false := decide_eq_false (by omega)
  have q3 : decide ((S.bk : Int) ≤ (b : Int)) = false := decide_eq_false (by omega)
  have q4 : decide ((c.n : Int) = 0) = false := decide_eq_false (by omega)
  have q5 : ((c.n : Int) == 0) = false := by simp; omega
  go_enter Try.func7, Try.ntmps7
  go_wp2_with fail
  refine hT.mono ?_
  rintro e w1 ⟨a, cap, rfl, W1, hr⟩
  go_wp2_with fail
  refine (HC.out w1 W1 a cap hr).mono ?_
  rintro e w2 ⟨rfl, W2⟩
  have W12 := below_later W1 W2
  have h2 := h.keep W12
  have c3 := box_cells h2.box 3
  have z2 := box_lt h2.box
  have hlk := h2.look hc
  have hf0 := con_field0
  have hm := h2.mux c hc
  rw [hHk.out] at hm
  clear hr
  go_wp2_with fail
  refine (mopen_full w2 _ _ _ h8 hm).mono ?_
  rintro e w3 ⟨rfl, rfl⟩
  go_wp2_with fail
  refine (is_num 16 16 _).mono ?_
  rintro e w4 ⟨rfl, rfl⟩
  go_wp2_with fail
  go_ret3
  exact ⟨rfl, ⟨mb, mo, lo, h2⟩, W12.mono h.base⟩
end Go.Proofs.Ytihfibelklhkbaa
