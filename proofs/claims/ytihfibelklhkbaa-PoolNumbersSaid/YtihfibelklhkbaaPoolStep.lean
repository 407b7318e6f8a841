/- One opening more in a pool of one backend. Conditions: the pool in memory, all its connections to backend 0. -/
import Derived.Test.YtihfibelklhkbaaKnown21
namespace Go.Proofs.Ytihfibelklhkbaa
open Go.RowKit

/-- Behind an opening: the pool, the connection's number, the id, whether it was met. -/
structure Op1 where
  S : Pl
  n : Nat
  id : Nat
  ok : Bool
def Pl.step (S : Pl) : Op1 :=
  let n := chooseN (kOf S.l) S.cs (S.l.map (·.n))
  if n = 0 then ⟨{ S.more 0 with l := bump (S.more 0).l (S.last + 1) }, S.last + 1, 1, true⟩
  else if kOf S.l n < S.ids then ⟨{ S with l := bump S.l n }, n, kOf S.l n + 1, true⟩
  else ⟨S, 0, 0, false⟩
def Pl.zero (S : Pl) : Prop := ∀ c ∈ S.l, c.b = 0
theorem zero_bump {L : List Cn} (h : ∀ c ∈ L, c.b = 0) (n : Nat) : ∀ c ∈ bump L n, c.b = 0 := fun c hc => by
  obtain ⟨a, ha, rfl⟩ := bump_mem.1 hc
  rw [(bumpC_n n a).2]
  exact h a ha
theorem zero_step {S : Pl} (h : S.zero) : S.step.S.zero := by
  unfold Pl.step
  dsimp only
  split
  · refine zero_bump (fun c hc => ?_) _
    rcases List.mem_append.1 hc with hc | hc
    · exact h c hc
    · simp at hc; subst hc; rfl
  · split
    · exact zero_bump h _
    · exact h
theorem step_same (S : Pl) : S.step.S.bk = S.bk ∧ S.step.S.cs = S.cs ∧ S.step.S.ids = S.ids := by
  unfold Pl.step
  dsimp only
  split
  · exact ⟨rfl, rfl, rfl⟩
  · split <;> exact ⟨rfl, rfl, rfl⟩
theorem step_last (S : Pl) : S.step.S.last ≤ S.last + 1 := by
  unfold Pl.step
  dsimp only
  split
  · exact Nat.le_refl _
  · split <;> exact Nat.le_succ _
/-- How an error reads. -/
def errO (ok : Bool) : Value := if ok then .nilIface else eV 16

theorem popen_step (B : Nat) (w : World) (pb : Nat) (S : Pl) (h : PoolAt B w pb S) (h0 : S.zero) (hl : S.last < 1000) :
    Calls Try.prog 7 (openArgs pb 0) w fun e w' => e = .returned (.tuple #[.int .i64 (S.step.n : Int), .int .i64 (S.step.id : Int), errO S.step.ok]) ∧ PoolAt B w' pb S.step.S ∧ Below B w w' := by
  have hok : S.Ok := by obtain ⟨_, _, _, h⟩ := h; exact h.ok
  have hw : Whole S 0 S.l := .inl ⟨rfl, h0⟩
  have hbk : 0 < S.bk := hok.bk.1
  unfold Pl.step
  dsimp only
  by_cases hz : chooseN (kOf S.l) S.cs (S.l.map (·.n)) = 0
  · rw [if_pos hz]
    exact popen_new B w pb S h 0 hbk S.l hw hz hl
  · rw [if_neg hz]
    obtain ⟨c, hc, hn⟩ : ∃ c ∈ S.l, chooseN (kOf S.l) S.cs (S.l.map (·.n)) = c.n := by
      have hb : bestOf (kOf S.l) 0 (S.l.map (·.n)) = chooseN (kOf S.l) S.cs (S.l.map (·.n)) := by
        unfold chooseN at hz ⊢
        split
        next hx => rw [if_pos hx] at hz; exact absurd rfl hz
        next => rfl
      rcases best_in (kOf S.l) (S.l.map (·.n)) 0 with e | e
      · rw [hb] at e
        exact absurd e hz
      · rw [hb] at e
        obtain ⟨c, hc, he⟩ := List.mem_map.1 e
        exact ⟨c, hc, he.symm⟩
    rw [hn, kOf_mem hok.sorted hc]
    by_cases hk : c.k < S.ids
    · rw [if_pos hk]
      exact popen_ok B w pb S h 0 hbk S.l hw c hc hn hk
    · rw [if_neg hk]
      have := hok.fits c hc
      exact popen_full B w pb S h 0 hbk S.l hw c hc hn (by omega)

/-- So many openings. -/
def runP (S : Pl) : Nat → Pl
  | 0 => S
  | i + 1 => (runP S i).step.S
/-- A look at so many openings, behind i of them. -/
def lookP (c k : Nat) : Nat → Nat → Pl → Bool
  | 0, _, _ => true
  | f + 1, i, S => (S.step.ok == decide (i < c * k)) && (S.step.S.l.length == min c (i + 1)) && decide (S.last ≤ c) && lookP c k f (i + 1) S.step.S
theorem lookP_at (c k : Nat) (S0 : Pl) : ∀ (f i : Nat), lookP c k f i (runP S0 i) = true → ∀ j, i ≤ j → j < i + f → (runP S0 j).step.ok = decide (j < c * k) ∧ (runP S0 (j + 1)).l.length = min c (j + 1) ∧ (runP S0 j).last ≤ c
  | 0, i, _, j, h1, h2 => by omega
  | f + 1, i, h, j, h1, h2 => by
    unfold lookP at h
    simp only [Bool.and_eq_true, beq_iff_eq, decide_eq_true_eq] at h
    obtain ⟨⟨⟨a1, a2⟩, a3⟩, a4⟩ := h
    by_cases e : j = i
    · subst e
      exact ⟨a1, a2, a3⟩
    · exact lookP_at c k S0 f (i + 1) a4 j (by omega) (by omega)
theorem look_all : ∀ c < 4, ∀ k < 8, lookP (c + 1) (k + 1) 50 0 ⟨1, c + 1, k + 1, 0, []⟩ = true := by decide +kernel
theorem pool_bounds {c k : Nat} (hc : 1 ≤ c ∧ c ≤ 4) (hk : 1 ≤ k ∧ k ≤ 8) {j : Nat} (hj : j < 50) : (runP ⟨1, c, k, 0, []⟩ j).step.ok = decide (j < c * k) ∧ (runP ⟨1, c, k, 0, []⟩ (j + 1)).l.length = min c (j + 1) ∧ (runP ⟨1, c, k, 0, []⟩ j).last ≤ c := by
  have h := look_all (c - 1) (by omega) (k - 1) (by omega)
  rw [show c - 1 + 1 = c by omega, show k - 1 + 1 = k by omega] at h
  exact lookP_at c k _ 50 0 h j (Nat.zero_le _) (by omega)
theorem run_zero {S : Pl} (h : S.zero) : ∀ i, (runP S i).zero
  | 0 => h
  | i + 1 => zero_step (run_zero h i)
theorem run_same (S : Pl) : ∀ i, (runP S i).ids = S.ids
  | 0 => rfl
  | i + 1 => (step_same _).2.2.trans (run_same S i)
end Go.Proofs.Ytihfibelklhkbaa
