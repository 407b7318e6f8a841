/- Pools of connections, plainly: connections by number, how an opening goes. No program in sight. -/
import Derived.Test.YtihfibelklhkbaaPlain
namespace Go.Proofs.Ytihfibelklhkbaa

/-- A connection: its number, its backend, how many ids are live. -/
structure Cn where
  n : Nat
  b : Nat
  k : Nat
/-- A pool. -/
structure Pl where
  bk : Nat
  cs : Nat
  ids : Nat
  last : Nat
  l : List Cn
/-- The connection of a number. -/
def findC (L : List Cn) (i : Int) : Option Cn := L.find? (fun c => decide ((c.n : Int) = i))
def kOf (L : List Cn) (n : Nat) : Nat := ((findC L n).map (·.k)).getD 0
/-- The one with the fewest ids, the first of them. -/
def bestOf (f : Nat → Nat) : Nat → List Nat → Nat
  | best, [] => best
  | best, n :: r => bestOf f (if best = 0 ∨ f n < f best then n else best) r
def chooseN (f : Nat → Nat) (cs : Nat) (l : List Nat) : Nat :=
  if 0 < bestOf f 0 l ∧ 0 < f (bestOf f 0 l) ∧ l.length < cs then 0 else bestOf f 0 l
def bump (L : List Cn) (n : Nat) : List Cn := L.map (fun c => if c.n = n then ⟨c.n, c.b, c.k + 1⟩ else c)

structure Pl.Ok (S : Pl) : Prop where
  sorted : S.l.Pairwise (fun a b => a.n < b.n)
  low : ∀ c ∈ S.l, 1 ≤ c.n ∧ c.n ≤ S.last
  fits : ∀ c ∈ S.l, c.k ≤ S.ids
  ids : 1 ≤ S.ids ∧ S.ids ≤ 8
  bk : 1 ≤ S.bk ∧ S.bk ≤ 2
  cs : 1 ≤ S.cs ∧ S.cs ≤ 4
  last : S.last ≤ 1000

theorem find_mem {L : List Cn} (hs : L.Pairwise (fun a b => a.n < b.n)) {c : Cn} (h : c ∈ L) : findC L c.n = some c := by
  induction L with
  | nil => cases h
  | cons a L ih =>
    rw [List.pairwise_cons] at hs
    unfold findC
    rw [List.find?_cons]
    rcases List.mem_cons.1 h with rfl | h
    · simp
    · have := hs.1 c h
      rw [show decide ((a.n : Int) = (c.n : Int)) = false from decide_eq_false (by omega)]
      exact ih hs.2 h
theorem find_none {L : List Cn} {i : Int} (h : ∀ c ∈ L, (c.n : Int) ≠ i) : findC L i = none := by
  unfold findC
  rw [List.find?_eq_none]
  intro c hc
  simpa using h c hc
theorem find_some {L : List Cn} {i : Int} {c : Cn} (h : findC L i = some c) : c ∈ L ∧ (c.n : Int) = i := by
  unfold findC at h
  exact ⟨List.mem_of_find?_eq_some h, by simpa using List.find?_some h⟩
theorem nums_sorted {L : List Cn} (hs : L.Pairwise (fun a b => a.n < b.n)) : (L.map (fun c => (c.n : Int))).Pairwise (· < ·) := by
  rw [List.pairwise_map]
  exact hs.imp (fun h => by omega)
theorem kOf_mem {L : List Cn} (hs : L.Pairwise (fun a b => a.n < b.n)) {c : Cn} (h : c ∈ L) : kOf L c.n = c.k := by
  unfold kOf
  rw [find_mem hs h]
  rfl
theorem len_le : ∀ (L : List Cn) (m M : Nat), m ≤ M → L.Pairwise (fun a b => a.n < b.n) → (∀ c ∈ L, m < c.n ∧ c.n ≤ M) → m + L.length ≤ M
  | [], m, M, h, _, _ => by simpa using h
  | a :: L, m, M, _, hs, h => by
    rw [List.pairwise_cons] at hs
    obtain ⟨h1, h2⟩ := h a (by simp)
    have := len_le L a.n M h2 hs.2 (fun c hc => ⟨hs.1 c hc, (h c (by simp [hc])).2⟩)
    rw [List.length_cons]
    omega
theorem Pl.Ok.len {S : Pl} (h : S.Ok) : S.l.length ≤ 1000 := by
  have := len_le S.l 0 S.last (Nat.zero_le _) h.sorted (fun c hc => by have := h.low c hc; omega)
  have := h.last
  omega
end Go.Proofs.Ytihfibelklhkbaa
