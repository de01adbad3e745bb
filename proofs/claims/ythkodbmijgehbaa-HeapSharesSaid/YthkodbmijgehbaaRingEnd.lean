/- The ring behind a collection. -/
import Derived.Test.YthkodbmijgehbaaRingPure
namespace Go.Proofs.Ythkodbmijgehbaa
open Go.RowKit

theorem sumO_congr2 {p q : Nat → Bool} {f g : Nat → Nat} {m : Nat} (h : ∀ k, k < m → p k = q k ∧ (q k = true → f k = g k)) : sumO p f m = sumO q g m := by
  induction m with
  | zero => rfl
  | succ m ih =>
    simp only [sumO]
    rw [ih (fun k hk => h k (by omega)), (h m (by omega)).1]
    by_cases hq : q m = true
    · rw [if_pos hq, if_pos hq, (h m (by omega)).2 hq]
    · rw [if_neg hq, if_neg hq]
theorem sum_ring (n : Nat) : sumO (fun k => decide (k % 7 = 5)) (fun _ => 3) (1 + 7 * n) = 3 * n := by
  induction n with
  | zero => rfl
  | succ n ih =>
    rw [show 1 + 7 * (n + 1) = (1 + 7 * n) + 1 + 1 + 1 + 1 + 1 + 1 + 1 by omega]
    simp only [sumO]
    rw [ih]
    simp only [decide_eq_true_eq]
    rw [if_neg (show ¬ (1 + 7 * n) % 7 = 5 by omega), if_neg (show ¬ (1 + 7 * n + 1) % 7 = 5 by omega), if_neg (show ¬ (1 + 7 * n + 1 + 1) % 7 = 5 by omega), if_neg (show ¬ (1 + 7 * n + 1 + 1 + 1) % 7 = 5 by omega),
      if_pos (show (1 + 7 * n + 1 + 1 + 1 + 1) % 7 = 5 by omega), if_neg (show ¬ (1 + 7 * n + 1 + 1 + 1 + 1 + 1) % 7 = 5 by omega), if_neg (show ¬ (1 + 7 * n + 1 + 1 + 1 + 1 + 1 + 1) % 7 = 5 by omega)]
    omega

def atR (n : Nat) (j : Nat) : Int := 4 * ((5 + 7 * (j % n) : Nat) : Int)
/-- Where the ring's thing j lies behind the collection. -/
def ringTo (S : HS) (roots : List Int) (j : Nat) : Int := (gcEnd S roots).at_ (5 + 7 * j)

structure RingEnd (n x y : Nat) (S : HS) (l : List Int) (S' : HS) (t : Nat → Int) : Prop where
  out : l = [t x, 9, t y]
  inj : ∀ i j, i < n → j < n → (t i = t j ↔ i = j)
  len : S'.ws.length = 1 + 3 * n
  bd : ∀ j, j < n → 0 ≤ t j ∧ t j < 18446744073709551616
  raw : ∀ j, j < n → S'.getRaw (t j) 0 = ((j : Int) + 100, true)
  get : ∀ j, j < n → S'.get (t j) 0 = (t ((j + 1) % n), true)

theorem Ring.collected {n x y : Nat} {S : HS} (h : Ring n n n S) (hw : WfH S.ws S.bs) (hn : n ≤ 30) (hx : x < n) (hy : y < n) :
    RingEnd n x y S (S.moved [4 * ((5 + 7 * x : Nat) : Int), 9, 4 * ((5 + 7 * y : Nat) : Int)]) (S.collect [4 * ((5 + 7 * x : Nat) : Int), 9, 4 * ((5 + 7 * y : Nat) : Int)]) (ringTo S [4 * ((5 + 7 * x : Nat) : Int), 9, 4 * ((5 + 7 * y : Nat) : Int)]) := by
  have hl := h.len
  have hroots : ∀ z ∈ [4 * ((5 + 7 * x : Nat) : Int), 9, 4 * ((5 + 7 * y : Nat) : Int)], 0 ≤ z ∧ z < 18446744073709551616 := by
    intro z hz
    simp only [List.mem_cons, List.not_mem_nil, or_false] at hz
    rcases hz with rfl | rfl | rfl <;> omega
  have hE := gc_end hw (by omega) hroots
  have hbit : ∀ j, j < n → S.bs[5 + 7 * j]? = some true := fun j hj => (h.bs _).2 ⟨j, hj, .inr rfl⟩
  have h9 : S.is 9 = false := by
    unfold HS.is isB
    simp
  have hdiv : ∀ j : Nat, (4 * ((5 + 7 * j : Nat) : Int) / 4).toNat = 5 + 7 * j := fun j => by omega
  have hclosed : Closed S (fun k => ∃ j, j < n ∧ k = 5 + 7 * j) := by
    intro k i hk hP hi
    obtain ⟨j, hj, rfl⟩ := hP
    unfold tagAt at hi
    rw [h.hr j hj, ring_head.1] at hi
    have hi0 : i = 0 := by omega
    subst hi0
    rw [show 5 + 7 * j + 1 + 0 = 6 + 7 * j by omega, h.tag j hj, if_pos hj]
    intro _
    refine ⟨(j + 1) % n, Nat.mod_lt _ (by omega), ?_⟩
    omega
  have hgood : ∀ z ∈ [4 * ((5 + 7 * x : Nat) : Int), 9, 4 * ((5 + 7 * y : Nat) : Int)], Good S (fun k => ∃ j, j < n ∧ k = 5 + 7 * j) z := by
    intro z hz
    simp only [List.mem_cons, List.not_mem_nil, or_false] at hz
    rcases hz with rfl | rfl | rfl
    · intro _; exact ⟨x, hx, hdiv x⟩
    · intro h'; rw [h9] at h'; cases h'
    · intro _; exact ⟨y, hy, hdiv y⟩
  have hO := gc_only hw (by omega) hroots hclosed hgood
  have hmv : S.moved [4 * ((5 + 7 * x : Nat) : Int), 9, 4 * ((5 + 7 * y : Nat) : Int)] = _ := hE.out
  have hS' : (S.collect [4 * ((5 + 7 * x : Nat) : Int), 9, 4 * ((5 + 7 * y : Nat) : Int)]).ws = (gcEnd S [4 * ((5 + 7 * x : Nat) : Int), 9, 4 * ((5 + 7 * y : Nat) : Int)]).tw ∧
    (S.collect [4 * ((5 + 7 * x : Nat) : Int), 9, 4 * ((5 + 7 * y : Nat) : Int)]).bs = (gcEnd S [4 * ((5 + 7 * x : Nat) : Int), 9, 4 * ((5 + 7 * y : Nat) : Int)]).tb := ⟨rfl, rfl⟩
  have hres := hE.res
  have hinv := hE.inv
  unfold ringTo
  generalize S.collect [4 * ((5 + 7 * x : Nat) : Int), 9, 4 * ((5 + 7 * y : Nat) : Int)] = S' at *
  generalize hc : gcEnd S [4 * ((5 + 7 * x : Nat) : Int), 9, 4 * ((5 + 7 * y : Nat) : Int)] = c at *
  have hx0 : c.at_ (5 + 7 * x) ≠ 0 := by
    have := hres (4 * ((5 + 7 * x : Nat) : Int)) (by simp) (place_is (hbit x hx))
    rwa [hdiv] at this
  -- a thing's neighbour goes with it
  have hstep : ∀ j, j < n → c.at_ (5 + 7 * j) ≠ 0 → c.at_ (5 + 7 * ((j + 1) % n)) ≠ 0 ∧ ∃ p : Nat, c.at_ (5 + 7 * j) = 4 * p ∧ c.tb[p]? = some true ∧ c.tw.getD p 0 = headerOf 1 1 1 ∧ p + 3 ≤ c.tw.length ∧ c.tw.getD (p + 1) 0 = c.at_ (5 + 7 * ((j + 1) % n)) ∧ c.tw.getD (p + 2) 0 = (j : Int) + 100 := by
    intro j hj h0
    obtain ⟨p, hp, hcop⟩ := hinv.tgt _ h0
    have hmod : (j + 1) % n < n := Nat.mod_lt _ (by omega)
    have hhd := hcop.head
    rw [h.hr j hj] at hhd
    have hfit := hinv.wf.fits p hcop.now
    rw [hhd, ring_head.1, ring_head.2] at hfit
    have htag : tagAt S.ws (5 + 7 * j) = 1 := by unfold tagAt; rw [h.hr j hj, ring_head.1]; rfl
    have hrawn : rawAt S.ws (5 + 7 * j) = 1 := by unfold rawAt; rw [h.hr j hj, ring_head.2]; rfl
    obtain ⟨d1, d2⟩ := hcop.done 0 (by omega) (by simp at hfit; omega)
    have hr1 := hcop.raws 1 (by omega) (by omega)
    rw [show 5 + 7 * j + 1 + 0 = 6 + 7 * j by omega, h.tag j hj, if_pos hj] at d1 d2
    rw [show (4 * (5 + 7 * (((j + 1) % n : Nat) : Int))) = 4 * ((5 + 7 * ((j + 1) % n) : Nat) : Int) by omega] at d1 d2
    have hi := place_is (hbit _ hmod)
    have d3 := d1 hi
    rw [hdiv] at d3
    unfold fwd at d2
    rw [if_pos hi, hdiv] at d2
    rw [show 5 + 7 * j + 1 + 1 = 7 + 7 * j by omega, h.raw j hj] at hr1
    exact ⟨d3, p, hp, hcop.now, hhd, by simp at hfit; omega, d2, hr1⟩
  have hround : ∀ t, c.at_ (5 + 7 * ((x + t) % n)) ≠ 0 := by
    intro t
    induction t with
    | zero => rw [Nat.add_zero, Nat.mod_eq_of_lt hx]; exact hx0
    | succ t ih =>
      have := (hstep _ (Nat.mod_lt _ (by omega)) ih).1
      rwa [show ((x + t) % n + 1) % n = (x + (t + 1)) % n by rw [Nat.mod_add_mod]; rfl] at this
  have hall : ∀ j, j < n → c.at_ (5 + 7 * j) ≠ 0 := by
    intro j hj
    have := hround (j + n - x)
    rwa [show x + (j + n - x) = j + n by omega, Nat.add_mod_right, Nat.mod_eq_of_lt hj] at this
  have hlen : c.tw.length = 1 + 3 * n := by
    rw [hinv.sum, hl, ← sum_ring n]
    congr 1
    refine sumO_congr2 fun k hk => ⟨?_, ?_⟩
    · rw [decide_eq_decide]
      constructor
      · intro h0
        obtain ⟨j, hj, rfl⟩ := hO k h0
        omega
      · intro h5
        have := hall (k / 7) (by omega)
        rwa [show 5 + 7 * (k / 7) = k by omega] at this
    · intro h5
      rw [decide_eq_true_eq] at h5
      have hk2 : k = 5 + 7 * (k / 7) := by omega
      unfold sizeAt
      rw [hk2, h.hr _ (by omega), ring_head.1, ring_head.2]; rfl
  have hlk := hinv.len hw
  have hdata : ∀ j, j < n → ∃ p : Nat, c.at_ (5 + 7 * j) = 4 * p ∧ p < c.tw.length ∧ S'.tag (4 * (p : Int)) = 1 ∧ S'.raw (4 * (p : Int)) = 1 ∧ c.tw.getD (p + 1) 0 = c.at_ (5 + 7 * ((j + 1) % n)) ∧ c.tw.getD (p + 2) 0 = (j : Int) + 100 := by
    intro j hj
    obtain ⟨_, p, hp, hb, hhd, hf, h1, h2⟩ := hstep j hj (hall j hj)
    have hb' : S'.bs[p]? = some true := by rw [hS'.2]; exact hb
    refine ⟨p, hp, by omega, ?_, ?_, h1, h2⟩
    · unfold HS.tag; rw [place_head hb', hS'.1, hhd]; exact ring_head.1
    · unfold HS.raw; rw [place_head hb', hS'.1, hhd]; exact ring_head.2
  refine ⟨?_, ?_, by rw [hS'.1]; exact hlen, ?_, ?_, ?_⟩
  · rw [hmv]
    simp only [List.map_cons, List.map_nil]
    unfold fwd
    rw [if_pos (place_is (hbit x hx)), if_pos (place_is (hbit y hy)), if_neg (by rw [h9]; simp), hdiv, hdiv]
  · intro i j hi hj
    constructor
    · intro e
      have := hinv.inj _ _ (hall i hi) e
      omega
    · rintro rfl; rfl
  · intro j hj
    obtain ⟨p, hp, hpl, _⟩ := hdata j hj
    rw [hp]; omega
  · intro j hj
    obtain ⟨p, hp, hpl, ht, hr, h1, h2⟩ := hdata j hj
    rw [hp]
    unfold HS.getRaw
    rw [hr, ht, if_pos (by omega), hS'.1]
    rw [show fieldAt (4 * (p : Int)) 1 0 = p + 2 by unfold fieldAt; omega, h2]
  · intro j hj
    obtain ⟨p, hp, hpl, ht, hr, h1, h2⟩ := hdata j hj
    rw [hp]
    unfold HS.get
    rw [ht, if_pos (by omega), hS'.1]
    rw [show fieldAt (4 * (p : Int)) 0 0 = p + 1 by unfold fieldAt; omega, h1]
end Go.Proofs.Ythkodbmijgehbaa
