/- The reference's readers. -/
import Derived.Test.YthkodbmijgehbaaRefPure
namespace Go.Proofs.Ythkodbmijgehbaa
open Go.RowKit

theorem says_int0 {k : IntKind} {v v' : Int} {w : World} (h : v' = v) : Says (.int k v) w (.returned (.int k v')) w := ⟨by rw [h], 0, rfl⟩

section
variable {w : World} {V : RV} {S : HS}

def FindRel (r n : Nat) (lo hi : Value) : Prop := ∃ l h : Nat, lo = .int .i64 l ∧ hi = .int .i64 h ∧ l ≤ r ∧ r ≤ h ∧ h ≤ n

set_option maxHeartbeats 1000000 in
theorem RefV.find (h : RefV w V S) (p : Nat) :
    Calls Try.prog 86 #[.pointer (some ⟨V.g, 0, none⟩), .int .i64 p] w (Says (.int .i64 (findP S.bs p)) w) := by
  have c2 := h.c2
  have hc := h.hc
  have hl := heads_len S h.ok
  have hrk := rank_le (bs := S.bs) (p := p)
  go_enter Try.func86, Try.ntmps86
  go_wp2_with fail
  go_loop [5, 6] (FindRel (rankOf S.bs p) (headsOf S.bs).length) (fun lo hi => (intOf hi).toNat - (intOf lo).toNat)
  case atStart => exact ⟨0, (headsOf S.bs).length, rfl, rfl, Nat.zero_le _, hrk, Nat.le_refl _⟩
  case round =>
    obtain ⟨l, q, rfl, rfl, h1, h2, h3⟩ := hrel
    by_cases hlt : l < q
    · obtain ⟨m, hm⟩ : ∃ m : Nat, m = (l + q) / 2 := ⟨_, rfl⟩
      have hmi : ((l : Int) + q) / 2 = (m : Int) := by omega
      have hml : m < (headsOf S.bs).length := by omega
      obtain ⟨x, hx⟩ : ∃ x, (headsOf S.bs)[m]? = some x := ⟨_, List.getElem?_eq_getElem hml⟩
      obtain ⟨b, hob, hcell⟩ := h.hh m x hx
      have hcmp := heads_lt (p := p) hx
      rw [hob] at c2
      simp only [Option.map_some] at c2
      have HX := Lib.hid hx
      have HB := Lib.hid hob
      have hml2 : (m : Int) < ((headsOf S.bs).length : Nat) := by omega
      have hlm : l ≤ m := by omega
      have hmq : m < q := by omega
      clear hx hob hm
      by_cases hxp : x < p
      · have hmr := hcmp.1 hxp
        have hxp2 : (x : Int) < p := by omega
        clear hcmp
        go_wp2_with fail
        go_round
        case rel => exact ⟨m + 1, q, by go_num, rfl, hmr, h2, h3⟩
        case measure => simp [intOf]; omega
      · have hmr : ¬ m < rankOf S.bs p := fun e => hxp (hcmp.2 e)
        have hxp2 : (p : Int) ≤ x := by omega
        clear hcmp
        go_wp2_with fail
        go_round
        case rel => exact ⟨l, m, rfl, by rw [hmi], h1, by omega, by omega⟩
        case measure => simp [intOf]; omega
    · obtain rfl : l = rankOf S.bs p := by omega
      have hge : (q : Int) ≤ (rankOf S.bs p : Nat) := by omega
      have hrank := heads_rank (bs := S.bs) (p := p)
      have hfin : findP S.bs p = if (headsOf S.bs)[rankOf S.bs p]? = some p then (rankOf S.bs p : Int) else -1 := by
        unfold findP
        by_cases e : S.bs[p]? = some true
        · rw [if_pos e, if_pos (hrank.2 e)]
        · rw [if_neg e, if_neg (fun e' => e (hrank.1 e'))]
      have HFIN := Lib.hid hfin
      clear hrank hfin hlt
      rcases Nat.lt_or_ge (rankOf S.bs p) (headsOf S.bs).length with a | a
      · obtain ⟨x, hx⟩ : ∃ x, (headsOf S.bs)[rankOf S.bs p]? = some x := ⟨_, List.getElem?_eq_getElem a⟩
        obtain ⟨b, hob, hcell⟩ := h.hh _ x hx
        rw [hob] at c2
        simp only [Option.map_some] at c2
        have a2 : (rankOf S.bs p : Int) < ((headsOf S.bs).length : Nat) := by omega
        have HX := Lib.hid hx
        have HB := Lib.hid hob
        clear hx hob
        by_cases e : x = p
        · have e2 : ((x : Int) == (p : Int)) = true := by rw [e]; simp
          have HV : Hid (findP S.bs p = (rankOf S.bs p : Int)) := by show findP S.bs p = _; rw [HFIN.out, HX.out, if_pos (by rw [e])]
          clear e
          go_wp2_with fail
          go_ret
          exact says_int0 HV.out.symm
        · have e2 : ((x : Int) == (p : Int)) = false := by rw [beq_eq_false_iff_ne]; omega
          have HV : Hid (findP S.bs p = -1) := by show findP S.bs p = _; rw [HFIN.out, HX.out, if_neg (by intro e'; cases e'; exact e rfl)]
          clear e
          go_wp2_with fail
          go_ret
          exact says_int0 HV.out.symm
      · have a2 : ((headsOf S.bs).length : Int) ≤ (rankOf S.bs p : Nat) := by omega
        have HV : Hid (findP S.bs p = -1) := by show findP S.bs p = _; rw [HFIN.out, List.getElem?_eq_none a, if_neg (by simp)]
        go_wp2_with fail
        go_ret
        exact says_int0 HV.out.symm

set_option maxHeartbeats 400000 in
theorem RefV.Is (h : RefV w V S) (p : Int) (h0 : 0 ≤ p) (h1 : p < 18446744073709551616) :
    Calls Try.prog 68 #[.pointer (some ⟨V.g, 0, none⟩), .int .u64 p] w (Says (.bool (S.is p)) w) := by
  have c1 := h.c1
  have hl := h.len
  have hbl := h.ok.wf.len
  by_cases a : p % 4 = 0
  · by_cases b : p / 4 < (S.ws.length : Int)
    · have hi : S.is p = decide (0 ≤ findP S.bs (p / 4).toNat) := by
        unfold HS.is
        by_cases e : S.bs[(p / 4).toNat]? = some true
        · rw [isB_iff.2 ⟨a, e⟩]; unfold findP; rw [if_pos e]; simp
        · rw [Bool.eq_false_iff.2 (fun e' => e (isB_iff.1 e').2)]; unfold findP; rw [if_neg e]; rfl
      have hb : -1 ≤ findP S.bs (p / 4).toNat := by unfold findP; split <;> omega
      rw [hi]
      clear hi
      have hcast : p / 4 = ((p / 4).toNat : Int) := by omega
      have HC := Lib.hid hcast
      clear hcast
      go_enter Try.func68, Try.ntmps68
      go_wp2_with fail
      rw [HC.out]
      refine (h.find (p / 4).toNat).mono ?_
      rintro e w' ⟨rfl, n, rfl⟩
      go_wp2_with fail
      go_ret
      exact says_ret rfl
    · have hi : S.is p = false := by unfold HS.is; rw [isB_out (by omega)]
      rw [hi]
      clear hi
      go_enter Try.func68, Try.ntmps68
      go_wp2_with fail
      go_ret
      exact says_ret0 rfl
  · have hi : S.is p = false := by unfold HS.is; rw [isB_odd a]
    rw [hi]
    clear hi
    go_enter Try.func68, Try.ntmps68
    go_wp2_with fail
    go_ret
    exact says_ret0 rfl

theorem SOk.word (h : SOk S) {p : Int} (hp : S.is p = true) : (p / 4).toNat < S.ws.length ∧ S.ws[(p / 4).toNat]? = some (S.head p) ∧ p % 4 = 0 ∧ p / 4 < 1048576 ∧ S.bs[(p / 4).toNat]? = some true ∧ S.ws.getD (p / 4).toNat 0 = S.head p := by
  obtain ⟨hm, hb⟩ := is_iff.1 hp
  have hlt : (p / 4).toNat < S.ws.length := by have := (List.getElem?_eq_some_iff.1 hb).1; have := h.wf.len; omega
  have hh : S.head p = S.ws.getD (p / 4).toNat 0 := by unfold HS.head headOf; unfold HS.is at hp; rw [if_pos hp]
  refine ⟨hlt, ?_, hm, by have := h.used; have := h.hi; omega, hb, hh.symm⟩
  rw [hh]; exact getD_get hlt
theorem SOk.head_bd (h : SOk S) (p : Int) : 0 ≤ S.head p ∧ S.head p < 18446744073709551616 := by
  cases hp : S.is p with
  | false => unfold HS.head headOf; rw [if_neg (by unfold HS.is at hp; simp [hp])]; omega
  | true => exact h.wf.u _ (List.mem_of_getElem? (h.word hp).2.1)

set_option maxHeartbeats 400000 in
theorem RefV.Head (h : RefV w V S) (p : Int) (h0 : 0 ≤ p) (h1 : p < 18446744073709551616) :
    Calls Try.prog 87 #[.pointer (some ⟨V.g, 0, none⟩), .int .u64 p] w (Says (.int .u64 (S.head p)) w) := by
  cases hp : S.is p with
  | false =>
    have e : S.head p = 0 := by unfold HS.head headOf; rw [if_neg (by unfold HS.is at hp; simp [hp])]
    have H := Lib.hid hp
    clear hp
    rw [e]
    clear e
    go_enter Try.func87, Try.ntmps87
    go_wp2_with fail
    refine (h.Is p h0 h1).mono ?_
    rintro e w' ⟨rfl, n, rfl⟩
    rw [H.out]
    go_wp2_with fail
    go_ret
    exact says_ret rfl
  | true =>
    obtain ⟨hlt, hj, hm, hb, _⟩ := h.ok.word hp
    have hcell := h.hw _ _ hj
    have c1 := h.c1
    have hlt2 : p / 4 < (S.ws.length : Int) := by omega
    have H := Lib.hid hp
    clear hp hj hlt hm
    go_enter Try.func87, Try.ntmps87
    go_wp2_with fail
    refine (h.Is p h0 h1).mono ?_
    rintro e w' ⟨rfl, n, rfl⟩
    rw [H.out]
    go_wp2_with fail
    go_ret
    exact says_ret rfl

set_option maxHeartbeats 400000 in
theorem RefV.Kind (h : RefV w V S) (p : Int) (h0 : 0 ≤ p) (h1 : p < 18446744073709551616) :
    Calls Try.prog 69 #[.pointer (some ⟨V.g, 0, none⟩), .int .u64 p] w (Says (.int .i64 (S.kind p)) w) := by
  obtain ⟨b0, b1⟩ := h.ok.head_bd p
  go_enter Try.func69, Try.ntmps69
  go_wp2_with fail
  refine (h.Head p h0 h1).mono ?_
  rintro e w' ⟨rfl, n, rfl⟩
  go_wp2_with fail
  go_ret
  exact says_int (by unfold HS.kind kindH; omega)

set_option maxHeartbeats 400000 in
theorem RefV.Tagged (h : RefV w V S) (p : Int) (h0 : 0 ≤ p) (h1 : p < 18446744073709551616) :
    Calls Try.prog 70 #[.pointer (some ⟨V.g, 0, none⟩), .int .u64 p] w (Says (.int .i64 (S.tag p)) w) := by
  obtain ⟨b0, b1⟩ := h.ok.head_bd p
  go_enter Try.func70, Try.ntmps70
  go_wp2_with fail
  refine (h.Head p h0 h1).mono ?_
  rintro e w' ⟨rfl, n, rfl⟩
  go_wp2_with fail
  go_ret
  exact says_int (by unfold HS.tag tagH; omega)

set_option maxHeartbeats 400000 in
theorem RefV.Raws (h : RefV w V S) (p : Int) (h0 : 0 ≤ p) (h1 : p < 18446744073709551616) :
    Calls Try.prog 71 #[.pointer (some ⟨V.g, 0, none⟩), .int .u64 p] w (Says (.int .i64 (S.raw p)) w) := by
  obtain ⟨b0, b1⟩ := h.ok.head_bd p
  go_enter Try.func71, Try.ntmps71
  go_wp2_with fail
  refine (h.Head p h0 h1).mono ?_
  rintro e w' ⟨rfl, n, rfl⟩
  go_wp2_with fail
  go_ret
  exact says_int (by unfold HS.raw rawH; omega)

set_option maxHeartbeats 400000 in
theorem RefV.May (h : RefV w V S) (x : Int) (x0 : 0 ≤ x) (x1 : x < 18446744073709551616) :
    Calls Try.prog 84 #[.pointer (some ⟨V.g, 0, none⟩), .int .u64 x] w (Says (.bool (S.may x)) w) := by
  have hx : x % 4 = 1 ∨ x % 4 = 2 ∨ (x % 4 ≠ 1 ∧ x % 4 ≠ 2) := by omega
  rcases hx with hx | hx | ⟨hx, hx2⟩
  · have hm : S.may x = true := by unfold HS.may mayB; simp [hx]
    have hb : (x % 4 == 1) = true := by simp [hx]
    rw [hm]
    clear hm hx
    go_enter Try.func84, Try.ntmps84
    go_wp2_with fail
    go_ret
    exact says_ret0 rfl
  · have hm : S.may x = true := by unfold HS.may mayB; simp [hx]
    have hb : (x % 4 == 1) = false := by simp [hx]
    have hb2 : (x % 4 == 2) = true := by simp [hx]
    rw [hm]
    clear hm hx
    go_enter Try.func84, Try.ntmps84
    go_wp2_with fail
    go_ret
    exact says_ret0 rfl
  · have hm : S.may x = S.is x := by unfold HS.may mayB HS.is; simp [hx, hx2]
    have hb : (x % 4 == 1) = false := by rw [beq_eq_false_iff_ne]; exact hx
    have hb2 : (x % 4 == 2) = false := by rw [beq_eq_false_iff_ne]; exact hx2
    rw [hm]
    clear hm hx hx2
    go_enter Try.func84, Try.ntmps84
    go_wp2_with fail
    refine (h.Is x x0 x1).mono ?_
    rintro e w' ⟨rfl, n, rfl⟩
    go_wp2_with fail
    go_ret
    exact says_ret rfl
end
end Go.Proofs.Ythkodbmijgehbaa
