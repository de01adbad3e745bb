/- What the heap's readers answer: half, is, Is, head, Kind, Tagged, Raws, Used, Size, Times. -/
import Derived.Test.YtanjiecefioffaaHeapPure
import Derived.Test.YtanjiecefioffaaProg
namespace Go.Proofs.Ytanjiecefioffaa
open Go.RowKit

/-- It answers v and leaves memory alone, but for draws. -/
def Says (v : Value) (w : World) (e : Ending) (w' : World) : Prop := e = .returned v ∧ ∃ n, w' = w.drewN n

theorem says_ret {v v' : Value} {w : World} {n : Nat} (h : v = v') : Says v' w (.returned v) (w.drewN n) := ⟨by rw [h], n, rfl⟩
theorem says_ret0 {v v' : Value} {w : World} (h : v = v') : Says v' w (.returned v) w := ⟨by rw [h], 0, rfl⟩
theorem Calls.said {P : Program} {f : FuncId} {args : Array Value} {w : World} {v : Value} {n : Nat} (h : Calls P f args (w.drewN n) (Says v (w.drewN n))) :
    Calls P f args (w.drewN n) fun e w'' => e = .returned v ∧ ∃ m, w'' = w.drewN m := Calls.quiet_of h

set_option maxHeartbeats 400000 in
theorem half_any (g inn : Nat) (w : World) (h5 : w.cell? ⟨g, 5, none⟩ = some (.int .i64 inn)) (hi : inn < 2) :
    Calls Try.prog 50 #[.pointer (some ⟨g, 0, none⟩)] w (Says (.pointer (some ⟨g, 1 + inn * 2, none⟩)) w) := by
  go_enter Try.func50, Try.ntmps50
  go_wp2
  go_quiet (fail)
  go_wp2
  go_ret
  exact says_ret rfl

theorem isB_true {bs : List Bool} {p : Int} (a : p % 4 = 0) (h : (p / 4).toNat < bs.length) : isB bs p = bs[(p / 4).toNat] := by
  unfold isB; rw [List.getD_eq_getElem?_getD, List.getElem?_eq_getElem h]; simp [a]
theorem isB_out {bs : List Bool} {p : Int} (h : bs.length ≤ (p / 4).toNat) : isB bs p = false := by
  unfold isB; rw [List.getD_eq_getElem?_getD, List.getElem?_eq_none h]; simp
theorem isB_odd {bs : List Bool} {p : Int} (a : ¬ p % 4 = 0) : isB bs p = false := by unfold isB; simp [a]

set_option maxHeartbeats 400000 in
theorem is_any (g off bb n cap : Nat) (bs : List Bool) (p : Int) (w : World) (hc : w.cell? ⟨g, off + 1, none⟩ = some (.slice (some ⟨bb, 0, none⟩) n cap)) (hl : bs.length = n) (hn : n ≤ 1048576)
    (hb : ∀ j x, bs[j]? = some x → w.cell? ⟨bb, j, none⟩ = some (.bool x)) (h0 : 0 ≤ p) (h1 : p < 18446744073709551616) :
    Calls Try.prog 88 #[.pointer (some ⟨g, off, none⟩), .int .u64 p] w (Says (.bool (isB bs p)) w) := by
  by_cases a : p % 4 = 0
  · by_cases b : p / 4 < (n : Int)
    · have hj : (p / 4).toNat < bs.length := by omega
      have hcell := hb _ _ (List.getElem?_eq_getElem hj)
      rw [isB_true a hj]
      clear hb
      go_enter Try.func88, Try.ntmps88
      go_wp2
      go_ret
      exact says_ret0 rfl
    · rw [isB_out (by omega)]
      clear hb
      go_enter Try.func88, Try.ntmps88
      go_wp2
      go_ret
      exact says_ret0 rfl
  · rw [isB_odd a]
    clear hb
    go_enter Try.func88, Try.ntmps88
    go_wp2
    go_ret
    exact says_ret0 rfl

theorem u64_mask (k : Nat) (x : Int) (h0 : 0 ≤ x) (h1 : x < 18446744073709551616) (hk : k < 64) : bits .and .u64 x (2 ^ k - 1) = x % 2 ^ k := by
  obtain ⟨n, rfl⟩ := Int.eq_ofNat_of_zero_le h0
  have hp : 0 < 2 ^ k := Nat.pow_pos (by decide)
  have hlt : 2 ^ k < 18446744073709551616 := Nat.pow_lt_pow_right (by decide) (show k < 64 from hk)
  have e : ((2 : Int) ^ k - 1) = ((2 ^ k - 1 : Nat) : Int) := by
    have : ((2 ^ k : Nat) : Int) = (2 : Int) ^ k := by simp
    omega
  rw [e, u64_and_nat _ _ (by omega) (by omega), Nat.and_two_pow_sub_one_eq_mod]
  simp
theorem u64_mask2 (x : Int) (h0 : 0 ≤ x) (h1 : x < 18446744073709551616) : bits .and .u64 x 3 = x % 4 := u64_mask 2 x h0 h1 (by decide)
theorem u64_mask6 (x : Int) (h0 : 0 ≤ x) (h1 : x < 18446744073709551616) : bits .and .u64 x 63 = x % 64 := u64_mask 6 x h0 h1 (by decide)
theorem u64_mask24 (x : Int) (h0 : 0 ≤ x) (h1 : x < 18446744073709551616) : bits .and .u64 x 16777215 = x % 16777216 := u64_mask 24 x h0 h1 (by decide)
theorem says_int {k : IntKind} {v v' : Int} {w : World} {n : Nat} (h : v' = v) : Says (.int k v) w (.returned (.int k v')) (w.drewN n) := ⟨by rw [h], n, rfl⟩

section
variable {w : World} {V : HV} {S : HS}
theorem HeapV.half (h : HeapV w V S) : Calls Try.prog 50 #[.pointer (some ⟨V.g, 0, none⟩)] w (Says (.pointer (some ⟨V.g, 1 + V.inn * 2, none⟩)) w) :=
  half_any V.g V.inn w h.c5 h.ok.inn
theorem HeapV.len (h : HeapV w V S) : S.ws.length ≤ 1048576 := Nat.le_trans h.ok.used h.ok.hi


set_option maxHeartbeats 400000 in
theorem HeapV.Is (h : HeapV w V S) (p : Int) (h0 : 0 ≤ p) (h1 : p < 18446744073709551616) :
    Calls Try.prog 100 #[.pointer (some ⟨V.g, 0, none⟩), .int .u64 p] w (Says (.bool (S.is p)) w) := by
  go_enter Try.func100, Try.ntmps100
  go_wp2_with fail
  refine (h.half).mono ?_
  rintro e w' ⟨rfl, n, rfl⟩
  go_wp2_with fail
  refine (is_any V.g (1 + V.inn * 2) V.bb S.bs.length V.cb S.bs p (w.drewN n) h.cb rfl (by rw [h.ok.wf.len]; exact h.len) h.hb h0 h1).mono ?_
  rintro e w' ⟨rfl, m, rfl⟩
  go_wp2_with fail
  go_ret
  exact says_ret rfl

theorem HeapV.word (h : HeapV w V S) {p : Int} (hp : S.is p = true) : (p / 4).toNat < S.ws.length ∧ S.ws[(p / 4).toNat]? = some (S.head p) ∧ p % 4 = 0 ∧ p / 4 < 1048576 := by
  have hl := h.len
  have hw := h.ok.wf.len
  unfold HS.is at hp
  have hlt : (p / 4).toNat < S.ws.length := by
    rcases Nat.lt_or_ge (p / 4).toNat S.bs.length with a | a
    · omega
    · rw [isB_out a] at hp; cases hp
  have hm : p % 4 = 0 := by
    rcases Decidable.em (p % 4 = 0) with a | a
    · exact a
    · rw [isB_odd a] at hp; cases hp
  refine ⟨hlt, ?_, hm, by omega⟩
  · unfold HS.head headOf; rw [if_pos hp, List.getD_eq_getElem?_getD, List.getElem?_eq_getElem hlt]; rfl

set_option maxHeartbeats 400000 in
theorem HeapV.Head (h : HeapV w V S) (p : Int) (h0 : 0 ≤ p) (h1 : p < 18446744073709551616) :
    Calls Try.prog 73 #[.pointer (some ⟨V.g, 0, none⟩), .int .u64 p] w (Says (.int .u64 (S.head p)) w) := by
  cases hp : S.is p with
  | false =>
    have e : S.head p = 0 := by unfold HS.head headOf; rw [if_neg (by unfold HS.is at hp; simp [hp])]
    have H := Lib.hid hp
    clear hp
    rw [e]
    clear e
    go_enter Try.func73, Try.ntmps73
    go_wp2_with fail
    refine (h.Is p h0 h1).mono ?_
    rintro e w' ⟨rfl, n, rfl⟩
    rw [H.out]
    go_wp2_with fail
    go_ret
    exact says_ret rfl
  | true =>
    obtain ⟨hlt, hj, hm, hb⟩ := h.word hp
    have hcell := h.hw _ _ hj
    have hcw := h.cw
    have hi := h.ok.inn
    have hl := h.len
    have hlt2 : p / 4 < (S.ws.length : Int) := by omega
    have H := Lib.hid hp
    clear hp hj hlt hm
    go_enter Try.func73, Try.ntmps73
    go_wp2_with fail
    refine (h.Is p h0 h1).mono ?_
    rintro e w' ⟨rfl, n, rfl⟩
    rw [H.out]
    go_wp2_with fail
    refine ((h.drewN n).half).mono ?_
    rintro e w' ⟨rfl, m, rfl⟩
    go_wp2_with fail
    go_ret
    exact says_ret rfl

theorem HeapV.head_bd (h : HeapV w V S) (p : Int) : 0 ≤ S.head p ∧ S.head p < 18446744073709551616 := by
  cases hp : S.is p with
  | false => unfold HS.head headOf; rw [if_neg (by unfold HS.is at hp; simp [hp])]; omega
  | true =>
    obtain ⟨_, hj, _⟩ := h.word hp
    exact h.ok.wf.u _ (List.mem_of_getElem? hj)

set_option maxHeartbeats 400000 in
theorem HeapV.Kind (h : HeapV w V S) (p : Int) (h0 : 0 ≤ p) (h1 : p < 18446744073709551616) :
    Calls Try.prog 90 #[.pointer (some ⟨V.g, 0, none⟩), .int .u64 p] w (Says (.int .i64 (S.kind p)) w) := by
  obtain ⟨b0, b1⟩ := h.head_bd p
  go_enter Try.func90, Try.ntmps90
  go_wp2_with fail
  refine (h.Head p h0 h1).mono ?_
  rintro e w' ⟨rfl, n, rfl⟩
  go_wp2_with fail
  go_ret
  exact says_int (by rw [u64_mask6 _ (by omega) (by omega)]; unfold HS.kind kindH wrap64; omega)

set_option maxHeartbeats 400000 in
theorem HeapV.Tagged (h : HeapV w V S) (p : Int) (h0 : 0 ≤ p) (h1 : p < 18446744073709551616) :
    Calls Try.prog 41 #[.pointer (some ⟨V.g, 0, none⟩), .int .u64 p] w (Says (.int .i64 (S.tag p)) w) := by
  obtain ⟨b0, b1⟩ := h.head_bd p
  go_enter Try.func41, Try.ntmps41
  go_wp2_with fail
  refine (h.Head p h0 h1).mono ?_
  rintro e w' ⟨rfl, n, rfl⟩
  go_wp2_with fail
  go_ret
  exact says_int (by rw [u64_mask24 _ (by omega) (by omega)]; unfold HS.tag tagH wrap64; omega)

set_option maxHeartbeats 400000 in
theorem HeapV.Raws (h : HeapV w V S) (p : Int) (h0 : 0 ≤ p) (h1 : p < 18446744073709551616) :
    Calls Try.prog 71 #[.pointer (some ⟨V.g, 0, none⟩), .int .u64 p] w (Says (.int .i64 (S.raw p)) w) := by
  obtain ⟨b0, b1⟩ := h.head_bd p
  go_enter Try.func71, Try.ntmps71
  go_wp2_with fail
  refine (h.Head p h0 h1).mono ?_
  rintro e w' ⟨rfl, n, rfl⟩
  go_wp2_with fail
  go_ret
  exact says_int (by rw [u64_mask24 _ (by omega) (by omega)]; unfold HS.raw rawH wrap64; omega)

set_option maxHeartbeats 400000 in
theorem HeapV.Used (h : HeapV w V S) :
    Calls Try.prog 25 #[.pointer (some ⟨V.g, 0, none⟩)] w (Says (.int .i64 S.ws.length) w) := by
  have hcw := h.cw
  go_enter Try.func25, Try.ntmps25
  go_wp2_with fail
  refine (h.half).mono ?_
  rintro e w' ⟨rfl, n, rfl⟩
  go_wp2_with fail
  go_ret
  exact says_ret rfl

set_option maxHeartbeats 400000 in
theorem HeapV.Size (h : HeapV w V S) :
    Calls Try.prog 53 #[.pointer (some ⟨V.g, 0, none⟩)] w (Says (.int .i64 S.size) w) := by
  have hc := h.c0
  go_enter Try.func53, Try.ntmps53
  go_wp2_with fail
  go_ret
  exact says_ret0 rfl

set_option maxHeartbeats 400000 in
theorem HeapV.Times (h : HeapV w V S) :
    Calls Try.prog 62 #[.pointer (some ⟨V.g, 0, none⟩)] w (Says (.int .i64 S.times) w) := by
  have hc := h.c6
  go_enter Try.func62, Try.ntmps62
  go_wp2_with fail
  go_ret
  exact says_ret0 rfl
end
end Go.Proofs.Ytanjiecefioffaa
