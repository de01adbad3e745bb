/- Alloc in one contract; what a new object's header says; tandemlaw00.Place. -/
import Derived.Test.YtanjiecefioffaaHeapAlloc
import Derived.Test.YtanjiecefioffaaHeapNew
namespace Go.Proofs.Ytanjiecefioffaa
open Go.RowKit

def AllocAny (V : HV) (S S' : HS) (b : Bool) (R : HP) (w : World) (e : Ending) (w' : World) : Prop :=
  e = .returned (.tuple #[.int .u64 (if b = true then 4 * S.ws.length else 0), .bool b]) ∧ Below 0 w w' ∧ ∃ V', V'.g = V.g ∧ HeapW w' V' S' R

section
variable {w : World} {V : HV} {S : HS} {R : HP}

theorem HeapW.Alloc (h : HeapW w V S R) (k t r : Int) :
    Calls Try.prog 81 #[.pointer (some ⟨V.g, 0, none⟩), .int .i64 k, .int .i64 t, .int .i64 r] w (AllocAny V S (S.alloc k t r) (S.room k t r) R w) := by
  cases hr : S.room k t r with
  | true =>
    refine (h.Alloc_yes k t r hr).mono ?_
    rintro e w' ⟨he, hb, hv⟩
    exact ⟨by simpa using he, hb, hv⟩
  | false =>
    refine (h.Alloc_no k t r hr).mono ?_
    rintro e w' ⟨he, hw, hb⟩
    refine ⟨by simpa using he, hb, V, rfl, ?_⟩
    unfold HS.alloc; rw [if_neg (by rw [hr]; simp)]; exact hw
end

theorem alloc_ws {S : HS} {k t r : Int} (hr : S.room k t r = true) : S.alloc k t r = { S with ws := S.ws ++ objWords k t r, bs := S.bs ++ laid (1 + t.toNat + r.toNat) } := by unfold HS.alloc; rw [if_pos hr]
theorem room_bd {S : HS} {k t r : Int} (hr : S.room k t r = true) : 1 ≤ k ∧ k ≤ 63 ∧ 0 ≤ t ∧ 0 ≤ r ∧ t ≤ 1048576 ∧ r ≤ 1048576 ∧ 1 + t + r ≤ (S.size : Int) - S.ws.length := by
  unfold HS.room at hr
  simp only [Bool.and_eq_true, decide_eq_true_eq] at hr
  omega
theorem objWords_len {k t r : Int} (c : 0 ≤ t) (d : 0 ≤ r) : ((objWords k t r).length : Int) = 1 + t + r := by simp [objWords]; omega
theorem alloc_len {S : HS} {k t r : Int} (hr : S.room k t r = true) : ((S.alloc k t r).ws.length : Int) = S.ws.length + 1 + t + r := by
  obtain ⟨_, _, c, d, _, _, _⟩ := room_bd hr
  rw [alloc_ws hr]; simp only [List.length_append]; have := objWords_len (k := k) c d; omega

/-- A new object's header. -/
theorem alloc_head {S : HS} {k t r : Int} (hr : S.room k t r = true) (hl : S.bs.length = S.ws.length) : (S.alloc k t r).head (4 * S.ws.length) = headerOf k t r := by
  rw [alloc_ws hr]
  unfold HS.head headOf
  have e : ((4 * (S.ws.length : Int)) / 4).toNat = S.ws.length := by omega
  have hb : isB (S.bs ++ laid (1 + t.toNat + r.toNat)) (4 * S.ws.length) = true := by
    unfold isB
    rw [e, List.getD_eq_getElem?_getD, List.getElem?_append_right (by omega), hl, Nat.sub_self]
    simp [laid]
  rw [if_pos hb, e, List.getD_eq_getElem?_getD, List.getElem?_append_right (Nat.le_refl _), Nat.sub_self]; rfl
theorem alloc_facts {S : HS} {k t r : Int} (hr : S.room k t r = true) (hl : S.bs.length = S.ws.length) :
    (S.alloc k t r).tag (4 * S.ws.length) = t ∧ (S.alloc k t r).raw (4 * S.ws.length) = r ∧ (S.alloc k t r).kind (4 * S.ws.length) = k := by
  obtain ⟨a, b, c, d, e, f, _⟩ := room_bd hr
  obtain ⟨g1, g2, g3, _⟩ := tag_header k t r a b c d e f
  unfold HS.tag HS.raw HS.kind
  rw [alloc_head hr hl]
  exact ⟨g1, g2, g3⟩

def place (v n : Int) : Int := if v.tmod n < 0 then v.tmod n + n else v.tmod n
theorem place_bd (v n : Int) (h : 0 < n) : 0 ≤ place v n ∧ place v n < n := by
  have h1 := Int.tmod_lt_of_pos v h
  have h2 := Int.lt_tmod_of_pos v h
  unfold place; split <;> omega

set_option maxHeartbeats 400000 in
theorem place_any (v n : Int) (w : World) (h0 : 0 < n) (h1 : n ≤ 9223372036854775807) :
    Calls Try.prog 17 #[.int .i64 v, .int .i64 n] w fun e w' => e = .returned (.int .i64 (place v n)) ∧ w = w' := by
  have hn : (n == 0) = false := by rw [beq_eq_false_iff_ne]; omega
  have h2 := Int.tmod_lt_of_pos v h0
  have h3 := Int.lt_tmod_of_pos v h0
  by_cases hneg : v.tmod n < 0
  · have e : place v n = v.tmod n + n := by unfold place; rw [if_pos hneg]
    rw [e]
    clear e
    have hs : IntKind.i64.wrap (v.tmod n + n) = v.tmod n + n := IntWalk.i64_in _ (by omega)
    go_enter Try.func17, Try.ntmps17
    go_wp2
    go_ret
    exact ⟨rfl, rfl⟩
  · have e : place v n = v.tmod n := by unfold place; rw [if_neg hneg]
    have hge : 0 ≤ v.tmod n := by omega
    rw [e]
    clear e hneg
    go_enter Try.func17, Try.ntmps17
    go_wp2
    go_ret
    exact ⟨rfl, rfl⟩
end Go.Proofs.Ytanjiecefioffaa
