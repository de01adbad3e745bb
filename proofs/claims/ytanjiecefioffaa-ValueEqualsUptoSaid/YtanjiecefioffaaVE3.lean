/- An object is laid where there is room: Alloc. -/
import Derived.Test.YtanjiecefioffaaVE2
import Derived.IntWalk
import Derived.Test.YtanjiecefioffaaVE1
import Derived.MapKept
namespace Go.Proofs.Ytanjiecefioffaa
open Go.RowKit

def HS.room (S : HS) (kind tagged raw : Int) : Bool :=
  decide (1 ≤ kind) && decide (kind ≤ 63) && decide (0 ≤ tagged) && decide (0 ≤ raw) && decide (tagged ≤ 1048576) && decide (raw ≤ 1048576) && decide (1 + tagged + raw ≤ (S.size : Int) - S.ws.length)
def headerOf (kind tagged raw : Int) : Int := 3 + 4 * kind + 256 * tagged + 4294967296 * raw
def objWords (kind tagged raw : Int) : List Int := headerOf kind tagged raw :: (List.replicate tagged.toNat 2 ++ List.replicate raw.toNat 0)
def HS.alloc (S : HS) (kind tagged raw : Int) : HS := if S.room kind tagged raw = true then { S with ws := S.ws ++ objWords kind tagged raw, bs := S.bs ++ laid (1 + tagged.toNat + raw.toNat) } else S

section
variable {w : World} {V : HV} {S : HS} {R : HP}

set_option maxRecDepth 100000 in
set_option maxHeartbeats 1000000 in
theorem HeapW.Alloc_small (h : HeapW w V S R) (k t r : Int)
    (hn : k < 1 ∨ (1 ≤ k ∧ 63 < k) ∨ (1 ≤ k ∧ k ≤ 63 ∧ t < 0) ∨ (1 ≤ k ∧ k ≤ 63 ∧ 0 ≤ t ∧ r < 0) ∨ (1 ≤ k ∧ k ≤ 63 ∧ 0 ≤ t ∧ 0 ≤ r ∧ 1048576 < t) ∨ (1 ≤ k ∧ k ≤ 63 ∧ 0 ≤ t ∧ 0 ≤ r ∧ t ≤ 1048576 ∧ 1048576 < r)) :
    Calls Try.prog 81 #[.pointer (some ⟨V.g, 0, none⟩), .int .i64 k, .int .i64 t, .int .i64 r] w (Leaves (.tuple #[.int .u64 0, .bool false]) V S R w) := by
  rcases hn with a | ⟨a, b⟩ | ⟨a, b, c⟩ | ⟨a, b, c, d⟩ | ⟨a, b, c, d, e⟩ | ⟨a, b, c, d, e, f⟩
  · go_enter Try.func81, Try.ntmps81
    go_wp2_with fail
    go_quiet (fail)
    go_wp2_with fail
    go_ret2
    exact ⟨rfl, h.drewN _, drewN_below0 _ _⟩
  · have h1 : decide (k < 1) = false := by simp; omega
    have h2 : decide (63 < k) = true := by simp; omega
    clear a b
    go_enter Try.func81, Try.ntmps81
    go_wp2_with fail
    go_quiet (fail)
    go_wp2_with fail
    go_ret2
    exact ⟨rfl, h.drewN _, drewN_below0 _ _⟩
  · have h1 : decide (k < 1) = false := by simp; omega
    have h2 : decide (63 < k) = false := by simp; omega
    have h3 : decide (t < 0) = true := by simp; omega
    clear a b c
    go_enter Try.func81, Try.ntmps81
    go_wp2_with fail
    go_quiet (fail)
    go_wp2_with fail
    go_ret2
    exact ⟨rfl, h.drewN _, drewN_below0 _ _⟩
  · have h1 : decide (k < 1) = false := by simp; omega
    have h2 : decide (63 < k) = false := by simp; omega
    have h3 : decide (t < 0) = false := by simp; omega
    have h4 : decide (r < 0) = true := by simp; omega
    clear a b c d
    go_enter Try.func81, Try.ntmps81
    go_wp2_with fail
    go_quiet (fail)
    go_wp2_with fail
    go_ret2
    exact ⟨rfl, h.drewN _, drewN_below0 _ _⟩
  · have h1 : decide (k < 1) = false := by simp; omega
    have h2 : decide (63 < k) = false := by simp; omega
    have h3 : decide (t < 0) = false := by simp; omega
    have h4 : decide (r < 0) = false := by simp; omega
    have h5 : decide (1048576 < t) = true := by simp; omega
    clear a b c d e
    go_enter Try.func81, Try.ntmps81
    go_wp2_with fail
    go_quiet (fail)
    go_wp2_with fail
    go_ret2
    exact ⟨rfl, h.drewN _, drewN_below0 _ _⟩
  · have h1 : decide (k < 1) = false := by simp; omega
    have h2 : decide (63 < k) = false := by simp; omega
    have h3 : decide (t < 0) = false := by simp; omega
    have h4 : decide (r < 0) = false := by simp; omega
    have h5 : decide (1048576 < t) = false := by simp; omega
    have h6 : decide (1048576 < r) = true := by simp; omega
    clear a b c d e f
    go_enter Try.func81, Try.ntmps81
    go_wp2_with fail
    go_quiet (fail)
    go_wp2_with fail
    go_ret2
    exact ⟨rfl, h.drewN _, drewN_below0 _ _⟩

set_option maxRecDepth 100000 in
set_option maxHeartbeats 400000 in
theorem HeapW.Alloc_full (h : HeapW w V S R) (k t r : Int) (a : 1 ≤ k) (b : k ≤ 63) (c : 0 ≤ t) (d : 0 ≤ r) (e : t ≤ 1048576) (f : r ≤ 1048576) (g : (S.size : Int) - S.ws.length < 1 + t + r) :
    Calls Try.prog 81 #[.pointer (some ⟨V.g, 0, none⟩), .int .i64 k, .int .i64 t, .int .i64 r] w (Leaves (.tuple #[.int .u64 0, .bool false]) V S R w) := by
  have hc0 := h.v.c0
  have hsz := h.ok.hi
  have hl := h.v.len
  have h1 : decide (k < 1) = false := by simp; omega
  have h2 : decide (63 < k) = false := by simp; omega
  have h3 : decide (t < 0) = false := by simp; omega
  have h4 : decide (r < 0) = false := by simp; omega
  have h5 : decide (1048576 < t) = false := by simp; omega
  have h6 : decide (1048576 < r) = false := by simp; omega
  have h7 : decide ((S.size : Int) - S.ws.length < 1 + t + r) = true := by simp; omega
  have s1 : IntKind.i64.wrap (1 + t) = 1 + t := IntWalk.i64_in _ (by omega)
  have s2 : IntKind.i64.wrap (1 + t + r) = 1 + t + r := IntWalk.i64_in _ (by omega)
  have s3 : IntKind.i64.wrap ((S.size : Int) - S.ws.length) = (S.size : Int) - S.ws.length := IntWalk.i64_in _ (by omega)
  clear a b c d e f g hsz hl
  go_enter Try.func81, Try.ntmps81
  go_wp2_with fail
  go_quiet ((go_at_call 25; exact Calls.said ((h.v.drewN _).Used)))
  go_wp2_with fail
  go_ret2
  exact ⟨rfl, h.drewN _, drewN_below0 _ _⟩

theorem HeapW.Alloc_no (h : HeapW w V S R) (k t r : Int) (hn : S.room k t r = false) :
    Calls Try.prog 81 #[.pointer (some ⟨V.g, 0, none⟩), .int .i64 k, .int .i64 t, .int .i64 r] w (Leaves (.tuple #[.int .u64 0, .bool false]) V S R w) := by
  have hcase : (k < 1 ∨ (1 ≤ k ∧ 63 < k) ∨ (1 ≤ k ∧ k ≤ 63 ∧ t < 0) ∨ (1 ≤ k ∧ k ≤ 63 ∧ 0 ≤ t ∧ r < 0) ∨ (1 ≤ k ∧ k ≤ 63 ∧ 0 ≤ t ∧ 0 ≤ r ∧ 1048576 < t) ∨ (1 ≤ k ∧ k ≤ 63 ∧ 0 ≤ t ∧ 0 ≤ r ∧ t ≤ 1048576 ∧ 1048576 < r)) ∨ (1 ≤ k ∧ k ≤ 63 ∧ 0 ≤ t ∧ 0 ≤ r ∧ t ≤ 1048576 ∧ r ≤ 1048576 ∧ (S.size : Int) - S.ws.length < 1 + t + r) := by
    unfold HS.room at hn
    simp only [Bool.and_eq_false_iff, decide_eq_false_iff_not] at hn
    omega
  rcases hcase with hc | ⟨a, b, c, d, e, f, g⟩
  · exact h.Alloc_small k t r hc
  · exact h.Alloc_full k t r a b c d e f g

theorem u64_or_add (i : Nat) (x y : Int) (hx : 0 ≤ x) (hx2 : x < 2 ^ i) (hy : 0 ≤ y) (hi : i < 64) (hs : 2 ^ i * y < 18446744073709551616) : bits .or .u64 x (2 ^ i * y) = x + 2 ^ i * y := by
  obtain ⟨m, rfl⟩ := Int.eq_ofNat_of_zero_le hx
  obtain ⟨n, rfl⟩ := Int.eq_ofNat_of_zero_le hy
  have hp : ((2 ^ i : Nat) : Int) = (2 : Int) ^ i := by simp
  have hlt : 2 ^ i < 18446744073709551616 := Nat.pow_lt_pow_right (by decide) (show i < 64 from hi)
  have e : ((2 : Int) ^ i * (n : Int)) = ((2 ^ i * n : Nat) : Int) := by simp
  rw [e] at hs ⊢
  have hm : m < 2 ^ i := by omega
  rw [u64_or_nat _ _ (by omega) (by omega), Nat.or_comm, ← Nat.two_pow_add_eq_or_of_lt hm]
  omega

theorem header_bits (k t r : Int) (a : 1 ≤ k) (b : k ≤ 63) (c : 0 ≤ t) (d : 0 ≤ r) (e : t ≤ 1048576) (f : r ≤ 1048576) :
    bits .or .u64 (bits .or .u64 (bits .or .u64 3 (4 * k)) (256 * t)) (4294967296 * r) = headerOf k t r := by
  have h1 := u64_or_add 2 3 k (by decide) (by decide) (by omega) (by decide) (by omega)
  have h2 := u64_or_add 8 (3 + 4 * k) t (by omega) (by omega) (by omega) (by decide) (by omega)
  have h3 := u64_or_add 32 (3 + 4 * k + 256 * t) r (by omega) (by omega) (by omega) (by decide) (by omega)
  simp only [show (2 : Int) ^ 2 = 4 from rfl, show (2 : Int) ^ 8 = 256 from rfl, show (2 : Int) ^ 32 = 4294967296 from rfl] at h1 h2 h3
  rw [h1, h2, h3]; rfl

/-- An object's words when n of its tagged fields are laid. -/
def fillTo (hd : Int) (n m : Nat) : List Int := hd :: (List.replicate n 2 ++ List.replicate (m - n) 0)
theorem fill_zero (hd t r : Int) (c : 0 ≤ t) (d : 0 ≤ r) : (List.replicate (1 + t + r).toNat (Value.int .u64 0)).set 0 (.int .u64 hd) = (fillTo hd 0 (t.toNat + r.toNat)).map u64 := by
  rw [show (1 + t + r).toNat = t.toNat + r.toNat + 1 by omega, List.replicate_succ]
  simp [fillTo]
theorem fill_get (hd : Int) (n m : Nat) (h : n < m) : ((fillTo hd n m).map u64)[1 + n]? = some (.int .u64 0) := by
  rw [Nat.add_comm 1 n]
  simp only [fillTo, List.map_cons, List.getElem?_cons_succ, List.map_append, List.map_replicate]
  rw [List.getElem?_append_right (by simp), List.length_replicate, Nat.sub_self, List.getElem?_replicate, if_pos (by omega)]
theorem fill_step (hd : Int) (n m : Nat) (h : n < m) : ((fillTo hd n m).map u64).set (1 + n) (.int .u64 2) = (fillTo hd (n + 1) m).map u64 := by
  rw [Nat.add_comm 1 n]
  obtain ⟨q, rfl⟩ : ∃ q, m = n + 1 + q := ⟨m - n - 1, by omega⟩
  simp only [fillTo, show n + 1 + q - n = q + 1 by omega, show n + 1 + q - (n + 1) = q by omega, List.map_cons, List.set_cons_succ, List.map_append, List.map_replicate]
  rw [List.set_append_right _ _ (by simp)]
  simp only [List.length_replicate, Nat.sub_self]
  rw [List.replicate_succ (n := q), List.set_cons_zero, List.replicate_succ' (n := n), List.append_assoc]; rfl

/-- Alloc's loop: n of the tagged fields are laid. -/
def AllocRel (bn : Nat) (hd : Int) (V : HV) (S : HS) (R : HP) (w : World) (t r : Int) (i : Value) (wr : World) : Prop :=
  ∃ n : Nat, n ≤ t.toNat ∧ i = .int .i64 n ∧ sat wr (row 22 1 bn (1 + t + r).toNat ((fillTo hd n (t.toNat + r.toNat)).map u64) * (isHeap V S * R)) ∧ Below 0 w wr

theorem heapCells_w (V : HV) (S : HS) (h : V.inn < 2) : (heapCells V S)[1 + V.inn * 2]? = some (.slice (some ⟨V.bw, 0, none⟩) S.ws.length V.cw) := by
  unfold heapCells
  split
  · rename_i e; rw [e]; rfl
  · have e : V.inn = 1 := by omega
    rw [e]; rfl
theorem heapCells_b (V : HV) (S : HS) (h : V.inn < 2) : (heapCells V S)[1 + V.inn * 2 + 1]? = some (.slice (some ⟨V.bb, 0, none⟩) S.bs.length V.cb) := by
  unfold heapCells
  split
  · rename_i e; rw [e]; rfl
  · have e : V.inn = 1 := by omega
    rw [e]; rfl
theorem heapCells_set (V : HV) (S S' : HS) (h : V.inn < 2) (hs : S'.size = S.size) (ht : S'.times = S.times) (bw cw bb cb : Nat) :
    ((heapCells V S).setIfInBounds (1 + V.inn * 2) (.slice (some ⟨bw, 0, none⟩) S'.ws.length cw)).setIfInBounds (1 + V.inn * 2 + 1) (.slice (some ⟨bb, 0, none⟩) S'.bs.length cb) = heapCells { V with bw := bw, cw := cw, bb := bb, cb := cb } S' := by
  have e : V.inn = 0 ∨ V.inn = 1 := by omega
  rcases e with e | e
  · simp [heapCells, e, HV.vw, HV.vb, hs, ht]
  · simp [heapCells, e, HV.vw, HV.vb, hs, ht]

theorem laid_len (m : Nat) (h : 0 < m) : (laid m).length = m := by simp [laid]; omega
theorem laid_at (bs : List Bool) (m q : Nat) : (bs ++ laid m)[q]? = some true ↔ bs[q]? = some true ∨ q = bs.length := by
  rcases Nat.lt_trichotomy q bs.length with hq | hq | hq
  · rw [List.getElem?_append_left hq]
    exact ⟨.inl, fun h => h.resolve_right (by omega)⟩
  · subst hq
    rw [List.getElem?_append_right (Nat.le_refl _)]
    simp [laid]
  · rw [List.getElem?_append_right (by omega), List.getElem?_eq_none (by omega : bs.length ≤ q)]
    obtain ⟨j, hj⟩ : ∃ j, q - bs.length = j + 1 := ⟨q - bs.length - 1, by omega⟩
    rw [hj]
    simp only [laid, List.getElem?_cons_succ, List.getElem?_replicate]
    constructor
    · intro h'; split at h' <;> simp at h'
    · rintro (h' | h')
      · cases h'
      · omega
theorem tag_header (k t r : Int) (a : 1 ≤ k) (b : k ≤ 63) (c : 0 ≤ t) (d : 0 ≤ r) (e : t ≤ 1048576) (f : r ≤ 1048576) : tagH (headerOf k t r) = t ∧ rawH (headerOf k t r) = r ∧ kindH (headerOf k t r) = k ∧ headerOf k t r % 4 = 3 ∧ 0 ≤ headerOf k t r ∧ headerOf k t r < 18446744073709551616 := by
  unfold tagH rawH kindH headerOf; omega
theorem wf_alloc {ws : List Int} {bs : List Bool} (h : WfH ws bs) {k t r : Int} (a : 1 ≤ k) (b : k ≤ 63) (c : 0 ≤ t) (d : 0 ≤ r) (e : t ≤ 1048576) (f : r ≤ 1048576) :
    WfH (ws ++ objWords k t r) (bs ++ laid (1 + t.toNat + r.toNat)) := by
  obtain ⟨g1, g2, g3, g4, g5, g6⟩ := tag_header k t r a b c d e f
  have hxl : (objWords k t r).length = 1 + t.toNat + r.toNat := by simp [objWords]; omega
  have hll := laid_len (1 + t.toNat + r.toNat) (by omega)
  have hold : ∀ q, q < ws.length → (ws ++ objWords k t r).getD q 0 = ws.getD q 0 := by
    intro q hq
    rw [List.getD_eq_getElem?_getD, List.getElem?_append_left hq, ← List.getD_eq_getElem?_getD]
  have hnew : (ws ++ objWords k t r).getD ws.length 0 = headerOf k t r := by
    rw [List.getD_eq_getElem?_getD, List.getElem?_append_right (Nat.le_refl _), Nat.sub_self]; rfl
  have hlt : ∀ q, bs[q]? = some true → q < ws.length := by
    intro q hq
    have := (List.getElem?_eq_some_iff.1 hq).1
    have := h.len; omega
  have hpos := h.pos
  have hlen := h.len
  refine ⟨by rw [List.length_append, List.length_append, hll, hxl, h.len], by rw [List.length_append]; omega, ?_, ?_, ⟨?_, ?_⟩, ?_, ?_, ?_, ?_⟩
  · intro x hx
    rcases List.mem_append.1 hx with hx | hx
    · exact h.u x hx
    · simp only [objWords, List.mem_cons, List.mem_append, List.mem_replicate] at hx
      rcases hx with rfl | ⟨_, rfl⟩ | ⟨_, rfl⟩
      · exact ⟨g5, g6⟩
      · decide
      · decide
  · intro q hq
    rw [List.length_append, hxl]
    rcases (laid_at _ _ _).1 hq with hq | rfl
    · rw [hold q (hlt q hq)]
      have := h.fits q hq; omega
    · rw [h.len, hnew, g1, g2]; omega
  · rw [List.getElem?_append_left (by omega)]; exact h.zero.1
  · rw [List.getElem?_append_left hpos]; exact h.zero.2
  · right
    rcases h.first with hf | hf
    · exact (laid_at _ _ _).2 (.inr (by omega))
    · exact (laid_at _ _ _).2 (.inl hf)
  · intro q hq
    rw [List.length_append, hxl]
    rcases (laid_at _ _ _).1 hq with hq | rfl
    · rw [hold q (hlt q hq)]
      right
      rcases h.next q hq with hn | hn
      · exact (laid_at _ _ _).2 (.inr (by omega))
      · exact (laid_at _ _ _).2 (.inl hn)
    · left; rw [h.len, hnew, g1, g2]; omega
  · intro q hq
    rcases (laid_at _ _ _).1 hq with hq | rfl
    · rw [hold q (hlt q hq)]; exact h.hdr q hq
    · rw [h.len, hnew, g3]; refine ⟨g4, a, ?_⟩; unfold headerOf; omega
  · intro q j hq hj hqj
    rcases (laid_at _ _ _).1 hq with hq | rfl
    · rw [hold q (hlt q hq)]
      rcases (laid_at _ _ _).1 hj with hj | rfl
      · exact h.apart q j hq hj hqj
      · rw [h.len]; exact h.fits q hq
    · rcases (laid_at _ _ _).1 hj with hj | rfl
      · have := hlt j hj; have := h.len; omega
      · omega

theorem isB_app (bs cs : List Bool) (x : Int) (h : isB bs x = true) : isB (bs ++ cs) x = true := by
  unfold isB at h ⊢
  simp only [Bool.and_eq_true] at h ⊢
  refine ⟨h.1, ?_⟩
  have h2 := h.2
  rw [List.getD_eq_getElem?_getD] at h2 ⊢
  rcases Nat.lt_or_ge (x / 4).toNat bs.length with a | a
  · rw [List.getElem?_append_left a]; exact h2
  · rw [List.getElem?_eq_none a] at h2; simp at h2
theorem mayB_app (bs cs : List Bool) (x : Int) (h : mayB bs x = true) : mayB (bs ++ cs) x = true := by
  unfold mayB at h ⊢
  simp only [Bool.or_eq_true] at h ⊢
  rcases h with h | h
  · exact .inl h
  · exact .inr (isB_app _ _ _ h)
theorem ptr_alloc {ws : List Int} {bs : List Bool} (h : WfH ws bs) (hp : PtrOk ws bs) {k t r : Int} (a : 1 ≤ k) (b : k ≤ 63) (c : 0 ≤ t) (d : 0 ≤ r) (e : t ≤ 1048576) (f : r ≤ 1048576) :
    PtrOk (ws ++ objWords k t r) (bs ++ laid (1 + t.toNat + r.toNat)) := by
  obtain ⟨g1, _⟩ := tag_header k t r a b c d e f
  have hlen := h.len
  intro q i hq hi
  rcases (laid_at _ _ _).1 hq with hq | rfl
  · have hf := h.fits q hq
    rw [List.getD_eq_getElem?_getD, List.getElem?_append_left (by omega), ← List.getD_eq_getElem?_getD] at hi
    rw [List.getD_eq_getElem?_getD, List.getElem?_append_left (by omega), ← List.getD_eq_getElem?_getD]
    exact mayB_app _ _ _ (hp q i hq hi)
  · rw [List.getD_eq_getElem?_getD, List.getElem?_append_right (by omega), hlen, Nat.sub_self] at hi
    have hi2 : i < t.toNat := by
      have : ((objWords k t r)[0]?.getD 0) = headerOf k t r := rfl
      rw [this, g1] at hi; exact hi
    rw [List.getD_eq_getElem?_getD, List.getElem?_append_right (by omega), hlen, show ws.length + 1 + i - ws.length = i + 1 by omega]
    simp only [objWords, List.getElem?_cons_succ]
    rw [List.getElem?_append_left (by simpa using hi2), List.getElem?_replicate, if_pos hi2]
    simp [mayB]

def AllocPost (V : HV) (S S' : HS) (R : HP) (w : World) (e : Ending) (w' : World) : Prop :=
  e = .returned (.tuple #[.int .u64 (4 * S.ws.length), .bool true]) ∧ Below 0 w w' ∧ ∃ V', V'.g = V.g ∧ HeapW w' V' S' R

set_option maxRecDepth 100000 in
set_option maxHeartbeats 1000000 in
theorem HeapW.Alloc_yes (h : HeapW w V S R) (k t r : Int) (hn : S.room k t r = true) :
    Calls Try.prog 81 #[.pointer (some ⟨V.g, 0, none⟩), .int .i64 k, .int .i64 t, .int .i64 r] w (AllocPost V S (S.alloc k t r) R w) := by
  have hc0 := h.v.c0
  have hsz := h.ok.hi
  have hl := h.v.len
  have hcase : 1 ≤ k ∧ k ≤ 63 ∧ 0 ≤ t ∧ 0 ≤ r ∧ t ≤ 1048576 ∧ r ≤ 1048576 ∧ 1 + t + r ≤ (S.size : Int) - S.ws.length := by
    unfold HS.room at hn
    simp only [Bool.and_eq_true, decide_eq_true_eq] at hn
    omega
  have HN := Lib.hid hn; clear hn
  obtain ⟨a, b, c, d, e, f, g⟩ := hcase
  have h1 : decide (k < 1) = false := by simp; omega
  have h2 : decide (63 < k) = false := by simp; omega
  have h3 : decide (t < 0) = false := by simp; omega
  have h4 : decide (r < 0) = false := by simp; omega
  have h5 : decide (1048576 < t) = false := by simp; omega
  have h6 : decide (1048576 < r) = false := by simp; omega
  have h7 : decide ((S.size : Int) - S.ws.length < 1 + t + r) = false := by simp; omega
  have s1 : IntKind.i64.wrap (1 + t) = 1 + t := IntWalk.i64_in _ (by omega)
  have s2 : IntKind.i64.wrap (1 + t + r) = 1 + t + r := IntWalk.i64_in _ (by omega)
  have s3 : IntKind.i64.wrap ((S.size : Int) - S.ws.length) = (S.size : Int) - S.ws.length := IntWalk.i64_in _ (by omega)
  go_enter Try.func81, Try.ntmps81
  go_wp2_with fail
  go_quiet ((go_at_call 25; exact Calls.said ((h.v.drewN _).Used)))
  clear h1 h2 h3 h4 h5 h6 h7 s1 s3
  obtain ⟨i0, hi, hz0, hz1, hz2⟩ := info_parts info_u64
  have H1 := Lib.hid (And.intro hi (And.intro hz0 (And.intro hz1 hz2)))
  clear hi hz0 hz1 hz2
  go_wp2_with (at_make; refine halt ?_)
  refine goon ?_
  obtain ⟨hi, hz0, hz1, hz2⟩ := H1.out
  refine wpList_make_sat rfl 35 (.tmp 51) (.tmp 51) rfl 22 i0 (.int .u64 0) 8 Try.underlying35 hi hz0 hz1 hz2 rfl .i64 .i64 (1 + t + r) (isHeap V S * R) rfl rfl ?_ ?h ?c1 ?c2 ?c3
  case h => exact (h.drewN nq).s
  case c1 => omega
  case c2 => omega
  case c3 => omega
  clear hi hz0 hz1 hz2 s2
  intro bn w1 hs1 hb1
  have hN : 0 < (1 + t + r).toNat := by omega
  have q1 : w1.cell? ⟨bn, 0, none⟩ = some (.int .u64 0) := hs1.row_cell (by rw [List.getElem?_replicate, if_pos hN])
  have q2 : w1.frozen? ⟨bn, 0, none⟩ = false := hs1.row_frozen 0
  go_wp2_with fail
  rw [Int.mul_comm k 4, Int.mul_comm t 256, Int.mul_comm r 4294967296, header_bits k t r a b c d e f]
  generalize hh : headerOf k t r = hd
  have hs2 := hs1.row_set 0 (.int .u64 hd)
  have hb2 : Below 0 w (w1.setCell ⟨bn, 0, none⟩ (.int .u64 hd)) := ((drewN_below0 w nq).trans hb1).setCell (Nat.zero_le _) _
  generalize hw2 : w1.setCell ⟨bn, 0, none⟩ (.int .u64 hd) = w2 at hs2 hb2 ⊢
  clear hw2 q1 q2 hs1 hb1
  rw [show (List.replicate (1 + t + r).toNat (Value.int .u64 0)).set 0 (.int .u64 hd) = (fillTo hd 0 (t.toNat + r.toNat)).map u64 from fill_zero hd t r c d] at hs2
  go_loopw [68] (AllocRel bn hd V S R w t r) (fun i _ => t.toNat - (intOf i).toNat)
  case atStart => exact ⟨0, Nat.zero_le _, rfl, hs2, hb2⟩
  case round =>
    obtain ⟨n, hn, rfl, hs3, hb3⟩ := hrel
    by_cases hlt : n < t.toNat
    · have hlt2 : (n : Int) < t := by omega
      have q1 : wr.cell? ⟨bn, 1 + n, none⟩ = some (.int .u64 0) := hs3.row_cell (fill_get hd n (t.toNat + r.toNat) (by omega))
      have q2 : wr.frozen? ⟨bn, 1 + n, none⟩ = false := hs3.row_frozen _
      have s1 : IntKind.i64.wrap (1 + (n : Int)) = 1 + n := IntWalk.i64_in _ (by omega)
      go_wp2_with fail
      go_roundw
      case rel =>
        have hs4 := hs3.row_set (1 + n) (.int .u64 2)
        rw [fill_step hd n (t.toNat + r.toNat) (by omega)] at hs4
        exact ⟨n + 1, by omega, by go_num, hs4, hb3.setCell (Nat.zero_le _) _⟩
      case measure => simp [intOf]; omega
    · have hge : t ≤ (n : Int) := by omega
      obtain rfl : n = t.toNat := by omega
      have hv := hs3.right.heapV h.ok
      go_wp2_with fail
      refine hv.half.mono ?_
      rintro e w' ⟨rfl, q, rfl⟩
      go_wp2_with fail
      have hs5 : sat (wr.drewN q) (blk V.g (.cells (heapCells V S) 125 (0, 0)) * (row 22 1 V.bw V.cw (S.ws.map u64) * (row 4 1 V.bb V.cb (S.bs.map .bool) * (row 22 1 bn (1 + t + r).toNat ((fillTo hd t.toNat (t.toNat + r.toNat)).map u64) * R)))) := (hs3.drewN q).perm (by unfold isHeap; ac_rfl)
      refine (lay_any V.g (1 + V.inn * 2) V.bw V.cw V.bb V.cb bn 0 (1 + t + r).toNat (1 + t + r).toNat (heapCells V S) 125 S.ws S.bs (fillTo hd t.toNat (t.toNat + r.toNat)) hs5 (heapCells_w V S h.ok.inn) (heapCells_b V S h.ok.inn) hv.wc hv.bc h.ok.wf.len h.ok.wf.pos ?_ (by omega) (by omega) ?_).mono ?_
      · simp [fillTo]; omega
      · intro j x hx
        rw [Nat.zero_add]
        exact (hs3.drewN q).row_cell (by rw [List.getElem?_map, hx]; rfl)
      rintro e w3 ⟨rfl, hb4, bw', cw', bb', cb', hcw, hcb, hs6⟩
      go_wp2_with fail
      go_ret2
      have hroom := HN.out
      have hS : S.alloc k t r = { S with ws := S.ws ++ objWords k t r, bs := S.bs ++ laid (1 + t.toNat + r.toNat) } := by unfold HS.alloc; rw [if_pos hroom]
      have hx : fillTo hd t.toNat (t.toNat + r.toNat) = objWords k t r := by rw [← hh]; unfold fillTo objWords; rw [Nat.add_sub_cancel_left]
      have hxl : (objWords k t r).length = 1 + t.toNat + r.toNat := by simp [objWords]; omega
      rw [hx, hxl] at hs6
      rw [hx, hxl] at hcw hcb
      rw [hS]
      refine ⟨rfl, (hb3.trans (drewN_below0 _ _)).trans hb4, { V with bw := bw', cw := cw', bb := bb', cb := cb' }, rfl, ?_, ?_⟩
      · have e1 := heapCells_set V S { S with ws := S.ws ++ objWords k t r, bs := S.bs ++ laid (1 + t.toNat + r.toNat) } h.ok.inn rfl rfl bw' cw' bb' cb'
        have e2 : (S.ws ++ objWords k t r).length = S.ws.length + (1 + t.toNat + r.toNat) := by rw [List.length_append, hxl]
        have e3 : (S.bs ++ laid (1 + t.toNat + r.toNat)).length = S.ws.length + (1 + t.toNat + r.toNat) := by rw [List.length_append, laid_len _ (by omega), h.ok.wf.len]
        simp only [e2, e3] at e1
        rw [e1] at hs6
        have h7 : sat w3 (isHeap { V with bw := bw', cw := cw', bb := bb', cb := cb' } { S with ws := S.ws ++ objWords k t r, bs := S.bs ++ laid (1 + t.toNat + r.toNat) } * R * row 22 1 bn (1 + t + r).toNat ((objWords k t r).map u64)) := hs6.perm (by unfold isHeap; ac_rfl)
        exact h7.left
      · have ok := h.ok
        exact ⟨ok.inn, ok.lo, ok.hi, by simp only [List.length_append, hxl]; omega, wf_alloc ok.wf a b c d e f, ok.times, ptr_alloc ok.wf ok.ptr a b c d e f⟩
end
end Go.Proofs.Ytanjiecefioffaa

/- A heap is made: empty, New. -/
namespace Go.Proofs.Ytanjiecefioffaa
open Go.RowKit

section
variable {w : World} {R : HP}

def EmptyPost (R : HP) (w : World) (e : Ending) (w' : World) : Prop :=
  ∃ b1 b2, e = .returned (.agg #[.slice (some ⟨b1, 0, none⟩) 1 1, .slice (some ⟨b2, 0, none⟩) 1 1]) ∧ sat w' (row 22 1 b1 1 [.int .u64 0] * (row 4 1 b2 1 [.bool false] * R)) ∧ Below 0 w w'

set_option maxHeartbeats 400000 in
theorem empty_any (hs : sat w R) : Calls Try.prog 79 #[] w (EmptyPost R w) := by
  go_enter Try.func79, Try.ntmps79
  go_wp2_with fail
  refine bodyPost_ret (v := .agg #[.slice (some ⟨w.heap.size + 1, 0, none⟩) 1 1, .slice (some ⟨w.heap.size + 1 + 1, 0, none⟩) 1 1]) (by simp [results, Try.results79, go_sem]) rfl ⟨_, _, rfl, ?_, ?_⟩
  · generalize hA : (w.alloc (.cells #[.slice (some ⟨w.heap.size + 1, 0, none⟩) 1 1, .slice (some ⟨w.heap.size + 1 + 1, 0, none⟩) 1 1] 93)) = wa
    have h0 : sat wa R := by rw [← hA]; exact (hs.alloc _).right
    have hz : w.heap.size + 1 = wa.heap.size := by rw [← hA]; simp
    have h1 := h0.alloc (.cells #[.int .u64 0] 22)
    have h2 := h1.alloc (.cells #[.bool false] 4)
    rw [hz]
    have hz2 : wa.heap.size + 1 = (wa.alloc (.cells #[.int .u64 0] 22)).heap.size := by simp
    rw [hz2]
    have h3 := HP.comm _ _ ▸ h2
    have h4 := (h2.shut_row (xs := [.bool false]) (cap := 1) (sz := 1) rfl (by simp) (by unfold maxLen; omega) rfl)
    have h5 : sat _ (blk wa.heap.size (.cells #[.int .u64 0] 22 (0, 0)) * (row 4 1 (wa.alloc (.cells #[.int .u64 0] 22)).heap.size 1 [.bool false] * R)) := h4.perm (by ac_rfl)
    exact h5.shut_row rfl (by simp) (by unfold maxLen; omega) rfl
  · exact ((Below.zero_alloc _ _).trans (Below.zero_alloc _ _)).trans (Below.zero_alloc _ _)

set_option maxHeartbeats 400000 in
theorem New_bad (n : Int) (h : n < 2 ∨ 1048576 < n) : Calls Try.prog 49 #[.int .i64 n] w (Says (.tuple #[.pointer none, .int .i64 1]) w) := by
  by_cases h1 : n < 2
  · go_enter Try.func49, Try.ntmps49
    go_wp2_with fail
    go_ret2
    exact says_ret0 rfl
  · have h2 : 1048576 < n := by omega
    go_enter Try.func49, Try.ntmps49
    go_wp2_with fail
    go_ret2
    exact says_ret0 rfl

def HS.new (n : Nat) : HS := ⟨n, [0], [false], 0⟩
def NewPost (n : Nat) (R : HP) (w : World) (e : Ending) (w' : World) : Prop :=
  ∃ V, e = .returned (.tuple #[.pointer (some ⟨V.g, 0, none⟩), .int .i64 0]) ∧ HeapW w' V (HS.new n) R ∧ Below 0 w w'

theorem HOk_new (V : HV) (n : Nat) (h : V.inn < 2) (h1 : 2 ≤ n) (h2 : n ≤ 1048576) : HOk V (HS.new n) := by
  have hno : ∀ k : Nat, (HS.new n).bs[k]? = some true → False := by
    intro k hk
    simp only [HS.new] at hk
    rcases k with _ | k <;> simp at hk
  refine ⟨h, h1, h2, by simp [HS.new]; omega, ⟨rfl, by simp [HS.new], ?_, fun k hk => (hno k hk).elim, ⟨rfl, rfl⟩, .inl rfl, fun k hk => (hno k hk).elim, fun k hk => (hno k hk).elim, fun k _ hk => (hno k hk).elim⟩, by simp [HS.new], fun k _ hk => (hno k hk).elim⟩
  intro x hx; simp [HS.new] at hx; subst hx; decide

set_option maxHeartbeats 400000 in
theorem New_good (n : Nat) (hs : sat w R) (h1 : 2 ≤ n) (h2 : n ≤ 1048576) : Calls Try.prog 49 #[.int .i64 n] w (NewPost n R w) := by
  go_enter Try.func49, Try.ntmps49
  go_wp2_with fail
  refine (empty_any hs).mono ?_
  rintro e w1 ⟨b1, b2, rfl, hs1, hb1⟩
  go_wp2_with fail
  refine (empty_any hs1).mono ?_
  rintro e w2 ⟨c1, c2, rfl, hs2, hb2⟩
  go_wp2_with fail
  go_ret2
  refine ⟨⟨w2.heap.size, 0, b1, 1, b2, 1, .slice (some ⟨c1, 0, none⟩) 1 1, .slice (some ⟨c2, 0, none⟩) 1 1⟩, rfl, ⟨?_, HOk_new _ n Nat.zero_lt_two h1 h2⟩, (hb1.trans hb2).trans (Below.zero_alloc _ _)⟩
  have h3 := hs2.alloc (.cells #[.int .i64 n, .slice (some ⟨b1, 0, none⟩) 1 1, .slice (some ⟨b2, 0, none⟩) 1 1, .slice (some ⟨c1, 0, none⟩) 1 1, .slice (some ⟨c2, 0, none⟩) 1 1, .int .i64 0, .int .i64 0] 125)
  have h4 : sat (w2.alloc (.cells #[.int .i64 n, .slice (some ⟨b1, 0, none⟩) 1 1, .slice (some ⟨b2, 0, none⟩) 1 1, .slice (some ⟨c1, 0, none⟩) 1 1, .slice (some ⟨c2, 0, none⟩) 1 1, .int .i64 0, .int .i64 0] 125)) ((blk w2.heap.size (.cells #[.int .i64 n, .slice (some ⟨b1, 0, none⟩) 1 1, .slice (some ⟨b2, 0, none⟩) 1 1, .slice (some ⟨c1, 0, none⟩) 1 1, .slice (some ⟨c2, 0, none⟩) 1 1, .int .i64 0, .int .i64 0] 125) * (row 22 1 b1 1 [.int .u64 0] * row 4 1 b2 1 [.bool false])) * R * (row 22 1 c1 1 [.int .u64 0] * row 4 1 c2 1 [.bool false])) := h3.perm (by ac_rfl)
  exact h4.left
end
end Go.Proofs.Ytanjiecefioffaa

/- Alloc in one contract; what a new object's header says; tandemlaw00.Place. -/
namespace Go.Proofs.Ytanjiecefioffaa
open Go.RowKit

def AllocAny (V : HV) (S S' : HS) (b : Bool) (R : HP) (w : World) (e : Ending) (w' : World) : Prop :=
  e = .returned (.tuple #[.int .u64 (if b = true then 4 * S.ws.length else 0), .bool b]) ∧ Below 0 w w' ∧ ∃ V', V'.g = V.g ∧ HeapW w' V' S' R

section
variable {w : World} {V : HV} {S : HS} {R : HP}

theorem HeapW.Alloc (h : HeapW w V S R) (k t r : Int) :
    Calls Try.prog 81 #[.pointer (some ⟨V.g, 0, none⟩), .int .i64 k, .int .i64 t, .int .i64 r] w (AllocAny V S (S.alloc k t r) (S.room k t r) R w) := by
  cases hr : S.room k t r with
  | true =>
    refine (h.Alloc_yes k t r hr).mono ?_
    rintro e w' ⟨he, hb, hv⟩
    exact ⟨by simpa using he, hb, hv⟩
  | false =>
    refine (h.Alloc_no k t r hr).mono ?_
    rintro e w' ⟨he, hw, hb⟩
    refine ⟨by simpa using he, hb, V, rfl, ?_⟩
    unfold HS.alloc; rw [if_neg (by rw [hr]; simp)]; exact hw
end

theorem alloc_ws {S : HS} {k t r : Int} (hr : S.room k t r = true) : S.alloc k t r = { S with ws := S.ws ++ objWords k t r, bs := S.bs ++ laid (1 + t.toNat + r.toNat) } := by unfold HS.alloc; rw [if_pos hr]
theorem room_bd {S : HS} {k t r : Int} (hr : S.room k t r = true) : 1 ≤ k ∧ k ≤ 63 ∧ 0 ≤ t ∧ 0 ≤ r ∧ t ≤ 1048576 ∧ r ≤ 1048576 ∧ 1 + t + r ≤ (S.size : Int) - S.ws.length := by
  unfold HS.room at hr
  simp only [Bool.and_eq_true, decide_eq_true_eq] at hr
  omega
theorem objWords_len {k t r : Int} (c : 0 ≤ t) (d : 0 ≤ r) : ((objWords k t r).length : Int) = 1 + t + r := by simp [objWords]; omega
theorem alloc_len {S : HS} {k t r : Int} (hr : S.room k t r = true) : ((S.alloc k t r).ws.length : Int) = S.ws.length + 1 + t + r := by
  obtain ⟨_, _, c, d, _, _, _⟩ := room_bd hr
  rw [alloc_ws hr]; simp only [List.length_append]; have := objWords_len (k := k) c d; omega

/-- A new object's header. -/
theorem alloc_head {S : HS} {k t r : Int} (hr : S.room k t r = true) (hl : S.bs.length = S.ws.length) : (S.alloc k t r).head (4 * S.ws.length) = headerOf k t r := by
  rw [alloc_ws hr]
  unfold HS.head headOf
  have e : ((4 * (S.ws.length : Int)) / 4).toNat = S.ws.length := by omega
  have hb : isB (S.bs ++ laid (1 + t.toNat + r.toNat)) (4 * S.ws.length) = true := by
    unfold isB
    rw [e, List.getD_eq_getElem?_getD, List.getElem?_append_right (by omega), hl, Nat.sub_self]
    simp [laid]
  rw [if_pos hb, e, List.getD_eq_getElem?_getD, List.getElem?_append_right (Nat.le_refl _), Nat.sub_self]; rfl
theorem alloc_facts {S : HS} {k t r : Int} (hr : S.room k t r = true) (hl : S.bs.length = S.ws.length) :
    (S.alloc k t r).tag (4 * S.ws.length) = t ∧ (S.alloc k t r).raw (4 * S.ws.length) = r ∧ (S.alloc k t r).kind (4 * S.ws.length) = k := by
  obtain ⟨a, b, c, d, e, f, _⟩ := room_bd hr
  obtain ⟨g1, g2, g3, _⟩ := tag_header k t r a b c d e f
  unfold HS.tag HS.raw HS.kind
  rw [alloc_head hr hl]
  exact ⟨g1, g2, g3⟩

def place (v n : Int) : Int := if v.tmod n < 0 then v.tmod n + n else v.tmod n
theorem place_bd (v n : Int) (h : 0 < n) : 0 ≤ place v n ∧ place v n < n := by
  have h1 := Int.tmod_lt_of_pos v h
  have h2 := Int.lt_tmod_of_pos v h
  unfold place; split <;> omega

set_option maxHeartbeats 400000 in
theorem place_any (v n : Int) (w : World) (h0 : 0 < n) (h1 : n ≤ 9223372036854775807) :
    Calls Try.prog 17 #[.int .i64 v, .int .i64 n] w fun e w' => e = .returned (.int .i64 (place v n)) ∧ w = w' := by
  have hn : (n == 0) = false := by rw [beq_eq_false_iff_ne]; omega
  have h2 := Int.tmod_lt_of_pos v h0
  have h3 := Int.lt_tmod_of_pos v h0
  by_cases hneg : v.tmod n < 0
  · have e : place v n = v.tmod n + n := by unfold place; rw [if_pos hneg]
    rw [e]
    clear e
    have hs : IntKind.i64.wrap (v.tmod n + n) = v.tmod n + n := IntWalk.i64_in _ (by omega)
    go_enter Try.func17, Try.ntmps17
    go_wp2
    go_ret
    exact ⟨rfl, rfl⟩
  · have e : place v n = v.tmod n := by unfold place; rw [if_neg hneg]
    have hge : 0 ≤ v.tmod n := by omega
    rw [e]
    clear e hneg
    go_enter Try.func17, Try.ntmps17
    go_wp2
    go_ret
    exact ⟨rfl, rfl⟩
end Go.Proofs.Ytanjiecefioffaa

/- What came in: rows of integers, seen from a later world. -/
namespace Go.Proofs.Ytanjiecefioffaa
open Go.RowKit

/-- WHAT THE WALK IS TOLD OF A SLICE OF INTEGERS THAT CAME IN (the words of proof-skeleton.mjs). -/
def IsRow (k : IntKind) (w : World) (a : Option Addr) (len cap : Nat) (zs : List Int) : Prop :=
  (a = none ∧ len = 0 ∧ cap = 0 ∧ zs = []) ∨
  ∃ x, a = some x ∧ len ≤ cap ∧ cap ≤ maxLen ∧ zs.length = cap ∧ (∀ i, i < zs.length → w.cell? (x.add i) = some (.int k (zs.getD i 0))) ∧ ∀ n ∈ zs, (Lit.int k n).wf = true

theorem sat.old_cell {W w : World} {P : HP} (h : sat w (P * whole W)) {a : Addr} {v : Value} (hc : W.cell? a = some v) : w.cell? a = some v := by
  have hb : a.block < W.heap.size := World.block_lt_of_cell? W a hc
  exact (World.cell?_of_block (h.right.whole_get a.block hb)).trans hc

theorem IsRow.cell {k : IntKind} {w : World} {a : Option Addr} {len cap : Nat} {zs : List Int} (h : IsRow k w a len cap zs) {i : Nat} (hi : i < len) :
    ∃ x, a = some x ∧ len ≤ cap ∧ zs.length = cap ∧ w.cell? (x.add i) = some (.int k (zs.getD i 0)) ∧ (Lit.int k (zs.getD i 0)).wf = true := by
  rcases h with ⟨_, rfl, _⟩ | ⟨x, rfl, hl, hm, hz, hc, hw⟩
  · omega
  · refine ⟨x, rfl, hl, hz, hc i (by omega), hw _ ?_⟩
    rw [List.getD_eq_getElem?_getD, List.getElem?_eq_getElem (by omega)]
    exact List.getElem_mem _
theorem IsRow.len_le {k : IntKind} {w : World} {a : Option Addr} {len cap : Nat} {zs : List Int} (h : IsRow k w a len cap zs) : len ≤ 9223372036854775807 := by
  rcases h with ⟨_, rfl, _⟩ | ⟨x, rfl, hl, hm, _⟩
  · omega
  · unfold maxLen at hm; omega
theorem below_of_whole {W w : World} {P : HP} (h : sat w (P * whole W)) (hb : Below 0 W w) : Below W.heap.size W w := ⟨hb.os, hb.tape, hb.output, hb.size, h.right.whole_get⟩
theorem below_of_whole' {W w : World} (h : sat w (whole W)) (hb : Below 0 W w) : Below W.heap.size W w := ⟨hb.os, hb.tape, hb.output, hb.size, h.whole_get⟩
end Go.Proofs.Ytanjiecefioffaa

/- A map from strings to words, as a part of memory; its look-up and its store. -/
namespace Go.Proofs.Ytanjiecefioffaa
open Go.RowKit Go.MapKept

abbrev SM := List (ByteArray × Int)
def smKV (p : ByteArray × Int) : Value × Value := (.string p.1, .int .u64 p.2)
/-- Block b is a map of these entries, in the order of their making. -/
def mapS (b : Nat) (l : SM) : HP := fun h => ∃ (es : Array MapEntry) (clock : Nat), blk b (.map es clock) h ∧ es.toList.map (fun e => (e.key, e.val)) = l.map smKV
def SM.get (l : SM) (s : ByteArray) : Option Int := (l.find? fun p => p.1 = s).map (·.2)
def SM.put (l : SM) (s : ByteArray) (v : Int) : SM := if l.any (fun p => p.1 = s) then l.map (fun p => if p.1 = s then (s, v) else p) else l ++ [(s, v)]

section
variable {P : Program} {w : World} {R : HP} {b : Nat} {l : SM}
theorem sat.open_map (h : sat w (mapS b l * R)) : ∃ (es : Array MapEntry) (clock : Nat), sat w (blk b (.map es clock) * R) ∧ es.toList.map (fun e => (e.key, e.val)) = l.map smKV := by
  obtain ⟨x, ⟨h1, h2, ⟨es, clock, hb, hl⟩, hR, hd, hu⟩, hw⟩ := h
  exact ⟨es, clock, ⟨x, ⟨h1, h2, hb, hR, hd, hu⟩, hw⟩, hl⟩
theorem sat.shut_map {es : Array MapEntry} {clock : Nat} (h : sat w (blk b (.map es clock) * R)) (hl : es.toList.map (fun e => (e.key, e.val)) = l.map smKV) : sat w (mapS b l * R) := by
  obtain ⟨x, ⟨h1, h2, hb, hR, hd, hu⟩, hw⟩ := h
  exact ⟨x, ⟨h1, h2, ⟨es, clock, hb, hl⟩, hR, hd, hu⟩, hw⟩
theorem sat.new_map (h : sat w R) : sat (w.alloc (.map #[] 0)) (mapS w.heap.size [] * R) := (h.alloc _).shut_map rfl

theorem find_str (s : ByteArray) : ∀ (es : List MapEntry) (l : SM) (i : Nat), es.map (fun e => (e.key, e.val)) = l.map smKV →
    (SM.get l s = none ∧ Instr.findNow .string (.string s) es i = some none ∧ l.any (fun p => p.1 = s) = false) ∨
    ∃ (v : Int) (j : Nat), SM.get l s = some v ∧ Instr.findNow .string (.string s) es i = some (some (i + j, .int .u64 v)) ∧ (∃ e, es[j]? = some e ∧ e.key = .string s) ∧ (∀ j' p, j' < j → l[j']? = some p → p.1 ≠ s) ∧ (∃ p, l[j]? = some p ∧ p.1 = s) := by
  intro es
  induction es with
  | nil =>
    intro l i h
    cases l with
    | nil => exact .inl ⟨rfl, rfl, rfl⟩
    | cons p l => simp at h
  | cons e es ih =>
    intro l i h
    cases l with
    | nil => simp at h
    | cons p l =>
      simp only [List.map_cons, List.cons.injEq, smKV, Prod.mk.injEq] at h
      obtain ⟨⟨hk, hv⟩, ht⟩ := h
      by_cases hs : p.1 = s
      · right
        refine ⟨p.2, 0, ?_, ?_, ⟨e, rfl, by rw [hk, hs]⟩, fun j' q hj => by omega, ⟨p, rfl, hs⟩⟩
        · unfold SM.get; simp [hs]
        · simp only [Instr.findNow, hk, Instr.sameNow, hs, (bytes_beq s s).2 rfl, hv, Nat.add_zero]
      · have hne : (s == p.1) = false := by
          cases hq : (s == p.1) with
          | false => rfl
          | true => exact absurd ((bytes_beq s p.1).1 hq).symm hs
        rcases ih l (i + 1) ht with ⟨h1, h2, h3⟩ | ⟨v, j, h1, h2, h3, h4, h5⟩
        · left
          refine ⟨?_, ?_, ?_⟩
          · unfold SM.get at *; simp [hs]; simpa using h1
          · simp only [Instr.findNow, hk, Instr.sameNow, hne]; exact h2
          · simp [List.any_cons, hs]; simpa using h3
        · right
          refine ⟨v, j + 1, ?_, ?_, h3, ?_, h5⟩
          · unfold SM.get at *; simp [hs]; simpa using h1
          · simp only [Instr.findNow, hk, Instr.sameNow, hne]; rw [h2]; congr 3; omega
          · intro j' q hj hq
            cases j' with
            | zero => simp at hq; subst hq; exact hs
            | succ j' => exact h4 j' q (by omega) hq

/-- 'v, ok := m[s]'. -/
theorem run_lookup_str (h : sat w (mapS b l * R)) {t kt et : TypeId} (ht : P.underlying t = some (.map kt et)) (hk : P.underlying kt = some .string) (hz : (zeroValue et).run P w = .ok (.int .u64 0) w) (s : ByteArray) :
    (Instr.lookup t (.map (some b)) (.string s) true).run P w = .ok (.tuple #[.int .u64 ((l.get s).getD 0), .bool (l.get s).isSome]) w := by
  obtain ⟨es, clock, hs, hl⟩ := h.open_map
  have hg := hs.left.get
  have hc : ∀ e, (Instr.checkKey e 10000 kt (.string s)).run P w = .ok () w := fun e => run_checkKey (w := w) hk (k := .string s) trivial e 9999
  rcases find_str s es.toList l 0 hl with ⟨h1, h2, _⟩ | ⟨v, j, h1, h2, _⟩
  · rw [h1]
    simp [Instr.lookup, run_underlying ht, Go.MapKept.run_getObj_map hg, Result.andThen, hc, run_findKey hk h2, hz]
  · rw [h1]
    simp [Instr.lookup, run_underlying ht, Go.MapKept.run_getObj_map hg, Result.andThen, hc, run_findKey hk h2]

/-- 'm[s] = v', of a string that is not there. -/
theorem run_store_str (h : sat w (mapS b l * R)) {t kt et : TypeId} (ht : P.underlying t = some (.map kt et)) (hk : P.underlying kt = some .string) (s : ByteArray) (v : Int) (hn : l.get s = none) :
    ∃ w', (Instr.mapUpdate t (.map (some b)) (.string s) (.int .u64 v)).run P w = .ok () w' ∧ sat w' (mapS b (l ++ [(s, v)]) * R) ∧ Below 0 w w' := by
  obtain ⟨es, clock, hs, hl⟩ := h.open_map
  have hg := hs.left.get
  have hc : ∀ e, (Instr.checkKey e 10000 kt (.string s)).run P w = .ok () w := fun e => run_checkKey (w := w) hk (k := .string s) trivial e 9999
  rcases find_str s es.toList l 0 hl with ⟨h1, h2, _⟩ | ⟨v', j, h1, h2, _⟩
  · obtain ⟨k1, k2⟩ := heap_set (o' := .map (es.push { key := .string s, val := .int .u64 v, born := clock }) (clock + 1)) hg
    refine ⟨{ w with heap := w.heap.setIfInBounds b (.map (es.push { key := .string s, val := .int .u64 v, born := clock }) (clock + 1)) }, ?_, ?_, ⟨rfl, rfl, rfl, by simp, fun k hk => by omega⟩⟩
    · simp [Instr.mapUpdate, run_underlying ht, Go.MapKept.run_getObj_map hg, Result.andThen, hc, run_findKey hk h2, Go.MapKept.run_setObj_map _ hg]
    · exact (hs.put k1 (fun k hk _ => k2 k hk)).shut_map (by simp [hl, smKV])
  · rw [hn] at h1; cases h1
end

section
variable {P : Program} {w : World} {R : HP} {b : Nat} {l : SM}
theorem wpList_lookup_str {ops : Array Oper} {rest : List Oper} {o : Oper} {a : Act} {Q : Exit → Act → World → Prop} (hgd : o.guard = none) (m x : Operand) (t : TypeId) (ho : o.op = .lookup t m x true)
    (kt et : TypeId) (ht : P.underlying t = some (.map kt et)) (hk : P.underlying kt = some .string) (hz : (zeroValue et).run P w = .ok (.int .u64 0) w) (s : ByteArray) (hm : a.eval m = .map (some b)) (hx : a.eval x = .string s)
    (h : sat w (mapS b l * R)) (k : wpList P ops Q rest (a.put o.dst (.tuple #[.int .u64 ((l.get s).getD 0), .bool (l.get s).isSome])) w) : wpList P ops Q (o :: rest) a w := by
  refine wpList_plain hgd fun K hK => ?_
  unfold Oper.wp execOp
  simp [ho, hm, hx, run_lookup_str h ht hk hz s, Result.andThen]
  exact hK _ _ k
theorem wpList_store_str {ops : Array Oper} {rest : List Oper} {o : Oper} {a : Act} {Q : Exit → Act → World → Prop} (hgd : o.guard = none) (m x y : Operand) (t : TypeId) (ho : o.op = .mapUpdate t m x y)
    (kt et : TypeId) (ht : P.underlying t = some (.map kt et)) (hk : P.underlying kt = some .string) (s : ByteArray) (v : Int) (hm : a.eval m = .map (some b)) (hx : a.eval x = .string s) (hy : a.eval y = .int .u64 v)
    (hn : l.get s = none) (h : sat w (mapS b l * R)) (k : ∀ w', sat w' (mapS b (l ++ [(s, v)]) * R) → Below 0 w w' → wpList P ops Q rest (a.put o.dst undef) w') : wpList P ops Q (o :: rest) a w := by
  obtain ⟨w', hr, h2, h3⟩ := run_store_str h ht hk s v hn
  refine wpList_plain hgd fun K hK => ?_
  unfold Oper.wp execOp
  simp [ho, hm, hx, hy, hr, Result.andThen]
  exact hK _ _ (k w' h2 h3)
end
end Go.Proofs.Ytanjiecefioffaa

/- value.Store: where it lies; New, room, known. -/
namespace Go.Proofs.Ytanjiecefioffaa
open Go.RowKit

/-- Where a store lies: its block, its map's block, the slice of names. -/
structure StV where
  g : Nat
  mb : Nat
  ov : Value
/-- What a store holds beside its heap: symbols, names in order, the heap's times when these were right. -/
structure StS where
  syms : SM
  ord : List ByteArray
  tm : Nat
def isSt (X : StV) (hg : Nat) (Y : StS) : HP :=
  blk X.g (.cells #[.pointer (some ⟨hg, 0, none⟩), .map (some X.mb), X.ov, i64 Y.tm] 41 (0, 0)) * (mapS X.mb Y.syms * own 9 1 X.ov Y.ord.length (Y.ord.map .string))

structure StW (w : World) (X : StV) (V : HV) (S : HS) (Y : StS) (R : HP) : Prop where
  s : sat w (isHeap V S * (isSt X V.g Y * R))
  ok : HOk V S

section
variable {w : World} {X : StV} {V : HV} {S : HS} {Y : StS} {R : HP}
theorem StW.hw (h : StW w X V S Y R) : HeapW w V S (isSt X V.g Y * R) := ⟨h.s, h.ok⟩
theorem StW.drewN (h : StW w X V S Y R) (n : Nat) : StW (w.drewN n) X V S Y R := ⟨h.s, h.ok⟩
theorem StW.blk (h : StW w X V S Y R) : sat w (Go.Proofs.Ytanjiecefioffaa.blk X.g (.cells #[.pointer (some ⟨V.g, 0, none⟩), .map (some X.mb), X.ov, i64 Y.tm] 41 (0, 0))) := by
  have h1 := h.s.right.left
  unfold isSt at h1
  exact h1.left
theorem StW.c0 (h : StW w X V S Y R) : w.cell? ⟨X.g, 0, none⟩ = some (.pointer (some ⟨V.g, 0, none⟩)) := (h.blk.cell 0).trans rfl
theorem StW.c1 (h : StW w X V S Y R) : w.cell? ⟨X.g, 1, none⟩ = some (.map (some X.mb)) := (h.blk.cell 1).trans rfl
theorem StW.c2 (h : StW w X V S Y R) : w.cell? ⟨X.g, 2, none⟩ = some X.ov := (h.blk.cell 2).trans rfl
theorem StW.c3 (h : StW w X V S Y R) : w.cell? ⟨X.g, 3, none⟩ = some (.int .i64 Y.tm) := (h.blk.cell 3).trans rfl
/-- The heap turns; the rest stays. -/
theorem StW.turn {w' : World} {V' : HV} {S' : HS} (h : HeapW w' V' S' (isSt X V.g Y * R)) (hg : V'.g = V.g) : StW w' X V' S' Y R := ⟨by rw [hg]; exact h.s, h.ok⟩

set_option maxHeartbeats 400000 in
theorem StNew_good (n : Nat) (hs : sat w R) (h1 : 2 ≤ n) (h2 : n ≤ 1048576) :
    Calls Try.prog 18 #[.int .i64 n] w fun e w' => ∃ (X : StV) (V : HV), e = .returned (.tuple #[.pointer (some ⟨X.g, 0, none⟩), .int .i64 0]) ∧ StW w' X V (HS.new n) ⟨[], [], 0⟩ R ∧ Below 0 w w' := by
  have hmm := @run_makeMap Try.prog
  go_enter Try.func18, Try.ntmps18
  go_wp2_with fail
  refine (New_good n hs h1 h2).mono ?_
  rintro e w1 ⟨V, rfl, hw1, hb1⟩
  go_wp2_with fail
  go_ret2
  have h3 := (hw1.s.nil_own (e := 9) (sz := 1)).new_map
  have h4 := h3.alloc (.cells #[.pointer (some ⟨V.g, 0, none⟩), .map (some w1.heap.size), .slice none 0 0, .int .i64 0] 41)
  refine ⟨⟨(w1.alloc (.map #[] 0)).heap.size, w1.heap.size, .slice none 0 0⟩, V, ?_, ⟨?_, hw1.ok⟩, (hb1.trans (Below.zero_alloc _ _)).trans (Below.zero_alloc _ _)⟩
  · simp [World.size_alloc]
  · unfold isSt
    exact h4.perm (by ac_rfl)

set_option maxHeartbeats 400000 in
theorem StW.room (h : StW w X V S Y R) (n : Int) :
    Calls Try.prog 57 #[.pointer (some ⟨X.g, 0, none⟩), .int .i64 n] w (Says (.bool (decide (n ≤ (S.size : Int) - S.ws.length))) w) := by
  have c0 := h.c0
  have hsz := h.ok.hi
  have hul := h.ok.used
  have hw : IntKind.i64.wrap ((S.size : Int) - S.ws.length) = (S.size : Int) - S.ws.length := IntWalk.i64_in _ (by omega)
  go_enter Try.func57, Try.ntmps57
  go_wp2_with fail
  go_quiet ((first
    | (go_at_call 53; exact Calls.said ((h.hw.v.drewN _).Size))
    | (go_at_call 25; exact Calls.said ((h.hw.v.drewN _).Used))))
  go_wp2_with fail
  go_ret
  exact says_ret rfl
end
end Go.Proofs.Ytanjiecefioffaa

/- value.Store: known, May. -/
namespace Go.Proofs.Ytanjiecefioffaa
open Go.RowKit

/-- The words xs can be read here. -/
def ReadsW (w : World) (ao : Option Addr) (xs : List Int) : Prop := ∀ (j : Nat) x, xs[j]? = some x → ∃ a, ao = some a ∧ w.cell? (a.add j) = some (.int .u64 x)
def MayRel (w : World) (S : HS) (xs : List Int) (i : Value) (wr : World) : Prop :=
  ∃ k n : Nat, k ≤ xs.length ∧ i = .int .i64 k ∧ wr = w.drewN n ∧ (xs.take k).all (S.may ·) = true

section
variable {w : World} {X : StV} {V : HV} {S : HS} {Y : StS} {R : HP}
set_option maxHeartbeats 400000 in
theorem StW.known (h : StW w X V S Y R) (ht : Y.tm = S.times) :
    Calls Try.prog 56 #[.pointer (some ⟨X.g, 0, none⟩)] w (Says (.map (some X.mb)) w) := by
  have c0 := h.c0
  have c1 := h.c1
  have c3 := h.c3
  rw [ht] at c3
  have HT := Lib.hid ht
  clear ht
  go_enter Try.func56, Try.ntmps56
  go_wp2_with fail
  go_quiet ((go_at_call 62; exact Calls.said ((h.hw.v.drewN _).Times)))
  go_wp2_with fail
  go_ret
  exact ⟨rfl, nq, rfl⟩

theorem may_bits (x : Int) (x0 : 0 ≤ x) (x1 : x < 18446744073709551616) : bits .and .u64 x 3 = x % 4 := u64_mask2 x x0 x1

set_option maxHeartbeats 1000000 in
theorem StW.May (h : StW w X V S Y R) (ao : Option Addr) (cap : Nat) (xs : List Int) (hx : ReadsW w ao xs) (hu : ∀ x ∈ xs, 0 ≤ x ∧ x < 18446744073709551616) (hn : xs.length < 4611686018427387904) :
    Calls Try.prog 80 #[.pointer (some ⟨X.g, 0, none⟩), .slice ao xs.length cap] w (Says (.bool (xs.all (S.may ·))) w) := by
  have c0 := h.c0
  go_enter Try.func80, Try.ntmps80
  go_wp2_with fail
  go_loopw [9] (MayRel w S xs) (fun i _ => xs.length - (intOf i).toNat)
  case atStart => exact ⟨0, 0, Nat.zero_le _, rfl, rfl, rfl⟩
  case round =>
    obtain ⟨k, n, hk, rfl, rfl, hall⟩ := hrel
    by_cases hlt : k < xs.length
    · obtain ⟨x, ex⟩ : ∃ x, xs[k]? = some x := ⟨_, List.getElem?_eq_getElem hlt⟩
      obtain ⟨x0, x1⟩ := hu x (List.mem_of_getElem? ex)
      obtain ⟨a, rfl, hcx⟩ := hx k x ex
      have hc2 : (w.drewN n).cell? (a.add k) = some (.int .u64 x) := hcx
      have hnext : (xs.take (k + 1)).all (S.may ·) = ((xs.take k).all (S.may ·) && S.may x) := by rw [List.take_add_one, ex]; simp
      have hmem : S.may x = false → xs.all (S.may ·) = false := fun e => by
        rw [List.all_eq_false]; exact ⟨x, List.mem_of_getElem? ex, by simp [e]⟩
      have HE := Lib.hid (And.intro ex (And.intro hnext (And.intro hmem hall)))
      clear ex hnext hmem hall hcx
      have hbit := may_bits x x0 x1
      have hcase : x % 4 = 3 ∨ x % 4 = 0 ∨ (x % 4 ≠ 3 ∧ x % 4 ≠ 0) := by omega
      rcases hcase with e | e | ⟨e1, e2⟩
      · have hm : S.may x = false := by unfold HS.may mayB isB; simp [e]
        have HM := Lib.hid hm
        have b1 : (x % 4 == 3) = true := by simp [e]
        clear hm
        rw [e] at hbit
        clear e b1
        go_wp2_with fail
        go_ret
        exact ⟨by rw [HE.out.2.2.1 HM.out]; rfl, n, rfl⟩
      · have hm : S.may x = S.is x := by unfold HS.may mayB HS.is; simp [e]
        have HM := Lib.hid hm
        clear hm
        rw [e] at hbit
        clear e
        have hI := fun m : Nat => (h.drewN m).hw.v.Is x x0 x1
        cases hq : S.is x
        · rw [hq] at hI
          have HQ := Lib.hid hq
          have HI := Lib.hid hI
          clear hq hI
          go_wp2_with fail
          refine (HI.out n).mono ?_
          rintro e w' ⟨rfl, j, rfl⟩
          go_wp2_with fail
          go_ret
          exact ⟨by rw [HE.out.2.2.1 (HM.out.trans HQ.out)]; rfl, n + j, rfl⟩
        · rw [hq] at hI
          have HQ := Lib.hid hq
          have HI := Lib.hid hI
          clear hq hI
          go_wp2_with fail
          refine (HI.out n).mono ?_
          rintro e w' ⟨rfl, j, rfl⟩
          go_wp2_with fail
          go_roundw
          case rel => exact ⟨k + 1, n + j, by omega, by go_num, rfl, by rw [HE.out.2.1, HE.out.2.2.2, HM.out, HQ.out]; rfl⟩
          case measure => simp [intOf]; omega
      · have hm : S.may x = true := by
          have : x % 4 = 1 ∨ x % 4 = 2 := by omega
          unfold HS.may mayB; rcases this with e | e <;> simp [e]
        have HM := Lib.hid hm
        have b1 : (x % 4 == 3) = false := by rw [beq_eq_false_iff_ne]; exact e1
        have b2 : (x % 4 == 0) = false := by rw [beq_eq_false_iff_ne]; exact e2
        clear hm
        go_wp2_with fail
        go_roundw
        case rel => exact ⟨k + 1, n, by omega, by go_num, rfl, by rw [HE.out.2.1, HE.out.2.2.2, HM.out]; rfl⟩
        case measure => simp [intOf]; omega
    · obtain rfl : k = xs.length := by omega
      have hge : (xs.length : Int) ≤ xs.length := by omega
      rw [List.take_of_length_le (Nat.le_refl _)] at hall
      have HA := Lib.hid hall
      clear hall
      go_wp2_with fail
      go_ret
      rw [HA.out]
      exact ⟨rfl, n, rfl⟩
end
end Go.Proofs.Ytanjiecefioffaa

/- A collection, plainly: Cheney's two fingers. -/
namespace Go.Proofs.Ytanjiecefioffaa
open Go.RowKit

/-- While it goes: the new words, where objects begin there, where each old one was copied to (0: nowhere yet). -/
structure CS where
  tw : List Int
  tb : List Bool
  gone : List Int

def sizeAt (ws : List Int) (k : Nat) : Nat := 1 + (tagH (ws.getD k 0)).toNat + (rawH (ws.getD k 0)).toNat

/-- An object at place k is copied. -/
def CS.put (S : HS) (c : CS) (k : Nat) : CS :=
  { tw := c.tw ++ (S.ws.drop k).take (sizeAt S.ws k), tb := c.tb ++ laid (sizeAt S.ws k), gone := c.gone.set k (4 * c.tw.length) }
def copy1 (S : HS) (c : CS) (w : Int) : CS × Int :=
  if S.is w = true then
    if c.gone.getD (w / 4).toNat 0 = 0 then (c.put S (w / 4).toNat, 4 * c.tw.length) else (c, c.gone.getD (w / 4).toNat 0)
  else (c, w)
/-- The roots, one by one. -/
def copyAll (S : HS) (c : CS) : List Int → CS × List Int
  | [] => (c, [])
  | w :: l => let (c1, v) := copy1 S c w; let (c2, vs) := copyAll S c1 l; (c2, v :: vs)
/-- A tagged field of an object in the new half. -/
def fix1 (S : HS) (c : CS) (j : Nat) : CS := let (c1, v) := copy1 S c (c.tw.getD j 0); { c1 with tw := c1.tw.set j v }
/-- n tagged fields from place j on. -/
def fixN (S : HS) (c : CS) (j : Nat) : Nat → CS
  | 0 => c
  | n + 1 => fixN S (fix1 S c j) (j + 1) n
/-- The objects of the new half, from place 'at' on. -/
def scan (S : HS) : Nat → CS → Nat → CS
  | 0, c, _ => c
  | f + 1, c, j => if j < c.tw.length then scan S f (fixN S c (j + 1) (tagH (c.tw.getD j 0)).toNat) (j + sizeAt c.tw j) else c
def CS.zero (S : HS) : CS := { tw := [0], tb := [false], gone := List.replicate S.ws.length 0 }
def gcEnd (S : HS) (roots : List Int) : CS := scan S S.ws.length (copyAll S (CS.zero S) roots).1 1
def HS.collect (S : HS) (roots : List Int) : HS := { size := S.size, ws := (gcEnd S roots).tw, bs := (gcEnd S roots).tb, times := S.times + 1 }
def HS.moved (S : HS) (roots : List Int) : List Int := (copyAll S (CS.zero S) roots).2
end Go.Proofs.Ytanjiecefioffaa

/- A collection, plainly: what holds while it goes. -/
namespace Go.Proofs.Ytanjiecefioffaa
open Go.RowKit

/-! ### Sums over places -/
def sumO (p : Nat → Bool) (f : Nat → Nat) : Nat → Nat
  | 0 => 0
  | m + 1 => sumO p f m + if p m = true then f m else 0
theorem sumO_congr {p q : Nat → Bool} {f : Nat → Nat} {m : Nat} (h : ∀ k, k < m → p k = q k) : sumO p f m = sumO q f m := by
  induction m with
  | zero => rfl
  | succ m ih => simp only [sumO]; rw [ih (fun k hk => h k (by omega)), h m (by omega)]
theorem sumO_mono {p q : Nat → Bool} {f : Nat → Nat} {m : Nat} (h : ∀ k, k < m → p k = true → q k = true) : sumO p f m ≤ sumO q f m := by
  induction m with
  | zero => exact Nat.le_refl _
  | succ m ih =>
    have h1 := ih (fun k hk => h k (by omega))
    simp only [sumO]
    cases hp : p m with
    | false => simp; split <;> omega
    | true => rw [h m (by omega) hp]; simp; exact h1
theorem sumO_set {p q : Nat → Bool} {f : Nat → Nat} {m k : Nat} (hk : k < m) (h0 : p k = false) (h1 : q k = true) (h : ∀ j, j ≠ k → q j = p j) : sumO q f m = sumO p f m + f k := by
  induction m with
  | zero => omega
  | succ m ih =>
    simp only [sumO]
    by_cases e : k = m
    · subst e
      rw [h0, h1, sumO_congr (p := q) (q := p) (fun j hj => h j (by omega))]
      simp
    · rw [ih (by omega), h m (by omega)]
      omega

/-- All objects together are no longer than what is used. -/
theorem sum_le {ws : List Int} {bs : List Bool} (h : WfH ws bs) (m : Nat) : ∀ E, 1 ≤ E → (∀ k, k < m → bs[k]? = some true → k + sizeAt ws k ≤ E) → sumO (fun k => bs.getD k false) (sizeAt ws) m + 1 ≤ E := by
  induction m with
  | zero => intro E hE _; simp only [sumO]; omega
  | succ m ih =>
    intro E hE hk
    simp only [sumO]
    by_cases hb : bs.getD m false = true
    · have hm : bs[m]? = some true := by
        rw [List.getD_eq_getElem?_getD] at hb
        cases e : bs[m]? with
        | none => rw [e] at hb; cases hb
        | some b => rw [e] at hb; simp at hb; rw [hb]
      have hm1 : 1 ≤ m := by
        rcases Nat.eq_zero_or_pos m with e | e
        · subst e; rw [h.zero.1] at hm; cases hm
        · exact e
      have h1 := ih m hm1 (fun k hk' hb' => by have := h.apart k m hb' hm hk'; unfold sizeAt; omega)
      have h2 := hk m (by omega) hm
      rw [if_pos hb]; omega
    · rw [if_neg hb]; exact ih E hE (fun k hk' => hk k (by omega))
theorem sum_all {ws : List Int} {bs : List Bool} (h : WfH ws bs) : sumO (fun k => bs.getD k false) (sizeAt ws) ws.length + 1 ≤ ws.length :=
  sum_le h ws.length ws.length h.pos fun k _ hb => by have := h.fits k hb; unfold sizeAt; omega

theorem getD_true {bs : List Bool} {k : Nat} : bs.getD k false = true ↔ bs[k]? = some true := by
  rw [List.getD_eq_getElem?_getD]
  cases bs[k]? with
  | none => simp
  | some b => simp
theorem isB_iff {bs : List Bool} {w : Int} : isB bs w = true ↔ w % 4 = 0 ∧ bs[(w / 4).toNat]? = some true := by
  unfold isB; rw [Bool.and_eq_true, decide_eq_true_eq, getD_true]
theorem isB_place {bs : List Bool} {j : Nat} : isB bs (4 * (j : Int)) = true ↔ bs[j]? = some true := by
  rw [isB_iff, show (4 * (j : Int) / 4).toNat = j by omega]
  exact ⟨fun h => h.2, fun h => ⟨by omega, h⟩⟩
theorem getD_app_left {l m : List Int} {k : Nat} (h : k < l.length) : (l ++ m).getD k 0 = l.getD k 0 := by
  rw [List.getD_eq_getElem?_getD, List.getElem?_append_left h, ← List.getD_eq_getElem?_getD]
theorem getD_app_right {l m : List Int} {k : Nat} : (l ++ m).getD (l.length + k) 0 = m.getD k 0 := by
  rw [List.getD_eq_getElem?_getD, List.getElem?_append_right (by omega), Nat.add_sub_cancel_left, ← List.getD_eq_getElem?_getD]
theorem getD_set_ne {l : List Int} {j k : Nat} {v : Int} (h : j ≠ k) : (l.set j v).getD k 0 = l.getD k 0 := by
  rw [List.getD_eq_getElem?_getD, List.getElem?_set_ne h, ← List.getD_eq_getElem?_getD]
theorem getD_set_eq {l : List Int} {j : Nat} {v : Int} (h : j < l.length) : (l.set j v).getD j 0 = v := by
  rw [List.getD_eq_getElem?_getD, List.getElem?_set_self h]; rfl
theorem getD_piece {l : List Int} {k n i : Nat} (h : i < n) : ((l.drop k).take n).getD i 0 = l.getD (k + i) 0 := by
  rw [List.getD_eq_getElem?_getD, List.getElem?_take, if_pos h, List.getElem?_drop, ← List.getD_eq_getElem?_getD]

/-- An object's words laid behind. -/
theorem wf_append {ws : List Int} {bs : List Bool} (h : WfH ws bs) {xs : List Int} (hl : xs.length = sizeAt xs 0) (hu : ∀ x ∈ xs, 0 ≤ x ∧ x < 18446744073709551616)
    (hh : xs.getD 0 0 % 4 = 3 ∧ 1 ≤ kindH (xs.getD 0 0) ∧ xs.getD 0 0 < 72057594037927936) : WfH (ws ++ xs) (bs ++ laid xs.length) := by
  have hp : 0 < xs.length := by rw [hl]; unfold sizeAt; omega
  have hll := laid_len xs.length hp
  have hold : ∀ q, q < ws.length → (ws ++ xs).getD q 0 = ws.getD q 0 := fun q hq => getD_app_left hq
  have hnew : (ws ++ xs).getD ws.length 0 = xs.getD 0 0 := by have := getD_app_right (l := ws) (m := xs) (k := 0); simpa using this
  have hlt : ∀ q, bs[q]? = some true → q < ws.length := by
    intro q hq
    have := (List.getElem?_eq_some_iff.1 hq).1
    have := h.len; omega
  have hpos := h.pos
  have hlen := h.len
  refine ⟨by rw [List.length_append, List.length_append, hll, h.len], by rw [List.length_append]; omega, ?_, ?_, ⟨?_, ?_⟩, ?_, ?_, ?_, ?_⟩
  · intro x hx
    rcases List.mem_append.1 hx with hx | hx
    · exact h.u x hx
    · exact hu x hx
  · intro q hq
    rw [List.length_append]
    rcases (laid_at _ _ _).1 hq with hq | rfl
    · rw [hold q (hlt q hq)]
      have := h.fits q hq; omega
    · rw [h.len, hnew]; unfold sizeAt at hl; omega
  · rw [List.getElem?_append_left (by omega)]; exact h.zero.1
  · rw [List.getElem?_append_left hpos]; exact h.zero.2
  · right
    rcases h.first with hf | hf
    · exact (laid_at _ _ _).2 (.inr (by omega))
    · exact (laid_at _ _ _).2 (.inl hf)
  · intro q hq
    rw [List.length_append]
    rcases (laid_at _ _ _).1 hq with hq | rfl
    · rw [hold q (hlt q hq)]
      right
      rcases h.next q hq with hn | hn
      · exact (laid_at _ _ _).2 (.inr (by omega))
      · exact (laid_at _ _ _).2 (.inl hn)
    · left; rw [h.len, hnew]; unfold sizeAt at hl; omega
  · intro q hq
    rcases (laid_at _ _ _).1 hq with hq | rfl
    · rw [hold q (hlt q hq)]; exact h.hdr q hq
    · rw [h.len, hnew]; exact hh
  · intro q j hq hj hqj
    rcases (laid_at _ _ _).1 hq with hq | rfl
    · rw [hold q (hlt q hq)]
      rcases (laid_at _ _ _).1 hj with hj | rfl
      · exact h.apart q j hq hj hqj
      · rw [h.len]; exact h.fits q hq
    · rcases (laid_at _ _ _).1 hj with hj | rfl
      · have := hlt j hj; have := h.len; omega
      · omega

/-! ### What holds while it goes -/
def CS.at_ (c : CS) (k : Nat) : Int := c.gone.getD k 0
def fwd (S : HS) (c : CS) (w : Int) : Int := if S.is w = true then c.at_ (w / 4).toNat else w
def Res (S : HS) (c : CS) (w : Int) : Prop := S.is w = true → c.at_ (w / 4).toNat ≠ 0
def tagAt (ws : List Int) (k : Nat) : Nat := (tagH (ws.getD k 0)).toNat
def rawAt (ws : List Int) (k : Nat) : Nat := (rawH (ws.getD k 0)).toNat

/-- An object at place j of the new half is the copy of that at place k; its tagged fields before place P are told anew. -/
structure Copied (S : HS) (c : CS) (P k j : Nat) : Prop where
  was : S.bs[k]? = some true
  now : c.tb[j]? = some true
  head : c.tw.getD j 0 = S.ws.getD k 0
  raws : ∀ i, tagAt S.ws k ≤ i → i < tagAt S.ws k + rawAt S.ws k → c.tw.getD (j + 1 + i) 0 = S.ws.getD (k + 1 + i) 0
  done : ∀ i, i < tagAt S.ws k → j + 1 + i < P → Res S c (S.ws.getD (k + 1 + i) 0) ∧ c.tw.getD (j + 1 + i) 0 = fwd S c (S.ws.getD (k + 1 + i) 0)
  todo : ∀ i, i < tagAt S.ws k → P ≤ j + 1 + i → c.tw.getD (j + 1 + i) 0 = S.ws.getD (k + 1 + i) 0

structure GcInv (S : HS) (c : CS) (P : Nat) : Prop where
  gone : c.gone.length = S.ws.length
  wf : WfH c.tw c.tb
  sum : c.tw.length = 1 + sumO (fun k => decide (c.at_ k ≠ 0)) (sizeAt S.ws) S.ws.length
  tgt : ∀ k, c.at_ k ≠ 0 → ∃ j : Nat, c.at_ k = 4 * j ∧ Copied S c P k j
  onto : ∀ j : Nat, c.tb[j]? = some true → ∃ k, c.at_ k = 4 * j
  inj : ∀ k k' : Nat, c.at_ k ≠ 0 → c.at_ k = c.at_ k' → k = k'
  front : P ≤ c.tw.length

theorem at_out {S : HS} {c : CS} (h : c.gone.length = S.ws.length) {k : Nat} (hk : S.ws.length ≤ k) : c.at_ k = 0 := by
  unfold CS.at_; rw [List.getD_eq_getElem?_getD, List.getElem?_eq_none (by omega)]; rfl

/-- There is room for what is not copied yet. -/
theorem GcInv.room {S : HS} {c : CS} {P : Nat} (h : GcInv S c P) (hw : WfH S.ws S.bs) {k : Nat} (hk : S.bs[k]? = some true) (h0 : c.at_ k = 0) : c.tw.length + sizeAt S.ws k ≤ S.ws.length := by
  have hkl : k < S.ws.length := by have := (List.getElem?_eq_some_iff.1 hk).1; have := hw.len; omega
  have h1 := sumO_set (p := fun q => decide (c.at_ q ≠ 0)) (q := fun q => decide (c.at_ q ≠ 0 ∨ q = k)) (f := sizeAt S.ws) (m := S.ws.length) (k := k) hkl (by simp [h0]) (by simp) (fun j hj => by simp [hj])
  have h2 := sumO_mono (p := fun q => decide (c.at_ q ≠ 0 ∨ q = k)) (q := fun q => S.bs.getD q false) (f := sizeAt S.ws) (m := S.ws.length) (fun q _ hp => by
    rw [decide_eq_true_eq] at hp
    rw [getD_true]
    rcases hp with hp | rfl
    · obtain ⟨j, _, hc⟩ := h.tgt q hp; exact hc.was
    · exact hk)
  have h3 := sum_all hw
  have h4 := h.sum
  omega
theorem GcInv.len {S : HS} {c : CS} {P : Nat} (h : GcInv S c P) (hw : WfH S.ws S.bs) : c.tw.length ≤ S.ws.length := by
  have h2 := sumO_mono (p := fun q => decide (c.at_ q ≠ 0)) (q := fun q => S.bs.getD q false) (f := sizeAt S.ws) (m := S.ws.length) (fun q _ hp => by
    rw [decide_eq_true_eq] at hp
    rw [getD_true]
    obtain ⟨j, _, hc⟩ := h.tgt q hp; exact hc.was)
  have h3 := sum_all hw
  have h4 := h.sum
  omega

theorem is_iff {S : HS} {w : Int} : S.is w = true ↔ w % 4 = 0 ∧ S.bs[(w / 4).toNat]? = some true := isB_iff

/-- The start. -/
theorem GcInv.zero {S : HS} (P : Nat) (hP : P ≤ 1) : GcInv S (CS.zero S) P := by
  have ha : ∀ k, (CS.zero S).at_ k = 0 := by
    intro k
    unfold CS.at_ CS.zero
    simp only [List.getD_eq_getElem?_getD, List.getElem?_replicate]
    split <;> rfl
  have hno : ∀ k : Nat, (CS.zero S).tb[k]? = some true → False := by
    intro k hk
    simp only [CS.zero] at hk
    rcases k with _ | k <;> simp at hk
  refine ⟨by simp [CS.zero], ⟨rfl, by simp [CS.zero], ?_, fun k hk => (hno k hk).elim, ⟨rfl, rfl⟩, .inl rfl, fun k hk => (hno k hk).elim, fun k hk => (hno k hk).elim, fun k _ hk => (hno k hk).elim⟩, ?_, fun k hk => absurd (ha k) hk, fun j hj => (hno j hj).elim, fun k _ hk => absurd (ha k) hk, by simpa [CS.zero] using hP⟩
  · intro x hx; simp [CS.zero] at hx; subst hx; decide
  · rw [sumO_congr (q := fun _ => false) (fun k _ => by simp [ha k])]
    have : ∀ m, sumO (fun _ => false) (sizeAt S.ws) m = 0 := by
      intro m; induction m with
      | zero => rfl
      | succ m ih => simp [sumO, ih]
    rw [this]; rfl
end Go.Proofs.Ytanjiecefioffaa

/- What lay and raw lay, field by field. -/
namespace Go.Proofs.Ytanjiecefioffaa
open Go.RowKit

/-- An object with tagged fields (t: how many; r: how many raw ones); its first i fields are set, from behind a of them. -/
def HS.part (S : HS) (kind : Int) (t r : Nat) (z : Int) (xs : List Int) (i : Nat) : HS :=
  { S with ws := S.ws ++ (headerOf kind t r :: (xs.take i ++ List.replicate (t + r - i) z)), bs := S.bs ++ laid (1 + t + r) }

theorem part_zero {S : HS} {kind : Int} {n : Nat} (hr : S.room kind n 0 = true) (xs : List Int) : S.alloc kind n 0 = S.part kind n 0 2 xs 0 := by
  rw [alloc_ws hr]
  unfold HS.part objWords
  simp
theorem part_zeroR {S : HS} {kind : Int} {n : Nat} (hr : S.room kind 0 n = true) (xs : List Int) : S.alloc kind 0 n = S.part kind 0 n 0 xs 0 := by
  rw [alloc_ws hr]
  unfold HS.part objWords
  simp
theorem part_ws (S : HS) (kind : Int) (t r : Nat) (z : Int) (xs : List Int) (i : Nat) : (S.part kind t r z xs i).ws.getD S.ws.length 0 = headerOf kind t r := by
  unfold HS.part
  simp only
  rw [show S.ws.length = S.ws.length + 0 from rfl, getD_app_right]
  rfl
theorem part_is {S : HS} (hl : S.bs.length = S.ws.length) (kind : Int) (t r : Nat) (z : Int) (xs : List Int) (i : Nat) : (S.part kind t r z xs i).is (4 * (S.ws.length : Int)) = true := by
  unfold HS.is HS.part
  rw [isB_iff]
  refine ⟨by omega, ?_⟩
  rw [show (4 * (S.ws.length : Int) / 4).toNat = S.bs.length by omega, List.getElem?_append_right (Nat.le_refl _), Nat.sub_self]
  rfl
theorem part_head {S : HS} (hl : S.bs.length = S.ws.length) (kind : Int) (t r : Nat) (z : Int) (xs : List Int) (i : Nat) : (S.part kind t r z xs i).head (4 * (S.ws.length : Int)) = headerOf kind t r := by
  have h := part_is hl kind t r z xs i
  unfold HS.head headOf
  unfold HS.is at h
  rw [if_pos h, show (4 * (S.ws.length : Int) / 4).toNat = S.ws.length by omega]
  exact part_ws S kind t r z xs i
theorem header_tag {kind : Int} {t r : Nat} (h0 : 1 ≤ kind) (h1 : kind ≤ 63) (ht : t ≤ 1048576) (hr : r ≤ 1048576) : tagH (headerOf kind t r) = t ∧ rawH (headerOf kind t r) = r ∧ kindH (headerOf kind t r) = kind := by
  unfold tagH rawH kindH headerOf; omega
theorem set_part (A : List Int) (h z x : Int) (xs : List Int) (n i : Nat) (hi : i < n) (hx : xs[i]? = some x) :
    (A ++ (h :: (xs.take i ++ List.replicate (n - i) z))).set (A.length + 1 + i) x = A ++ (h :: (xs.take (i + 1) ++ List.replicate (n - (i + 1)) z)) := by
  have hil := (List.getElem?_eq_some_iff.1 hx).1
  rw [List.set_append_right _ _ (by omega), show A.length + 1 + i - A.length = i + 1 by omega, List.set_cons_succ, List.set_append_right _ _ (by rw [List.length_take]; omega)]
  congr 2
  rw [List.length_take, Nat.min_eq_left (by omega), Nat.sub_self, show n - i = (n - (i + 1)) + 1 by omega, List.replicate_succ, List.set_cons_zero, List.take_add_one, hx]
  simp
/-- A tagged field is set. -/
theorem part_set {S : HS} (hl : S.bs.length = S.ws.length) {kind : Int} {n : Nat} (hr : S.room kind n 0 = true) {xs : List Int} {i : Nat} {x : Int} (hi : i < n) (hx : xs[i]? = some x) (hm : S.may x = true) :
    (S.part kind n 0 2 xs i).setOk (4 * (S.ws.length : Int)) i x = true ∧ (S.part kind n 0 2 xs i).set (4 * (S.ws.length : Int)) i x = S.part kind n 0 2 xs (i + 1) := by
  obtain ⟨a, b, c, d, e, f, g⟩ := room_bd hr
  have htg : (S.part kind n 0 2 xs i).tag (4 * (S.ws.length : Int)) = n := by
    unfold HS.tag; rw [part_head hl]; exact (header_tag a b (by omega) (by omega)).1
  have hmay : (S.part kind n 0 2 xs i).may x = true := by
    unfold HS.may mayB at *
    simp only [Bool.or_eq_true, decide_eq_true_eq] at *
    rcases hm with h1 | h1
    · exact .inl h1
    · right
      have h2 := isB_iff.1 h1
      refine isB_iff.2 ⟨h2.1, ?_⟩
      unfold HS.part
      simp only
      rw [List.getElem?_append_left (List.getElem?_eq_some_iff.1 h2.2).1]; exact h2.2
  have hok : (S.part kind n 0 2 xs i).setOk (4 * (S.ws.length : Int)) i x = true := by
    unfold HS.setOk; rw [htg, hmay]; simp; omega
  refine ⟨hok, ?_⟩
  unfold HS.set
  rw [if_pos hok]
  have hf : fieldAt (4 * (S.ws.length : Int)) 0 i = S.ws.length + 1 + i := by unfold fieldAt; omega
  rw [hf]
  unfold HS.part
  simp only [Nat.add_zero]
  rw [set_part S.ws _ 2 x xs n i hi hx]
/-- A raw field is set. -/
theorem part_setR {S : HS} (hl : S.bs.length = S.ws.length) {kind : Int} {n : Nat} (hr : S.room kind 0 n = true) {xs : List Int} {i : Nat} {x : Int} (hi : i < n) (hx : xs[i]? = some x) :
    (S.part kind 0 n 0 xs i).setRawOk (4 * (S.ws.length : Int)) i = true ∧ (S.part kind 0 n 0 xs i).setRaw (4 * (S.ws.length : Int)) i x = S.part kind 0 n 0 xs (i + 1) := by
  obtain ⟨a, b, c, d, e, f, g⟩ := room_bd hr
  have htg := header_tag (kind := kind) (t := 0) (r := n) a b (by omega) (by omega)
  have hraw : (S.part kind 0 n 0 xs i).raw (4 * (S.ws.length : Int)) = n := by
    unfold HS.raw; rw [part_head hl]; exact htg.2.1
  have htag : (S.part kind 0 n 0 xs i).tag (4 * (S.ws.length : Int)) = 0 := by
    unfold HS.tag; rw [part_head hl]; exact htg.1
  have hok : (S.part kind 0 n 0 xs i).setRawOk (4 * (S.ws.length : Int)) i = true := by
    unfold HS.setRawOk; rw [hraw]; simp; omega
  refine ⟨hok, ?_⟩
  unfold HS.setRaw
  rw [if_pos hok, htag]
  have hf : fieldAt (4 * (S.ws.length : Int)) 0 i = S.ws.length + 1 + i := by unfold fieldAt; omega
  rw [hf]
  unfold HS.part
  simp only [Nat.zero_add]
  rw [set_part S.ws _ 0 x xs n i hi hx]
end Go.Proofs.Ytanjiecefioffaa

/- value.Store: raw, lay. -/
namespace Go.Proofs.Ytanjiecefioffaa
open Go.RowKit

/-- The words can be read wherever R lies. -/
def WordsIn (R : HP) (ao : Option Addr) (xs : List Int) : Prop := ∀ w, sat w R → ReadsW w ao xs
def LayRel (w : World) (X : StV) (V : HV) (T : Nat → HS) (Y : StS) (R : HP) (n : Nat) (i : Value) (wr : World) : Prop :=
  ∃ k : Nat, k ≤ n ∧ i = .int .i64 k ∧ StW wr X V (T k) Y R ∧ Below 0 w wr
def StLaid (X : StV) (g : Nat) (S' : HS) (Y : StS) (R : HP) (p : Int) (ok : Bool) (w : World) (e : Ending) (w' : World) : Prop :=
  e = .returned (.tuple #[.int .u64 p, .bool ok]) ∧ Below 0 w w' ∧ ∃ V' : HV, V'.g = g ∧ StW w' X V' S' Y R

section
variable {w : World} {X : StV} {V : HV} {S : HS} {Y : StS} {R : HP}
theorem StW.fr (h : StW w X V S Y R) : sat w R := h.s.right.right

set_option maxHeartbeats 1000000 in
theorem StW.raw_any (h : StW w X V S Y R) (kind : Int) (ao : Option Addr) (cap : Nat) (xs : List Int) (hx : WordsIn R ao xs) (hu : ∀ x ∈ xs, 0 ≤ x ∧ x < 18446744073709551616) (hn : xs.length < 4611686018427387904)
    (p : Int) (ok : Bool) (T : Nat → HS) (hr : S.room kind 0 xs.length = ok) (hp : (if ok = true then 4 * (S.ws.length : Int) else 0) = p) (hp0 : 0 ≤ p ∧ p < 18446744073709551616) (h0 : S.alloc kind 0 xs.length = T 0) (hT : ∀ k x, xs[k]? = some x → (T k).setRaw p k x = T (k + 1)) :
    Calls Try.prog 54 #[.pointer (some ⟨X.g, 0, none⟩), .int .i64 kind, .slice ao xs.length cap] w (StLaid X V.g (T xs.length) Y R p ok w) := by
  have c0 := h.c0
  have hA := h.hw.Alloc kind 0 xs.length
  rw [hr, h0] at hA
  have HH := Lib.hid (And.intro hp hT)
  clear hr h0 hT
  go_enter Try.func54, Try.ntmps54
  go_wp2_with fail
  refine hA.mono ?_
  rintro e w2 ⟨rfl, hb2, V2, hg2, h2⟩
  rw [HH.out.1]
  have hs := StW.turn h2 hg2
  have HG := Lib.hid hg2
  clear hA hp c0 h2 hg2
  go_wp2_with fail
  go_loopw [25] (LayRel w X V2 T Y R xs.length) (fun i _ => xs.length - (intOf i).toNat)
  case atStart => exact ⟨0, Nat.zero_le _, rfl, hs, hb2⟩
  case round =>
    clear hs hb2
    obtain ⟨k, hk, rfl, hs, hb⟩ := hrel
    by_cases hlt : k < xs.length
    · obtain ⟨x, ex⟩ : ∃ x, xs[k]? = some x := ⟨_, List.getElem?_eq_getElem hlt⟩
      obtain ⟨x0, x1⟩ := hu x (List.mem_of_getElem? ex)
      obtain ⟨a, rfl, hcx⟩ := hx wr hs.fr k x ex
      have hst := HH.out.2 k x ex
      have c0 := hs.c0
      have hS := hs.hw.SetRaw p k x hp0.1 hp0.2 x0 x1
      rw [hst] at hS
      clear ex hst
      go_wp2_with fail
      refine hS.mono ?_
      rintro e w3 ⟨rfl, h3, hb3⟩
      have hs3 := Lib.hid (And.intro (StW.turn h3 rfl) (hb.trans hb3))
      clear hS h3 hb3 hb hs c0 hcx
      go_wp2_with fail
      go_roundw
      case rel => exact ⟨k + 1, by omega, by go_num, hs3.out.1, hs3.out.2⟩
      case measure => simp [intOf]; omega
    · obtain rfl : k = xs.length := by omega
      have hge : (xs.length : Int) ≤ xs.length := by omega
      have HF := Lib.hid (And.intro hs hb)
      clear hs hb
      go_wp2_with fail
      go_ret2
      exact ⟨rfl, HF.out.2, V2, HG.out, HF.out.1⟩
set_option maxHeartbeats 1000000 in
theorem StW.lay_any (h : StW w X V S Y R) (kind : Int) (ao : Option Addr) (cap : Nat) (xs : List Int) (hx : WordsIn R ao xs) (hu : ∀ x ∈ xs, 0 ≤ x ∧ x < 18446744073709551616) (hn : xs.length < 4611686018427387904)
    (p : Int) (ok : Bool) (T : Nat → HS) (hm : xs.all (S.may ·) = true) (hr : S.room kind xs.length 0 = ok) (hp : (if ok = true then 4 * (S.ws.length : Int) else 0) = p) (hp0 : 0 ≤ p ∧ p < 18446744073709551616) (h0 : S.alloc kind xs.length 0 = T 0) (hT : ∀ k x, xs[k]? = some x → (T k).set p k x = T (k + 1)) :
    Calls Try.prog 52 #[.pointer (some ⟨X.g, 0, none⟩), .int .i64 kind, .slice ao xs.length cap] w (StLaid X V.g (T xs.length) Y R p ok w) := by
  have c0 := h.c0
  have hA : ∀ m : Nat, _ := fun m => (h.hw.drewN m).Alloc kind xs.length 0
  rw [hr, h0] at hA
  have HH := Lib.hid (And.intro hp hT)
  clear hr h0 hT
  go_enter Try.func52, Try.ntmps52
  go_wp2_with fail
  have hMay := h.May ao cap xs (hx w h.fr) hu hn
  rw [hm] at hMay
  clear hm
  refine hMay.mono ?_
  rintro e w' ⟨rfl, j1, rfl⟩
  have c0' : (w.drewN j1).cell? ⟨X.g, 0, none⟩ = _ := c0
  clear hMay
  go_wp2_with fail
  refine (hA j1).mono ?_
  rintro e w2 ⟨rfl, hb2', V2, hg2, h2⟩
  have hb2 := (drewN_below0 w j1).trans hb2'
  rw [HH.out.1]
  have hs := StW.turn h2 hg2
  have HG := Lib.hid hg2
  clear hA hp c0 c0' h2 hg2 hb2'
  go_wp2_with fail
  go_loopw [29] (LayRel w X V2 T Y R xs.length) (fun i _ => xs.length - (intOf i).toNat)
  case atStart => exact ⟨0, Nat.zero_le _, rfl, hs, hb2⟩
  case round =>
    clear hs hb2
    obtain ⟨k, hk, rfl, hs, hb⟩ := hrel
    by_cases hlt : k < xs.length
    · obtain ⟨x, ex⟩ : ∃ x, xs[k]? = some x := ⟨_, List.getElem?_eq_getElem hlt⟩
      obtain ⟨x0, x1⟩ := hu x (List.mem_of_getElem? ex)
      obtain ⟨a, rfl, hcx⟩ := hx wr hs.fr k x ex
      have hst := HH.out.2 k x ex
      have c0 := hs.c0
      have hS := hs.hw.Set p k x hp0.1 hp0.2 x0 x1
      rw [hst] at hS
      clear ex hst
      go_wp2_with fail
      refine hS.mono ?_
      rintro e w3 ⟨rfl, h3, hb3⟩
      have hs3 := Lib.hid (And.intro (StW.turn h3 rfl) (hb.trans hb3))
      clear hS h3 hb3 hb hs c0 hcx
      go_wp2_with fail
      go_roundw
      case rel => exact ⟨k + 1, by omega, by go_num, hs3.out.1, hs3.out.2⟩
      case measure => simp [intOf]; omega
    · obtain rfl : k = xs.length := by omega
      have hge : (xs.length : Int) ≤ xs.length := by omega
      have HF := Lib.hid (And.intro hs hb)
      clear hs hb
      go_wp2_with fail
      go_ret2
      exact ⟨rfl, HF.out.2, V2, HG.out, HF.out.1⟩
set_option maxHeartbeats 400000 in
theorem StW.lay_no (h : StW w X V S Y R) (kind : Int) (ao : Option Addr) (cap : Nat) (xs : List Int) (hx : WordsIn R ao xs) (hu : ∀ x ∈ xs, 0 ≤ x ∧ x < 18446744073709551616) (hn : xs.length < 4611686018427387904) (hm : xs.all (S.may ·) = false) :
    Calls Try.prog 52 #[.pointer (some ⟨X.g, 0, none⟩), .int .i64 kind, .slice ao xs.length cap] w (StLaid X V.g S Y R 0 false w) := by
  have hMay := h.May ao cap xs (hx w h.fr) hu hn
  rw [hm] at hMay
  clear hm
  go_enter Try.func52, Try.ntmps52
  go_wp2_with fail
  refine hMay.mono ?_
  rintro e w' ⟨rfl, j1, rfl⟩
  clear hMay
  go_wp2_with fail
  go_ret2
  exact ⟨rfl, drewN_below0 _ _, V, rfl, h.drewN _⟩
/-- raw, whole. -/
theorem HS.is_zero {S : HS} (hw : WfH S.ws S.bs) : S.is 0 = false := by
  cases hz : S.is 0 with
  | false => rfl
  | true =>
    have := (is_iff.1 hz).2
    rw [show ((0 : Int) / 4).toNat = 0 from rfl, hw.zero.1] at this
    cases this
theorem StW.raw_yes (h : StW w X V S Y R) (kind : Int) (ao : Option Addr) (cap : Nat) (xs : List Int) (hx : WordsIn R ao xs) (hu : ∀ x ∈ xs, 0 ≤ x ∧ x < 18446744073709551616) (hr : S.room kind 0 xs.length = true) :
    Calls Try.prog 54 #[.pointer (some ⟨X.g, 0, none⟩), .int .i64 kind, .slice ao xs.length cap] w (StLaid X V.g (S.part kind 0 xs.length 0 xs xs.length) Y R (4 * (S.ws.length : Int)) true w) := by
  obtain ⟨_, _, _, _, _, hb, _⟩ := room_bd hr
  have hl := h.hw.v.len
  exact h.raw_any kind ao cap xs hx hu (by omega) _ true (fun k => S.part kind 0 xs.length 0 xs k) hr (by simp) (by omega) (part_zeroR hr xs) (fun k x hk => (part_setR h.ok.wf.len hr ((List.getElem?_eq_some_iff.1 hk).1) hk).2)
theorem StW.raw_no (h : StW w X V S Y R) (kind : Int) (ao : Option Addr) (cap : Nat) (xs : List Int) (hx : WordsIn R ao xs) (hu : ∀ x ∈ xs, 0 ≤ x ∧ x < 18446744073709551616) (hn : xs.length < 4611686018427387904) (hr : S.room kind 0 xs.length = false) :
    Calls Try.prog 54 #[.pointer (some ⟨X.g, 0, none⟩), .int .i64 kind, .slice ao xs.length cap] w (StLaid X V.g S Y R 0 false w) :=
  h.raw_any kind ao cap xs hx hu hn 0 false (fun _ => S) hr (by simp) (by omega) (by unfold HS.alloc; rw [if_neg (by rw [hr]; simp)]) (fun k x _ => by
    have hz := HS.is_zero h.ok.wf
    have : S.setRawOk 0 k = false := by
      unfold HS.setRawOk HS.raw HS.head headOf
      rw [if_neg (by unfold HS.is at hz; rw [hz]; simp)]
      simp [rawH] <;> omega
    unfold HS.setRaw; rw [if_neg (by rw [this]; simp)])
theorem StW.lay_yes (h : StW w X V S Y R) (kind : Int) (ao : Option Addr) (cap : Nat) (xs : List Int) (hx : WordsIn R ao xs) (hu : ∀ x ∈ xs, 0 ≤ x ∧ x < 18446744073709551616) (hm : xs.all (S.may ·) = true) (hr : S.room kind xs.length 0 = true) :
    Calls Try.prog 52 #[.pointer (some ⟨X.g, 0, none⟩), .int .i64 kind, .slice ao xs.length cap] w (StLaid X V.g (S.part kind xs.length 0 2 xs xs.length) Y R (4 * (S.ws.length : Int)) true w) := by
  obtain ⟨_, _, _, _, hb, _, _⟩ := room_bd hr
  have hl := h.hw.v.len
  exact h.lay_any kind ao cap xs hx hu (by omega) _ true (fun k => S.part kind xs.length 0 2 xs k) hm hr (by simp) (by omega) (part_zero hr xs) (fun k x hk => (part_set h.ok.wf.len hr ((List.getElem?_eq_some_iff.1 hk).1) hk (List.all_eq_true.1 hm x (List.mem_of_getElem? hk))).2)
theorem StW.lay_full (h : StW w X V S Y R) (kind : Int) (ao : Option Addr) (cap : Nat) (xs : List Int) (hx : WordsIn R ao xs) (hu : ∀ x ∈ xs, 0 ≤ x ∧ x < 18446744073709551616) (hn : xs.length < 4611686018427387904) (hm : xs.all (S.may ·) = true) (hr : S.room kind xs.length 0 = false) :
    Calls Try.prog 52 #[.pointer (some ⟨X.g, 0, none⟩), .int .i64 kind, .slice ao xs.length cap] w (StLaid X V.g S Y R 0 false w) :=
  h.lay_any kind ao cap xs hx hu hn 0 false (fun _ => S) hm hr (by simp) (by omega) (by unfold HS.alloc; rw [if_neg (by rw [hr]; simp)]) (fun k x _ => by
    have hz := HS.is_zero h.ok.wf
    have : S.setOk 0 k x = false := by
      unfold HS.setOk HS.tag HS.head headOf
      rw [if_neg (by unfold HS.is at hz; rw [hz]; simp)]
      simp [tagH] <;> omega
    unfold HS.set; rw [if_neg (by rw [this]; simp)])
end
end Go.Proofs.Ytanjiecefioffaa

/- Bytes as words, eight a word, behind their number: plainly. -/
namespace Go.Proofs.Ytanjiecefioffaa
open Go.RowKit

/-- Some bytes as one number, the first one lowest. -/
def packB : List Int → Int
  | [] => 0
  | x :: l => x + 256 * packB l
/-- The word number q of these bytes. -/
def wordB (b : List Int) (q : Nat) : Int := packB ((b.drop (8 * q)).take 8)
def wordsB (b : List Int) (n : Nat) : List Int := (List.range n).map (wordB b)
def wordsOf (b : List Int) : List Int := (b.length : Int) :: wordsB b ((b.length + 7) / 8)
def Bytes (b : List Int) : Prop := ∀ x ∈ b, 0 ≤ x ∧ x < 256

theorem packB_bd : ∀ {l : List Int}, Bytes l → 0 ≤ packB l ∧ packB l < 256 ^ l.length
  | [], _ => by simp [packB]
  | x :: l, h => by
    have hx := h x (by simp)
    have ih := packB_bd (l := l) (fun y hy => h y (by simp [hy]))
    simp only [packB, List.length_cons]
    have e : (256 : Int) ^ (l.length + 1) = 256 * 256 ^ l.length := by rw [Int.pow_succ, Int.mul_comm]
    rw [e]
    constructor
    · omega
    · have : packB l + 1 ≤ 256 ^ l.length := by omega
      have := Int.mul_le_mul_of_nonneg_left this (show (0 : Int) ≤ 256 by decide)
      omega
theorem packB_app : ∀ (l : List Int) (x : Int), packB (l ++ [x]) = packB l + 256 ^ l.length * x
  | [], x => by simp [packB]
  | y :: l, x => by
    simp only [List.cons_append, packB, packB_app l x, List.length_cons]
    rw [Int.pow_succ]
    generalize (256 : Int) ^ l.length = a
    rw [Int.mul_add, ← Int.mul_assoc, Int.mul_comm 256 a, Int.add_assoc]

theorem wordB_bd {b : List Int} (h : Bytes b) (q : Nat) : 0 ≤ wordB b q ∧ wordB b q < 18446744073709551616 := by
  unfold wordB
  have h1 : Bytes ((b.drop (8 * q)).take 8) := fun x hx => h x (List.mem_of_mem_drop (List.mem_of_mem_take hx))
  have h2 := packB_bd h1
  have h3 : ((b.drop (8 * q)).take 8).length ≤ 8 := by rw [List.length_take]; omega
  refine ⟨h2.1, Int.lt_of_lt_of_le h2.2 ?_⟩
  have : (256 : Int) ^ ((b.drop (8 * q)).take 8).length ≤ 256 ^ 8 := by
    generalize ((b.drop (8 * q)).take 8).length = m at h3
    match m, h3 with
    | 0, _ => decide
    | 1, _ => decide
    | 2, _ => decide
    | 3, _ => decide
    | 4, _ => decide
    | 5, _ => decide
    | 6, _ => decide
    | 7, _ => decide
    | 8, _ => decide
  exact this

/-- One byte more. -/
theorem wordB_step {b : List Int} {k : Nat} {x : Int} (hx : b[k]? = some x) (q : Nat) :
    wordB (b.take (k + 1)) q = if q = k / 8 then wordB (b.take k) q + 256 ^ (k % 8) * x else wordB (b.take k) q := by
  have hk := (List.getElem?_eq_some_iff.1 hx).1
  have e : b.take (k + 1) = b.take k ++ [x] := by rw [List.take_add_one, hx]; rfl
  have hl : (b.take k).length = k := by rw [List.length_take]; omega
  unfold wordB
  rw [e]
  split
  · rename_i hq
    subst hq
    rw [List.drop_append_of_le_length (by omega)]
    have hd : ((b.take k).drop (8 * (k / 8))).length = k % 8 := by rw [List.length_drop, hl]; omega
    rw [List.take_of_length_le (by simp [hd]; omega), packB_app, hd, List.take_of_length_le (l := (b.take k).drop (8 * (k / 8))) (by omega)]
  · rename_i hq
    rcases Nat.lt_or_ge k (8 * q) with a | a
    · rw [List.drop_eq_nil_of_le (by simp; omega), List.drop_eq_nil_of_le (by simp; omega)]
    · have h8 : 8 * q + 8 ≤ k := by omega
      rw [List.drop_append_of_le_length (by omega), List.take_append_of_le_length (by rw [List.length_drop, hl]; omega)]
theorem wordB_low {b : List Int} (h : Bytes b) (k : Nat) (hk : k ≤ b.length) : wordB (b.take k) (k / 8) < 256 ^ (k % 8) := by
  unfold wordB
  have hl : (b.take k).length = k := by rw [List.length_take]; omega
  have hd : ((b.take k).drop (8 * (k / 8))).length = k % 8 := by rw [List.length_drop, hl]; omega
  rw [List.take_of_length_le (l := (b.take k).drop (8 * (k / 8))) (by omega)]
  have h1 : Bytes ((b.take k).drop (8 * (k / 8))) := fun x hx => h x (List.mem_of_mem_take (List.mem_of_mem_drop hx))
  have := (packB_bd h1).2
  rw [hd] at this
  exact this
theorem wordB_none (b : List Int) (q : Nat) (h : b.length ≤ 8 * q) : wordB b q = 0 := by
  unfold wordB; rw [List.drop_eq_nil_of_le h]; rfl
end Go.Proofs.Ytanjiecefioffaa
