/- An object is laid where there is room: Alloc. -/
import Derived.Test.YtanjiecefioffaaHeapLay
import Derived.IntWalk
namespace Go.Proofs.Ytanjiecefioffaa
open Go.RowKit

def HS.room (S : HS) (kind tagged raw : Int) : Bool :=
  decide (1 ≤ kind) && decide (kind ≤ 63) && decide (0 ≤ tagged) && decide (0 ≤ raw) && decide (tagged ≤ 1048576) && decide (raw ≤ 1048576) && decide (1 + tagged + raw ≤ (S.size : Int) - S.ws.length)
def headerOf (kind tagged raw : Int) : Int := 3 + 4 * kind + 256 * tagged + 4294967296 * raw
def objWords (kind tagged raw : Int) : List Int := headerOf kind tagged raw :: (List.replicate tagged.toNat 2 ++ List.replicate raw.toNat 0)
def HS.alloc (S : HS) (kind tagged raw : Int) : HS := if S.room kind tagged raw = true then { S with ws := S.ws ++ objWords kind tagged raw, bs := S.bs ++ laid (1 + tagged.toNat + raw.toNat) } else S

section
variable {w : World} {V : HV} {S : HS} {R : HP}

set_option maxRecDepth 100000 in
set_option maxHeartbeats 1000000 in
theorem HeapW.Alloc_small (h : HeapW w V S R) (k t r : Int)
    (hn : k < 1 ∨ (1 ≤ k ∧ 63 < k) ∨ (1 ≤ k ∧ k ≤ 63 ∧ t < 0) ∨ (1 ≤ k ∧ k ≤ 63 ∧ 0 ≤ t ∧ r < 0) ∨ (1 ≤ k ∧ k ≤ 63 ∧ 0 ≤ t ∧ 0 ≤ r ∧ 1048576 < t) ∨ (1 ≤ k ∧ k ≤ 63 ∧ 0 ≤ t ∧ 0 ≤ r ∧ t ≤ 1048576 ∧ 1048576 < r)) :
    Calls Try.prog 81 #[.pointer (some ⟨V.g, 0, none⟩), .int .i64 k, .int .i64 t, .int .i64 r] w (Leaves (.tuple #[.int .u64 0, .bool false]) V S R w) := by
  rcases hn with a | ⟨a, b⟩ | ⟨a, b, c⟩ | ⟨a, b, c, d⟩ | ⟨a, b, c, d, e⟩ | ⟨a, b, c, d, e, f⟩
  · go_enter Try.func81, Try.ntmps81
    go_wp2_with fail
    go_quiet (fail)
    go_wp2_with fail
    go_ret2
    exact ⟨rfl, h.drewN _, drewN_below0 _ _⟩
  · have h1 : decide (k < 1) = false := by simp; omega
    have h2 : decide (63 < k) = true := by simp; omega
    clear a b
    go_enter Try.func81, Try.ntmps81
    go_wp2_with fail
    go_quiet (fail)
    go_wp2_with fail
    go_ret2
    exact ⟨rfl, h.drewN _, drewN_below0 _ _⟩
  · have h1 : decide (k < 1) = false := by simp; omega
    have h2 : decide (63 < k) = false := by simp; omega
    have h3 : decide (t < 0) = true := by simp; omega
    clear a b c
    go_enter Try.func81, Try.ntmps81
    go_wp2_with fail
    go_quiet (fail)
    go_wp2_with fail
    go_ret2
    exact ⟨rfl, h.drewN _, drewN_below0 _ _⟩
  · have h1 : decide (k < 1) = false := by simp; omega
    have h2 : decide (63 < k) = false := by simp; omega
    have h3 : decide (t < 0) = false := by simp; omega
    have h4 : decide (r < 0) = true := by simp; omega
    clear a b c d
    go_enter Try.func81, Try.ntmps81
    go_wp2_with fail
    go_quiet (fail)
    go_wp2_with fail
    go_ret2
    exact ⟨rfl, h.drewN _, drewN_below0 _ _⟩
  · have h1 : decide (k < 1) = false := by simp; omega
    have h2 : decide (63 < k) = false := by simp; omega
    have h3 : decide (t < 0) = false := by simp; omega
    have h4 : decide (r < 0) = false := by simp; omega
    have h5 : decide (1048576 < t) = true := by simp; omega
    clear a b c d e
    go_enter Try.func81, Try.ntmps81
    go_wp2_with fail
    go_quiet (fail)
    go_wp2_with fail
    go_ret2
    exact ⟨rfl, h.drewN _, drewN_below0 _ _⟩
  · have h1 : decide (k < 1) = false := by simp; omega
    have h2 : decide (63 < k) = false := by simp; omega
    have h3 : decide (t < 0) = false := by simp; omega
    have h4 : decide (r < 0) = false := by simp; omega
    have h5 : decide (1048576 < t) = false := by simp; omega
    have h6 : decide (1048576 < r) = true := by simp; omega
    clear a b c d e f
    go_enter Try.func81, Try.ntmps81
    go_wp2_with fail
    go_quiet (fail)
    go_wp2_with fail
    go_ret2
    exact ⟨rfl, h.drewN _, drewN_below0 _ _⟩

set_option maxRecDepth 100000 in
set_option maxHeartbeats 400000 in
theorem HeapW.Alloc_full (h : HeapW w V S R) (k t r : Int) (a : 1 ≤ k) (b : k ≤ 63) (c : 0 ≤ t) (d : 0 ≤ r) (e : t ≤ 1048576) (f : r ≤ 1048576) (g : (S.size : Int) - S.ws.length < 1 + t + r) :
    Calls Try.prog 81 #[.pointer (some ⟨V.g, 0, none⟩), .int .i64 k, .int .i64 t, .int .i64 r] w (Leaves (.tuple #[.int .u64 0, .bool false]) V S R w) := by
  have hc0 := h.v.c0
  have hsz := h.ok.hi
  have hl := h.v.len
  have h1 : decide (k < 1) = false := by simp; omega
  have h2 : decide (63 < k) = false := by simp; omega
  have h3 : decide (t < 0) = false := by simp; omega
  have h4 : decide (r < 0) = false := by simp; omega
  have h5 : decide (1048576 < t) = false := by simp; omega
  have h6 : decide (1048576 < r) = false := by simp; omega
  have h7 : decide ((S.size : Int) - S.ws.length < 1 + t + r) = true := by simp; omega
  have s1 : IntKind.i64.wrap (1 + t) = 1 + t := IntWalk.i64_in _ (by omega)
  have s2 : IntKind.i64.wrap (1 + t + r) = 1 + t + r := IntWalk.i64_in _ (by omega)
  have s3 : IntKind.i64.wrap ((S.size : Int) - S.ws.length) = (S.size : Int) - S.ws.length := IntWalk.i64_in _ (by omega)
  clear a b c d e f g hsz hl
  go_enter Try.func81, Try.ntmps81
  go_wp2_with fail
  go_quiet ((go_at_call 25; exact Calls.said ((h.v.drewN _).Used)))
  go_wp2_with fail
  go_ret2
  exact ⟨rfl, h.drewN _, drewN_below0 _ _⟩

theorem HeapW.Alloc_no (h : HeapW w V S R) (k t r : Int) (hn : S.room k t r = false) :
    Calls Try.prog 81 #[.pointer (some ⟨V.g, 0, none⟩), .int .i64 k, .int .i64 t, .int .i64 r] w (Leaves (.tuple #[.int .u64 0, .bool false]) V S R w) := by
  have hcase : (k < 1 ∨ (1 ≤ k ∧ 63 < k) ∨ (1 ≤ k ∧ k ≤ 63 ∧ t < 0) ∨ (1 ≤ k ∧ k ≤ 63 ∧ 0 ≤ t ∧ r < 0) ∨ (1 ≤ k ∧ k ≤ 63 ∧ 0 ≤ t ∧ 0 ≤ r ∧ 1048576 < t) ∨ (1 ≤ k ∧ k ≤ 63 ∧ 0 ≤ t ∧ 0 ≤ r ∧ t ≤ 1048576 ∧ 1048576 < r)) ∨ (1 ≤ k ∧ k ≤ 63 ∧ 0 ≤ t ∧ 0 ≤ r ∧ t ≤ 1048576 ∧ r ≤ 1048576 ∧ (S.size : Int) - S.ws.length < 1 + t + r) := by
    unfold HS.room at hn
    simp only [Bool.and_eq_false_iff, decide_eq_false_iff_not] at hn
    omega
  rcases hcase with hc | ⟨a, b, c, d, e, f, g⟩
  · exact h.Alloc_small k t r hc
  · exact h.Alloc_full k t r a b c d e f g

theorem u64_or_add (i : Nat) (x y : Int) (hx : 0 ≤ x) (hx2 : x < 2 ^ i) (hy : 0 ≤ y) (hi : i < 64) (hs : 2 ^ i * y < 18446744073709551616) : bits .or .u64 x (2 ^ i * y) = x + 2 ^ i * y := by
  obtain ⟨m, rfl⟩ := Int.eq_ofNat_of_zero_le hx
  obtain ⟨n, rfl⟩ := Int.eq_ofNat_of_zero_le hy
  have hp : ((2 ^ i : Nat) : Int) = (2 : Int) ^ i := by simp
  have hlt : 2 ^ i < 18446744073709551616 := Nat.pow_lt_pow_right (by decide) (show i < 64 from hi)
  have e : ((2 : Int) ^ i * (n : Int)) = ((2 ^ i * n : Nat) : Int) := by simp
  rw [e] at hs ⊢
  have hm : m < 2 ^ i := by omega
  rw [u64_or_nat _ _ (by omega) (by omega), Nat.or_comm, ← Nat.two_pow_add_eq_or_of_lt hm]
  omega

theorem header_bits (k t r : Int) (a : 1 ≤ k) (b : k ≤ 63) (c : 0 ≤ t) (d : 0 ≤ r) (e : t ≤ 1048576) (f : r ≤ 1048576) :
    bits .or .u64 (bits .or .u64 (bits .or .u64 3 (4 * k)) (256 * t)) (4294967296 * r) = headerOf k t r := by
  have h1 := u64_or_add 2 3 k (by decide) (by decide) (by omega) (by decide) (by omega)
  have h2 := u64_or_add 8 (3 + 4 * k) t (by omega) (by omega) (by omega) (by decide) (by omega)
  have h3 := u64_or_add 32 (3 + 4 * k + 256 * t) r (by omega) (by omega) (by omega) (by decide) (by omega)
  simp only [show (2 : Int) ^ 2 = 4 from rfl, show (2 : Int) ^ 8 = 256 from rfl, show (2 : Int) ^ 32 = 4294967296 from rfl] at h1 h2 h3
  rw [h1, h2, h3]; rfl

/-- An object's words when n of its tagged fields are laid. -/
def fillTo (hd : Int) (n m : Nat) : List Int := hd :: (List.replicate n 2 ++ List.replicate (m - n) 0)
theorem fill_zero (hd t r : Int) (c : 0 ≤ t) (d : 0 ≤ r) : (List.replicate (1 + t + r).toNat (Value.int .u64 0)).set 0 (.int .u64 hd) = (fillTo hd 0 (t.toNat + r.toNat)).map u64 := by
  rw [show (1 + t + r).toNat = t.toNat + r.toNat + 1 by omega, List.replicate_succ]
  simp [fillTo]
theorem fill_get (hd : Int) (n m : Nat) (h : n < m) : ((fillTo hd n m).map u64)[1 + n]? = some (.int .u64 0) := by
  rw [Nat.add_comm 1 n]
  simp only [fillTo, List.map_cons, List.getElem?_cons_succ, List.map_append, List.map_replicate]
  rw [List.getElem?_append_right (by simp), List.length_replicate, Nat.sub_self, List.getElem?_replicate, if_pos (by omega)]
theorem fill_step (hd : Int) (n m : Nat) (h : n < m) : ((fillTo hd n m).map u64).set (1 + n) (.int .u64 2) = (fillTo hd (n + 1) m).map u64 := by
  rw [Nat.add_comm 1 n]
  obtain ⟨q, rfl⟩ : ∃ q, m = n + 1 + q := ⟨m - n - 1, by omega⟩
  simp only [fillTo, show n + 1 + q - n = q + 1 by omega, show n + 1 + q - (n + 1) = q by omega, List.map_cons, List.set_cons_succ, List.map_append, List.map_replicate]
  rw [List.set_append_right _ _ (by simp)]
  simp only [List.length_replicate, Nat.sub_self]
  rw [List.replicate_succ (n := q), List.set_cons_zero, List.replicate_succ' (n := n), List.append_assoc]; rfl

/-- Alloc's loop: n of the tagged fields are laid. -/
def AllocRel (bn : Nat) (hd : Int) (V : HV) (S : HS) (R : HP) (w : World) (t r : Int) (i : Value) (wr : World) : Prop :=
  ∃ n : Nat, n ≤ t.toNat ∧ i = .int .i64 n ∧ sat wr (row 22 1 bn (1 + t + r).toNat ((fillTo hd n (t.toNat + r.toNat)).map u64) * (isHeap V S * R)) ∧ Below 0 w wr

theorem heapCells_w (V : HV) (S : HS) (h : V.inn < 2) : (heapCells V S)[1 + V.inn * 2]? = some (.slice (some ⟨V.bw, 0, none⟩) S.ws.length V.cw) := by
  unfold heapCells
  split
  · rename_i e; rw [e]; rfl
  · have e : V.inn = 1 := by omega
    rw [e]; rfl
theorem heapCells_b (V : HV) (S : HS) (h : V.inn < 2) : (heapCells V S)[1 + V.inn * 2 + 1]? = some (.slice (some ⟨V.bb, 0, none⟩) S.bs.length V.cb) := by
  unfold heapCells
  split
  · rename_i e; rw [e]; rfl
  · have e : V.inn = 1 := by omega
    rw [e]; rfl
theorem heapCells_set (V : HV) (S S' : HS) (h : V.inn < 2) (hs : S'.size = S.size) (ht : S'.times = S.times) (bw cw bb cb : Nat) :
    ((heapCells V S).setIfInBounds (1 + V.inn * 2) (.slice (some ⟨bw, 0, none⟩) S'.ws.length cw)).setIfInBounds (1 + V.inn * 2 + 1) (.slice (some ⟨bb, 0, none⟩) S'.bs.length cb) = heapCells { V with bw := bw, cw := cw, bb := bb, cb := cb } S' := by
  have e : V.inn = 0 ∨ V.inn = 1 := by omega
  rcases e with e | e
  · simp [heapCells, e, HV.vw, HV.vb, hs, ht]
  · simp [heapCells, e, HV.vw, HV.vb, hs, ht]

theorem laid_len (m : Nat) (h : 0 < m) : (laid m).length = m := by simp [laid]; omega
theorem laid_at (bs : List Bool) (m q : Nat) : (bs ++ laid m)[q]? = some true ↔ bs[q]? = some true ∨ q = bs.length := by
  rcases Nat.lt_trichotomy q bs.length with hq | hq | hq
  · rw [List.getElem?_append_left hq]
    exact ⟨.inl, fun h => h.resolve_right (by omega)⟩
  · subst hq
    rw [List.getElem?_append_right (Nat.le_refl _)]
    simp [laid]
  · rw [List.getElem?_append_right (by omega), List.getElem?_eq_none (by omega : bs.length ≤ q)]
    obtain ⟨j, hj⟩ : ∃ j, q - bs.length = j + 1 := ⟨q - bs.length - 1, by omega⟩
    rw [hj]
    simp only [laid, List.getElem?_cons_succ, List.getElem?_replicate]
    constructor
    · intro h'; split at h' <;> simp at h'
    · rintro (h' | h')
      · cases h'
      · omega
theorem tag_header (k t r : Int) (a : 1 ≤ k) (b : k ≤ 63) (c : 0 ≤ t) (d : 0 ≤ r) (e : t ≤ 1048576) (f : r ≤ 1048576) : tagH (headerOf k t r) = t ∧ rawH (headerOf k t r) = r ∧ kindH (headerOf k t r) = k ∧ headerOf k t r % 4 = 3 ∧ 0 ≤ headerOf k t r ∧ headerOf k t r < 18446744073709551616 := by
  unfold tagH rawH kindH headerOf; omega
theorem wf_alloc {ws : List Int} {bs : List Bool} (h : WfH ws bs) {k t r : Int} (a : 1 ≤ k) (b : k ≤ 63) (c : 0 ≤ t) (d : 0 ≤ r) (e : t ≤ 1048576) (f : r ≤ 1048576) :
    WfH (ws ++ objWords k t r) (bs ++ laid (1 + t.toNat + r.toNat)) := by
  obtain ⟨g1, g2, g3, g4, g5, g6⟩ := tag_header k t r a b c d e f
  have hxl : (objWords k t r).length = 1 + t.toNat + r.toNat := by simp [objWords]; omega
  have hll := laid_len (1 + t.toNat + r.toNat) (by omega)
  have hold : ∀ q, q < ws.length → (ws ++ objWords k t r).getD q 0 = ws.getD q 0 := by
    intro q hq
    rw [List.getD_eq_getElem?_getD, List.getElem?_append_left hq, ← List.getD_eq_getElem?_getD]
  have hnew : (ws ++ objWords k t r).getD ws.length 0 = headerOf k t r := by
    rw [List.getD_eq_getElem?_getD, List.getElem?_append_right (Nat.le_refl _), Nat.sub_self]; rfl
  have hlt : ∀ q, bs[q]? = some true → q < ws.length := by
    intro q hq
    have := (List.getElem?_eq_some_iff.1 hq).1
    have := h.len; omega
  have hpos := h.pos
  have hlen := h.len
  refine ⟨by rw [List.length_append, List.length_append, hll, hxl, h.len], by rw [List.length_append]; omega, ?_, ?_, ⟨?_, ?_⟩, ?_, ?_, ?_, ?_⟩
  · intro x hx
    rcases List.mem_append.1 hx with hx | hx
    · exact h.u x hx
    · simp only [objWords, List.mem_cons, List.mem_append, List.mem_replicate] at hx
      rcases hx with rfl | ⟨_, rfl⟩ | ⟨_, rfl⟩
      · exact ⟨g5, g6⟩
      · decide
      · decide
  · intro q hq
    rw [List.length_append, hxl]
    rcases (laid_at _ _ _).1 hq with hq | rfl
    · rw [hold q (hlt q hq)]
      have := h.fits q hq; omega
    · rw [h.len, hnew, g1, g2]; omega
  · rw [List.getElem?_append_left (by omega)]; exact h.zero.1
  · rw [List.getElem?_append_left hpos]; exact h.zero.2
  · right
    rcases h.first with hf | hf
    · exact (laid_at _ _ _).2 (.inr (by omega))
    · exact (laid_at _ _ _).2 (.inl hf)
  · intro q hq
    rw [List.length_append, hxl]
    rcases (laid_at _ _ _).1 hq with hq | rfl
    · rw [hold q (hlt q hq)]
      right
      rcases h.next q hq with hn | hn
      · exact (laid_at _ _ _).2 (.inr (by omega))
      · exact (laid_at _ _ _).2 (.inl hn)
    · left; rw [h.len, hnew, g1, g2]; omega
  · intro q hq
    rcases (laid_at _ _ _).1 hq with hq | rfl
    · rw [hold q (hlt q hq)]; exact h.hdr q hq
    · rw [h.len, hnew, g3]; refine ⟨g4, a, ?_⟩; unfold headerOf; omega
  · intro q j hq hj hqj
    rcases (laid_at _ _ _).1 hq with hq | rfl
    · rw [hold q (hlt q hq)]
      rcases (laid_at _ _ _).1 hj with hj | rfl
      · exact h.apart q j hq hj hqj
      · rw [h.len]; exact h.fits q hq
    · rcases (laid_at _ _ _).1 hj with hj | rfl
      · have := hlt j hj; have := h.len; omega
      · omega

theorem isB_app (bs cs : List Bool) (x : Int) (h : isB bs x = true) : isB (bs ++ cs) x = true := by
  unfold isB at h ⊢
  simp only [Bool.and_eq_true] at h ⊢
  refine ⟨h.1, ?_⟩
  have h2 := h.2
  rw [List.getD_eq_getElem?_getD] at h2 ⊢
  rcases Nat.lt_or_ge (x / 4).toNat bs.length with a | a
  · rw [List.getElem?_append_left a]; exact h2
  · rw [List.getElem?_eq_none a] at h2; simp at h2
theorem mayB_app (bs cs : List Bool) (x : Int) (h : mayB bs x = true) : mayB (bs ++ cs) x = true := by
  unfold mayB at h ⊢
  simp only [Bool.or_eq_true] at h ⊢
  rcases h with h | h
  · exact .inl h
  · exact .inr (isB_app _ _ _ h)
theorem ptr_alloc {ws : List Int} {bs : List Bool} (h : WfH ws bs) (hp : PtrOk ws bs) {k t r : Int} (a : 1 ≤ k) (b : k ≤ 63) (c : 0 ≤ t) (d : 0 ≤ r) (e : t ≤ 1048576) (f : r ≤ 1048576) :
    PtrOk (ws ++ objWords k t r) (bs ++ laid (1 + t.toNat + r.toNat)) := by
  obtain ⟨g1, _⟩ := tag_header k t r a b c d e f
  have hlen := h.len
  intro q i hq hi
  rcases (laid_at _ _ _).1 hq with hq | rfl
  · have hf := h.fits q hq
    rw [List.getD_eq_getElem?_getD, List.getElem?_append_left (by omega), ← List.getD_eq_getElem?_getD] at hi
    rw [List.getD_eq_getElem?_getD, List.getElem?_append_left (by omega), ← List.getD_eq_getElem?_getD]
    exact mayB_app _ _ _ (hp q i hq hi)
  · rw [List.getD_eq_getElem?_getD, List.getElem?_append_right (by omega), hlen, Nat.sub_self] at hi
    have hi2 : i < t.toNat := by
      have : ((objWords k t r)[0]?.getD 0) = headerOf k t r := rfl
      rw [this, g1] at hi; exact hi
    rw [List.getD_eq_getElem?_getD, List.getElem?_append_right (by omega), hlen, show ws.length + 1 + i - ws.length = i + 1 by omega]
    simp only [objWords, List.getElem?_cons_succ]
    rw [List.getElem?_append_left (by simpa using hi2), List.getElem?_replicate, if_pos hi2]
    simp [mayB]

def AllocPost (V : HV) (S S' : HS) (R : HP) (w : World) (e : Ending) (w' : World) : Prop :=
  e = .returned (.tuple #[.int .u64 (4 * S.ws.length), .bool true]) ∧ Below 0 w w' ∧ ∃ V', V'.g = V.g ∧ HeapW w' V' S' R

set_option maxRecDepth 100000 in
set_option maxHeartbeats 1000000 in
theorem HeapW.Alloc_yes (h : HeapW w V S R) (k t r : Int) (hn : S.room k t r = true) :
    Calls Try.prog 81 #[.pointer (some ⟨V.g, 0, none⟩), .int .i64 k, .int .i64 t, .int .i64 r] w (AllocPost V S (S.alloc k t r) R w) := by
  have hc0 := h.v.c0
  have hsz := h.ok.hi
  have hl := h.v.len
  have hcase : 1 ≤ k ∧ k ≤ 63 ∧ 0 ≤ t ∧ 0 ≤ r ∧ t ≤ 1048576 ∧ r ≤ 1048576 ∧ 1 + t + r ≤ (S.size : Int) - S.ws.length := by
    unfold HS.room at hn
    simp only [Bool.and_eq_true, decide_eq_true_eq] at hn
    omega
  have HN := Lib.hid hn; clear hn
  obtain ⟨a, b, c, d, e, f, g⟩ := hcase
  have h1 : decide (k < 1) = false := by simp; omega
  have h2 : decide (63 < k) = false := by simp; omega
  have h3 : decide (t < 0) = false := by simp; omega
  have h4 : decide (r < 0) = false := by simp; omega
  have h5 : decide (1048576 < t) = false := by simp; omega
  have h6 : decide (1048576 < r) = false := by simp; omega
  have h7 : decide ((S.size : Int) - S.ws.length < 1 + t + r) = false := by simp; omega
  have s1 : IntKind.i64.wrap (1 + t) = 1 + t := IntWalk.i64_in _ (by omega)
  have s2 : IntKind.i64.wrap (1 + t + r) = 1 + t + r := IntWalk.i64_in _ (by omega)
  have s3 : IntKind.i64.wrap ((S.size : Int) - S.ws.length) = (S.size : Int) - S.ws.length := IntWalk.i64_in _ (by omega)
  go_enter Try.func81, Try.ntmps81
  go_wp2_with fail
  go_quiet ((go_at_call 25; exact Calls.said ((h.v.drewN _).Used)))
  clear h1 h2 h3 h4 h5 h6 h7 s1 s3
  obtain ⟨i0, hi, hz0, hz1, hz2⟩ := info_parts info_u64
  have H1 := Lib.hid (And.intro hi (And.intro hz0 (And.intro hz1 hz2)))
  clear hi hz0 hz1 hz2
  go_wp2_with (at_make; refine halt ?_)
  refine goon ?_
  obtain ⟨hi, hz0, hz1, hz2⟩ := H1.out
  refine wpList_make_sat rfl 35 (.tmp 51) (.tmp 51) rfl 22 i0 (.int .u64 0) 8 Try.underlying35 hi hz0 hz1 hz2 rfl .i64 .i64 (1 + t + r) (isHeap V S * R) rfl rfl ?_ ?h ?c1 ?c2 ?c3
  case h => exact (h.drewN nq).s
  case c1 => omega
  case c2 => omega
  case c3 => omega
  clear hi hz0 hz1 hz2 s2
  intro bn w1 hs1 hb1
  have hN : 0 < (1 + t + r).toNat := by omega
  have q1 : w1.cell? ⟨bn, 0, none⟩ = some (.int .u64 0) := hs1.row_cell (by rw [List.getElem?_replicate, if_pos hN])
  have q2 : w1.frozen? ⟨bn, 0, none⟩ = false := hs1.row_frozen 0
  go_wp2_with fail
  rw [Int.mul_comm k 4, Int.mul_comm t 256, Int.mul_comm r 4294967296, header_bits k t r a b c d e f]
  generalize hh : headerOf k t r = hd
  have hs2 := hs1.row_set 0 (.int .u64 hd)
  have hb2 : Below 0 w (w1.setCell ⟨bn, 0, none⟩ (.int .u64 hd)) := ((drewN_below0 w nq).trans hb1).setCell (Nat.zero_le _) _
  generalize hw2 : w1.setCell ⟨bn, 0, none⟩ (.int .u64 hd) = w2 at hs2 hb2 ⊢
  clear hw2 q1 q2 hs1 hb1
  rw [show (List.replicate (1 + t + r).toNat (Value.int .u64 0)).set 0 (.int .u64 hd) = (fillTo hd 0 (t.toNat + r.toNat)).map u64 from fill_zero hd t r c d] at hs2
  go_loopw [68] (AllocRel bn hd V S R w t r) (fun i _ => t.toNat - (intOf i).toNat)
  case atStart => exact ⟨0, Nat.zero_le _, rfl, hs2, hb2⟩
  case round =>
    obtain ⟨n, hn, rfl, hs3, hb3⟩ := hrel
    by_cases hlt : n < t.toNat
    · have hlt2 : (n : Int) < t := by omega
      have q1 : wr.cell? ⟨bn, 1 + n, none⟩ = some (.int .u64 0) := hs3.row_cell (fill_get hd n (t.toNat + r.toNat) (by omega))
      have q2 : wr.frozen? ⟨bn, 1 + n, none⟩ = false := hs3.row_frozen _
      have s1 : IntKind.i64.wrap (1 + (n : Int)) = 1 + n := IntWalk.i64_in _ (by omega)
      go_wp2_with fail
      go_roundw
      case rel =>
        have hs4 := hs3.row_set (1 + n) (.int .u64 2)
        rw [fill_step hd n (t.toNat + r.toNat) (by omega)] at hs4
        exact ⟨n + 1, by omega, by go_num, hs4, hb3.setCell (Nat.zero_le _) _⟩
      case measure => simp [intOf]; omega
    · have hge : t ≤ (n : Int) := by omega
      obtain rfl : n = t.toNat := by omega
      have hv := hs3.right.heapV h.ok
      go_wp2_with fail
      refine hv.half.mono ?_
      rintro e w' ⟨rfl, q, rfl⟩
      go_wp2_with fail
      have hs5 : sat (wr.drewN q) (blk V.g (.cells (heapCells V S) 125 (0, 0)) * (row 22 1 V.bw V.cw (S.ws.map u64) * (row 4 1 V.bb V.cb (S.bs.map .bool) * (row 22 1 bn (1 + t + r).toNat ((fillTo hd t.toNat (t.toNat + r.toNat)).map u64) * R)))) := (hs3.drewN q).perm (by unfold isHeap; ac_rfl)
      refine (lay_any V.g (1 + V.inn * 2) V.bw V.cw V.bb V.cb bn 0 (1 + t + r).toNat (1 + t + r).toNat (heapCells V S) 125 S.ws S.bs (fillTo hd t.toNat (t.toNat + r.toNat)) hs5 (heapCells_w V S h.ok.inn) (heapCells_b V S h.ok.inn) hv.wc hv.bc h.ok.wf.len h.ok.wf.pos ?_ (by omega) (by omega) ?_).mono ?_
      · simp [fillTo]; omega
      · intro j x hx
        rw [Nat.zero_add]
        exact (hs3.drewN q).row_cell (by rw [List.getElem?_map, hx]; rfl)
      rintro e w3 ⟨rfl, hb4, bw', cw', bb', cb', hcw, hcb, hs6⟩
      go_wp2_with fail
      go_ret2
      have hroom := HN.out
      have hS : S.alloc k t r = { S with ws := S.ws ++ objWords k t r, bs := S.bs ++ laid (1 + t.toNat + r.toNat) } := by unfold HS.alloc; rw [if_pos hroom]
      have hx : fillTo hd t.toNat (t.toNat + r.toNat) = objWords k t r := by rw [← hh]; unfold fillTo objWords; rw [Nat.add_sub_cancel_left]
      have hxl : (objWords k t r).length = 1 + t.toNat + r.toNat := by simp [objWords]; omega
      rw [hx, hxl] at hs6
      rw [hx, hxl] at hcw hcb
      rw [hS]
      refine ⟨rfl, (hb3.trans (drewN_below0 _ _)).trans hb4, { V with bw := bw', cw := cw', bb := bb', cb := cb' }, rfl, ?_, ?_⟩
      · have e1 := heapCells_set V S { S with ws := S.ws ++ objWords k t r, bs := S.bs ++ laid (1 + t.toNat + r.toNat) } h.ok.inn rfl rfl bw' cw' bb' cb'
        have e2 : (S.ws ++ objWords k t r).length = S.ws.length + (1 + t.toNat + r.toNat) := by rw [List.length_append, hxl]
        have e3 : (S.bs ++ laid (1 + t.toNat + r.toNat)).length = S.ws.length + (1 + t.toNat + r.toNat) := by rw [List.length_append, laid_len _ (by omega), h.ok.wf.len]
        simp only [e2, e3] at e1
        rw [e1] at hs6
        have h7 : sat w3 (isHeap { V with bw := bw', cw := cw', bb := bb', cb := cb' } { S with ws := S.ws ++ objWords k t r, bs := S.bs ++ laid (1 + t.toNat + r.toNat) } * R * row 22 1 bn (1 + t + r).toNat ((objWords k t r).map u64)) := hs6.perm (by unfold isHeap; ac_rfl)
        exact h7.left
      · have ok := h.ok
        exact ⟨ok.inn, ok.lo, ok.hi, by simp only [List.length_append, hxl]; omega, wf_alloc ok.wf a b c d e f, ok.times, ptr_alloc ok.wf ok.ptr a b c d e f⟩
end
end Go.Proofs.Ytanjiecefioffaa
