/- Separation logic over the model's heap, a block (an allocation) at a time: 'sat w P' says that P holds of some blocks of w. No program in sight. -/
import Derived.WalkKit
import Derived.WalkSpells
import Derived.Deep.Draws
import Derived.Deep.AppendSrc
import Derived.Deep.RegionHeld3
import Derived.BigQuiet
import Derived.Deep.QuietTactic
import Derived.Lib.Hide
import Derived.Deep.Cut
import Derived.Deep.CutBlock
import Derived.Deep.DeepCutAuto
import Derived.Deep.RegionWith
import Derived.Deep.RegionLaw
import Derived.Deep.LoopGhost
import Derived.Deep.DeepFit
import Derived.Test.YtanjiecefioffaaProg
import Derived.Test.YtanjiecefioffaaRows
import Derived.Lib.SmallJoins
namespace Go.Proofs.Ytanjiecefioffaa
open Go.RowKit

/-- A piece of a heap. -/
abbrev PH := Nat → Option Obj
def HP := PH → Prop

def sat (w : World) (P : HP) : Prop := ∃ h : PH, P h ∧ ∀ b o, h b = some o → w.heap[b]? = some o
def emp : HP := fun h => ∀ k, h k = none
def blk (b : Nat) (o : Obj) : HP := fun h => ∀ k, h k = if k = b then some o else none
def star (P Q : HP) : HP := fun h => ∃ h1 h2 : PH, P h1 ∧ Q h2 ∧ (∀ k, h1 k = none ∨ h2 k = none) ∧ ∀ k, h k = (h1 k).or (h2 k)
instance : Mul HP := ⟨star⟩
/-- All of a world's heap. -/
def whole (w : World) : HP := fun h => ∀ k, h k = w.heap[k]?

theorem HP.ext {P Q : HP} (h : ∀ x, P x ↔ Q x) : P = Q := funext fun x => propext (h x)

theorem HP.mul_def (P Q : HP) (h : PH) : (P * Q) h ↔ ∃ h1 h2 : PH, P h1 ∧ Q h2 ∧ (∀ k, h1 k = none ∨ h2 k = none) ∧ ∀ k, h k = (h1 k).or (h2 k) := Iff.rfl

theorem HP.comm (P Q : HP) : P * Q = Q * P := by
  have key : ∀ P Q : HP, ∀ x, (P * Q) x → (Q * P) x := by
    rintro P Q x ⟨a, b, ha, hb, hd, hx⟩
    refine ⟨b, a, hb, ha, fun k => (hd k).symm, fun k => ?_⟩
    rw [hx k]
    rcases hd k with h | h <;> simp [h]
  exact HP.ext fun x => ⟨key P Q x, key Q P x⟩

theorem HP.assoc1 (P Q R : HP) (x : PH) (h : (P * Q * R) x) : (P * (Q * R)) x := by
  obtain ⟨ab, c, ⟨a, b, ha, hb, hd, hab⟩, hc, hd2, hx⟩ := h
  refine ⟨a, fun k => (b k).or (c k), ha, ⟨b, c, hb, hc, ?_, fun _ => rfl⟩, ?_, ?_⟩
  · intro k
    have := hd2 k; rw [hab k] at this
    cases hb' : b k <;> simp_all
  · intro k
    have h1 := hd k
    have h2 := hd2 k; rw [hab k] at h2
    cases ha' : a k <;> simp_all
  · intro k
    rw [hx k, hab k, Option.or_assoc]

theorem HP.assoc (P Q R : HP) : P * Q * R = P * (Q * R) := by
  refine HP.ext fun x => ⟨HP.assoc1 P Q R x, fun h => ?_⟩
  rw [HP.comm] at h
  have h2 := HP.assoc1 Q R P x h
  rw [HP.comm] at h2
  have h3 := HP.assoc1 R P Q x h2
  rw [HP.comm] at h3
  exact h3

theorem HP.left_comm (P Q R : HP) : P * (Q * R) = Q * (P * R) := by rw [← HP.assoc, HP.comm P Q, HP.assoc]
instance : Std.Associative (α := HP) (· * ·) := ⟨HP.assoc⟩
instance : Std.Commutative (α := HP) (· * ·) := ⟨HP.comm⟩

theorem HP.emp_mul (P : HP) : emp * P = P := by
  refine HP.ext fun x => ⟨?_, fun h => ⟨fun _ => none, x, fun _ => rfl, h, fun _ => .inl rfl, fun k => by simp⟩⟩
  rintro ⟨a, b, ha, hb, _, hx⟩
  have : x = b := funext fun k => by rw [hx k, ha k]; simp
  rw [this]; exact hb
theorem HP.mul_emp (P : HP) : P * emp = P := by rw [HP.comm, HP.emp_mul]

section
variable {w w' : World} {P Q R : HP}

theorem sat.perm (h : sat w P) (e : P = Q) : sat w Q := e ▸ h
theorem sat.mono (h : sat w P) (e : ∀ x, P x → Q x) : sat w Q := let ⟨x, hx, hw⟩ := h; ⟨x, e x hx, hw⟩
theorem star_mono {P P' Q Q' : HP} (h1 : ∀ x, P x → P' x) (h2 : ∀ x, Q x → Q' x) : ∀ x, (P * Q) x → (P' * Q') x :=
  fun _ ⟨a, b, ha, hb, hd, hx⟩ => ⟨a, b, h1 a ha, h2 b hb, hd, hx⟩
theorem sat.mono_left (h : sat w (P * R)) (e : ∀ x, P x → Q x) : sat w (Q * R) := h.mono (star_mono e fun _ h => h)

theorem sat.left (h : sat w (P * Q)) : sat w P := by
  obtain ⟨x, ⟨a, b, ha, hb, hd, hx⟩, hw⟩ := h
  exact ⟨a, ha, fun k o ho => hw k o (by rw [hx k, ho]; simp)⟩
theorem sat.right (h : sat w (P * Q)) : sat w Q := by rw [HP.comm] at h; exact h.left

theorem sat.of_heap (h : sat w P) (e : ∀ b, b < w.heap.size → w'.heap[b]? = w.heap[b]?) : sat w' P := by
  obtain ⟨x, hx, hw⟩ := h
  refine ⟨x, hx, fun b o ho => ?_⟩
  have := hw b o ho
  rw [e b (Array.getElem?_eq_some_iff.1 this).1]
  exact this

theorem sat.below (h : sat w P) (hb : Below w.heap.size w w') : sat w' P := h.of_heap hb.block
theorem sat.drewN (h : sat w P) (n : Nat) : sat (w.drewN n) P := h
theorem sat.drew (h : sat w P) : sat w.drew P := h
theorem sat.of_drewN {n : Nat} (h : sat (w.drewN n) P) : sat w P := h

theorem sat.get {b : Nat} {o : Obj} (h : sat w (blk b o)) : w.heap[b]? = some o := by
  obtain ⟨x, hx, hw⟩ := h
  exact hw b o (by rw [hx b]; simp)
theorem sat_blk {b : Nat} {o : Obj} (h : w.heap[b]? = some o) : sat w (blk b o) := by
  refine ⟨fun k => if k = b then some o else none, fun _ => rfl, fun k o' h' => ?_⟩
  by_cases e : k = b
  · subst e; simp at h'; subst h'; exact h
  · simp [e] at h'
theorem sat.lt {b : Nat} {o : Obj} (h : sat w (blk b o)) : b < w.heap.size := (Array.getElem?_eq_some_iff.1 h.get).1

theorem sat_emp (w : World) : sat w emp := ⟨fun _ => none, fun _ => rfl, fun _ _ h => by cases h⟩
theorem sat_whole (w : World) : sat w (whole w) := ⟨fun k => w.heap[k]?, fun _ => rfl, fun _ _ h => h⟩
theorem sat.whole_get {W : World} (h : sat w (whole W)) : ∀ b, b < W.heap.size → w.heap[b]? = W.heap[b]? := by
  obtain ⟨x, hx, hw⟩ := h
  intro b hb
  have e : W.heap[b]? = some W.heap[b] := Array.getElem?_eq_getElem hb
  rw [e]
  exact hw b _ (by rw [hx b, e])

/-- A new block. -/
theorem sat.alloc (h : sat w P) (o : Obj) : sat (w.alloc o) (blk w.heap.size o * P) := by
  obtain ⟨x, hx, hw⟩ := h
  refine ⟨fun k => if k = w.heap.size then some o else x k, ⟨fun k => if k = w.heap.size then some o else none, x, fun _ => rfl, hx, ?_, ?_⟩, ?_⟩
  · intro k
    by_cases e : k = w.heap.size
    · right
      cases hk : x k with
      | none => rfl
      | some o' => have := (Array.getElem?_eq_some_iff.1 (hw k o' hk)).1; omega
    · left; simp [e]
  · intro k
    by_cases e : k = w.heap.size <;> simp [e]
  · intro k o' h'
    by_cases e : k = w.heap.size
    · subst e; simp at h'; subst h'; exact heap_alloc_new w o
    · simp [e] at h'
      have := hw k o' h'
      rw [heap_alloc_old w o (Array.getElem?_eq_some_iff.1 this).1]; exact this

/-- A block is turned into another. -/
theorem sat.put {b : Nat} {o o' : Obj} (h : sat w (blk b o * R)) (h1 : w'.heap[b]? = some o') (h2 : ∀ k, k ≠ b → k < w.heap.size → w'.heap[k]? = w.heap[k]?) :
    sat w' (blk b o' * R) := by
  obtain ⟨x, ⟨a, c, ha, hc, hd, hx⟩, hw⟩ := h
  have hcb : c b = none := by
    rcases hd b with h | h
    · rw [ha b] at h; simp at h
    · exact h
  refine ⟨fun k => (if k = b then some o' else none : Option Obj).or (c k), ⟨fun k => if k = b then some o' else none, c, fun _ => rfl, hc, ?_, fun _ => rfl⟩, ?_⟩
  · intro k
    by_cases e : k = b
    · right; rw [e]; exact hcb
    · left; simp [e]
  · intro k o2 h'
    by_cases e : k = b
    · subst e; simp at h'; subst h'; exact h1
    · simp [e] at h'
      have hk := hw k o2 (by rw [hx k, ha k]; simp [e, h'])
      rw [h2 k e (Array.getElem?_eq_some_iff.1 hk).1]; exact hk

theorem sat.setCell {b off : Nat} {cs : Array Value} {t : Nat} {fr : Nat × Nat} (h : sat w (blk b (.cells cs t fr) * R)) (v : Value) :
    sat (w.setCell ⟨b, off, none⟩ v) (blk b (.cells (cs.setIfInBounds off v) t fr) * R) := by
  refine h.put ?_ fun k hk _ => Below.heap_setCell _ _ _ _ (by simpa using hk)
  have := h.left.get
  simp only [World.setCell, Array.getElem?_modify, this, if_true, Option.map_some, Option.isSome_none, Bool.false_eq_true, if_false]

theorem sat.setRow {b : Nat} {cs cs' : Array Value} {t : Nat} {fr : Nat × Nat} (h : sat w (blk b (.cells cs t fr) * R)) :
    sat (w.setRow b cs') (blk b (.cells cs' t fr) * R) :=
  h.put (setRow_heap w b cs cs' t fr h.left.get) fun k hk _ => setRow_other w b k cs' hk

theorem sat.cell {b : Nat} {cs : Array Value} {t : Nat} {fr : Nat × Nat} (h : sat w (blk b (.cells cs t fr))) (off : Nat) : w.cell? ⟨b, off, none⟩ = cs[off]? := by
  simp [World.cell?, h.get]
theorem sat.frozen {b : Nat} {cs : Array Value} {t : TypeId} (h : sat w (blk b (.cells cs t (0, 0)))) (off : Nat) : w.frozen? ⟨b, off, none⟩ = false := by
  simp [World.frozen?, h.get]

/-- Two blocks apart are two. -/
theorem sat.ne {b c : Nat} {o o' : Obj} (h : sat w (blk b o * (blk c o' * R))) : b ≠ c := by
  obtain ⟨x, ⟨a, y, ha, ⟨p, q, hp, hq, _, hy⟩, hd, hx⟩, hw⟩ := h
  rintro rfl
  rcases hd b with h | h
  · rw [ha b] at h; simp at h
  · rw [hy b, hp b] at h; simp at h
end

/-- A row: a whole array whose first cells are xs. -/
def row (e sz b cap : Nat) (xs : List Value) : HP := fun h => ∃ cur : Array Value, blk b (.cells cur e (0, 0)) h ∧ cur.size = cap * sz ∧ xs.length ≤ cap * sz ∧ cap ≤ maxLen ∧ cur.toList.take xs.length = xs

section
variable {w w' : World} {R : HP} {e sz b cap : Nat} {xs : List Value}

theorem sat.open_row (h : sat w (row e sz b cap xs * R)) : ∃ cur : Array Value, sat w (blk b (.cells cur e (0, 0)) * R) ∧ cur.size = cap * sz ∧ xs.length ≤ cap * sz ∧ cap ≤ maxLen ∧ cur.toList.take xs.length = xs := by
  obtain ⟨x, ⟨a, c, ⟨cur, ha, h1, h2, h3, h4⟩, hc, hd, hx⟩, hw⟩ := h
  exact ⟨cur, ⟨x, ⟨a, c, ha, hc, hd, hx⟩, hw⟩, h1, h2, h3, h4⟩

theorem sat.shut_row {cur : Array Value} (h : sat w (blk b (.cells cur e (0, 0)) * R)) (h1 : cur.size = cap * sz) (h2 : xs.length ≤ cap * sz) (h3 : cap ≤ maxLen) (h4 : cur.toList.take xs.length = xs) :
    sat w (row e sz b cap xs * R) := h.mono_left fun _ hx => ⟨cur, hx, h1, h2, h3, h4⟩

theorem sat.row_bounds (h : sat w (row e sz b cap xs * R)) : xs.length ≤ cap * sz ∧ cap ≤ maxLen := by
  obtain ⟨_, _, _, h2, h3, _⟩ := h.open_row; exact ⟨h2, h3⟩

theorem sat.row_cell (h : sat w (row e sz b cap xs * R)) {j : Nat} {v : Value} (hj : xs[j]? = some v) : w.cell? ⟨b, j, none⟩ = some v := by
  obtain ⟨cur, hs, h1, h2, h3, h4⟩ := h.open_row
  rw [hs.left.cell]
  rw [← h4, List.getElem?_take] at hj
  split at hj
  · simpa using hj
  · cases hj
theorem sat.row_frozen (h : sat w (row e sz b cap xs * R)) (j : Nat) : w.frozen? ⟨b, j, none⟩ = false := by
  obtain ⟨cur, hs, _⟩ := h.open_row
  exact hs.left.frozen j

theorem sat.row_set (h : sat w (row e sz b cap xs * R)) (j : Nat) (v : Value) : sat (w.setCell ⟨b, j, none⟩ v) (row e sz b cap (xs.set j v) * R) := by
  obtain ⟨cur, hs, h1, h2, h3, h4⟩ := h.open_row
  refine (hs.setCell (off := j) v).shut_row (by simpa using h1) (by simpa using h2) h3 ?_
  simp only [List.length_set, Array.toList_setIfInBounds]
  rw [List.take_set, h4]
end

/-- A slice that is the call's own: nil, or the head of a whole array. -/
def own (e sz : Nat) (v : Value) (n : Nat) (xs : List Value) : HP := fun h => xs.length = n * sz ∧ ((v = .slice none 0 0 ∧ n = 0 ∧ emp h) ∨ ∃ b cap, v = .slice (some ⟨b, 0, none⟩) n cap ∧ n ≤ cap ∧ row e sz b cap xs h)

section
variable {w w' : World} {R : HP} {e sz : Nat} {v : Value} {n : Nat} {xs : List Value}

theorem sat.open_own (h : sat w (own e sz v n xs * R)) : xs.length = n * sz ∧ ((v = .slice none 0 0 ∧ n = 0 ∧ xs = [] ∧ sat w R) ∨ ∃ b cap, v = .slice (some ⟨b, 0, none⟩) n cap ∧ n ≤ cap ∧ sat w (row e sz b cap xs * R)) := by
  obtain ⟨x, ⟨a, c, ⟨hl, ha⟩, hc, hd, hx⟩, hw⟩ := h
  refine ⟨hl, ?_⟩
  rcases ha with ⟨hv, hn, he⟩ | ⟨b, cap, hv, hn, hr⟩
  · left
    refine ⟨hv, hn, List.eq_nil_of_length_eq_zero (by rw [hl, hn]; simp), c, hc, fun k o ho => hw k o ?_⟩
    rw [hx k, he k]; simpa using ho
  · right
    exact ⟨b, cap, hv, hn, x, ⟨a, c, hr, hc, hd, hx⟩, hw⟩

theorem sat.shut_own {b cap : Nat} (hl : xs.length = n * sz) (hn : n ≤ cap) (h : sat w (row e sz b cap xs * R)) : sat w (own e sz (.slice (some ⟨b, 0, none⟩) n cap) n xs * R) :=
  h.mono_left fun _ hx => ⟨hl, .inr ⟨b, cap, rfl, hn, hx⟩⟩

theorem sat.nil_own (h : sat w R) : sat w (own e sz (.slice none 0 0) 0 [] * R) := by
  rw [← HP.emp_mul R] at h
  exact h.mono_left fun _ hx => ⟨by simp, .inl ⟨rfl, rfl, hx⟩⟩

/-- A slice that holds something is no nil. -/
theorem sat.own_some (h : sat w (own e sz v n xs * R)) (hn : 0 < n) : ∃ b cap, v = .slice (some ⟨b, 0, none⟩) n cap ∧ n ≤ cap ∧ xs.length = n * sz ∧ sat w (row e sz b cap xs * R) := by
  obtain ⟨hl, h | ⟨b, cap, hv, hn', hr⟩⟩ := h.open_own
  · omega
  · exact ⟨b, cap, hv, hn', hl, hr⟩
end

section
variable {P : Program} {w : World} {R : HP}

theorem Below.zero_alloc (w : World) (o : Obj) : Below 0 w (w.alloc o) := (Below.refl 0 w).alloc (Nat.zero_le _) o
theorem Below.zero_of {B : Nat} {w w' : World} (h : Below B w w') : Below 0 w w' := h.mono (Nat.zero_le _)

/-- append, of what is the call's own; what comes in is told by its cells. -/
theorem run_append_sat (t ty : TypeId) (e : Nat) (i : TypeInfo) (z : Value) (sz bytes : Nat) (ht : P.underlying t = some (.slice e)) (hi : P.info? e = some i) (hz : i.zero = some z)
    (hsize : i.size = sz) (hby : i.bytes = bytes) (hzs : z.cells.size = sz)
    {v : Value} {n : Nat} {xs : List Value} (h : sat w (own e sz v n xs * R))
    (a : Addr) (m c : Nat) (news : List Value) (hl : news.length = m * sz) (hnews : ∀ j u, news[j]? = some u → w.cell? (a.add j) = some u) (h1 : ∀ u ∈ news, u.oneCell' = true)
    (hbytes : (n + m) * bytes ≤ 140737488355328) (h63 : n + m ≤ maxLen) :
    ∃ v' w', (Builtin.append_ #[t, t] ty #[v, .slice (some a) m c]).run P w = .ok v' w' ∧ sat w' (own e sz v' (n + m) (xs ++ news) * R) ∧ Below 0 w w' := by
  subst hsize
  subst hby
  have hsmall : n + m ≤ 9223372036854775807 := by simp only [maxLen] at h63; omega
  obtain ⟨hxl, h | ⟨g, cap, rfl, hn, hr⟩⟩ := h.open_own
  · obtain ⟨rfl, rfl, rfl, hR⟩ := h
    by_cases hm : m = 0
    · subst hm
      have hn : news = [] := List.eq_nil_of_length_eq_zero (by simpa using hl)
      subst hn
      refine ⟨.slice none 0 0, w, ?_, by simpa using hR.nil_own, Below.refl _ _⟩
      simp [Builtin.append_, run_underlying ht, sizeOf, typeInfo, hi, Builtin.lenOf, Builtin.firstCells, loadCells, loadCellsFrom]
    · have hr := run_append_nil (P := P) w t ty e i z ht hi hz a m c news hl hnews (by omega) (by omega) (by have hb := hbytes; simp only [Nat.zero_add] at hb; omega)
      refine ⟨_, _, hr, ?_, (Below.refl 0 w).drew.alloc (Nat.zero_le _) _⟩
      simp only [Nat.zero_add, List.nil_append]
      have hge := grownCap_ge w m 0 e
      have hcm : grownCap w m 0 e ≤ maxLen := grownCap_le_maxLen w m 0 e (by omega)
      refine sat.shut_own hl hge ((hR.drew.alloc _).shut_row ?_ ?_ hcm ?_)
      · simp only [Array.size_append, List.size_toArray, size_zeroCells, hzs, hl, ← Nat.add_mul]
        congr 1; omega
      · rw [hl]; exact Nat.mul_le_mul_right _ hge
      · simp only [Array.toList_append]; exact List.take_left
  · obtain ⟨cur, hs, h1', h2', h3', h4'⟩ := hr.open_row
    have hg := hs.left.get
    by_cases hroom : n + m ≤ cap
    · have hfit : n * i.size + news.length ≤ cur.size := by rw [hl, h1', ← Nat.add_mul]; exact Nat.mul_le_mul_right _ hroom
      have hr := run_append_room (P := P) w t ty e i ht hi g n cap cur hg a m c news hl hnews h1 hroom hfit
      refine ⟨_, _, hr, ?_, (show Below 0 w _ from ⟨rfl, rfl, rfl, by simp, fun k hk => by omega⟩)⟩
      refine sat.shut_own (by rw [List.length_append, hxl, hl, Nat.add_mul]) hroom (hs.setRow.shut_row ?_ ?_ h3' ?_)
      · simp only [List.size_toArray, List.length_append, List.length_take, List.length_drop, Array.length_toList]
        omega
      · rw [List.length_append, hxl, hl, ← Nat.add_mul]; exact Nat.mul_le_mul_right _ hroom
      · rw [hxl] at h4'
        rw [h4']
        exact List.take_left
    · have holds : ∀ j u, xs[j]? = some u → w.cell? ((⟨g, 0, none⟩ : Addr).add j) = some u := fun j u hu => by
        have hadd : (⟨g, 0, none⟩ : Addr).add j = ⟨g, j, none⟩ := by unfold Addr.add; split <;> simp_all
        rw [hadd]; exact hr.row_cell hu
      have hrun := run_append_grow (P := P) w t ty e i z ht hi hz ⟨g, 0, none⟩ n cap xs hxl holds a m c news hl hnews (by omega) (by omega) (growslice_fits (by omega) hbytes)
      refine ⟨_, _, hrun, ?_, (Below.refl 0 w).drew.alloc (Nat.zero_le _) _⟩
      have hge := grownCap_ge w (n + m) cap e
      have hcm : grownCap w (n + m) cap e ≤ maxLen := grownCap_le_maxLen w (n + m) cap e h63
      have hR : sat w R := hr.right
      refine sat.shut_own (by rw [List.length_append, hxl, hl, Nat.add_mul]) hge ((hR.drew.alloc _).shut_row ?_ ?_ hcm ?_)
      · simp only [Array.size_append, List.size_toArray, size_zeroCells, hzs, hl, hxl, ← Nat.add_mul]
        congr 1; omega
      · rw [List.length_append, hxl, hl, ← Nat.add_mul]; exact Nat.mul_le_mul_right _ hge
      · simp only [Array.toList_append]
        have : (xs ++ news) = xs.toArray.toList ++ news.toArray.toList := by simp
        rw [this]; exact List.take_left

theorem wpList_append_sat {ops : Array Oper} {rest : List Oper} {o : Oper} {a : Act} {Q : Exit → Act → World → Prop} (hgd : o.guard = none) (s x : Operand) (t : TypeId)
    (ho : o.op = .call { callee := .builtin .append, args := #[s, x], argTypes := #[t, t] })
    (e : Nat) (i : TypeInfo) (z : Value) (sz bytes : Nat) (ht : P.underlying t = some (.slice e)) (hi : P.info? e = some i) (hz : i.zero = some z)
    (hsize : i.size = sz) (hby : i.bytes = bytes) (hzs : z.cells.size = sz)
    (v : Value) (n : Nat) (xs : List Value) (hs : a.eval s = v) (R : HP)
    (ad : Addr) (m c : Nat) (news : List Value) (hx : a.eval x = .slice (some ad) m c)
    (k : ∀ v' w', sat w' (own e sz v' (n + m) (xs ++ news) * R) → Below 0 w w' → wpList P ops Q rest (a.put o.dst v') w')
    (h : sat w (own e sz v n xs * R)) (hl : news.length = m * sz) (hnews : ∀ j u, news[j]? = some u → w.cell? (ad.add j) = some u) (h1 : ∀ u ∈ news, u.oneCell' = true)
    (hbytes : (n + m) * bytes ≤ 140737488355328) (h63 : n + m ≤ maxLen) : wpList P ops Q (o :: rest) a w := by
  obtain ⟨v', w', hr, h2, h3⟩ := run_append_sat (P := P) (w := w) t o.type e i z sz bytes ht hi hz hsize hby hzs h ad m c news hl hnews h1 hbytes h63
  refine wpList_plain hgd fun K hK => ?_
  unfold Oper.wp execOp
  simp only [ho, resolve, invoke, builtin, Sem.run_bind, Sem.run_pure, Result.andThen_ok, List.map_toArray, List.map_cons, List.map_nil, hs, hx, hr]
  exact hK _ _ (k v' w' h2 h3)
end

#print axioms wpList_append_sat
end Go.Proofs.Ytanjiecefioffaa

/- More of append: a make's zeros appended ('append(s, make([]T, n)...)'). -/
namespace Go.Proofs.Ytanjiecefioffaa
open Go.RowKit

theorem zeroCells_one (z : Value) (m : Nat) : (Builtin.zeroCells #[z] m).toList = List.replicate m z := by
  apply List.ext_getElem
  · simp [Builtin.zeroCells]
  · intro k h1 h2
    simp [Builtin.zeroCells]
    rw [Nat.mod_one]
    rfl

section
variable {P : Program} {w : World} {R : HP}

theorem run_append_zeros (t ti : TypeId) (e : Nat) {ty : TypeId} (ik : IntKind) (i : TypeInfo) (z : Value) (bytes : Nat) (ht : P.underlying t = some (.slice e)) (hti : P.underlying ti = some (.int ik)) (hi : P.info? e = some i) (hz : i.zero = some z)
    (hsize : i.size = 1) (hby : i.bytes = bytes) (hzs : z.cells = #[z]) (h1 : z.oneCell' = true)
    {v : Value} {n : Nat} {xs : List Value} (h : sat w (own e 1 v n xs * R)) (hn0 : 0 < n)
    (m : Nat) (hbytes : (n + m) * bytes ≤ 140737488355328) (h63 : n + m ≤ 9223372036854775807) :
    ∃ v' w', (Builtin.append_ #[t, ti] ty #[v, .int .i64 m]).run P w = .ok v' w' ∧ sat w' (own e 1 v' (n + m) (xs ++ List.replicate m z) * R) ∧ Below 0 w w' := by
  subst hby
  have hw : IntKind.i64.wrap (m : Int) = m := IntWalk.i64_in _ (by omega)
  have hw0 : IntKind.i64.wrap 0 = 0 := by decide
  have hm0 : ¬ ((m : Int) < 0) := by omega
  have hmb : m * i.bytes ≤ 140737488355328 := Nat.le_trans (Nat.mul_le_mul_right _ (by omega)) hbytes
  have hbb : ¬ (281474976710656 < (m : Int) * (i.bytes : Int)) := by
    have : ((m * i.bytes : Nat) : Int) = (m : Int) * (i.bytes : Int) := by simp
    omega
  obtain ⟨g, cap, rfl, hn, hxl, hr⟩ := h.own_some hn0
  obtain ⟨cur, hs, h1', h2', h3', h4'⟩ := hr.open_row
  have hg := hs.left.get
  rw [Nat.mul_one] at h1' h2' hxl
  have hzl := zeroCells_one z m
  by_cases hroom : n + m ≤ cap
  · have hst := run_storeCells_at P g n e (List.replicate m z) 0 cur w hg (by simp; omega) (fun x hx => by rw [List.eq_of_mem_replicate hx]; exact h1)
    simp only [Nat.add_zero] at hst
    have hrun : (Builtin.append_ #[t, ti] ty #[.slice (some ⟨g, 0, none⟩) n cap, .int .i64 m]).run P w = .ok (.slice (some ⟨g, 0, none⟩) (n + m) cap) (w.setRow g (cur.toList.take n ++ List.replicate m z ++ cur.toList.drop (n + (List.replicate m z).length)).toArray) := by
      by_cases hm : m = 0
      · subst hm
        simp [Builtin.append_, run_underlying ht, run_underlying hti, sizeOf, typeInfo, hi, asInt, asIntOf, hw0, show n ≤ cap from hn, storeCells, setRow_self w g cur e (0, 0) hg]
      · simp [Builtin.append_, run_underlying ht, run_underlying hti, sizeOf, typeInfo, hi, hsize, asInt, asIntOf, hroom, storeCells, zeroValue, hz, hzs, hm, hw, hm0, hbb, hzl]
        simp [Addr.add_lit, hst]
    refine ⟨_, _, hrun, ?_, (show Below 0 w _ from ⟨rfl, rfl, rfl, by simp, fun k hk => by omega⟩)⟩
    refine sat.shut_own (by simp [hxl]) hroom (hs.setRow.shut_row ?_ ?_ h3' ?_)
    · simp only [List.size_toArray, List.length_append, List.length_take, List.length_drop, Array.length_toList, List.length_replicate]
      omega
    · simp [hxl]; exact hroom
    · rw [hxl] at h4'
      rw [h4']
      exact List.take_left
  · have hg' : ¬ (9223372036854775807 < ((n : Int) + (m : Int))) := by omega
    have hfit := growslice_fits (need := n + m) (old := cap) (bytes := i.bytes) (by omega) hbytes
    have h48' : ¬ (281474976710656 < Builtin.nextslicecap (n + m) cap * i.bytes) := by omega
    have holds : ∀ j u, xs[j]? = some u → w.cell? ((⟨g, 0, none⟩ : Addr).add j) = some u := fun j u hu => by
      have hadd : (⟨g, 0, none⟩ : Addr).add j = ⟨g, j, none⟩ := by unfold Addr.add; split <;> simp_all
      rw [hadd]; exact hr.row_cell hu
    have hfo := run_firstCells_some (P := P) w.drew i.size n ⟨g, 0, none⟩ n cap xs (by rw [hsize, hxl, Nat.mul_one]) (by simpa using holds)
    have hm : m ≠ 0 := by omega
    have hrun : (Builtin.append_ #[t, ti] ty #[.slice (some ⟨g, 0, none⟩) n cap, .int .i64 m]).run P w =
        .ok (.slice (some ⟨w.heap.size, 0, none⟩) (n + m) (grownCap w (n + m) cap e)) (w.drew.alloc (.cells (xs.toArray ++ Builtin.zeroCells #[z] m ++ Builtin.zeroCells #[z] (grownCap w (n + m) cap e - (n + m))) e)) := by
      simp [Builtin.append_, run_underlying ht, run_underlying hti, sizeOf, typeInfo, hi, hsize, asInt, asIntOf, hroom, zeroValue, hz, hzs, hm, hw, hm0, hbb, hg', h48', Question.forced, newRow, grownCap]
      rw [hsize] at hfo
      simp [hfo]
    refine ⟨_, _, hrun, ?_, (Below.refl 0 w).drew.alloc (Nat.zero_le _) _⟩
    have hge := grownCap_ge w (n + m) cap e
    have hcm : grownCap w (n + m) cap e ≤ maxLen := grownCap_le_maxLen w (n + m) cap e (by unfold maxLen; omega)
    have hR : sat w R := hr.right
    have hzs1 : ∀ q, (Builtin.zeroCells #[z] q).size = q := fun q => by simp [Builtin.zeroCells]
    refine sat.shut_own (by simp [hxl]) hge ((hR.drew.alloc _).shut_row ?_ ?_ hcm ?_)
    · simp only [Array.size_append, List.size_toArray, hzs1, hxl]; omega
    · simp [hxl]; exact hge
    · simp only [Array.toList_append, hzl]
      exact List.take_left

theorem wpList_append_zeros {ops : Array Oper} {rest : List Oper} {o : Oper} {a : Act} {Q : Exit → Act → World → Prop} (hgd : o.guard = none) (s x : Operand) (t ti : TypeId)
    (ho : o.op = .call { callee := .builtin .append, args := #[s, x], argTypes := #[t, ti] })
    (e : Nat) (ik : IntKind) (i : TypeInfo) (z : Value) (bytes : Nat) (ht : P.underlying t = some (.slice e)) (hti : P.underlying ti = some (.int ik)) (hi : P.info? e = some i) (hz : i.zero = some z)
    (hsize : i.size = 1) (hby : i.bytes = bytes) (hzs : z.cells = #[z]) (h1 : z.oneCell' = true)
    (v : Value) (n : Nat) (xs : List Value) (hs : a.eval s = v) (R : HP) (m : Nat) (hx : a.eval x = .int .i64 m)
    (k : ∀ v' w', sat w' (own e 1 v' (n + m) (xs ++ List.replicate m z) * R) → Below 0 w w' → wpList P ops Q rest (a.put o.dst v') w')
    (h : sat w (own e 1 v n xs * R)) (hn0 : 0 < n) (hbytes : (n + m) * bytes ≤ 140737488355328) (h63 : n + m ≤ 9223372036854775807) : wpList P ops Q (o :: rest) a w := by
  obtain ⟨v', w', hr, h2, h3⟩ := run_append_zeros (P := P) (w := w) (ty := o.type) t ti e ik i z bytes ht hti hi hz hsize hby hzs h1 h hn0 m hbytes h63
  refine wpList_plain hgd fun K hK => ?_
  unfold Oper.wp execOp
  simp only [ho, resolve, invoke, builtin, Sem.run_bind, Sem.run_pure, Result.andThen_ok, List.map_toArray, List.map_cons, List.map_nil, hs, hx, hr]
  exact hK _ _ (k v' w' h2 h3)

theorem madeCells_one (z : Value) (m : Nat) : (madeCells #[z] m).toList = List.replicate m z := by
  apply List.ext_getElem
  · simp [madeCells]
  · intro k h1 h2
    simp [madeCells]
    rw [Nat.mod_one]
    rfl

/-- make, of n elements of one cell each. -/
theorem wpList_make_sat {ops : Array Oper} {rest : List Oper} {o : Oper} {a : Act} {Q : Exit → Act → World → Prop} (hgd : o.guard = none) (t : TypeId) (x y : Operand) (ho : o.op = .makeSlice t x y)
    (e : Nat) (i : TypeInfo) (z : Value) (bytes : Nat) (ht : P.underlying t = some (.slice e)) (hi : P.info? e = some i) (hz : i.zero = some z) (hsize : i.size = 1) (hby : i.bytes = bytes) (hzs : z.cells = #[z])
    (kl kc : IntKind) (l : Int) (R : HP) (hx : a.eval x = .int kl l) (hy : a.eval y = .int kc l)
    (k : ∀ b w', sat w' (row e 1 b l.toNat (List.replicate l.toNat z) * R) → Below 0 w w' → wpList P ops Q rest (a.put o.dst (.slice (some ⟨b, 0, none⟩) l.toNat l.toNat)) w')
    (h : sat w R) (h0 : 0 ≤ l) (hbytes : bytes * l ≤ 281474976710656) (h63 : l ≤ 9223372036854775807) : wpList P ops Q (o :: rest) a w := by
  subst hby
  have hr := run_make (P := P) w t e i z ht hi hz kl kc l l h0 (Int.le_refl _) hbytes h63
  refine wpList_plain hgd fun K hK => ?_
  unfold Oper.wp execOp
  simp only [ho, Sem.run_bind, Sem.run_pure, Result.andThen_ok, hx, hy, hr]
  refine hK _ _ (k _ _ ?_ ((Below.refl 0 w).alloc (Nat.zero_le _) _))
  rw [hzs, hsize, Nat.mul_one]
  refine (h.alloc _).shut_row ?_ ?_ ?_ ?_
  · simp [size_madeCells]
  · simp
  · unfold maxLen; omega
  · rw [madeCells_one]; simp
end
end Go.Proofs.Ytanjiecefioffaa

/- append of one element; append as a step of a region that draws. -/
namespace Go.Proofs.Ytanjiecefioffaa
open Go.RowKit

theorem wpList_append_one {P : Program} {w : World} {ops : Array Oper} {rest : List Oper} {o : Oper} {a : Act} {Q : Exit → Act → World → Prop} (hgd : o.guard = none) (s x : Operand) (t : TypeId)
    (ho : o.op = .call { callee := .builtin .append, args := #[s, x], argTypes := #[t, t] })
    (e : Nat) (i : TypeInfo) (z : Value) (bytes : Nat) (ht : P.underlying t = some (.slice e)) (hi : P.info? e = some i) (hz : i.zero = some z)
    (hsize : i.size = 1) (hby : i.bytes = bytes) (hzs : z.cells.size = 1)
    (v : Value) (n : Nat) (xs : List Value) (hs : a.eval s = v) (R : HP) (b : Nat) (u : Value) (hx : a.eval x = .slice (some ⟨b, 0, none⟩) 1 1)
    (k : ∀ v' w', sat w' (own e 1 v' (n + 1) (xs ++ [u]) * R) → Below 0 w w' → wpList P ops Q rest (a.put o.dst v') w')
    (h : sat w (own e 1 v n xs * R)) (hc : w.cell? ⟨b, 0, none⟩ = some u) (h1 : u.oneCell' = true)
    (hbytes : (n + 1) * bytes ≤ 140737488355328) (h63 : n + 1 ≤ maxLen) : wpList P ops Q (o :: rest) a w := by
  refine wpList_append_sat hgd s x t ho e i z 1 bytes ht hi hz hsize hby hzs v n xs hs R ⟨b, 0, none⟩ 1 1 [u] hx k h rfl ?_ ?_ hbytes h63
  · intro j y hj; match j, hj with | 0, hj => simp at hj; subst hj; simpa [Addr.add] using hc
  · intro y hy; simp at hy; subst hy; exact h1

section
variable {P : Program} {w : World} {R : HP}
/-- append, as a step of a region that draws. -/
theorem step_append_sat {ops : Array Oper} {o : Oper} {a : Act} {K : Act → World → Prop} {Q : Exit → Act → World → Prop} {E : Prop} (hgd : o.guard = none) (s x : Operand) (t : TypeId)
    (ho : o.op = .call { callee := .builtin .append, args := #[s, x], argTypes := #[t, t] })
    (e : Nat) (i : TypeInfo) (z : Value) (sz bytes : Nat) (ht : P.underlying t = some (.slice e)) (hi : P.info? e = some i) (hz : i.zero = some z)
    (hsize : i.size = sz) (hby : i.bytes = bytes) (hzs : z.cells.size = sz)
    (v : Value) (n : Nat) (xs : List Value) (hs : a.eval s = v) (R : HP) (h : sat w (own e sz v n xs * R))
    (ad : Addr) (m c : Nat) (news : List Value) (hx : a.eval x = .slice (some ad) m c) (hl : news.length = m * sz) (hnews : ∀ j u, news[j]? = some u → w.cell? (ad.add j) = some u) (h1 : ∀ u ∈ news, u.oneCell' = true)
    (hbytes : (n + m) * bytes ≤ 140737488355328) (h63 : n + m ≤ maxLen) (hm : 0 < m)
    (k : ∀ b' cap' w', sat w' (row e sz b' cap' (xs ++ news) * R) → n + m ≤ cap' → Below 0 w w' → K (a.put o.dst (.slice (some ⟨b', 0, none⟩) (n + m) cap')) w') :
    if Region.wanted o (yielded ops a.tmps) = true then Oper.wp P o a w K Q else E := by
  have hw : Region.wanted o (yielded ops a.tmps) = true := by simp [Region.wanted, hgd]
  rw [if_pos hw]
  obtain ⟨v', w', hr, h2, h3⟩ := run_append_sat (P := P) (w := w) t o.type e i z sz bytes ht hi hz hsize hby hzs h ad m c news hl hnews h1 hbytes h63
  obtain ⟨b', cap', rfl, hn, _, h4⟩ := h2.own_some (by omega)
  unfold Oper.wp execOp
  simp only [ho, resolve, invoke, builtin, Sem.run_bind, Sem.run_pure, Result.andThen_ok, List.map_toArray, List.map_cons, List.map_nil, hs, hx, hr]
  exact k _ _ _ h4 hn h3
end

end Go.Proofs.Ytanjiecefioffaa

/- append of a slice that may be nil. -/
namespace Go.Proofs.Ytanjiecefioffaa
open Go.RowKit

section
variable {P : Program} {w : World} {R : HP}
/-- Values that can be read from an address on, if there is one. -/
def CellsAt (w : World) (ao : Option Addr) (news : List Value) : Prop := ∀ j u, news[j]? = some u → ∃ a, ao = some a ∧ w.cell? (a.add j) = some u

theorem run_append_opt (t ty : TypeId) (e : Nat) (i : TypeInfo) (z : Value) (sz bytes : Nat) (ht : P.underlying t = some (.slice e)) (hi : P.info? e = some i) (hz : i.zero = some z)
    (hsize : i.size = sz) (hby : i.bytes = bytes) (hzs : z.cells.size = sz) (hsz : 0 < sz)
    {v : Value} {n : Nat} {xs : List Value} (h : sat w (own e sz v n xs * R))
    (ao : Option Addr) (m c : Nat) (news : List Value) (hl : news.length = m * sz) (hnews : CellsAt w ao news) (h1 : ∀ u ∈ news, u.oneCell' = true)
    (hbytes : (n + m) * bytes ≤ 140737488355328) (h63 : n + m ≤ maxLen) :
    ∃ v' w', (Builtin.append_ #[t, t] ty #[v, .slice ao m c]).run P w = .ok v' w' ∧ sat w' (own e sz v' (n + m) (xs ++ news) * R) ∧ Below 0 w w' := by
  cases ao with
  | some a =>
    refine run_append_sat t ty e i z sz bytes ht hi hz hsize hby hzs h a m c news hl ?_ h1 hbytes h63
    intro j u hj
    obtain ⟨a', h, hc⟩ := hnews j u hj
    cases h; exact hc
  | none =>
    have hnil : news = [] := by
      cases news with
      | nil => rfl
      | cons x l => obtain ⟨a, h, _⟩ := hnews 0 x rfl; cases h
    subst hnil
    have hm : m = 0 := by
      rcases Nat.eq_zero_or_pos m with h | h
      · exact h
      · have := Nat.mul_pos h hsz; simp at hl; omega
    subst hm
    refine ⟨v, w, ?_, by simpa using h, Below.refl _ _⟩
    obtain ⟨hxl, h | ⟨g, cap, rfl, hn, hr⟩⟩ := h.open_own
    · obtain ⟨rfl, rfl, rfl, hR⟩ := h
      simp [Builtin.append_, run_underlying ht, sizeOf, typeInfo, hi, Builtin.lenOf, Builtin.firstCells]
    · simp [Builtin.append_, run_underlying ht, sizeOf, typeInfo, hi, Builtin.lenOf, Builtin.firstCells, loadCells, hn, storeCells]

theorem wpList_append_opt {ops : Array Oper} {rest : List Oper} {o : Oper} {a : Act} {Q : Exit → Act → World → Prop} (hgd : o.guard = none) (s x : Operand) (t : TypeId)
    (ho : o.op = .call { callee := .builtin .append, args := #[s, x], argTypes := #[t, t] })
    (e : Nat) (i : TypeInfo) (z : Value) (sz bytes : Nat) (ht : P.underlying t = some (.slice e)) (hi : P.info? e = some i) (hz : i.zero = some z)
    (hsize : i.size = sz) (hby : i.bytes = bytes) (hzs : z.cells.size = sz) (hsz : 0 < sz)
    (v : Value) (n : Nat) (xs : List Value) (hs : a.eval s = v) (R : HP)
    (ao : Option Addr) (m c : Nat) (news : List Value) (hx : a.eval x = .slice ao m c)
    (k : ∀ v' w', sat w' (own e sz v' (n + m) (xs ++ news) * R) → Below 0 w w' → wpList P ops Q rest (a.put o.dst v') w')
    (h : sat w (own e sz v n xs * R)) (hl : news.length = m * sz) (hnews : CellsAt w ao news) (h1 : ∀ u ∈ news, u.oneCell' = true)
    (hbytes : (n + m) * bytes ≤ 140737488355328) (h63 : n + m ≤ maxLen) : wpList P ops Q (o :: rest) a w := by
  obtain ⟨v', w', hr, h2, h3⟩ := run_append_opt (P := P) (w := w) t o.type e i z sz bytes ht hi hz hsize hby hzs hsz h ao m c news hl hnews h1 hbytes h63
  refine wpList_plain hgd fun K hK => ?_
  unfold Oper.wp execOp
  simp only [ho, resolve, invoke, builtin, Sem.run_bind, Sem.run_pure, Result.andThen_ok, List.map_toArray, List.map_cons, List.map_nil, hs, hx, hr]
  exact hK _ _ (k v' w' h2 h3)
theorem CellsAt.words {w : World} {ao : Option Addr} {l : List Int} (k : IntKind) (h : ∀ (j : Nat) x, l[j]? = some x → ∃ a, ao = some a ∧ w.cell? (a.add j) = some (.int k x)) : CellsAt w ao (l.map fun x => .int k x) := by
  intro j u hj
  rw [List.getElem?_map] at hj
  cases hx : l[j]? with
  | none => rw [hx] at hj; cases hj
  | some y => rw [hx] at hj; cases hj; exact h j y hx
end
end Go.Proofs.Ytanjiecefioffaa

/- Data as trees, and how they lie in memory. -/
namespace Go.Proofs.Ytanjiecefioffaa
open Go.RowKit

/-- A walk is held here. -/
def Held' (p : Prop) : Prop := p
theorem hold {p : Prop} (h : Held' p) : p := h
theorem held {p : Prop} (h : p) : Held' p := h
/-- A datum. -/
inductive Dm where
  | mk (kind n : Int) (neg : Bool) (mag : List Int) (text : ByteArray) (items rest : List Dm)
mutual
/-- How much it is. -/
def Dm.size : Dm → Nat
  | .mk _ _ _ mag text items rest => 1 + mag.length + text.size + (Dm.sizes items + Dm.sizes rest)
def Dm.sizes : List Dm → Nat
  | [] => 0
  | d :: l => d.size + Dm.sizes l
end
def MagW (w : World) (ao : Option Addr) (l : List Int) : Prop := ∀ (j : Nat) x, l[j]? = some x → ∃ a, ao = some a ∧ w.cell? (a.add j) = some (.int .u32 x)
mutual
/-- The datum that these seven cells are, all of whose memory lies in R. -/
def DK (R : HP) : Dm → List Value → Prop
  | .mk kind n neg mag text items rest, cs => ∃ am cm ai ci ar cr, cs = [.int .i64 kind, .int .i64 n, .bool neg, .slice am mag.length cm, .string text, .slice ai items.length ci, .slice ar rest.length cr] ∧
      ((-9223372036854775808 ≤ kind ∧ kind < 9223372036854775808) ∧ (-9223372036854775808 ≤ n ∧ n < 9223372036854775808) ∧ (∀ w, sat w R → MagW w am mag) ∧ (∀ x ∈ mag, 0 ≤ x ∧ x < 4294967296) ∧ mag.length ≤ cm ∧ items.length ≤ ci ∧ rest.length ≤ cr) ∧
      DKs R items ai 0 ∧ DKs R rest ar 0
/-- Data in a row, from the k-th place on. -/
def DKs (R : HP) : List Dm → Option Addr → Nat → Prop
  | [], _, _ => True
  | d :: l, ao, k => (∃ b off cs, ao = some ⟨b, off, none⟩ ∧ (∀ w, sat w R → ∀ (i : Nat) v, cs[i]? = some v → w.cell? ⟨b, off + k * 7 + i, none⟩ = some v) ∧ DK R d cs) ∧ DKs R l ao (k + 1)
end
theorem DK.len {R : HP} {d : Dm} {cs : List Value} (h : DK R d cs) : cs.length = 7 := by
  cases d
  unfold DK at h
  obtain ⟨_, _, _, _, _, _, rfl, _⟩ := h
  rfl
mutual
theorem DK.mono {R Q : HP} (e : ∀ w, sat w Q → sat w R) : ∀ (d : Dm) {cs : List Value}, DK R d cs → DK Q d cs
  | .mk kind n neg mag text items rest, cs, h => by
    unfold DK at h ⊢
    obtain ⟨am, cm, ai, ci, ar, cr, h1, ⟨h2, h3, h4, h5⟩, h6, h7⟩ := h
    exact ⟨am, cm, ai, ci, ar, cr, h1, ⟨h2, h3, fun w hw => h4 w (e w hw), h5⟩, DKs.mono e items h6, DKs.mono e rest h7⟩
theorem DKs.mono {R Q : HP} (e : ∀ w, sat w Q → sat w R) : ∀ (l : List Dm) {ao : Option Addr} {k : Nat}, DKs R l ao k → DKs Q l ao k
  | [], _, _, _ => by unfold DKs; trivial
  | d :: l, ao, k, h => by
    unfold DKs at h ⊢
    obtain ⟨⟨b, off, cs, h1, h2, h3⟩, h4⟩ := h
    exact ⟨⟨b, off, cs, h1, fun w hw => h2 w (e w hw), DK.mono e d h3⟩, DKs.mono e l h4⟩
end
theorem DKs.get {R : HP} : ∀ {l : List Dm} {ao : Option Addr} {k : Nat}, DKs R l ao k → ∀ (i : Nat) d, l[i]? = some d → ∃ b off cs, ao = some ⟨b, off, none⟩ ∧ (∀ w, sat w R → ∀ (j : Nat) v, cs[j]? = some v → w.cell? ⟨b, off + (k + i) * 7 + j, none⟩ = some v) ∧ DK R d cs
  | [], _, _, _, i, d, hd => by simp at hd
  | x :: l, ao, k, h, 0, d, hd => by
    unfold DKs at h
    simp at hd
    subst hd
    exact h.1
  | x :: l, ao, k, h, i + 1, d, hd => by
    unfold DKs at h
    have := DKs.get h.2 i d (by simpa using hd)
    rw [show k + 1 + i = k + (i + 1) by omega] at this
    exact this
/-- Data each of which lies in R, in a row of the call's own. -/
theorem DKs.of_row {R : HP} {b off : Nat} : ∀ (l : List Dm) (css : List (List Value)) (k : Nat), css.length = l.length → (∀ (i : Nat) d cs, l[i]? = some d → css[i]? = some cs → DK R d cs) →
    (∀ w, sat w R → ∀ (i : Nat) cs, css[i]? = some cs → ∀ (j : Nat) v, cs[j]? = some v → w.cell? ⟨b, off + (k + i) * 7 + j, none⟩ = some v) → DKs R l (some ⟨b, off, none⟩) k
  | [], _, _, _, _, _ => by unfold DKs; trivial
  | d :: l, [], _, h, _, _ => by simp at h
  | d :: l, cs :: css, k, h, h1, h2 => by
    unfold DKs
    refine ⟨⟨b, off, cs, rfl, fun w hw j v hv => h2 w hw 0 cs rfl j v hv, h1 0 d cs rfl rfl⟩, ?_⟩
    refine DKs.of_row l css (k + 1) (by simpa using h) (fun i d' cs' hd hc => h1 (i + 1) d' cs' (by simpa using hd) (by simpa using hc)) ?_
    intro w hw i cs' hc j v hv
    have := h2 w hw (i + 1) cs' (by simpa using hc) j v hv
    rw [show k + 1 + i = k + (i + 1) by omega]
    exact this
theorem DKs.nil {R : HP} {ao : Option Addr} {k : Nat} : DKs R [] ao k := by unfold DKs; trivial
/-- What DK says, laid open. -/
theorem DK.open {R : HP} {kind n : Int} {neg : Bool} {mag : List Int} {text : ByteArray} {items rest : List Dm} {cs : List Value} (h : DK R (.mk kind n neg mag text items rest) cs) :
    ∃ am cm ai ci ar cr, cs = [.int .i64 kind, .int .i64 n, .bool neg, .slice am mag.length cm, .string text, .slice ai items.length ci, .slice ar rest.length cr] ∧
      ((-9223372036854775808 ≤ kind ∧ kind < 9223372036854775808) ∧ (-9223372036854775808 ≤ n ∧ n < 9223372036854775808) ∧ (∀ w, sat w R → MagW w am mag) ∧ (∀ x ∈ mag, 0 ≤ x ∧ x < 4294967296) ∧ mag.length ≤ cm ∧ items.length ≤ ci ∧ rest.length ≤ cr) ∧
      DKs R items ai 0 ∧ DKs R rest ar 0 := by
  unfold DK at h
  exact h
theorem DK.mk {R : HP} {kind n : Int} {neg : Bool} {mag : List Int} {text : ByteArray} {items rest : List Dm} {am ai ar : Option Addr} {cm ci cr : Nat}
    (h1 : (-9223372036854775808 ≤ kind ∧ kind < 9223372036854775808) ∧ (-9223372036854775808 ≤ n ∧ n < 9223372036854775808)) (h2 : ∀ w, sat w R → MagW w am mag) (h3 : ∀ x ∈ mag, 0 ≤ x ∧ x < 4294967296)
    (h4 : mag.length ≤ cm ∧ items.length ≤ ci ∧ rest.length ≤ cr) (h5 : DKs R items ai 0) (h6 : DKs R rest ar 0) :
    DK R (.mk kind n neg mag text items rest) [.int .i64 kind, .int .i64 n, .bool neg, .slice am mag.length cm, .string text, .slice ai items.length ci, .slice ar rest.length cr] := by
  unfold DK
  exact ⟨am, cm, ai, ci, ar, cr, rfl, ⟨h1.1, h1.2, h2, h3, h4⟩, h5, h6⟩
theorem Dm.size_le {l : List Dm} {i : Nat} {d : Dm} (h : l[i]? = some d) : d.size ≤ Dm.sizes l := by
  induction l generalizing i with
  | nil => simp at h
  | cons x l ih =>
    unfold Dm.sizes
    cases i with
    | zero => simp at h; subst h; omega
    | succ i => have := ih (i := i) (by simpa using h); omega
theorem Dm.size_pos (d : Dm) : 1 ≤ d.size := by cases d; unfold Dm.size; omega
theorem Dm.len_le (l : List Dm) : l.length ≤ Dm.sizes l := by
  induction l with
  | nil => simp
  | cons d l ih => unfold Dm.sizes; have := d.size_pos; simp only [List.length_cons]; omega
theorem Dm.sizes_app (l m : List Dm) : Dm.sizes (l ++ m) = Dm.sizes l + Dm.sizes m := by
  induction l with
  | nil => simp [Dm.sizes]
  | cons d l ih => simp only [List.cons_append, Dm.sizes, ih]; omega
theorem flat7 {css : List (List Value)} (h : ∀ cs ∈ css, cs.length = 7) : css.flatten.length = css.length * 7 := by
  induction css with
  | nil => rfl
  | cons c l ih => rw [List.flatten_cons, List.length_append, h c (by simp), ih fun x hx => h x (by simp [hx]), List.length_cons]; omega
theorem flat7_get {css : List (List Value)} (h : ∀ cs ∈ css, cs.length = 7) {i j : Nat} {cs : List Value} {v : Value} (hi : css[i]? = some cs) (hj : cs[j]? = some v) : css.flatten[i * 7 + j]? = some v := by
  induction css generalizing i with
  | nil => simp at hi
  | cons c l ih =>
    have hc := h c (by simp)
    cases i with
    | zero =>
      simp at hi
      subst hi
      rw [List.flatten_cons, Nat.zero_mul, Nat.zero_add, List.getElem?_append_left (List.getElem?_eq_some_iff.1 hj).1]
      exact hj
    | succ i =>
      rw [List.flatten_cons, List.getElem?_append_right (by omega), hc, show (i + 1) * 7 + j - 7 = i * 7 + j by omega]
      exact ih (fun x hx => h x (by simp [hx])) (by simpa using hi)
theorem DK.one {R : HP} {d : Dm} {cs : List Value} (h : DK R d cs) : ∀ u ∈ cs, u.oneCell' = true := by
  cases d
  obtain ⟨_, _, _, _, _, _, rfl, _⟩ := h.open
  intro u hu
  simp at hu
  rcases hu with rfl | rfl | rfl | rfl | rfl | rfl | rfl <;> rfl
end Go.Proofs.Ytanjiecefioffaa

/- tandemlaw00: Copy, CopyAll. -/
namespace Go.Proofs.Ytanjiecefioffaa
open Go.RowKit

abbrev zeroDm : Value := .agg #[.int .i64 0, .int .i64 0, .bool false, .slice none 0 0, .string ⟨#[]⟩, .slice none 0 0, .slice none 0 0]
abbrev dmO (cs : List Value) : Obj := .cells cs.toArray 54 (0, 0)
theorem info_dm : (Try.prog.info? 54).map (fun i => (i.zero, i.size, i.bytes)) = some (some zeroDm, 7, 112) := by kernel_rfl
theorem info_lim : (Try.prog.info? 70).map (fun i => (i.zero, i.size, i.bytes)) = some (some (.int .u32 0), 1, 4) := by kernel_rfl
theorem slice_val {w : World} {R : HP} {e sz n : Nat} {v : Value} {xs : List Value} (h : sat w (own e sz v n xs * R)) : ∃ ao cap, v = .slice ao n cap ∧ n ≤ cap := by
  rcases h.open_own.2 with ⟨a, b, _, _⟩ | ⟨b, cap, a, hc, _⟩
  · exact ⟨none, 0, by rw [a, b], by omega⟩
  · exact ⟨_, _, a, hc⟩
theorem mag_own {w : World} {R : HP} {ao : Option Addr} {n c : Nat} {l : List Int} (h : sat w (own 70 1 (.slice ao n c) n (l.map fun x => .int .u32 x) * R)) : MagW w ao l := by
  intro j x hx
  have hj := (List.getElem?_eq_some_iff.1 hx).1
  have hl : l.length = n := by have := h.open_own.1; simpa using this
  obtain ⟨b, c, hb, _, _, hr⟩ := h.own_some (by omega)
  simp only [Value.slice.injEq] at hb
  obtain ⟨rfl, _⟩ := hb
  refine ⟨_, rfl, ?_⟩
  have hadd : (⟨b, 0, none⟩ : Addr).add j = ⟨b, j, none⟩ := by unfold Addr.add; split <;> simp_all
  rw [hadd]
  exact hr.row_cell (by rw [List.getElem?_map, hx]; rfl)
set_option maxRecDepth 100000 in
theorem copy_mag {w : World} {R : HP} (hs : sat w R) (ao : Option Addr) (cap : Nat) (a : List Int) (ha : MagW w ao a) (hn : a.length ≤ 17592186044416) :
    Calls Try.prog 34 #[.slice ao a.length cap] w fun e w' => ∃ ro rc, e = .returned (.slice ro a.length rc) ∧ a.length ≤ rc ∧ sat w' (own 70 1 (.slice ro a.length rc) a.length (a.map fun x => .int .u32 x) * R) ∧ Below 0 w w' := by
  obtain ⟨i0, hi, hz0, hz1, hz2⟩ := info_parts info_lim
  have hc : CellsAt w ao (a.map fun x => .int .u32 x) := CellsAt.words .u32 ha
  have h0 := hs.nil_own (e := 70) (sz := 1)
  go_enter Try.func34, Try.ntmps34
  go_wp2_with (at_builtin; refine hold ?_)
  refine held ?_
  refine wpList_append_opt rfl (.const (.slice none 0 0)) (.tmp 3) 49 rfl 70 i0 (.int .u32 0) 1 4 Try.underlying49 hi hz0 hz1 hz2 rfl (by decide) (.slice none 0 0) 0 [] rfl R ao a.length cap (a.map fun x => .int .u32 x) rfl ?_ h0 (by simp) hc (fun u hu => by obtain ⟨x, _, rfl⟩ := List.mem_map.1 hu; rfl) (by omega) (by unfold maxLen; omega)
  intro v' w9 hs9 hb9
  rw [Nat.zero_add, List.nil_append] at hs9
  obtain ⟨ro, rc, rfl, hrc⟩ := slice_val hs9
  have HQ := Lib.hid (And.intro hs9 (And.intro hb9 hrc))
  clear hs9 hb9 hc h0 hi hz0 hz1 hz2 hrc
  go_wp2_with fail
  go_ret
  exact ⟨ro, rc, rfl, HQ.out.2.2, HQ.out.1, HQ.out.2.1⟩
theorem arr7 (z0 z1 z2 z3 z4 z5 z6 a0 a1 a2 a3 a4 a5 a6 : Value) : (((((((#[z0, z1, z2, z3, z4, z5, z6].setIfInBounds 0 a0).setIfInBounds 1 a1).setIfInBounds 2 a2).setIfInBounds 3 a3).setIfInBounds 4 a4).setIfInBounds 5 a5).setIfInBounds 6 a6) = #[a0, a1, a2, a3, a4, a5, a6] := by simp
theorem cells7 {w9 : World} {P : HP} {g : Nat} {a0 a1 a2 a3 a4 a5 a6 : Value} (h : sat w9 (blk g (.cells (((((((#[Value.int IntKind.i64 0, Value.int IntKind.i64 0, Value.bool false, Value.slice none 0 0, Value.string { data := #[] }, Value.slice none 0 0, Value.slice none 0 0].setIfInBounds 0 a0).setIfInBounds 1 a1).setIfInBounds 2 a2).setIfInBounds 3 a3).setIfInBounds 4 a4).setIfInBounds 5 a5).setIfInBounds 6 a6) 54 (0, 0)) * P)) :
      w9.cell? ⟨g, 0, none⟩ = some a0 ∧ w9.cell? ⟨g, 1, none⟩ = some a1 ∧ w9.cell? ⟨g, 2, none⟩ = some a2 ∧ w9.cell? ⟨g, 3, none⟩ = some a3 ∧ w9.cell? ⟨g, 4, none⟩ = some a4 ∧ w9.cell? ⟨g, 5, none⟩ = some a5 ∧ w9.cell? ⟨g, 6, none⟩ = some a6 := by
  rw [arr7] at h
  exact ⟨h.left.cell 0, h.left.cell 1, h.left.cell 2, h.left.cell 3, h.left.cell 4, h.left.cell 5, h.left.cell 6⟩
def CpPost (R : HP) (d : Dm) (w : World) (e : Ending) (w' : World) : Prop :=
  ∃ cs M, e = .returned (.agg cs.toArray) ∧ DK M d cs ∧ sat w' (M * R) ∧ Below 0 w w'
def CpsPost (R : HP) (l : List Dm) (w : World) (e : Ending) (w' : World) : Prop :=
  ∃ ro rc M, e = .returned (.slice ro l.length rc) ∧ l.length ≤ rc ∧ DKs M l ro 0 ∧ sat w' (M * R) ∧ Below 0 w w'
/-- A row of data, each of which lies in M. -/
theorem row_dks {M : HP} {l : List Dm} {css : List (List Value)} {ao : Option Addr} {n c : Nat} (hl : css.length = l.length) (hn : n = l.length) (h : ∀ (i : Nat) d cs, l[i]? = some d → css[i]? = some cs → DK M d cs) (w0 : World) {Q : HP} (h0 : sat w0 (own 54 7 (.slice ao n c) n css.flatten * Q)) :
    DKs (own 54 7 (.slice ao n c) n css.flatten * M) l ao 0 := by
  have h7 : ∀ cs ∈ css, cs.length = 7 := by
    intro cs hcs
    obtain ⟨i, hi⟩ := List.mem_iff_getElem?.1 hcs
    have hil := (List.getElem?_eq_some_iff.1 hi).1
    exact (h i l[i] cs (List.getElem?_eq_getElem (by omega)) hi).len
  cases l with
  | nil => exact DKs.nil
  | cons d l =>
    obtain ⟨b, cap, hb, _, _, _⟩ := h0.own_some (by simp at hn; omega)
    simp only [Value.slice.injEq] at hb
    obtain ⟨rfl, _, _⟩ := hb
    refine DKs.of_row (d :: l) css 0 hl (fun i d cs hd hc => (h i d cs hd hc).mono (fun w hw => hw.right)) ?_
    intro w hw i cs hc j v hv
    obtain ⟨b', cap', hb', _, _, hr⟩ := hw.own_some (by simp at hn; omega)
    simp only [Value.slice.injEq, Option.some.injEq, Addr.mk.injEq] at hb'
    obtain ⟨⟨rfl, _⟩, _⟩ := hb'
    rw [show 0 + (0 + i) * 7 + j = i * 7 + j by omega]
    exact hr.row_cell (flat7_get h7 hc hv)
def CpRel (W : World) (R : HP) (l : List Dm) (sv i : Value) (wr : World) : Prop :=
  ∃ (k : Nat) (css : List (List Value)) (M : HP), k ≤ l.length ∧ i = .int .i64 k ∧ css.length = k ∧ (∀ (i : Nat) d cs, (l.take k)[i]? = some d → css[i]? = some cs → DK M d cs) ∧ sat wr (own 54 7 sv k css.flatten * (M * R)) ∧ Below 0 W wr
set_option maxRecDepth 100000 in
set_option maxHeartbeats 2000000 in
theorem copies_step (l : List Dm) (hl : l.length ≤ 1048576) (hP : ∀ d ∈ l, ∀ (w : World) (R : HP) cs, sat w R → DK R d cs → Calls Try.prog 27 #[.agg cs.toArray] w (CpPost R d w))
    (w : World) (R : HP) (ao : Option Addr) (cap : Nat) (hs : sat w R) (hd : DKs R l ao 0) :
    Calls Try.prog 59 #[.slice ao l.length cap] w (CpsPost R l w) := by
  obtain ⟨i0, hi, hz0, hz1, hz2⟩ := info_parts info_dm
  have H1 := Lib.hid (And.intro hi (And.intro hz0 (And.intro hz1 hz2)))
  have HP0 := Lib.hid (And.intro hP hd)
  clear hi hz0 hz1 hz2 hP hd
  go_enter Try.func59, Try.ntmps59
  go_wp2_with fail
  go_loopw [3, 4] (CpRel w R l) (fun _ i _ => l.length - (intOf i).toNat)
  case atStart => exact ⟨0, [], emp, Nat.zero_le _, rfl, rfl, fun i d cs h _ => by simp at h, by rw [HP.emp_mul]; exact hs.nil_own, Below.refl _ _⟩
  case round =>
    obtain ⟨k, css, M, hk, rfl, hcl, hdk, h1, hb1⟩ := hrel
    by_cases hlt : k < l.length
    · obtain ⟨d, ex⟩ : ∃ d, l[k]? = some d := ⟨_, List.getElem?_eq_getElem hlt⟩
      obtain ⟨b, off, cs, rfl, hcell, hdd⟩ := HP0.out.2.get k d ex
      have hC := HP0.out.1 d (List.mem_of_getElem? ex) wr _ cs h1 (hdd.mono fun w h => h.right.right)
      have hcw := hcell wr h1.right.right
      rw [Nat.zero_add] at hcw
      have HK := Lib.hid (And.intro hcl (And.intro hdk (And.intro hb1 ex)))
      clear hcl hdk h1 hb1 ex hs hcell
      cases d with
      | mk kind n neg mag text items rest =>
      obtain ⟨am, cm, ai, ci, ar, cr, rfl, _⟩ := hdd.open
      have c0 := hcw 0 _ rfl
      have c1 := hcw 1 _ rfl
      have c2 := hcw 2 _ rfl
      have c3 := hcw 3 _ rfl
      have c4 := hcw 4 _ rfl
      have c5 := hcw 5 _ rfl
      have c6 := hcw 6 _ rfl
      rw [Nat.add_zero] at c0
      clear hcw hdd
      go_wp2_with fail
      refine hC.mono ?_
      clear hC c0 c1 c2 c3 c4 c5 c6
      rintro e w2 ⟨cs2, M2, rfl, hdk2, h2, hb2⟩
      have hon := hdk2.one
      obtain ⟨am2, cm2, ai2, ci2, ar2, cr2, rfl, hx2⟩ := hdk2.open
      clear hx2
      have hs7 := (h2.alloc (dmO [.int .i64 kind, .int .i64 n, .bool neg, .slice am2 mag.length cm2, .string text, .slice ai2 items.length ci2, .slice ar2 rest.length cr2])).perm (show _ = own 54 7 u3 k css.flatten * (Go.Proofs.Ytanjiecefioffaa.blk w2.heap.size (dmO [.int .i64 kind, .int .i64 n, .bool neg, .slice am2 mag.length cm2, .string text, .slice ai2 items.length ci2, .slice ar2 rest.length cr2]) * (M2 * (M * R))) by ac_rfl)
      have hcl : CellsAt (w2.alloc (dmO [.int .i64 kind, .int .i64 n, .bool neg, .slice am2 mag.length cm2, .string text, .slice ai2 items.length ci2, .slice ar2 rest.length cr2])) (some ⟨w2.heap.size, 0, none⟩) [.int .i64 kind, .int .i64 n, .bool neg, .slice am2 mag.length cm2, .string text, .slice ai2 items.length ci2, .slice ar2 rest.length cr2] := by
        intro j u hj
        have ha : ((⟨w2.heap.size, 0, none⟩ : Addr).add j) = ⟨w2.heap.size, j, none⟩ := by unfold Addr.add; split <;> simp_all
        refine ⟨_, rfl, ?_⟩
        rw [ha, hs7.right.left.cell j, ← hj]
        simp
      have HS := Lib.hid (And.intro hs7 (And.intro ((HK.out.2.2.1.trans hb2).trans (Below.zero_alloc w2 (dmO [.int .i64 kind, .int .i64 n, .bool neg, .slice am2 mag.length cm2, .string text, .slice ai2 items.length ci2, .slice ar2 rest.length cr2]))) (And.intro hdk2 (And.intro hcl hon))))
      clear h2 hb2 hs7 hcl hon hdk2
      go_wp2_with (at_builtin; refine hold ?_)
      refine held ?_
      obtain ⟨hi, hz0, hz1, hz2⟩ := H1.out
      refine wpList_append_opt rfl (.tmp 11) (.tmp 17) 52 rfl 54 i0 zeroDm 7 112 Try.underlying52 hi hz0 hz1 hz2 rfl (by decide) u3 k css.flatten rfl _ (some ⟨w2.heap.size, 0, none⟩) 1 1 [.int .i64 kind, .int .i64 n, .bool neg, .slice am2 mag.length cm2, .string text, .slice ai2 items.length ci2, .slice ar2 rest.length cr2] rfl ?_ HS.out.1 rfl HS.out.2.2.2.1 HS.out.2.2.2.2 (by omega) (by unfold maxLen; omega)
      clear hi hz0 hz1 hz2
      intro v9 w9 hs9 hb9
      have HQ := Lib.hid (And.intro hs9 (HS.out.2.1.trans hb9))
      clear hs9 hb9
      go_wp2_with fail
      go_roundw
      case rel =>
        refine ⟨k + 1, css ++ [[.int .i64 kind, .int .i64 n, .bool neg, .slice am2 mag.length cm2, .string text, .slice ai2 items.length ci2, .slice ar2 rest.length cr2]], M2 * M, by omega, by go_num, by simp [HK.out.1], ?_, ?_, HQ.out.2⟩
        · intro i d cs hd hc
          rw [List.getElem?_take] at hd
          split at hd
          · by_cases hik : i = k
            · subst hik
              rw [HK.out.2.2.2] at hd
              cases hd
              rw [List.getElem?_append_right (by rw [HK.out.1]; exact Nat.le_refl _), HK.out.1, Nat.sub_self] at hc
              simp at hc
              subst hc
              exact HS.out.2.2.1.mono fun w h => h.left
            · rw [List.getElem?_append_left (by rw [HK.out.1]; omega)] at hc
              exact (HK.out.2.1 i d cs (by rw [List.getElem?_take, if_pos (by omega)]; exact hd) hc).mono fun w h => h.right
          · cases hd
        · rw [List.flatten_append, List.flatten_cons, List.flatten_nil, List.append_nil]
          exact HQ.out.1.perm (show _ = Go.Proofs.Ytanjiecefioffaa.blk w2.heap.size _ * (own 54 7 v9 (k + 1) _ * (M2 * M * R)) by ac_rfl) |>.right
      case measure => simp [intOf]; omega
    · obtain rfl : k = l.length := by omega
      have hge : decide ((l.length : Int) < (l.length : Int)) = false := by simp
      rw [List.take_of_length_le (Nat.le_refl _)] at hdk
      obtain ⟨ro, rc, rfl, hrc⟩ := slice_val h1
      have hdks := row_dks hcl rfl hdk wr h1
      have HF := Lib.hid (And.intro hdks (And.intro (h1.perm (HP.assoc _ _ _).symm) (And.intro hb1 hrc)))
      clear hdks h1 hb1 hdk hcl hs
      go_wp2_with fail
      go_ret
      exact ⟨ro, rc, _, rfl, HF.out.2.2.2, HF.out.1, HF.out.2.1, HF.out.2.2.1⟩
set_option maxRecDepth 100000 in
set_option maxHeartbeats 2000000 in
theorem copy_step (kind n : Int) (neg : Bool) (mag : List Int) (text : ByteArray) (items rest : List Dm) (hsz : (Dm.mk kind n neg mag text items rest).size ≤ 1048576)
    (hQ1 : ∀ (w : World) (R : HP) (ao : Option Addr) (cap : Nat), sat w R → DKs R items ao 0 → Calls Try.prog 59 #[.slice ao items.length cap] w (CpsPost R items w))
    (hQ2 : ∀ (w : World) (R : HP) (ao : Option Addr) (cap : Nat), sat w R → DKs R rest ao 0 → Calls Try.prog 59 #[.slice ao rest.length cap] w (CpsPost R rest w))
    (w : World) (R : HP) (cs : List Value) (hs : sat w R) (hd : DK R (.mk kind n neg mag text items rest) cs) :
    Calls Try.prog 27 #[.agg cs.toArray] w (CpPost R (.mk kind n neg mag text items rest) w) := by
  unfold Dm.size at hsz
  obtain ⟨am, cm, ai, ci, ar, cr, rfl, ⟨hk, hn, hmag, hml, hcm, hci, hcr⟩, hit, hre⟩ := hd.open
  have h1 := (hs.alloc (dmO [.int .i64 kind, .int .i64 n, .bool neg, .slice am mag.length cm, .string text, .slice ai items.length ci, .slice ar rest.length cr])).alloc (dmO [.int .i64 0, .int .i64 0, .bool false, .slice none 0 0, .string ⟨#[]⟩, .slice none 0 0, .slice none 0 0])
  rw [World.size_alloc] at h1
  obtain ⟨g, hg⟩ : ∃ g, w.heap.size = g := ⟨_, rfl⟩
  rw [hg] at h1
  have hb1 : Below 0 w ((w.alloc (dmO [.int .i64 kind, .int .i64 n, .bool neg, .slice am mag.length cm, .string text, .slice ai items.length ci, .slice ar rest.length cr])).alloc (dmO [.int .i64 0, .int .i64 0, .bool false, .slice none 0 0, .string ⟨#[]⟩, .slice none 0 0, .slice none 0 0])) := (Below.zero_alloc _ _).trans (Below.zero_alloc _ _)
  have hM := copy_mag h1 am cm mag (hmag _ h1.right.right) (by omega)
  have HX := Lib.hid (And.intro hit (And.intro hre (And.intro hk (And.intro hn hml))))
  have HQ := Lib.hid (And.intro hQ1 hQ2)
  have HB := Lib.hid hb1
  clear hit hre hk hn hml hQ1 hQ2 hd hs hmag hb1 h1
  go_enter Try.func27, Try.ntmps27
  go_wp2_with fail
  generalize (w.alloc (dmO [.int .i64 kind, .int .i64 n, .bool neg, .slice am mag.length cm, .string text, .slice ai items.length ci, .slice ar rest.length cr])).alloc (dmO [.int .i64 0, .int .i64 0, .bool false, .slice none 0 0, .string ⟨#[]⟩, .slice none 0 0, .slice none 0 0]) = w1 at *
  refine hM.mono ?_
  clear hM
  rintro e w2 ⟨am2, cm2, rfl, hcm2, h2, hb2⟩
  have h2a : sat w2 (Go.Proofs.Ytanjiecefioffaa.blk g (dmO [.int .i64 kind, .int .i64 n, .bool neg, .slice am mag.length cm, .string text, .slice ai items.length ci, .slice ar rest.length cr]) * (Go.Proofs.Ytanjiecefioffaa.blk (g + 1) (dmO [.int .i64 0, .int .i64 0, .bool false, .slice none 0 0, .string ⟨#[]⟩, .slice none 0 0, .slice none 0 0]) * (own 70 1 (.slice am2 mag.length cm2) mag.length (mag.map fun x => .int .u32 x) * R))) := h2.perm (by ac_rfl)
  have c3 := (h2a.left.cell 3).trans (show _ = some (Value.slice am mag.length cm) from rfl)
  have c5 := (h2a.left.cell 5).trans (show _ = some (Value.slice ai items.length ci) from rfl)
  have f3 := h2a.left.frozen 3
  have h3 : sat (w2.setCell ⟨g, 3, none⟩ (.slice am2 mag.length cm2)) (Go.Proofs.Ytanjiecefioffaa.blk g (dmO [.int .i64 kind, .int .i64 n, .bool neg, .slice am2 mag.length cm2, .string text, .slice ai items.length ci, .slice ar rest.length cr]) * (Go.Proofs.Ytanjiecefioffaa.blk (g + 1) (dmO [.int .i64 0, .int .i64 0, .bool false, .slice none 0 0, .string ⟨#[]⟩, .slice none 0 0, .slice none 0 0]) * (own 70 1 (.slice am2 mag.length cm2) mag.length (mag.map fun x => .int .u32 x) * R))) := h2a.setCell (off := 3) (.slice am2 mag.length cm2)
  have hb3 : Below 0 w (w2.setCell ⟨g, 3, none⟩ (.slice am2 mag.length cm2)) := (HB.out.trans hb2).setCell (p := ⟨g, 3, none⟩) (Nat.zero_le _) _
  have hI := HQ.out.1 _ _ ai ci h3 (HX.out.1.mono fun w h => h.right.right.right)
  have H3 := Lib.hid (And.intro hb3 hcm2)
  clear h2 hb2 h2a h3 hb3 hcm2
  go_wp2_with fail
  refine hI.mono ?_
  clear hI c3 c5 f3
  rintro e w4 ⟨ai2, ci2, M1, rfl, hci2, hd1, h4, hb4⟩
  have h4a : sat w4 (Go.Proofs.Ytanjiecefioffaa.blk g (dmO [.int .i64 kind, .int .i64 n, .bool neg, .slice am2 mag.length cm2, .string text, .slice ai items.length ci, .slice ar rest.length cr]) * (Go.Proofs.Ytanjiecefioffaa.blk (g + 1) (dmO [.int .i64 0, .int .i64 0, .bool false, .slice none 0 0, .string ⟨#[]⟩, .slice none 0 0, .slice none 0 0]) * (own 70 1 (.slice am2 mag.length cm2) mag.length (mag.map fun x => .int .u32 x) * (M1 * R)))) := h4.perm (by ac_rfl)
  have c5 := (h4a.left.cell 5).trans (show _ = some (Value.slice ai items.length ci) from rfl)
  have c6 := (h4a.left.cell 6).trans (show _ = some (Value.slice ar rest.length cr) from rfl)
  have f5 := h4a.left.frozen 5
  have h5 : sat (w4.setCell ⟨g, 5, none⟩ (.slice ai2 items.length ci2)) (Go.Proofs.Ytanjiecefioffaa.blk g (dmO [.int .i64 kind, .int .i64 n, .bool neg, .slice am2 mag.length cm2, .string text, .slice ai2 items.length ci2, .slice ar rest.length cr]) * (Go.Proofs.Ytanjiecefioffaa.blk (g + 1) (dmO [.int .i64 0, .int .i64 0, .bool false, .slice none 0 0, .string ⟨#[]⟩, .slice none 0 0, .slice none 0 0]) * (own 70 1 (.slice am2 mag.length cm2) mag.length (mag.map fun x => .int .u32 x) * (M1 * R)))) := h4a.setCell (off := 5) (.slice ai2 items.length ci2)
  have hb5 : Below 0 w (w4.setCell ⟨g, 5, none⟩ (.slice ai2 items.length ci2)) := (H3.out.1.trans hb4).setCell (p := ⟨g, 5, none⟩) (Nat.zero_le _) _
  have hI := HQ.out.2 _ _ ar cr h5 (HX.out.2.1.mono fun w h => h.right.right.right.right)
  have H5 := Lib.hid (And.intro hb5 (And.intro hci2 hd1))
  clear h4 hb4 h4a h5 hb5 hci2 hd1
  go_wp2_with fail
  refine hI.mono ?_
  clear hI c5 c6 f5
  rintro e w6 ⟨ar2, cr2, M2, rfl, hcr2, hd2, h6, hb6⟩
  have h6a : sat w6 (Go.Proofs.Ytanjiecefioffaa.blk g (dmO [.int .i64 kind, .int .i64 n, .bool neg, .slice am2 mag.length cm2, .string text, .slice ai2 items.length ci2, .slice ar rest.length cr]) * (Go.Proofs.Ytanjiecefioffaa.blk (g + 1) (dmO [.int .i64 0, .int .i64 0, .bool false, .slice none 0 0, .string ⟨#[]⟩, .slice none 0 0, .slice none 0 0]) * ((own 70 1 (.slice am2 mag.length cm2) mag.length (mag.map fun x => .int .u32 x) * (M1 * M2)) * R))) := h6.perm (by ac_rfl)
  have c6 := (h6a.left.cell 6).trans (show _ = some (Value.slice ar rest.length cr) from rfl)
  have f6 := h6a.left.frozen 6
  have h7 : sat (w6.setCell ⟨g, 6, none⟩ (.slice ar2 rest.length cr2)) (Go.Proofs.Ytanjiecefioffaa.blk g (dmO [.int .i64 kind, .int .i64 n, .bool neg, .slice am2 mag.length cm2, .string text, .slice ai2 items.length ci2, .slice ar2 rest.length cr2]) * (Go.Proofs.Ytanjiecefioffaa.blk (g + 1) (dmO [.int .i64 0, .int .i64 0, .bool false, .slice none 0 0, .string ⟨#[]⟩, .slice none 0 0, .slice none 0 0]) * ((own 70 1 (.slice am2 mag.length cm2) mag.length (mag.map fun x => .int .u32 x) * (M1 * M2)) * R))) := h6a.setCell (off := 6) (.slice ar2 rest.length cr2)
  have hb7 : Below 0 w (w6.setCell ⟨g, 6, none⟩ (.slice ar2 rest.length cr2)) := (H5.out.1.trans hb6).setCell (p := ⟨g, 6, none⟩) (Nat.zero_le _) _
  have H7 := Lib.hid (And.intro h7 (And.intro hb7 (And.intro hcr2 hd2)))
  clear h6 hb6 h6a h7 hb7 hcr2 hd2
  have h8 : sat (w6.setCell ⟨g, 6, none⟩ (.slice ar2 rest.length cr2)) (Go.Proofs.Ytanjiecefioffaa.blk (g + 1) (dmO [.int .i64 0, .int .i64 0, .bool false, .slice none 0 0, .string ⟨#[]⟩, .slice none 0 0, .slice none 0 0]) * (Go.Proofs.Ytanjiecefioffaa.blk g (dmO [.int .i64 kind, .int .i64 n, .bool neg, .slice am2 mag.length cm2, .string text, .slice ai2 items.length ci2, .slice ar2 rest.length cr2]) * ((own 70 1 (.slice am2 mag.length cm2) mag.length (mag.map fun x => .int .u32 x) * (M1 * M2)) * R))) := H7.out.1.perm (by ac_rfl)
  obtain ⟨w7, hw7⟩ : ∃ w7, w6.setCell ⟨g, 6, none⟩ (.slice ar2 rest.length cr2) = w7 := ⟨_, rfl⟩
  rw [hw7] at h8 H7
  have d0 := (H7.out.1.left.cell 0).trans (show _ = some (Value.int .i64 kind) from rfl)
  have d1 := (H7.out.1.left.cell 1).trans (show _ = some (Value.int .i64 n) from rfl)
  have d2 := (H7.out.1.left.cell 2).trans (show _ = some (Value.bool neg) from rfl)
  have d3 := (H7.out.1.left.cell 3).trans (show _ = some (Value.slice am2 mag.length cm2) from rfl)
  have d4 := (H7.out.1.left.cell 4).trans (show _ = some (Value.string text) from rfl)
  have d5 := (H7.out.1.left.cell 5).trans (show _ = some (Value.slice ai2 items.length ci2) from rfl)
  have d6 := (H7.out.1.left.cell 6).trans (show _ = some (Value.slice ar2 rest.length cr2) from rfl)
  have z0 := (h8.left.cell 0).trans rfl
  have z1 := (h8.left.cell 1).trans rfl
  have z2 := (h8.left.cell 2).trans rfl
  have z3 := (h8.left.cell 3).trans rfl
  have z4 := (h8.left.cell 4).trans rfl
  have z5 := (h8.left.cell 5).trans rfl
  have z6 := (h8.left.cell 6).trans rfl
  have y0 := h8.left.frozen 0
  have y1 := h8.left.frozen 1
  have y2 := h8.left.frozen 2
  have y3 := h8.left.frozen 3
  have y4 := h8.left.frozen 4
  have y5 := h8.left.frozen 5
  have y6 := h8.left.frozen 6
  have hs9 := (((((((h8.setCell (off := 0) (.int .i64 kind)).setCell (off := 1) (.int .i64 n)).setCell (off := 2) (.bool neg)).setCell (off := 3) (.slice am2 mag.length cm2)).setCell (off := 4) (.string text)).setCell (off := 5) (.slice ai2 items.length ci2)).setCell (off := 6) (.slice ar2 rest.length cr2))
  have hb9 := (((((((H7.out.2.1.setCell (p := ⟨g + 1, 0, none⟩) (Nat.zero_le _) (.int .i64 kind)).setCell (p := ⟨g + 1, 1, none⟩) (Nat.zero_le _) (.int .i64 n)).setCell (p := ⟨g + 1, 2, none⟩) (Nat.zero_le _) (.bool neg)).setCell (p := ⟨g + 1, 3, none⟩) (Nat.zero_le _) (.slice am2 mag.length cm2)).setCell (p := ⟨g + 1, 4, none⟩) (Nat.zero_le _) (.string text)).setCell (p := ⟨g + 1, 5, none⟩) (Nat.zero_le _) (.slice ai2 items.length ci2)).setCell (p := ⟨g + 1, 6, none⟩) (Nat.zero_le _) (.slice ar2 rest.length cr2))
  have HY := Lib.hid (And.intro hs9 hb9)
  clear h8 hs9 hb9
  go_wp2_with fail
  generalize (((((((w7.setCell ⟨g + 1, 0, none⟩ (.int .i64 kind)).setCell ⟨g + 1, 1, none⟩ (.int .i64 n)).setCell ⟨g + 1, 2, none⟩ (.bool neg)).setCell ⟨g + 1, 3, none⟩ (.slice am2 mag.length cm2)).setCell ⟨g + 1, 4, none⟩ (.string text)).setCell ⟨g + 1, 5, none⟩ (.slice ai2 items.length ci2)).setCell ⟨g + 1, 6, none⟩ (.slice ar2 rest.length cr2)) = w9 at *
  obtain ⟨r0, r1, r2, r3, r4, r5, r6⟩ := cells7 HY.out.1
  have hdk : DK (own 70 1 (.slice am2 mag.length cm2) mag.length (mag.map fun x => .int .u32 x) * (M1 * M2)) (.mk kind n neg mag text items rest) [.int .i64 kind, .int .i64 n, .bool neg, .slice am2 mag.length cm2, .string text, .slice ai2 items.length ci2, .slice ar2 rest.length cr2] := by
    have t1 : DKs (own 70 1 (.slice am2 mag.length cm2) mag.length (mag.map fun x => .int .u32 x) * (M1 * M2)) items ai2 0 := H5.out.2.2.mono (fun w h => h.right.left) _
    have t2 : DKs (own 70 1 (.slice am2 mag.length cm2) mag.length (mag.map fun x => .int .u32 x) * (M1 * M2)) rest ar2 0 := H7.out.2.2.2.mono (fun w h => h.right.right) _
    have t3 : ∀ w, sat w (own 70 1 (.slice am2 mag.length cm2) mag.length (mag.map fun x => .int .u32 x) * (M1 * M2)) → MagW w am2 mag := fun w h => mag_own h
    exact DK.mk ⟨HX.out.2.2.1, HX.out.2.2.2.1⟩ t3 HX.out.2.2.2.2 ⟨H3.out.2, H5.out.2.1, H7.out.2.2.1⟩ t1 t2
  have hpost : CpPost R (.mk kind n neg mag text items rest) w (.returned (.agg #[.int .i64 kind, .int .i64 n, .bool neg, .slice am2 mag.length cm2, .string text, .slice ai2 items.length ci2, .slice ar2 rest.length cr2])) w9 :=
    ⟨[.int .i64 kind, .int .i64 n, .bool neg, .slice am2 mag.length cm2, .string text, .slice ai2 items.length ci2, .slice ar2 rest.length cr2], own 70 1 (.slice am2 mag.length cm2) mag.length (mag.map fun x => .int .u32 x) * (M1 * M2), rfl, hdk, HY.out.1.right.right, HY.out.2⟩
  exact bodyPost_ret (v := .agg #[.int .i64 kind, .int .i64 n, .bool neg, .slice am2 mag.length cm2, .string text, .slice ai2 items.length ci2, .slice ar2 rest.length cr2]) (by simp [results, Try.results27, go_sem, r0, r1, r2, r3, r4, r5, r6]) rfl hpost
/-- Copy and CopyAll of whatever data of a bounded size. -/
theorem copies_all : ∀ s : Nat, s ≤ 1048576 →
    (∀ d : Dm, d.size ≤ s → ∀ (w : World) (R : HP) cs, sat w R → DK R d cs → Calls Try.prog 27 #[.agg cs.toArray] w (CpPost R d w)) ∧
    (∀ l : List Dm, Dm.sizes l ≤ s → ∀ (w : World) (R : HP) (ao : Option Addr) (cap : Nat), sat w R → DKs R l ao 0 → Calls Try.prog 59 #[.slice ao l.length cap] w (CpsPost R l w)) := by
  intro s
  induction s with
  | zero =>
    intro _
    refine ⟨fun d hd => absurd d.size_pos (by omega), fun l hl => ?_⟩
    have hl0 := Dm.len_le l
    refine copies_step l (by omega) ?_
    intro d hd
    obtain ⟨i, hi⟩ := List.mem_iff_getElem?.1 hd
    have h1 := Dm.size_le hi
    have h2 := d.size_pos
    omega
  | succ s ih =>
    intro hs
    obtain ⟨_, ihQ⟩ := ih (by omega)
    have hP : ∀ d : Dm, d.size ≤ s + 1 → ∀ (w : World) (R : HP) cs, sat w R → DK R d cs → Calls Try.prog 27 #[.agg cs.toArray] w (CpPost R d w) := by
      intro d hd w R cs hw hdk
      cases d with
      | mk kind n neg mag text items rest =>
        have hsz := hd
        unfold Dm.size at hd
        exact copy_step kind n neg mag text items rest (by omega) (ihQ items (by omega)) (ihQ rest (by omega)) w R cs hw hdk
    refine ⟨hP, fun l hl => ?_⟩
    have hl0 := Dm.len_le l
    refine copies_step l (by omega) ?_
    intro d hd
    obtain ⟨i, hi⟩ := List.mem_iff_getElem?.1 hd
    have h1 := Dm.size_le hi
    exact hP d (by omega)
theorem copy_dm {w : World} {R : HP} {d : Dm} {cs : List Value} (hs : sat w R) (hd : DK R d cs) (hz : d.size ≤ 1048576) :
    Calls Try.prog 27 #[.agg cs.toArray] w (CpPost R d w) := (copies_all 1048576 (Nat.le_refl _)).1 d hz w R cs hs hd
theorem copy_dms {w : World} {R : HP} {l : List Dm} {ao : Option Addr} {cap : Nat} (hs : sat w R) (hd : DKs R l ao 0) (hz : Dm.sizes l ≤ 1048576) :
    Calls Try.prog 59 #[.slice ao l.length cap] w (CpsPost R l w) := (copies_all 1048576 (Nat.le_refl _)).2 l hz w R ao cap hs hd
end Go.Proofs.Ytanjiecefioffaa

/- A datum that came in. -/
namespace Go.Proofs.Ytanjiecefioffaa
open Go.RowKit Go.ChangeShapes Go.WideShapes

section
variable {H : Type} {enc : TypeId × Value → H} {W : World} {base : Nat} {spare : Nat → Bool} {held : Bool}
theorem dm_bulk_one (d : DataW H) : 1 ≤ Rows.uptoBulk d := by
  cases d with
  | lit l => cases l <;> simp [Rows.uptoBulk]
  | _ => simp [Rows.uptoBulk]
theorem dm_bulk_all (l : List (DataW H)) : l.length ≤ Rows.uptoBulkAll l := by
  induction l with
  | nil => exact Nat.zero_le _
  | cons d l ih => simp only [Rows.uptoBulkAll, List.length_cons]; have := dm_bulk_one d; omega
theorem dm_limbs {fuel : Nat} {v : Value} {y : DataW H × List MemPlace} (h : DataW.trod enc Try.prog W base spare held fuel 49 [v] = some y) :
    ∃ ao ca a, v = .slice ao a.length ca ∧ (∀ w, sat w (whole W) → MagW w ao a) ∧ (∀ x ∈ a, 0 ≤ x ∧ x < 4294967296) ∧ a.length ≤ ca ∧ a.length + 1 ≤ Rows.uptoBulk y.1 := by
  rcases open_ints Try.underlying49 Try.underlying70 (by kernel_rfl) h with ⟨e0, e1⟩ | ⟨a, len, cap, zs, e0, _, hlc, _, hzl, hy, hcell, hwf⟩
  · simp at e0
    exact ⟨none, 0, [], e0, fun w _ j x hx => by simp at hx, fun x hx => by simp at hx, Nat.le_refl _, dm_bulk_one _⟩
  · simp at e0
    subst e0
    have hlz : len ≤ zs.length := by rw [hzl]; split <;> omega
    refine ⟨some a, cap, zs.take len, by simp; omega, ?_, ?_, ?_, ?_⟩
    · intro w hw j x hx
      rw [List.getElem?_take] at hx
      split at hx
      · refine ⟨a, rfl, ?_⟩
        have h1 : W.cell? (a.add j) = some (.int .u32 x) := by
          rw [hcell j (by omega), List.getD_eq_getElem?_getD, hx]; rfl
        exact (World.cell?_of_block (hw.whole_get _ (World.block_lt_of_cell? W _ h1))).trans h1
      · cases hx
    · intro x hx
      have := hwf x (List.mem_of_mem_take hx)
      simp [Lit.wf] at this
      have h0 : IntKind.u32.min = 0 := rfl
      have h1 : IntKind.u32.max = 4294967295 := rfl
      omega
    · simp; omega
    · rcases DataW.trod_slice Try.underlying49 h with ⟨e0, _⟩ | ⟨a', len', cap', elems, rest, n, _, e0, hx, _, _, _, hlen, _⟩
      · simp at e0
      · simp at e0
        obtain ⟨rfl, rfl, rfl⟩ := e0
        rw [hx]
        simp only [Rows.uptoBulk]
        have := dm_bulk_all (elems.map (·.1))
        rw [List.length_map] at this
        simp
        omega
/-- A cell that is read lies at no spot. -/
theorem dm_addr {w : World} {a : Addr} {v : Value} (h : w.cell? a = some v) : a = ⟨a.block, a.off, none⟩ := by
  unfold World.cell? at h
  split at h
  · split at h
    · cases h
    · rename_i hs
      cases a with
      | mk b o s => cases s <;> simp_all
  · cases h
theorem dm_add {b o n : Nat} : (⟨b, o, none⟩ : Addr).add n = ⟨b, o + n, none⟩ := by unfold Addr.add; split <;> simp_all
theorem dm_sum {α : Type} (f g : α → Nat) : ∀ l : List α, (∀ x ∈ l, f x ≤ g x) → (l.map f).sum ≤ (l.map g).sum
  | [], _ => Nat.le_refl _
  | x :: l, h => by
    have := dm_sum f g l fun y hy => h y (by simp [hy])
    have := h x (by simp)
    simp only [List.map_cons, List.sum_cons]
    omega
theorem dm_sizes (l : List Dm) : Dm.sizes l = (l.map Dm.size).sum := by
  induction l with
  | nil => rfl
  | cons d l ih => simp only [Dm.sizes, List.map_cons, List.sum_cons, ih]
theorem dm_bulks (l : List (DataW H)) : Rows.uptoBulkAll l = (l.map Rows.uptoBulk).sum := by
  induction l with
  | nil => rfl
  | cons d l ih => simp only [Rows.uptoBulkAll, List.map_cons, List.sum_cons, ih]
theorem dm_row {n : Nat} (ih : ∀ cs y, DataW.trod enc Try.prog W base spare held n 54 cs = some y → ∃ d, DK (whole W) d cs ∧ d.size ≤ Rows.uptoBulk y.1) :
    ∀ (elems : List (DataW H × List MemPlace)) (a : Addr) (k : Nat), (∀ i, i < elems.length → (W.cells? base (a.add ((k + i) * 7)) 7).bind (DataW.trod enc Try.prog W base spare held n 54) = elems[i]?) → (a.spot = none ∨ k = 0) →
    ∃ l : List Dm, l.length = elems.length ∧ DKs (whole W) l (some a) k ∧ Dm.sizes l ≤ Rows.uptoBulkAll (elems.map (·.1))
  | [], a, k, _, _ => ⟨[], rfl, DKs.nil, by simp [Dm.sizes]⟩
  | y :: elems, a, k, h, hk => by
    have h0 := h 0 (by simp)
    rw [Nat.add_zero] at h0
    cases hc : W.cells? base (a.add (k * 7)) 7 with
    | none => rw [hc] at h0; simp at h0
    | some cs =>
      rw [hc] at h0
      simp only [Option.bind_some, List.getElem?_cons_zero] at h0
      obtain ⟨d, hd, hz⟩ := ih cs y h0
      obtain ⟨_, hl7, hcell⟩ := World.cells?_some hc
      have hsp : a.spot = none := by
        rcases hk with h | rfl
        · exact h
        · have h1 := hcell 0 (by omega)
          rw [List.getElem?_eq_getElem (by omega)] at h1
          have h2 := dm_addr h1
          have h3 : ((a.add (0 * 7)).add 0) = a := by simp [Addr.add]
          rw [h3] at h2
          rw [h2]
      have ha : a = ⟨a.block, a.off, none⟩ := by cases a; simp_all
      obtain ⟨l, hll, hdl, hzl⟩ := dm_row ih elems a (k + 1) (fun i hi => by
        have := h (i + 1) (by simp; omega)
        rw [show k + (i + 1) = k + 1 + i by omega] at this
        simpa using this) (.inl hsp)
      refine ⟨d :: l, by simp [hll], ?_, by simp only [Dm.sizes, List.map_cons, Rows.uptoBulkAll]; omega⟩
      unfold DKs
      refine ⟨⟨a.block, a.off, cs, by rw [← ha], ?_, hd⟩, hdl⟩
      intro w hw j v hv
      have hj : j < 7 := by have := (List.getElem?_eq_some_iff.1 hv).1; omega
      have h1 := hcell j hj
      rw [hv, ha, dm_add, dm_add] at h1
      exact (World.cell?_of_block (hw.whole_get _ (World.block_lt_of_cell? W _ h1))).trans h1
theorem dm_slice {fuel : Nat} (ih : ∀ n, n < fuel → ∀ cs y, DataW.trod enc Try.prog W base spare held n 54 cs = some y → ∃ d, DK (whole W) d cs ∧ d.size ≤ Rows.uptoBulk y.1) {v : Value} {y : DataW H × List MemPlace}
    (h : DataW.trod enc Try.prog W base spare held fuel 52 [v] = some y) :
    ∃ ao c l, v = .slice ao l.length c ∧ l.length ≤ c ∧ DKs (whole W) l ao 0 ∧ Dm.sizes l + 1 ≤ Rows.uptoBulk y.1 := by
  have h7 : Try.prog.cellsOf 54 = 7 := by kernel_rfl
  rcases DataW.trod_slice Try.underlying52 h with ⟨e0, e1⟩ | ⟨a, len, cap, elems, rest, n, rfl, e0, hx, _, hlc, _, hlen, hel, _⟩
  · simp at e0
    exact ⟨none, 0, [], e0, Nat.le_refl _, DKs.nil, by have := dm_bulk_one y.1; simpa [Dm.sizes] using this⟩
  · simp at e0
    subst e0
    obtain ⟨l, hll, hdl, hzl⟩ := dm_row (ih n (by omega)) elems a 0 (fun i hi => by
      have := hel i (by omega)
      rw [h7] at this
      rw [Nat.zero_add]
      exact this) (.inr rfl)
    refine ⟨some a, cap, l, by rw [hll, hlen], by omega, hdl, ?_⟩
    rw [hx]
    simp only [Rows.uptoBulk]
    omega
set_option maxRecDepth 100000 in
theorem dm_trod : ∀ (fuel : Nat) (cs : List Value) (y : DataW H × List MemPlace), DataW.trod enc Try.prog W base spare held fuel 54 cs = some y → ∃ d, DK (whole W) d cs ∧ d.size ≤ Rows.uptoBulk y.1 := by
  intro fuel
  induction fuel using Nat.strongRecOn with
  | ind fuel ih =>
    intro cs y h
    obtain ⟨xs, n, rfl, rfl, hl, hxl, hf⟩ := DataW.trod_struct Try.underlying54 h
    have h7 : Try.prog.cellsOf 54 = 7 := by kernel_rfl
    rw [h7] at hl
    match cs, hl with
    | [v0, v1, v2, v3, v4, v5, v6], _ =>
    have k3 : Try.prog.cellsOf 3 = 1 := by kernel_rfl
    have k51 : Try.prog.cellsOf 51 = 2 := by kernel_rfl
    have k9 : Try.prog.cellsOf 9 = 1 := by kernel_rfl
    have k52 : Try.prog.cellsOf 52 = 1 := by kernel_rfl
    have k4 : Try.prog.cellsOf 4 = 1 := by kernel_rfl
    have k49 : Try.prog.cellsOf 49 = 1 := by kernel_rfl
    have f0 : DataW.trod enc Try.prog W base spare held n 3 (([v0, v1, v2, v3, v4, v5, v6].drop 0).take (Try.prog.cellsOf 3)) = xs[0]? := hf 0 _ rfl
    have f1 : DataW.trod enc Try.prog W base spare held n 3 (([v0, v1, v2, v3, v4, v5, v6].drop 1).take (Try.prog.cellsOf 3)) = xs[1]? := hf 1 _ rfl
    have f2 : DataW.trod enc Try.prog W base spare held n 51 (([v0, v1, v2, v3, v4, v5, v6].drop 2).take (Try.prog.cellsOf 51)) = xs[2]? := hf 2 _ rfl
    have f3 : DataW.trod enc Try.prog W base spare held n 9 (([v0, v1, v2, v3, v4, v5, v6].drop 4).take (Try.prog.cellsOf 9)) = xs[3]? := hf 3 _ rfl
    have f4 : DataW.trod enc Try.prog W base spare held n 52 (([v0, v1, v2, v3, v4, v5, v6].drop 5).take (Try.prog.cellsOf 52)) = xs[4]? := hf 4 _ rfl
    have f5 : DataW.trod enc Try.prog W base spare held n 52 (([v0, v1, v2, v3, v4, v5, v6].drop 6).take (Try.prog.cellsOf 52)) = xs[5]? := hf 5 _ rfl
    rw [k3] at f0 f1
    rw [k51] at f2
    rw [k9] at f3
    rw [k52] at f4 f5
    match xs, hxl with
    | [x0, x1, x2, x3, x4, x5], _ =>
    simp only [List.drop, List.take, List.getElem?_cons_zero, List.getElem?_cons_succ] at f0 f1 f2 f3 f4 f5
    obtain ⟨k, e0, rfl, w0⟩ := DataW.trod_int Try.underlying3 f0
    obtain ⟨m, e1, rfl, w1⟩ := DataW.trod_int Try.underlying3 f1
    obtain ⟨s, e3, rfl, w3⟩ := DataW.trod_string Try.underlying9 f3
    obtain ⟨zs, n2, rfl, rfl, _, hzl, hg⟩ := DataW.trod_struct Try.underlying51 f2
    have g0 : DataW.trod enc Try.prog W base spare held n2 4 (([v2, v3].drop 0).take (Try.prog.cellsOf 4)) = zs[0]? := hg 0 _ rfl
    have g1 : DataW.trod enc Try.prog W base spare held n2 49 (([v2, v3].drop 1).take (Try.prog.cellsOf 49)) = zs[1]? := hg 1 _ rfl
    rw [k4] at g0
    rw [k49] at g1
    match zs, hzl with
    | [z0, z1], _ =>
    simp only [List.drop, List.take, List.getElem?_cons_zero, List.getElem?_cons_succ] at g0 g1
    obtain ⟨b, e2, rfl⟩ := DataW.trod_bool Try.underlying4 g0
    obtain ⟨am, cm, mag, rfl, hm1, hm2, hm3, hm4⟩ := dm_limbs g1
    obtain ⟨ai, ci, items, rfl, hi1, hi2, hi3⟩ := dm_slice (fun n' hn => ih n' (by omega)) f4
    obtain ⟨ar, cr, rest, rfl, hr1, hr2, hr3⟩ := dm_slice (fun n' hn => ih n' (by omega)) f5
    simp at e0 e1 e2 e3
    subst e0 e1 e2 e3
    refine ⟨.mk k m b mag s items rest, DK.mk ⟨?_, ?_⟩ hm1 hm2 ⟨hm3, hi1, hr1⟩ hi2 hr2, ?_⟩
    · simp [Lit.wf] at w0
      have h0 : IntKind.i64.min = -9223372036854775808 := rfl
      have h1 : IntKind.i64.max = 9223372036854775807 := rfl
      omega
    · simp [Lit.wf] at w1
      have h0 : IntKind.i64.min = -9223372036854775808 := rfl
      have h1 : IntKind.i64.max = 9223372036854775807 := rfl
      omega
    · have hss : s.data.toList.length = s.size := by rw [Array.length_toList]; rfl
      simp only [Dm.size, List.map_cons, List.map_nil, Rows.uptoBulk, Rows.uptoBulkAll]
      omega
set_option maxRecDepth 100000 in
theorem open_datumR {r : Reach} {b0 : Nat} {v : Value} {d : DataW H} {p : List MemPlace} (hv : Value.okWide Try.prog W r b0 54 v) (h : DataW.Trod enc Try.prog W base spare held 54 v d p) (hb : Rows.uptoBulk d ≤ 1048576) :
    ∃ (x : Dm) (cs : List Value), v = .agg cs.toArray ∧ (DK (whole W) x cs ∧ x.size ≤ 1048576) := by
  obtain ⟨cs, rfl, hsz⟩ := okWide_struct Try.underlying54 hv
  obtain ⟨fuel, hf⟩ := h
  obtain ⟨x, hx, hz⟩ := dm_trod fuel _ _ hf
  exact ⟨x, cs.toList, by simp, by simpa [Value.cells] using hx, Nat.le_trans (show x.size ≤ Rows.uptoBulk d from hz) hb⟩
end
end Go.Proofs.Ytanjiecefioffaa
