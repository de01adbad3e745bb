/- Separation logic over the model's heap, a block (an allocation) at a time: 'sat w P' says that P holds of some blocks of w. No program in sight. -/
import Derived.WalkKit
import Derived.WalkSpells
import Derived.Deep.Draws
import Derived.Deep.AppendSrc
import Derived.Deep.RegionHeld3
import Derived.BigQuiet
import Derived.Deep.QuietTactic
import Derived.Lib.Hide
import Derived.Deep.Cut
import Derived.Deep.CutBlock
import Derived.Deep.DeepCutAuto
import Derived.Deep.RegionWith
import Derived.Deep.RegionLaw
import Derived.Deep.LoopGhost
import Derived.Deep.DeepFit
namespace Go.Proofs.Ytkjfplldfjmbaaa
open Go.RowKit

/-- A piece of a heap. -/
abbrev PH := Nat → Option Obj
def HP := PH → Prop

def sat (w : World) (P : HP) : Prop := ∃ h : PH, P h ∧ ∀ b o, h b = some o → w.heap[b]? = some o
def emp : HP := fun h => ∀ k, h k = none
def blk (b : Nat) (o : Obj) : HP := fun h => ∀ k, h k = if k = b then some o else none
def star (P Q : HP) : HP := fun h => ∃ h1 h2 : PH, P h1 ∧ Q h2 ∧ (∀ k, h1 k = none ∨ h2 k = none) ∧ ∀ k, h k = (h1 k).or (h2 k)
instance : Mul HP := ⟨star⟩
/-- All of a world's heap. -/
def whole (w : World) : HP := fun h => ∀ k, h k = w.heap[k]?

theorem HP.ext {P Q : HP} (h : ∀ x, P x ↔ Q x) : P = Q := funext fun x => propext (h x)

theorem HP.mul_def (P Q : HP) (h : PH) : (P * Q) h ↔ ∃ h1 h2 : PH, P h1 ∧ Q h2 ∧ (∀ k, h1 k = none ∨ h2 k = none) ∧ ∀ k, h k = (h1 k).or (h2 k) := Iff.rfl

theorem HP.comm (P Q : HP) : P * Q = Q * P := by
  have key : ∀ P Q : HP, ∀ x, (P * Q) x → (Q * P) x := by
    rintro P Q x ⟨a, b, ha, hb, hd, hx⟩
    refine ⟨b, a, hb, ha, fun k => (hd k).symm, fun k => ?_⟩
    rw [hx k]
    rcases hd k with h | h <;> simp [h]
  exact HP.ext fun x => ⟨key P Q x, key Q P x⟩

theorem HP.assoc1 (P Q R : HP) (x : PH) (h : (P * Q * R) x) : (P * (Q * R)) x := by
  obtain ⟨ab, c, ⟨a, b, ha, hb, hd, hab⟩, hc, hd2, hx⟩ := h
  refine ⟨a, fun k => (b k).or (c k), ha, ⟨b, c, hb, hc, ?_, fun _ => rfl⟩, ?_, ?_⟩
  · intro k
    have := hd2 k; rw [hab k] at this
    cases hb' : b k <;> simp_all
  · intro k
    have h1 := hd k
    have h2 := hd2 k; rw [hab k] at h2
    cases ha' : a k <;> simp_all
  · intro k
    rw [hx k, hab k, Option.or_assoc]

theorem HP.assoc (P Q R : HP) : P * Q * R = P * (Q * R) := by
  refine HP.ext fun x => ⟨HP.assoc1 P Q R x, fun h => ?_⟩
  rw [HP.comm] at h
  have h2 := HP.assoc1 Q R P x h
  rw [HP.comm] at h2
  have h3 := HP.assoc1 R P Q x h2
  rw [HP.comm] at h3
  exact h3

theorem HP.left_comm (P Q R : HP) : P * (Q * R) = Q * (P * R) := by rw [← HP.assoc, HP.comm P Q, HP.assoc]
instance : Std.Associative (α := HP) (· * ·) := ⟨HP.assoc⟩
instance : Std.Commutative (α := HP) (· * ·) := ⟨HP.comm⟩

theorem HP.emp_mul (P : HP) : emp * P = P := by
  refine HP.ext fun x => ⟨?_, fun h => ⟨fun _ => none, x, fun _ => rfl, h, fun _ => .inl rfl, fun k => by simp⟩⟩
  rintro ⟨a, b, ha, hb, _, hx⟩
  have : x = b := funext fun k => by rw [hx k, ha k]; simp
  rw [this]; exact hb
theorem HP.mul_emp (P : HP) : P * emp = P := by rw [HP.comm, HP.emp_mul]

section
variable {w w' : World} {P Q R : HP}

theorem sat.perm (h : sat w P) (e : P = Q) : sat w Q := e ▸ h
theorem sat.mono (h : sat w P) (e : ∀ x, P x → Q x) : sat w Q := let ⟨x, hx, hw⟩ := h; ⟨x, e x hx, hw⟩
theorem star_mono {P P' Q Q' : HP} (h1 : ∀ x, P x → P' x) (h2 : ∀ x, Q x → Q' x) : ∀ x, (P * Q) x → (P' * Q') x :=
  fun _ ⟨a, b, ha, hb, hd, hx⟩ => ⟨a, b, h1 a ha, h2 b hb, hd, hx⟩
theorem sat.mono_left (h : sat w (P * R)) (e : ∀ x, P x → Q x) : sat w (Q * R) := h.mono (star_mono e fun _ h => h)

theorem sat.left (h : sat w (P * Q)) : sat w P := by
  obtain ⟨x, ⟨a, b, ha, hb, hd, hx⟩, hw⟩ := h
  exact ⟨a, ha, fun k o ho => hw k o (by rw [hx k, ho]; simp)⟩
theorem sat.right (h : sat w (P * Q)) : sat w Q := by rw [HP.comm] at h; exact h.left

theorem sat.of_heap (h : sat w P) (e : ∀ b, b < w.heap.size → w'.heap[b]? = w.heap[b]?) : sat w' P := by
  obtain ⟨x, hx, hw⟩ := h
  refine ⟨x, hx, fun b o ho => ?_⟩
  have := hw b o ho
  rw [e b (Array.getElem?_eq_some_iff.1 this).1]
  exact this

theorem sat.below (h : sat w P) (hb : Below w.heap.size w w') : sat w' P := h.of_heap hb.block
theorem sat.drewN (h : sat w P) (n : Nat) : sat (w.drewN n) P := h
theorem sat.drew (h : sat w P) : sat w.drew P := h
theorem sat.of_drewN {n : Nat} (h : sat (w.drewN n) P) : sat w P := h

theorem sat.get {b : Nat} {o : Obj} (h : sat w (blk b o)) : w.heap[b]? = some o := by
  obtain ⟨x, hx, hw⟩ := h
  exact hw b o (by rw [hx b]; simp)
theorem sat_blk {b : Nat} {o : Obj} (h : w.heap[b]? = some o) : sat w (blk b o) := by
  refine ⟨fun k => if k = b then some o else none, fun _ => rfl, fun k o' h' => ?_⟩
  by_cases e : k = b
  · subst e; simp at h'; subst h'; exact h
  · simp [e] at h'
theorem sat.lt {b : Nat} {o : Obj} (h : sat w (blk b o)) : b < w.heap.size := (Array.getElem?_eq_some_iff.1 h.get).1

theorem sat_emp (w : World) : sat w emp := ⟨fun _ => none, fun _ => rfl, fun _ _ h => by cases h⟩
theorem sat_whole (w : World) : sat w (whole w) := ⟨fun k => w.heap[k]?, fun _ => rfl, fun _ _ h => h⟩
theorem sat.whole_get {W : World} (h : sat w (whole W)) : ∀ b, b < W.heap.size → w.heap[b]? = W.heap[b]? := by
  obtain ⟨x, hx, hw⟩ := h
  intro b hb
  have e : W.heap[b]? = some W.heap[b] := Array.getElem?_eq_getElem hb
  rw [e]
  exact hw b _ (by rw [hx b, e])

/-- A new block. -/
theorem sat.alloc (h : sat w P) (o : Obj) : sat (w.alloc o) (blk w.heap.size o * P) := by
  obtain ⟨x, hx, hw⟩ := h
  refine ⟨fun k => if k = w.heap.size then some o else x k, ⟨fun k => if k = w.heap.size then some o else none, x, fun _ => rfl, hx, ?_, ?_⟩, ?_⟩
  · intro k
    by_cases e : k = w.heap.size
    · right
      cases hk : x k with
      | none => rfl
      | some o' => have := (Array.getElem?_eq_some_iff.1 (hw k o' hk)).1; omega
    · left; simp [e]
  · intro k
    by_cases e : k = w.heap.size <;> simp [e]
  · intro k o' h'
    by_cases e : k = w.heap.size
    · subst e; simp at h'; subst h'; exact heap_alloc_new w o
    · simp [e] at h'
      have := hw k o' h'
      rw [heap_alloc_old w o (Array.getElem?_eq_some_iff.1 this).1]; exact this

/-- A block is turned into another. -/
theorem sat.put {b : Nat} {o o' : Obj} (h : sat w (blk b o * R)) (h1 : w'.heap[b]? = some o') (h2 : ∀ k, k ≠ b → k < w.heap.size → w'.heap[k]? = w.heap[k]?) :
    sat w' (blk b o' * R) := by
  obtain ⟨x, ⟨a, c, ha, hc, hd, hx⟩, hw⟩ := h
  have hcb : c b = none := by
    rcases hd b with h | h
    · rw [ha b] at h; simp at h
    · exact h
  refine ⟨fun k => (if k = b then some o' else none : Option Obj).or (c k), ⟨fun k => if k = b then some o' else none, c, fun _ => rfl, hc, ?_, fun _ => rfl⟩, ?_⟩
  · intro k
    by_cases e : k = b
    · right; rw [e]; exact hcb
    · left; simp [e]
  · intro k o2 h'
    by_cases e : k = b
    · subst e; simp at h'; subst h'; exact h1
    · simp [e] at h'
      have hk := hw k o2 (by rw [hx k, ha k]; simp [e, h'])
      rw [h2 k e (Array.getElem?_eq_some_iff.1 hk).1]; exact hk

theorem sat.setCell {b off : Nat} {cs : Array Value} {t : Nat} {fr : Nat × Nat} (h : sat w (blk b (.cells cs t fr) * R)) (v : Value) :
    sat (w.setCell ⟨b, off, none⟩ v) (blk b (.cells (cs.setIfInBounds off v) t fr) * R) := by
  refine h.put ?_ fun k hk _ => Below.heap_setCell _ _ _ _ (by simpa using hk)
  have := h.left.get
  simp only [World.setCell, Array.getElem?_modify, this, if_true, Option.map_some, Option.isSome_none, Bool.false_eq_true, if_false]

theorem sat.setRow {b : Nat} {cs cs' : Array Value} {t : Nat} {fr : Nat × Nat} (h : sat w (blk b (.cells cs t fr) * R)) :
    sat (w.setRow b cs') (blk b (.cells cs' t fr) * R) :=
  h.put (setRow_heap w b cs cs' t fr h.left.get) fun k hk _ => setRow_other w b k cs' hk

theorem sat.cell {b : Nat} {cs : Array Value} {t : Nat} {fr : Nat × Nat} (h : sat w (blk b (.cells cs t fr))) (off : Nat) : w.cell? ⟨b, off, none⟩ = cs[off]? := by
  simp [World.cell?, h.get]
theorem sat.frozen {b : Nat} {cs : Array Value} {t : TypeId} (h : sat w (blk b (.cells cs t (0, 0)))) (off : Nat) : w.frozen? ⟨b, off, none⟩ = false := by
  simp [World.frozen?, h.get]

/-- Two blocks apart are two. -/
theorem sat.ne {b c : Nat} {o o' : Obj} (h : sat w (blk b o * (blk c o' * R))) : b ≠ c := by
  obtain ⟨x, ⟨a, y, ha, ⟨p, q, hp, hq, _, hy⟩, hd, hx⟩, hw⟩ := h
  rintro rfl
  rcases hd b with h | h
  · rw [ha b] at h; simp at h
  · rw [hy b, hp b] at h; simp at h
end

/-- A row: a whole array whose first cells are xs. -/
def row (e sz b cap : Nat) (xs : List Value) : HP := fun h => ∃ cur : Array Value, blk b (.cells cur e (0, 0)) h ∧ cur.size = cap * sz ∧ xs.length ≤ cap * sz ∧ cap ≤ maxLen ∧ cur.toList.take xs.length = xs

section
variable {w w' : World} {R : HP} {e sz b cap : Nat} {xs : List Value}

theorem sat.open_row (h : sat w (row e sz b cap xs * R)) : ∃ cur : Array Value, sat w (blk b (.cells cur e (0, 0)) * R) ∧ cur.size = cap * sz ∧ xs.length ≤ cap * sz ∧ cap ≤ maxLen ∧ cur.toList.take xs.length = xs := by
  obtain ⟨x, ⟨a, c, ⟨cur, ha, h1, h2, h3, h4⟩, hc, hd, hx⟩, hw⟩ := h
  exact ⟨cur, ⟨x, ⟨a, c, ha, hc, hd, hx⟩, hw⟩, h1, h2, h3, h4⟩

theorem sat.shut_row {cur : Array Value} (h : sat w (blk b (.cells cur e (0, 0)) * R)) (h1 : cur.size = cap * sz) (h2 : xs.length ≤ cap * sz) (h3 : cap ≤ maxLen) (h4 : cur.toList.take xs.length = xs) :
    sat w (row e sz b cap xs * R) := h.mono_left fun _ hx => ⟨cur, hx, h1, h2, h3, h4⟩

theorem sat.row_bounds (h : sat w (row e sz b cap xs * R)) : xs.length ≤ cap * sz ∧ cap ≤ maxLen := by
  obtain ⟨_, _, _, h2, h3, _⟩ := h.open_row; exact ⟨h2, h3⟩

theorem sat.row_cell (h : sat w (row e sz b cap xs * R)) {j : Nat} {v : Value} (hj : xs[j]? = some v) : w.cell? ⟨b, j, none⟩ = some v := by
  obtain ⟨cur, hs, h1, h2, h3, h4⟩ := h.open_row
  rw [hs.left.cell]
  rw [← h4, List.getElem?_take] at hj
  split at hj
  · simpa using hj
  · cases hj
theorem sat.row_frozen (h : sat w (row e sz b cap xs * R)) (j : Nat) : w.frozen? ⟨b, j, none⟩ = false := by
  obtain ⟨cur, hs, _⟩ := h.open_row
  exact hs.left.frozen j

theorem sat.row_set (h : sat w (row e sz b cap xs * R)) (j : Nat) (v : Value) : sat (w.setCell ⟨b, j, none⟩ v) (row e sz b cap (xs.set j v) * R) := by
  obtain ⟨cur, hs, h1, h2, h3, h4⟩ := h.open_row
  refine (hs.setCell (off := j) v).shut_row (by simpa using h1) (by simpa using h2) h3 ?_
  simp only [List.length_set, Array.toList_setIfInBounds]
  rw [List.take_set, h4]
end

/-- A slice that is the call's own: nil, or the head of a whole array. -/
def own (e sz : Nat) (v : Value) (n : Nat) (xs : List Value) : HP := fun h => xs.length = n * sz ∧ ((v = .slice none 0 0 ∧ n = 0 ∧ emp h) ∨ ∃ b cap, v = .slice (some ⟨b, 0, none⟩) n cap ∧ n ≤ cap ∧ row e sz b cap xs h)

section
variable {w w' : World} {R : HP} {e sz : Nat} {v : Value} {n : Nat} {xs : List Value}

theorem sat.open_own (h : sat w (own e sz v n xs * R)) : xs.length = n * sz ∧ ((v = .slice none 0 0 ∧ n = 0 ∧ xs = [] ∧ sat w R) ∨ ∃ b cap, v = .slice (some ⟨b, 0, none⟩) n cap ∧ n ≤ cap ∧ sat w (row e sz b cap xs * R)) := by
  obtain ⟨x, ⟨a, c, ⟨hl, ha⟩, hc, hd, hx⟩, hw⟩ := h
  refine ⟨hl, ?_⟩
  rcases ha with ⟨hv, hn, he⟩ | ⟨b, cap, hv, hn, hr⟩
  · left
    refine ⟨hv, hn, List.eq_nil_of_length_eq_zero (by rw [hl, hn]; simp), c, hc, fun k o ho => hw k o ?_⟩
    rw [hx k, he k]; simpa using ho
  · right
    exact ⟨b, cap, hv, hn, x, ⟨a, c, hr, hc, hd, hx⟩, hw⟩

theorem sat.shut_own {b cap : Nat} (hl : xs.length = n * sz) (hn : n ≤ cap) (h : sat w (row e sz b cap xs * R)) : sat w (own e sz (.slice (some ⟨b, 0, none⟩) n cap) n xs * R) :=
  h.mono_left fun _ hx => ⟨hl, .inr ⟨b, cap, rfl, hn, hx⟩⟩

theorem sat.nil_own (h : sat w R) : sat w (own e sz (.slice none 0 0) 0 [] * R) := by
  rw [← HP.emp_mul R] at h
  exact h.mono_left fun _ hx => ⟨by simp, .inl ⟨rfl, rfl, hx⟩⟩

/-- A slice that holds something is no nil. -/
theorem sat.own_some (h : sat w (own e sz v n xs * R)) (hn : 0 < n) : ∃ b cap, v = .slice (some ⟨b, 0, none⟩) n cap ∧ n ≤ cap ∧ xs.length = n * sz ∧ sat w (row e sz b cap xs * R) := by
  obtain ⟨hl, h | ⟨b, cap, hv, hn', hr⟩⟩ := h.open_own
  · omega
  · exact ⟨b, cap, hv, hn', hl, hr⟩
end

section
variable {P : Program} {w : World} {R : HP}

theorem Below.zero_alloc (w : World) (o : Obj) : Below 0 w (w.alloc o) := (Below.refl 0 w).alloc (Nat.zero_le _) o
theorem Below.zero_of {B : Nat} {w w' : World} (h : Below B w w') : Below 0 w w' := h.mono (Nat.zero_le _)

/-- append, of what is the call's own; what comes in is told by its cells. -/
theorem run_append_sat (t ty : TypeId) (e : Nat) (i : TypeInfo) (z : Value) (sz bytes : Nat) (ht : P.underlying t = some (.slice e)) (hi : P.info? e = some i) (hz : i.zero = some z)
    (hsize : i.size = sz) (hby : i.bytes = bytes) (hzs : z.cells.size = sz)
    {v : Value} {n : Nat} {xs : List Value} (h : sat w (own e sz v n xs * R))
    (a : Addr) (m c : Nat) (news : List Value) (hl : news.length = m * sz) (hnews : ∀ j u, news[j]? = some u → w.cell? (a.add j) = some u) (h1 : ∀ u ∈ news, u.oneCell' = true)
    (hbytes : (n + m) * bytes ≤ 140737488355328) (h63 : n + m ≤ maxLen) :
    ∃ v' w', (Builtin.append_ #[t, t] ty #[v, .slice (some a) m c]).run P w = .ok v' w' ∧ sat w' (own e sz v' (n + m) (xs ++ news) * R) ∧ Below 0 w w' := by
  subst hsize
  subst hby
  have hsmall : n + m ≤ 9223372036854775807 := by simp only [maxLen] at h63; omega
  obtain ⟨hxl, h | ⟨g, cap, rfl, hn, hr⟩⟩ := h.open_own
  · obtain ⟨rfl, rfl, rfl, hR⟩ := h
    by_cases hm : m = 0
    · subst hm
      have hn : news = [] := List.eq_nil_of_length_eq_zero (by simpa using hl)
      subst hn
      refine ⟨.slice none 0 0, w, ?_, by simpa using hR.nil_own, Below.refl _ _⟩
      simp [Builtin.append_, run_underlying ht, sizeOf, typeInfo, hi, Builtin.lenOf, Builtin.firstCells, loadCells, loadCellsFrom]
    · have hr := run_append_nil (P := P) w t ty e i z ht hi hz a m c news hl hnews (by omega) (by omega) (by have hb := hbytes; simp only [Nat.zero_add] at hb; omega)
      refine ⟨_, _, hr, ?_, (Below.refl 0 w).drew.alloc (Nat.zero_le _) _⟩
      simp only [Nat.zero_add, List.nil_append]
      have hge := grownCap_ge w m 0 e
      have hcm : grownCap w m 0 e ≤ maxLen := grownCap_le_maxLen w m 0 e (by omega)
      refine sat.shut_own hl hge ((hR.drew.alloc _).shut_row ?_ ?_ hcm ?_)
      · simp only [Array.size_append, List.size_toArray, size_zeroCells, hzs, hl, ← Nat.add_mul]
        congr 1; omega
      · rw [hl]; exact Nat.mul_le_mul_right _ hge
      · simp only [Array.toList_append]; exact List.take_left
  · obtain ⟨cur, hs, h1', h2', h3', h4'⟩ := hr.open_row
    have hg := hs.left.get
    by_cases hroom : n + m ≤ cap
    · have hfit : n * i.size + news.length ≤ cur.size := by rw [hl, h1', ← Nat.add_mul]; exact Nat.mul_le_mul_right _ hroom
      have hr := run_append_room (P := P) w t ty e i ht hi g n cap cur hg a m c news hl hnews h1 hroom hfit
      refine ⟨_, _, hr, ?_, (show Below 0 w _ from ⟨rfl, rfl, rfl, by simp, fun k hk => by omega⟩)⟩
      refine sat.shut_own (by rw [List.length_append, hxl, hl, Nat.add_mul]) hroom (hs.setRow.shut_row ?_ ?_ h3' ?_)
      · simp only [List.size_toArray, List.length_append, List.length_take, List.length_drop, Array.length_toList]
        omega
      · rw [List.length_append, hxl, hl, ← Nat.add_mul]; exact Nat.mul_le_mul_right _ hroom
      · rw [hxl] at h4'
        rw [h4']
        exact List.take_left
    · have holds : ∀ j u, xs[j]? = some u → w.cell? ((⟨g, 0, none⟩ : Addr).add j) = some u := fun j u hu => by
        have hadd : (⟨g, 0, none⟩ : Addr).add j = ⟨g, j, none⟩ := by unfold Addr.add; split <;> simp_all
        rw [hadd]; exact hr.row_cell hu
      have hrun := run_append_grow (P := P) w t ty e i z ht hi hz ⟨g, 0, none⟩ n cap xs hxl holds a m c news hl hnews (by omega) (by omega) (growslice_fits (by omega) hbytes)
      refine ⟨_, _, hrun, ?_, (Below.refl 0 w).drew.alloc (Nat.zero_le _) _⟩
      have hge := grownCap_ge w (n + m) cap e
      have hcm : grownCap w (n + m) cap e ≤ maxLen := grownCap_le_maxLen w (n + m) cap e h63
      have hR : sat w R := hr.right
      refine sat.shut_own (by rw [List.length_append, hxl, hl, Nat.add_mul]) hge ((hR.drew.alloc _).shut_row ?_ ?_ hcm ?_)
      · simp only [Array.size_append, List.size_toArray, size_zeroCells, hzs, hl, hxl, ← Nat.add_mul]
        congr 1; omega
      · rw [List.length_append, hxl, hl, ← Nat.add_mul]; exact Nat.mul_le_mul_right _ hge
      · simp only [Array.toList_append]
        have : (xs ++ news) = xs.toArray.toList ++ news.toArray.toList := by simp
        rw [this]; exact List.take_left

theorem wpList_append_sat {ops : Array Oper} {rest : List Oper} {o : Oper} {a : Act} {Q : Exit → Act → World → Prop} (hgd : o.guard = none) (s x : Operand) (t : TypeId)
    (ho : o.op = .call { callee := .builtin .append, args := #[s, x], argTypes := #[t, t] })
    (e : Nat) (i : TypeInfo) (z : Value) (sz bytes : Nat) (ht : P.underlying t = some (.slice e)) (hi : P.info? e = some i) (hz : i.zero = some z)
    (hsize : i.size = sz) (hby : i.bytes = bytes) (hzs : z.cells.size = sz)
    (v : Value) (n : Nat) (xs : List Value) (hs : a.eval s = v) (R : HP)
    (ad : Addr) (m c : Nat) (news : List Value) (hx : a.eval x = .slice (some ad) m c)
    (k : ∀ v' w', sat w' (own e sz v' (n + m) (xs ++ news) * R) → Below 0 w w' → wpList P ops Q rest (a.put o.dst v') w')
    (h : sat w (own e sz v n xs * R)) (hl : news.length = m * sz) (hnews : ∀ j u, news[j]? = some u → w.cell? (ad.add j) = some u) (h1 : ∀ u ∈ news, u.oneCell' = true)
    (hbytes : (n + m) * bytes ≤ 140737488355328) (h63 : n + m ≤ maxLen) : wpList P ops Q (o :: rest) a w := by
  obtain ⟨v', w', hr, h2, h3⟩ := run_append_sat (P := P) (w := w) t o.type e i z sz bytes ht hi hz hsize hby hzs h ad m c news hl hnews h1 hbytes h63
  refine wpList_plain hgd fun K hK => ?_
  unfold Oper.wp execOp
  simp only [ho, resolve, invoke, builtin, Sem.run_bind, Sem.run_pure, Result.andThen_ok, List.map_toArray, List.map_cons, List.map_nil, hs, hx, hr]
  exact hK _ _ (k v' w' h2 h3)
end

#print axioms wpList_append_sat
end Go.Proofs.Ytkjfplldfjmbaaa
