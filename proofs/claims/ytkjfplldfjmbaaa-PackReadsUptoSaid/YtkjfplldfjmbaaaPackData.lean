/- Data that may be written, and their bytes. -/
import Derived.Test.YtkjfplldfjmbaaaPackNum
namespace Go.Proofs.Ytkjfplldfjmbaaa
open Go.RowKit
theorem DK.cells {M : HP} {d : Dm} {cs : List Value} (h : DK M d cs) : ∃ kk nn ng am ml cm tx ai il ci ar rl cr, cs = [.int .i64 kk, .int .i64 nn, .bool ng, .slice am ml cm, .string tx, .slice ai il ci, .slice ar rl cr] := by
  cases d
  obtain ⟨_, _, _, _, _, _, rfl, _⟩ := h.open
  exact ⟨_, _, _, _, _, _, _, _, _, _, _, _, _, rfl⟩
def noT : ByteArray := ⟨#[]⟩
def kindD : Dm → Int
  | .mk k _ _ _ _ _ _ => k
mutual
/-- A datum that may be written, but for its depth and its parts. -/
def RightD : Dm → Prop
  | .mk k n neg mag text items rest =>
    ((k = 2 ∨ k = 3 ∨ k = 9) ∧ (-549755813888 ≤ n ∧ n ≤ 549755813888) ∧ neg = false ∧ mag = [] ∧ text = noT ∧ items = [] ∧ rest = []) ∨
    (k = 5 ∧ (-549755813888 ≤ n ∧ n ≤ 549755813888) ∧ neg = false ∧ mag = [] ∧ items = [] ∧ rest = []) ∨
    (k = 1 ∧ n = 0 ∧ text = noT ∧ items = [] ∧ rest = [] ∧ limbsOf (valL mag) = mag ∧ (neg = true → mag ≠ [])) ∨
    (k = 4 ∧ n = 0 ∧ neg = false ∧ mag = [] ∧ items = [] ∧ rest = []) ∨
    (k = 8 ∧ n = 0 ∧ neg = false ∧ mag = [] ∧ text = noT ∧ items = [] ∧ rest = []) ∨
    ((k = 6 ∨ k = 7) ∧ n = 0 ∧ neg = false ∧ mag = [] ∧ text = noT ∧ (k = 7 → rest = []) ∧ (rest = [] ∨ ∃ r, rest = [r] ∧ items ≠ [] ∧ kindD r ≠ 6) ∧ RightDs items ∧ RightDs rest)
def RightDs : List Dm → Prop
  | [] => True
  | d :: l => RightD d ∧ RightDs l
end
def limbsB (l : List Int) : List Int := l.flatMap fun x => numB x.toNat
mutual
/-- A datum's bytes. -/
def constB : Dm → List Int
  | .mk k n neg mag text items rest => numB k.toNat ++
    (if k = 1 then bitB neg ++ numB mag.length ++ limbsB mag
     else if k = 2 ∨ k = 3 ∨ k = 9 then zigB n
     else if k = 4 then textB text
     else if k = 5 then textB text ++ zigB n
     else if k = 6 then numB items.length ++ constBs items ++ numB rest.length ++ constBs rest
     else if k = 7 then numB items.length ++ constBs items ++ constBs rest
     else [])
def constBs : List Dm → List Int
  | [] => []
  | d :: l => constB d ++ constBs l
end
theorem constBs_app : ∀ l m : List Dm, constBs (l ++ m) = constBs l ++ constBs m
  | [], m => by simp [constBs]
  | d :: l, m => by rw [List.cons_append, constBs, constBs, constBs_app l m, List.append_assoc]
theorem limbsB_app (l m : List Int) : limbsB (l ++ m) = limbsB l ++ limbsB m := by unfold limbsB; simp
theorem limbsB_len {l : List Int} (h : ∀ x ∈ l, 0 ≤ x ∧ x < 4294967296) : (limbsB l).length ≤ 9 * l.length := by
  induction l with
  | nil => simp [limbsB]
  | cons x l ih =>
    have h1 := ih fun y hy => h y (by simp [hy])
    have h2 := numB_ten (n := x.toNat) (by have := h x (by simp); omega)
    unfold limbsB at h1 ⊢
    rw [List.flatMap_cons, List.length_append, List.length_cons]
    omega
theorem RightDs.mem : ∀ {l : List Dm}, RightDs l → ∀ d ∈ l, RightD d
  | [], _, d, hd => by simp at hd
  | e :: l, h, d, hd => by
    unfold RightDs at h
    rcases List.mem_cons.1 hd with rfl | hd
    · exact h.1
    · exact RightDs.mem h.2 d hd
theorem zigB_len {n : Int} (h : -549755813888 ≤ n ∧ n ≤ 549755813888) : (zigB n).length ≤ 9 := numB_ten (by have := zig_bd h; omega)
mutual
theorem constB_len {R : HP} : ∀ (d : Dm) {cs : List Value}, DK R d cs → RightD d → d.size ≤ 1048576 → (constB d).length ≤ 40 * d.size
  | .mk k n neg mag text items rest, cs, hd, hr, hz => by
    obtain ⟨am, cm, ai, ci, ar, cr, rfl, ⟨_, _, _, hm, _⟩, hi, hre⟩ := hd.open
    have hl1 := Dm.len_le items
    have hl2 := Dm.len_le rest
    unfold Dm.size at hz ⊢
    unfold RightD at hr
    unfold constB
    have hk : ∀ k : Int, 0 ≤ k ∧ k < 10 → (numB k.toNat).length ≤ 9 := fun k h => numB_ten (by omega)
    rcases hr with ⟨hk0, hn, rfl, rfl, rfl, rfl, rfl⟩ | ⟨rfl, hn, rfl, rfl, rfl, rfl⟩ | ⟨rfl, rfl, rfl, rfl, rfl, hc, hne⟩ | ⟨rfl, rfl, rfl, rfl, rfl, rfl⟩ | ⟨rfl, rfl, rfl, rfl, rfl, rfl, rfl⟩ | ⟨hk0, rfl, rfl, rfl, rfl, h7, hrs, h8, h9⟩
    · have h1 := hk k (by omega)
      have h2 := zigB_len hn
      rw [if_neg (by omega), if_pos hk0, List.length_append]
      omega
    · have h1 := hk 5 (by decide)
      have h2 := zigB_len hn
      have h3 := textB_len text (by omega)
      rw [if_neg (by decide), if_neg (by decide), if_neg (by decide), if_pos rfl, List.length_append, List.length_append]
      omega
    · have h1 := hk 1 (by decide)
      have h2 := numB_ten (n := mag.length) (by omega)
      have h3 := limbsB_len hm
      have h4 : (bitB neg).length = 1 := rfl
      rw [if_pos rfl, List.length_append, List.length_append, List.length_append]
      omega
    · have h1 := hk 4 (by decide)
      have h3 := textB_len text (by omega)
      rw [if_neg (by decide), if_neg (by decide), if_pos rfl, List.length_append]
      omega
    · have h1 := hk 8 (by decide)
      rw [if_neg (by decide), if_neg (by decide), if_neg (by decide), if_neg (by decide), if_neg (by decide), if_neg (by decide), List.length_append, List.length_nil]
      omega
    · have h1 := hk k (by omega)
      have h2 := numB_ten (n := items.length) (by omega)
      have h3 := numB_ten (n := rest.length) (by omega)
      have h4 := constBs_len items hi h8 (by omega)
      have h5 := constBs_len rest hre h9 (by omega)
      rcases hk0 with rfl | rfl
      · rw [if_neg (by decide), if_neg (by decide), if_neg (by decide), if_neg (by decide), if_pos rfl, List.length_append, List.length_append, List.length_append, List.length_append]
        omega
      · rw [if_neg (by decide), if_neg (by decide), if_neg (by decide), if_neg (by decide), if_neg (by decide), if_pos rfl, List.length_append, List.length_append, List.length_append]
        omega
theorem constBs_len {R : HP} : ∀ (l : List Dm) {ao : Option Addr} {k : Nat}, DKs R l ao k → RightDs l → Dm.sizes l ≤ 1048576 → (constBs l).length ≤ 40 * Dm.sizes l
  | [], _, _, _, _, _ => by simp [constBs]
  | d :: l, ao, k, hd, hr, hz => by
    unfold DKs at hd
    obtain ⟨⟨b, off, cs, _, _, h1⟩, h2⟩ := hd
    unfold RightDs at hr
    unfold Dm.sizes at hz ⊢
    have h3 := constB_len d h1 hr.1 (by omega)
    have h4 := constBs_len l h2 hr.2 (by omega)
    unfold constBs
    rw [List.length_append]
    omega
end
end Go.Proofs.Ytkjfplldfjmbaaa
