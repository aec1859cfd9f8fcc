import Derived.Test.YthdaimoankaciaaGreatDoorBase
import Derived.Laws.CopyOwn
/- No program in sight: digits to the base 2^32, rows of cells that hold them, and worlds in which one row is rewritten. -/
namespace Vi
open Go Go.RowKit
def dg (x i : Nat) : Nat := x / 4294967296 ^ i % 4294967296
theorem dg_lt (x i : Nat) : dg x i < 4294967296 := Nat.mod_lt _ (by omega)
theorem dg_zero (i : Nat) : dg 0 i = 0 := by unfold dg; simp
theorem dg_big (x n i : Nat) (h : x < 4294967296 ^ n) (hi : n ≤ i) : dg x i = 0 := by
 unfold dg
 have : 4294967296 ^ n ≤ 4294967296 ^ i := Nat.pow_le_pow_right (by omega) hi
 rw [Nat.div_eq_of_lt (by omega)]
theorem mod_succ (x i : Nat) : x % 4294967296 ^ (i + 1) = x % 4294967296 ^ i + 4294967296 ^ i * dg x i := by
 unfold dg
 rw [Nat.pow_succ, Nat.mod_mul]
theorem div_succ (x i : Nat) : x / 4294967296 ^ i = dg x i + 4294967296 * (x / 4294967296 ^ (i + 1)) := by
 unfold dg
 rw [Nat.pow_succ, ← Nat.div_div_eq_div_mul]
 exact (Nat.mod_add_div _ _).symm
theorem eq_of_dg (x y n : Nat) (hx : x < 4294967296 ^ n) (hy : y < 4294967296 ^ n) (h : ∀ i, i < n → dg x i = dg y i) : x = y := by
 have : ∀ k, k ≤ n → x % 4294967296 ^ k = y % 4294967296 ^ k := by
  intro k
  induction k with
  | zero => intro _; simp [Nat.mod_one]
  | succ k ih => intro hk; rw [mod_succ, mod_succ, ih (by omega), h k (by omega)]
 have h2 := this n (Nat.le_refl _)
 rwa [Nat.mod_eq_of_lt hx, Nat.mod_eq_of_lt hy] at h2
theorem dg_top (x n : Nat) (h : nd 4294967296 x = n + 1) : 0 < dg x n := by
 have h0 : 0 < x := by
  rcases Nat.eq_zero_or_pos x with h2 | h2
  ·subst h2; rw [nd_zero] at h; omega
  ·exact h2
 have h1 := pow_nd_le 4294967296 (by omega) x h0
 have h2 := lt_pow_nd 4294967296 (by omega) x
 rw [h, Nat.add_sub_cancel] at h1
 rw [h] at h2
 unfold dg
 have h3 : x / 4294967296 ^ n < 4294967296 := by
  rw [Nat.div_lt_iff_lt_mul (Nat.pow_pos (by omega)), Nat.mul_comm, ← Nat.pow_succ]; exact h2
 rw [Nat.mod_eq_of_lt h3]
 exact Nat.div_pos h1 (Nat.pow_pos (by omega))
theorem nd_le_of_dg (x n : Nat) (hx : x < 4294967296 ^ (n + 1)) (h : dg x n = 0) : x < 4294967296 ^ n := by
 have h1 := mod_succ x n
 rw [h, Nat.mod_eq_of_lt hx, Nat.mul_zero, Nat.add_zero] at h1
 rw [h1]
 exact Nat.mod_lt _ (Nat.pow_pos (by omega))
def arr (k : IntKind) (f : Nat → Nat) (n : Nat) : Array Value := ((List.range n).map fun i => Value.int k (f i : Int)).toArray
theorem arr_size (k : IntKind) (f : Nat → Nat) (n : Nat) : (arr k f n).size = n := by unfold arr; simp
theorem arr_get (k : IntKind) (f : Nat → Nat) (n i : Nat) (h : i < n) : (arr k f n)[i]? = some (.int k (f i : Int)) := by
 unfold arr; simp [h]
theorem arr_none (k : IntKind) (f : Nat → Nat) (n i : Nat) (h : n ≤ i) : (arr k f n)[i]? = none := by
 apply Array.getElem?_eq_none; rw [arr_size]; exact h
def upd (f : Nat → Nat) (i v : Nat) : Nat → Nat := fun k => if k = i then v else f k
theorem arr_set (k : IntKind) (f : Nat → Nat) (n i v : Nat) : (arr k f n).setIfInBounds i (.int k (v : Int)) = arr k (upd f i v) n := by
 apply Array.ext_getElem?
 intro j
 rw [Array.getElem?_setIfInBounds, arr_size]
 by_cases hj : j < n
 ·by_cases he : i = j
  ·subst he; rw [if_pos rfl, if_pos hj, arr_get k _ n i hj, show upd f i v i = v from if_pos rfl]
  ·rw [if_neg he, arr_get k _ n j hj, arr_get k _ n j hj, show upd f i v j = f j from if_neg (Ne.symm he)]
 ·rw [arr_none k _ n j (by omega), arr_none k _ n j (by omega)]
  split
  ·rw [if_neg (by omega)]
  ·rfl
theorem arr_congr (k : IntKind) (f g : Nat → Nat) (n : Nat) (h : ∀ i, i < n → f i = g i) : arr k f n = arr k g n := by
 unfold arr
 rw [List.map_congr_left fun i hi => by rw [h i (List.mem_range.1 hi)]]
theorem arr_toList (k : IntKind) (f : Nat → Nat) (n : Nat) : (arr k f n).toList = (List.range n).map fun i => Value.int k (f i : Int) := rfl
theorem madeCells_arr (k : IntKind) (n : Nat) : madeCells #[Value.int k 0] n = arr k (fun _ => 0) n := by
 apply Array.toList_inj.1
 rw [toList_madeCells_one, arr_toList]
 apply List.ext_getElem?
 intro i
 by_cases h : i < n <;> simp [h]
theorem arr_oneCell (k : IntKind) (f : Nat → Nat) (n : Nat) : ∀ v ∈ (arr k f n).toList, v.oneCell' = true := by
 intro v hv
 rw [arr_toList, List.mem_map] at hv
 obtain ⟨i, _, rfl⟩ := hv
 rfl
end Vi
namespace Go
open Go.RowKit
def World.row (w : World) (g : Nat) (t : TypeId) (cs : Array Value) : World := { w with heap := w.heap.setIfInBounds g (.cells cs t (0, 0)) }
section
variable (w : World) (g : Nat) (t : TypeId) (cs : Array Value)
theorem World.heap_row_same (h : g < w.heap.size) : (w.row g t cs).heap[g]? = some (.cells cs t (0, 0)) := by
 show (w.heap.setIfInBounds g _)[g]? = _
 rw [Array.getElem?_setIfInBounds_self_of_lt h]
theorem World.heap_row_other (k : Nat) (h : k ≠ g) : (w.row g t cs).heap[k]? = w.heap[k]? := by
 show (w.heap.setIfInBounds g _)[k]? = _
 rw [Array.getElem?_setIfInBounds, if_neg (Ne.symm h)]
@[go_sem] theorem World.size_row : (w.row g t cs).heap.size = w.heap.size := by
 show (w.heap.setIfInBounds g _).size = _
 simp
@[go_sem] theorem World.cell?_row_same (i : Nat) (h : g < w.heap.size) : (w.row g t cs).cell? ⟨g, i, none⟩ = cs[i]? := by
 unfold World.cell?
 rw [World.heap_row_same w g t cs h]; rfl
@[go_sem] theorem World.cell?_row_other (k i : Nat) (h : k ≠ g) : (w.row g t cs).cell? ⟨k, i, none⟩ = w.cell? ⟨k, i, none⟩ :=
 World.cell?_of_block (World.heap_row_other w g t cs k h)
@[go_sem] theorem World.frozen?_row_same (i : Nat) (h : g < w.heap.size) : (w.row g t cs).frozen? ⟨g, i, none⟩ = false := by
 unfold World.frozen?
 rw [World.heap_row_same w g t cs h]; simp
@[go_sem] theorem World.frozen?_row_other (k i : Nat) (h : k ≠ g) : (w.row g t cs).frozen? ⟨k, i, none⟩ = w.frozen? ⟨k, i, none⟩ :=
 World.frozen?_of_block (World.heap_row_other w g t cs k h)
@[go_sem] theorem World.setCell_row (i : Nat) (v : Value) : (w.row g t cs).setCell ⟨g, i, none⟩ v = w.row g t (cs.setIfInBounds i v) := by
 unfold World.setCell World.row
 simp only [World.mk.injEq, and_true]
 apply Array.ext_getElem?
 intro k
 rw [Array.getElem?_modify]
 by_cases hk : g = k
 ·subst hk
  rw [if_pos rfl]
  by_cases h : g < w.heap.size
  ·rw [Array.getElem?_setIfInBounds_self_of_lt h, Array.getElem?_setIfInBounds_self_of_lt h]; rfl
  ·rw [Array.getElem?_eq_none (by simpa using h), Array.getElem?_eq_none (by simpa using h)]; rfl
 ·rw [if_neg hk, Array.getElem?_setIfInBounds, if_neg hk, Array.getElem?_setIfInBounds, if_neg hk]
theorem World.row_self (h : w.heap[g]? = some (.cells cs t (0, 0))) : w.row g t cs = w := by
 have e : w.heap.setIfInBounds g (.cells cs t (0, 0)) = w.heap := by
  apply Array.ext_getElem?
  intro k
  rw [Array.getElem?_setIfInBounds]
  by_cases hk : g = k
  ·subst hk
   have hlt : g < w.heap.size := (Array.getElem?_eq_some_iff.1 h).1
   rw [if_pos rfl, if_pos hlt, h]
  ·rw [if_neg hk]
 unfold World.row
 rw [e]
@[go_sem] theorem World.row_row (cs' : Array Value) : (w.row g t cs).row g t cs' = w.row g t cs' := by
 unfold World.row
 simp only [World.mk.injEq, and_true]
 apply Array.ext_getElem?
 intro k
 simp only [Array.getElem?_setIfInBounds, Array.size_setIfInBounds]
 split <;> rfl
@[go_sem] theorem World.row_drew : (w.drew).row g t cs = (w.row g t cs).drew := rfl
@[go_sem] theorem World.row_drewN (n : Nat) : (w.drewN n).row g t cs = (w.row g t cs).drewN n := rfl
@[go_sem] theorem World.alloc_drewN (n : Nat) (o : Obj) : (w.drewN n).alloc o = (w.alloc o).drewN n := rfl
@[go_sem] theorem World.setCell_drewN (n : Nat) (a : Addr) (v : Value) : (w.drewN n).setCell a v = (w.setCell a v).drewN n := rfl
theorem World.row_alloc (cur : Array Value) : (w.alloc (.cells cur t)).row w.heap.size t cs = w.alloc (.cells cs t) := by
 unfold World.row World.alloc
 simp only [World.mk.injEq, and_true]
 apply Array.ext_getElem?
 intro k
 rw [Array.getElem?_setIfInBounds]
 by_cases hk : w.heap.size = k
 ·subst hk; rw [if_pos rfl, if_pos (by simp)]; simp
 ·rw [if_neg hk, Array.getElem?_push, Array.getElem?_push]; rw [if_neg (Ne.symm hk), if_neg (Ne.symm hk)]
theorem World.row_setRow (cur : Array Value) (h : w.heap[g]? = some (.cells cur t (0, 0))) : w.setRow g cs = w.row g t cs := by
 have e : (w.setRow g cs).heap = (w.row g t cs).heap := by
  apply Array.ext_getElem?
  intro k
  by_cases hk : k = g
  ·subst hk
   rw [setRow_heap w k cur cs t (0, 0) h, World.heap_row_same _ _ _ _ (Array.getElem?_eq_some_iff.1 h).1]
  ·rw [setRow_other w g k cs hk, World.heap_row_other _ _ _ _ _ hk]
 have e2 : (w.setRow g cs) = { w with heap := (w.setRow g cs).heap } := rfl
 rw [e2, e]; rfl
end
theorem _root_.Go.RowKit.Below.row {B : Nat} {a w : World} (h : Below B a w) {g : Nat} (hg : B ≤ g) (t : TypeId) (cs : Array Value) : Below B a (w.row g t cs) :=
 h.trans ⟨rfl, rfl, rfl, by rw [World.size_row]; exact Nat.le_refl _, fun k hk => World.heap_row_other w g t cs k (by omega)⟩
end Go
