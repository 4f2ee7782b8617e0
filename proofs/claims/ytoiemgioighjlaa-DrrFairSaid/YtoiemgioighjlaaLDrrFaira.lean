import Derived.Test.YtoiemgioighjlaaProg
import Derived.Test.YtoiemgioighjlaaSc
set_option linter.unusedVariables false
set_option linter.unusedSimpArgs false
/-! Whose turn it is: the plain theory. -/
namespace Go.Sy.Drr
section
variable (N : Nat) (q : Nat → Int) (may : Nat → Bool)
def dep (i : Nat) (x : Int) : Int := if may i then x else min x 0
def nxt (c : Nat) : Nat := if c + 1 < N then c + 1 else 0
def stepL (l : Nat → Int) (c : Nat) : Nat → Int := fun i => (if i = c then dep may c (l c) else l i) + (if i = nxt N c then q i else 0)
def naive : Nat → (Nat → Int) → Nat → Option ((Nat → Int) × Nat)
  | 0, _, _ => none
  | k + 1, l, c => if may c = true ∧ 0 < l c then some (l, c) else naive k (stepL N q may l c) (nxt N c)
def off (c i : Nat) : Nat := if c ≤ i then i - c else i + N - c
def pos (c j : Nat) : Nat := if c + j < N then c + j else c + j - N
/-- The state 'j' steps on. -/
def G (l : Nat → Int) (c j : Nat) : Nat → Int := fun i =>
  if i < N then (if off N c i = 0 then (if j = 0 then l i else dep may i (l i) + (if j = N then q i else 0)) else if off N c i < j then dep may i (l i + q i) else if off N c i = j then l i + q i else l i) else l i
theorem G_zero (l : Nat → Int) (c : Nat) : G N q may l c 0 = l := by
  funext i
  unfold G
  by_cases h : i < N
  · rw [if_pos h]
    by_cases h0 : off N c i = 0
    · rw [if_pos h0, if_pos rfl]
    · rw [if_neg h0, if_neg (by omega), if_neg h0]
  · rw [if_neg h]
theorem pos_lt {c j : Nat} (hc : c < N) (hj : j ≤ N) : pos N c j < N := by unfold pos; split <;> omega
theorem nxt_pos {c j : Nat} (hc : c < N) (hj : j < N) : nxt N (pos N c j) = pos N c (j + 1) := by
  unfold nxt pos
  by_cases h : c + j < N
  · rw [if_pos h]
    by_cases h2 : c + j + 1 < N
    · rw [if_pos h2, if_pos (by omega)]; omega
    · rw [if_neg h2, if_neg (by omega)]; omega
  · rw [if_neg h]
    rw [if_pos (by omega), if_neg (by omega)]; omega
theorem off_pos {c i j : Nat} (hc : c < N) (hi : i < N) (hj : j < N) : i = pos N c j ↔ off N c i = j := by
  unfold pos off
  split <;> split <;> omega
theorem off_lt {c i : Nat} (hc : c < N) (hi : i < N) : off N c i < N := by unfold off; split <;> omega
theorem pos_N {c : Nat} (hc : c < N) : pos N c N = c := by unfold pos; rw [if_neg (by omega)]; omega
theorem step_G (l : Nat → Int) {c j : Nat} (hc : c < N) (hj : j < N) : stepL N q may (G N q may l c j) (pos N c j) = G N q may l c (j + 1) := by
  funext i
  have hp := pos_lt N (j := j) hc (by omega)
  by_cases hi : i < N
  · have ho := off_lt N hc hi
    have e1 := off_pos N (i := i) hc hi hj
    unfold stepL
    rw [nxt_pos N hc hj]
    by_cases h1 : off N c i = j
    · -- where it stands
      have hij := e1.2 h1
      rw [if_pos hij, ← hij]
      by_cases hN : j + 1 = N
      · rw [hN, pos_N N hc]
        by_cases h0 : j = 0
        · -- one alone
          have hic : i = c := by have := off_pos N (i := i) (j := 0) hc hi (by omega); unfold pos at this; rw [if_pos (by omega)] at this; have := this.2 (by omega); omega
          rw [if_pos hic]
          unfold G
          rw [if_pos hi, if_pos hi, h1, h0, if_pos rfl, if_pos rfl, if_pos rfl, if_neg (by omega), if_pos rfl]
        · have hic : i ≠ c := by intro e; subst e; unfold off at h1; rw [if_pos (Nat.le_refl _)] at h1; omega
          rw [if_neg hic]
          unfold G
          rw [if_pos hi, if_pos hi, h1, if_neg h0, if_neg h0, if_neg (by omega), if_pos rfl, if_pos (by omega), Int.add_zero]
      · have hne : i ≠ pos N c (j + 1) := fun e => by have := (off_pos N (i := i) (j := j + 1) hc hi (by omega)).1 e; omega
        rw [if_neg hne, Int.add_zero]
        unfold G
        rw [if_pos hi, if_pos hi, h1]
        by_cases h0 : j = 0
        · rw [h0, if_pos rfl, if_pos rfl, if_pos rfl, if_neg (by omega), if_neg (by omega), Int.add_zero]
        · rw [if_neg h0, if_neg h0, if_neg (by omega), if_pos rfl, if_pos (by omega)]
    · rw [if_neg (fun e => h1 (e1.1 e))]
      by_cases hN : j + 1 = N
      · rw [hN, pos_N N hc]
        have ec := off_pos N (i := i) (j := 0) hc hi (by omega)
        have hpc : pos N c 0 = c := by unfold pos; rw [if_pos (by omega)]; omega
        rw [hpc] at ec
        by_cases h0 : off N c i = 0
        · rw [if_pos (ec.2 h0)]
          unfold G
          rw [if_pos hi, if_pos hi, h0, if_pos rfl, if_pos rfl, if_neg (by omega), if_neg (by omega), if_neg (by omega), if_pos rfl, Int.add_zero]
        · rw [if_neg (fun e => h0 (ec.1 e)), Int.add_zero]
          unfold G
          rw [if_pos hi, if_pos hi, if_neg h0, if_neg h0, if_pos (by omega), if_pos (by omega)]
      · have e2 := off_pos N (i := i) (j := j + 1) hc hi (by omega)
        by_cases h2 : off N c i = j + 1
        · rw [if_pos (e2.2 h2)]
          unfold G
          rw [if_pos hi, if_pos hi, h2, if_neg (by omega), if_neg (by omega), if_neg (by omega), if_neg (by omega), if_neg (by omega), if_pos rfl]
        · rw [if_neg (fun e => h2 (e2.1 e)), Int.add_zero]
          unfold G
          rw [if_pos hi, if_pos hi]
          by_cases h0 : off N c i = 0
          · rw [if_pos h0, if_pos h0, if_neg (by omega), if_neg (by omega), if_neg (by omega), if_neg (by omega)]
          · rw [if_neg h0, if_neg h0]
            by_cases h3 : off N c i < j
            · rw [if_pos h3, if_pos (by omega)]
            · rw [if_neg h3, if_neg h1, if_neg (by omega), if_neg h2]
  · unfold stepL
    rw [nxt_pos N hc hj]
    have := pos_lt N (j := j + 1) hc (by omega)
    rw [if_neg (by omega), if_neg (by omega), Int.add_zero]
    unfold G
    rw [if_neg hi, if_neg hi]
/-- What one has when its place comes. -/
def have_ (l : Nat → Int) (c i : Nat) : Int := l i + (if i = c then 0 else q i)
theorem G_at (l : Nat → Int) {c j : Nat} (hc : c < N) (hj : j < N) : G N q may l c j (pos N c j) = have_ q l c (pos N c j) := by
  have hp := pos_lt N (j := j) hc (by omega)
  have ho := (off_pos N (i := pos N c j) hc hp hj).1 rfl
  have ec : pos N c j = c ↔ j = 0 := by unfold pos; split <;> omega
  unfold G have_
  rw [if_pos hp, ho]
  by_cases h0 : j = 0
  · rw [if_pos h0, if_pos h0, if_pos (ec.2 h0), Int.add_zero]
  · rw [if_neg h0, if_neg (by omega), if_pos rfl, if_neg (fun e => h0 (ec.1 e))]
/-- A whole round. -/
def round (l : Nat → Int) (c : Nat) : Nat → Int := G N q may l c N
theorem naive_part (l : Nat → Int) {c : Nat} (hc : c < N) (hno : ∀ i, i < N → may i = true → have_ q l c i ≤ 0) : ∀ m j k, j + m = N → naive N q may (k + m) (G N q may l c j) (pos N c j) = naive N q may k (round N q may l c) c := by
  intro m
  induction m with
  | zero =>
    intro j k h
    have : j = N := by omega
    subst this
    rw [pos_N _ hc]; rfl
  | succ m ih =>
    intro j k h
    have hj : j < N := by omega
    rw [← Nat.add_assoc]
    show (if _ then _ else _) = _
    rw [G_at N q may l hc hj, if_neg, step_G N q may l hc hj, nxt_pos N hc hj]
    · exact ih (j + 1) k (by omega)
    · rintro ⟨h1, h2⟩
      have := hno _ (pos_lt N hc (by omega)) h1
      omega
theorem naive_round (l : Nat → Int) {c : Nat} (hc : c < N) (hno : ∀ i, i < N → may i = true → have_ q l c i ≤ 0) (k : Nat) : naive N q may (k + N) l c = naive N q may k (round N q may l c) c := by
  have := naive_part N q may l hc hno N 0 k (by omega)
  rw [G_zero] at this
  have hp : pos N c 0 = c := by unfold pos; rw [if_pos (by omega)]; omega
  rw [hp] at this
  exact this
theorem off_c (c : Nat) : off N c c = 0 := by unfold off; rw [if_pos (Nat.le_refl _)]; omega
theorem round_eq (l : Nat → Int) {c i : Nat} (hc : c < N) (hi : i < N) : round N q may l c i = if i = c then dep may i (l i) + q i else dep may i (l i + q i) := by
  unfold round G
  rw [if_pos hi]
  have ho := off_lt N hc hi
  by_cases h : i = c
  · subst h
    rw [off_c, if_pos rfl, if_neg (by omega), if_pos rfl, if_pos rfl]
  · have h0 : off N c i ≠ 0 := by unfold off; split <;> omega
    rw [if_neg h0, if_pos ho, if_neg h]
/-- Rounds in which nobody goes, at once. -/
def jump (l : Nat → Int) (c n : Nat) : Nat → Int := fun i =>
  if i < N then (if may i then l i + n * q i else if i = c then min (min (l i) 0 + (n - 1) * q i) 0 + q i else min (l i + n * q i) 0) else l i
theorem round_out (l : Nat → Int) {c i : Nat} (hi : ¬ i < N) : round N q may l c i = l i := by unfold round G; rw [if_neg hi]
theorem jump_one (l : Nat → Int) {c : Nat} (hc : c < N) : jump N q may l c 1 = round N q may l c := by
  funext i
  by_cases hi : i < N
  · rw [round_eq N q may l hc hi]
    unfold jump dep
    rw [if_pos hi]
    by_cases hm : may i = true
    · rw [if_pos hm, if_pos hm, if_pos hm]; split <;> omega
    · rw [if_neg hm, if_neg hm, if_neg hm]
      by_cases hic : i = c
      · rw [if_pos hic, if_pos hic]; omega
      · rw [if_neg hic, if_neg hic]; omega
  · rw [round_out N q may l hi]; unfold jump; rw [if_neg hi]
theorem jump_succ (l : Nat → Int) {c n : Nat} (hc : c < N) (hq : ∀ i, i < N → 1 ≤ q i) (hn : 1 ≤ n) : round N q may (jump N q may l c n) c = jump N q may l c (n + 1) := by
  funext i
  by_cases hi : i < N
  · rw [round_eq N q may _ hc hi]
    have hq := hq i hi
    have hm1 : ((n : Int) - 1) * q i = (n : Int) * q i - q i := by rw [Int.sub_mul]; omega
    have hm2 : (((n + 1 : Nat) : Int)) * q i = (n : Int) * q i + q i := by rw [show ((n + 1 : Nat) : Int) = (n : Int) + 1 from by omega, Int.add_mul]; omega
    have hm3 : ((((n + 1 : Nat) : Int)) - 1) * q i = (n : Int) * q i := by rw [show ((n + 1 : Nat) : Int) - 1 = (n : Int) from by omega]
    have hpos : q i ≤ (n : Int) * q i := by
      have : 1 * q i ≤ (n : Int) * q i := Int.mul_le_mul_of_nonneg_right (by omega) (by omega)
      omega
    unfold jump dep
    rw [if_pos hi, if_pos hi, hm1, hm2, hm3]
    generalize (n : Int) * q i = nq at *
    by_cases hm : may i = true
    · simp only [hm, if_true]; split <;> omega
    · simp only [hm, if_false, Bool.false_eq_true]
      by_cases hic : i = c
      · rw [if_pos hic, if_pos hic, if_pos hic]; omega
      · rw [if_neg hic, if_neg hic, if_neg hic]; omega
  · rw [round_out N q may _ hi]; unfold jump; rw [if_neg hi, if_neg hi]
theorem have_jump (l : Nat → Int) {c n i : Nat} (hi : i < N) (hm : may i = true) : have_ q (jump N q may l c n) c i = have_ q l c i + n * q i := by
  unfold have_ jump
  rw [if_pos hi, if_pos hm]; omega
theorem naive_jump (l : Nat → Int) {c : Nat} (hc : c < N) (hq : ∀ i, i < N → 1 ≤ q i) : ∀ n : Nat, 1 ≤ n → (∀ i, i < N → may i = true → have_ q l c i + ((n : Int) - 1) * q i ≤ 0) → ∀ k, naive N q may (k + n * N) l c = naive N q may k (jump N q may l c n) c := by
  intro n
  induction n with
  | zero => intro h; omega
  | succ n ih =>
    intro _ hno k
    by_cases h0 : n = 0
    · subst h0
      rw [jump_one N q may l hc, Nat.one_mul]
      exact naive_round N q may l hc (fun i hi hm => by have := hno i hi hm; simp at this; exact this) k
    · have hle : ∀ i, i < N → may i = true → have_ q l c i + ((n : Int) - 1) * q i ≤ 0 := fun i hi hm => by
        have h1 := hno i hi hm
        have h2 := hq i hi
        have e : ((n + 1 : Nat) : Int) - 1 = ((n : Int) - 1) + 1 := by omega
        rw [e, Int.add_mul] at h1
        omega
      have := ih (by omega) hle (k + N)
      rw [show k + (n + 1) * N = k + N + n * N from by rw [Nat.add_mul]; omega, this, naive_round N q may _ hc (fun i hi hm => ?_) k, jump_succ N q may l hc hq (by omega)]
      rw [have_jump N q may l hi hm]
      have h1 := hno i hi hm
      rw [show ((n + 1 : Nat) : Int) - 1 = (n : Int) from by omega] at h1
      exact h1
/-- Somebody has something: it ends within a round. -/
theorem naive_ends (l : Nat → Int) {c i0 : Nat} (hc : c < N) (hi : i0 < N) (hm : may i0 = true) (hh : 0 < have_ q l c i0) : ∃ r c', (∀ k, naive N q may (N + 1 + k) l c = some (r, c')) ∧ c' < N ∧ may c' = true ∧ 0 < r c' ∧ ∃ j, j < N ∧ r = G N q may l c j ∧ c' = pos N c j ∧ ∀ j', j' < j → may (pos N c j') = true → have_ q l c (pos N c j') ≤ 0 := by
  have key : ∀ m j, j + m = off N c i0 → (∀ j', j' < j → may (pos N c j') = true → have_ q l c (pos N c j') ≤ 0) → ∃ r c', (∀ k, naive N q may (m + 1 + k) (G N q may l c j) (pos N c j) = some (r, c')) ∧ c' < N ∧ may c' = true ∧ 0 < r c' ∧ ∃ j, j < N ∧ r = G N q may l c j ∧ c' = pos N c j ∧ ∀ j', j' < j → may (pos N c j') = true → have_ q l c (pos N c j') ≤ 0 := by
    intro m
    have hoff := off_lt N hc hi
    induction m with
    | zero =>
      intro j h hb
      have hp : i0 = pos N c j := (off_pos N hc hi (by omega)).2 (by omega)
      refine ⟨G N q may l c j, pos N c j, fun k => ?_, pos_lt N hc (by omega), hp ▸ hm, ?_, j, by omega, rfl, rfl, hb⟩
      · rw [show 0 + 1 + k = k + 1 from by omega]
        show (if _ then _ else _) = _
        rw [G_at N q may l hc (by omega), if_pos ⟨hp ▸ hm, hp ▸ hh⟩]
      · rw [G_at N q may l hc (by omega), ← hp]; exact hh
    | succ m ih =>
      intro j h hb
      by_cases hd : may (pos N c j) = true ∧ 0 < have_ q l c (pos N c j)
      · refine ⟨G N q may l c j, pos N c j, fun k => ?_, pos_lt N hc (by omega), hd.1, ?_, j, by omega, rfl, rfl, hb⟩
        · rw [show m + 1 + 1 + k = (m + 1 + k) + 1 from by omega]
          show (if _ then _ else _) = _
          rw [G_at N q may l hc (by omega), if_pos hd]
        · rw [G_at N q may l hc (by omega)]; exact hd.2
      · obtain ⟨r, c', h1, h2⟩ := ih (j + 1) (by omega) (fun j' hj' hmj => by
          by_cases e : j' = j
          · subst e; exact Int.not_lt.1 fun h0 => hd ⟨hmj, h0⟩
          · exact hb j' (by omega) hmj)
        refine ⟨r, c', fun k => ?_, h2⟩
        rw [show m + 1 + 1 + k = (m + 1 + k) + 1 from by omega]
        show (if _ then _ else _) = _
        rw [G_at N q may l hc (by omega), if_neg hd, step_G N q may l hc (by omega), nxt_pos N hc (by omega)]
        exact h1 k
  obtain ⟨r, c', h1, h2⟩ := key (off N c i0) 0 (by omega) (fun j' h => by omega)
  have hp : pos N c 0 = c := by unfold pos; rw [if_pos (by omega)]; omega
  rw [G_zero, hp] at h1
  refine ⟨r, c', fun k => ?_, h2⟩
  have hoff := off_lt N hc hi
  have := h1 (N - off N c i0 + k)
  rw [show off N c i0 + 1 + (N - off N c i0 + k) = N + 1 + k from by omega] at this
  exact this
end
end Go.Sy.Drr
set_option maxRecDepth 100000
namespace Go.Sy.Dr
open Go.Sy Go.Proofs
structure drr_Turn where
  quanta : List Int
  left : List Int
  cur : Int
  deriving DecidableEq
def drr_Turn.z : drr_Turn := ⟨[], [], 0⟩
structure law24_Step where
  What : Int
  I : Int
  Cost : Int
  May : List Bool
  deriving DecidableEq
def law24_Step.z : law24_Step := ⟨0, 0, 0, []⟩
structure ref24_Turn where
  Quanta : List Int
  Left : List Int
  Cur : Int
  deriving DecidableEq
def ref24_Turn.z : ref24_Turn := ⟨[], [], 0⟩
def C : Nat → Type
  | 0 => drr_Turn
  | 1 => Int × Int × Int × Int × Int × Int
  | 2 => law24_Step
  | 3 => ref24_Turn
  | _ + 4 => Unit
def F : Nat → List Ty
  | 0 => [.sl (.int .i64), .sl (.int .i64), .int .i64]
  | 1 => [.int .i64, .int .i64, .int .i64, .int .i64, .int .i64, .int .i64]
  | 2 => [.int .i64, .int .i64, .int .i64, .sl .bool]
  | 3 => [.sl (.int .i64), .sl (.int .i64), .int .i64]
  | _ + 4 => []
def ex : (t : Nat) → C t → Tup C (F t)
  | 0, (x : drr_Turn) => (x.quanta, x.left, x.cur)
  | 1, (x : Int × Int × Int × Int × Int × Int) => (x.1, x.2.1, x.2.2.1, x.2.2.2.1, x.2.2.2.2.1, x.2.2.2.2.2)
  | 2, (x : law24_Step) => (x.What, x.I, x.Cost, x.May)
  | 3, (x : ref24_Turn) => (x.Quanta, x.Left, x.Cur)
  | _ + 4, _ => ()
def im : (t : Nat) → Tup C (F t) → C t
  | 0, (a0, a1, a2) => drr_Turn.mk a0 a1 a2
  | 1, (a0, a1, a2, a3, a4, a5) => (a0, a1, a2, a3, a4, a5)
  | 2, (a0, a1, a2, a3) => law24_Step.mk a0 a1 a2 a3
  | 3, (a0, a1, a2) => ref24_Turn.mk a0 a1 a2
  | _ + 4, _ => ()
def fldT : Nat → List (Nat × Ty)
  | 0 => [(0, .sl (.int .i64)), (1, .sl (.int .i64)), (2, .int .i64)]
  | 1 => rowFlds (.int .i64) 6 0
  | 2 => [(0, .int .i64), (1, .int .i64), (2, .int .i64), (3, .sl .bool)]
  | 3 => [(0, .sl (.int .i64)), (1, .sl (.int .i64)), (2, .int .i64)]
  | _ + 4 => []
def z : (t : Nat) → C t
  | 0 => drr_Turn.z
  | 1 => (0, 0, 0, 0, 0, 0)
  | 2 => law24_Step.z
  | 3 => ref24_Turn.z
  | _ + 4 => ()
def tyT : List (Nat × Ty) := [(3, .int .i64), (4, .bool), (5, .int .u8), (22, .sl (.int .u8)), (23, .sl (.int .u16)), (24, .sl (.int .i64)), (27, .int .i64), (31, .sl .bool), (32, .int .u16), (33, .int .u64), (41, .sl (.st 2)), (46, .st 2), (50, .st 3), (77, .st 0), (78, .st 1)]
def arT : List (Nat × (Nat × Ty)) := [(78, 6, .int .i64)]
def eqT : List (Nat × Unit) := []
def ptT : List (Nat × Unit) := [(26, ()), (42, ())]
abbrev S : Sen := ⟨C, F, ex, im, fun u f => (fldT u)[f]?, z, look tyT, fun t => (look ptT t).isSome, look arT, fun t => (look eqT t).isSome⟩
def bytT : List (Nat × Nat) := [(22, 1), (23, 2), (24, 8), (31, 1), (41, 48)]
def byt (t : Nat) : Nat := (look bytT t).getD 1
theorem senOk : SenOk S := ⟨fun | 0 => rfl | 1 => rfl | 2 => rfl | 3 => rfl | _ + 4 => rfl, fun | 0, _ => rfl | 1, _ => rfl | 2, _ => rfl | 3, _ => rfl | _ + 4, _ => rfl⟩
theorem ty3 : TyAt Try.prog S byt 3 (.int .i64) := tyAt_int rfl (by kernel_rfl) (by kernel_rfl) (by kernel_rfl)
theorem ty4 : TyAt Try.prog S byt 4 (.bool) := tyAt_bool rfl (by kernel_rfl) (by kernel_rfl) (by kernel_rfl)
theorem ty5 : TyAt Try.prog S byt 5 (.int .u8) := tyAt_int rfl (by kernel_rfl) (by kernel_rfl) (by kernel_rfl)
theorem ty22 : TyAt Try.prog S byt 22 (.sl (.int .u8)) := tyAt_sl rfl (by kernel_rfl) (by kernel_rfl) Try.underlying22 rfl rfl (by kernel_rfl) (by kernel_rfl)
theorem ty23 : TyAt Try.prog S byt 23 (.sl (.int .u16)) := tyAt_sl rfl (by kernel_rfl) (by kernel_rfl) Try.underlying23 rfl rfl (by kernel_rfl) (by kernel_rfl)
theorem ty24 : TyAt Try.prog S byt 24 (.sl (.int .i64)) := tyAt_sl rfl (by kernel_rfl) (by kernel_rfl) Try.underlying24 rfl rfl (by kernel_rfl) (by kernel_rfl)
theorem ty27 : TyAt Try.prog S byt 27 (.int .i64) := tyAt_int rfl (by kernel_rfl) (by kernel_rfl) (by kernel_rfl)
theorem ty31 : TyAt Try.prog S byt 31 (.sl .bool) := tyAt_sl rfl (by kernel_rfl) (by kernel_rfl) Try.underlying31 rfl rfl (by kernel_rfl) (by kernel_rfl)
theorem ty32 : TyAt Try.prog S byt 32 (.int .u16) := tyAt_int rfl (by kernel_rfl) (by kernel_rfl) (by kernel_rfl)
theorem ty33 : TyAt Try.prog S byt 33 (.int .u64) := tyAt_int rfl (by kernel_rfl) (by kernel_rfl) (by kernel_rfl)
theorem ty41 : TyAt Try.prog S byt 41 (.sl (.st 2)) := tyAt_sl rfl (by kernel_rfl) (by kernel_rfl) Try.underlying41 rfl rfl (by kernel_rfl) (by kernel_rfl)
theorem ty46 : TyAt Try.prog S byt 46 (.st 2) := tyAt_st (l := fldT 2) rfl (by kernel_rfl) rfl (by kernel_rfl) (by kernel_rfl) rfl (by kernel_rfl) Try.underlying46 (by kernel_rfl) (fun _ => rfl) rfl
theorem ty50 : TyAt Try.prog S byt 50 (.st 3) := tyAt_st (l := fldT 3) rfl (by kernel_rfl) rfl (by kernel_rfl) (by kernel_rfl) rfl (by kernel_rfl) Try.underlying50 (by kernel_rfl) (fun _ => rfl) rfl
theorem ty77 : TyAt Try.prog S byt 77 (.st 0) := tyAt_st (l := fldT 0) rfl (by kernel_rfl) rfl (by kernel_rfl) (by kernel_rfl) rfl (by kernel_rfl) Try.underlying77 (by kernel_rfl) (fun _ => rfl) rfl
theorem ty78 : TyAt Try.prog S byt 78 (.st 1) := tyAt_ar rfl (by kernel_rfl) rfl (by kernel_rfl) (by kernel_rfl) rfl (by kernel_rfl) Try.underlying78 rfl rfl rfl (by kernel_rfl) (fun _ => rfl) rfl
theorem progOk : ProgOk Try.prog S byt := ⟨senOk, fun t T h0 => by
  have h := look_mem (show look tyT t = some T from h0)
  simp only [tyT, List.mem_cons, Prod.mk.injEq, List.not_mem_nil, or_false] at h
  rcases h with ⟨rfl, rfl⟩ | ⟨rfl, rfl⟩ | ⟨rfl, rfl⟩ | ⟨rfl, rfl⟩ | ⟨rfl, rfl⟩ | ⟨rfl, rfl⟩ | ⟨rfl, rfl⟩ | ⟨rfl, rfl⟩ | ⟨rfl, rfl⟩ | ⟨rfl, rfl⟩ | ⟨rfl, rfl⟩ | ⟨rfl, rfl⟩ | ⟨rfl, rfl⟩ | ⟨rfl, rfl⟩ | ⟨rfl, rfl⟩
  · exact ty3
  · exact ty4
  · exact ty5
  · exact ty22
  · exact ty23
  · exact ty24
  · exact ty27
  · exact ty31
  · exact ty32
  · exact ty33
  · exact ty41
  · exact ty46
  · exact ty50
  · exact ty77
  · exact ty78, fun t h => by
  have h2 : ∃ u, look ptT t = some u := Option.isSome_iff_exists.1 h
  obtain ⟨u, h2⟩ := h2
  have h := look_mem h2
  simp only [ptT, List.mem_cons, Prod.mk.injEq, List.not_mem_nil, or_false] at h
  rcases h with ⟨rfl, _⟩ | ⟨rfl, _⟩
  · exact ⟨_, Try.underlying26⟩
  · exact ⟨_, Try.underlying42⟩, fun t h => by
  have h2 : ∃ u, look eqT t = some u := Option.isSome_iff_exists.1 h
  obtain ⟨u, h2⟩ := h2
  have h := look_mem h2
  simp [eqT] at h⟩
theorem mixed : Try.prog.follows .mixedOrders = true := by kernel_rfl
def bz (e : Ty) : Nat := if e = .int .u8 then 1 else if e = .int .u16 then 2 else if e = .int .i64 then 8 else if e = .bool then 1 else if e = .st 2 then 48 else 1
def tyA : List (Nat × Ty) := [(3, .int .i64), (4, .bool), (5, .int .u8), (22, .sl (.int .u8)), (23, .sl (.int .u16)), (24, .sl (.int .i64)), (31, .sl .bool), (32, .int .u16), (41, .sl (.st 2)), (46, .st 2)]
/-- The arguments' types alone. -/
abbrev SA : Sen := S.withT (look tyA) (fun _ => false) (fun _ => none) (fun _ => false)
theorem tyA3 : TyAt Try.prog SA byt 3 (.int .i64) := tyAt_int rfl (by kernel_rfl) (by kernel_rfl) (by kernel_rfl)
theorem tyA4 : TyAt Try.prog SA byt 4 (.bool) := tyAt_bool rfl (by kernel_rfl) (by kernel_rfl) (by kernel_rfl)
theorem tyA5 : TyAt Try.prog SA byt 5 (.int .u8) := tyAt_int rfl (by kernel_rfl) (by kernel_rfl) (by kernel_rfl)
theorem tyA22 : TyAt Try.prog SA byt 22 (.sl (.int .u8)) := tyAt_sl rfl (by kernel_rfl) (by kernel_rfl) Try.underlying22 rfl rfl (by kernel_rfl) (by kernel_rfl)
theorem tyA23 : TyAt Try.prog SA byt 23 (.sl (.int .u16)) := tyAt_sl rfl (by kernel_rfl) (by kernel_rfl) Try.underlying23 rfl rfl (by kernel_rfl) (by kernel_rfl)
theorem tyA24 : TyAt Try.prog SA byt 24 (.sl (.int .i64)) := tyAt_sl rfl (by kernel_rfl) (by kernel_rfl) Try.underlying24 rfl rfl (by kernel_rfl) (by kernel_rfl)
theorem tyA31 : TyAt Try.prog SA byt 31 (.sl .bool) := tyAt_sl rfl (by kernel_rfl) (by kernel_rfl) Try.underlying31 rfl rfl (by kernel_rfl) (by kernel_rfl)
theorem tyA32 : TyAt Try.prog SA byt 32 (.int .u16) := tyAt_int rfl (by kernel_rfl) (by kernel_rfl) (by kernel_rfl)
theorem tyA41 : TyAt Try.prog SA byt 41 (.sl (.st 2)) := tyAt_sl rfl (by kernel_rfl) (by kernel_rfl) Try.underlying41 rfl rfl (by kernel_rfl) (by kernel_rfl)
theorem tyA46 : TyAt Try.prog SA byt 46 (.st 2) := tyAt_st (l := fldT 2) rfl (by kernel_rfl) rfl (by kernel_rfl) (by kernel_rfl) rfl (by kernel_rfl) Try.underlying46 (by kernel_rfl) (fun _ => rfl) rfl
theorem senOkA : SenOk SA := ⟨senOk.flat, senOk.exim⟩
theorem progOkA : ProgOk Try.prog SA byt := ⟨senOkA, fun t e h0 => by
  have h := look_mem (show look tyA t = some (e) from h0)
  simp only [tyA, List.mem_cons, Prod.mk.injEq, List.not_mem_nil, or_false] at h
  rcases h with ⟨rfl, h⟩ | ⟨rfl, h⟩ | ⟨rfl, h⟩ | ⟨rfl, h⟩ | ⟨rfl, h⟩ | ⟨rfl, h⟩ | ⟨rfl, h⟩ | ⟨rfl, h⟩ | ⟨rfl, h⟩ | ⟨rfl, h⟩
  · subst h; exact tyA3
  · subst h; exact tyA4
  · subst h; exact tyA5
  · subst h; exact tyA22
  · subst h; exact tyA23
  · subst h; exact tyA24
  · subst h; exact tyA31
  · subst h; exact tyA32
  · subst h; exact tyA41
  · subst h; exact tyA46, fun t h => (nomatch h), fun t h => (nomatch h)⟩
theorem hbz : ∀ t e, SA.ty t = some (.sl e) → byt t = bz e := fun t e h0 => by
  have h := look_mem (show look tyA t = some (.sl e) from h0)
  simp only [tyA, List.mem_cons, Prod.mk.injEq, List.not_mem_nil, or_false] at h
  rcases h with ⟨rfl, h⟩ | ⟨rfl, h⟩ | ⟨rfl, h⟩ | ⟨rfl, h⟩ | ⟨rfl, h⟩ | ⟨rfl, h⟩ | ⟨rfl, h⟩ | ⟨rfl, h⟩ | ⟨rfl, h⟩ | ⟨rfl, h⟩
  · cases h
  · cases h
  · cases h
  · cases h; decide
  · cases h; decide
  · cases h; decide
  · cases h; decide
  · cases h
  · cases h; decide
  · cases h
theorem slOk : SlOk SA := fun t e h0 => by
  have h := look_mem (show look tyA t = some (.sl e) from h0)
  simp only [tyA, List.mem_cons, Prod.mk.injEq, List.not_mem_nil, or_false] at h
  rcases h with ⟨rfl, h⟩ | ⟨rfl, h⟩ | ⟨rfl, h⟩ | ⟨rfl, h⟩ | ⟨rfl, h⟩ | ⟨rfl, h⟩ | ⟨rfl, h⟩ | ⟨rfl, h⟩ | ⟨rfl, h⟩ | ⟨rfl, h⟩
  · cases h
  · cases h
  · cases h
  · cases h; decide
  · cases h; decide
  · cases h; decide
  · cases h; decide
  · cases h
  · cases h; decide
  · cases h
theorem stOk : StOk Try.prog SA := fun t e h0 => by
  have h := look_mem (show look tyA t = some (.st e) from h0)
  simp only [tyA, List.mem_cons, Prod.mk.injEq, List.not_mem_nil, or_false] at h
  rcases h with ⟨rfl, h⟩ | ⟨rfl, h⟩ | ⟨rfl, h⟩ | ⟨rfl, h⟩ | ⟨rfl, h⟩ | ⟨rfl, h⟩ | ⟨rfl, h⟩ | ⟨rfl, h⟩ | ⟨rfl, h⟩ | ⟨rfl, h⟩
  · cases h
  · cases h
  · cases h
  · cases h
  · cases h
  · cases h
  · cases h
  · cases h
  · cases h
  · cases h; exact stOk_of Try.underlying46 (by kernel_rfl)
abbrev arr_0 : Int × Int × Int × Int × Int × Int := (1, 0, 0, 1, 0, 0)
/-! ### 12 cotillion/cotillionlaw24.quanta -/
noncomputable def law24_quanta_l0 : Nat → (List Int) → (List Int) → Int → Option (List Int)
  | 0, _, _, _ => none
  | k + 1, v, out, i => if i < (v.length : Int) then
    if i < 8 then
    if 0 ≤ i then
    if i < (v.length : Int) then
    if ¬ (6 : Int) = 0 then
    if (out.length + [w64 (1 + ((w64 (v.getD i.toNat 0)).tmod 6))].length) * 8 ≤ 140737488355328 then
    law24_quanta_l0 k v (out ++ [w64 (1 + ((w64 (v.getD i.toNat 0)).tmod 6))]) (w64 (i + 1)) else none else none else none else none else
    some out else
    some out
noncomputable def law24_quanta_f (k : Nat) (v : List Int) : Option (List Int) := law24_quanta_l0 k v [3] 0
noncomputable def law24_quanta (v : List Int) : Option (List Int) := lim (fun k (x : List Int) => law24_quanta_f k x) v
noncomputable abbrev law24_quanta_T : Tab S := ⟨[], [], false⟩
noncomputable def law24_quanta_L (k : Nat) : Nat → List (Lab S (List Int))
  | 0 => [⟨[0, 3, 4], [.val (.data (.sl (.int .u8))), .val (.marr (.int .i64)), .val (.data (.int .i64))], fun x => law24_quanta_l0 k x.1 x.2.1 x.2.2⟩]
  | _ + 1 => []
theorem law24_quanta_eq (k : Nat) (v : List Int) : law24_quanta_f k v = exec S (law24_quanta_T) byt (labs S (law24_quanta_T) (law24_quanta_L k)) (ac [] Try.f12) (frame0 S [.val (.data (.sl (.int .u8)))] v) (retK S (law24_quanta_T) Try.f12 [.val (.data (.sl (.int .u8)))] [.val (.marr (.int .i64))]) := by kernel_rfl
theorem law24_quanta_vc (k : Nat) : VC S (law24_quanta_T) byt (law24_quanta_L k) (law24_quanta_L (k + 1)) (ac [] Try.f12) (retK S (law24_quanta_T) Try.f12 [.val (.data (.sl (.int .u8)))] [.val (.marr (.int .i64))]) = [∀ x : List Int × List Int × Int, law24_quanta_l0 (k + 1) x.1 x.2.1 x.2.2 = law24_quanta_l0 (k + 1) x.1 x.2.1 x.2.2] := by kernel_rfl
theorem law24_quanta_sndk (k : Nat) : Snd Try.prog S ⟨12, [.val (.data (.sl (.int .u8)))], [.val (.marr (.int .i64))], fun x => law24_quanta_f k x⟩ :=
  fn_ok progOk (T := (law24_quanta_T)) (all_nil) (all_nil) mixed Try.func12 rfl (by kernel_rfl) (ac_code [] Try.f12 rfl) (L := law24_quanta_L)
    (fun n l h x => by match n, h with
        | 0, h => 
          rcases List.mem_cons.1 h with rfl | h
          · rfl
          cases h
        | _ + 1, h => cases h) (fun k n l h => by match n, h with
        | 0, h => 
          rcases List.mem_cons.1 h with rfl | h
          · rfl
          cases h
        | _ + 1, h => cases h)
    (fun k => All.mem (law24_quanta_vc k) ⟨fun _ => rfl, trivial⟩) (fun x r h => ⟨k, (law24_quanta_eq k x).symm.trans h⟩) (by kernel_rfl) (by kernel_rfl) (Nat.le_of_ble_eq_true (by kernel_rfl))
theorem law24_quanta_snd : Snd Try.prog S ⟨12, [.val (.data (.sl (.int .u8)))], [.val (.marr (.int .i64))], fun x => law24_quanta x⟩ := Snd.lim law24_quanta_sndk
/-! ### 35 cotillion/drr.New$1 -/
noncomputable def drr_New_S1  (n : Int) : Option Bool := if n < 1 then some true else some (decide (65536 < n))
noncomputable abbrev drr_New_S1_T : Tab S := ⟨[], [], false⟩
noncomputable def drr_New_S1_L (k : Nat) : Nat → List (Lab S Bool)
  | _ => []
theorem drr_New_S1_eq (k : Nat) (n : Int) : drr_New_S1 n = exec S (drr_New_S1_T) byt (labs S (drr_New_S1_T) (drr_New_S1_L k)) (ac [] Try.f35) (frame0 S [.val (.data (.int .i64))] n) (retK S (drr_New_S1_T) Try.f35 [.val (.data (.int .i64))] [.val (.data .bool)]) := by kernel_rfl
theorem drr_New_S1_vc (k : Nat) : VC S (drr_New_S1_T) byt (drr_New_S1_L k) (drr_New_S1_L (k + 1)) (ac [] Try.f35) (retK S (drr_New_S1_T) Try.f35 [.val (.data (.int .i64))] [.val (.data .bool)]) = [] := by kernel_rfl
theorem drr_New_S1_snd : Snd Try.prog S ⟨35, [.val (.data (.int .i64))], [.val (.data .bool)], fun x => drr_New_S1 x⟩ :=
  fn_ok progOk (T := (drr_New_S1_T)) (all_nil) (all_nil) mixed Try.func35 rfl (by kernel_rfl) (ac_code [] Try.f35 rfl) (L := drr_New_S1_L)
    (fun n l h x => by cases h) (fun k n l h => by cases h)
    (fun k => All.mem (drr_New_S1_vc k) trivial) (fun x r h => ⟨0, (drr_New_S1_eq 0 x).symm.trans h⟩) (by kernel_rfl) (by kernel_rfl) (Nat.le_of_ble_eq_true (by kernel_rfl))
theorem drr_New_S1_fsnd : FSnd Try.prog S ⟨35, [.int .i64], [], [.bool], fun x c => drr_New_S1 x⟩ := FSnd.of (a := [.int .i64]) (c := []) (r := [.bool]) drr_New_S1_snd (fun _ _ z h => ⟨z, h, rfl⟩)
/-! ### 48 slices.IndexFunc[[]int,int] -/
noncomputable def slices_IndexFunc_int_int_l0 : Nat → (List Int) → (Int → Option Bool) → Int → Int → Option Int
  | 0, _, _, _, _ => none
  | k + 1, s, f, x7, x8 => if x8 < x7 then
    if 0 ≤ x8 then
    if x8 < (s.length : Int) then
    (f (s.getD x8.toNat 0)).bind fun r1 =>
    bif r1 then
    some x8 else
    slices_IndexFunc_int_int_l0 k s f x7 (w64 (x8 + 1)) else none else none else
    some (-1)
noncomputable def slices_IndexFunc_int_int_f (k : Nat) (s : List Int) (f : Int → Option Bool) : Option Int := slices_IndexFunc_int_int_l0 k s f (s.length : Int) 0
noncomputable def slices_IndexFunc_int_int (s : List Int) (f : Int → Option Bool) : Option Int := lim (fun k (x : List Int × (Int → Option Bool)) => slices_IndexFunc_int_int_f k x.1 x.2) (s, f)
noncomputable abbrev slices_IndexFunc_int_int_T : Tab S := ⟨[], [], false⟩
noncomputable def slices_IndexFunc_int_int_L (k : Nat) : Nat → List (Lab S Int)
  | 0 => [⟨[0, 1, 7, 8], [.val (.data (.sl (.int .i64))), .fn [.int .i64] [.bool], .val (.data (.int .i64)), .val (.data (.int .i64))], fun x => slices_IndexFunc_int_int_l0 k x.1 x.2.1 x.2.2.1 x.2.2.2⟩]
  | _ + 1 => []
theorem slices_IndexFunc_int_int_eq (k : Nat) (s : List Int) (f : Int → Option Bool) : slices_IndexFunc_int_int_f k s f = exec S (slices_IndexFunc_int_int_T) byt (labs S (slices_IndexFunc_int_int_T) (slices_IndexFunc_int_int_L k)) (ac [] Try.f48) (frame0 S [.val (.data (.sl (.int .i64))), .fn [.int .i64] [.bool]] (s, f)) (retK S (slices_IndexFunc_int_int_T) Try.f48 [.val (.data (.sl (.int .i64))), .fn [.int .i64] [.bool]] [.val (.data (.int .i64))]) := by kernel_rfl
theorem slices_IndexFunc_int_int_vc (k : Nat) : VC S (slices_IndexFunc_int_int_T) byt (slices_IndexFunc_int_int_L k) (slices_IndexFunc_int_int_L (k + 1)) (ac [] Try.f48) (retK S (slices_IndexFunc_int_int_T) Try.f48 [.val (.data (.sl (.int .i64))), .fn [.int .i64] [.bool]] [.val (.data (.int .i64))]) = [∀ x : List Int × (Int → Option Bool) × Int × Int, slices_IndexFunc_int_int_l0 (k + 1) x.1 x.2.1 x.2.2.1 x.2.2.2 = slices_IndexFunc_int_int_l0 (k + 1) x.1 x.2.1 x.2.2.1 x.2.2.2] := by kernel_rfl
theorem slices_IndexFunc_int_int_sndk (k : Nat) : Snd Try.prog S ⟨48, [.val (.data (.sl (.int .i64))), .fn [.int .i64] [.bool]], [.val (.data (.int .i64))], fun x => slices_IndexFunc_int_int_f k x.1 x.2⟩ :=
  fn_ok progOk (T := (slices_IndexFunc_int_int_T)) (all_nil) (all_nil) mixed Try.func48 rfl (by kernel_rfl) (ac_code [] Try.f48 rfl) (L := slices_IndexFunc_int_int_L)
    (fun n l h x => by match n, h with
        | 0, h => 
          rcases List.mem_cons.1 h with rfl | h
          · rfl
          cases h
        | _ + 1, h => cases h) (fun k n l h => by match n, h with
        | 0, h => 
          rcases List.mem_cons.1 h with rfl | h
          · rfl
          cases h
        | _ + 1, h => cases h)
    (fun k => All.mem (slices_IndexFunc_int_int_vc k) ⟨fun _ => rfl, trivial⟩) (fun x r h => ⟨k, (slices_IndexFunc_int_int_eq k x.1 x.2).symm.trans h⟩) (by kernel_rfl) (by kernel_rfl) (Nat.le_of_ble_eq_true (by kernel_rfl))
theorem slices_IndexFunc_int_int_snd : Snd Try.prog S ⟨48, [.val (.data (.sl (.int .i64))), .fn [.int .i64] [.bool]], [.val (.data (.int .i64))], fun x => slices_IndexFunc_int_int x.1 x.2⟩ := Snd.lim slices_IndexFunc_int_int_sndk
/-! ### 36 slices.ContainsFunc[[]int,int] -/
noncomputable def slices_ContainsFunc_int_int  (s : List Int) (f : Int → Option Bool) : Option Bool := (slices_IndexFunc_int_int s f).bind fun r1 => some (decide (0 ≤ r1))
noncomputable abbrev slices_ContainsFunc_int_int_T : Tab S := ⟨[⟨48, [.val (.data (.sl (.int .i64))), .fn [.int .i64] [.bool]], [.val (.data (.int .i64))], fun x => slices_IndexFunc_int_int x.1 x.2⟩], [], false⟩
noncomputable def slices_ContainsFunc_int_int_L (k : Nat) : Nat → List (Lab S Bool)
  | _ => []
theorem slices_ContainsFunc_int_int_eq (k : Nat) (s : List Int) (f : Int → Option Bool) : slices_ContainsFunc_int_int s f = exec S (slices_ContainsFunc_int_int_T) byt (labs S (slices_ContainsFunc_int_int_T) (slices_ContainsFunc_int_int_L k)) (ac [] Try.f36) (frame0 S [.val (.data (.sl (.int .i64))), .fn [.int .i64] [.bool]] (s, f)) (retK S (slices_ContainsFunc_int_int_T) Try.f36 [.val (.data (.sl (.int .i64))), .fn [.int .i64] [.bool]] [.val (.data .bool)]) := by kernel_rfl
theorem slices_ContainsFunc_int_int_vc (k : Nat) : VC S (slices_ContainsFunc_int_int_T) byt (slices_ContainsFunc_int_int_L k) (slices_ContainsFunc_int_int_L (k + 1)) (ac [] Try.f36) (retK S (slices_ContainsFunc_int_int_T) Try.f36 [.val (.data (.sl (.int .i64))), .fn [.int .i64] [.bool]] [.val (.data .bool)]) = [] := by kernel_rfl
theorem slices_ContainsFunc_int_int_snd : Snd Try.prog S ⟨36, [.val (.data (.sl (.int .i64))), .fn [.int .i64] [.bool]], [.val (.data .bool)], fun x => slices_ContainsFunc_int_int x.1 x.2⟩ :=
  fn_ok progOk (T := (slices_ContainsFunc_int_int_T)) (all_cons slices_IndexFunc_int_int_snd (all_nil)) (all_nil) mixed Try.func36 rfl (by kernel_rfl) (ac_code [] Try.f36 rfl) (L := slices_ContainsFunc_int_int_L)
    (fun n l h x => by cases h) (fun k n l h => by cases h)
    (fun k => All.mem (slices_ContainsFunc_int_int_vc k) trivial) (fun x r h => ⟨0, (slices_ContainsFunc_int_int_eq 0 x.1 x.2).symm.trans h⟩) (by kernel_rfl) (by kernel_rfl) (Nat.le_of_ble_eq_true (by kernel_rfl))
/-! ### 37 slices.Clone[[]int,int] -/
noncomputable def slices_Clone_int_int  (s : List Int) : Option (List Int) := if s.length = 0 then
    agree (some []) (if (([] : List Int).length + s.length) * 8 ≤ 140737488355328 then
    some (([] : List Int) ++ s) else none) else
    if (([] : List Int).length + s.length) * 8 ≤ 140737488355328 then
    some (([] : List Int) ++ s) else none
noncomputable abbrev slices_Clone_int_int_T : Tab S := ⟨[], [], true⟩
noncomputable def slices_Clone_int_int_L (k : Nat) : Nat → List (Lab S (List Int))
  | _ => []
theorem slices_Clone_int_int_eq (k : Nat) (s : List Int) : slices_Clone_int_int s = exec S (slices_Clone_int_int_T) byt (labs S (slices_Clone_int_int_T) (slices_Clone_int_int_L k)) (ac [] Try.f37) (frame0 S [.val (.data (.sl (.int .i64)))] s) (retK S (slices_Clone_int_int_T) Try.f37 [.val (.data (.sl (.int .i64)))] [.val (.marr (.int .i64))]) := by kernel_rfl
theorem slices_Clone_int_int_vc (k : Nat) : VC S (slices_Clone_int_int_T) byt (slices_Clone_int_int_L k) (slices_Clone_int_int_L (k + 1)) (ac [] Try.f37) (retK S (slices_Clone_int_int_T) Try.f37 [.val (.data (.sl (.int .i64)))] [.val (.marr (.int .i64))]) = [] := by kernel_rfl
theorem slices_Clone_int_int_snd : Snd Try.prog S ⟨37, [.val (.data (.sl (.int .i64)))], [.val (.marr (.int .i64))], fun x => slices_Clone_int_int x⟩ :=
  fn_ok progOk (T := (slices_Clone_int_int_T)) (all_nil) (all_nil) mixed Try.func37 rfl (by kernel_rfl) (ac_code [] Try.f37 rfl) (L := slices_Clone_int_int_L)
    (fun n l h x => by cases h) (fun k n l h => by cases h)
    (fun k => All.mem (slices_Clone_int_int_vc k) trivial) (fun x r h => ⟨0, (slices_Clone_int_int_eq 0 x).symm.trans h⟩) (by kernel_rfl) (by kernel_rfl) (Nat.le_of_ble_eq_true (by kernel_rfl))
/-! ### 13 cotillion/drr.New -/
noncomputable def drr_New  (quanta : List Int) : Option ((Option (List Int × List Int × Int)) × Int) := if (quanta.length : Int) = 0 then
    some (none, 1) else
    (slices_ContainsFunc_int_int quanta (fun y => drr_New_S1 y)).bind fun r1 =>
    bif r1 then
    some (none, 1) else
    (slices_Clone_int_int quanta).bind fun r2 =>
    if 0 ≤ (quanta.length : Int) then
    if (quanta.length : Int) ≤ (quanta.length : Int) then
    if (quanta.length : Int) * 8 ≤ 140737488355328 then
    some (some (r2, List.replicate (quanta.length : Int).toNat 0, 0), 0) else none else none else none
noncomputable abbrev drr_New_T : Tab S := ⟨[⟨36, [.val (.data (.sl (.int .i64))), .fn [.int .i64] [.bool]], [.val (.data .bool)], fun x => slices_ContainsFunc_int_int x.1 x.2⟩, ⟨37, [.val (.data (.sl (.int .i64)))], [.val (.marr (.int .i64))], fun x => slices_Clone_int_int x⟩], [⟨35, [.int .i64], [], [.bool], fun x c => drr_New_S1 x⟩], false⟩
noncomputable def drr_New_L (k : Nat) : Nat → List (Lab S ((Option (List Int × List Int × Int)) × Int))
  | _ => []
theorem drr_New_eq (k : Nat) (quanta : List Int) : drr_New quanta = exec S (drr_New_T) byt (labs S (drr_New_T) (drr_New_L k)) (ac [] Try.f13) (frame0 S [.val (.data (.sl (.int .i64)))] quanta) (retK S (drr_New_T) Try.f13 [.val (.data (.sl (.int .i64)))] [.opt [.data (.sl (.int .i64)), .marr (.int .i64), .data (.int .i64)], .val (.data (.int .i64))]) := by kernel_rfl
theorem drr_New_vc (k : Nat) : VC S (drr_New_T) byt (drr_New_L k) (drr_New_L (k + 1)) (ac [] Try.f13) (retK S (drr_New_T) Try.f13 [.val (.data (.sl (.int .i64)))] [.opt [.data (.sl (.int .i64)), .marr (.int .i64), .data (.int .i64)], .val (.data (.int .i64))]) = [] := by kernel_rfl
theorem drr_New_snd : Snd Try.prog S ⟨13, [.val (.data (.sl (.int .i64)))], [.opt [.data (.sl (.int .i64)), .marr (.int .i64), .data (.int .i64)], .val (.data (.int .i64))], fun x => drr_New x⟩ :=
  fn_ok progOk (T := (drr_New_T)) (all_cons slices_ContainsFunc_int_int_snd (all_cons slices_Clone_int_int_snd (all_nil))) (all_cons drr_New_S1_fsnd (all_nil)) mixed Try.func13 rfl (by kernel_rfl) (ac_code [] Try.f13 rfl) (L := drr_New_L)
    (fun n l h x => by cases h) (fun k n l h => by cases h)
    (fun k => All.mem (drr_New_vc k) trivial) (fun x r h => ⟨0, (drr_New_eq 0 x).symm.trans h⟩) (by kernel_rfl) (by kernel_rfl) (Nat.le_of_ble_eq_true (by kernel_rfl))
/-! ### 38 (*cotillion/drr.Turn).Next$1 -/
noncomputable def drr_Turn_Next_S1  (i : Int) (x1 : List Bool) : Option Bool := if i < (x1.length : Int) then
    if 0 ≤ i then
    if i < (x1.length : Int) then
    some (x1.getD i.toNat false) else none else none else
    some false
noncomputable abbrev drr_Turn_Next_S1_T : Tab S := ⟨[], [], false⟩
noncomputable def drr_Turn_Next_S1_L (k : Nat) : Nat → List (Lab S Bool)
  | _ => []
theorem drr_Turn_Next_S1_eq (k : Nat) (i : Int) (x1 : List Bool) : drr_Turn_Next_S1 i x1 = exec S (drr_Turn_Next_S1_T) byt (labs S (drr_Turn_Next_S1_T) (drr_Turn_Next_S1_L k)) (ac [] Try.f38) (frame0 S [.val (.data (.int .i64)), .ro (.sl .bool)] (i, x1)) (retK S (drr_Turn_Next_S1_T) Try.f38 [.val (.data (.int .i64)), .ro (.sl .bool)] [.val (.data .bool)]) := by kernel_rfl
theorem drr_Turn_Next_S1_vc (k : Nat) : VC S (drr_Turn_Next_S1_T) byt (drr_Turn_Next_S1_L k) (drr_Turn_Next_S1_L (k + 1)) (ac [] Try.f38) (retK S (drr_Turn_Next_S1_T) Try.f38 [.val (.data (.int .i64)), .ro (.sl .bool)] [.val (.data .bool)]) = [] := by kernel_rfl
theorem drr_Turn_Next_S1_snd : Snd Try.prog S ⟨38, [.val (.data (.int .i64)), .ro (.sl .bool)], [.val (.data .bool)], fun x => drr_Turn_Next_S1 x.1 x.2⟩ :=
  fn_ok progOk (T := (drr_Turn_Next_S1_T)) (all_nil) (all_nil) mixed Try.func38 rfl (by kernel_rfl) (ac_code [] Try.f38 rfl) (L := drr_Turn_Next_S1_L)
    (fun n l h x => by cases h) (fun k n l h => by cases h)
    (fun k => All.mem (drr_Turn_Next_S1_vc k) trivial) (fun x r h => ⟨0, (drr_Turn_Next_S1_eq 0 x.1 x.2).symm.trans h⟩) (by kernel_rfl) (by kernel_rfl) (Nat.le_of_ble_eq_true (by kernel_rfl))
theorem drr_Turn_Next_S1_fsnd : FSnd Try.prog S ⟨38, [.int .i64], [.sl .bool], [.bool], fun x c => drr_Turn_Next_S1 x c⟩ := FSnd.of (a := [.int .i64]) (c := [.sl .bool]) (r := [.bool]) drr_Turn_Next_S1_snd (fun _ _ z h => ⟨z, h, rfl⟩)
/-! ### 39 (*cotillion/drr.Turn).rounds -/
noncomputable def drr_Turn_rounds  (t : List Int × List Int × Int) (i : Int) : Option (Int × (List Int × List Int × Int)) := if 0 ≤ i then
    if i < (t.2.1.length : Int) then
    if i ≠ t.2.2 then
    if 0 ≤ i then
    if i < (t.1.length : Int) then
    if 0 < (w64 ((t.2.1.getD i.toNat 0) + (t.1.getD i.toNat 0))) then
    some (0, (t.1, t.2.1, t.2.2)) else
    if 0 ≤ i then
    if i < (t.1.length : Int) then
    if ¬ (t.1.getD i.toNat 0) = 0 then
    some (w64 ((w64 ((w64 (0 - (w64 ((t.2.1.getD i.toNat 0) + (t.1.getD i.toNat 0))))).tdiv (t.1.getD i.toNat 0))) + 1), (t.1, t.2.1, t.2.2)) else none else none else none else none else none else
    if 0 < (t.2.1.getD i.toNat 0) then
    some (0, (t.1, t.2.1, t.2.2)) else
    if 0 ≤ i then
    if i < (t.1.length : Int) then
    if ¬ (t.1.getD i.toNat 0) = 0 then
    some (w64 ((w64 ((w64 (0 - (t.2.1.getD i.toNat 0))).tdiv (t.1.getD i.toNat 0))) + 1), (t.1, t.2.1, t.2.2)) else none else none else none else none else none
noncomputable abbrev drr_Turn_rounds_T : Tab S := ⟨[], [], false⟩
noncomputable def drr_Turn_rounds_L (k : Nat) : Nat → List (Lab S (Int × (List Int × List Int × Int)))
  | _ => []
theorem drr_Turn_rounds_eq (k : Nat) (t : List Int × List Int × Int) (i : Int) : drr_Turn_rounds t i = exec S (drr_Turn_rounds_T) byt (labs S (drr_Turn_rounds_T) (drr_Turn_rounds_L k)) (ac [] Try.f39) (frame0 S [.obj [.data (.sl (.int .i64)), .marr (.int .i64), .data (.int .i64)], .val (.data (.int .i64))] (t, i)) (retK S (drr_Turn_rounds_T) Try.f39 [.obj [.data (.sl (.int .i64)), .marr (.int .i64), .data (.int .i64)], .val (.data (.int .i64))] [.val (.data (.int .i64))]) := by kernel_rfl
theorem drr_Turn_rounds_vc (k : Nat) : VC S (drr_Turn_rounds_T) byt (drr_Turn_rounds_L k) (drr_Turn_rounds_L (k + 1)) (ac [] Try.f39) (retK S (drr_Turn_rounds_T) Try.f39 [.obj [.data (.sl (.int .i64)), .marr (.int .i64), .data (.int .i64)], .val (.data (.int .i64))] [.val (.data (.int .i64))]) = [] := by kernel_rfl
theorem drr_Turn_rounds_snd : Snd Try.prog S ⟨39, [.obj [.data (.sl (.int .i64)), .marr (.int .i64), .data (.int .i64)], .val (.data (.int .i64))], [.val (.data (.int .i64))], fun x => drr_Turn_rounds x.1 x.2⟩ :=
  fn_ok progOk (T := (drr_Turn_rounds_T)) (all_nil) (all_nil) mixed Try.func39 rfl (by kernel_rfl) (ac_code [] Try.f39 rfl) (L := drr_Turn_rounds_L)
    (fun n l h x => by cases h) (fun k n l h => by cases h)
    (fun k => All.mem (drr_Turn_rounds_vc k) trivial) (fun x r h => ⟨0, (drr_Turn_rounds_eq 0 x.1 x.2).symm.trans h⟩) (by kernel_rfl) (by kernel_rfl) (Nat.le_of_ble_eq_true (by kernel_rfl))
/-! ### 40 (*cotillion/drr.Turn).jump -/
noncomputable def drr_Turn_jump_l0 : Nat → (List Int) → (List Int) → Int → Int → (Int → Option Bool) → (List Int) → Int → Int → Option (List Int × List Int × Int)
  | 0, _, _, _, _, _, _, _, _ => none
  | k + 1, t_quanta, t_left, t_cur, n, ask, x13, x14, x15 => if x15 < x14 then
    if 0 ≤ x15 then
    if x15 < (x13.length : Int) then
    (ask x15).bind fun r1 =>
    bif r1 then
    if 0 ≤ x15 then
    if x15 < (t_left.length : Int) then
    if 0 ≤ x15 then
    if x15 < (t_left.length : Int) then
    drr_Turn_jump_l0 k t_quanta (t_left.set x15.toNat (w64 ((t_left.getD x15.toNat 0) + (w64 (n * (x13.getD x15.toNat 0)))))) t_cur n ask x13 x14 (w64 (x15 + 1)) else none else none else none else none else
    if x15 = t_cur then
    if 0 ≤ x15 then
    if x15 < (t_left.length : Int) then
    if 0 ≤ x15 then
    if x15 < (t_left.length : Int) then
    drr_Turn_jump_l0 k t_quanta (t_left.set x15.toNat (w64 ((min (w64 ((min (t_left.getD x15.toNat 0) 0) + (w64 ((w64 (n - 1)) * (x13.getD x15.toNat 0))))) 0) + (x13.getD x15.toNat 0)))) t_cur n ask x13 x14 (w64 (x15 + 1)) else none else none else none else none else
    if 0 ≤ x15 then
    if x15 < (t_left.length : Int) then
    if 0 ≤ x15 then
    if x15 < (t_left.length : Int) then
    drr_Turn_jump_l0 k t_quanta (t_left.set x15.toNat (min (w64 ((t_left.getD x15.toNat 0) + (w64 (n * (x13.getD x15.toNat 0))))) 0)) t_cur n ask x13 x14 (w64 (x15 + 1)) else none else none else none else none else none else none else
    some (t_quanta, t_left, t_cur)
noncomputable def drr_Turn_jump_f (k : Nat) (t : List Int × List Int × Int) (n : Int) (ask : Int → Option Bool) : Option (List Int × List Int × Int) := if n = 0 then
    some (t.1, t.2.1, t.2.2) else
    drr_Turn_jump_l0 k t.1 t.2.1 t.2.2 n ask t.1 (t.1.length : Int) 0
noncomputable def drr_Turn_jump (t : List Int × List Int × Int) (n : Int) (ask : Int → Option Bool) : Option (List Int × List Int × Int) := lim (fun k (x : (List Int × List Int × Int) × Int × (Int → Option Bool)) => drr_Turn_jump_f k x.1 x.2.1 x.2.2) (t, n, ask)
noncomputable abbrev drr_Turn_jump_T : Tab S := ⟨[], [], false⟩
noncomputable def drr_Turn_jump_L (k : Nat) : Nat → List (Lab S (List Int × List Int × Int))
  | 0 => [⟨[0, 1, 2, 13, 14, 15], [.obj [.data (.sl (.int .i64)), .marr (.int .i64), .data (.int .i64)], .val (.data (.int .i64)), .fn [.int .i64] [.bool], .val (.data (.sl (.int .i64))), .val (.data (.int .i64)), .val (.data (.int .i64))], fun x => drr_Turn_jump_l0 k x.1.1 x.1.2.1 x.1.2.2 x.2.1 x.2.2.1 x.2.2.2.1 x.2.2.2.2.1 x.2.2.2.2.2⟩]
  | _ + 1 => []
theorem drr_Turn_jump_eq (k : Nat) (t : List Int × List Int × Int) (n : Int) (ask : Int → Option Bool) : drr_Turn_jump_f k t n ask = exec S (drr_Turn_jump_T) byt (labs S (drr_Turn_jump_T) (drr_Turn_jump_L k)) (ac [] Try.f40) (frame0 S [.obj [.data (.sl (.int .i64)), .marr (.int .i64), .data (.int .i64)], .val (.data (.int .i64)), .fn [.int .i64] [.bool]] (t, n, ask)) (retK S (drr_Turn_jump_T) Try.f40 [.obj [.data (.sl (.int .i64)), .marr (.int .i64), .data (.int .i64)], .val (.data (.int .i64)), .fn [.int .i64] [.bool]] []) := by kernel_rfl
theorem drr_Turn_jump_vc (k : Nat) : VC S (drr_Turn_jump_T) byt (drr_Turn_jump_L k) (drr_Turn_jump_L (k + 1)) (ac [] Try.f40) (retK S (drr_Turn_jump_T) Try.f40 [.obj [.data (.sl (.int .i64)), .marr (.int .i64), .data (.int .i64)], .val (.data (.int .i64)), .fn [.int .i64] [.bool]] []) = [∀ x : (List Int × List Int × Int) × Int × (Int → Option Bool) × List Int × Int × Int, drr_Turn_jump_l0 (k + 1) x.1.1 x.1.2.1 x.1.2.2 x.2.1 x.2.2.1 x.2.2.2.1 x.2.2.2.2.1 x.2.2.2.2.2 = drr_Turn_jump_l0 (k + 1) x.1.1 x.1.2.1 x.1.2.2 x.2.1 x.2.2.1 x.2.2.2.1 x.2.2.2.2.1 x.2.2.2.2.2] := by kernel_rfl
theorem drr_Turn_jump_sndk (k : Nat) : Snd Try.prog S ⟨40, [.obj [.data (.sl (.int .i64)), .marr (.int .i64), .data (.int .i64)], .val (.data (.int .i64)), .fn [.int .i64] [.bool]], [], fun x => drr_Turn_jump_f k x.1 x.2.1 x.2.2⟩ :=
  fn_ok progOk (T := (drr_Turn_jump_T)) (all_nil) (all_nil) mixed Try.func40 rfl (by kernel_rfl) (ac_code [] Try.f40 rfl) (L := drr_Turn_jump_L)
    (fun n l h x => by match n, h with
        | 0, h => 
          rcases List.mem_cons.1 h with rfl | h
          · rfl
          cases h
        | _ + 1, h => cases h) (fun k n l h => by match n, h with
        | 0, h => 
          rcases List.mem_cons.1 h with rfl | h
          · rfl
          cases h
        | _ + 1, h => cases h)
    (fun k => All.mem (drr_Turn_jump_vc k) ⟨fun _ => rfl, trivial⟩) (fun x r h => ⟨k, (drr_Turn_jump_eq k x.1 x.2.1 x.2.2).symm.trans h⟩) (by kernel_rfl) (by kernel_rfl) (Nat.le_of_ble_eq_true (by kernel_rfl))
theorem drr_Turn_jump_snd : Snd Try.prog S ⟨40, [.obj [.data (.sl (.int .i64)), .marr (.int .i64), .data (.int .i64)], .val (.data (.int .i64)), .fn [.int .i64] [.bool]], [], fun x => drr_Turn_jump x.1 x.2.1 x.2.2⟩ := Snd.lim drr_Turn_jump_sndk
/-! ### 15 (*cotillion/drr.Turn).Next -/
noncomputable def drr_Turn_Next_l1 : Nat → (List Int) → (List Int) → Int → (Int → Option Bool) → Option (Int × (List Int × List Int × Int))
  | 0, _, _, _, _ => none
  | k + 1, t_quanta, t_left, t_cur, ask => (ask t_cur).bind fun r4 =>
    bif !r4 then
    (ask t_cur).bind fun r5 =>
    bif !r5 then
    if 0 ≤ t_cur then
    if t_cur < (t_left.length : Int) then
    if 0 ≤ t_cur then
    if t_cur < (t_left.length : Int) then
    if ¬ ((t_left.set t_cur.toNat (min (t_left.getD t_cur.toNat 0) 0)).length : Int) = 0 then
    if 0 ≤ ((w64 (t_cur + 1)).tmod ((t_left.set t_cur.toNat (min (t_left.getD t_cur.toNat 0) 0)).length : Int)) then
    if ((w64 (t_cur + 1)).tmod ((t_left.set t_cur.toNat (min (t_left.getD t_cur.toNat 0) 0)).length : Int)) < ((t_left.set t_cur.toNat (min (t_left.getD t_cur.toNat 0) 0)).length : Int) then
    if 0 ≤ ((w64 (t_cur + 1)).tmod ((t_left.set t_cur.toNat (min (t_left.getD t_cur.toNat 0) 0)).length : Int)) then
    if ((w64 (t_cur + 1)).tmod ((t_left.set t_cur.toNat (min (t_left.getD t_cur.toNat 0) 0)).length : Int)) < (t_quanta.length : Int) then
    if 0 ≤ ((w64 (t_cur + 1)).tmod ((t_left.set t_cur.toNat (min (t_left.getD t_cur.toNat 0) 0)).length : Int)) then
    if ((w64 (t_cur + 1)).tmod ((t_left.set t_cur.toNat (min (t_left.getD t_cur.toNat 0) 0)).length : Int)) < ((t_left.set t_cur.toNat (min (t_left.getD t_cur.toNat 0) 0)).length : Int) then
    drr_Turn_Next_l1 k t_quanta ((t_left.set t_cur.toNat (min (t_left.getD t_cur.toNat 0) 0)).set ((w64 (t_cur + 1)).tmod ((t_left.set t_cur.toNat (min (t_left.getD t_cur.toNat 0) 0)).length : Int)).toNat (w64 (((t_left.set t_cur.toNat (min (t_left.getD t_cur.toNat 0) 0)).getD ((w64 (t_cur + 1)).tmod ((t_left.set t_cur.toNat (min (t_left.getD t_cur.toNat 0) 0)).length : Int)).toNat 0) + (t_quanta.getD ((w64 (t_cur + 1)).tmod ((t_left.set t_cur.toNat (min (t_left.getD t_cur.toNat 0) 0)).length : Int)).toNat 0)))) ((w64 (t_cur + 1)).tmod ((t_left.set t_cur.toNat (min (t_left.getD t_cur.toNat 0) 0)).length : Int)) ask else none else none else none else none else none else none else none else none else none else none else none else
    if ¬ (t_left.length : Int) = 0 then
    if 0 ≤ ((w64 (t_cur + 1)).tmod (t_left.length : Int)) then
    if ((w64 (t_cur + 1)).tmod (t_left.length : Int)) < (t_left.length : Int) then
    if 0 ≤ ((w64 (t_cur + 1)).tmod (t_left.length : Int)) then
    if ((w64 (t_cur + 1)).tmod (t_left.length : Int)) < (t_quanta.length : Int) then
    if 0 ≤ ((w64 (t_cur + 1)).tmod (t_left.length : Int)) then
    if ((w64 (t_cur + 1)).tmod (t_left.length : Int)) < (t_left.length : Int) then
    drr_Turn_Next_l1 k t_quanta (t_left.set ((w64 (t_cur + 1)).tmod (t_left.length : Int)).toNat (w64 ((t_left.getD ((w64 (t_cur + 1)).tmod (t_left.length : Int)).toNat 0) + (t_quanta.getD ((w64 (t_cur + 1)).tmod (t_left.length : Int)).toNat 0)))) ((w64 (t_cur + 1)).tmod (t_left.length : Int)) ask else none else none else none else none else none else none else none else
    if 0 ≤ t_cur then
    if t_cur < (t_left.length : Int) then
    if (t_left.getD t_cur.toNat 0) ≤ 0 then
    (ask t_cur).bind fun r6 =>
    bif !r6 then
    if 0 ≤ t_cur then
    if t_cur < (t_left.length : Int) then
    if 0 ≤ t_cur then
    if t_cur < (t_left.length : Int) then
    if ¬ ((t_left.set t_cur.toNat (min (t_left.getD t_cur.toNat 0) 0)).length : Int) = 0 then
    if 0 ≤ ((w64 (t_cur + 1)).tmod ((t_left.set t_cur.toNat (min (t_left.getD t_cur.toNat 0) 0)).length : Int)) then
    if ((w64 (t_cur + 1)).tmod ((t_left.set t_cur.toNat (min (t_left.getD t_cur.toNat 0) 0)).length : Int)) < ((t_left.set t_cur.toNat (min (t_left.getD t_cur.toNat 0) 0)).length : Int) then
    if 0 ≤ ((w64 (t_cur + 1)).tmod ((t_left.set t_cur.toNat (min (t_left.getD t_cur.toNat 0) 0)).length : Int)) then
    if ((w64 (t_cur + 1)).tmod ((t_left.set t_cur.toNat (min (t_left.getD t_cur.toNat 0) 0)).length : Int)) < (t_quanta.length : Int) then
    if 0 ≤ ((w64 (t_cur + 1)).tmod ((t_left.set t_cur.toNat (min (t_left.getD t_cur.toNat 0) 0)).length : Int)) then
    if ((w64 (t_cur + 1)).tmod ((t_left.set t_cur.toNat (min (t_left.getD t_cur.toNat 0) 0)).length : Int)) < ((t_left.set t_cur.toNat (min (t_left.getD t_cur.toNat 0) 0)).length : Int) then
    drr_Turn_Next_l1 k t_quanta ((t_left.set t_cur.toNat (min (t_left.getD t_cur.toNat 0) 0)).set ((w64 (t_cur + 1)).tmod ((t_left.set t_cur.toNat (min (t_left.getD t_cur.toNat 0) 0)).length : Int)).toNat (w64 (((t_left.set t_cur.toNat (min (t_left.getD t_cur.toNat 0) 0)).getD ((w64 (t_cur + 1)).tmod ((t_left.set t_cur.toNat (min (t_left.getD t_cur.toNat 0) 0)).length : Int)).toNat 0) + (t_quanta.getD ((w64 (t_cur + 1)).tmod ((t_left.set t_cur.toNat (min (t_left.getD t_cur.toNat 0) 0)).length : Int)).toNat 0)))) ((w64 (t_cur + 1)).tmod ((t_left.set t_cur.toNat (min (t_left.getD t_cur.toNat 0) 0)).length : Int)) ask else none else none else none else none else none else none else none else none else none else none else none else
    if ¬ (t_left.length : Int) = 0 then
    if 0 ≤ ((w64 (t_cur + 1)).tmod (t_left.length : Int)) then
    if ((w64 (t_cur + 1)).tmod (t_left.length : Int)) < (t_left.length : Int) then
    if 0 ≤ ((w64 (t_cur + 1)).tmod (t_left.length : Int)) then
    if ((w64 (t_cur + 1)).tmod (t_left.length : Int)) < (t_quanta.length : Int) then
    if 0 ≤ ((w64 (t_cur + 1)).tmod (t_left.length : Int)) then
    if ((w64 (t_cur + 1)).tmod (t_left.length : Int)) < (t_left.length : Int) then
    drr_Turn_Next_l1 k t_quanta (t_left.set ((w64 (t_cur + 1)).tmod (t_left.length : Int)).toNat (w64 ((t_left.getD ((w64 (t_cur + 1)).tmod (t_left.length : Int)).toNat 0) + (t_quanta.getD ((w64 (t_cur + 1)).tmod (t_left.length : Int)).toNat 0)))) ((w64 (t_cur + 1)).tmod (t_left.length : Int)) ask else none else none else none else none else none else none else none else
    some (t_cur, (t_quanta, t_left, t_cur)) else none else none
noncomputable def drr_Turn_Next_l0 : Nat → (List Int) → (List Int) → Int → (Int → Option Bool) → Int → Int → Int → Option (Int × (List Int × List Int × Int))
  | 0, _, _, _, _, _, _, _ => none
  | k + 1, t_quanta, t_left, t_cur, ask, least, x16, x17 => if x17 < x16 then
    (ask x17).bind fun r1 =>
    bif r1 then
    (drr_Turn_rounds (t_quanta, t_left, t_cur) x17).bind fun r2 =>
    if least < 0 then
    drr_Turn_Next_l0 k r2.2.1 r2.2.2.1 r2.2.2.2 ask r2.1 x16 (w64 (x17 + 1)) else
    if r2.1 < least then
    drr_Turn_Next_l0 k r2.2.1 r2.2.2.1 r2.2.2.2 ask r2.1 x16 (w64 (x17 + 1)) else
    drr_Turn_Next_l0 k r2.2.1 r2.2.2.1 r2.2.2.2 ask least x16 (w64 (x17 + 1)) else
    drr_Turn_Next_l0 k t_quanta t_left t_cur ask least x16 (w64 (x17 + 1)) else
    if least < 0 then
    some ((-1), (t_quanta, t_left, t_cur)) else
    (drr_Turn_jump (t_quanta, t_left, t_cur) least ask).bind fun r3 =>
    drr_Turn_Next_l1 k r3.1 r3.2.1 r3.2.2 ask
noncomputable def drr_Turn_Next_f (k : Nat) (t : List Int × List Int × Int) (may : List Bool) : Option (Int × (List Int × List Int × Int)) := drr_Turn_Next_l0 k t.1 t.2.1 t.2.2 (fun y => drr_Turn_Next_S1 y may) (-1) (t.2.1.length : Int) 0
noncomputable def drr_Turn_Next (t : List Int × List Int × Int) (may : List Bool) : Option (Int × (List Int × List Int × Int)) := lim (fun k (x : (List Int × List Int × Int) × List Bool) => drr_Turn_Next_f k x.1 x.2) (t, may)
noncomputable abbrev drr_Turn_Next_T : Tab S := ⟨[⟨39, [.obj [.data (.sl (.int .i64)), .marr (.int .i64), .data (.int .i64)], .val (.data (.int .i64))], [.val (.data (.int .i64))], fun x => drr_Turn_rounds x.1 x.2⟩, ⟨40, [.obj [.data (.sl (.int .i64)), .marr (.int .i64), .data (.int .i64)], .val (.data (.int .i64)), .fn [.int .i64] [.bool]], [], fun x => drr_Turn_jump x.1 x.2.1 x.2.2⟩], [⟨38, [.int .i64], [.sl .bool], [.bool], fun x c => drr_Turn_Next_S1 x c⟩], false⟩
noncomputable def drr_Turn_Next_L (k : Nat) : Nat → List (Lab S (Int × (List Int × List Int × Int)))
  | 0 => [⟨[0, 5, 6, 16, 17], [.obj [.data (.sl (.int .i64)), .marr (.int .i64), .data (.int .i64)], .fn [.int .i64] [.bool], .val (.data (.int .i64)), .val (.data (.int .i64)), .val (.data (.int .i64))], fun x => drr_Turn_Next_l0 k x.1.1 x.1.2.1 x.1.2.2 x.2.1 x.2.2.1 x.2.2.2.1 x.2.2.2.2⟩]
  | 1 => []
  | 2 => [⟨[0, 5], [.obj [.data (.sl (.int .i64)), .marr (.int .i64), .data (.int .i64)], .fn [.int .i64] [.bool]], fun x => drr_Turn_Next_l1 k x.1.1 x.1.2.1 x.1.2.2 x.2⟩]
  | _ + 3 => []
theorem drr_Turn_Next_eq (k : Nat) (t : List Int × List Int × Int) (may : List Bool) : drr_Turn_Next_f k t may = exec S (drr_Turn_Next_T) byt (labs S (drr_Turn_Next_T) (drr_Turn_Next_L k)) (ac [] Try.f15) (frame0 S [.obj [.data (.sl (.int .i64)), .marr (.int .i64), .data (.int .i64)], .val (.data (.sl .bool))] (t, may)) (retK S (drr_Turn_Next_T) Try.f15 [.obj [.data (.sl (.int .i64)), .marr (.int .i64), .data (.int .i64)], .val (.data (.sl .bool))] [.val (.data (.int .i64))]) := by kernel_rfl
theorem drr_Turn_Next_vc (k : Nat) : VC S (drr_Turn_Next_T) byt (drr_Turn_Next_L k) (drr_Turn_Next_L (k + 1)) (ac [] Try.f15) (retK S (drr_Turn_Next_T) Try.f15 [.obj [.data (.sl (.int .i64)), .marr (.int .i64), .data (.int .i64)], .val (.data (.sl .bool))] [.val (.data (.int .i64))]) = [∀ x : (List Int × List Int × Int) × (Int → Option Bool) × Int × Int × Int, drr_Turn_Next_l0 (k + 1) x.1.1 x.1.2.1 x.1.2.2 x.2.1 x.2.2.1 x.2.2.2.1 x.2.2.2.2 = drr_Turn_Next_l0 (k + 1) x.1.1 x.1.2.1 x.1.2.2 x.2.1 x.2.2.1 x.2.2.2.1 x.2.2.2.2, ∀ x : (List Int × List Int × Int) × (Int → Option Bool), drr_Turn_Next_l1 (k + 1) x.1.1 x.1.2.1 x.1.2.2 x.2 = drr_Turn_Next_l1 (k + 1) x.1.1 x.1.2.1 x.1.2.2 x.2] := by kernel_rfl
theorem drr_Turn_Next_sndk (k : Nat) : Snd Try.prog S ⟨15, [.obj [.data (.sl (.int .i64)), .marr (.int .i64), .data (.int .i64)], .val (.data (.sl .bool))], [.val (.data (.int .i64))], fun x => drr_Turn_Next_f k x.1 x.2⟩ :=
  fn_ok progOk (T := (drr_Turn_Next_T)) (all_cons drr_Turn_rounds_snd (all_cons drr_Turn_jump_snd (all_nil))) (all_cons drr_Turn_Next_S1_fsnd (all_nil)) mixed Try.func15 rfl (by kernel_rfl) (ac_code [] Try.f15 rfl) (L := drr_Turn_Next_L)
    (fun n l h x => by match n, h with
        | 0, h => 
          rcases List.mem_cons.1 h with rfl | h
          · rfl
          cases h
        | 1, h => cases h
        | 2, h => 
          rcases List.mem_cons.1 h with rfl | h
          · rfl
          cases h
        | _ + 3, h => cases h) (fun k n l h => by match n, h with
        | 0, h => 
          rcases List.mem_cons.1 h with rfl | h
          · rfl
          cases h
        | 1, h => cases h
        | 2, h => 
          rcases List.mem_cons.1 h with rfl | h
          · rfl
          cases h
        | _ + 3, h => cases h)
    (fun k => All.mem (drr_Turn_Next_vc k) ⟨fun _ => rfl, ⟨fun _ => rfl, trivial⟩⟩) (fun x r h => ⟨k, (drr_Turn_Next_eq k x.1 x.2).symm.trans h⟩) (by kernel_rfl) (by kernel_rfl) (Nat.le_of_ble_eq_true (by kernel_rfl))
theorem drr_Turn_Next_snd : Snd Try.prog S ⟨15, [.obj [.data (.sl (.int .i64)), .marr (.int .i64), .data (.int .i64)], .val (.data (.sl .bool))], [.val (.data (.int .i64))], fun x => drr_Turn_Next x.1 x.2⟩ := Snd.lim drr_Turn_Next_sndk
/-! ### 41 (*cotillion/drr.Turn).is -/
noncomputable def drr_Turn_is  (t : List Int × List Int × Int) (i : Int) : Option (Bool × (List Int × List Int × Int)) := if 0 ≤ i then
    some (decide (i < (t.2.1.length : Int)), (t.1, t.2.1, t.2.2)) else
    some (false, (t.1, t.2.1, t.2.2))
noncomputable abbrev drr_Turn_is_T : Tab S := ⟨[], [], false⟩
noncomputable def drr_Turn_is_L (k : Nat) : Nat → List (Lab S (Bool × (List Int × List Int × Int)))
  | _ => []
theorem drr_Turn_is_eq (k : Nat) (t : List Int × List Int × Int) (i : Int) : drr_Turn_is t i = exec S (drr_Turn_is_T) byt (labs S (drr_Turn_is_T) (drr_Turn_is_L k)) (ac [] Try.f41) (frame0 S [.obj [.data (.sl (.int .i64)), .marr (.int .i64), .data (.int .i64)], .val (.data (.int .i64))] (t, i)) (retK S (drr_Turn_is_T) Try.f41 [.obj [.data (.sl (.int .i64)), .marr (.int .i64), .data (.int .i64)], .val (.data (.int .i64))] [.val (.data .bool)]) := by kernel_rfl
theorem drr_Turn_is_vc (k : Nat) : VC S (drr_Turn_is_T) byt (drr_Turn_is_L k) (drr_Turn_is_L (k + 1)) (ac [] Try.f41) (retK S (drr_Turn_is_T) Try.f41 [.obj [.data (.sl (.int .i64)), .marr (.int .i64), .data (.int .i64)], .val (.data (.int .i64))] [.val (.data .bool)]) = [] := by kernel_rfl
theorem drr_Turn_is_snd : Snd Try.prog S ⟨41, [.obj [.data (.sl (.int .i64)), .marr (.int .i64), .data (.int .i64)], .val (.data (.int .i64))], [.val (.data .bool)], fun x => drr_Turn_is x.1 x.2⟩ :=
  fn_ok progOk (T := (drr_Turn_is_T)) (all_nil) (all_nil) mixed Try.func41 rfl (by kernel_rfl) (ac_code [] Try.f41 rfl) (L := drr_Turn_is_L)
    (fun n l h x => by cases h) (fun k n l h => by cases h)
    (fun k => All.mem (drr_Turn_is_vc k) trivial) (fun x r h => ⟨0, (drr_Turn_is_eq 0 x.1 x.2).symm.trans h⟩) (by kernel_rfl) (by kernel_rfl) (Nat.le_of_ble_eq_true (by kernel_rfl))
/-! ### 16 (*cotillion/drr.Turn).Charge -/
noncomputable def drr_Turn_Charge  (t : List Int × List Int × Int) (i : Int) (cost : Int) : Option (List Int × List Int × Int) := (drr_Turn_is (t.1, t.2.1, t.2.2) i).bind fun r1 =>
    bif r1.1 then
    if 0 ≤ cost then
    if cost ≤ 1073741824 then
    if 0 ≤ i then
    if i < (r1.2.2.1.length : Int) then
    if 0 ≤ i then
    if i < (r1.2.2.1.length : Int) then
    some (r1.2.1, r1.2.2.1.set i.toNat (w64 ((r1.2.2.1.getD i.toNat 0) - cost)), r1.2.2.2) else none else none else none else none else
    some (r1.2.1, r1.2.2.1, r1.2.2.2) else
    some (r1.2.1, r1.2.2.1, r1.2.2.2) else
    some (r1.2.1, r1.2.2.1, r1.2.2.2)
noncomputable abbrev drr_Turn_Charge_T : Tab S := ⟨[⟨41, [.obj [.data (.sl (.int .i64)), .marr (.int .i64), .data (.int .i64)], .val (.data (.int .i64))], [.val (.data .bool)], fun x => drr_Turn_is x.1 x.2⟩], [], false⟩
noncomputable def drr_Turn_Charge_L (k : Nat) : Nat → List (Lab S (List Int × List Int × Int))
  | _ => []
theorem drr_Turn_Charge_eq (k : Nat) (t : List Int × List Int × Int) (i : Int) (cost : Int) : drr_Turn_Charge t i cost = exec S (drr_Turn_Charge_T) byt (labs S (drr_Turn_Charge_T) (drr_Turn_Charge_L k)) (ac [] Try.f16) (frame0 S [.obj [.data (.sl (.int .i64)), .marr (.int .i64), .data (.int .i64)], .val (.data (.int .i64)), .val (.data (.int .i64))] (t, i, cost)) (retK S (drr_Turn_Charge_T) Try.f16 [.obj [.data (.sl (.int .i64)), .marr (.int .i64), .data (.int .i64)], .val (.data (.int .i64)), .val (.data (.int .i64))] []) := by kernel_rfl
theorem drr_Turn_Charge_vc (k : Nat) : VC S (drr_Turn_Charge_T) byt (drr_Turn_Charge_L k) (drr_Turn_Charge_L (k + 1)) (ac [] Try.f16) (retK S (drr_Turn_Charge_T) Try.f16 [.obj [.data (.sl (.int .i64)), .marr (.int .i64), .data (.int .i64)], .val (.data (.int .i64)), .val (.data (.int .i64))] []) = [] := by kernel_rfl
theorem drr_Turn_Charge_snd : Snd Try.prog S ⟨16, [.obj [.data (.sl (.int .i64)), .marr (.int .i64), .data (.int .i64)], .val (.data (.int .i64)), .val (.data (.int .i64))], [], fun x => drr_Turn_Charge x.1 x.2.1 x.2.2⟩ :=
  fn_ok progOk (T := (drr_Turn_Charge_T)) (all_cons drr_Turn_is_snd (all_nil)) (all_nil) mixed Try.func16 rfl (by kernel_rfl) (ac_code [] Try.f16 rfl) (L := drr_Turn_Charge_L)
    (fun n l h x => by cases h) (fun k n l h => by cases h)
    (fun k => All.mem (drr_Turn_Charge_vc k) trivial) (fun x r h => ⟨0, (drr_Turn_Charge_eq 0 x.1 x.2.1 x.2.2).symm.trans h⟩) (by kernel_rfl) (by kernel_rfl) (Nat.le_of_ble_eq_true (by kernel_rfl))
/-! ### 18 (*cotillion/drr.Turn).Cur -/
noncomputable def drr_Turn_Cur  (t : List Int × List Int × Int) : Option (Int × (List Int × List Int × Int)) := some (t.2.2, (t.1, t.2.1, t.2.2))
noncomputable abbrev drr_Turn_Cur_T : Tab S := ⟨[], [], false⟩
noncomputable def drr_Turn_Cur_L (k : Nat) : Nat → List (Lab S (Int × (List Int × List Int × Int)))
  | _ => []
theorem drr_Turn_Cur_eq (k : Nat) (t : List Int × List Int × Int) : drr_Turn_Cur t = exec S (drr_Turn_Cur_T) byt (labs S (drr_Turn_Cur_T) (drr_Turn_Cur_L k)) (ac [] Try.f18) (frame0 S [.obj [.data (.sl (.int .i64)), .marr (.int .i64), .data (.int .i64)]] t) (retK S (drr_Turn_Cur_T) Try.f18 [.obj [.data (.sl (.int .i64)), .marr (.int .i64), .data (.int .i64)]] [.val (.data (.int .i64))]) := by kernel_rfl
theorem drr_Turn_Cur_vc (k : Nat) : VC S (drr_Turn_Cur_T) byt (drr_Turn_Cur_L k) (drr_Turn_Cur_L (k + 1)) (ac [] Try.f18) (retK S (drr_Turn_Cur_T) Try.f18 [.obj [.data (.sl (.int .i64)), .marr (.int .i64), .data (.int .i64)]] [.val (.data (.int .i64))]) = [] := by kernel_rfl
theorem drr_Turn_Cur_snd : Snd Try.prog S ⟨18, [.obj [.data (.sl (.int .i64)), .marr (.int .i64), .data (.int .i64)]], [.val (.data (.int .i64))], fun x => drr_Turn_Cur x⟩ :=
  fn_ok progOk (T := (drr_Turn_Cur_T)) (all_nil) (all_nil) mixed Try.func18 rfl (by kernel_rfl) (ac_code [] Try.f18 rfl) (L := drr_Turn_Cur_L)
    (fun n l h x => by cases h) (fun k n l h => by cases h)
    (fun k => All.mem (drr_Turn_Cur_vc k) trivial) (fun x r h => ⟨0, (drr_Turn_Cur_eq 0 x).symm.trans h⟩) (by kernel_rfl) (by kernel_rfl) (Nat.le_of_ble_eq_true (by kernel_rfl))
/-! ### 17 (*cotillion/drr.Turn).Left -/
noncomputable def drr_Turn_Left  (t : List Int × List Int × Int) (i : Int) : Option (Int × (List Int × List Int × Int)) := (drr_Turn_is (t.1, t.2.1, t.2.2) i).bind fun r1 =>
    bif !r1.1 then
    some (0, (r1.2.1, r1.2.2.1, r1.2.2.2)) else
    if 0 ≤ i then
    if i < (r1.2.2.1.length : Int) then
    some (r1.2.2.1.getD i.toNat 0, (r1.2.1, r1.2.2.1, r1.2.2.2)) else none else none
noncomputable abbrev drr_Turn_Left_T : Tab S := ⟨[⟨41, [.obj [.data (.sl (.int .i64)), .marr (.int .i64), .data (.int .i64)], .val (.data (.int .i64))], [.val (.data .bool)], fun x => drr_Turn_is x.1 x.2⟩], [], false⟩
noncomputable def drr_Turn_Left_L (k : Nat) : Nat → List (Lab S (Int × (List Int × List Int × Int)))
  | _ => []
theorem drr_Turn_Left_eq (k : Nat) (t : List Int × List Int × Int) (i : Int) : drr_Turn_Left t i = exec S (drr_Turn_Left_T) byt (labs S (drr_Turn_Left_T) (drr_Turn_Left_L k)) (ac [] Try.f17) (frame0 S [.obj [.data (.sl (.int .i64)), .marr (.int .i64), .data (.int .i64)], .val (.data (.int .i64))] (t, i)) (retK S (drr_Turn_Left_T) Try.f17 [.obj [.data (.sl (.int .i64)), .marr (.int .i64), .data (.int .i64)], .val (.data (.int .i64))] [.val (.data (.int .i64))]) := by kernel_rfl
theorem drr_Turn_Left_vc (k : Nat) : VC S (drr_Turn_Left_T) byt (drr_Turn_Left_L k) (drr_Turn_Left_L (k + 1)) (ac [] Try.f17) (retK S (drr_Turn_Left_T) Try.f17 [.obj [.data (.sl (.int .i64)), .marr (.int .i64), .data (.int .i64)], .val (.data (.int .i64))] [.val (.data (.int .i64))]) = [] := by kernel_rfl
theorem drr_Turn_Left_snd : Snd Try.prog S ⟨17, [.obj [.data (.sl (.int .i64)), .marr (.int .i64), .data (.int .i64)], .val (.data (.int .i64))], [.val (.data (.int .i64))], fun x => drr_Turn_Left x.1 x.2⟩ :=
  fn_ok progOk (T := (drr_Turn_Left_T)) (all_cons drr_Turn_is_snd (all_nil)) (all_nil) mixed Try.func17 rfl (by kernel_rfl) (ac_code [] Try.f17 rfl) (L := drr_Turn_Left_L)
    (fun n l h x => by cases h) (fun k n l h => by cases h)
    (fun k => All.mem (drr_Turn_Left_vc k) trivial) (fun x r h => ⟨0, (drr_Turn_Left_eq 0 x.1 x.2).symm.trans h⟩) (by kernel_rfl) (by kernel_rfl) (Nat.le_of_ble_eq_true (by kernel_rfl))
/-! ### 14 cotillion/cotillionlaw24.known -/
noncomputable def law24_known_l0 : Nat → (List Int) → (List Int) → Int → (Int × Int × Int × Int × Int × Int) → Int → Option Bool
  | 0, _, _, _, _, _ => none
  | k + 1, t_quanta, t_left, t_cur, want, i => if i < 6 then
    (drr_Turn_Next (t_quanta, t_left, t_cur) [true, true]).bind fun r3 =>
    if 0 ≤ i then
    if i < ([want.1, want.2.1, want.2.2.1, want.2.2.2.1, want.2.2.2.2.1, want.2.2.2.2.2].length : Int) then
    if r3.1 ≠ ([want.1, want.2.1, want.2.2.1, want.2.2.2.1, want.2.2.2.2.1, want.2.2.2.2.2].getD i.toNat 0) then
    some false else
    (drr_Turn_Charge (r3.2.1, r3.2.2.1, r3.2.2.2) r3.1 1).bind fun r4 =>
    law24_known_l0 k r4.1 r4.2.1 r4.2.2 want (w64 (i + 1)) else none else none else
    (drr_Turn_Next (t_quanta, t_left, t_cur) []).bind fun r5 =>
    if r5.1 = (-1) then
    (drr_Turn_Cur (r5.2.1, r5.2.2.1, r5.2.2.2)).bind fun r6 =>
    if r6.1 = 0 then
    (drr_Turn_Left (r6.2.1, r6.2.2.1, r6.2.2.2) 0).bind fun r7 =>
    some (decide (r7.1 = 0)) else
    some false else
    some false
noncomputable def law24_known_f (k : Nat) : Option Bool := (drr_New [2, 1]).bind fun r1 =>
    (match r1.1 with
    | none => if r1.2 ≠ 0 then
    some false else
    some false
    | some y2 => if r1.2 ≠ 0 then
    some false else
    law24_known_l0 k y2.1 y2.2.1 y2.2.2 arr_0 0)
noncomputable def law24_known : Option Bool := lim (fun k (x : Unit) => law24_known_f k) ()
noncomputable abbrev law24_known_T : Tab S := ⟨[⟨13, [.val (.data (.sl (.int .i64)))], [.opt [.data (.sl (.int .i64)), .marr (.int .i64), .data (.int .i64)], .val (.data (.int .i64))], fun x => drr_New x⟩, ⟨15, [.obj [.data (.sl (.int .i64)), .marr (.int .i64), .data (.int .i64)], .val (.data (.sl .bool))], [.val (.data (.int .i64))], fun x => drr_Turn_Next x.1 x.2⟩, ⟨16, [.obj [.data (.sl (.int .i64)), .marr (.int .i64), .data (.int .i64)], .val (.data (.int .i64)), .val (.data (.int .i64))], [], fun x => drr_Turn_Charge x.1 x.2.1 x.2.2⟩, ⟨18, [.obj [.data (.sl (.int .i64)), .marr (.int .i64), .data (.int .i64)]], [.val (.data (.int .i64))], fun x => drr_Turn_Cur x⟩, ⟨17, [.obj [.data (.sl (.int .i64)), .marr (.int .i64), .data (.int .i64)], .val (.data (.int .i64))], [.val (.data (.int .i64))], fun x => drr_Turn_Left x.1 x.2⟩], [], false⟩
noncomputable def law24_known_L (k : Nat) : Nat → List (Lab S Bool)
  | 0 => [⟨[1, 3, 4], [.obj [.data (.sl (.int .i64)), .marr (.int .i64), .data (.int .i64)], .ro (.st 1), .val (.data (.int .i64))], fun x => law24_known_l0 k x.1.1 x.1.2.1 x.1.2.2 x.2.1 x.2.2⟩]
  | _ + 1 => []
theorem law24_known_eq (k : Nat) : law24_known_f k = exec S (law24_known_T) byt (labs S (law24_known_T) (law24_known_L k)) (ac [] Try.f14) (frame0 S [] ()) (retK S (law24_known_T) Try.f14 [] [.val (.data .bool)]) := by kernel_rfl
theorem law24_known_vc (k : Nat) : VC S (law24_known_T) byt (law24_known_L k) (law24_known_L (k + 1)) (ac [] Try.f14) (retK S (law24_known_T) Try.f14 [] [.val (.data .bool)]) = [∀ x : (List Int × List Int × Int) × (Int × Int × Int × Int × Int × Int) × Int, law24_known_l0 (k + 1) x.1.1 x.1.2.1 x.1.2.2 x.2.1 x.2.2 = law24_known_l0 (k + 1) x.1.1 x.1.2.1 x.1.2.2 x.2.1 x.2.2] := by kernel_rfl
theorem law24_known_sndk (k : Nat) : Snd Try.prog S ⟨14, [], [.val (.data .bool)], fun x => law24_known_f k⟩ :=
  fn_ok progOk (T := (law24_known_T)) (all_cons drr_New_snd (all_cons drr_Turn_Next_snd (all_cons drr_Turn_Charge_snd (all_cons drr_Turn_Cur_snd (all_cons drr_Turn_Left_snd (all_nil)))))) (all_nil) mixed Try.func14 rfl (by kernel_rfl) (ac_code [] Try.f14 rfl) (L := law24_known_L)
    (fun n l h x => by match n, h with
        | 0, h => 
          rcases List.mem_cons.1 h with rfl | h
          · rfl
          cases h
        | _ + 1, h => cases h) (fun k n l h => by match n, h with
        | 0, h => 
          rcases List.mem_cons.1 h with rfl | h
          · rfl
          cases h
        | _ + 1, h => cases h)
    (fun k => All.mem (law24_known_vc k) ⟨fun _ => rfl, trivial⟩) (fun x r h => ⟨k, (law24_known_eq k).symm.trans h⟩) (by kernel_rfl) (by kernel_rfl) (Nat.le_of_ble_eq_true (by kernel_rfl))
theorem law24_known_snd : Snd Try.prog S ⟨14, [], [.val (.data .bool)], fun x => law24_known⟩ := Snd.lim law24_known_sndk
/-! ### 3 cotillion/cotillionlaw24.DrrFair -/
mutual
noncomputable def law24_DrrFair_l1 : Nat → (List Int) → (List Int) → (List Int) → (List Int) → (List Int) → Int → Int → Int → Int → Int → Int → Option Bool
  | 0, _, _, _, _, _, _, _, _, _, _, _ => none
  | k + 1, costs, may, q, t_quanta, t_left, t_cur, me, most, bound, waits, i => if i < (costs.length : Int) then
    if 0 ≤ (q.length : Int) then
    if (q.length : Int) ≤ (q.length : Int) then
    if (q.length : Int) * 1 ≤ 140737488355328 then
    law24_DrrFair_l2 k costs may q t_quanta t_left t_cur me most bound waits i (List.replicate (q.length : Int).toNat false) 0 else none else none else none else
    (law24_known).bind fun r6 =>
    some r6
noncomputable def law24_DrrFair_l2 : Nat → (List Int) → (List Int) → (List Int) → (List Int) → (List Int) → Int → Int → Int → Int → Int → Int → (List Bool) → Int → Option Bool
  | 0, _, _, _, _, _, _, _, _, _, _, _, _, _ => none
  | k + 1, costs, may, q, t_quanta, t_left, t_cur, me, most, bound, waits, i, row, k_ => if k_ < (row.length : Int) then
    if k_ = me then
    if 0 ≤ k_ then
    if k_ < (row.length : Int) then
    law24_DrrFair_l2 k costs may q t_quanta t_left t_cur me most bound waits i (row.set k_.toNat true) (w64 (k_ + 1)) else none else none else
    if i < (may.length : Int) then
    if 0 ≤ i then
    if i < (may.length : Int) then
    if 0 ≤ (wu64 k_) then
    if 0 ≤ k_ then
    if k_ < (row.length : Int) then
    law24_DrrFair_l2 k costs may q t_quanta t_left t_cur me most bound waits i (row.set k_.toNat (decide ((wu16 (((BitVec.ofInt 16 ((may.getD i.toNat 0).fdiv (2 ^ (min (wu64 k_).toNat 16))) &&& BitVec.ofInt 16 1).toNat : Nat) : Int)) = 1))) (w64 (k_ + 1)) else none else none else none else none else none else
    if 0 ≤ k_ then
    if k_ < (row.length : Int) then
    law24_DrrFair_l2 k costs may q t_quanta t_left t_cur me most bound waits i (row.set k_.toNat false) (w64 (k_ + 1)) else none else none else
    (drr_Turn_Next (t_quanta, t_left, t_cur) row).bind fun r7 =>
    if r7.1 < 0 then
    some false else
    if (q.length : Int) ≤ r7.1 then
    some false else
    if 0 ≤ r7.1 then
    if r7.1 < (row.length : Int) then
    bif !(row.getD r7.1.toNat false) then
    some false else
    if r7.1 = me then
    if bound ≤ 0 then
    some false else
    if 0 ≤ i then
    if i < (costs.length : Int) then
    if ¬ most = 0 then
    (drr_Turn_Charge (r7.2.1, r7.2.2.1, r7.2.2.2) r7.1 (w64 (1 + ((w64 (costs.getD i.toNat 0)).tmod most)))).bind fun r8 =>
    law24_DrrFair_l1 k costs may q r8.1 r8.2.1 r8.2.2 me most bound 0 (w64 (i + 1)) else none else none else none else
    if bound ≤ (w64 (waits + 1)) then
    some false else
    if 0 ≤ i then
    if i < (costs.length : Int) then
    if ¬ most = 0 then
    (drr_Turn_Charge (r7.2.1, r7.2.2.1, r7.2.2.2) r7.1 (w64 (1 + ((w64 (costs.getD i.toNat 0)).tmod most)))).bind fun r9 =>
    law24_DrrFair_l1 k costs may q r9.1 r9.2.1 r9.2.2 me most bound (w64 (waits + 1)) (w64 (i + 1)) else none else none else none else none else none
end
noncomputable def law24_DrrFair_l0 : Nat → (List Int) → (List Int) → (List Int) → (List Int) → (List Int) → Int → Int → Int → Int → Int → Option Bool
  | 0, _, _, _, _, _, _, _, _, _, _ => none
  | k + 1, costs, may, q, t_quanta, t_left, t_cur, me, sum, most, i => if i < (q.length : Int) then
    if 0 ≤ i then
    if i < (q.length : Int) then
    law24_DrrFair_l0 k costs may q t_quanta t_left t_cur me (w64 (sum + (q.getD i.toNat 0))) most (w64 (i + 1)) else none else none else
    if 0 ≤ me then
    if me < (q.length : Int) then
    if 0 ≤ me then
    if me < (q.length : Int) then
    if ¬ (q.getD me.toNat 0) = 0 then
    law24_DrrFair_l1 k costs may q t_quanta t_left t_cur me most (w64 ((w64 ((w64 ((w64 (most + (q.getD me.toNat 0))) - 1)).tdiv (q.getD me.toNat 0))) * sum)) 0 0 else none else none else none else none else none
noncomputable def law24_DrrFair_c0 : Nat → Int → (List Int) → (List Int) → (List Int) → (List Int) → (List Int) → Int → Option Bool
  | 0, _, _, _, _, _, _, _ => none
  | k + 1, who, costs, may, q, t_quanta, t_left, t_cur => if ¬ (q.length : Int) = 0 then
    law24_DrrFair_l0 k costs may q t_quanta t_left t_cur ((w64 who).tmod (q.length : Int)) 0 7 0 else none
noncomputable def law24_DrrFair_f (k : Nat) (v : List Int) (who : Int) (costs : List Int) (may : List Int) : Option Bool := (law24_quanta v).bind fun r1 =>
    (drr_New r1).bind fun r2 =>
    (match r2.1 with
    | none => if r2.2 ≠ 0 then
    if r2.2 = 0 then
    some false else
    some false else
    if r2.2 = 0 then
    some false else
    some false
    | some y3 => if r2.2 ≠ 0 then
    if r2.2 = 0 then
    (law24_known).bind fun r4 =>
    some r4 else
    some false else
    if 400 < (costs.length : Int) then
    if r2.2 = 0 then
    (law24_known).bind fun r5 =>
    some r5 else
    some false else
    law24_DrrFair_c0 k who costs may r1 y3.1 y3.2.1 y3.2.2)
noncomputable def law24_DrrFair (v : List Int) (who : Int) (costs : List Int) (may : List Int) : Option Bool := lim (fun k (x : List Int × Int × List Int × List Int) => law24_DrrFair_f k x.1 x.2.1 x.2.2.1 x.2.2.2) (v, who, costs, may)
noncomputable abbrev law24_DrrFair_T : Tab S := ⟨[⟨12, [.val (.data (.sl (.int .u8)))], [.val (.marr (.int .i64))], fun x => law24_quanta x⟩, ⟨13, [.val (.data (.sl (.int .i64)))], [.opt [.data (.sl (.int .i64)), .marr (.int .i64), .data (.int .i64)], .val (.data (.int .i64))], fun x => drr_New x⟩, ⟨14, [], [.val (.data .bool)], fun x => law24_known⟩, ⟨15, [.obj [.data (.sl (.int .i64)), .marr (.int .i64), .data (.int .i64)], .val (.data (.sl .bool))], [.val (.data (.int .i64))], fun x => drr_Turn_Next x.1 x.2⟩, ⟨16, [.obj [.data (.sl (.int .i64)), .marr (.int .i64), .data (.int .i64)], .val (.data (.int .i64)), .val (.data (.int .i64))], [], fun x => drr_Turn_Charge x.1 x.2.1 x.2.2⟩], [], false⟩
noncomputable def law24_DrrFair_L (k : Nat) : Nat → List (Lab S Bool)
  | 0 => [⟨[2, 3, 9, 10, 12, 13, 14, 15], [.val (.data (.sl (.int .u8))), .val (.data (.sl (.int .u16))), .val (.data (.sl (.int .i64))), .obj [.data (.sl (.int .i64)), .marr (.int .i64), .data (.int .i64)], .val (.data (.int .i64)), .val (.data (.int .i64)), .val (.data (.int .i64)), .val (.data (.int .i64))], fun x => law24_DrrFair_l0 k x.1 x.2.1 x.2.2.1 x.2.2.2.1.1 x.2.2.2.1.2.1 x.2.2.2.1.2.2 x.2.2.2.2.1 x.2.2.2.2.2.1 x.2.2.2.2.2.2.1 x.2.2.2.2.2.2.2⟩]
  | 1 => [⟨[1, 2, 3, 9, 10], [.val (.data (.int .u8)), .val (.data (.sl (.int .u8))), .val (.data (.sl (.int .u16))), .val (.data (.sl (.int .i64))), .obj [.data (.sl (.int .i64)), .marr (.int .i64), .data (.int .i64)]], fun x => law24_DrrFair_c0 k x.1 x.2.1 x.2.2.1 x.2.2.2.1 x.2.2.2.2.1 x.2.2.2.2.2.1 x.2.2.2.2.2.2⟩]
  | 2 => [⟨[2, 3, 9, 10, 12, 14, 16, 17, 18], [.val (.data (.sl (.int .u8))), .val (.data (.sl (.int .u16))), .val (.data (.sl (.int .i64))), .obj [.data (.sl (.int .i64)), .marr (.int .i64), .data (.int .i64)], .val (.data (.int .i64)), .val (.data (.int .i64)), .val (.data (.int .i64)), .val (.data (.int .i64)), .val (.data (.int .i64))], fun x => law24_DrrFair_l1 k x.1 x.2.1 x.2.2.1 x.2.2.2.1.1 x.2.2.2.1.2.1 x.2.2.2.1.2.2 x.2.2.2.2.1 x.2.2.2.2.2.1 x.2.2.2.2.2.2.1 x.2.2.2.2.2.2.2.1 x.2.2.2.2.2.2.2.2⟩]
  | 3 => []
  | 4 => [⟨[2, 3, 9, 10, 12, 14, 16, 17, 18, 19, 20], [.val (.data (.sl (.int .u8))), .val (.data (.sl (.int .u16))), .val (.data (.sl (.int .i64))), .obj [.data (.sl (.int .i64)), .marr (.int .i64), .data (.int .i64)], .val (.data (.int .i64)), .val (.data (.int .i64)), .val (.data (.int .i64)), .val (.data (.int .i64)), .val (.data (.int .i64)), .val (.marr .bool), .val (.data (.int .i64))], fun x => law24_DrrFair_l2 k x.1 x.2.1 x.2.2.1 x.2.2.2.1.1 x.2.2.2.1.2.1 x.2.2.2.1.2.2 x.2.2.2.2.1 x.2.2.2.2.2.1 x.2.2.2.2.2.2.1 x.2.2.2.2.2.2.2.1 x.2.2.2.2.2.2.2.2.1 x.2.2.2.2.2.2.2.2.2.1 x.2.2.2.2.2.2.2.2.2.2⟩]
  | _ + 5 => []
theorem law24_DrrFair_eq (k : Nat) (v : List Int) (who : Int) (costs : List Int) (may : List Int) : law24_DrrFair_f k v who costs may = exec S (law24_DrrFair_T) byt (labs S (law24_DrrFair_T) (law24_DrrFair_L k)) (ac [3] Try.f3) (frame0 S [.val (.data (.sl (.int .u8))), .val (.data (.int .u8)), .val (.data (.sl (.int .u8))), .val (.data (.sl (.int .u16)))] (v, who, costs, may)) (retK S (law24_DrrFair_T) Try.f3 [.val (.data (.sl (.int .u8))), .val (.data (.int .u8)), .val (.data (.sl (.int .u8))), .val (.data (.sl (.int .u16)))] [.val (.data .bool)]) := by kernel_rfl
theorem law24_DrrFair_vc (k : Nat) : VC S (law24_DrrFair_T) byt (law24_DrrFair_L k) (law24_DrrFair_L (k + 1)) (ac [3] Try.f3) (retK S (law24_DrrFair_T) Try.f3 [.val (.data (.sl (.int .u8))), .val (.data (.int .u8)), .val (.data (.sl (.int .u8))), .val (.data (.sl (.int .u16)))] [.val (.data .bool)]) = [∀ x : List Int × List Int × List Int × (List Int × List Int × Int) × Int × Int × Int × Int, law24_DrrFair_l0 (k + 1) x.1 x.2.1 x.2.2.1 x.2.2.2.1.1 x.2.2.2.1.2.1 x.2.2.2.1.2.2 x.2.2.2.2.1 x.2.2.2.2.2.1 x.2.2.2.2.2.2.1 x.2.2.2.2.2.2.2 = law24_DrrFair_l0 (k + 1) x.1 x.2.1 x.2.2.1 x.2.2.2.1.1 x.2.2.2.1.2.1 x.2.2.2.1.2.2 x.2.2.2.2.1 x.2.2.2.2.2.1 x.2.2.2.2.2.2.1 x.2.2.2.2.2.2.2, ∀ x : List Int × List Int × List Int × (List Int × List Int × Int) × Int × Int × Int × Int × Int × List Bool × Int, law24_DrrFair_l2 (k + 1) x.1 x.2.1 x.2.2.1 x.2.2.2.1.1 x.2.2.2.1.2.1 x.2.2.2.1.2.2 x.2.2.2.2.1 x.2.2.2.2.2.1 x.2.2.2.2.2.2.1 x.2.2.2.2.2.2.2.1 x.2.2.2.2.2.2.2.2.1 x.2.2.2.2.2.2.2.2.2.1 x.2.2.2.2.2.2.2.2.2.2 = law24_DrrFair_l2 (k + 1) x.1 x.2.1 x.2.2.1 x.2.2.2.1.1 x.2.2.2.1.2.1 x.2.2.2.1.2.2 x.2.2.2.2.1 x.2.2.2.2.2.1 x.2.2.2.2.2.2.1 x.2.2.2.2.2.2.2.1 x.2.2.2.2.2.2.2.2.1 x.2.2.2.2.2.2.2.2.2.1 x.2.2.2.2.2.2.2.2.2.2, ∀ x : List Int × List Int × List Int × (List Int × List Int × Int) × Int × Int × Int × Int × Int, law24_DrrFair_l1 (k + 1) x.1 x.2.1 x.2.2.1 x.2.2.2.1.1 x.2.2.2.1.2.1 x.2.2.2.1.2.2 x.2.2.2.2.1 x.2.2.2.2.2.1 x.2.2.2.2.2.2.1 x.2.2.2.2.2.2.2.1 x.2.2.2.2.2.2.2.2 = law24_DrrFair_l1 (k + 1) x.1 x.2.1 x.2.2.1 x.2.2.2.1.1 x.2.2.2.1.2.1 x.2.2.2.1.2.2 x.2.2.2.2.1 x.2.2.2.2.2.1 x.2.2.2.2.2.2.1 x.2.2.2.2.2.2.2.1 x.2.2.2.2.2.2.2.2, ∀ x : Int × List Int × List Int × List Int × (List Int × List Int × Int), law24_DrrFair_c0 (k + 1) x.1 x.2.1 x.2.2.1 x.2.2.2.1 x.2.2.2.2.1 x.2.2.2.2.2.1 x.2.2.2.2.2.2 = law24_DrrFair_c0 (k + 1) x.1 x.2.1 x.2.2.1 x.2.2.2.1 x.2.2.2.2.1 x.2.2.2.2.2.1 x.2.2.2.2.2.2] := by kernel_rfl
theorem law24_DrrFair_sndk (k : Nat) : Snd Try.prog S ⟨3, [.val (.data (.sl (.int .u8))), .val (.data (.int .u8)), .val (.data (.sl (.int .u8))), .val (.data (.sl (.int .u16)))], [.val (.data .bool)], fun x => law24_DrrFair_f k x.1 x.2.1 x.2.2.1 x.2.2.2⟩ :=
  fn_ok progOk (T := (law24_DrrFair_T)) (all_cons law24_quanta_snd (all_cons drr_New_snd (all_cons law24_known_snd (all_cons drr_Turn_Next_snd (all_cons drr_Turn_Charge_snd (all_nil)))))) (all_nil) mixed Try.func3 rfl (by kernel_rfl) (ac_code [3] Try.f3 rfl) (L := law24_DrrFair_L)
    (fun n l h x => by match n, h with
        | 0, h => 
          rcases List.mem_cons.1 h with rfl | h
          · rfl
          cases h
        | 1, h => 
          rcases List.mem_cons.1 h with rfl | h
          · rfl
          cases h
        | 2, h => 
          rcases List.mem_cons.1 h with rfl | h
          · rfl
          cases h
        | 3, h => cases h
        | 4, h => 
          rcases List.mem_cons.1 h with rfl | h
          · rfl
          cases h
        | _ + 5, h => cases h) (fun k n l h => by match n, h with
        | 0, h => 
          rcases List.mem_cons.1 h with rfl | h
          · rfl
          cases h
        | 1, h => 
          rcases List.mem_cons.1 h with rfl | h
          · rfl
          cases h
        | 2, h => 
          rcases List.mem_cons.1 h with rfl | h
          · rfl
          cases h
        | 3, h => cases h
        | 4, h => 
          rcases List.mem_cons.1 h with rfl | h
          · rfl
          cases h
        | _ + 5, h => cases h)
    (fun k => All.mem (law24_DrrFair_vc k) ⟨fun _ => rfl, ⟨fun _ => rfl, ⟨fun _ => rfl, ⟨fun _ => rfl, trivial⟩⟩⟩⟩) (fun x r h => ⟨k, (law24_DrrFair_eq k x.1 x.2.1 x.2.2.1 x.2.2.2).symm.trans h⟩) (by kernel_rfl) (by kernel_rfl) (Nat.le_of_ble_eq_true (by kernel_rfl))
theorem law24_DrrFair_snd : Snd Try.prog S ⟨3, [.val (.data (.sl (.int .u8))), .val (.data (.int .u8)), .val (.data (.sl (.int .u8))), .val (.data (.sl (.int .u16)))], [.val (.data .bool)], fun x => law24_DrrFair x.1 x.2.1 x.2.2.1 x.2.2.2⟩ := Snd.lim law24_DrrFair_sndk
/-! ### 4 cotillion/cotillionlaw24.DrrShares -/
noncomputable def law24_DrrShares_l2 : Nat → (List Int) → Int → (List Int) → Int → Option Bool
  | 0, _, _, _, _ => none
  | k + 1, q, n, ran, i => if i < (q.length : Int) then
    if 0 ≤ i then
    if i < (ran.length : Int) then
    if 0 ≤ i then
    if i < (q.length : Int) then
    if (ran.getD i.toNat 0) ≠ (w64 (n * (q.getD i.toNat 0))) then
    some false else
    law24_DrrShares_l2 k q n ran (w64 (i + 1)) else none else none else none else none else
    (law24_known).bind fun r8 =>
    some r8
noncomputable def law24_DrrShares_l1 : Nat → (List Int) → (List Int) → (List Int) → Int → (List Bool) → Int → Int → (List Int) → Int → Option Bool
  | 0, _, _, _, _, _, _, _, _, _ => none
  | k + 1, q, t_quanta, t_left, t_cur, all, sum, n, ran, i => if i < (w64 (n * sum)) then
    (drr_Turn_Next (t_quanta, t_left, t_cur) all).bind fun r4 =>
    if r4.1 < 0 then
    some false else
    if (q.length : Int) ≤ r4.1 then
    some false else
    (drr_Turn_Left (r4.2.1, r4.2.2.1, r4.2.2.2) r4.1).bind fun r5 =>
    if r5.1 < 1 then
    some false else
    (drr_Turn_Left (r5.2.1, r5.2.2.1, r5.2.2.2) r4.1).bind fun r6 =>
    if 0 ≤ r4.1 then
    if r4.1 < (q.length : Int) then
    if (q.getD r4.1.toNat 0) < r6.1 then
    some false else
    if 0 ≤ r4.1 then
    if r4.1 < (ran.length : Int) then
    if 0 ≤ r4.1 then
    if r4.1 < (ran.length : Int) then
    (drr_Turn_Charge (r6.2.1, r6.2.2.1, r6.2.2.2) r4.1 1).bind fun r7 =>
    law24_DrrShares_l1 k q r7.1 r7.2.1 r7.2.2 all sum n (ran.set r4.1.toNat (w64 ((ran.getD r4.1.toNat 0) + 1))) (w64 (i + 1)) else none else none else none else none else none else none else
    law24_DrrShares_l2 k q n ran 0
noncomputable def law24_DrrShares_l0 : Nat → Int → (List Int) → (List Int) → (List Int) → Int → (List Bool) → Int → Int → Option Bool
  | 0, _, _, _, _, _, _, _, _ => none
  | k + 1, rounds, q, t_quanta, t_left, t_cur, all, sum, i => if i < (q.length : Int) then
    if 0 ≤ i then
    if i < (all.length : Int) then
    if 0 ≤ i then
    if i < (q.length : Int) then
    law24_DrrShares_l0 k rounds q t_quanta t_left t_cur (all.set i.toNat true) (w64 (sum + (q.getD i.toNat 0))) (w64 (i + 1)) else none else none else none else none else
    if ¬ (5 : Int) = 0 then
    if 0 ≤ (q.length : Int) then
    if (q.length : Int) ≤ (q.length : Int) then
    if (q.length : Int) * 8 ≤ 140737488355328 then
    law24_DrrShares_l1 k q t_quanta t_left t_cur all sum (w64 (1 + ((w64 rounds).tmod 5))) (List.replicate (q.length : Int).toNat 0) 0 else none else none else none else none
noncomputable def law24_DrrShares_f (k : Nat) (v : List Int) (rounds : Int) : Option Bool := (law24_quanta v).bind fun r1 =>
    (drr_New r1).bind fun r2 =>
    (match r2.1 with
    | none => if r2.2 ≠ 0 then
    some false else
    some false
    | some y3 => if r2.2 ≠ 0 then
    some false else
    if 0 ≤ (r1.length : Int) then
    if (r1.length : Int) ≤ (r1.length : Int) then
    if (r1.length : Int) * 1 ≤ 140737488355328 then
    law24_DrrShares_l0 k rounds r1 y3.1 y3.2.1 y3.2.2 (List.replicate (r1.length : Int).toNat false) 0 0 else none else none else none)
noncomputable def law24_DrrShares (v : List Int) (rounds : Int) : Option Bool := lim (fun k (x : List Int × Int) => law24_DrrShares_f k x.1 x.2) (v, rounds)
noncomputable abbrev law24_DrrShares_T : Tab S := ⟨[⟨12, [.val (.data (.sl (.int .u8)))], [.val (.marr (.int .i64))], fun x => law24_quanta x⟩, ⟨13, [.val (.data (.sl (.int .i64)))], [.opt [.data (.sl (.int .i64)), .marr (.int .i64), .data (.int .i64)], .val (.data (.int .i64))], fun x => drr_New x⟩, ⟨15, [.obj [.data (.sl (.int .i64)), .marr (.int .i64), .data (.int .i64)], .val (.data (.sl .bool))], [.val (.data (.int .i64))], fun x => drr_Turn_Next x.1 x.2⟩, ⟨17, [.obj [.data (.sl (.int .i64)), .marr (.int .i64), .data (.int .i64)], .val (.data (.int .i64))], [.val (.data (.int .i64))], fun x => drr_Turn_Left x.1 x.2⟩, ⟨16, [.obj [.data (.sl (.int .i64)), .marr (.int .i64), .data (.int .i64)], .val (.data (.int .i64)), .val (.data (.int .i64))], [], fun x => drr_Turn_Charge x.1 x.2.1 x.2.2⟩, ⟨14, [], [.val (.data .bool)], fun x => law24_known⟩], [], false⟩
noncomputable def law24_DrrShares_L (k : Nat) : Nat → List (Lab S Bool)
  | 0 => [⟨[1, 5, 6, 8, 9, 10], [.val (.data (.int .u8)), .val (.data (.sl (.int .i64))), .obj [.data (.sl (.int .i64)), .marr (.int .i64), .data (.int .i64)], .val (.marr .bool), .val (.data (.int .i64)), .val (.data (.int .i64))], fun x => law24_DrrShares_l0 k x.1 x.2.1 x.2.2.1.1 x.2.2.1.2.1 x.2.2.1.2.2 x.2.2.2.1 x.2.2.2.2.1 x.2.2.2.2.2⟩]
  | 1 => []
  | 2 => [⟨[5, 6, 8, 9, 11, 12, 13], [.val (.data (.sl (.int .i64))), .obj [.data (.sl (.int .i64)), .marr (.int .i64), .data (.int .i64)], .val (.data (.sl .bool)), .val (.data (.int .i64)), .val (.data (.int .i64)), .val (.marr (.int .i64)), .val (.data (.int .i64))], fun x => law24_DrrShares_l1 k x.1 x.2.1.1 x.2.1.2.1 x.2.1.2.2 x.2.2.1 x.2.2.2.1 x.2.2.2.2.1 x.2.2.2.2.2.1 x.2.2.2.2.2.2⟩]
  | 3 => []
  | 4 => [⟨[5, 11, 12, 15], [.val (.data (.sl (.int .i64))), .val (.data (.int .i64)), .val (.marr (.int .i64)), .val (.data (.int .i64))], fun x => law24_DrrShares_l2 k x.1 x.2.1 x.2.2.1 x.2.2.2⟩]
  | _ + 5 => []
theorem law24_DrrShares_eq (k : Nat) (v : List Int) (rounds : Int) : law24_DrrShares_f k v rounds = exec S (law24_DrrShares_T) byt (labs S (law24_DrrShares_T) (law24_DrrShares_L k)) (ac [] Try.f4) (frame0 S [.val (.data (.sl (.int .u8))), .val (.data (.int .u8))] (v, rounds)) (retK S (law24_DrrShares_T) Try.f4 [.val (.data (.sl (.int .u8))), .val (.data (.int .u8))] [.val (.data .bool)]) := by kernel_rfl
theorem law24_DrrShares_vc (k : Nat) : VC S (law24_DrrShares_T) byt (law24_DrrShares_L k) (law24_DrrShares_L (k + 1)) (ac [] Try.f4) (retK S (law24_DrrShares_T) Try.f4 [.val (.data (.sl (.int .u8))), .val (.data (.int .u8))] [.val (.data .bool)]) = [∀ x : Int × List Int × (List Int × List Int × Int) × List Bool × Int × Int, law24_DrrShares_l0 (k + 1) x.1 x.2.1 x.2.2.1.1 x.2.2.1.2.1 x.2.2.1.2.2 x.2.2.2.1 x.2.2.2.2.1 x.2.2.2.2.2 = law24_DrrShares_l0 (k + 1) x.1 x.2.1 x.2.2.1.1 x.2.2.1.2.1 x.2.2.1.2.2 x.2.2.2.1 x.2.2.2.2.1 x.2.2.2.2.2, ∀ x : List Int × (List Int × List Int × Int) × List Bool × Int × Int × List Int × Int, law24_DrrShares_l1 (k + 1) x.1 x.2.1.1 x.2.1.2.1 x.2.1.2.2 x.2.2.1 x.2.2.2.1 x.2.2.2.2.1 x.2.2.2.2.2.1 x.2.2.2.2.2.2 = law24_DrrShares_l1 (k + 1) x.1 x.2.1.1 x.2.1.2.1 x.2.1.2.2 x.2.2.1 x.2.2.2.1 x.2.2.2.2.1 x.2.2.2.2.2.1 x.2.2.2.2.2.2, ∀ x : List Int × Int × List Int × Int, law24_DrrShares_l2 (k + 1) x.1 x.2.1 x.2.2.1 x.2.2.2 = law24_DrrShares_l2 (k + 1) x.1 x.2.1 x.2.2.1 x.2.2.2] := by kernel_rfl
theorem law24_DrrShares_sndk (k : Nat) : Snd Try.prog S ⟨4, [.val (.data (.sl (.int .u8))), .val (.data (.int .u8))], [.val (.data .bool)], fun x => law24_DrrShares_f k x.1 x.2⟩ :=
  fn_ok progOk (T := (law24_DrrShares_T)) (all_cons law24_quanta_snd (all_cons drr_New_snd (all_cons drr_Turn_Next_snd (all_cons drr_Turn_Left_snd (all_cons drr_Turn_Charge_snd (all_cons law24_known_snd (all_nil))))))) (all_nil) mixed Try.func4 rfl (by kernel_rfl) (ac_code [] Try.f4 rfl) (L := law24_DrrShares_L)
    (fun n l h x => by match n, h with
        | 0, h => 
          rcases List.mem_cons.1 h with rfl | h
          · rfl
          cases h
        | 1, h => cases h
        | 2, h => 
          rcases List.mem_cons.1 h with rfl | h
          · rfl
          cases h
        | 3, h => cases h
        | 4, h => 
          rcases List.mem_cons.1 h with rfl | h
          · rfl
          cases h
        | _ + 5, h => cases h) (fun k n l h => by match n, h with
        | 0, h => 
          rcases List.mem_cons.1 h with rfl | h
          · rfl
          cases h
        | 1, h => cases h
        | 2, h => 
          rcases List.mem_cons.1 h with rfl | h
          · rfl
          cases h
        | 3, h => cases h
        | 4, h => 
          rcases List.mem_cons.1 h with rfl | h
          · rfl
          cases h
        | _ + 5, h => cases h)
    (fun k => All.mem (law24_DrrShares_vc k) ⟨fun _ => rfl, ⟨fun _ => rfl, ⟨fun _ => rfl, trivial⟩⟩⟩) (fun x r h => ⟨k, (law24_DrrShares_eq k x.1 x.2).symm.trans h⟩) (by kernel_rfl) (by kernel_rfl) (Nat.le_of_ble_eq_true (by kernel_rfl))
theorem law24_DrrShares_snd : Snd Try.prog S ⟨4, [.val (.data (.sl (.int .u8))), .val (.data (.int .u8))], [.val (.data .bool)], fun x => law24_DrrShares x.1 x.2⟩ := Snd.lim law24_DrrShares_sndk
/-! ### 5 cotillion/cotillionlaw24.DrrOnly -/
mutual
noncomputable def law24_DrrOnly_l0 : Nat → Int → Int → (List Int) → (List Int) → (List Int) → Int → Int → (List Bool) → Int → Option Bool
  | 0, _, _, _, _, _, _, _, _, _ => none
  | k + 1, cost, times, q, t_quanta, t_left, t_cur, me, row, i => if ¬ (20 : Int) = 0 then
    if i ≤ ((w64 times).tmod 20) then
    (drr_Turn_Next (t_quanta, t_left, t_cur) row).bind fun r4 =>
    if r4.1 ≠ me then
    some false else
    (drr_Turn_Cur (r4.2.1, r4.2.2.1, r4.2.2.2)).bind fun r5 =>
    if r5.1 ≠ me then
    some false else
    law24_DrrOnly_l1 k cost times q r5.2.1 r5.2.2.1 r5.2.2.2 me row i 0 else
    if 0 ≤ (q.length : Int) then
    if (q.length : Int) ≤ (q.length : Int) then
    if (q.length : Int) * 1 ≤ 140737488355328 then
    (drr_Turn_Next (t_quanta, t_left, t_cur) (List.replicate (q.length : Int).toNat false)).bind fun r6 =>
    if r6.1 = (-1) then
    (law24_known).bind fun r7 =>
    some r7 else
    some false else none else none else none else none
noncomputable def law24_DrrOnly_l1 : Nat → Int → Int → (List Int) → (List Int) → (List Int) → Int → Int → (List Bool) → Int → Int → Option Bool
  | 0, _, _, _, _, _, _, _, _, _, _ => none
  | k + 1, cost, times, q, t_quanta, t_left, t_cur, me, row, i, k_ => if k_ < (q.length : Int) then
    (drr_Turn_Left (t_quanta, t_left, t_cur) k_).bind fun r8 =>
    if 0 ≤ k_ then
    if k_ < (q.length : Int) then
    if (q.getD k_.toNat 0) < r8.1 then
    some false else
    law24_DrrOnly_l1 k cost times q r8.2.1 r8.2.2.1 r8.2.2.2 me row i (w64 (k_ + 1)) else none else none else
    (drr_Turn_Charge (t_quanta, t_left, t_cur) me (w64 cost)).bind fun r9 =>
    law24_DrrOnly_l0 k cost times q r9.1 r9.2.1 r9.2.2 me row (w64 (i + 1))
end
noncomputable def law24_DrrOnly_f (k : Nat) (v : List Int) (who : Int) (cost : Int) (times : Int) : Option Bool := (law24_quanta v).bind fun r1 =>
    (drr_New r1).bind fun r2 =>
    (match r2.1 with
    | none => if r2.2 ≠ 0 then
    some false else
    some false
    | some y3 => if r2.2 ≠ 0 then
    some false else
    if ¬ (r1.length : Int) = 0 then
    if 0 ≤ (r1.length : Int) then
    if (r1.length : Int) ≤ (r1.length : Int) then
    if (r1.length : Int) * 1 ≤ 140737488355328 then
    if 0 ≤ ((w64 who).tmod (r1.length : Int)) then
    if ((w64 who).tmod (r1.length : Int)) < ((List.replicate (r1.length : Int).toNat false).length : Int) then
    law24_DrrOnly_l0 k cost times r1 y3.1 y3.2.1 y3.2.2 ((w64 who).tmod (r1.length : Int)) ((List.replicate (r1.length : Int).toNat false).set ((w64 who).tmod (r1.length : Int)).toNat true) 0 else none else none else none else none else none else none)
noncomputable def law24_DrrOnly (v : List Int) (who : Int) (cost : Int) (times : Int) : Option Bool := lim (fun k (x : List Int × Int × Int × Int) => law24_DrrOnly_f k x.1 x.2.1 x.2.2.1 x.2.2.2) (v, who, cost, times)
noncomputable abbrev law24_DrrOnly_T : Tab S := ⟨[⟨12, [.val (.data (.sl (.int .u8)))], [.val (.marr (.int .i64))], fun x => law24_quanta x⟩, ⟨13, [.val (.data (.sl (.int .i64)))], [.opt [.data (.sl (.int .i64)), .marr (.int .i64), .data (.int .i64)], .val (.data (.int .i64))], fun x => drr_New x⟩, ⟨15, [.obj [.data (.sl (.int .i64)), .marr (.int .i64), .data (.int .i64)], .val (.data (.sl .bool))], [.val (.data (.int .i64))], fun x => drr_Turn_Next x.1 x.2⟩, ⟨18, [.obj [.data (.sl (.int .i64)), .marr (.int .i64), .data (.int .i64)]], [.val (.data (.int .i64))], fun x => drr_Turn_Cur x⟩, ⟨14, [], [.val (.data .bool)], fun x => law24_known⟩, ⟨17, [.obj [.data (.sl (.int .i64)), .marr (.int .i64), .data (.int .i64)], .val (.data (.int .i64))], [.val (.data (.int .i64))], fun x => drr_Turn_Left x.1 x.2⟩, ⟨16, [.obj [.data (.sl (.int .i64)), .marr (.int .i64), .data (.int .i64)], .val (.data (.int .i64)), .val (.data (.int .i64))], [], fun x => drr_Turn_Charge x.1 x.2.1 x.2.2⟩], [], false⟩
noncomputable def law24_DrrOnly_L (k : Nat) : Nat → List (Lab S Bool)
  | 0 => [⟨[2, 3, 9, 10, 12, 13, 14], [.val (.data (.int .u16)), .val (.data (.int .u8)), .val (.data (.sl (.int .i64))), .obj [.data (.sl (.int .i64)), .marr (.int .i64), .data (.int .i64)], .val (.data (.int .i64)), .val (.data (.sl .bool)), .val (.data (.int .i64))], fun x => law24_DrrOnly_l0 k x.1 x.2.1 x.2.2.1 x.2.2.2.1.1 x.2.2.2.1.2.1 x.2.2.2.1.2.2 x.2.2.2.2.1 x.2.2.2.2.2.1 x.2.2.2.2.2.2⟩]
  | 1 => []
  | 2 => [⟨[2, 3, 9, 10, 12, 13, 14, 15], [.val (.data (.int .u16)), .val (.data (.int .u8)), .val (.data (.sl (.int .i64))), .obj [.data (.sl (.int .i64)), .marr (.int .i64), .data (.int .i64)], .val (.data (.int .i64)), .val (.data (.sl .bool)), .val (.data (.int .i64)), .val (.data (.int .i64))], fun x => law24_DrrOnly_l1 k x.1 x.2.1 x.2.2.1 x.2.2.2.1.1 x.2.2.2.1.2.1 x.2.2.2.1.2.2 x.2.2.2.2.1 x.2.2.2.2.2.1 x.2.2.2.2.2.2.1 x.2.2.2.2.2.2.2⟩]
  | _ + 3 => []
theorem law24_DrrOnly_eq (k : Nat) (v : List Int) (who : Int) (cost : Int) (times : Int) : law24_DrrOnly_f k v who cost times = exec S (law24_DrrOnly_T) byt (labs S (law24_DrrOnly_T) (law24_DrrOnly_L k)) (ac [] Try.f5) (frame0 S [.val (.data (.sl (.int .u8))), .val (.data (.int .u8)), .val (.data (.int .u16)), .val (.data (.int .u8))] (v, who, cost, times)) (retK S (law24_DrrOnly_T) Try.f5 [.val (.data (.sl (.int .u8))), .val (.data (.int .u8)), .val (.data (.int .u16)), .val (.data (.int .u8))] [.val (.data .bool)]) := by kernel_rfl
theorem law24_DrrOnly_vc (k : Nat) : VC S (law24_DrrOnly_T) byt (law24_DrrOnly_L k) (law24_DrrOnly_L (k + 1)) (ac [] Try.f5) (retK S (law24_DrrOnly_T) Try.f5 [.val (.data (.sl (.int .u8))), .val (.data (.int .u8)), .val (.data (.int .u16)), .val (.data (.int .u8))] [.val (.data .bool)]) = [∀ x : Int × Int × List Int × (List Int × List Int × Int) × Int × List Bool × Int × Int, law24_DrrOnly_l1 (k + 1) x.1 x.2.1 x.2.2.1 x.2.2.2.1.1 x.2.2.2.1.2.1 x.2.2.2.1.2.2 x.2.2.2.2.1 x.2.2.2.2.2.1 x.2.2.2.2.2.2.1 x.2.2.2.2.2.2.2 = law24_DrrOnly_l1 (k + 1) x.1 x.2.1 x.2.2.1 x.2.2.2.1.1 x.2.2.2.1.2.1 x.2.2.2.1.2.2 x.2.2.2.2.1 x.2.2.2.2.2.1 x.2.2.2.2.2.2.1 x.2.2.2.2.2.2.2, ∀ x : Int × Int × List Int × (List Int × List Int × Int) × Int × List Bool × Int, law24_DrrOnly_l0 (k + 1) x.1 x.2.1 x.2.2.1 x.2.2.2.1.1 x.2.2.2.1.2.1 x.2.2.2.1.2.2 x.2.2.2.2.1 x.2.2.2.2.2.1 x.2.2.2.2.2.2 = law24_DrrOnly_l0 (k + 1) x.1 x.2.1 x.2.2.1 x.2.2.2.1.1 x.2.2.2.1.2.1 x.2.2.2.1.2.2 x.2.2.2.2.1 x.2.2.2.2.2.1 x.2.2.2.2.2.2] := by kernel_rfl
theorem law24_DrrOnly_sndk (k : Nat) : Snd Try.prog S ⟨5, [.val (.data (.sl (.int .u8))), .val (.data (.int .u8)), .val (.data (.int .u16)), .val (.data (.int .u8))], [.val (.data .bool)], fun x => law24_DrrOnly_f k x.1 x.2.1 x.2.2.1 x.2.2.2⟩ :=
  fn_ok progOk (T := (law24_DrrOnly_T)) (all_cons law24_quanta_snd (all_cons drr_New_snd (all_cons drr_Turn_Next_snd (all_cons drr_Turn_Cur_snd (all_cons law24_known_snd (all_cons drr_Turn_Left_snd (all_cons drr_Turn_Charge_snd (all_nil)))))))) (all_nil) mixed Try.func5 rfl (by kernel_rfl) (ac_code [] Try.f5 rfl) (L := law24_DrrOnly_L)
    (fun n l h x => by match n, h with
        | 0, h => 
          rcases List.mem_cons.1 h with rfl | h
          · rfl
          cases h
        | 1, h => cases h
        | 2, h => 
          rcases List.mem_cons.1 h with rfl | h
          · rfl
          cases h
        | _ + 3, h => cases h) (fun k n l h => by match n, h with
        | 0, h => 
          rcases List.mem_cons.1 h with rfl | h
          · rfl
          cases h
        | 1, h => cases h
        | 2, h => 
          rcases List.mem_cons.1 h with rfl | h
          · rfl
          cases h
        | _ + 3, h => cases h)
    (fun k => All.mem (law24_DrrOnly_vc k) ⟨fun _ => rfl, ⟨fun _ => rfl, trivial⟩⟩) (fun x r h => ⟨k, (law24_DrrOnly_eq k x.1 x.2.1 x.2.2.1 x.2.2.2).symm.trans h⟩) (by kernel_rfl) (by kernel_rfl) (Nat.le_of_ble_eq_true (by kernel_rfl))
theorem law24_DrrOnly_snd : Snd Try.prog S ⟨5, [.val (.data (.sl (.int .u8))), .val (.data (.int .u8)), .val (.data (.int .u16)), .val (.data (.int .u8))], [.val (.data .bool)], fun x => law24_DrrOnly x.1 x.2.1 x.2.2.1 x.2.2.2⟩ := Snd.lim law24_DrrOnly_sndk
/-! ### 19 cotillion/cotillionref24.New -/
noncomputable def ref24_New_l0 : Nat → (List Int) → Int → Option ((Option (List Int × List Int × Int)) × Int)
  | 0, _, _ => none
  | k + 1, quanta, i => if i < (quanta.length : Int) then
    if 0 ≤ i then
    if i < (quanta.length : Int) then
    if (quanta.getD i.toNat 0) < 1 then
    some (none, 1) else
    if 0 ≤ i then
    if i < (quanta.length : Int) then
    if 65536 < (quanta.getD i.toNat 0) then
    some (none, 1) else
    ref24_New_l0 k quanta (w64 (i + 1)) else none else none else none else none else
    if (quanta.length : Int) = 0 then
    some (none, 1) else
    if (([] : List Int).length + quanta.length) * 8 ≤ 140737488355328 then
    if 0 ≤ (quanta.length : Int) then
    if (quanta.length : Int) ≤ (quanta.length : Int) then
    if (quanta.length : Int) * 8 ≤ 140737488355328 then
    some (some (([] : List Int) ++ quanta, List.replicate (quanta.length : Int).toNat 0, 0), 0) else none else none else none else none
noncomputable def ref24_New_f (k : Nat) (quanta : List Int) : Option ((Option (List Int × List Int × Int)) × Int) := ref24_New_l0 k quanta 0
noncomputable def ref24_New (quanta : List Int) : Option ((Option (List Int × List Int × Int)) × Int) := lim (fun k (x : List Int) => ref24_New_f k x) quanta
noncomputable abbrev ref24_New_T : Tab S := ⟨[], [], false⟩
noncomputable def ref24_New_L (k : Nat) : Nat → List (Lab S ((Option (List Int × List Int × Int)) × Int))
  | 0 => [⟨[0, 4], [.val (.data (.sl (.int .i64))), .val (.data (.int .i64))], fun x => ref24_New_l0 k x.1 x.2⟩]
  | _ + 1 => []
theorem ref24_New_eq (k : Nat) (quanta : List Int) : ref24_New_f k quanta = exec S (ref24_New_T) byt (labs S (ref24_New_T) (ref24_New_L k)) (ac [] Try.f19) (frame0 S [.val (.data (.sl (.int .i64)))] quanta) (retK S (ref24_New_T) Try.f19 [.val (.data (.sl (.int .i64)))] [.opt [.data (.sl (.int .i64)), .marr (.int .i64), .data (.int .i64)], .val (.data (.int .i64))]) := by kernel_rfl
theorem ref24_New_vc (k : Nat) : VC S (ref24_New_T) byt (ref24_New_L k) (ref24_New_L (k + 1)) (ac [] Try.f19) (retK S (ref24_New_T) Try.f19 [.val (.data (.sl (.int .i64)))] [.opt [.data (.sl (.int .i64)), .marr (.int .i64), .data (.int .i64)], .val (.data (.int .i64))]) = [∀ x : List Int × Int, ref24_New_l0 (k + 1) x.1 x.2 = ref24_New_l0 (k + 1) x.1 x.2] := by kernel_rfl
theorem ref24_New_sndk (k : Nat) : Snd Try.prog S ⟨19, [.val (.data (.sl (.int .i64)))], [.opt [.data (.sl (.int .i64)), .marr (.int .i64), .data (.int .i64)], .val (.data (.int .i64))], fun x => ref24_New_f k x⟩ :=
  fn_ok progOk (T := (ref24_New_T)) (all_nil) (all_nil) mixed Try.func19 rfl (by kernel_rfl) (ac_code [] Try.f19 rfl) (L := ref24_New_L)
    (fun n l h x => by match n, h with
        | 0, h => 
          rcases List.mem_cons.1 h with rfl | h
          · rfl
          cases h
        | _ + 1, h => cases h) (fun k n l h => by match n, h with
        | 0, h => 
          rcases List.mem_cons.1 h with rfl | h
          · rfl
          cases h
        | _ + 1, h => cases h)
    (fun k => All.mem (ref24_New_vc k) ⟨fun _ => rfl, trivial⟩) (fun x r h => ⟨k, (ref24_New_eq k x).symm.trans h⟩) (by kernel_rfl) (by kernel_rfl) (Nat.le_of_ble_eq_true (by kernel_rfl))
theorem ref24_New_snd : Snd Try.prog S ⟨19, [.val (.data (.sl (.int .i64)))], [.opt [.data (.sl (.int .i64)), .marr (.int .i64), .data (.int .i64)], .val (.data (.int .i64))], fun x => ref24_New x⟩ := Snd.lim ref24_New_sndk
/-! ### 20 cotillion/cotillionref37.Place -/
noncomputable def ref37_Place  (v : Int) (n : Int) : Option Int := if ¬ n = 0 then
    if (v.tmod n) < 0 then
    some (w64 ((v.tmod n) + n)) else
    some (v.tmod n) else none
noncomputable abbrev ref37_Place_T : Tab S := ⟨[], [], false⟩
noncomputable def ref37_Place_L (k : Nat) : Nat → List (Lab S Int)
  | _ => []
theorem ref37_Place_eq (k : Nat) (v : Int) (n : Int) : ref37_Place v n = exec S (ref37_Place_T) byt (labs S (ref37_Place_T) (ref37_Place_L k)) (ac [] Try.f20) (frame0 S [.val (.data (.int .i64)), .val (.data (.int .i64))] (v, n)) (retK S (ref37_Place_T) Try.f20 [.val (.data (.int .i64)), .val (.data (.int .i64))] [.val (.data (.int .i64))]) := by kernel_rfl
theorem ref37_Place_vc (k : Nat) : VC S (ref37_Place_T) byt (ref37_Place_L k) (ref37_Place_L (k + 1)) (ac [] Try.f20) (retK S (ref37_Place_T) Try.f20 [.val (.data (.int .i64)), .val (.data (.int .i64))] [.val (.data (.int .i64))]) = [] := by kernel_rfl
theorem ref37_Place_snd : Snd Try.prog S ⟨20, [.val (.data (.int .i64)), .val (.data (.int .i64))], [.val (.data (.int .i64))], fun x => ref37_Place x.1 x.2⟩ :=
  fn_ok progOk (T := (ref37_Place_T)) (all_nil) (all_nil) mixed Try.func20 rfl (by kernel_rfl) (ac_code [] Try.f20 rfl) (L := ref37_Place_L)
    (fun n l h x => by cases h) (fun k n l h => by cases h)
    (fun k => All.mem (ref37_Place_vc k) trivial) (fun x r h => ⟨0, (ref37_Place_eq 0 x.1 x.2).symm.trans h⟩) (by kernel_rfl) (by kernel_rfl) (Nat.le_of_ble_eq_true (by kernel_rfl))
/-! ### 15 (*cotillion/drr.Turn).Next -/
noncomputable def drr_Turn_Next_1  (u_ : Unit) (may : List Bool) : Option Int := some (-1)
noncomputable abbrev drr_Turn_Next_1_T : Tab S := ⟨[], [], false⟩
noncomputable def drr_Turn_Next_1_L (k : Nat) : Nat → List (Lab S Int)
  | _ => []
theorem drr_Turn_Next_1_eq (k : Nat) (u_ : Unit) (may : List Bool) : drr_Turn_Next_1 u_ may = exec S (drr_Turn_Next_1_T) byt (labs S (drr_Turn_Next_1_T) (drr_Turn_Next_1_L k)) (ac [] Try.f15) (frame0 S [.nil, .val (.data (.sl .bool))] (u_, may)) (retK S (drr_Turn_Next_1_T) Try.f15 [.nil, .val (.data (.sl .bool))] [.val (.data (.int .i64))]) := by kernel_rfl
theorem drr_Turn_Next_1_vc (k : Nat) : VC S (drr_Turn_Next_1_T) byt (drr_Turn_Next_1_L k) (drr_Turn_Next_1_L (k + 1)) (ac [] Try.f15) (retK S (drr_Turn_Next_1_T) Try.f15 [.nil, .val (.data (.sl .bool))] [.val (.data (.int .i64))]) = [] := by kernel_rfl
theorem drr_Turn_Next_1_snd : Snd Try.prog S ⟨15, [.nil, .val (.data (.sl .bool))], [.val (.data (.int .i64))], fun x => drr_Turn_Next_1 x.1 x.2⟩ :=
  fn_ok progOk (T := (drr_Turn_Next_1_T)) (all_nil) (all_nil) mixed Try.func15 rfl (by kernel_rfl) (ac_code [] Try.f15 rfl) (L := drr_Turn_Next_1_L)
    (fun n l h x => by cases h) (fun k n l h => by cases h)
    (fun k => All.mem (drr_Turn_Next_1_vc k) trivial) (fun x r h => ⟨0, (drr_Turn_Next_1_eq 0 x.1 x.2).symm.trans h⟩) (by kernel_rfl) (by kernel_rfl) (Nat.le_of_ble_eq_true (by kernel_rfl))
/-! ### 21 (*cotillion/cotillionref24.Turn).Next -/
noncomputable def ref24_Turn_Next_l1 : Nat → (List Int) → (List Int) → Int → (List Bool) → Bool → Option (Int × (List Int × List Int × Int))
  | 0, _, _, _, _, _ => none
  | k + 1, t_Quanta, t_Left, t_Cur, may, some_ => bif some_ then
    if t_Cur < (may.length : Int) then
    if 0 ≤ t_Cur then
    if t_Cur < (may.length : Int) then
    bif may.getD t_Cur.toNat false then
    if 0 ≤ t_Cur then
    if t_Cur < (t_Left.length : Int) then
    if 0 < (t_Left.getD t_Cur.toNat 0) then
    some (t_Cur, (t_Quanta, t_Left, t_Cur)) else
    bif !(may.getD t_Cur.toNat false) then
    if 0 ≤ t_Cur then
    if t_Cur < (t_Left.length : Int) then
    if 0 ≤ t_Cur then
    if t_Cur < (t_Left.length : Int) then
    if ¬ (t_Quanta.length : Int) = 0 then
    if 0 ≤ ((w64 (t_Cur + 1)).tmod (t_Quanta.length : Int)) then
    if ((w64 (t_Cur + 1)).tmod (t_Quanta.length : Int)) < ((t_Left.set t_Cur.toNat (min (t_Left.getD t_Cur.toNat 0) 0)).length : Int) then
    if 0 ≤ ((w64 (t_Cur + 1)).tmod (t_Quanta.length : Int)) then
    if ((w64 (t_Cur + 1)).tmod (t_Quanta.length : Int)) < (t_Quanta.length : Int) then
    if 0 ≤ ((w64 (t_Cur + 1)).tmod (t_Quanta.length : Int)) then
    if ((w64 (t_Cur + 1)).tmod (t_Quanta.length : Int)) < ((t_Left.set t_Cur.toNat (min (t_Left.getD t_Cur.toNat 0) 0)).length : Int) then
    ref24_Turn_Next_l1 k t_Quanta ((t_Left.set t_Cur.toNat (min (t_Left.getD t_Cur.toNat 0) 0)).set ((w64 (t_Cur + 1)).tmod (t_Quanta.length : Int)).toNat (w64 (((t_Left.set t_Cur.toNat (min (t_Left.getD t_Cur.toNat 0) 0)).getD ((w64 (t_Cur + 1)).tmod (t_Quanta.length : Int)).toNat 0) + (t_Quanta.getD ((w64 (t_Cur + 1)).tmod (t_Quanta.length : Int)).toNat 0)))) ((w64 (t_Cur + 1)).tmod (t_Quanta.length : Int)) may some_ else none else none else none else none else none else none else none else none else none else none else none else
    if ¬ (t_Quanta.length : Int) = 0 then
    if 0 ≤ ((w64 (t_Cur + 1)).tmod (t_Quanta.length : Int)) then
    if ((w64 (t_Cur + 1)).tmod (t_Quanta.length : Int)) < (t_Left.length : Int) then
    if 0 ≤ ((w64 (t_Cur + 1)).tmod (t_Quanta.length : Int)) then
    if ((w64 (t_Cur + 1)).tmod (t_Quanta.length : Int)) < (t_Quanta.length : Int) then
    if 0 ≤ ((w64 (t_Cur + 1)).tmod (t_Quanta.length : Int)) then
    if ((w64 (t_Cur + 1)).tmod (t_Quanta.length : Int)) < (t_Left.length : Int) then
    ref24_Turn_Next_l1 k t_Quanta (t_Left.set ((w64 (t_Cur + 1)).tmod (t_Quanta.length : Int)).toNat (w64 ((t_Left.getD ((w64 (t_Cur + 1)).tmod (t_Quanta.length : Int)).toNat 0) + (t_Quanta.getD ((w64 (t_Cur + 1)).tmod (t_Quanta.length : Int)).toNat 0)))) ((w64 (t_Cur + 1)).tmod (t_Quanta.length : Int)) may some_ else none else none else none else none else none else none else none else none else none else
    bif !(may.getD t_Cur.toNat false) then
    if 0 ≤ t_Cur then
    if t_Cur < (t_Left.length : Int) then
    if 0 ≤ t_Cur then
    if t_Cur < (t_Left.length : Int) then
    if ¬ (t_Quanta.length : Int) = 0 then
    if 0 ≤ ((w64 (t_Cur + 1)).tmod (t_Quanta.length : Int)) then
    if ((w64 (t_Cur + 1)).tmod (t_Quanta.length : Int)) < ((t_Left.set t_Cur.toNat (min (t_Left.getD t_Cur.toNat 0) 0)).length : Int) then
    if 0 ≤ ((w64 (t_Cur + 1)).tmod (t_Quanta.length : Int)) then
    if ((w64 (t_Cur + 1)).tmod (t_Quanta.length : Int)) < (t_Quanta.length : Int) then
    if 0 ≤ ((w64 (t_Cur + 1)).tmod (t_Quanta.length : Int)) then
    if ((w64 (t_Cur + 1)).tmod (t_Quanta.length : Int)) < ((t_Left.set t_Cur.toNat (min (t_Left.getD t_Cur.toNat 0) 0)).length : Int) then
    ref24_Turn_Next_l1 k t_Quanta ((t_Left.set t_Cur.toNat (min (t_Left.getD t_Cur.toNat 0) 0)).set ((w64 (t_Cur + 1)).tmod (t_Quanta.length : Int)).toNat (w64 (((t_Left.set t_Cur.toNat (min (t_Left.getD t_Cur.toNat 0) 0)).getD ((w64 (t_Cur + 1)).tmod (t_Quanta.length : Int)).toNat 0) + (t_Quanta.getD ((w64 (t_Cur + 1)).tmod (t_Quanta.length : Int)).toNat 0)))) ((w64 (t_Cur + 1)).tmod (t_Quanta.length : Int)) may some_ else none else none else none else none else none else none else none else none else none else none else none else
    if ¬ (t_Quanta.length : Int) = 0 then
    if 0 ≤ ((w64 (t_Cur + 1)).tmod (t_Quanta.length : Int)) then
    if ((w64 (t_Cur + 1)).tmod (t_Quanta.length : Int)) < (t_Left.length : Int) then
    if 0 ≤ ((w64 (t_Cur + 1)).tmod (t_Quanta.length : Int)) then
    if ((w64 (t_Cur + 1)).tmod (t_Quanta.length : Int)) < (t_Quanta.length : Int) then
    if 0 ≤ ((w64 (t_Cur + 1)).tmod (t_Quanta.length : Int)) then
    if ((w64 (t_Cur + 1)).tmod (t_Quanta.length : Int)) < (t_Left.length : Int) then
    ref24_Turn_Next_l1 k t_Quanta (t_Left.set ((w64 (t_Cur + 1)).tmod (t_Quanta.length : Int)).toNat (w64 ((t_Left.getD ((w64 (t_Cur + 1)).tmod (t_Quanta.length : Int)).toNat 0) + (t_Quanta.getD ((w64 (t_Cur + 1)).tmod (t_Quanta.length : Int)).toNat 0)))) ((w64 (t_Cur + 1)).tmod (t_Quanta.length : Int)) may some_ else none else none else none else none else none else none else none else none else none else
    if 0 ≤ t_Cur then
    if t_Cur < (t_Left.length : Int) then
    if 0 ≤ t_Cur then
    if t_Cur < (t_Left.length : Int) then
    if ¬ (t_Quanta.length : Int) = 0 then
    if 0 ≤ ((w64 (t_Cur + 1)).tmod (t_Quanta.length : Int)) then
    if ((w64 (t_Cur + 1)).tmod (t_Quanta.length : Int)) < ((t_Left.set t_Cur.toNat (min (t_Left.getD t_Cur.toNat 0) 0)).length : Int) then
    if 0 ≤ ((w64 (t_Cur + 1)).tmod (t_Quanta.length : Int)) then
    if ((w64 (t_Cur + 1)).tmod (t_Quanta.length : Int)) < (t_Quanta.length : Int) then
    if 0 ≤ ((w64 (t_Cur + 1)).tmod (t_Quanta.length : Int)) then
    if ((w64 (t_Cur + 1)).tmod (t_Quanta.length : Int)) < ((t_Left.set t_Cur.toNat (min (t_Left.getD t_Cur.toNat 0) 0)).length : Int) then
    ref24_Turn_Next_l1 k t_Quanta ((t_Left.set t_Cur.toNat (min (t_Left.getD t_Cur.toNat 0) 0)).set ((w64 (t_Cur + 1)).tmod (t_Quanta.length : Int)).toNat (w64 (((t_Left.set t_Cur.toNat (min (t_Left.getD t_Cur.toNat 0) 0)).getD ((w64 (t_Cur + 1)).tmod (t_Quanta.length : Int)).toNat 0) + (t_Quanta.getD ((w64 (t_Cur + 1)).tmod (t_Quanta.length : Int)).toNat 0)))) ((w64 (t_Cur + 1)).tmod (t_Quanta.length : Int)) may some_ else none else none else none else none else none else none else none else none else none else none else none else
    some ((-1), (t_Quanta, t_Left, t_Cur))
noncomputable def ref24_Turn_Next_l0 : Nat → (List Int) → (List Int) → Int → (List Bool) → Bool → Int → Option (Int × (List Int × List Int × Int))
  | 0, _, _, _, _, _, _ => none
  | k + 1, t_Quanta, t_Left, t_Cur, may, some_, i => if i < (may.length : Int) then
    if i < (t_Quanta.length : Int) then
    bif some_ then
    ref24_Turn_Next_l0 k t_Quanta t_Left t_Cur may true (w64 (i + 1)) else
    if 0 ≤ i then
    if i < (may.length : Int) then
    ref24_Turn_Next_l0 k t_Quanta t_Left t_Cur may (may.getD i.toNat false) (w64 (i + 1)) else none else none else
    ref24_Turn_Next_l1 k t_Quanta t_Left t_Cur may some_ else
    ref24_Turn_Next_l1 k t_Quanta t_Left t_Cur may some_
noncomputable def ref24_Turn_Next_f (k : Nat) (t : List Int × List Int × Int) (may : List Bool) : Option (Int × (List Int × List Int × Int)) := ref24_Turn_Next_l0 k t.1 t.2.1 t.2.2 may false 0
noncomputable def ref24_Turn_Next (t : List Int × List Int × Int) (may : List Bool) : Option (Int × (List Int × List Int × Int)) := lim (fun k (x : (List Int × List Int × Int) × List Bool) => ref24_Turn_Next_f k x.1 x.2) (t, may)
noncomputable abbrev ref24_Turn_Next_T : Tab S := ⟨[], [], false⟩
noncomputable def ref24_Turn_Next_L (k : Nat) : Nat → List (Lab S (Int × (List Int × List Int × Int)))
  | 0 => [⟨[0, 1, 5, 6], [.obj [.data (.sl (.int .i64)), .marr (.int .i64), .data (.int .i64)], .val (.data (.sl .bool)), .val (.data .bool), .val (.data (.int .i64))], fun x => ref24_Turn_Next_l0 k x.1.1 x.1.2.1 x.1.2.2 x.2.1 x.2.2.1 x.2.2.2⟩]
  | 1 => []
  | 2 => [⟨[0, 1, 5], [.obj [.data (.sl (.int .i64)), .marr (.int .i64), .data (.int .i64)], .val (.data (.sl .bool)), .val (.data .bool)], fun x => ref24_Turn_Next_l1 k x.1.1 x.1.2.1 x.1.2.2 x.2.1 x.2.2⟩]
  | _ + 3 => []
theorem ref24_Turn_Next_eq (k : Nat) (t : List Int × List Int × Int) (may : List Bool) : ref24_Turn_Next_f k t may = exec S (ref24_Turn_Next_T) byt (labs S (ref24_Turn_Next_T) (ref24_Turn_Next_L k)) (ac [] Try.f21) (frame0 S [.obj [.data (.sl (.int .i64)), .marr (.int .i64), .data (.int .i64)], .val (.data (.sl .bool))] (t, may)) (retK S (ref24_Turn_Next_T) Try.f21 [.obj [.data (.sl (.int .i64)), .marr (.int .i64), .data (.int .i64)], .val (.data (.sl .bool))] [.val (.data (.int .i64))]) := by kernel_rfl
theorem ref24_Turn_Next_vc (k : Nat) : VC S (ref24_Turn_Next_T) byt (ref24_Turn_Next_L k) (ref24_Turn_Next_L (k + 1)) (ac [] Try.f21) (retK S (ref24_Turn_Next_T) Try.f21 [.obj [.data (.sl (.int .i64)), .marr (.int .i64), .data (.int .i64)], .val (.data (.sl .bool))] [.val (.data (.int .i64))]) = [∀ x : (List Int × List Int × Int) × List Bool × Bool × Int, ref24_Turn_Next_l0 (k + 1) x.1.1 x.1.2.1 x.1.2.2 x.2.1 x.2.2.1 x.2.2.2 = ref24_Turn_Next_l0 (k + 1) x.1.1 x.1.2.1 x.1.2.2 x.2.1 x.2.2.1 x.2.2.2, ∀ x : (List Int × List Int × Int) × List Bool × Bool, ref24_Turn_Next_l1 (k + 1) x.1.1 x.1.2.1 x.1.2.2 x.2.1 x.2.2 = ref24_Turn_Next_l1 (k + 1) x.1.1 x.1.2.1 x.1.2.2 x.2.1 x.2.2] := by kernel_rfl
theorem ref24_Turn_Next_sndk (k : Nat) : Snd Try.prog S ⟨21, [.obj [.data (.sl (.int .i64)), .marr (.int .i64), .data (.int .i64)], .val (.data (.sl .bool))], [.val (.data (.int .i64))], fun x => ref24_Turn_Next_f k x.1 x.2⟩ :=
  fn_ok progOk (T := (ref24_Turn_Next_T)) (all_nil) (all_nil) mixed Try.func21 rfl (by kernel_rfl) (ac_code [] Try.f21 rfl) (L := ref24_Turn_Next_L)
    (fun n l h x => by match n, h with
        | 0, h => 
          rcases List.mem_cons.1 h with rfl | h
          · rfl
          cases h
        | 1, h => cases h
        | 2, h => 
          rcases List.mem_cons.1 h with rfl | h
          · rfl
          cases h
        | _ + 3, h => cases h) (fun k n l h => by match n, h with
        | 0, h => 
          rcases List.mem_cons.1 h with rfl | h
          · rfl
          cases h
        | 1, h => cases h
        | 2, h => 
          rcases List.mem_cons.1 h with rfl | h
          · rfl
          cases h
        | _ + 3, h => cases h)
    (fun k => All.mem (ref24_Turn_Next_vc k) ⟨fun _ => rfl, ⟨fun _ => rfl, trivial⟩⟩) (fun x r h => ⟨k, (ref24_Turn_Next_eq k x.1 x.2).symm.trans h⟩) (by kernel_rfl) (by kernel_rfl) (Nat.le_of_ble_eq_true (by kernel_rfl))
theorem ref24_Turn_Next_snd : Snd Try.prog S ⟨21, [.obj [.data (.sl (.int .i64)), .marr (.int .i64), .data (.int .i64)], .val (.data (.sl .bool))], [.val (.data (.int .i64))], fun x => ref24_Turn_Next x.1 x.2⟩ := Snd.lim ref24_Turn_Next_sndk
/-! ### 41 (*cotillion/drr.Turn).is -/
noncomputable def drr_Turn_is_1  (u_ : Unit) (i : Int) : Option Bool := some false
noncomputable abbrev drr_Turn_is_1_T : Tab S := ⟨[], [], false⟩
noncomputable def drr_Turn_is_1_L (k : Nat) : Nat → List (Lab S Bool)
  | _ => []
theorem drr_Turn_is_1_eq (k : Nat) (u_ : Unit) (i : Int) : drr_Turn_is_1 u_ i = exec S (drr_Turn_is_1_T) byt (labs S (drr_Turn_is_1_T) (drr_Turn_is_1_L k)) (ac [] Try.f41) (frame0 S [.nil, .val (.data (.int .i64))] (u_, i)) (retK S (drr_Turn_is_1_T) Try.f41 [.nil, .val (.data (.int .i64))] [.val (.data .bool)]) := by kernel_rfl
theorem drr_Turn_is_1_vc (k : Nat) : VC S (drr_Turn_is_1_T) byt (drr_Turn_is_1_L k) (drr_Turn_is_1_L (k + 1)) (ac [] Try.f41) (retK S (drr_Turn_is_1_T) Try.f41 [.nil, .val (.data (.int .i64))] [.val (.data .bool)]) = [] := by kernel_rfl
theorem drr_Turn_is_1_snd : Snd Try.prog S ⟨41, [.nil, .val (.data (.int .i64))], [.val (.data .bool)], fun x => drr_Turn_is_1 x.1 x.2⟩ :=
  fn_ok progOk (T := (drr_Turn_is_1_T)) (all_nil) (all_nil) mixed Try.func41 rfl (by kernel_rfl) (ac_code [] Try.f41 rfl) (L := drr_Turn_is_1_L)
    (fun n l h x => by cases h) (fun k n l h => by cases h)
    (fun k => All.mem (drr_Turn_is_1_vc k) trivial) (fun x r h => ⟨0, (drr_Turn_is_1_eq 0 x.1 x.2).symm.trans h⟩) (by kernel_rfl) (by kernel_rfl) (Nat.le_of_ble_eq_true (by kernel_rfl))
/-! ### 16 (*cotillion/drr.Turn).Charge -/
noncomputable def drr_Turn_Charge_1  (u_ : Unit) (i : Int) (cost : Int) : Option Unit := (drr_Turn_is_1 () i).bind fun r1 =>
    bif r1 then
    if 0 ≤ cost then
    if cost ≤ 1073741824 then none else
    some () else
    some () else
    some ()
noncomputable abbrev drr_Turn_Charge_1_T : Tab S := ⟨[⟨41, [.nil, .val (.data (.int .i64))], [.val (.data .bool)], fun x => drr_Turn_is_1 x.1 x.2⟩], [], false⟩
noncomputable def drr_Turn_Charge_1_L (k : Nat) : Nat → List (Lab S Unit)
  | _ => []
theorem drr_Turn_Charge_1_eq (k : Nat) (u_ : Unit) (i : Int) (cost : Int) : drr_Turn_Charge_1 u_ i cost = exec S (drr_Turn_Charge_1_T) byt (labs S (drr_Turn_Charge_1_T) (drr_Turn_Charge_1_L k)) (ac [] Try.f16) (frame0 S [.nil, .val (.data (.int .i64)), .val (.data (.int .i64))] (u_, i, cost)) (retK S (drr_Turn_Charge_1_T) Try.f16 [.nil, .val (.data (.int .i64)), .val (.data (.int .i64))] []) := by kernel_rfl
theorem drr_Turn_Charge_1_vc (k : Nat) : VC S (drr_Turn_Charge_1_T) byt (drr_Turn_Charge_1_L k) (drr_Turn_Charge_1_L (k + 1)) (ac [] Try.f16) (retK S (drr_Turn_Charge_1_T) Try.f16 [.nil, .val (.data (.int .i64)), .val (.data (.int .i64))] []) = [] := by kernel_rfl
theorem drr_Turn_Charge_1_snd : Snd Try.prog S ⟨16, [.nil, .val (.data (.int .i64)), .val (.data (.int .i64))], [], fun x => drr_Turn_Charge_1 x.1 x.2.1 x.2.2⟩ :=
  fn_ok progOk (T := (drr_Turn_Charge_1_T)) (all_cons drr_Turn_is_1_snd (all_nil)) (all_nil) mixed Try.func16 rfl (by kernel_rfl) (ac_code [] Try.f16 rfl) (L := drr_Turn_Charge_1_L)
    (fun n l h x => by cases h) (fun k n l h => by cases h)
    (fun k => All.mem (drr_Turn_Charge_1_vc k) trivial) (fun x r h => ⟨0, (drr_Turn_Charge_1_eq 0 x.1 x.2.1 x.2.2).symm.trans h⟩) (by kernel_rfl) (by kernel_rfl) (Nat.le_of_ble_eq_true (by kernel_rfl))
/-! ### 22 (*cotillion/cotillionref24.Turn).Charge -/
noncomputable def ref24_Turn_Charge_c0 : Nat → (List Int) → (List Int) → Int → Int → Int → Bool → Option (List Int × List Int × Int)
  | 0, _, _, _, _, _, _ => none
  | k + 1, t_Quanta, t_Left, t_Cur, i, cost, x24 => bif x24 then
    if 0 ≤ i then
    if i < (t_Left.length : Int) then
    if 0 ≤ i then
    if i < (t_Left.length : Int) then
    some (t_Quanta, t_Left.set i.toNat (w64 ((t_Left.getD i.toNat 0) - cost)), t_Cur) else none else none else none else none else
    some (t_Quanta, t_Left, t_Cur)
noncomputable def ref24_Turn_Charge_f (k : Nat) (t : List Int × List Int × Int) (i : Int) (cost : Int) : Option (List Int × List Int × Int) := if 0 ≤ i then
    if i < (t.2.1.length : Int) then
    if 0 ≤ cost then
    ref24_Turn_Charge_c0 k t.1 t.2.1 t.2.2 i cost (decide (cost ≤ 1073741824)) else
    ref24_Turn_Charge_c0 k t.1 t.2.1 t.2.2 i cost false else
    ref24_Turn_Charge_c0 k t.1 t.2.1 t.2.2 i cost false else
    ref24_Turn_Charge_c0 k t.1 t.2.1 t.2.2 i cost false
noncomputable def ref24_Turn_Charge (t : List Int × List Int × Int) (i : Int) (cost : Int) : Option (List Int × List Int × Int) := lim (fun k (x : (List Int × List Int × Int) × Int × Int) => ref24_Turn_Charge_f k x.1 x.2.1 x.2.2) (t, i, cost)
noncomputable abbrev ref24_Turn_Charge_T : Tab S := ⟨[], [], false⟩
noncomputable def ref24_Turn_Charge_L (k : Nat) : Nat → List (Lab S (List Int × List Int × Int))
  | 0 => []
  | 1 => [⟨[0, 1, 2, 24], [.obj [.data (.sl (.int .i64)), .marr (.int .i64), .data (.int .i64)], .val (.data (.int .i64)), .val (.data (.int .i64)), .val (.data .bool)], fun x => ref24_Turn_Charge_c0 k x.1.1 x.1.2.1 x.1.2.2 x.2.1 x.2.2.1 x.2.2.2⟩]
  | _ + 2 => []
theorem ref24_Turn_Charge_eq (k : Nat) (t : List Int × List Int × Int) (i : Int) (cost : Int) : ref24_Turn_Charge_f k t i cost = exec S (ref24_Turn_Charge_T) byt (labs S (ref24_Turn_Charge_T) (ref24_Turn_Charge_L k)) (ac [0] Try.f22) (frame0 S [.obj [.data (.sl (.int .i64)), .marr (.int .i64), .data (.int .i64)], .val (.data (.int .i64)), .val (.data (.int .i64))] (t, i, cost)) (retK S (ref24_Turn_Charge_T) Try.f22 [.obj [.data (.sl (.int .i64)), .marr (.int .i64), .data (.int .i64)], .val (.data (.int .i64)), .val (.data (.int .i64))] []) := by kernel_rfl
theorem ref24_Turn_Charge_vc (k : Nat) : VC S (ref24_Turn_Charge_T) byt (ref24_Turn_Charge_L k) (ref24_Turn_Charge_L (k + 1)) (ac [0] Try.f22) (retK S (ref24_Turn_Charge_T) Try.f22 [.obj [.data (.sl (.int .i64)), .marr (.int .i64), .data (.int .i64)], .val (.data (.int .i64)), .val (.data (.int .i64))] []) = [∀ x : (List Int × List Int × Int) × Int × Int × Bool, ref24_Turn_Charge_c0 (k + 1) x.1.1 x.1.2.1 x.1.2.2 x.2.1 x.2.2.1 x.2.2.2 = ref24_Turn_Charge_c0 (k + 1) x.1.1 x.1.2.1 x.1.2.2 x.2.1 x.2.2.1 x.2.2.2] := by kernel_rfl
theorem ref24_Turn_Charge_sndk (k : Nat) : Snd Try.prog S ⟨22, [.obj [.data (.sl (.int .i64)), .marr (.int .i64), .data (.int .i64)], .val (.data (.int .i64)), .val (.data (.int .i64))], [], fun x => ref24_Turn_Charge_f k x.1 x.2.1 x.2.2⟩ :=
  fn_ok progOk (T := (ref24_Turn_Charge_T)) (all_nil) (all_nil) mixed Try.func22 rfl (by kernel_rfl) (ac_code [0] Try.f22 rfl) (L := ref24_Turn_Charge_L)
    (fun n l h x => by match n, h with
        | 0, h => cases h
        | 1, h => 
          rcases List.mem_cons.1 h with rfl | h
          · rfl
          cases h
        | _ + 2, h => cases h) (fun k n l h => by match n, h with
        | 0, h => cases h
        | 1, h => 
          rcases List.mem_cons.1 h with rfl | h
          · rfl
          cases h
        | _ + 2, h => cases h)
    (fun k => All.mem (ref24_Turn_Charge_vc k) ⟨fun _ => rfl, trivial⟩) (fun x r h => ⟨k, (ref24_Turn_Charge_eq k x.1 x.2.1 x.2.2).symm.trans h⟩) (by kernel_rfl) (by kernel_rfl) (Nat.le_of_ble_eq_true (by kernel_rfl))
theorem ref24_Turn_Charge_snd : Snd Try.prog S ⟨22, [.obj [.data (.sl (.int .i64)), .marr (.int .i64), .data (.int .i64)], .val (.data (.int .i64)), .val (.data (.int .i64))], [], fun x => ref24_Turn_Charge x.1 x.2.1 x.2.2⟩ := Snd.lim ref24_Turn_Charge_sndk
/-! ### 23 (*cotillion/drr.Turn).Reset -/
noncomputable def drr_Turn_Reset  (u_ : Unit) (i : Int) : Option Unit := (drr_Turn_is_1 () i).bind fun r1 => bif r1 then none else some ()
noncomputable abbrev drr_Turn_Reset_T : Tab S := ⟨[⟨41, [.nil, .val (.data (.int .i64))], [.val (.data .bool)], fun x => drr_Turn_is_1 x.1 x.2⟩], [], false⟩
noncomputable def drr_Turn_Reset_L (k : Nat) : Nat → List (Lab S Unit)
  | _ => []
theorem drr_Turn_Reset_eq (k : Nat) (u_ : Unit) (i : Int) : drr_Turn_Reset u_ i = exec S (drr_Turn_Reset_T) byt (labs S (drr_Turn_Reset_T) (drr_Turn_Reset_L k)) (ac [] Try.f23) (frame0 S [.nil, .val (.data (.int .i64))] (u_, i)) (retK S (drr_Turn_Reset_T) Try.f23 [.nil, .val (.data (.int .i64))] []) := by kernel_rfl
theorem drr_Turn_Reset_vc (k : Nat) : VC S (drr_Turn_Reset_T) byt (drr_Turn_Reset_L k) (drr_Turn_Reset_L (k + 1)) (ac [] Try.f23) (retK S (drr_Turn_Reset_T) Try.f23 [.nil, .val (.data (.int .i64))] []) = [] := by kernel_rfl
theorem drr_Turn_Reset_snd : Snd Try.prog S ⟨23, [.nil, .val (.data (.int .i64))], [], fun x => drr_Turn_Reset x.1 x.2⟩ :=
  fn_ok progOk (T := (drr_Turn_Reset_T)) (all_cons drr_Turn_is_1_snd (all_nil)) (all_nil) mixed Try.func23 rfl (by kernel_rfl) (ac_code [] Try.f23 rfl) (L := drr_Turn_Reset_L)
    (fun n l h x => by cases h) (fun k n l h => by cases h)
    (fun k => All.mem (drr_Turn_Reset_vc k) trivial) (fun x r h => ⟨0, (drr_Turn_Reset_eq 0 x.1 x.2).symm.trans h⟩) (by kernel_rfl) (by kernel_rfl) (Nat.le_of_ble_eq_true (by kernel_rfl))
/-! ### 24 (*cotillion/cotillionref24.Turn).Reset -/
noncomputable def ref24_Turn_Reset  (t : List Int × List Int × Int) (i : Int) : Option (List Int × List Int × Int) := if 0 ≤ i then
    if i < (t.2.1.length : Int) then
    if 0 ≤ i then
    if i < (t.2.1.length : Int) then
    some (t.1, t.2.1.set i.toNat 0, t.2.2) else none else none else
    some (t.1, t.2.1, t.2.2) else
    some (t.1, t.2.1, t.2.2)
noncomputable abbrev ref24_Turn_Reset_T : Tab S := ⟨[], [], false⟩
noncomputable def ref24_Turn_Reset_L (k : Nat) : Nat → List (Lab S (List Int × List Int × Int))
  | _ => []
theorem ref24_Turn_Reset_eq (k : Nat) (t : List Int × List Int × Int) (i : Int) : ref24_Turn_Reset t i = exec S (ref24_Turn_Reset_T) byt (labs S (ref24_Turn_Reset_T) (ref24_Turn_Reset_L k)) (ac [] Try.f24) (frame0 S [.obj [.data (.sl (.int .i64)), .marr (.int .i64), .data (.int .i64)], .val (.data (.int .i64))] (t, i)) (retK S (ref24_Turn_Reset_T) Try.f24 [.obj [.data (.sl (.int .i64)), .marr (.int .i64), .data (.int .i64)], .val (.data (.int .i64))] []) := by kernel_rfl
theorem ref24_Turn_Reset_vc (k : Nat) : VC S (ref24_Turn_Reset_T) byt (ref24_Turn_Reset_L k) (ref24_Turn_Reset_L (k + 1)) (ac [] Try.f24) (retK S (ref24_Turn_Reset_T) Try.f24 [.obj [.data (.sl (.int .i64)), .marr (.int .i64), .data (.int .i64)], .val (.data (.int .i64))] []) = [] := by kernel_rfl
theorem ref24_Turn_Reset_snd : Snd Try.prog S ⟨24, [.obj [.data (.sl (.int .i64)), .marr (.int .i64), .data (.int .i64)], .val (.data (.int .i64))], [], fun x => ref24_Turn_Reset x.1 x.2⟩ :=
  fn_ok progOk (T := (ref24_Turn_Reset_T)) (all_nil) (all_nil) mixed Try.func24 rfl (by kernel_rfl) (ac_code [] Try.f24 rfl) (L := ref24_Turn_Reset_L)
    (fun n l h x => by cases h) (fun k n l h => by cases h)
    (fun k => All.mem (ref24_Turn_Reset_vc k) trivial) (fun x r h => ⟨0, (ref24_Turn_Reset_eq 0 x.1 x.2).symm.trans h⟩) (by kernel_rfl) (by kernel_rfl) (Nat.le_of_ble_eq_true (by kernel_rfl))
/-! ### 23 (*cotillion/drr.Turn).Reset -/
noncomputable def drr_Turn_Reset_1  (t : List Int × List Int × Int) (i : Int) : Option (List Int × List Int × Int) := (drr_Turn_is (t.1, t.2.1, t.2.2) i).bind fun r1 =>
    bif r1.1 then
    if 0 ≤ i then
    if i < (r1.2.2.1.length : Int) then
    some (r1.2.1, r1.2.2.1.set i.toNat 0, r1.2.2.2) else none else none else
    some (r1.2.1, r1.2.2.1, r1.2.2.2)
noncomputable abbrev drr_Turn_Reset_1_T : Tab S := ⟨[⟨41, [.obj [.data (.sl (.int .i64)), .marr (.int .i64), .data (.int .i64)], .val (.data (.int .i64))], [.val (.data .bool)], fun x => drr_Turn_is x.1 x.2⟩], [], false⟩
noncomputable def drr_Turn_Reset_1_L (k : Nat) : Nat → List (Lab S (List Int × List Int × Int))
  | _ => []
theorem drr_Turn_Reset_1_eq (k : Nat) (t : List Int × List Int × Int) (i : Int) : drr_Turn_Reset_1 t i = exec S (drr_Turn_Reset_1_T) byt (labs S (drr_Turn_Reset_1_T) (drr_Turn_Reset_1_L k)) (ac [] Try.f23) (frame0 S [.obj [.data (.sl (.int .i64)), .marr (.int .i64), .data (.int .i64)], .val (.data (.int .i64))] (t, i)) (retK S (drr_Turn_Reset_1_T) Try.f23 [.obj [.data (.sl (.int .i64)), .marr (.int .i64), .data (.int .i64)], .val (.data (.int .i64))] []) := by kernel_rfl
theorem drr_Turn_Reset_1_vc (k : Nat) : VC S (drr_Turn_Reset_1_T) byt (drr_Turn_Reset_1_L k) (drr_Turn_Reset_1_L (k + 1)) (ac [] Try.f23) (retK S (drr_Turn_Reset_1_T) Try.f23 [.obj [.data (.sl (.int .i64)), .marr (.int .i64), .data (.int .i64)], .val (.data (.int .i64))] []) = [] := by kernel_rfl
theorem drr_Turn_Reset_1_snd : Snd Try.prog S ⟨23, [.obj [.data (.sl (.int .i64)), .marr (.int .i64), .data (.int .i64)], .val (.data (.int .i64))], [], fun x => drr_Turn_Reset_1 x.1 x.2⟩ :=
  fn_ok progOk (T := (drr_Turn_Reset_1_T)) (all_cons drr_Turn_is_snd (all_nil)) (all_nil) mixed Try.func23 rfl (by kernel_rfl) (ac_code [] Try.f23 rfl) (L := drr_Turn_Reset_1_L)
    (fun n l h x => by cases h) (fun k n l h => by cases h)
    (fun k => All.mem (drr_Turn_Reset_1_vc k) trivial) (fun x r h => ⟨0, (drr_Turn_Reset_1_eq 0 x.1 x.2).symm.trans h⟩) (by kernel_rfl) (by kernel_rfl) (Nat.le_of_ble_eq_true (by kernel_rfl))
/-! ### 18 (*cotillion/drr.Turn).Cur -/
noncomputable def drr_Turn_Cur_1  (u_ : Unit) : Option Int := some (-1)
noncomputable abbrev drr_Turn_Cur_1_T : Tab S := ⟨[], [], false⟩
noncomputable def drr_Turn_Cur_1_L (k : Nat) : Nat → List (Lab S Int)
  | _ => []
theorem drr_Turn_Cur_1_eq (k : Nat) (u_ : Unit) : drr_Turn_Cur_1 u_ = exec S (drr_Turn_Cur_1_T) byt (labs S (drr_Turn_Cur_1_T) (drr_Turn_Cur_1_L k)) (ac [] Try.f18) (frame0 S [.nil] u_) (retK S (drr_Turn_Cur_1_T) Try.f18 [.nil] [.val (.data (.int .i64))]) := by kernel_rfl
theorem drr_Turn_Cur_1_vc (k : Nat) : VC S (drr_Turn_Cur_1_T) byt (drr_Turn_Cur_1_L k) (drr_Turn_Cur_1_L (k + 1)) (ac [] Try.f18) (retK S (drr_Turn_Cur_1_T) Try.f18 [.nil] [.val (.data (.int .i64))]) = [] := by kernel_rfl
theorem drr_Turn_Cur_1_snd : Snd Try.prog S ⟨18, [.nil], [.val (.data (.int .i64))], fun x => drr_Turn_Cur_1 x⟩ :=
  fn_ok progOk (T := (drr_Turn_Cur_1_T)) (all_nil) (all_nil) mixed Try.func18 rfl (by kernel_rfl) (ac_code [] Try.f18 rfl) (L := drr_Turn_Cur_1_L)
    (fun n l h x => by cases h) (fun k n l h => by cases h)
    (fun k => All.mem (drr_Turn_Cur_1_vc k) trivial) (fun x r h => ⟨0, (drr_Turn_Cur_1_eq 0 x).symm.trans h⟩) (by kernel_rfl) (by kernel_rfl) (Nat.le_of_ble_eq_true (by kernel_rfl))
/-! ### 17 (*cotillion/drr.Turn).Left -/
noncomputable def drr_Turn_Left_1  (u_ : Unit) (i : Int) : Option Int := (drr_Turn_is_1 () i).bind fun r1 => bif !r1 then some 0 else none
noncomputable abbrev drr_Turn_Left_1_T : Tab S := ⟨[⟨41, [.nil, .val (.data (.int .i64))], [.val (.data .bool)], fun x => drr_Turn_is_1 x.1 x.2⟩], [], false⟩
noncomputable def drr_Turn_Left_1_L (k : Nat) : Nat → List (Lab S Int)
  | _ => []
theorem drr_Turn_Left_1_eq (k : Nat) (u_ : Unit) (i : Int) : drr_Turn_Left_1 u_ i = exec S (drr_Turn_Left_1_T) byt (labs S (drr_Turn_Left_1_T) (drr_Turn_Left_1_L k)) (ac [] Try.f17) (frame0 S [.nil, .val (.data (.int .i64))] (u_, i)) (retK S (drr_Turn_Left_1_T) Try.f17 [.nil, .val (.data (.int .i64))] [.val (.data (.int .i64))]) := by kernel_rfl
theorem drr_Turn_Left_1_vc (k : Nat) : VC S (drr_Turn_Left_1_T) byt (drr_Turn_Left_1_L k) (drr_Turn_Left_1_L (k + 1)) (ac [] Try.f17) (retK S (drr_Turn_Left_1_T) Try.f17 [.nil, .val (.data (.int .i64))] [.val (.data (.int .i64))]) = [] := by kernel_rfl
theorem drr_Turn_Left_1_snd : Snd Try.prog S ⟨17, [.nil, .val (.data (.int .i64))], [.val (.data (.int .i64))], fun x => drr_Turn_Left_1 x.1 x.2⟩ :=
  fn_ok progOk (T := (drr_Turn_Left_1_T)) (all_cons drr_Turn_is_1_snd (all_nil)) (all_nil) mixed Try.func17 rfl (by kernel_rfl) (ac_code [] Try.f17 rfl) (L := drr_Turn_Left_1_L)
    (fun n l h x => by cases h) (fun k n l h => by cases h)
    (fun k => All.mem (drr_Turn_Left_1_vc k) trivial) (fun x r h => ⟨0, (drr_Turn_Left_1_eq 0 x.1 x.2).symm.trans h⟩) (by kernel_rfl) (by kernel_rfl) (Nat.le_of_ble_eq_true (by kernel_rfl))
/-! ### 25 cotillion/cotillionlaw24.left -/
noncomputable def law24_left  (t : List Int × List Int × Int) (i : Int) : Option (Int × (List Int × List Int × Int)) := if i < 0 then
    some (0, (t.1, t.2.1, t.2.2)) else
    if (t.2.1.length : Int) ≤ i then
    some (0, (t.1, t.2.1, t.2.2)) else
    if 0 ≤ i then
    if i < (t.2.1.length : Int) then
    some (t.2.1.getD i.toNat 0, (t.1, t.2.1, t.2.2)) else none else none
noncomputable abbrev law24_left_T : Tab S := ⟨[], [], false⟩
noncomputable def law24_left_L (k : Nat) : Nat → List (Lab S (Int × (List Int × List Int × Int)))
  | _ => []
theorem law24_left_eq (k : Nat) (t : List Int × List Int × Int) (i : Int) : law24_left t i = exec S (law24_left_T) byt (labs S (law24_left_T) (law24_left_L k)) (ac [] Try.f25) (frame0 S [.obj [.data (.sl (.int .i64)), .marr (.int .i64), .data (.int .i64)], .val (.data (.int .i64))] (t, i)) (retK S (law24_left_T) Try.f25 [.obj [.data (.sl (.int .i64)), .marr (.int .i64), .data (.int .i64)], .val (.data (.int .i64))] [.val (.data (.int .i64))]) := by kernel_rfl
theorem law24_left_vc (k : Nat) : VC S (law24_left_T) byt (law24_left_L k) (law24_left_L (k + 1)) (ac [] Try.f25) (retK S (law24_left_T) Try.f25 [.obj [.data (.sl (.int .i64)), .marr (.int .i64), .data (.int .i64)], .val (.data (.int .i64))] [.val (.data (.int .i64))]) = [] := by kernel_rfl
theorem law24_left_snd : Snd Try.prog S ⟨25, [.obj [.data (.sl (.int .i64)), .marr (.int .i64), .data (.int .i64)], .val (.data (.int .i64))], [.val (.data (.int .i64))], fun x => law24_left x.1 x.2⟩ :=
  fn_ok progOk (T := (law24_left_T)) (all_nil) (all_nil) mixed Try.func25 rfl (by kernel_rfl) (ac_code [] Try.f25 rfl) (L := law24_left_L)
    (fun n l h x => by cases h) (fun k n l h => by cases h)
    (fun k => All.mem (law24_left_vc k) trivial) (fun x r h => ⟨0, (law24_left_eq 0 x.1 x.2).symm.trans h⟩) (by kernel_rfl) (by kernel_rfl) (Nat.le_of_ble_eq_true (by kernel_rfl))
/-! ### 6 cotillion/cotillionlaw24.DrrPlays -/
noncomputable def law24_DrrPlays_l0 : Nat → (List law24_Step) → Int → Option Bool
  | 0, _, _ => none
  | k + 1, l, i => if i < (l.length : Int) then
    (law24_known).bind fun r9 =>
    some r9 else
    (law24_known).bind fun r10 =>
    some r10
mutual
noncomputable def law24_DrrPlays_l0b : Nat → (List law24_Step) → (List Int) → (List Int) → Int → Int → Option Bool
  | 0, _, _, _, _, _ => none
  | k + 1, l, b_Quanta, b_Left, b_Cur, i => if i < (l.length : Int) then
    if 0 ≤ i then
    if i < (l.length : Int) then
    (ref37_Place ((l.getD i.toNat law24_Step.z).Cost) 500).bind fun r11 =>
    if 0 ≤ ((l.getD i.toNat law24_Step.z).What) then
    if ((l.getD i.toNat law24_Step.z).What) ≤ 3 then
    (drr_Turn_Next_1 () ((l.getD i.toNat law24_Step.z).May)).bind fun r12 =>
    (ref24_Turn_Next (b_Quanta, b_Left, b_Cur) ((l.getD i.toNat law24_Step.z).May)).bind fun r13 =>
    if r12 ≠ r13.1 then
    some false else
    (drr_Turn_Charge_1 () r12 r11).bind fun _ =>
    (ref24_Turn_Charge (r13.2.1, r13.2.2.1, r13.2.2.2) r12 r11).bind fun r14 =>
    law24_DrrPlays_c0 k l r14.1 r14.2.1 r14.2.2 i ((l.getD i.toNat law24_Step.z).What) ((l.getD i.toNat law24_Step.z).I) ((l.getD i.toNat law24_Step.z).Cost) ((l.getD i.toNat law24_Step.z).May) else
    if ((l.getD i.toNat law24_Step.z).What) = 4 then
    if ((l.getD i.toNat law24_Step.z).Cost) < 0 then
    (drr_Turn_Charge_1 () ((l.getD i.toNat law24_Step.z).I) ((l.getD i.toNat law24_Step.z).Cost)).bind fun _ =>
    (ref24_Turn_Charge (b_Quanta, b_Left, b_Cur) ((l.getD i.toNat law24_Step.z).I) ((l.getD i.toNat law24_Step.z).Cost)).bind fun r15 =>
    law24_DrrPlays_c0 k l r15.1 r15.2.1 r15.2.2 i ((l.getD i.toNat law24_Step.z).What) ((l.getD i.toNat law24_Step.z).I) ((l.getD i.toNat law24_Step.z).Cost) ((l.getD i.toNat law24_Step.z).May) else
    if 1073741824 < ((l.getD i.toNat law24_Step.z).Cost) then
    (drr_Turn_Charge_1 () ((l.getD i.toNat law24_Step.z).I) ((l.getD i.toNat law24_Step.z).Cost)).bind fun _ =>
    (ref24_Turn_Charge (b_Quanta, b_Left, b_Cur) ((l.getD i.toNat law24_Step.z).I) ((l.getD i.toNat law24_Step.z).Cost)).bind fun r16 =>
    law24_DrrPlays_c0 k l r16.1 r16.2.1 r16.2.2 i ((l.getD i.toNat law24_Step.z).What) ((l.getD i.toNat law24_Step.z).I) ((l.getD i.toNat law24_Step.z).Cost) ((l.getD i.toNat law24_Step.z).May) else
    (drr_Turn_Charge_1 () ((l.getD i.toNat law24_Step.z).I) r11).bind fun _ =>
    (ref24_Turn_Charge (b_Quanta, b_Left, b_Cur) ((l.getD i.toNat law24_Step.z).I) r11).bind fun r17 =>
    law24_DrrPlays_c0 k l r17.1 r17.2.1 r17.2.2 i ((l.getD i.toNat law24_Step.z).What) ((l.getD i.toNat law24_Step.z).I) ((l.getD i.toNat law24_Step.z).Cost) ((l.getD i.toNat law24_Step.z).May) else
    if ((l.getD i.toNat law24_Step.z).What) = 5 then
    (drr_Turn_Reset () ((l.getD i.toNat law24_Step.z).I)).bind fun _ =>
    (ref24_Turn_Reset (b_Quanta, b_Left, b_Cur) ((l.getD i.toNat law24_Step.z).I)).bind fun r18 =>
    law24_DrrPlays_c0 k l r18.1 r18.2.1 r18.2.2 i ((l.getD i.toNat law24_Step.z).What) ((l.getD i.toNat law24_Step.z).I) ((l.getD i.toNat law24_Step.z).Cost) ((l.getD i.toNat law24_Step.z).May) else
    law24_DrrPlays_c0 k l b_Quanta b_Left b_Cur i ((l.getD i.toNat law24_Step.z).What) ((l.getD i.toNat law24_Step.z).I) ((l.getD i.toNat law24_Step.z).Cost) ((l.getD i.toNat law24_Step.z).May) else
    if ((l.getD i.toNat law24_Step.z).What) = 4 then
    if ((l.getD i.toNat law24_Step.z).Cost) < 0 then
    (drr_Turn_Charge_1 () ((l.getD i.toNat law24_Step.z).I) ((l.getD i.toNat law24_Step.z).Cost)).bind fun _ =>
    (ref24_Turn_Charge (b_Quanta, b_Left, b_Cur) ((l.getD i.toNat law24_Step.z).I) ((l.getD i.toNat law24_Step.z).Cost)).bind fun r19 =>
    law24_DrrPlays_c0 k l r19.1 r19.2.1 r19.2.2 i ((l.getD i.toNat law24_Step.z).What) ((l.getD i.toNat law24_Step.z).I) ((l.getD i.toNat law24_Step.z).Cost) ((l.getD i.toNat law24_Step.z).May) else
    if 1073741824 < ((l.getD i.toNat law24_Step.z).Cost) then
    (drr_Turn_Charge_1 () ((l.getD i.toNat law24_Step.z).I) ((l.getD i.toNat law24_Step.z).Cost)).bind fun _ =>
    (ref24_Turn_Charge (b_Quanta, b_Left, b_Cur) ((l.getD i.toNat law24_Step.z).I) ((l.getD i.toNat law24_Step.z).Cost)).bind fun r20 =>
    law24_DrrPlays_c0 k l r20.1 r20.2.1 r20.2.2 i ((l.getD i.toNat law24_Step.z).What) ((l.getD i.toNat law24_Step.z).I) ((l.getD i.toNat law24_Step.z).Cost) ((l.getD i.toNat law24_Step.z).May) else
    (drr_Turn_Charge_1 () ((l.getD i.toNat law24_Step.z).I) r11).bind fun _ =>
    (ref24_Turn_Charge (b_Quanta, b_Left, b_Cur) ((l.getD i.toNat law24_Step.z).I) r11).bind fun r21 =>
    law24_DrrPlays_c0 k l r21.1 r21.2.1 r21.2.2 i ((l.getD i.toNat law24_Step.z).What) ((l.getD i.toNat law24_Step.z).I) ((l.getD i.toNat law24_Step.z).Cost) ((l.getD i.toNat law24_Step.z).May) else
    if ((l.getD i.toNat law24_Step.z).What) = 5 then
    (drr_Turn_Reset () ((l.getD i.toNat law24_Step.z).I)).bind fun _ =>
    (ref24_Turn_Reset (b_Quanta, b_Left, b_Cur) ((l.getD i.toNat law24_Step.z).I)).bind fun r22 =>
    law24_DrrPlays_c0 k l r22.1 r22.2.1 r22.2.2 i ((l.getD i.toNat law24_Step.z).What) ((l.getD i.toNat law24_Step.z).I) ((l.getD i.toNat law24_Step.z).Cost) ((l.getD i.toNat law24_Step.z).May) else
    law24_DrrPlays_c0 k l b_Quanta b_Left b_Cur i ((l.getD i.toNat law24_Step.z).What) ((l.getD i.toNat law24_Step.z).I) ((l.getD i.toNat law24_Step.z).Cost) ((l.getD i.toNat law24_Step.z).May) else none else none else
    (law24_known).bind fun r23 =>
    some r23
noncomputable def law24_DrrPlays_c0 : Nat → (List law24_Step) → (List Int) → (List Int) → Int → Int → Int → Int → Int → (List Bool) → Option Bool
  | 0, _, _, _, _, _, _, _, _, _ => none
  | k + 1, l, b_Quanta, b_Left, b_Cur, i, s_What, s_I, s_Cost, s_May => (drr_Turn_Cur_1 ()).bind fun r48 =>
    if r48 ≠ b_Cur then
    some false else
    (drr_Turn_Left_1 () s_I).bind fun r49 =>
    (law24_left (b_Quanta, b_Left, b_Cur) s_I).bind fun r50 =>
    if r49 ≠ r50.1 then
    some false else
    (drr_Turn_Left_1 () r50.2.2.2).bind fun r51 =>
    if 0 ≤ r50.2.2.2 then
    if r50.2.2.2 < (r50.2.2.1.length : Int) then
    if r51 ≠ (r50.2.2.1.getD r50.2.2.2.toNat 0) then
    some false else
    law24_DrrPlays_l0b k l r50.2.1 r50.2.2.1 r50.2.2.2 (w64 (i + 1)) else none else none
end
noncomputable def law24_DrrPlays_l0c : Nat → (List law24_Step) → (List Int) → (List Int) → Int → Int → Option Bool
  | 0, _, _, _, _, _ => none
  | k + 1, l, a_quanta, a_left, a_cur, i => if i < (l.length : Int) then
    (law24_known).bind fun r24 =>
    some r24 else
    (law24_known).bind fun r25 =>
    some r25
mutual
noncomputable def law24_DrrPlays_l0d : Nat → (List law24_Step) → (List Int) → (List Int) → Int → (List Int) → (List Int) → Int → Int → Option Bool
  | 0, _, _, _, _, _, _, _, _ => none
  | k + 1, l, a_quanta, a_left, a_cur, b_Quanta, b_Left, b_Cur, i => if i < (l.length : Int) then
    if 0 ≤ i then
    if i < (l.length : Int) then
    (ref37_Place ((l.getD i.toNat law24_Step.z).Cost) 500).bind fun r26 =>
    if 0 ≤ ((l.getD i.toNat law24_Step.z).What) then
    if ((l.getD i.toNat law24_Step.z).What) ≤ 3 then
    (drr_Turn_Next (a_quanta, a_left, a_cur) ((l.getD i.toNat law24_Step.z).May)).bind fun r27 =>
    (ref24_Turn_Next (b_Quanta, b_Left, b_Cur) ((l.getD i.toNat law24_Step.z).May)).bind fun r28 =>
    if r27.1 ≠ r28.1 then
    some false else
    (drr_Turn_Charge (r27.2.1, r27.2.2.1, r27.2.2.2) r27.1 r26).bind fun r29 =>
    (ref24_Turn_Charge (r28.2.1, r28.2.2.1, r28.2.2.2) r27.1 r26).bind fun r30 =>
    law24_DrrPlays_c0b k l r29.1 r29.2.1 r29.2.2 r30.1 r30.2.1 r30.2.2 i ((l.getD i.toNat law24_Step.z).What) ((l.getD i.toNat law24_Step.z).I) ((l.getD i.toNat law24_Step.z).Cost) ((l.getD i.toNat law24_Step.z).May) else
    if ((l.getD i.toNat law24_Step.z).What) = 4 then
    if ((l.getD i.toNat law24_Step.z).Cost) < 0 then
    (drr_Turn_Charge (a_quanta, a_left, a_cur) ((l.getD i.toNat law24_Step.z).I) ((l.getD i.toNat law24_Step.z).Cost)).bind fun r31 =>
    (ref24_Turn_Charge (b_Quanta, b_Left, b_Cur) ((l.getD i.toNat law24_Step.z).I) ((l.getD i.toNat law24_Step.z).Cost)).bind fun r32 =>
    law24_DrrPlays_c0b k l r31.1 r31.2.1 r31.2.2 r32.1 r32.2.1 r32.2.2 i ((l.getD i.toNat law24_Step.z).What) ((l.getD i.toNat law24_Step.z).I) ((l.getD i.toNat law24_Step.z).Cost) ((l.getD i.toNat law24_Step.z).May) else
    if 1073741824 < ((l.getD i.toNat law24_Step.z).Cost) then
    (drr_Turn_Charge (a_quanta, a_left, a_cur) ((l.getD i.toNat law24_Step.z).I) ((l.getD i.toNat law24_Step.z).Cost)).bind fun r33 =>
    (ref24_Turn_Charge (b_Quanta, b_Left, b_Cur) ((l.getD i.toNat law24_Step.z).I) ((l.getD i.toNat law24_Step.z).Cost)).bind fun r34 =>
    law24_DrrPlays_c0b k l r33.1 r33.2.1 r33.2.2 r34.1 r34.2.1 r34.2.2 i ((l.getD i.toNat law24_Step.z).What) ((l.getD i.toNat law24_Step.z).I) ((l.getD i.toNat law24_Step.z).Cost) ((l.getD i.toNat law24_Step.z).May) else
    (drr_Turn_Charge (a_quanta, a_left, a_cur) ((l.getD i.toNat law24_Step.z).I) r26).bind fun r35 =>
    (ref24_Turn_Charge (b_Quanta, b_Left, b_Cur) ((l.getD i.toNat law24_Step.z).I) r26).bind fun r36 =>
    law24_DrrPlays_c0b k l r35.1 r35.2.1 r35.2.2 r36.1 r36.2.1 r36.2.2 i ((l.getD i.toNat law24_Step.z).What) ((l.getD i.toNat law24_Step.z).I) ((l.getD i.toNat law24_Step.z).Cost) ((l.getD i.toNat law24_Step.z).May) else
    if ((l.getD i.toNat law24_Step.z).What) = 5 then
    (drr_Turn_Reset_1 (a_quanta, a_left, a_cur) ((l.getD i.toNat law24_Step.z).I)).bind fun r37 =>
    (ref24_Turn_Reset (b_Quanta, b_Left, b_Cur) ((l.getD i.toNat law24_Step.z).I)).bind fun r38 =>
    law24_DrrPlays_c0b k l r37.1 r37.2.1 r37.2.2 r38.1 r38.2.1 r38.2.2 i ((l.getD i.toNat law24_Step.z).What) ((l.getD i.toNat law24_Step.z).I) ((l.getD i.toNat law24_Step.z).Cost) ((l.getD i.toNat law24_Step.z).May) else
    law24_DrrPlays_c0b k l a_quanta a_left a_cur b_Quanta b_Left b_Cur i ((l.getD i.toNat law24_Step.z).What) ((l.getD i.toNat law24_Step.z).I) ((l.getD i.toNat law24_Step.z).Cost) ((l.getD i.toNat law24_Step.z).May) else
    if ((l.getD i.toNat law24_Step.z).What) = 4 then
    if ((l.getD i.toNat law24_Step.z).Cost) < 0 then
    (drr_Turn_Charge (a_quanta, a_left, a_cur) ((l.getD i.toNat law24_Step.z).I) ((l.getD i.toNat law24_Step.z).Cost)).bind fun r39 =>
    (ref24_Turn_Charge (b_Quanta, b_Left, b_Cur) ((l.getD i.toNat law24_Step.z).I) ((l.getD i.toNat law24_Step.z).Cost)).bind fun r40 =>
    law24_DrrPlays_c0b k l r39.1 r39.2.1 r39.2.2 r40.1 r40.2.1 r40.2.2 i ((l.getD i.toNat law24_Step.z).What) ((l.getD i.toNat law24_Step.z).I) ((l.getD i.toNat law24_Step.z).Cost) ((l.getD i.toNat law24_Step.z).May) else
    if 1073741824 < ((l.getD i.toNat law24_Step.z).Cost) then
    (drr_Turn_Charge (a_quanta, a_left, a_cur) ((l.getD i.toNat law24_Step.z).I) ((l.getD i.toNat law24_Step.z).Cost)).bind fun r41 =>
    (ref24_Turn_Charge (b_Quanta, b_Left, b_Cur) ((l.getD i.toNat law24_Step.z).I) ((l.getD i.toNat law24_Step.z).Cost)).bind fun r42 =>
    law24_DrrPlays_c0b k l r41.1 r41.2.1 r41.2.2 r42.1 r42.2.1 r42.2.2 i ((l.getD i.toNat law24_Step.z).What) ((l.getD i.toNat law24_Step.z).I) ((l.getD i.toNat law24_Step.z).Cost) ((l.getD i.toNat law24_Step.z).May) else
    (drr_Turn_Charge (a_quanta, a_left, a_cur) ((l.getD i.toNat law24_Step.z).I) r26).bind fun r43 =>
    (ref24_Turn_Charge (b_Quanta, b_Left, b_Cur) ((l.getD i.toNat law24_Step.z).I) r26).bind fun r44 =>
    law24_DrrPlays_c0b k l r43.1 r43.2.1 r43.2.2 r44.1 r44.2.1 r44.2.2 i ((l.getD i.toNat law24_Step.z).What) ((l.getD i.toNat law24_Step.z).I) ((l.getD i.toNat law24_Step.z).Cost) ((l.getD i.toNat law24_Step.z).May) else
    if ((l.getD i.toNat law24_Step.z).What) = 5 then
    (drr_Turn_Reset_1 (a_quanta, a_left, a_cur) ((l.getD i.toNat law24_Step.z).I)).bind fun r45 =>
    (ref24_Turn_Reset (b_Quanta, b_Left, b_Cur) ((l.getD i.toNat law24_Step.z).I)).bind fun r46 =>
    law24_DrrPlays_c0b k l r45.1 r45.2.1 r45.2.2 r46.1 r46.2.1 r46.2.2 i ((l.getD i.toNat law24_Step.z).What) ((l.getD i.toNat law24_Step.z).I) ((l.getD i.toNat law24_Step.z).Cost) ((l.getD i.toNat law24_Step.z).May) else
    law24_DrrPlays_c0b k l a_quanta a_left a_cur b_Quanta b_Left b_Cur i ((l.getD i.toNat law24_Step.z).What) ((l.getD i.toNat law24_Step.z).I) ((l.getD i.toNat law24_Step.z).Cost) ((l.getD i.toNat law24_Step.z).May) else none else none else
    (law24_known).bind fun r47 =>
    some r47
noncomputable def law24_DrrPlays_c0b : Nat → (List law24_Step) → (List Int) → (List Int) → Int → (List Int) → (List Int) → Int → Int → Int → Int → Int → (List Bool) → Option Bool
  | 0, _, _, _, _, _, _, _, _, _, _, _, _ => none
  | k + 1, l, a_quanta, a_left, a_cur, b_Quanta, b_Left, b_Cur, i, s_What, s_I, s_Cost, s_May => (drr_Turn_Cur (a_quanta, a_left, a_cur)).bind fun r52 =>
    if r52.1 ≠ b_Cur then
    some false else
    (drr_Turn_Left (r52.2.1, r52.2.2.1, r52.2.2.2) s_I).bind fun r53 =>
    (law24_left (b_Quanta, b_Left, b_Cur) s_I).bind fun r54 =>
    if r53.1 ≠ r54.1 then
    some false else
    (drr_Turn_Left (r53.2.1, r53.2.2.1, r53.2.2.2) r54.2.2.2).bind fun r55 =>
    if 0 ≤ r54.2.2.2 then
    if r54.2.2.2 < (r54.2.2.1.length : Int) then
    if r55.1 ≠ (r54.2.2.1.getD r54.2.2.2.toNat 0) then
    some false else
    law24_DrrPlays_l0d k l r55.2.1 r55.2.2.1 r55.2.2.2 r54.2.1 r54.2.2.1 r54.2.2.2 (w64 (i + 1)) else none else none
end
noncomputable def law24_DrrPlays_f (k : Nat) (quanta : List Int) (l : List law24_Step) : Option Bool := if 20 < (quanta.length : Int) then
    (law24_known).bind fun r1 =>
    some r1 else
    if 100 < (l.length : Int) then
    (law24_known).bind fun r2 =>
    some r2 else
    (drr_New quanta).bind fun r3 =>
    (match r3.1 with
    | none => (ref24_New quanta).bind fun r5 =>
    (match r5.1 with
    | none => if r3.2 ≠ r5.2 then
    some false else
    if true ≠ true then
    some false else
    law24_DrrPlays_l0 k l 0
    | some y6 => if r3.2 ≠ r5.2 then
    some false else
    if true ≠ false then
    some false else
    law24_DrrPlays_l0b k l y6.1 y6.2.1 y6.2.2 0)
    | some y4 => (ref24_New quanta).bind fun r7 =>
    (match r7.1 with
    | none => if r3.2 ≠ r7.2 then
    some false else
    if false ≠ true then
    some false else
    law24_DrrPlays_l0c k l y4.1 y4.2.1 y4.2.2 0
    | some y8 => if r3.2 ≠ r7.2 then
    some false else
    if false ≠ false then
    some false else
    law24_DrrPlays_l0d k l y4.1 y4.2.1 y4.2.2 y8.1 y8.2.1 y8.2.2 0))
noncomputable def law24_DrrPlays (quanta : List Int) (l : List law24_Step) : Option Bool := lim (fun k (x : List Int × List law24_Step) => law24_DrrPlays_f k x.1 x.2) (quanta, l)
noncomputable abbrev law24_DrrPlays_T : Tab S := ⟨[⟨14, [], [.val (.data .bool)], fun x => law24_known⟩, ⟨13, [.val (.data (.sl (.int .i64)))], [.opt [.data (.sl (.int .i64)), .marr (.int .i64), .data (.int .i64)], .val (.data (.int .i64))], fun x => drr_New x⟩, ⟨19, [.val (.data (.sl (.int .i64)))], [.opt [.data (.sl (.int .i64)), .marr (.int .i64), .data (.int .i64)], .val (.data (.int .i64))], fun x => ref24_New x⟩, ⟨20, [.val (.data (.int .i64)), .val (.data (.int .i64))], [.val (.data (.int .i64))], fun x => ref37_Place x.1 x.2⟩, ⟨15, [.nil, .val (.data (.sl .bool))], [.val (.data (.int .i64))], fun x => drr_Turn_Next_1 x.1 x.2⟩, ⟨21, [.obj [.data (.sl (.int .i64)), .marr (.int .i64), .data (.int .i64)], .val (.data (.sl .bool))], [.val (.data (.int .i64))], fun x => ref24_Turn_Next x.1 x.2⟩, ⟨16, [.nil, .val (.data (.int .i64)), .val (.data (.int .i64))], [], fun x => drr_Turn_Charge_1 x.1 x.2.1 x.2.2⟩, ⟨22, [.obj [.data (.sl (.int .i64)), .marr (.int .i64), .data (.int .i64)], .val (.data (.int .i64)), .val (.data (.int .i64))], [], fun x => ref24_Turn_Charge x.1 x.2.1 x.2.2⟩, ⟨23, [.nil, .val (.data (.int .i64))], [], fun x => drr_Turn_Reset x.1 x.2⟩, ⟨24, [.obj [.data (.sl (.int .i64)), .marr (.int .i64), .data (.int .i64)], .val (.data (.int .i64))], [], fun x => ref24_Turn_Reset x.1 x.2⟩, ⟨15, [.obj [.data (.sl (.int .i64)), .marr (.int .i64), .data (.int .i64)], .val (.data (.sl .bool))], [.val (.data (.int .i64))], fun x => drr_Turn_Next x.1 x.2⟩, ⟨16, [.obj [.data (.sl (.int .i64)), .marr (.int .i64), .data (.int .i64)], .val (.data (.int .i64)), .val (.data (.int .i64))], [], fun x => drr_Turn_Charge x.1 x.2.1 x.2.2⟩, ⟨23, [.obj [.data (.sl (.int .i64)), .marr (.int .i64), .data (.int .i64)], .val (.data (.int .i64))], [], fun x => drr_Turn_Reset_1 x.1 x.2⟩, ⟨18, [.nil], [.val (.data (.int .i64))], fun x => drr_Turn_Cur_1 x⟩, ⟨17, [.nil, .val (.data (.int .i64))], [.val (.data (.int .i64))], fun x => drr_Turn_Left_1 x.1 x.2⟩, ⟨25, [.obj [.data (.sl (.int .i64)), .marr (.int .i64), .data (.int .i64)], .val (.data (.int .i64))], [.val (.data (.int .i64))], fun x => law24_left x.1 x.2⟩, ⟨18, [.obj [.data (.sl (.int .i64)), .marr (.int .i64), .data (.int .i64)]], [.val (.data (.int .i64))], fun x => drr_Turn_Cur x⟩, ⟨17, [.obj [.data (.sl (.int .i64)), .marr (.int .i64), .data (.int .i64)], .val (.data (.int .i64))], [.val (.data (.int .i64))], fun x => drr_Turn_Left x.1 x.2⟩], [], false⟩
noncomputable def law24_DrrPlays_L (k : Nat) : Nat → List (Lab S Bool)
  | 0 => [⟨[1, 5, 7, 9], [.val (.data (.sl (.st 2))), .nil, .nil, .val (.data (.int .i64))], fun x => law24_DrrPlays_l0 k x.1 x.2.2.2⟩, ⟨[1, 5, 7, 9], [.val (.data (.sl (.st 2))), .nil, .obj [.data (.sl (.int .i64)), .marr (.int .i64), .data (.int .i64)], .val (.data (.int .i64))], fun x => law24_DrrPlays_l0b k x.1 x.2.2.1.1 x.2.2.1.2.1 x.2.2.1.2.2 x.2.2.2⟩, ⟨[1, 5, 7, 9], [.val (.data (.sl (.st 2))), .obj [.data (.sl (.int .i64)), .marr (.int .i64), .data (.int .i64)], .nil, .val (.data (.int .i64))], fun x => law24_DrrPlays_l0c k x.1 x.2.1.1 x.2.1.2.1 x.2.1.2.2 x.2.2.2⟩, ⟨[1, 5, 7, 9], [.val (.data (.sl (.st 2))), .obj [.data (.sl (.int .i64)), .marr (.int .i64), .data (.int .i64)], .obj [.data (.sl (.int .i64)), .marr (.int .i64), .data (.int .i64)], .val (.data (.int .i64))], fun x => law24_DrrPlays_l0d k x.1 x.2.1.1 x.2.1.2.1 x.2.1.2.2 x.2.2.1.1 x.2.2.1.2.1 x.2.2.1.2.2 x.2.2.2⟩]
  | 1 => [⟨[1, 5, 7, 9, 10], [.val (.data (.sl (.st 2))), .nil, .obj [.data (.sl (.int .i64)), .marr (.int .i64), .data (.int .i64)], .val (.data (.int .i64)), .obj [.data (.int .i64), .data (.int .i64), .data (.int .i64), .data (.sl .bool)]], fun x => law24_DrrPlays_c0 k x.1 x.2.2.1.1 x.2.2.1.2.1 x.2.2.1.2.2 x.2.2.2.1 x.2.2.2.2.1 x.2.2.2.2.2.1 x.2.2.2.2.2.2.1 x.2.2.2.2.2.2.2⟩, ⟨[1, 5, 7, 9, 10], [.val (.data (.sl (.st 2))), .obj [.data (.sl (.int .i64)), .marr (.int .i64), .data (.int .i64)], .obj [.data (.sl (.int .i64)), .marr (.int .i64), .data (.int .i64)], .val (.data (.int .i64)), .obj [.data (.int .i64), .data (.int .i64), .data (.int .i64), .data (.sl .bool)]], fun x => law24_DrrPlays_c0b k x.1 x.2.1.1 x.2.1.2.1 x.2.1.2.2 x.2.2.1.1 x.2.2.1.2.1 x.2.2.1.2.2 x.2.2.2.1 x.2.2.2.2.1 x.2.2.2.2.2.1 x.2.2.2.2.2.2.1 x.2.2.2.2.2.2.2⟩]
  | _ + 2 => []
theorem law24_DrrPlays_eq (k : Nat) (quanta : List Int) (l : List law24_Step) : law24_DrrPlays_f k quanta l = exec S (law24_DrrPlays_T) byt (labs S (law24_DrrPlays_T) (law24_DrrPlays_L k)) (ac [16] Try.f6) (frame0 S [.val (.data (.sl (.int .i64))), .val (.data (.sl (.st 2)))] (quanta, l)) (retK S (law24_DrrPlays_T) Try.f6 [.val (.data (.sl (.int .i64))), .val (.data (.sl (.st 2)))] [.val (.data .bool)]) := by kernel_rfl
theorem law24_DrrPlays_vc (k : Nat) : VC S (law24_DrrPlays_T) byt (law24_DrrPlays_L k) (law24_DrrPlays_L (k + 1)) (ac [16] Try.f6) (retK S (law24_DrrPlays_T) Try.f6 [.val (.data (.sl (.int .i64))), .val (.data (.sl (.st 2)))] [.val (.data .bool)]) = [∀ x : List law24_Step × Unit × (List Int × List Int × Int) × Int × (Int × Int × Int × List Bool), law24_DrrPlays_c0 (k + 1) x.1 x.2.2.1.1 x.2.2.1.2.1 x.2.2.1.2.2 x.2.2.2.1 x.2.2.2.2.1 x.2.2.2.2.2.1 x.2.2.2.2.2.2.1 x.2.2.2.2.2.2.2 = law24_DrrPlays_c0 (k + 1) x.1 x.2.2.1.1 x.2.2.1.2.1 x.2.2.1.2.2 x.2.2.2.1 x.2.2.2.2.1 x.2.2.2.2.2.1 x.2.2.2.2.2.2.1 x.2.2.2.2.2.2.2, ∀ x : List law24_Step × (List Int × List Int × Int) × (List Int × List Int × Int) × Int × (Int × Int × Int × List Bool), law24_DrrPlays_c0b (k + 1) x.1 x.2.1.1 x.2.1.2.1 x.2.1.2.2 x.2.2.1.1 x.2.2.1.2.1 x.2.2.1.2.2 x.2.2.2.1 x.2.2.2.2.1 x.2.2.2.2.2.1 x.2.2.2.2.2.2.1 x.2.2.2.2.2.2.2 = law24_DrrPlays_c0b (k + 1) x.1 x.2.1.1 x.2.1.2.1 x.2.1.2.2 x.2.2.1.1 x.2.2.1.2.1 x.2.2.1.2.2 x.2.2.2.1 x.2.2.2.2.1 x.2.2.2.2.2.1 x.2.2.2.2.2.2.1 x.2.2.2.2.2.2.2, ∀ x : List law24_Step × Unit × Unit × Int, law24_DrrPlays_l0 (k + 1) x.1 x.2.2.2 = law24_DrrPlays_l0 (k + 1) x.1 x.2.2.2, ∀ x : List law24_Step × Unit × (List Int × List Int × Int) × Int, law24_DrrPlays_l0b (k + 1) x.1 x.2.2.1.1 x.2.2.1.2.1 x.2.2.1.2.2 x.2.2.2 = law24_DrrPlays_l0b (k + 1) x.1 x.2.2.1.1 x.2.2.1.2.1 x.2.2.1.2.2 x.2.2.2, ∀ x : List law24_Step × (List Int × List Int × Int) × Unit × Int, law24_DrrPlays_l0c (k + 1) x.1 x.2.1.1 x.2.1.2.1 x.2.1.2.2 x.2.2.2 = law24_DrrPlays_l0c (k + 1) x.1 x.2.1.1 x.2.1.2.1 x.2.1.2.2 x.2.2.2, ∀ x : List law24_Step × (List Int × List Int × Int) × (List Int × List Int × Int) × Int, law24_DrrPlays_l0d (k + 1) x.1 x.2.1.1 x.2.1.2.1 x.2.1.2.2 x.2.2.1.1 x.2.2.1.2.1 x.2.2.1.2.2 x.2.2.2 = law24_DrrPlays_l0d (k + 1) x.1 x.2.1.1 x.2.1.2.1 x.2.1.2.2 x.2.2.1.1 x.2.2.1.2.1 x.2.2.1.2.2 x.2.2.2] := by kernel_rfl
theorem law24_DrrPlays_sndk (k : Nat) : Snd Try.prog S ⟨6, [.val (.data (.sl (.int .i64))), .val (.data (.sl (.st 2)))], [.val (.data .bool)], fun x => law24_DrrPlays_f k x.1 x.2⟩ :=
  fn_ok progOk (T := (law24_DrrPlays_T)) (all_cons law24_known_snd (all_cons drr_New_snd (all_cons ref24_New_snd (all_cons ref37_Place_snd (all_cons drr_Turn_Next_1_snd (all_cons ref24_Turn_Next_snd (all_cons drr_Turn_Charge_1_snd (all_cons ref24_Turn_Charge_snd (all_cons drr_Turn_Reset_snd (all_cons ref24_Turn_Reset_snd (all_cons drr_Turn_Next_snd (all_cons drr_Turn_Charge_snd (all_cons drr_Turn_Reset_1_snd (all_cons drr_Turn_Cur_1_snd (all_cons drr_Turn_Left_1_snd (all_cons law24_left_snd (all_cons drr_Turn_Cur_snd (all_cons drr_Turn_Left_snd (all_nil))))))))))))))))))) (all_nil) mixed Try.func6 rfl (by kernel_rfl) (ac_code [16] Try.f6 rfl) (L := law24_DrrPlays_L)
    (fun n l h x => by match n, h with
        | 0, h => 
          rcases List.mem_cons.1 h with rfl | h
          · rfl
          rcases List.mem_cons.1 h with rfl | h
          · rfl
          rcases List.mem_cons.1 h with rfl | h
          · rfl
          rcases List.mem_cons.1 h with rfl | h
          · rfl
          cases h
        | 1, h => 
          rcases List.mem_cons.1 h with rfl | h
          · rfl
          rcases List.mem_cons.1 h with rfl | h
          · rfl
          cases h
        | _ + 2, h => cases h) (fun k n l h => by match n, h with
        | 0, h => 
          rcases List.mem_cons.1 h with rfl | h
          · rfl
          rcases List.mem_cons.1 h with rfl | h
          · rfl
          rcases List.mem_cons.1 h with rfl | h
          · rfl
          rcases List.mem_cons.1 h with rfl | h
          · rfl
          cases h
        | 1, h => 
          rcases List.mem_cons.1 h with rfl | h
          · rfl
          rcases List.mem_cons.1 h with rfl | h
          · rfl
          cases h
        | _ + 2, h => cases h)
    (fun k => All.mem (law24_DrrPlays_vc k) ⟨fun _ => rfl, ⟨fun _ => rfl, ⟨fun _ => rfl, ⟨fun _ => rfl, ⟨fun _ => rfl, ⟨fun _ => rfl, trivial⟩⟩⟩⟩⟩⟩) (fun x r h => ⟨k, (law24_DrrPlays_eq k x.1 x.2).symm.trans h⟩) (by kernel_rfl) (by kernel_rfl) (Nat.le_of_ble_eq_true (by kernel_rfl))
theorem law24_DrrPlays_snd : Snd Try.prog S ⟨6, [.val (.data (.sl (.int .i64))), .val (.data (.sl (.st 2)))], [.val (.data .bool)], fun x => law24_DrrPlays x.1 x.2⟩ := Snd.lim law24_DrrPlays_sndk
/-! ### 7 cotillion/cotillionlaw24.DrrNone -/
noncomputable def law24_DrrNone  (i : Int) (cost : Int) (may : List Bool) : Option Bool := (drr_Turn_Charge_1 () i cost).bind fun _ =>
    (drr_Turn_Reset () i).bind fun _ =>
    (drr_New []).bind fun r1 =>
    (match r1.1 with
    | none => (drr_Turn_Next_1 () may).bind fun r3 =>
    if r3 = (-1) then
    (drr_Turn_Left_1 () i).bind fun r4 =>
    if r4 = 0 then
    (drr_Turn_Cur_1 ()).bind fun r5 =>
    if r5 = (-1) then
    if r1.2 = 1 then
    (law24_known).bind fun r6 =>
    some r6 else
    some false else
    some false else
    some false else
    some false
    | some y2 => (drr_Turn_Next_1 () may).bind fun r7 =>
    if r7 = (-1) then
    (drr_Turn_Left_1 () i).bind fun r8 =>
    if r8 = 0 then
    (drr_Turn_Cur_1 ()).bind fun r9 =>
    if r9 = (-1) then
    if r1.2 = 1 then
    (law24_known).bind fun r10 =>
    some r10 else
    some false else
    some false else
    some false else
    some false)
noncomputable abbrev law24_DrrNone_T : Tab S := ⟨[⟨16, [.nil, .val (.data (.int .i64)), .val (.data (.int .i64))], [], fun x => drr_Turn_Charge_1 x.1 x.2.1 x.2.2⟩, ⟨23, [.nil, .val (.data (.int .i64))], [], fun x => drr_Turn_Reset x.1 x.2⟩, ⟨13, [.val (.data (.sl (.int .i64)))], [.opt [.data (.sl (.int .i64)), .marr (.int .i64), .data (.int .i64)], .val (.data (.int .i64))], fun x => drr_New x⟩, ⟨15, [.nil, .val (.data (.sl .bool))], [.val (.data (.int .i64))], fun x => drr_Turn_Next_1 x.1 x.2⟩, ⟨17, [.nil, .val (.data (.int .i64))], [.val (.data (.int .i64))], fun x => drr_Turn_Left_1 x.1 x.2⟩, ⟨18, [.nil], [.val (.data (.int .i64))], fun x => drr_Turn_Cur_1 x⟩, ⟨14, [], [.val (.data .bool)], fun x => law24_known⟩], [], false⟩
noncomputable def law24_DrrNone_L (k : Nat) : Nat → List (Lab S Bool)
  | _ => []
theorem law24_DrrNone_eq (k : Nat) (i : Int) (cost : Int) (may : List Bool) : law24_DrrNone i cost may = exec S (law24_DrrNone_T) byt (labs S (law24_DrrNone_T) (law24_DrrNone_L k)) (ac [] Try.f7) (frame0 S [.val (.data (.int .i64)), .val (.data (.int .i64)), .val (.data (.sl .bool))] (i, cost, may)) (retK S (law24_DrrNone_T) Try.f7 [.val (.data (.int .i64)), .val (.data (.int .i64)), .val (.data (.sl .bool))] [.val (.data .bool)]) := by kernel_rfl
theorem law24_DrrNone_vc (k : Nat) : VC S (law24_DrrNone_T) byt (law24_DrrNone_L k) (law24_DrrNone_L (k + 1)) (ac [] Try.f7) (retK S (law24_DrrNone_T) Try.f7 [.val (.data (.int .i64)), .val (.data (.int .i64)), .val (.data (.sl .bool))] [.val (.data .bool)]) = [] := by kernel_rfl
theorem law24_DrrNone_snd : Snd Try.prog S ⟨7, [.val (.data (.int .i64)), .val (.data (.int .i64)), .val (.data (.sl .bool))], [.val (.data .bool)], fun x => law24_DrrNone x.1 x.2.1 x.2.2⟩ :=
  fn_ok progOk (T := (law24_DrrNone_T)) (all_cons drr_Turn_Charge_1_snd (all_cons drr_Turn_Reset_snd (all_cons drr_New_snd (all_cons drr_Turn_Next_1_snd (all_cons drr_Turn_Left_1_snd (all_cons drr_Turn_Cur_1_snd (all_cons law24_known_snd (all_nil)))))))) (all_nil) mixed Try.func7 rfl (by kernel_rfl) (ac_code [] Try.f7 rfl) (L := law24_DrrNone_L)
    (fun n l h x => by cases h) (fun k n l h => by cases h)
    (fun k => All.mem (law24_DrrNone_vc k) trivial) (fun x r h => ⟨0, (law24_DrrNone_eq 0 x.1 x.2.1 x.2.2).symm.trans h⟩) (by kernel_rfl) (by kernel_rfl) (Nat.le_of_ble_eq_true (by kernel_rfl))
end Go.Sy.Dr
/-! Whose turn it is: the program's Next, and the reference's. -/
namespace Go.Sy.Dr
open Go.Sy Go.Sy.Drr
def fn (L : List Int) : Nat → Int := fun i => L.getD i 0
theorem fn_set (L : List Int) (i : Nat) (x : Int) (hi : i < L.length) : fn (L.set i x) = fun j => if j = i then x else fn L j := by
  funext j
  unfold fn
  by_cases h : j = i
  · subst h; rw [if_pos rfl, getD_lt _ (by simpa using hi)]; simp
  · rw [if_neg h, List.getD_eq_getElem?_getD, List.getD_eq_getElem?_getD, List.getElem?_set_ne (Ne.symm h)]
theorem fn_ext {L L' : List Int} (h : L.length = L'.length) (he : fn L = fn L') : L = L' := by
  refine List.ext_getElem h fun i h1 h2 => ?_
  have := congrFun he i
  unfold fn at this
  rw [getD_lt _ h1, getD_lt _ h2] at this
  exact this
/-- A turn as it always is. -/
structure St (Q L : List Int) (c : Nat) (M : Int) : Prop where
  len : L.length = Q.length
  sz : Q.length ≤ 1000
  cur : c < Q.length
  q : ∀ i, i < Q.length → 1 ≤ fn Q i ∧ fn Q i ≤ 65536
  lo : ∀ i, i < Q.length → -M ≤ fn L i
  hi : ∀ i, i < Q.length → fn L i ≤ if i = c then fn Q i else 0
  m : 0 ≤ M ∧ M ≤ 1099511627776
def leave (L : List Int) (c : Nat) (m : Bool) : List Int := if m then L else L.set c (min (L.getD c 0) 0)
def stepList (Q L : List Int) (c : Nat) (m : Bool) : List Int := (leave L c m).set (nxt Q.length c) ((leave L c m).getD (nxt Q.length c) 0 + Q.getD (nxt Q.length c) 0)
theorem leave_len (L : List Int) (c : Nat) (m : Bool) : (leave L c m).length = L.length := by unfold leave; split <;> simp
theorem nxt_lt {N c : Nat} (h : c < N) : nxt N c < N := by unfold nxt; split <;> omega
theorem fn_leave {L : List Int} {c : Nat} (hc : c < L.length) (may : Nat → Bool) : fn (leave L c (may c)) = fun i => if i = c then dep may c (fn L c) else fn L i := by
  unfold leave dep
  cases h : may c with
  | true => funext i; simp only [if_true]; split <;> simp_all
  | false => simp only [Bool.false_eq_true, if_false]; rw [fn_set _ _ _ hc]; rfl
theorem fn_step {Q L : List Int} {c : Nat} {M : Int} (h : St Q L c M) (may : Nat → Bool) : fn (stepList Q L c (may c)) = stepL Q.length (fn Q) may (fn L) c := by
  have hl := h.len; have hc := h.cur
  have hn := nxt_lt hc
  unfold stepList
  rw [fn_set _ _ _ (by rw [leave_len]; omega)]
  have hlv := fn_leave (L := L) (by omega : c < L.length) may
  funext i
  unfold stepL
  have e : (leave L c (may c)).getD (nxt Q.length c) 0 = fn (leave L c (may c)) (nxt Q.length c) := rfl
  rw [e, hlv]
  by_cases hi : i = nxt Q.length c
  · rw [if_pos hi, if_pos hi, hi]; rfl
  · rw [if_neg hi, if_neg hi, Int.add_zero]
theorem St.step {Q L : List Int} {c : Nat} {M : Int} (h : St Q L c M) (may : Nat → Bool) (hd : ¬ (may c = true ∧ 0 < fn L c)) : St Q (stepList Q L c (may c)) (nxt Q.length c) M := by
  have hl := h.len; have hc := h.cur; have hm := h.m
  have hn := nxt_lt hc
  have hdep : dep may c (fn L c) ≤ 0 ∧ -M ≤ dep may c (fn L c) := by
    have h1 := h.lo c hc
    unfold dep
    split
    · rename_i hmc; exact ⟨Int.not_lt.1 fun h0 => hd ⟨hmc, h0⟩, h1⟩
    · omega
  refine ⟨by unfold stepList; rw [List.length_set, leave_len, hl], h.sz, hn, h.q, fun i hi => ?_, fun i hi => ?_, hm⟩
  · rw [fn_step h]
    unfold stepL
    have h1 := h.lo i hi; have hq := h.q i hi
    split <;> split <;> omega
  · rw [fn_step h]
    unfold stepL
    have h1 := h.hi i hi; have hq := h.q i hi
    by_cases hi2 : i = nxt Q.length c
    · rw [if_pos hi2]
      by_cases hic : i = c
      · rw [if_pos hic]; omega
      · rw [if_neg hic]; rw [if_neg hic] at h1; omega
    · rw [if_neg hi2]
      by_cases hic : i = c
      · rw [if_pos hic]; omega
      · rw [if_neg hic]; rw [if_neg hic] at h1; omega
theorem ask_eq (may : List Bool) {y : Int} (h : 0 ≤ y) : drr_Turn_Next_S1 y may = some (may.getD y.toNat false) := by
  unfold drr_Turn_Next_S1
  by_cases h1 : y < (may.length : Int)
  · rw [if_pos h1, if_pos h, if_pos h1]
  · rw [if_neg h1, List.getD_eq_getElem?_getD, List.getElem?_eq_none (by omega)]; rfl
abbrev mayF (may : List Bool) : Nat → Bool := fun i => may.getD i false
theorem nxt_int {N c : Nat} (hc : c < N) (hN : N ≤ 1000) : (w64 ((c : Int) + 1)).tmod (N : Int) = ((nxt N c : Nat) : Int) := by
  rw [w64_in (by omega) (by omega), Int.tmod_eq_emod_of_nonneg (by omega)]
  unfold nxt
  by_cases h : c + 1 < N
  · rw [if_pos h, Int.emod_eq_of_lt (by omega) (by omega)]; omega
  · have : c + 1 = N := by omega
    rw [if_neg h, show (c : Int) + 1 = (N : Int) from by omega, Int.emod_self]; rfl
theorem next_l1 (Q : List Int) (may : List Bool) (M : Int) : ∀ k L c r c', St Q L c M → naive Q.length (fn Q) (mayF may) k (fn L) c = some (r, c') → ∃ L', fn L' = r ∧ drr_Turn_Next_l1 k Q L (c : Int) (fun y => drr_Turn_Next_S1 y may) = some ((c' : Int), (Q, L', (c' : Int))) ∧ St Q L' c' M := by
  intro k
  induction k with
  | zero => intro L c r c' h hn; cases hn
  | succ k ih =>
    intro L c r c' h hn
    have hl := h.len; have hc := h.cur; have hsz := h.sz; have hm := h.m
    have hnx := nxt_lt hc
    have hclo := h.lo c hc; have hchi := h.hi c hc; have hq := h.q _ hnx
    rw [if_pos rfl] at hchi
    have hcq := h.q c hc
    simp only [naive] at hn
    simp only [drr_Turn_Next_l1]
    rw [ask_eq may (by omega : (0 : Int) ≤ c), Int.toNat_natCast]
    have e0 : may.getD c false = mayF may c := rfl
    have c1 : (0 : Int) ≤ c := by omega
    have c2 : (c : Int) < (L.length : Int) := by omega
    have n1 : (0 : Int) ≤ ((nxt Q.length c : Nat) : Int) := by omega
    have n2 : ((nxt Q.length c : Nat) : Int) < (L.length : Int) := by omega
    have n3 : ((nxt Q.length c : Nat) : Int) < (Q.length : Int) := by omega
    have n4 : ¬ (L.length : Int) = 0 := by omega
    have nx : (w64 ((c : Int) + 1)).tmod (L.length : Int) = ((nxt Q.length c : Nat) : Int) := by rw [hl]; exact nxt_int hc hsz
    simp only [bind_some_eq, List.length_set, nx, c1, c2, n1, n2, n3, n4, if_true, not_false_eq_true, Int.toNat_natCast]
    rw [e0]
    by_cases hd : mayF may c = true ∧ 0 < fn L c
    · rw [if_pos hd] at hn
      cases hn
      rw [hd.1]
      simp only [Bool.not_true, cond_false]
      have : ¬ (L.getD c 0 ≤ 0) := by have := hd.2; unfold fn at this; omega
      rw [if_neg this]
      exact ⟨L, rfl, rfl, h⟩
    · rw [if_neg hd, ← fn_step h] at hn
      have hst := h.step (mayF may) hd
      have go : ∃ L', fn L' = r ∧ drr_Turn_Next_l1 k Q (stepList Q L c (mayF may c)) ((nxt Q.length c : Nat) : Int) (fun y => drr_Turn_Next_S1 y may) = some ((c' : Int), (Q, L', (c' : Int))) ∧ St Q L' c' M := ih _ _ r c' hst hn
      have hb : ∀ m, mayF may c = m → -9223372036854775808 ≤ (leave L c m).getD (nxt Q.length c) 0 + Q.getD (nxt Q.length c) 0 ∧ (leave L c m).getD (nxt Q.length c) 0 + Q.getD (nxt Q.length c) 0 ≤ 9223372036854775807 := by
        intro m hmm
        have e1 : (leave L c m).getD (nxt Q.length c) 0 = fn (leave L c (mayF may c)) (nxt Q.length c) := by rw [hmm]; rfl
        have e2 : Q.getD (nxt Q.length c) 0 = fn Q (nxt Q.length c) := rfl
        have hlo := h.lo _ hnx; have hhi := h.hi _ hnx
        rw [e1, e2, fn_leave (by omega) (mayF may)]
        unfold dep
        dsimp only
        split at hhi <;> split <;> first | (split <;> omega) | omega
      cases hmc : mayF may c with
      | false =>
        rw [hmc] at go
        have hb := hb false hmc
        unfold stepList leave at go
        unfold leave at hb
        simp only [Bool.false_eq_true, if_false] at go hb
        simp only [Bool.not_false, cond_true]
        rw [w64_in hb.1 hb.2]
        exact go
      | true =>
        rw [hmc] at go
        have hb := hb true hmc
        unfold stepList leave at go
        unfold leave at hb
        simp only [if_true] at go hb
        simp only [Bool.not_true, cond_false]
        have hle : L.getD c 0 ≤ 0 := Int.not_lt.1 fun h0 => hd ⟨hmc, h0⟩
        rw [if_pos hle, w64_in hb.1 hb.2]
        exact go
theorem ref_l1 (Q : List Int) (may : List Bool) (M : Int) : ∀ k L c r c', St Q L c M → naive Q.length (fn Q) (mayF may) k (fn L) c = some (r, c') → ∃ L', fn L' = r ∧ ref24_Turn_Next_l1 k Q L (c : Int) may true = some ((c' : Int), (Q, L', (c' : Int))) ∧ St Q L' c' M := by
  intro k
  induction k with
  | zero => intro L c r c' h hn; cases hn
  | succ k ih =>
    intro L c r c' h hn
    have hl := h.len; have hc := h.cur; have hsz := h.sz; have hm := h.m
    have hnx := nxt_lt hc
    have hclo := h.lo c hc; have hchi := h.hi c hc; have hq := h.q _ hnx
    rw [if_pos rfl] at hchi
    have hcq := h.q c hc
    simp only [naive] at hn
    simp only [ref24_Turn_Next_l1]
    have c1 : (0 : Int) ≤ c := by omega
    have c2 : (c : Int) < (L.length : Int) := by omega
    have n1 : (0 : Int) ≤ ((nxt Q.length c : Nat) : Int) := by omega
    have n2 : ((nxt Q.length c : Nat) : Int) < (L.length : Int) := by omega
    have n3 : ((nxt Q.length c : Nat) : Int) < (Q.length : Int) := by omega
    have n4 : ¬ (Q.length : Int) = 0 := by omega
    have nx : (w64 ((c : Int) + 1)).tmod (Q.length : Int) = ((nxt Q.length c : Nat) : Int) := nxt_int hc hsz
    have e0 : may.getD c false = mayF may c := rfl
    simp only [cond_true, List.length_set, nx, c1, c2, n1, n2, n3, n4, if_true, not_false_eq_true, Int.toNat_natCast, e0]
    by_cases hd : mayF may c = true ∧ 0 < fn L c
    · rw [if_pos hd] at hn
      cases hn
      have hlt : (c : Int) < (may.length : Int) := by
        have := hd.1
        unfold mayF at this
        rcases Nat.lt_or_ge c may.length with h1 | h1
        · omega
        · rw [List.getD_eq_getElem?_getD, List.getElem?_eq_none h1] at this; cases this
      have hp : 0 < L.getD c 0 := hd.2
      rw [if_pos hlt, if_pos hlt, hd.1, cond_true, if_pos hp]
      exact ⟨L, rfl, rfl, h⟩
    · rw [if_neg hd, ← fn_step h] at hn
      have hst := h.step (mayF may) hd
      have go : ∃ L', fn L' = r ∧ ref24_Turn_Next_l1 k Q (stepList Q L c (mayF may c)) ((nxt Q.length c : Nat) : Int) may true = some ((c' : Int), (Q, L', (c' : Int))) ∧ St Q L' c' M := ih _ _ r c' hst hn
      have hb : ∀ m, mayF may c = m → -9223372036854775808 ≤ (leave L c m).getD (nxt Q.length c) 0 + Q.getD (nxt Q.length c) 0 ∧ (leave L c m).getD (nxt Q.length c) 0 + Q.getD (nxt Q.length c) 0 ≤ 9223372036854775807 := by
        intro m hmm
        have e1 : (leave L c m).getD (nxt Q.length c) 0 = fn (leave L c (mayF may c)) (nxt Q.length c) := by rw [hmm]; rfl
        have e2 : Q.getD (nxt Q.length c) 0 = fn Q (nxt Q.length c) := rfl
        have hlo := h.lo _ hnx; have hhi := h.hi _ hnx
        rw [e1, e2, fn_leave (by omega) (mayF may)]
        unfold dep
        dsimp only
        split at hhi <;> split <;> first | (split <;> omega) | omega
      cases hmc : mayF may c with
      | false =>
        rw [hmc] at go
        have hb := hb false hmc
        unfold stepList leave at go
        unfold leave at hb
        simp only [Bool.false_eq_true, if_false] at go hb
        simp only [Bool.not_false, cond_true, cond_false]
        rw [w64_in hb.1 hb.2]
        split
        · exact go
        · exact go
      | true =>
        rw [hmc] at go
        have hb := hb true hmc
        unfold stepList leave at go
        unfold leave at hb
        simp only [if_true] at go hb
        have hlt : (c : Int) < (may.length : Int) := by
          have := hmc
          unfold mayF at this
          rcases Nat.lt_or_ge c may.length with h1 | h1
          · omega
          · rw [List.getD_eq_getElem?_getD, List.getElem?_eq_none h1] at this; cases this
        have hle : ¬ (0 < L.getD c 0) := fun h0 => hd ⟨hmc, h0⟩
        simp only [Bool.not_true, cond_false, cond_true, hlt, if_true]
        rw [if_neg hle, w64_in hb.1 hb.2]
        exact go
end Go.Sy.Dr
/-! Whose turn it is: rounds that are skipped. -/
namespace Go.Sy.Dr
open Go.Sy Go.Sy.Drr
/-- So many whole rounds go by. -/
def roundsI (h q : Int) : Int := if 0 < h then 0 else (-h) / q + 1
theorem rounds_eq {Q L : List Int} {c : Nat} {M : Int} (h : St Q L c M) (i : Nat) (hi : i < Q.length) : drr_Turn_rounds (Q, L, (c : Int)) (i : Int) = some (roundsI (have_ (fn Q) (fn L) c i) (fn Q i), (Q, L, (c : Int))) := by
  have hl := h.len; have hm := h.m; have hq := h.q i hi; have hlo := h.lo i hi; have hhi := h.hi i hi
  have c1 : (0 : Int) ≤ i := by omega
  have c2 : (i : Int) < (L.length : Int) := by omega
  have c3 : (i : Int) < (Q.length : Int) := by omega
  have e1 : L.getD i 0 = fn L i := rfl
  have e2 : Q.getD i 0 = fn Q i := rfl
  have hup : fn L i ≤ 65536 := by split at hhi <;> omega
  have q0 : ¬ fn Q i = 0 := by omega
  unfold drr_Turn_rounds
  simp only [c1, c2, c3, if_true, Int.toNat_natCast, e1, e2, q0, not_false_eq_true]
  have key : ∀ H : Int, -1099511627776 ≤ H → H ≤ 200000 → (if 0 < H then some ((0 : Int), (Q, L, (c : Int))) else some (w64 (w64 ((w64 (0 - H)).tdiv (fn Q i)) + 1), (Q, L, (c : Int)))) = some (roundsI H (fn Q i), (Q, L, (c : Int))) := by
    intro H h1 h2
    unfold roundsI
    by_cases h0 : 0 < H
    · rw [if_pos h0, if_pos h0]
    · have hn : 0 ≤ -H := by omega
      have h3 : (-H) / (fn Q i) ≤ -H := Int.ediv_le_self _ hn
      have h4 : 0 ≤ (-H) / (fn Q i) := Int.ediv_nonneg hn (by omega)
      rw [if_neg h0, if_neg h0, w64_in (n := 0 - H) (by omega) (by omega), show 0 - H = -H from by omega, Int.tdiv_eq_ediv_of_nonneg hn, w64_in (n := (-H) / (fn Q i)) (by omega) (by omega), w64_in (by omega) (by omega)]
  unfold have_
  by_cases hic : i = c
  · subst hic
    simp only [ne_eq, not_true_eq_false, if_false, if_true, Int.add_zero]
    exact key _ (by omega) (by omega)
  · have : (i : Int) ≠ (c : Int) := by omega
    rw [if_pos this, if_neg hic, w64_in (n := fn L i + fn Q i) (by omega) (by omega)]
    exact key _ (by omega) (by omega)
/-- The least of those that may. -/
def Least (Q L : List Int) (c : Nat) (may : Nat → Bool) (n : Nat) (x : Int) : Prop :=
  (x = -1 ∧ ∀ i, i < n → may i = false) ∨ (0 ≤ x ∧ (∃ i, i < n ∧ may i = true ∧ roundsI (have_ (fn Q) (fn L) c i) (fn Q i) = x) ∧ ∀ i, i < n → may i = true → x ≤ roundsI (have_ (fn Q) (fn L) c i) (fn Q i))
theorem roundsI_nn {h q : Int} (hq : 1 ≤ q) : 0 ≤ roundsI h q := by
  unfold roundsI
  split
  · omega
  · have := Int.ediv_nonneg (a := -h) (b := q) (by omega) (by omega)
    omega
theorem next_l0 (Q L : List Int) (c : Nat) (M : Int) (h : St Q L c M) (may : List Bool) : ∀ m k n x, n + m = Q.length → m < k → Least Q L c (mayF may) n x →
    ∃ y, Least Q L c (mayF may) Q.length y ∧ drr_Turn_Next_l0 k Q L (c : Int) (fun y => drr_Turn_Next_S1 y may) x (L.length : Int) (n : Int) =
      (if y < 0 then some (-1, (Q, L, (c : Int))) else (drr_Turn_jump (Q, L, (c : Int)) y (fun y => drr_Turn_Next_S1 y may)).bind fun r3 => drr_Turn_Next_l1 (k - m - 1) r3.1 r3.2.1 r3.2.2 (fun y => drr_Turn_Next_S1 y may)) := by
  intro m
  have hl := h.len; have hsz := h.sz
  induction m with
  | zero =>
    intro k n x hn hk hx
    obtain ⟨k, rfl⟩ : ∃ j, k = j + 1 := ⟨k - 1, by omega⟩
    have : n = Q.length := by omega
    subst this
    refine ⟨x, hx, ?_⟩
    simp only [drr_Turn_Next_l0]
    rw [if_neg (by omega)]
    rfl
  | succ m ih =>
    intro k n x hn hk hx
    obtain ⟨k, rfl⟩ : ∃ j, k = j + 1 := ⟨k - 1, by omega⟩
    simp only [drr_Turn_Next_l0]
    have hi : n < Q.length := by omega
    have hq := h.q n hi
    rw [if_pos (by omega), ask_eq may (by omega : (0 : Int) ≤ n), bind_some_eq, Int.toNat_natCast, w64_in (by omega) (by omega), show k + 1 - (m + 1) - 1 = k - m - 1 from by omega]
    have step : ∀ x', Least Q L c (mayF may) (n + 1) x' → _ := fun x' hx' => ih k (n + 1) x' (by omega) (by omega) hx'
    cases hm : may.getD n false with
    | false =>
      rw [cond_false]
      refine step x ?_
      rcases hx with ⟨rfl, h1⟩ | ⟨h0, ⟨i, h1, h2⟩, h3⟩
      · exact .inl ⟨rfl, fun i hi => by
          by_cases e : i = n
          · subst e; exact hm
          · exact h1 i (by omega)⟩
      · exact .inr ⟨h0, ⟨i, by omega, h2⟩, fun j hj hjm => by
          by_cases e : j = n
          · subst e; have : may.getD j false = true := hjm; rw [hm] at this; cases this
          · exact h3 j (by omega) hjm⟩
    | true =>
      rw [cond_true, rounds_eq h n hi, bind_some_eq]
      dsimp only
      have hr0 : 0 ≤ roundsI (have_ (fn Q) (fn L) c n) (fn Q n) := roundsI_nn hq.1
      rcases hx with ⟨rfl, h1⟩ | ⟨h0, ⟨i, h1, h2⟩, h3⟩
      · rw [if_pos (by omega)]
        refine step _ (.inr ⟨hr0, ⟨n, by omega, hm, rfl⟩, fun j hj hjm => ?_⟩)
        by_cases e : j = n
        · subst e; exact Int.le_refl _
        · rw [h1 j (by omega)] at hjm; cases hjm
      · rw [if_neg (by omega)]
        by_cases hlt : roundsI (have_ (fn Q) (fn L) c n) (fn Q n) < x
        · rw [if_pos hlt]
          refine step _ (.inr ⟨hr0, ⟨n, by omega, hm, rfl⟩, fun j hj hjm => ?_⟩)
          by_cases e : j = n
          · subst e; exact Int.le_refl _
          · have := h3 j (by omega) hjm; omega
        · rw [if_neg hlt]
          refine step _ (.inr ⟨h0, ⟨i, by omega, h2⟩, fun j hj hjm => ?_⟩)
          by_cases e : j = n
          · subst e; omega
          · exact h3 j (by omega) hjm
/-- One place of a jump. -/
def jumpAt (may : Nat → Bool) (c : Nat) (n : Int) (i : Nat) (l q : Int) : Int := if may i then l + n * q else if i = c then min (min l 0 + (n - 1) * q) 0 + q else min (l + n * q) 0
theorem jump_l (Q : List Int) (c : Nat) (M : Int) (L0 : List Int) (h : St Q L0 c M) (may : List Bool) (n : Int) (hn : 1 ≤ n ∧ n ≤ 1099511627777) : ∀ m k j L, j + m = Q.length → m < k → L.length = Q.length → (∀ i, i < Q.length → fn L i = if i < j then jumpAt (mayF may) c n i (fn L0 i) (fn Q i) else fn L0 i) →
    ∃ L', drr_Turn_jump_l0 k Q L (c : Int) n (fun y => drr_Turn_Next_S1 y may) Q (Q.length : Int) (j : Int) = some (Q, L', (c : Int)) ∧ L'.length = Q.length ∧ ∀ i, i < Q.length → fn L' i = jumpAt (mayF may) c n i (fn L0 i) (fn Q i) := by
  intro m
  induction m with
  | zero =>
    intro k j L hj hk hl hL
    obtain ⟨k, rfl⟩ : ∃ i, k = i + 1 := ⟨k - 1, by omega⟩
    simp only [drr_Turn_jump_l0]
    rw [if_neg (by omega)]
    exact ⟨L, rfl, hl, fun i hi => by rw [hL i hi, if_pos (by omega)]⟩
  | succ m ih =>
    intro k j L hj hk hl hL
    obtain ⟨k, rfl⟩ : ∃ i, k = i + 1 := ⟨k - 1, by omega⟩
    simp only [drr_Turn_jump_l0]
    have hi : j < Q.length := by omega
    have hq := h.q j hi; have hlo := h.lo j hi; have hhi := h.hi j hi; have hm := h.m; have hsz := h.sz
    have c1 : (0 : Int) ≤ j := by omega
    have c2 : (j : Int) < (L.length : Int) := by omega
    have c3 : (j : Int) < (Q.length : Int) := by omega
    have e1 : L.getD j 0 = fn L0 j := by have := hL j hi; rw [if_neg (by omega)] at this; exact this
    have e2 : Q.getD j 0 = fn Q j := rfl
    have hup : fn L0 j ≤ 65536 := by split at hhi <;> omega
    have hmul : 0 ≤ n * fn Q j ∧ n * fn Q j ≤ 1099511627777 * 65536 := by
      refine ⟨Int.mul_nonneg (by omega) (by omega), ?_⟩
      exact Int.mul_le_mul hn.2 hq.2 (by omega) (by omega)
    have hmul1 : 0 ≤ (n - 1) * fn Q j ∧ (n - 1) * fn Q j ≤ 1099511627777 * 65536 := by
      refine ⟨Int.mul_nonneg (by omega) (by omega), ?_⟩
      exact Int.mul_le_mul (by omega) hq.2 (by omega) (by omega)
    have next : ∀ x, x = jumpAt (mayF may) c n j (fn L0 j) (fn Q j) → ∃ L', drr_Turn_jump_l0 k Q (L.set j x) (c : Int) n (fun y => drr_Turn_Next_S1 y may) Q (Q.length : Int) (w64 ((j : Int) + 1)) = some (Q, L', (c : Int)) ∧ L'.length = Q.length ∧ ∀ i, i < Q.length → fn L' i = jumpAt (mayF may) c n i (fn L0 i) (fn Q i) := by
      intro x hx
      rw [w64_in (by omega) (by omega)]
      refine ih k (j + 1) (L.set j x) (by omega) (by omega) (by simpa using hl) fun i hi2 => ?_
      rw [fn_set L j x (by omega)]
      by_cases e : i = j
      · subst e; simp only [if_true]; rw [if_pos (by omega)]; exact hx
      · simp only [e, if_false]
        rw [hL i hi2]
        by_cases h2 : i < j
        · rw [if_pos h2, if_pos (by omega)]
        · rw [if_neg h2, if_neg (by omega)]
    rw [ask_eq may c1, Int.toNat_natCast]
    simp only [bind_some_eq, c1, c2, c3, if_true, e1, e2]
    have eM : may.getD j false = mayF may j := rfl
    rw [eM]
    cases hmj : mayF may j with
    | true =>
      simp only [cond_true]
      refine next _ ?_
      unfold jumpAt
      rw [hmj, if_pos rfl, w64_in (n := n * fn Q j) (by omega) (by omega), w64_in (by omega) (by omega)]
    | false =>
      simp only [cond_false]
      by_cases hjc : j = c
      · rw [if_pos (by omega)]
        refine next _ ?_
        unfold jumpAt
        rw [hmj, if_neg (by decide), if_pos hjc, w64_in (n := n - 1) (by omega) (by omega), w64_in (n := (n - 1) * fn Q j) (by omega) (by omega), w64_in (n := min (fn L0 j) 0 + (n - 1) * fn Q j) (by omega) (by omega), w64_in (by omega) (by omega)]
      · rw [if_neg (by omega)]
        refine next _ ?_
        unfold jumpAt
        rw [hmj, if_neg (by decide), if_neg hjc, w64_in (n := n * fn Q j) (by omega) (by omega), w64_in (by omega) (by omega)]
theorem jump_eq {Q L : List Int} {c : Nat} {M : Int} (h : St Q L c M) (may : List Bool) (n : Nat) (hn : (n : Int) ≤ 1099511627777) : ∃ L', drr_Turn_jump (Q, L, (c : Int)) (n : Int) (fun y => drr_Turn_Next_S1 y may) = some (Q, L', (c : Int)) ∧ L'.length = Q.length ∧ fn L' = if n = 0 then fn L else jump Q.length (fn Q) (mayF may) (fn L) c n := by
  by_cases h0 : n = 0
  · subst h0
    refine ⟨L, lim_eq 0 fun k _ => ?_, h.len, by rw [if_pos rfl]⟩
    show drr_Turn_jump_f k (Q, L, (c : Int)) ((0 : Nat) : Int) _ = _
    unfold drr_Turn_jump_f
    rw [if_pos (show ((0 : Nat) : Int) = 0 from rfl)]
  · have hl := h.len
    have go : ∀ k, Q.length < k → ∃ L', drr_Turn_jump_f k (Q, L, (c : Int)) (n : Int) (fun y => drr_Turn_Next_S1 y may) = some (Q, L', (c : Int)) ∧ L'.length = Q.length ∧ ∀ i, i < Q.length → fn L' i = jumpAt (mayF may) c n i (fn L i) (fn Q i) := by
      intro k hk
      unfold drr_Turn_jump_f
      rw [if_neg (by omega)]
      exact jump_l Q c M L h may n ⟨by omega, hn⟩ Q.length k 0 L (by omega) hk h.len (fun i hi => by rw [if_neg (by omega)])
    obtain ⟨L', h1, h2, h3⟩ := go (Q.length + 1) (by omega)
    refine ⟨L', lim_eq (Q.length + 1) fun k hk => ?_, h2, ?_⟩
    · obtain ⟨L2, g1, g2, g3⟩ := go k (by omega)
      have : L2 = L' := by
        refine fn_ext (by omega) ?_
        funext i
        by_cases hi : i < Q.length
        · rw [g3 i hi, h3 i hi]
        · unfold fn; rw [List.getD_eq_getElem?_getD, List.getD_eq_getElem?_getD, List.getElem?_eq_none (by omega), List.getElem?_eq_none (by omega)]
      subst this
      exact g1
    · rw [if_neg h0]
      funext i
      unfold jump
      by_cases hi : i < Q.length
      · rw [if_pos hi, h3 i hi]; unfold jumpAt; rfl
      · rw [if_neg hi]; unfold fn; rw [List.getD_eq_getElem?_getD, List.getD_eq_getElem?_getD, List.getElem?_eq_none (by omega), List.getElem?_eq_none (by omega)]
/-- Rounds go by: what may stays below. -/
theorem below {h q x : Int} (hq : 1 ≤ q) (h1 : 1 ≤ x) (hx : x ≤ roundsI h q) : h + (x - 1) * q ≤ 0 := by
  unfold roundsI at hx
  split at hx
  · omega
  · have h2 : x - 1 ≤ (-h) / q := by omega
    have h3 : (x - 1) * q ≤ (-h) / q * q := Int.mul_le_mul_of_nonneg_right h2 (by omega)
    have h4 : (-h) / q * q ≤ -h := Int.ediv_mul_le _ (by omega)
    omega
theorem above {h q : Int} (hq : 1 ≤ q) : 0 < h + roundsI h q * q := by
  unfold roundsI
  split
  · omega
  · have h4 := Int.lt_ediv_add_one_mul_self (-h) (show 0 < q by omega)
    omega
end Go.Sy.Dr
/-! Whose turn it is: Next. -/
namespace Go.Sy.Dr
open Go.Sy Go.Sy.Drr
theorem St.jump {Q L J : List Int} {c : Nat} {M : Int} (h : St Q L c M) (may : List Bool) (n : Nat) (hn : 1 ≤ n) (hl : J.length = Q.length) (hJ : fn J = jump Q.length (fn Q) (mayF may) (fn L) c n)
    (hle : ∀ i, i < Q.length → mayF may i = true → (n : Int) ≤ roundsI (have_ (fn Q) (fn L) c i) (fn Q i)) : St Q J c M := by
  refine ⟨hl, h.sz, h.cur, h.q, fun i hi => ?_, fun i hi => ?_, h.m⟩
  all_goals
    have hq := h.q i hi; have hlo := h.lo i hi; have hhi := h.hi i hi; have hm := h.m
    have hmul : fn Q i ≤ (n : Int) * fn Q i := by
      have : 1 * fn Q i ≤ (n : Int) * fn Q i := Int.mul_le_mul_of_nonneg_right (by omega) (by omega)
      omega
    have hm1 : ((n : Int) - 1) * fn Q i = (n : Int) * fn Q i - fn Q i := by rw [Int.sub_mul]; omega
    have hb : mayF may i = true → have_ (fn Q) (fn L) c i + ((n : Int) - 1) * fn Q i ≤ 0 := fun hmi => below hq.1 (by omega) (hle i hi hmi)
    rw [hm1] at hb
    unfold have_ at hb
    rw [hJ]
    unfold Drr.jump
    rw [if_pos hi, hm1]
    generalize (n : Int) * fn Q i = nq at *
    cases hmi : mayF may i with
    | true =>
      have hb := hb hmi
      simp only [if_true]
      by_cases hic : i = c
      · simp only [hic, if_true] at *; omega
      · simp only [hic, if_false] at *; omega
    | false =>
      simp only [Bool.false_eq_true, if_false]
      by_cases hic : i = c
      · simp only [hic, if_true] at *; omega
      · simp only [hic, if_false] at *; omega
theorem ref_l0 (Q L : List Int) (c : Int) (may : List Bool) (hsz : Q.length ≤ 1000) : ∀ m k i s, i + m = Q.length → m < k → ∃ b k', k ≤ k' + m + 1 ∧ k' < k ∧ ref24_Turn_Next_l0 k Q L c may s (i : Int) = ref24_Turn_Next_l1 k' Q L c may b ∧ (b = true ↔ s = true ∨ ∃ j, i ≤ j ∧ j < Q.length ∧ mayF may j = true) := by
  intro m
  induction m with
  | zero =>
    intro k i s hi hk
    obtain ⟨k, rfl⟩ : ∃ j, k = j + 1 := ⟨k - 1, by omega⟩
    simp only [ref24_Turn_Next_l0]
    refine ⟨s, k, by omega, by omega, ?_, ⟨fun h => .inl h, fun h => h.elim id fun ⟨j, h1, h2, _⟩ => by omega⟩⟩
    split
    · rw [if_neg (by omega)]
    · rfl
  | succ m ih =>
    intro k i s hi hk
    obtain ⟨k, rfl⟩ : ∃ j, k = j + 1 := ⟨k - 1, by omega⟩
    simp only [ref24_Turn_Next_l0]
    by_cases h1 : (i : Int) < (may.length : Int)
    · rw [if_pos h1, if_pos (by omega), w64_in (by omega) (by omega)]
      cases s with
      | true =>
        obtain ⟨b, k', g1, g2, g3, g4⟩ := ih k (i + 1) true (by omega) (by omega)
        exact ⟨b, k', by omega, by omega, g3, by rw [g4]; simp⟩
      | false =>
        simp only [cond_false]
        rw [if_pos (by omega), if_pos h1, Int.toNat_natCast]
        obtain ⟨b, k', g1, g2, g3, g4⟩ := ih k (i + 1) (may.getD i false) (by omega) (by omega)
        refine ⟨b, k', by omega, by omega, g3, ?_⟩
        rw [g4]
        constructor
        · rintro (h | ⟨j, h2, h3, h4⟩)
          · exact .inr ⟨i, Nat.le_refl _, by omega, h⟩
          · exact .inr ⟨j, by omega, h3, h4⟩
        · rintro (h | ⟨j, h2, h3, h4⟩)
          · cases h
          · by_cases e : j = i
            · subst e; exact .inl h4
            · exact .inr ⟨j, by omega, h3, h4⟩
    · rw [if_neg h1]
      refine ⟨s, k, by omega, by omega, rfl, ⟨fun h => .inl h, fun h => h.elim id fun ⟨j, h2, h3, h4⟩ => ?_⟩⟩
      unfold mayF at h4
      rw [List.getD_eq_getElem?_getD, List.getElem?_eq_none (by omega)] at h4; cases h4
theorem Next_none {Q L : List Int} {c : Nat} {M : Int} (h : St Q L c M) (may : List Bool) (hno : ∀ i, i < Q.length → mayF may i = false) : drr_Turn_Next (Q, L, (c : Int)) may = some (-1, (Q, L, (c : Int))) ∧ ref24_Turn_Next (Q, L, (c : Int)) may = some (-1, (Q, L, (c : Int))) := by
  have hl := h.len
  constructor
  · refine lim_eq (Q.length + 1) fun k hk => ?_
    show drr_Turn_Next_l0 k Q L (c : Int) _ (-1) (L.length : Int) 0 = _
    obtain ⟨y, hy, he⟩ := next_l0 Q L c M h may Q.length k 0 (-1) (by omega) (by omega) (.inl ⟨rfl, fun i hi => by omega⟩)
    rw [show ((0 : Nat) : Int) = 0 from rfl] at he
    rw [he]
    rcases hy with ⟨rfl, _⟩ | ⟨_, ⟨i, h1, h2, _⟩, _⟩
    · rw [if_pos (by omega)]
    · rw [hno i h1] at h2; cases h2
  · refine lim_eq (Q.length + 2) fun k hk => ?_
    show ref24_Turn_Next_l0 k Q L (c : Int) may false 0 = _
    obtain ⟨b, k', g1, g2, g3, g4⟩ := ref_l0 Q L (c : Int) may h.sz Q.length k 0 false (by omega) (by omega)
    rw [show ((0 : Nat) : Int) = 0 from rfl] at g3
    rw [g3]
    have : b = false := by
      cases b with
      | false => rfl
      | true =>
        rcases g4.1 rfl with h1 | ⟨j, _, h2, h3⟩
        · cases h1
        · rw [hno j h2] at h3; cases h3
    subst this
    obtain ⟨k', rfl⟩ : ∃ j, k' = j + 1 := ⟨k' - 1, by omega⟩
    simp only [ref24_Turn_Next_l1]
    rfl
theorem Next_some {Q L : List Int} {c : Nat} {M : Int} (h : St Q L c M) (may : List Bool) (hsome : ∃ i, i < Q.length ∧ mayF may i = true) : ∃ (L' : List Int) (c' : Nat), drr_Turn_Next (Q, L, (c : Int)) may = some ((c' : Int), (Q, L', (c' : Int))) ∧ ref24_Turn_Next (Q, L, (c : Int)) may = some ((c' : Int), (Q, L', (c' : Int))) ∧
    St Q L' c' M ∧ mayF may c' = true ∧ 0 < fn L' c' ∧ ∃ K, naive Q.length (fn Q) (mayF may) K (fn L) c = some (fn L', c') := by
  have hl := h.len; have hc := h.cur; have hM := h.m
  -- the least rounds
  obtain ⟨y, hy, _⟩ := next_l0 Q L c M h may Q.length (Q.length + 1) 0 (-1) (by omega) (by omega) (.inl ⟨rfl, fun i hi => by omega⟩)
  obtain ⟨hy0, ⟨i0, hi0, hm0, hr0⟩, hle⟩ : 0 ≤ y ∧ (∃ i, i < Q.length ∧ mayF may i = true ∧ roundsI (have_ (fn Q) (fn L) c i) (fn Q i) = y) ∧ ∀ i, i < Q.length → mayF may i = true → y ≤ roundsI (have_ (fn Q) (fn L) c i) (fn Q i) := by
    rcases hy with ⟨_, h1⟩ | h1
    · obtain ⟨i, h2, h3⟩ := hsome; rw [h1 i h2] at h3; cases h3
    · exact h1
  obtain ⟨n, rfl⟩ : ∃ n : Nat, y = (n : Int) := ⟨y.toNat, by omega⟩
  have hq0 := h.q i0 hi0
  have hnM : (n : Int) ≤ 1099511627777 := by
    rw [← hr0]
    unfold roundsI
    split
    · omega
    · rename_i hneg
      have h2 : -(have_ (fn Q) (fn L) c i0) ≤ 1099511627776 := by have := h.lo i0 hi0; unfold have_; split <;> omega
      have h3 : -(have_ (fn Q) (fn L) c i0) / fn Q i0 ≤ -(have_ (fn Q) (fn L) c i0) := Int.ediv_le_self _ (by omega)
      omega
  obtain ⟨J, hj1, hj2, hj3⟩ := jump_eq h may n hnM
  have hSJ : St Q J c M := by
    by_cases h0 : n = 0
    · rw [if_pos h0] at hj3
      have : J = L := fn_ext (by omega) hj3
      rw [this]; exact h
    · rw [if_neg h0] at hj3
      exact h.jump may n (by omega) hj2 hj3 hle
  -- it ends
  have hpos : 0 < have_ (fn Q) (fn J) c i0 := by
    by_cases h0 : n = 0
    · rw [if_pos h0] at hj3
      rw [hj3]
      have := above (h := have_ (fn Q) (fn L) c i0) hq0.1
      rw [hr0, h0] at this
      omega
    · rw [if_neg h0] at hj3
      rw [hj3, have_jump _ _ _ _ hi0 hm0]
      have := above (h := have_ (fn Q) (fn L) c i0) hq0.1
      rw [hr0] at this
      exact this
  obtain ⟨r, c', e1, e2, e3, e4, _⟩ := naive_ends Q.length (fn Q) (mayF may) (fn J) hc hi0 hm0 hpos
  have eL : ∀ k, naive Q.length (fn Q) (mayF may) (Q.length + 1 + n * Q.length + k) (fn L) c = some (r, c') := by
    intro k
    by_cases h0 : n = 0
    · rw [if_pos h0] at hj3
      rw [← hj3, h0, Nat.zero_mul, Nat.add_zero]; exact e1 k
    · rw [if_neg h0] at hj3
      have := naive_jump Q.length (fn Q) (mayF may) (fn L) hc (fun i hi => (h.q i hi).1) n (by omega) (fun i hi hm => below (h.q i hi).1 (by omega) (hle i hi hm)) (Q.length + 1 + k)
      rw [show Q.length + 1 + n * Q.length + k = Q.length + 1 + k + n * Q.length from by omega, this, ← hj3]
      exact e1 k
  obtain ⟨L', f1, f2, f3⟩ := ref_l1 Q may M (Q.length + 1 + n * Q.length + 0) L c r c' h (eL 0)
  refine ⟨L', c', ?_, ?_, f3, e3, by rw [f1]; exact e4, Q.length + 1 + n * Q.length + 0, by rw [f1]; exact eL 0⟩
  · refine lim_eq (2 * Q.length + 3) fun k hk => ?_
    show drr_Turn_Next_l0 k Q L (c : Int) _ (-1) (L.length : Int) 0 = _
    obtain ⟨y2, hy2, he⟩ := next_l0 Q L c M h may Q.length k 0 (-1) (by omega) (by omega) (.inl ⟨rfl, fun i hi => by omega⟩)
    rw [show ((0 : Nat) : Int) = 0 from rfl] at he
    rw [he]
    have : y2 = (n : Int) := by
      rcases hy2 with ⟨_, h1⟩ | ⟨h1, ⟨i, h2, h3, h4⟩, h5⟩
      · rw [h1 i0 hi0] at hm0; cases hm0
      · have a1 := h5 i0 hi0 hm0; have a2 := hle i h2 h3; omega
    subst this
    rw [if_neg (by omega), hj1, bind_some_eq]
    obtain ⟨k2, hk2⟩ : ∃ k2, k - Q.length - 1 = Q.length + 1 + k2 := ⟨k - Q.length - 1 - (Q.length + 1), by omega⟩
    dsimp only
    rw [hk2]
    obtain ⟨L2, g1, g2, g3⟩ := next_l1 Q may M (Q.length + 1 + k2) J c r c' hSJ (e1 k2)
    rw [g2]
    have : L2 = L' := fn_ext (by rw [g3.len, f3.len]) (by rw [g1, f1])
    rw [this]
  · refine lim_eq (2 * Q.length + 3 + n * Q.length) fun k hk => ?_
    show ref24_Turn_Next_l0 k Q L (c : Int) may false 0 = _
    obtain ⟨b, k', g1, g2, g3, g4⟩ := ref_l0 Q L (c : Int) may h.sz Q.length k 0 false (by omega) (by omega)
    rw [show ((0 : Nat) : Int) = 0 from rfl] at g3
    rw [g3, g4.2 (.inr ⟨i0, by omega, hi0, hm0⟩)]
    obtain ⟨k2, rfl⟩ : ∃ k2, k' = Q.length + 1 + n * Q.length + k2 := ⟨k' - (Q.length + 1 + n * Q.length), by omega⟩
    obtain ⟨L2, a1, a2, a3⟩ := ref_l1 Q may M (Q.length + 1 + n * Q.length + k2) L c r c' h (eL k2)
    rw [a2]
    have : L2 = L' := fn_ext (by rw [a3.len, f3.len]) (by rw [a1, f1])
    rw [this]
end Go.Sy.Dr
/-! Whose turn it is: the small functions; the known example. -/
namespace Go.Sy.Dr
open Go.Sy Go.Sy.Drr
def oddQ (n : Int) : Bool := decide (n < 1) || decide (65536 < n)
theorem oddQ_eq (n : Int) : drr_New_S1 n = some (oddQ n) := by
  unfold drr_New_S1 oddQ
  by_cases h : n < 1
  · rw [if_pos h, decide_eq_true h]; rfl
  · rw [if_neg h, decide_eq_false h]; rfl
theorem IndexFunc_l (s : List Int) (p : Int → Bool) (f : Int → Option Bool) (hf : ∀ x, f x = some (p x)) (hl : s.length < 1000000000000) : ∀ m k n, n + m = s.length → m < k →
    ∃ r, slices_IndexFunc_int_int_l0 k s f (s.length : Int) (n : Int) = some r ∧ (0 ≤ r ↔ (s.drop n).any p = true) := by
  intro m
  induction m with
  | zero =>
    intro k n h hk
    obtain ⟨k, rfl⟩ : ∃ j, k = j + 1 := ⟨k - 1, by omega⟩
    simp only [slices_IndexFunc_int_int_l0]
    rw [if_neg (by omega), List.drop_eq_nil_of_le (by omega)]
    exact ⟨-1, rfl, by simp⟩
  | succ m ih =>
    intro k n h hk
    obtain ⟨k, rfl⟩ : ∃ j, k = j + 1 := ⟨k - 1, by omega⟩
    simp only [slices_IndexFunc_int_int_l0]
    have hlt : n < s.length := by omega
    rw [if_pos (by omega), if_pos (by omega), if_pos (by omega), w64_in (by omega) (by omega), List.drop_eq_getElem_cons hlt, Int.toNat_natCast, getD_lt _ hlt, hf, bind_some_eq, List.any_cons]
    cases hp : p s[n] with
    | true => exact ⟨n, rfl, by simp⟩
    | false =>
      simp only [cond_false, Bool.false_or]
      exact ih k (n + 1) (by omega) (by omega)
theorem ContainsFunc_eq (s : List Int) (p : Int → Bool) (f : Int → Option Bool) (hf : ∀ x, f x = some (p x)) (hl : s.length < 1000000000000) : slices_ContainsFunc_int_int s f = some (s.any p) := by
  obtain ⟨r, h1, h2⟩ := IndexFunc_l s p f hf hl s.length (s.length + 1) 0 (by omega) (by omega)
  have : slices_IndexFunc_int_int s f = some r := by
    refine lim_eq (s.length + 1) fun k hk => ?_
    obtain ⟨r', g1, g2⟩ := IndexFunc_l s p f hf hl s.length k 0 (by omega) (by omega)
    have mono : ∀ m n j k, n + m = s.length → m < j → m < k → slices_IndexFunc_int_int_l0 j s f (s.length : Int) (n : Int) = slices_IndexFunc_int_int_l0 k s f (s.length : Int) (n : Int) := by
      intro m
      induction m with
      | zero =>
        intro n j k h1 h2 h3
        obtain ⟨j, rfl⟩ : ∃ i, j = i + 1 := ⟨j - 1, by omega⟩
        obtain ⟨k, rfl⟩ : ∃ i, k = i + 1 := ⟨k - 1, by omega⟩
        simp only [slices_IndexFunc_int_int_l0]
        rw [if_neg (by omega), if_neg (by omega)]
      | succ m ih =>
        intro n j k h1 h2 h3
        obtain ⟨j, rfl⟩ : ∃ i, j = i + 1 := ⟨j - 1, by omega⟩
        obtain ⟨k, rfl⟩ : ∃ i, k = i + 1 := ⟨k - 1, by omega⟩
        simp only [slices_IndexFunc_int_int_l0]
        rw [w64_in (n := (n : Int) + 1) (by omega) (by omega)]
        have := ih (n + 1) j k (by omega) (by omega) (by omega)
        rw [show ((n + 1 : Nat) : Int) = (n : Int) + 1 from by omega] at this
        rw [this]
    show slices_IndexFunc_int_int_l0 k s f (s.length : Int) 0 = some r
    rw [← h1]
    exact mono s.length 0 k (s.length + 1) (by omega) (by omega) (by omega)
  unfold slices_ContainsFunc_int_int
  rw [this, bind_some_eq]
  rw [List.drop_zero] at h2
  congr 1
  rw [Bool.eq_iff_iff]
  simp [h2]
theorem Clone_eq (s : List Int) (hl : s.length < 1000000000000) : slices_Clone_int_int s = some s := by
  unfold slices_Clone_int_int
  have h1 : (([] : List Int).length + s.length) * 8 ≤ 140737488355328 := by simp; omega
  rw [if_pos h1, List.nil_append]
  split
  · rename_i h
    have : s = [] := List.length_eq_zero_iff.1 h
    subst this
    unfold agree
    rw [if_pos rfl]
  · rfl
def validQ (q : List Int) : Bool := !q.isEmpty && !q.any oddQ
theorem New_eq (q : List Int) (hl : q.length < 1000000) : drr_New q = some (if validQ q then (some (q, List.replicate q.length 0, 0), 0) else (none, 1)) := by
  unfold drr_New validQ
  cases q with
  | nil => rfl
  | cons a r =>
    rw [if_neg (by simp; omega), ContainsFunc_eq (a :: r) oddQ _ oddQ_eq (by omega), bind_some_eq, Clone_eq _ (by omega)]
    simp only [bind_some_eq, List.isEmpty_cons, Bool.not_false, Bool.true_and]
    rw [if_pos (by omega), if_pos (by omega), if_pos (by omega), Int.toNat_natCast]
    cases (a :: r).any oddQ <;> rfl
theorem St.new {q : List Int} (h : validQ q = true) (hl : q.length ≤ 1000) : St q (List.replicate q.length 0) 0 0 := by
  unfold validQ at h
  rw [Bool.and_eq_true] at h
  have h1 : q ≠ [] := by intro e; rw [e] at h; cases h.1
  have h2 : q.any oddQ = false := by simpa using h.2
  have hz : ∀ i, fn (List.replicate q.length 0) i = 0 := by
    intro i
    unfold fn
    by_cases hi : i < q.length
    · rw [getD_lt _ (by simpa using hi)]; simp
    · rw [List.getD_eq_getElem?_getD, List.getElem?_eq_none (by simp; omega)]; rfl
  refine ⟨by simp, hl, List.length_pos_iff.2 h1, fun i hi => ?_, fun i _ => by rw [hz]; omega, fun i hi => ?_, by omega⟩
  · unfold fn
    rw [getD_lt _ hi]
    have := List.any_eq_false.1 h2 _ (List.getElem_mem hi)
    simp [oddQ] at this
    omega
  · rw [hz]
    have hq : 1 ≤ fn q i := by
      unfold fn
      rw [getD_lt _ hi]
      have := List.any_eq_false.1 h2 _ (List.getElem_mem hi)
      simp [oddQ] at this
      omega
    split <;> omega
/-- The plain run over lists. -/
def naiveL (Q : List Int) (may : Nat → Bool) : Nat → List Int → Nat → Option (List Int × Nat)
  | 0, _, _ => none
  | k + 1, L, c => if may c = true ∧ 0 < L.getD c 0 then some (L, c) else naiveL Q may k (stepList Q L c (may c)) (nxt Q.length c)
theorem naiveL_naive {Q : List Int} {M : Int} (may : Nat → Bool) : ∀ k L c L1 c1, St Q L c M → naiveL Q may k L c = some (L1, c1) → naive Q.length (fn Q) may k (fn L) c = some (fn L1, c1) ∧ St Q L1 c1 M ∧ may c1 = true ∧ 0 < fn L1 c1 := by
  intro k
  induction k with
  | zero => intro L c L1 c1 h hn; cases hn
  | succ k ih =>
    intro L c L1 c1 h hn
    simp only [naiveL] at hn
    simp only [naive]
    by_cases hd : may c = true ∧ 0 < fn L c
    · have hd' : may c = true ∧ 0 < L.getD c 0 := hd
      rw [if_pos hd'] at hn
      cases hn
      rw [if_pos hd]
      exact ⟨rfl, h, hd⟩
    · have hd' : ¬ (may c = true ∧ 0 < L.getD c 0) := hd
      rw [if_neg hd'] at hn
      rw [if_neg hd, ← fn_step h]
      exact ih _ _ L1 c1 (h.step may hd) hn
theorem naive_det {N : Nat} {q : Nat → Int} {may : Nat → Bool} : ∀ k l c r, naive N q may k l c = some r → ∀ j, naive N q may (k + j) l c = some r := by
  intro k
  induction k with
  | zero => intro l c r h; cases h
  | succ k ih =>
    intro l c r h j
    rw [show k + 1 + j = (k + j) + 1 from by omega]
    simp only [naive] at h ⊢
    split at h
    · rw [if_pos (by assumption)]; exact h
    · rw [if_neg (by assumption)]; exact ih _ _ _ h j
theorem Next_L {Q L L1 : List Int} {c c1 : Nat} {M : Int} (h : St Q L c M) (may : List Bool) (K : Nat) (hn : naiveL Q (mayF may) K L c = some (L1, c1)) : drr_Turn_Next (Q, L, (c : Int)) may = some ((c1 : Int), (Q, L1, (c1 : Int))) ∧ St Q L1 c1 M := by
  obtain ⟨h1, h2, h3, h4⟩ := naiveL_naive (mayF may) K L c L1 c1 h hn
  obtain ⟨L', c', g1, _, g3, _, _, K', g6⟩ := Next_some h may ⟨c1, h2.cur, h3⟩
  have a := naive_det _ _ _ _ h1 K'
  have b := naive_det _ _ _ _ g6 K
  rw [Nat.add_comm, b] at a
  simp only [Option.some.injEq, Prod.mk.injEq] at a
  obtain ⟨a1, rfl⟩ := a
  have : L' = L1 := fn_ext (by rw [g3.len, h2.len]) a1
  subst this
  exact ⟨g1, h2⟩
theorem is_eq (Q L : List Int) (c i : Int) : drr_Turn_is (Q, L, c) i = some (decide (0 ≤ i ∧ i < (L.length : Int)), (Q, L, c)) := by
  unfold drr_Turn_is
  by_cases h : 0 ≤ i
  · rw [if_pos h]
    by_cases h2 : i < (L.length : Int)
    · rw [decide_eq_true h2, decide_eq_true ⟨h, h2⟩]
    · rw [decide_eq_false h2, decide_eq_false (fun q => h2 q.2)]
  · rw [if_neg h, decide_eq_false (fun q => h q.1)]
def charge (L : List Int) (i cost : Int) : List Int := if 0 ≤ i ∧ i < (L.length : Int) ∧ 0 ≤ cost ∧ cost ≤ 1073741824 then L.set i.toNat (L.getD i.toNat 0 - cost) else L
theorem St.range {Q L : List Int} {c : Nat} {M : Int} (h : St Q L c M) (i : Int) (h0 : 0 ≤ i) (h1 : i < (L.length : Int)) : -1099511627776 ≤ L.getD i.toNat 0 ∧ L.getD i.toNat 0 ≤ 65536 := by
  have hl := h.len; have hm := h.m
  have a := h.lo i.toNat (by omega); have b := h.hi i.toNat (by omega); have q := h.q i.toNat (by omega)
  unfold fn at a b q
  split at b <;> omega
theorem Charge_eq {Q L : List Int} {c : Nat} {M : Int} (h : St Q L c M) (i cost : Int) : drr_Turn_Charge (Q, L, (c : Int)) i cost = some (Q, charge L i cost, (c : Int)) := by
  unfold drr_Turn_Charge charge
  rw [is_eq, bind_some_eq]
  by_cases h1 : 0 ≤ i ∧ i < (L.length : Int)
  · have hr := h.range i h1.1 h1.2
    simp only [h1, decide_true, cond_true, true_and, if_true, and_self]
    by_cases h2 : 0 ≤ cost
    · rw [if_pos h2]
      by_cases h3 : cost ≤ 1073741824
      · rw [if_pos h3, if_pos ⟨h2, h3⟩, w64_in (by omega) (by omega)]
      · rw [if_neg h3, if_neg (fun q => h3 q.2)]
    · rw [if_neg h2, if_neg (fun q => h2 q.1)]
  · have : ¬ (0 ≤ i ∧ i < (L.length : Int) ∧ 0 ≤ cost ∧ cost ≤ 1073741824) := fun q => h1 ⟨q.1, q.2.1⟩
    rw [if_neg this, decide_eq_false h1]; rfl
theorem St.mono {Q L : List Int} {c : Nat} {M M' : Int} (h : St Q L c M) (hM : M ≤ M') (hm : M' ≤ 1099511627776) : St Q L c M' :=
  ⟨h.len, h.sz, h.cur, h.q, fun i hi => by have := h.lo i hi; omega, h.hi, by have := h.m; omega⟩
theorem St.set {Q L : List Int} {c : Nat} {M : Int} (h : St Q L c M) (i : Nat) (x : Int) (hx : i < Q.length → -M ≤ x ∧ x ≤ max (fn L i) 0) : St Q (L.set i x) c M := by
  by_cases hi : i < Q.length
  · have hl := h.len
    refine ⟨by simpa using hl, h.sz, h.cur, h.q, fun j hj => ?_, fun j hj => ?_, h.m⟩
    all_goals
      rw [fn_set L i x (by omega)]
      dsimp only
      have a := h.lo j hj; have b := h.hi j hj; have q := h.q j hj; have hx := hx hi
      split
      · rename_i e; subst e; first | exact hx.1 | (split at b <;> split <;> omega)
      · assumption
  · rw [List.set_eq_of_length_le (by rw [h.len]; omega)]; exact h
theorem St.charge {Q L : List Int} {c : Nat} {M : Int} (h : St Q L c M) (i cost : Int) (hM : M + 1073741824 ≤ 1099511627776) : St Q (charge L i cost) c (M + 1073741824) := by
  have h' := h.mono (M' := M + 1073741824) (by omega) hM
  unfold Dr.charge
  split
  · rename_i hc
    have hl := h.len
    refine h'.set i.toNat _ fun hi => ?_
    have a := h.lo i.toNat hi
    have e : L.getD i.toNat 0 = fn L i.toNat := rfl
    rw [e]
    omega
  · exact h'
theorem St.charge1 {Q L : List Int} {c : Nat} {M : Int} (h : St Q L c M) (i cost x : Int) (hx : 0 ≤ cost ∧ cost ≤ x) (hM : M + x ≤ 1099511627776) : St Q (Dr.charge L i cost) c (M + x) := by
  have h' := h.mono (M' := M + x) (by omega) hM
  unfold Dr.charge
  split
  · rename_i hc
    refine h'.set i.toNat _ fun hi => ?_
    have a := h.lo i.toNat hi
    have e : L.getD i.toNat 0 = fn L i.toNat := rfl
    rw [e]
    omega
  · exact h'
def leftI (L : List Int) (i : Int) : Int := if 0 ≤ i ∧ i < (L.length : Int) then L.getD i.toNat 0 else 0
theorem Left_eq (Q L : List Int) (c i : Int) : drr_Turn_Left (Q, L, c) i = some (leftI L i, (Q, L, c)) := by
  unfold drr_Turn_Left leftI
  rw [is_eq, bind_some_eq]
  by_cases h1 : 0 ≤ i ∧ i < (L.length : Int)
  · simp only [h1, decide_true, Bool.not_true, cond_false, if_true, and_self]
  · rw [if_neg h1, decide_eq_false h1]; rfl
theorem known_eq : law24_known = some true := by
  refine lim_eq 10 fun k hk => ?_
  obtain ⟨k, rfl⟩ : ∃ j, k = j + 8 := ⟨k - 8, by omega⟩
  show law24_known_f (k + 8) = some true
  unfold law24_known_f
  have hv : validQ [2, 1] = true := by decide
  rw [New_eq _ (by decide), hv, if_pos rfl, bind_some_eq]
  dsimp only
  rw [if_neg (by decide)]
  have s0 : St [2, 1] [0, 0] 0 0 := St.new hv (by decide)
  have e0 : List.replicate ([2, 1] : List Int).length (0 : Int) = [0, 0] := rfl
  rw [e0]
  have one : ∀ (L L1 : List Int) (c c1 : Nat) (M : Int) (kk : Nat) (i : Int), St [2, 1] L c M → M ≤ 100 → naiveL [2, 1] (mayF [true, true]) 3 L c = some (L1, c1) → 0 ≤ i → i < 6 → (arr_0.1 :: arr_0.2.1 :: arr_0.2.2.1 :: arr_0.2.2.2.1 :: arr_0.2.2.2.2.1 :: [arr_0.2.2.2.2.2]).getD i.toNat 0 = (c1 : Int) →
      law24_known_l0 (kk + 1) [2, 1] L (c : Int) arr_0 i = law24_known_l0 kk [2, 1] (Dr.charge L1 (c1 : Int) 1) (c1 : Int) arr_0 (w64 (i + 1)) ∧ St [2, 1] (Dr.charge L1 (c1 : Int) 1) c1 (M + 1) := by
    intro L L1 c c1 M kk i hs hM hn h0 h6 hw
    obtain ⟨a1, a2⟩ := Next_L hs [true, true] 3 hn
    refine ⟨?_, a2.charge1 _ 1 1 (by omega) (by omega)⟩
    simp only [law24_known_l0]
    rw [if_pos h6, a1, bind_some_eq, if_pos h0, if_pos (show i < (([1, 0, 0, 1, 0, 0] : List Int).length : Int) from h6), if_neg (fun q => q hw.symm)]
    dsimp only
    rw [Charge_eq a2, bind_some_eq]
  obtain ⟨r1, s1⟩ := one [0, 0] [0, 1] 0 1 0 (k + 7) 0 s0 (by decide) (by decide) (by decide) (by decide) (by decide)
  obtain ⟨r2, s2⟩ := one _ [2, 0] 1 0 1 (k + 6) 1 s1 (by decide) (by decide) (by decide) (by decide) (by decide)
  obtain ⟨r3, s3⟩ := one _ [1, 0] 0 0 2 (k + 5) 2 s2 (by decide) (by decide) (by decide) (by decide) (by decide)
  obtain ⟨r4, s4⟩ := one _ [0, 1] 0 1 3 (k + 4) 3 s3 (by decide) (by decide) (by decide) (by decide) (by decide)
  obtain ⟨r5, s5⟩ := one _ [2, 0] 1 0 4 (k + 3) 4 s4 (by decide) (by decide) (by decide) (by decide) (by decide)
  obtain ⟨r6, s6⟩ := one _ [1, 0] 0 0 5 (k + 2) 5 s5 (by decide) (by decide) (by decide) (by decide) (by decide)
  have r1 : law24_known_l0 (k + 8) [2, 1] [0, 0] 0 arr_0 0 = _ := r1
  rw [r1]
  have w1 : w64 (0 + 1) = 1 := by decide
  have w2 : w64 (1 + 1) = 2 := by decide
  have w3 : w64 (2 + 1) = 3 := by decide
  have w4 : w64 (3 + 1) = 4 := by decide
  have w5 : w64 (4 + 1) = 5 := by decide
  have w6 : w64 (5 + 1) = 6 := by decide
  rw [w1, r2, w2, r3, w3, r4, w4, r5, w5, r6, w6]
  obtain ⟨n1, _⟩ := Next_none s6 [] (fun i _ => rfl)
  simp only [law24_known_l0]
  rw [if_neg (by decide), n1, bind_some_eq]
  dsimp only
  rw [if_pos rfl]
  unfold drr_Turn_Cur
  rw [bind_some_eq]
  dsimp only
  rw [if_pos (show ((0 : Nat) : Int) = 0 from rfl), Left_eq, bind_some_eq]
  decide
theorem None_true (i cost : Int) (may : List Bool) : law24_DrrNone i cost may = some true := by
  unfold law24_DrrNone
  rw [New_eq _ (by decide), known_eq]
  have hch : drr_Turn_Charge_1 () i cost = some () := by
    unfold drr_Turn_Charge_1 drr_Turn_is_1
    rw [bind_some_eq, cond_false]
  rw [hch]
  simp [drr_Turn_Reset, drr_Turn_is_1, drr_Turn_Next_1, drr_Turn_Left_1, drr_Turn_Cur_1, bind_some_eq, show validQ [] = false by decide]
end Go.Sy.Dr
/-! Whose turn it is: the plays. -/
namespace Go.Sy.Dr
open Go.Sy Go.Sy.Drr
theorem refNew_l (q : List Int) (hl : q.length ≤ 1000) : ∀ m k n, n + m = q.length → m < k → ref24_New_l0 k q (n : Int) = some (if q.isEmpty || (q.drop n).any oddQ then (none, 1) else (some (q, List.replicate q.length 0, 0), 0)) := by
  intro m
  induction m with
  | zero =>
    intro k n h hk
    obtain ⟨k, rfl⟩ : ∃ j, k = j + 1 := ⟨k - 1, by omega⟩
    simp only [ref24_New_l0]
    rw [if_neg (by omega), List.drop_eq_nil_of_le (by omega)]
    cases q with
    | nil => rfl
    | cons a r =>
      rw [if_neg (by simp; omega), if_pos (by simp at hl ⊢; omega), if_pos (by omega), if_pos (by omega), if_pos (by omega)]
      simp
  | succ m ih =>
    intro k n h hk
    obtain ⟨k, rfl⟩ : ∃ j, k = j + 1 := ⟨k - 1, by omega⟩
    simp only [ref24_New_l0]
    have hlt : n < q.length := by omega
    have hne : q.isEmpty = false := by cases q with | nil => simp at hlt | cons a r => rfl
    rw [if_pos (by omega), if_pos (by omega), if_pos (by omega), w64_in (by omega) (by omega), List.drop_eq_getElem_cons hlt, Int.toNat_natCast, getD_lt _ hlt, List.any_cons, hne]
    have e : ((n : Int) + 1) = ((n + 1 : Nat) : Int) := by omega
    by_cases h1 : q[n] < 1
    · rw [if_pos h1]; simp [oddQ, h1]
    · rw [if_neg h1, if_pos (by omega), if_pos (by omega)]
      by_cases h2 : 65536 < q[n]
      · rw [if_pos h2]; simp [oddQ, h2]
      · rw [if_neg h2, e, ih k (n + 1) (by omega) (by omega), hne]
        simp [oddQ, h1, h2]
theorem refNew_eq (q : List Int) (hl : q.length ≤ 1000) : ref24_New q = some (if validQ q then (some (q, List.replicate q.length 0, 0), 0) else (none, 1)) := by
  refine lim_eq (q.length + 1) fun k hk => ?_
  show ref24_New_l0 k q 0 = _
  have := refNew_l q hl q.length k 0 (by omega) (by omega)
  rw [show (0 : Int) = ((0 : Nat) : Int) from rfl, this, List.drop_zero]
  unfold validQ
  cases q.isEmpty <;> cases q.any oddQ <;> rfl
theorem refCharge_eq {Q L : List Int} {c : Nat} {M : Int} (h : St Q L c M) (i cost : Int) : ref24_Turn_Charge (Q, L, (c : Int)) i cost = some (Q, charge L i cost, (c : Int)) := by
  refine lim_eq 1 fun k hk => ?_
  obtain ⟨k, rfl⟩ : ∃ j, k = j + 1 := ⟨k - 1, by omega⟩
  show ref24_Turn_Charge_f (k + 1) (Q, L, (c : Int)) i cost = _
  unfold ref24_Turn_Charge_f Dr.charge
  simp only [ref24_Turn_Charge_c0]
  by_cases h0 : 0 ≤ i
  · by_cases h1 : i < (L.length : Int)
    · have hr := h.range i h0 h1
      by_cases h2 : 0 ≤ cost
      · by_cases h3 : cost ≤ 1073741824
        · simp only [h0, h1, h2, h3, if_true, decide_true, cond_true, and_self]
          rw [w64_in (by omega) (by omega)]
        · simp [h0, h1, h2, h3]
      · simp [h0, h1, h2]
    · simp [h0, h1]
  · simp [h0]
def reset (L : List Int) (i : Int) : List Int := if 0 ≤ i ∧ i < (L.length : Int) then L.set i.toNat 0 else L
theorem refReset_eq (Q L : List Int) (c i : Int) : ref24_Turn_Reset (Q, L, c) i = some (Q, reset L i, c) := by
  unfold ref24_Turn_Reset reset
  by_cases h0 : 0 ≤ i
  · by_cases h1 : i < (L.length : Int)
    · simp [h0, h1]
    · simp [h0, h1]
  · simp [h0]
theorem Reset_eq (Q L : List Int) (c i : Int) : drr_Turn_Reset_1 (Q, L, c) i = some (Q, reset L i, c) := by
  unfold drr_Turn_Reset_1 reset
  rw [is_eq, bind_some_eq]
  by_cases h1 : 0 ≤ i ∧ i < (L.length : Int)
  · simp [h1]
  · rw [if_neg h1, decide_eq_false h1]; rfl
theorem St.reset {Q L : List Int} {c : Nat} {M : Int} (h : St Q L c M) (i : Int) : St Q (Dr.reset L i) c M := by
  have hm := h.m
  unfold Dr.reset
  split
  · exact h.set _ _ fun _ => ⟨by omega, by omega⟩
  · exact h
theorem left_eq (Q L : List Int) (c i : Int) : law24_left (Q, L, c) i = some (leftI L i, (Q, L, c)) := by
  unfold law24_left leftI
  dsimp only
  by_cases h0 : i < 0
  · rw [if_pos h0, if_neg (by omega)]
  · by_cases h1 : (L.length : Int) ≤ i
    · rw [if_neg h0, if_pos h1, if_neg (by omega)]
    · rw [if_neg h0, if_neg h1, if_pos (by omega), if_pos (by omega), if_pos (by omega)]
theorem Place_eq (v : Int) : ∃ r, ref37_Place v 500 = some r := by
  unfold ref37_Place
  rw [if_pos (by decide)]
  split <;> exact ⟨_, rfl⟩
theorem c0b_eq {Q L : List Int} {c : Nat} {M : Int} (h : St Q L c M) (k : Nat) (l : List law24_Step) (i w I C : Int) (may : List Bool) :
    law24_DrrPlays_c0b (k + 1) l Q L (c : Int) Q L (c : Int) i w I C may = law24_DrrPlays_l0d k l Q L (c : Int) Q L (c : Int) (w64 (i + 1)) := by
  have hl := h.len; have hc := h.cur
  simp only [law24_DrrPlays_c0b]
  unfold drr_Turn_Cur
  rw [bind_some_eq]
  dsimp only
  rw [if_neg (fun q => q rfl), Left_eq, bind_some_eq, left_eq, bind_some_eq]
  dsimp only
  rw [if_neg (fun q => q rfl), Left_eq, bind_some_eq]
  dsimp only
  rw [if_pos (by omega), if_pos (by omega), if_neg]
  unfold leftI
  rw [if_pos (by omega)]
  exact fun q => q rfl
theorem Next_both {Q L : List Int} {c : Nat} {M : Int} (h : St Q L c M) (may : List Bool) : ∃ (r : Int) (L' : List Int) (c' : Nat), drr_Turn_Next (Q, L, (c : Int)) may = some (r, (Q, L', (c' : Int))) ∧ ref24_Turn_Next (Q, L, (c : Int)) may = some (r, (Q, L', (c' : Int))) ∧ St Q L' c' M := by
  by_cases hs : ∃ i, i < Q.length ∧ mayF may i = true
  · obtain ⟨L', c', h1, h2, h3, _⟩ := Next_some h may hs
    exact ⟨_, L', c', h1, h2, h3⟩
  · obtain ⟨h1, h2⟩ := Next_none h may (fun i hi => by
      cases e : mayF may i with
      | true => exact absurd ⟨i, hi, e⟩ hs
      | false => rfl)
    exact ⟨_, L, c, h1, h2, h⟩
theorem plays_step {Q L : List Int} {c : Nat} {M : Int} (h : St Q L c M) (hM : M + 1073741824 ≤ 1099511627776) (l : List law24_Step) (n : Nat) (hn : n < l.length) (hl : l.length ≤ 100) (k : Nat) :
    ∃ L' c', St Q L' c' (M + 1073741824) ∧ law24_DrrPlays_l0d (k + 2) l Q L (c : Int) Q L (c : Int) (n : Int) = law24_DrrPlays_l0d k l Q L' (c' : Int) Q L' (c' : Int) ((n + 1 : Nat) : Int) := by
  obtain ⟨r, hr⟩ := Place_eq ((l.getD n law24_Step.z).Cost)
  simp only [law24_DrrPlays_l0d]
  rw [if_pos (by omega), if_pos (by omega), if_pos (by omega), Int.toNat_natCast, hr, bind_some_eq]
  have e : w64 ((n : Int) + 1) = ((n + 1 : Nat) : Int) := by rw [w64_in (by omega) (by omega)]; omega
  generalize l.getD n law24_Step.z = s at *
  have cs : ∀ i C, (∃ L' c', St Q L' c' (M + 1073741824) ∧ ((drr_Turn_Charge (Q, L, (c : Int)) i C).bind fun r31 => (ref24_Turn_Charge (Q, L, (c : Int)) i C).bind fun r32 =>
    law24_DrrPlays_c0b (k + 1) l r31.1 r31.2.1 r31.2.2 r32.1 r32.2.1 r32.2.2 (n : Int) s.What s.I s.Cost s.May) = law24_DrrPlays_l0d k l Q L' (c' : Int) Q L' (c' : Int) ((n + 1 : Nat) : Int)) := by
    intro i C
    have h' := h.charge i C hM
    refine ⟨_, _, h', ?_⟩
    rw [Charge_eq h, bind_some_eq, refCharge_eq h, bind_some_eq]
    dsimp only
    rw [c0b_eq h', e]
  have cr : ∀ i, (∃ L' c', St Q L' c' (M + 1073741824) ∧ ((drr_Turn_Reset_1 (Q, L, (c : Int)) i).bind fun r31 => (ref24_Turn_Reset (Q, L, (c : Int)) i).bind fun r32 =>
    law24_DrrPlays_c0b (k + 1) l r31.1 r31.2.1 r31.2.2 r32.1 r32.2.1 r32.2.2 (n : Int) s.What s.I s.Cost s.May) = law24_DrrPlays_l0d k l Q L' (c' : Int) Q L' (c' : Int) ((n + 1 : Nat) : Int)) := by
    intro i
    have h' := (h.reset i).mono (M' := M + 1073741824) (by omega) hM
    refine ⟨_, _, h', ?_⟩
    rw [Reset_eq, bind_some_eq, refReset_eq, bind_some_eq]
    dsimp only
    rw [c0b_eq h', e]
  have c0 : (∃ L' c', St Q L' c' (M + 1073741824) ∧ law24_DrrPlays_c0b (k + 1) l Q L (c : Int) Q L (c : Int) (n : Int) s.What s.I s.Cost s.May = law24_DrrPlays_l0d k l Q L' (c' : Int) Q L' (c' : Int) ((n + 1 : Nat) : Int)) := by
    have h' := h.mono (M' := M + 1073741824) (by omega) hM
    refine ⟨_, _, h', ?_⟩
    rw [c0b_eq h', e]
  have cn : (∃ L' c', St Q L' c' (M + 1073741824) ∧ ((drr_Turn_Next (Q, L, (c : Int)) s.May).bind fun r27 =>
    (ref24_Turn_Next (Q, L, (c : Int)) s.May).bind fun r28 =>
    if r27.1 ≠ r28.1 then
    some false else
    (drr_Turn_Charge (r27.2.1, r27.2.2.1, r27.2.2.2) r27.1 r).bind fun r29 =>
    (ref24_Turn_Charge (r28.2.1, r28.2.2.1, r28.2.2.2) r27.1 r).bind fun r30 =>
    law24_DrrPlays_c0b (k + 1) l r29.1 r29.2.1 r29.2.2 r30.1 r30.2.1 r30.2.2 (n : Int) s.What s.I s.Cost s.May) = law24_DrrPlays_l0d k l Q L' (c' : Int) Q L' (c' : Int) ((n + 1 : Nat) : Int)) := by
    obtain ⟨x, L1, c1, g1, g2, g3⟩ := Next_both h s.May
    have h' := g3.charge x r hM
    refine ⟨_, _, h', ?_⟩
    rw [g1, bind_some_eq, g2, bind_some_eq]
    dsimp only
    rw [if_neg (fun q => q rfl), Charge_eq g3, bind_some_eq, refCharge_eq g3, bind_some_eq]
    dsimp only
    rw [c0b_eq h', e]
  split
  · split
    · exact cn
    · split
      · split
        · exact cs _ _
        · split
          · exact cs _ _
          · exact cs _ _
      · split
        · exact cr _
        · exact c0
  · split
    · split
      · exact cs _ _
      · split
        · exact cs _ _
        · exact cs _ _
    · split
      · exact cr _
      · exact c0
theorem plays_l (Q : List Int) (l : List law24_Step) (hl : l.length ≤ 100) : ∀ m k n L c M, n + m = l.length → 2 * m < k → St Q L c M → M + m * 1073741824 ≤ 1099511627776 →
    law24_DrrPlays_l0d k l Q L ((c : Nat) : Int) Q L (c : Int) ((n : Nat) : Int) = some true := by
  intro m
  induction m with
  | zero =>
    intro k n L c M h hk hs hM
    obtain ⟨k, rfl⟩ : ∃ j, k = j + 1 := ⟨k - 1, by omega⟩
    simp only [law24_DrrPlays_l0d]
    rw [if_neg (by omega), known_eq]; rfl
  | succ m ih =>
    intro k n L c M h hk hs hM
    obtain ⟨k, rfl⟩ : ∃ j, k = j + 2 := ⟨k - 2, by omega⟩
    have hM' : M + 1073741824 + m * 1073741824 ≤ 1099511627776 := by
      rw [show ((m + 1 : Nat) : Int) = (m : Int) + 1 from by omega, Int.add_mul] at hM; omega
    have := hs.m
    obtain ⟨L', c', g1, g2⟩ := plays_step hs (by omega) l n (by omega) hl k
    rw [g2]
    exact ih k (n + 1) L' c' _ (by omega) (by omega) g1 hM'
theorem Plays_true (quanta : List Int) (l : List law24_Step) : law24_DrrPlays quanta l = some true := by
  refine lim_eq (2 * l.length + 1) fun k hk => ?_
  show law24_DrrPlays_f k quanta l = some true
  unfold law24_DrrPlays_f
  rw [known_eq]
  split
  · rfl
  rename_i h1
  split
  · rfl
  rename_i h2
  rw [New_eq _ (by omega), refNew_eq _ (by omega)]
  by_cases hv : validQ quanta = true
  · rw [if_pos hv, bind_some_eq]
    dsimp only
    rw [bind_some_eq]
    dsimp only
    rw [if_neg (by decide), if_neg (by decide)]
    have := St.new hv (by omega)
    exact plays_l quanta l (by omega) l.length k 0 _ 0 0 (by omega) (by omega) this (by omega)
  · rw [if_neg hv, bind_some_eq]
    dsimp only
    rw [bind_some_eq]
    dsimp only
    rw [if_neg (by decide), if_neg (by decide)]
    obtain ⟨k, rfl⟩ : ∃ j, k = j + 1 := ⟨k - 1, by omega⟩
    simp only [law24_DrrPlays_l0]
    rw [known_eq]
    split <;> rfl
end Go.Sy.Dr
/-! Whose turn it is: the one that runs alone; the shares. -/
namespace Go.Sy.Dr
open Go.Sy Go.Sy.Drr
structure OkQ (q : List Int) : Prop where
  pos : 0 < q.length
  len : q.length ≤ 9
  rng : ∀ i, i < q.length → 1 ≤ fn q i ∧ fn q i ≤ 6
theorem fn_app {q : List Int} {x : Int} {i : Nat} : fn (q ++ [x]) i = if i < q.length then fn q i else if i = q.length then x else 0 := by
  unfold fn
  by_cases h : i < q.length
  · rw [if_pos h, List.getD_eq_getElem?_getD, List.getElem?_append_left h, List.getD_eq_getElem?_getD]
  · rw [if_neg h, List.getD_eq_getElem?_getD, List.getElem?_append_right (by omega)]
    by_cases e : i = q.length
    · rw [if_pos e, e, Nat.sub_self]; rfl
    · rw [if_neg e, show i - q.length = (i - q.length - 1) + 1 from by omega]; rfl
theorem quanta_l (v : List Int) (hv : ∀ y ∈ v, 0 ≤ y ∧ y < 256) : ∀ (m n : Nat) (out : List Int), n + m = 8 → out.length = n + 1 → (∀ i, i < out.length → 1 ≤ fn out i ∧ fn out i ≤ 6) → ∃ q, (∀ k, m < k → law24_quanta_l0 k v out (n : Int) = some q) ∧ OkQ q := by
  intro m
  induction m with
  | zero =>
    intro n out h hl ho
    refine ⟨out, fun k hk => ?_, by omega, by omega, ho⟩
    obtain ⟨k, rfl⟩ : ∃ j, k = j + 1 := ⟨k - 1, by omega⟩
    simp only [law24_quanta_l0]
    by_cases h1 : (n : Int) < (v.length : Int)
    · rw [if_pos h1, if_neg (by omega)]
    · rw [if_neg h1]
  | succ m ih =>
    intro n out h hl ho
    by_cases h1 : n < v.length
    · have hx := hv v[n] (List.getElem_mem h1)
      have hx6 : 0 ≤ (v[n]).tmod 6 ∧ (v[n]).tmod 6 < 6 := by rw [Int.tmod_eq_emod_of_nonneg hx.1]; omega
      obtain ⟨q, g1, g2⟩ := ih (n + 1) (out ++ [1 + (v[n]).tmod 6]) (by omega) (by simp; omega) (fun i hi => by
        rw [fn_app]
        simp at hi
        split
        · exact ho i (by assumption)
        · rw [if_pos (by omega)]; omega)
      refine ⟨q, fun k hk => ?_, g2⟩
      obtain ⟨k, rfl⟩ : ∃ j, k = j + 1 := ⟨k - 1, by omega⟩
      simp only [law24_quanta_l0]
      rw [if_pos (by omega), if_pos (by omega), if_pos (by omega), if_pos (by omega), if_pos (by decide), Int.toNat_natCast, getD_lt _ h1, w64_in (n := v[n]) (by omega) (by omega), w64_in (n := 1 + _) (by omega) (by omega), w64_in (by omega) (by omega), if_pos (by simp; omega)]
      rw [← g1 k (by omega)]
      rfl
    · refine ⟨out, fun k hk => ?_, by omega, by omega, ho⟩
      obtain ⟨k, rfl⟩ : ∃ j, k = j + 1 := ⟨k - 1, by omega⟩
      simp only [law24_quanta_l0]
      rw [if_neg (by omega)]
theorem quanta_eq (v : List Int) (hv : ∀ y ∈ v, 0 ≤ y ∧ y < 256) : ∃ q, law24_quanta v = some q ∧ OkQ q := by
  obtain ⟨q, h1, h2⟩ := quanta_l v hv 8 0 [3] (by omega) rfl (fun i hi => by
    have : i = 0 := by simpa using hi
    subst this; decide)
  exact ⟨q, lim_eq 9 fun k hk => h1 k (by omega), h2⟩
theorem OkQ.valid {q : List Int} (h : OkQ q) : validQ q = true := by
  unfold validQ
  have h1 : q.isEmpty = false := by have := h.pos; cases q with | nil => simp at this | cons a r => rfl
  have h2 : q.any oddQ = false := List.any_eq_false.2 fun x hx => by
    obtain ⟨i, hi, rfl⟩ := List.mem_iff_getElem.1 hx
    have := h.rng i hi
    unfold fn at this
    rw [getD_lt _ hi] at this
    simp [oddQ]; omega
  rw [h1, h2]; rfl
theorem OkQ.st {q : List Int} (h : OkQ q) : St q (List.replicate q.length 0) 0 0 := St.new h.valid (by have := h.len; omega)
theorem fnB (n i : Nat) : mayF (List.replicate n false) i = false := by
  unfold mayF
  rw [List.getD_eq_getElem?_getD, List.getElem?_replicate]
  split <;> rfl
theorem mayF_set (l : List Bool) (i : Nat) (b : Bool) (hi : i < l.length) (j : Nat) : mayF (l.set i b) j = if j = i then b else mayF l j := by
  unfold mayF
  by_cases h : j = i
  · subst h; rw [if_pos rfl, List.getD_eq_getElem?_getD, List.getElem?_set_self hi]; rfl
  · rw [if_neg h, List.getD_eq_getElem?_getD, List.getElem?_set_ne (Ne.symm h), ← List.getD_eq_getElem?_getD]
theorem left_le {q L : List Int} {c : Nat} {M : Int} (h : St q L c M) (i : Nat) (hi : i < q.length) : leftI L (i : Int) = fn L i ∧ fn L i ≤ fn q i := by
  have hl := h.len; have a := h.hi i hi; have b := h.q i hi
  refine ⟨by unfold leftI fn; rw [if_pos (by omega), Int.toNat_natCast], by split at a <;> omega⟩
theorem only_l1 (q : List Int) (hq : OkQ q) (cost times : Int) (row : List Bool) (me : Int) (i : Int) {L : List Int} {c : Nat} {M : Int} (h : St q L c M) : ∀ m k n, n + m = q.length → m < k → law24_DrrOnly_l1 k cost times q q L (c : Int) me row i ((n : Nat) : Int) = law24_DrrOnly_l0 (k - m - 1) cost times q q (charge L me (w64 cost)) (c : Int) me row (w64 (i + 1)) := by
  intro m
  induction m with
  | zero =>
    intro k n hn hk
    obtain ⟨k, rfl⟩ : ∃ j, k = j + 1 := ⟨k - 1, by omega⟩
    simp only [law24_DrrOnly_l1]
    rw [if_neg (by omega), Charge_eq h, bind_some_eq]
    rfl
  | succ m ih =>
    intro k n hn hk
    obtain ⟨k, rfl⟩ : ∃ j, k = j + 1 := ⟨k - 1, by omega⟩
    have hlen := hq.len
    simp only [law24_DrrOnly_l1]
    obtain ⟨e1, e2⟩ := left_le h n (by omega)
    rw [if_pos (by omega), Left_eq, bind_some_eq, if_pos (by omega), if_pos (by omega)]
    dsimp only
    rw [e1, Int.toNat_natCast, if_neg (by unfold fn at e2 ⊢; omega), w64_in (by omega) (by omega), show (n : Int) + 1 = ((n + 1 : Nat) : Int) from by omega, ih k (n + 1) (by omega) (by omega), show k + 1 - (m + 1) - 1 = k - m - 1 from by omega]
theorem only_l0 (q : List Int) (hq : OkQ q) (cost times : Int) (hc : 0 ≤ cost ∧ cost < 65536) (row : List Bool) (me : Nat) (hme : me < q.length) (hrow : ∀ j, mayF row j = decide (j = me)) (T : Nat) (hT : (w64 times).tmod 20 = (T : Int) ∧ T < 20) : ∀ m n L c M, n + m = T + 1 → St q L c M → M + m * 65536 ≤ 1099511627776 →
    ∀ k, m * (q.length + 2) < k → law24_DrrOnly_l0 k cost times q q L ((c : Nat) : Int) (me : Int) row ((n : Nat) : Int) = some true := by
  intro m
  have hlen := hq.len
  induction m with
  | zero =>
    intro n L c M h hs hM k hk
    obtain ⟨k, rfl⟩ : ∃ j, k = j + 1 := ⟨k - 1, by omega⟩
    simp only [law24_DrrOnly_l0]
    obtain ⟨h1, _⟩ := Next_none hs (List.replicate q.length false) (fun i _ => fnB _ _)
    rw [if_pos (by decide), if_neg (by omega), if_pos (by omega), if_pos (by omega), if_pos (by omega), Int.toNat_natCast, h1, bind_some_eq]
    dsimp only
    rw [if_pos rfl, known_eq]; rfl
  | succ m ih =>
    intro n L c M h hs hM k hk
    have hk' : m * (q.length + 2) + q.length + 2 < k := by rw [Nat.add_mul] at hk; omega
    obtain ⟨k, rfl⟩ : ∃ j, k = j + 1 := ⟨k - 1, by omega⟩
    have hM' : M + 65536 + m * 65536 ≤ 1099511627776 := by
      rw [show ((m + 1 : Nat) : Int) = (m : Int) + 1 from by omega, Int.add_mul] at hM; omega
    simp only [law24_DrrOnly_l0]
    obtain ⟨L', c', h1, _, h3, h4, _⟩ := Next_some hs row ⟨me, hme, by rw [hrow]; simp⟩
    have hcm : c' = me := by rw [hrow] at h4; simpa using h4
    subst hcm
    rw [if_pos (by decide), if_pos (by omega), h1, bind_some_eq]
    dsimp only
    rw [if_neg (fun q => q rfl)]
    unfold drr_Turn_Cur
    rw [bind_some_eq]
    dsimp only
    rw [if_neg (fun q => q rfl), show (0 : Int) = ((0 : Nat) : Int) from rfl, only_l1 q hq cost times row _ _ h3 q.length k 0 (by omega) (by omega), w64_in (n := cost) (by omega) (by omega), w64_in (by omega) (by omega), show (n : Int) + 1 = ((n + 1 : Nat) : Int) from by omega]
    exact ih (n + 1) _ _ _ (by omega) (h3.charge1 _ cost 65536 (by omega) (by omega)) hM' _ (by omega)
theorem Only_true (v : List Int) (who cost times : Int) (hv : ∀ y ∈ v, 0 ≤ y ∧ y < 256) (hw : 0 ≤ who ∧ who < 256) (hc : 0 ≤ cost ∧ cost < 65536) (ht : 0 ≤ times ∧ times < 256) : law24_DrrOnly v who cost times = some true := by
  obtain ⟨q, h1, hq⟩ := quanta_eq v hv
  have hlen := hq.len; have hpos := hq.pos
  refine lim_eq (20 * (q.length + 2) + 1) fun k hk => ?_
  show law24_DrrOnly_f k v who cost times = _
  unfold law24_DrrOnly_f
  rw [h1, bind_some_eq, New_eq _ (by omega), if_pos hq.valid, bind_some_eq]
  dsimp only
  have e1 : (w64 who).tmod (q.length : Int) = ((who.toNat % q.length : Nat) : Int) := by
    rw [w64_in (by omega) (by omega), Int.tmod_eq_emod_of_nonneg hw.1, Int.natCast_emod, Int.toNat_of_nonneg hw.1]
  have e2 : (w64 times).tmod 20 = ((times.toNat % 20 : Nat) : Int) := by
    rw [w64_in (by omega) (by omega), Int.tmod_eq_emod_of_nonneg ht.1]; omega
  have hme : who.toNat % q.length < q.length := Nat.mod_lt _ hpos
  have hT : times.toNat % 20 < 20 := Nat.mod_lt _ (by decide)
  generalize hmeE : who.toNat % q.length = me at *
  generalize times.toNat % 20 = T at *
  rw [if_neg (fun q => q rfl), if_pos (by omega), if_pos (by omega), if_pos (by omega), if_pos (by omega), e1, if_pos (by omega), if_pos (by simp; omega), Int.toNat_natCast, Int.toNat_natCast]
  refine only_l0 q hq cost times hc _ me hme (fun j => ?_) T ⟨e2, hT⟩ (T + 1) 0 _ 0 0 (by omega) hq.st (by omega) k ?_
  · rw [mayF_set _ _ _ (by simpa using hme), fnB]
    by_cases h : j = me <;> simp [h]
  · have : (T + 1) * (q.length + 2) ≤ 20 * (q.length + 2) := Nat.mul_le_mul_right _ (by omega)
    omega
end Go.Sy.Dr
/-! Whose turn it is: the shares. -/
namespace Go.Sy.Dr
open Go.Sy Go.Sy.Drr
def sumTo (q : Nat → Int) : Nat → Int
  | 0 => 0
  | n + 1 => sumTo q n + q n
theorem sumTo_le {q : Nat → Int} {b : Int} : ∀ n : Nat, (∀ i, i < n → 0 ≤ q i ∧ q i ≤ b) → 0 ≤ sumTo q n ∧ sumTo q n ≤ n * b := by
  intro n
  induction n with
  | zero => intro _; simp [sumTo]
  | succ n ih =>
    intro h
    have h1 := ih fun i hi => h i (by omega)
    have h2 := h n (by omega)
    rw [show ((n + 1 : Nat) : Int) = (n : Int) + 1 from by omega, Int.add_mul]
    simp only [sumTo]
    omega
theorem sumTo_mono {q : Nat → Int} {N : Nat} (h : ∀ i, i < N → 0 ≤ q i) : ∀ m n : Nat, n + m ≤ N → sumTo q n ≤ sumTo q (n + m) := by
  intro m
  induction m with
  | zero => intro n _; exact Int.le_refl _
  | succ m ih =>
    intro n hn
    have := ih n (by omega)
    have h2 := h (n + m) (by omega)
    show _ ≤ sumTo q (n + m) + q (n + m)
    omega
abbrev Lz (N c : Nat) (x : Int) : List Int := (List.replicate N 0).set c x
theorem fn_rep (N i : Nat) : fn (List.replicate N 0) i = 0 := by
  unfold fn
  rw [List.getD_eq_getElem?_getD, List.getElem?_replicate]
  split <;> rfl
theorem fn_Lz {N c : Nat} {x : Int} (hc : c < N) (i : Nat) : fn (Lz N c x) i = if i = c then x else 0 := by
  unfold Lz
  rw [fn_set _ _ _ (by simpa using hc)]
  dsimp only
  rw [fn_rep]
theorem Lz_zero (N c : Nat) : Lz N c 0 = List.replicate N 0 := by
  unfold Lz
  refine List.ext_getElem (by simp) fun i h1 h2 => ?_
  simp [List.getElem_set]
theorem Lz_set (N c : Nat) (x y : Int) : (Lz N c x).set c y = Lz N c y := by unfold Lz; rw [List.set_set]
theorem st_Lz {q : List Int} (hq : OkQ q) {c : Nat} {x : Int} (hc : c < q.length) (hx : 0 ≤ x ∧ x ≤ fn q c) : St q (Lz q.length c x) c 0 := by
  have hlen := hq.len
  refine ⟨by simp, by omega, hc, fun i hi => by have := hq.rng i hi; omega, fun i hi => ?_, fun i hi => ?_, by omega⟩
  · rw [fn_Lz hc]; split <;> omega
  · rw [fn_Lz hc]
    split
    · rename_i e; subst e; exact hx.2
    · omega
section
variable (q : List Int) (hq : OkQ q) (all : List Bool) (hall : ∀ i, i < q.length → mayF all i = true) (sum n tot : Int) (htot : w64 (n * sum) = tot) (h1000 : tot ≤ 1000)
include hq htot h1000
/-- One call, the one that goes having x. -/
theorem sh_step {c c' : Nat} {L : List Int} {M x : Int} (hs : St q L c M) (hc' : c' < q.length) (hx : 1 ≤ x ∧ x ≤ fn q c') (K : Nat) (hn : naiveL q (mayF all) K L c = some (Lz q.length c' x, c')) (R : List Int) (hR : R.length = q.length) (hRc : 0 ≤ fn R c' ∧ fn R c' ≤ 100000) (i : Int) (hi : 0 ≤ i ∧ i < tot) (k : Nat) :
    law24_DrrShares_l1 (k + 1) q q L (c : Int) all sum n R i = law24_DrrShares_l1 k q q (Lz q.length c' (x - 1)) (c' : Int) all sum n (R.set c' (fn R c' + 1)) (i + 1) := by
  have hlen := hq.len
  obtain ⟨h1, h2⟩ := Next_L hs all K hn
  simp only [law24_DrrShares_l1]
  rw [htot, if_pos hi.2, h1, bind_some_eq]
  dsimp only
  obtain ⟨e1, e2⟩ := left_le h2 c' hc'
  rw [fn_Lz hc', if_pos rfl] at e1
  rw [if_neg (by omega), if_neg (by omega), Left_eq, bind_some_eq]
  dsimp only
  rw [e1, if_neg (by omega), Left_eq, bind_some_eq]
  dsimp only
  rw [e1, if_pos (by omega), if_pos (by omega), Int.toNat_natCast, if_neg (show ¬ q.getD c' 0 < x from by have := hx.2; unfold fn at this; omega), if_pos (by omega), if_pos (by omega), if_pos (by omega), if_pos (by omega), Charge_eq h2, bind_some_eq]
  dsimp only
  have ec : charge (Lz q.length c' x) (c' : Int) 1 = Lz q.length c' (x - 1) := by
    unfold charge
    rw [if_pos (by simp; omega), Int.toNat_natCast, show (Lz q.length c' x).getD c' 0 = fn (Lz q.length c' x) c' from rfl, fn_Lz hc', if_pos rfl, Lz_set]
  have e3 : R.getD c' 0 = fn R c' := rfl
  rw [ec, e3, w64_in (by omega) (by omega), w64_in (by omega) (by omega)]
include hall
/-- Until it has nothing. -/
theorem sh_run {c : Nat} (hc : c < q.length) : ∀ (x : Nat) (R : List Int) (i : Int), (x : Int) ≤ fn q c → R.length = q.length → 0 ≤ fn R c → fn R c + x ≤ 100000 → 0 ≤ i → i + x ≤ tot → ∀ k,
    law24_DrrShares_l1 (k + x) q q (Lz q.length c x) (c : Int) all sum n R i = law24_DrrShares_l1 k q q (List.replicate q.length 0) (c : Int) all sum n (R.set c (fn R c + x)) (i + x) := by
  intro x
  induction x with
  | zero =>
    intro R i _ hR h0 h1 _ _ k
    have e : R.set c (fn R c + ((0 : Nat) : Int)) = R := by
      refine fn_ext (by simp) ?_
      rw [fn_set _ _ _ (by omega)]
      funext j
      split
      · rename_i e; subst e; omega
      · rfl
    rw [e, show ((0 : Nat) : Int) = 0 from rfl, Lz_zero, Int.add_zero]; rfl
  | succ x ih =>
    intro R i hx hR h0 h1 hi0 hi1 k
    rw [show k + (x + 1) = (k + x) + 1 from by omega, sh_step q hq all sum n tot htot h1000 (c := c) (c' := c) (x := ((x + 1 : Nat) : Int)) (st_Lz hq hc ⟨by omega, hx⟩) hc ⟨by omega, hx⟩ 1 (by
      simp only [naiveL]
      rw [if_pos]
      refine ⟨hall c hc, ?_⟩
      have := fn_Lz (x := ((x + 1 : Nat) : Int)) hc c
      rw [if_pos rfl] at this
      unfold fn at this
      rw [this]; omega) R hR (by omega) i (by omega) (k + x)]
    rw [show (((x + 1 : Nat) : Int)) - 1 = (x : Int) from by omega]
    have e : fn (R.set c (fn R c + 1)) c = fn R c + 1 := by rw [fn_set _ _ _ (by omega)]; simp
    rw [ih (R.set c (fn R c + 1)) (i + 1) (by omega) (by simpa using hR) (by omega) (by omega) (by omega) (by omega) k, e, List.set_set]
    rw [show fn R c + 1 + (x : Int) = fn R c + ((x + 1 : Nat) : Int) from by omega, show i + 1 + (x : Int) = i + ((x + 1 : Nat) : Int) from by omega]
/-- One turn. -/
theorem sh_turn {c : Nat} (hc : c < q.length) (R : List Int) (i : Int) (hR : R.length = q.length) (hRb : ∀ j, 0 ≤ fn R j ∧ fn R j ≤ 50000) (hi : 0 ≤ i ∧ i + fn q (nxt q.length c) ≤ tot) :
    ∃ e, ∀ k, law24_DrrShares_l1 (k + e) q q (List.replicate q.length 0) (c : Int) all sum n R i = law24_DrrShares_l1 k q q (List.replicate q.length 0) ((nxt q.length c : Nat) : Int) all sum n (R.set (nxt q.length c) (fn R (nxt q.length c) + fn q (nxt q.length c))) (i + fn q (nxt q.length c)) := by
  have hn := nxt_lt hc
  have hqn := hq.rng _ hn
  have hRn := hRb (nxt q.length c)
  obtain ⟨x, hx⟩ : ∃ x : Nat, fn q (nxt q.length c) = x + 1 := ⟨(fn q (nxt q.length c) - 1).toNat, by omega⟩
  generalize hc' : nxt q.length c = c' at *
  refine ⟨x + 1, fun k => ?_⟩
  have hs : St q (List.replicate q.length 0) c 0 := by rw [← Lz_zero _ c]; exact st_Lz hq hc ⟨by omega, by have := hq.rng c hc; omega⟩
  rw [show k + (x + 1) = (k + x) + 1 from by omega, sh_step q hq all sum n tot htot h1000 (c := c) (c' := c') (x := fn q c') hs hn ⟨by omega, by omega⟩ 2 (by
    have e0 : (List.replicate q.length (0 : Int)).getD c 0 = 0 := fn_rep q.length c
    have e1 : (List.replicate q.length (0 : Int)).getD c' 0 = 0 := fn_rep q.length c'
    simp only [naiveL]
    rw [if_neg (by rw [e0]; omega)]
    have es : stepList q (List.replicate q.length 0) c (mayF all c) = Lz q.length c' (fn q c') := by
      unfold stepList leave
      rw [if_pos (hall c hc), hc', e1, Int.zero_add]
      rfl
    have e2 : (Lz q.length c' (fn q c')).getD c' 0 = fn q c' := by
      have := fn_Lz (x := fn q c') hn c'
      rw [if_pos rfl] at this
      exact this
    rw [es, hc', if_pos ⟨hall c' hn, by rw [e2]; omega⟩]) R hR (by omega) i (by omega) (k + x), hx]
  rw [show (x : Int) + 1 - 1 = (x : Int) from by omega]
  have e : fn (R.set c' (fn R c' + 1)) c' = fn R c' + 1 := by rw [fn_set _ _ _ (by omega)]; simp
  rw [sh_run q hq all hall sum n tot htot h1000 hn x (R.set c' (fn R c' + 1)) (i + 1) (by omega) (by simpa using hR) (by omega) (by omega) (by omega) (by omega) k, e, List.set_set]
  rw [show fn R c' + 1 + (x : Int) = fn R c' + ((x : Int) + 1) from by omega, show i + 1 + (x : Int) = i + ((x : Int) + 1) from by omega]
/-- A round's rest. -/
theorem sh_round (base : Int) (r : Nat) (hr : r ≤ 100) (hb : 0 ≤ base ∧ base + sumTo (fn q) q.length ≤ tot) : ∀ (d c : Nat) (R : List Int), c + d + 1 = q.length → R.length = q.length → (∀ j, j < q.length → fn R j = r * fn q j + if 1 ≤ j ∧ j ≤ c then fn q j else 0) →
    ∃ e R', R'.length = q.length ∧ (∀ j, j < q.length → fn R' j = ((r + 1 : Nat) : Int) * fn q j) ∧ ∀ k, law24_DrrShares_l1 (k + e) q q (List.replicate q.length 0) (c : Int) all sum n R (base + (sumTo (fn q) (c + 1) - fn q 0)) = law24_DrrShares_l1 k q q (List.replicate q.length 0) (0 : Int) all sum n R' (base + sumTo (fn q) q.length) := by
  have hlen := hq.len; have hpos := hq.pos
  have hq0 := hq.rng 0 hpos
  have hRb : ∀ (c : Nat) (R : List Int), R.length = q.length → (∀ j, j < q.length → fn R j = r * fn q j + if 1 ≤ j ∧ j ≤ c then fn q j else 0) → ∀ j, 0 ≤ fn R j ∧ fn R j ≤ 50000 := by
    intro c R hR h j
    by_cases hj : j < q.length
    · rw [h j hj]
      have h1 := hq.rng j hj
      have h2 : (0 : Int) ≤ r * fn q j := Int.mul_nonneg (by omega) (by omega)
      have h3 : (r : Int) * fn q j ≤ 100 * 6 := Int.mul_le_mul (by omega) (by omega) (by omega) (by omega)
      split <;> omega
    · unfold fn; rw [List.getD_eq_getElem?_getD, List.getElem?_eq_none (by omega)]; simp
  have hnn : ∀ i, i < q.length → 0 ≤ fn q i := fun i hi => by have := hq.rng i hi; omega
  intro d
  induction d with
  | zero =>
    intro c R hc hR hRf
    have hx : nxt q.length c = 0 := by unfold nxt; rw [if_neg (by omega)]
    have hcl : c + 1 = q.length := by omega
    obtain ⟨e, he⟩ := sh_turn q hq all hall sum n tot htot h1000 (c := c) (by omega) R (base + (sumTo (fn q) (c + 1) - fn q 0)) hR (hRb c R hR hRf) (by
      have := sumTo_mono hnn c 1 (by omega)
      rw [Nat.add_comm 1 c, hcl] at this
      simp only [sumTo] at this
      rw [hx, hcl]
      omega)
    rw [hx] at he
    refine ⟨e, R.set 0 (fn R 0 + fn q 0), by simpa using hR, fun j hj => ?_, fun k => ?_⟩
    · rw [fn_set _ _ _ (by omega), show ((r + 1 : Nat) : Int) = (r : Int) + 1 from by omega, Int.add_mul]
      dsimp only
      by_cases h0 : j = 0
      · subst h0; rw [if_pos rfl, hRf 0 hpos, if_neg (by omega)]; omega
      · rw [if_neg h0, hRf j hj, if_pos (by omega)]; omega
    · rw [he k, hcl, show base + (sumTo (fn q) q.length - fn q 0) + fn q 0 = base + sumTo (fn q) q.length from by omega]; rfl
  | succ d ih =>
    intro c R hc hR hRf
    have hx : nxt q.length c = c + 1 := by unfold nxt; rw [if_pos (by omega)]
    obtain ⟨e, he⟩ := sh_turn q hq all hall sum n tot htot h1000 (c := c) (by omega) R (base + (sumTo (fn q) (c + 1) - fn q 0)) hR (hRb c R hR hRf) (by
      have h1 := sumTo_mono hnn c 1 (by omega)
      rw [Nat.add_comm 1 c] at h1
      simp only [sumTo] at h1
      have h2 := sumTo_mono hnn d (c + 2) (by omega)
      rw [show c + 2 + d = q.length from by omega] at h2
      simp only [sumTo] at h2
      rw [hx]
      simp only [sumTo]
      omega)
    rw [hx] at he
    obtain ⟨e2, R', g1, g2, g3⟩ := ih (c + 1) (R.set (c + 1) (fn R (c + 1) + fn q (c + 1))) (by omega) (by simpa using hR) (fun j hj => by
      rw [fn_set _ _ _ (by omega)]
      dsimp only
      by_cases h0 : j = c + 1
      · subst h0; rw [if_pos rfl, hRf _ hj, if_neg (by omega), if_pos (by omega)]; omega
      · rw [if_neg h0, hRf j hj]
        by_cases h1 : 1 ≤ j ∧ j ≤ c
        · rw [if_pos h1, if_pos (by omega)]
        · rw [if_neg h1, if_neg (by omega)])
    refine ⟨e2 + e, R', g1, g2, fun k => ?_⟩
    rw [← Nat.add_assoc, he, ← g3 k]
    congr 1
    simp only [sumTo]
    omega
end
theorem sh_l2 (q : List Int) (hq : OkQ q) (n : Int) (hn : 0 ≤ n ∧ n ≤ 5) (R : List Int) (hR : R.length = q.length) (hRf : ∀ j, j < q.length → fn R j = n * fn q j) : ∀ m i k, i + m = q.length → m < k → law24_DrrShares_l2 k q n R ((i : Nat) : Int) = some true := by
  have hlen := hq.len
  intro m
  induction m with
  | zero =>
    intro i k hi hk
    obtain ⟨k, rfl⟩ : ∃ j, k = j + 1 := ⟨k - 1, by omega⟩
    simp only [law24_DrrShares_l2]
    rw [if_neg (by omega), known_eq]; rfl
  | succ m ih =>
    intro i k hi hk
    obtain ⟨k, rfl⟩ : ∃ j, k = j + 1 := ⟨k - 1, by omega⟩
    simp only [law24_DrrShares_l2]
    have h := hRf i (by omega)
    have hr := hq.rng i (by omega)
    have h2 : 0 ≤ n * fn q i := Int.mul_nonneg hn.1 (by omega)
    have h3 : n * fn q i ≤ 5 * 6 := Int.mul_le_mul hn.2 (by omega) (by omega) (by omega)
    rw [if_pos (by omega), if_pos (by omega), if_pos (by omega), if_pos (by omega), if_pos (by omega), Int.toNat_natCast, show R.getD i 0 = fn R i from rfl, show q.getD i 0 = fn q i from rfl, w64_in (by omega) (by omega), if_neg (fun q => q h), w64_in (by omega) (by omega)]
    exact ih (i + 1) k (by omega) (by omega)
theorem sh_rounds (q : List Int) (hq : OkQ q) (all : List Bool) (hall : ∀ i, i < q.length → mayF all i = true) (n : Nat) (hn : n ≤ 5) : ∀ p r R, r + p = n → R.length = q.length → (∀ j, j < q.length → fn R j = ((r : Nat) : Int) * fn q j) →
    ∃ e, ∀ k, e ≤ k → law24_DrrShares_l1 k q q (List.replicate q.length 0) 0 all (sumTo (fn q) q.length) n R (r * sumTo (fn q) q.length) = some true := by
  have hlen := hq.len; have hpos := hq.pos
  have hs := sumTo_le (q := fn q) (b := 6) q.length (fun i hi => by have := hq.rng i hi; omega)
  have hs54 : sumTo (fn q) q.length ≤ 54 := by omega
  have hns : (n : Int) * sumTo (fn q) q.length ≤ 5 * 54 := Int.mul_le_mul (by omega) hs54 hs.1 (by omega)
  have hns0 : 0 ≤ (n : Int) * sumTo (fn q) q.length := Int.mul_nonneg (by omega) hs.1
  intro p
  induction p with
  | zero =>
    intro r R hr hR hRf
    obtain rfl : r = n := by omega
    refine ⟨q.length + 2, fun k hk => ?_⟩
    obtain ⟨k, rfl⟩ : ∃ j, k = j + 1 := ⟨k - 1, by omega⟩
    simp only [law24_DrrShares_l1]
    rw [w64_in (by omega) (by omega), if_neg (by omega)]
    exact sh_l2 q hq r (by omega) R hR hRf q.length 0 k (by omega) (by omega)
  | succ p ih =>
    intro r R hr hR hRf
    have hrs : (((r + 1 : Nat) : Int)) * sumTo (fn q) q.length ≤ (n : Int) * sumTo (fn q) q.length := Int.mul_le_mul_of_nonneg_right (by omega) hs.1
    have hrs0 : 0 ≤ ((r : Nat) : Int) * sumTo (fn q) q.length := Int.mul_nonneg (by omega) hs.1
    have e1 : (((r + 1 : Nat) : Int)) * sumTo (fn q) q.length = (r : Int) * sumTo (fn q) q.length + sumTo (fn q) q.length := by rw [show ((r + 1 : Nat) : Int) = (r : Int) + 1 from by omega, Int.add_mul]; omega
    obtain ⟨e, R', g1, g2, g3⟩ := sh_round q hq all hall (sumTo (fn q) q.length) n ((n : Int) * sumTo (fn q) q.length) (w64_in (by omega) (by omega)) (by omega) (r * sumTo (fn q) q.length) r (by omega) (by omega) (q.length - 1) 0 R (by omega) hR (fun j hj => by rw [hRf j hj, if_neg (by omega)]; omega)
    obtain ⟨e2, he2⟩ := ih (r + 1) R' (by omega) g1 g2
    refine ⟨e2 + e, fun k hk => ?_⟩
    obtain ⟨k, rfl⟩ : ∃ j, k = j + e := ⟨k - e, by omega⟩
    have := g3 k
    have e0 : sumTo (fn q) (0 + 1) - fn q 0 = 0 := by simp only [sumTo]; omega
    rw [e0, Int.add_zero] at this
    have t : law24_DrrShares_l1 (k + e) q q (List.replicate q.length 0) 0 all (sumTo (fn q) q.length) n R (r * sumTo (fn q) q.length) = _ := this
    rw [t, ← e1]
    exact he2 k (by omega)
theorem sh_l0 (q : List Int) (hq : OkQ q) (rounds : Int) (hr : 0 ≤ rounds ∧ rounds < 256) : ∀ m i all, i + m = q.length → all.length = q.length → (∀ j, j < i → mayF all j = true) → ∃ e, ∀ k, e ≤ k → law24_DrrShares_l0 k rounds q q (List.replicate q.length 0) 0 all (sumTo (fn q) i) ((i : Nat) : Int) = some true := by
  have hlen := hq.len; have hpos := hq.pos
  intro m
  induction m with
  | zero =>
    intro i all hi hl ha
    obtain rfl : i = q.length := by omega
    have hx6 : 0 ≤ rounds.tmod 5 ∧ rounds.tmod 5 < 5 := by rw [Int.tmod_eq_emod_of_nonneg hr.1]; omega
    obtain ⟨e, he⟩ := sh_rounds q hq all ha (1 + rounds.tmod 5).toNat (by omega) _ 0 (List.replicate q.length 0) (Nat.zero_add _) (by simp) (fun j hj => by rw [fn_rep]; simp)
    refine ⟨e + 1, fun k hk => ?_⟩
    obtain ⟨k, rfl⟩ : ∃ j, k = j + 1 := ⟨k - 1, by omega⟩
    simp only [law24_DrrShares_l0]
    rw [if_neg (by omega), if_pos (by decide), if_pos (by omega), if_pos (by omega), if_pos (by omega), Int.toNat_natCast, w64_in (n := rounds) (by omega) (by omega), w64_in (by omega) (by omega)]
    have := he k (by omega)
    rw [Int.toNat_of_nonneg (by omega), show ((0 : Nat) : Int) * sumTo (fn q) q.length = 0 from by simp] at this
    exact this
  | succ m ih =>
    intro i all hi hl ha
    obtain ⟨e, he⟩ := ih (i + 1) (all.set i true) (by omega) (by simpa using hl) (fun j hj => by
      rw [mayF_set _ _ _ (by omega)]
      split
      · rfl
      · exact ha j (by omega))
    refine ⟨e + 1, fun k hk => ?_⟩
    obtain ⟨k, rfl⟩ : ∃ j, k = j + 1 := ⟨k - 1, by omega⟩
    simp only [law24_DrrShares_l0]
    have hs := sumTo_le (q := fn q) (b := 6) i (fun j hj => by have := hq.rng j (by omega); omega)
    have hqi := hq.rng i (by omega)
    rw [if_pos (by omega), if_pos (by omega), if_pos (by omega), if_pos (by omega), if_pos (by omega), Int.toNat_natCast, show q.getD i 0 = fn q i from rfl, w64_in (n := sumTo (fn q) i + fn q i) (by omega) (by omega), w64_in (by omega) (by omega)]
    exact he k (by omega)
theorem Shares_true (v : List Int) (rounds : Int) (hv : ∀ y ∈ v, 0 ≤ y ∧ y < 256) (hr : 0 ≤ rounds ∧ rounds < 256) : law24_DrrShares v rounds = some true := by
  obtain ⟨q, h1, hq⟩ := quanta_eq v hv
  have hlen := hq.len
  obtain ⟨e, he⟩ := sh_l0 q hq rounds hr q.length 0 (List.replicate q.length false) (by omega) (by simp) (fun j hj => by omega)
  refine lim_eq e fun k hk => ?_
  show law24_DrrShares_f k v rounds = _
  unfold law24_DrrShares_f
  rw [h1, bind_some_eq, New_eq _ (by omega), if_pos hq.valid, bind_some_eq]
  dsimp only
  rw [if_neg (fun q => q rfl), if_pos (by omega), if_pos (by omega), if_pos (by omega), Int.toNat_natCast]
  exact he k hk
end Go.Sy.Dr
/-! Whose turn it is: nobody waits for ever. -/
namespace Go.Sy.Dr
open Go.Sy Go.Sy.Drr
/-- What the next 'd' places have. -/
def ws (N : Nat) (q : Nat → Int) : Nat → Nat → Int
  | _, 0 => 0
  | c, d + 1 => q (nxt N c) + ws N q (nxt N c) d
theorem ws_nn {N : Nat} {q : Nat → Int} (h : ∀ i, i < N → 0 ≤ q i) : ∀ d c, c < N → 0 ≤ ws N q c d := by
  intro d
  induction d with
  | zero => intro c _; exact Int.le_refl _
  | succ d ih =>
    intro c hc
    have := ih _ (nxt_lt hc)
    have := h _ (nxt_lt hc)
    simp only [ws]; omega
theorem ws_eq {N : Nat} {q : Nat → Int} : ∀ d c, c < N → d ≤ N → ws N q c d = if c + d < N then sumTo q (c + d + 1) - sumTo q (c + 1) else sumTo q N - sumTo q (c + 1) + sumTo q (c + d + 1 - N) := by
  intro d
  induction d with
  | zero => intro c hc _; rw [if_pos (by omega)]; simp only [ws, Nat.add_zero]; omega
  | succ d ih =>
    intro c hc hd
    simp only [ws]
    rw [ih _ (nxt_lt hc) (by omega)]
    unfold nxt
    by_cases h1 : c + 1 < N
    · rw [if_pos h1, show c + 1 + d = c + (d + 1) from by omega]
      have e : sumTo q (c + 1 + 1) = sumTo q (c + 1) + q (c + 1) := rfl
      split <;> rw [e] <;> omega
    · have h2 : c + 1 = N := by omega
      have e : sumTo q (0 + 1) = q 0 := by simp [sumTo]
      have h3 : 0 + d < N := by omega
      rw [if_neg h1, if_pos h3, if_neg (show ¬ c + (d + 1) < N by omega), e, h2, show c + (d + 1) + 1 - N = 0 + d + 1 from by omega]
      omega
theorem ws_me {N : Nat} {q : Nat → Int} {me : Nat} (h : me < N) : ws N q me (N - 1) + q me = sumTo q N := by
  rw [ws_eq _ _ h (by omega)]
  have e : sumTo q (me + 1) = sumTo q me + q me := rfl
  by_cases h1 : me + (N - 1) < N
  · have : me = 0 := by omega
    subst this
    rw [if_pos h1, show 0 + (N - 1) + 1 = N from by omega, e]
    simp only [sumTo]; omega
  · rw [if_neg h1, show me + (N - 1) + 1 - N = me from by omega, e]; omega
section
variable (N : Nat) (q : Nat → Int) (me : Nat)
def Wm : Int := ws N q me (N - 1)
/-- How long 'me' can wait still. -/
def Pot (l : Nat → Int) (c : Nat) (B : Int) : Prop :=
  if c = me then (if 0 < l me then 0 ≤ B else ((-(l me)) / q me + 1) * Wm N q me ≤ B)
  else ∃ d, 1 ≤ d ∧ d < N ∧ pos N c d = me ∧ l me ≤ 0 ∧ max (l c) 0 + ws N q c (d - 1) + (-(l me)) / q me * Wm N q me ≤ B
end
theorem pos_nxt {N c d : Nat} (hc : c < N) (hd : d + 1 < N) : pos N (nxt N c) d = pos N c (d + 1) := by
  unfold pos nxt
  by_cases h : c + 1 < N
  · rw [if_pos h, show c + 1 + d = c + (d + 1) from by omega]
  · rw [if_neg h, if_pos (by omega), if_neg (by omega)]; omega
theorem pos_ne {N c d : Nat} (hc : c < N) (h1 : 1 ≤ d) (hd : d < N) : pos N c d ≠ c := by
  unfold pos
  split <;> omega
theorem pot_step {N : Nat} {q : Nat → Int} {me : Nat} (hq : ∀ i, i < N → 1 ≤ q i) (hme : me < N) (may : Nat → Bool) (hmay : may me = true) {l : Nat → Int} {c : Nat} {B : Int} (hc : c < N) (hi : ∀ i, i < N → i ≠ c → l i ≤ 0) (hd : ¬ (may c = true ∧ 0 < l c)) (hp : Pot N q me l c B) : Pot N q me (stepL N q may l c) (nxt N c) B := by
  have hqn : ∀ i, i < N → 0 ≤ q i := fun i h => by have := hq i h; omega
  have hn := nxt_lt hc
  have hW : 0 ≤ Wm N q me := ws_nn hqn _ _ hme
  have hqm := hq me hme
  by_cases h1 : c = me
  · subst h1
    have hl : l c ≤ 0 := Int.not_lt.1 fun h => hd ⟨hmay, h⟩
    have hdep : dep may c (l c) = l c := by unfold dep; rw [if_pos hmay]
    unfold Pot at hp
    rw [if_pos rfl, if_neg (by omega)] at hp
    have hu : 0 ≤ (-(l c)) / q c := Int.ediv_nonneg (by omega) (by omega)
    by_cases h2 : nxt N c = c
    · -- alone
      have hN : N = 1 := by unfold nxt at h2; split at h2 <;> omega
      have hW0 : Wm N q c = 0 := by unfold Wm; rw [hN]; rfl
      unfold Pot
      rw [if_pos h2, hW0, Int.mul_zero]
      rw [hW0, Int.mul_zero] at hp
      split <;> exact hp
    · have hN : 2 ≤ N := by
        rcases Nat.lt_or_ge N 2 with h | h
        · exfalso; apply h2; unfold nxt; rw [if_neg (by omega)]; omega
        · exact h
      unfold Pot
      rw [if_neg h2]
      refine ⟨N - 1, by omega, by omega, ?_, ?_, ?_⟩
      · by_cases h3 : c + 1 < N
        · have : nxt N c = c + 1 := by unfold nxt; rw [if_pos h3]
          rw [this]; unfold pos; rw [if_neg (by omega)]; omega
        · have : nxt N c = 0 := by unfold nxt; rw [if_neg h3]
          rw [this]; unfold pos; rw [if_pos (by omega)]; omega
      · unfold stepL
        rw [if_pos rfl, if_neg (Ne.symm h2), hdep]; omega
      · have e1 : stepL N q may l c c = l c := by unfold stepL; rw [if_pos rfl, if_neg (Ne.symm h2), hdep]; omega
        have e2 : stepL N q may l c (nxt N c) = l (nxt N c) + q (nxt N c) := by unfold stepL; rw [if_neg h2, if_pos rfl]
        have h3 := hi _ hn h2
        have h4 := hq _ hn
        rw [e1, e2]
        have e3 : Wm N q c = q (nxt N c) + ws N q (nxt N c) (N - 1 - 1) := by
          unfold Wm
          rw [show N - 1 = (N - 1 - 1) + 1 from by omega]; rfl
        rw [Int.add_mul, Int.one_mul] at hp
        omega
  · unfold Pot at hp
    rw [if_neg h1] at hp
    obtain ⟨d, hd1, hdN, hpos, hlm, hB⟩ := hp
    have hu : 0 ≤ (-(l me)) / q me := Int.ediv_nonneg (by omega) (by omega)
    have huW : 0 ≤ (-(l me)) / q me * Wm N q me := Int.mul_nonneg hu hW
    by_cases h2 : d = 1
    · subst h2
      have hnm : nxt N c = me := by
        rw [← hpos]; unfold pos nxt; split <;> omega
      have e1 : stepL N q may l c me = l me + q me := by unfold stepL; rw [if_neg (fun e => h1 e.symm), if_pos hnm.symm]
      unfold Pot
      rw [hnm, if_pos rfl, e1]
      simp only [Nat.sub_self, ws] at hB
      split
      · omega
      · have e2 : (-(l me + q me)) / q me + 1 = (-(l me)) / q me := by
          have : -(l me) = -(l me + q me) + 1 * q me := by omega
          rw [this, Int.add_mul_ediv_right _ _ (by omega)]
        rw [e2]; omega
    · have hpn := pos_nxt (N := N) (c := c) (d := d - 1) hc (by omega)
      rw [show d - 1 + 1 = d from by omega, hpos] at hpn
      have hne : nxt N c ≠ me := by
        rw [← hpn]; exact Ne.symm (pos_ne hn (by omega) (by omega))
      have e1 : stepL N q may l c me = l me := by unfold stepL; rw [if_neg (fun e => h1 e.symm), if_neg (Ne.symm hne)]; omega
      have hnc : nxt N c ≠ c := by
        intro e
        have : N = 1 := by unfold nxt at e; split at e <;> omega
        omega
      have e2 : stepL N q may l c (nxt N c) = l (nxt N c) + q (nxt N c) := by unfold stepL; rw [if_neg hnc, if_pos rfl]
      have h3 := hi _ hn hnc
      have h4 := hq _ hn
      unfold Pot
      rw [if_neg hne]
      refine ⟨d - 1, by omega, by omega, hpn, by rw [e1]; exact hlm, ?_⟩
      rw [e1, e2]
      have e3 : ws N q c (d - 1) = q (nxt N c) + ws N q (nxt N c) (d - 1 - 1) := by
        rw [show d - 1 = (d - 1 - 1) + 1 from by omega]; rfl
      omega
theorem pot_naive {Q : List Int} {me : Nat} (hme : me < Q.length) (may : Nat → Bool) (hmay : may me = true) {B M : Int} : ∀ k L c r c', St Q L c M → Pot Q.length (fn Q) me (fn L) c B → naive Q.length (fn Q) may k (fn L) c = some (r, c') → Pot Q.length (fn Q) me r c' B := by
  intro k
  induction k with
  | zero => intro L c r c' _ _ h; cases h
  | succ k ih =>
    intro L c r c' hs hp h
    simp only [naive] at h
    by_cases hd : may c = true ∧ 0 < fn L c
    · rw [if_pos hd] at h
      simp only [Option.some.injEq, Prod.mk.injEq] at h
      obtain ⟨rfl, rfl⟩ := h
      exact hp
    · rw [if_neg hd, ← fn_step hs] at h
      refine ih _ _ r c' (hs.step may hd) ?_ h
      rw [fn_step hs]
      exact pot_step (fun i hi => (hs.q i hi).1) hme may hmay hs.cur (fun i hi hn => by have := hs.hi i hi; rw [if_neg hn] at this; exact this) hd hp
theorem fair_l2 (costs may q L : List Int) (cur me most bound waits i : Int) (m' : Nat) (hm : me = (m' : Int)) (hme : m' < q.length) (hq : q.length ≤ 9) (hi : 0 ≤ i) : ∀ m n row, n + m = q.length → row.length = q.length → (m' < n → mayF row m' = true) →
    ∃ row', row'.length = q.length ∧ mayF row' m' = true ∧ ∀ k, law24_DrrFair_l2 (k + m) costs may q q L cur me most bound waits i row ((n : Nat) : Int) = law24_DrrFair_l2 k costs may q q L cur me most bound waits i row' ((q.length : Nat) : Int) := by
  intro m
  induction m with
  | zero =>
    intro n row hn hr hf
    obtain rfl : n = q.length := by omega
    exact ⟨row, hr, hf hme, fun _ => rfl⟩
  | succ m ih =>
    intro n row hn hr hf
    have e : w64 ((n : Int) + 1) = ((n + 1 : Nat) : Int) := by rw [w64_in (by omega) (by omega)]; omega
    have key : ∀ b : Bool, (n = m' → b = true) → ∃ row', row'.length = q.length ∧ mayF row' m' = true ∧ ∀ k, law24_DrrFair_l2 (k + m) costs may q q L cur me most bound waits i (row.set n b) ((n + 1 : Nat) : Int) = law24_DrrFair_l2 k costs may q q L cur me most bound waits i row' ((q.length : Nat) : Int) := by
      intro b hb
      refine ih (n + 1) (row.set n b) (by omega) (by simpa using hr) fun h => ?_
      rw [mayF_set _ _ _ (by omega)]
      split
      · exact hb (by omega)
      · exact hf (by omega)
    have hw : wu64 (n : Int) = (n : Int) := IntWalk.u64_in n ⟨by omega, by omega⟩
    have key2 : ∃ b : Bool, (n = m' → b = true) ∧ ∀ k, law24_DrrFair_l2 (k + 1) costs may q q L cur me most bound waits i row ((n : Nat) : Int) = law24_DrrFair_l2 k costs may q q L cur me most bound waits i (row.set n b) ((n + 1 : Nat) : Int) := by
      by_cases h1 : (n : Int) = me
      · refine ⟨true, fun _ => rfl, fun k => ?_⟩
        rw [law24_DrrFair_l2.eq_2]
        rw [if_pos (show (n : Int) < (row.length : Int) by omega), if_pos h1, if_pos (by omega), if_pos (by omega), Int.toNat_natCast, e]
      · by_cases h2 : i < (may.length : Int)
        · apply Exists.intro
          refine And.intro (fun h => absurd h (by omega)) (fun k => ?_)
          rw [law24_DrrFair_l2.eq_2]
          rw [if_pos (show (n : Int) < (row.length : Int) by omega), if_neg h1, if_pos h2, if_pos hi, if_pos h2, hw, if_pos (by omega), if_pos (by omega), if_pos (by omega), e, Int.toNat_natCast]
        · refine ⟨false, fun h => absurd h (by omega), fun k => ?_⟩
          rw [law24_DrrFair_l2.eq_2]
          rw [if_pos (show (n : Int) < (row.length : Int) by omega), if_neg h1, if_neg h2, if_pos (by omega), if_pos (by omega), e, Int.toNat_natCast]
    obtain ⟨b, hb1, hb2⟩ := key2
    obtain ⟨row', r1, r2, r3⟩ := key b hb1
    exact ⟨row', r1, r2, fun k => by rw [show k + (m + 1) = (k + m) + 1 from by omega, hb2, r3]⟩
theorem fair_l1 (costs may q : List Int) (hcosts : ∀ j, 0 ≤ costs.getD j 0 ∧ costs.getD j 0 < 256) (hcl : costs.length ≤ 400) (hq : OkQ q) (me : Nat) (hme : me < q.length) (bound V : Int) (hV : V = 6 / fn q me + 1) (hb : bound = V * sumTo (fn q) q.length) (hbl : bound ≤ 1000) : ∀ m n L c (waits : Int), n + m = costs.length → St q L c 6 → 0 ≤ waits → Pot q.length (fn q) me (fn L) c (V * Wm q.length (fn q) me - waits) →
    ∃ e, ∀ k, e ≤ k → law24_DrrFair_l1 k costs may q q L ((c : Nat) : Int) (me : Int) 7 bound waits ((n : Nat) : Int) = some true := by
  have hlen := hq.len; have hpos := hq.pos
  have hqm := hq.rng me hme
  have hW : 0 ≤ Wm q.length (fn q) me := ws_nn (fun i hi => by have := hq.rng i hi; omega) _ _ hme
  have hV1 : 1 ≤ V := by have : 0 ≤ 6 / fn q me := Int.ediv_nonneg (by omega) (by omega); omega
  have hVW : 0 ≤ V * Wm q.length (fn q) me := Int.mul_nonneg (by omega) hW
  have hlt : V * Wm q.length (fn q) me + 1 ≤ bound := by
    have e := ws_me (q := fn q) hme
    have e2 : sumTo (fn q) q.length = Wm q.length (fn q) me + fn q me := by unfold Wm; omega
    rw [hb, e2, Int.mul_add]
    have : 1 * 1 ≤ V * fn q me := Int.mul_le_mul hV1 hqm.1 (by omega) (by omega)
    omega
  intro m
  induction m with
  | zero =>
    intro n L c waits hn hs hw hp
    refine ⟨1, fun k hk => ?_⟩
    obtain ⟨k, rfl⟩ : ∃ j, k = j + 1 := ⟨k - 1, by omega⟩
    rw [law24_DrrFair_l1.eq_2]
    rw [if_neg (by omega), known_eq]; rfl
  | succ m ih =>
    intro n L c waits hn hs hw hp
    obtain ⟨row, hr1, hr2, hr3⟩ := fair_l2 costs may q L (c : Int) (me : Int) 7 bound waits (n : Int) me rfl hme hlen (by omega) q.length 0 (List.replicate q.length false) (by omega) (by simp) (by omega)
    obtain ⟨L', c', g1, _, g3, g4, g5, K, g6⟩ := Next_some hs row ⟨me, hme, hr2⟩
    have hp' := pot_naive hme (mayF row) hr2 K L c (fn L') c' hs hp g6
    have hc' := g3.cur
    have hL' := g3.len
    have hcost := hcosts n
    have hx6 : 0 ≤ (costs.getD n 0).tmod 7 ∧ (costs.getD n 0).tmod 7 < 7 := by rw [Int.tmod_eq_emod_of_nonneg hcost.1]; omega
    have hm7 : w64 (1 + (w64 (costs.getD n 0)).tmod 7) = 1 + (costs.getD n 0).tmod 7 := by rw [w64_in (n := costs.getD n 0) (by omega) (by omega), w64_in (by omega) (by omega)]
    obtain ⟨x, hxe⟩ : ∃ x, x = 1 + (costs.getD n 0).tmod 7 := ⟨_, rfl⟩
    rw [← hxe] at hm7
    have hx : 1 ≤ x ∧ x ≤ 7 := by omega
    have e : w64 ((n : Int) + 1) = ((n + 1 : Nat) : Int) := by rw [w64_in (by omega) (by omega)]; omega
    have hch : charge L' (c' : Int) x = L'.set c' (fn L' c' - x) := by
      unfold charge
      rw [if_pos (by omega), Int.toNat_natCast]; rfl
    have hst : St q (charge L' (c' : Int) x) c' 6 := by
      rw [hch]
      exact g3.set c' _ fun _ => ⟨by omega, by omega⟩
    have hfn : fn (charge L' (c' : Int) x) = fun j => if j = c' then fn L' c' - x else fn L' j := by rw [hch, fn_set _ _ _ (by omega)]
    have hgo : ∀ k, law24_DrrFair_l1 (k + 1 + q.length + 1) costs may q q L (c : Int) (me : Int) 7 bound waits (n : Int) =
        if (c' : Int) = (me : Int) then (if bound ≤ 0 then some false else law24_DrrFair_l1 k costs may q q (charge L' (c' : Int) x) (c' : Int) (me : Int) 7 bound 0 ((n + 1 : Nat) : Int))
        else (if bound ≤ w64 (waits + 1) then some false else law24_DrrFair_l1 k costs may q q (charge L' (c' : Int) x) (c' : Int) (me : Int) 7 bound (w64 (waits + 1)) ((n + 1 : Nat) : Int)) := by
      intro k
      rw [law24_DrrFair_l1.eq_2]
      rw [if_pos (by omega), if_pos (by omega), if_pos (by omega), if_pos (by omega), Int.toNat_natCast]
      have := hr3 (k + 1)
      rw [show ((0 : Nat) : Int) = 0 from rfl] at this
      rw [this, law24_DrrFair_l2.eq_2]
      have hg4 : row.getD c' false = true := g4
      rw [if_neg (by omega), g1, bind_some_eq]
      dsimp only
      rw [if_neg (by omega), if_neg (by omega), if_pos (by omega), if_pos (by omega), Int.toNat_natCast, hg4, Bool.not_true, cond_false]
      have hn1 : (0 : Int) ≤ n := by omega
      have hn2 : (n : Int) < (costs.length : Int) := by omega
      by_cases hcc : (c' : Int) = (me : Int)
      · rw [if_pos hcc, if_pos hcc]
        by_cases hb0 : bound ≤ 0
        · rw [if_pos hb0, if_pos hb0]
        · rw [if_neg hb0, if_neg hb0, if_pos hn1, if_pos hn2, if_pos (by decide), Int.toNat_natCast, hm7, Charge_eq g3, bind_some_eq]
          dsimp only
          rw [e]
      · rw [if_neg hcc, if_neg hcc]
        by_cases hb0 : bound ≤ w64 (waits + 1)
        · rw [if_pos hb0, if_pos hb0]
        · rw [if_neg hb0, if_neg hb0, if_pos hn1, if_pos hn2, if_pos (by decide), Int.toNat_natCast, hm7, Charge_eq g3, bind_some_eq]
          dsimp only
          rw [e]
    by_cases hcm : c' = me
    · subst hcm
      have hfm : fn (charge L' (c' : Int) x) c' = fn L' c' - x := by rw [hfn]; simp
      obtain ⟨e2, he2⟩ := ih (n + 1) _ c' 0 (by omega) hst (by omega) (by
        unfold Pot
        rw [if_pos rfl, hfm]
        split
        · omega
        · rename_i h
          have : (-(fn L' c' - x)) / fn q c' ≤ 6 / fn q c' := Int.ediv_le_ediv (by omega) (by omega)
          have := Int.mul_le_mul_of_nonneg_right (show (-(fn L' c' - x)) / fn q c' + 1 ≤ V by omega) hW
          omega)
      refine ⟨e2 + q.length + 3, fun k hk => ?_⟩
      obtain ⟨k, rfl⟩ : ∃ j, k = j + 1 + q.length + 1 := ⟨k - 2 - q.length, by omega⟩
      rw [hgo, if_pos rfl, if_neg (by omega)]
      exact he2 k (by omega)
    · unfold Pot at hp'
      rw [if_neg hcm] at hp'
      obtain ⟨d, p1, p2, p3, p4, p5⟩ := hp'
      have hu : 0 ≤ (-(fn L' me)) / fn q me := Int.ediv_nonneg (by omega) (by omega)
      have huW : 0 ≤ (-(fn L' me)) / fn q me * Wm q.length (fn q) me := Int.mul_nonneg hu hW
      have hws : 0 ≤ ws q.length (fn q) c' (d - 1) := ws_nn (fun i hi => by have := hq.rng i hi; omega) _ _ hc'
      have hfm : fn (charge L' (c' : Int) x) c' = fn L' c' - x := by rw [hfn]; simp
      have hfo : fn (charge L' (c' : Int) x) me = fn L' me := by rw [hfn]; simp [Ne.symm hcm]
      obtain ⟨e2, he2⟩ := ih (n + 1) _ c' (waits + 1) (by omega) hst (by omega) (by
        unfold Pot
        rw [if_neg hcm, hfm, hfo]
        exact ⟨d, p1, p2, p3, p4, by omega⟩)
      refine ⟨e2 + q.length + 3, fun k hk => ?_⟩
      obtain ⟨k, rfl⟩ : ∃ j, k = j + 1 + q.length + 1 := ⟨k - 2 - q.length, by omega⟩
      rw [hgo, if_neg (by omega), w64_in (by omega) (by omega), if_neg (by omega)]
      exact he2 k (by omega)
theorem St_zero6 {q : List Int} (hq : OkQ q) : St q (List.replicate q.length 0) 0 6 := hq.st.mono (by omega) (by omega)
theorem fair_l0 (costs may q : List Int) (hcosts : ∀ j, 0 ≤ costs.getD j 0 ∧ costs.getD j 0 < 256) (hcl : costs.length ≤ 400) (hq : OkQ q) (me : Nat) (hme : me < q.length) : ∀ m i, i + m = q.length → ∃ e, ∀ k, e ≤ k → law24_DrrFair_l0 k costs may q q (List.replicate q.length 0) 0 (me : Int) (sumTo (fn q) i) 7 ((i : Nat) : Int) = some true := by
  have hlen := hq.len; have hpos := hq.pos
  have hqm := hq.rng me hme
  intro m
  induction m with
  | zero =>
    intro i hi
    obtain rfl : i = q.length := by omega
    have hs := sumTo_le (q := fn q) (b := 6) q.length (fun i hi => by have := hq.rng i hi; omega)
    have hV : (6 + fn q me) / fn q me = 6 / fn q me + 1 := by
      have := Int.add_mul_ediv_right 6 1 (show fn q me ≠ 0 by omega)
      rw [Int.one_mul] at this; exact this
    have h60 : 0 ≤ 6 / fn q me := Int.ediv_nonneg (by omega) (by omega)
    have h66 : 6 / fn q me ≤ 6 := Int.ediv_le_self _ (by omega)
    have hVs : (6 / fn q me + 1) * sumTo (fn q) q.length ≤ 7 * 54 := Int.mul_le_mul (by omega) (by omega) hs.1 (by omega)
    have hVs0 : 0 ≤ (6 / fn q me + 1) * sumTo (fn q) q.length := Int.mul_nonneg (by omega) hs.1
    have hW : 0 ≤ Wm q.length (fn q) me := ws_nn (fun i hi => by have := hq.rng i hi; omega) _ _ hme
    obtain ⟨e, he⟩ := fair_l1 costs may q hcosts hcl hq me hme ((6 / fn q me + 1) * sumTo (fn q) q.length) (6 / fn q me + 1) rfl rfl (by omega) costs.length 0 _ 0 0 (by omega) (St_zero6 hq) (by omega) (by
      have hVW : 1 * Wm q.length (fn q) me ≤ (6 / fn q me + 1) * Wm q.length (fn q) me := Int.mul_le_mul_of_nonneg_right (by omega) hW
      unfold Pot
      rw [fn_rep]
      split
      · rw [if_neg (by omega), show -(0 : Int) = 0 from rfl, Int.zero_ediv, Int.zero_add]; omega
      · rename_i h
        refine ⟨me, by omega, hme, by unfold pos; rw [if_pos (by omega)]; omega, by omega, ?_⟩
        rw [fn_rep, show -(0 : Int) = 0 from rfl, Int.zero_ediv, Int.zero_mul]
        have e1 : ws q.length (fn q) 0 (me - 1) ≤ Wm q.length (fn q) me := by
          have e2 := ws_me (q := fn q) hme
          unfold Wm
          rw [ws_eq _ _ hpos (by omega), if_pos (by omega), show 0 + (me - 1) + 1 = me from by omega]
          have e3 := sumTo_mono (q := fn q) (N := q.length) (fun i hi => by have := hq.rng i hi; omega) (q.length - (me + 1)) (me + 1) (by omega)
          rw [show me + 1 + (q.length - (me + 1)) = q.length from by omega] at e3
          simp only [sumTo] at e3
          have e4 := hq.rng 0 hpos
          simp only [sumTo]
          omega
        omega)
    refine ⟨e + 1, fun k hk => ?_⟩
    obtain ⟨k, rfl⟩ : ∃ j, k = j + 1 := ⟨k - 1, by omega⟩
    simp only [law24_DrrFair_l0]
    rw [if_neg (by omega), if_pos (by omega), if_pos (by omega), if_pos (by omega), if_pos (by omega), Int.toNat_natCast, show q.getD me 0 = fn q me from rfl, if_pos (by omega), w64_in (n := 7 + fn q me) (by omega) (by omega), show (7 : Int) + fn q me - 1 = 6 + fn q me from by omega, w64_in (n := 6 + fn q me) (by omega) (by omega), Int.tdiv_eq_ediv_of_nonneg (by omega), hV, w64_in (n := 6 / fn q me + 1) (by omega) (by omega), w64_in (by omega) (by omega)]
    exact he k (by omega)
  | succ m ih =>
    intro i hi
    obtain ⟨e, he⟩ := ih (i + 1) (by omega)
    refine ⟨e + 1, fun k hk => ?_⟩
    obtain ⟨k, rfl⟩ : ∃ j, k = j + 1 := ⟨k - 1, by omega⟩
    simp only [law24_DrrFair_l0]
    have hs := sumTo_le (q := fn q) (b := 6) i (fun j hj => by have := hq.rng j (by omega); omega)
    have hqi := hq.rng i (by omega)
    rw [if_pos (by omega), if_pos (by omega), if_pos (by omega), Int.toNat_natCast, show q.getD i 0 = fn q i from rfl, w64_in (n := sumTo (fn q) i + fn q i) (by omega) (by omega), w64_in (by omega) (by omega)]
    exact he k (by omega)
theorem Fair_true (v : List Int) (who : Int) (costs may : List Int) (hv : ∀ y ∈ v, 0 ≤ y ∧ y < 256) (hw : 0 ≤ who ∧ who < 256) (hcosts : ∀ j, 0 ≤ costs.getD j 0 ∧ costs.getD j 0 < 256) : law24_DrrFair v who costs may = some true := by
  obtain ⟨q, h1, hq⟩ := quanta_eq v hv
  have hlen := hq.len; have hpos := hq.pos
  have hme : who.toNat % q.length < q.length := Nat.mod_lt _ hpos
  have e1 : (w64 who).tmod (q.length : Int) = ((who.toNat % q.length : Nat) : Int) := by
    rw [w64_in (by omega) (by omega), Int.tmod_eq_emod_of_nonneg hw.1, Int.natCast_emod, Int.toNat_of_nonneg hw.1]
  have hx : ∃ e, ∀ k, e ≤ k → costs.length ≤ 400 → law24_DrrFair_l0 k costs may q q (List.replicate q.length 0) 0 ((who.toNat % q.length : Nat) : Int) 0 7 0 = some true := by
    by_cases hcl : costs.length ≤ 400
    · obtain ⟨e, he⟩ := fair_l0 costs may q hcosts hcl hq _ hme q.length 0 (by omega)
      exact ⟨e, fun k hk _ => he k hk⟩
    · exact ⟨0, fun k _ h => absurd h hcl⟩
  obtain ⟨e, he⟩ := hx
  refine lim_eq (e + 1) fun k hk => ?_
  show law24_DrrFair_f k v who costs may = _
  unfold law24_DrrFair_f
  rw [h1, bind_some_eq, New_eq _ (by omega), if_pos hq.valid, bind_some_eq]
  dsimp only
  rw [if_neg (fun q => q rfl), if_pos rfl, known_eq]
  split
  · rfl
  · rename_i h
    obtain ⟨k, rfl⟩ : ∃ j, k = j + 1 := ⟨k - 1, by omega⟩
    simp only [law24_DrrFair_c0]
    rw [if_pos (by omega), e1]
    exact he k (by omega) (by omega)
end Go.Sy.Dr
