import Derived.Lib.ItoaMem
import Derived.Lib.ParseIntB
import Derived.Test.YtabknfplmamfmaaGreatDoorLActReadsb
set_option linter.unusedVariables false
set_option linter.unusedSimpArgs false
namespace Go.Sy.Ex
open Go.Sy
theorem u8_back (b : UInt8) : ((b.toNat : Nat) : Int).toNat.toUInt8 = b := by
 rw [Int.toNat_natCast]; exact UInt8.ofNat_toNat
theorem blank_iff (b : UInt8) : (0 ≤ Lib.indexByte s_sp_tab_nl_cr b) ↔ ((b.toNat : Int) = 32 ∨ (b.toNat : Int) = 9 ∨ (b.toNat : Int) = 10 ∨ (b.toNat : Int) = 13) := by
 have h : ∀ n, n < 256 → ((0 ≤ Lib.indexByte s_sp_tab_nl_cr (Nat.toUInt8 n)) ↔ (((Nat.toUInt8 n).toNat : Int) = 32 ∨ ((Nat.toUInt8 n).toNat : Int) = 9 ∨ ((Nat.toUInt8 n).toNat : Int) = 10 ∨ ((Nat.toUInt8 n).toNat : Int) = 13)) := by decide +kernel
 have := h b.toNat b.toNat_lt
 rwa [show Nat.toUInt8 b.toNat = b from UInt8.ofNat_toNat] at this
def isDigit (c : Int) : Bool := decide (48 ≤ c ∧ c ≤ 57)
def isLetter (c : Int) : Bool := decide ((97 ≤ c ∧ c ≤ 122) ∨ (65 ≤ c ∧ c ≤ 90) ∨ c = 95)
theorem kind_eq (c : Int) : lex_kind c = some (isLetter c || isDigit c, isDigit c) := by
 have fin : ∀ a b : Bool, ((a = true) ↔ ((97 ≤ c ∧ c ≤ 122) ∨ (65 ≤ c ∧ c ≤ 90) ∨ c = 95) ∨ (48 ≤ c ∧ c ≤ 57)) → ((b = true) ↔ (48 ≤ c ∧ c ≤ 57)) → some (a, b) = some (isLetter c || isDigit c, isDigit c) := by
  intro a b ha hb
  have e1 : a = (isLetter c || isDigit c) := by
   rw [Bool.eq_iff_iff, ha]; simp [isLetter, isDigit]
  have e2 : b = isDigit c := by
   rw [Bool.eq_iff_iff, hb]; simp [isDigit]
  rw [e1, e2]
 unfold lex_kind
 repeat' split
 all_goals
  refine fin _ _ ?_ ?_
  · constructor
    · intro h; first | omega | (cases h)
    · intro h; first | rfl | (exfalso; omega)
  · constructor
    · intro h; first | omega | (cases h)
    · intro h; first | rfl | (exfalso; omega)
def skipP : Bool → List UInt8 → Nat → Nat
 | _, [], n => n
 | true, b :: t, n => if b = 10 then skipP false t (n + 1) else skipP true t (n + 1)
 | false, b :: t, n => if b = 32 ∨ b = 9 ∨ b = 10 ∨ b = 13 then skipP false t (n + 1) else if b = 35 then skipP true t (n + 1) else n
theorem skipP_ge : ∀ (t : List UInt8) (r : Bool) (n : Nat), n ≤ skipP r t n ∧ skipP r t n ≤ n + t.length := by
 intro t
 induction t with
 | nil => intro r n; cases r <;> exact ⟨Nat.le_refl _, Nat.le_refl _⟩
 | cons b t ih =>
  intro r n
  have h1 := ih true (n + 1)
  have h2 := ih false (n + 1)
  cases r
  · simp only [skipP, List.length_cons]
    split
    · omega
    · split
      · omega
      · omega
  · simp only [skipP, List.length_cons]
    split <;> omega
theorem u8_int (b : UInt8) (n : Nat) (hn : n < 256) : ((b.toNat : Int) = (n : Int)) ↔ b = Nat.toUInt8 n := by
 constructor
 · intro h
   refine UInt8.toNat_inj.1 ?_
   have : (Nat.toUInt8 n).toNat = n := by
    show n % 256 = n
    omega
   omega
 · rintro rfl
   have : (Nat.toUInt8 n).toNat = n := by
    show n % 256 = n
    omega
   omega
theorem skip_run (t : List UInt8) (hl : t.length < 1000000000000) : ∀ m n, n + m = t.length → (∀ k, 3 * m + 1 ≤ k → lex_skip_l0 k t ((n : Nat) : Int) = some ((skipP false (t.drop n) n : Nat) : Int)) ∧ ∀ k, 3 * m + 2 ≤ k → lex_skip_l1 k t ((n : Nat) : Int) = some ((skipP true (t.drop n) n : Nat) : Int) := by
 intro m
 induction m with
 | zero =>
  intro n h
  have hd : t.drop n = [] := List.drop_eq_nil_of_le (by omega)
  have h0 : ∀ k, 1 ≤ k → lex_skip_l0 k t ((n : Nat) : Int) = some ((skipP false (t.drop n) n : Nat) : Int) := by
   intro k hk
   obtain ⟨k, rfl⟩ : ∃ j, k = j + 1 := ⟨k - 1, by omega⟩
   simp only [lex_skip_l0]
   rw [if_neg (by omega), hd]; rfl
  refine ⟨fun k hk => h0 k (by omega), fun k hk => ?_⟩
  obtain ⟨k, rfl⟩ : ∃ j, k = j + 1 := ⟨k - 1, by omega⟩
  simp only [lex_skip_l1]
  rw [if_neg (by omega), h0 k (by omega), hd]; rfl
 | succ m ih =>
  intro n h
  have hlt : n < t.length := by omega
  obtain ⟨i0, i1⟩ := ih (n + 1) (by omega)
  have e : w64 ((n : Int) + 1) = ((n + 1 : Nat) : Int) := by rw [w64_in (by omega) (by omega)]; omega
  have hd : t.drop n = t[n] :: t.drop (n + 1) := List.drop_eq_getElem_cons hlt
  have c10 : ((t[n].toNat : Nat) : Int) = 10 ↔ t[n] = 10 := u8_int t[n] 10 (by decide)
  have c32 : ((t[n].toNat : Nat) : Int) = 32 ↔ t[n] = 32 := u8_int t[n] 32 (by decide)
  have c9 : ((t[n].toNat : Nat) : Int) = 9 ↔ t[n] = 9 := u8_int t[n] 9 (by decide)
  have c13 : ((t[n].toNat : Nat) : Int) = 13 ↔ t[n] = 13 := u8_int t[n] 13 (by decide)
  have c35 : ((t[n].toNat : Nat) : Int) = 35 ↔ t[n] = 35 := u8_int t[n] 35 (by decide)
  have h0 : ∀ k, 3 * (m + 1) + 1 ≤ k → lex_skip_l0 k t ((n : Nat) : Int) = some ((skipP false (t.drop n) n : Nat) : Int) := by
   intro k hk
   obtain ⟨k, rfl⟩ : ∃ j, k = j + 1 := ⟨k - 1, by omega⟩
   have g1 : (n : Int) < (t.length : Int) := by omega
   have g0 : 0 ≤ (n : Int) := by omega
   have l1 : t[n] = 35 → lex_skip_l1 k t ((n : Nat) : Int) = some ((skipP true (t.drop (n + 1)) (n + 1) : Nat) : Int) := by
    intro hb
    obtain ⟨k, rfl⟩ : ∃ j, k = j + 1 := ⟨k - 1, by omega⟩
    simp only [lex_skip_l1]
    rw [if_pos g1, if_pos g0, if_pos g1, Int.toNat_natCast, getD_lt _ hlt, if_pos (by rw [hb]; decide), e]
    exact i1 k (by omega)
   simp only [lex_skip_l0, p_IndexByte, bind_some_eq, u8_back]
   simp only [g0, g1, if_true, Int.toNat_natCast, getD_lt _ hlt, e]
   rw [hd, i0 k (by omega)]
   simp only [skipP]
   have hb := blank_iff t[n]
   rw [c32, c9, c10, c13] at hb
   by_cases hx : 0 ≤ Lib.indexByte s_sp_tab_nl_cr t[n]
   · rw [if_pos hx, if_pos (hb.1 hx)]
   · rw [if_neg hx, if_neg (fun q => hx (hb.2 q))]
     by_cases b35 : t[n] = 35
     · rw [if_pos (c35.2 b35), if_pos b35, l1 b35]
     · rw [if_neg (fun q => b35 (c35.1 q)), if_neg b35]
  refine ⟨h0, fun k hk => ?_⟩
  obtain ⟨k, rfl⟩ : ∃ j, k = j + 1 := ⟨k - 1, by omega⟩
  simp only [lex_skip_l1]
  rw [if_pos (by omega), if_pos (by omega), if_pos (by omega), Int.toNat_natCast, getD_lt _ hlt, e]
  by_cases b10 : t[n] = 10
  · rw [if_neg (fun q => q (c10.2 b10)), h0 k (by omega), hd]
    simp only [skipP]
    rw [if_pos (.inr (.inr (.inl b10))), if_pos b10]
  · rw [if_pos (fun q => b10 (c10.1 q)), i1 k (by omega), hd]
    simp only [skipP]
    rw [if_neg b10]
def dg (b : UInt8) : Bool := isDigit (b.toNat : Int)
def lt (b : UInt8) : Bool := isLetter (b.toNat : Int)
def nm (b : UInt8) : Bool := lt b || dg b
def runP (p : UInt8 → Bool) (t : List UInt8) (n : Nat) : Nat := n + ((t.drop n).takeWhile p).length
theorem runP_stop {p : UInt8 → Bool} {t : List UInt8} {n : Nat} (h : t.length ≤ n) : runP p t n = n := by
 unfold runP; rw [List.drop_eq_nil_of_le h]; rfl
theorem runP_yes {p : UInt8 → Bool} {t : List UInt8} {n : Nat} (h : n < t.length) (hp : p t[n] = true) : runP p t n = runP p t (n + 1) := by
 unfold runP; rw [List.drop_eq_getElem_cons h, List.takeWhile_cons_of_pos hp]; simp only [List.length_cons]; omega
theorem runP_no {p : UInt8 → Bool} {t : List UInt8} {n : Nat} (h : n < t.length) (hp : p t[n] = false) : runP p t n = n := by
 unfold runP; rw [List.drop_eq_getElem_cons h, List.takeWhile_cons_of_neg (by simp [hp])]; rfl
theorem takeWhile_le (p : UInt8 → Bool) : ∀ l : List UInt8, (l.takeWhile p).length ≤ l.length := fun l => by
 induction l with
 | nil => exact Nat.le_refl _
 | cons a l ih => rw [List.takeWhile_cons]; split <;> simp <;> omega
theorem runP_ge (p : UInt8 → Bool) (t : List UInt8) (n : Nat) (h : n ≤ t.length) : n ≤ runP p t n ∧ runP p t n ≤ t.length := by
 unfold runP
 have := takeWhile_le p (t.drop n)
 rw [List.length_drop] at this
 omega
theorem cut_run (p : UInt8 → Bool) (t : List UInt8) (n : Nat) : cut t ((n : Nat) : Int) ((runP p t n : Nat) : Int) = (t.drop n).takeWhile p := by
 unfold cut runP
 rw [Int.toNat_natCast, Int.toNat_natCast, List.drop_take, Nat.add_sub_cancel_left]
 generalize t.drop n = l
 induction l with
 | nil => rfl
 | cons a l ih => rw [List.takeWhile_cons]; split
                  · rw [List.length_cons, List.take_succ_cons, ih]
                  · rfl
theorem end_run (t : List UInt8) (f : Bool) (hl : t.length < 1000000000000) : ∀ m n, n + m = t.length → ∀ k, m + 1 ≤ k → lex_end_l0 k t ((n : Nat) : Int) f = some ((runP (fun b => bif f then dg b else nm b) t n : Nat) : Int) := by
 intro m
 induction m with
 | zero =>
  intro n h k hk
  obtain ⟨k, rfl⟩ : ∃ j, k = j + 1 := ⟨k - 1, by omega⟩
  simp only [lex_end_l0]
  rw [if_neg (by omega), runP_stop (by omega)]
 | succ m ih =>
  intro n h k hk
  obtain ⟨k, rfl⟩ : ∃ j, k = j + 1 := ⟨k - 1, by omega⟩
  have hlt : n < t.length := by omega
  have e : w64 ((n : Int) + 1) = ((n + 1 : Nat) : Int) := by rw [w64_in (by omega) (by omega)]; omega
  simp only [lex_end_l0, kind_eq, bind_some_eq]
  rw [if_pos (by omega), if_pos (by omega), if_pos (by omega), Int.toNat_natCast, getD_lt _ hlt, e, ih (n + 1) (by omega) k (by omega)]
  have key : ∀ a b : Bool, lt t[n] = a → dg t[n] = b → (bif !(a || b) then some ((n : Nat) : Int) else bif f then bif !b then some ((n : Nat) : Int) else some ((runP (fun b => bif f then dg b else nm b) t (n + 1) : Nat) : Int) else some ((runP (fun b => bif f then dg b else nm b) t (n + 1) : Nat) : Int)) = some ((runP (fun b => bif f then dg b else nm b) t n : Nat) : Int) := by
   intro a b ha hb
   cases f <;> cases a <;> cases b <;> simp only [Bool.or_self, Bool.not_true, Bool.not_false, Bool.or_true, Bool.true_or, Bool.or_false, Bool.false_or, cond_true, cond_false]
   all_goals
    first
     | (rw [runP_no hlt ?_]; simp [nm, ha, hb]; done)
     | (rw [runP_yes hlt ?_]; simp [nm, ha, hb]; done)
  exact key _ _ rfl rfl
theorem end_eq (t : List UInt8) (n : Nat) (hl : t.length < 1000000000000) (h : n < t.length) : lex_end t ((n : Nat) : Int) = some ((runP (fun b => bif dg t[n] then dg b else nm b) t n : Nat) : Int) := by
 refine lim_eq (t.length - n + 1) fun k hk => ?_
 simp only [lex_end_f, kind_eq, bind_some_eq]
 rw [if_pos (by omega), if_pos (by omega), Int.toNat_natCast, getD_lt _ h]
 exact end_run t _ hl (t.length - n) n (by omega) k (by omega)
def valP (acc : Nat) : List UInt8 → Option Nat
 | [] => some acc
 | c :: r => if (9223372036854775807 - (c.toNat - 48)) / 10 < acc then none else valP (10 * acc + (c.toNat - 48)) r
theorem dg_iff (b : UInt8) : dg b = true ↔ 48 ≤ b.toNat ∧ b.toNat ≤ 57 := by
 unfold dg isDigit
 rw [decide_eq_true_eq]
 omega
theorem big_run : ∀ (l : List UInt8) (acc : Nat), (∀ c ∈ l, dg c = true) → 9223372036854775808 ≤ acc → Lib.parseUintM (2 ^ 64 - 1) acc l = .range ∨ ∃ u, 9223372036854775808 ≤ u ∧ Lib.parseUintM (2 ^ 64 - 1) acc l = .ok u := by
 intro l acc hd ha
 cases l with
 | nil => exact .inr ⟨acc, ha, rfl⟩
 | cons c r =>
  refine .inl ?_
  have := (dg_iff c).1 (hd c (by simp))
  unfold Lib.parseUintM
  rw [if_pos this, if_pos (by omega)]
theorem val_run : ∀ (l : List UInt8) (acc : Nat), (∀ c ∈ l, dg c = true) → acc < 9223372036854775808 →
 (∀ v, valP acc l = some v → v < 9223372036854775808 ∧ Lib.parseUintM (2 ^ 64 - 1) acc l = .ok v) ∧ (valP acc l = none → Lib.parseUintM (2 ^ 64 - 1) acc l = .range ∨ ∃ u, 9223372036854775808 ≤ u ∧ Lib.parseUintM (2 ^ 64 - 1) acc l = .ok u) := by
 intro l
 induction l with
 | nil => intro acc _ ha; exact ⟨fun v h => by cases h; exact ⟨ha, rfl⟩, fun h => by cases h⟩
 | cons c r ih =>
  intro acc hd ha
  have hc := (dg_iff c).1 (hd c (by simp))
  have hr : ∀ c ∈ r, dg c = true := fun x hx => hd x (by simp [hx])
  unfold valP Lib.parseUintM
  rw [if_pos hc]
  by_cases h : (9223372036854775807 - (c.toNat - 48)) / 10 < acc
  · rw [if_pos h]
    refine ⟨fun v h => by (cases h), fun _ => ?_⟩
    by_cases h1 : 1844674407370955162 ≤ acc
    · rw [if_pos h1]; exact .inl rfl
    · rw [if_neg h1]
      by_cases h2 : 2 ^ 64 - 1 < acc * 10 + (c.toNat - 48)
      · rw [if_pos h2]; exact .inl rfl
      · rw [if_neg h2]
        exact big_run r _ hr (by omega)
  · rw [if_neg h, if_neg (by omega), if_neg (by omega), show acc * 10 + (c.toNat - 48) = 10 * acc + (c.toNat - 48) by omega]
    exact ih _ hr (by omega)
def numP (l : List UInt8) : Int × Int := if 1 < l.length ∧ l.getD 0 0 = 48 then (0, 11) else match valP 0 l with | some v => ((v : Int), 0) | none => (0, 16)
def numOf (l : List UInt8) : Int × Int :=
 if (1 < l.length ∧ l.getD 0 0 = 48) then (0, 11) else match Lib.parseIntB 64 l with
  | .ok v => (v, 0)
  | _ => (0, 16)
theorem number_eq (l : List UInt8) (hl : l.length ≤ 281474976710656) : lex_number l = some (numOf l) := by
 have key : ((p_ParseInt l 10 64).bind fun r1 => bif !r1.2 then some ((0 : Int), (16 : Int)) else some (r1.1, 0)) = some (match Lib.parseIntB 64 l with
  | .ok v => (v, 0)
  | _ => (0, 16)) := by
  unfold p_ParseInt
  rw [if_pos ⟨hl, rfl, rfl⟩, bind_some_eq]
  cases Lib.parseIntB 64 l <;> rfl
 have h0 : (((l.getD (0 : Int).toNat 0).toNat : Nat) : Int) = 48 ↔ l.getD 0 0 = 48 := u8_int _ 48 (by decide)
 unfold lex_number numOf
 by_cases h1 : 1 < l.length
 · rw [if_pos (by omega), if_pos (by omega), if_pos (by omega)]
   by_cases h2 : l.getD 0 0 = 48
   · rw [if_pos (h0.2 h2), if_pos ⟨h1, h2⟩]
   · rw [if_neg (fun q => h2 (h0.1 q)), if_neg (fun q => h2 q.2), key]
 · rw [if_neg (by omega), if_neg (fun q => h1 q.1), key]
theorem num_eq (l : List UInt8) (h0 : l ≠ []) (hd : ∀ c ∈ l, dg c = true) : numOf l = numP l := by
 unfold numOf numP
 by_cases h : 1 < l.length ∧ l.getD 0 0 = 48
 · rw [if_pos h, if_pos h]
 · rw [if_neg h, if_neg h]
   obtain ⟨c, r, rfl⟩ : ∃ c r, l = c :: r := by cases l with
    | nil => exact absurd rfl h0
    | cons c r => exact ⟨c, r, rfl⟩
   have hc := (dg_iff c).1 (hd c (by simp))
   obtain ⟨v1, v2⟩ := val_run (c :: r) 0 hd (by omega)
   have e : (∀ u, Lib.parseUintM (2 ^ 64 - 1) 0 (c :: r) = .ok u → Lib.parseIntB 64 (c :: r) = if 9223372036854775808 ≤ u then .range else .ok (u : Int)) ∧ (Lib.parseUintM (2 ^ 64 - 1) 0 (c :: r) = .range → Lib.parseIntB 64 (c :: r) = .range) := by
    unfold Lib.parseIntB Lib.parseUintB
    simp only []
    rw [if_neg (show ¬ (c.toNat = 43 ∨ c.toNat = 45) by omega), if_neg (by simp)]
    constructor
    · intro u hu
      rw [hu]
      simp only [show ¬ c.toNat = 45 by omega, not_false_eq_true, true_and, false_and, if_false]
    · intro hu
      rw [hu]
   cases hv : valP 0 (c :: r) with
   | some v =>
    obtain ⟨a, b⟩ := v1 v hv
    rw [e.1 v b, if_neg (by omega)]
   | none =>
    rcases v2 hv with b | ⟨u, a, b⟩
    · rw [e.2 b]
    · rw [e.1 u b, if_pos a]
def pairsP : List (List UInt8) := [[45, 62], [61, 61], [33, 61], [60, 61], [62, 61], [38, 38], [124, 124]]
def signP : List UInt8 → Nat
 | [] => 0
 | [b] => if b ∈ s_x5d46a then 1 else 0
 | b :: c :: _ => if [b, c] ∈ pairsP then 2 else if b ∈ s_x5d46a then 1 else 0
theorem index_mem (l : List UInt8) (c : UInt8) : 0 ≤ Lib.indexByte l c ↔ c ∈ l := by
 induction l with
 | nil => simp [Lib.indexByte]
 | cons b l ih =>
  unfold Lib.indexByte
  have hge := Lib.indexByte_ge l c
  by_cases h : b = c
  · subst h; simp
  · rw [if_neg (by simpa using h)]
    rw [List.mem_cons]
    by_cases h1 : Lib.indexByte l c = -1
    · rw [if_pos (by simp [h1])]
      constructor
      · intro x; omega
      · rintro (rfl | x)
        · exact absurd rfl h
        · have := ih.2 x; omega
    · rw [if_neg (by simpa using h1)]
      constructor
      · intro x; exact .inr (ih.1 (by omega))
      · rintro (rfl | x)
        · exact absurd rfl h
        · have := ih.2 x; omega
theorem contains_iff (s sub : List UInt8) : Lib.contains s sub = true ↔ ∃ i, i ≤ s.length ∧ Lib.occAt s sub i = true := by
 unfold Lib.contains
 rw [decide_eq_true_eq]
 rcases Lib.index_spec s sub with ⟨h1, h2⟩ | ⟨i, h1, h2, h3, _⟩
 · constructor
   · intro h; omega
   · rintro ⟨i, hi, h⟩; rw [h2 i hi] at h; cases h
 · exact ⟨fun _ => ⟨i, h2, h3⟩, fun _ => by omega⟩
theorem pair_eq (b c : UInt8) (hb : b ≠ 32) (hc : c ≠ 32) : Lib.contains s_xe6575 [b, c] = decide ([b, c] ∈ pairsP) := by
 rw [Bool.eq_iff_iff, contains_iff, decide_eq_true_eq]
 constructor
 · rintro ⟨i, hi, h⟩
   have hi' : i = 0 ∨ i = 1 ∨ i = 2 ∨ i = 3 ∨ i = 4 ∨ i = 5 ∨ i = 6 ∨ i = 7 ∨ i = 8 ∨ i = 9 ∨ i = 10 ∨ i = 11 ∨ i = 12 ∨ i = 13 ∨ i = 14 ∨ i = 15 ∨ i = 16 ∨ i = 17 ∨ i = 18 ∨ i = 19 ∨ i = 20 := by
    have : i ≤ 20 := hi
    omega
   clear hi
   rcases hi' with rfl | rfl | rfl | rfl | rfl | rfl | rfl | rfl | rfl | rfl | rfl | rfl | rfl | rfl | rfl | rfl | rfl | rfl | rfl | rfl | rfl
   all_goals
    simp only [Lib.occAt, List.drop_succ_cons, List.drop_zero, List.drop_nil, List.isPrefixOf, Bool.and_true, Bool.and_eq_true, beq_iff_eq, Bool.and_false, Bool.false_eq_true, and_false] at h
   all_goals
    first
     | exact absurd h.1 hb
     | exact absurd h.2 hc
     | (obtain ⟨rfl, rfl⟩ := h; decide)
 · intro h
   simp only [pairsP, List.mem_cons, List.cons.injEq, and_true, List.not_mem_nil, or_false] at h
   rcases h with ⟨rfl, rfl⟩ | ⟨rfl, rfl⟩ | ⟨rfl, rfl⟩ | ⟨rfl, rfl⟩ | ⟨rfl, rfl⟩ | ⟨rfl, rfl⟩ | ⟨rfl, rfl⟩
   · exact ⟨0, by decide, by decide⟩
   · exact ⟨3, by decide, by decide⟩
   · exact ⟨6, by decide, by decide⟩
   · exact ⟨9, by decide, by decide⟩
   · exact ⟨12, by decide, by decide⟩
   · exact ⟨15, by decide, by decide⟩
   · exact ⟨18, by decide, by decide⟩
theorem cut2 (t : List UInt8) (n : Nat) (h : n + 1 < t.length) : cut t ((n : Nat) : Int) ((n + 2 : Nat) : Int) = [t[n], t[n + 1]] := by
 unfold cut
 rw [Int.toNat_natCast, Int.toNat_natCast, List.drop_take, Nat.add_sub_cancel_left, List.drop_eq_getElem_cons (by omega : n < t.length), List.drop_eq_getElem_cons h]
 rfl
theorem signP_two (t : List UInt8) (n : Nat) (h : n + 1 < t.length) : signP (t.drop n) = if [t[n], t[n + 1]] ∈ pairsP then 2 else if t[n] ∈ s_x5d46a then 1 else 0 := by
 rw [List.drop_eq_getElem_cons (by omega : n < t.length), List.drop_eq_getElem_cons h]; rfl
theorem signP_one (t : List UInt8) (n : Nat) (h : n + 1 = t.length) : signP (t.drop n) = if t[n] ∈ s_x5d46a then 1 else 0 := by
 rw [List.drop_eq_getElem_cons (by omega : n < t.length), List.drop_eq_nil_of_le (by omega)]; rfl
theorem no32 (b : UInt8) : [b, (32 : UInt8)] ∉ pairsP := by
 simp only [pairsP, List.mem_cons, List.cons.injEq, and_true, List.not_mem_nil, or_false]
 rintro (⟨_, h⟩ | ⟨_, h⟩ | ⟨_, h⟩ | ⟨_, h⟩ | ⟨_, h⟩ | ⟨_, h⟩ | ⟨_, h⟩) <;> revert h <;> decide
theorem u8_b (b : UInt8) : b.toNat.toUInt8 = b := UInt8.ofNat_toNat
theorem lsign_eq (t : List UInt8) (n : Nat) (hl : t.length < 1000000000000) (h : n < t.length) (hb : t[n] ≠ 32) : lex_sign t ((n : Nat) : Int) = some ((n + signP (t.drop n) : Nat) : Int) := by
 have e1 : w64 ((n : Int) + 1) = ((n + 1 : Nat) : Int) := by rw [w64_in (by omega) (by omega)]; omega
 have e2 : w64 ((n : Int) + 2) = ((n + 2 : Nat) : Int) := by rw [w64_in (by omega) (by omega)]; omega
 unfold lex_sign
 simp only [p_IndexByte, p_Contains, bind_some_eq, u8_back, e1, e2, Int.toNat_natCast, getD_lt _ h, index_mem, u8_b]
 have hone : (if t[n] ∈ s_x5d46a then some ((n + 1 : Nat) : Int) else some ((n : Nat) : Int)) = some ((n + (if t[n] ∈ s_x5d46a then 1 else 0) : Nat) : Int) := by
  split <;> rfl
 by_cases h1 : n + 1 < t.length
 · rw [if_pos (by omega), if_pos (by omega), if_pos (by omega), getD_lt _ h1, signP_two t n h1]
   by_cases hc : t[n + 1] = 32
   · rw [if_neg (by rw [hc]; decide), if_pos (by omega), if_pos (by omega), hc, if_neg (no32 _), hone]
   · have hc' : ((t[n + 1].toNat : Nat) : Int) ≠ 32 := fun q => hc ((u8_int _ 32 (by decide)).1 q)
     rw [if_pos hc', if_pos (by omega), if_pos (by omega), if_pos (by omega), if_pos (by omega), cut2 t n h1, if_pos (by decide), bind_some_eq, pair_eq _ _ hb hc]
     by_cases hp : [t[n], t[n + 1]] ∈ pairsP
     · rw [if_pos hp, decide_eq_true hp]; rfl
     · rw [if_neg hp, decide_eq_false hp, cond_false, if_pos (by omega), if_pos (by omega), hone]
 · rw [if_neg (by omega), if_pos (by omega), if_pos (by omega), signP_one t n (by omega), hone]
def tokP (t : List UInt8) (n : Nat) : api_Token × Int :=
 if dg (t.getD n 0) then
  (let r := numP ((t.drop n).takeWhile dg)
   if r.2 ≠ 0 then (api_Token.mk 0 0 0 [] 0, r.2) else (api_Token.mk 2 n (runP dg t n : Nat) ((t.drop n).takeWhile dg) r.1, 0))
 else if lt (t.getD n 0) then
  (if n + 24 < runP nm t n then (api_Token.mk 0 0 0 [] 0, 13) else (api_Token.mk 1 n (runP nm t n : Nat) ((t.drop n).takeWhile nm) 0, 0))
 else if signP (t.drop n) = 0 then (api_Token.mk 0 0 0 [] 0, 10)
 else (api_Token.mk 3 n (n + signP (t.drop n) : Nat) ((t.drop n).take (signP (t.drop n))) 0, 0)
theorem signP_le (t : List UInt8) : signP t ≤ t.length := by
 unfold signP
 split
 · exact Nat.le_refl _
 · split <;> simp
 · split
   · simp
   · split <;> simp
theorem cut_take (t : List UInt8) (n j : Nat) : cut t ((n : Nat) : Int) ((n + j : Nat) : Int) = (t.drop n).take j := by
 unfold cut
 rw [Int.toNat_natCast, Int.toNat_natCast, List.drop_take, Nat.add_sub_cancel_left]
theorem tw_all (p : UInt8 → Bool) : ∀ l : List UInt8, ∀ c ∈ l.takeWhile p, p c = true := by
 intro l
 induction l with
 | nil => intro c hc; cases hc
 | cons a l ih =>
  intro c hc
  rw [List.takeWhile_cons] at hc
  split at hc
  · rcases List.mem_cons.1 hc with rfl | h
    · assumption
    · exact ih c h
  · cases hc
theorem numOf_run (t : List UInt8) (n : Nat) (h : n < t.length) (hd : dg t[n] = true) : numOf ((t.drop n).takeWhile dg) = numP ((t.drop n).takeWhile dg) := by
 refine num_eq _ ?_ ?_
 · rw [List.drop_eq_getElem_cons h, List.takeWhile_cons_of_pos hd]; exact List.cons_ne_nil _ _
 · intro c hc; exact tw_all _ _ c hc
theorem ltoken_eq (t : List UInt8) (n : Nat) (hl : t.length < 1000000000000) (h : n < t.length) (hb : t[n] ≠ 32) : lex_token t ((n : Nat) : Int) = some (tokP t n) := by
 unfold lex_token tokP
 simp only [kind_eq, bind_some_eq, Int.toNat_natCast, getD_lt _ h, end_eq t n hl h, lsign_eq t n hl h hb]
 have g0 : (0 : Int) ≤ (n : Int) := by omega
 have g1 : (n : Int) < (t.length : Int) := by omega
 rw [if_pos g0, if_pos g1]
 have hdg : isDigit ((t[n].toNat : Nat) : Int) = dg t[n] := rfl
 have hlt : isLetter ((t[n].toNat : Nat) : Int) = lt t[n] := rfl
 rw [hdg, hlt]
 cases hd : dg t[n] with
 | true =>
  have r := runP_ge dg t n (by omega)
  simp only [cond_true, if_true]
  rw [show (fun b => dg b) = dg from rfl, if_pos (by omega), if_pos (by omega), if_pos (by omega), if_pos (by omega)]
  have hc : cut t ((n : Nat) : Int) ((runP dg t n : Nat) : Int) = (t.drop n).takeWhile dg := cut_run dg t n
  have hlen : ((t.drop n).takeWhile dg).length ≤ 281474976710656 := by
   have := takeWhile_le dg (t.drop n); rw [List.length_drop] at this; omega
  rw [hc, number_eq _ hlen, bind_some_eq, numOf_run t n h hd]
  by_cases hz : (numP ((t.drop n).takeWhile dg)).2 ≠ 0
  · rw [if_pos hz, if_pos hz]
  · rw [if_neg hz, if_neg hz, if_pos (by omega), if_pos (by omega), if_pos (by omega), if_pos (by omega)]
 | false =>
  simp only [cond_false, Bool.or_false, if_false, Bool.false_eq_true]
  cases hL : lt t[n] with
  | true =>
   have r := runP_ge nm t n (by omega)
   have hc : cut t ((n : Nat) : Int) ((runP nm t n : Nat) : Int) = (t.drop n).takeWhile nm := cut_run nm t n
   simp only [cond_true, if_true]
   rw [show (fun b => nm b) = nm from rfl, hc, w64_in (by omega) (by omega)]
   by_cases h24 : n + 24 < runP nm t n
   · rw [if_pos (by omega), if_pos h24]
   · rw [if_neg (by omega), if_neg h24, if_pos (by omega), if_pos (by omega), if_pos (by omega), if_pos (by omega)]
  | false =>
   simp only [cond_false, if_false, Bool.false_eq_true]
   have hs := signP_le (t.drop n)
   rw [List.length_drop] at hs
   rw [cut_take]
   by_cases hz : signP (t.drop n) = 0
   · rw [if_pos (by omega), if_pos hz]
   · rw [if_neg (by omega), if_neg hz, if_pos (by omega), if_pos (by omega), if_pos (by omega), if_pos (by omega)]
theorem disj (b : UInt8) (h : lt b = true) : dg b = false := by
 unfold lt isLetter at h
 unfold dg isDigit
 rw [decide_eq_true_eq] at h
 rw [decide_eq_false_iff_not]
 omega
theorem lskip_eq (t : List UInt8) (n : Nat) (hl : t.length < 1000000000000) (h : n ≤ t.length) : lex_skip t ((n : Nat) : Int) = some ((skipP false (t.drop n) n : Nat) : Int) :=
 lim_eq (3 * (t.length - n) + 1) fun k hk => (skip_run t hl (t.length - n) n (by omega)).1 k hk
theorem skipP_free : ∀ (u : List UInt8) (r : Bool) (n j : Nat), skipP r u n = n + j → j < u.length → u.getD j 0 ≠ 32 := by
 intro u
 induction u with
 | nil => intro r n j _ h; simp at h
 | cons b u ih =>
  intro r n j hj h
  have go : ∀ r', skipP r' u (n + 1) = n + j → (b :: u).getD j 0 ≠ 32 := by
   intro r' h'
   have := (skipP_ge u r' (n + 1)).1
   obtain ⟨j, rfl⟩ : ∃ i, j = i + 1 := ⟨j - 1, by omega⟩
   rw [List.getD_cons_succ]
   refine ih r' (n + 1) j (by omega) (by simpa using h)
  cases r with
  | true =>
   simp only [skipP] at hj
   split at hj
   · exact go _ hj
   · exact go _ hj
  | false =>
   simp only [skipP] at hj
   split at hj
   · exact go _ hj
   · split at hj
     · exact go _ hj
     · rename_i h1 h2
       obtain rfl : j = 0 := by omega
       intro q
       exact h1 (.inl q)
theorem tok_end (t : List UInt8) (n : Nat) (h : n < t.length) (hz : (tokP t n).2 = 0) : ∃ e : Nat, (tokP t n).1.End = (e : Int) ∧ n < e ∧ e ≤ t.length ∧ (tokP t n).1.At = (n : Int) ∧ (tokP t n).1.Text = cut t ((n : Nat) : Int) ((e : Nat) : Int) ∧ (tokP t n).1.Kind ≠ 4 := by
 revert hz
 unfold tokP
 rw [getD_lt _ h]
 by_cases hD : dg t[n] = true
 · rw [if_pos hD]
   simp only []
   split
   · intro hz; rename_i q; exact absurd hz q
   · intro _
     refine ⟨runP dg t n, rfl, ?_, (runP_ge dg t n (by omega)).2, rfl, (cut_run dg t n).symm, fun q => absurd (show (2 : Int) = 4 from q) (by decide)⟩
     rw [runP_yes h hD]; exact (runP_ge dg t (n + 1) (by omega)).1
 · rw [if_neg hD]
   by_cases hL : lt t[n] = true
   · rw [if_pos hL]
     split
     · intro hz; exact absurd hz (by decide)
     · intro _
       refine ⟨runP nm t n, rfl, ?_, (runP_ge nm t n (by omega)).2, rfl, (cut_run nm t n).symm, fun q => absurd (show (1 : Int) = 4 from q) (by decide)⟩
       rw [runP_yes h (by simp [nm, hL])]; exact (runP_ge nm t (n + 1) (by omega)).1
   · rw [if_neg hL]
     have hs := signP_le (t.drop n)
     rw [List.length_drop] at hs
     split
     · intro hz; exact absurd hz (by decide)
     · intro _
       exact ⟨n + signP (t.drop n), rfl, by omega, by omega, rfl, (cut_take t n _).symm, fun q => absurd (show (3 : Int) = 4 from q) (by decide)⟩
def allGo : Nat → List UInt8 → List api_Token → Nat → List api_Token × api_Fault
 | 0, _, _, _ => ([], api_Fault.mk 0 0)
 | k + 1, t, l, n => if n < t.length then
  (if (tokP t n).2 ≠ 0 then ([], api_Fault.mk (tokP t n).2 n) else allGo k t (l ++ [(tokP t n).1]) (skipP false (t.drop (tokP t n).1.End.toNat) (tokP t n).1.End.toNat))
  else (l ++ [api_Token.mk 4 n n [] 0], api_Fault.mk 0 0)
def allP (t : List UInt8) : List api_Token × api_Fault :=
 if 16384 < t.length then ([], api_Fault.mk 13 16384) else allGo (t.length + 1) t [] (skipP false t 0)
theorem free_at (t : List UInt8) (n : Nat) (h : n ≤ t.length) (hs : skipP false (t.drop n) n < t.length) : t[skipP false (t.drop n) n] ≠ 32 := by
 have h1 := (skipP_ge (t.drop n) false n).1
 have := skipP_free (t.drop n) false n (skipP false (t.drop n) n - n) (by omega) (by rw [List.length_drop]; omega)
 rw [getD_lt _ (by rw [List.length_drop]; omega), List.getElem_drop] at this
 have e : n + (skipP false (t.drop n) n - n) = skipP false (t.drop n) n := by omega
 simpa only [e] using this
theorem all_run (t : List UInt8) (hl : t.length ≤ 16384) : ∀ m n, t.length ≤ n + m → n ≤ t.length → (∀ h : n < t.length, t[n] ≠ 32) → ∀ l : List api_Token, l.length ≤ n → ∀ k k', m + 1 ≤ k → m + 1 ≤ k' →
 lex_All_l0 k t 0 0 l ((n : Nat) : Int) = some (allGo k' t l n) := by
 intro m
 induction m with
 | zero =>
  intro n h hn _ l hln k k' hk hk'
  obtain ⟨k, rfl⟩ : ∃ j, k = j + 1 := ⟨k - 1, by omega⟩
  obtain ⟨k', rfl⟩ : ∃ j, k' = j + 1 := ⟨k' - 1, by omega⟩
  simp only [lex_All_l0, allGo, List.length_cons, List.length_nil]
  rw [if_neg (by omega), if_pos (by omega), if_neg (by omega)]
 | succ m ih =>
  intro n h hn hb l hln k k' hk hk'
  obtain ⟨k, rfl⟩ : ∃ j, k = j + 1 := ⟨k - 1, by omega⟩
  obtain ⟨k', rfl⟩ : ∃ j, k' = j + 1 := ⟨k' - 1, by omega⟩
  by_cases hlt : n < t.length
  · have hi : (n : Int) < (t.length : Int) := by omega
    have hc48 : (l.length + (0 + 1)) * 48 ≤ 140737488355328 := by omega
    simp only [lex_All_l0, allGo, List.length_cons, List.length_nil, hi, hlt, if_true, ltoken_eq t n (by omega) hlt (hb hlt), bind_some_eq, hc48]
    by_cases hz : (tokP t n).2 = 0
    · simp only [hz, ne_eq, not_true_eq_false, if_false]
      obtain ⟨e, he, h1, h2, _⟩ := tok_end t n hlt hz
      simp only [he, lskip_eq t e (by omega) h2, bind_some_eq, Int.toNat_natCast]
      have hg := skipP_ge (t.drop e) false e
      rw [List.length_drop] at hg
      exact ih _ (by omega) (by omega) (fun hh => free_at t e h2 hh) _ (by rw [List.length_append, List.length_singleton]; omega) k k' (by omega) (by omega)
    · simp only [hz, ne_eq, not_false_eq_true, if_true]
  · simp only [lex_All_l0, allGo, List.length_cons, List.length_nil]
    rw [if_neg (by omega), if_pos (by omega), if_neg hlt]
theorem lAll_eq (t : List UInt8) : lex_All t = some (allP t) := by
 refine lim_eq (t.length + 1) fun k hk => ?_
 unfold lex_All_f allP
 by_cases hl : 16384 < t.length
 · rw [if_pos (by omega), if_pos hl]
 · have hg := skipP_ge t false 0
   rw [if_neg (by omega), if_neg hl, show (0 : Int) = ((0 : Nat) : Int) from rfl, lskip_eq t 0 (by omega) (Nat.zero_le _), bind_some_eq]
   exact (all_run t (by omega) t.length _ (by omega) (by rw [List.drop_zero]; omega) (fun hh => free_at t 0 (Nat.zero_le _) hh) [] (Nat.zero_le _) k _ (by omega) (by omega))
theorem all_len (t : List UInt8) : ∀ k l n, (allGo k t l n).1.length ≤ l.length + k := by
 intro k
 induction k with
 | zero => intro l n; simp [allGo]
 | succ k ih =>
  intro l n
  simp only [allGo]
  split
  · split
    · simp
    · refine Nat.le_trans (ih _ _) ?_
      simp; omega
  · simp
theorem allP_len (t : List UInt8) : (allP t).1.length ≤ 16385 := by
 unfold allP
 split
 · simp
 · have := all_len t (t.length + 1) [] (skipP false t 0)
   simp at this
   omega
abbrev wordsL : List (List UInt8) := [s_system, s_age, s_chart, s_steps, s_fuel, s_var, s_port, s_timer, s_state, s_parallel, s_history, s_deep, s_entry, s_exit, s_on, s_auto, s_raise, s_send, s_arm, s_cancel, s_if, s_else, s_loop, s_in, s_inst, s_quantum, s_ext, s_prio, s_chan, s_cap, s_cert, s_insts, s_chans, s_cell, s_off]
def resP (s : List UInt8) : Bool := decide (s ∈ wordsL)
theorem words_len : wordsL.length = 35 := rfl
theorem res_yes {s w : List UInt8} (hw : w ∈ wordsL) (h : s = w) : resP s = true := by subst h; exact decide_eq_true hw
theorem lres_eq (s : List UInt8) : lex_Reserved s = some (resP s) := by
 unfold lex_Reserved
 by_cases hr : resP s = true
 · rw [hr]
   have hm : s ∈ wordsL := of_decide_eq_true hr
   simp only [wordsL, List.mem_cons, List.not_mem_nil, or_false] at hm
   rcases hm with rfl | rfl | rfl | rfl | rfl | rfl | rfl | rfl | rfl | rfl | rfl | rfl | rfl | rfl | rfl | rfl | rfl | rfl | rfl | rfl | rfl | rfl | rfl | rfl | rfl | rfl | rfl | rfl | rfl | rfl | rfl | rfl | rfl | rfl | rfl <;> decide +kernel
 · have hr' : resP s = false := by simpa using hr
   have hm : s ∉ wordsL := of_decide_eq_false hr'
   rw [hr']
   simp only [wordsL, List.mem_cons, List.not_mem_nil, or_false, not_or] at hm
   simp only [hm, if_false]
def nameP (s : List UInt8) : Bool := decide (s ≠ [] ∧ s.length ≤ 24) && !resP s && lt (s.getD 0 0) && s.all nm
theorem all_take (p : UInt8 → Bool) : ∀ l : List UInt8, (l.takeWhile p).length = l.length ↔ l.all p = true := by
 intro l
 induction l with
 | nil => simp
 | cons a l ih =>
  rw [List.takeWhile_cons]
  cases h : p a with
  | true => simp only [if_true, List.length_cons, List.all_cons, h, Bool.true_and, ← ih]; omega
  | false => simp [h]
theorem lname_eq (s : List UInt8) (hl : s.length < 1000000000000) : lex_Name s = some (nameP s) := by
 unfold lex_Name nameP
 by_cases h0 : s = []
 · subst h0; rw [if_pos rfl]; rfl
 · rw [if_neg h0]
   have hlen : 0 < s.length := List.length_pos_iff.2 h0
   by_cases h24 : 24 < s.length
   · rw [if_pos (by omega), decide_eq_false (fun q => by omega)]; simp
   · rw [if_neg (by omega), lres_eq, bind_some_eq, decide_eq_true ⟨h0, by omega⟩]
     cases hr : resP s with
     | true => simp
     | false =>
      rw [cond_false, if_pos (by omega), if_pos (by omega), kind_eq, bind_some_eq]
      have hdg : isDigit ((((s.getD (0 : Int).toNat 0)).toNat : Nat) : Int) = dg s[0] := by
       rw [show (0 : Int).toNat = 0 from rfl, getD_lt _ hlen]; rfl
      rw [hdg, getD_lt _ hlen]
      cases hd : dg s[0] with
      | true =>
       have : lt s[0] = false := by
        cases hL : lt s[0] with
        | false => rfl
        | true => rw [disj _ hL] at hd; cases hd
       rw [this]; simp
      | false =>
       rw [Bool.not_false, cond_true, show (0 : Int) = ((0 : Nat) : Int) from rfl, end_eq s 0 hl hlen, bind_some_eq, hd]
       congr 1
       rw [show (fun b => bif false then dg b else nm b) = nm from rfl]
       have ha := all_take nm s
       cases hall : s.all nm with
       | true =>
        have hL : lt s[0] = true := by
         have := List.all_eq_true.1 hall s[0] (List.getElem_mem hlen)
         simpa [nm, hd] using this
        rw [hL]
        have := ha.2 hall
        unfold runP
        rw [List.drop_zero, decide_eq_true (by omega)]
        rfl
       | false =>
        have : ¬ (s.takeWhile nm).length = s.length := fun q => by rw [ha.1 q] at hall; cases hall
        unfold runP
        rw [List.drop_zero, decide_eq_false (by omega)]
        simp
theorem not_blank {b : UInt8} (h : lt b = true ∨ dg b = true) : ¬ (b = 32 ∨ b = 9 ∨ b = 10 ∨ b = 13) ∧ b ≠ 35 := by
 refine ⟨?_, ?_⟩
 · rintro (rfl | rfl | rfl | rfl) <;> rcases h with h | h <;> exact absurd h (by decide)
 · rintro rfl; rcases h with h | h <;> exact absurd h (by decide)
theorem skip_none (t : List UInt8) (h : 0 < t.length) (hb : lt t[0] = true ∨ dg t[0] = true) : skipP false t 0 = 0 := by
 obtain ⟨h1, h2⟩ := not_blank hb
 cases t with
 | nil => simp at h
 | cons b t =>
  simp only [skipP]
  rw [if_neg (by simpa using h1), if_neg (by simpa using h2)]
theorem skip_end (t : List UInt8) : skipP false (t.drop t.length) t.length = t.length := by
 rw [List.drop_eq_nil_of_le (Nat.le_refl _)]; rfl
end Go.Sy.Ex
namespace Go.Sy.Ex
open Go.Sy
abbrev Tk := Int × List UInt8 × Int
def strip (t : api_Token) : Tk := (t.Kind, t.Text, t.N)
def isB (b : UInt8) : Bool := decide (b = 32 ∨ b = 9 ∨ b = 10 ∨ b = 13)
def skipB (u : List UInt8) : List UInt8 := u.dropWhile isB
def headP : List UInt8 → Option (Tk × Nat)
 | [] => none
 | b :: u => if dg b then
  (let r := numP ((b :: u).takeWhile dg)
   if r.2 ≠ 0 then none else some ((2, (b :: u).takeWhile dg, r.1), ((b :: u).takeWhile dg).length))
  else if lt b then (if 24 < ((b :: u).takeWhile nm).length then none else some ((1, (b :: u).takeWhile nm, 0), ((b :: u).takeWhile nm).length))
  else if signP (b :: u) = 0 then none
  else some ((3, (b :: u).take (signP (b :: u)), 0), signP (b :: u))
theorem headP_cons (b : UInt8) (u : List UInt8) : headP (b :: u) = if dg b then
      (let r := numP ((b :: u).takeWhile dg)
       if r.2 ≠ 0 then none else some ((2, (b :: u).takeWhile dg, r.1), ((b :: u).takeWhile dg).length))
 else if lt b then (if 24 < ((b :: u).takeWhile nm).length then none else some ((1, (b :: u).takeWhile nm, 0), ((b :: u).takeWhile nm).length))
 else if signP (b :: u) = 0 then none
 else some ((3, (b :: u).take (signP (b :: u)), 0), signP (b :: u)) := rfl
inductive PLex : Nat → List UInt8 → List api_Token → Prop
 | nil {n : Nat} {u : List UInt8} : skipB u = [] → PLex n u []
 | cons {n : Nat} {u v : List UInt8} {tk : Tk} {m : Nat} {L : List api_Token} : skipB u = v → v ≠ [] → headP v = some (tk, m) →
  PLex (n + (u.length - v.length) + m) (v.drop m) L → PLex n u (⟨tk.1, (n + (u.length - v.length) : Nat), (n + (u.length - v.length) + m : Nat), tk.2.1, tk.2.2⟩ :: L)
theorem headP_tok (t : List UInt8) (n : Nat) (h : n < t.length) : headP (t.drop n) = if (tokP t n).2 ≠ 0 then none else some (strip (tokP t n).1, ((tokP t n).1.End - n).toNat) := by
 have hd : t.drop n = t[n] :: t.drop (n + 1) := List.drop_eq_getElem_cons h
 unfold tokP
 rw [getD_lt _ h]
 conv => lhs; rw [hd]
 rw [headP_cons, ← hd]
 by_cases hD : dg t[n] = true
 · rw [if_pos hD, if_pos hD]
   simp only []
   by_cases hz : (numP ((t.drop n).takeWhile dg)).2 ≠ 0
   · simp only [hz, ne_eq, not_false_eq_true, if_true]
   · simp only [hz, if_false, strip, ne_eq, not_true_eq_false]
     congr 2
     unfold runP
     omega
 · rw [if_neg hD, if_neg hD]
   by_cases hL : lt t[n] = true
   · rw [if_pos hL, if_pos hL]
     unfold runP
     by_cases h24 : 24 < ((t.drop n).takeWhile nm).length
     · have : n + 24 < n + ((t.drop n).takeWhile nm).length := by omega
       simp only [h24, this, if_true, ne_eq]
       rw [if_pos (by decide)]
     · have : ¬ n + 24 < n + ((t.drop n).takeWhile nm).length := by omega
       simp only [h24, this, if_false, ne_eq, not_true_eq_false, strip]
       congr 2
       omega
   · rw [if_neg hL, if_neg hL]
     by_cases hs : signP (t.drop n) = 0
     · simp only [hs, if_true, ne_eq]
       rw [if_pos (by decide)]
     · simp only [hs, if_false, ne_eq, not_true_eq_false, strip]
       congr 2
       omega
theorem headP_len {v : List UInt8} {tk : Tk} {m : Nat} (h : headP v = some (tk, m)) : 1 ≤ m ∧ m ≤ v.length := by
 cases v with
 | nil => cases h
 | cons b u =>
  rw [headP_cons] at h
  by_cases hD : dg b = true
  · rw [if_pos hD] at h
    simp only [] at h
    split at h
    · cases h
    · cases h
      have := takeWhile_le dg (b :: u)
      rw [List.takeWhile_cons_of_pos hD] at this ⊢
      exact ⟨by simp, this⟩
  · rw [if_neg hD] at h
    by_cases hL : lt b = true
    · rw [if_pos hL] at h
      split at h
      · cases h
      · cases h
        have := takeWhile_le nm (b :: u)
        rw [List.takeWhile_cons_of_pos (by simp [nm, hL])] at this ⊢
        exact ⟨by simp, this⟩
    · rw [if_neg hL] at h
      split at h
      · cases h
      · rename_i hs
        cases h
        exact ⟨by omega, signP_le _⟩
theorem skipB_suffix (u : List UInt8) : ∃ p, u = p ++ skipB u ∧ p.all isB = true := by
 induction u with
 | nil => exact ⟨[], rfl, rfl⟩
 | cons b u ih =>
  unfold skipB
  by_cases hb : isB b = true
  · rw [List.dropWhile_cons_of_pos hb]
    obtain ⟨p, h1, h2⟩ := ih
    exact ⟨b :: p, by rw [List.cons_append]; congr 1, by simp [hb, h2]⟩
  · rw [List.dropWhile_cons_of_neg hb]
    exact ⟨[], rfl, rfl⟩
theorem skipP_B : ∀ (p u : List UInt8) (n : Nat), p.all isB = true → skipP false (p ++ u) n = skipP false u (n + p.length)
 | [], u, n, _ => rfl
 | b :: p, u, n, h => by
  simp only [List.all_cons, Bool.and_eq_true] at h
  have hb : b = 32 ∨ b = 9 ∨ b = 10 ∨ b = 13 := of_decide_eq_true h.1
  rw [List.cons_append]
  simp only [skipP]
  rw [if_pos hb, skipP_B p u (n + 1) h.2, List.length_cons, Nat.add_assoc, Nat.add_comm 1]
theorem skipP_no {b : UInt8} {u : List UInt8} {n : Nat} (h1 : isB b = false) (h2 : b ≠ 35) : skipP false (b :: u) n = n := by
 have hb : ¬ (b = 32 ∨ b = 9 ∨ b = 10 ∨ b = 13) := of_decide_eq_false h1
 simp only [skipP]
 rw [if_neg hb, if_neg h2]
theorem head_no35 {u : List UInt8} : headP (35 :: u) = none := by
 rw [headP_cons, if_neg (by decide), if_neg (by decide), if_pos]
 cases u with
 | nil => rfl
 | cons c u =>
  show (if [35, c] ∈ pairsP then 2 else if (35 : UInt8) ∈ s_x5d46a then 1 else 0) = 0
  rw [if_neg, if_neg (by decide)]
  simp only [pairsP, List.mem_cons, List.cons.injEq, and_true, List.not_mem_nil, or_false]
  rintro (⟨h, _⟩ | ⟨h, _⟩ | ⟨h, _⟩ | ⟨h, _⟩ | ⟨h, _⟩ | ⟨h, _⟩ | ⟨h, _⟩) <;> revert h <;> decide
theorem skipB_head {u : List UInt8} {b : UInt8} {v : List UInt8} (h : skipB u = b :: v) : isB b = false := by
 induction u with
 | nil => cases h
 | cons c u ih =>
  unfold skipB at h
  by_cases hc : isB c = true
  · rw [List.dropWhile_cons_of_pos hc] at h; exact ih h
  · rw [List.dropWhile_cons_of_neg hc] at h
    cases h
    simpa using hc
theorem plex_all {t : List UInt8} {n : Nat} {u : List UInt8} {L : List api_Token} (h : PLex n u L) : t.drop n = u → n ≤ t.length → ∀ k l, t.length ≤ n + k →
 allGo (k + 1) t l (skipP false (t.drop n) n) = (l ++ L ++ [api_Token.mk 4 t.length t.length [] 0], api_Fault.mk 0 0) := by
 induction h with
 | @nil n u hs =>
  intro hu hn k l hk
  obtain ⟨p, h1, h2⟩ := skipB_suffix u
  rw [hs, List.append_nil] at h1
  subst h1
  have hl : u.length = t.length - n := by rw [← hu, List.length_drop]
  have : skipP false (t.drop n) n = t.length := by
   rw [hu]
   have := skipP_B u [] n h2
   rw [List.append_nil] at this
   rw [this]
   show n + u.length = _
   omega
  rw [this]
  simp only [allGo]
  rw [if_neg (by omega), List.append_nil]
 | @cons n u v tk m L hs hv hh hp ih =>
  intro hu hn k l hk
  obtain ⟨p, h1, h2⟩ := skipB_suffix u
  rw [hs] at h1
  have hl : u.length = t.length - n := by rw [← hu, List.length_drop]
  have hlu : u.length = p.length + v.length := by rw [h1, List.length_append]
  obtain ⟨b, v', rfl⟩ : ∃ b v', v = b :: v' := by
   cases v with
   | nil => exact absurd rfl hv
   | cons b v' => exact ⟨b, v', rfl⟩
  have hb := skipB_head hs
  have hne : b ≠ 35 := fun e => by subst e; rw [head_no35] at hh; cases hh
  have hq : u.length - (b :: v').length = p.length := by omega
  simp only [hq] at ih ⊢
  have hpos : skipP false (t.drop n) n = n + p.length := by
   rw [hu, h1, skipP_B p _ n h2, skipP_no hb hne]
  have hlt : n + p.length < t.length := by simp only [List.length_cons] at hlu; omega
  have hdrop : t.drop (n + p.length) = b :: v' := by
   rw [← List.drop_drop, hu, h1]
   simp
  have htok := headP_tok t (n + p.length) hlt
  rw [hdrop, hh] at htok
  have hz : (tokP t (n + p.length)).2 = 0 := by
   by_cases hz : (tokP t (n + p.length)).2 = 0
   · exact hz
   · rw [if_pos hz] at htok; cases htok
  rw [if_neg (by simp [hz])] at htok
  obtain ⟨e, he, h3, h4, hat, htx, _⟩ := tok_end t (n + p.length) hlt hz
  simp only [Option.some.injEq, Prod.mk.injEq] at htok
  obtain ⟨htk, hm⟩ := htok
  rw [he] at hm
  have hme : e = n + p.length + m := by omega
  have htoken : (tokP t (n + p.length)).1 = ⟨tk.1, (n + p.length : Nat), (n + p.length + m : Nat), tk.2.1, tk.2.2⟩ := by
   rw [htk]
   unfold strip
   generalize tokP t (n + p.length) = x at *
   obtain ⟨⟨a1, a2, a3, a4, a5⟩, a6⟩ := x
   dsimp only at *
   rw [hat, he, hme]
  obtain ⟨k, rfl⟩ : ∃ j, k = j + 1 := ⟨k - 1, by omega⟩
  rw [hpos]
  conv => lhs; unfold allGo
  rw [if_pos hlt, if_neg (by simp [hz]), htoken]
  dsimp only
  rw [Int.toNat_natCast]
  have := ih (by rw [← hdrop, List.drop_drop]) (by omega) k (l ++ [⟨tk.1, (n + p.length : Nat), (n + p.length + m : Nat), tk.2.1, tk.2.2⟩]) (by omega)
  rw [this]
  simp [List.append_assoc]
theorem plex_allP {t : List UInt8} {L : List api_Token} (h : PLex 0 t L) (hl : t.length ≤ 16384) : allP t = (L ++ [api_Token.mk 4 t.length t.length [] 0], api_Fault.mk 0 0) := by
 unfold allP
 rw [if_neg (by omega)]
 have := plex_all (t := t) h rfl (Nat.zero_le _) t.length [] (by omega)
 rw [List.drop_zero, List.nil_append] at this
 exact this
def Lx (s : List UInt8) (K : List Tk) : Prop := ∀ n, ∃ L, PLex n s L ∧ L.map strip = K
theorem Lx.all {t : List UInt8} {K : List Tk} (h : Lx t K) (hl : t.length ≤ 16384) : ∃ l, allP t = (l, api_Fault.mk 0 0) ∧ l.map strip = K ++ [(4, [], 0)] := by
 obtain ⟨L, h1, h2⟩ := h 0
 exact ⟨_, plex_allP h1 hl, by rw [List.map_append, h2]; rfl⟩
def lexF : Nat → List UInt8 → Option (List Tk)
 | 0, _ => none
 | k + 1, u => match skipB u with
  | [] => some []
  | b :: v => match headP (b :: v) with
   | some (tk, m) => match lexF k ((b :: v).drop m) with
    | some K => some (tk :: K)
    | none => none
   | none => none
theorem lexF_ok : ∀ (k : Nat) {u : List UInt8} {K : List Tk}, lexF k u = some K → Lx u K
 | 0, _, _, h => by cases h
 | k + 1, u, K, h => fun n => by
  simp only [lexF] at h
  cases hs : skipB u with
  | nil => rw [hs] at h; cases h; exact ⟨[], .nil hs, rfl⟩
  | cons b v =>
   rw [hs] at h
   dsimp only at h
   cases hh : headP (b :: v) with
   | none => rw [hh] at h; cases h
   | some p =>
    obtain ⟨tk, m⟩ := p
    rw [hh] at h
    dsimp only at h
    cases hr : lexF k ((b :: v).drop m) with
    | none => rw [hr] at h; cases h
    | some K' =>
     rw [hr] at h
     cases h
     obtain ⟨L, h1, h2⟩ := lexF_ok k hr (n + (u.length - (b :: v).length) + m)
     exact ⟨_, .cons hs (by simp) hh h1, by rw [List.map_cons, h2]; rfl⟩
end Go.Sy.Ex
namespace Go.Sy.Ex
open Go.Sy
theorem digit_of (d : Nat) (h : d < 10) : (UInt8.ofNat (48 + d)).toNat = 48 + d := by
 have : ∀ d, d < 10 → (UInt8.ofNat (48 + d)).toNat = 48 + d := by decide +kernel
 exact this d h
theorem dec_small {u : Nat} (h : u < 10) : Lib.decDigits u = [UInt8.ofNat (48 + u)] := by rw [Lib.decDigits, dif_pos h]
theorem dec_big {u : Nat} (h : ¬ u < 10) : Lib.decDigits u = Lib.decDigits (u / 10) ++ [UInt8.ofNat (48 + u % 10)] := by rw [Lib.decDigits, dif_neg h]
theorem dec_digits : ∀ (n u : Nat), u ≤ n → ∀ c ∈ Lib.decDigits u, 48 ≤ c.toNat ∧ c.toNat ≤ 57 := by
 intro n
 induction n with
 | zero =>
  intro u h c hc
  have : u = 0 := by omega
  subst this
  rw [dec_small (by decide), List.mem_singleton] at hc
  subst hc; decide
 | succ n ih =>
  intro u h c hc
  by_cases hs : u < 10
  · rw [dec_small hs, List.mem_singleton] at hc
    subst hc; rw [digit_of u hs]; omega
  · rw [dec_big hs, List.mem_append, List.mem_singleton] at hc
    rcases hc with hc | rfl
    · exact ih (u / 10) (by omega) c hc
    · rw [digit_of _ (by omega)]; omega
theorem dec_ne : ∀ u, Lib.decDigits u ≠ [] := fun u => by
 by_cases hs : u < 10
 · rw [dec_small hs]; simp
 · rw [dec_big hs]; simp
theorem dec_len : ∀ (k u : Nat), u < 10 ^ (k + 1) → (Lib.decDigits u).length ≤ k + 1 := by
 intro k
 induction k with
 | zero => intro u h; rw [dec_small (by omega)]; simp
 | succ k ih =>
  intro u h
  by_cases hs : u < 10
  · rw [dec_small hs]; simp
  · rw [dec_big hs, List.length_append, List.length_singleton]
    have := ih (u / 10) (by rw [Nat.pow_succ] at h; omega)
    omega
theorem parseM_ok (M : Nat) (hM : M ≤ 18446744073709551615) : ∀ (l : List UInt8) (acc u : Nat), Lib.parseUintM (2 ^ 64 - 1) acc l = .ok u → (∀ c ∈ l, 48 ≤ c.toNat ∧ c.toNat ≤ 57) := by
 intro l
 induction l with
 | nil => intro acc u _ c hc; cases hc
 | cons b l ih =>
  intro acc u h c hc
  unfold Lib.parseUintM at h
  split at h
  · rename_i hb
    split at h
    · cases h
    · split at h
      · cases h
      · rcases List.mem_cons.1 hc with rfl | hc
        · exact hb
        · exact ih _ _ h c hc
  · cases h
theorem parseM_append : ∀ (l : List UInt8) (acc a : Nat) (c : UInt8), Lib.parseUintM (2 ^ 64 - 1) acc l = .ok a → Lib.parseUintM (2 ^ 64 - 1) acc (l ++ [c]) = Lib.parseUintM (2 ^ 64 - 1) a [c] := by
 intro l
 induction l with
 | nil => intro acc a c h; cases h; rfl
 | cons b l ih =>
  intro acc a c h
  rw [List.cons_append]
  unfold Lib.parseUintM at h ⊢
  split at h
  · rename_i hb
    rw [if_pos hb]
    split at h
    · cases h
    · rename_i h1
      rw [if_neg h1]
      split at h
      · cases h
      · rename_i h2
        rw [if_neg h2]
        have := ih _ _ c h
        rw [this]
        rfl
  · cases h
theorem parseM_dec : ∀ (n u : Nat), u ≤ n → u ≤ 9223372036854775808 → Lib.parseUintM (2 ^ 64 - 1) 0 (Lib.decDigits u) = .ok u := by
 intro n
 induction n with
 | zero =>
  intro u h hu
  have : u = 0 := by omega
  subst this
  rw [dec_small (by decide)]
  rfl
 | succ n ih =>
  intro u h hu
  by_cases hs : u < 10
  · rw [dec_small hs]
    unfold Lib.parseUintM
    rw [digit_of u hs, if_pos (by omega), if_neg (by omega), if_neg (by omega)]
    unfold Lib.parseUintM
    congr 1; omega
  · rw [dec_big hs, parseM_append _ _ _ _ (ih (u / 10) (by omega) (by omega))]
    unfold Lib.parseUintM
    rw [digit_of _ (by omega), if_pos (by omega), if_neg (by omega), if_neg (by omega)]
    unfold Lib.parseUintM
    congr 1; omega
theorem parse_itoa (v : Int) (h0 : -9223372036854775808 ≤ v) (h1 : v ≤ 9223372036854775807) : Lib.parseIntB 64 (Lib.itoa v) = .ok v := by
 unfold Lib.itoa
 by_cases hv : v < 0
 · rw [if_pos hv]
   have hu : v.natAbs ≤ 9223372036854775808 := by omega
   unfold Lib.parseIntB Lib.parseUintB
   simp only []
   have hif : (if (45 : UInt8).toNat = 43 ∨ (45 : UInt8).toNat = 45 then Lib.decDigits v.natAbs else 45 :: Lib.decDigits v.natAbs) = Lib.decDigits v.natAbs := if_pos (.inr rfl)
   rw [hif, if_neg (dec_ne _), parseM_dec _ _ (Nat.le_refl _) hu]
   have h45 : (45 : UInt8).toNat = 45 := rfl
   simp only [h45, not_true_eq_false, false_and, if_false, true_and, if_true]
   rw [if_neg (by omega)]
   congr 1; omega
 · rw [if_neg hv]
   have hu : v.toNat ≤ 9223372036854775807 := by omega
   have hne := dec_ne v.toNat
   obtain ⟨c, r, hcr⟩ : ∃ c r, Lib.decDigits v.toNat = c :: r := by
    cases hd : Lib.decDigits v.toNat with
    | nil => exact absurd hd hne
    | cons c r => exact ⟨c, r, rfl⟩
   have hc := dec_digits _ _ (Nat.le_refl v.toNat) c (by rw [hcr]; simp)
   have hp := parseM_dec _ _ (Nat.le_refl v.toNat) (by omega)
   rw [hcr] at hp ⊢
   unfold Lib.parseIntB Lib.parseUintB
   simp only []
   rw [if_neg (show ¬ (c.toNat = 43 ∨ c.toNat = 45) by omega), if_neg (by simp), hp]
   simp only [show ¬ c.toNat = 45 by omega, not_false_eq_true, true_and, false_and, if_false]
   rw [if_neg (by omega)]
   congr 1; omega
theorem itoa_inj {v u : Int} (hv : -9223372036854775808 ≤ v ∧ v ≤ 9223372036854775807) (hu : -9223372036854775808 ≤ u ∧ u ≤ 9223372036854775807) (h : Lib.itoa v = Lib.itoa u) : v = u := by
 have h1 := parse_itoa v hv.1 hv.2
 have h2 := parse_itoa u hu.1 hu.2
 rw [h, h2] at h1
 cases h1
 rfl
theorem dec_head : ∀ (n u : Nat), u ≤ n → 1 ≤ u → (Lib.decDigits u).getD 0 0 ≠ 48
 | 0, u, h, h1 => by omega
 | n + 1, u, h, h1 => by
  by_cases h10 : u < 10
  · rw [dec_small h10]
    show UInt8.ofNat (48 + u) ≠ 48
    intro e
    have := digit_of u h10
    rw [e] at this
    have h48 : (48 : UInt8).toNat = 48 := rfl
    omega
  · rw [dec_big h10]
    have := dec_head n (u / 10) (by omega) (by omega)
    have hne := dec_ne (u / 10)
    cases hd : Lib.decDigits (u / 10) with
    | nil => exact absurd hd hne
    | cons c l => rw [hd] at this; exact this
theorem itoa_pos {n : Int} (h : 0 ≤ n) : Lib.itoa n = Lib.decDigits n.toNat := by unfold Lib.itoa; rw [if_neg (by omega)]
theorem itoa_dg {n : Int} (h : 0 ≤ n) : ∀ c ∈ Lib.itoa n, dg c = true := fun c hc => by
 rw [itoa_pos h] at hc
 exact (dg_iff c).2 (dec_digits n.toNat n.toNat (Nat.le_refl _) c hc)
theorem itoa_ne {n : Int} (h : 0 ≤ n) : Lib.itoa n ≠ [] := by rw [itoa_pos h]; exact dec_ne _
theorem itoa_num {n : Int} (h : 0 ≤ n) (h1 : n ≤ 9223372036854775807) : numP (Lib.itoa n) = (n, 0) := by
 rw [← num_eq _ (itoa_ne h) (itoa_dg h)]
 unfold numOf
 rw [if_neg, parse_itoa n (by omega) h1]
 rintro ⟨h2, h3⟩
 rw [itoa_pos h] at h2 h3
 by_cases h0 : n.toNat < 10
 · rw [dec_small h0] at h2; simp at h2
 · exact dec_head n.toNat n.toNat (Nat.le_refl _) (by omega) h3
theorem tw_self (p : UInt8 → Bool) (l : List UInt8) (h : ∀ c ∈ l, p c = true) : l.takeWhile p = l := by
 induction l with
 | nil => rfl
 | cons a l ih => rw [List.takeWhile_cons_of_pos (h a (by simp)), ih fun c hc => h c (by simp [hc])]
theorem nb_of {b : UInt8} (h : nm b = true) : isB b = false := by
 have := (not_blank (b := b) (by simpa [nm] using h)).1
 exact decide_eq_false this
theorem skipB_nm {s : List UInt8} (h : ∀ c ∈ s, nm c = true) : skipB s = s := by
 cases s with
 | nil => rfl
 | cons a l => unfold skipB; rw [List.dropWhile_cons_of_neg (by simp [nb_of (h a (by simp))])]
theorem Lx.one {s : List UInt8} {tk : Tk} (h0 : s ≠ []) (hs : skipB s = s) (hh : headP s = some (tk, s.length)) : Lx s [tk] := fun n => by
 have := PLex.cons (n := n) (L := []) hs h0 hh (by rw [List.drop_length]; exact .nil rfl)
 exact ⟨_, this, rfl⟩
theorem Lx.num {n : Int} (h : 0 ≤ n) (h1 : n ≤ 9223372036854775807) : Lx (Lib.itoa n) [(2, Lib.itoa n, n)] := by
 refine Lx.one (itoa_ne h) (skipB_nm fun c hc => by simp [nm, itoa_dg h c hc]) ?_
 have htw := tw_self dg _ (itoa_dg h)
 have hn := itoa_num h h1
 cases hi : Lib.itoa n with
 | nil => exact absurd hi (itoa_ne h)
 | cons a l =>
  rw [hi] at htw hn
  rw [headP_cons, if_pos (itoa_dg h a (by rw [hi]; simp)), htw, hn]
  rfl
theorem name_split {s : List UInt8} (h : nameP s = true) : s ≠ [] ∧ s.length ≤ 24 ∧ resP s = false ∧ lt (s.getD 0 0) = true ∧ ∀ c ∈ s, nm c = true := by
 unfold nameP at h
 simp only [Bool.and_eq_true, decide_eq_true_eq, Bool.not_eq_true', List.all_eq_true] at h
 obtain ⟨⟨⟨⟨h1, h2⟩, h3⟩, h4⟩, h5⟩ := h
 exact ⟨h1, h2, h3, h4, h5⟩
theorem Lx.word {s : List UInt8} (h0 : s ≠ []) (h1 : s.length ≤ 24) (h2 : lt (s.getD 0 0) = true) (h3 : ∀ c ∈ s, nm c = true) : Lx s [(1, s, 0)] := by
 refine Lx.one h0 (skipB_nm h3) ?_
 have htw := tw_self nm _ h3
 cases hs : s with
 | nil => exact absurd hs h0
 | cons a l =>
  rw [hs] at htw h2 h1
  have h2 : lt a = true := h2
  rw [headP_cons, if_neg (by rw [disj _ h2]; simp), if_pos h2, htw, if_neg (by omega)]
theorem Lx.name {s : List UInt8} (h : nameP s = true) : Lx s [(1, s, 0)] := by
 obtain ⟨h1, h2, _, h4, h5⟩ := name_split h
 exact Lx.word h1 h2 h4 h5
end Go.Sy.Ex
namespace Go.Sy.Ex
open Go.Sy
inductive T where
 | num (n : Int) | var (s : List UInt8) | arg | isin (s : List UInt8) | un (k : Int) (t : T) | bin (k : Int) (a b : T)
def T.kind : T → Int
 | .num _ => 1 | .var _ => 2 | .arg => 3 | .isin _ => 4 | .un k _ => k | .bin k _ _ => k
def lvl (k : Int) : Int := if k = 19 then 1 else if k = 18 then 2 else if 12 ≤ k ∧ k ≤ 17 then 3 else if k = 10 ∨ k = 11 then 4 else if 7 ≤ k ∧ k ≤ 9 then 5 else if k = 5 ∨ k = 6 then 6 else 7
def lft (k : Int) : Int := if lvl k = 3 then 4 else lvl k
def rgt (k : Int) : Int := if lvl k = 3 then 4 else lvl k + 1
abbrev signsL : List (List UInt8 × Int × Int) := [(s_bar_bar, 19, 1), (s_amp_amp, 18, 2), (s_lt, 12, 3), (s_lt_eq, 13, 3), (s_gt, 14, 3), (s_gt_eq, 15, 3), (s_eq_eq, 16, 3), (s_bang_eq, 17, 3), (s_plus, 10, 4), (s_minus, 11, 4), (s_star, 7, 5), (s_slash, 8, 5), (s_pct, 9, 5)]
def txt (k : Int) : List UInt8 := match signsL.find? (fun p => p.2.1 == k) with
 | some p => p.1
 | none => []
def btw (k : Int) : List UInt8 × Int := match signsL.find? (fun p => p.2.1 == k) with
 | some p => (p.1, p.2.2)
 | none => ([], 0)
def sgn (s : List UInt8) : Int × Int := match signsL.find? (fun p => p.1 == s) with
 | some p => p.2
 | none => (0, 0)
theorem sign_eq (s : List UInt8) : expr_sign s = some (sgn s) := by
 unfold expr_sign sgn signsL
 by_cases h_s_bar_bar : s = s_bar_bar
 · subst h_s_bar_bar; decide +kernel
 rw [if_neg h_s_bar_bar, List.find?_cons, show (s_bar_bar == s) = false from beq_false_of_ne (Ne.symm h_s_bar_bar)]
 dsimp only
 by_cases h_s_amp_amp : s = s_amp_amp
 · subst h_s_amp_amp; decide +kernel
 rw [if_neg h_s_amp_amp, List.find?_cons, show (s_amp_amp == s) = false from beq_false_of_ne (Ne.symm h_s_amp_amp)]
 dsimp only
 by_cases h_s_lt : s = s_lt
 · subst h_s_lt; decide +kernel
 rw [if_neg h_s_lt, List.find?_cons, show (s_lt == s) = false from beq_false_of_ne (Ne.symm h_s_lt)]
 dsimp only
 by_cases h_s_lt_eq : s = s_lt_eq
 · subst h_s_lt_eq; decide +kernel
 rw [if_neg h_s_lt_eq, List.find?_cons, show (s_lt_eq == s) = false from beq_false_of_ne (Ne.symm h_s_lt_eq)]
 dsimp only
 by_cases h_s_gt : s = s_gt
 · subst h_s_gt; decide +kernel
 rw [if_neg h_s_gt, List.find?_cons, show (s_gt == s) = false from beq_false_of_ne (Ne.symm h_s_gt)]
 dsimp only
 by_cases h_s_gt_eq : s = s_gt_eq
 · subst h_s_gt_eq; decide +kernel
 rw [if_neg h_s_gt_eq, List.find?_cons, show (s_gt_eq == s) = false from beq_false_of_ne (Ne.symm h_s_gt_eq)]
 dsimp only
 by_cases h_s_eq_eq : s = s_eq_eq
 · subst h_s_eq_eq; decide +kernel
 rw [if_neg h_s_eq_eq, List.find?_cons, show (s_eq_eq == s) = false from beq_false_of_ne (Ne.symm h_s_eq_eq)]
 dsimp only
 by_cases h_s_bang_eq : s = s_bang_eq
 · subst h_s_bang_eq; decide +kernel
 rw [if_neg h_s_bang_eq, List.find?_cons, show (s_bang_eq == s) = false from beq_false_of_ne (Ne.symm h_s_bang_eq)]
 dsimp only
 by_cases h_s_plus : s = s_plus
 · subst h_s_plus; decide +kernel
 rw [if_neg h_s_plus, List.find?_cons, show (s_plus == s) = false from beq_false_of_ne (Ne.symm h_s_plus)]
 dsimp only
 by_cases h_s_minus : s = s_minus
 · subst h_s_minus; decide +kernel
 rw [if_neg h_s_minus, List.find?_cons, show (s_minus == s) = false from beq_false_of_ne (Ne.symm h_s_minus)]
 dsimp only
 by_cases h_s_star : s = s_star
 · subst h_s_star; decide +kernel
 rw [if_neg h_s_star, List.find?_cons, show (s_star == s) = false from beq_false_of_ne (Ne.symm h_s_star)]
 dsimp only
 by_cases h_s_slash : s = s_slash
 · subst h_s_slash; decide +kernel
 rw [if_neg h_s_slash, List.find?_cons, show (s_slash == s) = false from beq_false_of_ne (Ne.symm h_s_slash)]
 dsimp only
 by_cases h_s_pct : s = s_pct
 · subst h_s_pct; decide +kernel
 rw [if_neg h_s_pct, List.find?_cons, show (s_pct == s) = false from beq_false_of_ne (Ne.symm h_s_pct)]
 dsimp only
 rfl
theorem between_run (kind : Int) : ∀ m n, n + m = 13 → ∀ k, m + 1 ≤ k → expr_between_l0 k kind arr_x03b7b ((n : Nat) : Int) = some (match (signsL.drop n).find? (fun p => p.2.1 == kind) with | some p => (p.1, p.2.2) | none => ([], 0)) := by
 intro m
 induction m with
 | zero =>
  intro n h k hk
  obtain ⟨k, rfl⟩ : ∃ j, k = j + 1 := ⟨k - 1, by omega⟩
  obtain rfl : n = 13 := by omega
  simp only [expr_between_l0]
  rw [if_neg (by omega)]
  rfl
 | succ m ih =>
  intro n h k hk
  obtain ⟨k, rfl⟩ : ∃ j, k = j + 1 := ⟨k - 1, by omega⟩
  have hlt : n < signsL.length := by show n < 13; omega
  have e : w64 ((n : Int) + 1) = ((n + 1 : Nat) : Int) := by rw [w64_in (by omega) (by omega)]; omega
  have hrow : [s_bar_bar, s_amp_amp, s_lt, s_lt_eq, s_gt, s_gt_eq, s_eq_eq, s_bang_eq, s_plus, s_minus, s_star, s_slash, s_pct].getD n [] = (signsL[n]).1 := by
   have h13 : n = 0 ∨ n = 1 ∨ n = 2 ∨ n = 3 ∨ n = 4 ∨ n = 5 ∨ n = 6 ∨ n = 7 ∨ n = 8 ∨ n = 9 ∨ n = 10 ∨ n = 11 ∨ n = 12 := by omega
   rcases h13 with rfl | rfl | rfl | rfl | rfl | rfl | rfl | rfl | rfl | rfl | rfl | rfl | rfl <;> rfl
  have hsgn : sgn (signsL[n]).1 = (signsL[n]).2 := by
   have h13 : n = 0 ∨ n = 1 ∨ n = 2 ∨ n = 3 ∨ n = 4 ∨ n = 5 ∨ n = 6 ∨ n = 7 ∨ n = 8 ∨ n = 9 ∨ n = 10 ∨ n = 11 ∨ n = 12 := by omega
   rcases h13 with rfl | rfl | rfl | rfl | rfl | rfl | rfl | rfl | rfl | rfl | rfl | rfl | rfl <;> rfl
  simp only [expr_between_l0]
  rw [if_pos (by omega), if_pos (by omega), if_pos (by show (n : Int) < (13 : Nat); omega), Int.toNat_natCast, e, ih (n + 1) (by omega) k (by omega)]
  rw [show ([arr_x03b7b.1, arr_x03b7b.2.1, arr_x03b7b.2.2.1, arr_x03b7b.2.2.2.1, arr_x03b7b.2.2.2.2.1, arr_x03b7b.2.2.2.2.2.1, arr_x03b7b.2.2.2.2.2.2.1, arr_x03b7b.2.2.2.2.2.2.2.1, arr_x03b7b.2.2.2.2.2.2.2.2.1, arr_x03b7b.2.2.2.2.2.2.2.2.2.1, arr_x03b7b.2.2.2.2.2.2.2.2.2.2.1, arr_x03b7b.2.2.2.2.2.2.2.2.2.2.2.1, arr_x03b7b.2.2.2.2.2.2.2.2.2.2.2.2] : List (List UInt8)) = [s_bar_bar, s_amp_amp, s_lt, s_lt_eq, s_gt, s_gt_eq, s_eq_eq, s_bang_eq, s_plus, s_minus, s_star, s_slash, s_pct] from rfl]
  rw [hrow, sign_eq, bind_some_eq, hsgn, List.drop_eq_getElem_cons hlt, List.find?_cons]
  by_cases hk2 : (signsL[n]).2.1 = kind
  · rw [if_pos hk2]
    rw [show ((signsL[n]).2.1 == kind) = true from by simpa using hk2]
  · rw [if_neg hk2]
    rw [show ((signsL[n]).2.1 == kind) = false from by simpa using hk2]
theorem between_eq (k : Int) : expr_between k = some (btw k) := lim_eq 14 fun j hj => between_run k 13 0 rfl j hj
theorem find_kind (k : Int) (h : k < 7 ∨ 19 < k) : signsL.find? (fun p => p.2.1 == k) = none := by
 simp only [signsL, List.find?_cons, List.find?_nil]
 rw [show ((19 : Int) == k) = false from by simp; omega, show ((18 : Int) == k) = false from by simp; omega, show ((12 : Int) == k) = false from by simp; omega, show ((13 : Int) == k) = false from by simp; omega,
  show ((14 : Int) == k) = false from by simp; omega, show ((15 : Int) == k) = false from by simp; omega, show ((16 : Int) == k) = false from by simp; omega, show ((17 : Int) == k) = false from by simp; omega,
  show ((10 : Int) == k) = false from by simp; omega, show ((11 : Int) == k) = false from by simp; omega, show ((7 : Int) == k) = false from by simp; omega, show ((8 : Int) == k) = false from by simp; omega, show ((9 : Int) == k) = false from by simp; omega]
theorem btw_in {k : Int} (h1 : 7 ≤ k) (h2 : k ≤ 19) : btw k = (txt k, lvl k) ∧ 1 ≤ lvl k ∧ lvl k ≤ 5 := by
 have hk : k = 7 ∨ k = 8 ∨ k = 9 ∨ k = 10 ∨ k = 11 ∨ k = 12 ∨ k = 13 ∨ k = 14 ∨ k = 15 ∨ k = 16 ∨ k = 17 ∨ k = 18 ∨ k = 19 := by omega
 rcases hk with rfl | rfl | rfl | rfl | rfl | rfl | rfl | rfl | rfl | rfl | rfl | rfl | rfl <;> decide
theorem lvl_out {k : Int} (h : k < 5 ∨ 19 < k) : lvl k = 7 := by
 unfold lvl
 rw [if_neg (by omega), if_neg (by omega), if_neg (by omega), if_neg (by omega), if_neg (by omega), if_neg (by omega)]
theorem level_eq (k : Int) : expr_level k = some (lvl k) := by
 unfold expr_level
 by_cases h5 : k = 5
 · subst h5; rfl
 · rw [if_neg h5]
   by_cases h6 : k = 6
   · subst h6; rfl
   · rw [if_neg h6, between_eq, bind_some_eq]
     by_cases h : 7 ≤ k ∧ k ≤ 19
     · obtain ⟨h1, h2, h3⟩ := btw_in h.1 h.2
       rw [h1, if_pos (by omega)]
     · unfold btw
       rw [find_kind k (by omega)]
       rw [if_neg (by simp), lvl_out (by omega)]
def plc (k : Int) : List Int := if lvl k = 7 then [] else if lvl k = 6 then [6] else [lft k, rgt k]
theorem lvl_rng (k : Int) : 1 ≤ lvl k ∧ lvl k ≤ 7 := by
 unfold lvl
 repeat' split
 all_goals omega
theorem places_eq (k : Int) : expr_places k = some (plc k) := by
 unfold expr_places plc
 have hr := lvl_rng k
 rw [level_eq, bind_some_eq]
 by_cases h7 : lvl k = 7
 · rw [if_pos h7, if_pos h7]
 · rw [if_neg h7, if_neg h7]
   by_cases h6 : lvl k = 6
   · rw [if_pos h6, if_pos h6]
   · rw [if_neg h6, if_neg h6]
     unfold lft rgt
     by_cases h3 : lvl k = 3
     · rw [if_pos h3, if_pos h3, if_pos h3]
     · rw [if_neg h3, if_neg h3, if_neg h3, w64_in (by omega) (by omega)]
def Is : T → api_Expr → Prop
 | .num n, e => e.Kind = 1 ∧ e.N = n ∧ e.Name = [] ∧ e.Kids = []
 | .var s, e => e.Kind = 2 ∧ e.N = 0 ∧ e.Name = s ∧ e.Kids = []
 | .arg, e => e.Kind = 3 ∧ e.N = 0 ∧ e.Name = [] ∧ e.Kids = []
 | .isin s, e => e.Kind = 4 ∧ e.N = 0 ∧ e.Name = s ∧ e.Kids = []
 | .un k t, e => e.Kind = k ∧ e.N = 0 ∧ e.Name = [] ∧ ∃ x, e.Kids = [x] ∧ Is t x
 | .bin k a b, e => e.Kind = k ∧ e.N = 0 ∧ e.Name = [] ∧ ∃ x y, e.Kids = [x, y] ∧ Is a x ∧ Is b y
theorem eta (e : api_Expr) : api_Expr.mk e.Kind e.N e.Name e.Kids e.At = e := by cases e; rfl
theorem Is.kind {t : T} {e : api_Expr} (h : Is t e) : e.Kind = t.kind := by cases t <;> exact h.1
def T.ok : T → Prop
 | .num n => 0 ≤ n ∧ n ≤ 9223372036854775807
 | .var s => nameP s = true
 | .arg => True
 | .isin s => nameP s = true
 | .un k t => (k = 5 ∨ k = 6) ∧ t.ok
 | .bin k a b => (7 ≤ k ∧ k ≤ 19) ∧ a.ok ∧ b.ok
def par (c : Prop) [Decidable c] (s : List UInt8) : List UInt8 := if c then 40 :: s ++ [41] else s
def pr : T → Int → List UInt8
 | .num n, a => par (7 < a) (Lib.itoa n)
 | .var s, a => par (7 < a) s
 | .arg, a => par (7 < a) [36]
 | .isin s, a => par (7 < a) (s_in_xcc76e ++ s ++ s_rp)
 | .un k t, a => par (6 < a) ((if k = 5 then 45 else 33) :: pr t 6)
 | .bin k x y, a => par (lvl k < a) (pr x (lft k) ++ (s_sp ++ txt k ++ s_sp) ++ pr y (rgt k))
def T.sz : T → Nat
 | .un _ t => t.sz + 1
 | .bin _ a b => a.sz + b.sz + 1
 | _ => 1
theorem byte_eq {b : List UInt8} {c : Int} (h : b.length + 1 ≤ 140737488355328) (h0 : 0 ≤ c) (h1 : c < 256) : bldByte b c = some (true, b ++ [c.toNat.toUInt8]) := by
 unfold bldByte; rw [if_pos ⟨h, h0, h1⟩]
theorem str_eq {b s : List UInt8} (h : b.length + s.length ≤ 140737488355328) : bldStr b s = some ((s.length : Int), true, b ++ s) := by
 unfold bldStr; rw [if_pos h]
theorem txt_len (k : Int) : (txt k).length ≤ 2 := by
 unfold txt
 split
 · rename_i p hp
   have := List.mem_of_find?_eq_some hp
   simp only [signsL, List.mem_cons, List.not_mem_nil, or_false] at this
   rcases this with rfl | rfl | rfl | rfl | rfl | rfl | rfl | rfl | rfl | rfl | rfl | rfl | rfl <;> decide
 · exact Nat.zero_le _
theorem par_len (c : Prop) [Decidable c] (s : List UInt8) : s.length ≤ (par c s).length ∧ (par c s).length ≤ s.length + 2 := by
 unfold par
 split <;> simp <;> omega
end Go.Sy.Ex
namespace Go.Sy.Ex
open Go.Sy
theorem par_t {c : Prop} [Decidable c] (h : c) (s : List UInt8) : par c s = 40 :: s ++ [41] := if_pos h
theorem par_f {c : Prop} [Decidable c] (h : ¬ c) (s : List UInt8) : par c s = s := if_neg h
theorem pl1 {k : Int} (h : k < 5 ∨ 19 < k) : plc k = [] := by unfold plc; rw [if_pos (lvl_out h)]
theorem pl2 {k : Int} (h : k = 5 ∨ k = 6) : plc k = [6] := by rcases h with rfl | rfl <;> decide
theorem pl3 {k : Int} (h : 7 ≤ k ∧ k ≤ 19) : plc k = [lft k, rgt k] := by
 have := (btw_in h.1 h.2).2
 unfold plc
 rw [if_neg (by omega), if_neg (by omega)]
theorem fmt_eq {n : Int} (h0 : 0 ≤ n) (h1 : n ≤ 9223372036854775807) : p_FormatInt n 10 = some (Lib.itoa n) := by unfold p_FormatInt; rw [if_pos ⟨rfl, by omega, h1⟩]
theorem itoa_len {n : Int} (h0 : 0 ≤ n) (h1 : n ≤ 9223372036854775807) : (Lib.itoa n).length ≤ 19 := by rw [itoa_pos h0]; exact dec_len 18 _ (by omega)
theorem wb_0 (self : List UInt8 → api_Expr → Int → Option (List UInt8)) (k : Nat) (r : List UInt8) (K N : Int) (Nm : List UInt8) (Ks : List api_Expr) (At : Int) : expr_write_l0b self (k + 1) r K N Nm Ks At [] ((([] : List Int).length : Nat) : Int) 0 = (some r) := by
 simp only [expr_write_l0b]
 rw [if_neg (by simp)]
theorem wb_1 (self : List UInt8 → api_Expr → Int → Option (List UInt8)) (k : Nat) (b r : List UInt8) (K N : Int) (Nm : List UInt8) (x : api_Expr) (At : Int) (p : Int) (h : self b x p = some r) : expr_write_l0b self (k + 2) b K N Nm [x] At [p] ((([p] : List Int).length : Nat) : Int) 0 = (some r) := by
 rw [show (([p] : List Int).length : Int) = 1 from rfl]
 simp only [expr_write_l0b]
 rw [if_pos (by omega), if_pos (by omega), if_pos (by simp), if_neg (by simp), if_neg (by omega), if_pos (by omega), if_pos (by simp)]
 rw [show [x].getD (0 : Int).toNat api_Expr.z = x from rfl, show [p].getD (0 : Int).toNat 0 = p from rfl, h, bind_some_eq]
 rw [show w64 (0 + 1) = 1 from by decide, if_neg (by omega)]
theorem wb_2 (self : List UInt8 → api_Expr → Int → Option (List UInt8)) (k : Nat) (b r1 r : List UInt8) (K N : Int) (Nm : List UInt8) (x y : api_Expr) (At : Int) (p q : Int) (hK : 7 ≤ K ∧ K ≤ 19) (h : self b x p = some r1) (h2 : self (r1 ++ (s_sp ++ txt K ++ s_sp)) y q = some r) (hl : r1.length + (s_sp ++ txt K ++ s_sp).length ≤ 140737488355328) : expr_write_l0b self (k + 3) b K N Nm [x, y] At [p, q] ((([p, q] : List Int).length : Nat) : Int) 0 = (some r) := by
 rw [show (([p, q] : List Int).length : Int) = 2 from rfl]
 have ht := txt_len K
 simp only [expr_write_l0b]
 rw [if_pos (by omega), if_pos (by omega), if_pos (by simp), if_neg (by simp), if_neg (by omega), if_pos (by omega), if_pos (by simp)]
 rw [show [x, y].getD (0 : Int).toNat api_Expr.z = x from rfl, show [p, q].getD (0 : Int).toNat 0 = p from rfl, h, bind_some_eq]
 rw [show w64 (0 + 1) = 1 from by decide, if_pos (by omega), if_pos (by omega), if_pos (by simp), if_neg (by simp), if_pos (by omega), between_eq, bind_some_eq, (btw_in hK.1 hK.2).1]
 dsimp only
 rw [if_pos (by simp; omega), if_pos (by simp; omega), str_eq hl, bind_some_eq, if_pos (by omega), if_pos (by simp)]
 rw [show [x, y].getD (1 : Int).toNat api_Expr.z = y from rfl, show [p, q].getD (1 : Int).toNat 0 = q from rfl]
 dsimp only
 rw [h2, bind_some_eq, show w64 (1 + 1) = 2 from by decide, if_neg (by omega)]
theorem w_0 (self : List UInt8 → api_Expr → Int → Option (List UInt8)) (k : Nat) (r : List UInt8) (K N : Int) (Nm : List UInt8) (Ks : List api_Expr) (At : Int) : expr_write_l0 self (k + 1) r K N Nm Ks At [] ((([] : List Int).length : Nat) : Int) 0 = ((bldByte r 41).bind fun q => some q.2) := by
 simp only [expr_write_l0]
 rw [if_neg (by simp)]
theorem w_1 (self : List UInt8 → api_Expr → Int → Option (List UInt8)) (k : Nat) (b r : List UInt8) (K N : Int) (Nm : List UInt8) (x : api_Expr) (At : Int) (p : Int) (h : self b x p = some r) : expr_write_l0 self (k + 2) b K N Nm [x] At [p] ((([p] : List Int).length : Nat) : Int) 0 = ((bldByte r 41).bind fun q => some q.2) := by
 rw [show (([p] : List Int).length : Int) = 1 from rfl]
 simp only [expr_write_l0]
 rw [if_pos (by omega), if_pos (by omega), if_pos (by simp), if_neg (by simp), if_neg (by omega), if_pos (by omega), if_pos (by simp)]
 rw [show [x].getD (0 : Int).toNat api_Expr.z = x from rfl, show [p].getD (0 : Int).toNat 0 = p from rfl, h, bind_some_eq]
 rw [show w64 (0 + 1) = 1 from by decide, if_neg (by omega)]
theorem w_2 (self : List UInt8 → api_Expr → Int → Option (List UInt8)) (k : Nat) (b r1 r : List UInt8) (K N : Int) (Nm : List UInt8) (x y : api_Expr) (At : Int) (p q : Int) (hK : 7 ≤ K ∧ K ≤ 19) (h : self b x p = some r1) (h2 : self (r1 ++ (s_sp ++ txt K ++ s_sp)) y q = some r) (hl : r1.length + (s_sp ++ txt K ++ s_sp).length ≤ 140737488355328) : expr_write_l0 self (k + 3) b K N Nm [x, y] At [p, q] ((([p, q] : List Int).length : Nat) : Int) 0 = ((bldByte r 41).bind fun q => some q.2) := by
 rw [show (([p, q] : List Int).length : Int) = 2 from rfl]
 have ht := txt_len K
 simp only [expr_write_l0]
 rw [if_pos (by omega), if_pos (by omega), if_pos (by simp), if_neg (by simp), if_neg (by omega), if_pos (by omega), if_pos (by simp)]
 rw [show [x, y].getD (0 : Int).toNat api_Expr.z = x from rfl, show [p, q].getD (0 : Int).toNat 0 = p from rfl, h, bind_some_eq]
 rw [show w64 (0 + 1) = 1 from by decide, if_pos (by omega), if_pos (by omega), if_pos (by simp), if_neg (by simp), if_pos (by omega), between_eq, bind_some_eq, (btw_in hK.1 hK.2).1]
 dsimp only
 rw [if_pos (by simp; omega), if_pos (by simp; omega), str_eq hl, bind_some_eq, if_pos (by omega), if_pos (by simp)]
 rw [show [x, y].getD (1 : Int).toNat api_Expr.z = y from rfl, show [p, q].getD (1 : Int).toNat 0 = q from rfl]
 dsimp only
 rw [h2, bind_some_eq, show w64 (1 + 1) = 2 from by decide, if_neg (by omega)]
theorem close_eq {r : List UInt8} (h : r.length + 1 ≤ 140737488355328) : ((bldByte r 41).bind fun q => some q.2) = some (r ++ [41]) := by
 rw [byte_eq h (by omega) (by omega), bind_some_eq]; rfl
theorem write_run : ∀ (t : T) (e : api_Expr) (b : List UInt8) (a : Int), Is t e → t.ok → (b ++ pr t a).length ≤ 140737488355328 → ∀ k, t.sz + 3 ≤ k → expr_write_f k b e a = some (b ++ pr t a) := by
 intro t
 induction t with
 | num n =>
  intro e b a h hok hl k hk
  obtain ⟨k, rfl⟩ : ∃ j, k = j + 2 := ⟨k - 2, by have : 1 ≤ T.sz (.num n) := Nat.le_refl _; omega⟩
  obtain ⟨h1, h2, h3, h4⟩ := h
  have hlv : lvl 1 = 7 := by decide
  have hpl : plc 1 = [] := by decide
  show expr_write_b (expr_write_f (k + 1)) (k + 1) b e a = _
  unfold expr_write_b
  rw [h1, level_eq, bind_some_eq, hlv]
  unfold pr at hl ⊢
  by_cases ha : 7 < a
  · rw [par_t ha] at hl ⊢
    rw [if_pos ha]
    simp only [List.length_append, List.length_cons, List.length_nil] at hl
    rw [byte_eq (by omega) (by omega) (by omega), bind_some_eq]
    dsimp only
    rw [if_pos rfl, h2, fmt_eq hok.1 hok.2, bind_some_eq, str_eq (by simp only [List.length_append, List.length_cons, List.length_nil]; omega), bind_some_eq]
    dsimp only
    rw [places_eq, bind_some_eq, hpl, w_0, close_eq (by simp only [List.length_append, List.length_cons, List.length_nil]; omega)]
    simp [List.append_assoc]
  · rw [par_f ha] at hl ⊢
    rw [if_neg ha]
    simp only [List.length_append, List.length_cons, List.length_nil] at hl
    rw [if_pos rfl, h2, fmt_eq hok.1 hok.2, bind_some_eq, str_eq (by omega), bind_some_eq]
    dsimp only
    rw [places_eq, bind_some_eq, hpl, wb_0]
 | var s =>
  intro e b a h hok hl k hk
  obtain ⟨k, rfl⟩ : ∃ j, k = j + 2 := ⟨k - 2, by have : 1 ≤ T.sz (.var s) := Nat.le_refl _; omega⟩
  obtain ⟨h1, h2, h3, h4⟩ := h
  have hlv : lvl 2 = 7 := by decide
  have hpl : plc 2 = [] := by decide
  show expr_write_b (expr_write_f (k + 1)) (k + 1) b e a = _
  unfold expr_write_b
  rw [h1, level_eq, bind_some_eq, hlv]
  unfold pr at hl ⊢
  by_cases ha : 7 < a
  · rw [par_t ha] at hl ⊢
    rw [if_pos ha]
    simp only [List.length_append, List.length_cons, List.length_nil] at hl
    rw [byte_eq (by omega) (by omega) (by omega), bind_some_eq]
    dsimp only
    rw [if_neg (by decide), if_neg (by decide), if_pos rfl, h3, str_eq (by simp only [List.length_append, List.length_cons, List.length_nil]; omega), bind_some_eq]
    dsimp only
    rw [places_eq, bind_some_eq, hpl, w_0, close_eq (by simp only [List.length_append, List.length_cons, List.length_nil]; omega)]
    simp [List.append_assoc]
  · rw [par_f ha] at hl ⊢
    rw [if_neg ha]
    simp only [List.length_append, List.length_cons, List.length_nil] at hl
    rw [if_neg (by decide), if_neg (by decide), if_pos rfl, h3, str_eq (by omega), bind_some_eq]
    dsimp only
    rw [places_eq, bind_some_eq, hpl, wb_0]
 | arg =>
  intro e b a h hok hl k hk
  obtain ⟨k, rfl⟩ : ∃ j, k = j + 2 := ⟨k - 2, by have : 1 ≤ T.sz (.arg) := Nat.le_refl _; omega⟩
  obtain ⟨h1, h2, h3, h4⟩ := h
  have hlv : lvl 3 = 7 := by decide
  have hpl : plc 3 = [] := by decide
  show expr_write_b (expr_write_f (k + 1)) (k + 1) b e a = _
  unfold expr_write_b
  rw [h1, level_eq, bind_some_eq, hlv]
  unfold pr at hl ⊢
  by_cases ha : 7 < a
  · rw [par_t ha] at hl ⊢
    rw [if_pos ha]
    simp only [List.length_append, List.length_cons, List.length_nil] at hl
    rw [byte_eq (by omega) (by omega) (by omega), bind_some_eq]
    dsimp only
    rw [if_neg (by decide), if_pos rfl, byte_eq (by simp only [List.length_append, List.length_cons, List.length_nil]; omega) (by omega) (by omega), bind_some_eq]
    dsimp only
    rw [places_eq, bind_some_eq, hpl, w_0, close_eq (by simp only [List.length_append, List.length_cons, List.length_nil]; omega)]
    simp [List.append_assoc]
  · rw [par_f ha] at hl ⊢
    rw [if_neg ha]
    simp only [List.length_append, List.length_cons, List.length_nil] at hl
    rw [if_neg (by decide), if_pos rfl, byte_eq (by omega) (by omega) (by omega), bind_some_eq]
    dsimp only
    rw [places_eq, bind_some_eq, hpl, wb_0]
    rfl
 | isin s =>
  intro e b a h hok hl k hk
  obtain ⟨k, rfl⟩ : ∃ j, k = j + 2 := ⟨k - 2, by have : 1 ≤ T.sz (.isin s) := Nat.le_refl _; omega⟩
  obtain ⟨h1, h2, h3, h4⟩ := h
  have hlv : lvl 4 = 7 := by decide
  have hpl : plc 4 = [] := by decide
  show expr_write_b (expr_write_f (k + 1)) (k + 1) b e a = _
  unfold expr_write_b
  rw [h1, level_eq, bind_some_eq, hlv]
  unfold pr at hl ⊢
  have hs24 := (name_split hok).2.1
  by_cases ha : 7 < a
  · rw [par_t ha] at hl ⊢
    rw [if_pos ha]
    simp only [List.length_append, List.length_cons, List.length_nil] at hl
    rw [byte_eq (by omega) (by omega) (by omega), bind_some_eq]
    dsimp only
    rw [if_neg (by decide), if_neg (by decide), if_neg (by decide), if_pos rfl, h3, if_pos (by simp only [s_in_xcc76e, List.length_cons, List.length_nil]; omega), if_pos (by simp only [s_in_xcc76e, s_rp, List.length_append, List.length_cons, List.length_nil]; omega), str_eq (by simp only [s_in_xcc76e, s_rp, List.length_append, List.length_cons, List.length_nil] at hl ⊢; omega), bind_some_eq]
    dsimp only
    rw [places_eq, bind_some_eq, hpl, w_0, close_eq (by simp only [s_in_xcc76e, s_rp, List.length_append, List.length_cons, List.length_nil] at hl ⊢; omega)]
    simp [List.append_assoc]
  · rw [par_f ha] at hl ⊢
    rw [if_neg ha]
    simp only [List.length_append, List.length_cons, List.length_nil] at hl
    rw [if_neg (by decide), if_neg (by decide), if_neg (by decide), if_pos rfl, h3, if_pos (by simp only [s_in_xcc76e, List.length_cons, List.length_nil]; omega), if_pos (by simp only [s_in_xcc76e, s_rp, List.length_append, List.length_cons, List.length_nil]; omega), str_eq (by simp only [s_in_xcc76e, s_rp, List.length_append, List.length_cons, List.length_nil] at hl ⊢; omega), bind_some_eq]
    dsimp only
    rw [places_eq, bind_some_eq, hpl, wb_0]
 | un k0 t ih =>
  intro e b a h hok hl k hk
  obtain ⟨k, rfl⟩ : ∃ j, k = j + 3 := ⟨k - 3, by omega⟩
  obtain ⟨h1, h2, h3, x, h4, hx⟩ := h
  show expr_write_b (expr_write_f (k + 2)) (k + 2) b e a = _
  unfold expr_write_b
  rw [h1, level_eq, bind_some_eq]
  unfold pr at hl ⊢
  obtain ⟨hk0, hok'⟩ := id hok
  rcases hk0 with h5 | h5
  · subst h5
    have hlv : lvl 5 = 6 := by decide
    have hpl : plc 5 = [6] := by decide
    rw [hlv]
    by_cases ha : 6 < a
    · rw [par_t ha] at hl ⊢
      rw [if_pos ha]
      simp only [List.length_append, List.length_cons, List.length_nil] at hl
      have hsub := ih x ((b ++ [(40 : Int).toNat.toUInt8]) ++ [(45 : Int).toNat.toUInt8]) 6 hx hok.2 (by simp only [List.length_append, List.length_cons, List.length_nil]; omega) (k + 2) (by simp only [T.sz] at hk; omega)
      rw [byte_eq (by omega) (by omega) (by omega), bind_some_eq]
      dsimp only
      rw [if_neg (by decide), if_neg (by decide), if_neg (by decide), if_neg (by decide), if_pos rfl, byte_eq (by simp only [List.length_append, List.length_cons, List.length_nil]; omega) (by omega) (by omega), bind_some_eq]
      dsimp only
      rw [places_eq, bind_some_eq, hpl, h4, w_1 _ _ _ _ _ _ _ _ _ _ hsub, close_eq (by simp only [List.length_append, List.length_cons, List.length_nil]; omega)]
      simp [List.append_assoc]
    · rw [par_f ha] at hl ⊢
      rw [if_neg ha]
      simp only [List.length_append, List.length_cons, List.length_nil] at hl
      have hsub := ih x (b ++ [(45 : Int).toNat.toUInt8]) 6 hx hok.2 (by simp only [List.length_append, List.length_cons, List.length_nil]; omega) (k + 2) (by simp only [T.sz] at hk; omega)
      rw [if_neg (by decide), if_neg (by decide), if_neg (by decide), if_neg (by decide), if_pos rfl, byte_eq (by omega) (by omega) (by omega), bind_some_eq]
      dsimp only
      rw [places_eq, bind_some_eq, hpl, h4, wb_1 _ _ _ _ _ _ _ _ _ _ hsub]
      simp [List.append_assoc]
  · subst h5
    have hlv : lvl 6 = 6 := by decide
    have hpl : plc 6 = [6] := by decide
    rw [hlv]
    by_cases ha : 6 < a
    · rw [par_t ha] at hl ⊢
      rw [if_pos ha]
      simp only [List.length_append, List.length_cons, List.length_nil] at hl
      have hsub := ih x ((b ++ [(40 : Int).toNat.toUInt8]) ++ [(33 : Int).toNat.toUInt8]) 6 hx hok.2 (by simp only [List.length_append, List.length_cons, List.length_nil]; omega) (k + 2) (by simp only [T.sz] at hk; omega)
      rw [byte_eq (by omega) (by omega) (by omega), bind_some_eq]
      dsimp only
      rw [if_neg (by decide), if_neg (by decide), if_neg (by decide), if_neg (by decide), if_neg (by decide), if_pos rfl, byte_eq (by simp only [List.length_append, List.length_cons, List.length_nil]; omega) (by omega) (by omega), bind_some_eq]
      dsimp only
      rw [places_eq, bind_some_eq, hpl, h4, w_1 _ _ _ _ _ _ _ _ _ _ hsub, close_eq (by simp only [List.length_append, List.length_cons, List.length_nil]; omega)]
      simp [List.append_assoc]
    · rw [par_f ha] at hl ⊢
      rw [if_neg ha]
      simp only [List.length_append, List.length_cons, List.length_nil] at hl
      have hsub := ih x (b ++ [(33 : Int).toNat.toUInt8]) 6 hx hok.2 (by simp only [List.length_append, List.length_cons, List.length_nil]; omega) (k + 2) (by simp only [T.sz] at hk; omega)
      rw [if_neg (by decide), if_neg (by decide), if_neg (by decide), if_neg (by decide), if_neg (by decide), if_pos rfl, byte_eq (by omega) (by omega) (by omega), bind_some_eq]
      dsimp only
      rw [places_eq, bind_some_eq, hpl, h4, wb_1 _ _ _ _ _ _ _ _ _ _ hsub]
      simp [List.append_assoc]
 | bin k0 x0 y0 ihx ihy =>
  intro e b a h hok hl k hk
  obtain ⟨k, rfl⟩ : ∃ j, k = j + 4 := ⟨k - 4, by simp only [T.sz] at hk; omega⟩
  obtain ⟨h1, h2, h3, x, y, h4, hx, hy⟩ := h
  obtain ⟨hk0, hokx, hoky⟩ := id hok
  have hpl := pl3 hk0
  show expr_write_b (expr_write_f (k + 3)) (k + 3) b e a = _
  unfold expr_write_b
  rw [h1, level_eq, bind_some_eq]
  unfold pr at hl ⊢
  have hsp : s_sp.length = 1 := rfl
  have hszx : 1 ≤ x0.sz := by cases x0 <;> simp [T.sz]
  have hszy : 1 ≤ y0.sz := by cases y0 <;> simp [T.sz]
  by_cases ha : lvl k0 < a
  · rw [par_t ha] at hl ⊢
    rw [if_pos ha]
    simp only [List.length_append, List.length_cons, List.length_nil] at hl
    have ht := txt_len k0
    have hsx := ihx x (b ++ [(40 : Int).toNat.toUInt8]) (lft k0) hx hokx (by simp only [List.length_append, List.length_cons, List.length_nil]; omega) (k + 3) (by simp only [T.sz] at hk; omega)
    have hsy := ihy y (((b ++ [(40 : Int).toNat.toUInt8]) ++ pr x0 (lft k0)) ++ (s_sp ++ txt k0 ++ s_sp)) (rgt k0) hy hoky (by simp only [List.length_append, List.length_cons, List.length_nil]; omega) (k + 3) (by simp only [T.sz] at hk; omega)
    rw [byte_eq (by omega) (by omega) (by omega), bind_some_eq]
    dsimp only
    rw [if_neg (by omega), if_neg (by omega), if_neg (by omega), if_neg (by omega), if_neg (by omega), if_neg (by omega), places_eq, bind_some_eq, hpl, h4, w_2 _ _ _ _ _ _ _ _ _ _ _ _ _ hk0 hsx hsy (by simp only [List.length_append, List.length_cons, List.length_nil]; omega), close_eq (by simp only [List.length_append, List.length_cons, List.length_nil]; omega)]
    simp [List.append_assoc]
  · rw [par_f ha] at hl ⊢
    rw [if_neg ha]
    simp only [List.length_append, List.length_cons, List.length_nil] at hl
    have ht := txt_len k0
    have hsx := ihx x b (lft k0) hx hokx (by simp only [List.length_append, List.length_cons, List.length_nil]; omega) (k + 3) (by simp only [T.sz] at hk; omega)
    have hsy := ihy y ((b ++ pr x0 (lft k0)) ++ (s_sp ++ txt k0 ++ s_sp)) (rgt k0) hy hoky (by simp only [List.length_append, List.length_cons, List.length_nil]; omega) (k + 3) (by simp only [T.sz] at hk; omega)
    rw [if_neg (by omega), if_neg (by omega), if_neg (by omega), if_neg (by omega), if_neg (by omega), if_neg (by omega), places_eq, bind_some_eq, hpl, h4, wb_2 _ _ _ _ _ _ _ _ _ _ _ _ _ hk0 hsx hsy (by simp only [List.length_append, List.length_cons, List.length_nil]; omega)]
    simp [List.append_assoc]
theorem print_eq {t : T} {e : api_Expr} (h : Is t e) (hok : t.ok) (hl : (pr t 1).length ≤ 140737488355328) : expr_Print e = some (pr t 1) := by
 unfold expr_Print expr_write
 have : lim (fun k (x : List UInt8 × api_Expr × Int) => expr_write_f k x.1 x.2.1 x.2.2) ([], api_Expr.mk e.Kind e.N e.Name e.Kids e.At, 1) = some (pr t 1) :=
  lim_eq (t.sz + 3) fun k hk => by
   have := write_run t (api_Expr.mk e.Kind e.N e.Name e.Kids e.At) [] 1 (by cases t <;> exact h) hok (by simpa using hl) k hk
   rw [List.nil_append] at this
   exact this
 rw [this, bind_some_eq]
 rfl
end Go.Sy.Ex
namespace Go.Sy.Ex
open Go.Sy
def st (l : List api_Token) (i o : Nat) : expr_reader := ⟨⟨l, (i : Int), ⟨0, 0⟩⟩, (o : Int)⟩
def tkn (l : List api_Token) (i : Nat) : api_Token := l.getD i api_Token.z
def isT (t : api_Token) (s : List UInt8) : Bool := decide ((t.Kind = 3 ∨ t.Kind = 1) ∧ t.Text = s)
section
variable {l : List api_Token} {i o : Nat}
theorem ok_st : read_Row_OK_1 (st l i o) = some (true, st l i o) := rfl
theorem look_st (hi : i < l.length) : read_Row_Look_1 (st l i o) = some (tkn l i, st l i o) := by
 unfold read_Row_Look_1
 rw [ok_st, bind_some_eq]
 have h1 : ¬ ((i : Nat) : Int) < 0 := by omega
 have h2 : ¬ (l.length : Int) ≤ ((i : Nat) : Int) := by omega
 have h3 : 0 ≤ ((i : Nat) : Int) := by omega
 have h4 : ((i : Nat) : Int) < (l.length : Int) := by omega
 simp only [Bool.not_true, cond_false, st, Int.toNat_natCast, h1, h2, h3, h4, if_true, if_false]; rfl
theorem is_st (hi : i < l.length) (s : List UInt8) : read_Row_Is_1 (st l i o) s = some (isT (tkn l i) s, st l i o) := by
 unfold read_Row_Is_1 isT
 rw [look_st hi, bind_some_eq]
 dsimp only
 by_cases h3 : (tkn l i).Kind = 3
 · rw [if_pos h3]; congr 2; rw [decide_eq_decide]; simp [h3]
 · rw [if_neg h3]
   by_cases h1 : (tkn l i).Kind = 1
   · rw [if_pos h1]; congr 2; rw [decide_eq_decide]; simp [h1]
   · rw [if_neg h1]
     congr 2
     symm
     rw [decide_eq_false_iff_not]
     rintro ⟨h | h, _⟩ <;> contradiction
theorem next_i (hi : i < l.length) (hl : l.length ≤ 100000) : w64 (((i : Nat) : Int) + 1) = ((i + 1 : Nat) : Int) := by rw [w64_in (by omega) (by omega)]; omega
theorem take_st (hi : i < l.length) (hl : l.length ≤ 100000) (s : List UInt8) : read_Row_Take_1 (st l i o) s = some (isT (tkn l i) s, if isT (tkn l i) s = true then st l (i + 1) o else st l i o) := by
 unfold read_Row_Take_1
 rw [is_st hi, bind_some_eq]
 dsimp only
 cases h : isT (tkn l i) s with
 | true =>
  rw [cond_true, if_pos rfl]
  show some (true, (⟨⟨l, w64 (((i : Nat) : Int) + 1), ⟨0, 0⟩⟩, (o : Int)⟩ : expr_reader)) = _
  rw [next_i hi hl]; rfl
 | false => rw [cond_false, if_neg (by simp)]
theorem want_st (hi : i < l.length) (hl : l.length ≤ 100000) {s : List UInt8} (h : isT (tkn l i) s = true) : read_Row_Want_1 (st l i o) s = some (st l (i + 1) o) := by
 unfold read_Row_Want_1
 rw [take_st hi hl, bind_some_eq, h]; rfl
theorem isname_st (hi : i < l.length) : read_Row_IsName_1 (st l i o) = some (decide ((tkn l i).Kind = 1) && !resP (tkn l i).Text, st l i o) := by
 unfold read_Row_IsName_1
 rw [look_st hi, bind_some_eq]
 dsimp only
 by_cases h1 : (tkn l i).Kind = 1
 · rw [if_pos h1, lres_eq, bind_some_eq, decide_eq_true h1]; rfl
 · rw [if_neg h1, decide_eq_false h1]; rfl
theorem name_st (hi : i < l.length) (hl : l.length ≤ 100000) (h1 : (tkn l i).Kind = 1) (h2 : resP (tkn l i).Text = false) : read_Row_Name_1 (st l i o) = some ((tkn l i).Text, st l (i + 1) o) := by
 unfold read_Row_Name_1
 rw [isname_st hi, bind_some_eq]
 dsimp only
 rw [decide_eq_true h1, h2]
 show (if 0 ≤ w64 (w64 (((i : Nat) : Int) + 1) - 1) then if w64 (w64 (((i : Nat) : Int) + 1) - 1) < (l.length : Int) then some ((l.getD (w64 (w64 (((i : Nat) : Int) + 1) - 1)).toNat api_Token.z).Text, (⟨⟨l, w64 (((i : Nat) : Int) + 1), ⟨0, 0⟩⟩, (o : Int)⟩ : expr_reader)) else none else none) = _
 rw [next_i hi hl, show w64 (((i + 1 : Nat) : Int) - 1) = ((i : Nat) : Int) from by rw [w64_in (by omega) (by omega)]; omega, if_pos (by omega), if_pos (by omega), Int.toNat_natCast]
 rfl
theorem deep_st (hi : i < l.length) (hl : l.length ≤ 100000) (ho : o < 12) (a : Int) : expr_reader_deep (st l i o) a = some (true, st l (i + 1) (o + 1)) := by
 unfold expr_reader_deep
 show (if ((o : Nat) : Int) = 12 then _ else some (true, (⟨⟨l, w64 (((i : Nat) : Int) + 1), ⟨0, 0⟩⟩, w64 (((o : Nat) : Int) + 1)⟩ : expr_reader))) = _
 rw [if_neg (by omega), next_i hi hl, show w64 (((o : Nat) : Int) + 1) = ((o + 1 : Nat) : Int) from by rw [w64_in (by omega) (by omega)]; omega]
 rfl
end
def Seq (l : List api_Token) (i : Nat) : List Tk → Prop
 | [] => True
 | k :: K => i < l.length ∧ strip (tkn l i) = k ∧ Seq l (i + 1) K
theorem Seq.append {l : List api_Token} : ∀ {i : Nat} {K K' : List Tk}, Seq l i (K ++ K') ↔ Seq l i K ∧ Seq l (i + K.length) K'
 | i, [], K' => by simp [Seq]
 | i, k :: K, K' => by
  rw [List.cons_append]
  simp only [Seq, List.length_cons]
  rw [Seq.append, show i + 1 + K.length = i + (K.length + 1) from by omega]
  constructor
  · rintro ⟨a, b, c, d⟩; exact ⟨⟨a, b, c⟩, d⟩
  · rintro ⟨⟨a, b, c⟩, d⟩; exact ⟨a, b, c, d⟩
def parT (c : Prop) [Decidable c] (K : List Tk) : List Tk := if c then (3, s_lp, 0) :: K ++ [(3, s_rp, 0)] else K
def toks : T → Int → List Tk
 | .num n, a => parT (7 < a) [(2, Lib.itoa n, n)]
 | .var s, a => parT (7 < a) [(1, s, 0)]
 | .arg, a => parT (7 < a) [(3, s_dollar, 0)]
 | .isin s, a => parT (7 < a) [(1, s_in, 0), (3, s_lp, 0), (1, s, 0), (3, s_rp, 0)]
 | .un k t, a => parT (6 < a) ((3, if k = 5 then s_minus else s_bang, 0) :: toks t 6)
 | .bin k x y, a => parT (lvl k < a) (toks x (lft k) ++ (3, txt k, 0) :: toks y (rgt k))
def parN (c : Prop) [Decidable c] (n : Nat) : Nat := if c then n + 1 else n
def nst : T → Int → Nat
 | .un k t, a => parN (6 < a) (nst t 6 + 1)
 | .bin k x y, a => parN (lvl k < a) (max (nst x (lft k)) (nst y (rgt k)))
 | _, a => parN (7 < a) 0
def slv (t : api_Token) : Int := if t.Kind = 3 then (sgn t.Text).2 else 0
def P (t : T) (K : List Tk) (n : Nat) (m : Int) : Prop := ∀ (l : List api_Token) (i o : Nat), l.length ≤ 100000 → Seq l i K → i + K.length < l.length → o + n ≤ 12 → slv (tkn l (i + K.length)) < m →
 ∃ e Z, Is t e ∧ ∀ k, Z ≤ k → expr_reader_part_f k (st l i o) m = some (e, st l (i + K.length) o)
def Sg (t : T) (K : List Tk) (n : Nat) : Prop := ∀ (l : List api_Token) (i o : Nat), l.length ≤ 100000 → Seq l i K → i + K.length < l.length → o + n ≤ 12 →
 ∃ e Z Z2, Is t e ∧ ∀ k, Z ≤ k → ∀ k2, Z2 ≤ k2 → expr_reader_signed_f (expr_reader_part_f k) k2 (st l i o) = some (e, st l (i + K.length) o)
noncomputable def loop (k k' : Nat) (l : List api_Token) (i o : Nat) (m : Int) (e : api_Expr) : Option (api_Expr × expr_reader) :=
 expr_reader_part_l0 (expr_reader_part_f k) k' l ((i : Nat) : Int) 0 0 ((o : Nat) : Int) m 0 0 [] [] 0 e.Kind e.N e.Name e.Kids e.At
def Qp (t : T) (K : List Tk) (n : Nat) (m : Int) : Prop := ∀ (l : List api_Token) (i o : Nat), l.length ≤ 100000 → Seq l i K → i + K.length < l.length → o + n ≤ 12 → slv (tkn l (i + K.length)) ≤ m →
 ∃ e Z j, Is t e ∧ j < Z ∧ ∀ k, Z ≤ k → expr_reader_part_f (k + 1) (st l i o) m = loop k (k - j) l (i + K.length) o m e
theorem part_succ (k : Nat) (l : List api_Token) (i o : Nat) {m : Int} (hm : 1 ≤ m) (hm5 : m ≤ 5) {e : api_Expr} {i' : Nat} (h : expr_reader_part_f k (st l i o) (m + 1) = some (e, st l i' o)) :
 expr_reader_part_f (k + 1) (st l i o) m = loop k k l i' o m e := by
 show expr_reader_part_b (expr_reader_part_f k) k (st l i o) m = _
 unfold expr_reader_part_b
 rw [if_neg (by omega), w64_in (by omega) (by omega), h, bind_some_eq]
 rfl
theorem loop_end (k k' : Nat) (l : List api_Token) (i o : Nat) {m : Int} (hm : 1 ≤ m) (hi : i < l.length) (hs : slv (tkn l i) ≠ m) (e : api_Expr) (hk : 1 ≤ k') : loop k k' l i o m e = some (e, st l i o) := by
 obtain ⟨k', rfl⟩ : ∃ j, k' = j + 1 := ⟨k' - 1, by omega⟩
 unfold loop
 simp only [expr_reader_part_l0]
 rw [show (expr_reader.mk (read_Row.mk l ((i : Nat) : Int) (api_Fault.mk 0 0)) ((o : Nat) : Int)) = st l i o from rfl, look_st hi, bind_some_eq, sign_eq, bind_some_eq, eta]
 dsimp only
 unfold slv at hs
 by_cases h3 : (tkn l i).Kind = 3
 · rw [if_pos h3] at hs
   rw [if_neg (by simpa using h3), if_pos hs]
 · rw [if_pos h3]
theorem loop_step (k k' : Nat) (l : List api_Token) (hl : l.length ≤ 100000) (i o : Nat) {m : Int} (hm : 1 ≤ m) (hm5 : m ≤ 5) (hi : i < l.length) {kd : Int} {tx : List UInt8} (ht : strip (tkn l i) = (3, tx, 0)) (hg : sgn tx = (kd, m)) (e : api_Expr) {y : api_Expr} {i' : Nat}
 (hy : expr_reader_part_f k (st l (i + 1) o) (m + 1) = some (y, st l i' o)) :
 loop k (k' + 1) l i o m e = if m = 3 then some (api_Expr.mk kd 0 [] [e, y] (tkn l i).At, st l i' o) else loop k k' l i' o m (api_Expr.mk kd 0 [] [e, y] (tkn l i).At) := by
 unfold loop
 simp only [expr_reader_part_l0]
 rw [show (expr_reader.mk (read_Row.mk l ((i : Nat) : Int) (api_Fault.mk 0 0)) ((o : Nat) : Int)) = st l i o from rfl, look_st hi, bind_some_eq, sign_eq, bind_some_eq, eta]
 dsimp only
 unfold strip at ht
 simp only [Prod.mk.injEq] at ht
 rw [ht.2.1, hg]
 dsimp only
 rw [if_neg (by simp [ht.1]), if_neg (by simp)]
 rw [show (expr_reader.mk (read_Row.mk (st l i o).Row.L (w64 ((st l i o).Row.At + 1)) (st l i o).Row.Fault) (st l i o).v_open) = st l (i + 1) o from by
  show (⟨⟨l, w64 (((i : Nat) : Int) + 1), ⟨0, 0⟩⟩, (o : Int)⟩ : expr_reader) = _
  rw [next_i hi hl]; rfl]
 rw [w64_in (by omega) (by omega), hy, bind_some_eq]
 simp only [eta]
 rfl
theorem isT_yes {l : List api_Token} {i : Nat} {k : Int} {s : List UInt8} {n : Int} (h : strip (tkn l i) = (k, s, n)) (hk : k = 3 ∨ k = 1) : isT (tkn l i) s = true := by
 unfold strip at h
 simp only [Prod.mk.injEq] at h
 unfold isT
 rw [decide_eq_true_eq, h.1, h.2.1]
 exact ⟨hk, rfl⟩
theorem isT_no {l : List api_Token} {i : Nat} {k : Int} {s s' : List UInt8} {n : Int} (h : strip (tkn l i) = (k, s, n)) (hne : (k ≠ 3 ∧ k ≠ 1) ∨ s ≠ s') : isT (tkn l i) s' = false := by
 unfold strip at h
 simp only [Prod.mk.injEq] at h
 unfold isT
 rw [decide_eq_false_iff_not, h.1, h.2.1]
 rintro ⟨h1, h2⟩
 rcases hne with hne | hne
 · rcases h1 with h1 | h1
   · exact hne.1 h1
   · exact hne.2 h1
 · exact hne h2
end Go.Sy.Ex
namespace Go.Sy.Ex
open Go.Sy
theorem part_6 (k : Nat) (s : expr_reader) : expr_reader_part_f (k + 1) s 6 = (expr_reader_signed (expr_reader_part_f k) s).bind fun r1 => some (api_Expr.mk r1.1.Kind r1.1.N r1.1.Name r1.1.Kids r1.1.At, r1.2) := by
 show expr_reader_part_b (expr_reader_part_f k) k s 6 = _
 unfold expr_reader_part_b
 rw [if_pos rfl]
theorem P6 {t : T} {K : List Tk} {n : Nat} (h : Sg t K n) : P t K n 6 := fun l i o hl hs hi ho _ => by
 obtain ⟨e, Z, Z2, he, hr⟩ := h l i o hl hs hi ho
 refine ⟨e, Z + 1, he, fun k hk => ?_⟩
 obtain ⟨k, rfl⟩ : ∃ j, k = j + 1 := ⟨k - 1, by omega⟩
 rw [part_6, show expr_reader_signed (expr_reader_part_f k) (st l i o) = some (e, st l (i + K.length) o) from lim_eq Z2 fun j hj => hr k (by omega) j hj, bind_some_eq, eta]
theorem Qend {t : T} {K : List Tk} {n : Nat} {m : Int} (h1 : 1 ≤ m) (h : Qp t K n m) : P t K n m := fun l i o hl hs hi ho hv => by
 obtain ⟨e, Z, j, he, hj, hr⟩ := h l i o hl hs hi ho (by omega)
 refine ⟨e, Z + 1, he, fun k hk => ?_⟩
 obtain ⟨k, rfl⟩ : ∃ j, k = j + 1 := ⟨k - 1, by omega⟩
 rw [hr k (by omega)]
 exact loop_end k _ l _ o h1 hi (by omega) e (by omega)
theorem Qdown {t : T} {K : List Tk} {n : Nat} {m : Int} (h1 : 1 ≤ m) (h5 : m ≤ 5) (h : P t K n (m + 1)) : Qp t K n m := fun l i o hl hs hi ho hv => by
 obtain ⟨e, Z, he, hr⟩ := h l i o hl hs hi ho (by omega)
 exact ⟨e, Z + 1, 0, he, by omega, fun k hk => by rw [part_succ k l i o h1 h5 (hr k (by omega)), Nat.sub_zero]⟩
theorem Pdown {t : T} {K : List Tk} {n : Nat} {m : Int} (h1 : 1 ≤ m) (h5 : m ≤ 5) (h : P t K n (m + 1)) : P t K n m := Qend h1 (Qdown h1 h5 h)
theorem par_no {c : Prop} [Decidable c] (h : ¬ c) (K : List Tk) : parT c K = K := if_neg h
theorem par_yes {c : Prop} [Decidable c] (h : c) (K : List Tk) : parT c K = (3, s_lp, 0) :: K ++ [(3, s_rp, 0)] := if_pos h
theorem parN_no {c : Prop} [Decidable c] (h : ¬ c) (n : Nat) : parN c n = n := if_neg h
theorem parN_yes {c : Prop} [Decidable c] (h : c) (n : Nat) : parN c n = n + 1 := if_pos h
theorem slv_of {t : api_Token} {tx : List UInt8} (h : strip t = (3, tx, 0)) : slv t = (sgn tx).2 := by
 unfold strip at h
 simp only [Prod.mk.injEq] at h
 unfold slv
 rw [if_pos h.1, h.2.1]
theorem sgn_txt {k : Int} (h : 7 ≤ k ∧ k ≤ 19) : sgn (txt k) = (k, lvl k) := by
 have hk : k = 7 ∨ k = 8 ∨ k = 9 ∨ k = 10 ∨ k = 11 ∨ k = 12 ∨ k = 13 ∨ k = 14 ∨ k = 15 ∨ k = 16 ∨ k = 17 ∨ k = 18 ∨ k = 19 := by omega
 rcases hk with rfl | rfl | rfl | rfl | rfl | rfl | rfl | rfl | rfl | rfl | rfl | rfl | rfl <;> decide
theorem Qbin {k : Int} {x y : T} {Kx Ky : List Tk} {nx ny : Nat} (hk : 7 ≤ k ∧ k ≤ 19) (h3 : lvl k ≠ 3) (hx : Qp x Kx nx (lvl k)) (hy : P y Ky ny (lvl k + 1)) : Qp (.bin k x y) (Kx ++ (3, txt k, 0) :: Ky) (max nx ny) (lvl k) := fun l i o hl hs hi ho hv => by
 have hr := (btw_in hk.1 hk.2).2
 simp only [List.length_append, List.length_cons] at hi hv ⊢
 obtain ⟨hsx, hio, hop, hsy⟩ := Seq.append.1 hs
 obtain ⟨e, Z, j, he, hj, hr1⟩ := hx l i o hl hsx hio (by omega) (by rw [slv_of hop, sgn_txt hk]; exact Int.le_refl _)
 have hlen : i + Kx.length + 1 + Ky.length = i + (Kx.length + (Ky.length + 1)) := by omega
 obtain ⟨f, Z', hf, hr2⟩ := hy l (i + Kx.length + 1) o hl hsy (by omega) (by omega) (by rw [hlen]; omega)
 refine ⟨api_Expr.mk k 0 [] [e, f] (tkn l (i + Kx.length)).At, max Z Z' + 2, j + 1, ⟨rfl, rfl, rfl, e, f, rfl, he, hf⟩, by omega, fun q hq => ?_⟩
 rw [hr1 q (by omega), show q - j = (q - (j + 1)) + 1 from by omega]
 rw [loop_step q _ l hl _ o hr.1 hr.2 hio hop (sgn_txt hk) e (hr2 q (by omega)), if_neg h3, hlen]
theorem bin3 {k : Int} {x y : T} {Kx Ky : List Tk} {nx ny : Nat} (hk : 7 ≤ k ∧ k ≤ 19) (h3 : lvl k = 3) (hx : P x Kx nx 4) (hy : P y Ky ny 4) (l : List api_Token) (i o : Nat) (hl : l.length ≤ 100000) (hs : Seq l i (Kx ++ (3, txt k, 0) :: Ky)) (hi : i + (Kx ++ (3, txt k, 0) :: Ky).length < l.length) (ho : o + max nx ny ≤ 12) (hv : slv (tkn l (i + (Kx ++ (3, txt k, 0) :: Ky).length)) < 4) :
 ∃ e Z, Is (.bin k x y) e ∧ ∀ q, Z ≤ q → expr_reader_part_f q (st l i o) 3 = some (e, st l (i + (Kx ++ (3, txt k, 0) :: Ky).length) o) := by
 simp only [List.length_append, List.length_cons] at hi hv ⊢
 obtain ⟨hsx, hio, hop, hsy⟩ := Seq.append.1 hs
 obtain ⟨e, Z, he, hr1⟩ := hx l i o hl hsx hio (by omega) (by rw [slv_of hop, sgn_txt hk, h3]; show (3 : Int) < 4; decide)
 have hlen : i + Kx.length + 1 + Ky.length = i + (Kx.length + (Ky.length + 1)) := by omega
 obtain ⟨f, Z', hf, hr2⟩ := hy l (i + Kx.length + 1) o hl hsy (by omega) (by omega) (by rw [hlen]; omega)
 refine ⟨api_Expr.mk k 0 [] [e, f] (tkn l (i + Kx.length)).At, max Z Z' + 2, ⟨rfl, rfl, rfl, e, f, rfl, he, hf⟩, fun q hq => ?_⟩
 obtain ⟨q, rfl⟩ : ∃ j, q = j + 2 := ⟨q - 2, by omega⟩
 rw [part_succ (q + 1) l i o (by decide) (by decide) (hr1 (q + 1) (by omega))]
 rw [loop_step (q + 1) q l hl _ o (by decide) (by decide) hio hop (by rw [sgn_txt hk, h3]) e (hr2 (q + 1) (by omega)), if_pos rfl, hlen]
theorem Pbin3 {k : Int} {x y : T} {Kx Ky : List Tk} {nx ny : Nat} (hk : 7 ≤ k ∧ k ≤ 19) (h3 : lvl k = 3) (hx : P x Kx nx 4) (hy : P y Ky ny 4) : P (.bin k x y) (Kx ++ (3, txt k, 0) :: Ky) (max nx ny) 3 := fun l i o hl hs hi ho hv => bin3 hk h3 hx hy l i o hl hs hi ho (by omega)
theorem is_lit {l : List api_Token} {i o : Nat} (hi : i < l.length) {k : Int} {s : List UInt8} {n : Int} (h : strip (tkn l i) = (k, s, n)) (s' : List UInt8) (b : Bool) (hb : b = decide ((k = 3 ∨ k = 1) ∧ s = s')) : read_Row_Is_1 (st l i o) s' = some (b, st l i o) := by
 rw [is_st hi]
 unfold strip at h
 simp only [Prod.mk.injEq] at h
 unfold isT
 rw [h.1, h.2.1, hb]
theorem take_lit {l : List api_Token} {i o : Nat} (hi : i < l.length) (hl : l.length ≤ 100000) {k : Int} {s : List UInt8} {n : Int} (h : strip (tkn l i) = (k, s, n)) (s' : List UInt8) (b : Bool) (hb : b = decide ((k = 3 ∨ k = 1) ∧ s = s')) : read_Row_Take_1 (st l i o) s' = some (b, if b = true then st l (i + 1) o else st l i o) := by
 rw [take_st hi hl]
 unfold strip at h
 simp only [Prod.mk.injEq] at h
 unfold isT
 rw [h.1, h.2.1, hb]
theorem signed_prim {self : expr_reader → Int → Option (api_Expr × expr_reader)} {l : List api_Token} {i o : Nat} (hi : i < l.length) {k : Int} {s : List UInt8} {n : Int} (h : strip (tkn l i) = (k, s, n)) (h1 : decide ((k = 3 ∨ k = 1) ∧ s = s_minus) = false) (h2 : decide ((k = 3 ∨ k = 1) ∧ s = s_bang) = false) (k2 : Nat) {e : api_Expr} {st' : expr_reader} (hp : expr_reader_prim self (st l i o) = some (e, st')) :
 expr_reader_signed_f self (k2 + 1) (st l i o) = some (e, st') := by
 show expr_reader_signed_b (expr_reader_signed_f self k2) self k2 (st l i o) = _
 unfold expr_reader_signed_b
 rw [look_st hi, bind_some_eq]
 dsimp only
 rw [is_lit hi h s_minus false h1.symm, bind_some_eq]
 dsimp only [cond_false]
 rw [is_lit hi h s_bang false h2.symm, bind_some_eq]
 dsimp only [cond_false]
 rw [hp, bind_some_eq, eta]
theorem kind_of {t : api_Token} {k : Int} {s : List UInt8} {n : Int} (h : strip t = (k, s, n)) : t.Kind = k ∧ t.Text = s ∧ t.N = n := by
 unfold strip at h
 simpa only [Prod.mk.injEq] using h
theorem Sg_num {n : Int} : Sg (.num n) [(2, Lib.itoa n, n)] 0 := fun l i o hl hs hi ho => by
 obtain ⟨h1, h2, -⟩ := hs
 refine ⟨api_Expr.mk 1 n [] [] (tkn l i).At, 0, 1, ⟨rfl, rfl, rfl, rfl⟩, fun k _ k2 hk2 => ?_⟩
 obtain ⟨k2, rfl⟩ : ∃ j, k2 = j + 1 := ⟨k2 - 1, by omega⟩
 refine signed_prim h1 h2 (by rw [decide_eq_false_iff_not]; rintro ⟨h | h, _⟩ <;> cases h) (by rw [decide_eq_false_iff_not]; rintro ⟨h | h, _⟩ <;> cases h) k2 ?_
 unfold expr_reader_prim
 rw [look_st h1, bind_some_eq]
 dsimp only
 rw [if_pos (kind_of h2).1, (kind_of h2).2.2]
 show some (_, (⟨⟨l, w64 (((i : Nat) : Int) + 1), ⟨0, 0⟩⟩, (o : Int)⟩ : expr_reader)) = _
 rw [next_i h1 hl]; rfl
theorem name_ne {s : List UInt8} (h : nameP s = true) {c : UInt8} (hc : lt c = false) (u : List UInt8) : s ≠ c :: u := fun e => by
 have := (name_split h).2.2.2.1
 rw [e] at this
 rw [List.getD_cons_zero] at this
 rw [hc] at this; cases this
theorem Sg_var {s : List UInt8} (h : nameP s = true) : Sg (.var s) [(1, s, 0)] 0 := fun l i o hl hs hi ho => by
 obtain ⟨h1, h2, -⟩ := hs
 refine ⟨api_Expr.mk 2 0 s [] (tkn l i).At, 0, 1, ⟨rfl, rfl, rfl, rfl⟩, fun k _ k2 hk2 => ?_⟩
 obtain ⟨k2, rfl⟩ : ∃ j, k2 = j + 1 := ⟨k2 - 1, by omega⟩
 refine signed_prim h1 h2 (by rw [decide_eq_false_iff_not]; rintro ⟨_, h'⟩; exact name_ne h (by decide) _ h') (by rw [decide_eq_false_iff_not]; rintro ⟨_, h'⟩; exact name_ne h (by decide) _ h') k2 ?_
 unfold expr_reader_prim
 rw [look_st h1, bind_some_eq]
 dsimp only
 rw [if_neg (by rw [(kind_of h2).1]; decide)]
 rw [take_lit h1 hl h2 s_dollar false (by symm; rw [decide_eq_false_iff_not]; rintro ⟨_, h'⟩; exact name_ne h (by decide) _ h'), bind_some_eq]
 dsimp only [cond_false]
 rw [if_neg (by decide), isname_st h1, bind_some_eq]
 dsimp only
 rw [(kind_of h2).1, (kind_of h2).2.1, (name_split h).2.2.1]
 simp only [decide_true, Bool.not_false, Bool.and_true, cond_true]
 rw [name_st h1 hl (kind_of h2).1 (by rw [(kind_of h2).2.1]; exact (name_split h).2.2.1), bind_some_eq, (kind_of h2).2.1]
 rfl
theorem Sg_arg : Sg .arg [(3, s_dollar, 0)] 0 := fun l i o hl hs hi ho => by
 obtain ⟨h1, h2, -⟩ := hs
 refine ⟨api_Expr.mk 3 0 [] [] (tkn l i).At, 0, 1, ⟨rfl, rfl, rfl, rfl⟩, fun k _ k2 hk2 => ?_⟩
 obtain ⟨k2, rfl⟩ : ∃ j, k2 = j + 1 := ⟨k2 - 1, by omega⟩
 refine signed_prim h1 h2 (by decide) (by decide) k2 ?_
 unfold expr_reader_prim
 rw [look_st h1, bind_some_eq]
 dsimp only
 rw [if_neg (by rw [(kind_of h2).1]; decide)]
 rw [take_lit h1 hl h2 s_dollar true (by decide), bind_some_eq]
 rfl
theorem Sg_isin {s : List UInt8} (h : nameP s = true) : Sg (.isin s) [(1, s_in, 0), (3, s_lp, 0), (1, s, 0), (3, s_rp, 0)] 0 := fun l i o hl hs hi ho => by
 obtain ⟨h1, h2, h3, h4, h5, h6, h7, h8, -⟩ := hs
 refine ⟨api_Expr.mk 4 0 s [] (tkn l i).At, 0, 1, ⟨rfl, rfl, rfl, rfl⟩, fun k _ k2 hk2 => ?_⟩
 obtain ⟨k2, rfl⟩ : ∃ j, k2 = j + 1 := ⟨k2 - 1, by omega⟩
 refine signed_prim h1 h2 (by decide) (by decide) k2 ?_
 unfold expr_reader_prim
 rw [look_st h1, bind_some_eq]
 dsimp only
 rw [if_neg (by rw [(kind_of h2).1]; decide)]
 rw [take_lit h1 hl h2 s_dollar false (by decide), bind_some_eq]
 dsimp only [cond_false]
 rw [if_neg (by decide), isname_st h1, bind_some_eq]
 dsimp only
 rw [(kind_of h2).2.1, show (!resP s_in) = false from by decide]
 simp only [Bool.and_false, cond_false]
 rw [take_lit h1 hl h2 s_in true (by decide), bind_some_eq]
 dsimp only [cond_true]
 rw [if_pos rfl, want_st h3 hl (isT_yes h4 (Or.inl rfl)), bind_some_eq]
 rw [name_st h5 hl (kind_of h6).1 (by rw [(kind_of h6).2.1]; exact (name_split h).2.2.1), bind_some_eq, (kind_of h6).2.1]
 dsimp only
 rw [want_st h7 hl (isT_yes h8 (Or.inl rfl)), bind_some_eq]
 rfl
theorem Sg_par {t : T} {K : List Tk} {n : Nat} (h : P t K n 1) : Sg t ((3, s_lp, 0) :: K ++ [(3, s_rp, 0)]) (n + 1) := fun l i o hl hs hi ho => by
 simp only [List.length_append, List.length_cons, List.length_nil] at hi ⊢
 obtain ⟨⟨h1, h2, h3⟩, hr⟩ := Seq.append.1 hs
 obtain ⟨h4, h5, -⟩ := hr
 simp only [List.length_cons] at h4 h5
 have hlen : i + 1 + K.length = i + (K.length + 1) := by omega
 obtain ⟨e, Z, he, hp⟩ := h l (i + 1) (o + 1) hl h3 (by omega) (by omega) (by rw [hlen, slv_of h5]; decide)
 refine ⟨e, Z, 1, he, fun k hk k2 hk2 => ?_⟩
 obtain ⟨k2, rfl⟩ : ∃ j, k2 = j + 1 := ⟨k2 - 1, by omega⟩
 refine signed_prim h1 h2 (by decide) (by decide) k2 ?_
 unfold expr_reader_prim
 rw [look_st h1, bind_some_eq]
 dsimp only
 rw [if_neg (by rw [(kind_of h2).1]; decide)]
 rw [take_lit h1 hl h2 s_dollar false (by decide), bind_some_eq]
 dsimp only [cond_false]
 rw [if_neg (by decide), isname_st h1, bind_some_eq]
 dsimp only
 rw [show decide ((tkn l i).Kind = 1) = false from by rw [(kind_of h2).1]; decide]
 simp only [Bool.false_and, cond_false]
 rw [take_lit h1 hl h2 s_in false (by decide), bind_some_eq]
 dsimp only [cond_false]
 rw [if_neg (by decide), is_lit h1 h2 s_lp true (by decide), bind_some_eq]
 dsimp only [Bool.not_true, cond_false]
 rw [deep_st h1 hl (by omega), bind_some_eq]
 dsimp only [Bool.not_true, cond_false]
 rw [hp k hk, bind_some_eq]
 dsimp only
 rw [hlen, want_st h4 hl (isT_yes h5 (Or.inl rfl)), bind_some_eq, eta]
 show some (e, (⟨⟨l, ((i + (K.length + 1) + 1 : Nat) : Int), ⟨0, 0⟩⟩, w64 (((o + 1 : Nat) : Int) - 1)⟩ : expr_reader)) = _
 rw [show w64 (((o + 1 : Nat) : Int) - 1) = (o : Int) from by rw [w64_in (by omega) (by omega)]; omega]
 rfl
theorem Sg_un {k : Int} {t : T} {K : List Tk} {n : Nat} (hk : k = 5 ∨ k = 6) (h : Sg t K n) : Sg (.un k t) ((3, if k = 5 then s_minus else s_bang, 0) :: K) (n + 1) := fun l i o hl hs hi ho => by
 simp only [List.length_cons] at hi ⊢
 obtain ⟨h1, h2, h3⟩ := hs
 have hlen : i + 1 + K.length = i + (K.length + 1) := by omega
 obtain ⟨e, Z, Z2, he, hr⟩ := h l (i + 1) (o + 1) hl h3 (by omega) (by omega)
 refine ⟨api_Expr.mk k 0 [] [e] (tkn l i).At, Z, Z2 + 1, ⟨rfl, rfl, rfl, e, rfl, he⟩, fun q hq k2 hk2 => ?_⟩
 obtain ⟨k2, rfl⟩ : ∃ j, k2 = j + 1 := ⟨k2 - 1, by omega⟩
 show expr_reader_signed_b (expr_reader_signed_f (expr_reader_part_f q) k2) (expr_reader_part_f q) k2 (st l i o) = _
 unfold expr_reader_signed_b
 rw [look_st h1, bind_some_eq]
 dsimp only
 have hw : w64 (((o + 1 : Nat) : Int) - 1) = (o : Int) := by rw [w64_in (by omega) (by omega)]; omega
 rcases hk with rfl | rfl
 · rw [if_pos rfl] at h2
   rw [is_lit h1 h2 s_minus true (by decide), bind_some_eq]
   dsimp only [cond_true]
   rw [deep_st h1 hl (by omega), bind_some_eq]
   dsimp only [Bool.not_true, cond_false]
   rw [hr q hq k2 (by omega), bind_some_eq, eta, hlen]
   show some (_, (⟨⟨l, ((i + (K.length + 1) : Nat) : Int), ⟨0, 0⟩⟩, w64 (((o + 1 : Nat) : Int) - 1)⟩ : expr_reader)) = _
   rw [hw]; rfl
 · rw [if_neg (by decide)] at h2
   rw [is_lit h1 h2 s_minus false (by decide), bind_some_eq]
   dsimp only [cond_false]
   rw [is_lit h1 h2 s_bang true (by decide), bind_some_eq]
   dsimp only [cond_true]
   rw [deep_st h1 hl (by omega), bind_some_eq]
   dsimp only [Bool.not_true, cond_false]
   rw [hr q hq k2 (by omega), bind_some_eq, eta, hlen]
   show some (_, (⟨⟨l, ((i + (K.length + 1) : Nat) : Int), ⟨0, 0⟩⟩, w64 (((o + 1 : Nat) : Int) - 1)⟩ : expr_reader)) = _
   rw [hw]; rfl
def All (t : T) : Prop := Sg t (toks t 6) (nst t 6) ∧ (∀ m : Int, 1 ≤ m → m ≤ 6 → P t (toks t m) (nst t m) m) ∧ ∀ m : Int, 1 ≤ m → m ≤ 5 → m ≠ 3 → Qp t (toks t m) (nst t m) m
theorem down {t : T} {K : List Tk} {n : Nat} (h6 : P t K n 6) : ∀ (j : Nat) (m : Int), m = 6 - (j : Int) → 1 ≤ m → P t K n m
 | 0, m, hm, _ => by have : m = 6 := by omega
                     subst this; exact h6
 | j + 1, m, hm, hl => Pdown (by omega) (by omega) (down h6 j (m + 1) (by omega) (by omega))
theorem downTo {t : T} {K : List Tk} {n : Nat} {a : Int} (ha : a ≤ 6) (h6 : P t K n a) : ∀ (j : Nat) (m : Int), m = a - (j : Int) → 1 ≤ m → P t K n m
 | 0, m, hm, _ => by have : m = a := by omega
                     subst this; exact h6
 | j + 1, m, hm, hl => Pdown (by omega) (by omega) (downTo ha h6 j (m + 1) (by omega) (by omega))
theorem Sg.at {t : T} {K : List Tk} {n : Nat} (h : Sg t K n) (m : Int) (h1 : 1 ≤ m) (h6 : m ≤ 6) : P t K n m := down (P6 h) (6 - m).toNat m (by omega) h1
theorem All_high {t : T} {K : List Tk} {n : Nat} (hS : Sg t K n) (hs : ∀ m : Int, 1 ≤ m → m ≤ 6 → toks t m = K ∧ nst t m = n) : All t := by
 have hP : ∀ m : Int, 1 ≤ m → m ≤ 6 → P t (toks t m) (nst t m) m := fun m h1 h6 => by rw [(hs m h1 h6).1, (hs m h1 h6).2]; exact hS.at m h1 h6
 refine ⟨?_, hP, fun m h1 h5 _ => ?_⟩
 · rw [(hs 6 (by decide) (by decide)).1, (hs 6 (by decide) (by decide)).2]; exact hS
 · rw [(hs m h1 (by omega)).1, (hs m h1 (by omega)).2]
   exact Qdown h1 h5 (hS.at (m + 1) (by omega) (by omega))
theorem All_bin {k : Int} {x y : T} (hk : 7 ≤ k ∧ k ≤ 19) (hx : All x) (hy : All y) : All (.bin k x y) := by
 have hr := (btw_in hk.1 hk.2).2
 have hb : toks x (lft k) ++ (3, txt k, 0) :: toks y (rgt k) = toks (.bin k x y) 1 ∧ max (nst x (lft k)) (nst y (rgt k)) = nst (.bin k x y) 1 := by
  simp only [toks, nst]; rw [par_no (by omega), parN_no (by omega)]; exact ⟨rfl, rfl⟩
 have hlo : ∀ m : Int, m ≤ lvl k → toks (.bin k x y) m = toks (.bin k x y) 1 ∧ nst (.bin k x y) m = nst (.bin k x y) 1 := fun m hm => by
  simp only [toks, nst]; rw [par_no (by omega), par_no (by omega), parN_no (by omega), parN_no (by omega)]; exact ⟨rfl, rfl⟩
 have hhi : ∀ m : Int, lvl k < m → toks (.bin k x y) m = (3, s_lp, 0) :: toks (.bin k x y) 1 ++ [(3, s_rp, 0)] ∧ nst (.bin k x y) m = nst (.bin k x y) 1 + 1 := fun m hm => by
  simp only [toks, nst]; rw [par_yes (by omega), par_no (by omega), parN_yes (by omega), parN_no (by omega)]; exact ⟨rfl, rfl⟩
 have hQ : lvl k ≠ 3 → Qp (.bin k x y) (toks (.bin k x y) 1) (nst (.bin k x y) 1) (lvl k) := fun h3 => by
  have hlf : lft k = lvl k := by unfold lft; rw [if_neg h3]
  have hrg : rgt k = lvl k + 1 := by unfold rgt; rw [if_neg h3]
  rw [← hb.1, ← hb.2, hlf, hrg]
  exact Qbin hk h3 (hx.2.2 (lvl k) hr.1 hr.2 h3) (hy.2.1 (lvl k + 1) (by omega) (by omega))
 have hP : P (.bin k x y) (toks (.bin k x y) 1) (nst (.bin k x y) 1) (lvl k) := by
  by_cases h3 : lvl k = 3
  · have hlf : lft k = 4 := by unfold lft; rw [if_pos h3]
    have hrg : rgt k = 4 := by unfold rgt; rw [if_pos h3]
    rw [← hb.1, ← hb.2, hlf, hrg, h3]
    exact Pbin3 hk h3 (hx.2.1 4 (by decide) (by decide)) (hy.2.1 4 (by decide) (by decide))
  · exact Qend hr.1 (hQ h3)
 have hS : Sg (.bin k x y) (toks (.bin k x y) 6) (nst (.bin k x y) 6) := by
  rw [(hhi 6 (by omega)).1, (hhi 6 (by omega)).2]
  exact Sg_par (downTo (by omega) hP (lvl k - 1).toNat 1 (by omega) (by decide))
 have hAll : ∀ m : Int, 1 ≤ m → m ≤ 6 → P (.bin k x y) (toks (.bin k x y) m) (nst (.bin k x y) m) m := fun m h1 h6 => by
  by_cases h : m ≤ lvl k
  · rw [(hlo m h).1, (hlo m h).2]
    exact downTo (by omega) hP (lvl k - m).toNat m (by omega) h1
  · rw [(hhi m (by omega)).1, (hhi m (by omega)).2, ← (hhi 6 (by omega)).1, ← (hhi 6 (by omega)).2]
    exact hS.at m h1 h6
 refine ⟨hS, hAll, fun m h1 h5 h3 => ?_⟩
 by_cases h : m = lvl k
 · subst h
   rw [(hlo _ (Int.le_refl _)).1, (hlo _ (Int.le_refl _)).2]
   exact hQ h3
 · have e : toks (.bin k x y) m = toks (.bin k x y) (m + 1) ∧ nst (.bin k x y) m = nst (.bin k x y) (m + 1) := by
    by_cases hm : m < lvl k
    · rw [(hlo m (by omega)).1, (hlo m (by omega)).2, (hlo (m + 1) (by omega)).1, (hlo (m + 1) (by omega)).2]; exact ⟨rfl, rfl⟩
    · rw [(hhi m (by omega)).1, (hhi m (by omega)).2, (hhi (m + 1) (by omega)).1, (hhi (m + 1) (by omega)).2]; exact ⟨rfl, rfl⟩
   rw [e.1, e.2]
   exact Qdown h1 h5 (hAll (m + 1) (by omega) (by omega))
theorem all_T : ∀ t : T, t.ok → All t
 | .num n, h => All_high Sg_num fun m h1 h6 => by simp only [toks, nst]; rw [par_no (by omega), parN_no (by omega)]; exact ⟨rfl, rfl⟩
 | .var s, h => All_high (Sg_var h) fun m h1 h6 => by simp only [toks, nst]; rw [par_no (by omega), parN_no (by omega)]; exact ⟨rfl, rfl⟩
 | .arg, h => All_high Sg_arg fun m h1 h6 => by simp only [toks, nst]; rw [par_no (by omega), parN_no (by omega)]; exact ⟨rfl, rfl⟩
 | .isin s, h => All_high (Sg_isin h) fun m h1 h6 => by simp only [toks, nst]; rw [par_no (by omega), parN_no (by omega)]; exact ⟨rfl, rfl⟩
 | .un k t, h => All_high (Sg_un h.1 (all_T t h.2).1) fun m h1 h6 => by simp only [toks, nst]; rw [par_no (by omega), parN_no (by omega)]; exact ⟨rfl, rfl⟩
 | .bin k x y, h => All_bin h.1 (all_T x h.2.1) (all_T y h.2.2)
theorem all_P {t : T} (h : t.ok) : P t (toks t 1) (nst t 1) 1 := (all_T t h).2.1 1 (by decide) (by decide)
theorem parse_eq {t : T} {K : List Tk} {n : Nat} (h : P t K n 1) (hn : n ≤ 12) {l : List api_Token} (hl : l.length ≤ 100000) (hs : Seq l 0 K) (hlen : l.length = K.length + 1) (hend : (tkn l K.length).Kind ≠ 3) :
 ∃ e, Is t e ∧ expr_Parse l 0 = some (e, (K.length : Int), ⟨0, 0⟩) := by
 obtain ⟨e, Z, he, hr⟩ := h l 0 0 hl hs (by omega) (by omega) (by rw [Nat.zero_add]; unfold slv; rw [if_neg hend]; decide)
 refine ⟨e, he, ?_⟩
 unfold expr_Parse
 rw [show expr_reader_part (expr_reader.mk (read_Row.mk l 0 (api_Fault.mk 0 0)) 0) 1 = some (e, st l (0 + K.length) 0) from lim_eq Z hr, bind_some_eq, ok_st, bind_some_eq]
 dsimp only [Bool.not_true, cond_false]
 rw [eta, Nat.zero_add]
 rfl
end Go.Sy.Ex
namespace Go.Sy.Ex
open Go.Sy
theorem seq_of : ∀ {l : List api_Token} {K R : List Tk} {i : Nat}, (l.drop i).map strip = K ++ R → Seq l i K
 | l, [], R, i, _ => trivial
 | l, k :: K, R, i, h => by
  have hi : i < l.length := by
   by_cases hc : i < l.length
   · exact hc
   · rw [List.drop_eq_nil_of_le (by omega)] at h; cases h
  rw [List.drop_eq_getElem_cons hi, List.map_cons, List.cons_append] at h
  injection h with h1 h2
  exact ⟨hi, by unfold tkn; rw [List.getD_eq_getElem?_getD, List.getElem?_eq_getElem hi]; exact h1, seq_of h2⟩
end Go.Sy.Ex
namespace Go.Sy.Ex
open Go.Sy
theorem letter_eq (c : Int) : ref6_letter c = some (isLetter c) := by
 have fin : ∀ a : Bool, ((a = true) ↔ ((97 ≤ c ∧ c ≤ 122) ∨ (65 ≤ c ∧ c ≤ 90) ∨ c = 95)) → some a = some (isLetter c) := by
  intro a ha
  have e1 : a = isLetter c := by rw [Bool.eq_iff_iff, ha]; simp [isLetter]
  rw [e1]
 unfold ref6_letter
 repeat' split
 all_goals
  refine fin _ ?_
  first
   | (simp only [decide_eq_true_eq]; omega)
   | exact ⟨fun _ => by omega, fun _ => rfl⟩
theorem digit_eq (c : Int) : ref6_digit c = some (isDigit c) := by
 unfold ref6_digit isDigit
 by_cases h : 48 ≤ c
 · rw [if_pos h]; simp [h]
 · rw [if_neg h]; simp [h]
theorem rres_run (s : List UInt8) : ∀ m n, n + m = 35 → ∀ k, m + 1 ≤ k → ref6_Reserved_l0 k s arr_x8304b ((n : Nat) : Int) = some (decide (s ∈ wordsL.drop n)) := by
 intro m
 induction m with
 | zero =>
  intro n h k hk
  obtain ⟨k, rfl⟩ : ∃ j, k = j + 1 := ⟨k - 1, by omega⟩
  obtain rfl : n = 35 := by omega
  simp only [ref6_Reserved_l0]
  rw [if_neg (by omega)]
  rfl
 | succ m ih =>
  intro n h k hk
  obtain ⟨k, rfl⟩ : ∃ j, k = j + 1 := ⟨k - 1, by omega⟩
  have hlt : n < wordsL.length := by rw [words_len]; omega
  have e : w64 ((n : Int) + 1) = ((n + 1 : Nat) : Int) := by rw [w64_in (by omega) (by omega)]; omega
  have hlen : (n : Int) < (wordsL.length : Int) := by omega
  simp only [ref6_Reserved_l0]
  rw [if_pos (by omega), if_pos (by omega), if_pos hlen, e, ih (n + 1) (by omega) k (by omega), List.drop_eq_getElem_cons hlt]
  by_cases hx : wordsL.getD (((n : Nat) : Int).toNat) [] = s
  · rw [if_pos hx]
    rw [Int.toNat_natCast, getD_lt _ hlt] at hx
    rw [hx]
    simp
  · rw [if_neg hx]
    rw [Int.toNat_natCast, getD_lt _ hlt] at hx
    congr 1
    rw [decide_eq_decide, List.mem_cons]
    exact ⟨.inr, fun q => q.elim (fun q => absurd q.symm hx) id⟩
theorem rres_eq (s : List UInt8) : ref6_Reserved s = some (resP s) := lim_eq 36 fun k hk => rres_run s 35 0 rfl k hk
end Go.Sy.Ex
namespace Go.Sy.Ex
open Go.Sy
def Fw : Nat → api_Expr → Prop
 | 0, _ => False
 | n + 1, e => e.Kids.length ≤ 2 ∧ e.Name.length ≤ 60 ∧ (-9223372036854775808 ≤ e.N ∧ e.N ≤ 9223372036854775807) ∧ ∀ x ∈ e.Kids, Fw n x
theorem kids_of {e : api_Expr} (h : e.Kids.length ≤ 2) : e.Kids = [] ∨ (∃ x, e.Kids = [x]) ∨ ∃ x y, e.Kids = [x, y] := by
 match hk : e.Kids with
 | [] => exact .inl rfl
 | [x] => exact .inr (.inl ⟨x, rfl⟩)
 | [x, y] => exact .inr (.inr ⟨x, y, rfl⟩)
 | _ :: _ :: _ :: _ => rw [hk] at h; simp at h
def shp (e : api_Expr) : Bool := decide ((1 ≤ e.Kind ∧ e.Kind ≤ 19) ∧ e.Kids.length = (plc e.Kind).length ∧ ((e.Kind = 2 ∨ e.Kind = 4) ↔ e.Name ≠ []) ∧ ((e.Kind = 2 ∨ e.Kind = 4) → nameP e.Name = true) ∧ (e.N = 0 ∨ (e.Kind = 1 ∧ 0 < e.N)))
theorem shape_eq {e : api_Expr} (hn : e.Name.length ≤ 60) : expr_shape e = some (shp e) := lim_eq 2 fun k hk => by
 obtain ⟨k, rfl⟩ : ∃ j, k = j + 2 := ⟨k - 2, by omega⟩
 have hc1 : expr_shape_c1 (k + 1) e.Kind e.N e.Name e.Kids e.At = some (decide (e.N = 0 ∨ (e.Kind = 1 ∧ 0 < e.N))) := by
  simp only [expr_shape_c1]
  by_cases h0 : e.N = 0
  · rw [if_pos h0, decide_eq_true (Or.inl h0)]
  · rw [if_neg h0]
    by_cases h1 : e.Kind = 1
    · rw [if_pos h1]; congr 1; rw [decide_eq_decide]; simp [h0, h1]
    · rw [if_neg h1]; congr 1; symm; rw [decide_eq_false_iff_not]; simp [h0, h1]
 have hc0 : ∀ named : Bool, expr_shape_c0 (k + 2) e.Kind e.N e.Name e.Kids e.At named = some (decide (((named = true) ↔ e.Name ≠ []) ∧ ((named = true) → nameP e.Name = true) ∧ (e.N = 0 ∨ (e.Kind = 1 ∧ 0 < e.N)))) := fun named => by
  simp only [expr_shape_c0]
  cases named with
  | false =>
   by_cases hN : e.Name = []
   · rw [if_neg (by simp [hN]), cond_false, hc1]; congr 1; rw [decide_eq_decide]; simp [hN]
   · rw [if_pos (by simp [hN])]; congr 1; symm; rw [decide_eq_false_iff_not]; simp [hN]
  | true =>
   by_cases hN : e.Name = []
   · rw [if_pos (by simp [hN])]; congr 1; symm; rw [decide_eq_false_iff_not]; simp [hN]
   · rw [if_neg (by simp [hN]), cond_true, lname_eq _ (by omega), bind_some_eq]
     cases hP : nameP e.Name with
     | false => simp
     | true =>
      rw [Bool.not_true, cond_false, hc1]; congr 1; rw [decide_eq_decide]; simp [hN]
 have key : ∀ named : Bool, ((named = true) ↔ (e.Kind = 2 ∨ e.Kind = 4)) → (if e.Kind < 1 then
  some false else
  if 19 < e.Kind then
  some false else
  (expr_places e.Kind).bind fun r1 =>
  if (e.Kids.length : Int) ≠ (r1.length : Int) then
  some false else
  expr_shape_c0 (k + 2) e.Kind e.N e.Name e.Kids e.At named) = some (shp e) := fun named hnm => by
  unfold shp
  by_cases h1 : e.Kind < 1
  · rw [if_pos h1, decide_eq_false (fun q => by omega)]
  · rw [if_neg h1]
    by_cases h19 : 19 < e.Kind
    · rw [if_pos h19, decide_eq_false (fun q => by omega)]
    · rw [if_neg h19, places_eq, bind_some_eq]
      by_cases hl : e.Kids.length = (plc e.Kind).length
      · rw [if_neg (by omega), hc0]; congr 1; rw [decide_eq_decide, hnm]
        exact ⟨fun q => ⟨by omega, hl, q⟩, fun q => q.2.2⟩
      · rw [if_pos (by omega), decide_eq_false (fun q => hl q.2.1)]
 show expr_shape_f (k + 2) e = _
 unfold expr_shape_f
 by_cases h2 : e.Kind = 2
 · rw [if_pos h2]
   exact key true (by simp [h2])
 · rw [if_neg h2]
   exact key (decide (e.Kind = 4)) (by simp [h2])
def Tr (e : api_Expr) : Prop := ∃ t, Is t e ∧ t.ok
theorem Is.shp {t : T} {e : api_Expr} (h : Is t e) (hok : t.ok) : shp e = true := by
 unfold Ex.shp
 rw [decide_eq_true_eq]
 cases t with
 | num n =>
  obtain ⟨h1, h2, h3, h4⟩ := h
  obtain ⟨h5, h6⟩ := hok
  rw [h1, h2, h3, h4]
  exact ⟨by decide, by decide, by decide, by decide, by omega⟩
 | var s =>
  obtain ⟨h1, h2, h3, h4⟩ := h
  rw [h1, h2, h3, h4]
  exact ⟨by decide, by decide, by simp [(name_split hok).1], fun _ => hok, by omega⟩
 | arg =>
  obtain ⟨h1, h2, h3, h4⟩ := h
  rw [h1, h2, h3, h4]
  exact ⟨by decide, by decide, by decide, by decide, by omega⟩
 | isin s =>
  obtain ⟨h1, h2, h3, h4⟩ := h
  rw [h1, h2, h3, h4]
  exact ⟨by decide, by decide, by simp [(name_split hok).1], fun _ => hok, by omega⟩
 | un k t =>
  obtain ⟨h1, h2, h3, x, h4, _⟩ := h
  obtain ⟨hk, _⟩ := hok
  rw [h1, h2, h3, h4, pl2 hk]
  exact ⟨by omega, rfl, ⟨fun q => by omega, fun q => absurd rfl q⟩, fun q => by omega, .inl rfl⟩
 | bin k a b =>
  obtain ⟨h1, h2, h3, x, y, h4, _⟩ := h
  obtain ⟨hk, _⟩ := hok
  rw [h1, h2, h3, h4, pl3 hk]
  exact ⟨by omega, rfl, ⟨fun q => by omega, fun q => absurd rfl q⟩, fun q => by omega, .inl rfl⟩
def inr : T → Nat
 | .un k t => nst t 6
 | .bin k x y => max (nst x (lft k)) (nst y (rgt k))
 | _ => 0
theorem nst_split {t : T} (h : t.ok) {a : Int} (ha : a ≤ 7) : nst t a = inr t + (if lvl t.kind < a then 1 else 0) + (if lvl t.kind = 6 then 1 else 0) := by
 cases t with
 | num n =>
  have hk : lvl (T.num n).kind = 7 := by show lvl 1 = 7; decide
  simp only [nst, inr]; rw [parN_no (by omega), if_neg (c := lvl _ < a) (by omega), if_neg (c := lvl _ = 6) (by omega)]
 | var s =>
  have hk : lvl (T.var s).kind = 7 := by show lvl 2 = 7; decide
  simp only [nst, inr]; rw [parN_no (by omega), if_neg (c := lvl _ < a) (by omega), if_neg (c := lvl _ = 6) (by omega)]
 | arg =>
  have hk : lvl T.arg.kind = 7 := by show lvl 3 = 7; decide
  simp only [nst, inr]; rw [parN_no (by omega), if_neg (c := lvl _ < a) (by omega), if_neg (c := lvl _ = 6) (by omega)]
 | isin s =>
  have hk : lvl (T.isin s).kind = 7 := by show lvl 4 = 7; decide
  simp only [nst, inr]; rw [parN_no (by omega), if_neg (c := lvl _ < a) (by omega), if_neg (c := lvl _ = 6) (by omega)]
 | un k t =>
  have hk : lvl (T.un k t).kind = 6 := by show lvl k = 6; rcases h.1 with rfl | rfl <;> decide
  simp only [nst, inr]; rw [if_pos (c := lvl _ = 6) hk]; unfold parN; split <;> split <;> omega
 | bin k x y =>
  have := (btw_in h.1.1 h.1.2).2
  have hk : lvl (T.bin k x y).kind = lvl k := rfl
  simp only [nst, inr]; rw [if_neg (c := lvl (T.bin k x y).kind = 6) (by omega)]; unfold parN; split <;> split <;> omega
theorem inside {e : api_Expr} (hs : shp e = true) (hN : e.N ≤ 9223372036854775807) (o : Int) : (∃ t, Is t e ∧ t.ok ∧ o + inr t ≤ 12) ↔ (o ≤ 12 ∧ ∀ p ∈ e.Kids.zip (plc e.Kind), ∃ t, Is t p.1 ∧ t.ok ∧ o + nst t p.2 ≤ 12) := by
 have hs' := hs
 unfold shp at hs'
 rw [decide_eq_true_eq] at hs'
 obtain ⟨hk, hl, hn1, hn2, hN0⟩ := hs'
 constructor
 · rintro ⟨t, ht, hok, hle⟩
   refine ⟨by omega, fun p hp => ?_⟩
   have hkind := ht.kind
   cases t with
   | num n => rw [ht.2.2.2] at hp; cases hp
   | var n => rw [ht.2.2.2] at hp; cases hp
   | arg => rw [ht.2.2.2] at hp; cases hp
   | isin n => rw [ht.2.2.2] at hp; cases hp
   | un k t =>
    obtain ⟨h1, h2, h3, x, h4, h5⟩ := ht
    rw [h4, h1, pl2 hok.1] at hp
    simp only [List.zip_cons_cons, List.zip_nil_right, List.mem_singleton] at hp
    subst hp
    exact ⟨t, h5, hok.2, by simpa only [inr] using hle⟩
   | bin k a b =>
    obtain ⟨h1, h2, h3, x, y, h4, h5, h6⟩ := ht
    rw [h4, h1, pl3 hok.1] at hp
    simp only [inr] at hle
    simp only [List.zip_cons_cons, List.zip_nil_right, List.mem_cons, List.not_mem_nil, or_false] at hp
    rcases hp with rfl | rfl
    · exact ⟨a, h5, hok.2.1, by show o + ((nst a (lft k) : Nat) : Int) ≤ 12; omega⟩
    · exact ⟨b, h6, hok.2.2, by show o + ((nst b (rgt k) : Nat) : Int) ≤ 12; omega⟩
 · rintro ⟨ho, hp⟩
   have hk4 : e.Kind = 1 ∨ e.Kind = 2 ∨ e.Kind = 3 ∨ e.Kind = 4 ∨ (e.Kind = 5 ∨ e.Kind = 6) ∨ (7 ≤ e.Kind ∧ e.Kind ≤ 19) := by omega
   rcases hk4 with h | h | h | h | h | h
   · rw [h] at hl
     exact ⟨.num e.N, ⟨h, rfl, by simpa [h] using hn1, List.eq_nil_of_length_eq_zero (hl.trans (by decide))⟩, by unfold T.ok; omega, by simp only [inr]; omega⟩
   · rw [h] at hl
     exact ⟨.var e.Name, ⟨h, by omega, rfl, List.eq_nil_of_length_eq_zero (hl.trans (by decide))⟩, hn2 (.inl h), by simp only [inr]; omega⟩
   · rw [h] at hl
     exact ⟨.arg, ⟨h, by omega, by simpa [h] using hn1, List.eq_nil_of_length_eq_zero (hl.trans (by decide))⟩, trivial, by simp only [inr]; omega⟩
   · rw [h] at hl
     exact ⟨.isin e.Name, ⟨h, by omega, rfl, List.eq_nil_of_length_eq_zero (hl.trans (by decide))⟩, hn2 (.inr h), by simp only [inr]; omega⟩
   · rw [pl2 h] at hl hp
     obtain ⟨x, hx⟩ := List.length_eq_one_iff.1 hl
     rw [hx] at hp
     obtain ⟨t, h1, h2, h3⟩ := hp (x, 6) (by simp)
     exact ⟨.un e.Kind t, ⟨rfl, by omega, Classical.byContradiction fun q => by have := hn1.2 q; omega, x, hx, h1⟩, ⟨h, h2⟩, by simpa only [inr] using h3⟩
   · rw [pl3 h] at hl hp
     obtain ⟨x, y, hx⟩ : ∃ x y, e.Kids = [x, y] := by
      match hq : e.Kids with
      | [x, y] => exact ⟨x, y, rfl⟩
      | [] => rw [hq] at hl; cases hl
      | [_] => rw [hq] at hl; cases hl
      | _ :: _ :: _ :: _ => rw [hq] at hl; simp at hl
     rw [hx] at hp
     obtain ⟨t, h1, h2, h3⟩ := hp (x, lft e.Kind) (by simp)
     obtain ⟨u, h4, h5, h6⟩ := hp (y, rgt e.Kind) (by simp)
     have h3 : o + ((nst t (lft e.Kind) : Nat) : Int) ≤ 12 := h3
     have h6 : o + ((nst u (rgt e.Kind) : Nat) : Int) ≤ 12 := h6
     exact ⟨.bin e.Kind t u, ⟨rfl, by omega, Classical.byContradiction fun q => by have := hn1.2 q; omega, x, y, hx, h1, h4⟩, ⟨h, h2, h5⟩, by simp only [inr]; omega⟩
theorem plc_rng {k : Int} : ∀ p ∈ plc k, 1 ≤ p ∧ p ≤ 6 := fun p hp => by
 have := lvl_rng k
 unfold plc at hp
 split at hp
 · cases hp
 · split at hp
   · simp at hp; omega
   · unfold lft rgt at hp
     simp at hp
     rcases hp with rfl | rfl <;> split <;> omega
theorem right_loop (self : api_Expr → Int → Int → Option Bool) (e : api_Expr) (o : Int) (Q : api_Expr → Int → Prop) (hl : e.Kids.length = (plc e.Kind).length) (h2 : e.Kids.length ≤ 2) (hQ : ∀ x ∈ e.Kids, ∀ p, 1 ≤ p ∧ p ≤ 6 → ∃ b, self x p o = some b ∧ (b = true ↔ Q x p)) :
 ∀ m n, n + m = e.Kids.length → ∀ k, m + 1 ≤ k → ∃ b, expr_right_l0 self k o e.Kind e.N e.Name e.Kids e.At (plc e.Kind) ((plc e.Kind).length : Int) ((n : Nat) : Int) = some b ∧ (b = true ↔ ∀ q ∈ (e.Kids.zip (plc e.Kind)).drop n, Q q.1 q.2) := by
 intro m
 induction m with
 | zero =>
  intro n h k hk
  obtain ⟨k, rfl⟩ : ∃ j, k = j + 1 := ⟨k - 1, by omega⟩
  refine ⟨true, ?_, ?_⟩
  · simp only [expr_right_l0]; rw [if_neg (by omega)]
  · rw [List.drop_eq_nil_of_le (by rw [List.length_zip]; omega)]; simp
 | succ m ih =>
  intro n h k hk
  obtain ⟨k, rfl⟩ : ∃ j, k = j + 1 := ⟨k - 1, by omega⟩
  have hn1 : n < e.Kids.length := by omega
  have hn2 : n < (plc e.Kind).length := by omega
  have hz : (e.Kids.zip (plc e.Kind)).drop n = (e.Kids[n], (plc e.Kind)[n]) :: (e.Kids.zip (plc e.Kind)).drop (n + 1) := by
   rw [List.drop_eq_getElem_cons (by rw [List.length_zip]; omega), List.getElem_zip]
  obtain ⟨b, hb, hb'⟩ := hQ e.Kids[n] (List.getElem_mem hn1) (plc e.Kind)[n] (plc_rng _ (List.getElem_mem hn2))
  simp only [expr_right_l0]
  rw [if_pos (by omega), if_pos (by omega), if_pos (by omega), if_pos (by omega), if_pos (by omega), Int.toNat_natCast, getD_lt _ hn1, getD_lt _ hn2, hb, bind_some_eq]
  cases b with
  | false =>
   refine ⟨false, by simp, ?_⟩
   rw [hz]
   constructor
   · intro q; cases q
   · intro q
     exact (Bool.false_ne_true (hb'.2 (q _ List.mem_cons_self))).elim
  | true =>
   obtain ⟨b', h1, h2⟩ := ih (n + 1) (by omega) k (by omega)
   refine ⟨b', ?_, ?_⟩
   · simp only [Bool.not_true, cond_false]
     rw [show w64 ((n : Int) + 1) = ((n + 1 : Nat) : Int) from by rw [w64_in (by omega) (by omega)]; omega]
     exact h1
   · rw [hz, h2]
     simp [hb'.1 rfl]
theorem right_run : ∀ (n : Nat) (e : api_Expr) (a o : Int), Fw n e → 1 ≤ a ∧ a ≤ 6 → 0 ≤ o → o ≤ 12 → ∀ k, n + 4 ≤ k → ∃ b, expr_right_f k e a o = some b ∧ (b = true ↔ ∃ t, Is t e ∧ t.ok ∧ o + nst t a ≤ 12)
 | 0, e, a, o, h, _, _, _, _, _ => h.elim
 | n + 1, e, a, o, ⟨h1, h2, h3, h4⟩, ha, ho, ho2, k, hk => by
  obtain ⟨k, rfl⟩ : ∃ j, k = j + 1 := ⟨k - 1, by omega⟩
  show ∃ b, expr_right_b (expr_right_f k) k e a o = some b ∧ _
  unfold expr_right_b
  rw [eta, shape_eq h2, bind_some_eq]
  cases hs : shp e with
  | false =>
   refine ⟨false, rfl, ?_⟩
   constructor
   · intro q; cases q
   · rintro ⟨t, ht, hok, _⟩
     rw [ht.shp hok] at hs; cases hs
  | true =>
   have hs' := hs
   unfold shp at hs'
   rw [decide_eq_true_eq] at hs'
   have hl := hs'.2.1
   have tail : ∀ o' : Int, 0 ≤ o' → ∃ b, (if 12 < o' then some false else (expr_places e.Kind).bind fun r => expr_right_l0 (expr_right_f k) k o' e.Kind e.N e.Name e.Kids e.At r (r.length : Int) 0) = some b ∧ (b = true ↔ ∃ t, Is t e ∧ t.ok ∧ o' + inr t ≤ 12) := fun o' ho' => by
    by_cases h12 : 12 < o'
    · rw [if_pos h12]
      exact ⟨false, rfl, ⟨fun q => (by cases q), fun ⟨t, _, _, q⟩ => (by omega)⟩⟩
    · rw [if_neg h12, places_eq, bind_some_eq]
      obtain ⟨b, hb, hb'⟩ := right_loop (expr_right_f k) e o' (fun x p => ∃ t, Is t x ∧ t.ok ∧ o' + nst t p ≤ 12) hl h1 (fun x hx p hp => right_run n x p o' (h4 x hx) hp ho' (by omega) k (by omega)) e.Kids.length 0 (by omega) k (by omega)
      refine ⟨b, hb, ?_⟩
      rw [hb', inside hs h3.2 o', List.drop_zero]
      exact ⟨fun q => ⟨by omega, q⟩, fun q => q.2⟩
   rw [Bool.not_true, cond_false]
   simp only [level_eq, bind_some_eq]
   have fin : ∀ o' : Int, o' = o + (if lvl e.Kind < a then 1 else 0) + (if lvl e.Kind = 6 then 1 else 0) → ∀ b : Bool, (b = true ↔ ∃ t, Is t e ∧ t.ok ∧ o' + inr t ≤ 12) → (b = true ↔ ∃ t, Is t e ∧ t.ok ∧ o + nst t a ≤ 12) := fun o' ho' b hb => by
    rw [hb]
    constructor
    · rintro ⟨t, ht, hok, q⟩
      refine ⟨t, ht, hok, ?_⟩
      rw [nst_split hok (by omega), ← ht.kind]
      rw [ho'] at q
      split at q <;> split at q <;> (try rw [if_pos (by assumption)]) <;> (try rw [if_neg (by assumption)]) <;> (try rw [if_pos (by assumption)]) <;> (try rw [if_neg (by assumption)]) <;> omega
    · rintro ⟨t, ht, hok, q⟩
      refine ⟨t, ht, hok, ?_⟩
      rw [nst_split hok (by omega), ← ht.kind] at q
      rw [ho']
      split <;> split <;> (try rw [if_pos (by assumption)] at q) <;> (try rw [if_neg (by assumption)] at q) <;> (try rw [if_pos (by assumption)] at q) <;> (try rw [if_neg (by assumption)] at q) <;> omega
   by_cases hA : lvl e.Kind < a
   · rw [if_pos hA]
     by_cases h6 : lvl e.Kind = 6
     · rw [if_pos h6]
       rw [show w64 (w64 (o + 1) + 1) = o + 2 from by rw [w64_in (n := o + 1) (by omega) (by omega), w64_in (by omega) (by omega)]; omega]
       obtain ⟨b, hb, hb'⟩ := tail (o + 2) (by omega)
       exact ⟨b, hb, fin (o + 2) (by rw [if_pos hA, if_pos h6]; omega) b hb'⟩
     · rw [if_neg h6]
       rw [show w64 (o + 1) = o + 1 from w64_in (by omega) (by omega)]
       obtain ⟨b, hb, hb'⟩ := tail (o + 1) (by omega)
       exact ⟨b, hb, fin (o + 1) (by rw [if_pos hA, if_neg h6]; omega) b hb'⟩
   · rw [if_neg hA]
     by_cases h6 : lvl e.Kind = 6
     · rw [if_pos h6]
       rw [show w64 (o + 1) = o + 1 from w64_in (by omega) (by omega)]
       obtain ⟨b, hb, hb'⟩ := tail (o + 1) (by omega)
       exact ⟨b, hb, fin (o + 1) (by rw [if_neg hA, if_pos h6]; omega) b hb'⟩
     · rw [if_neg h6]
       obtain ⟨b, hb, hb'⟩ := tail o (by omega)
       exact ⟨b, hb, fin o (by rw [if_neg hA, if_neg h6]; omega) b hb'⟩
theorem Right_eq {n : Nat} {e : api_Expr} (h : Fw n e) : ∃ b, expr_Right e = some b ∧ (b = true ↔ ∃ t, Is t e ∧ t.ok ∧ nst t 1 ≤ 12) := by
 obtain ⟨b, -, hb'⟩ := right_run n e 1 0 h (by decide) (by decide) (by decide) (n + 4) (Nat.le_refl _)
 refine ⟨b, ?_, ?_⟩
 · unfold expr_Right
   rw [eta, show expr_right e 1 0 = some b from lim_eq (n + 4) fun k hk => ?_, bind_some_eq]
   obtain ⟨b2, h1, h2⟩ := right_run n e 1 0 h (by decide) (by decide) (by decide) k hk
   have : b2 = b := by rw [Bool.eq_iff_iff, h2, hb']
   rw [← this]; exact h1
 · rw [hb']
   constructor
   · rintro ⟨t, h1, h2, h3⟩; exact ⟨t, h1, h2, by omega⟩
   · rintro ⟨t, h1, h2, h3⟩; exact ⟨t, h1, h2, by omega⟩
end Go.Sy.Ex
namespace Go.Sy.Ex
open Go.Sy
theorem it1 : Lib.itoa 1 = [49] := by rw [itoa_pos (by decide), show (1 : Int).toNat = 1 from rfl, dec_small (by decide)]; rfl
theorem it2 : Lib.itoa 2 = [50] := by rw [itoa_pos (by decide), show (2 : Int).toNat = 2 from rfl, dec_small (by decide)]; rfl
theorem it3 : Lib.itoa 3 = [51] := by rw [itoa_pos (by decide), show (3 : Int).toNat = 3 from rfl, dec_small (by decide)]; rfl
theorem it4 : Lib.itoa 4 = [52] := by rw [itoa_pos (by decide), show (4 : Int).toNat = 4 from rfl, dec_small (by decide)]; rfl
theorem Sg_n1 : Sg (.num 1) [(2, [49], 1)] 0 := by have := Sg_num (n := 1); rwa [it1] at this
theorem Sg_n2 : Sg (.num 2) [(2, [50], 2)] 0 := by have := Sg_num (n := 2); rwa [it2] at this
theorem Sg_n3 : Sg (.num 3) [(2, [51], 3)] 0 := by have := Sg_num (n := 3); rwa [it3] at this
theorem Sg_n4 : Sg (.num 4) [(2, [52], 4)] 0 := by have := Sg_num (n := 4); rwa [it4] at this
theorem Fw.up : ∀ {n m : Nat} {e : api_Expr}, Fw n e → n ≤ m → Fw m e
 | 0, _, _, h, _ => h.elim
 | n + 1, 0, _, _, h => by omega
 | n + 1, m + 1, e, ⟨h1, h2, h3, h4⟩, h => ⟨h1, h2, h3, fun x hx => Fw.up (h4 x hx) (by omega)⟩
theorem Is.fw : ∀ {t : T} {e : api_Expr}, Is t e → t.ok → Fw (t.sz + 1) e
 | .num n, e, h, hok => ⟨by rw [h.2.2.2]; decide, by rw [h.2.2.1]; decide, by rw [h.2.1]; unfold T.ok at hok; omega, by rw [h.2.2.2]; intro x hx; cases hx⟩
 | .var s, e, h, hok => ⟨by rw [h.2.2.2]; decide, by rw [h.2.2.1]; have := (name_split hok).2.1; omega, by rw [h.2.1]; decide, by rw [h.2.2.2]; intro x hx; cases hx⟩
 | .arg, e, h, hok => ⟨by rw [h.2.2.2]; decide, by rw [h.2.2.1]; decide, by rw [h.2.1]; decide, by rw [h.2.2.2]; intro x hx; cases hx⟩
 | .isin s, e, h, hok => ⟨by rw [h.2.2.2]; decide, by rw [h.2.2.1]; have := (name_split hok).2.1; omega, by rw [h.2.1]; decide, by rw [h.2.2.2]; intro x hx; cases hx⟩
 | .un k t, e, h, hok => by
  obtain ⟨h1, h2, h3, x, h4, h5⟩ := h
  exact ⟨by rw [h4]; simp, by rw [h3]; decide, by rw [h2]; decide, by rw [h4]; intro y hy; rw [List.mem_singleton] at hy; subst hy; exact Is.fw h5 hok.2⟩
 | .bin k a b, e, h, hok => by
  obtain ⟨h1, h2, h3, x, y, h4, h5, h6⟩ := h
  refine ⟨by rw [h4]; simp, by rw [h3]; decide, by rw [h2]; decide, ?_⟩
  rw [h4]; intro z hz
  simp only [List.mem_cons, List.not_mem_nil, or_false] at hz
  rcases hz with rfl | rfl
  · exact Fw.up (Is.fw h5 hok.2.1) (by simp only [T.sz]; omega)
  · exact Fw.up (Is.fw h6 hok.2.2) (by simp only [T.sz]; omega)
theorem Right_tree {t : T} {e : api_Expr} (h : Is t e) (hok : t.ok) (hn : nst t 1 ≤ 12) : expr_Right e = some true := by
 obtain ⟨b, h1, h2⟩ := Right_eq (h.fw hok)
 rw [h1, h2.2 ⟨t, h, hok, hn⟩]
end Go.Sy.Ex
namespace Go.Sy.Ex
open Go.Sy
theorem rskip_run (t : List UInt8) (hl : t.length < 1000000000000) : ∀ m n, n + m = t.length → (∀ k, 3 * m + 1 ≤ k → ref6_skip_l0 k t ((n : Nat) : Int) = some ((skipP false (t.drop n) n : Nat) : Int)) ∧ ∀ k, 3 * m + 2 ≤ k → ref6_skip_l1 k t ((n : Nat) : Int) = some ((skipP true (t.drop n) n : Nat) : Int) := by
 intro m
 induction m with
 | zero =>
  intro n h
  have hd : t.drop n = [] := List.drop_eq_nil_of_le (by omega)
  have h0 : ∀ k, 1 ≤ k → ref6_skip_l0 k t ((n : Nat) : Int) = some ((skipP false (t.drop n) n : Nat) : Int) := by
   intro k hk
   obtain ⟨k, rfl⟩ : ∃ j, k = j + 1 := ⟨k - 1, by omega⟩
   simp only [ref6_skip_l0]
   rw [if_neg (by omega), hd]; rfl
  refine ⟨fun k hk => h0 k (by omega), fun k hk => ?_⟩
  obtain ⟨k, rfl⟩ : ∃ j, k = j + 1 := ⟨k - 1, by omega⟩
  simp only [ref6_skip_l1]
  rw [if_neg (by omega), h0 k (by omega), hd]; rfl
 | succ m ih =>
  intro n h
  have hlt : n < t.length := by omega
  obtain ⟨i0, i1⟩ := ih (n + 1) (by omega)
  have e : w64 ((n : Int) + 1) = ((n + 1 : Nat) : Int) := by rw [w64_in (by omega) (by omega)]; omega
  have hd : t.drop n = t[n] :: t.drop (n + 1) := List.drop_eq_getElem_cons hlt
  have c10 : ((t[n].toNat : Nat) : Int) = 10 ↔ t[n] = 10 := u8_int t[n] 10 (by decide)
  have c32 : ((t[n].toNat : Nat) : Int) = 32 ↔ t[n] = 32 := u8_int t[n] 32 (by decide)
  have c9 : ((t[n].toNat : Nat) : Int) = 9 ↔ t[n] = 9 := u8_int t[n] 9 (by decide)
  have c13 : ((t[n].toNat : Nat) : Int) = 13 ↔ t[n] = 13 := u8_int t[n] 13 (by decide)
  have c35 : ((t[n].toNat : Nat) : Int) = 35 ↔ t[n] = 35 := u8_int t[n] 35 (by decide)
  have h0 : ∀ k, 3 * (m + 1) + 1 ≤ k → ref6_skip_l0 k t ((n : Nat) : Int) = some ((skipP false (t.drop n) n : Nat) : Int) := by
   intro k hk
   obtain ⟨k, rfl⟩ : ∃ j, k = j + 1 := ⟨k - 1, by omega⟩
   simp only [ref6_skip_l0]
   have g1 : (n : Int) < (t.length : Int) := by omega
   have g0 : 0 ≤ (n : Int) := by omega
   simp only [g0, g1, if_true, Int.toNat_natCast, getD_lt _ hlt, e]
   rw [hd, i0 k (by omega)]
   have l1 : t[n] = 35 → ref6_skip_l1 k t ((n : Nat) : Int) = some ((skipP true (t.drop (n + 1)) (n + 1) : Nat) : Int) := by
    intro hb
    obtain ⟨k, rfl⟩ : ∃ j, k = j + 1 := ⟨k - 1, by omega⟩
    simp only [ref6_skip_l1]
    rw [if_pos g1, if_pos g0, if_pos g1, Int.toNat_natCast, getD_lt _ hlt, if_pos (by rw [hb]; decide), e]
    exact i1 k (by omega)
   simp only [skipP]
   by_cases b32 : t[n] = 32
   · rw [if_pos (c32.2 b32), if_pos (.inl b32)]
   · rw [if_neg (fun q => b32 (c32.1 q))]
     by_cases b9 : t[n] = 9
     · rw [if_pos (c9.2 b9), if_pos (.inr (.inl b9))]
     · rw [if_neg (fun q => b9 (c9.1 q))]
       by_cases b10 : t[n] = 10
       · rw [if_pos (c10.2 b10), if_pos (.inr (.inr (.inl b10)))]
       · rw [if_neg (fun q => b10 (c10.1 q))]
         by_cases b13 : t[n] = 13
         · rw [if_pos (c13.2 b13), if_pos (.inr (.inr (.inr b13)))]
         · have hno : ¬ (t[n] = 32 ∨ t[n] = 9 ∨ t[n] = 10 ∨ t[n] = 13) := fun q => q.elim b32 fun q => q.elim b9 fun q => q.elim b10 b13
           rw [if_neg (fun q => b13 (c13.1 q)), if_neg hno]
           by_cases b35 : t[n] = 35
           · rw [if_pos (c35.2 b35), if_pos b35, l1 b35]
           · rw [if_neg (fun q => b35 (c35.1 q)), if_neg b35]
  refine ⟨h0, fun k hk => ?_⟩
  obtain ⟨k, rfl⟩ : ∃ j, k = j + 1 := ⟨k - 1, by omega⟩
  simp only [ref6_skip_l1]
  rw [if_pos (by omega), if_pos (by omega), if_pos (by omega), Int.toNat_natCast, getD_lt _ hlt, e]
  by_cases b10 : t[n] = 10
  · rw [if_neg (fun q => q (c10.2 b10)), h0 k (by omega), hd]
    simp only [skipP]
    rw [if_pos (.inr (.inr (.inl b10))), if_pos b10]
  · rw [if_pos (fun q => b10 (c10.1 q)), i1 k (by omega), hd]
    simp only [skipP]
    rw [if_neg b10]
theorem value_run (t : List UInt8) (hl : t.length < 1000000000000) (hd : ∀ c ∈ t, dg c = true) : ∀ m n acc, n + m = t.length → acc < 9223372036854775808 → ∀ k, m + 1 ≤ k → ref6_value_l0 k t ((acc : Nat) : Int) ((n : Nat) : Int) = some (match valP acc (t.drop n) with | some v => ((v : Int), true) | none => (0, false)) := by
 intro m
 induction m with
 | zero =>
  intro n acc h ha k hk
  obtain ⟨k, rfl⟩ : ∃ j, k = j + 1 := ⟨k - 1, by omega⟩
  simp only [ref6_value_l0]
  rw [if_neg (by omega), List.drop_eq_nil_of_le (by omega)]
  rfl
 | succ m ih =>
  intro n acc h ha k hk
  obtain ⟨k, rfl⟩ : ∃ j, k = j + 1 := ⟨k - 1, by omega⟩
  have hlt : n < t.length := by omega
  have hc := (dg_iff t[n]).1 (hd _ (List.getElem_mem hlt))
  have e : w64 ((n : Int) + 1) = ((n + 1 : Nat) : Int) := by rw [w64_in (by omega) (by omega)]; omega
  have e1 : wu8 (((t[n]).toNat : Int) - 48) = ((t[n].toNat - 48 : Nat) : Int) := by rw [wu8_in (by omega) (by omega)]; omega
  have e2 : w64 ((t[n].toNat - 48 : Nat) : Int) = ((t[n].toNat - 48 : Nat) : Int) := w64_in (by omega) (by omega)
  have e3 : w64 (9223372036854775807 - ((t[n].toNat - 48 : Nat) : Int)) = ((9223372036854775807 - (t[n].toNat - 48) : Nat) : Int) := by rw [w64_in (by omega) (by omega)]; omega
  have e4 : Int.tdiv ((9223372036854775807 - (t[n].toNat - 48) : Nat) : Int) 10 = (((9223372036854775807 - (t[n].toNat - 48)) / 10 : Nat) : Int) := by
   rw [Int.tdiv_eq_ediv_of_nonneg (by omega)]; omega
  have e5 : w64 (((9223372036854775807 - (t[n].toNat - 48)) / 10 : Nat) : Int) = (((9223372036854775807 - (t[n].toNat - 48)) / 10 : Nat) : Int) := w64_in (by omega) (by omega)
  simp only [ref6_value_l0]
  rw [if_pos (by omega), if_pos (by omega), if_pos (by omega), if_pos (by decide), Int.toNat_natCast, getD_lt _ hlt, e, e1, e2, e3, e4, e5, List.drop_eq_getElem_cons hlt]
  unfold valP
  by_cases hb : (9223372036854775807 - (t[n].toNat - 48)) / 10 < acc
  · rw [if_pos (by omega), if_pos hb]
  · rw [if_neg (by omega), if_neg hb]
    have e6 : w64 (w64 (10 * (acc : Int)) + ((t[n].toNat - 48 : Nat) : Int)) = ((10 * acc + (t[n].toNat - 48) : Nat) : Int) := by
     rw [w64_in (n := 10 * (acc : Int)) (by omega) (by omega), w64_in (by omega) (by omega)]; omega
    rw [e6]
    exact ih (n + 1) _ (by omega) (by omega) k (by omega)
theorem value_eq (t : List UInt8) (hl : t.length < 1000000000000) (hd : ∀ c ∈ t, dg c = true) : ref6_value t = some (match valP 0 t with | some v => ((v : Int), true) | none => (0, false)) :=
 lim_eq (t.length + 1) fun k hk => value_run t hl hd t.length 0 0 (by omega) (by omega) k hk
theorem ones_run (s : List UInt8) (i : Nat) (hi : i < s.length) (one : List UInt8) (hl : one.length < 1000000000000) : ∀ m n, n + m = one.length → ∀ k, m + 1 ≤ k → ref6_sign_l1 k s ((i : Nat) : Int) one ((n : Nat) : Int) = some (if s[i] ∈ one.drop n then 1 else 0) := by
 intro m
 induction m with
 | zero =>
  intro n h k hk
  obtain ⟨k, rfl⟩ : ∃ j, k = j + 1 := ⟨k - 1, by omega⟩
  simp only [ref6_sign_l1]
  rw [if_neg (by omega), List.drop_eq_nil_of_le (by omega)]
  simp
 | succ m ih =>
  intro n h k hk
  obtain ⟨k, rfl⟩ : ∃ j, k = j + 1 := ⟨k - 1, by omega⟩
  have hlt : n < one.length := by omega
  have e : w64 ((n : Int) + 1) = ((n + 1 : Nat) : Int) := by rw [w64_in (by omega) (by omega)]; omega
  simp only [ref6_sign_l1]
  rw [if_pos (by omega), if_pos (by omega), if_pos (by omega), if_pos (by omega), if_pos (by omega), Int.toNat_natCast, Int.toNat_natCast, getD_lt _ hlt, getD_lt _ hi, e, ih (n + 1) (by omega) k (by omega), List.drop_eq_getElem_cons hlt]
  by_cases hx : s[i] = one[n]
  · rw [if_pos (by rw [hx]), if_pos (by rw [hx]; exact List.mem_cons_self ..)]
  · rw [if_neg (fun q => hx (UInt8.toNat_inj.1 (by omega)))]
    congr 1
    have : (s[i] ∈ one[n] :: one.drop (n + 1)) ↔ s[i] ∈ one.drop (n + 1) := by rw [List.mem_cons]; exact ⟨fun q => q.elim (fun q => absurd q hx) id, .inr⟩
    simp only [this]
theorem rsign_eq (t : List UInt8) (n : Nat) (hl : t.length < 1000000000000) (h : n < t.length) : ref6_sign t ((n : Nat) : Int) = some ((signP (t.drop n) : Nat) : Int) := by
 have e1 : w64 ((n : Int) + 1) = ((n + 1 : Nat) : Int) := by rw [w64_in (by omega) (by omega)]; omega
 have e2 : w64 ((n : Int) + 2) = ((n + 2 : Nat) : Int) := by rw [w64_in (by omega) (by omega)]; omega
 refine lim_eq 50 fun k hk => ?_
 obtain ⟨k, rfl⟩ : ∃ j, k = j + 8 := ⟨k - 8, by omega⟩
 have hone := ones_run t n h s_x5d46a (by decide) 20 0 (by decide) k (by omega)
 have k1 : w64 ((0 : Int) + 1) = 1 := by decide
 have k2 : w64 ((1 : Int) + 1) = 2 := by decide
 have k3 : w64 ((2 : Int) + 1) = 3 := by decide
 have k4 : w64 ((3 : Int) + 1) = 4 := by decide
 have k5 : w64 ((4 : Int) + 1) = 5 := by decide
 have k6 : w64 ((5 : Int) + 1) = 6 := by decide
 have k7 : w64 ((6 : Int) + 1) = 7 := by decide
 have hone' : ref6_sign_l1 k t ((n : Nat) : Int) s_x5d46a 0 = some (if t[n] ∈ s_x5d46a then 1 else 0) := hone
 have fin : some (if t[n] ∈ s_x5d46a then (1 : Int) else 0) = some (((if t[n] ∈ s_x5d46a then 1 else 0 : Nat)) : Int) := by split <;> rfl
 by_cases h1 : n + 1 < t.length
 · have g1 : ((n + 1 : Nat) : Int) < (t.length : Int) := by omega
   have g2 : (0 : Int) ≤ ((n + 2 : Nat) : Int) := by omega
   have g3 : ((n + 2 : Nat) : Int) ≤ (t.length : Int) := by omega
   have g4 : (0 : Int) ≤ (n : Int) := by omega
   have g5 : (n : Int) ≤ ((n + 2 : Nat) : Int) := by omega
   have hm : [t[n], t[n + 1]] ∈ pairsP ↔ ([t[n], t[n + 1]] = s_minus_gt ∨ [t[n], t[n + 1]] = s_eq_eq ∨ [t[n], t[n + 1]] = s_bang_eq ∨ [t[n], t[n + 1]] = s_lt_eq ∨ [t[n], t[n + 1]] = s_gt_eq ∨ [t[n], t[n + 1]] = s_amp_amp ∨ [t[n], t[n + 1]] = s_bar_bar) := by
    unfold pairsP
    rw [List.mem_cons, List.mem_cons, List.mem_cons, List.mem_cons, List.mem_cons, List.mem_cons, List.mem_singleton]
   have q0 : (0 : Int) < (([s_minus_gt, s_eq_eq, s_bang_eq, s_lt_eq, s_gt_eq, s_amp_amp, s_bar_bar].length : Nat) : Int) := by decide
   have q1 : (1 : Int) < (([s_minus_gt, s_eq_eq, s_bang_eq, s_lt_eq, s_gt_eq, s_amp_amp, s_bar_bar].length : Nat) : Int) := by decide
   have q2 : (2 : Int) < (([s_minus_gt, s_eq_eq, s_bang_eq, s_lt_eq, s_gt_eq, s_amp_amp, s_bar_bar].length : Nat) : Int) := by decide
   have q3 : (3 : Int) < (([s_minus_gt, s_eq_eq, s_bang_eq, s_lt_eq, s_gt_eq, s_amp_amp, s_bar_bar].length : Nat) : Int) := by decide
   have q4 : (4 : Int) < (([s_minus_gt, s_eq_eq, s_bang_eq, s_lt_eq, s_gt_eq, s_amp_amp, s_bar_bar].length : Nat) : Int) := by decide
   have q5 : (5 : Int) < (([s_minus_gt, s_eq_eq, s_bang_eq, s_lt_eq, s_gt_eq, s_amp_amp, s_bar_bar].length : Nat) : Int) := by decide
   have q6 : (6 : Int) < (([s_minus_gt, s_eq_eq, s_bang_eq, s_lt_eq, s_gt_eq, s_amp_amp, s_bar_bar].length : Nat) : Int) := by decide
   simp only [ref6_sign_f, ref6_sign_l0, arr_xb6ce8, k1, k2, k3, k4, k5, k6, k7, e1, e2, g1, g2, g3, g4, g5, if_true, cut2 t n h1, hone', signP_two t n h1]
   simp only [show (0 : Int) < 7 by decide, show (1 : Int) < 7 by decide, show (2 : Int) < 7 by decide, show (3 : Int) < 7 by decide, show (4 : Int) < 7 by decide, show (5 : Int) < 7 by decide, show (6 : Int) < 7 by decide, show ¬ (7 : Int) < 7 by decide, show (0 : Int) ≤ 0 by decide, show (0 : Int) ≤ 1 by decide, show (0 : Int) ≤ 2 by decide, show (0 : Int) ≤ 3 by decide, show (0 : Int) ≤ 4 by decide, show (0 : Int) ≤ 5 by decide, show (0 : Int) ≤ 6 by decide, if_true, if_false, q0, q1, q2, q3, q4, q5, q6]
   simp only [hm]
   by_cases p0 : [t[n], t[n + 1]] = s_minus_gt
   · rw [if_pos (by exact p0), if_pos (.inl p0)]; rfl
   · rw [if_neg (by exact p0)]
     by_cases p1 : [t[n], t[n + 1]] = s_eq_eq
     · rw [if_pos (by exact p1), if_pos (.inr (.inl p1))]; rfl
     · rw [if_neg (by exact p1)]
       by_cases p2 : [t[n], t[n + 1]] = s_bang_eq
       · rw [if_pos (by exact p2), if_pos (.inr (.inr (.inl p2)))]; rfl
       · rw [if_neg (by exact p2)]
         by_cases p3 : [t[n], t[n + 1]] = s_lt_eq
         · rw [if_pos (by exact p3), if_pos (.inr (.inr (.inr (.inl p3))))]; rfl
         · rw [if_neg (by exact p3)]
           by_cases p4 : [t[n], t[n + 1]] = s_gt_eq
           · rw [if_pos (by exact p4), if_pos (.inr (.inr (.inr (.inr (.inl p4)))))]; rfl
           · rw [if_neg (by exact p4)]
             by_cases p5 : [t[n], t[n + 1]] = s_amp_amp
             · rw [if_pos (by exact p5), if_pos (.inr (.inr (.inr (.inr (.inr (.inl p5))))))]; rfl
             · rw [if_neg (by exact p5)]
               by_cases p6 : [t[n], t[n + 1]] = s_bar_bar
               · rw [if_pos (by exact p6), if_pos (.inr (.inr (.inr (.inr (.inr (.inr p6))))))]; rfl
               · rw [if_neg (by exact p6)]
                 have hn : ¬ ([t[n], t[n + 1]] = s_minus_gt ∨ [t[n], t[n + 1]] = s_eq_eq ∨ [t[n], t[n + 1]] = s_bang_eq ∨ [t[n], t[n + 1]] = s_lt_eq ∨ [t[n], t[n + 1]] = s_gt_eq ∨ [t[n], t[n + 1]] = s_amp_amp ∨ [t[n], t[n + 1]] = s_bar_bar) := fun q => q.elim p0 fun q => q.elim p1 fun q => q.elim p2 fun q => q.elim p3 fun q => q.elim p4 fun q => q.elim p5 p6
                 rw [if_neg hn]
                 exact fin
 · have g1 : ¬ ((n + 1 : Nat) : Int) < (t.length : Int) := by omega
   simp only [ref6_sign_f, ref6_sign_l0, arr_xb6ce8, k1, k2, k3, k4, k5, k6, k7, e1, e2, g1, if_false, hone', signP_one t n (by omega : n + 1 = t.length)]
   simp only [show (0 : Int) < 7 by decide, show (1 : Int) < 7 by decide, show (2 : Int) < 7 by decide, show (3 : Int) < 7 by decide, show (4 : Int) < 7 by decide, show (5 : Int) < 7 by decide, show (6 : Int) < 7 by decide, show ¬ (7 : Int) < 7 by decide, if_true, if_false]
   exact fin
theorem one_run0 (s : List UInt8) (i : Nat) (hl : s.length < 1000000000000) : ∀ m n, n + m = s.length → i ≤ n → ∀ k, m + 1 ≤ k → ref6_one_l0 k s ((i : Nat) : Int) 0 0 0 [] 0 ((n : Nat) : Int) 0 ((i : Nat) : Int) 0 [] 0 = some (if i + 24 < runP nm s n then (api_Token.mk 0 0 0 [] 0, 13) else (api_Token.mk 1 (i : Nat) (runP nm s n : Nat) (cut s ((i : Nat) : Int) ((runP nm s n : Nat) : Int)) 0, 0)) := by
 intro m
 induction m with
 | zero =>
  intro n h hi k hk
  obtain ⟨k, rfl⟩ : ∃ j, k = j + 1 := ⟨k - 1, by omega⟩
  simp only [ref6_one_l0]
  rw [if_neg (by omega), runP_stop (by omega), w64_in (by omega) (by omega)]
  by_cases h24 : i + 24 < n
  · rw [if_pos (by omega), if_pos h24]
  · rw [if_neg (by omega), if_neg h24, if_pos (by omega), if_pos (by omega), if_pos (by omega), if_pos (by omega)]
 | succ m ih =>
  intro n h hi k hk
  obtain ⟨k, rfl⟩ : ∃ j, k = j + 1 := ⟨k - 1, by omega⟩
  have hlt : n < s.length := by omega
  have e : w64 ((n : Int) + 1) = ((n + 1 : Nat) : Int) := by rw [w64_in (by omega) (by omega)]; omega
  simp only [ref6_one_l0, letter_eq, digit_eq, bind_some_eq]
  rw [if_pos (by omega), if_pos (by omega), if_pos (by omega), Int.toNat_natCast, getD_lt _ hlt, e, ih (n + 1) (by omega) (by omega) k (by omega)]
  have hdg : isDigit ((s[n].toNat : Nat) : Int) = dg s[n] := rfl
  have hlt' : isLetter ((s[n].toNat : Nat) : Int) = lt s[n] := rfl
  rw [hdg, hlt', w64_in (by omega) (by omega)]
  cases hL : lt s[n] with
  | true => rw [cond_true, runP_yes hlt (by simp [nm, hL])]
  | false =>
   rw [cond_false, if_pos (by omega), if_pos (by omega)]
   cases hD : dg s[n] with
   | true => rw [cond_true, runP_yes hlt (by simp [nm, hD])]
   | false =>
    rw [cond_false, runP_no hlt (by simp [nm, hL, hD])]
    by_cases h24 : i + 24 < n
    · rw [if_pos (by omega), if_pos h24]
    · rw [if_neg (by omega), if_neg h24, if_pos (by omega), if_pos (by omega), if_pos (by omega), if_pos (by omega)]
noncomputable def numTail (s : List UInt8) (i j : Nat) : Option (api_Token × Int) :=
 if i + 1 < j ∧ s.getD i 0 = 48 then some (api_Token.mk 0 0 0 [] 0, 11) else
  (ref6_value (cut s ((i : Nat) : Int) ((j : Nat) : Int))).bind fun r => bif !r.2 then some (api_Token.mk 0 0 0 [] 0, 16) else some (api_Token.mk 2 (i : Nat) (j : Nat) (cut s ((i : Nat) : Int) ((j : Nat) : Int)) r.1, 0)
theorem one_run1 (s : List UInt8) (i : Nat) (hl : s.length < 1000000000000) (his : i < s.length) : ∀ m n, n + m = s.length → i ≤ n → ∀ k, m + 1 ≤ k → ref6_one_l1 k s ((i : Nat) : Int) 0 0 0 [] 0 ((n : Nat) : Int) 0 ((i : Nat) : Int) 0 [] 0 = numTail s i (runP dg s n) := by
 have c48 : ((s[i].toNat : Nat) : Int) = 48 ↔ s[i] = 48 := u8_int s[i] 48 (by decide)
 have tail : ∀ n, n ≤ s.length → i ≤ n → (if 1 < w64 ((n : Int) - (i : Int)) then
  if 0 ≤ (i : Int) then
  if (i : Int) < (s.length : Int) then
  if ((s.getD (i : Int).toNat 0).toNat : Int) = 48 then
  some (api_Token.mk 0 0 0 [] 0, 11) else
  if 0 ≤ (n : Int) then
  if (n : Int) ≤ (s.length : Int) then
  if 0 ≤ (i : Int) then
  if (i : Int) ≤ (n : Int) then
  (ref6_value (cut s (i : Int) (n : Int))).bind fun r7 =>
  bif !r7.2 then
  some (api_Token.mk 0 0 0 [] 0, 16) else
  if 0 ≤ (n : Int) then
  if (n : Int) ≤ (s.length : Int) then
  if 0 ≤ (i : Int) then
  if (i : Int) ≤ (n : Int) then
  some (api_Token.mk 2 (i : Int) (n : Int) (cut s (i : Int) (n : Int)) r7.1, 0) else none else none else none else none else none else none else none else none else none else none else
  if 0 ≤ (n : Int) then
  if (n : Int) ≤ (s.length : Int) then
  if 0 ≤ (i : Int) then
  if (i : Int) ≤ (n : Int) then
  (ref6_value (cut s (i : Int) (n : Int))).bind fun r8 =>
  bif !r8.2 then
  some (api_Token.mk 0 0 0 [] 0, 16) else
  if 0 ≤ (n : Int) then
  if (n : Int) ≤ (s.length : Int) then
  if 0 ≤ (i : Int) then
  if (i : Int) ≤ (n : Int) then
  some (api_Token.mk 2 (i : Int) (n : Int) (cut s (i : Int) (n : Int)) r8.1, 0) else none else none else none else none else none else none else none else none) = numTail s i n := by
  intro n hn hi
  have q0 : (0 : Int) ≤ (i : Int) := by omega
  have q1 : (i : Int) < (s.length : Int) := by omega
  have q2 : (0 : Int) ≤ (n : Int) := by omega
  have q3 : (n : Int) ≤ (s.length : Int) := by omega
  have q4 : (i : Int) ≤ (n : Int) := by omega
  simp only [q0, q1, q2, q3, q4, if_true, Int.toNat_natCast, getD_lt _ his, c48]
  unfold numTail
  rw [w64_in (by omega) (by omega), getD_lt _ his]
  by_cases h1 : i + 1 < n
  · rw [if_pos (by omega)]
    by_cases h2 : s[i] = 48
    · rw [if_pos h2, if_pos ⟨h1, h2⟩]
    · rw [if_neg h2, if_neg (fun q => h2 q.2)]
  · rw [if_neg (by omega), if_neg (fun q => h1 q.1)]
 intro m
 induction m with
 | zero =>
  intro n h hi k hk
  obtain ⟨k, rfl⟩ : ∃ j, k = j + 1 := ⟨k - 1, by omega⟩
  simp only [ref6_one_l1]
  rw [if_neg (by omega), runP_stop (by omega)]
  exact tail n (by omega) hi
 | succ m ih =>
  intro n h hi k hk
  obtain ⟨k, rfl⟩ : ∃ j, k = j + 1 := ⟨k - 1, by omega⟩
  have hlt : n < s.length := by omega
  have e : w64 ((n : Int) + 1) = ((n + 1 : Nat) : Int) := by rw [w64_in (by omega) (by omega)]; omega
  simp only [ref6_one_l1, digit_eq, bind_some_eq]
  rw [if_pos (by omega), if_pos (by omega), if_pos (by omega), Int.toNat_natCast, getD_lt _ hlt, e, ih (n + 1) (by omega) (by omega) k (by omega)]
  have hdg : isDigit ((s[n].toNat : Nat) : Int) = dg s[n] := rfl
  rw [hdg]
  cases hD : dg s[n] with
  | true => rw [cond_true, runP_yes hlt hD]
  | false =>
   rw [cond_false, runP_no hlt hD]
   exact tail n (by omega) hi
theorem rone_eq (t : List UInt8) (n : Nat) (hl : t.length < 1000000000000) (h : n < t.length) : ref6_one t ((n : Nat) : Int) = some (tokP t n) := by
 refine lim_eq (t.length + 1) fun k hk => ?_
 simp only [ref6_one_f, letter_eq, digit_eq, bind_some_eq, Int.toNat_natCast, getD_lt _ h, rsign_eq t n hl h]
 rw [if_pos (by omega), if_pos (by omega), if_pos (by omega), if_pos (by omega)]
 have hdg : isDigit ((t[n].toNat : Nat) : Int) = dg t[n] := rfl
 have hlt : isLetter ((t[n].toNat : Nat) : Int) = lt t[n] := rfl
 rw [hdg, hlt]
 unfold tokP
 rw [getD_lt _ h]
 cases hL : lt t[n] with
 | true =>
  rw [cond_true, one_run0 t n hl (t.length - n) n (by omega) (Nat.le_refl _) k (by omega), disj _ hL, cut_run]
  rfl
 | false =>
  rw [cond_false]
  cases hD : dg t[n] with
  | true =>
   rw [cond_true, one_run1 t n hl h (t.length - n) n (by omega) (Nat.le_refl _) k (by omega)]
   have r := runP_ge dg t n (by omega)
   have hc : cut t ((n : Nat) : Int) ((runP dg t n : Nat) : Int) = (t.drop n).takeWhile dg := cut_run dg t n
   have hlen : ((t.drop n).takeWhile dg).length ≤ t.length := by
    have := takeWhile_le dg (t.drop n); rw [List.length_drop] at this; omega
   have hlen2 : runP dg t n = n + ((t.drop n).takeWhile dg).length := rfl
   have hd0 : ((t.drop n).takeWhile dg).getD 0 0 = t[n] := by
    rw [List.drop_eq_getElem_cons h, List.takeWhile_cons_of_pos hD]; rfl
   unfold numTail numP
   rw [hc, value_eq _ (by omega) (fun c hc => tw_all _ _ c hc), bind_some_eq, hd0, getD_lt _ h]
   simp only [if_true]
   by_cases h1 : 1 < ((t.drop n).takeWhile dg).length ∧ t[n] = 48
   · rw [if_pos ⟨by omega, h1.2⟩, if_pos h1]; rfl
   · rw [if_neg (fun q => h1 ⟨by omega, q.2⟩), if_neg h1]
     cases valP 0 ((t.drop n).takeWhile dg) with
     | some v => rfl
     | none => rfl
  | false =>
   rw [cond_false]
   have hs := signP_le (t.drop n)
   rw [List.length_drop] at hs
   simp only [Bool.false_eq_true, if_false]
   by_cases hz : signP (t.drop n) = 0
   · rw [if_pos (by omega), if_pos hz]
   · have e : w64 ((n : Int) + ((signP (t.drop n) : Nat) : Int)) = ((n + signP (t.drop n) : Nat) : Int) := by rw [w64_in (by omega) (by omega)]; omega
     rw [e, if_neg (by omega), if_neg hz, if_pos (by omega), if_pos (by omega), if_pos (by omega), if_pos (by omega), cut_take]
theorem rskip_eq (t : List UInt8) (n : Nat) (hl : t.length < 1000000000000) (h : n ≤ t.length) : ref6_skip t ((n : Nat) : Int) = some ((skipP false (t.drop n) n : Nat) : Int) :=
 lim_eq (3 * (t.length - n) + 1) fun k hk => (rskip_run t hl (t.length - n) n (by omega)).1 k hk
theorem rall_run (t : List UInt8) (hl : t.length ≤ 16384) : ∀ m n, t.length ≤ n + m → n ≤ t.length → (∀ h : n < t.length, t[n] ≠ 32) → ∀ l : List api_Token, l.length ≤ n → ∀ k k', m + 1 ≤ k → m + 1 ≤ k' →
 ref6_All_l0 k t 0 0 l ((n : Nat) : Int) = some (allGo k' t l n) := by
 intro m
 induction m with
 | zero =>
  intro n h hn _ l hln k k' hk hk'
  obtain ⟨k, rfl⟩ : ∃ j, k = j + 1 := ⟨k - 1, by omega⟩
  obtain ⟨k', rfl⟩ : ∃ j, k' = j + 1 := ⟨k' - 1, by omega⟩
  · simp only [ref6_All_l0, allGo, List.length_cons, List.length_nil]
    rw [if_neg (by omega), if_pos (by omega), if_neg (by omega), show (t.length : Int) = (n : Int) by omega]
 | succ m ih =>
  intro n h hn hb l hln k k' hk hk'
  obtain ⟨k, rfl⟩ : ∃ j, k = j + 1 := ⟨k - 1, by omega⟩
  obtain ⟨k', rfl⟩ : ∃ j, k' = j + 1 := ⟨k' - 1, by omega⟩
  by_cases hlt : n < t.length
  · have hi : (n : Int) < (t.length : Int) := by omega
    have hc48 : (l.length + (0 + 1)) * 48 ≤ 140737488355328 := by omega
    simp only [ref6_All_l0, allGo, List.length_cons, List.length_nil, hi, hlt, if_true, rone_eq t n (by omega) hlt, bind_some_eq, hc48]
    by_cases hz : (tokP t n).2 = 0
    · simp only [hz, ne_eq, not_true_eq_false, if_false]
      obtain ⟨e, he, h1, h2, _⟩ := tok_end t n hlt hz
      simp only [he, rskip_eq t e (by omega) h2, bind_some_eq, Int.toNat_natCast]
      have hg := skipP_ge (t.drop e) false e
      rw [List.length_drop] at hg
      exact ih _ (by omega) (by omega) (fun hh => free_at t e h2 hh) _ (by rw [List.length_append, List.length_singleton]; omega) k k' (by omega) (by omega)
    · simp only [hz, ne_eq, not_false_eq_true, if_true]
  · · simp only [ref6_All_l0, allGo, List.length_cons, List.length_nil]
      rw [if_neg (by omega), if_pos (by omega), if_neg hlt, show (t.length : Int) = (n : Int) by omega]
theorem rAll_eq (t : List UInt8) : ref6_All t = some (allP t) := by
 refine lim_eq (t.length + 1) fun k hk => ?_
 unfold ref6_All_f allP
 by_cases hl : 16384 < t.length
 · rw [if_pos (by omega), if_pos hl]
 · have hg := skipP_ge t false 0
   rw [if_neg (by omega), if_neg hl, show (0 : Int) = ((0 : Nat) : Int) from rfl, rskip_eq t 0 (by omega) (Nat.zero_le _), bind_some_eq]
   exact (rall_run t (by omega) t.length _ (by omega) (by rw [List.drop_zero]; omega) (fun hh => free_at t 0 (Nat.zero_le _) hh) [] (Nat.zero_le _) k _ (by omega) (by omega))
end Go.Sy.Ex
namespace Go.Sy.Ex
open Go.Sy
def rs (l : List api_Token) (i o : Nat) : ref7_reader := ⟨l, (i : Int), (o : Int), ⟨0, 0⟩⟩
def bdz (t : api_Token) : api_Fault := if t.Kind = 4 then ⟨12, t.At⟩ else ⟨11, t.At⟩
theorem bdz_ne (t : api_Token) : (bdz t).Code ≠ 0 := by unfold bdz; split <;> (dsimp only; decide)
section
variable {l : List api_Token} {i o : Nat}
theorem ris_st (hi : i < l.length) (s : List UInt8) : ref7_reader_is (rs l i o) s = some (isT (tkn l i) s, rs l i o) := by
 have h : ref6_Is l ((i : Nat) : Int) s = some (isT (tkn l i) s) := by
  unfold ref6_Is isT
  have e : l.getD ((i : Nat) : Int).toNat api_Token.z = tkn l i := by rw [Int.toNat_natCast]; rfl
  rw [e]
  have a1 : ((i : Nat) : Int) < (l.length : Int) := by omega
  have a2 : 0 ≤ ((i : Nat) : Int) := by omega
  simp only [a1, a2, if_true]
  by_cases h3 : (tkn l i).Kind = 3
  · rw [if_pos h3]; congr 1; rw [decide_eq_decide]; simp [h3]
  · rw [if_neg h3]
    by_cases h1 : (tkn l i).Kind = 1
    · rw [if_pos h1]; congr 1; rw [decide_eq_decide]; simp [h1]
    · rw [if_neg h1]; congr 1; symm; rw [decide_eq_false_iff_not]; rintro ⟨h | h, _⟩ <;> contradiction
 show (ref6_Is l ((i : Nat) : Int) s).bind _ = _
 rw [h, bind_some_eq]
theorem rbad_st (hi : i < l.length) : ref6_Bad l ((i : Nat) : Int) = some (bdz (tkn l i)) := by
 unfold ref6_Bad bdz
 have e : l.getD ((i : Nat) : Int).toNat api_Token.z = tkn l i := by rw [Int.toNat_natCast]; rfl
 rw [e]
 have a1 : ((i : Nat) : Int) < (l.length : Int) := by omega
 have a2 : 0 ≤ ((i : Nat) : Int) := by omega
 simp only [a1, a2, if_true]
 split <;> rfl
theorem rwrong_st (hi : i < l.length) : ref7_reader_wrong (rs l i o) = some (api_Expr.mk 0 0 [] [] 0, ref7_reader.mk l (i : Int) (o : Int) (bdz (tkn l i))) := by
 unfold ref7_reader_wrong
 rw [if_pos (by rfl)]
 show (ref6_Bad l ((i : Nat) : Int)).bind _ = _
 rw [rbad_st hi, bind_some_eq]; rfl
theorem wrong_st (hi : i < l.length) : read_Row_Wrong_1 (st l i o) = some (expr_reader.mk (read_Row.mk l (i : Int) (bdz (tkn l i))) (o : Int)) := by
 unfold read_Row_Wrong_1
 rw [look_st hi, bind_some_eq]
 dsimp only
 unfold bdz
 by_cases h4 : (tkn l i).Kind = 4
 · rw [if_pos h4, if_pos h4]
   unfold read_Row_Fail_1
   rw [ok_st, bind_some_eq]
   rfl
 · rw [if_neg h4, if_neg h4]
   unfold read_Row_Fail_1
   rw [ok_st, bind_some_eq]
   rfl
theorem want_no (hi : i < l.length) (hl : l.length ≤ 100000) {s : List UInt8} (h : isT (tkn l i) s = false) : read_Row_Want_1 (st l i o) s = some (expr_reader.mk (read_Row.mk l (i : Int) (bdz (tkn l i))) (o : Int)) := by
 unfold read_Row_Want_1
 rw [take_st hi hl, bind_some_eq, h]
 dsimp only [Bool.not_false, cond_true]
 rw [if_neg (by decide), wrong_st hi, bind_some_eq]
 rfl
theorem rwant_st (hi : i < l.length) (hl : l.length ≤ 100000) {s : List UInt8} (h : isT (tkn l i) s = true) : ref7_reader_want (rs l i o) s = some (rs l (i + 1) o) := by
 unfold ref7_reader_want
 rw [if_neg (by intro q; exact q rfl), ris_st hi, bind_some_eq, h]
 show some (ref7_reader.mk l (w64 ((i : Int) + 1)) (o : Int) ⟨0, 0⟩) = _
 rw [next_i hi hl]; rfl
theorem rwant_no (hi : i < l.length) {s : List UInt8} (h : isT (tkn l i) s = false) : ref7_reader_want (rs l i o) s = some (ref7_reader.mk l (i : Int) (o : Int) (bdz (tkn l i))) := by
 unfold ref7_reader_want
 rw [if_neg (by intro q; exact q rfl), ris_st hi, bind_some_eq, h]
 dsimp only [Bool.not_false, cond_true]
 rw [rwrong_st hi, bind_some_eq]
 rfl
theorem rnamed_st (hi : i < l.length) : ref6_Named l ((i : Nat) : Int) = some (decide ((tkn l i).Kind = 1) && !resP (tkn l i).Text) := by
 unfold ref6_Named
 have e : l.getD ((i : Nat) : Int).toNat api_Token.z = tkn l i := by rw [Int.toNat_natCast]; rfl
 rw [e]
 have a1 : ((i : Nat) : Int) < (l.length : Int) := by omega
 have a2 : 0 ≤ ((i : Nat) : Int) := by omega
 simp only [a1, a2, if_true]
 by_cases h1 : (tkn l i).Kind = 1
 · rw [if_pos h1, rres_eq, bind_some_eq, decide_eq_true h1, Bool.true_and]
 · rw [if_neg h1, decide_eq_false h1, Bool.false_and]
theorem renter_st (hi : i < l.length) (hl : l.length ≤ 100000) (ho : o < 12) : ref7_reader_enter (rs l i o) = some (true, rs l (i + 1) (o + 1)) := by
 unfold ref7_reader_enter
 rw [if_neg (by show ¬ ((o : Nat) : Int) = 12; omega)]
 show some (true, ref7_reader.mk l (w64 ((i : Int) + 1)) (w64 ((o : Int) + 1)) ⟨0, 0⟩) = _
 rw [next_i hi hl, show w64 (((o : Nat) : Int) + 1) = ((o + 1 : Nat) : Int) from by rw [w64_in (by omega) (by omega)]; omega]
 rfl
theorem renter_no (hi : i < l.length) : ref7_reader_enter (rs l i 12) = some (false, ref7_reader.mk l (i : Int) 12 ⟨14, (tkn l i).At⟩) := by
 unfold ref7_reader_enter
 rw [if_pos (by rfl), if_pos (by show (0 : Int) ≤ (i : Int); omega), if_pos (by show ((i : Nat) : Int) < (l.length : Int); omega)]
 show some (false, ref7_reader.mk l (i : Int) 12 ⟨14, (l.getD ((i : Nat) : Int).toNat api_Token.z).At⟩) = _
 rw [Int.toNat_natCast]; rfl
theorem deep_no (a : Int) : expr_reader_deep (st l i 12) a = some (false, expr_reader.mk (read_Row.mk l (i : Int) ⟨14, a⟩) 12) := by
 unfold expr_reader_deep
 rw [if_pos (by rfl)]
 unfold read_Row_Fail_1
 rw [ok_st, bind_some_eq]
 rfl
end
section
variable {s : expr_reader} (h : s.Row.Fault.Code ≠ 0)
include h
theorem ok_bd : read_Row_OK_1 s = some (false, s) := by unfold read_Row_OK_1; rw [decide_eq_false h]
theorem look_bd : read_Row_Look_1 s = some (api_Token.mk 4 0 0 [] 0, s) := by
 unfold read_Row_Look_1; rw [ok_bd h, bind_some_eq]; rfl
theorem is_bd (x : List UInt8) : read_Row_Is_1 s x = some (false, s) := by
 unfold read_Row_Is_1; rw [look_bd h, bind_some_eq]; rfl
theorem take_bd (x : List UInt8) : read_Row_Take_1 s x = some (false, s) := by
 unfold read_Row_Take_1; rw [is_bd h, bind_some_eq]; rfl
theorem fail_bd (c a : Int) : read_Row_Fail_1 s c a = some s := by
 unfold read_Row_Fail_1; rw [ok_bd h, bind_some_eq]; rfl
theorem wrong_bd : read_Row_Wrong_1 s = some s := by
 unfold read_Row_Wrong_1; rw [look_bd h, bind_some_eq]
 dsimp only
 rw [if_pos rfl, fail_bd h, bind_some_eq]
theorem want_bd (x : List UInt8) : read_Row_Want_1 s x = some s := by
 unfold read_Row_Want_1; rw [take_bd h, bind_some_eq]
 dsimp only [Bool.not_false, cond_true]
 rw [wrong_bd h, bind_some_eq]
 rfl
theorem isname_bd : read_Row_IsName_1 s = some (false, s) := by
 unfold read_Row_IsName_1; rw [look_bd h, bind_some_eq]; rfl
theorem name_bd : read_Row_Name_1 s = some ([], s) := by
 unfold read_Row_Name_1; rw [isname_bd h, bind_some_eq]
 dsimp only [Bool.not_false, cond_true]
 rw [wrong_bd h, bind_some_eq]
 rfl
end
theorem rwant_bd {s : ref7_reader} (h : s.bad.Code ≠ 0) (x : List UInt8) : ref7_reader_want s x = some s := by unfold ref7_reader_want; rw [if_pos h]
theorem eta_x (s : expr_reader) : expr_reader.mk (read_Row.mk s.Row.L s.Row.At (api_Fault.mk s.Row.Fault.Code s.Row.Fault.At)) s.v_open = s := by cases s; rename_i r o; cases r; rename_i l a f; cases f; rfl
theorem reta (s : ref7_reader) : ref7_reader.mk s.l s.v_at s.v_open (api_Fault.mk s.bad.Code s.bad.At) = s := by cases s; rename_i l a o f; cases f; rfl
def Fe : Nat → api_Expr → Prop
 | 0, _ => False
 | n + 1, e => e.Kids.length ≤ 2 ∧ ∀ x ∈ e.Kids, Fe n x
def Fd (e : api_Expr) : Prop := ∃ n, Fe n e
theorem Fe.up : ∀ {n m : Nat} {e : api_Expr}, Fe n e → n ≤ m → Fe m e
 | 0, _, _, h, _ => h.elim
 | n + 1, 0, _, _, h => by omega
 | n + 1, m + 1, e, ⟨h1, h4⟩, h => ⟨h1, fun x hx => Fe.up (h4 x hx) (by omega)⟩
theorem Fd.leaf {e : api_Expr} (h : e.Kids = []) : Fd e := ⟨1, by rw [h]; decide, by rw [h]; intro x hx; cases hx⟩
theorem Fd.one {e x : api_Expr} (h : e.Kids = [x]) (hx : Fd x) : Fd e := by
 obtain ⟨n, hn⟩ := hx
 exact ⟨n + 1, by rw [h]; simp, by rw [h]; intro y hy; rw [List.mem_singleton] at hy; subst hy; exact hn⟩
theorem Fd.two {e x y : api_Expr} (h : e.Kids = [x, y]) (hx : Fd x) (hy : Fd y) : Fd e := by
 obtain ⟨n, hn⟩ := hx
 obtain ⟨m, hm⟩ := hy
 refine ⟨max n m + 1, by rw [h]; simp, ?_⟩
 rw [h]; intro z hz
 simp only [List.mem_cons, List.not_mem_nil, or_false] at hz
 rcases hz with rfl | rfl
 · exact hn.up (by omega)
 · exact hm.up (by omega)
def Out (l : List api_Token) (i o : Nat) (f : Nat → Nat → Option (api_Expr × expr_reader)) (g : Nat → Nat → Option (api_Expr × ref7_reader)) : Prop :=
 (∃ e i' Z, i ≤ i' ∧ i' < l.length ∧ Fd e ∧ (∀ k, Z ≤ k → ∀ k2, Z ≤ k2 → f k k2 = some (e, st l i' o)) ∧ ∀ k, Z ≤ k → ∀ k2, Z ≤ k2 → g k k2 = some (e, rs l i' o)) ∨
 (∃ e s e' s' Z, s.Row.Fault.Code ≠ 0 ∧ s'.bad = s.Row.Fault ∧ (∀ k, Z ≤ k → ∀ k2, Z ≤ k2 → f k k2 = some (e, s)) ∧ ∀ k, Z ≤ k → ∀ k2, Z ≤ k2 → g k k2 = some (e', s'))
def R (l : List api_Token) (m : Int) (i o : Nat) : Prop := Out l (i + 1) o (fun k _ => expr_reader_part_f k (st l i o) m) (fun k _ => ref7_reader_binary_f k (rs l i o) m)
def SG (l : List api_Token) (i o : Nat) : Prop := Out l (i + 1) o (fun k k2 => expr_reader_signed_f (expr_reader_part_f k) k2 (st l i o)) (fun k k2 => ref7_reader_unary_f (ref7_reader_binary_f k) k2 (rs l i o))
structure Ok (l : List api_Token) : Prop where
 len : l.length ≤ 100000
 word : ∀ i, (tkn l i).Kind = 1 → (tkn l i).Text ≠ s_lp
 more : ∀ i, i < l.length → (tkn l i).Kind ≠ 4 → i + 1 < l.length
theorem bad_out {l : List api_Token} {i0 o : Nat} {f : Nat → Nat → Option (api_Expr × expr_reader)} {g : Nat → Nat → Option (api_Expr × ref7_reader)} {e : api_Expr} {s : expr_reader} {e' : api_Expr} {s' : ref7_reader} (Z : Nat) (h1 : s.Row.Fault.Code ≠ 0) (h2 : s'.bad = s.Row.Fault) (hf : ∀ k, Z ≤ k → ∀ k2, Z ≤ k2 → f k k2 = some (e, s)) (hg : ∀ k, Z ≤ k → ∀ k2, Z ≤ k2 → g k k2 = some (e', s')) : Out l i0 o f g := .inr ⟨e, s, e', s', Z, h1, h2, hf, hg⟩
section
variable {l : List api_Token} (H : Ok l)
include H
theorem PR {i o : Nat} (hi : i < l.length) (ho : o ≤ 12) (IH : ∀ j o', i < j → j < l.length → o' ≤ 12 → R l 1 j o') :
 Out l (i + 1) o (fun k _ => expr_reader_prim (expr_reader_part_f k) (st l i o)) (fun k _ => ref7_reader_prim (ref7_reader_binary_f k) (rs l i o)) := by
 have hl := H.len
 have more := fun h4 => H.more i hi h4
 have a1 : ((i : Nat) : Int) < (l.length : Int) := by omega
 have a2 : 0 ≤ ((i : Nat) : Int) := by omega
 have et : l.getD ((i : Nat) : Int).toNat api_Token.z = tkn l i := by rw [Int.toNat_natCast]; rfl
 have rst : ∀ i' o', ref7_reader.mk l ((i' : Nat) : Int) ((o' : Nat) : Int) ⟨0, 0⟩ = rs l i' o' := fun _ _ => rfl
 have f0 : ∀ self, expr_reader_prim self (st l i o) = (if (tkn l i).Kind = 2 then
  some (api_Expr.mk 1 (tkn l i).N [] [] (tkn l i).At, st l (i + 1) o) else
  bif isT (tkn l i) s_dollar then some (api_Expr.mk 3 0 [] [] (tkn l i).At, st l (i + 1) o) else
  bif decide ((tkn l i).Kind = 1) && !resP (tkn l i).Text then some (api_Expr.mk 2 0 (tkn l i).Text [] (tkn l i).At, st l (i + 1) o) else
  bif isT (tkn l i) s_in then
  (read_Row_Want_1 (st l (i + 1) o) s_lp).bind fun r6 =>
  (read_Row_Name_1 r6).bind fun r7 =>
  (read_Row_Want_1 r7.2 s_rp).bind fun r8 =>
  some (api_Expr.mk 4 0 r7.1 [] (tkn l i).At, r8) else
  bif !isT (tkn l i) s_lp then
  (read_Row_Wrong_1 (st l i o)).bind fun r10 =>
  some (api_Expr.mk 0 0 [] [] 0, r10) else
  (expr_reader_deep (st l i o) (tkn l i).At).bind fun r11 =>
  bif !r11.1 then
  some (api_Expr.mk 0 0 [] [] 0, r11.2) else
  (self r11.2 1).bind fun r12 =>
  (read_Row_Want_1 r12.2 s_rp).bind fun r13 =>
  some (api_Expr.mk r12.1.Kind r12.1.N r12.1.Name r12.1.Kids r12.1.At, expr_reader.mk r13.Row (w64 (r13.v_open - 1)))) := fun self => by
  unfold expr_reader_prim
  rw [look_st hi, bind_some_eq]
  dsimp only
  by_cases k2 : (tkn l i).Kind = 2
  · rw [if_pos k2, if_pos k2]
    show some (_, (⟨⟨l, w64 (((i : Nat) : Int) + 1), ⟨0, 0⟩⟩, (o : Int)⟩ : expr_reader)) = _
    rw [next_i hi hl]; rfl
  rw [if_neg k2, if_neg k2, take_st hi hl, bind_some_eq]
  dsimp only
  cases isT (tkn l i) s_dollar with
  | true => rfl
  | false =>
   rw [cond_false, cond_false, if_neg (by decide), isname_st hi, bind_some_eq]
   dsimp only
   cases hn : (decide ((tkn l i).Kind = 1) && !resP (tkn l i).Text) with
   | true =>
    rw [Bool.and_eq_true, decide_eq_true_eq, Bool.not_eq_true'] at hn
    rw [cond_true, cond_true, name_st hi hl hn.1 hn.2, bind_some_eq]
   | false =>
    rw [cond_false, cond_false, take_st hi hl, bind_some_eq]
    dsimp only
    cases isT (tkn l i) s_in with
    | true => rfl
    | false =>
     rw [cond_false, cond_false, if_neg (by decide), is_st hi, bind_some_eq]
 have g0 : ∀ self, ref7_reader_prim self (rs l i o) = (if (tkn l i).Kind = 2 then
  some (api_Expr.mk 1 (tkn l i).N [] [] (tkn l i).At, rs l (i + 1) o) else
  bif isT (tkn l i) s_dollar then some (api_Expr.mk 3 0 [] [] (tkn l i).At, rs l (i + 1) o) else
  bif isT (tkn l i) s_in then
  (ref7_reader_want (rs l (i + 1) o) s_lp).bind fun r3 =>
  if r3.bad.Code ≠ 0 then
  some (api_Expr.mk 0 0 [] [] 0, r3) else
  (ref6_Named r3.l r3.v_at).bind fun r4 =>
  bif !r4 then
  (ref7_reader_wrong r3).bind fun r5 =>
  some (api_Expr.mk r5.1.Kind r5.1.N r5.1.Name r5.1.Kids r5.1.At, r5.2) else
  if 0 ≤ r3.v_at then
  if r3.v_at < (r3.l.length : Int) then
  (ref7_reader_want (ref7_reader.mk r3.l (w64 (r3.v_at + 1)) r3.v_open r3.bad) s_rp).bind fun r6 =>
  some (api_Expr.mk 4 0 ((r3.l.getD r3.v_at.toNat api_Token.z).Text) [] (tkn l i).At, r6) else none else none else
  bif isT (tkn l i) s_lp then
  (ref7_reader_enter (rs l i o)).bind fun r8 =>
  bif !r8.1 then
  some (api_Expr.mk 0 0 [] [] 0, r8.2) else
  (self r8.2 1).bind fun r9 =>
  (ref7_reader_want r9.2 s_rp).bind fun r10 =>
  some (api_Expr.mk r9.1.Kind r9.1.N r9.1.Name r9.1.Kids r9.1.At, ref7_reader.mk r10.l r10.v_at (w64 (r10.v_open - 1)) r10.bad) else
  bif decide ((tkn l i).Kind = 1) && !resP (tkn l i).Text then
  some (api_Expr.mk 2 0 (tkn l i).Text [] (tkn l i).At, rs l (i + 1) o) else
  some (api_Expr.mk 0 0 [] [] 0, ref7_reader.mk l (i : Int) (o : Int) (bdz (tkn l i)))) := fun self => by
  unfold ref7_reader_prim
  have nxt : ref7_reader.mk l (w64 ((i : Int) + 1)) (o : Int) ⟨0, 0⟩ = rs l (i + 1) o := by rw [next_i hi hl]; rfl
  have q1 : (rs l i o).v_at = (i : Int) := rfl
  have q2 : (rs l i o).l = l := rfl
  have q3 : (rs l i o).v_open = (o : Int) := rfl
  have q4 : (rs l i o).bad = ⟨0, 0⟩ := rfl
  rw [q1, q2, q3, q4, et, nxt, if_pos a2, if_pos a1, ris_st hi, bind_some_eq]
  by_cases k2 : (tkn l i).Kind = 2
  · rw [if_pos k2, if_pos k2]
  rw [if_neg k2, if_neg k2]
  dsimp only
  rw [q1, q2, q3, q4, nxt]
  cases isT (tkn l i) s_dollar with
  | true => rfl
  | false =>
   rw [cond_false, cond_false, ris_st hi, bind_some_eq]
   dsimp only
   rw [q1, q2, q3, q4, nxt]
   cases isT (tkn l i) s_in with
   | true => rfl
   | false =>
    rw [cond_false, cond_false, ris_st hi, bind_some_eq]
    dsimp only
    cases isT (tkn l i) s_lp with
    | true => rfl
    | false =>
     rw [cond_false, cond_false, q1, q2, q3, q4, nxt, rnamed_st hi, bind_some_eq, rwrong_st hi, bind_some_eq]
 by_cases k2 : (tkn l i).Kind = 2
 · refine .inl ⟨api_Expr.mk 1 (tkn l i).N [] [] (tkn l i).At, i + 1, 0, Nat.le_refl _, more (by omega), Fd.leaf rfl, fun k _ _ _ => ?_, fun k _ _ _ => ?_⟩
   · (try dsimp only); rw [f0, if_pos k2]
   · (try dsimp only); rw [g0, if_pos k2]
 cases hd : isT (tkn l i) s_dollar with
 | true =>
  have hk := (of_decide_eq_true hd).1
  refine .inl ⟨api_Expr.mk 3 0 [] [] (tkn l i).At, i + 1, 0, Nat.le_refl _, more (by omega), Fd.leaf rfl, fun k _ _ _ => ?_, fun k _ _ _ => ?_⟩
  · (try dsimp only); rw [f0, if_neg k2, hd, cond_true]
  · (try dsimp only); rw [g0, if_neg k2, hd, cond_true]
 | false =>
  cases hn : (decide ((tkn l i).Kind = 1) && !resP (tkn l i).Text) with
  | true =>
   have hn' := hn
   rw [Bool.and_eq_true, decide_eq_true_eq, Bool.not_eq_true'] at hn'
   have n1 : isT (tkn l i) s_in = false := by
    unfold isT; rw [decide_eq_false_iff_not]; rintro ⟨_, q⟩; rw [q] at hn'; exact absurd hn'.2 (by decide)
   have n2 : isT (tkn l i) s_lp = false := by
    unfold isT; rw [decide_eq_false_iff_not]; rintro ⟨_, q⟩; exact H.word i hn'.1 q
   refine .inl ⟨api_Expr.mk 2 0 (tkn l i).Text [] (tkn l i).At, i + 1, 0, Nat.le_refl _, more (by omega), Fd.leaf rfl, fun k _ _ _ => ?_, fun k _ _ _ => ?_⟩
   · (try dsimp only); rw [f0, if_neg k2, hd, cond_false, hn, cond_true]
   · (try dsimp only); rw [g0, if_neg k2, hd, cond_false, n1, cond_false, n2, cond_false, hn, cond_true]
  | false =>
   cases hin : isT (tkn l i) s_in with
   | true =>
    have hk := (of_decide_eq_true hin).1
    have hm := more (by omega)
    cases hlp : isT (tkn l (i + 1)) s_lp with
    | false =>
     refine bad_out 0 (e := api_Expr.mk 4 0 [] [] (tkn l i).At) (s := expr_reader.mk (read_Row.mk l ((i + 1 : Nat) : Int) (bdz (tkn l (i + 1)))) (o : Int)) (e' := api_Expr.mk 0 0 [] [] 0) (s' := ref7_reader.mk l ((i + 1 : Nat) : Int) (o : Int) (bdz (tkn l (i + 1)))) (bdz_ne _) rfl (fun k _ _ _ => ?_) (fun k _ _ _ => ?_)
     · (try dsimp only); rw [f0, if_neg k2, hd, cond_false, hn, cond_false, hin, cond_true, want_no hm hl hlp, bind_some_eq, name_bd (bdz_ne _), bind_some_eq]
       dsimp only
       rw [want_bd (bdz_ne _), bind_some_eq]
     · (try dsimp only); rw [g0, if_neg k2, hd, cond_false, hin, cond_true, rwant_no hm hlp, bind_some_eq, if_pos (bdz_ne _)]
    | true =>
     have hk' := (of_decide_eq_true hlp).1
     have hm2 := H.more (i + 1) hm (by omega)
     have b1 : (rs l (i + 1) o).bad.Code = 0 := rfl
     have b2 : (rs l (i + 1) o).l = l := rfl
     have b3 : (rs l (i + 1) o).v_at = ((i + 1 : Nat) : Int) := rfl
     cases hnm : (decide ((tkn l (i + 1 + 1)).Kind = 1) && !resP (tkn l (i + 1 + 1)).Text) with
     | false =>
      refine bad_out 0 (e := api_Expr.mk 4 0 [] [] (tkn l i).At) (s := expr_reader.mk (read_Row.mk l ((i + 1 + 1 : Nat) : Int) (bdz (tkn l (i + 1 + 1)))) (o : Int)) (e' := api_Expr.mk 0 0 [] [] 0) (s' := ref7_reader.mk l ((i + 1 + 1 : Nat) : Int) (o : Int) (bdz (tkn l (i + 1 + 1)))) (bdz_ne _) rfl (fun k _ _ _ => ?_) (fun k _ _ _ => ?_)
      · (try dsimp only); rw [f0, if_neg k2, hd, cond_false, hn, cond_false, hin, cond_true, want_st hm hl hlp, bind_some_eq]
        have hname : read_Row_Name_1 (st l (i + 1 + 1) o) = some ([], expr_reader.mk (read_Row.mk l ((i + 1 + 1 : Nat) : Int) (bdz (tkn l (i + 1 + 1)))) (o : Int)) := by
         unfold read_Row_Name_1
         rw [isname_st hm2, bind_some_eq, hnm]
         dsimp only [Bool.not_false, cond_true]
         rw [wrong_st hm2, bind_some_eq]
         rfl
        rw [hname, bind_some_eq]
        dsimp only
        rw [want_bd (bdz_ne _), bind_some_eq]
      · (try dsimp only); rw [g0, if_neg k2, hd, cond_false, hin, cond_true, rwant_st hm hl hlp, bind_some_eq, if_neg (by intro q; exact q rfl)]
        show (ref6_Named l ((i + 1 + 1 : Nat) : Int)).bind _ = _
        rw [rnamed_st hm2, hnm, bind_some_eq]
        rw [Bool.not_false, cond_true]
        rw [rwrong_st hm2, bind_some_eq]
     | true =>
      have hnm' := hnm
      rw [Bool.and_eq_true, decide_eq_true_eq, Bool.not_eq_true'] at hnm'
      have hm3 := H.more (i + 1 + 1) hm2 (by omega)
      have fpre : ∀ self, expr_reader_prim self (st l i o) = (read_Row_Want_1 (st l (i + 1 + 1 + 1) o) s_rp).bind fun r8 => some (api_Expr.mk 4 0 (tkn l (i + 1 + 1)).Text [] (tkn l i).At, r8) := fun self => by
       rw [f0, if_neg k2, hd, cond_false, hn, cond_false, hin, cond_true, want_st hm hl hlp, bind_some_eq, name_st hm2 hl hnm'.1 hnm'.2, bind_some_eq]
      have gpre : ∀ self, ref7_reader_prim self (rs l i o) = (ref7_reader_want (rs l (i + 1 + 1 + 1) o) s_rp).bind fun r6 => some (api_Expr.mk 4 0 (tkn l (i + 1 + 1)).Text [] (tkn l i).At, r6) := fun self => by
       rw [g0, if_neg k2, hd, cond_false, hin, cond_true, rwant_st hm hl hlp, bind_some_eq, if_neg (by intro q; exact q rfl)]
       show (ref6_Named l ((i + 1 + 1 : Nat) : Int)).bind _ = _
       rw [rnamed_st hm2, hnm, bind_some_eq]
       rw [Bool.not_true, cond_false]
       rw [if_pos (by show (0 : Int) ≤ ((i + 1 + 1 : Nat) : Int); omega), if_pos (by show ((i + 1 + 1 : Nat) : Int) < (l.length : Int); omega)]
       show (ref7_reader_want (ref7_reader.mk l (w64 (((i + 1 + 1 : Nat) : Int) + 1)) (o : Int) ⟨0, 0⟩) s_rp).bind _ = _
       rw [next_i hm2 hl]
       rfl
      cases hrp : isT (tkn l (i + 1 + 1 + 1)) s_rp with
      | false =>
       refine bad_out 0 (e := api_Expr.mk 4 0 (tkn l (i + 1 + 1)).Text [] (tkn l i).At) (s := expr_reader.mk (read_Row.mk l ((i + 1 + 1 + 1 : Nat) : Int) (bdz (tkn l (i + 1 + 1 + 1)))) (o : Int)) (e' := api_Expr.mk 4 0 (tkn l (i + 1 + 1)).Text [] (tkn l i).At) (s' := ref7_reader.mk l ((i + 1 + 1 + 1 : Nat) : Int) (o : Int) (bdz (tkn l (i + 1 + 1 + 1)))) (bdz_ne _) rfl (fun k _ _ _ => ?_) (fun k _ _ _ => ?_)
       · (try dsimp only); rw [fpre, want_no hm3 hl hrp, bind_some_eq]
       · (try dsimp only); rw [gpre, rwant_no hm3 hrp, bind_some_eq]
      | true =>
       have hk3 := (of_decide_eq_true hrp).1
       refine .inl ⟨api_Expr.mk 4 0 (tkn l (i + 1 + 1)).Text [] (tkn l i).At, i + 1 + 1 + 1 + 1, 0, by omega, H.more _ hm3 (by omega), Fd.leaf rfl, fun k _ _ _ => ?_, fun k _ _ _ => ?_⟩
       · (try dsimp only); rw [fpre, want_st hm3 hl hrp, bind_some_eq]
       · (try dsimp only); rw [gpre, rwant_st hm3 hl hrp, bind_some_eq]
   | false =>
    cases hlp : isT (tkn l i) s_lp with
    | false =>
     refine bad_out 0 (e := api_Expr.mk 0 0 [] [] 0) (s := expr_reader.mk (read_Row.mk l (i : Int) (bdz (tkn l i))) (o : Int)) (e' := api_Expr.mk 0 0 [] [] 0) (s' := ref7_reader.mk l (i : Int) (o : Int) (bdz (tkn l i))) (bdz_ne _) rfl (fun k _ _ _ => ?_) (fun k _ _ _ => ?_)
     · (try dsimp only); rw [f0, if_neg k2, hd, cond_false, hn, cond_false, hin, cond_false, hlp, Bool.not_false, cond_true, wrong_st hi, bind_some_eq]
     · (try dsimp only); rw [g0, if_neg k2, hd, cond_false, hin, cond_false, hlp, cond_false, hn, cond_false]
    | true =>
     have hk := (of_decide_eq_true hlp).1
     have hm := more (by omega)
     have fpre : ∀ self, expr_reader_prim self (st l i o) = _ := fun self => by
      rw [f0, if_neg k2, hd, cond_false, hn, cond_false, hin, cond_false, hlp, Bool.not_true, cond_false]
     have gpre : ∀ self, ref7_reader_prim self (rs l i o) = _ := fun self => by
      rw [g0, if_neg k2, hd, cond_false, hin, cond_false, hlp, cond_true]
     by_cases h12 : o = 12
     · subst h12
       refine bad_out 0 (e := api_Expr.mk 0 0 [] [] 0) (s := expr_reader.mk (read_Row.mk l (i : Int) ⟨14, (tkn l i).At⟩) 12) (e' := api_Expr.mk 0 0 [] [] 0) (s' := ref7_reader.mk l (i : Int) 12 ⟨14, (tkn l i).At⟩) (by show (14 : Int) ≠ 0; decide) rfl (fun k _ _ _ => ?_) (fun k _ _ _ => ?_)
       · (try dsimp only); rw [fpre, deep_no, bind_some_eq]; rfl
       · (try dsimp only); rw [gpre, renter_no hi, bind_some_eq]; rfl
     · have hw : w64 (((o + 1 : Nat) : Int) - 1) = (o : Int) := by rw [w64_in (by omega) (by omega)]; omega
       rcases IH (i + 1) (o + 1) (by omega) hm (by omega) with ⟨e, i', Z, h1, h2, h3, hf, hg⟩ | ⟨e, s, e', s', Z, h1, h2, hf, hg⟩
       · cases hrp : isT (tkn l i') s_rp with
         | false =>
          refine bad_out Z (e := e) (s := expr_reader.mk (read_Row.mk l ((i' : Nat) : Int) (bdz (tkn l i'))) (w64 (((o + 1 : Nat) : Int) - 1))) (e' := e) (s' := ref7_reader.mk l ((i' : Nat) : Int) (w64 (((o + 1 : Nat) : Int) - 1)) (bdz (tkn l i'))) (bdz_ne _) rfl (fun k hk _ hk2 => ?_) (fun k hk _ hk2 => ?_)
          · have hf' := hf k hk _ hk2
            dsimp only at hf' ⊢; rw [fpre, deep_st hi hl (by omega), bind_some_eq]
            dsimp only [Bool.not_true, cond_false]
            rw [hf', bind_some_eq, want_no h2 hl hrp, bind_some_eq, eta]
            rfl
          · have hg' := hg k hk _ hk2
            dsimp only at hg' ⊢; rw [gpre, renter_st hi hl (by omega), bind_some_eq]
            dsimp only [Bool.not_true, cond_false]
            rw [hg', bind_some_eq, rwant_no h2 hrp, bind_some_eq, eta]
            rfl
         | true =>
          have hk3 := (of_decide_eq_true hrp).1
          refine .inl ⟨e, i' + 1, Z, by omega, H.more _ h2 (by omega), h3, fun k hk _ hk2 => ?_, fun k hk _ hk2 => ?_⟩
          · have hf' := hf k hk _ hk2
            dsimp only at hf' ⊢; rw [fpre, deep_st hi hl (by omega), bind_some_eq]
            dsimp only [Bool.not_true, cond_false]
            rw [hf', bind_some_eq, want_st h2 hl hrp, bind_some_eq, eta]
            show some (e, (⟨⟨l, ((i' + 1 : Nat) : Int), ⟨0, 0⟩⟩, w64 (((o + 1 : Nat) : Int) - 1)⟩ : expr_reader)) = _
            rw [hw]; rfl
          · have hg' := hg k hk _ hk2
            dsimp only at hg' ⊢; rw [gpre, renter_st hi hl (by omega), bind_some_eq]
            dsimp only [Bool.not_true, cond_false]
            rw [hg', bind_some_eq, rwant_st h2 hl hrp, bind_some_eq, eta]
            show some (e, (⟨l, ((i' + 1 : Nat) : Int), w64 (((o + 1 : Nat) : Int) - 1), ⟨0, 0⟩⟩ : ref7_reader)) = _
            rw [hw]; rfl
       · refine bad_out Z (e := e) (s := expr_reader.mk s.Row (w64 (s.v_open - 1))) (e' := e') (s' := ref7_reader.mk s'.l s'.v_at (w64 (s'.v_open - 1)) s'.bad) h1 h2 (fun k hk _ hk2 => ?_) (fun k hk _ hk2 => ?_)
         · have hf' := hf k hk _ hk2
           dsimp only at hf' ⊢; rw [fpre, deep_st hi hl (by omega), bind_some_eq]
           dsimp only [Bool.not_true, cond_false]
           rw [hf', bind_some_eq, want_bd h1, bind_some_eq, eta]
           rfl
         · have hg' := hg k hk _ hk2
           dsimp only at hg' ⊢; rw [gpre, renter_st hi hl (by omega), bind_some_eq]
           dsimp only [Bool.not_true, cond_false]
           rw [hg', bind_some_eq, rwant_bd (by rw [h2]; exact h1), bind_some_eq, eta]
           rfl
theorem SIG {i o : Nat} (hi : i < l.length) (ho : o ≤ 12) (IH : ∀ j o', i < j → j < l.length → o' ≤ 12 → R l 1 j o') (IS : ∀ j o', i < j → j < l.length → o' ≤ 12 → SG l j o') : SG l i o := by
 have hl := H.len
 have a1 : ((i : Nat) : Int) < (l.length : Int) := by omega
 have a2 : 0 ≤ ((i : Nat) : Int) := by omega
 have et : l.getD ((i : Nat) : Int).toNat api_Token.z = tkn l i := by rw [Int.toNat_natCast]; rfl
 have q1 : (rs l i o).v_at = (i : Int) := rfl
 have q2 : (rs l i o).l = l := rfl
 have fb : ∀ self k2, expr_reader_signed_f self (k2 + 1) (st l i o) = (bif isT (tkn l i) s_minus then
  (expr_reader_deep (st l i o) (tkn l i).At).bind fun r3 =>
  bif !r3.1 then
  some (api_Expr.mk 0 0 [] [] 0, r3.2) else
  (expr_reader_signed_f self k2 r3.2).bind fun r4 =>
  some (api_Expr.mk 5 0 [] [api_Expr.mk r4.1.Kind r4.1.N r4.1.Name r4.1.Kids r4.1.At] (tkn l i).At, expr_reader.mk r4.2.Row (w64 (r4.2.v_open - 1))) else
  bif isT (tkn l i) s_bang then
  (expr_reader_deep (st l i o) (tkn l i).At).bind fun r3 =>
  bif !r3.1 then
  some (api_Expr.mk 0 0 [] [] 0, r3.2) else
  (expr_reader_signed_f self k2 r3.2).bind fun r4 =>
  some (api_Expr.mk 6 0 [] [api_Expr.mk r4.1.Kind r4.1.N r4.1.Name r4.1.Kids r4.1.At] (tkn l i).At, expr_reader.mk r4.2.Row (w64 (r4.2.v_open - 1))) else
  expr_reader_prim self (st l i o)) := fun self k2 => by
  show expr_reader_signed_b (expr_reader_signed_f self k2) self k2 (st l i o) = _
  unfold expr_reader_signed_b
  rw [look_st hi, bind_some_eq]
  dsimp only
  rw [is_st hi, bind_some_eq]
  dsimp only
  cases isT (tkn l i) s_minus with
  | true => rfl
  | false =>
   rw [cond_false, cond_false, is_st hi, bind_some_eq]
   dsimp only
   cases isT (tkn l i) s_bang with
   | true => rfl
   | false =>
    rw [cond_false, cond_false]
    cases expr_reader_prim self (st l i o) with
    | none => rfl
    | some r => rw [bind_some_eq, eta]
 have gb : ∀ self k2, ref7_reader_unary_f self (k2 + 1) (rs l i o) = (bif isT (tkn l i) s_minus then
  (ref7_reader_enter (rs l i o)).bind fun r3 =>
  bif !r3.1 then
  some (api_Expr.mk 0 0 [] [] 0, r3.2) else
  (ref7_reader_unary_f self k2 r3.2).bind fun r4 =>
  some (api_Expr.mk 5 0 [] [api_Expr.mk r4.1.Kind r4.1.N r4.1.Name r4.1.Kids r4.1.At] (tkn l i).At, ref7_reader.mk r4.2.l r4.2.v_at (w64 (r4.2.v_open - 1)) r4.2.bad) else
  bif isT (tkn l i) s_bang then
  (ref7_reader_enter (rs l i o)).bind fun r3 =>
  bif !r3.1 then
  some (api_Expr.mk 0 0 [] [] 0, r3.2) else
  (ref7_reader_unary_f self k2 r3.2).bind fun r4 =>
  some (api_Expr.mk 6 0 [] [api_Expr.mk r4.1.Kind r4.1.N r4.1.Name r4.1.Kids r4.1.At] (tkn l i).At, ref7_reader.mk r4.2.l r4.2.v_at (w64 (r4.2.v_open - 1)) r4.2.bad) else
  ref7_reader_prim self (rs l i o)) := fun self k2 => by
  show ref7_reader_unary_b (ref7_reader_unary_f self k2) self k2 (rs l i o) = _
  unfold ref7_reader_unary_b
  rw [ris_st hi, bind_some_eq]
  dsimp only
  cases hm : isT (tkn l i) s_minus with
  | true =>
   have hb : isT (tkn l i) s_bang = false := by
    have := (of_decide_eq_true hm).2
    unfold isT; rw [decide_eq_false_iff_not]; rintro ⟨_, q⟩; rw [this] at q; cases q
   rw [cond_true, cond_true, ris_st hi, bind_some_eq]
   dsimp only
   rw [hb, cond_false, if_neg (by decide), q1, q2, et, if_pos a2, if_pos a1]
  | false =>
   rw [cond_false, cond_false, ris_st hi, bind_some_eq]
   dsimp only
   cases isT (tkn l i) s_bang with
   | true =>
    rw [cond_true, cond_true, if_neg (by decide), q1, q2, et, if_pos a2, if_pos a1]
   | false =>
    rw [cond_false, cond_false, if_pos rfl]
    cases ref7_reader_prim self (rs l i o) with
    | none => rfl
    | some r => rw [bind_some_eq, eta]
 have sgn1 : ∀ K : Int, ((tkn l i).Kind = 3 ∨ (tkn l i).Kind = 1) →
  (∀ self k2, expr_reader_signed_f self (k2 + 1) (st l i o) = (expr_reader_deep (st l i o) (tkn l i).At).bind fun r3 =>
   bif !r3.1 then
   some (api_Expr.mk 0 0 [] [] 0, r3.2) else
   (expr_reader_signed_f self k2 r3.2).bind fun r4 =>
   some (api_Expr.mk K 0 [] [api_Expr.mk r4.1.Kind r4.1.N r4.1.Name r4.1.Kids r4.1.At] (tkn l i).At, expr_reader.mk r4.2.Row (w64 (r4.2.v_open - 1)))) →
  (∀ self k2, ref7_reader_unary_f self (k2 + 1) (rs l i o) = (ref7_reader_enter (rs l i o)).bind fun r3 =>
   bif !r3.1 then
   some (api_Expr.mk 0 0 [] [] 0, r3.2) else
   (ref7_reader_unary_f self k2 r3.2).bind fun r4 =>
   some (api_Expr.mk K 0 [] [api_Expr.mk r4.1.Kind r4.1.N r4.1.Name r4.1.Kids r4.1.At] (tkn l i).At, ref7_reader.mk r4.2.l r4.2.v_at (w64 (r4.2.v_open - 1)) r4.2.bad)) → SG l i o := fun K hk fb gb => by
  have hm := H.more i hi (by omega)
  by_cases h12 : o = 12
  · subst h12
    refine bad_out 1 (e := api_Expr.mk 0 0 [] [] 0) (s := expr_reader.mk (read_Row.mk l (i : Int) ⟨14, (tkn l i).At⟩) 12) (e' := api_Expr.mk 0 0 [] [] 0) (s' := ref7_reader.mk l (i : Int) 12 ⟨14, (tkn l i).At⟩) (by show (14 : Int) ≠ 0; decide) rfl (fun k hk k2 hk2 => ?_) (fun k hk k2 hk2 => ?_)
    · obtain ⟨k2, rfl⟩ : ∃ j, k2 = j + 1 := ⟨k2 - 1, by omega⟩
      rw [fb, deep_no, bind_some_eq]; rfl
    · obtain ⟨k2, rfl⟩ : ∃ j, k2 = j + 1 := ⟨k2 - 1, by omega⟩
      rw [gb, renter_no hi, bind_some_eq]; rfl
  · have hw : w64 (((o + 1 : Nat) : Int) - 1) = (o : Int) := by rw [w64_in (by omega) (by omega)]; omega
    rcases IS (i + 1) (o + 1) (by omega) hm (by omega) with ⟨e, i', Z, h1, h2, h3, hf, hg⟩ | ⟨e, s, e', s', Z, h1, h2, hf, hg⟩
    · refine .inl ⟨api_Expr.mk K 0 [] [e] (tkn l i).At, i', Z + 1, by omega, h2, Fd.one rfl h3, fun k hk k2 hk2 => ?_, fun k hk k2 hk2 => ?_⟩
      · obtain ⟨k2, rfl⟩ : ∃ j, k2 = j + 1 := ⟨k2 - 1, by omega⟩
        have hf' := hf k (by omega) k2 (by omega)
        dsimp only at hf' ⊢
        rw [fb, deep_st hi hl (by omega), bind_some_eq]
        dsimp only [Bool.not_true, cond_false]
        rw [hf', bind_some_eq, eta]
        show some (_, (⟨⟨l, ((i' : Nat) : Int), ⟨0, 0⟩⟩, w64 (((o + 1 : Nat) : Int) - 1)⟩ : expr_reader)) = _
        rw [hw]; rfl
      · obtain ⟨k2, rfl⟩ : ∃ j, k2 = j + 1 := ⟨k2 - 1, by omega⟩
        have hg' := hg k (by omega) k2 (by omega)
        dsimp only at hg' ⊢
        rw [gb, renter_st hi hl (by omega), bind_some_eq]
        dsimp only [Bool.not_true, cond_false]
        rw [hg', bind_some_eq, eta]
        show some (_, (⟨l, ((i' : Nat) : Int), w64 (((o + 1 : Nat) : Int) - 1), ⟨0, 0⟩⟩ : ref7_reader)) = _
        rw [hw]; rfl
    · refine bad_out (Z + 1) (e := api_Expr.mk K 0 [] [e] (tkn l i).At) (s := expr_reader.mk s.Row (w64 (s.v_open - 1))) (e' := api_Expr.mk K 0 [] [e'] (tkn l i).At) (s' := ref7_reader.mk s'.l s'.v_at (w64 (s'.v_open - 1)) s'.bad) h1 h2 (fun k hk k2 hk2 => ?_) (fun k hk k2 hk2 => ?_)
      · obtain ⟨k2, rfl⟩ : ∃ j, k2 = j + 1 := ⟨k2 - 1, by omega⟩
        have hf' := hf k (by omega) k2 (by omega)
        dsimp only at hf' ⊢
        rw [fb, deep_st hi hl (by omega), bind_some_eq]
        dsimp only [Bool.not_true, cond_false]
        rw [hf', bind_some_eq, eta]
        rfl
      · obtain ⟨k2, rfl⟩ : ∃ j, k2 = j + 1 := ⟨k2 - 1, by omega⟩
        have hg' := hg k (by omega) k2 (by omega)
        dsimp only at hg' ⊢
        rw [gb, renter_st hi hl (by omega), bind_some_eq]
        dsimp only [Bool.not_true, cond_false]
        rw [hg', bind_some_eq, eta]
        rfl
 cases hm : isT (tkn l i) s_minus with
 | true => exact sgn1 5 (of_decide_eq_true hm).1 (fun self k2 => by rw [fb, hm, cond_true]) (fun self k2 => by rw [gb, hm, cond_true])
 | false =>
  cases hb : isT (tkn l i) s_bang with
  | true => exact sgn1 6 (of_decide_eq_true hb).1 (fun self k2 => by rw [fb, hm, cond_false, hb, cond_true]) (fun self k2 => by rw [gb, hm, cond_false, hb, cond_true])
  | false =>
   have fc : ∀ self k2, expr_reader_signed_f self (k2 + 1) (st l i o) = expr_reader_prim self (st l i o) := fun self k2 => by rw [fb, hm, cond_false, hb, cond_false]
   have gc : ∀ self k2, ref7_reader_unary_f self (k2 + 1) (rs l i o) = ref7_reader_prim self (rs l i o) := fun self k2 => by rw [gb, hm, cond_false, hb, cond_false]
   rcases PR H hi ho IH with ⟨e, i', Z, h1, h2, h3, hf, hg⟩ | ⟨e, s, e', s', Z, h1, h2, hf, hg⟩
   · refine .inl ⟨e, i', Z + 1, h1, h2, h3, fun k hk k2 hk2 => ?_, fun k hk k2 hk2 => ?_⟩
     · obtain ⟨k2, rfl⟩ : ∃ j, k2 = j + 1 := ⟨k2 - 1, by omega⟩
       dsimp only; rw [fc]; exact hf k (by omega) k (by omega)
     · obtain ⟨k2, rfl⟩ : ∃ j, k2 = j + 1 := ⟨k2 - 1, by omega⟩
       dsimp only; rw [gc]; exact hg k (by omega) k (by omega)
   · refine bad_out (e := e) (s := s) (e' := e') (s' := s') (Z + 1) h1 h2 (fun k hk k2 hk2 => ?_) (fun k hk k2 hk2 => ?_)
     · obtain ⟨k2, rfl⟩ : ∃ j, k2 = j + 1 := ⟨k2 - 1, by omega⟩
       rw [fc]; exact hf k (by omega) k (by omega)
     · obtain ⟨k2, rfl⟩ : ∃ j, k2 = j + 1 := ⟨k2 - 1, by omega⟩
       rw [gc]; exact hg k (by omega) k (by omega)
omit H in
theorem R6 {i o : Nat} (h : SG l i o) : R l 6 i o := by
 have p6 : ∀ k, ref7_reader_binary_f (k + 1) (rs l i o) 6 = (ref7_reader_unary (ref7_reader_binary_f k) (rs l i o)).bind fun r1 => some (api_Expr.mk r1.1.Kind r1.1.N r1.1.Name r1.1.Kids r1.1.At, r1.2) := fun k => by
  show ref7_reader_binary_b (ref7_reader_binary_f k) k _ 6 = _
  unfold ref7_reader_binary_b
  rw [if_pos rfl]
 rcases h with ⟨e, i', Z, h1, h2, h3, hf, hg⟩ | ⟨e, s, e', s', Z, h1, h2, hf, hg⟩
 · refine .inl ⟨e, i', Z + 1, h1, h2, h3, fun k hk k2 hk2 => ?_, fun k hk k2 hk2 => ?_⟩
   · obtain ⟨k, rfl⟩ : ∃ j, k = j + 1 := ⟨k - 1, by omega⟩
     dsimp only
     rw [part_6, show expr_reader_signed (expr_reader_part_f k) (st l i o) = some (e, st l i' o) from lim_eq Z fun j hj => hf k (by omega) j hj, bind_some_eq, eta]
   · obtain ⟨k, rfl⟩ : ∃ j, k = j + 1 := ⟨k - 1, by omega⟩
     dsimp only
     rw [p6, show ref7_reader_unary (ref7_reader_binary_f k) (rs l i o) = some (e, rs l i' o) from lim_eq Z fun j hj => hg k (by omega) j hj, bind_some_eq, eta]
 · refine bad_out (e := e) (s := s) (e' := e') (s' := s') (Z + 1) h1 h2 (fun k hk k2 hk2 => ?_) (fun k hk k2 hk2 => ?_)
   · obtain ⟨k, rfl⟩ : ∃ j, k = j + 1 := ⟨k - 1, by omega⟩
     rw [part_6, show expr_reader_signed (expr_reader_part_f k) (st l i o) = some (e, s) from lim_eq Z fun j hj => hf k (by omega) j hj, bind_some_eq, eta]
   · obtain ⟨k, rfl⟩ : ∃ j, k = j + 1 := ⟨k - 1, by omega⟩
     rw [p6, show ref7_reader_unary (ref7_reader_binary_f k) (rs l i o) = some (e', s') from lim_eq Z fun j hj => hg k (by omega) j hj, bind_some_eq, eta]
end
theorem kind_at {m : Int} (hm : 1 ≤ m) (hm5 : m ≤ 5) (s : List UInt8) : ref7_kind m s = some (if (sgn s).2 = m then (sgn s).1 else 0) := by
 have hat : ∀ own kd : Int, (ref7_at m own kd).bind (fun r => some r) = some (if own = m then kd else 0) := fun own kd => by
  unfold ref7_at
  by_cases h : m = own
  · rw [if_pos h, bind_some_eq, if_pos h.symm]
  · rw [if_neg h, bind_some_eq, if_neg (fun q => h q.symm)]
 unfold ref7_kind
 simp only [hat]
 by_cases h_s_bar_bar : s = s_bar_bar
 · subst h_s_bar_bar
   rw [show sgn s_bar_bar = (19, 1) from by decide]
   simp
 rw [if_neg h_s_bar_bar]
 by_cases h_s_amp_amp : s = s_amp_amp
 · subst h_s_amp_amp
   rw [show sgn s_amp_amp = (18, 2) from by decide]
   simp
 rw [if_neg h_s_amp_amp]
 by_cases h_s_lt : s = s_lt
 · subst h_s_lt
   rw [show sgn s_lt = (12, 3) from by decide]
   simp
 rw [if_neg h_s_lt]
 by_cases h_s_lt_eq : s = s_lt_eq
 · subst h_s_lt_eq
   rw [show sgn s_lt_eq = (13, 3) from by decide]
   simp
 rw [if_neg h_s_lt_eq]
 by_cases h_s_gt : s = s_gt
 · subst h_s_gt
   rw [show sgn s_gt = (14, 3) from by decide]
   simp
 rw [if_neg h_s_gt]
 by_cases h_s_gt_eq : s = s_gt_eq
 · subst h_s_gt_eq
   rw [show sgn s_gt_eq = (15, 3) from by decide]
   simp
 rw [if_neg h_s_gt_eq]
 by_cases h_s_eq_eq : s = s_eq_eq
 · subst h_s_eq_eq
   rw [show sgn s_eq_eq = (16, 3) from by decide]
   simp
 rw [if_neg h_s_eq_eq]
 by_cases h_s_bang_eq : s = s_bang_eq
 · subst h_s_bang_eq
   rw [show sgn s_bang_eq = (17, 3) from by decide]
   simp
 rw [if_neg h_s_bang_eq]
 by_cases h_s_plus : s = s_plus
 · subst h_s_plus
   rw [show sgn s_plus = (10, 4) from by decide]
   simp
 rw [if_neg h_s_plus]
 by_cases h_s_minus : s = s_minus
 · subst h_s_minus
   rw [show sgn s_minus = (11, 4) from by decide]
   simp
 rw [if_neg h_s_minus]
 by_cases h_s_star : s = s_star
 · subst h_s_star
   rw [show sgn s_star = (7, 5) from by decide]
   simp
 rw [if_neg h_s_star]
 by_cases h_s_slash : s = s_slash
 · subst h_s_slash
   rw [show sgn s_slash = (8, 5) from by decide]
   simp
 rw [if_neg h_s_slash]
 by_cases h_s_pct : s = s_pct
 · subst h_s_pct
   rw [show sgn s_pct = (9, 5) from by decide]
   simp
 rw [if_neg h_s_pct]
 rw [show sgn s = (0, 0) from by
  unfold sgn signsL
  simp only [List.find?_cons, List.find?_nil, show (s_bar_bar == s) = false from beq_false_of_ne (Ne.symm h_s_bar_bar), show (s_amp_amp == s) = false from beq_false_of_ne (Ne.symm h_s_amp_amp), show (s_lt == s) = false from beq_false_of_ne (Ne.symm h_s_lt), show (s_lt_eq == s) = false from beq_false_of_ne (Ne.symm h_s_lt_eq), show (s_gt == s) = false from beq_false_of_ne (Ne.symm h_s_gt), show (s_gt_eq == s) = false from beq_false_of_ne (Ne.symm h_s_gt_eq), show (s_eq_eq == s) = false from beq_false_of_ne (Ne.symm h_s_eq_eq), show (s_bang_eq == s) = false from beq_false_of_ne (Ne.symm h_s_bang_eq), show (s_plus == s) = false from beq_false_of_ne (Ne.symm h_s_plus), show (s_minus == s) = false from beq_false_of_ne (Ne.symm h_s_minus), show (s_star == s) = false from beq_false_of_ne (Ne.symm h_s_star), show (s_slash == s) = false from beq_false_of_ne (Ne.symm h_s_slash), show (s_pct == s) = false from beq_false_of_ne (Ne.symm h_s_pct)]]
 rw [if_neg (by show ¬ (0 : Int) = m; omega)]
theorem sgn_ne {s : List UInt8} (h : (sgn s).2 ≠ 0) : (sgn s).1 ≠ 0 := by
 unfold sgn at h ⊢
 cases hf : signsL.find? (fun p => p.1 == s) with
 | none => rw [hf] at h; exact absurd rfl h
 | some p =>
  have hm := List.mem_of_find?_eq_some hf
  simp only [signsL, List.mem_cons, List.not_mem_nil, or_false] at hm
  dsimp only
  rcases hm with rfl | rfl | rfl | rfl | rfl | rfl | rfl | rfl | rfl | rfl | rfl | rfl | rfl <;> decide
noncomputable def rloop (k k' : Nat) (l : List api_Token) (i o : Nat) (m : Int) (e : api_Expr) : Option (api_Expr × ref7_reader) :=
 ref7_reader_binary_l0 (ref7_reader_binary_f k) k' l ((i : Nat) : Int) ((o : Nat) : Int) 0 0 m 0 0 [] [] 0 e.Kind e.N e.Name e.Kids e.At
theorem rpart_succ (k : Nat) {l : List api_Token} {i o : Nat} {m : Int} (hm : 1 ≤ m) (hm5 : m ≤ 5) {e : api_Expr} {i' : Nat} (h : ref7_reader_binary_f k (rs l i o) (m + 1) = some (e, rs l i' o)) :
 ref7_reader_binary_f (k + 1) (rs l i o) m = rloop k k l i' o m e := by
 show ref7_reader_binary_b (ref7_reader_binary_f k) k (rs l i o) m = _
 unfold ref7_reader_binary_b
 rw [if_neg (by omega), w64_in (by omega) (by omega), h, bind_some_eq]
 rfl
theorem rpart_bad (k : Nat) {l : List api_Token} {i o : Nat} {m : Int} (hm : 1 ≤ m) (hm5 : m ≤ 5) {e : api_Expr} {s : ref7_reader} (hs : s.bad.Code ≠ 0) (hk : 1 ≤ k) (h : ref7_reader_binary_f k (rs l i o) (m + 1) = some (e, s)) :
 ref7_reader_binary_f (k + 1) (rs l i o) m = some (e, s) := by
 show ref7_reader_binary_b (ref7_reader_binary_f k) k (rs l i o) m = _
 unfold ref7_reader_binary_b
 rw [if_neg (by omega), w64_in (by omega) (by omega), h, bind_some_eq]
 obtain ⟨k', rfl⟩ : ∃ j, k = j + 1 := ⟨k - 1, by omega⟩
 rw [ref7_reader_binary_l0.eq_2, if_neg hs, reta, eta]
theorem part_bad' {k : Nat} {l : List api_Token} {i o : Nat} {m : Int} (h1 : 1 ≤ m) (h5 : m ≤ 5) {e : api_Expr} {s : expr_reader} (hs : s.Row.Fault.Code ≠ 0) (hk : 1 ≤ k) (h : expr_reader_part_f k (st l i o) (m + 1) = some (e, s)) : expr_reader_part_f (k + 1) (st l i o) m = some (e, s) := by
 show expr_reader_part_b (expr_reader_part_f k) k (st l i o) m = _
 unfold expr_reader_part_b
 rw [if_neg (by omega), w64_in (by omega) (by omega), h, bind_some_eq]
 obtain ⟨k', rfl⟩ : ∃ j, k = j + 1 := ⟨k - 1, by omega⟩
 simp only [expr_reader_part_l0]
 rw [eta_x, look_bd hs, bind_some_eq, sign_eq, bind_some_eq]
 dsimp only
 rw [if_pos (by decide), eta]
theorem loop_bad (k k' : Nat) {l : List api_Token} (hl : l.length ≤ 100000) (i o : Nat) {m : Int} (hm : 1 ≤ m) (hm5 : m ≤ 5) (hi : i < l.length) (h3 : (tkn l i).Kind = 3) (hg : (sgn (tkn l i).Text).2 = m) (e : api_Expr) {y : api_Expr} {s : expr_reader} (hs : s.Row.Fault.Code ≠ 0)
 (hy : expr_reader_part_f k (st l (i + 1) o) (m + 1) = some (y, s)) :
 loop k (k' + 2) l i o m e = some (api_Expr.mk (sgn (tkn l i).Text).1 0 [] [e, y] (tkn l i).At, s) := by
 unfold loop
 rw [expr_reader_part_l0.eq_2]
 rw [show (expr_reader.mk (read_Row.mk l ((i : Nat) : Int) (api_Fault.mk 0 0)) ((o : Nat) : Int)) = st l i o from rfl, look_st hi, bind_some_eq, sign_eq, bind_some_eq, eta]
 dsimp only
 rw [if_neg (by simp [h3]), if_neg (by simp [hg])]
 rw [show (expr_reader.mk (read_Row.mk (st l i o).Row.L (w64 ((st l i o).Row.At + 1)) (st l i o).Row.Fault) (st l i o).v_open) = st l (i + 1) o from by
  show (⟨⟨l, w64 (((i : Nat) : Int) + 1), ⟨0, 0⟩⟩, (o : Int)⟩ : expr_reader) = _
  rw [next_i hi hl]; rfl]
 rw [w64_in (by omega) (by omega), hy, bind_some_eq]
 simp only [eta]
 by_cases hm3 : m = 3
 · rw [if_pos hm3]
 · rw [if_neg hm3, expr_reader_part_l0.eq_2, eta_x, look_bd hs, bind_some_eq, sign_eq, bind_some_eq]
   dsimp only
   rw [if_pos (by decide)]
theorem rloop_end (k k' : Nat) {l : List api_Token} (i o : Nat) {m : Int} (hm : 1 ≤ m) (hm5 : m ≤ 5) (hi : i < l.length) (hs : slv (tkn l i) ≠ m) (e : api_Expr) : rloop k (k' + 2) l i o m e = some (e, rs l i o) := by
 unfold rloop
 have et : l.getD ((i : Nat) : Int).toNat api_Token.z = tkn l i := by rw [Int.toNat_natCast]; rfl
 rw [ref7_reader_binary_l0.eq_2, if_pos rfl, if_pos (by omega), if_pos (by omega), if_pos (by omega), et, eta]
 unfold slv at hs
 by_cases h3 : (tkn l i).Kind = 3
 · rw [if_pos h3] at hs
   rw [if_pos h3, ref7_reader_binary_c0.eq_2, if_pos (by omega), if_pos (by omega), et, kind_at hm hm5, bind_some_eq, if_neg hs, if_pos rfl, eta]
   rfl
 · rw [if_neg h3]; rfl
theorem rloop_step (k k' : Nat) {l : List api_Token} (hl : l.length ≤ 100000) (i o : Nat) {m : Int} (hm : 1 ≤ m) (hm5 : m ≤ 5) (hi : i < l.length) (h3 : (tkn l i).Kind = 3) (hg : (sgn (tkn l i).Text).2 = m) (e : api_Expr) {y : api_Expr} {s : ref7_reader}
 (hy : ref7_reader_binary_f k (rs l (i + 1) o) (m + 1) = some (y, s)) :
 rloop k (k' + 2) l i o m e = if m = 3 then some (api_Expr.mk (sgn (tkn l i).Text).1 0 [] [e, y] (tkn l i).At, s) else
  ref7_reader_binary_l0 (ref7_reader_binary_f k) k' s.l s.v_at s.v_open s.bad.Code s.bad.At m 0 0 [] [] 0 (sgn (tkn l i).Text).1 0 [] [e, y] (tkn l i).At := by
 unfold rloop
 have et : l.getD ((i : Nat) : Int).toNat api_Token.z = tkn l i := by rw [Int.toNat_natCast]; rfl
 rw [ref7_reader_binary_l0.eq_2, if_pos rfl, if_pos (by omega), if_pos (by omega), if_pos (by omega), et, if_pos h3, ref7_reader_binary_c0.eq_2, if_pos (by omega), if_pos (by omega), et, kind_at hm hm5, bind_some_eq, if_pos hg]
 rw [if_neg (sgn_ne (by omega)), if_pos (by omega), if_pos (by omega), next_i hi hl, w64_in (by omega) (by omega)]
 rw [show ref7_reader.mk l ((i + 1 : Nat) : Int) ((o : Nat) : Int) (api_Fault.mk 0 0) = rs l (i + 1) o from rfl, hy, bind_some_eq]
 simp only [eta]
theorem LP {l : List api_Token} (H : Ok l) {i o : Nat} {m : Int} (hm : 1 ≤ m) (hm5 : m ≤ 5) (ho : o ≤ 12) (IH : ∀ j, i < j → j < l.length → R l (m + 1) j o) :
 ∀ (r i' : Nat) (e : api_Expr), l.length ≤ i' + r → i ≤ i' → i' < l.length → Fd e → Out l i' o (fun k k2 => loop k k2 l i' o m e) (fun k k2 => rloop k k2 l i' o m e)
 | 0, i', e, hr, _, hi, _ => by omega
 | r + 1, i', e, hr, h0, hi, hfd => by
  by_cases hs : slv (tkn l i') = m
  case neg =>
   refine .inl ⟨e, i', 2, Nat.le_refl _, hi, hfd, fun k hk k2 hk2 => ?_, fun k hk k2 hk2 => ?_⟩
   · exact loop_end k k2 l i' o hm hi hs e (by omega)
   · obtain ⟨k2, rfl⟩ : ∃ j, k2 = j + 2 := ⟨k2 - 2, by omega⟩
     exact rloop_end k k2 i' o hm hm5 hi hs e
  have h3 : (tkn l i').Kind = 3 := by
   unfold slv at hs
   by_cases h3 : (tkn l i').Kind = 3
   · exact h3
   · rw [if_neg h3] at hs; omega
  have hg : (sgn (tkn l i').Text).2 = m := by unfold slv at hs; rwa [if_pos h3] at hs
  have hmore := H.more i' hi (by omega)
  rcases IH (i' + 1) (by omega) hmore with ⟨y, i'', Z, h1, h2, hfy, hf, hg'⟩ | ⟨y, s, y', s', Z, h1, h2, hf, hg'⟩
  · have hstep : ∀ k k2, Z ≤ k → loop k (k2 + 1) l i' o m e = if m = 3 then some (api_Expr.mk (sgn (tkn l i').Text).1 0 [] [e, y] (tkn l i').At, st l i'' o) else loop k k2 l i'' o m (api_Expr.mk (sgn (tkn l i').Text).1 0 [] [e, y] (tkn l i').At) := fun k k2 hk => by
     have hy := hf k hk k hk
     dsimp only at hy
     have ht : strip (tkn l i') = (3, (tkn l i').Text, (tkn l i').N) := by unfold strip; rw [h3]
     unfold loop
     rw [expr_reader_part_l0.eq_2]
     rw [show (expr_reader.mk (read_Row.mk l ((i' : Nat) : Int) (api_Fault.mk 0 0)) ((o : Nat) : Int)) = st l i' o from rfl, look_st hi, bind_some_eq, sign_eq, bind_some_eq, eta]
     dsimp only
     rw [if_neg (by simp [h3]), if_neg (by simp [hg])]
     rw [show (expr_reader.mk (read_Row.mk (st l i' o).Row.L (w64 ((st l i' o).Row.At + 1)) (st l i' o).Row.Fault) (st l i' o).v_open) = st l (i' + 1) o from by
      show (⟨⟨l, w64 (((i' : Nat) : Int) + 1), ⟨0, 0⟩⟩, (o : Int)⟩ : expr_reader) = _
      rw [next_i hi H.len]; rfl]
     rw [w64_in (by omega) (by omega), hy, bind_some_eq]
     simp only [eta]
     rfl
    have rstep : ∀ k k2, Z ≤ k → rloop k (k2 + 2) l i' o m e = if m = 3 then some (api_Expr.mk (sgn (tkn l i').Text).1 0 [] [e, y] (tkn l i').At, rs l i'' o) else rloop k k2 l i'' o m (api_Expr.mk (sgn (tkn l i').Text).1 0 [] [e, y] (tkn l i').At) := fun k k2 hk =>
     rloop_step k k2 H.len i' o hm hm5 hi h3 hg e (hg' k hk k hk)
    by_cases hm3 : m = 3
    · refine .inl ⟨api_Expr.mk (sgn (tkn l i').Text).1 0 [] [e, y] (tkn l i').At, i'', Z + 2, by omega, h2, Fd.two rfl hfd hfy, fun k hk k2 hk2 => ?_, fun k hk k2 hk2 => ?_⟩
      · obtain ⟨k2, rfl⟩ : ∃ j, k2 = j + 1 := ⟨k2 - 1, by omega⟩
        dsimp only; rw [hstep k k2 (by omega), if_pos hm3]
      · obtain ⟨k2, rfl⟩ : ∃ j, k2 = j + 2 := ⟨k2 - 2, by omega⟩
        dsimp only; rw [rstep k k2 (by omega), if_pos hm3]
    · rcases LP H hm hm5 ho IH r i'' (api_Expr.mk (sgn (tkn l i').Text).1 0 [] [e, y] (tkn l i').At) (by omega) (by omega) h2 (Fd.two rfl hfd hfy) with ⟨e2, j, Z2, j1, j2, j3, jf, jg⟩ | ⟨e2, s, e2', s', Z2, j1, j2, jf, jg⟩
      · refine .inl ⟨e2, j, Z + Z2 + 2, by omega, j2, j3, fun k hk k2 hk2 => ?_, fun k hk k2 hk2 => ?_⟩
        · obtain ⟨k2, rfl⟩ : ∃ j, k2 = j + 1 := ⟨k2 - 1, by omega⟩
          dsimp only; rw [hstep k k2 (by omega), if_neg hm3]; exact jf k (by omega) k2 (by omega)
        · obtain ⟨k2, rfl⟩ : ∃ j, k2 = j + 2 := ⟨k2 - 2, by omega⟩
          dsimp only; rw [rstep k k2 (by omega), if_neg hm3]; exact jg k (by omega) k2 (by omega)
      · refine bad_out (e := e2) (s := s) (e' := e2') (s' := s') (Z + Z2 + 2) j1 j2 (fun k hk k2 hk2 => ?_) (fun k hk k2 hk2 => ?_)
        · obtain ⟨k2, rfl⟩ : ∃ j, k2 = j + 1 := ⟨k2 - 1, by omega⟩
          rw [hstep k k2 (by omega), if_neg hm3]; exact jf k (by omega) k2 (by omega)
        · obtain ⟨k2, rfl⟩ : ∃ j, k2 = j + 2 := ⟨k2 - 2, by omega⟩
          rw [rstep k k2 (by omega), if_neg hm3]; exact jg k (by omega) k2 (by omega)
  · refine bad_out (e := api_Expr.mk (sgn (tkn l i').Text).1 0 [] [e, y] (tkn l i').At) (s := s) (e' := api_Expr.mk (sgn (tkn l i').Text).1 0 [] [e, y'] (tkn l i').At) (s' := s') (Z + 3) h1 h2 (fun k hk k2 hk2 => ?_) (fun k hk k2 hk2 => ?_)
    · obtain ⟨k2, rfl⟩ : ∃ j, k2 = j + 2 := ⟨k2 - 2, by omega⟩
      exact loop_bad k k2 H.len i' o hm hm5 hi h3 hg e h1 (hf k (by omega) k (by omega))
    · obtain ⟨k2, rfl⟩ : ∃ j, k2 = j + 3 := ⟨k2 - 3, by omega⟩
      rw [rloop_step k (k2 + 1) H.len i' o hm hm5 hi h3 hg e (hg' k (by omega) k (by omega))]
      by_cases hm3 : m = 3
      · rw [if_pos hm3]
      · rw [if_neg hm3, ref7_reader_binary_l0.eq_2, if_neg (by rw [h2]; exact h1), reta]
theorem Rdown {l : List api_Token} (H : Ok l) {i o : Nat} {m : Int} (hm : 1 ≤ m) (hm5 : m ≤ 5) (hi : i < l.length) (ho : o ≤ 12) (IH : ∀ j, i < j → j < l.length → R l (m + 1) j o) (h : R l (m + 1) i o) : R l m i o := by
 rcases h with ⟨e, i', Z, h1, h2, hfd, hf, hg⟩ | ⟨e, s, e', s', Z, h1, h2, hf, hg⟩
 · rcases LP H hm hm5 ho IH l.length i' e (by omega) (by omega) h2 hfd with ⟨e2, j, Z2, j1, j2, j3, jf, jg⟩ | ⟨e2, s, e2', s', Z2, j1, j2, jf, jg⟩
   · refine .inl ⟨e2, j, Z + Z2 + 1, by omega, j2, j3, fun k hk k2 hk2 => ?_, fun k hk k2 hk2 => ?_⟩
     · obtain ⟨k, rfl⟩ : ∃ j, k = j + 1 := ⟨k - 1, by omega⟩
       dsimp only; rw [part_succ k l i o hm hm5 (hf k (by omega) k (by omega))]; exact jf k (by omega) k (by omega)
     · obtain ⟨k, rfl⟩ : ∃ j, k = j + 1 := ⟨k - 1, by omega⟩
       dsimp only; rw [rpart_succ k hm hm5 (hg k (by omega) k (by omega))]; exact jg k (by omega) k (by omega)
   · refine bad_out (e := e2) (s := s) (e' := e2') (s' := s') (Z + Z2 + 1) j1 j2 (fun k hk k2 hk2 => ?_) (fun k hk k2 hk2 => ?_)
     · obtain ⟨k, rfl⟩ : ∃ j, k = j + 1 := ⟨k - 1, by omega⟩
       rw [part_succ k l i o hm hm5 (hf k (by omega) k (by omega))]; exact jf k (by omega) k (by omega)
     · obtain ⟨k, rfl⟩ : ∃ j, k = j + 1 := ⟨k - 1, by omega⟩
       rw [rpart_succ k hm hm5 (hg k (by omega) k (by omega))]; exact jg k (by omega) k (by omega)
 · refine bad_out (e := e) (s := s) (e' := e') (s' := s') (Z + 2) h1 h2 (fun k hk k2 hk2 => ?_) (fun k hk k2 hk2 => ?_)
   · obtain ⟨k, rfl⟩ : ∃ j, k = j + 1 := ⟨k - 1, by omega⟩
     exact part_bad' hm hm5 h1 (by omega) (hf k (by omega) k (by omega))
   · obtain ⟨k, rfl⟩ : ∃ j, k = j + 1 := ⟨k - 1, by omega⟩
     exact rpart_bad k hm hm5 (by rw [h2]; exact h1) (by omega) (hg k (by omega) k (by omega))
theorem both {l : List api_Token} (H : Ok l) : ∀ (n i o : Nat), l.length ≤ i + n → i < l.length → o ≤ 12 → SG l i o ∧ ∀ (j : Nat) (m : Int), m = 6 - (j : Int) → 1 ≤ m → R l m i o
 | 0, i, o, hn, hi, _ => by omega
 | n + 1, i, o, hn, hi, ho => by
  have IH : ∀ j o', i < j → j < l.length → o' ≤ 12 → SG l j o' ∧ ∀ (q : Nat) (m : Int), m = 6 - (q : Int) → 1 ≤ m → R l m j o' := fun j o' h1 h2 h3 => both H n j o' (by omega) h2 h3
  have hS := SIG H hi ho (fun j o' h1 h2 h3 => (IH j o' h1 h2 h3).2 5 1 rfl (by decide)) (fun j o' h1 h2 h3 => (IH j o' h1 h2 h3).1)
  refine ⟨hS, fun j => ?_⟩
  induction j with
  | zero =>
   intro m hm h1
   have : m = 6 := by omega
   subst this
   exact R6 hS
  | succ j ih =>
   intro m hm h1
   exact Rdown H h1 (by omega) hi ho (fun q h2 h3 => (IH q o h2 h3 ho).2 j (m + 1) (by omega) (by omega)) (ih (m + 1) (by omega) (by omega))
end Go.Sy.Ex
namespace Go.Sy.Ex
open Go.Sy
def Wd (x : api_Token) : Prop := x.Kind = 1 → x.Text ≠ s_lp
theorem tok_wd (t : List UInt8) (n : Nat) : Wd (tokP t n).1 := by
 unfold tokP
 split
 · dsimp only
   split <;> (intro h; revert h; dsimp only; intro h; cases h)
 · split
   · split
     · intro h; cases h
     · intro _ h
       have hm : (40 : UInt8) ∈ (t.drop n).takeWhile nm := by
        have h' : (t.drop n).takeWhile nm = [40] := h
        rw [h']; simp
       have := tw_all nm (t.drop n) 40 hm
       revert this; decide
   · split <;> (intro h; cases h)
theorem allGo_ok (t : List UInt8) : ∀ (k : Nat) (l : List api_Token) (n : Nat), n ≤ t.length → t.length < n + k → (allGo k t l n).2.Code = 0 → (∀ x ∈ l, Wd x) → ∃ L z, (allGo k t l n).1 = L ++ [z] ∧ z.Kind = 4 ∧ ∀ x ∈ L, Wd x
 | 0, l, n, h1, h2, _, _ => by omega
 | k + 1, l, n, h1, h2, h3, h4 => by
  simp only [allGo] at h3 ⊢
  by_cases hn : n < t.length
  · rw [if_pos hn] at h3 ⊢
    by_cases hz : (tokP t n).2 ≠ 0
    · rw [if_pos hz] at h3; exact absurd h3 hz
    · rw [if_neg hz] at h3 ⊢
      obtain ⟨e, he, h5, h6, _⟩ := tok_end t n hn (Classical.not_not.1 hz)
      rw [he, Int.toNat_natCast] at h3 ⊢
      have hg := skipP_ge (t.drop e) false e
      rw [List.length_drop] at hg
      refine allGo_ok t k _ _ (by omega) (by omega) h3 fun x hx => ?_
      rw [List.mem_append, List.mem_singleton] at hx
      rcases hx with hx | rfl
      · exact h4 x hx
      · exact tok_wd t n
  · rw [if_neg hn]
    exact ⟨l, _, rfl, rfl, h4⟩
theorem allP_ok {t : List UInt8} (h : (allP t).2.Code = 0) : Ok (allP t).1 ∧ 0 < (allP t).1.length := by
 have hlen := allP_len t
 obtain ⟨L, z, h1, h2, h3⟩ : ∃ L z, (allP t).1 = L ++ [z] ∧ z.Kind = 4 ∧ ∀ x ∈ L, Wd x := by
  unfold allP at h ⊢
  by_cases hl : 16384 < t.length
  · rw [if_pos hl] at h; exact absurd h (by decide)
  · rw [if_neg hl] at h ⊢
    have hg := skipP_ge t false 0
    exact allGo_ok t _ [] _ (by omega) (by omega) h (fun x hx => by cases hx)
 rw [h1] at hlen ⊢
 rw [List.length_append, List.length_singleton] at hlen
 refine ⟨⟨by rw [List.length_append, List.length_singleton]; omega, fun i hk => ?_, fun i hi hk => ?_⟩, by simp⟩
 · unfold tkn at hk ⊢
   by_cases hi : i < (L ++ [z]).length
   · rw [getD_lt _ hi] at hk ⊢
     by_cases hi2 : i < L.length
     · rw [List.getElem_append_left hi2] at hk ⊢
       exact h3 _ (List.getElem_mem hi2) hk
     · rw [List.getElem_append_right (by omega)] at hk
       simp only [List.getElem_singleton] at hk
       rw [h2] at hk; cases hk
   · rw [List.getD_eq_getElem?_getD, List.getElem?_eq_none (by omega)] at hk
     cases hk
 · rw [List.length_append, List.length_singleton] at hi ⊢
   by_cases hi2 : i < L.length
   · omega
   · exfalso; apply hk
     unfold tkn
     rw [getD_lt _ (by rw [List.length_append, List.length_singleton]; omega), List.getElem_append_right (by omega)]
     simp only [List.getElem_singleton]
     exact h2
theorem place_eq' {v n : Int} (hn : 0 < n) (hn2 : n ≤ 1000000) : ∃ r, ref37_Place v n = some r ∧ 0 ≤ r ∧ r < n := by
 unfold ref37_Place
 rw [if_pos (by omega)]
 have h1 : v.tmod n < n := Int.tmod_lt_of_pos v hn
 have h2 : -n < v.tmod n := by
  have h := Int.tmod_lt_of_pos (-v) hn
  rw [Int.neg_tmod] at h; omega
 by_cases h : v.tmod n < 0
 · rw [if_pos h, w64_in (by omega) (by omega)]; exact ⟨_, rfl, by omega, by omega⟩
 · rw [if_neg h]; exact ⟨_, rfl, by omega, by omega⟩
end Go.Sy.Ex
namespace Go.Sy.Ex
open Go.Sy
def at' (l : List api_Token) (i o : Nat) : act_reader := ⟨⟨l, (i : Int), ⟨0, 0⟩⟩, (o : Int)⟩
section
variable {l : List api_Token} {i o : Nat}
theorem aok_st : read_Row_OK (at' l i o) = some (true, at' l i o) := rfl
theorem alook_st (hi : i < l.length) : read_Row_Look (at' l i o) = some (tkn l i, at' l i o) := by
 unfold read_Row_Look
 rw [aok_st, bind_some_eq]
 have h1 : ¬ ((i : Nat) : Int) < 0 := by omega
 have h2 : ¬ (l.length : Int) ≤ ((i : Nat) : Int) := by omega
 have h3 : 0 ≤ ((i : Nat) : Int) := by omega
 have h4 : ((i : Nat) : Int) < (l.length : Int) := by omega
 simp only [Bool.not_true, cond_false, at', Int.toNat_natCast, h1, h2, h3, h4, if_true, if_false]; rfl
theorem ais_st (hi : i < l.length) (s : List UInt8) : read_Row_Is (at' l i o) s = some (isT (tkn l i) s, at' l i o) := by
 unfold read_Row_Is isT
 rw [alook_st hi, bind_some_eq]
 dsimp only
 by_cases h3 : (tkn l i).Kind = 3
 · rw [if_pos h3]; congr 2; rw [decide_eq_decide]; simp [h3]
 · rw [if_neg h3]
   by_cases h1 : (tkn l i).Kind = 1
   · rw [if_pos h1]; congr 2; rw [decide_eq_decide]; simp [h1]
   · rw [if_neg h1]
     congr 2
     symm
     rw [decide_eq_false_iff_not]
     rintro ⟨h | h, _⟩ <;> contradiction
theorem atake_st (hi : i < l.length) (hl : l.length ≤ 100000) (s : List UInt8) : read_Row_Take (at' l i o) s = some (isT (tkn l i) s, if isT (tkn l i) s = true then at' l (i + 1) o else at' l i o) := by
 unfold read_Row_Take
 rw [ais_st hi, bind_some_eq]
 dsimp only
 cases h : isT (tkn l i) s with
 | true =>
  rw [cond_true, if_pos rfl]
  show some (true, (⟨⟨l, w64 (((i : Nat) : Int) + 1), ⟨0, 0⟩⟩, (o : Int)⟩ : act_reader)) = _
  rw [next_i hi hl]; rfl
 | false => rw [cond_false, if_neg (by simp)]
theorem awant_st (hi : i < l.length) (hl : l.length ≤ 100000) {s : List UInt8} (h : isT (tkn l i) s = true) : read_Row_Want (at' l i o) s = some (at' l (i + 1) o) := by
 unfold read_Row_Want
 rw [atake_st hi hl, bind_some_eq, h]; rfl
theorem aisname_st (hi : i < l.length) : read_Row_IsName (at' l i o) = some (decide ((tkn l i).Kind = 1) && !resP (tkn l i).Text, at' l i o) := by
 unfold read_Row_IsName
 rw [alook_st hi, bind_some_eq]
 dsimp only
 by_cases h1 : (tkn l i).Kind = 1
 · rw [if_pos h1, lres_eq, bind_some_eq, decide_eq_true h1]; rfl
 · rw [if_neg h1, decide_eq_false h1]; rfl
theorem aname_st (hi : i < l.length) (hl : l.length ≤ 100000) (h1 : (tkn l i).Kind = 1) (h2 : resP (tkn l i).Text = false) : read_Row_Name (at' l i o) = some ((tkn l i).Text, at' l (i + 1) o) := by
 unfold read_Row_Name
 rw [aisname_st hi, bind_some_eq]
 dsimp only
 rw [decide_eq_true h1, h2]
 show (if 0 ≤ w64 (w64 (((i : Nat) : Int) + 1) - 1) then if w64 (w64 (((i : Nat) : Int) + 1) - 1) < (l.length : Int) then some ((l.getD (w64 (w64 (((i : Nat) : Int) + 1) - 1)).toNat api_Token.z).Text, (⟨⟨l, w64 (((i : Nat) : Int) + 1), ⟨0, 0⟩⟩, (o : Int)⟩ : act_reader)) else none else none) = _
 rw [next_i hi hl, show w64 (((i + 1 : Nat) : Int) - 1) = ((i : Nat) : Int) from by rw [w64_in (by omega) (by omega)]; omega, if_pos (by omega), if_pos (by omega), Int.toNat_natCast]
 rfl
end
theorem alit {l : List api_Token} {i o : Nat} (hi : i < l.length) (hl : l.length ≤ 100000) {k : Int} {s : List UInt8} {n : Int} (h : strip (tkn l i) = (k, s, n)) (s' : List UInt8) (b : Bool) (hb : b = decide ((k = 3 ∨ k = 1) ∧ s = s')) : read_Row_Take (at' l i o) s' = some (b, if b = true then at' l (i + 1) o else at' l i o) := by
 rw [atake_st hi hl]
 unfold strip at h
 simp only [Prod.mk.injEq] at h
 unfold isT
 rw [h.1, h.2.1, hb]
theorem ais_lit {l : List api_Token} {i o : Nat} (hi : i < l.length) {k : Int} {s : List UInt8} {n : Int} (h : strip (tkn l i) = (k, s, n)) (s' : List UInt8) (b : Bool) (hb : b = decide ((k = 3 ∨ k = 1) ∧ s = s')) : read_Row_Is (at' l i o) s' = some (b, at' l i o) := by
 rw [ais_st hi]
 unfold strip at h
 simp only [Prod.mk.injEq] at h
 unfold isT
 rw [h.1, h.2.1, hb]
theorem parse_at {t : T} {K : List Tk} {n : Nat} (h : P t K n 1) (hn : n ≤ 12) {l : List api_Token} {i : Nat} (hl : l.length ≤ 100000) (hs : Seq l i K) (hlen : i + K.length < l.length) (hend : slv (tkn l (i + K.length)) < 1) :
 ∃ e, Is t e ∧ expr_Parse l (i : Int) = some (e, ((i + K.length : Nat) : Int), ⟨0, 0⟩) := by
 obtain ⟨e, Z, he, hr⟩ := h l i 0 hl hs hlen (by omega) hend
 refine ⟨e, he, ?_⟩
 unfold expr_Parse
 rw [show expr_reader_part (expr_reader.mk (read_Row.mk l (i : Int) (api_Fault.mk 0 0)) 0) 1 = some (e, st l (i + K.length) 0) from lim_eq Z hr, bind_some_eq, ok_st, bind_some_eq]
 rw [Bool.not_true, cond_false, eta]
 rfl
theorem aexpr_st {t : T} (hok : t.ok) (hn : nst t 1 ≤ 12) {l : List api_Token} {i o : Nat} (hl : l.length ≤ 100000) (hs : Seq l i (toks t 1)) (hlen : i + (toks t 1).length < l.length) (hend : slv (tkn l (i + (toks t 1).length)) < 1) :
 ∃ e, Is t e ∧ act_reader_expr (at' l i o) = some ([e], at' l (i + (toks t 1).length) o) := by
 obtain ⟨e, he, hp⟩ := parse_at (all_P hok) hn hl hs hlen hend
 refine ⟨e, he, ?_⟩
 unfold act_reader_expr
 rw [aok_st, bind_some_eq, Bool.not_true, cond_false]
 show (expr_Parse l (i : Int)).bind _ = _
 rw [hp, bind_some_eq]
 dsimp only
 unfold read_Row_Fail
 rw [aok_st, bind_some_eq, cond_true, bind_some_eq, eta]
 rfl
theorem ainside_st {t : T} (hok : t.ok) (hn : nst t 1 ≤ 12) {l : List api_Token} {i o : Nat} (hl : l.length ≤ 100000) (hs : Seq l i ((3, s_lp, 0) :: toks t 1 ++ [(3, s_rp, 0)])) :
 ∃ e, Is t e ∧ act_reader_inside (at' l i o) = some ([e], at' l (i + (toks t 1).length + 2) o) := by
 obtain ⟨⟨h1, h2, h3⟩, hr⟩ := Seq.append.1 hs
 simp only [List.length_cons] at hr
 obtain ⟨h4, h5, -⟩ := hr
 have hlen : i + 1 + (toks t 1).length = i + ((toks t 1).length + 1) := by omega
 obtain ⟨e, he, hp⟩ := aexpr_st (o := o) hok hn hl h3 (by omega) (by rw [hlen, slv_of h5]; decide)
 refine ⟨e, he, ?_⟩
 unfold act_reader_inside
 rw [awant_st h1 hl (isT_yes h2 (Or.inl rfl)), bind_some_eq, hp, bind_some_eq]
 dsimp only
 rw [hlen, awant_st h4 hl (isT_yes h5 (Or.inl rfl)), bind_some_eq]
 rfl
structure H where
 kind : Int
 name : List UInt8
 ev : List UInt8
 x : Option T
 n : Int
inductive B where
 | nil | cons (h : H) (th el rest : B)
def IsX : Option T → List api_Expr → Prop
 | none, l => l = []
 | some t, l => ∃ e, l = [e] ∧ Is t e
def IsB : B → List api_Act → Prop
 | .nil, l => l = []
 | .cons h th el rest, l => ∃ a l', l = a :: l' ∧ a.Kind = h.kind ∧ a.Name = h.name ∧ a.Event = h.ev ∧ IsX h.x a.X ∧ a.N = h.n ∧ IsB th a.Then ∧ IsB el a.Else ∧ IsB rest l'
def xok (x : Option T) : Prop := match x with
 | none => True
 | some t => t.ok ∧ nst t 1 ≤ 12
def H.ok (h : H) (th el : B) : Prop := xok h.x ∧
 ((h.kind = 1 ∧ nameP h.name = true ∧ h.ev = [] ∧ h.x ≠ none ∧ h.n = 0 ∧ th = .nil ∧ el = .nil) ∨
  (h.kind = 2 ∧ h.name = [] ∧ nameP h.ev = true ∧ h.n = 0 ∧ th = .nil ∧ el = .nil) ∨
  (h.kind = 3 ∧ nameP h.name = true ∧ nameP h.ev = true ∧ h.n = 0 ∧ th = .nil ∧ el = .nil) ∨
  (h.kind = 4 ∧ nameP h.name = true ∧ h.ev = [] ∧ h.x ≠ none ∧ h.n = 0 ∧ th = .nil ∧ el = .nil) ∨
  (h.kind = 5 ∧ nameP h.name = true ∧ h.ev = [] ∧ h.x = none ∧ h.n = 0 ∧ th = .nil ∧ el = .nil) ∨
  (h.kind = 6 ∧ h.name = [] ∧ h.ev = [] ∧ h.x ≠ none ∧ h.n = 0) ∨
  (h.kind = 7 ∧ h.name = [] ∧ h.ev = [] ∧ h.x = none ∧ 0 ≤ h.n ∧ h.n ≤ 9223372036854775807 ∧ el = .nil))
def B.ok : B → Prop
 | .nil => True
 | .cons h th el rest => h.ok th el ∧ th.ok ∧ el.ok ∧ rest.ok
def B.isNil : B → Bool
 | .nil => true
 | _ => false
def B.dp : B → Nat
 | .nil => 1
 | .cons h th el rest => max rest.dp (max (if h.kind = 6 ∨ h.kind = 7 then th.dp + 1 else 1) (bif el.isNil then 1 else el.dp + 1))
def tkX : Option T → List Tk
 | none => []
 | some t => (3, s_lp, 0) :: toks t 1 ++ [(3, s_rp, 0)]
def tkE : Option T → List Tk
 | none => []
 | some t => toks t 1
def tkA (h : H) (th el : List Tk) (noel : Bool) : List Tk :=
 (if h.kind = 1 then (1, h.name, 0) :: (3, s_eq, 0) :: tkE h.x ++ [(3, s_semi, 0)]
  else if h.kind = 2 then (1, s_raise, 0) :: (1, h.ev, 0) :: tkX h.x ++ [(3, s_semi, 0)]
  else if h.kind = 3 then (1, s_send, 0) :: (1, h.name, 0) :: (1, h.ev, 0) :: tkX h.x ++ [(3, s_semi, 0)]
  else if h.kind = 4 then (1, s_arm, 0) :: (1, h.name, 0) :: tkX h.x ++ [(3, s_semi, 0)]
  else if h.kind = 5 then [(1, s_cancel, 0), (1, h.name, 0), (3, s_semi, 0)]
  else if h.kind = 6 then (1, s_if, 0) :: tkX h.x ++ ((3, s_lb, 0) :: th ++ [(3, s_rb, 0)]) ++ (bif noel then [] else (1, s_else, 0) :: ((3, s_lb, 0) :: el ++ [(3, s_rb, 0)]))
  else (1, s_loop, 0) :: (2, Lib.itoa h.n, h.n) :: ((3, s_lb, 0) :: th ++ [(3, s_rb, 0)]))
def tkI : B → List Tk
 | .nil => []
 | .cons h th el rest => tkA h (tkI th) (tkI el) el.isNil ++ tkI rest
def tkB (b : B) : List Tk := (3, s_lb, 0) :: tkI b ++ [(3, s_rb, 0)]
end Go.Sy.Ex
namespace Go.Sy.Ex
open Go.Sy
theorem B.dp_pos : ∀ b : B, 1 ≤ b.dp
 | .nil => Nat.le_refl _
 | .cons h th el rest => by have := B.dp_pos rest; simp only [B.dp]; omega
def PB (b : B) : Prop := ∀ (l : List api_Token) (i o : Nat), l.length ≤ 100000 → Seq l i (tkB b) → i + (tkB b).length < l.length → o + b.dp ≤ 4 →
 ∃ cs Z, IsB b cs ∧ ∀ k, Z ≤ k → act_reader_block_f k (at' l i o) = some (cs, at' l (i + (tkB b).length) o)
def PI (b : B) : Prop := ∀ (l : List api_Token) (i o : Nat) (acc : List api_Act), l.length ≤ 100000 → Seq l i (tkI b ++ [(3, s_rb, 0)]) → i + (tkI b).length + 1 < l.length → o + 1 + b.dp ≤ 5 → acc.length ≤ i →
 ∃ cs Z, IsB b cs ∧ ∀ k, Z ≤ k → ∀ k', Z ≤ k' → act_reader_block_l0 (act_reader_block_f k) k' l (i : Int) 0 0 ((o + 1 : Nat) : Int) acc = some (acc ++ cs, at' l (i + (tkI b).length + 1) o)
theorem PB_of {b : B} (h : PI b) : PB b := fun l i o hl hs hi ho => by
 have hd := b.dp_pos
 unfold tkB at hs hi ⊢
 simp only [List.length_append, List.length_cons, List.length_nil] at hi ⊢
 have hs' : Seq l i ((3, s_lb, 0) :: (tkI b ++ [(3, s_rb, 0)])) := by simpa using hs
 obtain ⟨h1, h2, h3⟩ := hs'
 obtain ⟨cs, Z, ha, hr⟩ := h l (i + 1) o [] hl h3 (by omega) (by omega) (Nat.zero_le _)
 refine ⟨cs, Z + 2, ha, fun k hk => ?_⟩
 obtain ⟨k, rfl⟩ : ∃ j, k = j + 2 := ⟨k - 2, by omega⟩
 show act_reader_block_b (act_reader_block_f (k + 1)) (k + 1) (at' l i o) = _
 unfold act_reader_block_b
 rw [ais_lit h1 h2 s_lb true (by decide), bind_some_eq]
 dsimp only [cond_true]
 rw [if_neg (by show ¬ ((o : Nat) : Int) = 4; omega), act_reader_block_c0.eq_2]
 rw [show act_reader.mk (read_Row.mk (at' l i o).Row.L (at' l i o).Row.At (api_Fault.mk (at' l i o).Row.Fault.Code (at' l i o).Row.Fault.At)) (at' l i o).v_open = at' l i o from rfl, awant_st h1 hl (isT_yes h2 (Or.inl rfl)), bind_some_eq]
 show act_reader_block_l0 (act_reader_block_f (k + 1)) k l ((i + 1 : Nat) : Int) 0 0 (w64 (((o : Nat) : Int) + 1)) [] = _
 rw [show w64 (((o : Nat) : Int) + 1) = ((o + 1 : Nat) : Int) from by rw [w64_in (by omega) (by omega)]; omega, hr (k + 1) (by omega) k (by omega), List.nil_append]
 congr 3
 omega
theorem first_no {b : B} (hok : b.ok) {l : List api_Token} {i : Nat} (hs : Seq l i (tkI b ++ [(3, s_rb, 0)])) : isT (tkn l i) s_else = false := by
 cases b with
 | nil => exact isT_no hs.2.1 (.inr (by decide))
 | cons h th el rest =>
  obtain ⟨⟨_, hk⟩, _⟩ := hok
  simp only [tkI] at hs
  rcases hk with ⟨k, a, _⟩ | ⟨k, _⟩ | ⟨k, _⟩ | ⟨k, _⟩ | ⟨k, _⟩ | ⟨k, _⟩ | ⟨k, _⟩
  · unfold tkA at hs; rw [k] at hs; simp only [if_true] at hs
    exact isT_no hs.2.1 (.inr fun q => by rw [q] at a; revert a; decide)
  · unfold tkA at hs; rw [k] at hs; exact isT_no hs.2.1 (.inr (by decide))
  · unfold tkA at hs; rw [k] at hs; exact isT_no hs.2.1 (.inr (by decide))
  · unfold tkA at hs; rw [k] at hs; exact isT_no hs.2.1 (.inr (by decide))
  · unfold tkA at hs; rw [k] at hs; exact isT_no hs.2.1 (.inr (by decide))
  · unfold tkA at hs; rw [k] at hs; exact isT_no hs.2.1 (.inr (by decide))
  · unfold tkA at hs; rw [k] at hs; exact isT_no hs.2.1 (.inr (by decide))
def IsA (h : H) (th el : B) (a : api_Act) : Prop := a.Kind = h.kind ∧ a.Name = h.name ∧ a.Event = h.ev ∧ IsX h.x a.X ∧ a.N = h.n ∧ IsB th a.Then ∧ IsB el a.Else
theorem anumber_st {x : Option T} (hx : xok x) {l : List api_Token} {i o : Nat} (hl : l.length ≤ 100000) (hs : Seq l i (tkX x ++ [(3, s_semi, 0)])) :
 ∃ X, IsX x X ∧ act_reader_number (at' l i o) = some (X, at' l (i + (tkX x).length) o) := by
 cases x with
 | none =>
  obtain ⟨h1, h2, -⟩ := hs
  refine ⟨[], rfl, ?_⟩
  unfold act_reader_number
  rw [ais_lit h1 h2 s_lp false (by decide), bind_some_eq]
  rfl
 | some t =>
  obtain ⟨hs1, hs2⟩ := Seq.append.1 hs
  obtain ⟨e, he, hp⟩ := ainside_st (o := o) hx.1 hx.2 hl hs1
  obtain ⟨h1, h2, -⟩ := hs1
  refine ⟨[e], ⟨e, rfl, he⟩, ?_⟩
  unfold act_reader_number
  rw [ais_lit h1 h2 s_lp true (by decide), bind_some_eq]
  dsimp only [Bool.not_true, cond_false]
  rw [Bool.not_true, cond_false, hp, bind_some_eq]
  show some ([e], at' l (i + (toks t 1).length + 2) o) = some ([e], at' l (i + ((3, s_lp, 0) :: toks t 1 ++ [(3, s_rp, 0)]).length) o)
  congr 3
  simp
  omega
theorem aname_lit {l : List api_Token} {i o : Nat} (hi : i < l.length) (hl : l.length ≤ 100000) {s : List UInt8} (h : strip (tkn l i) = (1, s, 0)) (hn : nameP s = true) : read_Row_Name (at' l i o) = some (s, at' l (i + 1) o) := by
 obtain ⟨k1, k2, _⟩ := kind_of h
 rw [aname_st hi hl k1 (by rw [k2]; exact (name_split hn).2.2.1), k2]
theorem aisname_lit {l : List api_Token} {i o : Nat} (hi : i < l.length) {k : Int} {s : List UInt8} {n : Int} (h : strip (tkn l i) = (k, s, n)) (b : Bool) (hb : b = (decide (k = 1) && !resP s)) : read_Row_IsName (at' l i o) = some (b, at' l i o) := by
 obtain ⟨k1, k2, _⟩ := kind_of h
 rw [aisname_st hi, k1, k2, hb]
theorem act_ok {h : H} {th el : B} (hok : h.ok th el) (hth : PB th) (hel : PB el) {l : List api_Token} {i o : Nat} (hl : l.length ≤ 100000) (hs : Seq l i (tkA h (tkI th) (tkI el) el.isNil)) (hi : i + (tkA h (tkI th) (tkI el) el.isNil).length < l.length)
 (hno : isT (tkn l (i + (tkA h (tkI th) (tkI el) el.isNil).length)) s_else = false) (hd1 : h.kind = 6 ∨ h.kind = 7 → o + th.dp ≤ 4) (hd2 : el.isNil = false → o + el.dp ≤ 4) :
 ∃ a Z, IsA h th el a ∧ ∀ k, Z ≤ k → act_reader_act_1 (act_reader_block_f k) (at' l i o) = some (a, at' l (i + (tkA h (tkI th) (tkI el) el.isNil).length) o) := by
 obtain ⟨hx, hk⟩ := hok
 have hfirst : i < l.length := by omega
 rcases hk with ⟨k, a, b, c, d, e, f⟩ | ⟨k, a, b, c, d, e⟩ | ⟨k, a, b, c, d, e⟩ | ⟨k, a, b, c, d, e, f⟩ | ⟨k, a, b, c, d, e, f⟩ | ⟨k, a, b, c, d⟩ | ⟨k, a, b, c, d, e, f⟩
 · -- x = e;
   have ht : tkA h (tkI th) (tkI el) el.isNil = (1, h.name, 0) :: (3, s_eq, 0) :: (tkE h.x ++ [(3, s_semi, 0)]) := by unfold tkA; rw [k]; rfl
   rw [ht] at hs hi ⊢
   simp only [List.length_cons, List.length_append, List.length_nil] at hi ⊢
   obtain ⟨h1, h2, h3, h4, hr⟩ := hs
   cases hxx : h.x with
   | none => exact absurd hxx c
   | some t =>
    rw [hxx] at hx hr hi
    obtain ⟨hs1, h5, h6, -⟩ := Seq.append.1 hr
    have hs1 : Seq l (i + 1 + 1) (toks t 1) := hs1
    have h5 : i + 1 + 1 + (toks t 1).length < l.length := h5
    have h6 : strip (tkn l (i + 1 + 1 + (toks t 1).length)) = (3, s_semi, 0) := h6
    obtain ⟨e', he, hp⟩ := aexpr_st (o := o) hx.1 hx.2 hl hs1 h5 (by rw [slv_of h6]; decide)
    refine ⟨api_Act.mk 1 h.name [] [e'] 0 [] [] (tkn l i).At, 0, ⟨k.symm, rfl, b.symm, by rw [hxx]; exact ⟨e', rfl, he⟩, d.symm, by subst e; exact rfl, by subst f; exact rfl⟩, fun q hq => ?_⟩
    unfold act_reader_act_1
    rw [alook_st h1, bind_some_eq]
    dsimp only
    rw [aisname_lit h1 h2 true (by rw [(name_split a).2.2.1]; rfl), bind_some_eq]
    dsimp only [cond_true]
    rw [aname_lit h1 hl h2 a, bind_some_eq]
    dsimp only
    rw [awant_st h3 hl (isT_yes h4 (Or.inl rfl)), bind_some_eq, hp, bind_some_eq]
    dsimp only
    rw [awant_st h5 hl (isT_yes h6 (Or.inl rfl)), bind_some_eq]
    rw [show i + 1 + 1 + (toks t 1).length + 1 = i + ((tkE (some t)).length + (0 + 1) + 1 + 1) from by simp [tkE]; omega]
 · -- raise
   have ht : tkA h (tkI th) (tkI el) el.isNil = (1, s_raise, 0) :: (1, h.ev, 0) :: (tkX h.x ++ [(3, s_semi, 0)]) := by unfold tkA; rw [k]; rfl
   rw [ht] at hs hi ⊢
   simp only [List.length_cons, List.length_append, List.length_nil] at hi ⊢
   obtain ⟨h1, h2, h3, h4, hr⟩ := hs
   obtain ⟨X, hX, hp⟩ := anumber_st (o := o) hx hl hr
   obtain ⟨-, h5, h6, -⟩ := Seq.append.1 hr
   refine ⟨api_Act.mk 2 [] h.ev X 0 [] [] (tkn l i).At, 0, ⟨k.symm, a.symm, rfl, hX, c.symm, by subst d; exact rfl, by subst e; exact rfl⟩, fun q hq => ?_⟩
   unfold act_reader_act_1
   rw [alook_st h1, bind_some_eq]
   dsimp only
   rw [aisname_lit h1 h2 false (by decide), bind_some_eq]
   rw [cond_false]
   dsimp only
   rw [alit h1 hl h2 s_raise true (by decide), bind_some_eq, if_pos rfl, cond_true]
   dsimp only
   rw [aname_lit h3 hl h4 b, bind_some_eq]
   dsimp only
   rw [hp, bind_some_eq]
   dsimp only
   rw [awant_st h5 hl (isT_yes h6 (Or.inl rfl)), bind_some_eq]
   rw [show i + 1 + 1 + (tkX h.x).length + 1 = i + ((tkX h.x).length + (0 + 1) + 1 + 1) from by omega]
 · -- send
   have ht : tkA h (tkI th) (tkI el) el.isNil = (1, s_send, 0) :: (1, h.name, 0) :: (1, h.ev, 0) :: (tkX h.x ++ [(3, s_semi, 0)]) := by unfold tkA; rw [k]; rfl
   rw [ht] at hs hi ⊢
   simp only [List.length_cons, List.length_append, List.length_nil] at hi ⊢
   obtain ⟨h1, h2, h3, h4, h3', h4', hr⟩ := hs
   obtain ⟨X, hX, hp⟩ := anumber_st (o := o) hx hl hr
   obtain ⟨-, h5, h6, -⟩ := Seq.append.1 hr
   refine ⟨api_Act.mk 3 h.name h.ev X 0 [] [] (tkn l i).At, 0, ⟨k.symm, rfl, rfl, hX, c.symm, by subst d; exact rfl, by subst e; exact rfl⟩, fun q hq => ?_⟩
   unfold act_reader_act_1
   rw [alook_st h1, bind_some_eq]
   dsimp only
   rw [aisname_lit h1 h2 false (by decide), bind_some_eq]
   rw [cond_false]
   dsimp only
   rw [alit h1 hl h2 s_raise false (by decide), bind_some_eq, if_neg (by decide), cond_false]
   dsimp only
   rw [alit h1 hl h2 s_send true (by decide), bind_some_eq, if_pos rfl, cond_true]
   dsimp only
   rw [aname_lit h3 hl h4 a, bind_some_eq]
   dsimp only
   rw [aname_lit h3' hl h4' b, bind_some_eq]
   dsimp only
   rw [hp, bind_some_eq]
   dsimp only
   rw [awant_st h5 hl (isT_yes h6 (Or.inl rfl)), bind_some_eq]
   rw [show i + 1 + 1 + 1 + (tkX h.x).length + 1 = i + ((tkX h.x).length + (0 + 1) + 1 + 1 + 1) from by omega]
 · -- arm
   have ht : tkA h (tkI th) (tkI el) el.isNil = (1, s_arm, 0) :: (1, h.name, 0) :: (tkX h.x ++ [(3, s_semi, 0)]) := by unfold tkA; rw [k]; rfl
   rw [ht] at hs hi ⊢
   simp only [List.length_cons, List.length_append, List.length_nil] at hi ⊢
   obtain ⟨h1, h2, h3, h4, hr⟩ := hs
   cases hxx : h.x with
   | none => exact absurd hxx c
   | some t =>
    rw [hxx] at hx hr hi
    obtain ⟨hs1, h5, h6, -⟩ := Seq.append.1 hr
    obtain ⟨e', he, hp⟩ := ainside_st (o := o) hx.1 hx.2 hl hs1
    have hl5 : (tkX (some t)).length = (toks t 1).length + 2 := by simp [tkX]
    rw [hl5] at h5 h6 hi ⊢
    have e6 : i + 1 + 1 + (toks t 1).length + 2 = i + 1 + 1 + ((toks t 1).length + 2) := by omega
    refine ⟨api_Act.mk 4 h.name [] [e'] 0 [] [] (tkn l i).At, 0, ⟨k.symm, rfl, b.symm, by rw [hxx]; exact ⟨e', rfl, he⟩, d.symm, by subst e; exact rfl, by subst f; exact rfl⟩, fun q hq => ?_⟩
    unfold act_reader_act_1
    rw [alook_st h1, bind_some_eq]
    dsimp only
    rw [aisname_lit h1 h2 false (by decide), bind_some_eq]
    rw [cond_false]
    dsimp only
    rw [alit h1 hl h2 s_raise false (by decide), bind_some_eq, if_neg (by decide), cond_false]
    dsimp only
    rw [alit h1 hl h2 s_send false (by decide), bind_some_eq, if_neg (by decide), cond_false]
    dsimp only
    rw [alit h1 hl h2 s_arm true (by decide), bind_some_eq, if_pos rfl, cond_true]
    dsimp only
    rw [aname_lit h3 hl h4 a, bind_some_eq]
    dsimp only
    rw [hp, bind_some_eq, e6]
    dsimp only
    rw [awant_st h5 hl (isT_yes h6 (Or.inl rfl)), bind_some_eq]
    rw [show i + 1 + 1 + ((toks t 1).length + 2) + 1 = i + ((toks t 1).length + 2 + (0 + 1) + 1 + 1) from by omega]
 · -- cancel
   have ht : tkA h (tkI th) (tkI el) el.isNil = [(1, s_cancel, 0), (1, h.name, 0), (3, s_semi, 0)] := by unfold tkA; rw [k]; rfl
   rw [ht] at hs hi ⊢
   simp only [List.length_cons, List.length_nil] at hi ⊢
   obtain ⟨h1, h2, h3, h4, h5, h6, -⟩ := hs
   refine ⟨api_Act.mk 5 h.name [] [] 0 [] [] (tkn l i).At, 0, ⟨k.symm, rfl, b.symm, by rw [c]; exact rfl, d.symm, by subst e; exact rfl, by subst f; exact rfl⟩, fun q hq => ?_⟩
   unfold act_reader_act_1
   rw [alook_st h1, bind_some_eq]
   dsimp only
   rw [aisname_lit h1 h2 false (by decide), bind_some_eq]
   rw [cond_false]
   dsimp only
   rw [alit h1 hl h2 s_raise false (by decide), bind_some_eq, if_neg (by decide), cond_false]
   dsimp only
   rw [alit h1 hl h2 s_send false (by decide), bind_some_eq, if_neg (by decide), cond_false]
   dsimp only
   rw [alit h1 hl h2 s_arm false (by decide), bind_some_eq, if_neg (by decide), cond_false]
   dsimp only
   rw [alit h1 hl h2 s_cancel true (by decide), bind_some_eq, if_pos rfl, cond_true]
   dsimp only
   rw [aname_lit h3 hl h4 a, bind_some_eq]
   dsimp only
   rw [awant_st h5 hl (isT_yes h6 (Or.inl rfl)), bind_some_eq]
 · -- if
   cases hxx : h.x with
   | none => exact absurd hxx c
   | some t =>
    rw [hxx] at hx
    have hl5 : (tkX (some t)).length = (toks t 1).length + 2 := by simp [tkX]
    have ht : tkA h (tkI th) (tkI el) el.isNil = (1, s_if, 0) :: (tkX (some t) ++ (tkB th ++ (bif el.isNil then [] else (1, s_else, 0) :: tkB el))) := by unfold tkA tkB; rw [k, hxx]; simp
    rw [ht] at hs hi hno ⊢
    simp only [List.length_cons, List.length_append] at hi hno ⊢
    rw [hl5] at hi hno ⊢
    obtain ⟨h1, h2, hr⟩ := hs
    obtain ⟨hs1, hr2⟩ := Seq.append.1 hr
    rw [hl5] at hr2
    obtain ⟨hs2, hr3⟩ := Seq.append.1 hr2
    obtain ⟨e', he, hp⟩ := ainside_st (o := o) hx.1 hx.2 hl hs1
    have e6 : i + 1 + (toks t 1).length + 2 = i + 1 + ((toks t 1).length + 2) := by omega
    rw [e6] at hp
    obtain ⟨cs, Z, hcs, hcr⟩ := hth l (i + 1 + ((toks t 1).length + 2)) o hl hs2 (by omega) (hd1 (.inl k))
    have head : ∀ q, act_reader_act_1 (act_reader_block_f q) (at' l i o) = (act_reader_whole_1 (act_reader_block_f q) (at' l i o) (api_Act.mk 0 [] [] [] 0 [] [] (tkn l i).At)).bind fun r24 =>
     some (api_Act.mk r24.1.Kind r24.1.Name r24.1.Event r24.1.X r24.1.N r24.1.Then r24.1.Else r24.1.At, r24.2) := fun q => by
     unfold act_reader_act_1
     rw [alook_st h1, bind_some_eq]
     dsimp only
     rw [aisname_lit h1 h2 false (by decide), bind_some_eq]
     rw [cond_false]
     dsimp only
     rw [alit h1 hl h2 s_raise false (by decide), bind_some_eq, if_neg (by decide), cond_false]
     dsimp only
     rw [alit h1 hl h2 s_send false (by decide), bind_some_eq, if_neg (by decide), cond_false]
     dsimp only
     rw [alit h1 hl h2 s_arm false (by decide), bind_some_eq, if_neg (by decide), cond_false]
     dsimp only
     rw [alit h1 hl h2 s_cancel false (by decide), bind_some_eq, if_neg (by decide), cond_false]
     dsimp only
     rw [ais_lit h1 h2 s_if true (by decide), bind_some_eq, cond_true, cond_true]
    have whole : ∀ q, Z ≤ q → act_reader_whole_1 (act_reader_block_f q) (at' l i o) (api_Act.mk 0 [] [] [] 0 [] [] (tkn l i).At) = (read_Row_Take (at' l (i + 1 + ((toks t 1).length + 2) + (tkB th).length) o) s_else).bind fun r7 =>
     bif r7.1 then
     (act_reader_block_f q r7.2).bind fun r8 =>
     some (api_Act.mk 6 [] [] [e'] 0 cs r8.1 (tkn l i).At, r8.2) else
     some (api_Act.mk 6 [] [] [e'] 0 cs [] (tkn l i).At, r7.2) := fun q hq => by
     unfold act_reader_whole_1
     rw [alit h1 hl h2 s_loop false (by decide), bind_some_eq, if_neg (by decide), cond_false]
     dsimp only
     rw [awant_st h1 hl (isT_yes h2 (Or.inr rfl)), bind_some_eq, hp, bind_some_eq]
     dsimp only
     rw [hcr q hq, bind_some_eq]
    cases hnil : el.isNil with
    | true =>
     have hel0 : el = .nil := by cases el with
      | nil => rfl
      | cons _ _ _ _ => cases hnil
     rw [hnil] at hno
     simp only [cond_true, List.length_nil, Nat.add_zero] at hno ⊢
     rw [hnil] at hi
     simp only [cond_true, List.length_nil, Nat.add_zero] at hi
     have ee : i + 1 + ((toks t 1).length + 2) + (tkB th).length = i + ((toks t 1).length + 2 + (tkB th).length + 1) := by omega
     refine ⟨api_Act.mk 6 [] [] [e'] 0 cs [] (tkn l i).At, Z, ⟨k.symm, a.symm, b.symm, by rw [hxx]; exact ⟨e', rfl, he⟩, d.symm, hcs, by rw [hel0]; exact rfl⟩, fun q hq => ?_⟩
     rw [head, whole q hq, ee, atake_st (by omega) hl, hno, bind_some_eq, if_neg (by decide), cond_false, bind_some_eq]
    | false =>
     rw [hnil] at hr3 hi
     simp only [cond_false, List.length_cons] at hr3 hi ⊢
     obtain ⟨h7, h8, hr4⟩ := hr3
     obtain ⟨ds, Z2, hds, hdr⟩ := hel l _ o hl hr4 (by omega) (hd2 hnil)
     refine ⟨api_Act.mk 6 [] [] [e'] 0 cs ds (tkn l i).At, Z + Z2, ⟨k.symm, a.symm, b.symm, by rw [hxx]; exact ⟨e', rfl, he⟩, d.symm, hcs, hds⟩, fun q hq => ?_⟩
     rw [head, whole q (by omega), alit h7 hl h8 s_else true (by decide), bind_some_eq, if_pos rfl, cond_true]
     dsimp only
     rw [hdr q (by omega), bind_some_eq, bind_some_eq]
     rw [show i + 1 + ((toks t 1).length + 2) + (tkB th).length + 1 + (tkB el).length = i + ((toks t 1).length + 2 + ((tkB th).length + ((tkB el).length + 1)) + 1) from by omega]
 · -- loop
   have ht : tkA h (tkI th) (tkI el) el.isNil = (1, s_loop, 0) :: (2, Lib.itoa h.n, h.n) :: tkB th := by unfold tkA tkB; rw [k]; rfl
   rw [ht] at hs hi ⊢
   simp only [List.length_cons] at hi ⊢
   obtain ⟨h1, h2, h3, h4, hr⟩ := hs
   obtain ⟨cs, Z, hcs, hcr⟩ := hth l (i + 1 + 1) o hl hr (by omega) (hd1 (.inr k))
   refine ⟨api_Act.mk 7 [] [] [] h.n cs [] (tkn l i).At, Z, ⟨k.symm, a.symm, b.symm, by rw [c]; exact rfl, rfl, hcs, by subst f; exact rfl⟩, fun q hq => ?_⟩
   unfold act_reader_act_1
   rw [alook_st h1, bind_some_eq]
   dsimp only
   rw [aisname_lit h1 h2 false (by decide), bind_some_eq]
   rw [cond_false]
   dsimp only
   rw [alit h1 hl h2 s_raise false (by decide), bind_some_eq, if_neg (by decide), cond_false]
   dsimp only
   rw [alit h1 hl h2 s_send false (by decide), bind_some_eq, if_neg (by decide), cond_false]
   dsimp only
   rw [alit h1 hl h2 s_arm false (by decide), bind_some_eq, if_neg (by decide), cond_false]
   dsimp only
   rw [alit h1 hl h2 s_cancel false (by decide), bind_some_eq, if_neg (by decide), cond_false]
   dsimp only
   rw [ais_lit h1 h2 s_if false (by decide), bind_some_eq, cond_false]
   dsimp only
   rw [ais_lit h1 h2 s_loop true (by decide), bind_some_eq, cond_true]
   dsimp only
   unfold act_reader_whole_1
   rw [alit h1 hl h2 s_loop true (by decide), bind_some_eq, if_pos rfl, cond_true]
   dsimp only
   have hnum : read_Row_Number (at' l (i + 1) o) = some (h.n, at' l (i + 1 + 1) o) := by
    unfold read_Row_Number
    rw [alook_st h3, bind_some_eq]
    dsimp only
    rw [if_neg (by rw [(kind_of h4).1]; decide), (kind_of h4).2.2]
    show some (h.n, (⟨⟨l, w64 (((i + 1 : Nat) : Int) + 1), ⟨0, 0⟩⟩, (o : Int)⟩ : act_reader)) = _
    rw [next_i h3 hl]; rfl
   rw [hnum, bind_some_eq]
   dsimp only
   rw [hcr q hq, bind_some_eq, bind_some_eq]
   rw [show i + 1 + 1 + (tkB th).length = i + ((tkB th).length + 1 + 1) from by omega]
end Go.Sy.Ex
namespace Go.Sy.Ex
open Go.Sy
theorem first_rb {h : H} {th el : B} {K : List Tk} (hok : h.ok th el) {l : List api_Token} {i : Nat} (hs : Seq l i (tkA h (tkI th) (tkI el) el.isNil ++ K)) : i < l.length ∧ isT (tkn l i) s_rb = false := by
 obtain ⟨_, hk⟩ := hok
 rcases hk with ⟨k, a, _⟩ | ⟨k, _⟩ | ⟨k, _⟩ | ⟨k, _⟩ | ⟨k, _⟩ | ⟨k, _⟩ | ⟨k, _⟩
 · unfold tkA at hs; rw [k] at hs; simp only [if_true] at hs
   exact ⟨hs.1, isT_no hs.2.1 (.inr fun q => by rw [q] at a; revert a; decide)⟩
 all_goals unfold tkA at hs; rw [k] at hs; exact ⟨hs.1, isT_no hs.2.1 (.inr (by decide))⟩
theorem PI_of : ∀ b : B, b.ok → PI b := by
 intro b
 induction b with
 | nil =>
  intro _ l i o acc hl hs hi ho hacc
  obtain ⟨h1, h2, -⟩ := hs
  refine ⟨[], 1, rfl, fun k hk k' hk' => ?_⟩
  obtain ⟨k', rfl⟩ : ∃ j, k' = j + 1 := ⟨k' - 1, by omega⟩
  rw [act_reader_block_l0.eq_2]
  rw [show act_reader.mk (read_Row.mk l (i : Int) (api_Fault.mk 0 0)) ((o + 1 : Nat) : Int) = at' l i (o + 1) from rfl, aok_st, bind_some_eq, cond_true]
  dsimp only
  rw [alit h1 hl h2 s_rb true (by decide), bind_some_eq, if_pos rfl, Bool.not_true, cond_false, List.append_nil]
  show some (acc, (⟨⟨l, ((i + 1 : Nat) : Int), ⟨0, 0⟩⟩, w64 (((o + 1 : Nat) : Int) - 1)⟩ : act_reader)) = _
  rw [show w64 (((o + 1 : Nat) : Int) - 1) = (o : Int) from by rw [w64_in (by omega) (by omega)]; omega]
  rfl
 | cons h th el rest ih1 ih2 ih3 =>
  rintro ⟨hok, okt, oke, okr⟩ l i o acc hl hs hi ho hacc
  have hd : o + 1 + (B.cons h th el rest).dp ≤ 5 := ho
  simp only [B.dp] at hd
  have hd1 : h.kind = 6 ∨ h.kind = 7 → o + 1 + th.dp ≤ 4 := fun q => by rw [if_pos q] at hd; omega
  have hd2 : el.isNil = false → o + 1 + el.dp ≤ 4 := fun q => by rw [q, cond_false] at hd; omega
  simp only [tkI] at hs hi ⊢
  rw [List.append_assoc] at hs
  obtain ⟨hf1, hf2⟩ := first_rb hok hs
  obtain ⟨hs1, hs2⟩ := Seq.append.1 hs
  simp only [List.length_append] at hi ⊢
  obtain ⟨a, Z, ha, hra⟩ := act_ok (o := o + 1) hok (PB_of (ih1 okt)) (PB_of (ih2 oke)) hl hs1 (by omega) (first_no okr hs2) hd1 hd2
  have hapos : 1 ≤ (tkA h (tkI th) (tkI el) el.isNil).length := by
   unfold tkA; repeat' split
   all_goals simp
  obtain ⟨cs, Z2, hcs, hrc⟩ := ih3 okr l (i + (tkA h (tkI th) (tkI el) el.isNil).length) o (acc ++ [a]) hl hs2 (by omega) (by omega) (by rw [List.length_append, List.length_singleton]; omega)
  refine ⟨a :: cs, Z + Z2 + 1, ⟨a, cs, rfl, ha.1, ha.2.1, ha.2.2.1, ha.2.2.2.1, ha.2.2.2.2.1, ha.2.2.2.2.2.1, ha.2.2.2.2.2.2, hcs⟩, fun k hk k' hk' => ?_⟩
  obtain ⟨k', rfl⟩ : ∃ j, k' = j + 1 := ⟨k' - 1, by omega⟩
  rw [act_reader_block_l0.eq_2]
  rw [show act_reader.mk (read_Row.mk l (i : Int) (api_Fault.mk 0 0)) ((o + 1 : Nat) : Int) = at' l i (o + 1) from rfl, aok_st, bind_some_eq, cond_true]
  dsimp only
  rw [atake_st hf1 hl, bind_some_eq, hf2, Bool.not_false, cond_true, if_neg (by decide), hra k (by omega), bind_some_eq, if_pos (by simp only [List.length_singleton]; omega)]
  have := hrc k (by omega) k' (by omega)
  rw [show acc ++ a :: cs = (acc ++ [a]) ++ cs from by simp, show i + ((tkA h (tkI th) (tkI el) el.isNil).length + (tkI rest).length) + 1 = i + (tkA h (tkI th) (tkI el) el.isNil).length + (tkI rest).length + 1 from by omega]
  exact this
theorem read_block {b : B} (hok : b.ok) (hd : b.dp ≤ 4) {s : List UInt8} (h : Lx s (tkB b)) (hl : s.length ≤ 16384) : ∃ l cs, allP s = (l, api_Fault.mk 0 0) ∧ l.length = (tkB b).length + 1 ∧ IsB b cs ∧ act_Parse l 0 = some (cs, ((tkB b).length : Int), ⟨0, 0⟩) := by
 obtain ⟨l, h1, h2⟩ := h.all hl
 have hlen : l.length = (tkB b).length + 1 := by
  have := congrArg List.length h2
  simpa using this
 have hll : l.length ≤ 100000 := by have := allP_len s; rw [h1] at this; dsimp only at this; omega
 have hs : Seq l 0 (tkB b) := seq_of (R := [(4, [], 0)]) (by rw [List.drop_zero]; exact h2)
 obtain ⟨cs, Z, hcs, hr⟩ := PB_of (PI_of b hok) l 0 0 hll hs (by omega) (by omega)
 refine ⟨l, cs, h1, hlen, hcs, ?_⟩
 unfold act_Parse
 rw [show act_reader_block (act_reader.mk (read_Row.mk l 0 (api_Fault.mk 0 0)) 0) = some (cs, at' l (0 + (tkB b).length) 0) from lim_eq Z hr, bind_some_eq, aok_st, bind_some_eq, Bool.not_true, cond_false, Nat.zero_add]
 rfl
theorem law_read_block {b : B} (hok : b.ok) (hd : b.dp ≤ 4) {s : List UInt8} (h : Lx s (tkB b)) (hl : s.length ≤ 16384) : ∃ cs, IsB b cs ∧ law8_read s = some (cs, true) := by
 obtain ⟨l, cs, h1, h2, h3, h4⟩ := read_block hok hd h hl
 refine ⟨cs, h3, ?_⟩
 unfold law8_read
 rw [lAll_eq, bind_some_eq, h1]
 dsimp only
 rw [if_neg (by simp), h4, bind_some_eq]
 dsimp only
 have hll : l.length ≤ 16385 := by have := allP_len s; rw [h1] at this; exact this
 rw [if_pos rfl, w64_in (by omega) (by omega), decide_eq_true (by omega)]
def rep (n : Nat) : List UInt8 := Lib.repeatL s_sp_sp n
def prX : Option T → List UInt8
 | none => []
 | some t => pr t 1
def wX : Option T → List UInt8
 | none => []
 | some t => s_lp ++ pr t 1 ++ s_rp
def prA (h : H) (th el : List UInt8) (noel : Bool) : List UInt8 :=
 if h.kind = 1 then h.name ++ s_sp_eq_sp ++ prX h.x ++ s_semi
  else if h.kind = 2 then s_raise_x7823e ++ h.ev ++ wX h.x ++ s_semi
  else if h.kind = 3 then s_send_xe0272 ++ h.name ++ s_sp ++ h.ev ++ wX h.x ++ s_semi
  else if h.kind = 4 then s_arm_x6c666 ++ h.name ++ wX h.x ++ s_semi
  else if h.kind = 5 then s_cancel_x1c990 ++ h.name ++ s_semi
  else if h.kind = 6 then s_if_xec554 ++ wX h.x ++ s_sp ++ th ++ (bif noel then [] else s_else_xf7d30 ++ el)
  else s_loop_xf5f27 ++ Lib.itoa h.n ++ s_sp ++ th
def blk (b : B) (s : List UInt8) (d : Nat) : List UInt8 := bif b.isNil then s_lb_rb else s_lb_nl ++ s ++ rep d ++ s_rb
def prI : B → Nat → List UInt8
 | .nil, _ => []
 | .cons h th el rest, d => rep d ++ prA h (blk th (prI th (d + 1)) d) (blk el (prI el (d + 1)) d) el.isNil ++ [10] ++ prI rest d
def prB (b : B) (d : Nat) : List UInt8 := blk b (prI b (d + 1)) d
end Go.Sy.Ex
namespace Go.Sy.Ex
open Go.Sy
def Wr (self : List UInt8 → List api_Act → Int → Option (List UInt8)) (l : List api_Act) (d : Nat) (s : List UInt8) : Prop := ∀ b : List UInt8, (b ++ s).length ≤ 140737488355328 → self b l (d : Int) = some (b ++ s)
theorem isNil_len {el : B} {l : List api_Act} (h : IsB el l) : (0 < (l.length : Int)) ↔ el.isNil = false := by
 cases el with
 | nil => rw [show l = [] from h]; simp [B.isNil]
 | cons _ _ _ _ => obtain ⟨a, l', rfl, _⟩ := h; simp [B.isNil]
theorem fits_le {n : Nat} (h : n ≤ 140737488355328) : n ≤ 9223372036854775807 := by omega
theorem one_tail {h : H} {th el : B} {act : api_Act} (hok : h.ok th el) (ha : IsA h th el act) {self : List UInt8 → List api_Act → Int → Option (List UInt8)} {d : Nat} {st se : List UInt8} (ht : Wr self act.Then d st) (he : Wr self act.Else d se) {b : List UInt8}
 (hl : (b ++ prA h st se el.isNil).length ≤ 140737488355328) (k : Nat) : act_one_l0 self (k + 1) b (d : Int) act.Kind act.Name act.Event act.X act.N act.Then act.Else act.At (prX h.x) act.X (act.X.length : Int) (act.X.length : Int) = some (b ++ prA h st se el.isNil) := by
 obtain ⟨hx, hk⟩ := hok
 obtain ⟨a1, a2, a3, a4, a5, a6, a7⟩ := ha
 rcases hk with ⟨kk, a, b', c, d', e, f⟩ | ⟨kk, a, b', c, d', e⟩ | ⟨kk, a, b', c, d', e⟩ | ⟨kk, a, b', c, d', e, f⟩ | ⟨kk, a, b', c, d', e, f⟩ | ⟨kk, a, b', c, d'⟩ | ⟨kk, a, b', c, d', e, f⟩
 · -- kind 1
   cases hxx : h.x with
   | none => exact absurd hxx c
   | some t =>
    obtain ⟨e0, hX, he0⟩ : ∃ e0, act.X = [e0] ∧ Is t e0 := by rw [hxx] at a4; exact a4
    have hp : prA h st se el.isNil = h.name ++ s_sp_eq_sp ++ pr t 1 ++ s_semi := by unfold prA; rw [kk, hxx]; rfl
    rw [hp] at hl ⊢
    rw [show prX (some t) = pr t 1 from rfl]
    simp only [List.length_append, List.length_cons, List.length_nil] at hl
    rw [a1, kk, act_one_l0.eq_2, if_neg (by omega), if_pos (by rw [hX]; simp), if_pos (by simp only [List.length_append, List.length_cons, List.length_nil]; omega), if_pos (by simp only [List.length_append, List.length_cons, List.length_nil]; omega), a2, a3, if_pos rfl, if_pos (by simp only [List.length_append, List.length_cons, List.length_nil]; omega), if_pos (by simp only [List.length_append, List.length_cons, List.length_nil]; omega), if_pos (by simp only [List.length_append, List.length_cons, List.length_nil]; omega), str_eq (by simp only [List.length_append, List.length_cons, List.length_nil]; omega), bind_some_eq]
    all_goals first | rfl | simp
 · -- kind 2
   cases hxx : h.x with
   | none =>
    have hX : act.X = [] := by rw [hxx] at a4; exact a4
    have hp : prA h st se el.isNil = s_raise_x7823e ++ h.ev ++ [] ++ s_semi := by unfold prA; rw [kk, hxx]; rfl
    rw [hp] at hl ⊢
    rw [show prX none = [] from rfl]
    simp only [List.length_append, List.length_cons, List.length_nil] at hl
    rw [a1, kk, act_one_l0.eq_2, if_neg (by omega), if_neg (by rw [hX]; simp), a2, a3, if_neg (by decide), if_pos rfl, if_pos (by simp only [List.length_append, List.length_cons, List.length_nil]; omega), if_pos (by simp only [List.length_append, List.length_cons, List.length_nil]; omega), if_pos (by simp only [List.length_append, List.length_cons, List.length_nil]; omega), str_eq (by simp only [List.length_append, List.length_cons, List.length_nil]; omega), bind_some_eq]
    all_goals first | rfl | simp
   | some t =>
    obtain ⟨e0, hX, he0⟩ : ∃ e0, act.X = [e0] ∧ Is t e0 := by rw [hxx] at a4; exact a4
    have hp : prA h st se el.isNil = s_raise_x7823e ++ h.ev ++ (s_lp ++ pr t 1 ++ s_rp) ++ s_semi := by unfold prA; rw [kk, hxx]; rfl
    rw [hp] at hl ⊢
    rw [show prX (some t) = pr t 1 from rfl]
    simp only [List.length_append, List.length_cons, List.length_nil] at hl
    rw [a1, kk, act_one_l0.eq_2, if_neg (by omega), if_pos (by rw [hX]; simp), if_pos (by simp only [List.length_append, List.length_cons, List.length_nil]; omega), if_pos (by simp only [List.length_append, List.length_cons, List.length_nil]; omega), a2, a3, if_neg (by decide), if_pos rfl, if_pos (by simp only [List.length_append, List.length_cons, List.length_nil]; omega), if_pos (by simp only [List.length_append, List.length_cons, List.length_nil]; omega), if_pos (by simp only [List.length_append, List.length_cons, List.length_nil]; omega), str_eq (by simp only [List.length_append, List.length_cons, List.length_nil]; omega), bind_some_eq]
    all_goals first | rfl | simp
 · -- kind 3
   cases hxx : h.x with
   | none =>
    have hX : act.X = [] := by rw [hxx] at a4; exact a4
    have hp : prA h st se el.isNil = s_send_xe0272 ++ h.name ++ s_sp ++ h.ev ++ [] ++ s_semi := by unfold prA; rw [kk, hxx]; rfl
    rw [hp] at hl ⊢
    rw [show prX none = [] from rfl]
    simp only [List.length_append, List.length_cons, List.length_nil] at hl
    rw [a1, kk, act_one_l0.eq_2, if_neg (by omega), if_neg (by rw [hX]; simp), a2, a3, if_neg (by decide), if_neg (by decide), if_pos rfl, if_pos (by simp only [List.length_append, List.length_cons, List.length_nil]; omega), if_pos (by simp only [List.length_append, List.length_cons, List.length_nil]; omega), if_pos (by simp only [List.length_append, List.length_cons, List.length_nil]; omega), if_pos (by simp only [List.length_append, List.length_cons, List.length_nil]; omega), if_pos (by simp only [List.length_append, List.length_cons, List.length_nil]; omega), str_eq (by simp only [List.length_append, List.length_cons, List.length_nil]; omega), bind_some_eq]
    all_goals first | rfl | simp
   | some t =>
    obtain ⟨e0, hX, he0⟩ : ∃ e0, act.X = [e0] ∧ Is t e0 := by rw [hxx] at a4; exact a4
    have hp : prA h st se el.isNil = s_send_xe0272 ++ h.name ++ s_sp ++ h.ev ++ (s_lp ++ pr t 1 ++ s_rp) ++ s_semi := by unfold prA; rw [kk, hxx]; rfl
    rw [hp] at hl ⊢
    rw [show prX (some t) = pr t 1 from rfl]
    simp only [List.length_append, List.length_cons, List.length_nil] at hl
    rw [a1, kk, act_one_l0.eq_2, if_neg (by omega), if_pos (by rw [hX]; simp), if_pos (by simp only [List.length_append, List.length_cons, List.length_nil]; omega), if_pos (by simp only [List.length_append, List.length_cons, List.length_nil]; omega), a2, a3, if_neg (by decide), if_neg (by decide), if_pos rfl, if_pos (by simp only [List.length_append, List.length_cons, List.length_nil]; omega), if_pos (by simp only [List.length_append, List.length_cons, List.length_nil]; omega), if_pos (by simp only [List.length_append, List.length_cons, List.length_nil]; omega), if_pos (by simp only [List.length_append, List.length_cons, List.length_nil]; omega), if_pos (by simp only [List.length_append, List.length_cons, List.length_nil]; omega), str_eq (by simp only [List.length_append, List.length_cons, List.length_nil]; omega), bind_some_eq]
    all_goals first | rfl | simp
 · -- kind 4
   cases hxx : h.x with
   | none => exact absurd hxx c
   | some t =>
    obtain ⟨e0, hX, he0⟩ : ∃ e0, act.X = [e0] ∧ Is t e0 := by rw [hxx] at a4; exact a4
    have hp : prA h st se el.isNil = s_arm_x6c666 ++ h.name ++ (s_lp ++ pr t 1 ++ s_rp) ++ s_semi := by unfold prA; rw [kk, hxx]; rfl
    rw [hp] at hl ⊢
    rw [show prX (some t) = pr t 1 from rfl]
    simp only [List.length_append, List.length_cons, List.length_nil] at hl
    rw [a1, kk, act_one_l0.eq_2, if_neg (by omega), if_pos (by rw [hX]; simp), if_pos (by simp only [List.length_append, List.length_cons, List.length_nil]; omega), if_pos (by simp only [List.length_append, List.length_cons, List.length_nil]; omega), a2, a3, if_neg (by decide), if_neg (by decide), if_neg (by decide), if_pos rfl, if_pos (by simp only [List.length_append, List.length_cons, List.length_nil]; omega), if_pos (by simp only [List.length_append, List.length_cons, List.length_nil]; omega), if_pos (by simp only [List.length_append, List.length_cons, List.length_nil]; omega), str_eq (by simp only [List.length_append, List.length_cons, List.length_nil]; omega), bind_some_eq]
    all_goals first | rfl | simp
 · -- kind 5
   cases hxx : h.x with
   | none =>
    have hX : act.X = [] := by rw [hxx] at a4; exact a4
    have hp : prA h st se el.isNil = s_cancel_x1c990 ++ h.name ++ s_semi := by unfold prA; rw [kk, hxx]; rfl
    rw [hp] at hl ⊢
    rw [show prX none = [] from rfl]
    simp only [List.length_append, List.length_cons, List.length_nil] at hl
    rw [a1, kk, act_one_l0.eq_2, if_neg (by omega), if_neg (by rw [hX]; simp), a2, a3, if_neg (by decide), if_neg (by decide), if_neg (by decide), if_neg (by decide), if_pos rfl, if_pos (by simp only [List.length_append, List.length_cons, List.length_nil]; omega), if_pos (by simp only [List.length_append, List.length_cons, List.length_nil]; omega), str_eq (by simp only [List.length_append, List.length_cons, List.length_nil]; omega), bind_some_eq]
    all_goals first | rfl | simp
   | some t => rw [hxx] at c; cases c
 · -- kind 6
   cases hxx : h.x with
   | none => exact absurd hxx c
   | some t =>
    obtain ⟨e0, hX, he0⟩ : ∃ e0, act.X = [e0] ∧ Is t e0 := by rw [hxx] at a4; exact a4
    have hp : prA h st se el.isNil = s_if_xec554 ++ (s_lp ++ pr t 1 ++ s_rp) ++ s_sp ++ st ++ (bif el.isNil then [] else s_else_xf7d30 ++ se) := by unfold prA; rw [kk, hxx]; rfl
    rw [hp] at hl ⊢
    rw [show prX (some t) = pr t 1 from rfl]
    simp only [List.length_append, List.length_cons, List.length_nil] at hl
    rw [a1, kk, act_one_l0.eq_2, if_neg (by omega), if_pos (by rw [hX]; simp), if_pos (by simp only [List.length_append, List.length_cons, List.length_nil]; omega), if_pos (by simp only [List.length_append, List.length_cons, List.length_nil]; omega), a2, a3, if_neg (by decide), if_neg (by decide), if_neg (by decide), if_neg (by decide), if_neg (by decide), if_pos rfl, if_pos (by simp only [List.length_append, List.length_cons, List.length_nil]; omega), if_pos (by simp only [List.length_append, List.length_cons, List.length_nil]; omega), str_eq (by simp only [List.length_append, List.length_cons, List.length_nil]; omega), bind_some_eq]
    dsimp only
    rw [ht _ (by simp only [List.length_append, List.length_cons, List.length_nil]; omega), bind_some_eq]
    cases hn : el.isNil with
    | true => rw [if_neg (by rw [isNil_len a7, hn]; simp)]; simp
    | false =>
     rw [hn, cond_false] at hl
     simp only [List.length_append, List.length_cons, List.length_nil] at hl
     rw [if_pos ((isNil_len a7).2 hn), str_eq (by simp only [List.length_append, List.length_cons, List.length_nil]; omega), bind_some_eq]
     dsimp only
     rw [he _ (by simp only [List.length_append, List.length_cons, List.length_nil]; omega), bind_some_eq]
     simp
 · -- kind 7
   cases hxx : h.x with
   | none =>
    have hX : act.X = [] := by rw [hxx] at a4; exact a4
    have hp : prA h st se el.isNil = s_loop_xf5f27 ++ Lib.itoa h.n ++ s_sp ++ st := by unfold prA; rw [kk, hxx]; rfl
    rw [hp] at hl ⊢
    rw [show prX none = [] from rfl]
    simp only [List.length_append, List.length_cons, List.length_nil] at hl
    rw [a1, kk, act_one_l0.eq_2, if_neg (by omega), if_neg (by rw [hX]; simp), a2, a3, if_neg (by decide), if_neg (by decide), if_neg (by decide), if_neg (by decide), if_neg (by decide), if_neg (by decide), if_pos rfl, a5, show p_Itoa h.n = some (Lib.itoa h.n) from by unfold p_Itoa; rw [if_pos ⟨by omega, e⟩], bind_some_eq, if_pos (by simp only [List.length_append, List.length_cons, List.length_nil]; omega), if_pos (by simp only [List.length_append, List.length_cons, List.length_nil]; omega), str_eq (by simp only [List.length_append, List.length_cons, List.length_nil]; omega), bind_some_eq]
    dsimp only
    rw [ht _ (by simp only [List.length_append, List.length_cons, List.length_nil]; omega), bind_some_eq]
    simp
   | some t => rw [hxx] at c; cases c
theorem one_eq {h : H} {th el : B} {act : api_Act} (hok : h.ok th el) (ha : IsA h th el act) {self : List UInt8 → List api_Act → Int → Option (List UInt8)} {d : Nat} {st se : List UInt8} (ht : Wr self act.Then d st) (he : Wr self act.Else d se) {b : List UInt8}
 (hl : (b ++ prA h st se el.isNil).length ≤ 140737488355328) (hlx : (prX h.x).length ≤ 140737488355328) : act_one self b act (d : Int) = some (b ++ prA h st se el.isNil) := lim_eq 2 fun k hk => by
 obtain ⟨k, rfl⟩ : ∃ j, k = j + 2 := ⟨k - 2, by omega⟩
 show act_one_l0 self (k + 2) b (d : Int) act.Kind act.Name act.Event act.X act.N act.Then act.Else act.At [] act.X (act.X.length : Int) 0 = _
 have key := one_tail hok ha ht he hl
 have hX := ha.2.2.2.1
 cases hxx : h.x with
 | none =>
  rw [hxx] at hX
  have hX : act.X = [] := hX
  have := key (k + 1)
  rw [hxx, hX] at this
  rw [hX]
  exact this
 | some t =>
  rw [hxx] at hX hlx
  obtain ⟨e, hX, hi⟩ := hX
  have hto : t.ok := by have := hok.1; rw [hxx] at this; exact this.1
  have := key k
  rw [hxx, hX] at this
  rw [hX, act_one_l0.eq_2, if_pos (by simp), if_pos (by decide), if_pos (by simp), show [e].getD (0 : Int).toNat api_Expr.z = e from rfl, eta, print_eq hi hto hlx, bind_some_eq, show w64 ((0 : Int) + 1) = 1 from by rw [w64_in (by decide) (by decide)]; rfl]
  exact this
theorem prX_le (h : H) (st se : List UInt8) (n : Bool) (th el : B) (hok : h.ok th el) : (prX h.x).length ≤ (prA h st se n).length := by
 obtain ⟨hx, hk⟩ := hok
 rcases hk with ⟨k, a, b, c, d, e, f⟩ | ⟨k, a, b, c, d, e⟩ | ⟨k, a, b, c, d, e⟩ | ⟨k, a, b, c, d, e, f⟩ | ⟨k, a, b, c, d, e, f⟩ | ⟨k, a, b, c, d⟩ | ⟨k, a, b, c, d, e, f⟩
 all_goals
  unfold prA; rw [k]
  cases hxx : h.x <;> first | (rw [hxx] at c; cases c; done) | (simp [prX, wX] <;> omega)
theorem aeta (a : api_Act) : api_Act.mk a.Kind a.Name a.Event a.X a.N a.Then a.Else a.At = a := by cases a; rfl
theorem rep_eq (n : Nat) (h : n ≤ 1000000) : p_Repeat s_sp_sp (n : Int) = some (rep n) := by
 unfold p_Repeat
 rw [if_pos ⟨by omega, by omega, by rw [Int.toNat_natCast]; show 2 * n ≤ _; omega⟩, Int.toNat_natCast]; rfl
def B.sz : B → Nat
 | .nil => 1
 | .cons _ th el rest => th.sz + el.sz + rest.sz + 1
theorem IsB_len : ∀ (b : B) (l : List api_Act), IsB b l → l.length + 1 ≤ b.sz
 | .nil, l, h => by rw [show l = [] from h]; exact Nat.le_refl _
 | .cons _ _ _ rest, l, ⟨a, l', h, _, _, _, _, _, _, _, hr⟩ => by
  have := IsB_len rest l' hr
  subst h
  simp only [B.sz, List.length_cons]; omega
theorem blkP_run : ∀ (b : B) (l : List api_Act) (d : Nat), IsB b l → b.ok → d + b.sz ≤ 100000 →
 (∀ k, b.sz + 3 ≤ k → Wr (act_block_f k) l d (prB b d)) ∧
 (∀ (pre : List api_Act) (s : List UInt8) (k k' : Nat), b.sz + 2 ≤ k → b.sz + 1 ≤ k' → pre.length ≤ 1000000000 → (pre ++ l).length ≤ 1000000000 → (s ++ prI b (d + 1) ++ rep d ++ s_rb).length ≤ 140737488355328 →
  act_block_l0 (act_block_f k) k' s (d : Int) (pre ++ l) ((pre ++ l).length : Int) (pre.length : Int) = some (s ++ prI b (d + 1) ++ rep d ++ s_rb)) := by
 intro b
 induction b with
 | nil =>
  intro l d hl _ hd
  have hl : l = [] := hl
  subst hl
  simp only [B.sz] at hd
  refine ⟨fun k hk b hb => ?_, fun pre s k k' hk hk' hp1 hp2 hlen => ?_⟩
  · obtain ⟨k, rfl⟩ : ∃ j, k = j + 1 := ⟨k - 1, by omega⟩
    show act_block_b (act_block_f k) k b [] _ = _
    unfold act_block_b
    have hb : (b ++ s_lb_rb).length ≤ 140737488355328 := hb
    rw [if_pos (by rfl), str_eq (by rw [List.length_append] at hb; exact hb), bind_some_eq]
    rfl
  · obtain ⟨k', rfl⟩ : ∃ j, k' = j + 1 := ⟨k' - 1, by omega⟩
    simp only [prI, List.append_nil, List.length_append, List.length_cons, List.length_nil] at hlen ⊢
    rw [act_block_l0.eq_2, if_neg (by omega), rep_eq d (by omega), bind_some_eq, if_pos (by simp only [List.length_cons, List.length_nil]; omega), str_eq (by simp only [List.length_append, List.length_cons, List.length_nil]; omega), bind_some_eq, ← List.append_assoc]
 | cons h th el rest ih1 ih2 ih3 =>
  rintro l d ⟨a, l', rfl, a1, a2, a3, a4, a5, a6, a7, a8⟩ ⟨hok, okt, oke, okr⟩ hd
  simp only [B.sz] at hd
  have hloop : ∀ (pre : List api_Act) (s : List UInt8) (k k' : Nat), (B.cons h th el rest).sz + 2 ≤ k → (B.cons h th el rest).sz + 1 ≤ k' → pre.length ≤ 1000000000 → (pre ++ a :: l').length ≤ 1000000000 → (s ++ prI (B.cons h th el rest) (d + 1) ++ rep d ++ s_rb).length ≤ 140737488355328 →
   act_block_l0 (act_block_f k) k' s (d : Int) (pre ++ a :: l') ((pre ++ a :: l').length : Int) (pre.length : Int) = some (s ++ prI (B.cons h th el rest) (d + 1) ++ rep d ++ s_rb) := by
   intro pre s k k' hk hk' hp1 hp2 hlen
   simp only [B.sz] at hk hk'
   obtain ⟨k', rfl⟩ : ∃ j, k' = j + 1 := ⟨k' - 1, by omega⟩
   simp only [prI] at hlen ⊢
   have hpos : pre.length < (pre ++ a :: l').length := by simp
   have hget : (pre ++ a :: l').getD (pre.length : Int).toNat api_Act.z = a := by rw [Int.toNat_natCast, List.getD_eq_getElem?_getD, List.getElem?_append_right (Nat.le_refl _), Nat.sub_self]; rfl
   have hw : w64 ((d : Int) + 1) = ((d + 1 : Nat) : Int) := by rw [w64_in (by omega) (by omega)]; omega
   have hwn : w64 ((pre.length : Int) + 1) = ((pre ++ [a]).length : Int) := by rw [w64_in (by omega) (by omega)]; simp
   rw [act_block_l0.eq_2, if_pos (by omega), if_pos (by omega), if_pos (by omega), hget, aeta, hw, rep_eq (d + 1) (by omega), bind_some_eq]
   have hA := prX_le h (blk th (prI th (d + 1 + 1)) (d + 1)) (blk el (prI el (d + 1 + 1)) (d + 1)) el.isNil th el hok
   simp only [List.length_append, List.length_cons, List.length_nil] at hlen
   rw [str_eq (by omega), bind_some_eq]
   dsimp only
   rw [one_eq (d := d + 1) hok ⟨a1, a2, a3, a4, a5, a6, a7⟩ ((ih1 a.Then (d + 1) a6 okt (by omega)).1 k (by omega)) ((ih2 a.Else (d + 1) a7 oke (by omega)).1 k (by omega)) (by simp only [List.length_append, List.length_cons, List.length_nil, prB]; omega) (by omega), bind_some_eq]
   rw [byte_eq (by simp only [List.length_append, List.length_cons, List.length_nil, prB]; omega) (by decide) (by decide), bind_some_eq]
   dsimp only
   have := (ih3 l' d a8 okr (by omega)).2 (pre ++ [a]) (s ++ rep (d + 1) ++ prA h (prB th (d + 1)) (prB el (d + 1)) el.isNil ++ [10]) k k' (by omega) (by omega) (by rw [List.length_append] at hp2 ⊢; simp at hp2 ⊢; omega) (by rw [List.append_assoc]; exact hp2) (by simp only [List.length_append, List.length_cons, List.length_nil, prB]; omega)
   rw [hwn, show (pre ++ a :: l') = (pre ++ [a]) ++ l' from by simp]
   refine this.trans ?_
   simp [prB]
  refine ⟨fun k hk b hb => ?_, hloop⟩
  obtain ⟨k, rfl⟩ : ∃ j, k = j + 1 := ⟨k - 1, by omega⟩
  show act_block_b (act_block_f k) k b (a :: l') _ = _
  unfold act_block_b
  have e1 : prB (B.cons h th el rest) d = s_lb_nl ++ prI (B.cons h th el rest) (d + 1) ++ rep d ++ s_rb := rfl
  rw [e1] at hb ⊢
  simp only [List.length_append, List.length_cons, List.length_nil] at hb
  rw [if_neg (by simp; omega), str_eq (by simp only [List.length_cons, List.length_nil]; omega), bind_some_eq]
  dsimp only
  have hlen := IsB_len rest l' a8
  have := hloop [] (b ++ s_lb_nl) k k (by simp only [B.sz] at hk ⊢; omega) (by simp only [B.sz] at hk ⊢; omega) (by simp) (by simp; omega) (by simp only [List.length_append, List.length_cons, List.length_nil]; omega)
  refine this.trans ?_
  simp
theorem aprint_eq {b : B} {l : List api_Act} (h : IsB b l) (hok : b.ok) (d : Nat) (hd : d + b.sz ≤ 100000) (hl : (prB b d).length ≤ 140737488355328) (v : Int) (hv : max v 0 = (d : Int)) : act_Print l v = some (prB b d) := by
 unfold act_Print
 rw [hv, show act_block [] l (d : Int) = some (prB b d) from lim_eq (b.sz + 3) fun k hk => by
  have := (blkP_run b l d h hok hd).1 k hk [] (by rw [List.nil_append]; exact hl)
  rw [List.nil_append] at this
  exact this, bind_some_eq]
 rfl
end Go.Sy.Ex
namespace Go.Sy.Ex
open Go.Sy
theorem idx_no {X : List api_Expr} {x : Option T} (hX : IsX x X) (hx : xok x) : slices_ContainsFunc_api_Expr_api_Expr X (fun y => act_right_S1 y) = some false := by
 have h : slices_IndexFunc_api_Expr_api_Expr X (fun y => act_right_S1 y) = some (-1) := lim_eq 2 fun k hk => by
  obtain ⟨k, rfl⟩ : ∃ j, k = j + 2 := ⟨k - 2, by omega⟩
  show slices_IndexFunc_api_Expr_api_Expr_l0 (k + 2) X (fun y => act_right_S1 y) (X.length : Int) 0 = _
  cases x with
  | none => rw [show X = [] from hX, slices_IndexFunc_api_Expr_api_Expr_l0.eq_2, if_neg (by simp)]
  | some t =>
   obtain ⟨e, rfl, hi⟩ := hX
   rw [slices_IndexFunc_api_Expr_api_Expr_l0.eq_2, if_pos (by simp), if_pos (by decide), if_pos (by simp), show [e].getD (0 : Int).toNat api_Expr.z = e from rfl]
   rw [show act_right_S1 e = some false from by
    unfold act_right_S1
    rw [eta, Right_tree hi hx.1 hx.2, bind_some_eq]; rfl, bind_some_eq, cond_false, show w64 ((0 : Int) + 1) = 1 from by rw [w64_in (by decide) (by decide)]; rfl]
   rw [slices_IndexFunc_api_Expr_api_Expr_l0.eq_2, if_neg (by simp)]
 unfold slices_ContainsFunc_api_Expr_api_Expr
 rw [h, bind_some_eq]
 rfl
theorem name_len {s : List UInt8} (h : nameP s = true) : s.length < 1000000000000 := by have := (name_split h).2.1; omega
theorem shape_true {h : H} {th el : B} {a : api_Act} (hok : h.ok th el) (ha : IsA h th el a) : act_shape a = some true := lim_eq 3 fun k hk => by
 obtain ⟨k, rfl⟩ : ∃ j, k = j + 3 := ⟨k - 3, by omega⟩
 show act_shape_f (k + 3) a = _
 obtain ⟨hx, hk⟩ := hok
 obtain ⟨a1, a2, a3, a4, a5, a6, a7⟩ := ha
 have xs : h.x ≠ none → a.X.length = 1 := fun q => by
  cases hxx : h.x with
  | none => exact absurd hxx q
  | some t => rw [hxx] at a4; obtain ⟨e, he, _⟩ := a4; rw [he]; rfl
 have xn : a.X.length ≤ 1 := by
  cases hxx : h.x with
  | none => rw [hxx] at a4; rw [show a.X = [] from a4]; decide
  | some t => rw [hxx] at a4; obtain ⟨e, he, _⟩ := a4; rw [he]; simp
 have x0 : h.x = none → a.X.length = 0 := fun q => by rw [q] at a4; rw [show a.X = [] from a4]; rfl
 have t0 : th = .nil → a.Then.length = 0 := fun q => by rw [q] at a6; rw [show a.Then = [] from a6]; rfl
 have e0 : el = .nil → a.Else.length = 0 := fun q => by rw [q] at a7; rw [show a.Else = [] from a7]; rfl
 have c2 : ∀ blocks : Int, (blocks ≤ 0 → a.Then.length = 0) → (blocks ≤ 1 → a.Else.length = 0) → act_shape_c2 (k + 1) a.Kind a.Name a.Event a.X a.N a.Then a.Else a.At blocks = some true := fun blocks q1 q2 => by
  rw [act_shape_c2.eq_2]
  by_cases b0 : 0 < blocks
  · rw [if_pos b0]
    by_cases b1 : 1 < blocks
    · rw [if_pos b1]
    · rw [if_neg b1, decide_eq_true (by have := q2 (by omega); omega)]
  · rw [if_neg b0, if_pos (by have := q1 (by omega); omega), if_neg (by omega), decide_eq_true (by have := q2 (by omega); omega)]
 have c1 : ∀ least most blocks : Int, least ≤ (a.X.length : Int) → (a.X.length : Int) ≤ most → (a.N ≠ 0 → a.Kind = 7 ∧ 0 ≤ a.N) → (blocks ≤ 0 → a.Then.length = 0) → (blocks ≤ 1 → a.Else.length = 0) → act_shape_c1 (k + 2) a.Kind a.Name a.Event a.X a.N a.Then a.Else a.At least most blocks = some true := fun least most blocks p1 p2 p3 q1 q2 => by
  rw [act_shape_c1.eq_2, if_neg (by omega), if_neg (by omega)]
  by_cases hN : a.N = 0
  · rw [if_neg (by simp [hN])]; exact c2 blocks q1 q2
  · rw [if_pos hN, if_neg (by simp [(p3 hN).1]), if_neg (by have := (p3 hN).2; omega)]; exact c2 blocks q1 q2
 have c0 : ∀ (name event : Bool) (least most blocks : Int), (name = true → nameP a.Name = true) → (name = false → a.Name = []) → (event = true → nameP a.Event = true) → (event = false → a.Event = []) → least ≤ (a.X.length : Int) → (a.X.length : Int) ≤ most → (a.N ≠ 0 → a.Kind = 7 ∧ 0 ≤ a.N) → (blocks ≤ 0 → a.Then.length = 0) → (blocks ≤ 1 → a.Else.length = 0) → act_shape_c0 (k + 3) a.Kind a.Name a.Event a.X a.N a.Then a.Else a.At least most name event blocks = some true := fun name event least most blocks n1 n2 n3 n4 p1 p2 p3 q1 q2 => by
  have hc := c1 least most blocks p1 p2 p3 q1 q2
  have ev : (if event ≠ (decide (a.Event ≠ [])) then
   some false else
   bif event then
   (lex_Name a.Event).bind fun r2 =>
   bif !r2 then
   some false else
   act_shape_c1 (k + 2) a.Kind a.Name a.Event a.X a.N a.Then a.Else a.At least most blocks else
   act_shape_c1 (k + 2) a.Kind a.Name a.Event a.X a.N a.Then a.Else a.At least most blocks) = some true := by
   cases event with
   | true =>
    have := n3 rfl
    rw [if_neg (by simp [(name_split this).1]), cond_true, lname_eq _ (name_len this), bind_some_eq, this, Bool.not_true, cond_false]; exact hc
   | false => rw [if_neg (by simp [n4 rfl]), cond_false]; exact hc
  rw [act_shape_c0.eq_2]
  cases name with
  | true =>
   have := n1 rfl
   rw [if_neg (by simp [(name_split this).1]), cond_true, lname_eq _ (name_len this), bind_some_eq, this, Bool.not_true, cond_false]; exact ev
  | false => rw [if_neg (by simp [n2 rfl]), cond_false]; exact ev
 unfold act_shape_f
 rcases hk with ⟨kk, a', b', c, d', e, f⟩ | ⟨kk, a', b', c, d', e⟩ | ⟨kk, a', b', c, d', e⟩ | ⟨kk, a', b', c, d', e, f⟩ | ⟨kk, a', b', c, d', e, f⟩ | ⟨kk, a', b', c, d'⟩ | ⟨kk, a', b', c, d', e, f⟩
 · have hK : a.Kind = 1 := a1.trans kk
   have := c0 true false 1 1 0 (fun _ => by rw [a2]; exact a') (fun q => by cases q) (fun q => by cases q) (fun _ => a3.trans b') (by have := xs c; omega) (by omega) (fun q => absurd (a5.trans d') q) (fun _ => t0 e) (fun _ => e0 f)
   rw [if_pos hK, if_pos hK]; exact this
 · have hK : a.Kind = 2 := a1.trans kk
   have := c0 false true 0 1 0 (fun q => by cases q) (fun _ => a2.trans a') (fun _ => by rw [a3]; exact b') (fun q => by cases q) (by omega) (by omega) (fun q => absurd (a5.trans c) q) (fun _ => t0 d') (fun _ => e0 e)
   rw [if_neg (by omega), if_neg (by omega), if_pos hK]; exact this
 · have hK : a.Kind = 3 := a1.trans kk
   have := c0 true true 0 1 0 (fun _ => by rw [a2]; exact a') (fun q => by cases q) (fun _ => by rw [a3]; exact b') (fun q => by cases q) (by omega) (by omega) (fun q => absurd (a5.trans c) q) (fun _ => t0 d') (fun _ => e0 e)
   rw [if_neg (by omega), if_neg (by omega), if_neg (by omega), if_pos hK]; exact this
 · have hK : a.Kind = 4 := a1.trans kk
   have := c0 true false 1 1 0 (fun _ => by rw [a2]; exact a') (fun q => by cases q) (fun q => by cases q) (fun _ => a3.trans b') (by have := xs c; omega) (by omega) (fun q => absurd (a5.trans d') q) (fun _ => t0 e) (fun _ => e0 f)
   rw [if_neg (by omega), if_pos hK]; exact this
 · have hK : a.Kind = 5 := a1.trans kk
   have := c0 true false 0 0 0 (fun _ => by rw [a2]; exact a') (fun q => by cases q) (fun q => by cases q) (fun _ => a3.trans b') (by omega) (by have := x0 c; omega) (fun q => absurd (a5.trans d') q) (fun _ => t0 e) (fun _ => e0 f)
   rw [if_neg (by omega), if_neg (by omega), if_neg (by omega), if_neg (by omega), if_pos hK]; exact this
 · have hK : a.Kind = 6 := a1.trans kk
   have := c0 false false 1 1 2 (fun q => by cases q) (fun _ => a2.trans a') (fun q => by cases q) (fun _ => a3.trans b') (by have := xs c; omega) (by omega) (fun q => absurd (a5.trans d') q) (fun q => by omega) (fun q => by omega)
   rw [if_neg (by omega), if_neg (by omega), if_neg (by omega), if_neg (by omega), if_neg (by omega), if_pos hK]; exact this
 · have hK : a.Kind = 7 := a1.trans kk
   have := c0 false false 0 0 1 (fun q => by cases q) (fun _ => a2.trans a') (fun q => by cases q) (fun _ => a3.trans b') (by omega) (by have := x0 c; omega) (fun _ => ⟨hK, by omega⟩) (fun q => by omega) (fun _ => e0 f)
   rw [if_neg (by omega), if_neg (by omega), if_neg (by omega), if_neg (by omega), if_neg (by omega), if_neg (by omega), if_pos hK]; exact this
theorem aright_run : ∀ (b : B) (o : Nat), b.sz ≤ 1000000 → b.ok → 1 ≤ o → o + b.dp ≤ 5 → ∀ (l : List api_Act), IsB b l → (∀ k, b.sz + 2 ≤ k → act_right_f k l (o : Int) = some true) ∧
 ∀ (pre : List api_Act) (k k' : Nat), b.sz + 1 ≤ k → b.sz + 1 ≤ k' → (pre ++ l).length ≤ 1000000000 → act_right_l0 (act_right_f k) k' (o : Int) (pre ++ l) ((pre ++ l).length : Int) (pre.length : Int) = some true := by
 intro b
 have wrap : ∀ (b : B) (o : Nat) (l : List api_Act), o + b.dp ≤ 5 → (pre0 : ∀ (k k' : Nat), b.sz + 1 ≤ k → b.sz + 1 ≤ k' → act_right_l0 (act_right_f k) k' (o : Int) l (l.length : Int) 0 = some true) → ∀ k, b.sz + 2 ≤ k → act_right_f k l (o : Int) = some true := fun b o l hd h k hk => by
  have := b.dp_pos
  obtain ⟨k, rfl⟩ : ∃ j, k = j + 1 := ⟨k - 1, by omega⟩
  show act_right_b (act_right_f k) k l _ = _
  unfold act_right_b
  rw [if_neg (by omega)]
  exact h k k (by omega) (by omega)
 induction b with
 | nil =>
  intro o _ _ ho hd l hl
  have hl : l = [] := hl
  subst hl
  have hloop : ∀ (pre : List api_Act) (k k' : Nat), B.nil.sz + 1 ≤ k → B.nil.sz + 1 ≤ k' → (pre ++ []).length ≤ 1000000000 → act_right_l0 (act_right_f k) k' (o : Int) (pre ++ []) ((pre ++ []).length : Int) (pre.length : Int) = some true := fun pre k k' hk hk' _ => by
   obtain ⟨k', rfl⟩ : ∃ j, k' = j + 1 := ⟨k' - 1, by omega⟩
   rw [act_right_l0.eq_2, if_neg (by simp)]
  exact ⟨wrap .nil o [] hd fun k k' h1 h2 => hloop [] k k' h1 h2 (by simp), hloop⟩
 | cons h th el rest ih1 ih2 ih3 =>
  rintro o hsz ⟨hok, okt, oke, okr⟩ ho hd l ⟨a, l', rfl, ha1, ha2, ha3, ha4, ha5, ha6, ha7, ha8⟩
  have hd' := hd
  simp only [B.dp] at hd'
  have hsz' := hsz
  simp only [B.sz] at hsz'
  have hd1 : h.kind = 6 ∨ h.kind = 7 → o + 1 + th.dp ≤ 5 := fun q => by rw [if_pos q] at hd'; omega
  have hd2 : el.isNil = false → o + 1 + el.dp ≤ 5 := fun q => by rw [q, cond_false] at hd'; omega
  have hloop : ∀ (pre : List api_Act) (k k' : Nat), (B.cons h th el rest).sz + 1 ≤ k → (B.cons h th el rest).sz + 1 ≤ k' → (pre ++ a :: l').length ≤ 1000000000 → act_right_l0 (act_right_f k) k' (o : Int) (pre ++ a :: l') ((pre ++ a :: l').length : Int) (pre.length : Int) = some true := fun pre k k' hk hk' hlen => by
   simp only [B.sz] at hk hk'
   obtain ⟨k', rfl⟩ : ∃ j, k' = j + 1 := ⟨k' - 1, by omega⟩
   have hpos : pre.length < (pre ++ a :: l').length := by simp
   have hget : (pre ++ a :: l').getD (pre.length : Int).toNat api_Act.z = a := by rw [Int.toNat_natCast, List.getD_eq_getElem?_getD, List.getElem?_append_right (Nat.le_refl _), Nat.sub_self]; rfl
   have hw : w64 ((o : Int) + 1) = ((o + 1 : Nat) : Int) := by rw [w64_in (by omega) (by omega)]; omega
   have hwn : w64 ((pre.length : Int) + 1) = ((pre ++ [a]).length : Int) := by rw [w64_in (by omega) (by omega)]; simp
   have hnext : act_right_l0 (act_right_f k) k' (o : Int) (pre ++ a :: l') ((pre ++ a :: l').length : Int) ((pre ++ [a]).length : Int) = some true := by
    rw [show (pre ++ a :: l') = (pre ++ [a]) ++ l' from by simp]
    exact (ih3 o (by omega) okr ho (by omega) l' ha8).2 (pre ++ [a]) k k' (by omega) (by omega) (by rw [List.append_assoc]; exact hlen)
   have helse : (if 0 < (a.Else.length : Int) then
    (act_right_f k a.Else ((o + 1 : Nat) : Int)).bind fun r4 =>
    bif !r4 then
    some false else
    act_right_l0 (act_right_f k) k' (o : Int) (pre ++ a :: l') ((pre ++ a :: l').length : Int) ((pre ++ [a]).length : Int) else
    act_right_l0 (act_right_f k) k' (o : Int) (pre ++ a :: l') ((pre ++ a :: l').length : Int) ((pre ++ [a]).length : Int)) = some true := by
    cases hn : el.isNil with
    | true => rw [if_neg (by rw [isNil_len ha7, hn]; simp)]; exact hnext
    | false => rw [if_pos ((isNil_len ha7).2 hn), (ih2 (o + 1) (by omega) oke (by omega) (hd2 hn) a.Else ha7).1 k (by omega), bind_some_eq, Bool.not_true, cond_false]; exact hnext
   rw [act_right_l0.eq_2, if_pos (by omega), if_pos (by omega), if_pos (by omega), hget, aeta, shape_true hok ⟨ha1, ha2, ha3, ha4, ha5, ha6, ha7⟩, bind_some_eq, Bool.not_true, cond_false, idx_no ha4 hok.1, bind_some_eq, cond_false, hw, hwn]
   by_cases c6 : a.Kind = 6
   · rw [if_pos c6, (ih1 (o + 1) (by omega) okt (by omega) (hd1 (.inl (ha1.symm.trans c6))) a.Then ha6).1 k (by omega), bind_some_eq, Bool.not_true, cond_false]; exact helse
   · rw [if_neg c6]
     by_cases c7 : a.Kind = 7
     · rw [if_pos c7, (ih1 (o + 1) (by omega) okt (by omega) (hd1 (.inr (ha1.symm.trans c7))) a.Then ha6).1 k (by omega), bind_some_eq, Bool.not_true, cond_false]; exact helse
     · rw [if_neg c7]; exact helse
  refine ⟨wrap (.cons h th el rest) o (a :: l') hd fun k k' h1 h2 => hloop [] k k' h1 h2 ?_, hloop⟩
  have := IsB_len rest l' ha8
  simp
  omega
theorem aRight_true {b : B} {l : List api_Act} (h : IsB b l) (hok : b.ok) (hd : b.dp ≤ 4) (hsz : b.sz ≤ 1000000) : act_Right l = some true := by
 unfold act_Right
 rw [show act_right l 1 = some true from lim_eq (b.sz + 2) fun k hk => (aright_run b 1 hsz hok (Nat.le_refl _) (by omega) l h).1 k hk, bind_some_eq]
end Go.Sy.Ex
