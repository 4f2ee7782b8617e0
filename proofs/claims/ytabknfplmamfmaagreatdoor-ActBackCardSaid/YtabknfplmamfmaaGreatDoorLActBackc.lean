import Derived.Test.YtabknfplmamfmaaGreatDoorLActBackb
set_option linter.unusedVariables false
set_option linter.unusedSimpArgs false
namespace Go.Sy.Ex
open Go.Sy
def h2 (y : UInt8) : Bool := !decide (y = 61 ∨ y = 62 ∨ y = 38 ∨ y = 124)
def h1 (x : UInt8) : Bool := !decide (x = 45 ∨ x = 61 ∨ x = 33 ∨ x = 60 ∨ x = 62 ∨ x = 38 ∨ x = 124)
theorem pair_h2 (x y : UInt8) (h : h2 y = true) : [x, y] ∉ pairsP := by
 unfold h2 at h
 simp only [Bool.not_eq_true', decide_eq_false_iff_not, not_or] at h
 simp [pairsP, h]
theorem pair_h1 (x y : UInt8) (h : h1 x = true) : [x, y] ∉ pairsP := by
 unfold h1 at h
 simp only [Bool.not_eq_true', decide_eq_false_iff_not, not_or] at h
 simp [pairsP, h]
theorem sepB_r {a b : List UInt8} (h : ∀ y, b.head? = some y → nm y = false ∧ h2 y = true) : sepB a b = true := by
 unfold sepB
 split
 · rename_i x y hx hy
   obtain ⟨e1, e2⟩ := h y hy
   rw [e1, Bool.and_false, decide_eq_false (pair_h2 x y e2)]; rfl
 · rfl
theorem sepB_l {a b : List UInt8} (h : ∀ x, a.getLast? = some x → nm x = false ∧ h1 x = true) : sepB a b = true := by
 unfold sepB
 split
 · rename_i x y hx hy
   obtain ⟨e1, e2⟩ := h x hx
   rw [e1, Bool.false_and, decide_eq_false (pair_h1 x y e2)]; rfl
 · rfl
theorem sepB_m {a b : List UInt8} (h : ∀ x, a.getLast? = some x → nm x = false) (hb : ∀ y, b.head? = some y → h2 y = true) : sepB a b = true := by
 unfold sepB
 split
 · rename_i x y hx hy
   rw [h x hx, Bool.false_and, decide_eq_false (pair_h2 x y (hb y hy))]; rfl
 · rfl
theorem nm_h2 : ∀ y : UInt8, nm y = true → h2 y = true := fun y h => by
 unfold h2
 simp only [Bool.not_eq_true', decide_eq_false_iff_not, not_or]
 refine ⟨?_, ?_, ?_, ?_⟩ <;> (intro e; subst e; revert h; decide)
theorem itoa_hd {n : Int} (h : 0 ≤ n) : ∀ y, (Lib.itoa n).head? = some y → h2 y = true := fun y hy => nm_h2 y (by simp [nm, itoa_dg h y (List.mem_of_mem_head? hy)])
theorem name_hd {s : List UInt8} (h : nameP s = true) : ∀ y, s.head? = some y → h2 y = true := fun y hy => nm_h2 y ((name_split h).2.2.2.2 y (List.mem_of_mem_head? hy))
theorem head_app {a b : List UInt8} (h : a ≠ []) : (a ++ b).head? = a.head? := by cases a with
 | nil => exact absurd rfl h
 | cons x l => rfl
theorem par_hd {c : Prop} [Decidable c] {s : List UInt8} (h : s ≠ [] ∧ ∀ y, s.head? = some y → h2 y = true) : par c s ≠ [] ∧ ∀ y, (par c s).head? = some y → h2 y = true := by
 unfold par
 split
 · refine ⟨by simp, fun y hy => ?_⟩
   cases hy; decide
 · exact h
theorem pr_hd : ∀ (t : T) (a : Int), t.ok → pr t a ≠ [] ∧ ∀ y, (pr t a).head? = some y → h2 y = true
 | .num n, a, h => par_hd ⟨itoa_ne h.1, itoa_hd h.1⟩
 | .var s, a, h => par_hd ⟨(name_split h).1, name_hd h⟩
 | .arg, a, h => par_hd ⟨by simp, fun y hy => by cases hy; decide⟩
 | .isin s, a, h => par_hd ⟨by simp, fun y hy => by cases hy; decide⟩
 | .un k t, a, h => par_hd ⟨by simp, fun y hy => by
  rw [List.head?_cons] at hy
  cases hy
  split <;> decide⟩
 | .bin k x y, a, h => par_hd (by
  obtain ⟨h1, h2⟩ := pr_hd x (lft k) h.2.1
  exact ⟨by simp [h1], fun z hz => by rw [List.append_assoc, head_app h1] at hz; exact h2 z hz⟩)
theorem Lx.par {c : Prop} [Decidable c] {s : List UInt8} {K : List Tk} (h : Lx s K) : Lx (Ex.par c s) (parT c K) := by
 unfold Ex.par parT
 split
 · refine Lx.append (a := 40 :: s) (Lx.append (a := [40]) (b := s) (Ka := [(3, s_lp, 0)]) (lexF_ok 2 (by decide)) h (sepB_l fun x hx => by cases hx; decide)) (Kb := [(3, s_rp, 0)]) (lexF_ok 2 (by decide)) (sepB_r fun x hx => by cases hx; decide)
 · exact h
theorem Lx.txt {k : Int} (h : 7 ≤ k ∧ k ≤ 19) : Lx (s_sp ++ txt k ++ s_sp) [(3, Ex.txt k, 0)] := by
 have hk : k = 7 ∨ k = 8 ∨ k = 9 ∨ k = 10 ∨ k = 11 ∨ k = 12 ∨ k = 13 ∨ k = 14 ∨ k = 15 ∨ k = 16 ∨ k = 17 ∨ k = 18 ∨ k = 19 := by omega
 rcases hk with rfl | rfl | rfl | rfl | rfl | rfl | rfl | rfl | rfl | rfl | rfl | rfl | rfl <;> exact lexF_ok 3 (by decide)
theorem pr_lx : ∀ (t : T) (a : Int), t.ok → Lx (pr t a) (toks t a)
 | .num n, a, h => (Lx.num h.1 h.2).par
 | .var s, a, h => (Lx.name h).par
 | .arg, a, h => (lexF_ok 2 (by decide)).par
 | .isin s, a, h => Lx.par (Lx.append (a := s_in_xcc76e ++ s) (Lx.append (Ka := [(1, s_in, 0), (3, s_lp, 0)]) (lexF_ok 3 (by decide)) (Lx.name h) (sepB_l fun x hx => by cases hx; decide)) (Kb := [(3, s_rp, 0)]) (lexF_ok 2 (by decide)) (sepB_r fun x hx => by cases hx; decide))
 | .un k t, a, h => Lx.par (by
  refine Lx.append (a := [if k = 5 then 45 else 33]) (Ka := [(3, if k = 5 then s_minus else s_bang, 0)]) ?_ (pr_lx t 6 h.2) (sepB_m (fun x hx => ?_) (pr_hd t 6 h.2).2)
  · split <;> exact lexF_ok 2 (by decide)
  · rw [List.getLast?_singleton] at hx
    cases hx
    split <;> decide)
 | .bin k x y, a, h => Lx.par (by
  rw [show toks x (lft k) ++ (3, txt k, 0) :: toks y (rgt k) = (toks x (lft k) ++ [(3, txt k, 0)]) ++ toks y (rgt k) from by simp]
  refine Lx.append (Lx.append (pr_lx x (lft k) h.2.1) (Lx.txt h.1) (sepB_r fun z hz => by cases hz; decide)) (pr_lx y (rgt k) h.2.2) (sepB_l fun z hz => ?_)
  rw [show pr x (lft k) ++ (s_sp ++ txt k ++ s_sp) = (pr x (lft k) ++ (s_sp ++ txt k)) ++ [32] from by simp, List.getLast?_concat] at hz
  cases hz
  decide)
theorem seq_of : ∀ {l : List api_Token} {K R : List Tk} {i : Nat}, (l.drop i).map strip = K ++ R → Seq l i K
 | l, [], R, i, _ => trivial
 | l, k :: K, R, i, h => by
  have hi : i < l.length := by
   by_cases hc : i < l.length
   · exact hc
   · rw [List.drop_eq_nil_of_le (by omega)] at h; cases h
  rw [List.drop_eq_getElem_cons hi, List.map_cons, List.cons_append] at h
  injection h with h1 h2
  exact ⟨hi, by unfold tkn; rw [List.getD_eq_getElem?_getD, List.getElem?_eq_getElem hi]; exact h1, seq_of h2⟩
theorem read_lx {t : T} {K : List Tk} {n : Nat} (hp : P t K n 1) (hn : n ≤ 12) {s : List UInt8} (h : Lx s K) (hl : s.length ≤ 16384) :
 ∃ l e, allP s = (l, api_Fault.mk 0 0) ∧ Is t e ∧ l.length = K.length + 1 ∧ expr_Parse l 0 = some (e, (K.length : Int), ⟨0, 0⟩) := by
 obtain ⟨l, h1, h2⟩ := h.all hl
 have hlen : l.length = K.length + 1 := by
  have := congrArg List.length h2
  simpa using this
 have hll : l.length ≤ 100000 := by have := allP_len s; rw [h1] at this; dsimp only at this; omega
 have hs : Seq l 0 K := seq_of (R := [(4, [], 0)]) (by rw [List.drop_zero]; exact h2)
 have he : Seq l 0 (K ++ [(4, [], 0)]) := seq_of (R := []) (by rw [List.drop_zero, h2, List.append_nil])
 have hk := (Seq.append.1 he).2
 rw [Nat.zero_add] at hk
 obtain ⟨e, he, hp⟩ := parse_eq hp hn hll hs hlen (by rw [(kind_of hk.2.1).1]; decide)
 exact ⟨l, e, h1, he, hlen, hp⟩
end Go.Sy.Ex
namespace Go.Sy.Ex
open Go.Sy
def Fw : Nat → api_Expr → Prop
 | 0, _ => False
 | n + 1, e => e.Kids.length ≤ 2 ∧ e.Name.length ≤ 60 ∧ (-9223372036854775808 ≤ e.N ∧ e.N ≤ 9223372036854775807) ∧ ∀ x ∈ e.Kids, Fw n x
theorem kids_of {e : api_Expr} (h : e.Kids.length ≤ 2) : e.Kids = [] ∨ (∃ x, e.Kids = [x]) ∨ ∃ x y, e.Kids = [x, y] := by
 match hk : e.Kids with
 | [] => exact .inl rfl
 | [x] => exact .inr (.inl ⟨x, rfl⟩)
 | [x, y] => exact .inr (.inr ⟨x, y, rfl⟩)
 | _ :: _ :: _ :: _ => rw [hk] at h; simp at h
def shp (e : api_Expr) : Bool := decide ((1 ≤ e.Kind ∧ e.Kind ≤ 19) ∧ e.Kids.length = (plc e.Kind).length ∧ ((e.Kind = 2 ∨ e.Kind = 4) ↔ e.Name ≠ []) ∧ ((e.Kind = 2 ∨ e.Kind = 4) → nameP e.Name = true) ∧ (e.N = 0 ∨ (e.Kind = 1 ∧ 0 < e.N)))
theorem shape_eq {e : api_Expr} (hn : e.Name.length ≤ 60) : expr_shape e = some (shp e) := lim_eq 2 fun k hk => by
 obtain ⟨k, rfl⟩ : ∃ j, k = j + 2 := ⟨k - 2, by omega⟩
 have hc1 : expr_shape_c1 (k + 1) e.Kind e.N e.Name e.Kids e.At = some (decide (e.N = 0 ∨ (e.Kind = 1 ∧ 0 < e.N))) := by
  simp only [expr_shape_c1]
  by_cases h0 : e.N = 0
  · rw [if_pos h0, decide_eq_true (Or.inl h0)]
  · rw [if_neg h0]
    by_cases h1 : e.Kind = 1
    · rw [if_pos h1]; congr 1; rw [decide_eq_decide]; simp [h0, h1]
    · rw [if_neg h1]; congr 1; symm; rw [decide_eq_false_iff_not]; simp [h0, h1]
 have hc0 : ∀ named : Bool, expr_shape_c0 (k + 2) e.Kind e.N e.Name e.Kids e.At named = some (decide (((named = true) ↔ e.Name ≠ []) ∧ ((named = true) → nameP e.Name = true) ∧ (e.N = 0 ∨ (e.Kind = 1 ∧ 0 < e.N)))) := fun named => by
  simp only [expr_shape_c0]
  cases named with
  | false =>
   by_cases hN : e.Name = []
   · rw [if_neg (by simp [hN]), cond_false, hc1]; congr 1; rw [decide_eq_decide]; simp [hN]
   · rw [if_pos (by simp [hN])]; congr 1; symm; rw [decide_eq_false_iff_not]; simp [hN]
  | true =>
   by_cases hN : e.Name = []
   · rw [if_pos (by simp [hN])]; congr 1; symm; rw [decide_eq_false_iff_not]; simp [hN]
   · rw [if_neg (by simp [hN]), cond_true, lname_eq _ (by omega), bind_some_eq]
     cases hP : nameP e.Name with
     | false => simp
     | true =>
      rw [Bool.not_true, cond_false, hc1]; congr 1; rw [decide_eq_decide]; simp [hN]
 have key : ∀ named : Bool, ((named = true) ↔ (e.Kind = 2 ∨ e.Kind = 4)) → (if e.Kind < 1 then
  some false else
  if 19 < e.Kind then
  some false else
  (expr_places e.Kind).bind fun r1 =>
  if (e.Kids.length : Int) ≠ (r1.length : Int) then
  some false else
  expr_shape_c0 (k + 2) e.Kind e.N e.Name e.Kids e.At named) = some (shp e) := fun named hnm => by
  unfold shp
  by_cases h1 : e.Kind < 1
  · rw [if_pos h1, decide_eq_false (fun q => by omega)]
  · rw [if_neg h1]
    by_cases h19 : 19 < e.Kind
    · rw [if_pos h19, decide_eq_false (fun q => by omega)]
    · rw [if_neg h19, places_eq, bind_some_eq]
      by_cases hl : e.Kids.length = (plc e.Kind).length
      · rw [if_neg (by omega), hc0]; congr 1; rw [decide_eq_decide, hnm]
        exact ⟨fun q => ⟨by omega, hl, q⟩, fun q => q.2.2⟩
      · rw [if_pos (by omega), decide_eq_false (fun q => hl q.2.1)]
 show expr_shape_f (k + 2) e = _
 unfold expr_shape_f
 by_cases h2 : e.Kind = 2
 · rw [if_pos h2]
   exact key true (by simp [h2])
 · rw [if_neg h2]
   exact key (decide (e.Kind = 4)) (by simp [h2])
def Tr (e : api_Expr) : Prop := ∃ t, Is t e ∧ t.ok
theorem Is.shp {t : T} {e : api_Expr} (h : Is t e) (hok : t.ok) : shp e = true := by
 unfold Ex.shp
 rw [decide_eq_true_eq]
 cases t with
 | num n =>
  obtain ⟨h1, h2, h3, h4⟩ := h
  obtain ⟨h5, h6⟩ := hok
  rw [h1, h2, h3, h4]
  exact ⟨by decide, by decide, by decide, by decide, by omega⟩
 | var s =>
  obtain ⟨h1, h2, h3, h4⟩ := h
  rw [h1, h2, h3, h4]
  exact ⟨by decide, by decide, by simp [(name_split hok).1], fun _ => hok, by omega⟩
 | arg =>
  obtain ⟨h1, h2, h3, h4⟩ := h
  rw [h1, h2, h3, h4]
  exact ⟨by decide, by decide, by decide, by decide, by omega⟩
 | isin s =>
  obtain ⟨h1, h2, h3, h4⟩ := h
  rw [h1, h2, h3, h4]
  exact ⟨by decide, by decide, by simp [(name_split hok).1], fun _ => hok, by omega⟩
 | un k t =>
  obtain ⟨h1, h2, h3, x, h4, _⟩ := h
  obtain ⟨hk, _⟩ := hok
  rw [h1, h2, h3, h4, pl2 hk]
  exact ⟨by omega, rfl, ⟨fun q => by omega, fun q => absurd rfl q⟩, fun q => by omega, .inl rfl⟩
 | bin k a b =>
  obtain ⟨h1, h2, h3, x, y, h4, _⟩ := h
  obtain ⟨hk, _⟩ := hok
  rw [h1, h2, h3, h4, pl3 hk]
  exact ⟨by omega, rfl, ⟨fun q => by omega, fun q => absurd rfl q⟩, fun q => by omega, .inl rfl⟩
def inr : T → Nat
 | .un k t => nst t 6
 | .bin k x y => max (nst x (lft k)) (nst y (rgt k))
 | _ => 0
theorem nst_split {t : T} (h : t.ok) {a : Int} (ha : a ≤ 7) : nst t a = inr t + (if lvl t.kind < a then 1 else 0) + (if lvl t.kind = 6 then 1 else 0) := by
 cases t with
 | num n =>
  have hk : lvl (T.num n).kind = 7 := by show lvl 1 = 7; decide
  simp only [nst, inr]; rw [parN_no (by omega), if_neg (c := lvl _ < a) (by omega), if_neg (c := lvl _ = 6) (by omega)]
 | var s =>
  have hk : lvl (T.var s).kind = 7 := by show lvl 2 = 7; decide
  simp only [nst, inr]; rw [parN_no (by omega), if_neg (c := lvl _ < a) (by omega), if_neg (c := lvl _ = 6) (by omega)]
 | arg =>
  have hk : lvl T.arg.kind = 7 := by show lvl 3 = 7; decide
  simp only [nst, inr]; rw [parN_no (by omega), if_neg (c := lvl _ < a) (by omega), if_neg (c := lvl _ = 6) (by omega)]
 | isin s =>
  have hk : lvl (T.isin s).kind = 7 := by show lvl 4 = 7; decide
  simp only [nst, inr]; rw [parN_no (by omega), if_neg (c := lvl _ < a) (by omega), if_neg (c := lvl _ = 6) (by omega)]
 | un k t =>
  have hk : lvl (T.un k t).kind = 6 := by show lvl k = 6; rcases h.1 with rfl | rfl <;> decide
  simp only [nst, inr]; rw [if_pos (c := lvl _ = 6) hk]; unfold parN; split <;> split <;> omega
 | bin k x y =>
  have := (btw_in h.1.1 h.1.2).2
  have hk : lvl (T.bin k x y).kind = lvl k := rfl
  simp only [nst, inr]; rw [if_neg (c := lvl (T.bin k x y).kind = 6) (by omega)]; unfold parN; split <;> split <;> omega
theorem inside {e : api_Expr} (hs : shp e = true) (hN : e.N ≤ 9223372036854775807) (o : Int) : (∃ t, Is t e ∧ t.ok ∧ o + inr t ≤ 12) ↔ (o ≤ 12 ∧ ∀ p ∈ e.Kids.zip (plc e.Kind), ∃ t, Is t p.1 ∧ t.ok ∧ o + nst t p.2 ≤ 12) := by
 have hs' := hs
 unfold shp at hs'
 rw [decide_eq_true_eq] at hs'
 obtain ⟨hk, hl, hn1, hn2, hN0⟩ := hs'
 constructor
 · rintro ⟨t, ht, hok, hle⟩
   refine ⟨by omega, fun p hp => ?_⟩
   have hkind := ht.kind
   cases t with
   | num n => rw [ht.2.2.2] at hp; cases hp
   | var n => rw [ht.2.2.2] at hp; cases hp
   | arg => rw [ht.2.2.2] at hp; cases hp
   | isin n => rw [ht.2.2.2] at hp; cases hp
   | un k t =>
    obtain ⟨h1, h2, h3, x, h4, h5⟩ := ht
    rw [h4, h1, pl2 hok.1] at hp
    simp only [List.zip_cons_cons, List.zip_nil_right, List.mem_singleton] at hp
    subst hp
    exact ⟨t, h5, hok.2, by simpa only [inr] using hle⟩
   | bin k a b =>
    obtain ⟨h1, h2, h3, x, y, h4, h5, h6⟩ := ht
    rw [h4, h1, pl3 hok.1] at hp
    simp only [inr] at hle
    simp only [List.zip_cons_cons, List.zip_nil_right, List.mem_cons, List.not_mem_nil, or_false] at hp
    rcases hp with rfl | rfl
    · exact ⟨a, h5, hok.2.1, by show o + ((nst a (lft k) : Nat) : Int) ≤ 12; omega⟩
    · exact ⟨b, h6, hok.2.2, by show o + ((nst b (rgt k) : Nat) : Int) ≤ 12; omega⟩
 · rintro ⟨ho, hp⟩
   have hk4 : e.Kind = 1 ∨ e.Kind = 2 ∨ e.Kind = 3 ∨ e.Kind = 4 ∨ (e.Kind = 5 ∨ e.Kind = 6) ∨ (7 ≤ e.Kind ∧ e.Kind ≤ 19) := by omega
   rcases hk4 with h | h | h | h | h | h
   · rw [h] at hl
     exact ⟨.num e.N, ⟨h, rfl, by simpa [h] using hn1, List.eq_nil_of_length_eq_zero (hl.trans (by decide))⟩, by unfold T.ok; omega, by simp only [inr]; omega⟩
   · rw [h] at hl
     exact ⟨.var e.Name, ⟨h, by omega, rfl, List.eq_nil_of_length_eq_zero (hl.trans (by decide))⟩, hn2 (.inl h), by simp only [inr]; omega⟩
   · rw [h] at hl
     exact ⟨.arg, ⟨h, by omega, by simpa [h] using hn1, List.eq_nil_of_length_eq_zero (hl.trans (by decide))⟩, trivial, by simp only [inr]; omega⟩
   · rw [h] at hl
     exact ⟨.isin e.Name, ⟨h, by omega, rfl, List.eq_nil_of_length_eq_zero (hl.trans (by decide))⟩, hn2 (.inr h), by simp only [inr]; omega⟩
   · rw [pl2 h] at hl hp
     obtain ⟨x, hx⟩ := List.length_eq_one_iff.1 hl
     rw [hx] at hp
     obtain ⟨t, h1, h2, h3⟩ := hp (x, 6) (by simp)
     exact ⟨.un e.Kind t, ⟨rfl, by omega, Classical.byContradiction fun q => by have := hn1.2 q; omega, x, hx, h1⟩, ⟨h, h2⟩, by simpa only [inr] using h3⟩
   · rw [pl3 h] at hl hp
     obtain ⟨x, y, hx⟩ : ∃ x y, e.Kids = [x, y] := by
      match hq : e.Kids with
      | [x, y] => exact ⟨x, y, rfl⟩
      | [] => rw [hq] at hl; cases hl
      | [_] => rw [hq] at hl; cases hl
      | _ :: _ :: _ :: _ => rw [hq] at hl; simp at hl
     rw [hx] at hp
     obtain ⟨t, h1, h2, h3⟩ := hp (x, lft e.Kind) (by simp)
     obtain ⟨u, h4, h5, h6⟩ := hp (y, rgt e.Kind) (by simp)
     have h3 : o + ((nst t (lft e.Kind) : Nat) : Int) ≤ 12 := h3
     have h6 : o + ((nst u (rgt e.Kind) : Nat) : Int) ≤ 12 := h6
     exact ⟨.bin e.Kind t u, ⟨rfl, by omega, Classical.byContradiction fun q => by have := hn1.2 q; omega, x, y, hx, h1, h4⟩, ⟨h, h2, h5⟩, by simp only [inr]; omega⟩
theorem plc_rng {k : Int} : ∀ p ∈ plc k, 1 ≤ p ∧ p ≤ 6 := fun p hp => by
 have := lvl_rng k
 unfold plc at hp
 split at hp
 · cases hp
 · split at hp
   · simp at hp; omega
   · unfold lft rgt at hp
     simp at hp
     rcases hp with rfl | rfl <;> split <;> omega
theorem right_loop (self : api_Expr → Int → Int → Option Bool) (e : api_Expr) (o : Int) (Q : api_Expr → Int → Prop) (hl : e.Kids.length = (plc e.Kind).length) (h2 : e.Kids.length ≤ 2) (hQ : ∀ x ∈ e.Kids, ∀ p, 1 ≤ p ∧ p ≤ 6 → ∃ b, self x p o = some b ∧ (b = true ↔ Q x p)) :
 ∀ m n, n + m = e.Kids.length → ∀ k, m + 1 ≤ k → ∃ b, expr_right_l0 self k o e.Kind e.N e.Name e.Kids e.At (plc e.Kind) ((plc e.Kind).length : Int) ((n : Nat) : Int) = some b ∧ (b = true ↔ ∀ q ∈ (e.Kids.zip (plc e.Kind)).drop n, Q q.1 q.2) := by
 intro m
 induction m with
 | zero =>
  intro n h k hk
  obtain ⟨k, rfl⟩ : ∃ j, k = j + 1 := ⟨k - 1, by omega⟩
  refine ⟨true, ?_, ?_⟩
  · simp only [expr_right_l0]; rw [if_neg (by omega)]
  · rw [List.drop_eq_nil_of_le (by rw [List.length_zip]; omega)]; simp
 | succ m ih =>
  intro n h k hk
  obtain ⟨k, rfl⟩ : ∃ j, k = j + 1 := ⟨k - 1, by omega⟩
  have hn1 : n < e.Kids.length := by omega
  have hn2 : n < (plc e.Kind).length := by omega
  have hz : (e.Kids.zip (plc e.Kind)).drop n = (e.Kids[n], (plc e.Kind)[n]) :: (e.Kids.zip (plc e.Kind)).drop (n + 1) := by
   rw [List.drop_eq_getElem_cons (by rw [List.length_zip]; omega), List.getElem_zip]
  obtain ⟨b, hb, hb'⟩ := hQ e.Kids[n] (List.getElem_mem hn1) (plc e.Kind)[n] (plc_rng _ (List.getElem_mem hn2))
  simp only [expr_right_l0]
  rw [if_pos (by omega), if_pos (by omega), if_pos (by omega), if_pos (by omega), if_pos (by omega), Int.toNat_natCast, getD_lt _ hn1, getD_lt _ hn2, hb, bind_some_eq]
  cases b with
  | false =>
   refine ⟨false, by simp, ?_⟩
   rw [hz]
   constructor
   · intro q; cases q
   · intro q
     exact (Bool.false_ne_true (hb'.2 (q _ List.mem_cons_self))).elim
  | true =>
   obtain ⟨b', h1, h2⟩ := ih (n + 1) (by omega) k (by omega)
   refine ⟨b', ?_, ?_⟩
   · simp only [Bool.not_true, cond_false]
     rw [show w64 ((n : Int) + 1) = ((n + 1 : Nat) : Int) from by rw [w64_in (by omega) (by omega)]; omega]
     exact h1
   · rw [hz, h2]
     simp [hb'.1 rfl]
theorem right_run : ∀ (n : Nat) (e : api_Expr) (a o : Int), Fw n e → 1 ≤ a ∧ a ≤ 6 → 0 ≤ o → o ≤ 12 → ∀ k, n + 4 ≤ k → ∃ b, expr_right_f k e a o = some b ∧ (b = true ↔ ∃ t, Is t e ∧ t.ok ∧ o + nst t a ≤ 12)
 | 0, e, a, o, h, _, _, _, _, _ => h.elim
 | n + 1, e, a, o, ⟨h1, h2, h3, h4⟩, ha, ho, ho2, k, hk => by
  obtain ⟨k, rfl⟩ : ∃ j, k = j + 1 := ⟨k - 1, by omega⟩
  show ∃ b, expr_right_b (expr_right_f k) k e a o = some b ∧ _
  unfold expr_right_b
  rw [eta, shape_eq h2, bind_some_eq]
  cases hs : shp e with
  | false =>
   refine ⟨false, rfl, ?_⟩
   constructor
   · intro q; cases q
   · rintro ⟨t, ht, hok, _⟩
     rw [ht.shp hok] at hs; cases hs
  | true =>
   have hs' := hs
   unfold shp at hs'
   rw [decide_eq_true_eq] at hs'
   have hl := hs'.2.1
   have tail : ∀ o' : Int, 0 ≤ o' → ∃ b, (if 12 < o' then some false else (expr_places e.Kind).bind fun r => expr_right_l0 (expr_right_f k) k o' e.Kind e.N e.Name e.Kids e.At r (r.length : Int) 0) = some b ∧ (b = true ↔ ∃ t, Is t e ∧ t.ok ∧ o' + inr t ≤ 12) := fun o' ho' => by
    by_cases h12 : 12 < o'
    · rw [if_pos h12]
      exact ⟨false, rfl, ⟨fun q => (by cases q), fun ⟨t, _, _, q⟩ => (by omega)⟩⟩
    · rw [if_neg h12, places_eq, bind_some_eq]
      obtain ⟨b, hb, hb'⟩ := right_loop (expr_right_f k) e o' (fun x p => ∃ t, Is t x ∧ t.ok ∧ o' + nst t p ≤ 12) hl h1 (fun x hx p hp => right_run n x p o' (h4 x hx) hp ho' (by omega) k (by omega)) e.Kids.length 0 (by omega) k (by omega)
      refine ⟨b, hb, ?_⟩
      rw [hb', inside hs h3.2 o', List.drop_zero]
      exact ⟨fun q => ⟨by omega, q⟩, fun q => q.2⟩
   rw [Bool.not_true, cond_false]
   simp only [level_eq, bind_some_eq]
   have fin : ∀ o' : Int, o' = o + (if lvl e.Kind < a then 1 else 0) + (if lvl e.Kind = 6 then 1 else 0) → ∀ b : Bool, (b = true ↔ ∃ t, Is t e ∧ t.ok ∧ o' + inr t ≤ 12) → (b = true ↔ ∃ t, Is t e ∧ t.ok ∧ o + nst t a ≤ 12) := fun o' ho' b hb => by
    rw [hb]
    constructor
    · rintro ⟨t, ht, hok, q⟩
      refine ⟨t, ht, hok, ?_⟩
      rw [nst_split hok (by omega), ← ht.kind]
      rw [ho'] at q
      split at q <;> split at q <;> (try rw [if_pos (by assumption)]) <;> (try rw [if_neg (by assumption)]) <;> (try rw [if_pos (by assumption)]) <;> (try rw [if_neg (by assumption)]) <;> omega
    · rintro ⟨t, ht, hok, q⟩
      refine ⟨t, ht, hok, ?_⟩
      rw [nst_split hok (by omega), ← ht.kind] at q
      rw [ho']
      split <;> split <;> (try rw [if_pos (by assumption)] at q) <;> (try rw [if_neg (by assumption)] at q) <;> (try rw [if_pos (by assumption)] at q) <;> (try rw [if_neg (by assumption)] at q) <;> omega
   by_cases hA : lvl e.Kind < a
   · rw [if_pos hA]
     by_cases h6 : lvl e.Kind = 6
     · rw [if_pos h6]
       rw [show w64 (w64 (o + 1) + 1) = o + 2 from by rw [w64_in (n := o + 1) (by omega) (by omega), w64_in (by omega) (by omega)]; omega]
       obtain ⟨b, hb, hb'⟩ := tail (o + 2) (by omega)
       exact ⟨b, hb, fin (o + 2) (by rw [if_pos hA, if_pos h6]; omega) b hb'⟩
     · rw [if_neg h6]
       rw [show w64 (o + 1) = o + 1 from w64_in (by omega) (by omega)]
       obtain ⟨b, hb, hb'⟩ := tail (o + 1) (by omega)
       exact ⟨b, hb, fin (o + 1) (by rw [if_pos hA, if_neg h6]; omega) b hb'⟩
   · rw [if_neg hA]
     by_cases h6 : lvl e.Kind = 6
     · rw [if_pos h6]
       rw [show w64 (o + 1) = o + 1 from w64_in (by omega) (by omega)]
       obtain ⟨b, hb, hb'⟩ := tail (o + 1) (by omega)
       exact ⟨b, hb, fin (o + 1) (by rw [if_neg hA, if_pos h6]; omega) b hb'⟩
     · rw [if_neg h6]
       obtain ⟨b, hb, hb'⟩ := tail o (by omega)
       exact ⟨b, hb, fin o (by rw [if_neg hA, if_neg h6]; omega) b hb'⟩
theorem Right_eq {n : Nat} {e : api_Expr} (h : Fw n e) : ∃ b, expr_Right e = some b ∧ (b = true ↔ ∃ t, Is t e ∧ t.ok ∧ nst t 1 ≤ 12) := by
 obtain ⟨b, -, hb'⟩ := right_run n e 1 0 h (by decide) (by decide) (by decide) (n + 4) (Nat.le_refl _)
 refine ⟨b, ?_, ?_⟩
 · unfold expr_Right
   rw [eta, show expr_right e 1 0 = some b from lim_eq (n + 4) fun k hk => ?_, bind_some_eq]
   obtain ⟨b2, h1, h2⟩ := right_run n e 1 0 h (by decide) (by decide) (by decide) k hk
   have : b2 = b := by rw [Bool.eq_iff_iff, h2, hb']
   rw [← this]; exact h1
 · rw [hb']
   constructor
   · rintro ⟨t, h1, h2, h3⟩; exact ⟨t, h1, h2, by omega⟩
   · rintro ⟨t, h1, h2, h3⟩; exact ⟨t, h1, h2, by omega⟩
end Go.Sy.Ex
namespace Go.Sy.Ex
open Go.Sy
theorem it1 : Lib.itoa 1 = [49] := by rw [itoa_pos (by decide), show (1 : Int).toNat = 1 from rfl, dec_small (by decide)]; rfl
theorem it2 : Lib.itoa 2 = [50] := by rw [itoa_pos (by decide), show (2 : Int).toNat = 2 from rfl, dec_small (by decide)]; rfl
theorem it3 : Lib.itoa 3 = [51] := by rw [itoa_pos (by decide), show (3 : Int).toNat = 3 from rfl, dec_small (by decide)]; rfl
theorem it4 : Lib.itoa 4 = [52] := by rw [itoa_pos (by decide), show (4 : Int).toNat = 4 from rfl, dec_small (by decide)]; rfl
theorem Sg_n1 : Sg (.num 1) [(2, [49], 1)] 0 := by have := Sg_num (n := 1); rwa [it1] at this
theorem Sg_n2 : Sg (.num 2) [(2, [50], 2)] 0 := by have := Sg_num (n := 2); rwa [it2] at this
theorem Sg_n3 : Sg (.num 3) [(2, [51], 3)] 0 := by have := Sg_num (n := 3); rwa [it3] at this
theorem Sg_n4 : Sg (.num 4) [(2, [52], 4)] 0 := by have := Sg_num (n := 4); rwa [it4] at this
theorem Fw.up : ∀ {n m : Nat} {e : api_Expr}, Fw n e → n ≤ m → Fw m e
 | 0, _, _, h, _ => h.elim
 | n + 1, 0, _, _, h => by omega
 | n + 1, m + 1, e, ⟨h1, h2, h3, h4⟩, h => ⟨h1, h2, h3, fun x hx => Fw.up (h4 x hx) (by omega)⟩
theorem Is.fw : ∀ {t : T} {e : api_Expr}, Is t e → t.ok → Fw (t.sz + 1) e
 | .num n, e, h, hok => ⟨by rw [h.2.2.2]; decide, by rw [h.2.2.1]; decide, by rw [h.2.1]; unfold T.ok at hok; omega, by rw [h.2.2.2]; intro x hx; cases hx⟩
 | .var s, e, h, hok => ⟨by rw [h.2.2.2]; decide, by rw [h.2.2.1]; have := (name_split hok).2.1; omega, by rw [h.2.1]; decide, by rw [h.2.2.2]; intro x hx; cases hx⟩
 | .arg, e, h, hok => ⟨by rw [h.2.2.2]; decide, by rw [h.2.2.1]; decide, by rw [h.2.1]; decide, by rw [h.2.2.2]; intro x hx; cases hx⟩
 | .isin s, e, h, hok => ⟨by rw [h.2.2.2]; decide, by rw [h.2.2.1]; have := (name_split hok).2.1; omega, by rw [h.2.1]; decide, by rw [h.2.2.2]; intro x hx; cases hx⟩
 | .un k t, e, h, hok => by
  obtain ⟨h1, h2, h3, x, h4, h5⟩ := h
  exact ⟨by rw [h4]; simp, by rw [h3]; decide, by rw [h2]; decide, by rw [h4]; intro y hy; rw [List.mem_singleton] at hy; subst hy; exact Is.fw h5 hok.2⟩
 | .bin k a b, e, h, hok => by
  obtain ⟨h1, h2, h3, x, y, h4, h5, h6⟩ := h
  refine ⟨by rw [h4]; simp, by rw [h3]; decide, by rw [h2]; decide, ?_⟩
  rw [h4]; intro z hz
  simp only [List.mem_cons, List.not_mem_nil, or_false] at hz
  rcases hz with rfl | rfl
  · exact Fw.up (Is.fw h5 hok.2.1) (by simp only [T.sz]; omega)
  · exact Fw.up (Is.fw h6 hok.2.2) (by simp only [T.sz]; omega)
theorem Right_tree {t : T} {e : api_Expr} (h : Is t e) (hok : t.ok) (hn : nst t 1 ≤ 12) : expr_Right e = some true := by
 obtain ⟨b, h1, h2⟩ := Right_eq (h.fw hok)
 rw [h1, h2.2 ⟨t, h, hok, hn⟩]
end Go.Sy.Ex
namespace Go.Sy.Ex
open Go.Sy
def Rg : Nat → api_Expr → Prop
 | 0, _ => True
 | n + 1, e => (-9223372036854775808 ≤ e.N ∧ e.N ≤ 9223372036854775807) ∧ ∀ x ∈ e.Kids, Rg n x
theorem nx {n : Nat} (h : n < 1000000000) : w64 ((n : Int) + 1) = ((n + 1 : Nat) : Int) := by rw [w64_in (by omega) (by omega)]; omega
theorem rlevel_eq (k : Int) : ref7_level k = some (lvl k) := by
 unfold ref7_level lvl
 by_cases h19 : k = 19
 · rw [if_pos h19, if_pos h19]
 rw [if_neg h19, if_neg h19]
 by_cases h18 : k = 18
 · rw [if_pos h18, if_pos h18]
 rw [if_neg h18, if_neg h18]
 repeat' split
 all_goals first
  | rfl
  | (exfalso; omega)
end Go.Sy.Ex
namespace Go.Sy.Ex
open Go.Sy
theorem nst_at {t : T} (h : t.ok) {a : Int} (ha : a ≤ 7) : nst t a = nst t 1 + (if lvl t.kind < a then 1 else 0) := by
 rw [nst_split h ha, nst_split h (a := 1) (by decide)]
 have := lvl_rng t.kind
 rw [if_neg (c := lvl t.kind < 1) (by omega)]
 omega
theorem nst_le : ∀ (t : T) (a : Int), nst t a ≤ 2 * t.sz
 | .num n, a => by simp only [nst, T.sz]; unfold parN; split <;> omega
 | .var n, a => by simp only [nst, T.sz]; unfold parN; split <;> omega
 | .arg, a => by simp only [nst, T.sz]; unfold parN; split <;> omega
 | .isin n, a => by simp only [nst, T.sz]; unfold parN; split <;> omega
 | .un k t, a => by have := nst_le t 6; simp only [nst, T.sz]; unfold parN; split <;> omega
 | .bin k x y, a => by have := nst_le x (lft k); have := nst_le y (rgt k); simp only [nst, T.sz]; unfold parN; split <;> omega
theorem T.sz_pos : ∀ t : T, 1 ≤ t.sz
 | .num _ => Nat.le_refl _ | .var _ => Nat.le_refl _ | .arg => Nat.le_refl _ | .isin _ => Nat.le_refl _
 | .un _ t => by simp only [T.sz]; omega
 | .bin _ a b => by simp only [T.sz]; omega
theorem pr_at {t : T} (h : t.ok) {a : Int} (ha : a ≤ 7) : pr t a = if lvl t.kind < a then 40 :: pr t 1 ++ [41] else pr t 1 := by
 cases t with
 | num n =>
  have hk : lvl (T.num n).kind = 7 := by show lvl 1 = 7; decide
  rw [if_neg (c := lvl _ < a) (by omega)]; simp only [pr]; rw [par_f (by omega), par_f (by omega)]
 | var n =>
  have hk : lvl (T.var n).kind = 7 := by show lvl 2 = 7; decide
  rw [if_neg (c := lvl _ < a) (by omega)]; simp only [pr]; rw [par_f (by omega), par_f (by omega)]
 | arg =>
  have hk : lvl T.arg.kind = 7 := by show lvl 3 = 7; decide
  rw [if_neg (c := lvl _ < a) (by omega)]; simp only [pr]; rw [par_f (by omega), par_f (by omega)]
 | isin n =>
  have hk : lvl (T.isin n).kind = 7 := by show lvl 4 = 7; decide
  rw [if_neg (c := lvl _ < a) (by omega)]; simp only [pr]; rw [par_f (by omega), par_f (by omega)]
 | un k t =>
  have hk : lvl (T.un k t).kind = 6 := by show lvl k = 6; rcases h.1 with rfl | rfl <;> decide
  simp only [pr]
  by_cases h6 : 6 < a
  · rw [if_pos (c := lvl _ < a) (by omega), par_t h6, par_f (by omega)]
  · rw [if_neg (c := lvl _ < a) (by omega), par_f h6, par_f (by omega)]
 | bin k x y =>
  have hr := (btw_in h.1.1 h.1.2).2
  have hk : lvl (T.bin k x y).kind = lvl k := rfl
  simp only [pr]
  by_cases h6 : lvl k < a
  · rw [if_pos (c := lvl (T.bin k x y).kind < a) (by omega), par_t h6, par_f (by omega)]
  · rw [if_neg (c := lvl (T.bin k x y).kind < a) (by omega), par_f h6, par_f (by omega)]
theorem pr_small {t : T} (h : t.ok) {a : Int} (ha : a ≤ 7) : (pr t 1).length ≤ (pr t a).length := by
 rw [pr_at h ha]; split
 · simp; omega
 · exact Nat.le_refl _
theorem rkid_eq (self : api_Expr → Option (List UInt8)) {t : T} {e : api_Expr} (h : Is t e) (hok : t.ok) {a : Int} (ha : a ≤ 7) (hs : self e = some (pr t 1)) (hl : (pr t a).length ≤ 9223372036854775807) : ref7_kid self e a = some (pr t a) := by
 unfold ref7_kid
 rw [rlevel_eq, bind_some_eq, eta, hs, bind_some_eq, h.kind]
 rw [pr_at hok ha] at hl ⊢
 by_cases hlt : lvl t.kind < a
 · rw [if_pos hlt] at hl ⊢
   simp only [List.length_append, List.length_cons, List.length_nil] at hl
   rw [if_pos hlt]
   rw [if_pos (by simp; omega), if_pos (by simp; omega)]; rfl
 · rw [if_neg hlt] at hl ⊢
   rw [if_neg hlt, bind_some_eq]
theorem row_txt {k : Int} (h : 7 ≤ k ∧ k ≤ 19) : ref7_text k = some (txt k) := by
 have hk : k = 7 ∨ k = 8 ∨ k = 9 ∨ k = 10 ∨ k = 11 ∨ k = 12 ∨ k = 13 ∨ k = 14 ∨ k = 15 ∨ k = 16 ∨ k = 17 ∨ k = 18 ∨ k = 19 := by omega
 rcases hk with rfl | rfl | rfl | rfl | rfl | rfl | rfl | rfl | rfl | rfl | rfl | rfl | rfl <;> decide
theorem rPrint_run : ∀ (t : T) (e : api_Expr), Is t e → t.ok → (pr t 1).length ≤ 9223372036854775807 → ∀ k, t.sz + 1 ≤ k → ref7_Print_f k e = some (pr t 1) := by
 intro t
 induction t with
 | num n =>
  intro e h hok hl k hk
  obtain ⟨k, rfl⟩ : ∃ j, k = j + 1 := ⟨k - 1, by omega⟩
  show ref7_Print_b (ref7_Print_f k) k e = _
  unfold ref7_Print_b
  rw [rlevel_eq, bind_some_eq, if_pos h.1, h.2.1, Dec_eq n (by have := hok.1; omega) hok.2, bind_some_eq]
  simp only [pr]; rw [par_f (by decide)]
 | var s =>
  intro e h hok hl k hk
  obtain ⟨k, rfl⟩ : ∃ j, k = j + 1 := ⟨k - 1, by omega⟩
  show ref7_Print_b (ref7_Print_f k) k e = _
  unfold ref7_Print_b
  rw [rlevel_eq, bind_some_eq, if_neg (by rw [h.1]; decide), if_pos h.1, h.2.2.1]
  simp only [pr]; rw [par_f (by decide)]
 | arg =>
  intro e h hok hl k hk
  obtain ⟨k, rfl⟩ : ∃ j, k = j + 1 := ⟨k - 1, by omega⟩
  show ref7_Print_b (ref7_Print_f k) k e = _
  unfold ref7_Print_b
  rw [rlevel_eq, bind_some_eq, if_neg (by rw [h.1]; decide), if_neg (by rw [h.1]; decide), if_pos h.1]
  simp only [pr]; rw [par_f (by decide)]
 | isin s =>
  intro e h hok hl k hk
  obtain ⟨k, rfl⟩ : ∃ j, k = j + 1 := ⟨k - 1, by omega⟩
  show ref7_Print_b (ref7_Print_f k) k e = _
  unfold ref7_Print_b
  have := (name_split hok).2.1
  rw [rlevel_eq, bind_some_eq, if_neg (by rw [h.1]; decide), if_neg (by rw [h.1]; decide), if_neg (by rw [h.1]; decide), if_pos h.1, h.2.2.1, if_pos (by simp; omega), if_pos (by simp; omega)]
  simp only [pr]; rw [par_f (by decide)]
 | un q t ih =>
  intro e h hok hl k hk
  obtain ⟨h1, h2, h3, x, h4, h5⟩ := h
  simp only [T.sz] at hk
  obtain ⟨k, rfl⟩ : ∃ j, k = j + 1 := ⟨k - 1, by omega⟩
  have hp : pr (.un q t) 1 = (if q = 5 then 45 else 33) :: pr t 6 := by simp only [pr]; rw [par_f (by decide)]
  rw [hp] at hl ⊢
  simp only [List.length_cons] at hl
  have hsm := pr_small hok.2 (a := 6) (by decide)
  have hx := rkid_eq (ref7_Print_f k) h5 hok.2 (a := 6) (by decide) (ih x h5 hok.2 (by omega) k (by omega)) (by omega)
  show ref7_Print_b (ref7_Print_f k) k e = _
  unfold ref7_Print_b
  rw [rlevel_eq, bind_some_eq, h1]
  rcases hok.1 with rfl | rfl
  · rw [if_neg (by decide), if_neg (by decide), if_neg (by decide), if_neg (by decide), if_pos rfl, if_pos rfl, show ref7_text 5 = some s_minus from by decide, bind_some_eq, if_pos (by decide), if_pos (by rw [h4]; simp), h4, show [x].getD (0 : Int).toNat api_Expr.z = x from rfl, hx, bind_some_eq, if_pos (by simp; omega)]
    rfl
  · rw [if_neg (by decide), if_neg (by decide), if_neg (by decide), if_neg (by decide), if_neg (by decide), if_pos rfl, show ref7_text 6 = some s_bang from by decide, bind_some_eq, if_pos (by decide), if_pos (by rw [h4]; simp), h4, show [x].getD (0 : Int).toNat api_Expr.z = x from rfl, hx, bind_some_eq, if_pos (by simp; omega)]
    rfl
 | bin q a b iha ihb =>
  intro e h hok hl k hk
  obtain ⟨h1, h2, h3, x, y, h4, h5, h6⟩ := h
  simp only [T.sz] at hk
  obtain ⟨k, rfl⟩ : ∃ j, k = j + 1 := ⟨k - 1, by omega⟩
  have hr := (btw_in hok.1.1 hok.1.2).2
  have hp : pr (.bin q a b) 1 = pr a (lft q) ++ (s_sp ++ txt q ++ s_sp) ++ pr b (rgt q) := by simp only [pr]; rw [par_f (by omega)]
  rw [hp] at hl ⊢
  simp only [List.length_append, List.length_cons, List.length_nil] at hl
  have hlf : lft q ≤ 7 := by unfold lft; split <;> omega
  have hrg : rgt q ≤ 7 := by unfold rgt; split <;> omega
  have hsa := pr_small hok.2.1 hlf
  have hsb := pr_small hok.2.2 hrg
  have hx := rkid_eq (ref7_Print_f k) h5 hok.2.1 hlf (iha x h5 hok.2.1 (by omega) k (by omega)) (by omega)
  have hy := rkid_eq (ref7_Print_f k) h6 hok.2.2 hrg (ihb y h6 hok.2.2 (by omega) k (by omega)) (by omega)
  show ref7_Print_b (ref7_Print_f k) k e = _
  unfold ref7_Print_b
  have hwr : w64 (lvl q + 1) = lvl q + 1 := w64_in (by omega) (by omega)
  have lsp : s_sp.length = 1 := rfl
  have hq : 7 ≤ q ∧ q ≤ 19 := hok.1
  have e1 : [x, y].getD (0 : Int).toNat api_Expr.z = x := rfl
  have e2 : [x, y].getD (1 : Int).toNat api_Expr.z = y := rfl
  rw [rlevel_eq, bind_some_eq, h1, if_neg (by omega), if_neg (by omega), if_neg (by omega), if_neg (by omega), if_neg (by omega), if_neg (by omega), row_txt hok.1]
  simp only [bind_some_eq, h4, e1, e2, hwr]
  by_cases h3' : lvl q = 3
  · have el : lft q = 4 := by unfold lft; rw [if_pos h3']
    have er : rgt q = lvl q + 1 := by unfold rgt; rw [if_pos h3']; omega
    rw [el, er] at hl ⊢
    rw [el] at hx
    rw [er] at hy
    rw [if_pos h3', if_pos (by decide), if_pos (by simp), hx, bind_some_eq, if_pos (by (try simp only [List.length_append]); omega), if_pos (by (try simp only [List.length_append]); omega), if_pos (by (try simp only [List.length_append]); omega), if_pos (by decide), if_pos (by simp), hy, bind_some_eq, if_pos (by (try simp only [List.length_append]); omega)]
    simp
  · have el : lft q = lvl q := by unfold lft; rw [if_neg h3']
    have er : rgt q = lvl q + 1 := by unfold rgt; rw [if_neg h3']
    rw [el, er] at hl ⊢
    rw [el] at hx
    rw [er] at hy
    rw [if_neg h3', if_pos (by decide), if_pos (by simp), hx, bind_some_eq, if_pos (by (try simp only [List.length_append]); omega), if_pos (by (try simp only [List.length_append]); omega), if_pos (by (try simp only [List.length_append]); omega), if_pos (by decide), if_pos (by simp), hy, bind_some_eq, if_pos (by (try simp only [List.length_append]); omega)]
    simp
theorem rPrint_eq {t : T} {e : api_Expr} (h : Is t e) (hok : t.ok) (hl : (pr t 1).length ≤ 9223372036854775807) : ref7_Print e = some (pr t 1) := lim_eq (t.sz + 1) fun k hk => rPrint_run t e h hok hl k hk
theorem pr_bound : ∀ (t : T) (a : Int), t.ok → (pr t a).length ≤ 40 * t.sz
 | .num n, a, h => by
  have := itoa_len h.1 h.2
  have := (par_len (7 < a) (Lib.itoa n)).2
  simp only [pr, T.sz]; omega
 | .var s, a, h => by
  have := (name_split h).2.1
  have := (par_len (7 < a) s).2
  simp only [pr, T.sz]; omega
 | .arg, a, h => by
  have := (par_len (7 < a) [36]).2
  simp only [pr, T.sz]; simp at this; omega
 | .isin s, a, h => by
  have := (name_split h).2.1
  have := (par_len (7 < a) (s_in_xcc76e ++ s ++ s_rp)).2
  simp at this
  simp only [pr, T.sz]; simp; omega
 | .un k t, a, h => by
  have := pr_bound t 6 h.2
  have := (par_len (6 < a) ((if k = 5 then 45 else 33) :: pr t 6)).2
  simp only [List.length_cons] at this
  simp only [pr, T.sz]; omega
 | .bin k x y, a, h => by
  have := pr_bound x (lft k) h.2.1
  have := pr_bound y (rgt k) h.2.2
  have := txt_len k
  have := (par_len (lvl k < a) (pr x (lft k) ++ (s_sp ++ txt k ++ s_sp) ++ pr y (rgt k))).2
  simp only [List.length_append, List.length_cons, List.length_nil] at this
  simp only [pr, T.sz]; omega
end Go.Sy.Ex
namespace Go.Sy.Ex
open Go.Sy
def smP : Nat → api_Expr → api_Expr → Bool
 | 0, _, _ => false
 | n + 1, a, b => decide (a.Kind = b.Kind ∧ a.N = b.N ∧ a.Name = b.Name ∧ a.Kids.length = b.Kids.length) && (a.Kids.zip b.Kids).all fun p => smP n p.1 p.2
theorem zip_drop {α : Type} {l r : List α} {i : Nat} (hi : i < l.length) (hr : l.length = r.length) : (l.zip r).drop i = (l[i], r[i]'(by omega)) :: (l.zip r).drop (i + 1) := by
 rw [List.drop_eq_getElem_cons (by rw [List.length_zip]; omega), List.getElem_zip]
theorem eqf_eq (n : Nat) (f : api_Expr × api_Expr → Option Bool) (l r : List api_Expr) (hl : l.length ≤ 1000) (hf : ∀ x ∈ l, ∀ y, f (x, y) = some (smP n x y)) :
 slices_EqualFunc_api_Expr_api_Expr_api_Expr_api_Expr l r f = some (decide (l.length = r.length) && (l.zip r).all fun p => smP n p.1 p.2) := lim_eq (l.length + 1) fun k hk => by
 show slices_EqualFunc_api_Expr_api_Expr_api_Expr_api_Expr_f k l r f = _
 unfold slices_EqualFunc_api_Expr_api_Expr_api_Expr_api_Expr_f
 by_cases hlr : l.length = r.length
 · rw [if_neg (by omega), decide_eq_true hlr, Bool.true_and]
   have loop : ∀ m i, i + m = l.length → ∀ k, m + 1 ≤ k → slices_EqualFunc_api_Expr_api_Expr_api_Expr_api_Expr_l0 k r f l (l.length : Int) ((i : Nat) : Int) = some (((l.zip r).drop i).all fun p => smP n p.1 p.2) := by
    intro m
    induction m with
    | zero =>
     intro i h k hk
     obtain ⟨k, rfl⟩ : ∃ j, k = j + 1 := ⟨k - 1, by omega⟩
     simp only [slices_EqualFunc_api_Expr_api_Expr_api_Expr_api_Expr_l0]
     rw [if_neg (by omega), List.drop_eq_nil_of_le (by rw [List.length_zip]; omega)]; rfl
    | succ m ih =>
     intro i h k hk
     obtain ⟨k, rfl⟩ : ∃ j, k = j + 1 := ⟨k - 1, by omega⟩
     have hi : i < l.length := by omega
     simp only [slices_EqualFunc_api_Expr_api_Expr_api_Expr_api_Expr_l0]
     rw [if_pos (by omega), if_pos (by omega), if_pos (by omega), if_pos (by omega), if_pos (by omega), Int.toNat_natCast, getD_lt _ hi, getD_lt _ (show i < r.length by omega), eta, eta, hf _ (List.getElem_mem hi), bind_some_eq, zip_drop hi hlr, List.all_cons]
     cases smP n l[i] (r[i]'(by omega)) with
     | false => rfl
     | true => rw [Bool.not_true, cond_false, nx (by omega), ih (i + 1) (by omega) k (by omega), Bool.true_and]
   exact loop l.length 0 (by omega) k hk
 · rw [if_pos (by omega), decide_eq_false hlr, Bool.false_and]
theorem same_run : ∀ (n : Nat) (a b : api_Expr), Fw n a → ∀ k, n ≤ k → expr_Same_f k a b = some (smP n a b)
 | 0, a, b, h, _, _ => h.elim
 | n + 1, a, b, ⟨h1, h2, h3, h4⟩, k, hk => by
  obtain ⟨k, rfl⟩ : ∃ j, k = j + 1 := ⟨k - 1, by omega⟩
  show expr_Same_b (expr_Same_f k) k a b = _
  unfold expr_Same_b smP
  by_cases c1 : a.Kind = b.Kind
  · rw [if_pos c1]
    by_cases c2 : a.N = b.N
    · rw [if_pos c2]
      by_cases c3 : a.Name = b.Name
      · rw [if_pos c3, eqf_eq n _ _ _ (by omega) (fun x hx y => same_run n x y (h4 x hx) k (by omega)), bind_some_eq]
        congr 2
        rw [decide_eq_decide]
        exact ⟨fun q => ⟨c1, c2, c3, q⟩, fun q => q.2.2.2⟩
      · rw [if_neg c3, decide_eq_false (fun q => c3 q.2.2.1), Bool.false_and]
    · rw [if_neg c2, decide_eq_false (fun q => c2 q.2.1), Bool.false_and]
  · rw [if_neg c1, decide_eq_false (fun q => c1 q.1), Bool.false_and]
theorem Same_eq {n : Nat} {a : api_Expr} (h : Fw n a) (b : api_Expr) : expr_Same a b = some (smP n a b) := lim_eq n fun k hk => same_run n a b h k hk
theorem smP_tree : ∀ {t : T} {n : Nat} {a b : api_Expr}, Is t a → Is t b → Fw n a → smP n a b = true
 | t, 0, a, b, _, _, h => h.elim
 | .num _, n + 1, a, b, ha, hb, _ => by
  unfold smP; rw [ha.1, ha.2.1, ha.2.2.1, ha.2.2.2, hb.1, hb.2.1, hb.2.2.1, hb.2.2.2]; simp
 | .var _, n + 1, a, b, ha, hb, _ => by
  unfold smP; rw [ha.1, ha.2.1, ha.2.2.1, ha.2.2.2, hb.1, hb.2.1, hb.2.2.1, hb.2.2.2]; simp
 | .arg, n + 1, a, b, ha, hb, _ => by
  unfold smP; rw [ha.1, ha.2.1, ha.2.2.1, ha.2.2.2, hb.1, hb.2.1, hb.2.2.1, hb.2.2.2]; simp
 | .isin _, n + 1, a, b, ha, hb, _ => by
  unfold smP; rw [ha.1, ha.2.1, ha.2.2.1, ha.2.2.2, hb.1, hb.2.1, hb.2.2.1, hb.2.2.2]; simp
 | .un k t, n + 1, a, b, ha, hb, hf => by
  obtain ⟨a1, a2, a3, x, a4, a5⟩ := ha
  obtain ⟨b1, b2, b3, y, b4, b5⟩ := hb
  have := smP_tree a5 b5 (hf.2.2.2 x (by rw [a4]; simp))
  unfold smP; rw [a1, a2, a3, a4, b1, b2, b3, b4]; simp [this]
 | .bin k s t, n + 1, a, b, ha, hb, hf => by
  obtain ⟨a1, a2, a3, x, x', a4, a5, a6⟩ := ha
  obtain ⟨b1, b2, b3, y, y', b4, b5, b6⟩ := hb
  have h1 := smP_tree a5 b5 (hf.2.2.2 x (by rw [a4]; simp))
  have h2 := smP_tree a6 b6 (hf.2.2.2 x' (by rw [a4]; simp))
  unfold smP; rw [a1, a2, a3, a4, b1, b2, b3, b4]; simp [h1, h2]
end Go.Sy.Ex
namespace Go.Sy.Ex
open Go.Sy
def T.dp : T → Nat
 | .un _ t => t.dp + 1
 | .bin _ a b => max a.dp b.dp + 1
 | _ => 0
theorem nst_dp : ∀ (t : T) (a : Int), t.ok → a ≤ 7 → nst t 1 ≤ 2 * t.dp ∧ nst t a ≤ 2 * t.dp + 1 := by
 have up : ∀ (t : T) (a : Int), t.ok → a ≤ 7 → nst t 1 ≤ 2 * t.dp → nst t 1 ≤ 2 * t.dp ∧ nst t a ≤ 2 * t.dp + 1 := fun t a h ha h1 => by
  rw [nst_at h ha]
  refine ⟨h1, ?_⟩
  split <;> omega
 intro t
 induction t with
 | num n => intro a h ha; exact up _ a h ha (Nat.zero_le _)
 | var n => intro a h ha; exact up _ a h ha (Nat.zero_le _)
 | arg => intro a h ha; exact up _ a h ha (Nat.zero_le _)
 | isin n => intro a h ha; exact up _ a h ha (Nat.zero_le _)
 | un k t ih =>
  intro a h ha
  have := (ih 6 h.2 (by decide)).2
  refine up _ a h ha ?_
  simp only [nst, T.dp]; rw [parN_no (by decide)]; omega
 | bin k x y ihx ihy =>
  intro a h ha
  have hr := (btw_in h.1.1 h.1.2).2
  have h1 := (ihx (lft k) h.2.1 (by unfold lft; split <;> omega)).2
  have h2 := (ihy (rgt k) h.2.2 (by unfold rgt; split <;> omega)).2
  refine up _ a h ha ?_
  simp only [nst, T.dp]; rw [parN_no (by omega)]; omega
theorem place_eq {v n : Int} (hn : 0 < n) (hn2 : n ≤ 1000000) : ∃ r, ref37_Place v n = some r ∧ 0 ≤ r ∧ r < n := by
 unfold ref37_Place
 rw [if_pos (by omega)]
 have h1 : v.tmod n < n := Int.tmod_lt_of_pos v hn
 have h2 : -n < v.tmod n := by
  have h := Int.tmod_lt_of_pos (-v) hn
  rw [Int.neg_tmod] at h; omega
 by_cases h : v.tmod n < 0
 · rw [if_pos h, w64_in (by omega) (by omega)]; exact ⟨_, rfl, by omega, by omega⟩
 · rw [if_neg h]; exact ⟨_, rfl, by omega, by omega⟩
theorem next_eq {L : List Int} {i : Nat} (hi : i ≤ L.length) (hL : L.length ≤ 1000000) {n : Int} (hn : 0 < n) (hn2 : n ≤ 1000000) : ∃ r i', ref37_Row_Next (ref37_Row.mk L (i : Int)) n = some (r, ref37_Row.mk L ((i' : Nat) : Int)) ∧ 0 ≤ r ∧ r < n ∧ i' ≤ L.length := by
 unfold ref37_Row_Next
 by_cases h : L.length ≤ i
 · rw [if_pos (by show (L.length : Int) ≤ (i : Int); omega)]
   exact ⟨0, i, rfl, by omega, by omega, hi⟩
 · rw [if_neg (by show ¬ (L.length : Int) ≤ (i : Int); omega)]
   have e1 : w64 ((i : Int) + 1) = ((i + 1 : Nat) : Int) := nx (by omega)
   have e2 : w64 (((i + 1 : Nat) : Int) - 1) = ((i : Nat) : Int) := by rw [w64_in (by omega) (by omega)]; omega
   dsimp only
   rw [e1, e2, if_pos (by omega), if_pos (by omega)]
   obtain ⟨r, hr, h1, h2⟩ := place_eq (v := L.getD ((i : Nat) : Int).toNat 0) hn hn2
   rw [hr, bind_some_eq]
   exact ⟨r, i + 1, rfl, h1, h2, by omega⟩
theorem pick_eq {L : List Int} {i : Nat} (hi : i ≤ L.length) (hL : L.length ≤ 1000000) {l : List (List UInt8)} (h0 : l ≠ []) (hl : l.length ≤ 1000) : ∃ s i', ref37_pick (ref37_Row.mk L (i : Int)) l [] = some (s, ref37_Row.mk L ((i' : Nat) : Int)) ∧ s ∈ l ∧ i' ≤ L.length := by
 have hpos : 0 < l.length := List.length_pos_iff.2 h0
 unfold ref37_pick
 rw [if_neg (by omega)]
 obtain ⟨r, i', hr, h1, h2, h3⟩ := next_eq hi hL (n := (l.length : Int)) (by omega) (by omega)
 rw [hr, bind_some_eq]
 dsimp only
 rw [if_pos h1, if_pos h2, getD_lt _ (by omega)]
 exact ⟨_, i', rfl, List.getElem_mem _, h3⟩
def Made (L : List Int) (s : ref37_Scope) (d : Nat) (f : Nat → Option (api_Expr × ref37_Row)) (K : Nat) : Prop := ∃ e i' t, (∀ k, K ≤ k → f k = some (e, ref37_Row.mk L ((i' : Nat) : Int))) ∧ i' ≤ L.length ∧ Is t e ∧ t.ok ∧ t.dp ≤ d ∧ t.sz ≤ 2 ^ (d + 1) - 1
theorem c0_leaf (L : List Int) (hL : L.length ≤ 1000000) (s : ref37_Scope) (hV : ∀ v ∈ s.Vars, nameP v = true) (hVl : s.Vars.length ≤ 1000) (hS : ∀ v ∈ s.States, nameP v = true) (hSl : s.States.length ≤ 1000) (i : Nat) (hi : i ≤ L.length) (q : Int) (h0 : 0 ≤ q) (h6 : q < 6) :
 ∃ e i' t, (∀ (self : ref37_Row → ref37_Scope → Int → Option (api_Expr × ref37_Row)) (k : Nat) (d : Int), ref37_Expr_c0 self (k + 1) L (i : Int) d s.Vars s.Ports s.Timers s.States 0 0 [] [] 0 q = some (e, ref37_Row.mk L ((i' : Nat) : Int))) ∧ i' ≤ L.length ∧ Is t e ∧ t.ok ∧ t.dp = 0 ∧ t.sz = 1 := by
 have arg : (q = 2 → s.Vars = []) → (q = 3 → s.States = []) → 2 ≤ q → ∃ e i' t, (∀ (self : ref37_Row → ref37_Scope → Int → Option (api_Expr × ref37_Row)) (k : Nat) (d : Int), ref37_Expr_c0 self (k + 1) L (i : Int) d s.Vars s.Ports s.Timers s.States 0 0 [] [] 0 q = some (e, ref37_Row.mk L ((i' : Nat) : Int))) ∧ i' ≤ L.length ∧ Is t e ∧ t.ok ∧ t.dp = 0 ∧ t.sz = 1 := fun hv hs h2 => by
  refine ⟨api_Expr.mk 3 0 [] [] 0, i, .arg, fun self k d => ?_, hi, ⟨rfl, rfl, rfl, rfl⟩, trivial, rfl, rfl⟩
  rw [ref37_Expr_c0.eq_2, if_neg (by omega)]
  by_cases c2 : q = 2
  · rw [if_pos c2, hv c2, if_neg (by simp), if_neg (by omega), if_pos (by omega)]
  · rw [if_neg c2]
    by_cases c3 : q = 3
    · rw [if_pos c3, hs c3, if_neg (by simp), if_pos (by omega)]
    · rw [if_neg c3, if_pos (by omega)]
 by_cases c1 : q < 2
 · obtain ⟨r, i', hr, h1, h2, h3⟩ := next_eq hi hL (n := 6) (by decide) (by decide)
   have hrow : 0 ≤ row_xe3552.getD r.toNat 0 ∧ row_xe3552.getD r.toNat 0 ≤ 9223372036854775807 := by
    have : r = 0 ∨ r = 1 ∨ r = 2 ∨ r = 3 ∨ r = 4 ∨ r = 5 := by omega
    rcases this with rfl | rfl | rfl | rfl | rfl | rfl <;> decide
   refine ⟨api_Expr.mk 1 (row_xe3552.getD r.toNat 0) [] [] 0, i', .num (row_xe3552.getD r.toNat 0), fun self k d => ?_, h3, ⟨rfl, rfl, rfl, rfl⟩, hrow, rfl, rfl⟩
   rw [ref37_Expr_c0.eq_2, if_pos c1, hr, bind_some_eq]
   dsimp only
   rw [if_pos h1, if_pos (by show r < ((6 : Nat) : Int); omega)]
 · by_cases c2 : q = 2
   · by_cases hv : s.Vars = []
     · exact arg (fun _ => hv) (fun h => by omega) (by omega)
     · obtain ⟨v, i', hr, h1, h2⟩ := pick_eq hi hL hv hVl
       have : 0 < s.Vars.length := List.length_pos_iff.2 hv
       refine ⟨api_Expr.mk 2 0 v [] 0, i', .var v, fun self k d => ?_, h2, ⟨rfl, rfl, rfl, rfl⟩, hV v h1, rfl, rfl⟩
       rw [ref37_Expr_c0.eq_2, if_neg c1, if_pos c2, if_pos (by omega), hr, bind_some_eq]
   · by_cases c3 : q = 3
     · by_cases hs : s.States = []
       · exact arg (fun h => by omega) (fun _ => hs) (by omega)
       · obtain ⟨v, i', hr, h1, h2⟩ := pick_eq hi hL hs hSl
         have : 0 < s.States.length := List.length_pos_iff.2 hs
         refine ⟨api_Expr.mk 4 0 v [] 0, i', .isin v, fun self k d => ?_, h2, ⟨rfl, rfl, rfl, rfl⟩, hS v h1, rfl, rfl⟩
         rw [ref37_Expr_c0.eq_2, if_neg c1, if_neg c2, if_pos c3, if_pos (by omega), hr, bind_some_eq]
     · exact arg (fun h => by omega) (fun h => by omega) (by omega)
theorem gen_run (L : List Int) (hL : L.length ≤ 1000000) (s : ref37_Scope) (hV : ∀ v ∈ s.Vars, nameP v = true) (hVl : s.Vars.length ≤ 1000) (hS : ∀ v ∈ s.States, nameP v = true) (hSl : s.States.length ≤ 1000) :
 ∀ (d : Nat), d ≤ 100 → ∀ i : Nat, i ≤ L.length → Made L s d (fun k => ref37_Expr_f k (ref37_Row.mk L (i : Int)) s (d : Int)) (4 * d + 4) := by
 intro d
 induction d with
 | zero =>
  intro hd i hi
  obtain ⟨r, i1, hr, h1, h2, h3⟩ := next_eq hi hL (n := 14) (by decide) (by decide)
  obtain ⟨q, hq0, hq6, hq⟩ : ∃ q : Int, 0 ≤ q ∧ q < 6 ∧ q = if 5 < r then r.tmod 6 else r := by
   refine ⟨_, ?_, ?_, rfl⟩
   · split
     · exact Int.tmod_nonneg _ h1
     · exact h1
   · split
     · exact Int.tmod_lt_of_pos r (by decide)
     · omega
  obtain ⟨e, i', t, he, h4, h5, h6, h7, h8⟩ := c0_leaf L hL s hV hVl hS hSl i1 h3 q hq0 hq6
  refine ⟨e, i', t, fun k hk => ?_, h4, h5, h6, by omega, by rw [h8]; decide⟩
  obtain ⟨k, rfl⟩ : ∃ j, k = j + 2 := ⟨k - 2, by omega⟩
  show ref37_Expr_b (ref37_Expr_f (k + 1)) (k + 1) _ s _ = _
  unfold ref37_Expr_b
  rw [hr, bind_some_eq, if_pos (by rfl)]
  dsimp only
  by_cases c5 : 5 < r
  · rw [if_pos c5] at hq ⊢
    rw [if_pos (by decide), ← hq]
    exact he _ _ _
  · rw [if_neg c5] at hq ⊢
    rw [← hq]
    exact he _ _ _
 | succ d ih =>
  intro hd i hi
  obtain ⟨q, i1, hr, h1, h2, h3⟩ := next_eq hi hL (n := 14) (by decide) (by decide)
  have hp : 2 ^ (d + 1 + 1) = 2 * 2 ^ (d + 1) := by rw [Nat.pow_succ, Nat.mul_comm]
  have hp0 : 1 ≤ 2 ^ (d + 1) := Nat.one_le_two_pow
  have hw : w64 (((d + 1 : Nat) : Int) - 1) = (d : Int) := by rw [w64_in (by omega) (by omega)]; omega
  have start : ∀ (k : Nat) (x : Option (api_Expr × ref37_Row)), ref37_Expr_c0 (ref37_Expr_f k) k L (i1 : Int) ((d + 1 : Nat) : Int) s.Vars s.Ports s.Timers s.States 0 0 [] [] 0 q = x → ref37_Expr_f (k + 1) (ref37_Row.mk L (i : Int)) s ((d + 1 : Nat) : Int) = x := fun k x hx => by
   show ref37_Expr_b (ref37_Expr_f k) k _ s _ = _
   unfold ref37_Expr_b
   rw [hr, bind_some_eq, if_neg (by omega)]
   exact hx
  by_cases c6 : q < 6
  · obtain ⟨e, i', t, he, h4, h5, h6, h7, h8⟩ := c0_leaf L hL s hV hVl hS hSl i1 h3 q h1 c6
    refine ⟨e, i', t, fun k hk => ?_, h4, h5, h6, by omega, by omega⟩
    obtain ⟨k, rfl⟩ : ∃ j, k = j + 2 := ⟨k - 2, by omega⟩
    exact start (k + 1) _ (he _ _ _)
  · by_cases c7 : q = 6
    · obtain ⟨r, i2, hr2, g1, g2, g3⟩ := next_eq h3 hL (n := 2) (by decide) (by decide)
      obtain ⟨e, i', t, he0, h4, h5, h6, h7, h8⟩ := ih (by omega) i2 g3
      have he : ∀ k, 4 * d + 4 ≤ k → ref37_Expr_f k (ref37_Row.mk L (i2 : Int)) (ref37_Scope.mk s.Vars s.Ports s.Timers s.States) (d : Int) = some (e, ref37_Row.mk L ((i' : Nat) : Int)) := he0
      refine ⟨api_Expr.mk (5 + r) 0 [] [e] 0, i', .un (5 + r) t, fun k hk => ?_, h4, ⟨rfl, rfl, rfl, e, rfl, h5⟩, ⟨by omega, h6⟩, by simp only [T.dp]; omega, by simp only [T.sz]; omega⟩
      obtain ⟨k, rfl⟩ : ∃ j, k = j + 2 := ⟨k - 2, by omega⟩
      refine start (k + 1) _ ?_
      rw [ref37_Expr_c0.eq_2, if_neg (by omega), if_neg (by omega), if_neg (by omega), if_neg c6, if_pos c7, hr2, bind_some_eq]
      dsimp only
      rw [hw, he (k + 1) (by omega), bind_some_eq, w64_in (by omega) (by omega)]
    · obtain ⟨e, i2, t, he0, h4, h5, h6, h7, h8⟩ := ih (by omega) i1 h3
      have he : ∀ k, 4 * d + 4 ≤ k → ref37_Expr_f k (ref37_Row.mk L (i1 : Int)) (ref37_Scope.mk s.Vars s.Ports s.Timers s.States) (d : Int) = some (e, ref37_Row.mk L ((i2 : Nat) : Int)) := he0
      obtain ⟨r, i3, hr3, g1, g2, g3⟩ := next_eq h4 hL (n := 13) (by decide) (by decide)
      obtain ⟨f, i4, u, hf0, j4, j5, j6, j7, j8⟩ := ih (by omega) i3 g3
      have hf : ∀ k, 4 * d + 4 ≤ k → ref37_Expr_f k (ref37_Row.mk L (i3 : Int)) (ref37_Scope.mk s.Vars s.Ports s.Timers s.States) (d : Int) = some (f, ref37_Row.mk L ((i4 : Nat) : Int)) := hf0
      refine ⟨api_Expr.mk (7 + r) 0 [] [e, f] 0, i4, .bin (7 + r) t u, fun k hk => ?_, j4, ⟨rfl, rfl, rfl, e, f, rfl, h5, j5⟩, ⟨by omega, h6, j6⟩, by simp only [T.dp]; omega, by simp only [T.sz]; omega⟩
      obtain ⟨k, rfl⟩ : ∃ j, k = j + 3 := ⟨k - 3, by omega⟩
      refine start (k + 2) _ ?_
      rw [ref37_Expr_c0.eq_2, if_neg (by omega), if_neg (by omega), if_neg (by omega), if_neg c6, if_neg c7, ref37_Expr_c1.eq_2]
      rw [hw, he (k + 2) (by omega), bind_some_eq, hr3, bind_some_eq]
      dsimp only
      rw [hf (k + 2) (by omega), bind_some_eq, eta, w64_in (by omega) (by omega)]
theorem gen_eq (L : List Int) (hL : L.length ≤ 1000000) (s : ref37_Scope) (hV : ∀ v ∈ s.Vars, nameP v = true) (hVl : s.Vars.length ≤ 1000) (hS : ∀ v ∈ s.States, nameP v = true) (hSl : s.States.length ≤ 1000) (d : Nat) (hd : d ≤ 6) :
 ∃ e r t, ref37_Expr (ref37_Row.mk L 0) s (d : Int) = some (e, r) ∧ Is t e ∧ t.ok ∧ nst t 1 ≤ 2 * d ∧ (pr t 1).length ≤ 5080 := by
 obtain ⟨e, i', t, he, _, h5, h6, h7, h8⟩ := gen_run L hL s hV hVl hS hSl d (by omega) 0 (Nat.zero_le _)
 have h := (nst_dp t 1 h6 (by decide)).1
 have hb := pr_bound t 1 h6
 have hp : 2 ^ (d + 1) ≤ 128 := by
  have := Nat.pow_le_pow_right (n := 2) (by decide) (show d + 1 ≤ 7 by omega)
  exact this
 exact ⟨e, _, t, lim_eq (4 * d + 4) he, h5, h6, by omega, by omega⟩
end Go.Sy.Ex
namespace Go.Sy.Ex
open Go.Sy
def at' (l : List api_Token) (i o : Nat) : act_reader := ⟨⟨l, (i : Int), ⟨0, 0⟩⟩, (o : Int)⟩
section
variable {l : List api_Token} {i o : Nat}
theorem aok_st : read_Row_OK (at' l i o) = some (true, at' l i o) := rfl
theorem alook_st (hi : i < l.length) : read_Row_Look (at' l i o) = some (tkn l i, at' l i o) := by
 unfold read_Row_Look
 rw [aok_st, bind_some_eq]
 have h1 : ¬ ((i : Nat) : Int) < 0 := by omega
 have h2 : ¬ (l.length : Int) ≤ ((i : Nat) : Int) := by omega
 have h3 : 0 ≤ ((i : Nat) : Int) := by omega
 have h4 : ((i : Nat) : Int) < (l.length : Int) := by omega
 simp only [Bool.not_true, cond_false, at', Int.toNat_natCast, h1, h2, h3, h4, if_true, if_false]; rfl
theorem ais_st (hi : i < l.length) (s : List UInt8) : read_Row_Is (at' l i o) s = some (isT (tkn l i) s, at' l i o) := by
 unfold read_Row_Is isT
 rw [alook_st hi, bind_some_eq]
 dsimp only
 by_cases h3 : (tkn l i).Kind = 3
 · rw [if_pos h3]; congr 2; rw [decide_eq_decide]; simp [h3]
 · rw [if_neg h3]
   by_cases h1 : (tkn l i).Kind = 1
   · rw [if_pos h1]; congr 2; rw [decide_eq_decide]; simp [h1]
   · rw [if_neg h1]
     congr 2
     symm
     rw [decide_eq_false_iff_not]
     rintro ⟨h | h, _⟩ <;> contradiction
theorem atake_st (hi : i < l.length) (hl : l.length ≤ 100000) (s : List UInt8) : read_Row_Take (at' l i o) s = some (isT (tkn l i) s, if isT (tkn l i) s = true then at' l (i + 1) o else at' l i o) := by
 unfold read_Row_Take
 rw [ais_st hi, bind_some_eq]
 dsimp only
 cases h : isT (tkn l i) s with
 | true =>
  rw [cond_true, if_pos rfl]
  show some (true, (⟨⟨l, w64 (((i : Nat) : Int) + 1), ⟨0, 0⟩⟩, (o : Int)⟩ : act_reader)) = _
  rw [next_i hi hl]; rfl
 | false => rw [cond_false, if_neg (by simp)]
theorem awant_st (hi : i < l.length) (hl : l.length ≤ 100000) {s : List UInt8} (h : isT (tkn l i) s = true) : read_Row_Want (at' l i o) s = some (at' l (i + 1) o) := by
 unfold read_Row_Want
 rw [atake_st hi hl, bind_some_eq, h]; rfl
theorem aisname_st (hi : i < l.length) : read_Row_IsName (at' l i o) = some (decide ((tkn l i).Kind = 1) && !resP (tkn l i).Text, at' l i o) := by
 unfold read_Row_IsName
 rw [alook_st hi, bind_some_eq]
 dsimp only
 by_cases h1 : (tkn l i).Kind = 1
 · rw [if_pos h1, lres_eq, bind_some_eq, decide_eq_true h1]; rfl
 · rw [if_neg h1, decide_eq_false h1]; rfl
theorem aname_st (hi : i < l.length) (hl : l.length ≤ 100000) (h1 : (tkn l i).Kind = 1) (h2 : resP (tkn l i).Text = false) : read_Row_Name (at' l i o) = some ((tkn l i).Text, at' l (i + 1) o) := by
 unfold read_Row_Name
 rw [aisname_st hi, bind_some_eq]
 dsimp only
 rw [decide_eq_true h1, h2]
 show (if 0 ≤ w64 (w64 (((i : Nat) : Int) + 1) - 1) then if w64 (w64 (((i : Nat) : Int) + 1) - 1) < (l.length : Int) then some ((l.getD (w64 (w64 (((i : Nat) : Int) + 1) - 1)).toNat api_Token.z).Text, (⟨⟨l, w64 (((i : Nat) : Int) + 1), ⟨0, 0⟩⟩, (o : Int)⟩ : act_reader)) else none else none) = _
 rw [next_i hi hl, show w64 (((i + 1 : Nat) : Int) - 1) = ((i : Nat) : Int) from by rw [w64_in (by omega) (by omega)]; omega, if_pos (by omega), if_pos (by omega), Int.toNat_natCast]
 rfl
end
theorem alit {l : List api_Token} {i o : Nat} (hi : i < l.length) (hl : l.length ≤ 100000) {k : Int} {s : List UInt8} {n : Int} (h : strip (tkn l i) = (k, s, n)) (s' : List UInt8) (b : Bool) (hb : b = decide ((k = 3 ∨ k = 1) ∧ s = s')) : read_Row_Take (at' l i o) s' = some (b, if b = true then at' l (i + 1) o else at' l i o) := by
 rw [atake_st hi hl]
 unfold strip at h
 simp only [Prod.mk.injEq] at h
 unfold isT
 rw [h.1, h.2.1, hb]
theorem ais_lit {l : List api_Token} {i o : Nat} (hi : i < l.length) {k : Int} {s : List UInt8} {n : Int} (h : strip (tkn l i) = (k, s, n)) (s' : List UInt8) (b : Bool) (hb : b = decide ((k = 3 ∨ k = 1) ∧ s = s')) : read_Row_Is (at' l i o) s' = some (b, at' l i o) := by
 rw [ais_st hi]
 unfold strip at h
 simp only [Prod.mk.injEq] at h
 unfold isT
 rw [h.1, h.2.1, hb]
theorem parse_at {t : T} {K : List Tk} {n : Nat} (h : P t K n 1) (hn : n ≤ 12) {l : List api_Token} {i : Nat} (hl : l.length ≤ 100000) (hs : Seq l i K) (hlen : i + K.length < l.length) (hend : slv (tkn l (i + K.length)) < 1) :
 ∃ e, Is t e ∧ expr_Parse l (i : Int) = some (e, ((i + K.length : Nat) : Int), ⟨0, 0⟩) := by
 obtain ⟨e, Z, he, hr⟩ := h l i 0 hl hs hlen (by omega) hend
 refine ⟨e, he, ?_⟩
 unfold expr_Parse
 rw [show expr_reader_part (expr_reader.mk (read_Row.mk l (i : Int) (api_Fault.mk 0 0)) 0) 1 = some (e, st l (i + K.length) 0) from lim_eq Z hr, bind_some_eq, ok_st, bind_some_eq]
 rw [Bool.not_true, cond_false, eta]
 rfl
theorem aexpr_st {t : T} (hok : t.ok) (hn : nst t 1 ≤ 12) {l : List api_Token} {i o : Nat} (hl : l.length ≤ 100000) (hs : Seq l i (toks t 1)) (hlen : i + (toks t 1).length < l.length) (hend : slv (tkn l (i + (toks t 1).length)) < 1) :
 ∃ e, Is t e ∧ act_reader_expr (at' l i o) = some ([e], at' l (i + (toks t 1).length) o) := by
 obtain ⟨e, he, hp⟩ := parse_at (all_P hok) hn hl hs hlen hend
 refine ⟨e, he, ?_⟩
 unfold act_reader_expr
 rw [aok_st, bind_some_eq, Bool.not_true, cond_false]
 show (expr_Parse l (i : Int)).bind _ = _
 rw [hp, bind_some_eq]
 dsimp only
 unfold read_Row_Fail
 rw [aok_st, bind_some_eq, cond_true, bind_some_eq, eta]
 rfl
theorem ainside_st {t : T} (hok : t.ok) (hn : nst t 1 ≤ 12) {l : List api_Token} {i o : Nat} (hl : l.length ≤ 100000) (hs : Seq l i ((3, s_lp, 0) :: toks t 1 ++ [(3, s_rp, 0)])) :
 ∃ e, Is t e ∧ act_reader_inside (at' l i o) = some ([e], at' l (i + (toks t 1).length + 2) o) := by
 obtain ⟨⟨h1, h2, h3⟩, hr⟩ := Seq.append.1 hs
 simp only [List.length_cons] at hr
 obtain ⟨h4, h5, -⟩ := hr
 have hlen : i + 1 + (toks t 1).length = i + ((toks t 1).length + 1) := by omega
 obtain ⟨e, he, hp⟩ := aexpr_st (o := o) hok hn hl h3 (by omega) (by rw [hlen, slv_of h5]; decide)
 refine ⟨e, he, ?_⟩
 unfold act_reader_inside
 rw [awant_st h1 hl (isT_yes h2 (Or.inl rfl)), bind_some_eq, hp, bind_some_eq]
 dsimp only
 rw [hlen, awant_st h4 hl (isT_yes h5 (Or.inl rfl)), bind_some_eq]
 rfl
structure H where
 kind : Int
 name : List UInt8
 ev : List UInt8
 x : Option T
 n : Int
inductive B where
 | nil | cons (h : H) (th el rest : B)
def IsX : Option T → List api_Expr → Prop
 | none, l => l = []
 | some t, l => ∃ e, l = [e] ∧ Is t e
def IsB : B → List api_Act → Prop
 | .nil, l => l = []
 | .cons h th el rest, l => ∃ a l', l = a :: l' ∧ a.Kind = h.kind ∧ a.Name = h.name ∧ a.Event = h.ev ∧ IsX h.x a.X ∧ a.N = h.n ∧ IsB th a.Then ∧ IsB el a.Else ∧ IsB rest l'
def xok (x : Option T) : Prop := match x with
 | none => True
 | some t => t.ok ∧ nst t 1 ≤ 12
def H.ok (h : H) (th el : B) : Prop := xok h.x ∧
 ((h.kind = 1 ∧ nameP h.name = true ∧ h.ev = [] ∧ h.x ≠ none ∧ h.n = 0 ∧ th = .nil ∧ el = .nil) ∨
  (h.kind = 2 ∧ h.name = [] ∧ nameP h.ev = true ∧ h.n = 0 ∧ th = .nil ∧ el = .nil) ∨
  (h.kind = 3 ∧ nameP h.name = true ∧ nameP h.ev = true ∧ h.n = 0 ∧ th = .nil ∧ el = .nil) ∨
  (h.kind = 4 ∧ nameP h.name = true ∧ h.ev = [] ∧ h.x ≠ none ∧ h.n = 0 ∧ th = .nil ∧ el = .nil) ∨
  (h.kind = 5 ∧ nameP h.name = true ∧ h.ev = [] ∧ h.x = none ∧ h.n = 0 ∧ th = .nil ∧ el = .nil) ∨
  (h.kind = 6 ∧ h.name = [] ∧ h.ev = [] ∧ h.x ≠ none ∧ h.n = 0) ∨
  (h.kind = 7 ∧ h.name = [] ∧ h.ev = [] ∧ h.x = none ∧ 0 ≤ h.n ∧ h.n ≤ 9223372036854775807 ∧ el = .nil))
def B.ok : B → Prop
 | .nil => True
 | .cons h th el rest => h.ok th el ∧ th.ok ∧ el.ok ∧ rest.ok
def B.isNil : B → Bool
 | .nil => true
 | _ => false
def B.dp : B → Nat
 | .nil => 1
 | .cons h th el rest => max rest.dp (max (if h.kind = 6 ∨ h.kind = 7 then th.dp + 1 else 1) (bif el.isNil then 1 else el.dp + 1))
def tkX : Option T → List Tk
 | none => []
 | some t => (3, s_lp, 0) :: toks t 1 ++ [(3, s_rp, 0)]
def tkE : Option T → List Tk
 | none => []
 | some t => toks t 1
def tkA (h : H) (th el : List Tk) (noel : Bool) : List Tk :=
 (if h.kind = 1 then (1, h.name, 0) :: (3, s_eq, 0) :: tkE h.x ++ [(3, s_semi, 0)]
  else if h.kind = 2 then (1, s_raise, 0) :: (1, h.ev, 0) :: tkX h.x ++ [(3, s_semi, 0)]
  else if h.kind = 3 then (1, s_send, 0) :: (1, h.name, 0) :: (1, h.ev, 0) :: tkX h.x ++ [(3, s_semi, 0)]
  else if h.kind = 4 then (1, s_arm, 0) :: (1, h.name, 0) :: tkX h.x ++ [(3, s_semi, 0)]
  else if h.kind = 5 then [(1, s_cancel, 0), (1, h.name, 0), (3, s_semi, 0)]
  else if h.kind = 6 then (1, s_if, 0) :: tkX h.x ++ ((3, s_lb, 0) :: th ++ [(3, s_rb, 0)]) ++ (bif noel then [] else (1, s_else, 0) :: ((3, s_lb, 0) :: el ++ [(3, s_rb, 0)]))
  else (1, s_loop, 0) :: (2, Lib.itoa h.n, h.n) :: ((3, s_lb, 0) :: th ++ [(3, s_rb, 0)]))
def tkI : B → List Tk
 | .nil => []
 | .cons h th el rest => tkA h (tkI th) (tkI el) el.isNil ++ tkI rest
def tkB (b : B) : List Tk := (3, s_lb, 0) :: tkI b ++ [(3, s_rb, 0)]
end Go.Sy.Ex
namespace Go.Sy.Ex
open Go.Sy
theorem B.dp_pos : ∀ b : B, 1 ≤ b.dp
 | .nil => Nat.le_refl _
 | .cons h th el rest => by have := B.dp_pos rest; simp only [B.dp]; omega
def PB (b : B) : Prop := ∀ (l : List api_Token) (i o : Nat), l.length ≤ 100000 → Seq l i (tkB b) → i + (tkB b).length < l.length → o + b.dp ≤ 4 →
 ∃ cs Z, IsB b cs ∧ ∀ k, Z ≤ k → act_reader_block_f k (at' l i o) = some (cs, at' l (i + (tkB b).length) o)
def PI (b : B) : Prop := ∀ (l : List api_Token) (i o : Nat) (acc : List api_Act), l.length ≤ 100000 → Seq l i (tkI b ++ [(3, s_rb, 0)]) → i + (tkI b).length + 1 < l.length → o + 1 + b.dp ≤ 5 → acc.length ≤ i →
 ∃ cs Z, IsB b cs ∧ ∀ k, Z ≤ k → ∀ k', Z ≤ k' → act_reader_block_l0 (act_reader_block_f k) k' l (i : Int) 0 0 ((o + 1 : Nat) : Int) acc = some (acc ++ cs, at' l (i + (tkI b).length + 1) o)
theorem PB_of {b : B} (h : PI b) : PB b := fun l i o hl hs hi ho => by
 have hd := b.dp_pos
 unfold tkB at hs hi ⊢
 simp only [List.length_append, List.length_cons, List.length_nil] at hi ⊢
 have hs' : Seq l i ((3, s_lb, 0) :: (tkI b ++ [(3, s_rb, 0)])) := by simpa using hs
 obtain ⟨h1, h2, h3⟩ := hs'
 obtain ⟨cs, Z, ha, hr⟩ := h l (i + 1) o [] hl h3 (by omega) (by omega) (Nat.zero_le _)
 refine ⟨cs, Z + 2, ha, fun k hk => ?_⟩
 obtain ⟨k, rfl⟩ : ∃ j, k = j + 2 := ⟨k - 2, by omega⟩
 show act_reader_block_b (act_reader_block_f (k + 1)) (k + 1) (at' l i o) = _
 unfold act_reader_block_b
 rw [ais_lit h1 h2 s_lb true (by decide), bind_some_eq]
 dsimp only [cond_true]
 rw [if_neg (by show ¬ ((o : Nat) : Int) = 4; omega), act_reader_block_c0.eq_2]
 rw [show act_reader.mk (read_Row.mk (at' l i o).Row.L (at' l i o).Row.At (api_Fault.mk (at' l i o).Row.Fault.Code (at' l i o).Row.Fault.At)) (at' l i o).v_open = at' l i o from rfl, awant_st h1 hl (isT_yes h2 (Or.inl rfl)), bind_some_eq]
 show act_reader_block_l0 (act_reader_block_f (k + 1)) k l ((i + 1 : Nat) : Int) 0 0 (w64 (((o : Nat) : Int) + 1)) [] = _
 rw [show w64 (((o : Nat) : Int) + 1) = ((o + 1 : Nat) : Int) from by rw [w64_in (by omega) (by omega)]; omega, hr (k + 1) (by omega) k (by omega), List.nil_append]
 congr 3
 omega
theorem first_no {b : B} (hok : b.ok) {l : List api_Token} {i : Nat} (hs : Seq l i (tkI b ++ [(3, s_rb, 0)])) : isT (tkn l i) s_else = false := by
 cases b with
 | nil => exact isT_no hs.2.1 (.inr (by decide))
 | cons h th el rest =>
  obtain ⟨⟨_, hk⟩, _⟩ := hok
  simp only [tkI] at hs
  rcases hk with ⟨k, a, _⟩ | ⟨k, _⟩ | ⟨k, _⟩ | ⟨k, _⟩ | ⟨k, _⟩ | ⟨k, _⟩ | ⟨k, _⟩
  · unfold tkA at hs; rw [k] at hs; simp only [if_true] at hs
    exact isT_no hs.2.1 (.inr fun q => by rw [q] at a; revert a; decide)
  · unfold tkA at hs; rw [k] at hs; exact isT_no hs.2.1 (.inr (by decide))
  · unfold tkA at hs; rw [k] at hs; exact isT_no hs.2.1 (.inr (by decide))
  · unfold tkA at hs; rw [k] at hs; exact isT_no hs.2.1 (.inr (by decide))
  · unfold tkA at hs; rw [k] at hs; exact isT_no hs.2.1 (.inr (by decide))
  · unfold tkA at hs; rw [k] at hs; exact isT_no hs.2.1 (.inr (by decide))
  · unfold tkA at hs; rw [k] at hs; exact isT_no hs.2.1 (.inr (by decide))
def IsA (h : H) (th el : B) (a : api_Act) : Prop := a.Kind = h.kind ∧ a.Name = h.name ∧ a.Event = h.ev ∧ IsX h.x a.X ∧ a.N = h.n ∧ IsB th a.Then ∧ IsB el a.Else
theorem anumber_st {x : Option T} (hx : xok x) {l : List api_Token} {i o : Nat} (hl : l.length ≤ 100000) (hs : Seq l i (tkX x ++ [(3, s_semi, 0)])) :
 ∃ X, IsX x X ∧ act_reader_number (at' l i o) = some (X, at' l (i + (tkX x).length) o) := by
 cases x with
 | none =>
  obtain ⟨h1, h2, -⟩ := hs
  refine ⟨[], rfl, ?_⟩
  unfold act_reader_number
  rw [ais_lit h1 h2 s_lp false (by decide), bind_some_eq]
  rfl
 | some t =>
  obtain ⟨hs1, hs2⟩ := Seq.append.1 hs
  obtain ⟨e, he, hp⟩ := ainside_st (o := o) hx.1 hx.2 hl hs1
  obtain ⟨h1, h2, -⟩ := hs1
  refine ⟨[e], ⟨e, rfl, he⟩, ?_⟩
  unfold act_reader_number
  rw [ais_lit h1 h2 s_lp true (by decide), bind_some_eq]
  dsimp only [Bool.not_true, cond_false]
  rw [Bool.not_true, cond_false, hp, bind_some_eq]
  show some ([e], at' l (i + (toks t 1).length + 2) o) = some ([e], at' l (i + ((3, s_lp, 0) :: toks t 1 ++ [(3, s_rp, 0)]).length) o)
  congr 3
  simp
  omega
theorem aname_lit {l : List api_Token} {i o : Nat} (hi : i < l.length) (hl : l.length ≤ 100000) {s : List UInt8} (h : strip (tkn l i) = (1, s, 0)) (hn : nameP s = true) : read_Row_Name (at' l i o) = some (s, at' l (i + 1) o) := by
 obtain ⟨k1, k2, _⟩ := kind_of h
 rw [aname_st hi hl k1 (by rw [k2]; exact (name_split hn).2.2.1), k2]
theorem aisname_lit {l : List api_Token} {i o : Nat} (hi : i < l.length) {k : Int} {s : List UInt8} {n : Int} (h : strip (tkn l i) = (k, s, n)) (b : Bool) (hb : b = (decide (k = 1) && !resP s)) : read_Row_IsName (at' l i o) = some (b, at' l i o) := by
 obtain ⟨k1, k2, _⟩ := kind_of h
 rw [aisname_st hi, k1, k2, hb]
theorem act_ok {h : H} {th el : B} (hok : h.ok th el) (hth : PB th) (hel : PB el) {l : List api_Token} {i o : Nat} (hl : l.length ≤ 100000) (hs : Seq l i (tkA h (tkI th) (tkI el) el.isNil)) (hi : i + (tkA h (tkI th) (tkI el) el.isNil).length < l.length)
 (hno : isT (tkn l (i + (tkA h (tkI th) (tkI el) el.isNil).length)) s_else = false) (hd1 : h.kind = 6 ∨ h.kind = 7 → o + th.dp ≤ 4) (hd2 : el.isNil = false → o + el.dp ≤ 4) :
 ∃ a Z, IsA h th el a ∧ ∀ k, Z ≤ k → act_reader_act_1 (act_reader_block_f k) (at' l i o) = some (a, at' l (i + (tkA h (tkI th) (tkI el) el.isNil).length) o) := by
 obtain ⟨hx, hk⟩ := hok
 have hfirst : i < l.length := by omega
 rcases hk with ⟨k, a, b, c, d, e, f⟩ | ⟨k, a, b, c, d, e⟩ | ⟨k, a, b, c, d, e⟩ | ⟨k, a, b, c, d, e, f⟩ | ⟨k, a, b, c, d, e, f⟩ | ⟨k, a, b, c, d⟩ | ⟨k, a, b, c, d, e, f⟩
 · -- x = e;
   have ht : tkA h (tkI th) (tkI el) el.isNil = (1, h.name, 0) :: (3, s_eq, 0) :: (tkE h.x ++ [(3, s_semi, 0)]) := by unfold tkA; rw [k]; rfl
   rw [ht] at hs hi ⊢
   simp only [List.length_cons, List.length_append, List.length_nil] at hi ⊢
   obtain ⟨h1, h2, h3, h4, hr⟩ := hs
   cases hxx : h.x with
   | none => exact absurd hxx c
   | some t =>
    rw [hxx] at hx hr hi
    obtain ⟨hs1, h5, h6, -⟩ := Seq.append.1 hr
    have hs1 : Seq l (i + 1 + 1) (toks t 1) := hs1
    have h5 : i + 1 + 1 + (toks t 1).length < l.length := h5
    have h6 : strip (tkn l (i + 1 + 1 + (toks t 1).length)) = (3, s_semi, 0) := h6
    obtain ⟨e', he, hp⟩ := aexpr_st (o := o) hx.1 hx.2 hl hs1 h5 (by rw [slv_of h6]; decide)
    refine ⟨api_Act.mk 1 h.name [] [e'] 0 [] [] (tkn l i).At, 0, ⟨k.symm, rfl, b.symm, by rw [hxx]; exact ⟨e', rfl, he⟩, d.symm, by subst e; exact rfl, by subst f; exact rfl⟩, fun q hq => ?_⟩
    unfold act_reader_act_1
    rw [alook_st h1, bind_some_eq]
    dsimp only
    rw [aisname_lit h1 h2 true (by rw [(name_split a).2.2.1]; rfl), bind_some_eq]
    dsimp only [cond_true]
    rw [aname_lit h1 hl h2 a, bind_some_eq]
    dsimp only
    rw [awant_st h3 hl (isT_yes h4 (Or.inl rfl)), bind_some_eq, hp, bind_some_eq]
    dsimp only
    rw [awant_st h5 hl (isT_yes h6 (Or.inl rfl)), bind_some_eq]
    rw [show i + 1 + 1 + (toks t 1).length + 1 = i + ((tkE (some t)).length + (0 + 1) + 1 + 1) from by simp [tkE]; omega]
 · -- raise
   have ht : tkA h (tkI th) (tkI el) el.isNil = (1, s_raise, 0) :: (1, h.ev, 0) :: (tkX h.x ++ [(3, s_semi, 0)]) := by unfold tkA; rw [k]; rfl
   rw [ht] at hs hi ⊢
   simp only [List.length_cons, List.length_append, List.length_nil] at hi ⊢
   obtain ⟨h1, h2, h3, h4, hr⟩ := hs
   obtain ⟨X, hX, hp⟩ := anumber_st (o := o) hx hl hr
   obtain ⟨-, h5, h6, -⟩ := Seq.append.1 hr
   refine ⟨api_Act.mk 2 [] h.ev X 0 [] [] (tkn l i).At, 0, ⟨k.symm, a.symm, rfl, hX, c.symm, by subst d; exact rfl, by subst e; exact rfl⟩, fun q hq => ?_⟩
   unfold act_reader_act_1
   rw [alook_st h1, bind_some_eq]
   dsimp only
   rw [aisname_lit h1 h2 false (by decide), bind_some_eq]
   rw [cond_false]
   dsimp only
   rw [alit h1 hl h2 s_raise true (by decide), bind_some_eq, if_pos rfl, cond_true]
   dsimp only
   rw [aname_lit h3 hl h4 b, bind_some_eq]
   dsimp only
   rw [hp, bind_some_eq]
   dsimp only
   rw [awant_st h5 hl (isT_yes h6 (Or.inl rfl)), bind_some_eq]
   rw [show i + 1 + 1 + (tkX h.x).length + 1 = i + ((tkX h.x).length + (0 + 1) + 1 + 1) from by omega]
 · -- send
   have ht : tkA h (tkI th) (tkI el) el.isNil = (1, s_send, 0) :: (1, h.name, 0) :: (1, h.ev, 0) :: (tkX h.x ++ [(3, s_semi, 0)]) := by unfold tkA; rw [k]; rfl
   rw [ht] at hs hi ⊢
   simp only [List.length_cons, List.length_append, List.length_nil] at hi ⊢
   obtain ⟨h1, h2, h3, h4, h3', h4', hr⟩ := hs
   obtain ⟨X, hX, hp⟩ := anumber_st (o := o) hx hl hr
   obtain ⟨-, h5, h6, -⟩ := Seq.append.1 hr
   refine ⟨api_Act.mk 3 h.name h.ev X 0 [] [] (tkn l i).At, 0, ⟨k.symm, rfl, rfl, hX, c.symm, by subst d; exact rfl, by subst e; exact rfl⟩, fun q hq => ?_⟩
   unfold act_reader_act_1
   rw [alook_st h1, bind_some_eq]
   dsimp only
   rw [aisname_lit h1 h2 false (by decide), bind_some_eq]
   rw [cond_false]
   dsimp only
   rw [alit h1 hl h2 s_raise false (by decide), bind_some_eq, if_neg (by decide), cond_false]
   dsimp only
   rw [alit h1 hl h2 s_send true (by decide), bind_some_eq, if_pos rfl, cond_true]
   dsimp only
   rw [aname_lit h3 hl h4 a, bind_some_eq]
   dsimp only
   rw [aname_lit h3' hl h4' b, bind_some_eq]
   dsimp only
   rw [hp, bind_some_eq]
   dsimp only
   rw [awant_st h5 hl (isT_yes h6 (Or.inl rfl)), bind_some_eq]
   rw [show i + 1 + 1 + 1 + (tkX h.x).length + 1 = i + ((tkX h.x).length + (0 + 1) + 1 + 1 + 1) from by omega]
 · -- arm
   have ht : tkA h (tkI th) (tkI el) el.isNil = (1, s_arm, 0) :: (1, h.name, 0) :: (tkX h.x ++ [(3, s_semi, 0)]) := by unfold tkA; rw [k]; rfl
   rw [ht] at hs hi ⊢
   simp only [List.length_cons, List.length_append, List.length_nil] at hi ⊢
   obtain ⟨h1, h2, h3, h4, hr⟩ := hs
   cases hxx : h.x with
   | none => exact absurd hxx c
   | some t =>
    rw [hxx] at hx hr hi
    obtain ⟨hs1, h5, h6, -⟩ := Seq.append.1 hr
    obtain ⟨e', he, hp⟩ := ainside_st (o := o) hx.1 hx.2 hl hs1
    have hl5 : (tkX (some t)).length = (toks t 1).length + 2 := by simp [tkX]
    rw [hl5] at h5 h6 hi ⊢
    have e6 : i + 1 + 1 + (toks t 1).length + 2 = i + 1 + 1 + ((toks t 1).length + 2) := by omega
    refine ⟨api_Act.mk 4 h.name [] [e'] 0 [] [] (tkn l i).At, 0, ⟨k.symm, rfl, b.symm, by rw [hxx]; exact ⟨e', rfl, he⟩, d.symm, by subst e; exact rfl, by subst f; exact rfl⟩, fun q hq => ?_⟩
    unfold act_reader_act_1
    rw [alook_st h1, bind_some_eq]
    dsimp only
    rw [aisname_lit h1 h2 false (by decide), bind_some_eq]
    rw [cond_false]
    dsimp only
    rw [alit h1 hl h2 s_raise false (by decide), bind_some_eq, if_neg (by decide), cond_false]
    dsimp only
    rw [alit h1 hl h2 s_send false (by decide), bind_some_eq, if_neg (by decide), cond_false]
    dsimp only
    rw [alit h1 hl h2 s_arm true (by decide), bind_some_eq, if_pos rfl, cond_true]
    dsimp only
    rw [aname_lit h3 hl h4 a, bind_some_eq]
    dsimp only
    rw [hp, bind_some_eq, e6]
    dsimp only
    rw [awant_st h5 hl (isT_yes h6 (Or.inl rfl)), bind_some_eq]
    rw [show i + 1 + 1 + ((toks t 1).length + 2) + 1 = i + ((toks t 1).length + 2 + (0 + 1) + 1 + 1) from by omega]
 · -- cancel
   have ht : tkA h (tkI th) (tkI el) el.isNil = [(1, s_cancel, 0), (1, h.name, 0), (3, s_semi, 0)] := by unfold tkA; rw [k]; rfl
   rw [ht] at hs hi ⊢
   simp only [List.length_cons, List.length_nil] at hi ⊢
   obtain ⟨h1, h2, h3, h4, h5, h6, -⟩ := hs
   refine ⟨api_Act.mk 5 h.name [] [] 0 [] [] (tkn l i).At, 0, ⟨k.symm, rfl, b.symm, by rw [c]; exact rfl, d.symm, by subst e; exact rfl, by subst f; exact rfl⟩, fun q hq => ?_⟩
   unfold act_reader_act_1
   rw [alook_st h1, bind_some_eq]
   dsimp only
   rw [aisname_lit h1 h2 false (by decide), bind_some_eq]
   rw [cond_false]
   dsimp only
   rw [alit h1 hl h2 s_raise false (by decide), bind_some_eq, if_neg (by decide), cond_false]
   dsimp only
   rw [alit h1 hl h2 s_send false (by decide), bind_some_eq, if_neg (by decide), cond_false]
   dsimp only
   rw [alit h1 hl h2 s_arm false (by decide), bind_some_eq, if_neg (by decide), cond_false]
   dsimp only
   rw [alit h1 hl h2 s_cancel true (by decide), bind_some_eq, if_pos rfl, cond_true]
   dsimp only
   rw [aname_lit h3 hl h4 a, bind_some_eq]
   dsimp only
   rw [awant_st h5 hl (isT_yes h6 (Or.inl rfl)), bind_some_eq]
 · -- if
   cases hxx : h.x with
   | none => exact absurd hxx c
   | some t =>
    rw [hxx] at hx
    have hl5 : (tkX (some t)).length = (toks t 1).length + 2 := by simp [tkX]
    have ht : tkA h (tkI th) (tkI el) el.isNil = (1, s_if, 0) :: (tkX (some t) ++ (tkB th ++ (bif el.isNil then [] else (1, s_else, 0) :: tkB el))) := by unfold tkA tkB; rw [k, hxx]; simp
    rw [ht] at hs hi hno ⊢
    simp only [List.length_cons, List.length_append] at hi hno ⊢
    rw [hl5] at hi hno ⊢
    obtain ⟨h1, h2, hr⟩ := hs
    obtain ⟨hs1, hr2⟩ := Seq.append.1 hr
    rw [hl5] at hr2
    obtain ⟨hs2, hr3⟩ := Seq.append.1 hr2
    obtain ⟨e', he, hp⟩ := ainside_st (o := o) hx.1 hx.2 hl hs1
    have e6 : i + 1 + (toks t 1).length + 2 = i + 1 + ((toks t 1).length + 2) := by omega
    rw [e6] at hp
    obtain ⟨cs, Z, hcs, hcr⟩ := hth l (i + 1 + ((toks t 1).length + 2)) o hl hs2 (by omega) (hd1 (.inl k))
    have head : ∀ q, act_reader_act_1 (act_reader_block_f q) (at' l i o) = (act_reader_whole_1 (act_reader_block_f q) (at' l i o) (api_Act.mk 0 [] [] [] 0 [] [] (tkn l i).At)).bind fun r24 =>
     some (api_Act.mk r24.1.Kind r24.1.Name r24.1.Event r24.1.X r24.1.N r24.1.Then r24.1.Else r24.1.At, r24.2) := fun q => by
     unfold act_reader_act_1
     rw [alook_st h1, bind_some_eq]
     dsimp only
     rw [aisname_lit h1 h2 false (by decide), bind_some_eq]
     rw [cond_false]
     dsimp only
     rw [alit h1 hl h2 s_raise false (by decide), bind_some_eq, if_neg (by decide), cond_false]
     dsimp only
     rw [alit h1 hl h2 s_send false (by decide), bind_some_eq, if_neg (by decide), cond_false]
     dsimp only
     rw [alit h1 hl h2 s_arm false (by decide), bind_some_eq, if_neg (by decide), cond_false]
     dsimp only
     rw [alit h1 hl h2 s_cancel false (by decide), bind_some_eq, if_neg (by decide), cond_false]
     dsimp only
     rw [ais_lit h1 h2 s_if true (by decide), bind_some_eq, cond_true, cond_true]
    have whole : ∀ q, Z ≤ q → act_reader_whole_1 (act_reader_block_f q) (at' l i o) (api_Act.mk 0 [] [] [] 0 [] [] (tkn l i).At) = (read_Row_Take (at' l (i + 1 + ((toks t 1).length + 2) + (tkB th).length) o) s_else).bind fun r7 =>
     bif r7.1 then
     (act_reader_block_f q r7.2).bind fun r8 =>
     some (api_Act.mk 6 [] [] [e'] 0 cs r8.1 (tkn l i).At, r8.2) else
     some (api_Act.mk 6 [] [] [e'] 0 cs [] (tkn l i).At, r7.2) := fun q hq => by
     unfold act_reader_whole_1
     rw [alit h1 hl h2 s_loop false (by decide), bind_some_eq, if_neg (by decide), cond_false]
     dsimp only
     rw [awant_st h1 hl (isT_yes h2 (Or.inr rfl)), bind_some_eq, hp, bind_some_eq]
     dsimp only
     rw [hcr q hq, bind_some_eq]
    cases hnil : el.isNil with
    | true =>
     have hel0 : el = .nil := by cases el with
      | nil => rfl
      | cons _ _ _ _ => cases hnil
     rw [hnil] at hno
     simp only [cond_true, List.length_nil, Nat.add_zero] at hno ⊢
     rw [hnil] at hi
     simp only [cond_true, List.length_nil, Nat.add_zero] at hi
     have ee : i + 1 + ((toks t 1).length + 2) + (tkB th).length = i + ((toks t 1).length + 2 + (tkB th).length + 1) := by omega
     refine ⟨api_Act.mk 6 [] [] [e'] 0 cs [] (tkn l i).At, Z, ⟨k.symm, a.symm, b.symm, by rw [hxx]; exact ⟨e', rfl, he⟩, d.symm, hcs, by rw [hel0]; exact rfl⟩, fun q hq => ?_⟩
     rw [head, whole q hq, ee, atake_st (by omega) hl, hno, bind_some_eq, if_neg (by decide), cond_false, bind_some_eq]
    | false =>
     rw [hnil] at hr3 hi
     simp only [cond_false, List.length_cons] at hr3 hi ⊢
     obtain ⟨h7, h8, hr4⟩ := hr3
     obtain ⟨ds, Z2, hds, hdr⟩ := hel l _ o hl hr4 (by omega) (hd2 hnil)
     refine ⟨api_Act.mk 6 [] [] [e'] 0 cs ds (tkn l i).At, Z + Z2, ⟨k.symm, a.symm, b.symm, by rw [hxx]; exact ⟨e', rfl, he⟩, d.symm, hcs, hds⟩, fun q hq => ?_⟩
     rw [head, whole q (by omega), alit h7 hl h8 s_else true (by decide), bind_some_eq, if_pos rfl, cond_true]
     dsimp only
     rw [hdr q (by omega), bind_some_eq, bind_some_eq]
     rw [show i + 1 + ((toks t 1).length + 2) + (tkB th).length + 1 + (tkB el).length = i + ((toks t 1).length + 2 + ((tkB th).length + ((tkB el).length + 1)) + 1) from by omega]
 · -- loop
   have ht : tkA h (tkI th) (tkI el) el.isNil = (1, s_loop, 0) :: (2, Lib.itoa h.n, h.n) :: tkB th := by unfold tkA tkB; rw [k]; rfl
   rw [ht] at hs hi ⊢
   simp only [List.length_cons] at hi ⊢
   obtain ⟨h1, h2, h3, h4, hr⟩ := hs
   obtain ⟨cs, Z, hcs, hcr⟩ := hth l (i + 1 + 1) o hl hr (by omega) (hd1 (.inr k))
   refine ⟨api_Act.mk 7 [] [] [] h.n cs [] (tkn l i).At, Z, ⟨k.symm, a.symm, b.symm, by rw [c]; exact rfl, rfl, hcs, by subst f; exact rfl⟩, fun q hq => ?_⟩
   unfold act_reader_act_1
   rw [alook_st h1, bind_some_eq]
   dsimp only
   rw [aisname_lit h1 h2 false (by decide), bind_some_eq]
   rw [cond_false]
   dsimp only
   rw [alit h1 hl h2 s_raise false (by decide), bind_some_eq, if_neg (by decide), cond_false]
   dsimp only
   rw [alit h1 hl h2 s_send false (by decide), bind_some_eq, if_neg (by decide), cond_false]
   dsimp only
   rw [alit h1 hl h2 s_arm false (by decide), bind_some_eq, if_neg (by decide), cond_false]
   dsimp only
   rw [alit h1 hl h2 s_cancel false (by decide), bind_some_eq, if_neg (by decide), cond_false]
   dsimp only
   rw [ais_lit h1 h2 s_if false (by decide), bind_some_eq, cond_false]
   dsimp only
   rw [ais_lit h1 h2 s_loop true (by decide), bind_some_eq, cond_true]
   dsimp only
   unfold act_reader_whole_1
   rw [alit h1 hl h2 s_loop true (by decide), bind_some_eq, if_pos rfl, cond_true]
   dsimp only
   have hnum : read_Row_Number (at' l (i + 1) o) = some (h.n, at' l (i + 1 + 1) o) := by
    unfold read_Row_Number
    rw [alook_st h3, bind_some_eq]
    dsimp only
    rw [if_neg (by rw [(kind_of h4).1]; decide), (kind_of h4).2.2]
    show some (h.n, (⟨⟨l, w64 (((i + 1 : Nat) : Int) + 1), ⟨0, 0⟩⟩, (o : Int)⟩ : act_reader)) = _
    rw [next_i h3 hl]; rfl
   rw [hnum, bind_some_eq]
   dsimp only
   rw [hcr q hq, bind_some_eq, bind_some_eq]
   rw [show i + 1 + 1 + (tkB th).length = i + ((tkB th).length + 1 + 1) from by omega]
end Go.Sy.Ex
namespace Go.Sy.Ex
open Go.Sy
theorem first_rb {h : H} {th el : B} {K : List Tk} (hok : h.ok th el) {l : List api_Token} {i : Nat} (hs : Seq l i (tkA h (tkI th) (tkI el) el.isNil ++ K)) : i < l.length ∧ isT (tkn l i) s_rb = false := by
 obtain ⟨_, hk⟩ := hok
 rcases hk with ⟨k, a, _⟩ | ⟨k, _⟩ | ⟨k, _⟩ | ⟨k, _⟩ | ⟨k, _⟩ | ⟨k, _⟩ | ⟨k, _⟩
 · unfold tkA at hs; rw [k] at hs; simp only [if_true] at hs
   exact ⟨hs.1, isT_no hs.2.1 (.inr fun q => by rw [q] at a; revert a; decide)⟩
 all_goals unfold tkA at hs; rw [k] at hs; exact ⟨hs.1, isT_no hs.2.1 (.inr (by decide))⟩
theorem PI_of : ∀ b : B, b.ok → PI b := by
 intro b
 induction b with
 | nil =>
  intro _ l i o acc hl hs hi ho hacc
  obtain ⟨h1, h2, -⟩ := hs
  refine ⟨[], 1, rfl, fun k hk k' hk' => ?_⟩
  obtain ⟨k', rfl⟩ : ∃ j, k' = j + 1 := ⟨k' - 1, by omega⟩
  rw [act_reader_block_l0.eq_2]
  rw [show act_reader.mk (read_Row.mk l (i : Int) (api_Fault.mk 0 0)) ((o + 1 : Nat) : Int) = at' l i (o + 1) from rfl, aok_st, bind_some_eq, cond_true]
  dsimp only
  rw [alit h1 hl h2 s_rb true (by decide), bind_some_eq, if_pos rfl, Bool.not_true, cond_false, List.append_nil]
  show some (acc, (⟨⟨l, ((i + 1 : Nat) : Int), ⟨0, 0⟩⟩, w64 (((o + 1 : Nat) : Int) - 1)⟩ : act_reader)) = _
  rw [show w64 (((o + 1 : Nat) : Int) - 1) = (o : Int) from by rw [w64_in (by omega) (by omega)]; omega]
  rfl
 | cons h th el rest ih1 ih2 ih3 =>
  rintro ⟨hok, okt, oke, okr⟩ l i o acc hl hs hi ho hacc
  have hd : o + 1 + (B.cons h th el rest).dp ≤ 5 := ho
  simp only [B.dp] at hd
  have hd1 : h.kind = 6 ∨ h.kind = 7 → o + 1 + th.dp ≤ 4 := fun q => by rw [if_pos q] at hd; omega
  have hd2 : el.isNil = false → o + 1 + el.dp ≤ 4 := fun q => by rw [q, cond_false] at hd; omega
  simp only [tkI] at hs hi ⊢
  rw [List.append_assoc] at hs
  obtain ⟨hf1, hf2⟩ := first_rb hok hs
  obtain ⟨hs1, hs2⟩ := Seq.append.1 hs
  simp only [List.length_append] at hi ⊢
  obtain ⟨a, Z, ha, hra⟩ := act_ok (o := o + 1) hok (PB_of (ih1 okt)) (PB_of (ih2 oke)) hl hs1 (by omega) (first_no okr hs2) hd1 hd2
  have hapos : 1 ≤ (tkA h (tkI th) (tkI el) el.isNil).length := by
   unfold tkA; repeat' split
   all_goals simp
  obtain ⟨cs, Z2, hcs, hrc⟩ := ih3 okr l (i + (tkA h (tkI th) (tkI el) el.isNil).length) o (acc ++ [a]) hl hs2 (by omega) (by omega) (by rw [List.length_append, List.length_singleton]; omega)
  refine ⟨a :: cs, Z + Z2 + 1, ⟨a, cs, rfl, ha.1, ha.2.1, ha.2.2.1, ha.2.2.2.1, ha.2.2.2.2.1, ha.2.2.2.2.2.1, ha.2.2.2.2.2.2, hcs⟩, fun k hk k' hk' => ?_⟩
  obtain ⟨k', rfl⟩ : ∃ j, k' = j + 1 := ⟨k' - 1, by omega⟩
  rw [act_reader_block_l0.eq_2]
  rw [show act_reader.mk (read_Row.mk l (i : Int) (api_Fault.mk 0 0)) ((o + 1 : Nat) : Int) = at' l i (o + 1) from rfl, aok_st, bind_some_eq, cond_true]
  dsimp only
  rw [atake_st hf1 hl, bind_some_eq, hf2, Bool.not_false, cond_true, if_neg (by decide), hra k (by omega), bind_some_eq, if_pos (by simp only [List.length_singleton]; omega)]
  have := hrc k (by omega) k' (by omega)
  rw [show acc ++ a :: cs = (acc ++ [a]) ++ cs from by simp, show i + ((tkA h (tkI th) (tkI el) el.isNil).length + (tkI rest).length) + 1 = i + (tkA h (tkI th) (tkI el) el.isNil).length + (tkI rest).length + 1 from by omega]
  exact this
theorem read_block {b : B} (hok : b.ok) (hd : b.dp ≤ 4) {s : List UInt8} (h : Lx s (tkB b)) (hl : s.length ≤ 16384) : ∃ l cs, allP s = (l, api_Fault.mk 0 0) ∧ l.length = (tkB b).length + 1 ∧ IsB b cs ∧ act_Parse l 0 = some (cs, ((tkB b).length : Int), ⟨0, 0⟩) := by
 obtain ⟨l, h1, h2⟩ := h.all hl
 have hlen : l.length = (tkB b).length + 1 := by
  have := congrArg List.length h2
  simpa using this
 have hll : l.length ≤ 100000 := by have := allP_len s; rw [h1] at this; dsimp only at this; omega
 have hs : Seq l 0 (tkB b) := seq_of (R := [(4, [], 0)]) (by rw [List.drop_zero]; exact h2)
 obtain ⟨cs, Z, hcs, hr⟩ := PB_of (PI_of b hok) l 0 0 hll hs (by omega) (by omega)
 refine ⟨l, cs, h1, hlen, hcs, ?_⟩
 unfold act_Parse
 rw [show act_reader_block (act_reader.mk (read_Row.mk l 0 (api_Fault.mk 0 0)) 0) = some (cs, at' l (0 + (tkB b).length) 0) from lim_eq Z hr, bind_some_eq, aok_st, bind_some_eq, Bool.not_true, cond_false, Nat.zero_add]
 rfl
theorem law_read_block {b : B} (hok : b.ok) (hd : b.dp ≤ 4) {s : List UInt8} (h : Lx s (tkB b)) (hl : s.length ≤ 16384) : ∃ cs, IsB b cs ∧ law8_read s = some (cs, true) := by
 obtain ⟨l, cs, h1, h2, h3, h4⟩ := read_block hok hd h hl
 refine ⟨cs, h3, ?_⟩
 unfold law8_read
 rw [lAll_eq, bind_some_eq, h1]
 dsimp only
 rw [if_neg (by simp), h4, bind_some_eq]
 dsimp only
 have hll : l.length ≤ 16385 := by have := allP_len s; rw [h1] at this; exact this
 rw [if_pos rfl, w64_in (by omega) (by omega), decide_eq_true (by omega)]
def rep (n : Nat) : List UInt8 := Lib.repeatL s_sp_sp n
def prX : Option T → List UInt8
 | none => []
 | some t => pr t 1
def wX : Option T → List UInt8
 | none => []
 | some t => s_lp ++ pr t 1 ++ s_rp
def prA (h : H) (th el : List UInt8) (noel : Bool) : List UInt8 :=
 if h.kind = 1 then h.name ++ s_sp_eq_sp ++ prX h.x ++ s_semi
  else if h.kind = 2 then s_raise_x7823e ++ h.ev ++ wX h.x ++ s_semi
  else if h.kind = 3 then s_send_xe0272 ++ h.name ++ s_sp ++ h.ev ++ wX h.x ++ s_semi
  else if h.kind = 4 then s_arm_x6c666 ++ h.name ++ wX h.x ++ s_semi
  else if h.kind = 5 then s_cancel_x1c990 ++ h.name ++ s_semi
  else if h.kind = 6 then s_if_xec554 ++ wX h.x ++ s_sp ++ th ++ (bif noel then [] else s_else_xf7d30 ++ el)
  else s_loop_xf5f27 ++ Lib.itoa h.n ++ s_sp ++ th
def blk (b : B) (s : List UInt8) (d : Nat) : List UInt8 := bif b.isNil then s_lb_rb else s_lb_nl ++ s ++ rep d ++ s_rb
def prI : B → Nat → List UInt8
 | .nil, _ => []
 | .cons h th el rest, d => rep d ++ prA h (blk th (prI th (d + 1)) d) (blk el (prI el (d + 1)) d) el.isNil ++ [10] ++ prI rest d
def prB (b : B) (d : Nat) : List UInt8 := blk b (prI b (d + 1)) d
theorem rep_blank : ∀ n, skipB (rep n) = [] ∧ ∀ x ∈ rep n, x = 32
 | 0 => ⟨rfl, fun x hx => by cases hx⟩
 | n + 1 => by
  obtain ⟨h1, h2⟩ := rep_blank n
  refine ⟨?_, fun x hx => ?_⟩
  · show skipB ([32, 32] ++ rep n) = []
    unfold skipB at h1 ⊢
    rw [List.cons_append, List.cons_append, List.nil_append, List.dropWhile_cons_of_pos (by decide), List.dropWhile_cons_of_pos (by decide), h1]
  · have hx : x ∈ [32, 32] ++ rep n := hx
    rw [List.mem_append] at hx
    rcases hx with hx | hx
    · simpa using hx
    · exact h2 x hx
theorem Lx.blank {s : List UInt8} (h : skipB s = []) : Lx s [] := fun n => ⟨[], .nil h, rfl⟩
theorem Lx.appL {a b : List UInt8} {Ka Kb : List Tk} (ha : Lx a Ka) (hb : Lx b Kb) (h : ∀ x, a.getLast? = some x → nm x = false ∧ h1 x = true) : Lx (a ++ b) (Ka ++ Kb) := Lx.append ha hb (sepB_l h)
theorem Lx.appR {a b : List UInt8} {Ka Kb : List Tk} (ha : Lx a Ka) (hb : Lx b Kb) (h : ∀ y, b.head? = some y → nm y = false ∧ h2 y = true) : Lx (a ++ b) (Ka ++ Kb) := Lx.append ha hb (sepB_r h)
theorem wX_lx {x : Option T} (h : xok x) : Lx (wX x) (tkX x) := by
 cases x with
 | none => exact Lx.blank rfl
 | some t =>
  exact Lx.appR (Lx.appL (a := [40]) (Ka := [(3, s_lp, 0)]) (lexF_ok 2 (by decide)) (pr_lx t 1 h.1) (fun x hx => by cases hx; decide)) (Kb := [(3, s_rp, 0)]) (lexF_ok 2 (by decide)) (fun x hx => by cases hx; decide)
theorem wX_head (x : Option T) (u : List UInt8) (hu : ∀ y, u.head? = some y → nm y = false ∧ h2 y = true) : ∀ y, (wX x ++ u).head? = some y → nm y = false ∧ h2 y = true := by
 cases x with
 | none => exact hu
 | some t => intro y hy; cases hy; decide
theorem semi_lx : Lx s_semi [(3, s_semi, 0)] := lexF_ok 2 (by decide)
theorem semi_head : ∀ y, s_semi.head? = some y → nm y = false ∧ h2 y = true := fun y hy => by cases hy; decide
theorem prA_lx {h : H} {th el : B} {st se : List UInt8} {kt ke : List Tk} (hok : h.ok th el) (ht : Lx st ((3, s_lb, 0) :: kt ++ [(3, s_rb, 0)])) (he : Lx se ((3, s_lb, 0) :: ke ++ [(3, s_rb, 0)])) (htl : ∀ x, st.getLast? = some x → nm x = false ∧ h1 x = true) : Lx (prA h st se el.isNil) (tkA h kt ke el.isNil) := by
 obtain ⟨hx, hk⟩ := hok
 rcases hk with ⟨k, a, b, c, d, e, f⟩ | ⟨k, a, b, c, d, e⟩ | ⟨k, a, b, c, d, e⟩ | ⟨k, a, b, c, d, e, f⟩ | ⟨k, a, b, c, d, e, f⟩ | ⟨k, a, b, c, d⟩ | ⟨k, a, b, c, d, e, f⟩
 · unfold prA tkA
   rw [k, if_pos rfl, if_pos rfl]
   cases hxx : h.x with
   | none => exact absurd hxx c
   | some t =>
    rw [hxx] at hx
    exact Lx.appR (Ka := (1, h.name, 0) :: (3, s_eq, 0) :: tkE (some t)) (Lx.appL (a := h.name ++ s_sp_eq_sp) (Ka := [(1, h.name, 0), (3, s_eq, 0)]) (Lx.appR (Lx.name a) (lexF_ok 3 (by decide)) (fun x hx => by cases hx; decide)) (pr_lx t 1 hx.1) (fun x hx => by rw [show h.name ++ s_sp_eq_sp = (h.name ++ [32, 61]) ++ [32] from by simp, List.getLast?_concat] at hx; cases hx; decide)) semi_lx semi_head
 · unfold prA tkA
   rw [k, if_neg (by decide), if_pos rfl, if_neg (by decide), if_pos rfl]
   rw [List.append_assoc]
   exact Lx.appR (Ka := [(1, s_raise, 0), (1, h.ev, 0)]) (Lx.appL (Ka := [(1, s_raise, 0)]) (lexF_ok 3 (by decide)) (Lx.name b) (fun x hx => by cases hx; decide)) (Lx.appR (wX_lx hx) semi_lx semi_head) (wX_head _ _ semi_head)
 · unfold prA tkA
   rw [k, if_neg (by decide), if_neg (by decide), if_pos rfl, if_neg (by decide), if_neg (by decide), if_pos rfl]
   rw [List.append_assoc]
   refine Lx.appR (Ka := [(1, s_send, 0), (1, h.name, 0), (1, h.ev, 0)]) (Lx.appL (a := s_send_xe0272 ++ h.name ++ s_sp) (Ka := [(1, s_send, 0), (1, h.name, 0)]) (Lx.appR (Ka := [(1, s_send, 0), (1, h.name, 0)]) (Kb := []) (Lx.appL (Ka := [(1, s_send, 0)]) (lexF_ok 3 (by decide)) (Lx.name a) (fun x hx => by cases hx; decide)) (Lx.blank (by decide)) (fun x hx => by cases hx; decide)) (Lx.name b) (fun x hx => ?_)) (Lx.appR (wX_lx hx) semi_lx semi_head) (wX_head _ _ semi_head)
   rw [List.getLast?_concat] at hx; cases hx; decide
 · unfold prA tkA
   rw [k, if_neg (by decide), if_neg (by decide), if_neg (by decide), if_pos rfl, if_neg (by decide), if_neg (by decide), if_neg (by decide), if_pos rfl]
   rw [List.append_assoc]
   exact Lx.appR (Ka := [(1, s_arm, 0), (1, h.name, 0)]) (Lx.appL (Ka := [(1, s_arm, 0)]) (lexF_ok 3 (by decide)) (Lx.name a) (fun x hx => by cases hx; decide)) (Lx.appR (wX_lx hx) semi_lx semi_head) (wX_head _ _ semi_head)
 · unfold prA tkA
   rw [k, if_neg (by decide), if_neg (by decide), if_neg (by decide), if_neg (by decide), if_pos rfl, if_neg (by decide), if_neg (by decide), if_neg (by decide), if_neg (by decide), if_pos rfl]
   exact Lx.appR (Ka := [(1, s_cancel, 0), (1, h.name, 0)]) (Lx.appL (Ka := [(1, s_cancel, 0)]) (lexF_ok 3 (by decide)) (Lx.name a) (fun x hx => by cases hx; decide)) semi_lx semi_head
 · unfold prA tkA
   rw [k, if_neg (by decide), if_neg (by decide), if_neg (by decide), if_neg (by decide), if_neg (by decide), if_pos rfl, if_neg (by decide), if_neg (by decide), if_neg (by decide), if_neg (by decide), if_neg (by decide), if_pos rfl]
   have h3 : Lx (s_if_xec554 ++ wX h.x ++ s_sp) ((1, s_if, 0) :: tkX h.x) := by
    have := Lx.appR (a := s_if_xec554 ++ wX h.x) (Ka := (1, s_if, 0) :: tkX h.x) (Kb := []) (Lx.appL (a := s_if_xec554) (Ka := [(1, s_if, 0)]) (lexF_ok 3 (by decide)) (wX_lx hx) (fun x hx => by cases hx; decide)) (Lx.blank (s := s_sp) (by decide)) (fun x hx => by cases hx; decide)
    rwa [List.append_nil] at this
   have h4 := Lx.appL h3 ht (fun x hx => by rw [List.getLast?_concat] at hx; cases hx; decide)
   cases el.isNil with
   | true => rw [cond_true, cond_true, List.append_nil, List.append_nil]; exact h4
   | false =>
    rw [cond_false, cond_false]
    exact Lx.appR h4 (Lx.appL (Ka := [(1, s_else, 0)]) (lexF_ok 3 (by decide)) he (fun x hx => by cases hx; decide)) (fun x hx => by cases hx; decide)
 · unfold prA tkA
   rw [k, if_neg (by decide), if_neg (by decide), if_neg (by decide), if_neg (by decide), if_neg (by decide), if_neg (by decide), if_neg (by decide), if_neg (by decide), if_neg (by decide), if_neg (by decide), if_neg (by decide), if_neg (by decide)]
   have h3 : Lx (s_loop_xf5f27 ++ Lib.itoa h.n ++ s_sp) [(1, s_loop, 0), (2, Lib.itoa h.n, h.n)] :=
    Lx.appR (Ka := [(1, s_loop, 0), (2, Lib.itoa h.n, h.n)]) (Kb := []) (Lx.appL (Ka := [(1, s_loop, 0)]) (lexF_ok 3 (by decide)) (Lx.num d e) (fun x hx => by cases hx; decide)) (Lx.blank (s := s_sp) (by decide)) (fun x hx => by cases hx; decide)
   exact Lx.appL h3 ht (fun x hx => by rw [List.getLast?_concat] at hx; cases hx; decide)
theorem blk_last (b : B) (s : List UInt8) (d : Nat) : ∀ x, (blk b s d).getLast? = some x → nm x = false ∧ h1 x = true := fun x hx => by
 unfold blk at hx
 cases hb : b.isNil with
 | true => rw [hb, cond_true] at hx; cases hx; decide
 | false => rw [hb, cond_false, List.getLast?_concat] at hx; cases hx; decide
theorem rep_sep (n : Nat) : ∀ x, (rep n).getLast? = some x → nm x = false ∧ h1 x = true := fun x hx => by
 rw [(rep_blank n).2 x (List.mem_of_getLast? hx)]; decide
theorem rep_head (n : Nat) (u : List UInt8) (hu : ∀ y, u.head? = some y → nm y = false ∧ h2 y = true) : ∀ y, (rep n ++ u).head? = some y → nm y = false ∧ h2 y = true := fun y hy => by
 cases hr : rep n with
 | nil => rw [hr] at hy; exact hu y hy
 | cons a l =>
  rw [hr] at hy
  cases hy
  rw [(rep_blank n).2 y (by rw [hr]; simp)]; decide
theorem blk_lx {b : B} {s : List UInt8} {d : Nat} (h : Lx s (tkI b)) : Lx (blk b s d) ((3, s_lb, 0) :: tkI b ++ [(3, s_rb, 0)]) := by
 unfold blk
 cases hb : b.isNil with
 | true =>
  have : b = .nil := by cases b with
   | nil => rfl
   | cons _ _ _ _ => cases hb
  subst this
  rw [cond_true]; exact lexF_ok 4 (by decide)
 | false =>
  rw [cond_false, List.append_assoc]
  exact Lx.appR (Ka := (3, s_lb, 0) :: tkI b) (Lx.appL (Ka := [(3, s_lb, 0)]) (lexF_ok 3 (by decide)) h (fun x hx => by cases hx; decide)) (Kb := [(3, s_rb, 0)]) (Lx.appL (Ka := []) (Lx.blank (rep_blank d).1) (lexF_ok 2 (by decide)) (rep_sep d)) (rep_head d _ (fun y hy => by cases hy; decide))
theorem prI_lx : ∀ (b : B) (d : Nat), b.ok → Lx (prI b d) (tkI b)
 | .nil, d, _ => Lx.blank rfl
 | .cons h th el rest, d, ⟨hok, okt, oke, okr⟩ => by
  have hA := prA_lx (st := blk th (prI th (d + 1)) d) (se := blk el (prI el (d + 1)) d) (kt := tkI th) (ke := tkI el) hok (blk_lx (prI_lx th (d + 1) okt)) (blk_lx (prI_lx el (d + 1) oke)) (blk_last _ _ _)
  have h1 := Lx.appL (Ka := []) (Lx.blank (rep_blank d).1) hA (rep_sep d)
  have h2 := Lx.appR (Kb := []) h1 (Lx.blank (s := [10]) (by decide)) (fun y hy => by cases hy; decide)
  rw [List.nil_append, List.append_nil] at h2
  exact Lx.appL h2 (prI_lx rest d okr) (fun x hx => by rw [List.getLast?_concat] at hx; cases hx; decide)
theorem prB_lx (b : B) (d : Nat) (h : b.ok) : Lx (prB b d) (tkB b) := blk_lx (prI_lx b (d + 1) h)
end Go.Sy.Ex
namespace Go.Sy.Ex
open Go.Sy
def Wr (self : List UInt8 → List api_Act → Int → Option (List UInt8)) (l : List api_Act) (d : Nat) (s : List UInt8) : Prop := ∀ b : List UInt8, (b ++ s).length ≤ 140737488355328 → self b l (d : Int) = some (b ++ s)
theorem isNil_len {el : B} {l : List api_Act} (h : IsB el l) : (0 < (l.length : Int)) ↔ el.isNil = false := by
 cases el with
 | nil => rw [show l = [] from h]; simp [B.isNil]
 | cons _ _ _ _ => obtain ⟨a, l', rfl, _⟩ := h; simp [B.isNil]
theorem fits_le {n : Nat} (h : n ≤ 140737488355328) : n ≤ 9223372036854775807 := by omega
theorem one_tail {h : H} {th el : B} {act : api_Act} (hok : h.ok th el) (ha : IsA h th el act) {self : List UInt8 → List api_Act → Int → Option (List UInt8)} {d : Nat} {st se : List UInt8} (ht : Wr self act.Then d st) (he : Wr self act.Else d se) {b : List UInt8}
 (hl : (b ++ prA h st se el.isNil).length ≤ 140737488355328) (k : Nat) : act_one_l0 self (k + 1) b (d : Int) act.Kind act.Name act.Event act.X act.N act.Then act.Else act.At (prX h.x) act.X (act.X.length : Int) (act.X.length : Int) = some (b ++ prA h st se el.isNil) := by
 obtain ⟨hx, hk⟩ := hok
 obtain ⟨a1, a2, a3, a4, a5, a6, a7⟩ := ha
 rcases hk with ⟨kk, a, b', c, d', e, f⟩ | ⟨kk, a, b', c, d', e⟩ | ⟨kk, a, b', c, d', e⟩ | ⟨kk, a, b', c, d', e, f⟩ | ⟨kk, a, b', c, d', e, f⟩ | ⟨kk, a, b', c, d'⟩ | ⟨kk, a, b', c, d', e, f⟩
 · -- kind 1
   cases hxx : h.x with
   | none => exact absurd hxx c
   | some t =>
    obtain ⟨e0, hX, he0⟩ : ∃ e0, act.X = [e0] ∧ Is t e0 := by rw [hxx] at a4; exact a4
    have hp : prA h st se el.isNil = h.name ++ s_sp_eq_sp ++ pr t 1 ++ s_semi := by unfold prA; rw [kk, hxx]; rfl
    rw [hp] at hl ⊢
    rw [show prX (some t) = pr t 1 from rfl]
    simp only [List.length_append, List.length_cons, List.length_nil] at hl
    rw [a1, kk, act_one_l0.eq_2, if_neg (by omega), if_pos (by rw [hX]; simp), if_pos (by simp only [List.length_append, List.length_cons, List.length_nil]; omega), if_pos (by simp only [List.length_append, List.length_cons, List.length_nil]; omega), a2, a3, if_pos rfl, if_pos (by simp only [List.length_append, List.length_cons, List.length_nil]; omega), if_pos (by simp only [List.length_append, List.length_cons, List.length_nil]; omega), if_pos (by simp only [List.length_append, List.length_cons, List.length_nil]; omega), str_eq (by simp only [List.length_append, List.length_cons, List.length_nil]; omega), bind_some_eq]
    all_goals first | rfl | simp
 · -- kind 2
   cases hxx : h.x with
   | none =>
    have hX : act.X = [] := by rw [hxx] at a4; exact a4
    have hp : prA h st se el.isNil = s_raise_x7823e ++ h.ev ++ [] ++ s_semi := by unfold prA; rw [kk, hxx]; rfl
    rw [hp] at hl ⊢
    rw [show prX none = [] from rfl]
    simp only [List.length_append, List.length_cons, List.length_nil] at hl
    rw [a1, kk, act_one_l0.eq_2, if_neg (by omega), if_neg (by rw [hX]; simp), a2, a3, if_neg (by decide), if_pos rfl, if_pos (by simp only [List.length_append, List.length_cons, List.length_nil]; omega), if_pos (by simp only [List.length_append, List.length_cons, List.length_nil]; omega), if_pos (by simp only [List.length_append, List.length_cons, List.length_nil]; omega), str_eq (by simp only [List.length_append, List.length_cons, List.length_nil]; omega), bind_some_eq]
    all_goals first | rfl | simp
   | some t =>
    obtain ⟨e0, hX, he0⟩ : ∃ e0, act.X = [e0] ∧ Is t e0 := by rw [hxx] at a4; exact a4
    have hp : prA h st se el.isNil = s_raise_x7823e ++ h.ev ++ (s_lp ++ pr t 1 ++ s_rp) ++ s_semi := by unfold prA; rw [kk, hxx]; rfl
    rw [hp] at hl ⊢
    rw [show prX (some t) = pr t 1 from rfl]
    simp only [List.length_append, List.length_cons, List.length_nil] at hl
    rw [a1, kk, act_one_l0.eq_2, if_neg (by omega), if_pos (by rw [hX]; simp), if_pos (by simp only [List.length_append, List.length_cons, List.length_nil]; omega), if_pos (by simp only [List.length_append, List.length_cons, List.length_nil]; omega), a2, a3, if_neg (by decide), if_pos rfl, if_pos (by simp only [List.length_append, List.length_cons, List.length_nil]; omega), if_pos (by simp only [List.length_append, List.length_cons, List.length_nil]; omega), if_pos (by simp only [List.length_append, List.length_cons, List.length_nil]; omega), str_eq (by simp only [List.length_append, List.length_cons, List.length_nil]; omega), bind_some_eq]
    all_goals first | rfl | simp
 · -- kind 3
   cases hxx : h.x with
   | none =>
    have hX : act.X = [] := by rw [hxx] at a4; exact a4
    have hp : prA h st se el.isNil = s_send_xe0272 ++ h.name ++ s_sp ++ h.ev ++ [] ++ s_semi := by unfold prA; rw [kk, hxx]; rfl
    rw [hp] at hl ⊢
    rw [show prX none = [] from rfl]
    simp only [List.length_append, List.length_cons, List.length_nil] at hl
    rw [a1, kk, act_one_l0.eq_2, if_neg (by omega), if_neg (by rw [hX]; simp), a2, a3, if_neg (by decide), if_neg (by decide), if_pos rfl, if_pos (by simp only [List.length_append, List.length_cons, List.length_nil]; omega), if_pos (by simp only [List.length_append, List.length_cons, List.length_nil]; omega), if_pos (by simp only [List.length_append, List.length_cons, List.length_nil]; omega), if_pos (by simp only [List.length_append, List.length_cons, List.length_nil]; omega), if_pos (by simp only [List.length_append, List.length_cons, List.length_nil]; omega), str_eq (by simp only [List.length_append, List.length_cons, List.length_nil]; omega), bind_some_eq]
    all_goals first | rfl | simp
   | some t =>
    obtain ⟨e0, hX, he0⟩ : ∃ e0, act.X = [e0] ∧ Is t e0 := by rw [hxx] at a4; exact a4
    have hp : prA h st se el.isNil = s_send_xe0272 ++ h.name ++ s_sp ++ h.ev ++ (s_lp ++ pr t 1 ++ s_rp) ++ s_semi := by unfold prA; rw [kk, hxx]; rfl
    rw [hp] at hl ⊢
    rw [show prX (some t) = pr t 1 from rfl]
    simp only [List.length_append, List.length_cons, List.length_nil] at hl
    rw [a1, kk, act_one_l0.eq_2, if_neg (by omega), if_pos (by rw [hX]; simp), if_pos (by simp only [List.length_append, List.length_cons, List.length_nil]; omega), if_pos (by simp only [List.length_append, List.length_cons, List.length_nil]; omega), a2, a3, if_neg (by decide), if_neg (by decide), if_pos rfl, if_pos (by simp only [List.length_append, List.length_cons, List.length_nil]; omega), if_pos (by simp only [List.length_append, List.length_cons, List.length_nil]; omega), if_pos (by simp only [List.length_append, List.length_cons, List.length_nil]; omega), if_pos (by simp only [List.length_append, List.length_cons, List.length_nil]; omega), if_pos (by simp only [List.length_append, List.length_cons, List.length_nil]; omega), str_eq (by simp only [List.length_append, List.length_cons, List.length_nil]; omega), bind_some_eq]
    all_goals first | rfl | simp
 · -- kind 4
   cases hxx : h.x with
   | none => exact absurd hxx c
   | some t =>
    obtain ⟨e0, hX, he0⟩ : ∃ e0, act.X = [e0] ∧ Is t e0 := by rw [hxx] at a4; exact a4
    have hp : prA h st se el.isNil = s_arm_x6c666 ++ h.name ++ (s_lp ++ pr t 1 ++ s_rp) ++ s_semi := by unfold prA; rw [kk, hxx]; rfl
    rw [hp] at hl ⊢
    rw [show prX (some t) = pr t 1 from rfl]
    simp only [List.length_append, List.length_cons, List.length_nil] at hl
    rw [a1, kk, act_one_l0.eq_2, if_neg (by omega), if_pos (by rw [hX]; simp), if_pos (by simp only [List.length_append, List.length_cons, List.length_nil]; omega), if_pos (by simp only [List.length_append, List.length_cons, List.length_nil]; omega), a2, a3, if_neg (by decide), if_neg (by decide), if_neg (by decide), if_pos rfl, if_pos (by simp only [List.length_append, List.length_cons, List.length_nil]; omega), if_pos (by simp only [List.length_append, List.length_cons, List.length_nil]; omega), if_pos (by simp only [List.length_append, List.length_cons, List.length_nil]; omega), str_eq (by simp only [List.length_append, List.length_cons, List.length_nil]; omega), bind_some_eq]
    all_goals first | rfl | simp
 · -- kind 5
   cases hxx : h.x with
   | none =>
    have hX : act.X = [] := by rw [hxx] at a4; exact a4
    have hp : prA h st se el.isNil = s_cancel_x1c990 ++ h.name ++ s_semi := by unfold prA; rw [kk, hxx]; rfl
    rw [hp] at hl ⊢
    rw [show prX none = [] from rfl]
    simp only [List.length_append, List.length_cons, List.length_nil] at hl
    rw [a1, kk, act_one_l0.eq_2, if_neg (by omega), if_neg (by rw [hX]; simp), a2, a3, if_neg (by decide), if_neg (by decide), if_neg (by decide), if_neg (by decide), if_pos rfl, if_pos (by simp only [List.length_append, List.length_cons, List.length_nil]; omega), if_pos (by simp only [List.length_append, List.length_cons, List.length_nil]; omega), str_eq (by simp only [List.length_append, List.length_cons, List.length_nil]; omega), bind_some_eq]
    all_goals first | rfl | simp
   | some t => rw [hxx] at c; cases c
 · -- kind 6
   cases hxx : h.x with
   | none => exact absurd hxx c
   | some t =>
    obtain ⟨e0, hX, he0⟩ : ∃ e0, act.X = [e0] ∧ Is t e0 := by rw [hxx] at a4; exact a4
    have hp : prA h st se el.isNil = s_if_xec554 ++ (s_lp ++ pr t 1 ++ s_rp) ++ s_sp ++ st ++ (bif el.isNil then [] else s_else_xf7d30 ++ se) := by unfold prA; rw [kk, hxx]; rfl
    rw [hp] at hl ⊢
    rw [show prX (some t) = pr t 1 from rfl]
    simp only [List.length_append, List.length_cons, List.length_nil] at hl
    rw [a1, kk, act_one_l0.eq_2, if_neg (by omega), if_pos (by rw [hX]; simp), if_pos (by simp only [List.length_append, List.length_cons, List.length_nil]; omega), if_pos (by simp only [List.length_append, List.length_cons, List.length_nil]; omega), a2, a3, if_neg (by decide), if_neg (by decide), if_neg (by decide), if_neg (by decide), if_neg (by decide), if_pos rfl, if_pos (by simp only [List.length_append, List.length_cons, List.length_nil]; omega), if_pos (by simp only [List.length_append, List.length_cons, List.length_nil]; omega), str_eq (by simp only [List.length_append, List.length_cons, List.length_nil]; omega), bind_some_eq]
    dsimp only
    rw [ht _ (by simp only [List.length_append, List.length_cons, List.length_nil]; omega), bind_some_eq]
    cases hn : el.isNil with
    | true => rw [if_neg (by rw [isNil_len a7, hn]; simp)]; simp
    | false =>
     rw [hn, cond_false] at hl
     simp only [List.length_append, List.length_cons, List.length_nil] at hl
     rw [if_pos ((isNil_len a7).2 hn), str_eq (by simp only [List.length_append, List.length_cons, List.length_nil]; omega), bind_some_eq]
     dsimp only
     rw [he _ (by simp only [List.length_append, List.length_cons, List.length_nil]; omega), bind_some_eq]
     simp
 · -- kind 7
   cases hxx : h.x with
   | none =>
    have hX : act.X = [] := by rw [hxx] at a4; exact a4
    have hp : prA h st se el.isNil = s_loop_xf5f27 ++ Lib.itoa h.n ++ s_sp ++ st := by unfold prA; rw [kk, hxx]; rfl
    rw [hp] at hl ⊢
    rw [show prX none = [] from rfl]
    simp only [List.length_append, List.length_cons, List.length_nil] at hl
    rw [a1, kk, act_one_l0.eq_2, if_neg (by omega), if_neg (by rw [hX]; simp), a2, a3, if_neg (by decide), if_neg (by decide), if_neg (by decide), if_neg (by decide), if_neg (by decide), if_neg (by decide), if_pos rfl, a5, show p_Itoa h.n = some (Lib.itoa h.n) from by unfold p_Itoa; rw [if_pos ⟨by omega, e⟩], bind_some_eq, if_pos (by simp only [List.length_append, List.length_cons, List.length_nil]; omega), if_pos (by simp only [List.length_append, List.length_cons, List.length_nil]; omega), str_eq (by simp only [List.length_append, List.length_cons, List.length_nil]; omega), bind_some_eq]
    dsimp only
    rw [ht _ (by simp only [List.length_append, List.length_cons, List.length_nil]; omega), bind_some_eq]
    simp
   | some t => rw [hxx] at c; cases c
theorem one_eq {h : H} {th el : B} {act : api_Act} (hok : h.ok th el) (ha : IsA h th el act) {self : List UInt8 → List api_Act → Int → Option (List UInt8)} {d : Nat} {st se : List UInt8} (ht : Wr self act.Then d st) (he : Wr self act.Else d se) {b : List UInt8}
 (hl : (b ++ prA h st se el.isNil).length ≤ 140737488355328) (hlx : (prX h.x).length ≤ 140737488355328) : act_one self b act (d : Int) = some (b ++ prA h st se el.isNil) := lim_eq 2 fun k hk => by
 obtain ⟨k, rfl⟩ : ∃ j, k = j + 2 := ⟨k - 2, by omega⟩
 show act_one_l0 self (k + 2) b (d : Int) act.Kind act.Name act.Event act.X act.N act.Then act.Else act.At [] act.X (act.X.length : Int) 0 = _
 have key := one_tail hok ha ht he hl
 have hX := ha.2.2.2.1
 cases hxx : h.x with
 | none =>
  rw [hxx] at hX
  have hX : act.X = [] := hX
  have := key (k + 1)
  rw [hxx, hX] at this
  rw [hX]
  exact this
 | some t =>
  rw [hxx] at hX hlx
  obtain ⟨e, hX, hi⟩ := hX
  have hto : t.ok := by have := hok.1; rw [hxx] at this; exact this.1
  have := key k
  rw [hxx, hX] at this
  rw [hX, act_one_l0.eq_2, if_pos (by simp), if_pos (by decide), if_pos (by simp), show [e].getD (0 : Int).toNat api_Expr.z = e from rfl, eta, print_eq hi hto hlx, bind_some_eq, show w64 ((0 : Int) + 1) = 1 from by rw [w64_in (by decide) (by decide)]; rfl]
  exact this
theorem prX_le (h : H) (st se : List UInt8) (n : Bool) (th el : B) (hok : h.ok th el) : (prX h.x).length ≤ (prA h st se n).length := by
 obtain ⟨hx, hk⟩ := hok
 rcases hk with ⟨k, a, b, c, d, e, f⟩ | ⟨k, a, b, c, d, e⟩ | ⟨k, a, b, c, d, e⟩ | ⟨k, a, b, c, d, e, f⟩ | ⟨k, a, b, c, d, e, f⟩ | ⟨k, a, b, c, d⟩ | ⟨k, a, b, c, d, e, f⟩
 all_goals
  unfold prA; rw [k]
  cases hxx : h.x <;> first | (rw [hxx] at c; cases c; done) | (simp [prX, wX] <;> omega)
theorem aeta (a : api_Act) : api_Act.mk a.Kind a.Name a.Event a.X a.N a.Then a.Else a.At = a := by cases a; rfl
theorem rep_eq (n : Nat) (h : n ≤ 1000000) : p_Repeat s_sp_sp (n : Int) = some (rep n) := by
 unfold p_Repeat
 rw [if_pos ⟨by omega, by omega, by rw [Int.toNat_natCast]; show 2 * n ≤ _; omega⟩, Int.toNat_natCast]; rfl
def B.sz : B → Nat
 | .nil => 1
 | .cons _ th el rest => th.sz + el.sz + rest.sz + 1
theorem IsB_len : ∀ (b : B) (l : List api_Act), IsB b l → l.length + 1 ≤ b.sz
 | .nil, l, h => by rw [show l = [] from h]; exact Nat.le_refl _
 | .cons _ _ _ rest, l, ⟨a, l', h, _, _, _, _, _, _, _, hr⟩ => by
  have := IsB_len rest l' hr
  subst h
  simp only [B.sz, List.length_cons]; omega
theorem blkP_run : ∀ (b : B) (l : List api_Act) (d : Nat), IsB b l → b.ok → d + b.sz ≤ 100000 →
 (∀ k, b.sz + 3 ≤ k → Wr (act_block_f k) l d (prB b d)) ∧
 (∀ (pre : List api_Act) (s : List UInt8) (k k' : Nat), b.sz + 2 ≤ k → b.sz + 1 ≤ k' → pre.length ≤ 1000000000 → (pre ++ l).length ≤ 1000000000 → (s ++ prI b (d + 1) ++ rep d ++ s_rb).length ≤ 140737488355328 →
  act_block_l0 (act_block_f k) k' s (d : Int) (pre ++ l) ((pre ++ l).length : Int) (pre.length : Int) = some (s ++ prI b (d + 1) ++ rep d ++ s_rb)) := by
 intro b
 induction b with
 | nil =>
  intro l d hl _ hd
  have hl : l = [] := hl
  subst hl
  simp only [B.sz] at hd
  refine ⟨fun k hk b hb => ?_, fun pre s k k' hk hk' hp1 hp2 hlen => ?_⟩
  · obtain ⟨k, rfl⟩ : ∃ j, k = j + 1 := ⟨k - 1, by omega⟩
    show act_block_b (act_block_f k) k b [] _ = _
    unfold act_block_b
    have hb : (b ++ s_lb_rb).length ≤ 140737488355328 := hb
    rw [if_pos (by rfl), str_eq (by rw [List.length_append] at hb; exact hb), bind_some_eq]
    rfl
  · obtain ⟨k', rfl⟩ : ∃ j, k' = j + 1 := ⟨k' - 1, by omega⟩
    simp only [prI, List.append_nil, List.length_append, List.length_cons, List.length_nil] at hlen ⊢
    rw [act_block_l0.eq_2, if_neg (by omega), rep_eq d (by omega), bind_some_eq, if_pos (by simp only [List.length_cons, List.length_nil]; omega), str_eq (by simp only [List.length_append, List.length_cons, List.length_nil]; omega), bind_some_eq, ← List.append_assoc]
 | cons h th el rest ih1 ih2 ih3 =>
  rintro l d ⟨a, l', rfl, a1, a2, a3, a4, a5, a6, a7, a8⟩ ⟨hok, okt, oke, okr⟩ hd
  simp only [B.sz] at hd
  have hloop : ∀ (pre : List api_Act) (s : List UInt8) (k k' : Nat), (B.cons h th el rest).sz + 2 ≤ k → (B.cons h th el rest).sz + 1 ≤ k' → pre.length ≤ 1000000000 → (pre ++ a :: l').length ≤ 1000000000 → (s ++ prI (B.cons h th el rest) (d + 1) ++ rep d ++ s_rb).length ≤ 140737488355328 →
   act_block_l0 (act_block_f k) k' s (d : Int) (pre ++ a :: l') ((pre ++ a :: l').length : Int) (pre.length : Int) = some (s ++ prI (B.cons h th el rest) (d + 1) ++ rep d ++ s_rb) := by
   intro pre s k k' hk hk' hp1 hp2 hlen
   simp only [B.sz] at hk hk'
   obtain ⟨k', rfl⟩ : ∃ j, k' = j + 1 := ⟨k' - 1, by omega⟩
   simp only [prI] at hlen ⊢
   have hpos : pre.length < (pre ++ a :: l').length := by simp
   have hget : (pre ++ a :: l').getD (pre.length : Int).toNat api_Act.z = a := by rw [Int.toNat_natCast, List.getD_eq_getElem?_getD, List.getElem?_append_right (Nat.le_refl _), Nat.sub_self]; rfl
   have hw : w64 ((d : Int) + 1) = ((d + 1 : Nat) : Int) := by rw [w64_in (by omega) (by omega)]; omega
   have hwn : w64 ((pre.length : Int) + 1) = ((pre ++ [a]).length : Int) := by rw [w64_in (by omega) (by omega)]; simp
   rw [act_block_l0.eq_2, if_pos (by omega), if_pos (by omega), if_pos (by omega), hget, aeta, hw, rep_eq (d + 1) (by omega), bind_some_eq]
   have hA := prX_le h (blk th (prI th (d + 1 + 1)) (d + 1)) (blk el (prI el (d + 1 + 1)) (d + 1)) el.isNil th el hok
   simp only [List.length_append, List.length_cons, List.length_nil] at hlen
   rw [str_eq (by omega), bind_some_eq]
   dsimp only
   rw [one_eq (d := d + 1) hok ⟨a1, a2, a3, a4, a5, a6, a7⟩ ((ih1 a.Then (d + 1) a6 okt (by omega)).1 k (by omega)) ((ih2 a.Else (d + 1) a7 oke (by omega)).1 k (by omega)) (by simp only [List.length_append, List.length_cons, List.length_nil, prB]; omega) (by omega), bind_some_eq]
   rw [byte_eq (by simp only [List.length_append, List.length_cons, List.length_nil, prB]; omega) (by decide) (by decide), bind_some_eq]
   dsimp only
   have := (ih3 l' d a8 okr (by omega)).2 (pre ++ [a]) (s ++ rep (d + 1) ++ prA h (prB th (d + 1)) (prB el (d + 1)) el.isNil ++ [10]) k k' (by omega) (by omega) (by rw [List.length_append] at hp2 ⊢; simp at hp2 ⊢; omega) (by rw [List.append_assoc]; exact hp2) (by simp only [List.length_append, List.length_cons, List.length_nil, prB]; omega)
   rw [hwn, show (pre ++ a :: l') = (pre ++ [a]) ++ l' from by simp]
   refine this.trans ?_
   simp [prB]
  refine ⟨fun k hk b hb => ?_, hloop⟩
  obtain ⟨k, rfl⟩ : ∃ j, k = j + 1 := ⟨k - 1, by omega⟩
  show act_block_b (act_block_f k) k b (a :: l') _ = _
  unfold act_block_b
  have e1 : prB (B.cons h th el rest) d = s_lb_nl ++ prI (B.cons h th el rest) (d + 1) ++ rep d ++ s_rb := rfl
  rw [e1] at hb ⊢
  simp only [List.length_append, List.length_cons, List.length_nil] at hb
  rw [if_neg (by simp; omega), str_eq (by simp only [List.length_cons, List.length_nil]; omega), bind_some_eq]
  dsimp only
  have hlen := IsB_len rest l' a8
  have := hloop [] (b ++ s_lb_nl) k k (by simp only [B.sz] at hk ⊢; omega) (by simp only [B.sz] at hk ⊢; omega) (by simp) (by simp; omega) (by simp only [List.length_append, List.length_cons, List.length_nil]; omega)
  refine this.trans ?_
  simp
theorem aprint_eq {b : B} {l : List api_Act} (h : IsB b l) (hok : b.ok) (d : Nat) (hd : d + b.sz ≤ 100000) (hl : (prB b d).length ≤ 140737488355328) (v : Int) (hv : max v 0 = (d : Int)) : act_Print l v = some (prB b d) := by
 unfold act_Print
 rw [hv, show act_block [] l (d : Int) = some (prB b d) from lim_eq (b.sz + 3) fun k hk => by
  have := (blkP_run b l d h hok hd).1 k hk [] (by rw [List.nil_append]; exact hl)
  rw [List.nil_append] at this
  exact this, bind_some_eq]
 rfl
end Go.Sy.Ex
namespace Go.Sy.Ex
open Go.Sy
theorem idx_no {X : List api_Expr} {x : Option T} (hX : IsX x X) (hx : xok x) : slices_ContainsFunc_api_Expr_api_Expr X (fun y => act_right_S1 y) = some false := by
 have h : slices_IndexFunc_api_Expr_api_Expr X (fun y => act_right_S1 y) = some (-1) := lim_eq 2 fun k hk => by
  obtain ⟨k, rfl⟩ : ∃ j, k = j + 2 := ⟨k - 2, by omega⟩
  show slices_IndexFunc_api_Expr_api_Expr_l0 (k + 2) X (fun y => act_right_S1 y) (X.length : Int) 0 = _
  cases x with
  | none => rw [show X = [] from hX, slices_IndexFunc_api_Expr_api_Expr_l0.eq_2, if_neg (by simp)]
  | some t =>
   obtain ⟨e, rfl, hi⟩ := hX
   rw [slices_IndexFunc_api_Expr_api_Expr_l0.eq_2, if_pos (by simp), if_pos (by decide), if_pos (by simp), show [e].getD (0 : Int).toNat api_Expr.z = e from rfl]
   rw [show act_right_S1 e = some false from by
    unfold act_right_S1
    rw [eta, Right_tree hi hx.1 hx.2, bind_some_eq]; rfl, bind_some_eq, cond_false, show w64 ((0 : Int) + 1) = 1 from by rw [w64_in (by decide) (by decide)]; rfl]
   rw [slices_IndexFunc_api_Expr_api_Expr_l0.eq_2, if_neg (by simp)]
 unfold slices_ContainsFunc_api_Expr_api_Expr
 rw [h, bind_some_eq]
 rfl
theorem name_len {s : List UInt8} (h : nameP s = true) : s.length < 1000000000000 := by have := (name_split h).2.1; omega
theorem shape_true {h : H} {th el : B} {a : api_Act} (hok : h.ok th el) (ha : IsA h th el a) : act_shape a = some true := lim_eq 3 fun k hk => by
 obtain ⟨k, rfl⟩ : ∃ j, k = j + 3 := ⟨k - 3, by omega⟩
 show act_shape_f (k + 3) a = _
 obtain ⟨hx, hk⟩ := hok
 obtain ⟨a1, a2, a3, a4, a5, a6, a7⟩ := ha
 have xs : h.x ≠ none → a.X.length = 1 := fun q => by
  cases hxx : h.x with
  | none => exact absurd hxx q
  | some t => rw [hxx] at a4; obtain ⟨e, he, _⟩ := a4; rw [he]; rfl
 have xn : a.X.length ≤ 1 := by
  cases hxx : h.x with
  | none => rw [hxx] at a4; rw [show a.X = [] from a4]; decide
  | some t => rw [hxx] at a4; obtain ⟨e, he, _⟩ := a4; rw [he]; simp
 have x0 : h.x = none → a.X.length = 0 := fun q => by rw [q] at a4; rw [show a.X = [] from a4]; rfl
 have t0 : th = .nil → a.Then.length = 0 := fun q => by rw [q] at a6; rw [show a.Then = [] from a6]; rfl
 have e0 : el = .nil → a.Else.length = 0 := fun q => by rw [q] at a7; rw [show a.Else = [] from a7]; rfl
 have c2 : ∀ blocks : Int, (blocks ≤ 0 → a.Then.length = 0) → (blocks ≤ 1 → a.Else.length = 0) → act_shape_c2 (k + 1) a.Kind a.Name a.Event a.X a.N a.Then a.Else a.At blocks = some true := fun blocks q1 q2 => by
  rw [act_shape_c2.eq_2]
  by_cases b0 : 0 < blocks
  · rw [if_pos b0]
    by_cases b1 : 1 < blocks
    · rw [if_pos b1]
    · rw [if_neg b1, decide_eq_true (by have := q2 (by omega); omega)]
  · rw [if_neg b0, if_pos (by have := q1 (by omega); omega), if_neg (by omega), decide_eq_true (by have := q2 (by omega); omega)]
 have c1 : ∀ least most blocks : Int, least ≤ (a.X.length : Int) → (a.X.length : Int) ≤ most → (a.N ≠ 0 → a.Kind = 7 ∧ 0 ≤ a.N) → (blocks ≤ 0 → a.Then.length = 0) → (blocks ≤ 1 → a.Else.length = 0) → act_shape_c1 (k + 2) a.Kind a.Name a.Event a.X a.N a.Then a.Else a.At least most blocks = some true := fun least most blocks p1 p2 p3 q1 q2 => by
  rw [act_shape_c1.eq_2, if_neg (by omega), if_neg (by omega)]
  by_cases hN : a.N = 0
  · rw [if_neg (by simp [hN])]; exact c2 blocks q1 q2
  · rw [if_pos hN, if_neg (by simp [(p3 hN).1]), if_neg (by have := (p3 hN).2; omega)]; exact c2 blocks q1 q2
 have c0 : ∀ (name event : Bool) (least most blocks : Int), (name = true → nameP a.Name = true) → (name = false → a.Name = []) → (event = true → nameP a.Event = true) → (event = false → a.Event = []) → least ≤ (a.X.length : Int) → (a.X.length : Int) ≤ most → (a.N ≠ 0 → a.Kind = 7 ∧ 0 ≤ a.N) → (blocks ≤ 0 → a.Then.length = 0) → (blocks ≤ 1 → a.Else.length = 0) → act_shape_c0 (k + 3) a.Kind a.Name a.Event a.X a.N a.Then a.Else a.At least most name event blocks = some true := fun name event least most blocks n1 n2 n3 n4 p1 p2 p3 q1 q2 => by
  have hc := c1 least most blocks p1 p2 p3 q1 q2
  have ev : (if event ≠ (decide (a.Event ≠ [])) then
   some false else
   bif event then
   (lex_Name a.Event).bind fun r2 =>
   bif !r2 then
   some false else
   act_shape_c1 (k + 2) a.Kind a.Name a.Event a.X a.N a.Then a.Else a.At least most blocks else
   act_shape_c1 (k + 2) a.Kind a.Name a.Event a.X a.N a.Then a.Else a.At least most blocks) = some true := by
   cases event with
   | true =>
    have := n3 rfl
    rw [if_neg (by simp [(name_split this).1]), cond_true, lname_eq _ (name_len this), bind_some_eq, this, Bool.not_true, cond_false]; exact hc
   | false => rw [if_neg (by simp [n4 rfl]), cond_false]; exact hc
  rw [act_shape_c0.eq_2]
  cases name with
  | true =>
   have := n1 rfl
   rw [if_neg (by simp [(name_split this).1]), cond_true, lname_eq _ (name_len this), bind_some_eq, this, Bool.not_true, cond_false]; exact ev
  | false => rw [if_neg (by simp [n2 rfl]), cond_false]; exact ev
 unfold act_shape_f
 rcases hk with ⟨kk, a', b', c, d', e, f⟩ | ⟨kk, a', b', c, d', e⟩ | ⟨kk, a', b', c, d', e⟩ | ⟨kk, a', b', c, d', e, f⟩ | ⟨kk, a', b', c, d', e, f⟩ | ⟨kk, a', b', c, d'⟩ | ⟨kk, a', b', c, d', e, f⟩
 · have hK : a.Kind = 1 := a1.trans kk
   have := c0 true false 1 1 0 (fun _ => by rw [a2]; exact a') (fun q => by cases q) (fun q => by cases q) (fun _ => a3.trans b') (by have := xs c; omega) (by omega) (fun q => absurd (a5.trans d') q) (fun _ => t0 e) (fun _ => e0 f)
   rw [if_pos hK, if_pos hK]; exact this
 · have hK : a.Kind = 2 := a1.trans kk
   have := c0 false true 0 1 0 (fun q => by cases q) (fun _ => a2.trans a') (fun _ => by rw [a3]; exact b') (fun q => by cases q) (by omega) (by omega) (fun q => absurd (a5.trans c) q) (fun _ => t0 d') (fun _ => e0 e)
   rw [if_neg (by omega), if_neg (by omega), if_pos hK]; exact this
 · have hK : a.Kind = 3 := a1.trans kk
   have := c0 true true 0 1 0 (fun _ => by rw [a2]; exact a') (fun q => by cases q) (fun _ => by rw [a3]; exact b') (fun q => by cases q) (by omega) (by omega) (fun q => absurd (a5.trans c) q) (fun _ => t0 d') (fun _ => e0 e)
   rw [if_neg (by omega), if_neg (by omega), if_neg (by omega), if_pos hK]; exact this
 · have hK : a.Kind = 4 := a1.trans kk
   have := c0 true false 1 1 0 (fun _ => by rw [a2]; exact a') (fun q => by cases q) (fun q => by cases q) (fun _ => a3.trans b') (by have := xs c; omega) (by omega) (fun q => absurd (a5.trans d') q) (fun _ => t0 e) (fun _ => e0 f)
   rw [if_neg (by omega), if_pos hK]; exact this
 · have hK : a.Kind = 5 := a1.trans kk
   have := c0 true false 0 0 0 (fun _ => by rw [a2]; exact a') (fun q => by cases q) (fun q => by cases q) (fun _ => a3.trans b') (by omega) (by have := x0 c; omega) (fun q => absurd (a5.trans d') q) (fun _ => t0 e) (fun _ => e0 f)
   rw [if_neg (by omega), if_neg (by omega), if_neg (by omega), if_neg (by omega), if_pos hK]; exact this
 · have hK : a.Kind = 6 := a1.trans kk
   have := c0 false false 1 1 2 (fun q => by cases q) (fun _ => a2.trans a') (fun q => by cases q) (fun _ => a3.trans b') (by have := xs c; omega) (by omega) (fun q => absurd (a5.trans d') q) (fun q => by omega) (fun q => by omega)
   rw [if_neg (by omega), if_neg (by omega), if_neg (by omega), if_neg (by omega), if_neg (by omega), if_pos hK]; exact this
 · have hK : a.Kind = 7 := a1.trans kk
   have := c0 false false 0 0 1 (fun q => by cases q) (fun _ => a2.trans a') (fun q => by cases q) (fun _ => a3.trans b') (by omega) (by have := x0 c; omega) (fun _ => ⟨hK, by omega⟩) (fun q => by omega) (fun _ => e0 f)
   rw [if_neg (by omega), if_neg (by omega), if_neg (by omega), if_neg (by omega), if_neg (by omega), if_neg (by omega), if_pos hK]; exact this
theorem aright_run : ∀ (b : B) (o : Nat), b.sz ≤ 1000000 → b.ok → 1 ≤ o → o + b.dp ≤ 5 → ∀ (l : List api_Act), IsB b l → (∀ k, b.sz + 2 ≤ k → act_right_f k l (o : Int) = some true) ∧
 ∀ (pre : List api_Act) (k k' : Nat), b.sz + 1 ≤ k → b.sz + 1 ≤ k' → (pre ++ l).length ≤ 1000000000 → act_right_l0 (act_right_f k) k' (o : Int) (pre ++ l) ((pre ++ l).length : Int) (pre.length : Int) = some true := by
 intro b
 have wrap : ∀ (b : B) (o : Nat) (l : List api_Act), o + b.dp ≤ 5 → (pre0 : ∀ (k k' : Nat), b.sz + 1 ≤ k → b.sz + 1 ≤ k' → act_right_l0 (act_right_f k) k' (o : Int) l (l.length : Int) 0 = some true) → ∀ k, b.sz + 2 ≤ k → act_right_f k l (o : Int) = some true := fun b o l hd h k hk => by
  have := b.dp_pos
  obtain ⟨k, rfl⟩ : ∃ j, k = j + 1 := ⟨k - 1, by omega⟩
  show act_right_b (act_right_f k) k l _ = _
  unfold act_right_b
  rw [if_neg (by omega)]
  exact h k k (by omega) (by omega)
 induction b with
 | nil =>
  intro o _ _ ho hd l hl
  have hl : l = [] := hl
  subst hl
  have hloop : ∀ (pre : List api_Act) (k k' : Nat), B.nil.sz + 1 ≤ k → B.nil.sz + 1 ≤ k' → (pre ++ []).length ≤ 1000000000 → act_right_l0 (act_right_f k) k' (o : Int) (pre ++ []) ((pre ++ []).length : Int) (pre.length : Int) = some true := fun pre k k' hk hk' _ => by
   obtain ⟨k', rfl⟩ : ∃ j, k' = j + 1 := ⟨k' - 1, by omega⟩
   rw [act_right_l0.eq_2, if_neg (by simp)]
  exact ⟨wrap .nil o [] hd fun k k' h1 h2 => hloop [] k k' h1 h2 (by simp), hloop⟩
 | cons h th el rest ih1 ih2 ih3 =>
  rintro o hsz ⟨hok, okt, oke, okr⟩ ho hd l ⟨a, l', rfl, ha1, ha2, ha3, ha4, ha5, ha6, ha7, ha8⟩
  have hd' := hd
  simp only [B.dp] at hd'
  have hsz' := hsz
  simp only [B.sz] at hsz'
  have hd1 : h.kind = 6 ∨ h.kind = 7 → o + 1 + th.dp ≤ 5 := fun q => by rw [if_pos q] at hd'; omega
  have hd2 : el.isNil = false → o + 1 + el.dp ≤ 5 := fun q => by rw [q, cond_false] at hd'; omega
  have hloop : ∀ (pre : List api_Act) (k k' : Nat), (B.cons h th el rest).sz + 1 ≤ k → (B.cons h th el rest).sz + 1 ≤ k' → (pre ++ a :: l').length ≤ 1000000000 → act_right_l0 (act_right_f k) k' (o : Int) (pre ++ a :: l') ((pre ++ a :: l').length : Int) (pre.length : Int) = some true := fun pre k k' hk hk' hlen => by
   simp only [B.sz] at hk hk'
   obtain ⟨k', rfl⟩ : ∃ j, k' = j + 1 := ⟨k' - 1, by omega⟩
   have hpos : pre.length < (pre ++ a :: l').length := by simp
   have hget : (pre ++ a :: l').getD (pre.length : Int).toNat api_Act.z = a := by rw [Int.toNat_natCast, List.getD_eq_getElem?_getD, List.getElem?_append_right (Nat.le_refl _), Nat.sub_self]; rfl
   have hw : w64 ((o : Int) + 1) = ((o + 1 : Nat) : Int) := by rw [w64_in (by omega) (by omega)]; omega
   have hwn : w64 ((pre.length : Int) + 1) = ((pre ++ [a]).length : Int) := by rw [w64_in (by omega) (by omega)]; simp
   have hnext : act_right_l0 (act_right_f k) k' (o : Int) (pre ++ a :: l') ((pre ++ a :: l').length : Int) ((pre ++ [a]).length : Int) = some true := by
    rw [show (pre ++ a :: l') = (pre ++ [a]) ++ l' from by simp]
    exact (ih3 o (by omega) okr ho (by omega) l' ha8).2 (pre ++ [a]) k k' (by omega) (by omega) (by rw [List.append_assoc]; exact hlen)
   have helse : (if 0 < (a.Else.length : Int) then
    (act_right_f k a.Else ((o + 1 : Nat) : Int)).bind fun r4 =>
    bif !r4 then
    some false else
    act_right_l0 (act_right_f k) k' (o : Int) (pre ++ a :: l') ((pre ++ a :: l').length : Int) ((pre ++ [a]).length : Int) else
    act_right_l0 (act_right_f k) k' (o : Int) (pre ++ a :: l') ((pre ++ a :: l').length : Int) ((pre ++ [a]).length : Int)) = some true := by
    cases hn : el.isNil with
    | true => rw [if_neg (by rw [isNil_len ha7, hn]; simp)]; exact hnext
    | false => rw [if_pos ((isNil_len ha7).2 hn), (ih2 (o + 1) (by omega) oke (by omega) (hd2 hn) a.Else ha7).1 k (by omega), bind_some_eq, Bool.not_true, cond_false]; exact hnext
   rw [act_right_l0.eq_2, if_pos (by omega), if_pos (by omega), if_pos (by omega), hget, aeta, shape_true hok ⟨ha1, ha2, ha3, ha4, ha5, ha6, ha7⟩, bind_some_eq, Bool.not_true, cond_false, idx_no ha4 hok.1, bind_some_eq, cond_false, hw, hwn]
   by_cases c6 : a.Kind = 6
   · rw [if_pos c6, (ih1 (o + 1) (by omega) okt (by omega) (hd1 (.inl (ha1.symm.trans c6))) a.Then ha6).1 k (by omega), bind_some_eq, Bool.not_true, cond_false]; exact helse
   · rw [if_neg c6]
     by_cases c7 : a.Kind = 7
     · rw [if_pos c7, (ih1 (o + 1) (by omega) okt (by omega) (hd1 (.inr (ha1.symm.trans c7))) a.Then ha6).1 k (by omega), bind_some_eq, Bool.not_true, cond_false]; exact helse
     · rw [if_neg c7]; exact helse
  refine ⟨wrap (.cons h th el rest) o (a :: l') hd fun k k' h1 h2 => hloop [] k k' h1 h2 ?_, hloop⟩
  have := IsB_len rest l' ha8
  simp
  omega
theorem aRight_true {b : B} {l : List api_Act} (h : IsB b l) (hok : b.ok) (hd : b.dp ≤ 4) (hsz : b.sz ≤ 1000000) : act_Right l = some true := by
 unfold act_Right
 rw [show act_right l 1 = some true from lim_eq (b.sz + 2) fun k hk => (aright_run b 1 hsz hok (Nat.le_refl _) (by omega) l h).1 k hk, bind_some_eq]
end Go.Sy.Ex
namespace Go.Sy.Ex
open Go.Sy
abbrev b1 : B := .cons ⟨2, [], [101], some (.num 1), 0⟩ .nil .nil (.cons ⟨7, [], [], none, 2⟩ .nil .nil .nil)
theorem b1_ok : b1.ok := by
 refine ⟨⟨⟨⟨by decide, by decide⟩, by decide⟩, .inr (.inl ⟨rfl, rfl, by show nameP [101] = true; decide +kernel, rfl, rfl, rfl⟩)⟩, trivial, trivial, ⟨trivial, .inr (.inr (.inr (.inr (.inr (.inr ⟨rfl, rfl, rfl, rfl, by decide, by decide, rfl⟩)))))⟩, trivial, trivial, trivial⟩
theorem tk1 : tkB b1 = [(3, s_lb, 0), (1, s_raise, 0), (1, [101], 0), (3, s_lp, 0), (2, [49], 1), (3, s_rp, 0), (3, s_semi, 0), (1, s_loop, 0), (2, [50], 2), (3, s_lb, 0), (3, s_rb, 0), (3, s_rb, 0)] := by
 simp only [tkB, tkI, tkA, tkX, toks, B.isNil]
 rw [it1, it2]
 rfl
theorem pr1 : prB b1 0 = s_raise_e_1_loop_2_x18436 := by
 simp only [prB, prI, prA, blk, wX, pr, B.isNil]
 rw [it1, it2]
 rfl
def bd (t : api_Token) : api_Fault := if t.Kind = 4 then ⟨12, t.At⟩ else ⟨11, t.At⟩
theorem bd_ne (t : api_Token) : (bd t).Code ≠ 0 := by unfold bd; split <;> (dsimp only; decide)
theorem awant_no {l : List api_Token} {i o : Nat} (hi : i < l.length) (hl : l.length ≤ 100000) {s : List UInt8} (h : isT (tkn l i) s = false) : read_Row_Want (at' l i o) s = some (act_reader.mk (read_Row.mk l (i : Int) (bd (tkn l i))) (o : Int)) := by
 unfold read_Row_Want
 rw [atake_st hi hl, bind_some_eq, h, Bool.not_false, cond_true, if_neg (by decide)]
 have hw : read_Row_Wrong (at' l i o) = some (act_reader.mk (read_Row.mk l (i : Int) (bd (tkn l i))) (o : Int)) := by
  unfold read_Row_Wrong
  rw [alook_st hi, bind_some_eq]
  dsimp only
  unfold bd
  by_cases h4 : (tkn l i).Kind = 4
  · rw [if_pos h4, if_pos h4]
    unfold read_Row_Fail
    rw [aok_st, bind_some_eq]
    rfl
  · rw [if_neg h4, if_neg h4]
    unfold read_Row_Fail
    rw [aok_st, bind_some_eq]
    rfl
 dsimp only
 rw [hw, bind_some_eq]
section
variable {s : act_reader} (h : s.Row.Fault.Code ≠ 0)
include h
theorem aok_bd : read_Row_OK s = some (false, s) := by unfold read_Row_OK; rw [decide_eq_false h]
theorem alook_bd : read_Row_Look s = some (api_Token.mk 4 0 0 [] 0, s) := by
 unfold read_Row_Look; rw [aok_bd h, bind_some_eq]; rfl
theorem ais_bd (x : List UInt8) : read_Row_Is s x = some (false, s) := by
 unfold read_Row_Is; rw [alook_bd h, bind_some_eq]; rfl
theorem atake_bd (x : List UInt8) : read_Row_Take s x = some (false, s) := by
 unfold read_Row_Take; rw [ais_bd h, bind_some_eq]; rfl
theorem afail_bd (c a : Int) : read_Row_Fail s c a = some s := by
 unfold read_Row_Fail; rw [aok_bd h, bind_some_eq]; rfl
theorem awrong_bd : read_Row_Wrong s = some s := by
 unfold read_Row_Wrong; rw [alook_bd h, bind_some_eq]
 dsimp only
 rw [if_pos rfl, afail_bd h, bind_some_eq]
theorem awant_bd (x : List UInt8) : read_Row_Want s x = some s := by
 unfold read_Row_Want; rw [atake_bd h, bind_some_eq]
 rw [Bool.not_false, cond_true]
 dsimp only
 rw [awrong_bd h, bind_some_eq]
theorem aloop_bd (self : act_reader → Option (List api_Act × act_reader)) (k : Nat) (acc : List api_Act) : act_reader_block_l0 self (k + 1) s.Row.L s.Row.At s.Row.Fault.Code s.Row.Fault.At s.v_open acc = some (acc, act_reader.mk s.Row (w64 (s.v_open - 1))) := by
 rw [act_reader_block_l0.eq_2]
 rw [show act_reader.mk (read_Row.mk s.Row.L s.Row.At (api_Fault.mk s.Row.Fault.Code s.Row.Fault.At)) s.v_open = s from by cases s; rename_i r o; cases r; rename_i l a f; cases f; rfl, aok_bd h, bind_some_eq, cond_false]
end
theorem read_bad : ∃ cs, law8_read s_x_1_x697a8 = some (cs, false) := by
 obtain ⟨l, h1, h2⟩ := (lexF_ok 10 (u := s_x_1_x697a8) (K := [(3, s_lb, 0), (1, [120], 0), (3, s_eq, 0), (2, [49], 1), (3, s_rb, 0)]) (by decide +kernel)).all (by decide)
 have hlen : l.length = 6 := by
  have := congrArg List.length h2
  simpa using this
 have hl : l.length ≤ 100000 := by omega
 have hs : Seq l 0 [(3, s_lb, 0), (1, [120], 0), (3, s_eq, 0), (2, [49], 1), (3, s_rb, 0)] := seq_of (R := [(4, [], 0)]) (by rw [List.drop_zero, h2])
 obtain ⟨h0, t0, i1, t1, i2, t2, i3, t3, i4, t4, -⟩ := hs
 have hx : nameP [120] = true := by decide +kernel
 have hto : (T.num 1).ok := ⟨by decide, by decide⟩
 have htk : toks (.num 1) 1 = [(2, [49], 1)] := by simp only [toks]; rw [it1]; rfl
 obtain ⟨e, he, hp⟩ := aexpr_st (t := .num 1) (o := 1) hto (by decide) hl (i := 0 + 1 + 1 + 1) (by rw [htk]; exact ⟨i3, t3, trivial⟩) (by rw [htk]; exact i4) (by rw [htk]; show slv (tkn l (0 + 1 + 1 + 1 + 1)) < 1; rw [slv_of t4]; decide)
 rw [htk] at hp
 have hp : act_reader_expr (at' l (0 + 1 + 1 + 1) 1) = some ([e], at' l (0 + 1 + 1 + 1 + 1) 1) := hp
 have hact : ∀ self, act_reader_act_1 self (at' l (0 + 1) 1) = some (api_Act.mk 1 [120] [] [e] 0 [] [] (tkn l (0 + 1)).At, act_reader.mk (read_Row.mk l ((0 + 1 + 1 + 1 + 1 : Nat) : Int) (bd (tkn l (0 + 1 + 1 + 1 + 1)))) ((1 : Nat) : Int)) := fun self => by
  unfold act_reader_act_1
  rw [alook_st i1, bind_some_eq]
  dsimp only
  rw [aisname_lit i1 t1 true (by decide), bind_some_eq, cond_true]
  dsimp only
  rw [aname_lit i1 hl t1 hx, bind_some_eq]
  dsimp only
  rw [awant_st i2 hl (isT_yes t2 (Or.inl rfl)), bind_some_eq, hp, bind_some_eq]
  dsimp only
  rw [awant_no i4 hl (isT_no t4 (.inr (by decide))), bind_some_eq]
 have hblk : ∀ k, 4 ≤ k → act_reader_block_f k (at' l 0 0) = some ([api_Act.mk 1 [120] [] [e] 0 [] [] (tkn l (0 + 1)).At], act_reader.mk (read_Row.mk l ((0 + 1 + 1 + 1 + 1 : Nat) : Int) (bd (tkn l (0 + 1 + 1 + 1 + 1)))) (w64 (((1 : Nat) : Int) - 1))) := fun k hk => by
  obtain ⟨k, rfl⟩ : ∃ j, k = j + 4 := ⟨k - 4, by omega⟩
  show act_reader_block_b (act_reader_block_f (k + 3)) (k + 3) (at' l 0 0) = _
  unfold act_reader_block_b
  rw [ais_lit h0 t0 s_lb true (by decide), bind_some_eq, cond_true]
  dsimp only
  rw [if_neg (by show ¬ ((0 : Nat) : Int) = 4; omega), act_reader_block_c0.eq_2]
  rw [show act_reader.mk (read_Row.mk (at' l 0 0).Row.L (at' l 0 0).Row.At (api_Fault.mk (at' l 0 0).Row.Fault.Code (at' l 0 0).Row.Fault.At)) (at' l 0 0).v_open = at' l 0 0 from rfl, awant_st h0 hl (isT_yes t0 (Or.inl rfl)), bind_some_eq]
  show act_reader_block_l0 (act_reader_block_f (k + 3)) (k + 2) l ((0 + 1 : Nat) : Int) 0 0 (w64 (((0 : Nat) : Int) + 1)) [] = _
  rw [show w64 (((0 : Nat) : Int) + 1) = ((1 : Nat) : Int) from by rw [w64_in (by omega) (by omega)]; rfl, act_reader_block_l0.eq_2]
  rw [show act_reader.mk (read_Row.mk l ((0 + 1 : Nat) : Int) (api_Fault.mk 0 0)) ((1 : Nat) : Int) = at' l (0 + 1) 1 from rfl, aok_st, bind_some_eq, cond_true]
  dsimp only
  rw [atake_st i1 hl, bind_some_eq, isT_no t1 (.inr (by decide)), Bool.not_false, cond_true, if_neg (by decide), hact, bind_some_eq, if_pos (by simp)]
  exact aloop_bd (s := act_reader.mk (read_Row.mk l ((0 + 1 + 1 + 1 + 1 : Nat) : Int) (bd (tkn l (0 + 1 + 1 + 1 + 1)))) ((1 : Nat) : Int)) (bd_ne _) _ k _
 refine ⟨[], ?_⟩
 unfold law8_read
 rw [lAll_eq, bind_some_eq, h1]
 dsimp only
 rw [if_neg (by simp)]
 unfold act_Parse
 rw [show act_reader_block (act_reader.mk (read_Row.mk l 0 (api_Fault.mk 0 0)) 0) = _ from lim_eq 4 fun k hk => hblk k (by omega), bind_some_eq, aok_bd (bd_ne _), bind_some_eq, Bool.not_false, cond_true, bind_some_eq]
 dsimp only
 rw [if_neg (bd_ne _)]
theorem known8_true : law8_known = some true := by
 obtain ⟨cs, hcs, hr⟩ := law_read_block b1_ok (by decide) (s := s_raise_e_1_loop_2_x9e436) (by rw [tk1]; exact lexF_ok 20 (by decide +kernel)) (by decide)
 obtain ⟨ds, hd⟩ := read_bad
 unfold law8_known
 rw [hr, bind_some_eq, hd, bind_some_eq]
 dsimp only
 rw [cond_true, Bool.not_false, cond_true, aprint_eq hcs b1_ok 0 (by decide) (by rw [pr1]; decide) 0 (by rfl), bind_some_eq, if_pos pr1, aRight_true hcs b1_ok (by decide) (by decide), bind_some_eq, cond_true]
 have hz : act_Right [api_Act.mk 0 [] [] [] 0 [] [] 0] = some false := by
  unfold act_Right
  rw [show act_right [api_Act.mk 0 [] [] [] 0 [] [] 0] 1 = some false from lim_eq 3 fun k hk => by
   obtain ⟨k, rfl⟩ : ∃ j, k = j + 2 := ⟨k - 2, by omega⟩
   show act_right_b (act_right_f (k + 1)) (k + 1) _ 1 = _
   unfold act_right_b
   rw [if_neg (by decide), act_right_l0.eq_2, if_pos (by decide), if_pos (by decide), if_pos (by decide)]
   rw [show act_shape (api_Act.mk _ _ _ _ _ _ _ _) = some false from lim_eq 0 fun k _ => by rfl, bind_some_eq]
   rfl, bind_some_eq]
 rw [hz, bind_some_eq]
 rfl
end Go.Sy.Ex
namespace Go.Sy.Ex
open Go.Sy
theorem rep_succ (n : Nat) : rep n ++ s_sp_sp = rep (n + 1) := by
 unfold rep
 rw [Lib.repeatL_add]
 rfl
theorem blanks_eq (n : Nat) (hn : n ≤ 1000000) : ref8_Blanks (n : Int) = some (rep n) := lim_eq (n + 1) fun k hk => by
 show ref8_Blanks_l0 k (n : Int) [] 0 = _
 have loop : ∀ m i, i + m = n → ∀ k, m + 1 ≤ k → ref8_Blanks_l0 k (n : Int) (rep i) (i : Int) = some (rep n) := by
  intro m
  induction m with
  | zero =>
   intro i h k hk
   obtain ⟨k, rfl⟩ : ∃ j, k = j + 1 := ⟨k - 1, by omega⟩
   have : i = n := by omega
   subst this
   rw [ref8_Blanks_l0.eq_2, if_neg (by omega)]
  | succ m ih =>
   intro i h k hk
   obtain ⟨k, rfl⟩ : ∃ j, k = j + 1 := ⟨k - 1, by omega⟩
   have hl : (rep i).length = 2 * i := by unfold rep; rw [Lib.repeatL_length]; simp; omega
   rw [ref8_Blanks_l0.eq_2, if_pos (by omega), if_pos (by rw [hl]; simp only [List.length_cons, List.length_nil]; omega), rep_succ, show w64 ((i : Int) + 1) = ((i + 1 : Nat) : Int) from by rw [w64_in (by omega) (by omega)]; omega]
   exact ih (i + 1) (by omega) k (by omega)
 exact loop n 0 (by omega) k hk
theorem arg_eq {x : Option T} {X : List api_Expr} (hX : IsX x X) (hx : xok x) (hl : (wX x).length ≤ 140737488355328) : ref8_arg X = some (wX x) := by
 unfold ref8_arg
 cases x with
 | none => rw [show X = [] from hX, if_pos (by rfl)]; rfl
 | some t =>
  obtain ⟨e, rfl, hi⟩ := hX
  have hl' : (s_lp ++ pr t 1 ++ s_rp).length ≤ 140737488355328 := hl
  simp only [List.length_append, List.length_cons, List.length_nil] at hl'
  rw [if_neg (by simp), if_pos (by decide), if_pos (by simp), show [e].getD (0 : Int).toNat api_Expr.z = e from rfl, rPrint_eq hi hx.1 (by omega), bind_some_eq, if_pos (by simp only [List.length_append, List.length_cons, List.length_nil]; omega), if_pos (by simp only [List.length_append, List.length_cons, List.length_nil]; omega)]
  rfl
theorem rone_act {h : H} {th el : B} {act : api_Act} (hok : h.ok th el) (ha : IsA h th el act) {self : List api_Act → Int → Option (List UInt8)} {d : Int} {st se : List UInt8} (ht : self act.Then d = some st) (he : self act.Else d = some se) (hl : (prA h st se el.isNil).length ≤ 140737488355328) : ref8_one self act d = some (prA h st se el.isNil) := by
 obtain ⟨hx, hk⟩ := hok
 obtain ⟨a1, a2, a3, a4, a5, a6, a7⟩ := ha
 unfold ref8_one
 rcases hk with ⟨kk, a, b', c, d', e, f⟩ | ⟨kk, a, b', c, d', e⟩ | ⟨kk, a, b', c, d', e⟩ | ⟨kk, a, b', c, d', e, f⟩ | ⟨kk, a, b', c, d', e, f⟩ | ⟨kk, a, b', c, d'⟩ | ⟨kk, a, b', c, d', e, f⟩
 · cases hxx : h.x with
   | none => exact absurd hxx c
   | some t =>
    obtain ⟨e0, hX, he0⟩ : ∃ e0, act.X = [e0] ∧ Is t e0 := by rw [hxx] at a4; exact a4
    rw [hxx] at hx
    have hp : prA h st se el.isNil = h.name ++ s_sp_eq_sp ++ pr t 1 ++ s_semi := by unfold prA; rw [kk, hxx]; rfl
    rw [hp] at hl ⊢
    simp only [List.length_append, List.length_cons, List.length_nil] at hl
    rw [a1, kk, if_pos rfl, a2, hX, if_pos (by simp only [List.length_append, List.length_cons, List.length_nil]; omega), if_pos (by decide), if_pos (by simp), show [e0].getD (0 : Int).toNat api_Expr.z = e0 from rfl, rPrint_eq he0 hx.1 (by omega), bind_some_eq, if_pos (by simp only [List.length_append, List.length_cons, List.length_nil]; omega), if_pos (by simp only [List.length_append, List.length_cons, List.length_nil]; omega)]
 · have hp : prA h st se el.isNil = s_raise_x7823e ++ h.ev ++ wX h.x ++ s_semi := by unfold prA; rw [kk]; rfl
   rw [hp] at hl ⊢
   simp only [List.length_append, List.length_cons, List.length_nil] at hl
   rw [a1, kk, if_neg (by decide), if_pos rfl, a3, if_pos (by simp only [List.length_append, List.length_cons, List.length_nil]; omega), arg_eq a4 hx (by omega), bind_some_eq, if_pos (by simp only [List.length_append, List.length_cons, List.length_nil]; omega), if_pos (by simp only [List.length_append, List.length_cons, List.length_nil]; omega)]
 · have hp : prA h st se el.isNil = s_send_xe0272 ++ h.name ++ s_sp ++ h.ev ++ wX h.x ++ s_semi := by unfold prA; rw [kk]; rfl
   rw [hp] at hl ⊢
   simp only [List.length_append, List.length_cons, List.length_nil] at hl
   rw [a1, kk, if_neg (by decide), if_neg (by decide), if_pos rfl, a2, a3, if_pos (by simp only [List.length_append, List.length_cons, List.length_nil]; omega), if_pos (by simp only [List.length_append, List.length_cons, List.length_nil]; omega), if_pos (by simp only [List.length_append, List.length_cons, List.length_nil]; omega), arg_eq a4 hx (by omega), bind_some_eq, if_pos (by simp only [List.length_append, List.length_cons, List.length_nil]; omega), if_pos (by simp only [List.length_append, List.length_cons, List.length_nil]; omega)]
 · have hp : prA h st se el.isNil = s_arm_x6c666 ++ h.name ++ wX h.x ++ s_semi := by unfold prA; rw [kk]; rfl
   rw [hp] at hl ⊢
   simp only [List.length_append, List.length_cons, List.length_nil] at hl
   rw [a1, kk, if_neg (by decide), if_neg (by decide), if_neg (by decide), if_pos rfl, a2, if_pos (by simp only [List.length_append, List.length_cons, List.length_nil]; omega), arg_eq a4 hx (by omega), bind_some_eq, if_pos (by simp only [List.length_append, List.length_cons, List.length_nil]; omega), if_pos (by simp only [List.length_append, List.length_cons, List.length_nil]; omega)]
 · have hp : prA h st se el.isNil = s_cancel_x1c990 ++ h.name ++ s_semi := by unfold prA; rw [kk]; rfl
   rw [hp] at hl ⊢
   simp only [List.length_append, List.length_cons, List.length_nil] at hl
   rw [a1, kk, if_neg (by decide), if_neg (by decide), if_neg (by decide), if_neg (by decide), if_pos rfl, a2, if_pos (by simp only [List.length_append, List.length_cons, List.length_nil]; omega), if_pos (by simp only [List.length_append, List.length_cons, List.length_nil]; omega)]
 · have hp : prA h st se el.isNil = s_if_xec554 ++ wX h.x ++ s_sp ++ st ++ (bif el.isNil then [] else s_else_xf7d30 ++ se) := by unfold prA; rw [kk]; rfl
   rw [hp] at hl ⊢
   simp only [List.length_append, List.length_cons, List.length_nil] at hl
   rw [a1, kk, if_neg (by decide), if_neg (by decide), if_neg (by decide), if_neg (by decide), if_neg (by decide), if_neg (by decide), arg_eq a4 hx (by omega), bind_some_eq, if_pos (by simp only [List.length_append, List.length_cons, List.length_nil]; omega), if_pos (by simp only [List.length_append, List.length_cons, List.length_nil]; omega), ht, bind_some_eq, if_pos (by simp only [List.length_append, List.length_cons, List.length_nil]; omega)]
   cases hn : el.isNil with
   | true => rw [if_neg (by rw [isNil_len a7, hn]; simp)]; simp
   | false =>
    rw [hn, cond_false] at hl
    simp only [List.length_append, List.length_cons, List.length_nil] at hl
    rw [if_pos ((isNil_len a7).2 hn), if_pos (by simp only [List.length_append, List.length_cons, List.length_nil]; omega), he, bind_some_eq, if_pos (by simp only [List.length_append, List.length_cons, List.length_nil]; omega)]
    simp
 · have hp : prA h st se el.isNil = s_loop_xf5f27 ++ Lib.itoa h.n ++ s_sp ++ st := by unfold prA; rw [kk]; rfl
   rw [hp] at hl ⊢
   simp only [List.length_append, List.length_cons, List.length_nil] at hl
   rw [a1, kk, if_neg (by decide), if_neg (by decide), if_neg (by decide), if_neg (by decide), if_neg (by decide), if_pos rfl, a5, Dec_eq h.n (by omega) e, bind_some_eq, if_pos (by simp only [List.length_append, List.length_cons, List.length_nil]; omega), if_pos (by simp only [List.length_append, List.length_cons, List.length_nil]; omega), ht, bind_some_eq, if_pos (by simp only [List.length_append, List.length_cons, List.length_nil]; omega)]
theorem th_le {h : H} {th el : B} (hok : h.ok th el) (d : Nat) (se : List UInt8) (n : Bool) : (prB th d).length ≤ max (prA h (prB th d) se n).length 2 := by
 obtain ⟨_, hk⟩ := hok
 rcases hk with ⟨k, _, _, _, _, e, _⟩ | ⟨k, _, _, _, e, _⟩ | ⟨k, _, _, _, e, _⟩ | ⟨k, _, _, _, _, e, _⟩ | ⟨k, _, _, _, _, e, _⟩ | ⟨k, _⟩ | ⟨k, _⟩
 · subst e; exact Nat.le_max_right _ _
 · subst e; exact Nat.le_max_right _ _
 · subst e; exact Nat.le_max_right _ _
 · subst e; exact Nat.le_max_right _ _
 · subst e; exact Nat.le_max_right _ _
 · refine Nat.le_trans ?_ (Nat.le_max_left _ _)
   unfold prA; rw [k, if_neg (by decide), if_neg (by decide), if_neg (by decide), if_neg (by decide), if_neg (by decide), if_pos rfl]
   simp only [List.length_append]; omega
 · refine Nat.le_trans ?_ (Nat.le_max_left _ _)
   unfold prA; rw [k, if_neg (by decide), if_neg (by decide), if_neg (by decide), if_neg (by decide), if_neg (by decide), if_neg (by decide)]
   simp only [List.length_append]; omega
theorem el_le {h : H} {th el : B} (hok : h.ok th el) (d : Nat) (st : List UInt8) (d' : Nat) : (prB el d).length ≤ max (prA h st (prB el d) el.isNil).length 2 := by
 cases hn : el.isNil with
 | true =>
  have : el = .nil := by cases el with
   | nil => rfl
   | cons _ _ _ _ => cases hn
  subst this
  exact Nat.le_max_right _ _
 | false =>
  have h6 : h.kind = 6 := by
   obtain ⟨_, hk⟩ := hok
   rcases hk with ⟨k, _, _, _, _, _, e⟩ | ⟨k, _, _, _, _, e⟩ | ⟨k, _, _, _, _, e⟩ | ⟨k, _, _, _, _, _, e⟩ | ⟨k, _, _, _, _, _, e⟩ | ⟨k, _⟩ | ⟨k, _, _, _, _, _, e⟩
   · subst e; cases hn
   · subst e; cases hn
   · subst e; cases hn
   · subst e; cases hn
   · subst e; cases hn
   · exact k
   · subst e; cases hn
  refine Nat.le_trans ?_ (Nat.le_max_left _ _)
  unfold prA; rw [h6, if_neg (by decide), if_neg (by decide), if_neg (by decide), if_neg (by decide), if_neg (by decide), if_pos rfl, cond_false]
  simp only [List.length_append]; omega
theorem rblk_run : ∀ (b : B) (l : List api_Act) (d : Nat), IsB b l → b.ok → d + b.sz ≤ 100000 →
 (∀ k, b.sz + 3 ≤ k → (prB b d).length ≤ 140737488355328 → ref8_Print_f k l (d : Int) = some (prB b d)) ∧
 (∀ (pre : List api_Act) (s : List UInt8) (k k' : Nat), b.sz + 2 ≤ k → b.sz + 1 ≤ k' → (pre ++ l).length ≤ 1000000000 → (s ++ prI b (d + 1) ++ rep d ++ s_rb).length ≤ 140737488355328 →
  ref8_Print_l0 (ref8_Print_f k) k' (pre ++ l) (d : Int) s (pre.length : Int) = some (s ++ prI b (d + 1) ++ rep d ++ s_rb)) := by
 intro b
 induction b with
 | nil =>
  intro l d hl _ hd
  have hl : l = [] := hl
  subst hl
  simp only [B.sz] at hd
  refine ⟨fun k hk _ => ?_, fun pre s k k' hk hk' hp2 hlen => ?_⟩
  · obtain ⟨k, rfl⟩ : ∃ j, k = j + 1 := ⟨k - 1, by omega⟩
    show ref8_Print_b (ref8_Print_f k) k [] _ = _
    unfold ref8_Print_b
    rw [if_pos (by rfl)]
    rfl
  · obtain ⟨k', rfl⟩ : ∃ j, k' = j + 1 := ⟨k' - 1, by omega⟩
    simp only [prI, List.append_nil, List.length_append, List.length_cons, List.length_nil] at hlen ⊢
    rw [ref8_Print_l0.eq_2, if_neg (by omega), blanks_eq d (by omega), bind_some_eq, if_pos (by omega), if_pos (by simp only [List.length_append, List.length_cons, List.length_nil]; omega)]
 | cons h th el rest ih1 ih2 ih3 =>
  rintro l d ⟨a, l', rfl, a1, a2, a3, a4, a5, a6, a7, a8⟩ ⟨hok, okt, oke, okr⟩ hd
  simp only [B.sz] at hd
  have hloop : ∀ (pre : List api_Act) (s : List UInt8) (k k' : Nat), (B.cons h th el rest).sz + 2 ≤ k → (B.cons h th el rest).sz + 1 ≤ k' → (pre ++ a :: l').length ≤ 1000000000 → (s ++ prI (B.cons h th el rest) (d + 1) ++ rep d ++ s_rb).length ≤ 140737488355328 →
   ref8_Print_l0 (ref8_Print_f k) k' (pre ++ a :: l') (d : Int) s (pre.length : Int) = some (s ++ prI (B.cons h th el rest) (d + 1) ++ rep d ++ s_rb) := by
   intro pre s k k' hk hk' hp2 hlen
   simp only [B.sz] at hk hk'
   obtain ⟨k', rfl⟩ : ∃ j, k' = j + 1 := ⟨k' - 1, by omega⟩
   simp only [prI] at hlen ⊢
   have hpos : pre.length < (pre ++ a :: l').length := by simp
   have hget : (pre ++ a :: l').getD (pre.length : Int).toNat api_Act.z = a := by rw [Int.toNat_natCast, List.getD_eq_getElem?_getD, List.getElem?_append_right (Nat.le_refl _), Nat.sub_self]; rfl
   have hw : w64 ((d : Int) + 1) = ((d + 1 : Nat) : Int) := by rw [w64_in (by omega) (by omega)]; omega
   have hwn : w64 ((pre.length : Int) + 1) = ((pre ++ [a]).length : Int) := by rw [w64_in (by omega) (by omega)]; simp
   simp only [List.length_append, List.length_cons, List.length_nil] at hlen
   have hA : (prA h (prB th (d + 1)) (prB el (d + 1)) el.isNil).length ≤ 140737488355328 := by simp only [prB]; omega
   have hth := (ih1 a.Then (d + 1) a6 okt (by omega)).1 k (by omega) (Nat.le_trans (th_le hok (d + 1) (prB el (d + 1)) el.isNil) (by omega))
   have hel := (ih2 a.Else (d + 1) a7 oke (by omega)).1 k (by omega) (Nat.le_trans (el_le hok (d + 1) (prB th (d + 1)) 0) (by omega))
   rw [ref8_Print_l0.eq_2, if_pos (by omega), hw, blanks_eq (d + 1) (by omega), bind_some_eq, if_pos (by omega), if_pos (by omega), if_pos (by omega), hget]
   rw [rone_act hok ⟨a1, a2, a3, a4, a5, a6, a7⟩ hth hel hA, bind_some_eq, if_pos (by simp only [List.length_append, prB]; omega), if_pos (by simp only [List.length_append, List.length_cons, List.length_nil, prB]; omega)]
   have := (ih3 l' d a8 okr (by omega)).2 (pre ++ [a]) (s ++ rep (d + 1) ++ prA h (prB th (d + 1)) (prB el (d + 1)) el.isNil ++ [10]) k k' (by omega) (by omega) (by rw [List.append_assoc]; exact hp2) (by simp only [List.length_append, List.length_cons, List.length_nil, prB]; omega)
   rw [hwn, show (pre ++ a :: l') = (pre ++ [a]) ++ l' from by simp]
   refine this.trans ?_
   simp [prB]
  refine ⟨fun k hk hb => ?_, hloop⟩
  obtain ⟨k, rfl⟩ : ∃ j, k = j + 1 := ⟨k - 1, by omega⟩
  show ref8_Print_b (ref8_Print_f k) k (a :: l') _ = _
  unfold ref8_Print_b
  have e1 : prB (B.cons h th el rest) d = s_lb_nl ++ prI (B.cons h th el rest) (d + 1) ++ rep d ++ s_rb := rfl
  rw [e1] at hb ⊢
  have hlen := IsB_len rest l' a8
  rw [if_neg (by simp; omega), show max (d : Int) 0 = (d : Int) from by omega]
  exact hloop [] s_lb_nl k k (by simp only [B.sz] at hk ⊢; omega) (by simp only [B.sz] at hk ⊢; omega) (by simp; omega) hb
theorem rprint_eq {b : B} {l : List api_Act} (h : IsB b l) (hok : b.ok) (d : Nat) (hd : d + b.sz ≤ 100000) (hl : (prB b d).length ≤ 140737488355328) (v : Int) (hv : max v 0 = (d : Int)) : ref8_Print l v = some (prB b d) := lim_eq (b.sz + 4) fun k hk => by
 obtain ⟨k, rfl⟩ : ∃ j, k = j + 1 := ⟨k - 1, by omega⟩
 have h1 := (rblk_run b l d h hok hd).1 (k + 1) (by omega) hl
 have h2 : ref8_Print_f (k + 1) l (d : Int) = ref8_Print_b (ref8_Print_f k) k l (d : Int) := rfl
 show ref8_Print_b (ref8_Print_f k) k l v = _
 rw [h2] at h1
 unfold ref8_Print_b at h1 ⊢
 rw [show max (d : Int) 0 = (d : Int) from by omega] at h1
 rw [hv]; exact h1
end Go.Sy.Ex
namespace Go.Sy.Ex
open Go.Sy
theorem eqX {x : Option T} {X Y : List api_Expr} (hX : IsX x X) (hY : IsX x Y) (hx : xok x) : slices_EqualFunc_api_Expr_api_Expr_api_Expr_api_Expr X Y (fun y => expr_Same y.1 y.2) = some true := by
 cases x with
 | none =>
  rw [show X = [] from hX, show Y = [] from hY, eqf_eq 0 _ _ _ (by decide) (fun x hx => by cases hx)]
  rfl
 | some t =>
  obtain ⟨e, rfl, he⟩ := hX
  obtain ⟨f, rfl, hf⟩ := hY
  rw [eqf_eq (t.sz + 1) _ _ _ (by simp) (fun z hz y => by rw [List.mem_singleton] at hz; subst hz; exact Same_eq (he.fw hx.1) y)]
  simp [smP_tree he hf (he.fw hx.1)]
theorem asame_run : ∀ (b : B), b.ok → b.sz ≤ 1000000 → ∀ (l m : List api_Act), IsB b l → IsB b m → (∀ k, b.sz + 1 ≤ k → act_Same_f k l m = some true) ∧
 ∀ (pre pre' : List api_Act) (k k' : Nat), pre.length = pre'.length → b.sz ≤ k → b.sz ≤ k' → (pre ++ l).length ≤ 1000000000 →
  slices_EqualFunc_api_Act_api_Act_api_Act_api_Act_l0 k' (pre' ++ m) (fun y => act_Same_S1 (act_Same_f k) y.1 y.2) (pre ++ l) ((pre ++ l).length : Int) (pre.length : Int) = some true := by
 intro b
 have wrap : ∀ (b : B) (l m : List api_Act), l.length = m.length → (∀ k k' : Nat, b.sz ≤ k → b.sz ≤ k' → slices_EqualFunc_api_Act_api_Act_api_Act_api_Act_l0 k' m (fun y => act_Same_S1 (act_Same_f k) y.1 y.2) l (l.length : Int) 0 = some true) → ∀ k, b.sz + 1 ≤ k → act_Same_f k l m = some true := fun b l m hlm h k hk => by
  obtain ⟨k, rfl⟩ : ∃ j, k = j + 1 := ⟨k - 1, by omega⟩
  show act_Same_b (act_Same_f k) k l m = _
  unfold act_Same_b
  rw [show slices_EqualFunc_api_Act_api_Act_api_Act_api_Act l m (fun y => act_Same_S1 (act_Same_f k) y.1 y.2) = some true from lim_eq b.sz fun k' hk' => by
   show slices_EqualFunc_api_Act_api_Act_api_Act_api_Act_f k' l m (fun y => act_Same_S1 (act_Same_f k) y.1 y.2) = _
   unfold slices_EqualFunc_api_Act_api_Act_api_Act_api_Act_f
   rw [if_neg (by omega)]
   exact h k k' (by omega) hk', bind_some_eq]
 induction b with
 | nil =>
  intro _ _ l m hl hm
  have hl : l = [] := hl
  have hm : m = [] := hm
  subst hl; subst hm
  have hloop : ∀ (pre pre' : List api_Act) (k k' : Nat), pre.length = pre'.length → B.nil.sz ≤ k → B.nil.sz ≤ k' → (pre ++ []).length ≤ 1000000000 →
   slices_EqualFunc_api_Act_api_Act_api_Act_api_Act_l0 k' (pre' ++ []) (fun y => act_Same_S1 (act_Same_f k) y.1 y.2) (pre ++ []) ((pre ++ []).length : Int) (pre.length : Int) = some true := fun pre pre' k k' hp hk hk' _ => by
   simp only [B.sz] at hk'
   obtain ⟨k', rfl⟩ : ∃ j, k' = j + 1 := ⟨k' - 1, by omega⟩
   rw [slices_EqualFunc_api_Act_api_Act_api_Act_api_Act_l0.eq_2, if_neg (by simp)]
  exact ⟨wrap .nil [] [] rfl fun k k' h1 h2 => hloop [] [] k k' rfl h1 h2 (by simp), hloop⟩
 | cons h th el rest ih1 ih2 ih3 =>
  rintro ⟨hok, okt, oke, okr⟩ hsz l m ⟨a, l', rfl, a1, a2, a3, a4, a5, a6, a7, a8⟩ ⟨c, m', rfl, c1, c2, c3, c4, c5, c6, c7, c8⟩
  have hsz' := hsz
  simp only [B.sz] at hsz'
  have hlen1 := IsB_len rest l' a8
  have hlen2 := IsB_len rest m' c8
  have same_len : ∀ (b : B) (l m : List api_Act), IsB b l → IsB b m → l.length = m.length := by
   intro b
   induction b with
   | nil => intro l m hl hm; rw [show l = [] from hl, show m = [] from hm]
   | cons _ _ _ r _ _ ih =>
    rintro l m ⟨_, l1, rfl, _, _, _, _, _, _, _, h1⟩ ⟨_, m1, rfl, _, _, _, _, _, _, _, h2⟩
    simp only [List.length_cons]; rw [ih l1 m1 h1 h2]
  have hlm := same_len rest l' m' a8 c8
  have hloop : ∀ (pre pre' : List api_Act) (k k' : Nat), pre.length = pre'.length → (B.cons h th el rest).sz ≤ k → (B.cons h th el rest).sz ≤ k' → (pre ++ a :: l').length ≤ 1000000000 →
   slices_EqualFunc_api_Act_api_Act_api_Act_api_Act_l0 k' (pre' ++ c :: m') (fun y => act_Same_S1 (act_Same_f k) y.1 y.2) (pre ++ a :: l') ((pre ++ a :: l').length : Int) (pre.length : Int) = some true := fun pre pre' k k' hp hk hk' hlen => by
   simp only [B.sz] at hk hk'
   obtain ⟨k', rfl⟩ : ∃ j, k' = j + 1 := ⟨k' - 1, by omega⟩
   have hpos : pre.length < (pre ++ a :: l').length := by simp
   have hpos2 : pre.length < (pre' ++ c :: m').length := by simp; omega
   have hget : (pre ++ a :: l').getD (pre.length : Int).toNat api_Act.z = a := by rw [Int.toNat_natCast, List.getD_eq_getElem?_getD, List.getElem?_append_right (Nat.le_refl _), Nat.sub_self]; rfl
   have hget2 : (pre' ++ c :: m').getD (pre.length : Int).toNat api_Act.z = c := by rw [Int.toNat_natCast, hp, List.getD_eq_getElem?_getD, List.getElem?_append_right (Nat.le_refl _), Nat.sub_self]; rfl
   have hwn : w64 ((pre.length : Int) + 1) = ((pre ++ [a]).length : Int) := by rw [w64_in (by omega) (by omega)]; simp
   have hS : act_Same_S1 (act_Same_f k) a c = some true := by
    unfold act_Same_S1
    rw [if_pos (a1.trans c1.symm), if_pos (a2.trans c2.symm), if_pos (a3.trans c3.symm), if_pos (a5.trans c5.symm), eqX a4 c4 hok.1, bind_some_eq, cond_true, (ih1 okt (by omega) a.Then c.Then a6 c6).1 k (by omega), bind_some_eq, cond_true, (ih2 oke (by omega) a.Else c.Else a7 c7).1 k (by omega), bind_some_eq]
   rw [slices_EqualFunc_api_Act_api_Act_api_Act_api_Act_l0.eq_2, if_pos (by omega), if_pos (by omega), if_pos (by omega), if_pos (by omega), if_pos (by omega), hget, hget2, aeta, aeta]
   dsimp only
   rw [hS, bind_some_eq, Bool.not_true, cond_false, hwn, show pre ++ a :: l' = (pre ++ [a]) ++ l' from by simp, show pre' ++ c :: m' = (pre' ++ [c]) ++ m' from by simp]
   exact (ih3 okr (by omega) l' m' a8 c8).2 (pre ++ [a]) (pre' ++ [c]) k k' (by simp [hp]) (by omega) (by omega) (by rw [List.append_assoc]; exact hlen)
  refine ⟨wrap (.cons h th el rest) (a :: l') (c :: m') (by simp [hlm]) fun k k' h1 h2 => hloop [] [] k k' rfl h1 h2 (by simp; omega), hloop⟩
theorem aSame_eq {b : B} {l m : List api_Act} (hl : IsB b l) (hm : IsB b m) (hok : b.ok) (hsz : b.sz ≤ 1000000) : act_Same l m = some true := lim_eq (b.sz + 1) fun k hk => (asame_run b hok hsz l m hl hm).1 k hk
end Go.Sy.Ex
namespace Go.Sy.Ex
open Go.Sy
abbrev s0 : ref37_Scope := ref37_Scope.mk [s_x, s_y] [s_p] [s_t] [s_idle]
theorem egen (L : List Int) (hL : L.length ≤ 1000000) (i : Nat) (hi : i ≤ L.length) : ∃ e i' t, ref37_Expr (ref37_Row.mk L (i : Int)) s0 2 = some (e, ref37_Row.mk L ((i' : Nat) : Int)) ∧ i' ≤ L.length ∧ Is t e ∧ t.ok ∧ nst t 1 ≤ 12 ∧ (pr t 1).length ≤ 300 := by
 obtain ⟨e, i', t, he, h4, h5, h6, h7, h8⟩ := gen_run L hL s0 (by decide +kernel) (by decide) (by decide +kernel) (by decide) 2 (by decide) i hi
 have h := (nst_dp t 1 h6 (by decide)).1
 have hb := pr_bound t 1 h6
 have h8 : t.sz ≤ 7 := h8
 exact ⟨e, i', t, lim_eq 12 he, h4, h5, h6, by omega, by omega⟩
theorem event_eq {r : Int} (h0 : 0 ≤ r) (h8 : r < 8) : ∃ s, ref37_Event r = some s ∧ nameP s = true := by
 have : r = 0 ∨ r = 1 ∨ r = 2 ∨ r = 3 ∨ r = 4 ∨ r = 5 ∨ r = 6 ∨ r = 7 := by omega
 have hp : ref37_Place r 8 = some r := by
  unfold ref37_Place
  rw [if_pos (by decide), if_neg (by rw [Int.tmod_eq_of_lt h0 h8]; omega), Int.tmod_eq_of_lt h0 h8]
 unfold ref37_Event
 rw [hp, bind_some_eq, if_pos h0, if_pos (by show r < ((8 : Nat) : Int); omega)]
 rcases this with rfl | rfl | rfl | rfl | rfl | rfl | rfl | rfl <;> exact ⟨_, rfl, by decide +kernel⟩
theorem cutX {e : api_Expr} {t : T} (hi : Is t e) (hx : t.ok ∧ nst t 1 ≤ 12) {r : Int} (h0 : 0 ≤ r) (h2 : r < 2) : ∃ x, IsX x (cut [e] 0 r) ∧ xok x ∧ (prX x).length ≤ (pr t 1).length := by
 have : r = 0 ∨ r = 1 := by omega
 rcases this with rfl | rfl
 · exact ⟨none, rfl, trivial, Nat.zero_le _⟩
 · exact ⟨some t, ⟨e, rfl, hi⟩, hx, Nat.le_refl _⟩
def B.small : B → Prop
 | .nil => True
 | .cons h th el rest => (prX h.x).length ≤ 300 ∧ th.small ∧ el.small ∧ rest.small
def Step (L : List Int) (d : Nat) (S K : Nat) (i n : Nat) (out : List api_Act) : Prop :=
 (∃ a h th j, IsA h th .nil a ∧ h.ok th .nil ∧ th.ok ∧ (if h.kind = 6 ∨ h.kind = 7 then th.dp + 1 else 1) ≤ d + 1 ∧ th.sz ≤ S ∧ (prX h.x).length ≤ 300 ∧ th.small ∧ j ≤ L.length ∧ ∀ k, K ≤ k → ∀ k', ref37_Block_l0 (ref37_Block_f k) (k' + 1) L (i : Int) (d : Int) s0.Vars s0.Ports s0.Timers s0.States out ((n + 1 : Nat) : Int) = ref37_Block_l0 (ref37_Block_f k) k' L ((j : Nat) : Int) (d : Int) s0.Vars s0.Ports s0.Timers s0.States (out ++ [a]) (n : Int)) ∨
 (∃ j, j ≤ L.length ∧ ∀ k, K ≤ k → ∀ k', ref37_Block_l0 (ref37_Block_f k) (k' + 1) L (i : Int) (d : Int) s0.Vars s0.Ports s0.Timers s0.States out ((n + 1 : Nat) : Int) = ref37_Block_l0 (ref37_Block_f k) k' L ((j : Nat) : Int) (d : Int) s0.Vars s0.Ports s0.Timers s0.States out (n : Int))
theorem num_small (r : Int) (h0 : 0 ≤ r) (h3 : r < 3) : (prX (some (.num (1 + r)))).length ≤ 300 := by
 have := pr_bound (.num (1 + r)) 1 ⟨by omega, by omega⟩
 simp only [T.sz] at this
 show (pr (.num (1 + r)) 1).length ≤ 300
 omega
theorem step_ok (L : List Int) (hL : L.length ≤ 1000000) (d : Nat) (hd : d ≤ 100) (S K : Nat) (hS : 1 ≤ S) (self : 0 < d → ∀ i, i ≤ L.length → ∃ l i' b, (∀ k, K ≤ k → ref37_Block_f k (ref37_Row.mk L (i : Int)) s0 ((d - 1 : Nat) : Int) = some (l, ref37_Row.mk L ((i' : Nat) : Int))) ∧ i' ≤ L.length ∧ IsB b l ∧ b.ok ∧ b.dp ≤ d ∧ b.sz ≤ S ∧ b.small)
 (i n : Nat) (hi : i ≤ L.length) (hn : n ≤ 10) (out : List api_Act) (ho : out.length ≤ 100) : Step L d S K i n out := by
 obtain ⟨q, i1, hq, q0, q10, hi1⟩ := next_eq hi hL (n := 10) (by decide) (by decide)
 obtain ⟨e, i2, t, he, hi2, ht, hto, htn, htl⟩ := egen L hL i1 hi1
 have hw : w64 (((n + 1 : Nat) : Int) - 1) = (n : Int) := by rw [w64_in (by omega) (by omega)]; omega
 have hg : ∀ a : api_Act, (out.length + [a].length) * 128 ≤ 140737488355328 := fun a => by simp only [List.length_singleton]; omega
 have hsc : ∀ s : ref37_Scope, ref37_Scope.mk s.Vars s.Ports s.Timers s.States = s := fun s => by cases s; rfl
 have start : ∀ (self' : ref37_Row → ref37_Scope → Int → Option (List api_Act × ref37_Row)) (k' : Nat) (x : Option (List api_Act × ref37_Row)), True := fun _ _ _ => trivial
 by_cases c3 : q < 3
 · obtain ⟨v, j, hp, hv, hj⟩ := pick_eq hi2 hL (l := s0.Vars) (by simp) (by simp)
   have hvn : nameP v = true := by
    simp only [List.mem_cons, List.not_mem_nil, or_false] at hv
    rcases hv with rfl | rfl <;> decide +kernel
   refine .inl ⟨api_Act.mk 1 v [] [e] 0 [] [] 0, ⟨1, v, [], some t, 0⟩, .nil, j, ⟨rfl, rfl, rfl, ⟨e, rfl, ht⟩, rfl, rfl, rfl⟩, ⟨⟨hto, htn⟩, .inl ⟨rfl, hvn, rfl, by simp, rfl, rfl, rfl⟩⟩, trivial, by simp, hS, htl, trivial, hj, fun k hk k' => ?_⟩
   conv => lhs; rw [ref37_Block_l0.eq_2]
   rw [if_pos (by omega), hq, bind_some_eq, hsc, he, bind_some_eq]
   dsimp only
   rw [if_pos c3, if_pos (by decide), hp, bind_some_eq, if_pos (hg _), hw]
 by_cases c4 : q = 3
 · obtain ⟨r5, j5, hr5, r50, r58, hj5⟩ := next_eq hi2 hL (n := 8) (by decide) (by decide)
   obtain ⟨ev, hev, hevn⟩ := event_eq r50 r58
   obtain ⟨r7, j7, hr7, r70, r72, hj7⟩ := next_eq hj5 hL (n := 2) (by decide) (by decide)
   obtain ⟨x, hX, hx, hxl⟩ := cutX ht ⟨hto, htn⟩ r70 r72
   refine .inl ⟨api_Act.mk 2 [] ev (cut [e] 0 r7) 0 [] [] 0, ⟨2, [], ev, x, 0⟩, .nil, j7, ⟨rfl, rfl, rfl, hX, rfl, rfl, rfl⟩, ⟨hx, .inr (.inl ⟨rfl, rfl, hevn, rfl, rfl, rfl⟩)⟩, trivial, by simp, hS, Nat.le_trans hxl htl, trivial, hj7, fun k hk k' => ?_⟩
   conv => lhs; rw [ref37_Block_l0.eq_2]
   rw [if_pos (by omega), hq, bind_some_eq, hsc, he, bind_some_eq]
   dsimp only
   rw [if_neg c3, if_pos c4, hr5, bind_some_eq, hev, bind_some_eq, hr7, bind_some_eq]
   dsimp only
   rw [if_pos r70, if_pos (by simp only [List.length_singleton]; omega), if_pos (hg _), hw]
 by_cases c7 : q < 7
 · obtain ⟨v, j, hp, hv, hj⟩ := pick_eq hi2 hL (l := s0.Ports) (by simp) (by simp)
   have hvn : nameP v = true := by
    simp only [List.mem_cons, List.not_mem_nil, or_false] at hv
    subst hv; decide +kernel
   obtain ⟨r5, j5, hr5, r50, r58, hj5⟩ := next_eq hj hL (n := 3) (by decide) (by decide)
   obtain ⟨ev, hev, hevn⟩ := event_eq r50 (by omega)
   obtain ⟨r7, j7, hr7, r70, r72, hj7⟩ := next_eq hj5 hL (n := 2) (by decide) (by decide)
   obtain ⟨x, hX, hx, hxl⟩ := cutX ht ⟨hto, htn⟩ r70 r72
   refine .inl ⟨api_Act.mk 3 v ev (cut [e] 0 r7) 0 [] [] 0, ⟨3, v, ev, x, 0⟩, .nil, j7, ⟨rfl, rfl, rfl, hX, rfl, rfl, rfl⟩, ⟨hx, .inr (.inr (.inl ⟨rfl, hvn, hevn, rfl, rfl, rfl⟩))⟩, trivial, by simp, hS, Nat.le_trans hxl htl, trivial, hj7, fun k hk k' => ?_⟩
   conv => lhs; rw [ref37_Block_l0.eq_2]
   rw [if_pos (by omega), hq, bind_some_eq, hsc, he, bind_some_eq]
   dsimp only
   rw [if_neg c3, if_neg c4, if_pos c7, if_pos (by decide), hp, bind_some_eq, hr5, bind_some_eq]
   dsimp only
   rw [hev, bind_some_eq, hr7, bind_some_eq]
   dsimp only
   rw [if_pos r70, if_pos (by simp only [List.length_singleton]; omega), if_pos (hg _), hw]
 by_cases c8 : q = 7
 · obtain ⟨v, j, hp, hv, hj⟩ := pick_eq hi2 hL (l := s0.Timers) (by simp) (by simp)
   have hvn : nameP v = true := by
    simp only [List.mem_cons, List.not_mem_nil, or_false] at hv
    subst hv; decide +kernel
   obtain ⟨r5, j5, hr5, r50, r58, hj5⟩ := next_eq hj hL (n := 3) (by decide) (by decide)
   refine .inl ⟨api_Act.mk 4 v [] [api_Expr.mk 1 (1 + r5) [] [] 0] 0 [] [] 0, ⟨4, v, [], some (.num (1 + r5)), 0⟩, .nil, j5, ⟨rfl, rfl, rfl, ⟨_, rfl, ⟨rfl, rfl, rfl, rfl⟩⟩, rfl, rfl, rfl⟩, ⟨⟨⟨by omega, by omega⟩, by simp [nst, parN]⟩, .inr (.inr (.inr (.inl ⟨rfl, hvn, rfl, by simp, rfl, rfl, rfl⟩)))⟩, trivial, by simp, hS, num_small r5 r50 r58, trivial, hj5, fun k hk k' => ?_⟩
   conv => lhs; rw [ref37_Block_l0.eq_2]
   rw [if_pos (by omega), hq, bind_some_eq, hsc, he, bind_some_eq]
   dsimp only
   rw [if_neg c3, if_neg c4, if_neg c7, if_pos c8, if_pos (by decide), hp, bind_some_eq, hr5, bind_some_eq, if_pos (hg _), hw]
   dsimp only
   rw [w64_in (n := 1 + r5) (by omega) (by omega)]
 by_cases c9 : q = 8
 · obtain ⟨v, j, hp, hv, hj⟩ := pick_eq hi2 hL (l := s0.Timers) (by simp) (by simp)
   have hvn : nameP v = true := by
    simp only [List.mem_cons, List.not_mem_nil, or_false] at hv
    subst hv; decide +kernel
   refine .inl ⟨api_Act.mk 5 v [] [] 0 [] [] 0, ⟨5, v, [], none, 0⟩, .nil, j, ⟨rfl, rfl, rfl, rfl, rfl, rfl, rfl⟩, ⟨trivial, .inr (.inr (.inr (.inr (.inl ⟨rfl, hvn, rfl, rfl, rfl, rfl, rfl⟩))))⟩, trivial, by simp, hS, Nat.zero_le _, trivial, hj, fun k hk k' => ?_⟩
   conv => lhs; rw [ref37_Block_l0.eq_2]
   rw [if_pos (by omega), hq, bind_some_eq, hsc, he, bind_some_eq]
   dsimp only
   rw [if_neg c3, if_neg c4, if_neg c7, if_neg c8, if_pos c9, if_pos (by decide), hp, bind_some_eq, if_pos (hg _), hw]
 have hq9 : q = 9 := by omega
 by_cases hd0 : 0 < d
 · obtain ⟨r, j, hr, r0, r4, hj⟩ := next_eq hi2 hL (n := 4) (by decide) (by decide)
   obtain ⟨l, j2, b, hb, hj2, hib, hbo, hbd, hbs, hbm⟩ := self hd0 j hj
   refine .inl ⟨api_Act.mk 7 [] [] [] (1 + r) l [] 0, ⟨7, [], [], none, 1 + r⟩, b, j2, ⟨rfl, rfl, rfl, rfl, rfl, hib, rfl⟩, ⟨trivial, .inr (.inr (.inr (.inr (.inr (.inr ⟨rfl, rfl, rfl, rfl, by show (0 : Int) ≤ 1 + r; omega, by show 1 + r ≤ (9223372036854775807 : Int); omega, rfl⟩)))))⟩, hbo, by simp; omega, hbs, Nat.zero_le _, hbm, hj2, fun k hk k' => ?_⟩
   conv => lhs; rw [ref37_Block_l0.eq_2]
   rw [if_pos (by omega), hq, bind_some_eq, hsc, he, bind_some_eq]
   dsimp only
   rw [if_neg c3, if_neg c4, if_neg c7, if_neg c8, if_neg c9, if_pos (by omega), if_pos (by decide), if_neg (by rw [hq9]; decide), if_pos (by omega), hr, bind_some_eq]
   dsimp only
   rw [show w64 ((d : Int) - 1) = ((d - 1 : Nat) : Int) from by rw [w64_in (by omega) (by omega)]; omega, hb k hk, bind_some_eq, if_pos (hg _), hw]
   dsimp only
   rw [w64_in (n := 1 + r) (by omega) (by omega)]
 · refine .inr ⟨i2, hi2, fun k hk k' => ?_⟩
   conv => lhs; rw [ref37_Block_l0.eq_2]
   rw [if_pos (by omega), hq, bind_some_eq, hsc, he, bind_some_eq]
   dsimp only
   rw [if_neg c3, if_neg c4, if_neg c7, if_neg c8, if_neg c9, if_neg (by omega), if_neg (by omega), hw]
theorem loopB (L : List Int) (hL : L.length ≤ 1000000) (d : Nat) (hd : d ≤ 100) (S K : Nat) (hS : 1 ≤ S) (self : 0 < d → ∀ i, i ≤ L.length → ∃ l i' b, (∀ k, K ≤ k → ref37_Block_f k (ref37_Row.mk L (i : Int)) s0 ((d - 1 : Nat) : Int) = some (l, ref37_Row.mk L ((i' : Nat) : Int))) ∧ i' ≤ L.length ∧ IsB b l ∧ b.ok ∧ b.dp ≤ d ∧ b.sz ≤ S ∧ b.small) :
 ∀ (n : Nat) (i : Nat) (out : List api_Act), n ≤ 10 → i ≤ L.length → out.length + n ≤ 100 → ∃ l i' b, (∀ k, K ≤ k → ∀ k', n + 1 ≤ k' → ref37_Block_l0 (ref37_Block_f k) k' L (i : Int) (d : Int) s0.Vars s0.Ports s0.Timers s0.States out (n : Int) = some (out ++ l, ref37_Row.mk L ((i' : Nat) : Int))) ∧ i' ≤ L.length ∧ IsB b l ∧ b.ok ∧ b.dp ≤ d + 1 ∧ b.sz ≤ n * (S + 2) + 1 ∧ b.small := by
 intro n
 induction n with
 | zero =>
  intro i out _ hi _
  refine ⟨[], i, .nil, fun k hk k' hk' => ?_, hi, rfl, trivial, by simp only [B.dp]; omega, by simp only [B.sz]; omega, trivial⟩
  obtain ⟨k', rfl⟩ : ∃ j, k' = j + 1 := ⟨k' - 1, by omega⟩
  rw [ref37_Block_l0.eq_2, if_neg (by decide), List.append_nil]
 | succ n ih =>
  intro i out hn hi ho
  have hm : (n + 1) * (S + 2) = n * (S + 2) + (S + 2) := Nat.succ_mul _ _
  rcases step_ok L hL d hd S K hS self i n hi (by omega) out (by omega) with ⟨a, h, th, j, ha, hok, okt, hdp, hsz, hxl, hsm, hj, hr⟩ | ⟨j, hj, hr⟩
  · obtain ⟨l, i', b, hb, h1, h2, h3, h4, h5, h6⟩ := ih j (out ++ [a]) (by omega) hj (by rw [List.length_append, List.length_singleton]; omega)
    refine ⟨a :: l, i', .cons h th .nil b, fun k hk k' hk' => ?_, h1, ⟨a, l, rfl, ha.1, ha.2.1, ha.2.2.1, ha.2.2.2.1, ha.2.2.2.2.1, ha.2.2.2.2.2.1, ha.2.2.2.2.2.2, h2⟩, ⟨hok, okt, trivial, h3⟩, ?_, ?_, ⟨hxl, hsm, trivial, h6⟩⟩
    · obtain ⟨k', rfl⟩ : ∃ j, k' = j + 1 := ⟨k' - 1, by omega⟩
      rw [hr k hk k', hb k hk k' (by omega), show out ++ a :: l = (out ++ [a]) ++ l from by simp]
    · simp only [B.dp, B.isNil, cond_true]; omega
    · simp only [B.sz]; omega
  · obtain ⟨l, i', b, hb, h1, h2, h3, h4, h5, h6⟩ := ih j out (by omega) hj (by omega)
    refine ⟨l, i', b, fun k hk k' hk' => ?_, h1, h2, h3, h4, by omega, h6⟩
    obtain ⟨k', rfl⟩ : ∃ j, k' = j + 1 := ⟨k' - 1, by omega⟩
    rw [hr k hk k', hb k hk k' (by omega)]
theorem bgen (L : List Int) (hL : L.length ≤ 1000000) : ∀ (d : Nat), d ≤ 10 → ∀ i : Nat, i ≤ L.length → ∃ l i' b, (∀ k, 6 * d + 6 ≤ k → ref37_Block_f k (ref37_Row.mk L (i : Int)) s0 (d : Int) = some (l, ref37_Row.mk L ((i' : Nat) : Int))) ∧ i' ≤ L.length ∧ IsB b l ∧ b.ok ∧ b.dp ≤ d + 1 ∧ b.sz + 5 ≤ 12 * 2 ^ d ∧ b.small := by
 have fin : ∀ (d : Nat) (S K : Nat), 1 ≤ S → d ≤ 10 → (0 < d → ∀ i, i ≤ L.length → ∃ l i' b, (∀ k, K ≤ k → ref37_Block_f k (ref37_Row.mk L (i : Int)) s0 ((d - 1 : Nat) : Int) = some (l, ref37_Row.mk L ((i' : Nat) : Int))) ∧ i' ≤ L.length ∧ IsB b l ∧ b.ok ∧ b.dp ≤ d ∧ b.sz ≤ S ∧ b.small) →
  ∀ i : Nat, i ≤ L.length → ∃ l i' b, (∀ k, K + 6 ≤ k → ref37_Block_f k (ref37_Row.mk L (i : Int)) s0 (d : Int) = some (l, ref37_Row.mk L ((i' : Nat) : Int))) ∧ i' ≤ L.length ∧ IsB b l ∧ b.ok ∧ b.dp ≤ d + 1 ∧ b.sz ≤ 2 * (S + 2) + 1 ∧ b.small := fun d S K hS hd self i hi => by
  obtain ⟨r, i1, hr, r0, r3, hi1⟩ := next_eq hi hL (n := 3) (by decide) (by decide)
  obtain ⟨n, rfl⟩ : ∃ n : Nat, r = (n : Int) := ⟨r.toNat, by omega⟩
  obtain ⟨l, i', b, hb, h1, h2, h3, h4, h5, h6⟩ := loopB L hL d (by omega) S K hS self n i1 [] (by omega) hi1 (by simp; omega)
  have hm : n * (S + 2) ≤ 2 * (S + 2) := Nat.mul_le_mul_right _ (by omega)
  refine ⟨l, i', b, fun k hk => ?_, h1, h2, h3, h4, by omega, h6⟩
  obtain ⟨k, rfl⟩ : ∃ j, k = j + 1 := ⟨k - 1, by omega⟩
  show ref37_Block_b (ref37_Block_f k) k _ s0 _ = _
  unfold ref37_Block_b
  rw [hr, bind_some_eq]
  have := hb k (by omega) k (by omega)
  rw [List.nil_append] at this
  exact this
 intro d
 induction d with
 | zero =>
  intro hd i hi
  obtain ⟨l, i', b, h0, h1, h2, h3, h4, h5, h6⟩ := fin 0 1 0 (Nat.le_refl _) (by decide) (fun h => absurd h (by decide)) i hi
  exact ⟨l, i', b, h0, h1, h2, h3, h4, by omega, h6⟩
 | succ d ih =>
  intro hd i hi
  have hp : 2 ^ (d + 1) = 2 * 2 ^ d := by rw [Nat.pow_succ, Nat.mul_comm]
  have hp0 : 1 ≤ 2 ^ d := Nat.one_le_two_pow
  obtain ⟨l, i', b, h0, h1, h2, h3, h4, h5, h6⟩ := fin (d + 1) (12 * 2 ^ d - 5) (6 * d + 6) (by omega) hd (fun _ j hj => by
   obtain ⟨l, i', b, g0, g1, g2, g3, g4, g5, g6⟩ := ih (by omega) j hj
   exact ⟨l, i', b, g0, g1, g2, g3, g4, by omega, g6⟩) i hi
  exact ⟨l, i', b, fun k hk => h0 k (by omega), h1, h2, h3, h4, by omega, h6⟩
theorem prA_le {h : H} {th el : B} (hok : h.ok th el) (hx : (prX h.x).length ≤ 300) (st se : List UInt8) (n : Bool) : (prA h st se n).length ≤ 402 + st.length + se.length := by
 have hw : (wX h.x).length ≤ 302 := by
  cases hxx : h.x with
  | none => exact Nat.zero_le _
  | some t => rw [hxx] at hx; have hx : (pr t 1).length ≤ 300 := hx; simp [wX]; omega
 obtain ⟨_, hk⟩ := hok
 rcases hk with ⟨k, a, b, _⟩ | ⟨k, a, b, _⟩ | ⟨k, a, b, _⟩ | ⟨k, a, b, _⟩ | ⟨k, a, b, _⟩ | ⟨k, a, b, _⟩ | ⟨k, a, b, c, d, e, _⟩
 · have := (name_split a).2.1; unfold prA; rw [k]; simp; omega
 · have := (name_split b).2.1; unfold prA; rw [k]; simp; omega
 · have := (name_split a).2.1; have := (name_split b).2.1; unfold prA; rw [k]; simp; omega
 · have := (name_split a).2.1; unfold prA; rw [k]; simp; omega
 · have := (name_split a).2.1; unfold prA; rw [k]; simp; omega
 · unfold prA; rw [k]; cases n <;> simp <;> omega
 · have := itoa_len d e; unfold prA; rw [k]; simp; omega
theorem prI_le : ∀ (b : B) (d : Nat), b.ok → b.small → (prI b d).length ≤ b.sz * (6 * (d + b.sz) + 500)
 | .nil, d, _, _ => Nat.zero_le _
 | .cons h th el rest, d, ⟨hok, okt, oke, okr⟩, ⟨hx, smt, sme, smr⟩ => by
  have h1 := prI_le th (d + 1) okt smt
  have h2 := prI_le el (d + 1) oke sme
  have h3 := prI_le rest d okr smr
  have hrep : ∀ n, (rep n).length = 2 * n := fun n => by unfold rep; rw [Lib.repeatL_length]; simp; omega
  have hblk : ∀ (b : B) (s : List UInt8), (blk b s d).length ≤ s.length + 2 * d + 3 := fun b s => by
   unfold blk
   cases b.isNil with
   | true => simp
   | false => simp [hrep]; omega
  have hA := prA_le hok hx (blk th (prI th (d + 1)) d) (blk el (prI el (d + 1)) d) el.isNil
  have hb1 := hblk th (prI th (d + 1))
  have hb2 := hblk el (prI el (d + 1))
  simp only [prI, B.sz, List.length_append, hrep, List.length_cons, List.length_nil]
  have m1 : th.sz * (6 * (d + 1 + th.sz) + 500) ≤ th.sz * (6 * (d + (th.sz + el.sz + rest.sz + 1)) + 500) := Nat.mul_le_mul_left _ (by omega)
  have m2 : el.sz * (6 * (d + 1 + el.sz) + 500) ≤ el.sz * (6 * (d + (th.sz + el.sz + rest.sz + 1)) + 500) := Nat.mul_le_mul_left _ (by omega)
  have m3 : rest.sz * (6 * (d + rest.sz) + 500) ≤ rest.sz * (6 * (d + (th.sz + el.sz + rest.sz + 1)) + 500) := Nat.mul_le_mul_left _ (by omega)
  have e : (th.sz + el.sz + rest.sz + 1) * (6 * (d + (th.sz + el.sz + rest.sz + 1)) + 500) = th.sz * (6 * (d + (th.sz + el.sz + rest.sz + 1)) + 500) + el.sz * (6 * (d + (th.sz + el.sz + rest.sz + 1)) + 500) + rest.sz * (6 * (d + (th.sz + el.sz + rest.sz + 1)) + 500) + (6 * (d + (th.sz + el.sz + rest.sz + 1)) + 500) := by
   rw [Nat.add_mul, Nat.add_mul, Nat.add_mul, Nat.one_mul]
  rw [e]
  omega
theorem prB_le {b : B} {d : Nat} (hok : b.ok) (hs : b.small) (hd : d ≤ 200) (hz : b.sz ≤ 200) : (prB b d).length ≤ 140737488355328 := by
 have h1 := prI_le b (d + 1) hok hs
 have h2 : b.sz * (6 * (d + 1 + b.sz) + 500) ≤ 200 * 10000 := Nat.mul_le_mul hz (by omega)
 have hrep : (rep d).length = 2 * d := by unfold rep; rw [Lib.repeatL_length]; simp; omega
 unfold prB blk
 cases b.isNil with
 | true => simp
 | false => simp [hrep]; omega
theorem aback_true (v : List Int) (n : Int) (h0 : -128 ≤ n) (h1 : n ≤ 127) : law8_ActBack v n = some true := by
 unfold law8_ActBack
 by_cases h150 : 150 < (v.length : Int)
 · rw [if_pos h150, known8_true, bind_some_eq]
 rw [if_neg h150, show law8_scope = some s0 from rfl, bind_some_eq]
 obtain ⟨l, i', b, hb, _, hib, hbo, hbd, hbs, hbm⟩ := bgen v (by omega) 3 (by decide) 0 (Nat.zero_le _)
 have hz : b.sz ≤ 91 := by have : b.sz + 5 ≤ 96 := hbs; omega
 obtain ⟨d, hdd⟩ : ∃ d : Nat, max n 0 = (d : Int) := ⟨(max n 0).toNat, by omega⟩
 have hd : d ≤ 127 := by omega
 rw [show ref37_Block (ref37_Row.mk v 0) s0 3 = some (l, ref37_Row.mk v ((i' : Nat) : Int)) from lim_eq 24 hb, bind_some_eq]
 dsimp only
 have hl := prB_le (d := d) hbo hbm (by omega) (by omega)
 have hl0 := prB_le (d := 0) hbo hbm (by omega) (by omega)
 rw [w64_in (n := n) (by omega) (by omega), aprint_eq hib hbo d (by omega) hl n hdd, bind_some_eq, rprint_eq hib hbo d (by omega) hl n hdd, bind_some_eq, if_neg (fun q => q rfl)]
 by_cases hbig : 16384 < ((prB b d).length : Int)
 · rw [if_pos hbig, if_pos hbig, known8_true, bind_some_eq]
 rw [if_neg hbig]
 obtain ⟨cs, hcs, hr⟩ := law_read_block hbo (by omega) (prB_lx b d hbo) (by omega)
 rw [hr, bind_some_eq, cond_true, aSame_eq hcs hib hbo (by omega), bind_some_eq, cond_true, aRight_true hib hbo (by omega) (by omega), bind_some_eq, cond_true, aRight_true hcs hbo (by omega) (by omega), bind_some_eq, cond_true, aprint_eq hcs hbo 0 (by omega) hl0 0 (by rfl), bind_some_eq, aprint_eq hib hbo 0 (by omega) hl0 0 (by rfl), bind_some_eq, if_pos rfl, known8_true, bind_some_eq]
end Go.Sy.Ex
