import Derived.Test.YtabknfplmamfmaaGreatDoorLActReadsc
set_option linter.unusedVariables false
set_option linter.unusedSimpArgs false
namespace Go.Sy.Ex
open Go.Sy
abbrev b1 : B := .cons ⟨2, [], [101], some (.num 1), 0⟩ .nil .nil (.cons ⟨7, [], [], none, 2⟩ .nil .nil .nil)
theorem b1_ok : b1.ok := by
 refine ⟨⟨⟨⟨by decide, by decide⟩, by decide⟩, .inr (.inl ⟨rfl, rfl, by show nameP [101] = true; decide +kernel, rfl, rfl, rfl⟩)⟩, trivial, trivial, ⟨trivial, .inr (.inr (.inr (.inr (.inr (.inr ⟨rfl, rfl, rfl, rfl, by decide, by decide, rfl⟩)))))⟩, trivial, trivial, trivial⟩
theorem tk1 : tkB b1 = [(3, s_lb, 0), (1, s_raise, 0), (1, [101], 0), (3, s_lp, 0), (2, [49], 1), (3, s_rp, 0), (3, s_semi, 0), (1, s_loop, 0), (2, [50], 2), (3, s_lb, 0), (3, s_rb, 0), (3, s_rb, 0)] := by
 simp only [tkB, tkI, tkA, tkX, toks, B.isNil]
 rw [it1, it2]
 rfl
theorem pr1 : prB b1 0 = s_raise_e_1_loop_2_x18436 := by
 simp only [prB, prI, prA, blk, wX, pr, B.isNil]
 rw [it1, it2]
 rfl
def bd (t : api_Token) : api_Fault := if t.Kind = 4 then ⟨12, t.At⟩ else ⟨11, t.At⟩
theorem bd_ne (t : api_Token) : (bd t).Code ≠ 0 := by unfold bd; split <;> (dsimp only; decide)
theorem awant_no {l : List api_Token} {i o : Nat} (hi : i < l.length) (hl : l.length ≤ 100000) {s : List UInt8} (h : isT (tkn l i) s = false) : read_Row_Want (at' l i o) s = some (act_reader.mk (read_Row.mk l (i : Int) (bd (tkn l i))) (o : Int)) := by
 unfold read_Row_Want
 rw [atake_st hi hl, bind_some_eq, h, Bool.not_false, cond_true, if_neg (by decide)]
 have hw : read_Row_Wrong (at' l i o) = some (act_reader.mk (read_Row.mk l (i : Int) (bd (tkn l i))) (o : Int)) := by
  unfold read_Row_Wrong
  rw [alook_st hi, bind_some_eq]
  dsimp only
  unfold bd
  by_cases h4 : (tkn l i).Kind = 4
  · rw [if_pos h4, if_pos h4]
    unfold read_Row_Fail
    rw [aok_st, bind_some_eq]
    rfl
  · rw [if_neg h4, if_neg h4]
    unfold read_Row_Fail
    rw [aok_st, bind_some_eq]
    rfl
 dsimp only
 rw [hw, bind_some_eq]
section
variable {s : act_reader} (h : s.Row.Fault.Code ≠ 0)
include h
theorem aok_bd : read_Row_OK s = some (false, s) := by unfold read_Row_OK; rw [decide_eq_false h]
theorem alook_bd : read_Row_Look s = some (api_Token.mk 4 0 0 [] 0, s) := by
 unfold read_Row_Look; rw [aok_bd h, bind_some_eq]; rfl
theorem ais_bd (x : List UInt8) : read_Row_Is s x = some (false, s) := by
 unfold read_Row_Is; rw [alook_bd h, bind_some_eq]; rfl
theorem atake_bd (x : List UInt8) : read_Row_Take s x = some (false, s) := by
 unfold read_Row_Take; rw [ais_bd h, bind_some_eq]; rfl
theorem afail_bd (c a : Int) : read_Row_Fail s c a = some s := by
 unfold read_Row_Fail; rw [aok_bd h, bind_some_eq]; rfl
theorem awrong_bd : read_Row_Wrong s = some s := by
 unfold read_Row_Wrong; rw [alook_bd h, bind_some_eq]
 dsimp only
 rw [if_pos rfl, afail_bd h, bind_some_eq]
theorem awant_bd (x : List UInt8) : read_Row_Want s x = some s := by
 unfold read_Row_Want; rw [atake_bd h, bind_some_eq]
 rw [Bool.not_false, cond_true]
 dsimp only
 rw [awrong_bd h, bind_some_eq]
theorem aloop_bd (self : act_reader → Option (List api_Act × act_reader)) (k : Nat) (acc : List api_Act) : act_reader_block_l0 self (k + 1) s.Row.L s.Row.At s.Row.Fault.Code s.Row.Fault.At s.v_open acc = some (acc, act_reader.mk s.Row (w64 (s.v_open - 1))) := by
 rw [act_reader_block_l0.eq_2]
 rw [show act_reader.mk (read_Row.mk s.Row.L s.Row.At (api_Fault.mk s.Row.Fault.Code s.Row.Fault.At)) s.v_open = s from by cases s; rename_i r o; cases r; rename_i l a f; cases f; rfl, aok_bd h, bind_some_eq, cond_false]
end
theorem read_bad : ∃ cs, law8_read s_x_1_x697a8 = some (cs, false) := by
 obtain ⟨l, h1, h2⟩ := (lexF_ok 10 (u := s_x_1_x697a8) (K := [(3, s_lb, 0), (1, [120], 0), (3, s_eq, 0), (2, [49], 1), (3, s_rb, 0)]) (by decide +kernel)).all (by decide)
 have hlen : l.length = 6 := by
  have := congrArg List.length h2
  simpa using this
 have hl : l.length ≤ 100000 := by omega
 have hs : Seq l 0 [(3, s_lb, 0), (1, [120], 0), (3, s_eq, 0), (2, [49], 1), (3, s_rb, 0)] := seq_of (R := [(4, [], 0)]) (by rw [List.drop_zero, h2])
 obtain ⟨h0, t0, i1, t1, i2, t2, i3, t3, i4, t4, -⟩ := hs
 have hx : nameP [120] = true := by decide +kernel
 have hto : (T.num 1).ok := ⟨by decide, by decide⟩
 have htk : toks (.num 1) 1 = [(2, [49], 1)] := by simp only [toks]; rw [it1]; rfl
 obtain ⟨e, he, hp⟩ := aexpr_st (t := .num 1) (o := 1) hto (by decide) hl (i := 0 + 1 + 1 + 1) (by rw [htk]; exact ⟨i3, t3, trivial⟩) (by rw [htk]; exact i4) (by rw [htk]; show slv (tkn l (0 + 1 + 1 + 1 + 1)) < 1; rw [slv_of t4]; decide)
 rw [htk] at hp
 have hp : act_reader_expr (at' l (0 + 1 + 1 + 1) 1) = some ([e], at' l (0 + 1 + 1 + 1 + 1) 1) := hp
 have hact : ∀ self, act_reader_act_1 self (at' l (0 + 1) 1) = some (api_Act.mk 1 [120] [] [e] 0 [] [] (tkn l (0 + 1)).At, act_reader.mk (read_Row.mk l ((0 + 1 + 1 + 1 + 1 : Nat) : Int) (bd (tkn l (0 + 1 + 1 + 1 + 1)))) ((1 : Nat) : Int)) := fun self => by
  unfold act_reader_act_1
  rw [alook_st i1, bind_some_eq]
  dsimp only
  rw [aisname_lit i1 t1 true (by decide), bind_some_eq, cond_true]
  dsimp only
  rw [aname_lit i1 hl t1 hx, bind_some_eq]
  dsimp only
  rw [awant_st i2 hl (isT_yes t2 (Or.inl rfl)), bind_some_eq, hp, bind_some_eq]
  dsimp only
  rw [awant_no i4 hl (isT_no t4 (.inr (by decide))), bind_some_eq]
 have hblk : ∀ k, 4 ≤ k → act_reader_block_f k (at' l 0 0) = some ([api_Act.mk 1 [120] [] [e] 0 [] [] (tkn l (0 + 1)).At], act_reader.mk (read_Row.mk l ((0 + 1 + 1 + 1 + 1 : Nat) : Int) (bd (tkn l (0 + 1 + 1 + 1 + 1)))) (w64 (((1 : Nat) : Int) - 1))) := fun k hk => by
  obtain ⟨k, rfl⟩ : ∃ j, k = j + 4 := ⟨k - 4, by omega⟩
  show act_reader_block_b (act_reader_block_f (k + 3)) (k + 3) (at' l 0 0) = _
  unfold act_reader_block_b
  rw [ais_lit h0 t0 s_lb true (by decide), bind_some_eq, cond_true]
  dsimp only
  rw [if_neg (by show ¬ ((0 : Nat) : Int) = 4; omega), act_reader_block_c0.eq_2]
  rw [show act_reader.mk (read_Row.mk (at' l 0 0).Row.L (at' l 0 0).Row.At (api_Fault.mk (at' l 0 0).Row.Fault.Code (at' l 0 0).Row.Fault.At)) (at' l 0 0).v_open = at' l 0 0 from rfl, awant_st h0 hl (isT_yes t0 (Or.inl rfl)), bind_some_eq]
  show act_reader_block_l0 (act_reader_block_f (k + 3)) (k + 2) l ((0 + 1 : Nat) : Int) 0 0 (w64 (((0 : Nat) : Int) + 1)) [] = _
  rw [show w64 (((0 : Nat) : Int) + 1) = ((1 : Nat) : Int) from by rw [w64_in (by omega) (by omega)]; rfl, act_reader_block_l0.eq_2]
  rw [show act_reader.mk (read_Row.mk l ((0 + 1 : Nat) : Int) (api_Fault.mk 0 0)) ((1 : Nat) : Int) = at' l (0 + 1) 1 from rfl, aok_st, bind_some_eq, cond_true]
  dsimp only
  rw [atake_st i1 hl, bind_some_eq, isT_no t1 (.inr (by decide)), Bool.not_false, cond_true, if_neg (by decide), hact, bind_some_eq, if_pos (by simp)]
  exact aloop_bd (s := act_reader.mk (read_Row.mk l ((0 + 1 + 1 + 1 + 1 : Nat) : Int) (bd (tkn l (0 + 1 + 1 + 1 + 1)))) ((1 : Nat) : Int)) (bd_ne _) _ k _
 refine ⟨[], ?_⟩
 unfold law8_read
 rw [lAll_eq, bind_some_eq, h1]
 dsimp only
 rw [if_neg (by simp)]
 unfold act_Parse
 rw [show act_reader_block (act_reader.mk (read_Row.mk l 0 (api_Fault.mk 0 0)) 0) = _ from lim_eq 4 fun k hk => hblk k (by omega), bind_some_eq, aok_bd (bd_ne _), bind_some_eq, Bool.not_false, cond_true, bind_some_eq]
 dsimp only
 rw [if_neg (bd_ne _)]
theorem known8_true : law8_known = some true := by
 obtain ⟨cs, hcs, hr⟩ := law_read_block b1_ok (by decide) (s := s_raise_e_1_loop_2_x9e436) (by rw [tk1]; exact lexF_ok 20 (by decide +kernel)) (by decide)
 obtain ⟨ds, hd⟩ := read_bad
 unfold law8_known
 rw [hr, bind_some_eq, hd, bind_some_eq]
 dsimp only
 rw [cond_true, Bool.not_false, cond_true, aprint_eq hcs b1_ok 0 (by decide) (by rw [pr1]; decide) 0 (by rfl), bind_some_eq, if_pos pr1, aRight_true hcs b1_ok (by decide) (by decide), bind_some_eq, cond_true]
 have hz : act_Right [api_Act.mk 0 [] [] [] 0 [] [] 0] = some false := by
  unfold act_Right
  rw [show act_right [api_Act.mk 0 [] [] [] 0 [] [] 0] 1 = some false from lim_eq 3 fun k hk => by
   obtain ⟨k, rfl⟩ : ∃ j, k = j + 2 := ⟨k - 2, by omega⟩
   show act_right_b (act_right_f (k + 1)) (k + 1) _ 1 = _
   unfold act_right_b
   rw [if_neg (by decide), act_right_l0.eq_2, if_pos (by decide), if_pos (by decide), if_pos (by decide)]
   rw [show act_shape (api_Act.mk _ _ _ _ _ _ _ _) = some false from lim_eq 0 fun k _ => by rfl, bind_some_eq]
   rfl, bind_some_eq]
 rw [hz, bind_some_eq]
 rfl
end Go.Sy.Ex
namespace Go.Sy.Ex
open Go.Sy
theorem bdz_bd (t : api_Token) : bdz t = bd t := rfl
def OutA {α : Type} (Q : α → Prop) (l : List api_Token) (i o : Nat) (f : Option (α × act_reader)) (g : Option (α × Int × api_Fault)) : Prop :=
 (∃ v j, i ≤ j ∧ j < l.length ∧ Q v ∧ f = some (v, at' l j o) ∧ g = some (v, ((j : Nat) : Int), ⟨0, 0⟩)) ∨
 (∃ v s v' j', s.Row.Fault.Code ≠ 0 ∧ f = some (v, s) ∧ g = some (v', j', s.Row.Fault))
def XOk (X : List api_Expr) : Prop := X.length ≤ 1 ∧ ∀ e ∈ X, Fd e
def AOk (a : api_Act) : Prop := XOk a.X ∧ a.Then = [] ∧ a.Else = []
theorem XOk.nil : XOk [] := ⟨Nat.zero_le _, fun e h => by cases h⟩
theorem XOk.one {e : api_Expr} (h : Fd e) : XOk [e] := ⟨Nat.le_refl _, fun x hx => by rw [List.mem_singleton] at hx; subst hx; exact h⟩
theorem is6 {l : List api_Token} {i : Nat} (hi : i < l.length) (s : List UInt8) : ref6_Is l ((i : Nat) : Int) s = some (isT (tkn l i) s) := by
 have h := ris_st (o := 0) hi s
 unfold ref7_reader_is at h
 have e1 : (rs l i 0).l = l := rfl
 have e2 : (rs l i 0).v_at = (i : Int) := rfl
 rw [e1, e2] at h
 cases hq : ref6_Is l (i : Int) s with
 | none => rw [hq] at h; cases h
 | some b => rw [hq, bind_some_eq] at h; cases h; rfl
theorem kind_isT {l : List api_Token} (H : Ok l) {i : Nat} (hi : i < l.length) {s : List UInt8} (h : isT (tkn l i) s = true) : i + 1 < l.length :=
 H.more i hi (by have := (of_decide_eq_true h).1; omega)
theorem want_yes {l : List api_Token} (H : Ok l) {i : Nat} (hi : i < l.length) {s : List UInt8} (h : isT (tkn l i) s = true) : ref6_Want l (i : Int) s = some (((i + 1 : Nat) : Int), ⟨0, 0⟩) := by
 unfold ref6_Want
 rw [is6 hi, bind_some_eq, h, Bool.not_true, cond_false, next_i hi H.len]
theorem want6_no {l : List api_Token} {i : Nat} (hi : i < l.length) {s : List UInt8} (h : isT (tkn l i) s = false) : ref6_Want l (i : Int) s = some (0, bd (tkn l i)) := by
 unfold ref6_Want
 rw [is6 hi, bind_some_eq, h, Bool.not_false, cond_true, rbad_st hi, bind_some_eq]; rfl
theorem awrong_st {l : List api_Token} {i o : Nat} (hi : i < l.length) : read_Row_Wrong (at' l i o) = some (act_reader.mk (read_Row.mk l (i : Int) (bd (tkn l i))) (o : Int)) := by
 unfold read_Row_Wrong
 rw [alook_st hi, bind_some_eq]
 dsimp only
 unfold bd
 by_cases h4 : (tkn l i).Kind = 4
 · rw [if_pos h4, if_pos h4]
   unfold read_Row_Fail
   rw [aok_st, bind_some_eq]
   rfl
 · rw [if_neg h4, if_neg h4]
   unfold read_Row_Fail
   rw [aok_st, bind_some_eq]
   rfl
theorem aname_bd {s : act_reader} (h : s.Row.Fault.Code ≠ 0) : read_Row_Name s = some ([], s) := by
 unfold read_Row_Name
 have hn : read_Row_IsName s = some (false, s) := by unfold read_Row_IsName; rw [alook_bd h, bind_some_eq]; rfl
 rw [hn, bind_some_eq, Bool.not_false, cond_true]
 dsimp only
 rw [awrong_bd h, bind_some_eq]
theorem name_sim {l : List api_Token} (H : Ok l) {i o : Nat} (hi : i < l.length) : OutA (fun _ => True) l (i + 1) o (read_Row_Name (at' l i o)) (ref8_name l (i : Int)) := by
 cases hn : (decide ((tkn l i).Kind = 1) && !resP (tkn l i).Text) with
 | true =>
  have hn' := hn
  rw [Bool.and_eq_true, decide_eq_true_eq, Bool.not_eq_true'] at hn'
  refine .inl ⟨(tkn l i).Text, i + 1, Nat.le_refl _, H.more i hi (by omega), trivial, aname_st hi H.len hn'.1 hn'.2, ?_⟩
  unfold ref8_name
  rw [rnamed_st hi, bind_some_eq, hn, Bool.not_true, cond_false, if_pos (by omega), if_pos (by omega), next_i hi H.len, Int.toNat_natCast]
  rfl
 | false =>
  refine .inr ⟨[], act_reader.mk (read_Row.mk l (i : Int) (bd (tkn l i))) (o : Int), [], 0, bd_ne _, ?_, ?_⟩
  · unfold read_Row_Name
    rw [aisname_st hi, bind_some_eq, hn, Bool.not_false, cond_true]
    dsimp only
    rw [awrong_st hi, bind_some_eq]
  · unfold ref8_name
    rw [rnamed_st hi, bind_some_eq, hn, Bool.not_false, cond_true, rbad_st hi, bind_some_eq]
    rfl
theorem parse_two {l : List api_Token} (H : Ok l) {i : Nat} (hi : i < l.length) :
 (∃ e j, i + 1 ≤ j ∧ j < l.length ∧ Fd e ∧ expr_Parse l (i : Int) = some (e, ((j : Nat) : Int), ⟨0, 0⟩) ∧ ref7_Parse l (i : Int) = some (e, ((j : Nat) : Int), ⟨0, 0⟩)) ∨
 (∃ f, f.Code ≠ 0 ∧ expr_Parse l (i : Int) = some (api_Expr.mk 0 0 [] [] 0, 0, f) ∧ ref7_Parse l (i : Int) = some (api_Expr.mk 0 0 [] [] 0, 0, f)) := by
 rcases (both H l.length i 0 (by omega) hi (by decide)).2 5 1 rfl (by decide) with ⟨e, i', Z, h1, h2, hfd, hf, hg⟩ | ⟨e, s, e', s', Z, h1, h2, hf, hg⟩
 · refine .inl ⟨e, i', h1, h2, hfd, ?_, ?_⟩
   · unfold expr_Parse
     rw [show expr_reader_part (expr_reader.mk (read_Row.mk l (i : Int) (api_Fault.mk 0 0)) 0) 1 = some (e, st l i' 0) from lim_eq Z fun k hk => hf k hk k hk, bind_some_eq, ok_st, bind_some_eq, Bool.not_true, cond_false, eta]
     rfl
   · unfold ref7_Parse
     rw [show ref7_reader_binary (ref7_reader.mk l (i : Int) 0 (api_Fault.mk 0 0)) 1 = some (e, rs l i' 0) from lim_eq Z fun k hk => hg k hk k hk, bind_some_eq, if_neg (by intro q; exact q rfl), eta]
     rfl
 · refine .inr ⟨s.Row.Fault, h1, ?_, ?_⟩
   · unfold expr_Parse
     rw [show expr_reader_part (expr_reader.mk (read_Row.mk l (i : Int) (api_Fault.mk 0 0)) 0) 1 = some (e, s) from lim_eq Z fun k hk => hf k hk k hk, bind_some_eq, ok_bd h1, bind_some_eq, Bool.not_false, cond_true]
   · unfold ref7_Parse
     rw [show ref7_reader_binary (ref7_reader.mk l (i : Int) 0 (api_Fault.mk 0 0)) 1 = some (e', s') from lim_eq Z fun k hk => hg k hk k hk, bind_some_eq, h2, if_pos h1]
theorem expr_sim {l : List api_Token} (H : Ok l) {i o : Nat} (hi : i < l.length) :
 (∃ e j, i + 1 ≤ j ∧ j < l.length ∧ Fd e ∧ act_reader_expr (at' l i o) = some ([e], at' l j o) ∧ ref7_Parse l (i : Int) = some (e, ((j : Nat) : Int), ⟨0, 0⟩)) ∨
 (∃ X s, s.Row.Fault.Code ≠ 0 ∧ act_reader_expr (at' l i o) = some (X, s) ∧ ref7_Parse l (i : Int) = some (api_Expr.mk 0 0 [] [] 0, 0, s.Row.Fault)) := by
 have hu : act_reader_expr (at' l i o) = (expr_Parse l (i : Int)).bind fun r2 =>
  (read_Row_Fail (at' l i o) r2.2.2.Code r2.2.2.At).bind fun r3 =>
  some ([api_Expr.mk r2.1.Kind r2.1.N r2.1.Name r2.1.Kids r2.1.At], act_reader.mk (read_Row.mk r3.Row.L r2.2.1 r3.Row.Fault) r3.v_open) := by
  unfold act_reader_expr
  rw [aok_st, bind_some_eq, Bool.not_true, cond_false]
  rfl
 rcases parse_two H hi with ⟨e, j, h1, h2, h3, h4, h5⟩ | ⟨f, h1, h2, h3⟩
 · refine .inl ⟨e, j, h1, h2, h3, ?_, h5⟩
   rw [hu, h4, bind_some_eq]
   dsimp only
   unfold read_Row_Fail
   rw [aok_st, bind_some_eq, cond_true, bind_some_eq, eta]
   rfl
 · refine .inr ⟨[api_Expr.mk 0 0 [] [] 0], act_reader.mk (read_Row.mk l 0 f) (o : Int), h1, ?_, h3⟩
   rw [hu, h2, bind_some_eq]
   dsimp only
   unfold read_Row_Fail
   rw [aok_st, bind_some_eq, cond_true, bind_some_eq]
   rfl
theorem aexpr_bd {s : act_reader} (h : s.Row.Fault.Code ≠ 0) : act_reader_expr s = some ([], s) := by
 unfold act_reader_expr
 rw [aok_bd h, bind_some_eq, Bool.not_false, cond_true]
theorem bracket_sim {l : List api_Token} (H : Ok l) {i o : Nat} (hi : i < l.length) : OutA XOk l (i + 1) o (act_reader_inside (at' l i o)) (ref8_bracket l (i : Int)) := by
 cases hlp : isT (tkn l i) s_lp with
 | false =>
  refine .inr ⟨[], act_reader.mk (read_Row.mk l (i : Int) (bd (tkn l i))) (o : Int), [], 0, bd_ne _, ?_, ?_⟩
  · unfold act_reader_inside
    rw [awant_no hi H.len hlp, bind_some_eq, aexpr_bd (bd_ne _), bind_some_eq]
    dsimp only
    rw [awant_bd (bd_ne _), bind_some_eq]
  · unfold ref8_bracket
    rw [want6_no hi hlp, bind_some_eq, if_pos (bd_ne _)]
 | true =>
  have hm := kind_isT H hi hlp
  have f0 : act_reader_inside (at' l i o) = (act_reader_expr (at' l (i + 1) o)).bind fun r2 => (read_Row_Want r2.2 s_rp).bind fun r3 => some (r2.1, r3) := by
   unfold act_reader_inside
   rw [awant_st hi H.len hlp, bind_some_eq]
  have g0 : ref8_bracket l (i : Int) = (ref7_Parse l ((i + 1 : Nat) : Int)).bind fun r2 =>
   if r2.2.2.Code ≠ 0 then
   some ([], 0, r2.2.2) else
   (ref6_Want l r2.2.1 s_rp).bind fun r3 =>
   some ([api_Expr.mk r2.1.Kind r2.1.N r2.1.Name r2.1.Kids r2.1.At], r3.1, r3.2) := by
   unfold ref8_bracket
   rw [want_yes H hi hlp, bind_some_eq, if_neg (by simp)]
  rcases expr_sim (o := o) H hm with ⟨e, j, h1, h2, h3, h4, h5⟩ | ⟨X, s, h1, h2, h3⟩
  · cases hrp : isT (tkn l j) s_rp with
    | true =>
     refine .inl ⟨[e], j + 1, by omega, kind_isT H h2 hrp, XOk.one h3, ?_, ?_⟩
     · rw [f0, h4, bind_some_eq]
       dsimp only
       rw [awant_st h2 H.len hrp, bind_some_eq]
     · rw [g0, h5, bind_some_eq]
       dsimp only
       rw [if_neg (by simp), want_yes H h2 hrp, bind_some_eq, eta]
    | false =>
     refine .inr ⟨[e], act_reader.mk (read_Row.mk l (j : Int) (bd (tkn l j))) (o : Int), [e], 0, bd_ne _, ?_, ?_⟩
     · rw [f0, h4, bind_some_eq]
       dsimp only
       rw [awant_no h2 H.len hrp, bind_some_eq]
     · rw [g0, h5, bind_some_eq]
       dsimp only
       rw [if_neg (by simp), want6_no h2 hrp, bind_some_eq, eta]
  · refine .inr ⟨X, s, [], 0, h1, ?_, ?_⟩
    · rw [f0, h2, bind_some_eq]
      dsimp only
      rw [awant_bd h1, bind_some_eq]
    · rw [g0, h3, bind_some_eq]
      dsimp only
      rw [if_pos h1]
theorem maybe_sim {l : List api_Token} (H : Ok l) {i o : Nat} (hi : i < l.length) : OutA XOk l i o (act_reader_number (at' l i o)) (ref8_maybe l (i : Int)) := by
 unfold act_reader_number ref8_maybe
 rw [ais_st hi, bind_some_eq, is6 hi, bind_some_eq]
 dsimp only
 cases hlp : isT (tkn l i) s_lp with
 | false => exact .inl ⟨[], i, Nat.le_refl _, hi, XOk.nil, rfl, rfl⟩
 | true =>
  rw [Bool.not_true, cond_false, cond_false]
  rcases bracket_sim (o := o) H hi with ⟨v, j, h1, h2, hq, h3, h4⟩ | ⟨v, s, v', j', h1, h2, h3⟩
  · exact .inl ⟨v, j, by omega, h2, hq, by rw [h3, bind_some_eq], by rw [h4, bind_some_eq]⟩
  · exact .inr ⟨v, s, v', j', h1, by rw [h2, bind_some_eq], by rw [h3, bind_some_eq]⟩
end Go.Sy.Ex
namespace Go.Sy.Ex
open Go.Sy
noncomputable def semi6 (l : List api_Token) (a : api_Act) (p : Int) (f : api_Fault) : Option (api_Act × Int × api_Fault) :=
 if f.Code ≠ 0 then some (api_Act.mk 0 [] [] [] 0 [] [] 0, 0, f) else (ref6_Want l p s_semi).bind fun r => some (a, r.1, r.2)
theorem c0_eq (k : Nat) (l : List api_Token) (p : Int) (K : Int) (N E : List UInt8) (X : List api_Expr) (n : Int) (T L : List api_Act) (A c fa : Int) : ref8_simple_c0 (k + 1) l p 0 [] [] [] 0 [] [] 0 0 0 K N E X n T L A c fa = semi6 l (api_Act.mk K N E X n T L A) p ⟨c, fa⟩ := by
 rw [ref8_simple_c0.eq_2]; rfl
theorem semi_sim {l : List api_Token} (H : Ok l) {i j o : Nat} (hij : i ≤ j) (hj : j < l.length) (a : api_Act) (hQ : AOk a) : OutA AOk l i o ((read_Row_Want (at' l j o) s_semi).bind fun r => some (a, r)) (semi6 l a ((j : Nat) : Int) ⟨0, 0⟩) := by
 unfold semi6
 rw [if_neg (by simp)]
 cases h : isT (tkn l j) s_semi with
 | true => exact .inl ⟨a, j + 1, by omega, kind_isT H hj h, hQ, by rw [awant_st hj H.len h, bind_some_eq], by rw [want_yes H hj h, bind_some_eq]⟩
 | false => exact .inr ⟨a, act_reader.mk (read_Row.mk l (j : Int) (bd (tkn l j))) (o : Int), a, 0, bd_ne _, by rw [awant_no hj H.len h, bind_some_eq], by rw [want6_no hj h, bind_some_eq]⟩
theorem semi_bad {l : List api_Token} {i o : Nat} {s : act_reader} (h : s.Row.Fault.Code ≠ 0) (a a' : api_Act) (p : Int) : OutA AOk l i o ((read_Row_Want s s_semi).bind fun r => some (a, r)) (semi6 l a' p s.Row.Fault) := by
 unfold semi6
 rw [if_pos h]
 exact .inr ⟨a, s, _, _, h, by rw [awant_bd h, bind_some_eq], rfl⟩
theorem anumber_bd {s : act_reader} (h : s.Row.Fault.Code ≠ 0) : act_reader_number s = some ([], s) := by
 unfold act_reader_number
 rw [ais_bd h, bind_some_eq, Bool.not_false, cond_true]
theorem ainside_bd {s : act_reader} (h : s.Row.Fault.Code ≠ 0) : act_reader_inside s = some ([], s) := by
 unfold act_reader_inside
 rw [awant_bd h, bind_some_eq, aexpr_bd h, bind_some_eq]
 dsimp only
 rw [awant_bd h, bind_some_eq]
theorem simple_eq {l : List api_Token} {i : Nat} (hi : i < l.length) (hl : l.length ≤ 100000) (r : Option (api_Act × Int × api_Fault)) (h : (bif isT (tkn l i) s_raise then
      (ref8_name l ((i + 1 : Nat) : Int)).bind fun r2 =>
      if r2.2.2.Code = 0 then (ref8_maybe l r2.2.1).bind fun r3 => semi6 l (api_Act.mk 2 [] r2.1 r3.1 0 [] [] (tkn l i).At) r3.2.1 ⟨r3.2.2.Code, r3.2.2.At⟩
      else semi6 l (api_Act.mk 2 [] r2.1 [] 0 [] [] (tkn l i).At) r2.2.1 ⟨r2.2.2.Code, r2.2.2.At⟩
 else bif isT (tkn l i) s_send then
  (ref8_name l ((i + 1 : Nat) : Int)).bind fun r5 =>
  if r5.2.2.Code = 0 then
   (ref8_name l r5.2.1).bind fun r6 =>
   if r6.2.2.Code = 0 then (ref8_maybe l r6.2.1).bind fun r7 => semi6 l (api_Act.mk 3 r5.1 r6.1 r7.1 0 [] [] (tkn l i).At) r7.2.1 ⟨r7.2.2.Code, r7.2.2.At⟩
   else semi6 l (api_Act.mk 3 r5.1 r6.1 [] 0 [] [] (tkn l i).At) r6.2.1 ⟨r6.2.2.Code, r6.2.2.At⟩
  else semi6 l (api_Act.mk 3 r5.1 [] [] 0 [] [] (tkn l i).At) r5.2.1 ⟨r5.2.2.Code, r5.2.2.At⟩
 else bif isT (tkn l i) s_arm then
  (ref8_name l ((i + 1 : Nat) : Int)).bind fun r10 =>
  if r10.2.2.Code = 0 then (ref8_bracket l r10.2.1).bind fun r11 => semi6 l (api_Act.mk 4 r10.1 [] r11.1 0 [] [] (tkn l i).At) r11.2.1 ⟨r11.2.2.Code, r11.2.2.At⟩
  else semi6 l (api_Act.mk 4 r10.1 [] [] 0 [] [] (tkn l i).At) r10.2.1 ⟨r10.2.2.Code, r10.2.2.At⟩
 else bif isT (tkn l i) s_cancel then
  (ref8_name l ((i + 1 : Nat) : Int)).bind fun r13 => semi6 l (api_Act.mk 5 r13.1 [] [] 0 [] [] (tkn l i).At) r13.2.1 ⟨r13.2.2.Code, r13.2.2.At⟩
 else (ref8_set l (i : Int)).bind fun r14 => semi6 l (api_Act.mk r14.1.Kind r14.1.Name r14.1.Event r14.1.X r14.1.N r14.1.Then r14.1.Else r14.1.At) r14.2.1 ⟨r14.2.2.Code, r14.2.2.At⟩) = r) (hr : r ≠ none) : ref8_simple l (i : Int) = r := by
 cases hr' : r with
 | none => exact absurd hr' hr
 | some v =>
  rw [← hr']
  subst hr'
  refine lim_eq 1 fun k hk => ?_
  obtain ⟨k, rfl⟩ : ∃ j, k = j + 1 := ⟨k - 1, by omega⟩
  show ref8_simple_f (k + 1) l (i : Int) = some v
  rw [← h]
  unfold ref8_simple_f
  have et : l.getD ((i : Nat) : Int).toNat api_Token.z = tkn l i := by rw [Int.toNat_natCast]; rfl
  rw [if_pos (by omega), if_pos (by omega), is6 hi, bind_some_eq, next_i hi hl, et]
  simp only [c0_eq]
  cases isT (tkn l i) s_raise with
  | true => rfl
  | false =>
   rw [cond_false, cond_false, is6 hi, bind_some_eq]
   cases isT (tkn l i) s_send with
   | true =>
    rw [cond_true, cond_true]
    cases ref8_name l ((i + 1 : Nat) : Int) with
    | none => rfl
    | some r5 =>
     rw [bind_some_eq, bind_some_eq]
     by_cases c5 : r5.2.2.Code = 0
     · rw [if_pos c5, if_pos c5]
     · rw [if_neg c5, if_neg c5, if_neg c5]
   | false =>
    rw [cond_false, cond_false, is6 hi, bind_some_eq]
    cases isT (tkn l i) s_arm with
    | true => rfl
    | false =>
     rw [cond_false, cond_false, is6 hi, bind_some_eq]
theorem act_f0 {l : List api_Token} {i o : Nat} (hi : i < l.length) (hl : l.length ≤ 100000) (hif : isT (tkn l i) s_if = false) (hlo : isT (tkn l i) s_loop = false) (self : act_reader → Option (List api_Act × act_reader)) : act_reader_act_1 self (at' l i o) = (bif decide ((tkn l i).Kind = 1) && !resP (tkn l i).Text then
      (read_Row_Name (at' l i o)).bind fun r3 =>
      (read_Row_Want r3.2 s_eq).bind fun r4 =>
      (act_reader_expr r4).bind fun r5 =>
      (read_Row_Want r5.2 s_semi).bind fun r6 =>
      some (api_Act.mk 1 r3.1 [] r5.1 0 [] [] (tkn l i).At, r6) else
      bif isT (tkn l i) s_raise then
      (read_Row_Name (at' l (i + 1) o)).bind fun r8 =>
      (act_reader_number r8.2).bind fun r9 =>
      (read_Row_Want r9.2 s_semi).bind fun r10 =>
      some (api_Act.mk 2 [] r8.1 r9.1 0 [] [] (tkn l i).At, r10) else
      bif isT (tkn l i) s_send then
      (read_Row_Name (at' l (i + 1) o)).bind fun r12 =>
      (read_Row_Name r12.2).bind fun r13 =>
      (act_reader_number r13.2).bind fun r14 =>
      (read_Row_Want r14.2 s_semi).bind fun r15 =>
      some (api_Act.mk 3 r12.1 r13.1 r14.1 0 [] [] (tkn l i).At, r15) else
      bif isT (tkn l i) s_arm then
      (read_Row_Name (at' l (i + 1) o)).bind fun r17 =>
      (act_reader_inside r17.2).bind fun r18 =>
      (read_Row_Want r18.2 s_semi).bind fun r19 =>
      some (api_Act.mk 4 r17.1 [] r18.1 0 [] [] (tkn l i).At, r19) else
      bif isT (tkn l i) s_cancel then
      (read_Row_Name (at' l (i + 1) o)).bind fun r21 =>
      (read_Row_Want r21.2 s_semi).bind fun r22 =>
      some (api_Act.mk 5 r21.1 [] [] 0 [] [] (tkn l i).At, r22) else
      (read_Row_Wrong (at' l i o)).bind fun r29 =>
      (read_Row_Want r29 s_semi).bind fun r30 =>
      some (api_Act.mk 0 [] [] [] 0 [] [] (tkn l i).At, r30)) := by
 unfold act_reader_act_1
 rw [alook_st hi, bind_some_eq]
 dsimp only
 rw [aisname_st hi, bind_some_eq]
 dsimp only
 cases (decide ((tkn l i).Kind = 1) && !resP (tkn l i).Text) with
 | true => rfl
 | false =>
  rw [cond_false, cond_false, atake_st hi hl, bind_some_eq]
  dsimp only
  cases isT (tkn l i) s_raise with
  | true => rfl
  | false =>
   rw [cond_false, cond_false, if_neg (by decide), atake_st hi hl, bind_some_eq]
   dsimp only
   cases isT (tkn l i) s_send with
   | true => rfl
   | false =>
    rw [cond_false, cond_false, if_neg (by decide), atake_st hi hl, bind_some_eq]
    dsimp only
    cases isT (tkn l i) s_arm with
    | true => rfl
    | false =>
     rw [cond_false, cond_false, if_neg (by decide), atake_st hi hl, bind_some_eq]
     dsimp only
     cases isT (tkn l i) s_cancel with
     | true => rfl
     | false =>
      rw [cond_false, cond_false, if_neg (by decide), ais_st hi, bind_some_eq, hif, cond_false]
      dsimp only
      rw [ais_st hi, bind_some_eq, hlo, cond_false]
theorem act_simple {l : List api_Token} (H : Ok l) {i o : Nat} (hi : i < l.length) (hif : isT (tkn l i) s_if = false) (hlo : isT (tkn l i) s_loop = false) (self : act_reader → Option (List api_Act × act_reader)) : OutA AOk l (i + 1) o (act_reader_act_1 self (at' l i o)) (ref8_simple l (i : Int)) := by
 have hl := H.len
 have f0 := act_f0 (o := o) hi hl hif hlo self
 have nm : ∀ s, resP s = true → isT (tkn l i) s = true → (decide ((tkn l i).Kind = 1) && !resP (tkn l i).Text) = false := fun s hs h => by
  have := (of_decide_eq_true h).2
  rw [this, hs]; simp
 rw [f0]
 cases hra : isT (tkn l i) s_raise with
 | true =>
  have hm := kind_isT H hi hra
  rw [nm s_raise (by decide) hra, cond_false, cond_true]
  rcases name_sim (o := o) H hm with ⟨v, j, h1, h2, -, h3, h4⟩ | ⟨v, s, v', j', h1, h2, h3⟩
  · rcases maybe_sim (o := o) H h2 with ⟨X, j2, g1, g2, gx, g3, g4⟩ | ⟨X, s, X', j', g1, g2, g3⟩
    · have key := semi_sim (o := o) H (i := i + 1) (show i + 1 ≤ j2 by omega) g2 (api_Act.mk 2 [] v X 0 [] [] (tkn l i).At) ⟨gx, rfl, rfl⟩
      rw [h3, bind_some_eq, g3, bind_some_eq]
      rw [simple_eq hi hl _ (by rw [hra, cond_true, h4, bind_some_eq, if_pos rfl, g4, bind_some_eq]) (by rcases key with ⟨_, _, _, _, _, _, q⟩ | ⟨_, _, _, _, _, _, q⟩ <;> (intro e; exact absurd (q.symm.trans e) (by simp)))]
      exact key
    · have key := semi_bad (l := l) (i := i + 1) (o := o) g1 (api_Act.mk 2 [] v X 0 [] [] (tkn l i).At) (api_Act.mk 2 [] v X' 0 [] [] (tkn l i).At) j'
      rw [h3, bind_some_eq, g2, bind_some_eq]
      rw [simple_eq hi hl _ (by rw [hra, cond_true, h4, bind_some_eq, if_pos rfl, g3, bind_some_eq]) (by rcases key with ⟨_, _, _, _, _, _, q⟩ | ⟨_, _, _, _, _, _, q⟩ <;> (intro e; exact absurd (q.symm.trans e) (by simp)))]
      exact key
  · have key := semi_bad (l := l) (i := i + 1) (o := o) h1 (api_Act.mk 2 [] v [] 0 [] [] (tkn l i).At) (api_Act.mk 2 [] v' [] 0 [] [] (tkn l i).At) j'
    rw [h2, bind_some_eq]
    dsimp only
    rw [anumber_bd h1, bind_some_eq]
    rw [simple_eq hi hl _ (by rw [hra, cond_true, h3, bind_some_eq, if_neg h1]) (by rcases key with ⟨_, _, _, _, _, _, q⟩ | ⟨_, _, _, _, _, _, q⟩ <;> (intro e; exact absurd (q.symm.trans e) (by simp)))]
    exact key
 | false =>
 rw [cond_false]
 cases hse : isT (tkn l i) s_send with
 | true =>
  have hm := kind_isT H hi hse
  rw [nm s_send (by decide) hse, cond_false, cond_true]
  rcases name_sim (o := o) H hm with ⟨v, j, h1, h2, -, h3, h4⟩ | ⟨v, s, v', j', h1, h2, h3⟩
  · rcases name_sim (o := o) H h2 with ⟨u, j1, k1, k2, -, k3, k4⟩ | ⟨u, s, u', j', k1, k2, k3⟩
    · rcases maybe_sim (o := o) H k2 with ⟨X, j2, g1, g2, gx, g3, g4⟩ | ⟨X, s, X', j', g1, g2, g3⟩
      · have key := semi_sim (o := o) H (i := i + 1) (show i + 1 ≤ j2 by omega) g2 (api_Act.mk 3 v u X 0 [] [] (tkn l i).At) ⟨gx, rfl, rfl⟩
        rw [h3, bind_some_eq]
        dsimp only
        rw [k3, bind_some_eq, g3, bind_some_eq]
        rw [simple_eq hi hl _ (by rw [hra, cond_false, hse, cond_true, h4, bind_some_eq, if_pos rfl, k4, bind_some_eq, if_pos rfl, g4, bind_some_eq]) (by rcases key with ⟨_, _, _, _, _, _, q⟩ | ⟨_, _, _, _, _, _, q⟩ <;> (intro e; exact absurd (q.symm.trans e) (by simp)))]
        exact key
      · have key := semi_bad (l := l) (i := i + 1) (o := o) g1 (api_Act.mk 3 v u X 0 [] [] (tkn l i).At) (api_Act.mk 3 v u X' 0 [] [] (tkn l i).At) j'
        rw [h3, bind_some_eq]
        dsimp only
        rw [k3, bind_some_eq, g2, bind_some_eq]
        rw [simple_eq hi hl _ (by rw [hra, cond_false, hse, cond_true, h4, bind_some_eq, if_pos rfl, k4, bind_some_eq, if_pos rfl, g3, bind_some_eq]) (by rcases key with ⟨_, _, _, _, _, _, q⟩ | ⟨_, _, _, _, _, _, q⟩ <;> (intro e; exact absurd (q.symm.trans e) (by simp)))]
        exact key
    · have key := semi_bad (l := l) (i := i + 1) (o := o) k1 (api_Act.mk 3 v u [] 0 [] [] (tkn l i).At) (api_Act.mk 3 v u' [] 0 [] [] (tkn l i).At) j'
      rw [h3, bind_some_eq]
      dsimp only
      rw [k2, bind_some_eq]
      dsimp only
      rw [anumber_bd k1, bind_some_eq]
      rw [simple_eq hi hl _ (by rw [hra, cond_false, hse, cond_true, h4, bind_some_eq, if_pos rfl, k3, bind_some_eq, if_neg k1]) (by rcases key with ⟨_, _, _, _, _, _, q⟩ | ⟨_, _, _, _, _, _, q⟩ <;> (intro e; exact absurd (q.symm.trans e) (by simp)))]
      exact key
  · have key := semi_bad (l := l) (i := i + 1) (o := o) h1 (api_Act.mk 3 v [] [] 0 [] [] (tkn l i).At) (api_Act.mk 3 v' [] [] 0 [] [] (tkn l i).At) j'
    rw [h2, bind_some_eq]
    dsimp only
    rw [aname_bd h1, bind_some_eq]
    dsimp only
    rw [anumber_bd h1, bind_some_eq]
    rw [simple_eq hi hl _ (by rw [hra, cond_false, hse, cond_true, h3, bind_some_eq, if_neg h1]) (by rcases key with ⟨_, _, _, _, _, _, q⟩ | ⟨_, _, _, _, _, _, q⟩ <;> (intro e; exact absurd (q.symm.trans e) (by simp)))]
    exact key
 | false =>
 rw [cond_false]
 cases har : isT (tkn l i) s_arm with
 | true =>
  have hm := kind_isT H hi har
  rw [nm s_arm (by decide) har, cond_false, cond_true]
  rcases name_sim (o := o) H hm with ⟨v, j, h1, h2, -, h3, h4⟩ | ⟨v, s, v', j', h1, h2, h3⟩
  · rcases bracket_sim (o := o) H h2 with ⟨X, j2, g1, g2, gx, g3, g4⟩ | ⟨X, s, X', j', g1, g2, g3⟩
    · have key := semi_sim (o := o) H (i := i + 1) (show i + 1 ≤ j2 by omega) g2 (api_Act.mk 4 v [] X 0 [] [] (tkn l i).At) ⟨gx, rfl, rfl⟩
      rw [h3, bind_some_eq]
      dsimp only
      rw [g3, bind_some_eq]
      rw [simple_eq hi hl _ (by rw [hra, cond_false, hse, cond_false, har, cond_true, h4, bind_some_eq, if_pos rfl, g4, bind_some_eq]) (by rcases key with ⟨_, _, _, _, _, _, q⟩ | ⟨_, _, _, _, _, _, q⟩ <;> (intro e; exact absurd (q.symm.trans e) (by simp)))]
      exact key
    · have key := semi_bad (l := l) (i := i + 1) (o := o) g1 (api_Act.mk 4 v [] X 0 [] [] (tkn l i).At) (api_Act.mk 4 v [] X' 0 [] [] (tkn l i).At) j'
      rw [h3, bind_some_eq]
      dsimp only
      rw [g2, bind_some_eq]
      rw [simple_eq hi hl _ (by rw [hra, cond_false, hse, cond_false, har, cond_true, h4, bind_some_eq, if_pos rfl, g3, bind_some_eq]) (by rcases key with ⟨_, _, _, _, _, _, q⟩ | ⟨_, _, _, _, _, _, q⟩ <;> (intro e; exact absurd (q.symm.trans e) (by simp)))]
      exact key
  · have key := semi_bad (l := l) (i := i + 1) (o := o) h1 (api_Act.mk 4 v [] [] 0 [] [] (tkn l i).At) (api_Act.mk 4 v' [] [] 0 [] [] (tkn l i).At) j'
    rw [h2, bind_some_eq]
    dsimp only
    rw [ainside_bd h1, bind_some_eq]
    rw [simple_eq hi hl _ (by rw [hra, cond_false, hse, cond_false, har, cond_true, h3, bind_some_eq, if_neg h1]) (by rcases key with ⟨_, _, _, _, _, _, q⟩ | ⟨_, _, _, _, _, _, q⟩ <;> (intro e; exact absurd (q.symm.trans e) (by simp)))]
    exact key
 | false =>
 rw [cond_false]
 cases hca : isT (tkn l i) s_cancel with
 | true =>
  have hm := kind_isT H hi hca
  rw [nm s_cancel (by decide) hca, cond_false, cond_true]
  rcases name_sim (o := o) H hm with ⟨v, j, h1, h2, -, h3, h4⟩ | ⟨v, s, v', j', h1, h2, h3⟩
  · have key := semi_sim (o := o) H (i := i + 1) (show i + 1 ≤ j by omega) h2 (api_Act.mk 5 v [] [] 0 [] [] (tkn l i).At) ⟨XOk.nil, rfl, rfl⟩
    rw [h3, bind_some_eq]
    rw [simple_eq hi hl _ (by rw [hra, cond_false, hse, cond_false, har, cond_false, hca, cond_true, h4, bind_some_eq]) (by rcases key with ⟨_, _, _, _, _, _, q⟩ | ⟨_, _, _, _, _, _, q⟩ <;> (intro e; exact absurd (q.symm.trans e) (by simp)))]
    exact key
  · have key := semi_bad (l := l) (i := i + 1) (o := o) h1 (api_Act.mk 5 v [] [] 0 [] [] (tkn l i).At) (api_Act.mk 5 v' [] [] 0 [] [] (tkn l i).At) j'
    rw [h2, bind_some_eq]
    rw [simple_eq hi hl _ (by rw [hra, cond_false, hse, cond_false, har, cond_false, hca, cond_true, h3, bind_some_eq]) (by rcases key with ⟨_, _, _, _, _, _, q⟩ | ⟨_, _, _, _, _, _, q⟩ <;> (intro e; exact absurd (q.symm.trans e) (by simp)))]
    exact key
 | false =>
 rw [cond_false]
 have et : l.getD ((i : Nat) : Int).toNat api_Token.z = tkn l i := by rw [Int.toNat_natCast]; rfl
 have sq : ∀ (r : Option (api_Act × Int × api_Fault)), ((ref8_set l (i : Int)).bind fun r14 => semi6 l (api_Act.mk r14.1.Kind r14.1.Name r14.1.Event r14.1.X r14.1.N r14.1.Then r14.1.Else r14.1.At) r14.2.1 ⟨r14.2.2.Code, r14.2.2.At⟩) = r → r ≠ none → ref8_simple l (i : Int) = r := fun r h hr => simple_eq hi hl r (by rw [hra, cond_false, hse, cond_false, har, cond_false, hca, cond_false]; exact h) hr
 cases hn : (decide ((tkn l i).Kind = 1) && !resP (tkn l i).Text) with
 | false =>
  have key := semi_bad (l := l) (i := i + 1) (o := o) (s := act_reader.mk (read_Row.mk l (i : Int) (bd (tkn l i))) (o : Int)) (bd_ne _) (api_Act.mk 0 [] [] [] 0 [] [] (tkn l i).At) (api_Act.mk 1 [] [] [] 0 [] [] (tkn l i).At) 0
  rw [cond_false, awrong_st hi, bind_some_eq]
  have s0 : ref8_set l (i : Int) = some (api_Act.mk 1 [] [] [] 0 [] [] (tkn l i).At, 0, bd (tkn l i)) := by
   unfold ref8_set ref8_name
   rw [if_pos (by omega), if_pos (by omega), rnamed_st hi, bind_some_eq, hn, Bool.not_false, cond_true, rbad_st hi, bind_some_eq, bind_some_eq, et]
   dsimp only
   rw [if_pos (bdz_ne _)]
   rfl
  rw [sq _ (by rw [s0, bind_some_eq]) (by rcases key with ⟨_, _, _, _, _, _, q⟩ | ⟨_, _, _, _, _, _, q⟩ <;> (intro e; exact absurd (q.symm.trans e) (by simp)))]
  exact key
 | true =>
  have hn' := hn
  rw [Bool.and_eq_true, decide_eq_true_eq, Bool.not_eq_true'] at hn'
  have hm := H.more i hi (by omega)
  have s0 : ref8_set l (i : Int) = (ref6_Want l ((i + 1 : Nat) : Int) s_eq).bind fun r2 =>
   if r2.2.Code ≠ 0 then
   some (api_Act.mk 1 (tkn l i).Text [] [] 0 [] [] (tkn l i).At, 0, r2.2) else
   (ref7_Parse l r2.1).bind fun r3 =>
   some (api_Act.mk 1 (tkn l i).Text [] [api_Expr.mk r3.1.Kind r3.1.N r3.1.Name r3.1.Kids r3.1.At] 0 [] [] (tkn l i).At, r3.2.1, r3.2.2) := by
   unfold ref8_set ref8_name
   rw [if_pos (by omega), if_pos (by omega), rnamed_st hi, bind_some_eq, hn, Bool.not_true, cond_false, if_pos (by omega), if_pos (by omega), next_i hi hl, et, bind_some_eq]
   dsimp only
   rw [if_neg (by simp)]
  rw [cond_true, aname_st hi hl hn'.1 hn'.2, bind_some_eq]
  dsimp only
  cases heq : isT (tkn l (i + 1)) s_eq with
  | false =>
   have key := semi_bad (l := l) (i := i + 1) (o := o) (s := act_reader.mk (read_Row.mk l ((i + 1 : Nat) : Int) (bd (tkn l (i + 1)))) (o : Int)) (bd_ne _) (api_Act.mk 1 (tkn l i).Text [] [] 0 [] [] (tkn l i).At) (api_Act.mk 1 (tkn l i).Text [] [] 0 [] [] (tkn l i).At) 0
   rw [awant_no hm hl heq, bind_some_eq, aexpr_bd (bd_ne _), bind_some_eq]
   rw [sq _ (by rw [s0, want6_no hm heq, bind_some_eq, if_pos (bd_ne _), bind_some_eq]) (by rcases key with ⟨_, _, _, _, _, _, q⟩ | ⟨_, _, _, _, _, _, q⟩ <;> (intro e; exact absurd (q.symm.trans e) (by simp)))]
   exact key
  | true =>
   have hm2 := kind_isT H hm heq
   rw [awant_st hm hl heq, bind_some_eq]
   rcases expr_sim (o := o) H hm2 with ⟨e, j, h1, h2, h3, h4, h5⟩ | ⟨X, s, h1, h2, h3⟩
   · have key := semi_sim (o := o) H (i := i + 1) (show i + 1 ≤ j by omega) h2 (api_Act.mk 1 (tkn l i).Text [] [e] 0 [] [] (tkn l i).At) ⟨XOk.one h3, rfl, rfl⟩
     rw [h4, bind_some_eq]
     rw [sq _ (by rw [s0, want_yes H hm heq, bind_some_eq, if_neg (by simp), h5, bind_some_eq, bind_some_eq, eta]) (by rcases key with ⟨_, _, _, _, _, _, q⟩ | ⟨_, _, _, _, _, _, q⟩ <;> (intro e; exact absurd (q.symm.trans e) (by simp)))]
     exact key
   · have key := semi_bad (l := l) (i := i + 1) (o := o) h1 (api_Act.mk 1 (tkn l i).Text [] X 0 [] [] (tkn l i).At) (api_Act.mk 1 (tkn l i).Text [] [api_Expr.mk 0 0 [] [] 0] 0 [] [] (tkn l i).At) 0
     rw [h2, bind_some_eq]
     rw [sq _ (by rw [s0, want_yes H hm heq, bind_some_eq, if_neg (by simp), h3, bind_some_eq, bind_some_eq]) (by rcases key with ⟨_, _, _, _, _, _, q⟩ | ⟨_, _, _, _, _, _, q⟩ <;> (intro e; exact absurd (q.symm.trans e) (by simp)))]
     exact key
end Go.Sy.Ex
namespace Go.Sy.Ex
open Go.Sy
def Fl : Nat → List api_Act → Prop
 | 0, _ => False
 | n + 1, l => l.length ≤ 100000 ∧ ∀ a ∈ l, XOk a.X ∧ Fl n a.Then ∧ Fl n a.Else
def FL (l : List api_Act) : Prop := ∃ n, Fl n l
theorem Fl.up : ∀ {n m : Nat} {l : List api_Act}, Fl n l → n ≤ m → Fl m l
 | 0, _, _, h, _ => h.elim
 | n + 1, 0, _, _, h => by omega
 | n + 1, m + 1, l, ⟨h1, h2⟩, h => ⟨h1, fun a ha => ⟨(h2 a ha).1, Fl.up (h2 a ha).2.1 (by omega), Fl.up (h2 a ha).2.2 (by omega)⟩⟩
theorem FL.nil : FL [] := ⟨1, Nat.zero_le _, fun a ha => by cases ha⟩
def AF (a : api_Act) : Prop := XOk a.X ∧ FL a.Then ∧ FL a.Else
theorem AOk.af {a : api_Act} (h : AOk a) : AF a := ⟨h.1, by rw [h.2.1]; exact FL.nil, by rw [h.2.2]; exact FL.nil⟩
theorem FL.push {l : List api_Act} {a : api_Act} (h : FL l) (ha : AF a) (hl : l.length < 100000) : FL (l ++ [a]) := by
 obtain ⟨n, hn⟩ := h
 obtain ⟨hx, ⟨m, hm⟩, ⟨p, hp⟩⟩ := ha
 cases n with
 | zero => exact hn.elim
 | succ n =>
  refine ⟨max n (max m p) + 1, by rw [List.length_append, List.length_singleton]; omega, fun b hb => ?_⟩
  rw [List.mem_append, List.mem_singleton] at hb
  rcases hb with hb | rfl
  · exact ⟨(hn.2 b hb).1, Fl.up (hn.2 b hb).2.1 (by omega), Fl.up (hn.2 b hb).2.2 (by omega)⟩
  · exact ⟨hx, Fl.up hm (by omega), Fl.up hp (by omega)⟩
def BS (l : List api_Token) (i d : Nat) : Prop :=
 (∃ v j Z, i + 1 ≤ j ∧ j < l.length ∧ FL v ∧ (∀ k, Z ≤ k → act_reader_block_f k (at' l i d) = some (v, at' l j d)) ∧ ∀ k, Z ≤ k → ref8_block_f k l (i : Int) (d : Int) = some (v, ((j : Nat) : Int), ⟨0, 0⟩)) ∨
 (∃ v s Z, s.Row.Fault.Code ≠ 0 ∧ (∀ k, Z ≤ k → act_reader_block_f k (at' l i d) = some (v, s)) ∧ ∀ k, Z ≤ k → ref8_block_f k l (i : Int) (d : Int) = some ([], 0, s.Row.Fault))
noncomputable def gI (k : Nat) (l : List api_Token) (i d : Nat) : Option (api_Act × Int × api_Fault) :=
 bif isT (tkn l i) s_if then ref8_choice_1 (ref8_block_f k) l (i : Int) ((d + 1 : Nat) : Int) else bif isT (tkn l i) s_loop then ref8_round_1 (ref8_block_f k) l (i : Int) ((d + 1 : Nat) : Int) else ref8_simple l (i : Int)
def IT (l : List api_Token) (i d : Nat) : Prop :=
 (∃ a j Z, i + 1 ≤ j ∧ j < l.length ∧ AF a ∧ (∀ k, Z ≤ k → act_reader_act_1 (act_reader_block_f k) (at' l i (d + 1)) = some (a, at' l j (d + 1))) ∧ ∀ k, Z ≤ k → gI k l i d = some (a, ((j : Nat) : Int), ⟨0, 0⟩)) ∨
 (∃ a s a' p Z, s.Row.Fault.Code ≠ 0 ∧ (∀ k, Z ≤ k → act_reader_act_1 (act_reader_block_f k) (at' l i (d + 1)) = some (a, s)) ∧ ∀ k, Z ≤ k → gI k l i d = some (a', p, s.Row.Fault))
theorem isT_no2 {t : api_Token} {s s' : List UInt8} (h : isT t s = true) (hne : s ≠ s') : isT t s' = false := by
 unfold isT; rw [decide_eq_false_iff_not]; rintro ⟨_, q⟩; exact hne ((of_decide_eq_true h).2.symm.trans q)
theorem act_whole {l : List api_Token} {i o : Nat} (hi : i < l.length) (hl : l.length ≤ 100000) {w : List UInt8} (hw : isT (tkn l i) w = true) (hc : w = s_if ∨ w = s_loop) (self : act_reader → Option (List api_Act × act_reader)) :
 act_reader_act_1 self (at' l i o) = act_reader_whole_1 self (at' l i o) (api_Act.mk 0 [] [] [] 0 [] [] (tkn l i).At) := by
 have be : ∀ x : Option (api_Act × act_reader), (x.bind fun r => some (api_Act.mk r.1.Kind r.1.Name r.1.Event r.1.X r.1.N r.1.Then r.1.Else r.1.At, r.2)) = x := fun x => by
  cases x with
  | none => rfl
  | some r => rw [bind_some_eq, aeta]
 have hn : (decide ((tkn l i).Kind = 1) && !resP (tkn l i).Text) = false := by
  rw [(of_decide_eq_true hw).2]
  rcases hc with rfl | rfl
  · rw [show resP s_if = true from by decide]; simp
  · rw [show resP s_loop = true from by decide]; simp
 unfold act_reader_act_1
 rw [alook_st hi, bind_some_eq]
 dsimp only
 rw [aisname_st hi, bind_some_eq, hn, cond_false]
 dsimp only
 rw [atake_st hi hl, bind_some_eq, isT_no2 hw (by rcases hc with rfl | rfl <;> decide), cond_false, if_neg (by decide)]
 dsimp only
 rw [atake_st hi hl, bind_some_eq, isT_no2 hw (by rcases hc with rfl | rfl <;> decide), cond_false, if_neg (by decide)]
 dsimp only
 rw [atake_st hi hl, bind_some_eq, isT_no2 hw (by rcases hc with rfl | rfl <;> decide), cond_false, if_neg (by decide)]
 dsimp only
 rw [atake_st hi hl, bind_some_eq, isT_no2 hw (by rcases hc with rfl | rfl <;> decide), cond_false, if_neg (by decide)]
 dsimp only
 rw [ais_st hi, bind_some_eq]
 dsimp only
 rcases hc with rfl | rfl
 · rw [hw, cond_true, cond_true, be]
 · rw [isT_no2 hw (by decide), cond_false, ais_st hi, bind_some_eq]
   dsimp only
   rw [hw, cond_true, be]
theorem block_bd {s : act_reader} (h : s.Row.Fault.Code ≠ 0) : ∃ s', s'.Row = s.Row ∧ ∀ k, act_reader_block_f (k + 3) s = some ([], s') := by
 refine ⟨act_reader.mk s.Row (w64 (w64 (s.v_open + 1) - 1)), rfl, fun k => ?_⟩
 show act_reader_block_b (act_reader_block_f (k + 2)) (k + 2) s = _
 unfold act_reader_block_b
 rw [ais_bd h, bind_some_eq, cond_false, act_reader_block_c0.eq_2]
 rw [show act_reader.mk (read_Row.mk s.Row.L s.Row.At (api_Fault.mk s.Row.Fault.Code s.Row.Fault.At)) s.v_open = s from by cases s; rename_i r o; cases r; rename_i l a f; cases f; rfl, awant_bd h, bind_some_eq]
 exact aloop_bd (s := act_reader.mk s.Row (w64 (s.v_open + 1))) h _ k []
theorem item_sim {l : List api_Token} (H : Ok l) {i d : Nat} (hi : i < l.length) (hd : d ≤ 10) (IH : ∀ j, i < j → j < l.length → BS l j (d + 1)) : IT l i d := by
 have hl := H.len
 have et : l.getD ((i : Nat) : Int).toNat api_Token.z = tkn l i := by rw [Int.toNat_natCast]; rfl
 cases hif : isT (tkn l i) s_if with
 | true =>
  have hm := kind_isT H hi hif
  have hlo : isT (tkn l i) s_loop = false := isT_no2 hif (by decide)
  have f0 : ∀ self, act_reader_act_1 self (at' l i (d + 1)) = (act_reader_inside (at' l (i + 1) (d + 1))).bind fun r5 =>
   (self r5.2).bind fun r6 =>
   (read_Row_Take r6.2 s_else).bind fun r7 =>
   bif r7.1 then
   (self r7.2).bind fun r8 =>
   some (api_Act.mk 6 [] [] r5.1 0 r6.1 r8.1 (tkn l i).At, r8.2) else
   some (api_Act.mk 6 [] [] r5.1 0 r6.1 [] (tkn l i).At, r7.2) := fun self => by
   rw [act_whole hi hl hif (.inl rfl)]
   unfold act_reader_whole_1
   rw [atake_st hi hl, bind_some_eq, hlo, cond_false, if_neg (by decide)]
   dsimp only
   rw [awant_st hi hl hif, bind_some_eq]
  have g0 : ∀ k, gI k l i d = (ref8_bracket l ((i + 1 : Nat) : Int)).bind fun r1 =>
   if r1.2.2.Code ≠ 0 then
   some (api_Act.mk 6 [] [] [] 0 [] [] (tkn l i).At, 0, r1.2.2) else
   (ref8_block_f k l r1.2.1 ((d + 1 : Nat) : Int)).bind fun r2 =>
   if r2.2.2.Code = 0 then
   (ref6_Is l r2.2.1 s_else).bind fun r3 =>
   bif r3 then
   (ref8_block_f k l (w64 (r2.2.1 + 1)) ((d + 1 : Nat) : Int)).bind fun r4 =>
   some (api_Act.mk 6 [] [] r1.1 0 r2.1 r4.1 (tkn l i).At, r4.2.1, r4.2.2) else
   some (api_Act.mk 6 [] [] r1.1 0 r2.1 [] (tkn l i).At, r2.2.1, r2.2.2) else
   some (api_Act.mk 6 [] [] r1.1 0 r2.1 [] (tkn l i).At, r2.2.1, r2.2.2) := fun k => by
   unfold gI ref8_choice_1
   rw [hif, cond_true, if_pos (by omega), if_pos (by omega), next_i hi hl, et]
  rcases bracket_sim (o := d + 1) H hm with ⟨X, j, h1, h2, hX, h3, h4⟩ | ⟨X, s, X', j', h1, h2, h3⟩
  · rcases IH j (by omega) h2 with ⟨v, j2, Z, k1, k2, k3, k4, k5⟩ | ⟨v, s, Z, k1, k2, k3⟩
    · cases hel : isT (tkn l j2) s_else with
      | true =>
       have hm2 := kind_isT H k2 hel
       rcases IH (j2 + 1) (by omega) hm2 with ⟨w, j3, Z2, m1, m2, m3, m4, m5⟩ | ⟨w, s, Z2, m1, m2, m3⟩
       · refine .inl ⟨api_Act.mk 6 [] [] X 0 v w (tkn l i).At, j3, Z + Z2, by omega, m2, ⟨hX, k3, m3⟩, fun k hk => ?_, fun k hk => ?_⟩
         · rw [f0, h3, bind_some_eq]
           dsimp only
           rw [k4 k (by omega), bind_some_eq]
           dsimp only
           rw [atake_st k2 hl, bind_some_eq, hel, cond_true, if_pos rfl]
           dsimp only
           rw [m4 k (by omega), bind_some_eq]
         · rw [g0, h4, bind_some_eq]
           dsimp only
           rw [if_neg (by simp), k5 k (by omega), bind_some_eq]
           dsimp only
           rw [if_pos rfl, is6 k2, bind_some_eq, hel, cond_true, next_i k2 hl, m5 k (by omega), bind_some_eq]
       · refine .inr ⟨api_Act.mk 6 [] [] X 0 v w (tkn l i).At, s, api_Act.mk 6 [] [] X 0 v [] (tkn l i).At, 0, Z + Z2, m1, fun k hk => ?_, fun k hk => ?_⟩
         · rw [f0, h3, bind_some_eq]
           dsimp only
           rw [k4 k (by omega), bind_some_eq]
           dsimp only
           rw [atake_st k2 hl, bind_some_eq, hel, cond_true, if_pos rfl]
           dsimp only
           rw [m2 k (by omega), bind_some_eq]
         · rw [g0, h4, bind_some_eq]
           dsimp only
           rw [if_neg (by simp), k5 k (by omega), bind_some_eq]
           dsimp only
           rw [if_pos rfl, is6 k2, bind_some_eq, hel, cond_true, next_i k2 hl, m3 k (by omega), bind_some_eq]
      | false =>
       refine .inl ⟨api_Act.mk 6 [] [] X 0 v [] (tkn l i).At, j2, Z, by omega, k2, ⟨hX, k3, FL.nil⟩, fun k hk => ?_, fun k hk => ?_⟩
       · rw [f0, h3, bind_some_eq]
         dsimp only
         rw [k4 k hk, bind_some_eq]
         dsimp only
         rw [atake_st k2 hl, bind_some_eq, hel, cond_false, if_neg (by decide)]
       · rw [g0, h4, bind_some_eq]
         dsimp only
         rw [if_neg (by simp), k5 k hk, bind_some_eq]
         dsimp only
         rw [if_pos rfl, is6 k2, bind_some_eq, hel, cond_false]
    · refine .inr ⟨api_Act.mk 6 [] [] X 0 v [] (tkn l i).At, s, api_Act.mk 6 [] [] X 0 [] [] (tkn l i).At, 0, Z, k1, fun k hk => ?_, fun k hk => ?_⟩
      · rw [f0, h3, bind_some_eq]
        dsimp only
        rw [k2 k hk, bind_some_eq]
        dsimp only
        rw [atake_bd k1, bind_some_eq, cond_false]
      · rw [g0, h4, bind_some_eq]
        dsimp only
        rw [if_neg (by simp), k3 k hk, bind_some_eq]
        dsimp only
        rw [if_neg k1]
  · obtain ⟨s', hs', hb⟩ := block_bd h1
    have h1' : s'.Row.Fault.Code ≠ 0 := by rw [hs']; exact h1
    refine .inr ⟨api_Act.mk 6 [] [] X 0 [] [] (tkn l i).At, s', api_Act.mk 6 [] [] [] 0 [] [] (tkn l i).At, 0, 3, h1', fun k hk => ?_, fun k hk => ?_⟩
    · obtain ⟨k, rfl⟩ : ∃ j, k = j + 3 := ⟨k - 3, by omega⟩
      rw [f0, h2, bind_some_eq]
      dsimp only
      rw [hb k, bind_some_eq]
      dsimp only
      rw [atake_bd h1', bind_some_eq, cond_false]
    · rw [g0, h3, bind_some_eq]
      dsimp only
      rw [if_pos h1, hs']
 | false =>
 cases hlo : isT (tkn l i) s_loop with
 | true =>
  have hm := kind_isT H hi hlo
  have f0 : ∀ self, act_reader_act_1 self (at' l i (d + 1)) = (read_Row_Number (at' l (i + 1) (d + 1))).bind fun r2 =>
   (self r2.2).bind fun r3 =>
   some (api_Act.mk 7 [] [] [] r2.1 r3.1 [] (tkn l i).At, r3.2) := fun self => by
   rw [act_whole hi hl hlo (.inr rfl)]
   unfold act_reader_whole_1
   rw [atake_st hi hl, bind_some_eq, hlo, cond_true, if_pos rfl]
  have et1 : l.getD ((i + 1 : Nat) : Int).toNat api_Token.z = tkn l (i + 1) := by rw [Int.toNat_natCast]; rfl
  have g0 : ∀ k, gI k l i d = if (tkn l (i + 1)).Kind ≠ 2 then
   some (api_Act.mk 7 [] [] [] 0 [] [] (tkn l i).At, 0, bd (tkn l (i + 1))) else
   (ref8_block_f k l (w64 (((i + 1 : Nat) : Int) + 1)) ((d + 1 : Nat) : Int)).bind fun r2 =>
   some (api_Act.mk 7 [] [] [] (tkn l (i + 1)).N r2.1 [] (tkn l i).At, r2.2.1, r2.2.2) := fun k => by
   unfold gI ref8_round_1
   rw [hif, cond_false, hlo, cond_true, if_pos (by omega), if_pos (by omega), next_i hi hl, et, et1, if_pos (by omega), if_pos (by omega)]
   by_cases q : (tkn l (i + 1)).Kind ≠ 2
   · rw [if_pos q, if_pos q, rbad_st hm, bind_some_eq]; rfl
   · rw [if_neg q, if_neg q, if_pos (by omega), if_pos (by omega)]
  by_cases hk2 : (tkn l (i + 1)).Kind = 2
  · have hm2 := H.more (i + 1) hm (by omega)
    have hnum : read_Row_Number (at' l (i + 1) (d + 1)) = some ((tkn l (i + 1)).N, at' l (i + 1 + 1) (d + 1)) := by
     unfold read_Row_Number
     rw [alook_st hm, bind_some_eq]
     dsimp only
     rw [if_neg (by simp [hk2])]
     show some ((tkn l (i + 1)).N, (⟨⟨l, w64 (((i + 1 : Nat) : Int) + 1), ⟨0, 0⟩⟩, ((d + 1 : Nat) : Int)⟩ : act_reader)) = _
     rw [next_i hm hl]; rfl
    rcases IH (i + 1 + 1) (by omega) hm2 with ⟨v, j, Z, k1, k2, k3, k4, k5⟩ | ⟨v, s, Z, k1, k2, k3⟩
    · refine .inl ⟨api_Act.mk 7 [] [] [] (tkn l (i + 1)).N v [] (tkn l i).At, j, Z, by omega, k2, ⟨XOk.nil, k3, FL.nil⟩, fun k hk => ?_, fun k hk => ?_⟩
      · rw [f0, hnum, bind_some_eq]
        dsimp only
        rw [k4 k hk, bind_some_eq]
      · rw [g0, if_neg (by simp [hk2]), next_i hm hl, k5 k hk, bind_some_eq]
    · refine .inr ⟨api_Act.mk 7 [] [] [] (tkn l (i + 1)).N v [] (tkn l i).At, s, api_Act.mk 7 [] [] [] (tkn l (i + 1)).N [] [] (tkn l i).At, 0, Z, k1, fun k hk => ?_, fun k hk => ?_⟩
      · rw [f0, hnum, bind_some_eq]
        dsimp only
        rw [k2 k hk, bind_some_eq]
      · rw [g0, if_neg (by simp [hk2]), next_i hm hl, k3 k hk, bind_some_eq]
  · have hnum : read_Row_Number (at' l (i + 1) (d + 1)) = some (0, act_reader.mk (read_Row.mk l ((i + 1 : Nat) : Int) (bd (tkn l (i + 1)))) ((d + 1 : Nat) : Int)) := by
     unfold read_Row_Number
     rw [alook_st hm, bind_some_eq]
     dsimp only
     rw [if_pos hk2, awrong_st hm, bind_some_eq]
    obtain ⟨s', hs', hb⟩ := block_bd (s := act_reader.mk (read_Row.mk l ((i + 1 : Nat) : Int) (bd (tkn l (i + 1)))) ((d + 1 : Nat) : Int)) (bd_ne _)
    refine .inr ⟨api_Act.mk 7 [] [] [] 0 [] [] (tkn l i).At, s', api_Act.mk 7 [] [] [] 0 [] [] (tkn l i).At, 0, 3, by rw [hs']; exact bd_ne _, fun k hk => ?_, fun k hk => ?_⟩
    · obtain ⟨k, rfl⟩ : ∃ j, k = j + 3 := ⟨k - 3, by omega⟩
      rw [f0, hnum, bind_some_eq]
      dsimp only
      rw [hb k, bind_some_eq]
    · rw [g0, if_pos hk2, hs']
 | false =>
  have gs : ∀ k, gI k l i d = ref8_simple l (i : Int) := fun k => by unfold gI; rw [hif, cond_false, hlo, cond_false]
  have key : ∀ self, OutA AOk l (i + 1) (d + 1) (act_reader_act_1 self (at' l i (d + 1))) (ref8_simple l (i : Int)) := fun self => act_simple H hi hif hlo self
  have key2 : ∀ self self', act_reader_act_1 self (at' l i (d + 1)) = act_reader_act_1 self' (at' l i (d + 1)) := fun self self' => (act_f0 hi hl hif hlo self).trans (act_f0 hi hl hif hlo self').symm
  rcases key (act_reader_block_f 0) with ⟨a, j, h1, h2, h3, h4, h5⟩ | ⟨a, s, a', p, h1, h2, h3⟩
  · exact .inl ⟨a, j, 0, h1, h2, h3.af, fun k _ => by rw [key2 _ (act_reader_block_f 0)]; exact h4, fun k _ => by rw [gs]; exact h5⟩
  · exact .inr ⟨a, s, a', p, 0, h1, fun k _ => by rw [key2 _ (act_reader_block_f 0)]; exact h2, fun k _ => by rw [gs]; exact h3⟩
end Go.Sy.Ex
namespace Go.Sy.Ex
open Go.Sy
theorem rest_sim {l : List api_Token} (H : Ok l) {i0 d : Nat} (hd : d ≤ 10) (IH : ∀ i, i0 ≤ i → i < l.length → IT l i d) : ∀ (r i : Nat) (acc : List api_Act), l.length ≤ i + r → i0 ≤ i → i < l.length → acc.length ≤ i → FL acc →
 (∃ v j Z, i + 1 ≤ j ∧ j < l.length ∧ FL v ∧ (∀ k, Z ≤ k → ∀ k', Z ≤ k' → act_reader_block_l0 (act_reader_block_f k) k' l (i : Int) 0 0 ((d + 1 : Nat) : Int) acc = some (v, at' l j d)) ∧ ∀ k, Z ≤ k → ∀ k', Z ≤ k' → ref8_block_l0 (ref8_block_f k) k' l (i : Int) (d : Int) 0 0 acc = some (v, ((j : Nat) : Int), ⟨0, 0⟩)) ∨
 (∃ v s Z, s.Row.Fault.Code ≠ 0 ∧ (∀ k, Z ≤ k → ∀ k', Z ≤ k' → act_reader_block_l0 (act_reader_block_f k) k' l (i : Int) 0 0 ((d + 1 : Nat) : Int) acc = some (v, s)) ∧ ∀ k, Z ≤ k → ∀ k', Z ≤ k' → ref8_block_l0 (ref8_block_f k) k' l (i : Int) (d : Int) 0 0 acc = some ([], 0, s.Row.Fault))
 | 0, i, acc, hr, _, hi, _, _ => by omega
 | r + 1, i, acc, hr, h0, hi, hacc, hfl => by
  have hl := H.len
  have hw : w64 (((d + 1 : Nat) : Int) - 1) = (d : Int) := by rw [w64_in (by omega) (by omega)]; omega
  have hwd : w64 ((d : Int) + 1) = ((d + 1 : Nat) : Int) := by rw [w64_in (by omega) (by omega)]; omega
  have hat : act_reader.mk (read_Row.mk l (i : Int) (api_Fault.mk 0 0)) ((d + 1 : Nat) : Int) = at' l i (d + 1) := rfl
  cases hrb : isT (tkn l i) s_rb with
  | true =>
   refine .inl ⟨acc, i + 1, 1, Nat.le_refl _, kind_isT H hi hrb, hfl, fun k hk k' hk' => ?_, fun k hk k' hk' => ?_⟩
   · obtain ⟨k', rfl⟩ : ∃ j, k' = j + 1 := ⟨k' - 1, by omega⟩
     rw [act_reader_block_l0.eq_2, hat, aok_st, bind_some_eq, cond_true]
     dsimp only
     rw [atake_st hi hl, bind_some_eq, hrb, Bool.not_true, cond_false, if_pos rfl]
     show some (acc, (⟨⟨l, ((i + 1 : Nat) : Int), ⟨0, 0⟩⟩, w64 (((d + 1 : Nat) : Int) - 1)⟩ : act_reader)) = _
     rw [hw]; rfl
   · obtain ⟨k', rfl⟩ : ∃ j, k' = j + 1 := ⟨k' - 1, by omega⟩
     rw [ref8_block_l0.eq_2, is6 hi, bind_some_eq, hrb, Bool.not_true, cond_false, next_i hi hl]
  | false =>
   have fstep : ∀ k k', act_reader_block_l0 (act_reader_block_f k) (k' + 1) l (i : Int) 0 0 ((d + 1 : Nat) : Int) acc = (act_reader_act_1 (act_reader_block_f k) (at' l i (d + 1))).bind fun r7 =>
    if (acc.length + [r7.1].length) * 128 ≤ 140737488355328 then
    act_reader_block_l0 (act_reader_block_f k) k' r7.2.Row.L r7.2.Row.At r7.2.Row.Fault.Code r7.2.Row.Fault.At r7.2.v_open (acc ++ [r7.1]) else none := fun k k' => by
    rw [act_reader_block_l0.eq_2, hat, aok_st, bind_some_eq, cond_true]
    dsimp only
    rw [atake_st hi hl, bind_some_eq, hrb, Bool.not_false, cond_true, if_neg (by decide)]
   have gstep : ∀ k k', ref8_block_l0 (ref8_block_f k) (k' + 1) l (i : Int) (d : Int) 0 0 acc = (gI k l i d).bind fun r5 =>
    if r5.2.2.Code ≠ 0 then
    some ([], 0, r5.2.2) else
    if (acc.length + [r5.1].length) * 128 ≤ 140737488355328 then
    ref8_block_l0 (ref8_block_f k) k' l r5.2.1 (d : Int) 0 0 (acc ++ [r5.1]) else none := fun k k' => by
    rw [ref8_block_l0.eq_2, is6 hi, bind_some_eq, hrb, Bool.not_false, cond_true, is6 hi, bind_some_eq, hwd]
    unfold gI
    simp only [aeta]
    cases isT (tkn l i) s_if with
    | true => rfl
    | false =>
     rw [cond_false, cond_false, is6 hi, bind_some_eq]
     cases isT (tkn l i) s_loop with
     | true => rfl
     | false => rfl
   rcases IH i h0 hi with ⟨a, j, Z, h1, h2, h3, h4, h5⟩ | ⟨a, s, a', p, Z, h1, h2, h3⟩
   · rcases rest_sim H hd IH r j (acc ++ [a]) (by omega) (by omega) h2 (by rw [List.length_append, List.length_singleton]; omega) (hfl.push h3 (by omega)) with ⟨v, j2, Z2, k1, k2, k3, k4, k5⟩ | ⟨v, s, Z2, k1, k2, k3⟩
     · refine .inl ⟨v, j2, Z + Z2 + 1, by omega, k2, k3, fun k hk k' hk' => ?_, fun k hk k' hk' => ?_⟩
       · obtain ⟨k', rfl⟩ : ∃ j, k' = j + 1 := ⟨k' - 1, by omega⟩
         rw [fstep, h4 k (by omega), bind_some_eq, if_pos (by simp only [List.length_singleton]; omega)]
         exact k4 k (by omega) k' (by omega)
       · obtain ⟨k', rfl⟩ : ∃ j, k' = j + 1 := ⟨k' - 1, by omega⟩
         rw [gstep, h5 k (by omega), bind_some_eq, if_neg (by simp), if_pos (by simp only [List.length_singleton]; omega)]
         exact k5 k (by omega) k' (by omega)
     · refine .inr ⟨v, s, Z + Z2 + 1, k1, fun k hk k' hk' => ?_, fun k hk k' hk' => ?_⟩
       · obtain ⟨k', rfl⟩ : ∃ j, k' = j + 1 := ⟨k' - 1, by omega⟩
         rw [fstep, h4 k (by omega), bind_some_eq, if_pos (by simp only [List.length_singleton]; omega)]
         exact k2 k (by omega) k' (by omega)
       · obtain ⟨k', rfl⟩ : ∃ j, k' = j + 1 := ⟨k' - 1, by omega⟩
         rw [gstep, h5 k (by omega), bind_some_eq, if_neg (by simp), if_pos (by simp only [List.length_singleton]; omega)]
         exact k3 k (by omega) k' (by omega)
   · refine .inr ⟨acc ++ [a], act_reader.mk s.Row (w64 (s.v_open - 1)), Z + 2, h1, fun k hk k' hk' => ?_, fun k hk k' hk' => ?_⟩
     · obtain ⟨k', rfl⟩ : ∃ j, k' = j + 2 := ⟨k' - 2, by omega⟩
       rw [fstep, h2 k (by omega), bind_some_eq, if_pos (by simp only [List.length_singleton]; omega)]
       exact aloop_bd h1 _ k' _
     · obtain ⟨k', rfl⟩ : ∃ j, k' = j + 1 := ⟨k' - 1, by omega⟩
       rw [gstep, h3 k (by omega), bind_some_eq, if_pos h1]
theorem block_sim {l : List api_Token} (H : Ok l) : ∀ (n i d : Nat), l.length ≤ i + n → i < l.length → d ≤ 4 → BS l i d
 | 0, i, d, hn, hi, _ => by omega
 | n + 1, i, d, hn, hi, hd => by
  have hl := H.len
  have et : l.getD ((i : Nat) : Int).toNat api_Token.z = tkn l i := by rw [Int.toNat_natCast]; rfl
  cases hlb : isT (tkn l i) s_lb with
  | false =>
   have hw : read_Row_Want (at' l i d) s_lb = _ := awant_no hi hl hlb
   refine .inr ⟨[], act_reader.mk (read_Row.mk l (i : Int) (bd (tkn l i))) (w64 (w64 ((d : Int) + 1) - 1)), 3, bd_ne _, fun k hk => ?_, fun k hk => ?_⟩
   · obtain ⟨k, rfl⟩ : ∃ j, k = j + 3 := ⟨k - 3, by omega⟩
     show act_reader_block_b (act_reader_block_f (k + 2)) (k + 2) (at' l i d) = _
     unfold act_reader_block_b
     rw [ais_st hi, bind_some_eq]
     dsimp only
     rw [hlb, cond_false, act_reader_block_c0.eq_2]
     rw [show act_reader.mk (read_Row.mk (at' l i d).Row.L (at' l i d).Row.At (api_Fault.mk (at' l i d).Row.Fault.Code (at' l i d).Row.Fault.At)) (at' l i d).v_open = at' l i d from rfl, hw, bind_some_eq]
     exact aloop_bd (s := act_reader.mk (read_Row.mk l (i : Int) (bd (tkn l i))) (w64 ((d : Int) + 1))) (bd_ne _) _ k []
   · obtain ⟨k, rfl⟩ : ∃ j, k = j + 1 := ⟨k - 1, by omega⟩
     show ref8_block_b (ref8_block_f k) k l (i : Int) (d : Int) = _
     unfold ref8_block_b
     rw [is6 hi, bind_some_eq, hlb, Bool.not_false, cond_true, rbad_st hi, bind_some_eq]
     rfl
  | true =>
   have hm := kind_isT H hi hlb
   by_cases h4 : d = 4
   · subst h4
     have hk : ∃ k s n, strip (tkn l i) = (k, s, n) := ⟨_, _, _, rfl⟩
     refine .inr ⟨[], act_reader.mk (read_Row.mk l (i : Int) ⟨14, (tkn l i).At⟩) (w64 (w64 (((4 : Nat) : Int) + 1) - 1)), 3, by show (14 : Int) ≠ 0; decide, fun k hk => ?_, fun k hk => ?_⟩
     · obtain ⟨k, rfl⟩ : ∃ j, k = j + 3 := ⟨k - 3, by omega⟩
       show act_reader_block_b (act_reader_block_f (k + 2)) (k + 2) (at' l i 4) = _
       unfold act_reader_block_b
       rw [ais_st hi, bind_some_eq]
       dsimp only
       rw [hlb, cond_true, if_pos (by rfl), alook_st hi, bind_some_eq]
       dsimp only
       rw [show read_Row_Fail (at' l i 4) 14 (tkn l i).At = some (act_reader.mk (read_Row.mk l (i : Int) ⟨14, (tkn l i).At⟩) ((4 : Nat) : Int)) from by
        unfold read_Row_Fail; rw [aok_st, bind_some_eq]; rfl, bind_some_eq, act_reader_block_c0.eq_2]
       dsimp only
       have hbad : (act_reader.mk (read_Row.mk l (i : Int) ⟨14, (tkn l i).At⟩) ((4 : Nat) : Int)).Row.Fault.Code ≠ 0 := by show (14 : Int) ≠ 0; decide
       rw [awant_bd hbad, bind_some_eq]
       have key : ∀ (self : act_reader → Option (List api_Act × act_reader)) (a w : Int), act_reader_block_l0 self (k + 1) l (i : Int) 14 a w [] = some ([], act_reader.mk (read_Row.mk l (i : Int) ⟨14, a⟩) (w64 (w - 1))) := fun self a w => aloop_bd (s := act_reader.mk (read_Row.mk l (i : Int) ⟨14, a⟩) w) (by show (14 : Int) ≠ 0; decide) self k []
       exact key _ _ _
     · obtain ⟨k, rfl⟩ : ∃ j, k = j + 1 := ⟨k - 1, by omega⟩
       show ref8_block_b (ref8_block_f k) k l (i : Int) ((4 : Nat) : Int) = _
       unfold ref8_block_b
       rw [is6 hi, bind_some_eq, hlb, Bool.not_true, cond_false, if_pos (by rfl), if_pos (by omega), if_pos (by omega), et]
   · have IT' : ∀ j, i + 1 ≤ j → j < l.length → IT l j d := fun j h1 h2 => item_sim H h2 (by omega) fun q h3 h4' => block_sim H n q (d + 1) (by omega) h4' (by omega)
     have fpre : ∀ k, act_reader_block_f (k + 2) (at' l i d) = act_reader_block_l0 (act_reader_block_f (k + 1)) k l ((i + 1 : Nat) : Int) 0 0 ((d + 1 : Nat) : Int) [] := fun k => by
      show act_reader_block_b (act_reader_block_f (k + 1)) (k + 1) (at' l i d) = _
      unfold act_reader_block_b
      rw [ais_st hi, bind_some_eq]
      dsimp only
      rw [hlb, cond_true, if_neg (by show ¬ ((d : Nat) : Int) = 4; omega), act_reader_block_c0.eq_2]
      rw [show act_reader.mk (read_Row.mk (at' l i d).Row.L (at' l i d).Row.At (api_Fault.mk (at' l i d).Row.Fault.Code (at' l i d).Row.Fault.At)) (at' l i d).v_open = at' l i d from rfl, awant_st hi hl hlb, bind_some_eq]
      show act_reader_block_l0 (act_reader_block_f (k + 1)) k l ((i + 1 : Nat) : Int) 0 0 (w64 (((d : Nat) : Int) + 1)) [] = _
      rw [show w64 (((d : Nat) : Int) + 1) = ((d + 1 : Nat) : Int) from by rw [w64_in (by omega) (by omega)]; omega]
     have gpre : ∀ k, ref8_block_f (k + 1) l (i : Int) (d : Int) = ref8_block_l0 (ref8_block_f k) k l ((i + 1 : Nat) : Int) (d : Int) 0 0 [] := fun k => by
      show ref8_block_b (ref8_block_f k) k l (i : Int) (d : Int) = _
      unfold ref8_block_b
      rw [is6 hi, bind_some_eq, hlb, Bool.not_true, cond_false, if_neg (by omega), next_i hi hl]
     rcases rest_sim H (by omega) IT' l.length (i + 1) [] (by omega) (Nat.le_refl _) hm (Nat.zero_le _) FL.nil with ⟨v, j, Z, k1, k2, k3, k4, k5⟩ | ⟨v, s, Z, k1, k2, k3⟩
     · refine .inl ⟨v, j, Z + 2, by omega, k2, k3, fun k hk => ?_, fun k hk => ?_⟩
       · obtain ⟨k, rfl⟩ : ∃ j, k = j + 2 := ⟨k - 2, by omega⟩
         rw [fpre]; exact k4 (k + 1) (by omega) k (by omega)
       · obtain ⟨k, rfl⟩ : ∃ j, k = j + 1 := ⟨k - 1, by omega⟩
         rw [gpre]; exact k5 k (by omega) k (by omega)
     · refine .inr ⟨v, s, Z + 2, k1, fun k hk => ?_, fun k hk => ?_⟩
       · obtain ⟨k, rfl⟩ : ∃ j, k = j + 2 := ⟨k - 2, by omega⟩
         rw [fpre]; exact k2 (k + 1) (by omega) k (by omega)
       · obtain ⟨k, rfl⟩ : ∃ j, k = j + 1 := ⟨k - 1, by omega⟩
         rw [gpre]; exact k3 k (by omega) k (by omega)
theorem aparse_both {l : List api_Token} (H : Ok l) {i : Nat} (hi : i < l.length) : ∃ v j f, act_Parse l (i : Int) = some (v, j, f) ∧ ref8_Parse l (i : Int) = some (v, j, f) ∧ FL v := by
 rcases block_sim H l.length i 0 (by omega) hi (by decide) with ⟨v, j, Z, h1, h2, h3, h4, h5⟩ | ⟨v, s, Z, h1, h2, h3⟩
 · refine ⟨v, (j : Int), ⟨0, 0⟩, ?_, ?_, h3⟩
   · unfold act_Parse
     rw [show act_reader_block (act_reader.mk (read_Row.mk l (i : Int) (api_Fault.mk 0 0)) 0) = some (v, at' l j 0) from lim_eq Z h4, bind_some_eq, aok_st, bind_some_eq, Bool.not_true, cond_false]
     rfl
   · unfold ref8_Parse
     rw [show ref8_block l (i : Int) 0 = some (v, ((j : Nat) : Int), ⟨0, 0⟩) from lim_eq Z h5, bind_some_eq]
 · refine ⟨[], 0, s.Row.Fault, ?_, ?_, FL.nil⟩
   · unfold act_Parse
     rw [show act_reader_block (act_reader.mk (read_Row.mk l (i : Int) (api_Fault.mk 0 0)) 0) = some (v, s) from lim_eq Z h2, bind_some_eq, aok_bd h1, bind_some_eq, Bool.not_false, cond_true]
   · unfold ref8_Parse
     rw [show ref8_block l (i : Int) 0 = some ([], 0, s.Row.Fault) from lim_eq Z h3, bind_some_eq]
end Go.Sy.Ex
namespace Go.Sy.Ex
open Go.Sy
theorem nx2 {n : Nat} (h : n < 1000000000) : w64 ((n : Int) + 1) = ((n + 1 : Nat) : Int) := by rw [w64_in (by omega) (by omega)]; omega
theorem r7_refl : ∀ (n : Nat) (e : api_Expr), Fe n e → ∀ k, n + 4 ≤ k → ref7_Same_f k e e = some true
 | 0, e, h, _, _ => h.elim
 | n + 1, e, ⟨h1, h4⟩, k, hk => by
  obtain ⟨k, rfl⟩ : ∃ j, k = j + 1 := ⟨k - 1, by omega⟩
  show ref7_Same_b (ref7_Same_f k) k e e = _
  unfold ref7_Same_b
  rw [if_neg (fun q => q rfl), if_neg (fun q => q rfl), if_neg (fun q => q rfl), if_neg (fun q => q rfl)]
  have loop : ∀ m i, i + m = e.Kids.length → ∀ k', m + 1 ≤ k' → ref7_Same_l0 (ref7_Same_f k) k' e.Kind e.N e.Name e.Kids e.At e.Kind e.N e.Name e.Kids e.At ((i : Nat) : Int) = some true := by
   intro m
   induction m with
   | zero =>
    intro i h k' hk'
    obtain ⟨k', rfl⟩ : ∃ j, k' = j + 1 := ⟨k' - 1, by omega⟩
    rw [ref7_Same_l0.eq_2, if_neg (by omega)]
   | succ m ih =>
    intro i h k' hk'
    obtain ⟨k', rfl⟩ : ∃ j, k' = j + 1 := ⟨k' - 1, by omega⟩
    have hi : i < e.Kids.length := by omega
    rw [ref7_Same_l0.eq_2, if_pos (by omega), if_pos (by omega), if_pos (by omega), if_pos (by omega), if_pos (by omega), Int.toNat_natCast, getD_lt _ hi, r7_refl n _ (h4 _ (List.getElem_mem hi)) k (by omega), bind_some_eq, Bool.not_true, cond_false, nx2 (by omega)]
    exact ih (i + 1) (by omega) k' (by omega)
  exact loop e.Kids.length 0 (by omega) k (by omega)
theorem r7_eq {e : api_Expr} (h : Fd e) : ref7_Same e e = some true := by
 obtain ⟨n, hn⟩ := h
 exact lim_eq (n + 4) fun k hk => r7_refl n e hn k hk
theorem e8_refl : ∀ (n : Nat) (e : api_Expr), Fe n e → ∀ k, n + 4 ≤ k → law8_expr_f k e e = some true
 | 0, e, h, _, _ => h.elim
 | n + 1, e, ⟨h1, h4⟩, k, hk => by
  obtain ⟨k, rfl⟩ : ∃ j, k = j + 1 := ⟨k - 1, by omega⟩
  show law8_expr_b (law8_expr_f k) k e e = _
  unfold law8_expr_b
  rw [if_neg (fun q => q rfl), if_neg (fun q => q rfl)]
  have loop : ∀ m i, i + m = e.Kids.length → ∀ k', m + 1 ≤ k' → law8_expr_l0 (law8_expr_f k) k' e.Kind e.N e.Name e.Kids e.At e.Kind e.N e.Name e.Kids e.At ((i : Nat) : Int) = some true := by
   intro m
   induction m with
   | zero =>
    intro i h k' hk'
    obtain ⟨k', rfl⟩ : ∃ j, k' = j + 1 := ⟨k' - 1, by omega⟩
    rw [law8_expr_l0.eq_2, if_neg (by omega), eta, r7_eq ⟨n + 1, h1, h4⟩, bind_some_eq]
   | succ m ih =>
    intro i h k' hk'
    obtain ⟨k', rfl⟩ : ∃ j, k' = j + 1 := ⟨k' - 1, by omega⟩
    have hi : i < e.Kids.length := by omega
    rw [law8_expr_l0.eq_2, if_pos (by omega), if_pos (by omega), if_pos (by omega), if_pos (by omega), if_pos (by omega), Int.toNat_natCast, getD_lt _ hi, e8_refl n _ (h4 _ (List.getElem_mem hi)) k (by omega), bind_some_eq, Bool.not_true, cond_false, nx2 (by omega)]
    exact ih (i + 1) (by omega) k' (by omega)
  exact loop e.Kids.length 0 (by omega) k (by omega)
theorem e8_eq {e : api_Expr} (h : Fd e) : law8_expr e e = some true := by
 obtain ⟨n, hn⟩ := h
 exact lim_eq (n + 4) fun k hk => e8_refl n e hn k hk
theorem one_refl {X : List api_Expr} (h : XOk X) : ref7_One X X = some true := lim_eq 2 fun k hk => by
 obtain ⟨k, rfl⟩ : ∃ j, k = j + 2 := ⟨k - 2, by omega⟩
 show ref7_One_f (k + 2) X X = _
 unfold ref7_One_f
 rw [if_neg (fun q => q rfl)]
 match X, h with
 | [], _ => rw [ref7_One_l0.eq_2, if_neg (by simp)]
 | [e], h =>
  rw [ref7_One_l0.eq_2, if_pos (by simp), if_pos (by decide), if_pos (by simp), if_pos (by decide), if_pos (by simp), show [e].getD (0 : Int).toNat api_Expr.z = e from rfl, r7_eq (h.2 e (by simp)), bind_some_eq, Bool.not_true, cond_false, show w64 ((0 : Int) + 1) = 1 from by rw [w64_in (by decide) (by decide)]; rfl, ref7_One_l0.eq_2, if_neg (by simp)]
 | _ :: _ :: _, h => exact absurd h.1 (by simp)
theorem s8_refl : ∀ (n : Nat) (l : List api_Act), Fl n l → ∀ k, n + 100002 ≤ k → ref8_Same_f k l l = some true
 | 0, l, h, _, _ => h.elim
 | n + 1, l, ⟨h1, h4⟩, k, hk => by
  obtain ⟨k, rfl⟩ : ∃ j, k = j + 1 := ⟨k - 1, by omega⟩
  show ref8_Same_b (ref8_Same_f k) k l l = _
  unfold ref8_Same_b
  rw [if_neg (fun q => q rfl)]
  have loop : ∀ m i, i + m = l.length → ∀ k', m + 1 ≤ k' → ref8_Same_l0 (ref8_Same_f k) k' l l ((i : Nat) : Int) = some true := by
   intro m
   induction m with
   | zero =>
    intro i h k' hk'
    obtain ⟨k', rfl⟩ : ∃ j, k' = j + 1 := ⟨k' - 1, by omega⟩
    rw [ref8_Same_l0.eq_2, if_neg (by omega)]
   | succ m ih =>
    intro i h k' hk'
    obtain ⟨k', rfl⟩ : ∃ j, k' = j + 1 := ⟨k' - 1, by omega⟩
    have hi : i < l.length := by omega
    obtain ⟨g1, g2, g3⟩ := h4 _ (List.getElem_mem hi)
    rw [ref8_Same_l0.eq_2, if_pos (by omega), if_pos (by omega), if_pos (by omega), if_pos (by omega), if_pos (by omega), Int.toNat_natCast, getD_lt _ hi, if_neg (fun q => q rfl), if_neg (fun q => q rfl), if_neg (fun q => q rfl), if_neg (fun q => q rfl), one_refl g1, bind_some_eq, Bool.not_true, cond_false, s8_refl n _ g2 k (by omega), bind_some_eq, Bool.not_true, cond_false, s8_refl n _ g3 k (by omega), bind_some_eq, Bool.not_true, cond_false, nx2 (by omega)]
    exact ih (i + 1) (by omega) k' (by omega)
  exact loop l.length 0 (by omega) k (by omega)
theorem s8_eq {n : Nat} {l : List api_Act} (h : Fl n l) : ref8_Same l l = some true := lim_eq (n + 100002) fun k hk => s8_refl n l h k hk
theorem l8_refl : ∀ (n : Nat) (l : List api_Act), Fl n l → ∀ k, n + 100002 ≤ k → law8_same_f k l l = some true
 | 0, l, h, _, _ => h.elim
 | n + 1, l, ⟨h1, h4⟩, k, hk => by
  obtain ⟨k, rfl⟩ : ∃ j, k = j + 1 := ⟨k - 1, by omega⟩
  show law8_same_b (law8_same_f k) k l l = _
  unfold law8_same_b
  rw [s8_eq (n := n + 1) ⟨h1, h4⟩, bind_some_eq, Bool.not_true, cond_false]
  have loop : ∀ m i, i + m = l.length → ∀ k', m + 1 ≤ k' → law8_same_l0 (law8_same_f k) k' l l ((i : Nat) : Int) = some true := by
   intro m
   induction m with
   | zero =>
    intro i h k' hk'
    obtain ⟨k', rfl⟩ : ∃ j, k' = j + 1 := ⟨k' - 1, by omega⟩
    rw [law8_same_l0.eq_2, if_neg (by omega)]
   | succ m ih =>
    intro i h k' hk'
    obtain ⟨k', rfl⟩ : ∃ j, k' = j + 1 := ⟨k' - 1, by omega⟩
    have hi : i < l.length := by omega
    obtain ⟨g1, g2, g3⟩ := h4 _ (List.getElem_mem hi)
    rw [law8_same_l0.eq_2, if_pos (by omega), if_pos (by omega), if_pos (by omega), if_pos (by omega), if_pos (by omega), Int.toNat_natCast, getD_lt _ hi, if_neg (fun q => q rfl)]
    by_cases c1 : (l[i].X.length : Int) = 1
    · obtain ⟨e, he⟩ := List.length_eq_one_iff.1 (show l[i].X.length = 1 by omega)
      rw [if_pos c1, if_pos (by decide), if_pos (by omega), if_pos (by decide), if_pos (by omega), he, show [e].getD (0 : Int).toNat api_Expr.z = e from rfl, e8_eq (g1.2 e (by rw [he]; simp)), bind_some_eq, Bool.not_true, cond_false, l8_refl n _ g2 k (by omega), bind_some_eq, Bool.not_true, cond_false, l8_refl n _ g3 k (by omega), bind_some_eq, Bool.not_true, cond_false, nx2 (by omega)]
      exact ih (i + 1) (by omega) k' (by omega)
    · rw [if_neg c1, l8_refl n _ g2 k (by omega), bind_some_eq, Bool.not_true, cond_false, l8_refl n _ g3 k (by omega), bind_some_eq, Bool.not_true, cond_false, nx2 (by omega)]
      exact ih (i + 1) (by omega) k' (by omega)
  exact loop l.length 0 (by omega) k (by omega)
theorem areads_true (s : List UInt8) (v : Int) : law8_ActReads s v = some true := by
 unfold law8_ActReads
 rw [rAll_eq, bind_some_eq]
 by_cases hc : (allP s).2.Code ≠ 0
 · rw [if_pos hc, known8_true, bind_some_eq]
 rw [if_neg hc]
 by_cases h2000 : 2000 < (s.length : Int)
 · rw [if_pos h2000, known8_true, bind_some_eq]
 rw [if_neg h2000]
 obtain ⟨H, h0⟩ := allP_ok (Classical.not_not.1 hc)
 have hlen := allP_len s
 obtain ⟨r, hr, h1, h2⟩ := place_eq' (v := v) (n := ((allP s).1.length : Int)) (by omega) (by omega)
 obtain ⟨r, rfl⟩ : ∃ q : Nat, r = (q : Int) := ⟨r.toNat, by omega⟩
 obtain ⟨e, j, f, he, hf, n, hn⟩ := aparse_both H (i := r) (by omega)
 rw [hr, bind_some_eq, he, bind_some_eq, hf, bind_some_eq]
 dsimp only
 rw [if_pos rfl, if_pos ⟨rfl, rfl⟩, show law8_same e e = some true from lim_eq (n + 100002) fun k hk => l8_refl n e hn k hk, bind_some_eq, cond_true, known8_true, bind_some_eq]
end Go.Sy.Ex
