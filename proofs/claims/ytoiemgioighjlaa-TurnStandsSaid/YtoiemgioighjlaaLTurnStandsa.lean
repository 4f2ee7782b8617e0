import Derived.Test.YtoiemgioighjlaaProg
import Derived.Test.YtoiemgioighjlaaSc
set_option linter.unusedVariables false
set_option linter.unusedSimpArgs false
set_option maxRecDepth 100000
namespace Go.Sy.Tu
open Go.Sy Go.Proofs
structure law25_Raw where
  Since : Int
  Prio : Int
  There : Bool
  May : Bool
  deriving DecidableEq
def law25_Raw.z : law25_Raw := ⟨0, 0, false, false⟩
structure turn_Head where
  Queue : Int
  Since : Int
  Prio : Int
  May : Bool
  deriving DecidableEq
def turn_Head.z : turn_Head := ⟨0, 0, 0, false⟩
structure ref25_Head where
  Queue : Int
  Since : Int
  Prio : Int
  May : Bool
  deriving DecidableEq
def ref25_Head.z : ref25_Head := ⟨0, 0, 0, false⟩
def C : Nat → Type
  | 0 => law25_Raw
  | 1 => turn_Head
  | 2 => ref25_Head
  | _ + 3 => Unit
def F : Nat → List Ty
  | 0 => [.int .u16, .int .u8, .bool, .bool]
  | 1 => [.int .i64, .int .i64, .int .i64, .bool]
  | 2 => [.int .i64, .int .i64, .int .i64, .bool]
  | _ + 3 => []
def ex : (t : Nat) → C t → Tup C (F t)
  | 0, (x : law25_Raw) => (x.Since, x.Prio, x.There, x.May)
  | 1, (x : turn_Head) => (x.Queue, x.Since, x.Prio, x.May)
  | 2, (x : ref25_Head) => (x.Queue, x.Since, x.Prio, x.May)
  | _ + 3, _ => ()
def im : (t : Nat) → Tup C (F t) → C t
  | 0, (a0, a1, a2, a3) => law25_Raw.mk a0 a1 a2 a3
  | 1, (a0, a1, a2, a3) => turn_Head.mk a0 a1 a2 a3
  | 2, (a0, a1, a2, a3) => ref25_Head.mk a0 a1 a2 a3
  | _ + 3, _ => ()
def fldT : Nat → List (Nat × Ty)
  | 0 => [(0, .int .u16), (1, .int .u8), (2, .bool), (3, .bool)]
  | 1 => [(0, .int .i64), (1, .int .i64), (2, .int .i64), (3, .bool)]
  | 2 => [(0, .int .i64), (1, .int .i64), (2, .int .i64), (3, .bool)]
  | _ + 3 => []
def z : (t : Nat) → C t
  | 0 => law25_Raw.z
  | 1 => turn_Head.z
  | 2 => ref25_Head.z
  | _ + 3 => ()
def tyT : List (Nat × Ty) := [(3, .int .i64), (4, .bool), (5, .int .u8), (22, .sl (.int .u8)), (23, .sl (.int .u16)), (24, .sl (.int .i64)), (32, .int .u16), (54, .sl (.st 0)), (55, .sl (.st 1)), (56, .sl (.st 2)), (57, .sl (.sl (.int .i64))), (64, .st 1), (66, .st 2), (81, .st 0)]
def arT : List (Nat × (Nat × Ty)) := []
def eqT : List (Nat × Unit) := []
def ptT : List (Nat × Unit) := []
abbrev S : Sen := ⟨C, F, ex, im, fun u f => (fldT u)[f]?, z, look tyT, fun t => (look ptT t).isSome, look arT, fun t => (look eqT t).isSome, []⟩
def bytT : List (Nat × Nat) := [(22, 1), (23, 2), (24, 8), (54, 6), (55, 32), (56, 32), (57, 24)]
def byt (t : Nat) : Nat := (look bytT t).getD 1
theorem senOk : SenOk S := ⟨fun | 0 => rfl | 1 => rfl | 2 => rfl | _ + 3 => rfl, fun | 0, _ => rfl | 1, _ => rfl | 2, _ => rfl | _ + 3, _ => rfl⟩
theorem ty3 : TyAt Try.prog S byt 3 (.int .i64) := tyAt_int rfl (by kernel_rfl) (by kernel_rfl) (by kernel_rfl)
theorem ty4 : TyAt Try.prog S byt 4 (.bool) := tyAt_bool rfl (by kernel_rfl) (by kernel_rfl) (by kernel_rfl)
theorem ty5 : TyAt Try.prog S byt 5 (.int .u8) := tyAt_int rfl (by kernel_rfl) (by kernel_rfl) (by kernel_rfl)
theorem ty22 : TyAt Try.prog S byt 22 (.sl (.int .u8)) := tyAt_sl rfl (by kernel_rfl) (by kernel_rfl) Try.underlying22 rfl rfl (by kernel_rfl) (by kernel_rfl)
theorem ty23 : TyAt Try.prog S byt 23 (.sl (.int .u16)) := tyAt_sl rfl (by kernel_rfl) (by kernel_rfl) Try.underlying23 rfl rfl (by kernel_rfl) (by kernel_rfl)
theorem ty24 : TyAt Try.prog S byt 24 (.sl (.int .i64)) := tyAt_sl rfl (by kernel_rfl) (by kernel_rfl) Try.underlying24 rfl rfl (by kernel_rfl) (by kernel_rfl)
theorem ty32 : TyAt Try.prog S byt 32 (.int .u16) := tyAt_int rfl (by kernel_rfl) (by kernel_rfl) (by kernel_rfl)
theorem ty54 : TyAt Try.prog S byt 54 (.sl (.st 0)) := tyAt_sl rfl (by kernel_rfl) (by kernel_rfl) Try.underlying54 rfl rfl (by kernel_rfl) (by kernel_rfl)
theorem ty55 : TyAt Try.prog S byt 55 (.sl (.st 1)) := tyAt_sl rfl (by kernel_rfl) (by kernel_rfl) Try.underlying55 rfl rfl (by kernel_rfl) (by kernel_rfl)
theorem ty56 : TyAt Try.prog S byt 56 (.sl (.st 2)) := tyAt_sl rfl (by kernel_rfl) (by kernel_rfl) Try.underlying56 rfl rfl (by kernel_rfl) (by kernel_rfl)
theorem ty57 : TyAt Try.prog S byt 57 (.sl (.sl (.int .i64))) := tyAt_sl rfl (by kernel_rfl) (by kernel_rfl) Try.underlying57 rfl rfl (by kernel_rfl) (by kernel_rfl)
theorem ty64 : TyAt Try.prog S byt 64 (.st 1) := tyAt_st (l := fldT 1) rfl (by kernel_rfl) rfl (by kernel_rfl) (by kernel_rfl) rfl (by kernel_rfl) Try.underlying64 (by kernel_rfl) (fun _ => rfl) rfl
theorem ty66 : TyAt Try.prog S byt 66 (.st 2) := tyAt_st (l := fldT 2) rfl (by kernel_rfl) rfl (by kernel_rfl) (by kernel_rfl) rfl (by kernel_rfl) Try.underlying66 (by kernel_rfl) (fun _ => rfl) rfl
theorem ty81 : TyAt Try.prog S byt 81 (.st 0) := tyAt_st (l := fldT 0) rfl (by kernel_rfl) rfl (by kernel_rfl) (by kernel_rfl) rfl (by kernel_rfl) Try.underlying81 (by kernel_rfl) (fun _ => rfl) rfl
theorem progOk : ProgOk Try.prog S byt := ⟨senOk, fun t T h0 => by
  have h := look_mem (show look tyT t = some T from h0)
  simp only [tyT, List.mem_cons, Prod.mk.injEq, List.not_mem_nil, or_false] at h
  rcases h with ⟨rfl, rfl⟩ | ⟨rfl, rfl⟩ | ⟨rfl, rfl⟩ | ⟨rfl, rfl⟩ | ⟨rfl, rfl⟩ | ⟨rfl, rfl⟩ | ⟨rfl, rfl⟩ | ⟨rfl, rfl⟩ | ⟨rfl, rfl⟩ | ⟨rfl, rfl⟩ | ⟨rfl, rfl⟩ | ⟨rfl, rfl⟩ | ⟨rfl, rfl⟩ | ⟨rfl, rfl⟩
  · exact ty3
  · exact ty4
  · exact ty5
  · exact ty22
  · exact ty23
  · exact ty24
  · exact ty32
  · exact ty54
  · exact ty55
  · exact ty56
  · exact ty57
  · exact ty64
  · exact ty66
  · exact ty81, fun t h => by
  have h2 : ∃ u, look ptT t = some u := Option.isSome_iff_exists.1 h
  obtain ⟨u, h2⟩ := h2
  have h := look_mem h2
  simp [ptT] at h, fun t h => by
  have h2 : ∃ u, look eqT t = some u := Option.isSome_iff_exists.1 h
  obtain ⟨u, h2⟩ := h2
  have h := look_mem h2
  simp [eqT] at h⟩
theorem mixed : Try.prog.follows .mixedOrders = true := by kernel_rfl
def bz (e : Ty) : Nat := if e = .int .u8 then 1 else if e = .int .u16 then 2 else if e = .st 0 then 6 else 1
def tyA : List (Nat × Ty) := [(4, .bool), (5, .int .u8), (22, .sl (.int .u8)), (23, .sl (.int .u16)), (32, .int .u16), (54, .sl (.st 0)), (81, .st 0)]
/-- The arguments' types alone. -/
abbrev SA : Sen := S.withT (look tyA) (fun _ => false) (fun _ => none) (fun _ => false)
theorem tyA4 : TyAt Try.prog SA byt 4 (.bool) := tyAt_bool rfl (by kernel_rfl) (by kernel_rfl) (by kernel_rfl)
theorem tyA5 : TyAt Try.prog SA byt 5 (.int .u8) := tyAt_int rfl (by kernel_rfl) (by kernel_rfl) (by kernel_rfl)
theorem tyA22 : TyAt Try.prog SA byt 22 (.sl (.int .u8)) := tyAt_sl rfl (by kernel_rfl) (by kernel_rfl) Try.underlying22 rfl rfl (by kernel_rfl) (by kernel_rfl)
theorem tyA23 : TyAt Try.prog SA byt 23 (.sl (.int .u16)) := tyAt_sl rfl (by kernel_rfl) (by kernel_rfl) Try.underlying23 rfl rfl (by kernel_rfl) (by kernel_rfl)
theorem tyA32 : TyAt Try.prog SA byt 32 (.int .u16) := tyAt_int rfl (by kernel_rfl) (by kernel_rfl) (by kernel_rfl)
theorem tyA54 : TyAt Try.prog SA byt 54 (.sl (.st 0)) := tyAt_sl rfl (by kernel_rfl) (by kernel_rfl) Try.underlying54 rfl rfl (by kernel_rfl) (by kernel_rfl)
theorem tyA81 : TyAt Try.prog SA byt 81 (.st 0) := tyAt_st (l := fldT 0) rfl (by kernel_rfl) rfl (by kernel_rfl) (by kernel_rfl) rfl (by kernel_rfl) Try.underlying81 (by kernel_rfl) (fun _ => rfl) rfl
theorem senOkA : SenOk SA := ⟨senOk.flat, senOk.exim⟩
theorem progOkA : ProgOk Try.prog SA byt := ⟨senOkA, fun t e h0 => by
  have h := look_mem (show look tyA t = some (e) from h0)
  simp only [tyA, List.mem_cons, Prod.mk.injEq, List.not_mem_nil, or_false] at h
  rcases h with ⟨rfl, h⟩ | ⟨rfl, h⟩ | ⟨rfl, h⟩ | ⟨rfl, h⟩ | ⟨rfl, h⟩ | ⟨rfl, h⟩ | ⟨rfl, h⟩
  · subst h; exact tyA4
  · subst h; exact tyA5
  · subst h; exact tyA22
  · subst h; exact tyA23
  · subst h; exact tyA32
  · subst h; exact tyA54
  · subst h; exact tyA81, fun t h => (nomatch h), fun t h => (nomatch h)⟩
theorem hbz : ∀ t e, SA.ty t = some (.sl e) → byt t = bz e := fun t e h0 => by
  have h := look_mem (show look tyA t = some (.sl e) from h0)
  simp only [tyA, List.mem_cons, Prod.mk.injEq, List.not_mem_nil, or_false] at h
  rcases h with ⟨rfl, h⟩ | ⟨rfl, h⟩ | ⟨rfl, h⟩ | ⟨rfl, h⟩ | ⟨rfl, h⟩ | ⟨rfl, h⟩ | ⟨rfl, h⟩
  · cases h
  · cases h
  · cases h; decide
  · cases h; decide
  · cases h
  · cases h; decide
  · cases h
theorem slOk : SlOk SA := fun t e h0 => by
  have h := look_mem (show look tyA t = some (.sl e) from h0)
  simp only [tyA, List.mem_cons, Prod.mk.injEq, List.not_mem_nil, or_false] at h
  rcases h with ⟨rfl, h⟩ | ⟨rfl, h⟩ | ⟨rfl, h⟩ | ⟨rfl, h⟩ | ⟨rfl, h⟩ | ⟨rfl, h⟩ | ⟨rfl, h⟩
  · cases h
  · cases h
  · cases h; decide
  · cases h; decide
  · cases h
  · cases h; decide
  · cases h
theorem stOk : StOk Try.prog SA := fun t e h0 => by
  have h := look_mem (show look tyA t = some (.st e) from h0)
  simp only [tyA, List.mem_cons, Prod.mk.injEq, List.not_mem_nil, or_false] at h
  rcases h with ⟨rfl, h⟩ | ⟨rfl, h⟩ | ⟨rfl, h⟩ | ⟨rfl, h⟩ | ⟨rfl, h⟩ | ⟨rfl, h⟩ | ⟨rfl, h⟩
  · cases h
  · cases h
  · cases h
  · cases h
  · cases h
  · cases h
  · cases h; exact stOk_of Try.underlying81 (by kernel_rfl)
/-! ### 26 cotillion/cotillionlaw25.heads -/
mutual
noncomputable def law25_heads_l0 : Nat → (List law25_Raw) → (List Int) → Int → (List turn_Head) → (List ref25_Head) → (List Int) → (List Int) → (List Int) → (List Int) → Int → Option (List turn_Head × List ref25_Head × List (List Int))
  | 0, _, _, _, _, _, _, _, _, _, _ => none
  | k + 1, l, g, now, a, b, groups_c0, groups_c1, groups_c2, groups_c3, i => if i < (l.length : Int) then
    if i < 20 then
    if i < (g.length : Int) then
    if 0 ≤ i then
    if i < (g.length : Int) then
    if ¬ (4 : Int) = 0 then
    if 0 ≤ ((w64 (g.getD i.toNat 0)).tmod 4) then
    if ((w64 (g.getD i.toNat 0)).tmod 4) < 4 then
    if ((w64 (g.getD i.toNat 0)).tmod 4) = 0 then
    if (groups_c0.length + [i].length) * 8 ≤ 140737488355328 then
    if 0 ≤ ((w64 (g.getD i.toNat 0)).tmod 4) then
    if ((w64 (g.getD i.toNat 0)).tmod 4) < 4 then
    if ((w64 (g.getD i.toNat 0)).tmod 4) = 0 then
    law25_heads_c0 k l g now a b (groups_c0 ++ [i]) groups_c1 groups_c2 groups_c3 i else
    if ((w64 (g.getD i.toNat 0)).tmod 4) = 1 then none else
    if ((w64 (g.getD i.toNat 0)).tmod 4) = 2 then none else
    if ((w64 (g.getD i.toNat 0)).tmod 4) = 3 then none else none else none else none else none else
    if ((w64 (g.getD i.toNat 0)).tmod 4) = 1 then
    if (groups_c1.length + [i].length) * 8 ≤ 140737488355328 then
    if 0 ≤ ((w64 (g.getD i.toNat 0)).tmod 4) then
    if ((w64 (g.getD i.toNat 0)).tmod 4) < 4 then
    if ((w64 (g.getD i.toNat 0)).tmod 4) = 0 then none else
    if ((w64 (g.getD i.toNat 0)).tmod 4) = 1 then
    law25_heads_c0 k l g now a b groups_c0 (groups_c1 ++ [i]) groups_c2 groups_c3 i else
    if ((w64 (g.getD i.toNat 0)).tmod 4) = 2 then none else
    if ((w64 (g.getD i.toNat 0)).tmod 4) = 3 then none else none else none else none else none else
    if ((w64 (g.getD i.toNat 0)).tmod 4) = 2 then
    if (groups_c2.length + [i].length) * 8 ≤ 140737488355328 then
    if 0 ≤ ((w64 (g.getD i.toNat 0)).tmod 4) then
    if ((w64 (g.getD i.toNat 0)).tmod 4) < 4 then
    if ((w64 (g.getD i.toNat 0)).tmod 4) = 0 then none else
    if ((w64 (g.getD i.toNat 0)).tmod 4) = 1 then none else
    if ((w64 (g.getD i.toNat 0)).tmod 4) = 2 then
    law25_heads_c0 k l g now a b groups_c0 groups_c1 (groups_c2 ++ [i]) groups_c3 i else
    if ((w64 (g.getD i.toNat 0)).tmod 4) = 3 then none else none else none else none else none else
    if ((w64 (g.getD i.toNat 0)).tmod 4) = 3 then
    if (groups_c3.length + [i].length) * 8 ≤ 140737488355328 then
    if 0 ≤ ((w64 (g.getD i.toNat 0)).tmod 4) then
    if ((w64 (g.getD i.toNat 0)).tmod 4) < 4 then
    if ((w64 (g.getD i.toNat 0)).tmod 4) = 0 then none else
    if ((w64 (g.getD i.toNat 0)).tmod 4) = 1 then none else
    if ((w64 (g.getD i.toNat 0)).tmod 4) = 2 then none else
    if ((w64 (g.getD i.toNat 0)).tmod 4) = 3 then
    law25_heads_c0 k l g now a b groups_c0 groups_c1 groups_c2 (groups_c3 ++ [i]) i else none else none else none else none else none else none else none else none else none else none else
    if (0 : Int) ≤ 0 then
    if (0 : Int) < 4 then
    if (0 : Int) = 0 then
    if (groups_c0.length + [i].length) * 8 ≤ 140737488355328 then
    if (0 : Int) ≤ 0 then
    if (0 : Int) < 4 then
    if (0 : Int) = 0 then
    law25_heads_c0 k l g now a b (groups_c0 ++ [i]) groups_c1 groups_c2 groups_c3 i else
    if (0 : Int) = 1 then none else
    if (0 : Int) = 2 then none else
    if (0 : Int) = 3 then none else none else none else none else none else
    if (0 : Int) = 1 then
    if (groups_c1.length + [i].length) * 8 ≤ 140737488355328 then
    if (0 : Int) ≤ 0 then
    if (0 : Int) < 4 then
    if (0 : Int) = 0 then none else
    if (0 : Int) = 1 then
    law25_heads_c0 k l g now a b groups_c0 (groups_c1 ++ [i]) groups_c2 groups_c3 i else
    if (0 : Int) = 2 then none else
    if (0 : Int) = 3 then none else none else none else none else none else
    if (0 : Int) = 2 then
    if (groups_c2.length + [i].length) * 8 ≤ 140737488355328 then
    if (0 : Int) ≤ 0 then
    if (0 : Int) < 4 then
    if (0 : Int) = 0 then none else
    if (0 : Int) = 1 then none else
    if (0 : Int) = 2 then
    law25_heads_c0 k l g now a b groups_c0 groups_c1 (groups_c2 ++ [i]) groups_c3 i else
    if (0 : Int) = 3 then none else none else none else none else none else
    if (0 : Int) = 3 then
    if (groups_c3.length + [i].length) * 8 ≤ 140737488355328 then
    if (0 : Int) ≤ 0 then
    if (0 : Int) < 4 then
    if (0 : Int) = 0 then none else
    if (0 : Int) = 1 then none else
    if (0 : Int) = 2 then none else
    if (0 : Int) = 3 then
    law25_heads_c0 k l g now a b groups_c0 groups_c1 groups_c2 (groups_c3 ++ [i]) i else none else none else none else none else none else none else none else
    some (a, b, [groups_c0, groups_c1, groups_c2, groups_c3]) else
    some (a, b, [groups_c0, groups_c1, groups_c2, groups_c3])
noncomputable def law25_heads_c0 : Nat → (List law25_Raw) → (List Int) → Int → (List turn_Head) → (List ref25_Head) → (List Int) → (List Int) → (List Int) → (List Int) → Int → Option (List turn_Head × List ref25_Head × List (List Int))
  | 0, _, _, _, _, _, _, _, _, _, _ => none
  | k + 1, l, g, now, a, b, groups_c0, groups_c1, groups_c2, groups_c3, i => if 0 ≤ i then
    if i < (l.length : Int) then
    bif (l.getD i.toNat law25_Raw.z).There then
    if 0 ≤ i then
    if i < (l.length : Int) then
    if ¬ (w64 (now + 1)) = 0 then
    if 0 ≤ i then
    if i < (l.length : Int) then
    if ¬ (8 : Int) = 0 then
    if 0 ≤ i then
    if i < (l.length : Int) then
    if (a.length + [turn_Head.mk i ((w64 ((l.getD i.toNat law25_Raw.z).Since)).tmod (w64 (now + 1))) ((w64 ((l.getD i.toNat law25_Raw.z).Prio)).tmod 8) ((l.getD i.toNat law25_Raw.z).May)].length) * 32 ≤ 140737488355328 then
    if 0 ≤ i then
    if i < (l.length : Int) then
    if (b.length + [ref25_Head.mk i ((w64 ((l.getD i.toNat law25_Raw.z).Since)).tmod (w64 (now + 1))) ((w64 ((l.getD i.toNat law25_Raw.z).Prio)).tmod 8) ((l.getD i.toNat law25_Raw.z).May)].length) * 32 ≤ 140737488355328 then
    law25_heads_l0 k l g now (a ++ [turn_Head.mk i ((w64 ((l.getD i.toNat law25_Raw.z).Since)).tmod (w64 (now + 1))) ((w64 ((l.getD i.toNat law25_Raw.z).Prio)).tmod 8) ((l.getD i.toNat law25_Raw.z).May)]) (b ++ [ref25_Head.mk i ((w64 ((l.getD i.toNat law25_Raw.z).Since)).tmod (w64 (now + 1))) ((w64 ((l.getD i.toNat law25_Raw.z).Prio)).tmod 8) ((l.getD i.toNat law25_Raw.z).May)]) groups_c0 groups_c1 groups_c2 groups_c3 (w64 (i + 1)) else none else none else none else none else none else none else none else none else none else none else none else none else
    law25_heads_l0 k l g now a b groups_c0 groups_c1 groups_c2 groups_c3 (w64 (i + 1)) else none else none
end
noncomputable def law25_heads_f (k : Nat) (l : List law25_Raw) (g : List Int) (now : Int) : Option (List turn_Head × List ref25_Head × List (List Int)) := law25_heads_l0 k l g now [] [] [] [] [] [] 0
noncomputable def law25_heads (l : List law25_Raw) (g : List Int) (now : Int) : Option (List turn_Head × List ref25_Head × List (List Int)) := lim (fun k (x : List law25_Raw × List Int × Int) => law25_heads_f k x.1 x.2.1 x.2.2) (l, g, now)
noncomputable abbrev law25_heads_T : Tab S := ⟨[], [], false, true⟩
noncomputable def law25_heads_L (k : Nat) : Nat → List (Lab S (List turn_Head × List ref25_Head × List (List Int)))
  | 0 => [⟨[0, 1, 2, 9, 10, 11, 12], [.val (.data (.sl (.st 0))), .val (.data (.sl (.int .u8))), .val (.data (.int .i64)), .val (.town (.st 1)), .val (.town (.st 2)), .csl [.town (.int .i64), .town (.int .i64), .town (.int .i64), .town (.int .i64)], .val (.data (.int .i64))], fun x => law25_heads_l0 k x.1 x.2.1 x.2.2.1 x.2.2.2.1 x.2.2.2.2.1 x.2.2.2.2.2.1.1 x.2.2.2.2.2.1.2.1 x.2.2.2.2.2.1.2.2.1 x.2.2.2.2.2.1.2.2.2 x.2.2.2.2.2.2⟩]
  | 1 => [⟨[0, 1, 2, 9, 10, 11, 12], [.val (.data (.sl (.st 0))), .val (.data (.sl (.int .u8))), .val (.data (.int .i64)), .val (.town (.st 1)), .val (.town (.st 2)), .csl [.town (.int .i64), .town (.int .i64), .town (.int .i64), .town (.int .i64)], .val (.data (.int .i64))], fun x => law25_heads_c0 k x.1 x.2.1 x.2.2.1 x.2.2.2.1 x.2.2.2.2.1 x.2.2.2.2.2.1.1 x.2.2.2.2.2.1.2.1 x.2.2.2.2.2.1.2.2.1 x.2.2.2.2.2.1.2.2.2 x.2.2.2.2.2.2⟩]
  | _ + 2 => []
theorem law25_heads_eq (k : Nat) (l : List law25_Raw) (g : List Int) (now : Int) : law25_heads_f k l g now = exec S (law25_heads_T) byt (labs S (law25_heads_T) (law25_heads_L k)) (ac [12] Try.f26) (frame0 S [.val (.data (.sl (.st 0))), .val (.data (.sl (.int .u8))), .val (.data (.int .i64))] (l, g, now)) (retK S (law25_heads_T) Try.f26 [.val (.data (.sl (.st 0))), .val (.data (.sl (.int .u8))), .val (.data (.int .i64))] [.val (.town (.st 1)), .val (.town (.st 2)), .val (.data (.sl (.sl (.int .i64))))]) := by kernel_rfl
theorem law25_heads_vc (k : Nat) : VC S (law25_heads_T) byt (law25_heads_L k) (law25_heads_L (k + 1)) (ac [12] Try.f26) (retK S (law25_heads_T) Try.f26 [.val (.data (.sl (.st 0))), .val (.data (.sl (.int .u8))), .val (.data (.int .i64))] [.val (.town (.st 1)), .val (.town (.st 2)), .val (.data (.sl (.sl (.int .i64))))]) = [∀ x : List law25_Raw × List Int × Int × List turn_Head × List ref25_Head × (List Int × List Int × List Int × List Int) × Int, law25_heads_c0 (k + 1) x.1 x.2.1 x.2.2.1 x.2.2.2.1 x.2.2.2.2.1 x.2.2.2.2.2.1.1 x.2.2.2.2.2.1.2.1 x.2.2.2.2.2.1.2.2.1 x.2.2.2.2.2.1.2.2.2 x.2.2.2.2.2.2 = law25_heads_c0 (k + 1) x.1 x.2.1 x.2.2.1 x.2.2.2.1 x.2.2.2.2.1 x.2.2.2.2.2.1.1 x.2.2.2.2.2.1.2.1 x.2.2.2.2.2.1.2.2.1 x.2.2.2.2.2.1.2.2.2 x.2.2.2.2.2.2, ∀ x : List law25_Raw × List Int × Int × List turn_Head × List ref25_Head × (List Int × List Int × List Int × List Int) × Int, law25_heads_l0 (k + 1) x.1 x.2.1 x.2.2.1 x.2.2.2.1 x.2.2.2.2.1 x.2.2.2.2.2.1.1 x.2.2.2.2.2.1.2.1 x.2.2.2.2.2.1.2.2.1 x.2.2.2.2.2.1.2.2.2 x.2.2.2.2.2.2 = law25_heads_l0 (k + 1) x.1 x.2.1 x.2.2.1 x.2.2.2.1 x.2.2.2.2.1 x.2.2.2.2.2.1.1 x.2.2.2.2.2.1.2.1 x.2.2.2.2.2.1.2.2.1 x.2.2.2.2.2.1.2.2.2 x.2.2.2.2.2.2] := by kernel_rfl
theorem law25_heads_sndk (k : Nat) : Snd Try.prog S ⟨26, [.val (.data (.sl (.st 0))), .val (.data (.sl (.int .u8))), .val (.data (.int .i64))], [.val (.town (.st 1)), .val (.town (.st 2)), .val (.data (.sl (.sl (.int .i64))))], fun x => law25_heads_f k x.1 x.2.1 x.2.2⟩ :=
  fn_ok progOk (T := (law25_heads_T)) (all_nil) (all_nil) mixed Try.func26 rfl (by kernel_rfl) (ac_code [12] Try.f26 rfl) (L := law25_heads_L)
    (fun n l h x => by match n, h with
        | 0, h => 
          rcases List.mem_cons.1 h with rfl | h
          · rfl
          cases h
        | 1, h => 
          rcases List.mem_cons.1 h with rfl | h
          · rfl
          cases h
        | _ + 2, h => cases h) (fun k n l h => by match n, h with
        | 0, h => 
          rcases List.mem_cons.1 h with rfl | h
          · rfl
          cases h
        | 1, h => 
          rcases List.mem_cons.1 h with rfl | h
          · rfl
          cases h
        | _ + 2, h => cases h)
    (fun k => All.mem (law25_heads_vc k) ⟨fun _ => rfl, ⟨fun _ => rfl, trivial⟩⟩) (fun x r h => ⟨k, (law25_heads_eq k x.1 x.2.1 x.2.2).symm.trans h⟩) (by kernel_rfl) (by kernel_rfl) (Nat.le_of_ble_eq_true (by kernel_rfl))
theorem law25_heads_snd : Snd Try.prog S ⟨26, [.val (.data (.sl (.st 0))), .val (.data (.sl (.int .u8))), .val (.data (.int .i64))], [.val (.town (.st 1)), .val (.town (.st 2)), .val (.data (.sl (.sl (.int .i64))))], fun x => law25_heads x.1 x.2.1 x.2.2⟩ := Snd.lim law25_heads_sndk
/-! ### 49 slices.Index[[]int,int] -/
noncomputable def slices_Index_int_int_l0 : Nat → (List Int) → Int → Int → Int → Option Int
  | 0, _, _, _, _ => none
  | k + 1, s, v, x7, x8 => if x8 < x7 then
    if 0 ≤ x8 then
    if x8 < (s.length : Int) then
    if v = (s.getD x8.toNat 0) then
    some x8 else
    slices_Index_int_int_l0 k s v x7 (w64 (x8 + 1)) else none else none else
    some (-1)
noncomputable def slices_Index_int_int_f (k : Nat) (s : List Int) (v : Int) : Option Int := slices_Index_int_int_l0 k s v (s.length : Int) 0
noncomputable def slices_Index_int_int (s : List Int) (v : Int) : Option Int := lim (fun k (x : List Int × Int) => slices_Index_int_int_f k x.1 x.2) (s, v)
noncomputable abbrev slices_Index_int_int_T : Tab S := ⟨[], [], false, false⟩
noncomputable def slices_Index_int_int_L (k : Nat) : Nat → List (Lab S Int)
  | 0 => [⟨[0, 1, 7, 8], [.val (.data (.sl (.int .i64))), .val (.data (.int .i64)), .val (.data (.int .i64)), .val (.data (.int .i64))], fun x => slices_Index_int_int_l0 k x.1 x.2.1 x.2.2.1 x.2.2.2⟩]
  | _ + 1 => []
theorem slices_Index_int_int_eq (k : Nat) (s : List Int) (v : Int) : slices_Index_int_int_f k s v = exec S (slices_Index_int_int_T) byt (labs S (slices_Index_int_int_T) (slices_Index_int_int_L k)) (ac [] Try.f49) (frame0 S [.val (.data (.sl (.int .i64))), .val (.data (.int .i64))] (s, v)) (retK S (slices_Index_int_int_T) Try.f49 [.val (.data (.sl (.int .i64))), .val (.data (.int .i64))] [.val (.data (.int .i64))]) := by kernel_rfl
theorem slices_Index_int_int_vc (k : Nat) : VC S (slices_Index_int_int_T) byt (slices_Index_int_int_L k) (slices_Index_int_int_L (k + 1)) (ac [] Try.f49) (retK S (slices_Index_int_int_T) Try.f49 [.val (.data (.sl (.int .i64))), .val (.data (.int .i64))] [.val (.data (.int .i64))]) = [∀ x : List Int × Int × Int × Int, slices_Index_int_int_l0 (k + 1) x.1 x.2.1 x.2.2.1 x.2.2.2 = slices_Index_int_int_l0 (k + 1) x.1 x.2.1 x.2.2.1 x.2.2.2] := by kernel_rfl
theorem slices_Index_int_int_sndk (k : Nat) : Snd Try.prog S ⟨49, [.val (.data (.sl (.int .i64))), .val (.data (.int .i64))], [.val (.data (.int .i64))], fun x => slices_Index_int_int_f k x.1 x.2⟩ :=
  fn_ok progOk (T := (slices_Index_int_int_T)) (all_nil) (all_nil) mixed Try.func49 rfl (by kernel_rfl) (ac_code [] Try.f49 rfl) (L := slices_Index_int_int_L)
    (fun n l h x => by match n, h with
        | 0, h => 
          rcases List.mem_cons.1 h with rfl | h
          · rfl
          cases h
        | _ + 1, h => cases h) (fun k n l h => by match n, h with
        | 0, h => 
          rcases List.mem_cons.1 h with rfl | h
          · rfl
          cases h
        | _ + 1, h => cases h)
    (fun k => All.mem (slices_Index_int_int_vc k) ⟨fun _ => rfl, trivial⟩) (fun x r h => ⟨k, (slices_Index_int_int_eq k x.1 x.2).symm.trans h⟩) (by kernel_rfl) (by kernel_rfl) (Nat.le_of_ble_eq_true (by kernel_rfl))
theorem slices_Index_int_int_snd : Snd Try.prog S ⟨49, [.val (.data (.sl (.int .i64))), .val (.data (.int .i64))], [.val (.data (.int .i64))], fun x => slices_Index_int_int x.1 x.2⟩ := Snd.lim slices_Index_int_int_sndk
/-! ### 42 slices.Contains[[]int,int] -/
noncomputable def slices_Contains_int_int  (s : List Int) (v : Int) : Option Bool := (slices_Index_int_int s v).bind fun r1 => some (decide (0 ≤ r1))
noncomputable abbrev slices_Contains_int_int_T : Tab S := ⟨[⟨49, [.val (.data (.sl (.int .i64))), .val (.data (.int .i64))], [.val (.data (.int .i64))], fun x => slices_Index_int_int x.1 x.2⟩], [], false, false⟩
noncomputable def slices_Contains_int_int_L (k : Nat) : Nat → List (Lab S Bool)
  | _ => []
theorem slices_Contains_int_int_eq (k : Nat) (s : List Int) (v : Int) : slices_Contains_int_int s v = exec S (slices_Contains_int_int_T) byt (labs S (slices_Contains_int_int_T) (slices_Contains_int_int_L k)) (ac [] Try.f42) (frame0 S [.val (.data (.sl (.int .i64))), .val (.data (.int .i64))] (s, v)) (retK S (slices_Contains_int_int_T) Try.f42 [.val (.data (.sl (.int .i64))), .val (.data (.int .i64))] [.val (.data .bool)]) := by kernel_rfl
theorem slices_Contains_int_int_vc (k : Nat) : VC S (slices_Contains_int_int_T) byt (slices_Contains_int_int_L k) (slices_Contains_int_int_L (k + 1)) (ac [] Try.f42) (retK S (slices_Contains_int_int_T) Try.f42 [.val (.data (.sl (.int .i64))), .val (.data (.int .i64))] [.val (.data .bool)]) = [] := by kernel_rfl
theorem slices_Contains_int_int_snd : Snd Try.prog S ⟨42, [.val (.data (.sl (.int .i64))), .val (.data (.int .i64))], [.val (.data .bool)], fun x => slices_Contains_int_int x.1 x.2⟩ :=
  fn_ok progOk (T := (slices_Contains_int_int_T)) (all_cons slices_Index_int_int_snd (all_nil)) (all_nil) mixed Try.func42 rfl (by kernel_rfl) (ac_code [] Try.f42 rfl) (L := slices_Contains_int_int_L)
    (fun n l h x => by cases h) (fun k n l h => by cases h)
    (fun k => All.mem (slices_Contains_int_int_vc k) trivial) (fun x r h => ⟨0, (slices_Contains_int_int_eq 0 x.1 x.2).symm.trans h⟩) (by kernel_rfl) (by kernel_rfl) (Nat.le_of_ble_eq_true (by kernel_rfl))
/-! ### 50 cmp.isNaN[int] -/
noncomputable def cmp_isNaN_int  (x : Int) : Option Bool := some (decide (x ≠ x))
noncomputable abbrev cmp_isNaN_int_T : Tab S := ⟨[], [], false, false⟩
noncomputable def cmp_isNaN_int_L (k : Nat) : Nat → List (Lab S Bool)
  | _ => []
theorem cmp_isNaN_int_eq (k : Nat) (x : Int) : cmp_isNaN_int x = exec S (cmp_isNaN_int_T) byt (labs S (cmp_isNaN_int_T) (cmp_isNaN_int_L k)) (ac [] Try.f50) (frame0 S [.val (.data (.int .i64))] x) (retK S (cmp_isNaN_int_T) Try.f50 [.val (.data (.int .i64))] [.val (.data .bool)]) := by kernel_rfl
theorem cmp_isNaN_int_vc (k : Nat) : VC S (cmp_isNaN_int_T) byt (cmp_isNaN_int_L k) (cmp_isNaN_int_L (k + 1)) (ac [] Try.f50) (retK S (cmp_isNaN_int_T) Try.f50 [.val (.data (.int .i64))] [.val (.data .bool)]) = [] := by kernel_rfl
theorem cmp_isNaN_int_snd : Snd Try.prog S ⟨50, [.val (.data (.int .i64))], [.val (.data .bool)], fun x => cmp_isNaN_int x⟩ :=
  fn_ok progOk (T := (cmp_isNaN_int_T)) (all_nil) (all_nil) mixed Try.func50 rfl (by kernel_rfl) (ac_code [] Try.f50 rfl) (L := cmp_isNaN_int_L)
    (fun n l h x => by cases h) (fun k n l h => by cases h)
    (fun k => All.mem (cmp_isNaN_int_vc k) trivial) (fun x r h => ⟨0, (cmp_isNaN_int_eq 0 x).symm.trans h⟩) (by kernel_rfl) (by kernel_rfl) (Nat.le_of_ble_eq_true (by kernel_rfl))
/-! ### 46 cmp.Compare[int] -/
noncomputable def cmp_Compare_int  (x : Int) (y : Int) : Option Int := (cmp_isNaN_int x).bind fun r1 =>
    (cmp_isNaN_int y).bind fun r2 =>
    bif r1 then
    bif r2 then
    some 0 else
    some (-1) else
    bif r2 then
    some 1 else
    if x < y then
    some (-1) else
    if y < x then
    some 1 else
    some 0
noncomputable abbrev cmp_Compare_int_T : Tab S := ⟨[⟨50, [.val (.data (.int .i64))], [.val (.data .bool)], fun x => cmp_isNaN_int x⟩], [], false, false⟩
noncomputable def cmp_Compare_int_L (k : Nat) : Nat → List (Lab S Int)
  | _ => []
theorem cmp_Compare_int_eq (k : Nat) (x : Int) (y : Int) : cmp_Compare_int x y = exec S (cmp_Compare_int_T) byt (labs S (cmp_Compare_int_T) (cmp_Compare_int_L k)) (ac [] Try.f46) (frame0 S [.val (.data (.int .i64)), .val (.data (.int .i64))] (x, y)) (retK S (cmp_Compare_int_T) Try.f46 [.val (.data (.int .i64)), .val (.data (.int .i64))] [.val (.data (.int .i64))]) := by kernel_rfl
theorem cmp_Compare_int_vc (k : Nat) : VC S (cmp_Compare_int_T) byt (cmp_Compare_int_L k) (cmp_Compare_int_L (k + 1)) (ac [] Try.f46) (retK S (cmp_Compare_int_T) Try.f46 [.val (.data (.int .i64)), .val (.data (.int .i64))] [.val (.data (.int .i64))]) = [] := by kernel_rfl
theorem cmp_Compare_int_snd : Snd Try.prog S ⟨46, [.val (.data (.int .i64)), .val (.data (.int .i64))], [.val (.data (.int .i64))], fun x => cmp_Compare_int x.1 x.2⟩ :=
  fn_ok progOk (T := (cmp_Compare_int_T)) (all_cons cmp_isNaN_int_snd (all_nil)) (all_nil) mixed Try.func46 rfl (by kernel_rfl) (ac_code [] Try.f46 rfl) (L := cmp_Compare_int_L)
    (fun n l h x => by cases h) (fun k n l h => by cases h)
    (fun k => All.mem (cmp_Compare_int_vc k) trivial) (fun x r h => ⟨0, (cmp_Compare_int_eq 0 x.1 x.2).symm.trans h⟩) (by kernel_rfl) (by kernel_rfl) (Nat.le_of_ble_eq_true (by kernel_rfl))
/-! ### 45 cmp.Or[int] -/
noncomputable def cmp_Or_int_l0 : Nat → Int → (List Int) → Int → Int → Option Int
  | 0, _, _, _, _ => none
  | k + 1, zero, x6, x7, x8 => if x8 < x7 then
    if 0 ≤ x8 then
    if x8 < (x6.length : Int) then
    if (x6.getD x8.toNat 0) ≠ zero then
    some (x6.getD x8.toNat 0) else
    cmp_Or_int_l0 k zero x6 x7 (w64 (x8 + 1)) else none else none else
    some zero
noncomputable def cmp_Or_int_f (k : Nat) (vals : List Int) : Option Int := cmp_Or_int_l0 k 0 vals (vals.length : Int) 0
noncomputable def cmp_Or_int (vals : List Int) : Option Int := lim (fun k (x : List Int) => cmp_Or_int_f k x) vals
noncomputable abbrev cmp_Or_int_T : Tab S := ⟨[], [], false, false⟩
noncomputable def cmp_Or_int_L (k : Nat) : Nat → List (Lab S Int)
  | 0 => [⟨[3, 6, 7, 8], [.val (.data (.int .i64)), .val (.data (.sl (.int .i64))), .val (.data (.int .i64)), .val (.data (.int .i64))], fun x => cmp_Or_int_l0 k x.1 x.2.1 x.2.2.1 x.2.2.2⟩]
  | _ + 1 => []
theorem cmp_Or_int_eq (k : Nat) (vals : List Int) : cmp_Or_int_f k vals = exec S (cmp_Or_int_T) byt (labs S (cmp_Or_int_T) (cmp_Or_int_L k)) (ac [] Try.f45) (frame0 S [.val (.data (.sl (.int .i64)))] vals) (retK S (cmp_Or_int_T) Try.f45 [.val (.data (.sl (.int .i64)))] [.val (.data (.int .i64))]) := by kernel_rfl
theorem cmp_Or_int_vc (k : Nat) : VC S (cmp_Or_int_T) byt (cmp_Or_int_L k) (cmp_Or_int_L (k + 1)) (ac [] Try.f45) (retK S (cmp_Or_int_T) Try.f45 [.val (.data (.sl (.int .i64)))] [.val (.data (.int .i64))]) = [∀ x : Int × List Int × Int × Int, cmp_Or_int_l0 (k + 1) x.1 x.2.1 x.2.2.1 x.2.2.2 = cmp_Or_int_l0 (k + 1) x.1 x.2.1 x.2.2.1 x.2.2.2] := by kernel_rfl
theorem cmp_Or_int_sndk (k : Nat) : Snd Try.prog S ⟨45, [.val (.data (.sl (.int .i64)))], [.val (.data (.int .i64))], fun x => cmp_Or_int_f k x⟩ :=
  fn_ok progOk (T := (cmp_Or_int_T)) (all_nil) (all_nil) mixed Try.func45 rfl (by kernel_rfl) (ac_code [] Try.f45 rfl) (L := cmp_Or_int_L)
    (fun n l h x => by match n, h with
        | 0, h => 
          rcases List.mem_cons.1 h with rfl | h
          · rfl
          cases h
        | _ + 1, h => cases h) (fun k n l h => by match n, h with
        | 0, h => 
          rcases List.mem_cons.1 h with rfl | h
          · rfl
          cases h
        | _ + 1, h => cases h)
    (fun k => All.mem (cmp_Or_int_vc k) ⟨fun _ => rfl, trivial⟩) (fun x r h => ⟨k, (cmp_Or_int_eq k x).symm.trans h⟩) (by kernel_rfl) (by kernel_rfl) (Nat.le_of_ble_eq_true (by kernel_rfl))
theorem cmp_Or_int_snd : Snd Try.prog S ⟨45, [.val (.data (.sl (.int .i64)))], [.val (.data (.int .i64))], fun x => cmp_Or_int x⟩ := Snd.lim cmp_Or_int_sndk
/-! ### 43 cotillion/turn.elder -/
noncomputable def turn_elder  (a : turn_Head) (b : turn_Head) : Option Int := (cmp_Compare_int a.Since b.Since).bind fun r1 =>
    (cmp_Compare_int a.Queue b.Queue).bind fun r2 =>
    (cmp_Or_int [r1, r2]).bind fun r3 =>
    some r3
noncomputable abbrev turn_elder_T : Tab S := ⟨[⟨46, [.val (.data (.int .i64)), .val (.data (.int .i64))], [.val (.data (.int .i64))], fun x => cmp_Compare_int x.1 x.2⟩, ⟨45, [.val (.data (.sl (.int .i64)))], [.val (.data (.int .i64))], fun x => cmp_Or_int x⟩], [], false, false⟩
noncomputable def turn_elder_L (k : Nat) : Nat → List (Lab S Int)
  | _ => []
theorem turn_elder_eq (k : Nat) (a : turn_Head) (b : turn_Head) : turn_elder a b = exec S (turn_elder_T) byt (labs S (turn_elder_T) (turn_elder_L k)) (ac [] Try.f43) (frame0 S [.val (.data (.st 1)), .val (.data (.st 1))] (a, b)) (retK S (turn_elder_T) Try.f43 [.val (.data (.st 1)), .val (.data (.st 1))] [.val (.data (.int .i64))]) := by kernel_rfl
theorem turn_elder_vc (k : Nat) : VC S (turn_elder_T) byt (turn_elder_L k) (turn_elder_L (k + 1)) (ac [] Try.f43) (retK S (turn_elder_T) Try.f43 [.val (.data (.st 1)), .val (.data (.st 1))] [.val (.data (.int .i64))]) = [] := by kernel_rfl
theorem turn_elder_snd : Snd Try.prog S ⟨43, [.val (.data (.st 1)), .val (.data (.st 1))], [.val (.data (.int .i64))], fun x => turn_elder x.1 x.2⟩ :=
  fn_ok progOk (T := (turn_elder_T)) (all_cons cmp_Compare_int_snd (all_cons cmp_Or_int_snd (all_nil))) (all_nil) mixed Try.func43 rfl (by kernel_rfl) (ac_code [] Try.f43 rfl) (L := turn_elder_L)
    (fun n l h x => by cases h) (fun k n l h => by cases h)
    (fun k => All.mem (turn_elder_vc k) trivial) (fun x r h => ⟨0, (turn_elder_eq 0 x.1 x.2).symm.trans h⟩) (by kernel_rfl) (by kernel_rfl) (Nat.le_of_ble_eq_true (by kernel_rfl))
/-! ### 27 cotillion/turn.Front -/
noncomputable def turn_Front_l0 : Nat → (List Int) → (List turn_Head) → Int → (List turn_Head) → Int → Int → Option Int
  | 0, _, _, _, _, _, _ => none
  | k + 1, group, heads, front, x8, x9, x10 => if x10 < x9 then
    if 0 ≤ x10 then
    if x10 < (x8.length : Int) then
    (slices_Contains_int_int group ((x8.getD x10.toNat turn_Head.z).Queue)).bind fun r1 =>
    bif r1 then
    if front < 0 then
    turn_Front_l0 k group heads x10 x8 x9 (w64 (x10 + 1)) else
    if 0 ≤ front then
    if front < (heads.length : Int) then
    (turn_elder (x8.getD x10.toNat turn_Head.z) (heads.getD front.toNat turn_Head.z)).bind fun r2 =>
    if r2 < 0 then
    turn_Front_l0 k group heads x10 x8 x9 (w64 (x10 + 1)) else
    turn_Front_l0 k group heads front x8 x9 (w64 (x10 + 1)) else none else none else
    turn_Front_l0 k group heads front x8 x9 (w64 (x10 + 1)) else none else none else
    some front
noncomputable def turn_Front_f (k : Nat) (group : List Int) (heads : List turn_Head) : Option Int := turn_Front_l0 k group heads (-1) heads (heads.length : Int) 0
noncomputable def turn_Front (group : List Int) (heads : List turn_Head) : Option Int := lim (fun k (x : List Int × List turn_Head) => turn_Front_f k x.1 x.2) (group, heads)
noncomputable abbrev turn_Front_T : Tab S := ⟨[⟨42, [.val (.data (.sl (.int .i64))), .val (.data (.int .i64))], [.val (.data .bool)], fun x => slices_Contains_int_int x.1 x.2⟩, ⟨43, [.val (.data (.st 1)), .val (.data (.st 1))], [.val (.data (.int .i64))], fun x => turn_elder x.1 x.2⟩], [], false, false⟩
noncomputable def turn_Front_L (k : Nat) : Nat → List (Lab S Int)
  | 0 => [⟨[0, 1, 5, 8, 9, 10], [.val (.data (.sl (.int .i64))), .val (.data (.sl (.st 1))), .val (.data (.int .i64)), .val (.data (.sl (.st 1))), .val (.data (.int .i64)), .val (.data (.int .i64))], fun x => turn_Front_l0 k x.1 x.2.1 x.2.2.1 x.2.2.2.1 x.2.2.2.2.1 x.2.2.2.2.2⟩]
  | _ + 1 => []
theorem turn_Front_eq (k : Nat) (group : List Int) (heads : List turn_Head) : turn_Front_f k group heads = exec S (turn_Front_T) byt (labs S (turn_Front_T) (turn_Front_L k)) (ac [] Try.f27) (frame0 S [.val (.data (.sl (.int .i64))), .val (.data (.sl (.st 1)))] (group, heads)) (retK S (turn_Front_T) Try.f27 [.val (.data (.sl (.int .i64))), .val (.data (.sl (.st 1)))] [.val (.data (.int .i64))]) := by kernel_rfl
theorem turn_Front_vc (k : Nat) : VC S (turn_Front_T) byt (turn_Front_L k) (turn_Front_L (k + 1)) (ac [] Try.f27) (retK S (turn_Front_T) Try.f27 [.val (.data (.sl (.int .i64))), .val (.data (.sl (.st 1)))] [.val (.data (.int .i64))]) = [∀ x : List Int × List turn_Head × Int × List turn_Head × Int × Int, turn_Front_l0 (k + 1) x.1 x.2.1 x.2.2.1 x.2.2.2.1 x.2.2.2.2.1 x.2.2.2.2.2 = turn_Front_l0 (k + 1) x.1 x.2.1 x.2.2.1 x.2.2.2.1 x.2.2.2.2.1 x.2.2.2.2.2] := by kernel_rfl
theorem turn_Front_sndk (k : Nat) : Snd Try.prog S ⟨27, [.val (.data (.sl (.int .i64))), .val (.data (.sl (.st 1)))], [.val (.data (.int .i64))], fun x => turn_Front_f k x.1 x.2⟩ :=
  fn_ok progOk (T := (turn_Front_T)) (all_cons slices_Contains_int_int_snd (all_cons turn_elder_snd (all_nil))) (all_nil) mixed Try.func27 rfl (by kernel_rfl) (ac_code [] Try.f27 rfl) (L := turn_Front_L)
    (fun n l h x => by match n, h with
        | 0, h => 
          rcases List.mem_cons.1 h with rfl | h
          · rfl
          cases h
        | _ + 1, h => cases h) (fun k n l h => by match n, h with
        | 0, h => 
          rcases List.mem_cons.1 h with rfl | h
          · rfl
          cases h
        | _ + 1, h => cases h)
    (fun k => All.mem (turn_Front_vc k) ⟨fun _ => rfl, trivial⟩) (fun x r h => ⟨k, (turn_Front_eq k x.1 x.2).symm.trans h⟩) (by kernel_rfl) (by kernel_rfl) (Nat.le_of_ble_eq_true (by kernel_rfl))
theorem turn_Front_snd : Snd Try.prog S ⟨27, [.val (.data (.sl (.int .i64))), .val (.data (.sl (.st 1)))], [.val (.data (.int .i64))], fun x => turn_Front x.1 x.2⟩ := Snd.lim turn_Front_sndk
/-! ### 44 cotillion/cotillionref3.Has -/
noncomputable def ref3_Has_l0 : Nat → (List Int) → Int → Int → Option Bool
  | 0, _, _, _ => none
  | k + 1, l, i, k_ => if k_ < (l.length : Int) then
    if 0 ≤ k_ then
    if k_ < (l.length : Int) then
    if (l.getD k_.toNat 0) = i then
    some true else
    ref3_Has_l0 k l i (w64 (k_ + 1)) else none else none else
    some false
noncomputable def ref3_Has_f (k : Nat) (l : List Int) (i : Int) : Option Bool := ref3_Has_l0 k l i 0
noncomputable def ref3_Has (l : List Int) (i : Int) : Option Bool := lim (fun k (x : List Int × Int) => ref3_Has_f k x.1 x.2) (l, i)
noncomputable abbrev ref3_Has_T : Tab S := ⟨[], [], false, false⟩
noncomputable def ref3_Has_L (k : Nat) : Nat → List (Lab S Bool)
  | 0 => [⟨[0, 1, 5], [.val (.data (.sl (.int .i64))), .val (.data (.int .i64)), .val (.data (.int .i64))], fun x => ref3_Has_l0 k x.1 x.2.1 x.2.2⟩]
  | _ + 1 => []
theorem ref3_Has_eq (k : Nat) (l : List Int) (i : Int) : ref3_Has_f k l i = exec S (ref3_Has_T) byt (labs S (ref3_Has_T) (ref3_Has_L k)) (ac [] Try.f44) (frame0 S [.val (.data (.sl (.int .i64))), .val (.data (.int .i64))] (l, i)) (retK S (ref3_Has_T) Try.f44 [.val (.data (.sl (.int .i64))), .val (.data (.int .i64))] [.val (.data .bool)]) := by kernel_rfl
theorem ref3_Has_vc (k : Nat) : VC S (ref3_Has_T) byt (ref3_Has_L k) (ref3_Has_L (k + 1)) (ac [] Try.f44) (retK S (ref3_Has_T) Try.f44 [.val (.data (.sl (.int .i64))), .val (.data (.int .i64))] [.val (.data .bool)]) = [∀ x : List Int × Int × Int, ref3_Has_l0 (k + 1) x.1 x.2.1 x.2.2 = ref3_Has_l0 (k + 1) x.1 x.2.1 x.2.2] := by kernel_rfl
theorem ref3_Has_sndk (k : Nat) : Snd Try.prog S ⟨44, [.val (.data (.sl (.int .i64))), .val (.data (.int .i64))], [.val (.data .bool)], fun x => ref3_Has_f k x.1 x.2⟩ :=
  fn_ok progOk (T := (ref3_Has_T)) (all_nil) (all_nil) mixed Try.func44 rfl (by kernel_rfl) (ac_code [] Try.f44 rfl) (L := ref3_Has_L)
    (fun n l h x => by match n, h with
        | 0, h => 
          rcases List.mem_cons.1 h with rfl | h
          · rfl
          cases h
        | _ + 1, h => cases h) (fun k n l h => by match n, h with
        | 0, h => 
          rcases List.mem_cons.1 h with rfl | h
          · rfl
          cases h
        | _ + 1, h => cases h)
    (fun k => All.mem (ref3_Has_vc k) ⟨fun _ => rfl, trivial⟩) (fun x r h => ⟨k, (ref3_Has_eq k x.1 x.2).symm.trans h⟩) (by kernel_rfl) (by kernel_rfl) (Nat.le_of_ble_eq_true (by kernel_rfl))
theorem ref3_Has_snd : Snd Try.prog S ⟨44, [.val (.data (.sl (.int .i64))), .val (.data (.int .i64))], [.val (.data .bool)], fun x => ref3_Has x.1 x.2⟩ := Snd.lim ref3_Has_sndk
/-! ### 28 cotillion/cotillionref25.Front -/
noncomputable def ref25_Front_l0 : Nat → (List Int) → (List ref25_Head) → Int → Int → Option Int
  | 0, _, _, _, _ => none
  | k + 1, group, heads, out, i => if i < (heads.length : Int) then
    if 0 ≤ i then
    if i < (heads.length : Int) then
    (ref3_Has group ((heads.getD i.toNat ref25_Head.z).Queue)).bind fun r1 =>
    bif r1 then
    if out < 0 then
    ref25_Front_l0 k group heads i (w64 (i + 1)) else
    if 0 ≤ out then
    if out < (heads.length : Int) then
    if ((heads.getD i.toNat ref25_Head.z).Since) < ((heads.getD out.toNat ref25_Head.z).Since) then
    ref25_Front_l0 k group heads i (w64 (i + 1)) else
    if 0 ≤ out then
    if out < (heads.length : Int) then
    if ((heads.getD i.toNat ref25_Head.z).Since) = ((heads.getD out.toNat ref25_Head.z).Since) then
    if 0 ≤ out then
    if out < (heads.length : Int) then
    if ((heads.getD i.toNat ref25_Head.z).Queue) < ((heads.getD out.toNat ref25_Head.z).Queue) then
    ref25_Front_l0 k group heads i (w64 (i + 1)) else
    ref25_Front_l0 k group heads out (w64 (i + 1)) else none else none else
    ref25_Front_l0 k group heads out (w64 (i + 1)) else none else none else none else none else
    ref25_Front_l0 k group heads out (w64 (i + 1)) else none else none else
    some out
noncomputable def ref25_Front_f (k : Nat) (group : List Int) (heads : List ref25_Head) : Option Int := ref25_Front_l0 k group heads (-1) 0
noncomputable def ref25_Front (group : List Int) (heads : List ref25_Head) : Option Int := lim (fun k (x : List Int × List ref25_Head) => ref25_Front_f k x.1 x.2) (group, heads)
noncomputable abbrev ref25_Front_T : Tab S := ⟨[⟨44, [.val (.data (.sl (.int .i64))), .val (.data (.int .i64))], [.val (.data .bool)], fun x => ref3_Has x.1 x.2⟩], [], false, false⟩
noncomputable def ref25_Front_L (k : Nat) : Nat → List (Lab S Int)
  | 0 => [⟨[0, 1, 5, 6], [.val (.data (.sl (.int .i64))), .val (.data (.sl (.st 2))), .val (.data (.int .i64)), .val (.data (.int .i64))], fun x => ref25_Front_l0 k x.1 x.2.1 x.2.2.1 x.2.2.2⟩]
  | _ + 1 => []
theorem ref25_Front_eq (k : Nat) (group : List Int) (heads : List ref25_Head) : ref25_Front_f k group heads = exec S (ref25_Front_T) byt (labs S (ref25_Front_T) (ref25_Front_L k)) (ac [] Try.f28) (frame0 S [.val (.data (.sl (.int .i64))), .val (.data (.sl (.st 2)))] (group, heads)) (retK S (ref25_Front_T) Try.f28 [.val (.data (.sl (.int .i64))), .val (.data (.sl (.st 2)))] [.val (.data (.int .i64))]) := by kernel_rfl
theorem ref25_Front_vc (k : Nat) : VC S (ref25_Front_T) byt (ref25_Front_L k) (ref25_Front_L (k + 1)) (ac [] Try.f28) (retK S (ref25_Front_T) Try.f28 [.val (.data (.sl (.int .i64))), .val (.data (.sl (.st 2)))] [.val (.data (.int .i64))]) = [∀ x : List Int × List ref25_Head × Int × Int, ref25_Front_l0 (k + 1) x.1 x.2.1 x.2.2.1 x.2.2.2 = ref25_Front_l0 (k + 1) x.1 x.2.1 x.2.2.1 x.2.2.2] := by kernel_rfl
theorem ref25_Front_sndk (k : Nat) : Snd Try.prog S ⟨28, [.val (.data (.sl (.int .i64))), .val (.data (.sl (.st 2)))], [.val (.data (.int .i64))], fun x => ref25_Front_f k x.1 x.2⟩ :=
  fn_ok progOk (T := (ref25_Front_T)) (all_cons ref3_Has_snd (all_nil)) (all_nil) mixed Try.func28 rfl (by kernel_rfl) (ac_code [] Try.f28 rfl) (L := ref25_Front_L)
    (fun n l h x => by match n, h with
        | 0, h => 
          rcases List.mem_cons.1 h with rfl | h
          · rfl
          cases h
        | _ + 1, h => cases h) (fun k n l h => by match n, h with
        | 0, h => 
          rcases List.mem_cons.1 h with rfl | h
          · rfl
          cases h
        | _ + 1, h => cases h)
    (fun k => All.mem (ref25_Front_vc k) ⟨fun _ => rfl, trivial⟩) (fun x r h => ⟨k, (ref25_Front_eq k x.1 x.2).symm.trans h⟩) (by kernel_rfl) (by kernel_rfl) (Nat.le_of_ble_eq_true (by kernel_rfl))
theorem ref25_Front_snd : Snd Try.prog S ⟨28, [.val (.data (.sl (.int .i64))), .val (.data (.sl (.st 2)))], [.val (.data (.int .i64))], fun x => ref25_Front x.1 x.2⟩ := Snd.lim ref25_Front_sndk
/-! ### 29 cotillion/turn.Rank -/
noncomputable def turn_Rank  (h : turn_Head) (now : Int) (age : Int) : Option Int := if age < 1 then
    some h.Prio else
    if ¬ age = 0 then
    some (w64 (h.Prio + (w64 ((w64 (now - h.Since)).tdiv age)))) else none
noncomputable abbrev turn_Rank_T : Tab S := ⟨[], [], false, false⟩
noncomputable def turn_Rank_L (k : Nat) : Nat → List (Lab S Int)
  | _ => []
theorem turn_Rank_eq (k : Nat) (h : turn_Head) (now : Int) (age : Int) : turn_Rank h now age = exec S (turn_Rank_T) byt (labs S (turn_Rank_T) (turn_Rank_L k)) (ac [] Try.f29) (frame0 S [.val (.data (.st 1)), .val (.data (.int .i64)), .val (.data (.int .i64))] (h, now, age)) (retK S (turn_Rank_T) Try.f29 [.val (.data (.st 1)), .val (.data (.int .i64)), .val (.data (.int .i64))] [.val (.data (.int .i64))]) := by kernel_rfl
theorem turn_Rank_vc (k : Nat) : VC S (turn_Rank_T) byt (turn_Rank_L k) (turn_Rank_L (k + 1)) (ac [] Try.f29) (retK S (turn_Rank_T) Try.f29 [.val (.data (.st 1)), .val (.data (.int .i64)), .val (.data (.int .i64))] [.val (.data (.int .i64))]) = [] := by kernel_rfl
theorem turn_Rank_snd : Snd Try.prog S ⟨29, [.val (.data (.st 1)), .val (.data (.int .i64)), .val (.data (.int .i64))], [.val (.data (.int .i64))], fun x => turn_Rank x.1 x.2.1 x.2.2⟩ :=
  fn_ok progOk (T := (turn_Rank_T)) (all_nil) (all_nil) mixed Try.func29 rfl (by kernel_rfl) (ac_code [] Try.f29 rfl) (L := turn_Rank_L)
    (fun n l h x => by cases h) (fun k n l h => by cases h)
    (fun k => All.mem (turn_Rank_vc k) trivial) (fun x r h => ⟨0, (turn_Rank_eq 0 x.1 x.2.1 x.2.2).symm.trans h⟩) (by kernel_rfl) (by kernel_rfl) (Nat.le_of_ble_eq_true (by kernel_rfl))
/-! ### 30 cotillion/cotillionref25.Rank -/
noncomputable def ref25_Rank  (h : ref25_Head) (now : Int) (age : Int) : Option Int := if ¬ age = 0 then some (w64 (h.Prio + (w64 ((w64 (now - h.Since)).tdiv age)))) else none
noncomputable abbrev ref25_Rank_T : Tab S := ⟨[], [], false, false⟩
noncomputable def ref25_Rank_L (k : Nat) : Nat → List (Lab S Int)
  | _ => []
theorem ref25_Rank_eq (k : Nat) (h : ref25_Head) (now : Int) (age : Int) : ref25_Rank h now age = exec S (ref25_Rank_T) byt (labs S (ref25_Rank_T) (ref25_Rank_L k)) (ac [] Try.f30) (frame0 S [.val (.data (.st 2)), .val (.data (.int .i64)), .val (.data (.int .i64))] (h, now, age)) (retK S (ref25_Rank_T) Try.f30 [.val (.data (.st 2)), .val (.data (.int .i64)), .val (.data (.int .i64))] [.val (.data (.int .i64))]) := by kernel_rfl
theorem ref25_Rank_vc (k : Nat) : VC S (ref25_Rank_T) byt (ref25_Rank_L k) (ref25_Rank_L (k + 1)) (ac [] Try.f30) (retK S (ref25_Rank_T) Try.f30 [.val (.data (.st 2)), .val (.data (.int .i64)), .val (.data (.int .i64))] [.val (.data (.int .i64))]) = [] := by kernel_rfl
theorem ref25_Rank_snd : Snd Try.prog S ⟨30, [.val (.data (.st 2)), .val (.data (.int .i64)), .val (.data (.int .i64))], [.val (.data (.int .i64))], fun x => ref25_Rank x.1 x.2.1 x.2.2⟩ :=
  fn_ok progOk (T := (ref25_Rank_T)) (all_nil) (all_nil) mixed Try.func30 rfl (by kernel_rfl) (ac_code [] Try.f30 rfl) (L := ref25_Rank_L)
    (fun n l h x => by cases h) (fun k n l h => by cases h)
    (fun k => All.mem (ref25_Rank_vc k) trivial) (fun x r h => ⟨0, (ref25_Rank_eq 0 x.1 x.2.1 x.2.2).symm.trans h⟩) (by kernel_rfl) (by kernel_rfl) (Nat.le_of_ble_eq_true (by kernel_rfl))
/-! ### 31 cotillion/turn.Choose -/
noncomputable def turn_Choose_l0 : Nat → (List turn_Head) → Int → Int → Int → (List (List Int)) → Int → Int → Option Int
  | 0, _, _, _, _, _, _, _ => none
  | k + 1, heads, now, age, best, x13, x14, x15 => if x15 < x14 then
    if 0 ≤ x15 then
    if x15 < (x13.length : Int) then
    (turn_Front (x13.getD x15.toNat []) heads).bind fun r1 =>
    if r1 < 0 then
    turn_Choose_l0 k heads now age best x13 x14 (w64 (x15 + 1)) else
    if 0 ≤ r1 then
    if r1 < (heads.length : Int) then
    bif !((heads.getD r1.toNat turn_Head.z).May) then
    turn_Choose_l0 k heads now age best x13 x14 (w64 (x15 + 1)) else
    if best < 0 then
    turn_Choose_l0 k heads now age r1 x13 x14 (w64 (x15 + 1)) else
    if 0 ≤ best then
    if best < (heads.length : Int) then
    (turn_Rank (heads.getD best.toNat turn_Head.z) now age).bind fun r2 =>
    if 0 ≤ r1 then
    if r1 < (heads.length : Int) then
    (turn_Rank (heads.getD r1.toNat turn_Head.z) now age).bind fun r3 =>
    (cmp_Compare_int r2 r3).bind fun r4 =>
    if 0 ≤ r1 then
    if r1 < (heads.length : Int) then
    if 0 ≤ best then
    if best < (heads.length : Int) then
    (turn_elder (heads.getD r1.toNat turn_Head.z) (heads.getD best.toNat turn_Head.z)).bind fun r5 =>
    (cmp_Or_int [r4, r5]).bind fun r6 =>
    if r6 < 0 then
    turn_Choose_l0 k heads now age r1 x13 x14 (w64 (x15 + 1)) else
    turn_Choose_l0 k heads now age best x13 x14 (w64 (x15 + 1)) else none else none else none else none else none else none else none else none else none else none else none else none else
    if best < 0 then
    some (-1) else
    if 0 ≤ best then
    if best < (heads.length : Int) then
    some ((heads.getD best.toNat turn_Head.z).Queue) else none else none
noncomputable def turn_Choose_f (k : Nat) (groups : List (List Int)) (heads : List turn_Head) (now : Int) (age : Int) : Option Int := turn_Choose_l0 k heads now age (-1) groups (groups.length : Int) 0
noncomputable def turn_Choose (groups : List (List Int)) (heads : List turn_Head) (now : Int) (age : Int) : Option Int := lim (fun k (x : List (List Int) × List turn_Head × Int × Int) => turn_Choose_f k x.1 x.2.1 x.2.2.1 x.2.2.2) (groups, heads, now, age)
noncomputable abbrev turn_Choose_T : Tab S := ⟨[⟨27, [.val (.data (.sl (.int .i64))), .val (.data (.sl (.st 1)))], [.val (.data (.int .i64))], fun x => turn_Front x.1 x.2⟩, ⟨29, [.val (.data (.st 1)), .val (.data (.int .i64)), .val (.data (.int .i64))], [.val (.data (.int .i64))], fun x => turn_Rank x.1 x.2.1 x.2.2⟩, ⟨46, [.val (.data (.int .i64)), .val (.data (.int .i64))], [.val (.data (.int .i64))], fun x => cmp_Compare_int x.1 x.2⟩, ⟨43, [.val (.data (.st 1)), .val (.data (.st 1))], [.val (.data (.int .i64))], fun x => turn_elder x.1 x.2⟩, ⟨45, [.val (.data (.sl (.int .i64)))], [.val (.data (.int .i64))], fun x => cmp_Or_int x⟩], [], false, false⟩
noncomputable def turn_Choose_L (k : Nat) : Nat → List (Lab S Int)
  | 0 => [⟨[1, 2, 3, 9, 13, 14, 15], [.val (.data (.sl (.st 1))), .val (.data (.int .i64)), .val (.data (.int .i64)), .val (.data (.int .i64)), .val (.data (.sl (.sl (.int .i64)))), .val (.data (.int .i64)), .val (.data (.int .i64))], fun x => turn_Choose_l0 k x.1 x.2.1 x.2.2.1 x.2.2.2.1 x.2.2.2.2.1 x.2.2.2.2.2.1 x.2.2.2.2.2.2⟩]
  | _ + 1 => []
theorem turn_Choose_eq (k : Nat) (groups : List (List Int)) (heads : List turn_Head) (now : Int) (age : Int) : turn_Choose_f k groups heads now age = exec S (turn_Choose_T) byt (labs S (turn_Choose_T) (turn_Choose_L k)) (ac [] Try.f31) (frame0 S [.val (.data (.sl (.sl (.int .i64)))), .val (.data (.sl (.st 1))), .val (.data (.int .i64)), .val (.data (.int .i64))] (groups, heads, now, age)) (retK S (turn_Choose_T) Try.f31 [.val (.data (.sl (.sl (.int .i64)))), .val (.data (.sl (.st 1))), .val (.data (.int .i64)), .val (.data (.int .i64))] [.val (.data (.int .i64))]) := by kernel_rfl
theorem turn_Choose_vc (k : Nat) : VC S (turn_Choose_T) byt (turn_Choose_L k) (turn_Choose_L (k + 1)) (ac [] Try.f31) (retK S (turn_Choose_T) Try.f31 [.val (.data (.sl (.sl (.int .i64)))), .val (.data (.sl (.st 1))), .val (.data (.int .i64)), .val (.data (.int .i64))] [.val (.data (.int .i64))]) = [∀ x : List turn_Head × Int × Int × Int × List (List Int) × Int × Int, turn_Choose_l0 (k + 1) x.1 x.2.1 x.2.2.1 x.2.2.2.1 x.2.2.2.2.1 x.2.2.2.2.2.1 x.2.2.2.2.2.2 = turn_Choose_l0 (k + 1) x.1 x.2.1 x.2.2.1 x.2.2.2.1 x.2.2.2.2.1 x.2.2.2.2.2.1 x.2.2.2.2.2.2] := by kernel_rfl
theorem turn_Choose_sndk (k : Nat) : Snd Try.prog S ⟨31, [.val (.data (.sl (.sl (.int .i64)))), .val (.data (.sl (.st 1))), .val (.data (.int .i64)), .val (.data (.int .i64))], [.val (.data (.int .i64))], fun x => turn_Choose_f k x.1 x.2.1 x.2.2.1 x.2.2.2⟩ :=
  fn_ok progOk (T := (turn_Choose_T)) (all_cons turn_Front_snd (all_cons turn_Rank_snd (all_cons cmp_Compare_int_snd (all_cons turn_elder_snd (all_cons cmp_Or_int_snd (all_nil)))))) (all_nil) mixed Try.func31 rfl (by kernel_rfl) (ac_code [] Try.f31 rfl) (L := turn_Choose_L)
    (fun n l h x => by match n, h with
        | 0, h => 
          rcases List.mem_cons.1 h with rfl | h
          · rfl
          cases h
        | _ + 1, h => cases h) (fun k n l h => by match n, h with
        | 0, h => 
          rcases List.mem_cons.1 h with rfl | h
          · rfl
          cases h
        | _ + 1, h => cases h)
    (fun k => All.mem (turn_Choose_vc k) ⟨fun _ => rfl, trivial⟩) (fun x r h => ⟨k, (turn_Choose_eq k x.1 x.2.1 x.2.2.1 x.2.2.2).symm.trans h⟩) (by kernel_rfl) (by kernel_rfl) (Nat.le_of_ble_eq_true (by kernel_rfl))
theorem turn_Choose_snd : Snd Try.prog S ⟨31, [.val (.data (.sl (.sl (.int .i64)))), .val (.data (.sl (.st 1))), .val (.data (.int .i64)), .val (.data (.int .i64))], [.val (.data (.int .i64))], fun x => turn_Choose x.1 x.2.1 x.2.2.1 x.2.2.2⟩ := Snd.lim turn_Choose_sndk
/-! ### 47 cotillion/cotillionref25.ahead -/
noncomputable def ref25_ahead  (a : ref25_Head) (b : ref25_Head) (now : Int) (age : Int) : Option Bool := (ref25_Rank a now age).bind fun r1 =>
    (ref25_Rank b now age).bind fun r2 =>
    if r2 < r1 then
    some true else
    if r1 = r2 then
    if a.Since < b.Since then
    some true else
    if a.Since = b.Since then
    some (decide (a.Queue < b.Queue)) else
    some false else
    some false
noncomputable abbrev ref25_ahead_T : Tab S := ⟨[⟨30, [.val (.data (.st 2)), .val (.data (.int .i64)), .val (.data (.int .i64))], [.val (.data (.int .i64))], fun x => ref25_Rank x.1 x.2.1 x.2.2⟩], [], false, false⟩
noncomputable def ref25_ahead_L (k : Nat) : Nat → List (Lab S Bool)
  | _ => []
theorem ref25_ahead_eq (k : Nat) (a : ref25_Head) (b : ref25_Head) (now : Int) (age : Int) : ref25_ahead a b now age = exec S (ref25_ahead_T) byt (labs S (ref25_ahead_T) (ref25_ahead_L k)) (ac [] Try.f47) (frame0 S [.val (.data (.st 2)), .val (.data (.st 2)), .val (.data (.int .i64)), .val (.data (.int .i64))] (a, b, now, age)) (retK S (ref25_ahead_T) Try.f47 [.val (.data (.st 2)), .val (.data (.st 2)), .val (.data (.int .i64)), .val (.data (.int .i64))] [.val (.data .bool)]) := by kernel_rfl
theorem ref25_ahead_vc (k : Nat) : VC S (ref25_ahead_T) byt (ref25_ahead_L k) (ref25_ahead_L (k + 1)) (ac [] Try.f47) (retK S (ref25_ahead_T) Try.f47 [.val (.data (.st 2)), .val (.data (.st 2)), .val (.data (.int .i64)), .val (.data (.int .i64))] [.val (.data .bool)]) = [] := by kernel_rfl
theorem ref25_ahead_snd : Snd Try.prog S ⟨47, [.val (.data (.st 2)), .val (.data (.st 2)), .val (.data (.int .i64)), .val (.data (.int .i64))], [.val (.data .bool)], fun x => ref25_ahead x.1 x.2.1 x.2.2.1 x.2.2.2⟩ :=
  fn_ok progOk (T := (ref25_ahead_T)) (all_cons ref25_Rank_snd (all_nil)) (all_nil) mixed Try.func47 rfl (by kernel_rfl) (ac_code [] Try.f47 rfl) (L := ref25_ahead_L)
    (fun n l h x => by cases h) (fun k n l h => by cases h)
    (fun k => All.mem (ref25_ahead_vc k) trivial) (fun x r h => ⟨0, (ref25_ahead_eq 0 x.1 x.2.1 x.2.2.1 x.2.2.2).symm.trans h⟩) (by kernel_rfl) (by kernel_rfl) (Nat.le_of_ble_eq_true (by kernel_rfl))
/-! ### 32 cotillion/cotillionref25.Choose -/
noncomputable def ref25_Choose_l0 : Nat → (List (List Int)) → (List ref25_Head) → Int → Int → Int → Int → Option Int
  | 0, _, _, _, _, _, _ => none
  | k + 1, groups, heads, now, age, out, g => if g < (groups.length : Int) then
    if 0 ≤ g then
    if g < (groups.length : Int) then
    (ref25_Front (groups.getD g.toNat []) heads).bind fun r1 =>
    if 0 ≤ r1 then
    if 0 ≤ r1 then
    if r1 < (heads.length : Int) then
    bif (heads.getD r1.toNat ref25_Head.z).May then
    if out < 0 then
    ref25_Choose_l0 k groups heads now age r1 (w64 (g + 1)) else
    if 0 ≤ r1 then
    if r1 < (heads.length : Int) then
    if 0 ≤ out then
    if out < (heads.length : Int) then
    (ref25_ahead (heads.getD r1.toNat ref25_Head.z) (heads.getD out.toNat ref25_Head.z) now age).bind fun r2 =>
    bif r2 then
    ref25_Choose_l0 k groups heads now age r1 (w64 (g + 1)) else
    ref25_Choose_l0 k groups heads now age out (w64 (g + 1)) else none else none else none else none else
    ref25_Choose_l0 k groups heads now age out (w64 (g + 1)) else none else none else
    ref25_Choose_l0 k groups heads now age out (w64 (g + 1)) else none else none else
    if out < 0 then
    some (-1) else
    if 0 ≤ out then
    if out < (heads.length : Int) then
    some ((heads.getD out.toNat ref25_Head.z).Queue) else none else none
noncomputable def ref25_Choose_f (k : Nat) (groups : List (List Int)) (heads : List ref25_Head) (now : Int) (age : Int) : Option Int := ref25_Choose_l0 k groups heads now age (-1) 0
noncomputable def ref25_Choose (groups : List (List Int)) (heads : List ref25_Head) (now : Int) (age : Int) : Option Int := lim (fun k (x : List (List Int) × List ref25_Head × Int × Int) => ref25_Choose_f k x.1 x.2.1 x.2.2.1 x.2.2.2) (groups, heads, now, age)
noncomputable abbrev ref25_Choose_T : Tab S := ⟨[⟨28, [.val (.data (.sl (.int .i64))), .val (.data (.sl (.st 2)))], [.val (.data (.int .i64))], fun x => ref25_Front x.1 x.2⟩, ⟨47, [.val (.data (.st 2)), .val (.data (.st 2)), .val (.data (.int .i64)), .val (.data (.int .i64))], [.val (.data .bool)], fun x => ref25_ahead x.1 x.2.1 x.2.2.1 x.2.2.2⟩], [], false, false⟩
noncomputable def ref25_Choose_L (k : Nat) : Nat → List (Lab S Int)
  | 0 => [⟨[0, 1, 2, 3, 9, 10], [.val (.data (.sl (.sl (.int .i64)))), .val (.data (.sl (.st 2))), .val (.data (.int .i64)), .val (.data (.int .i64)), .val (.data (.int .i64)), .val (.data (.int .i64))], fun x => ref25_Choose_l0 k x.1 x.2.1 x.2.2.1 x.2.2.2.1 x.2.2.2.2.1 x.2.2.2.2.2⟩]
  | _ + 1 => []
theorem ref25_Choose_eq (k : Nat) (groups : List (List Int)) (heads : List ref25_Head) (now : Int) (age : Int) : ref25_Choose_f k groups heads now age = exec S (ref25_Choose_T) byt (labs S (ref25_Choose_T) (ref25_Choose_L k)) (ac [] Try.f32) (frame0 S [.val (.data (.sl (.sl (.int .i64)))), .val (.data (.sl (.st 2))), .val (.data (.int .i64)), .val (.data (.int .i64))] (groups, heads, now, age)) (retK S (ref25_Choose_T) Try.f32 [.val (.data (.sl (.sl (.int .i64)))), .val (.data (.sl (.st 2))), .val (.data (.int .i64)), .val (.data (.int .i64))] [.val (.data (.int .i64))]) := by kernel_rfl
theorem ref25_Choose_vc (k : Nat) : VC S (ref25_Choose_T) byt (ref25_Choose_L k) (ref25_Choose_L (k + 1)) (ac [] Try.f32) (retK S (ref25_Choose_T) Try.f32 [.val (.data (.sl (.sl (.int .i64)))), .val (.data (.sl (.st 2))), .val (.data (.int .i64)), .val (.data (.int .i64))] [.val (.data (.int .i64))]) = [∀ x : List (List Int) × List ref25_Head × Int × Int × Int × Int, ref25_Choose_l0 (k + 1) x.1 x.2.1 x.2.2.1 x.2.2.2.1 x.2.2.2.2.1 x.2.2.2.2.2 = ref25_Choose_l0 (k + 1) x.1 x.2.1 x.2.2.1 x.2.2.2.1 x.2.2.2.2.1 x.2.2.2.2.2] := by kernel_rfl
theorem ref25_Choose_sndk (k : Nat) : Snd Try.prog S ⟨32, [.val (.data (.sl (.sl (.int .i64)))), .val (.data (.sl (.st 2))), .val (.data (.int .i64)), .val (.data (.int .i64))], [.val (.data (.int .i64))], fun x => ref25_Choose_f k x.1 x.2.1 x.2.2.1 x.2.2.2⟩ :=
  fn_ok progOk (T := (ref25_Choose_T)) (all_cons ref25_Front_snd (all_cons ref25_ahead_snd (all_nil))) (all_nil) mixed Try.func32 rfl (by kernel_rfl) (ac_code [] Try.f32 rfl) (L := ref25_Choose_L)
    (fun n l h x => by match n, h with
        | 0, h => 
          rcases List.mem_cons.1 h with rfl | h
          · rfl
          cases h
        | _ + 1, h => cases h) (fun k n l h => by match n, h with
        | 0, h => 
          rcases List.mem_cons.1 h with rfl | h
          · rfl
          cases h
        | _ + 1, h => cases h)
    (fun k => All.mem (ref25_Choose_vc k) ⟨fun _ => rfl, trivial⟩) (fun x r h => ⟨k, (ref25_Choose_eq k x.1 x.2.1 x.2.2.1 x.2.2.2).symm.trans h⟩) (by kernel_rfl) (by kernel_rfl) (Nat.le_of_ble_eq_true (by kernel_rfl))
theorem ref25_Choose_snd : Snd Try.prog S ⟨32, [.val (.data (.sl (.sl (.int .i64)))), .val (.data (.sl (.st 2))), .val (.data (.int .i64)), .val (.data (.int .i64))], [.val (.data (.int .i64))], fun x => ref25_Choose x.1 x.2.1 x.2.2.1 x.2.2.2⟩ := Snd.lim ref25_Choose_sndk
/-! ### 33 cotillion/cotillionlaw25.known -/
noncomputable def law25_known  : Option Bool := (turn_Choose [[3], [1]] [turn_Head.mk 3 10 7 true, turn_Head.mk 1 2 0 true] 10 1).bind fun r1 =>
    if r1 = 1 then
    (turn_Choose [[3], [1]] [turn_Head.mk 3 10 7 true, turn_Head.mk 1 2 0 true] 10 2).bind fun r2 =>
    if r2 = 3 then
    (turn_Front [1, 3] [turn_Head.mk 3 10 7 true, turn_Head.mk 1 2 0 true]).bind fun r3 =>
    if r3 = 1 then
    if (0 : Int) ≤ 1 then
    if 1 < ([turn_Head.mk 3 10 7 true, turn_Head.mk 1 2 0 true].length : Int) then
    (turn_Rank ([turn_Head.mk 3 10 7 true, turn_Head.mk 1 2 0 true].getD (1 : Int).toNat turn_Head.z) 10 3).bind fun r4 =>
    if r4 = 2 then
    (turn_Choose [] [turn_Head.mk 3 10 7 true, turn_Head.mk 1 2 0 true] 10 1).bind fun r5 =>
    some (decide (r5 = (-1))) else
    some false else none else none else
    some false else
    some false else
    some false
noncomputable abbrev law25_known_T : Tab S := ⟨[⟨31, [.val (.data (.sl (.sl (.int .i64)))), .val (.data (.sl (.st 1))), .val (.data (.int .i64)), .val (.data (.int .i64))], [.val (.data (.int .i64))], fun x => turn_Choose x.1 x.2.1 x.2.2.1 x.2.2.2⟩, ⟨27, [.val (.data (.sl (.int .i64))), .val (.data (.sl (.st 1)))], [.val (.data (.int .i64))], fun x => turn_Front x.1 x.2⟩, ⟨29, [.val (.data (.st 1)), .val (.data (.int .i64)), .val (.data (.int .i64))], [.val (.data (.int .i64))], fun x => turn_Rank x.1 x.2.1 x.2.2⟩], [], false, false⟩
noncomputable def law25_known_L (k : Nat) : Nat → List (Lab S Bool)
  | _ => []
theorem law25_known_eq (k : Nat) : law25_known = exec S (law25_known_T) byt (labs S (law25_known_T) (law25_known_L k)) (ac [] Try.f33) (frame0 S [] ()) (retK S (law25_known_T) Try.f33 [] [.val (.data .bool)]) := by kernel_rfl
theorem law25_known_vc (k : Nat) : VC S (law25_known_T) byt (law25_known_L k) (law25_known_L (k + 1)) (ac [] Try.f33) (retK S (law25_known_T) Try.f33 [] [.val (.data .bool)]) = [] := by kernel_rfl
theorem law25_known_snd : Snd Try.prog S ⟨33, [], [.val (.data .bool)], fun x => law25_known⟩ :=
  fn_ok progOk (T := (law25_known_T)) (all_cons turn_Choose_snd (all_cons turn_Front_snd (all_cons turn_Rank_snd (all_nil)))) (all_nil) mixed Try.func33 rfl (by kernel_rfl) (ac_code [] Try.f33 rfl) (L := law25_known_L)
    (fun n l h x => by cases h) (fun k n l h => by cases h)
    (fun k => All.mem (law25_known_vc k) trivial) (fun x r h => ⟨0, (law25_known_eq 0).symm.trans h⟩) (by kernel_rfl) (by kernel_rfl) (Nat.le_of_ble_eq_true (by kernel_rfl))
/-! ### 8 cotillion/cotillionlaw25.TurnTells -/
noncomputable def law25_TurnTells_l1 : Nat → Int → Int → (List turn_Head) → (List ref25_Head) → (List (List Int)) → Int → Option Bool
  | 0, _, _, _, _, _, _ => none
  | k + 1, n, k_, a, b, groups, i => if i < (a.length : Int) then
    if 0 ≤ i then
    if i < (a.length : Int) then
    (turn_Rank (a.getD i.toNat turn_Head.z) n k_).bind fun r4 =>
    if 0 ≤ i then
    if i < (b.length : Int) then
    (ref25_Rank (b.getD i.toNat ref25_Head.z) n k_).bind fun r5 =>
    if r4 ≠ r5 then
    some false else
    law25_TurnTells_l1 k n k_ a b groups (w64 (i + 1)) else none else none else none else none else
    (turn_Choose groups a n k_).bind fun r6 =>
    (ref25_Choose groups b n k_).bind fun r7 =>
    if r6 = r7 then
    (law25_known).bind fun r8 =>
    some r8 else
    some false
noncomputable def law25_TurnTells_l0 : Nat → Int → Int → (List turn_Head) → (List ref25_Head) → (List (List Int)) → Int → Option Bool
  | 0, _, _, _, _, _, _ => none
  | k + 1, n, k_, a, b, groups, i => if i < (groups.length : Int) then
    if 0 ≤ i then
    if i < (groups.length : Int) then
    (turn_Front (groups.getD i.toNat []) a).bind fun r2 =>
    if 0 ≤ i then
    if i < (groups.length : Int) then
    (ref25_Front (groups.getD i.toNat []) b).bind fun r3 =>
    if r2 ≠ r3 then
    some false else
    law25_TurnTells_l0 k n k_ a b groups (w64 (i + 1)) else none else none else none else none else
    law25_TurnTells_l1 k n k_ a b groups 0
noncomputable def law25_TurnTells_f (k : Nat) (l : List law25_Raw) (g : List Int) (now : Int) (age : Int) : Option Bool := if ¬ (3000 : Int) = 0 then
    if ¬ (300 : Int) = 0 then
    (law25_heads l g ((w64 now).tmod 3000)).bind fun r1 =>
    law25_TurnTells_l0 k ((w64 now).tmod 3000) (w64 (1 + ((w64 age).tmod 300))) r1.1 r1.2.1 r1.2.2 0 else none else none
noncomputable def law25_TurnTells (l : List law25_Raw) (g : List Int) (now : Int) (age : Int) : Option Bool := lim (fun k (x : List law25_Raw × List Int × Int × Int) => law25_TurnTells_f k x.1 x.2.1 x.2.2.1 x.2.2.2) (l, g, now, age)
noncomputable abbrev law25_TurnTells_T : Tab S := ⟨[⟨26, [.val (.data (.sl (.st 0))), .val (.data (.sl (.int .u8))), .val (.data (.int .i64))], [.val (.town (.st 1)), .val (.town (.st 2)), .val (.data (.sl (.sl (.int .i64))))], fun x => law25_heads x.1 x.2.1 x.2.2⟩, ⟨27, [.val (.data (.sl (.int .i64))), .val (.data (.sl (.st 1)))], [.val (.data (.int .i64))], fun x => turn_Front x.1 x.2⟩, ⟨28, [.val (.data (.sl (.int .i64))), .val (.data (.sl (.st 2)))], [.val (.data (.int .i64))], fun x => ref25_Front x.1 x.2⟩, ⟨29, [.val (.data (.st 1)), .val (.data (.int .i64)), .val (.data (.int .i64))], [.val (.data (.int .i64))], fun x => turn_Rank x.1 x.2.1 x.2.2⟩, ⟨30, [.val (.data (.st 2)), .val (.data (.int .i64)), .val (.data (.int .i64))], [.val (.data (.int .i64))], fun x => ref25_Rank x.1 x.2.1 x.2.2⟩, ⟨31, [.val (.data (.sl (.sl (.int .i64)))), .val (.data (.sl (.st 1))), .val (.data (.int .i64)), .val (.data (.int .i64))], [.val (.data (.int .i64))], fun x => turn_Choose x.1 x.2.1 x.2.2.1 x.2.2.2⟩, ⟨32, [.val (.data (.sl (.sl (.int .i64)))), .val (.data (.sl (.st 2))), .val (.data (.int .i64)), .val (.data (.int .i64))], [.val (.data (.int .i64))], fun x => ref25_Choose x.1 x.2.1 x.2.2.1 x.2.2.2⟩, ⟨33, [], [.val (.data .bool)], fun x => law25_known⟩], [], false, false⟩
noncomputable def law25_TurnTells_L (k : Nat) : Nat → List (Lab S Bool)
  | 0 => [⟨[9, 10, 11, 12, 13, 14], [.val (.data (.int .i64)), .val (.data (.int .i64)), .val (.town (.st 1)), .val (.town (.st 2)), .val (.data (.sl (.sl (.int .i64)))), .val (.data (.int .i64))], fun x => law25_TurnTells_l0 k x.1 x.2.1 x.2.2.1 x.2.2.2.1 x.2.2.2.2.1 x.2.2.2.2.2⟩]
  | 1 => []
  | 2 => [⟨[9, 10, 11, 12, 13, 15], [.val (.data (.int .i64)), .val (.data (.int .i64)), .val (.town (.st 1)), .val (.town (.st 2)), .val (.data (.sl (.sl (.int .i64)))), .val (.data (.int .i64))], fun x => law25_TurnTells_l1 k x.1 x.2.1 x.2.2.1 x.2.2.2.1 x.2.2.2.2.1 x.2.2.2.2.2⟩]
  | _ + 3 => []
theorem law25_TurnTells_eq (k : Nat) (l : List law25_Raw) (g : List Int) (now : Int) (age : Int) : law25_TurnTells_f k l g now age = exec S (law25_TurnTells_T) byt (labs S (law25_TurnTells_T) (law25_TurnTells_L k)) (ac [] Try.f8) (frame0 S [.val (.data (.sl (.st 0))), .val (.data (.sl (.int .u8))), .val (.data (.int .u16)), .val (.data (.int .u16))] (l, g, now, age)) (retK S (law25_TurnTells_T) Try.f8 [.val (.data (.sl (.st 0))), .val (.data (.sl (.int .u8))), .val (.data (.int .u16)), .val (.data (.int .u16))] [.val (.data .bool)]) := by kernel_rfl
theorem law25_TurnTells_vc (k : Nat) : VC S (law25_TurnTells_T) byt (law25_TurnTells_L k) (law25_TurnTells_L (k + 1)) (ac [] Try.f8) (retK S (law25_TurnTells_T) Try.f8 [.val (.data (.sl (.st 0))), .val (.data (.sl (.int .u8))), .val (.data (.int .u16)), .val (.data (.int .u16))] [.val (.data .bool)]) = [∀ x : Int × Int × List turn_Head × List ref25_Head × List (List Int) × Int, law25_TurnTells_l0 (k + 1) x.1 x.2.1 x.2.2.1 x.2.2.2.1 x.2.2.2.2.1 x.2.2.2.2.2 = law25_TurnTells_l0 (k + 1) x.1 x.2.1 x.2.2.1 x.2.2.2.1 x.2.2.2.2.1 x.2.2.2.2.2, ∀ x : Int × Int × List turn_Head × List ref25_Head × List (List Int) × Int, law25_TurnTells_l1 (k + 1) x.1 x.2.1 x.2.2.1 x.2.2.2.1 x.2.2.2.2.1 x.2.2.2.2.2 = law25_TurnTells_l1 (k + 1) x.1 x.2.1 x.2.2.1 x.2.2.2.1 x.2.2.2.2.1 x.2.2.2.2.2] := by kernel_rfl
theorem law25_TurnTells_sndk (k : Nat) : Snd Try.prog S ⟨8, [.val (.data (.sl (.st 0))), .val (.data (.sl (.int .u8))), .val (.data (.int .u16)), .val (.data (.int .u16))], [.val (.data .bool)], fun x => law25_TurnTells_f k x.1 x.2.1 x.2.2.1 x.2.2.2⟩ :=
  fn_ok progOk (T := (law25_TurnTells_T)) (all_cons law25_heads_snd (all_cons turn_Front_snd (all_cons ref25_Front_snd (all_cons turn_Rank_snd (all_cons ref25_Rank_snd (all_cons turn_Choose_snd (all_cons ref25_Choose_snd (all_cons law25_known_snd (all_nil))))))))) (all_nil) mixed Try.func8 rfl (by kernel_rfl) (ac_code [] Try.f8 rfl) (L := law25_TurnTells_L)
    (fun n l h x => by match n, h with
        | 0, h => 
          rcases List.mem_cons.1 h with rfl | h
          · rfl
          cases h
        | 1, h => cases h
        | 2, h => 
          rcases List.mem_cons.1 h with rfl | h
          · rfl
          cases h
        | _ + 3, h => cases h) (fun k n l h => by match n, h with
        | 0, h => 
          rcases List.mem_cons.1 h with rfl | h
          · rfl
          cases h
        | 1, h => cases h
        | 2, h => 
          rcases List.mem_cons.1 h with rfl | h
          · rfl
          cases h
        | _ + 3, h => cases h)
    (fun k => All.mem (law25_TurnTells_vc k) ⟨fun _ => rfl, ⟨fun _ => rfl, trivial⟩⟩) (fun x r h => ⟨k, (law25_TurnTells_eq k x.1 x.2.1 x.2.2.1 x.2.2.2).symm.trans h⟩) (by kernel_rfl) (by kernel_rfl) (Nat.le_of_ble_eq_true (by kernel_rfl))
theorem law25_TurnTells_snd : Snd Try.prog S ⟨8, [.val (.data (.sl (.st 0))), .val (.data (.sl (.int .u8))), .val (.data (.int .u16)), .val (.data (.int .u16))], [.val (.data .bool)], fun x => law25_TurnTells x.1 x.2.1 x.2.2.1 x.2.2.2⟩ := Snd.lim law25_TurnTells_sndk
/-! ### 9 cotillion/cotillionlaw25.TurnAged -/
noncomputable def law25_TurnAged_l0 : Nat → (List turn_Head) → (List (List Int)) → Int → Option Bool
  | 0, _, _, _ => none
  | k + 1, a, groups, i => if i < (groups.length : Int) then
    if 0 ≤ i then
    if i < (groups.length : Int) then
    (turn_Front (groups.getD i.toNat []) a).bind fun r3 =>
    if (a.length : Int) ≤ r3 then
    some false else
    if 0 ≤ r3 then
    if 0 ≤ r3 then
    if r3 < (a.length : Int) then
    bif (a.getD r3.toNat turn_Head.z).May then
    some false else
    law25_TurnAged_l0 k a groups (w64 (i + 1)) else none else none else
    law25_TurnAged_l0 k a groups (w64 (i + 1)) else none else none else
    (law25_known).bind fun r4 =>
    some r4
noncomputable def law25_TurnAged_l2 : Nat → Int → (List turn_Head) → (List (List Int)) → Int → Int → Option Bool
  | 0, _, _, _, _, _ => none
  | k + 1, k_, a, groups, v_at, i => if i < (groups.length : Int) then
    if 0 ≤ i then
    if i < (groups.length : Int) then
    (turn_Front (groups.getD i.toNat []) a).bind fun r5 =>
    if (a.length : Int) ≤ r5 then
    some false else
    if 0 ≤ r5 then
    if 0 ≤ r5 then
    if r5 < (a.length : Int) then
    bif (a.getD r5.toNat turn_Head.z).May then
    if 0 ≤ v_at then
    if v_at < (a.length : Int) then
    if 0 ≤ r5 then
    if r5 < (a.length : Int) then
    if (w64 (((a.getD r5.toNat turn_Head.z).Since) + (w64 (8 * k_)))) ≤ ((a.getD v_at.toNat turn_Head.z).Since) then
    some false else
    law25_TurnAged_l2 k k_ a groups v_at (w64 (i + 1)) else none else none else none else none else
    law25_TurnAged_l2 k k_ a groups v_at (w64 (i + 1)) else none else none else
    law25_TurnAged_l2 k k_ a groups v_at (w64 (i + 1)) else none else none else
    (law25_known).bind fun r6 =>
    some r6
noncomputable def law25_TurnAged_l1 : Nat → Int → (List turn_Head) → (List (List Int)) → Int → Int → Int → Option Bool
  | 0, _, _, _, _, _, _ => none
  | k + 1, k_, a, groups, q, v_at, i => if i < (a.length : Int) then
    if 0 ≤ i then
    if i < (a.length : Int) then
    if ((a.getD i.toNat turn_Head.z).Queue) = q then
    law25_TurnAged_l1 k k_ a groups q i (w64 (i + 1)) else
    law25_TurnAged_l1 k k_ a groups q v_at (w64 (i + 1)) else none else none else
    if v_at < 0 then
    some false else
    law25_TurnAged_l2 k k_ a groups v_at 0
noncomputable def law25_TurnAged_f (k : Nat) (l : List law25_Raw) (g : List Int) (now : Int) (age : Int) : Option Bool := if ¬ (3000 : Int) = 0 then
    if ¬ (40 : Int) = 0 then
    (law25_heads l g ((w64 now).tmod 3000)).bind fun r1 =>
    (turn_Choose r1.2.2 r1.1 ((w64 now).tmod 3000) (w64 (1 + ((w64 age).tmod 40)))).bind fun r2 =>
    if r2 < 0 then
    law25_TurnAged_l0 k r1.1 r1.2.2 0 else
    law25_TurnAged_l1 k (w64 (1 + ((w64 age).tmod 40))) r1.1 r1.2.2 r2 (-1) 0 else none else none
noncomputable def law25_TurnAged (l : List law25_Raw) (g : List Int) (now : Int) (age : Int) : Option Bool := lim (fun k (x : List law25_Raw × List Int × Int × Int) => law25_TurnAged_f k x.1 x.2.1 x.2.2.1 x.2.2.2) (l, g, now, age)
noncomputable abbrev law25_TurnAged_T : Tab S := ⟨[⟨26, [.val (.data (.sl (.st 0))), .val (.data (.sl (.int .u8))), .val (.data (.int .i64))], [.val (.town (.st 1)), .val (.town (.st 2)), .val (.data (.sl (.sl (.int .i64))))], fun x => law25_heads x.1 x.2.1 x.2.2⟩, ⟨31, [.val (.data (.sl (.sl (.int .i64)))), .val (.data (.sl (.st 1))), .val (.data (.int .i64)), .val (.data (.int .i64))], [.val (.data (.int .i64))], fun x => turn_Choose x.1 x.2.1 x.2.2.1 x.2.2.2⟩, ⟨27, [.val (.data (.sl (.int .i64))), .val (.data (.sl (.st 1)))], [.val (.data (.int .i64))], fun x => turn_Front x.1 x.2⟩, ⟨33, [], [.val (.data .bool)], fun x => law25_known⟩], [], false, false⟩
noncomputable def law25_TurnAged_L (k : Nat) : Nat → List (Lab S Bool)
  | 0 => [⟨[11, 13, 15], [.val (.town (.st 1)), .val (.data (.sl (.sl (.int .i64)))), .val (.data (.int .i64))], fun x => law25_TurnAged_l0 k x.1 x.2.1 x.2.2⟩]
  | 1 => []
  | 2 => [⟨[10, 11, 13, 14, 17, 18], [.val (.data (.int .i64)), .val (.town (.st 1)), .val (.data (.sl (.sl (.int .i64)))), .val (.data (.int .i64)), .val (.data (.int .i64)), .val (.data (.int .i64))], fun x => law25_TurnAged_l1 k x.1 x.2.1 x.2.2.1 x.2.2.2.1 x.2.2.2.2.1 x.2.2.2.2.2⟩]
  | 3 => []
  | 4 => [⟨[10, 11, 13, 17, 19], [.val (.data (.int .i64)), .val (.town (.st 1)), .val (.data (.sl (.sl (.int .i64)))), .val (.data (.int .i64)), .val (.data (.int .i64))], fun x => law25_TurnAged_l2 k x.1 x.2.1 x.2.2.1 x.2.2.2.1 x.2.2.2.2⟩]
  | _ + 5 => []
theorem law25_TurnAged_eq (k : Nat) (l : List law25_Raw) (g : List Int) (now : Int) (age : Int) : law25_TurnAged_f k l g now age = exec S (law25_TurnAged_T) byt (labs S (law25_TurnAged_T) (law25_TurnAged_L k)) (ac [] Try.f9) (frame0 S [.val (.data (.sl (.st 0))), .val (.data (.sl (.int .u8))), .val (.data (.int .u16)), .val (.data (.int .u8))] (l, g, now, age)) (retK S (law25_TurnAged_T) Try.f9 [.val (.data (.sl (.st 0))), .val (.data (.sl (.int .u8))), .val (.data (.int .u16)), .val (.data (.int .u8))] [.val (.data .bool)]) := by kernel_rfl
theorem law25_TurnAged_vc (k : Nat) : VC S (law25_TurnAged_T) byt (law25_TurnAged_L k) (law25_TurnAged_L (k + 1)) (ac [] Try.f9) (retK S (law25_TurnAged_T) Try.f9 [.val (.data (.sl (.st 0))), .val (.data (.sl (.int .u8))), .val (.data (.int .u16)), .val (.data (.int .u8))] [.val (.data .bool)]) = [∀ x : List turn_Head × List (List Int) × Int, law25_TurnAged_l0 (k + 1) x.1 x.2.1 x.2.2 = law25_TurnAged_l0 (k + 1) x.1 x.2.1 x.2.2, ∀ x : Int × List turn_Head × List (List Int) × Int × Int × Int, law25_TurnAged_l1 (k + 1) x.1 x.2.1 x.2.2.1 x.2.2.2.1 x.2.2.2.2.1 x.2.2.2.2.2 = law25_TurnAged_l1 (k + 1) x.1 x.2.1 x.2.2.1 x.2.2.2.1 x.2.2.2.2.1 x.2.2.2.2.2, ∀ x : Int × List turn_Head × List (List Int) × Int × Int, law25_TurnAged_l2 (k + 1) x.1 x.2.1 x.2.2.1 x.2.2.2.1 x.2.2.2.2 = law25_TurnAged_l2 (k + 1) x.1 x.2.1 x.2.2.1 x.2.2.2.1 x.2.2.2.2] := by kernel_rfl
theorem law25_TurnAged_sndk (k : Nat) : Snd Try.prog S ⟨9, [.val (.data (.sl (.st 0))), .val (.data (.sl (.int .u8))), .val (.data (.int .u16)), .val (.data (.int .u8))], [.val (.data .bool)], fun x => law25_TurnAged_f k x.1 x.2.1 x.2.2.1 x.2.2.2⟩ :=
  fn_ok progOk (T := (law25_TurnAged_T)) (all_cons law25_heads_snd (all_cons turn_Choose_snd (all_cons turn_Front_snd (all_cons law25_known_snd (all_nil))))) (all_nil) mixed Try.func9 rfl (by kernel_rfl) (ac_code [] Try.f9 rfl) (L := law25_TurnAged_L)
    (fun n l h x => by match n, h with
        | 0, h => 
          rcases List.mem_cons.1 h with rfl | h
          · rfl
          cases h
        | 1, h => cases h
        | 2, h => 
          rcases List.mem_cons.1 h with rfl | h
          · rfl
          cases h
        | 3, h => cases h
        | 4, h => 
          rcases List.mem_cons.1 h with rfl | h
          · rfl
          cases h
        | _ + 5, h => cases h) (fun k n l h => by match n, h with
        | 0, h => 
          rcases List.mem_cons.1 h with rfl | h
          · rfl
          cases h
        | 1, h => cases h
        | 2, h => 
          rcases List.mem_cons.1 h with rfl | h
          · rfl
          cases h
        | 3, h => cases h
        | 4, h => 
          rcases List.mem_cons.1 h with rfl | h
          · rfl
          cases h
        | _ + 5, h => cases h)
    (fun k => All.mem (law25_TurnAged_vc k) ⟨fun _ => rfl, ⟨fun _ => rfl, ⟨fun _ => rfl, trivial⟩⟩⟩) (fun x r h => ⟨k, (law25_TurnAged_eq k x.1 x.2.1 x.2.2.1 x.2.2.2).symm.trans h⟩) (by kernel_rfl) (by kernel_rfl) (Nat.le_of_ble_eq_true (by kernel_rfl))
theorem law25_TurnAged_snd : Snd Try.prog S ⟨9, [.val (.data (.sl (.st 0))), .val (.data (.sl (.int .u8))), .val (.data (.int .u16)), .val (.data (.int .u8))], [.val (.data .bool)], fun x => law25_TurnAged x.1 x.2.1 x.2.2.1 x.2.2.2⟩ := Snd.lim law25_TurnAged_sndk
/-! ### 10 cotillion/cotillionlaw25.TurnElder -/
noncomputable def law25_TurnElder_l0 : Nat → (List Int) → Int → Int → (List turn_Head) → (List (List Int)) → Int → Int → Option Bool
  | 0, _, _, _, _, _, _, _ => none
  | k + 1, since, prio, age, a, groups, best, i => if i < (since.length : Int) then
    if 0 ≤ i then
    if i < (since.length : Int) then
    if ¬ (8 : Int) = 0 then
    if (a.length + [turn_Head.mk i (w64 (since.getD i.toNat 0)) ((w64 prio).tmod 8) true].length) * 32 ≤ 140737488355328 then
    if (groups.length + [[i]].length) * 24 ≤ 140737488355328 then
    if 0 ≤ i then
    if i < (since.length : Int) then
    if 0 ≤ best then
    if best < (since.length : Int) then
    if (since.getD i.toNat 0) < (since.getD best.toNat 0) then
    law25_TurnElder_l0 k since prio age (a ++ [turn_Head.mk i (w64 (since.getD i.toNat 0)) ((w64 prio).tmod 8) true]) (groups ++ [[i]]) i (w64 (i + 1)) else
    law25_TurnElder_l0 k since prio age (a ++ [turn_Head.mk i (w64 (since.getD i.toNat 0)) ((w64 prio).tmod 8) true]) (groups ++ [[i]]) best (w64 (i + 1)) else none else none else none else none else none else none else none else none else none else
    (turn_Choose groups a 131072 (w64 (1 + (w64 age)))).bind fun r3 =>
    if r3 = best then
    (law25_known).bind fun r4 =>
    some r4 else
    some false
noncomputable def law25_TurnElder_f (k : Nat) (since : List Int) (prio : Int) (age : Int) : Option Bool := if (since.length : Int) = 0 then
    (law25_known).bind fun r1 =>
    some r1 else
    if 20 < (since.length : Int) then
    (law25_known).bind fun r2 =>
    some r2 else
    law25_TurnElder_l0 k since prio age [] [] 0 0
noncomputable def law25_TurnElder (since : List Int) (prio : Int) (age : Int) : Option Bool := lim (fun k (x : List Int × Int × Int) => law25_TurnElder_f k x.1 x.2.1 x.2.2) (since, prio, age)
noncomputable abbrev law25_TurnElder_T : Tab S := ⟨[⟨33, [], [.val (.data .bool)], fun x => law25_known⟩, ⟨31, [.val (.data (.sl (.sl (.int .i64)))), .val (.data (.sl (.st 1))), .val (.data (.int .i64)), .val (.data (.int .i64))], [.val (.data (.int .i64))], fun x => turn_Choose x.1 x.2.1 x.2.2.1 x.2.2.2⟩], [], false, false⟩
noncomputable def law25_TurnElder_L (k : Nat) : Nat → List (Lab S Bool)
  | 0 => [⟨[0, 1, 2, 7, 8, 9, 10], [.val (.data (.sl (.int .u16))), .val (.data (.int .u8)), .val (.data (.int .u8)), .val (.town (.st 1)), .val (.town (.sl (.int .i64))), .val (.data (.int .i64)), .val (.data (.int .i64))], fun x => law25_TurnElder_l0 k x.1 x.2.1 x.2.2.1 x.2.2.2.1 x.2.2.2.2.1 x.2.2.2.2.2.1 x.2.2.2.2.2.2⟩]
  | _ + 1 => []
theorem law25_TurnElder_eq (k : Nat) (since : List Int) (prio : Int) (age : Int) : law25_TurnElder_f k since prio age = exec S (law25_TurnElder_T) byt (labs S (law25_TurnElder_T) (law25_TurnElder_L k)) (ac [] Try.f10) (frame0 S [.val (.data (.sl (.int .u16))), .val (.data (.int .u8)), .val (.data (.int .u8))] (since, prio, age)) (retK S (law25_TurnElder_T) Try.f10 [.val (.data (.sl (.int .u16))), .val (.data (.int .u8)), .val (.data (.int .u8))] [.val (.data .bool)]) := by kernel_rfl
theorem law25_TurnElder_vc (k : Nat) : VC S (law25_TurnElder_T) byt (law25_TurnElder_L k) (law25_TurnElder_L (k + 1)) (ac [] Try.f10) (retK S (law25_TurnElder_T) Try.f10 [.val (.data (.sl (.int .u16))), .val (.data (.int .u8)), .val (.data (.int .u8))] [.val (.data .bool)]) = [∀ x : List Int × Int × Int × List turn_Head × List (List Int) × Int × Int, law25_TurnElder_l0 (k + 1) x.1 x.2.1 x.2.2.1 x.2.2.2.1 x.2.2.2.2.1 x.2.2.2.2.2.1 x.2.2.2.2.2.2 = law25_TurnElder_l0 (k + 1) x.1 x.2.1 x.2.2.1 x.2.2.2.1 x.2.2.2.2.1 x.2.2.2.2.2.1 x.2.2.2.2.2.2] := by kernel_rfl
theorem law25_TurnElder_sndk (k : Nat) : Snd Try.prog S ⟨10, [.val (.data (.sl (.int .u16))), .val (.data (.int .u8)), .val (.data (.int .u8))], [.val (.data .bool)], fun x => law25_TurnElder_f k x.1 x.2.1 x.2.2⟩ :=
  fn_ok progOk (T := (law25_TurnElder_T)) (all_cons law25_known_snd (all_cons turn_Choose_snd (all_nil))) (all_nil) mixed Try.func10 rfl (by kernel_rfl) (ac_code [] Try.f10 rfl) (L := law25_TurnElder_L)
    (fun n l h x => by match n, h with
        | 0, h => 
          rcases List.mem_cons.1 h with rfl | h
          · rfl
          cases h
        | _ + 1, h => cases h) (fun k n l h => by match n, h with
        | 0, h => 
          rcases List.mem_cons.1 h with rfl | h
          · rfl
          cases h
        | _ + 1, h => cases h)
    (fun k => All.mem (law25_TurnElder_vc k) ⟨fun _ => rfl, trivial⟩) (fun x r h => ⟨k, (law25_TurnElder_eq k x.1 x.2.1 x.2.2).symm.trans h⟩) (by kernel_rfl) (by kernel_rfl) (Nat.le_of_ble_eq_true (by kernel_rfl))
theorem law25_TurnElder_snd : Snd Try.prog S ⟨10, [.val (.data (.sl (.int .u16))), .val (.data (.int .u8)), .val (.data (.int .u8))], [.val (.data .bool)], fun x => law25_TurnElder x.1 x.2.1 x.2.2⟩ := Snd.lim law25_TurnElder_sndk
/-! ### 34 cotillion/cotillionlaw25.has -/
noncomputable def law25_has_l0 : Nat → (List Int) → Int → Int → Option Bool
  | 0, _, _, _ => none
  | k + 1, l, n, i => if i < (l.length : Int) then
    if 0 ≤ i then
    if i < (l.length : Int) then
    if (l.getD i.toNat 0) = n then
    some true else
    law25_has_l0 k l n (w64 (i + 1)) else none else none else
    some false
noncomputable def law25_has_f (k : Nat) (l : List Int) (n : Int) : Option Bool := law25_has_l0 k l n 0
noncomputable def law25_has (l : List Int) (n : Int) : Option Bool := lim (fun k (x : List Int × Int) => law25_has_f k x.1 x.2) (l, n)
noncomputable abbrev law25_has_T : Tab S := ⟨[], [], false, false⟩
noncomputable def law25_has_L (k : Nat) : Nat → List (Lab S Bool)
  | 0 => [⟨[0, 1, 5], [.val (.data (.sl (.int .i64))), .val (.data (.int .i64)), .val (.data (.int .i64))], fun x => law25_has_l0 k x.1 x.2.1 x.2.2⟩]
  | _ + 1 => []
theorem law25_has_eq (k : Nat) (l : List Int) (n : Int) : law25_has_f k l n = exec S (law25_has_T) byt (labs S (law25_has_T) (law25_has_L k)) (ac [] Try.f34) (frame0 S [.val (.data (.sl (.int .i64))), .val (.data (.int .i64))] (l, n)) (retK S (law25_has_T) Try.f34 [.val (.data (.sl (.int .i64))), .val (.data (.int .i64))] [.val (.data .bool)]) := by kernel_rfl
theorem law25_has_vc (k : Nat) : VC S (law25_has_T) byt (law25_has_L k) (law25_has_L (k + 1)) (ac [] Try.f34) (retK S (law25_has_T) Try.f34 [.val (.data (.sl (.int .i64))), .val (.data (.int .i64))] [.val (.data .bool)]) = [∀ x : List Int × Int × Int, law25_has_l0 (k + 1) x.1 x.2.1 x.2.2 = law25_has_l0 (k + 1) x.1 x.2.1 x.2.2] := by kernel_rfl
theorem law25_has_sndk (k : Nat) : Snd Try.prog S ⟨34, [.val (.data (.sl (.int .i64))), .val (.data (.int .i64))], [.val (.data .bool)], fun x => law25_has_f k x.1 x.2⟩ :=
  fn_ok progOk (T := (law25_has_T)) (all_nil) (all_nil) mixed Try.func34 rfl (by kernel_rfl) (ac_code [] Try.f34 rfl) (L := law25_has_L)
    (fun n l h x => by match n, h with
        | 0, h => 
          rcases List.mem_cons.1 h with rfl | h
          · rfl
          cases h
        | _ + 1, h => cases h) (fun k n l h => by match n, h with
        | 0, h => 
          rcases List.mem_cons.1 h with rfl | h
          · rfl
          cases h
        | _ + 1, h => cases h)
    (fun k => All.mem (law25_has_vc k) ⟨fun _ => rfl, trivial⟩) (fun x r h => ⟨k, (law25_has_eq k x.1 x.2).symm.trans h⟩) (by kernel_rfl) (by kernel_rfl) (Nat.le_of_ble_eq_true (by kernel_rfl))
theorem law25_has_snd : Snd Try.prog S ⟨34, [.val (.data (.sl (.int .i64))), .val (.data (.int .i64))], [.val (.data .bool)], fun x => law25_has x.1 x.2⟩ := Snd.lim law25_has_sndk
/-! ### 11 cotillion/cotillionlaw25.TurnStands -/
mutual
noncomputable def law25_TurnStands_l0 : Nat → (List turn_Head) → (List (List Int)) → Int → Int → Option Bool
  | 0, _, _, _, _ => none
  | k + 1, a, groups, q, i => if i < (a.length : Int) then
    if 0 ≤ q then
    if 0 ≤ i then
    if i < (a.length : Int) then
    if ((a.getD i.toNat turn_Head.z).Queue) ≠ q then
    law25_TurnStands_l0 k a groups q (w64 (i + 1)) else
    if 0 ≤ i then
    if i < (a.length : Int) then
    bif !((a.getD i.toNat turn_Head.z).May) then
    some false else
    law25_TurnStands_l1 k a groups q i 0 else none else none else none else none else
    if q < 20 then
    if (-1) ≤ q then
    (law25_known).bind fun r3 =>
    some r3 else
    some false else
    some false else
    if q < 20 then
    if (-1) ≤ q then
    (law25_known).bind fun r4 =>
    some r4 else
    some false else
    some false
noncomputable def law25_TurnStands_l1 : Nat → (List turn_Head) → (List (List Int)) → Int → Int → Int → Option Bool
  | 0, _, _, _, _, _ => none
  | k + 1, a, groups, q, i, x => if x < (groups.length : Int) then
    if 0 ≤ x then
    if x < (groups.length : Int) then
    (law25_has (groups.getD x.toNat []) q).bind fun r5 =>
    bif r5 then
    if 0 ≤ x then
    if x < (groups.length : Int) then
    (turn_Front (groups.getD x.toNat []) a).bind fun r6 =>
    if r6 ≠ i then
    some false else
    law25_TurnStands_l1 k a groups q i (w64 (x + 1)) else none else none else
    law25_TurnStands_l1 k a groups q i (w64 (x + 1)) else none else none else
    law25_TurnStands_l0 k a groups q (w64 (i + 1))
end
noncomputable def law25_TurnStands_f (k : Nat) (l : List law25_Raw) (g : List Int) (now : Int) (age : Int) : Option Bool := if ¬ (3000 : Int) = 0 then
    (law25_heads l g ((w64 now).tmod 3000)).bind fun r1 =>
    (turn_Choose r1.2.2 r1.1 ((w64 now).tmod 3000) (w64 (1 + (w64 age)))).bind fun r2 =>
    law25_TurnStands_l0 k r1.1 r1.2.2 r2 0 else none
noncomputable def law25_TurnStands (l : List law25_Raw) (g : List Int) (now : Int) (age : Int) : Option Bool := lim (fun k (x : List law25_Raw × List Int × Int × Int) => law25_TurnStands_f k x.1 x.2.1 x.2.2.1 x.2.2.2) (l, g, now, age)
noncomputable abbrev law25_TurnStands_T : Tab S := ⟨[⟨26, [.val (.data (.sl (.st 0))), .val (.data (.sl (.int .u8))), .val (.data (.int .i64))], [.val (.town (.st 1)), .val (.town (.st 2)), .val (.data (.sl (.sl (.int .i64))))], fun x => law25_heads x.1 x.2.1 x.2.2⟩, ⟨31, [.val (.data (.sl (.sl (.int .i64)))), .val (.data (.sl (.st 1))), .val (.data (.int .i64)), .val (.data (.int .i64))], [.val (.data (.int .i64))], fun x => turn_Choose x.1 x.2.1 x.2.2.1 x.2.2.2⟩, ⟨33, [], [.val (.data .bool)], fun x => law25_known⟩, ⟨34, [.val (.data (.sl (.int .i64))), .val (.data (.int .i64))], [.val (.data .bool)], fun x => law25_has x.1 x.2⟩, ⟨27, [.val (.data (.sl (.int .i64))), .val (.data (.sl (.st 1)))], [.val (.data (.int .i64))], fun x => turn_Front x.1 x.2⟩], [], false, false⟩
noncomputable def law25_TurnStands_L (k : Nat) : Nat → List (Lab S Bool)
  | 0 => [⟨[11, 13, 14, 15], [.val (.town (.st 1)), .val (.data (.sl (.sl (.int .i64)))), .val (.data (.int .i64)), .val (.data (.int .i64))], fun x => law25_TurnStands_l0 k x.1 x.2.1 x.2.2.1 x.2.2.2⟩]
  | 1 => []
  | 2 => [⟨[11, 13, 14, 15, 16], [.val (.town (.st 1)), .val (.data (.sl (.sl (.int .i64)))), .val (.data (.int .i64)), .val (.data (.int .i64)), .val (.data (.int .i64))], fun x => law25_TurnStands_l1 k x.1 x.2.1 x.2.2.1 x.2.2.2.1 x.2.2.2.2⟩]
  | _ + 3 => []
theorem law25_TurnStands_eq (k : Nat) (l : List law25_Raw) (g : List Int) (now : Int) (age : Int) : law25_TurnStands_f k l g now age = exec S (law25_TurnStands_T) byt (labs S (law25_TurnStands_T) (law25_TurnStands_L k)) (ac [] Try.f11) (frame0 S [.val (.data (.sl (.st 0))), .val (.data (.sl (.int .u8))), .val (.data (.int .u16)), .val (.data (.int .u8))] (l, g, now, age)) (retK S (law25_TurnStands_T) Try.f11 [.val (.data (.sl (.st 0))), .val (.data (.sl (.int .u8))), .val (.data (.int .u16)), .val (.data (.int .u8))] [.val (.data .bool)]) := by kernel_rfl
theorem law25_TurnStands_vc (k : Nat) : VC S (law25_TurnStands_T) byt (law25_TurnStands_L k) (law25_TurnStands_L (k + 1)) (ac [] Try.f11) (retK S (law25_TurnStands_T) Try.f11 [.val (.data (.sl (.st 0))), .val (.data (.sl (.int .u8))), .val (.data (.int .u16)), .val (.data (.int .u8))] [.val (.data .bool)]) = [∀ x : List turn_Head × List (List Int) × Int × Int × Int, law25_TurnStands_l1 (k + 1) x.1 x.2.1 x.2.2.1 x.2.2.2.1 x.2.2.2.2 = law25_TurnStands_l1 (k + 1) x.1 x.2.1 x.2.2.1 x.2.2.2.1 x.2.2.2.2, ∀ x : List turn_Head × List (List Int) × Int × Int, law25_TurnStands_l0 (k + 1) x.1 x.2.1 x.2.2.1 x.2.2.2 = law25_TurnStands_l0 (k + 1) x.1 x.2.1 x.2.2.1 x.2.2.2] := by kernel_rfl
theorem law25_TurnStands_sndk (k : Nat) : Snd Try.prog S ⟨11, [.val (.data (.sl (.st 0))), .val (.data (.sl (.int .u8))), .val (.data (.int .u16)), .val (.data (.int .u8))], [.val (.data .bool)], fun x => law25_TurnStands_f k x.1 x.2.1 x.2.2.1 x.2.2.2⟩ :=
  fn_ok progOk (T := (law25_TurnStands_T)) (all_cons law25_heads_snd (all_cons turn_Choose_snd (all_cons law25_known_snd (all_cons law25_has_snd (all_cons turn_Front_snd (all_nil)))))) (all_nil) mixed Try.func11 rfl (by kernel_rfl) (ac_code [] Try.f11 rfl) (L := law25_TurnStands_L)
    (fun n l h x => by match n, h with
        | 0, h => 
          rcases List.mem_cons.1 h with rfl | h
          · rfl
          cases h
        | 1, h => cases h
        | 2, h => 
          rcases List.mem_cons.1 h with rfl | h
          · rfl
          cases h
        | _ + 3, h => cases h) (fun k n l h => by match n, h with
        | 0, h => 
          rcases List.mem_cons.1 h with rfl | h
          · rfl
          cases h
        | 1, h => cases h
        | 2, h => 
          rcases List.mem_cons.1 h with rfl | h
          · rfl
          cases h
        | _ + 3, h => cases h)
    (fun k => All.mem (law25_TurnStands_vc k) ⟨fun _ => rfl, ⟨fun _ => rfl, trivial⟩⟩) (fun x r h => ⟨k, (law25_TurnStands_eq k x.1 x.2.1 x.2.2.1 x.2.2.2).symm.trans h⟩) (by kernel_rfl) (by kernel_rfl) (Nat.le_of_ble_eq_true (by kernel_rfl))
theorem law25_TurnStands_snd : Snd Try.prog S ⟨11, [.val (.data (.sl (.st 0))), .val (.data (.sl (.int .u8))), .val (.data (.int .u16)), .val (.data (.int .u8))], [.val (.data .bool)], fun x => law25_TurnStands x.1 x.2.1 x.2.2.1 x.2.2.2⟩ := Snd.lim law25_TurnStands_sndk
end Go.Sy.Tu
/-! Plain laws over turn. -/
namespace Go.Sy.Tu
open Go.Sy
theorem isNaN_eq (a : Int) : cmp_isNaN_int a = some false := by simp [cmp_isNaN_int]
/-- -1, 0, 1. -/
def cmpI (a b : Int) : Int := if a < b then -1 else if b < a then 1 else 0
theorem Compare_eq (a b : Int) : cmp_Compare_int a b = some (cmpI a b) := by
  unfold cmp_Compare_int cmpI
  simp only [isNaN_eq, bind_some_eq, cond_false]
  split
  · rfl
  · split <;> rfl
def orI : List Int → Int
  | [] => 0
  | a :: l => if a ≠ 0 then a else orI l
theorem drop_cons {α : Type} {l : List α} {n : Nat} (h : n < l.length) : l.drop n = l[n] :: l.drop (n + 1) := List.drop_eq_getElem_cons h
theorem Or_l (l : List Int) (hl : l.length < 1000000000000) : ∀ m k n, n + m = l.length → m < k → cmp_Or_int_l0 k 0 l (l.length : Int) (n : Int) = some (orI (l.drop n)) := by
  intro m
  induction m with
  | zero =>
    intro k n h hk
    obtain ⟨k, rfl⟩ : ∃ j, k = j + 1 := ⟨k - 1, by omega⟩
    simp only [cmp_Or_int_l0]
    rw [if_neg (by omega), List.drop_eq_nil_of_le (by omega)]; rfl
  | succ m ih =>
    intro k n h hk
    obtain ⟨k, rfl⟩ : ∃ j, k = j + 1 := ⟨k - 1, by omega⟩
    simp only [cmp_Or_int_l0]
    rw [if_pos (by omega), if_pos (by omega), if_pos (by omega), w64_in (by omega) (by omega), drop_cons (show n < l.length by omega), Int.toNat_natCast, getD_lt _ (show n < l.length by omega)]
    simp only [orI]
    split
    · rfl
    · exact ih k (n + 1) (by omega) (by omega)
theorem Or_eq (l : List Int) (hl : l.length < 1000000000000) : cmp_Or_int l = some (orI l) :=
  lim_eq (l.length + 1) fun k hk => Or_l l hl l.length k 0 (by omega) (by omega)
def elderI (a b : turn_Head) : Int := orI [cmpI a.Since b.Since, cmpI a.Queue b.Queue]
theorem elder_eq (a b : turn_Head) : turn_elder a b = some (elderI a b) := by
  unfold turn_elder
  simp only [Compare_eq, bind_some_eq]
  rw [Or_eq _ (by simp)]
  rfl
theorem elderI_neg (a b : turn_Head) : elderI a b < 0 ↔ a.Since < b.Since ∨ (a.Since = b.Since ∧ a.Queue < b.Queue) := by
  unfold elderI orI orI orI cmpI
  repeat' split
  all_goals omega
theorem Index_l (s : List Int) (v : Int) (hl : s.length < 1000000000000) : ∀ m k n, n + m = s.length → m < k → slices_Index_int_int_l0 k s v (s.length : Int) (n : Int) = some (if v ∈ s.drop n then ((n + (s.drop n).idxOf v : Nat) : Int) else -1) := by
  intro m
  induction m with
  | zero =>
    intro k n h hk
    obtain ⟨k, rfl⟩ : ∃ j, k = j + 1 := ⟨k - 1, by omega⟩
    simp only [slices_Index_int_int_l0]
    rw [if_neg (by omega), List.drop_eq_nil_of_le (by omega)]; rfl
  | succ m ih =>
    intro k n h hk
    obtain ⟨k, rfl⟩ : ∃ j, k = j + 1 := ⟨k - 1, by omega⟩
    simp only [slices_Index_int_int_l0]
    rw [if_pos (by omega), if_pos (by omega), if_pos (by omega), w64_in (by omega) (by omega), drop_cons (show n < s.length by omega), Int.toNat_natCast, getD_lt _ (show n < s.length by omega)]
    by_cases e : v = s[n]
    · rw [if_pos e, if_pos (by rw [e]; exact List.mem_cons_self), List.idxOf_cons, show (s[n] == v) = true from by rw [e]; exact beq_self_eq_true _]
      rfl
    · rw [if_neg e, show (n : Int) + 1 = ((n + 1 : Nat) : Int) from by omega, ih k (n + 1) (by omega) (by omega)]
      by_cases hm : v ∈ s.drop (n + 1)
      · rw [if_pos hm, if_pos (List.mem_cons_of_mem _ hm), List.idxOf_cons, show (s[n] == v) = false from by simp [Ne.symm e]]
        simp only [cond_false]; congr 1; omega
      · rw [if_neg hm, if_neg (fun hc => by rcases List.mem_cons.1 hc with h1 | h1; exact e h1; exact hm h1)]
theorem Index_eq (s : List Int) (v : Int) (hl : s.length < 1000000000000) : slices_Index_int_int s v = some (if v ∈ s then ((s.idxOf v : Nat) : Int) else -1) :=
  lim_eq (s.length + 1) fun k hk => by
    have := Index_l s v hl s.length k 0 (by omega) (by omega)
    rw [List.drop_zero, Nat.zero_add] at this
    exact this
theorem Contains_eq (s : List Int) (v : Int) (hl : s.length < 1000000000000) : slices_Contains_int_int s v = some (decide (v ∈ s)) := by
  unfold slices_Contains_int_int
  rw [Index_eq s v hl, bind_some_eq]
  split
  · rename_i h; simp [h]
  · rename_i h; simp [h]
/-- One round of Front. -/
def frontS (g : List Int) (hs : List turn_Head) (f : Int) (n : Nat) : Int :=
  if (hs.getD n turn_Head.z).Queue ∈ g ∧ (f < 0 ∨ elderI (hs.getD n turn_Head.z) (hs.getD f.toNat turn_Head.z) < 0) then (n : Int) else f
theorem Front_l (g : List Int) (hs : List turn_Head) (hg : g.length < 1000000000000) (hl : hs.length < 1000000000000) : ∀ m k n f, n + m = hs.length → m < k → (-1 : Int) ≤ f → f < (hs.length : Int) →
    turn_Front_l0 k g hs f hs (hs.length : Int) (n : Int) = some ((List.range' n m).foldl (frontS g hs) f) := by
  intro m
  induction m with
  | zero =>
    intro k n f h hk h1 h2
    obtain ⟨k, rfl⟩ : ∃ j, k = j + 1 := ⟨k - 1, by omega⟩
    simp only [turn_Front_l0]
    rw [if_neg (by omega)]; rfl
  | succ m ih =>
    intro k n f h hk h1 h2
    obtain ⟨k, rfl⟩ : ∃ j, k = j + 1 := ⟨k - 1, by omega⟩
    simp only [turn_Front_l0]
    rw [if_pos (by omega), if_pos (by omega), if_pos (by omega), Contains_eq _ _ hg, bind_some_eq, w64_in (by omega) (by omega), List.range'_succ, List.foldl_cons, Int.toNat_natCast]
    have ih := fun f h1 h2 => ih k (n + 1) f (by omega) (by omega) h1 h2
    rw [show ((n + 1 : Nat) : Int) = (n : Int) + 1 from by omega] at ih
    unfold frontS
    by_cases hm : (hs.getD n turn_Head.z).Queue ∈ g
    · simp only [hm, decide_true, cond_true, true_and]
      by_cases hf : f < 0
      · simp only [hf, if_true, true_or]
        exact ih _ (by omega) (by omega)
      · simp only [hf, if_false, false_or]
        rw [if_pos (by omega), if_pos (by omega), elder_eq, bind_some_eq]
        by_cases he : elderI (hs.getD n turn_Head.z) (hs.getD f.toNat turn_Head.z) < 0
        · rw [if_pos he, if_pos he]; exact ih _ (by omega) (by omega)
        · rw [if_neg he, if_neg he]; exact ih _ (by omega) (by omega)
    · simp only [hm, decide_false, cond_false, false_and, if_false]
      exact ih _ h1 h2
def front (g : List Int) (hs : List turn_Head) : Int := (List.range' 0 hs.length).foldl (frontS g hs) (-1)
theorem Front_eq (g : List Int) (hs : List turn_Head) (hg : g.length < 1000000000000) (hl : hs.length < 1000000000000) : turn_Front g hs = some (front g hs) :=
  lim_eq (hs.length + 1) fun k hk => Front_l g hs hg hl hs.length k 0 (-1) (by omega) (by omega) (by omega) (by omega)
end Go.Sy.Tu
/-! Plain laws over turn: the choice. -/
namespace Go.Sy.Tu
open Go.Sy
def rankI (h : turn_Head) (now age : Int) : Int := if age < 1 then h.Prio else w64 (h.Prio + (w64 ((w64 (now - h.Since)).tdiv age)))
theorem Rank_eq (h : turn_Head) (now age : Int) : turn_Rank h now age = some (rankI h now age) := by
  unfold turn_Rank rankI
  split
  · rfl
  · rw [if_pos (by omega)]
theorem frontS_lt (g : List Int) (hs : List turn_Head) {f : Int} {n : Nat} (hn : n < hs.length) (h1 : -1 ≤ f) (h2 : f < (hs.length : Int)) : -1 ≤ frontS g hs f n ∧ frontS g hs f n < (hs.length : Int) := by
  unfold frontS; split <;> omega
theorem front_fold (g : List Int) (hs : List turn_Head) : ∀ m n f, n + m = hs.length → (-1 : Int) ≤ f → f < (hs.length : Int) → -1 ≤ (List.range' n m).foldl (frontS g hs) f ∧ (List.range' n m).foldl (frontS g hs) f < (hs.length : Int) := by
  intro m
  induction m with
  | zero => intro n f _ h1 h2; exact ⟨h1, h2⟩
  | succ m ih =>
    intro n f h h1 h2
    rw [List.range'_succ, List.foldl_cons]
    have := frontS_lt g hs (show n < hs.length by omega) h1 h2
    exact ih (n + 1) _ (by omega) this.1 this.2
theorem front_lt (g : List Int) (hs : List turn_Head) : -1 ≤ front g hs ∧ front g hs < (hs.length : Int) := front_fold g hs _ 0 _ (by omega) (by omega) (by omega)
def hd (hs : List turn_Head) (i : Int) : turn_Head := hs.getD i.toNat turn_Head.z
/-- One round of Choose. -/
def chooseS (gs : List (List Int)) (hs : List turn_Head) (now age : Int) (b : Int) (n : Nat) : Int :=
  let i := front (gs.getD n []) hs
  if i < 0 ∨ (hd hs i).May = false then b
  else if b < 0 ∨ orI [cmpI (rankI (hd hs b) now age) (rankI (hd hs i) now age), elderI (hd hs i) (hd hs b)] < 0 then i else b
def chooseEnd (hs : List turn_Head) (b : Int) : Int := if b < 0 then -1 else (hd hs b).Queue
theorem chooseS_lt (gs : List (List Int)) (hs : List turn_Head) (now age : Int) {b : Int} {n : Nat} (h1 : -1 ≤ b) (h2 : b < (hs.length : Int)) : -1 ≤ chooseS gs hs now age b n ∧ chooseS gs hs now age b n < (hs.length : Int) := by
  have := front_lt (gs.getD n []) hs
  unfold chooseS; dsimp only
  split
  · omega
  · split <;> omega
theorem Choose_l (gs : List (List Int)) (hs : List turn_Head) (now age : Int) (hg : ∀ g ∈ gs, g.length < 1000000000000) (hgl : gs.length < 1000000000000) (hl : hs.length < 1000000000000) : ∀ m k n b, n + m = gs.length → m < k → (-1 : Int) ≤ b → b < (hs.length : Int) →
    turn_Choose_l0 k hs now age b gs (gs.length : Int) (n : Int) = some (chooseEnd hs ((List.range' n m).foldl (chooseS gs hs now age) b)) := by
  intro m
  induction m with
  | zero =>
    intro k n b h hk h1 h2
    obtain ⟨k, rfl⟩ : ∃ j, k = j + 1 := ⟨k - 1, by omega⟩
    simp only [turn_Choose_l0]
    rw [if_neg (by omega)]
    simp only [List.range', List.foldl, chooseEnd, hd]
    split
    · rfl
    · rename_i hb
      simp only [show 0 ≤ b by omega, h2, if_true]
  | succ m ih =>
    intro k n b h hk h1 h2
    obtain ⟨k, rfl⟩ : ∃ j, k = j + 1 := ⟨k - 1, by omega⟩
    simp only [turn_Choose_l0]
    have hgn : (gs.getD n []).length < 1000000000000 := by
      rw [getD_lt _ (show n < gs.length by omega)]; exact hg _ (List.getElem_mem _)
    rw [if_pos (by omega), if_pos (by omega), if_pos (by omega), Int.toNat_natCast, Front_eq _ _ hgn hl, bind_some_eq, w64_in (by omega) (by omega), List.range'_succ, List.foldl_cons]
    have ih := fun b h1 h2 => ih k (n + 1) b (by omega) (by omega) h1 h2
    rw [show ((n + 1 : Nat) : Int) = (n : Int) + 1 from by omega] at ih
    have hf := front_lt (gs.getD n []) hs
    have hc := chooseS_lt gs hs now age (n := n) h1 h2
    rw [← ih _ hc.1 hc.2]
    generalize hfi : front (gs.getD n []) hs = i at hf
    unfold chooseS
    rw [hfi]
    dsimp only
    by_cases hi : i < 0
    · rw [if_pos hi, if_pos (.inl hi)]
    · rw [if_neg hi, if_pos (by omega), if_pos (by omega)]
      show (bif !(hd hs i).May then _ else _) = _
      cases hmay : (hd hs i).May with
      | false => simp only [Bool.not_false, cond_true]; rw [if_pos (show i < 0 ∨ True from .inr trivial)]
      | true =>
        simp only [Bool.not_true, cond_false]
        simp only [hi, false_or, Bool.true_eq_false, if_false]
        by_cases hb : b < 0
        · rw [if_pos hb, if_pos (.inl hb)]
        · rw [if_neg hb, if_pos (by omega), if_pos (by omega), Rank_eq, bind_some_eq, if_pos (by omega), if_pos (by omega), Rank_eq, bind_some_eq, Compare_eq, bind_some_eq, if_pos (by omega), if_pos (by omega), if_pos (by omega), if_pos (by omega), elder_eq, bind_some_eq, Or_eq _ (by simp), bind_some_eq]
          simp only [hb, false_or]
          unfold hd
          split <;> rfl
def choose (gs : List (List Int)) (hs : List turn_Head) (now age : Int) : Int := chooseEnd hs ((List.range' 0 gs.length).foldl (chooseS gs hs now age) (-1))
theorem Choose_eq (gs : List (List Int)) (hs : List turn_Head) (now age : Int) (hg : ∀ g ∈ gs, g.length < 1000000000000) (hgl : gs.length < 1000000000000) (hl : hs.length < 1000000000000) : turn_Choose gs hs now age = some (choose gs hs now age) :=
  lim_eq (gs.length + 1) fun k hk => Choose_l gs hs now age hg hgl hl gs.length k 0 (-1) (by omega) (by omega) (by omega) (by omega)
theorem known_eq : law25_known = some true := by
  unfold law25_known
  rw [Choose_eq _ _ _ _ (by simp) (by simp) (by simp), bind_some_eq, Choose_eq _ _ _ _ (by simp) (by simp) (by simp), bind_some_eq, Front_eq _ _ (by simp) (by simp), bind_some_eq, Rank_eq, bind_some_eq, Choose_eq _ _ _ _ (by simp) (by simp) (by simp), bind_some_eq]
  decide
end Go.Sy.Tu
/-! Plain laws over turn: the reference; the heads. -/
namespace Go.Sy.Tu
open Go.Sy
def conv (h : turn_Head) : ref25_Head := ref25_Head.mk h.Queue h.Since h.Prio h.May
theorem conv_getD (a : List turn_Head) (n : Nat) (h : n < a.length) : (a.map conv).getD n ref25_Head.z = conv (a.getD n turn_Head.z) := by
  rw [getD_lt _ (by simpa using h), getD_lt _ h, List.getElem_map]
theorem Has_l (l : List Int) (v : Int) (hl : l.length < 1000000000000) : ∀ m n, n + m = l.length → ∀ k, m < k → ref3_Has_l0 k l v (n : Int) = some (decide (v ∈ l.drop n)) := by
  intro m
  induction m with
  | zero =>
    intro n h k hk
    obtain ⟨k, rfl⟩ : ∃ j, k = j + 1 := ⟨k - 1, by omega⟩
    simp only [ref3_Has_l0]
    rw [if_neg (by omega), List.drop_eq_nil_of_le (by omega)]
    simp
  | succ m ih =>
    intro n h k hk
    obtain ⟨k, rfl⟩ : ∃ j, k = j + 1 := ⟨k - 1, by omega⟩
    have hlt : n < l.length := by omega
    have e : w64 ((n : Int) + 1) = ((n + 1 : Nat) : Int) := by rw [w64_in (by omega) (by omega)]; omega
    simp only [ref3_Has_l0]
    rw [if_pos (by omega), if_pos (by omega), if_pos (by omega), Int.toNat_natCast, getD_lt _ hlt, e, ih (n + 1) (by omega) k (by omega), drop_cons hlt]
    by_cases hx : l[n] = v
    · rw [if_pos hx, hx]; simp
    · rw [if_neg hx]
      congr 1
      rw [decide_eq_decide, List.mem_cons]
      exact ⟨.inr, fun q => q.elim (fun q => absurd q.symm hx) id⟩
theorem Has_eq (l : List Int) (v : Int) (hl : l.length < 1000000000000) : ref3_Has l v = some (decide (v ∈ l)) :=
  lim_eq (l.length + 1) fun k hk => Has_l l v hl l.length 0 (by omega) k (by omega)
theorem has_l (l : List Int) (v : Int) (hl : l.length < 1000000000000) : ∀ m n, n + m = l.length → ∀ k, m < k → law25_has_l0 k l v (n : Int) = some (decide (v ∈ l.drop n)) := by
  intro m
  induction m with
  | zero =>
    intro n h k hk
    obtain ⟨k, rfl⟩ : ∃ j, k = j + 1 := ⟨k - 1, by omega⟩
    simp only [law25_has_l0]
    rw [if_neg (by omega), List.drop_eq_nil_of_le (by omega)]
    simp
  | succ m ih =>
    intro n h k hk
    obtain ⟨k, rfl⟩ : ∃ j, k = j + 1 := ⟨k - 1, by omega⟩
    have hlt : n < l.length := by omega
    have e : w64 ((n : Int) + 1) = ((n + 1 : Nat) : Int) := by rw [w64_in (by omega) (by omega)]; omega
    simp only [law25_has_l0]
    rw [if_pos (by omega), if_pos (by omega), if_pos (by omega), Int.toNat_natCast, getD_lt _ hlt, e, ih (n + 1) (by omega) k (by omega), drop_cons hlt]
    by_cases hx : l[n] = v
    · rw [if_pos hx, hx]; simp
    · rw [if_neg hx]
      congr 1
      rw [decide_eq_decide, List.mem_cons]
      exact ⟨.inr, fun q => q.elim (fun q => absurd q.symm hx) id⟩
theorem has_eq (l : List Int) (v : Int) (hl : l.length < 1000000000000) : law25_has l v = some (decide (v ∈ l)) :=
  lim_eq (l.length + 1) fun k hk => has_l l v hl l.length 0 (by omega) k (by omega)
theorem RFront_l (g : List Int) (a : List turn_Head) (hg : g.length < 1000000000000) (hl : a.length < 1000000000000) : ∀ m k n f, n + m = a.length → m < k → (-1 : Int) ≤ f → f < (a.length : Int) →
    ref25_Front_l0 k g (a.map conv) f (n : Int) = some ((List.range' n m).foldl (frontS g a) f) := by
  intro m
  induction m with
  | zero =>
    intro k n f h hk h1 h2
    obtain ⟨k, rfl⟩ : ∃ j, k = j + 1 := ⟨k - 1, by omega⟩
    simp only [ref25_Front_l0, List.length_map]
    rw [if_neg (by omega)]; rfl
  | succ m ih =>
    intro k n f h hk h1 h2
    obtain ⟨k, rfl⟩ : ∃ j, k = j + 1 := ⟨k - 1, by omega⟩
    have hn : n < a.length := by omega
    simp only [ref25_Front_l0, List.length_map]
    rw [if_pos (by omega), if_pos (by omega), if_pos (by omega), Int.toNat_natCast, conv_getD a n hn, Has_eq _ _ hg, bind_some_eq, w64_in (by omega) (by omega), List.range'_succ, List.foldl_cons]
    have ih := fun f h1 h2 => ih k (n + 1) f (by omega) (by omega) h1 h2
    rw [show ((n + 1 : Nat) : Int) = (n : Int) + 1 from by omega] at ih
    rw [show frontS g a f n = (if (a.getD n turn_Head.z).Queue ∈ g ∧ (f < 0 ∨ elderI (a.getD n turn_Head.z) (a.getD f.toNat turn_Head.z) < 0) then (n : Int) else f) from rfl]
    show (bif decide ((a.getD n turn_Head.z).Queue ∈ g) then _ else _) = _
    by_cases hm : (a.getD n turn_Head.z).Queue ∈ g
    · simp only [hm, decide_true, cond_true, true_and]
      by_cases hf : f < 0
      · simp only [hf, if_true, true_or]
        exact ih _ (by omega) (by omega)
      · have g0 : 0 ≤ f := by omega
        have hfl : f.toNat < a.length := by omega
        simp only [hf, g0, h2, if_true, if_false, false_or, conv_getD a f.toNat hfl, elderI_neg]
        generalize a.getD n turn_Head.z = x
        generalize a.getD f.toNat turn_Head.z = y
        show (if x.Since < y.Since then _ else if x.Since = y.Since then if x.Queue < y.Queue then _ else _ else _) = _
        by_cases e1 : x.Since < y.Since
        · rw [if_pos e1, if_pos (.inl e1)]; exact ih _ (by omega) (by omega)
        · rw [if_neg e1]
          by_cases e2 : x.Since = y.Since
          · rw [if_pos e2]
            by_cases e3 : x.Queue < y.Queue
            · rw [if_pos e3, if_pos (.inr ⟨e2, e3⟩)]; exact ih _ (by omega) (by omega)
            · rw [if_neg e3, if_neg (fun q => q.elim e1 fun q => e3 q.2)]; exact ih _ h1 h2
          · rw [if_neg e2, if_neg (fun q => q.elim e1 fun q => e2 q.1)]; exact ih _ h1 h2
    · simp only [hm, decide_false, cond_false, false_and, if_false]
      exact ih _ h1 h2
theorem RFront_eq (g : List Int) (a : List turn_Head) (hg : g.length < 1000000000000) (hl : a.length < 1000000000000) : ref25_Front g (a.map conv) = some (front g a) :=
  lim_eq (a.length + 1) fun k hk => RFront_l g a hg hl a.length k 0 (-1) (by omega) (by omega) (by omega) (by omega)
theorem RRank_eq (h : turn_Head) (now age : Int) (ha : 1 ≤ age) : ref25_Rank (conv h) now age = some (rankI h now age) := by
  unfold ref25_Rank rankI conv
  rw [if_pos (by omega), if_neg (by omega)]
theorem orI_two (x y : Int) : orI [x, y] = if x = 0 then y else x := by
  unfold orI
  by_cases h : x = 0
  · simp [h, orI]
    try (intro q; omega)
  · simp [h, orI]
theorem cmpI_zero (a b : Int) : cmpI a b = 0 ↔ a = b := by unfold cmpI; split <;> (try split) <;> omega
theorem cmpI_neg (a b : Int) : cmpI a b < 0 ↔ a < b := by unfold cmpI; split <;> (try split) <;> omega
theorem over_iff (b i : turn_Head) (now age : Int) : orI [cmpI (rankI b now age) (rankI i now age), elderI i b] < 0 ↔ rankI b now age < rankI i now age ∨ (rankI b now age = rankI i now age ∧ elderI i b < 0) := by
  rw [orI_two]
  by_cases h : cmpI (rankI b now age) (rankI i now age) = 0
  · rw [if_pos h]
    have := (cmpI_zero _ _).1 h
    constructor
    · intro q; exact .inr ⟨this, q⟩
    · rintro (q | q)
      · omega
      · exact q.2
  · rw [if_neg h, cmpI_neg]
    have : ¬ rankI b now age = rankI i now age := fun q => h ((cmpI_zero _ _).2 q)
    constructor
    · exact .inl
    · rintro (q | q)
      · exact q
      · exact absurd q.1 this
theorem ahead_eq (i b : turn_Head) (now age : Int) (ha : 1 ≤ age) : ref25_ahead (conv i) (conv b) now age = some (decide (orI [cmpI (rankI b now age) (rankI i now age), elderI i b] < 0)) := by
  unfold ref25_ahead
  rw [RRank_eq i now age ha, RRank_eq b now age ha, bind_some_eq, bind_some_eq]
  have key := over_iff b i now age
  rw [elderI_neg] at key
  show (if rankI b now age < rankI i now age then _ else if rankI i now age = rankI b now age then if i.Since < b.Since then _ else if i.Since = b.Since then some (decide (i.Queue < b.Queue)) else _ else _) = _
  by_cases h1 : rankI b now age < rankI i now age
  · rw [if_pos h1, decide_eq_true (key.2 (.inl h1))]
  · rw [if_neg h1]
    by_cases h2 : rankI i now age = rankI b now age
    · rw [if_pos h2]
      by_cases h3 : i.Since < b.Since
      · rw [if_pos h3, decide_eq_true (key.2 (.inr ⟨h2.symm, .inl h3⟩))]
      · rw [if_neg h3]
        by_cases h4 : i.Since = b.Since
        · rw [if_pos h4]
          congr 1
          rw [decide_eq_decide, key]
          constructor
          · intro q; exact .inr ⟨h2.symm, .inr ⟨h4, q⟩⟩
          · rintro (q | ⟨_, q | q⟩)
            · omega
            · omega
            · exact q.2
        · rw [if_neg h4, decide_eq_false]
          rw [key]
          rintro (q | ⟨_, q | q⟩)
          · omega
          · omega
          · exact h4 q.1
    · rw [if_neg h2, decide_eq_false]
      rw [key]
      rintro (q | q)
      · omega
      · exact h2 q.1.symm
theorem RChoose_l (gs : List (List Int)) (hs : List turn_Head) (now age : Int) (ha : 1 ≤ age) (hg : ∀ g ∈ gs, g.length < 1000000000000) (hgl : gs.length < 1000000000000) (hl : hs.length < 1000000000000) : ∀ m k n b, n + m = gs.length → m < k → (-1 : Int) ≤ b → b < (hs.length : Int) →
    ref25_Choose_l0 k gs (hs.map conv) now age b (n : Int) = some (chooseEnd hs ((List.range' n m).foldl (chooseS gs hs now age) b)) := by
  intro m
  induction m with
  | zero =>
    intro k n b h hk h1 h2
    obtain ⟨k, rfl⟩ : ∃ j, k = j + 1 := ⟨k - 1, by omega⟩
    simp only [ref25_Choose_l0, List.length_map]
    rw [if_neg (by omega)]
    simp only [List.range', List.foldl, chooseEnd, hd]
    split
    · rfl
    · rename_i hb
      simp only [show 0 ≤ b by omega, h2, if_true, conv_getD hs b.toNat (by omega)]
      rfl
  | succ m ih =>
    intro k n b h hk h1 h2
    obtain ⟨k, rfl⟩ : ∃ j, k = j + 1 := ⟨k - 1, by omega⟩
    simp only [ref25_Choose_l0, List.length_map]
    have hgn : (gs.getD n []).length < 1000000000000 := by
      rw [getD_lt _ (show n < gs.length by omega)]; exact hg _ (List.getElem_mem _)
    rw [if_pos (by omega), if_pos (by omega), if_pos (by omega), Int.toNat_natCast, RFront_eq _ _ hgn hl, bind_some_eq, w64_in (by omega) (by omega), List.range'_succ, List.foldl_cons]
    have ih := fun b h1 h2 => ih k (n + 1) b (by omega) (by omega) h1 h2
    rw [show ((n + 1 : Nat) : Int) = (n : Int) + 1 from by omega] at ih
    have hf := front_lt (gs.getD n []) hs
    have hc := chooseS_lt gs hs now age (n := n) h1 h2
    rw [← ih _ hc.1 hc.2]
    generalize hfi : front (gs.getD n []) hs = i at hf
    unfold chooseS
    rw [hfi]
    dsimp only
    by_cases hi : i < 0
    · rw [if_neg (by omega), if_pos (.inl hi)]
    · rw [if_pos (by omega), if_pos (by omega), if_pos (by omega), conv_getD hs i.toNat (by omega)]
      show (bif (hd hs i).May then _ else _) = _
      cases hmay : (hd hs i).May with
      | false => simp only [cond_false]; rw [if_pos (show i < 0 ∨ True from .inr trivial)]
      | true =>
        simp only [cond_true]
        simp only [hi, false_or, Bool.true_eq_false, if_false]
        by_cases hb : b < 0
        · rw [if_pos hb, if_pos (.inl hb)]
        · rw [if_neg hb, if_pos (by omega), if_pos (by omega), if_pos (by omega), if_pos (by omega), conv_getD hs b.toNat (by omega), ahead_eq _ _ _ _ ha, bind_some_eq]
          simp only [hb, false_or]
          unfold hd
          by_cases ho : orI [cmpI (rankI (hs.getD b.toNat turn_Head.z) now age) (rankI (hs.getD i.toNat turn_Head.z) now age), elderI (hs.getD i.toNat turn_Head.z) (hs.getD b.toNat turn_Head.z)] < 0
          · rw [decide_eq_true ho, cond_true, if_pos ho]
          · rw [decide_eq_false ho, cond_false, if_neg ho]
theorem RChoose_eq (gs : List (List Int)) (hs : List turn_Head) (now age : Int) (ha : 1 ≤ age) (hg : ∀ g ∈ gs, g.length < 1000000000000) (hgl : gs.length < 1000000000000) (hl : hs.length < 1000000000000) : ref25_Choose gs (hs.map conv) now age = some (choose gs hs now age) :=
  lim_eq (gs.length + 1) fun k hk => RChoose_l gs hs now age ha hg hgl hl gs.length k 0 (-1) (by omega) (by omega) (by omega) (by omega)
/-! The heads. -/
def raw (l : List law25_Raw) (i : Nat) : law25_Raw := l.getD i law25_Raw.z
def hA (l : List law25_Raw) (now : Int) (i : Nat) : turn_Head := turn_Head.mk (i : Int) ((raw l i).Since.tmod (now + 1)) ((raw l i).Prio.tmod 8) (raw l i).May
def aP (l : List law25_Raw) (now : Int) : Nat → List turn_Head
  | 0 => []
  | n + 1 => if (raw l n).There then aP l now n ++ [hA l now n] else aP l now n
def kP (g : List Int) (i : Nat) : Int := if i < g.length then (g.getD i 0).tmod 4 else 0
def cP (g : List Int) (j : Int) : Nat → List Int
  | 0 => []
  | n + 1 => if kP g n = j then cP g j n ++ [(n : Int)] else cP g j n
theorem aP_len (l : List law25_Raw) (now : Int) : ∀ n, (aP l now n).length ≤ n := by
  intro n
  induction n with
  | zero => exact Nat.le_refl _
  | succ n ih =>
    unfold aP
    split
    · rw [List.length_append, List.length_singleton]; omega
    · omega
theorem cP_len (g : List Int) (j : Int) : ∀ n, (cP g j n).length ≤ n := by
  intro n
  induction n with
  | zero => exact Nat.le_refl _
  | succ n ih =>
    unfold cP
    split
    · rw [List.length_append, List.length_singleton]; omega
    · omega
def gsP (g : List Int) (n : Nat) : List (List Int) := [cP g 0 n, cP g 1 n, cP g 2 n, cP g 3 n]
/-- What is known of the numbers that come in. -/
def Ok (l : List law25_Raw) (g : List Int) (now : Int) : Prop := (∀ i, 0 ≤ (raw l i).Since ∧ (raw l i).Since ≤ 65535 ∧ 0 ≤ (raw l i).Prio ∧ (raw l i).Prio ≤ 255) ∧ (∀ i : Nat, 0 ≤ g.getD i 0 ∧ g.getD i 0 ≤ 255) ∧ 0 ≤ now ∧ now < 3000
theorem kP_range {l : List law25_Raw} {g : List Int} {now : Int} (h : Ok l g now) (i : Nat) : 0 ≤ kP g i ∧ kP g i < 4 := by
  have := h.2.1 i
  unfold kP
  split
  · rw [Int.tmod_eq_emod_of_nonneg (by omega)]; omega
  · omega
theorem heads_l (l : List law25_Raw) (g : List Int) (now : Int) (hO : Ok l g now) : ∀ m n, n + m = min l.length 20 → ∀ k, 2 * m + 1 ≤ k →
    law25_heads_l0 k l g now (aP l now n) ((aP l now n).map conv) (cP g 0 n) (cP g 1 n) (cP g 2 n) (cP g 3 n) (n : Int) = some (aP l now (min l.length 20), (aP l now (min l.length 20)).map conv, gsP g (min l.length 20)) := by
  intro m
  induction m with
  | zero =>
    intro n h k hk
    obtain ⟨k, rfl⟩ : ∃ j, k = j + 1 := ⟨k - 1, by omega⟩
    simp only [law25_heads_l0]
    obtain rfl : n = min l.length 20 := by omega
    by_cases hl : ((min l.length 20 : Nat) : Int) < (l.length : Int)
    · rw [if_pos hl, if_neg (by omega)]; rfl
    · rw [if_neg hl]; rfl
  | succ m ih =>
    intro n h k hk
    obtain ⟨k, rfl⟩ : ∃ j, k = j + 2 := ⟨k - 2, by omega⟩
    have hn : n < l.length := by omega
    have hn20 : n < 20 := by omega
    have ih := ih (n + 1) (by omega) k (by omega)
    have e : w64 ((n : Int) + 1) = ((n + 1 : Nat) : Int) := by rw [w64_in (by omega) (by omega)]; omega
    obtain ⟨r1, r2, r3, r4⟩ := hO.1 n
    have hnow := hO.2.2
    have e2 : w64 (now + 1) = now + 1 := w64_in (by omega) (by omega)
    have hal := aP_len l now n
    -- the second half of a round
    have hc0 : ∀ c0 c1 c2 c3 : List Int, c0 = cP g 0 (n + 1) → c1 = cP g 1 (n + 1) → c2 = cP g 2 (n + 1) → c3 = cP g 3 (n + 1) →
        law25_heads_c0 (k + 1) l g now (aP l now n) ((aP l now n).map conv) c0 c1 c2 c3 (n : Int) = some (aP l now (min l.length 20), (aP l now (min l.length 20)).map conv, gsP g (min l.length 20)) := by
      rintro c0 c1 c2 c3 rfl rfl rfl rfl
      simp only [law25_heads_c0]
      rw [if_pos (by omega), if_pos (by omega), Int.toNat_natCast]
      show (bif (raw l n).There then _ else _) = _
      have hstep : aP l now (n + 1) = if (raw l n).There then aP l now n ++ [hA l now n] else aP l now n := rfl
      cases hT : (raw l n).There with
      | false =>
        rw [cond_false, e]
        rw [hT] at hstep
        simp only [Bool.false_eq_true, if_false] at hstep
        rw [← hstep]
        exact ih
      | true =>
        rw [hT] at hstep
        simp only [if_true] at hstep
        rw [cond_true, if_pos (by omega), if_pos (by omega), e2, if_pos (by omega), if_pos (by omega), if_pos (by omega), if_pos (by decide), if_pos (by omega), if_pos (by omega)]
        have q1 : ∀ x : turn_Head, ((aP l now n).length + [x].length) * 32 ≤ 140737488355328 := fun x => by rw [List.length_singleton]; omega
        have q2 : ∀ x : ref25_Head, (((aP l now n).map conv).length + [x].length) * 32 ≤ 140737488355328 := fun x => by rw [List.length_singleton, List.length_map]; omega
        rw [if_pos (q1 _), if_pos (by omega), if_pos (by omega), if_pos (q2 _), e]
        have w1 : w64 (l.getD n law25_Raw.z).Since = (raw l n).Since := w64_in (by show _ ≤ (raw l n).Since; omega) (by show (raw l n).Since ≤ _; omega)
        have w2 : w64 (l.getD n law25_Raw.z).Prio = (raw l n).Prio := w64_in (by show _ ≤ (raw l n).Prio; omega) (by show (raw l n).Prio ≤ _; omega)
        rw [w1, w2]
        have m1 : aP l now n ++ [turn_Head.mk (n : Int) ((raw l n).Since.tmod (now + 1)) ((raw l n).Prio.tmod 8) (l.getD n law25_Raw.z).May] = aP l now (n + 1) := hstep.symm
        have m2 : (aP l now n).map conv ++ [ref25_Head.mk (n : Int) ((raw l n).Since.tmod (now + 1)) ((raw l n).Prio.tmod 8) (l.getD n law25_Raw.z).May] = (aP l now (n + 1)).map conv := by
          rw [hstep, List.map_append]; rfl
        rw [m1, m2]
        exact ih
    have hcl := fun j => cP_len g j n
    have q : ∀ j, ((cP g j n).length + [((n : Nat) : Int)].length) * 8 ≤ 140737488355328 := fun j => by have := hcl j; rw [List.length_singleton]; omega
    have cs : ∀ j, cP g j (n + 1) = if kP g n = j then cP g j n ++ [(n : Int)] else cP g j n := fun j => rfl
    have hcut : ∀ κ : Int, κ = kP g n → (if 0 ≤ κ then if κ < 4 then
        if κ = 0 then if ((cP g 0 n).length + [((n : Nat) : Int)].length) * 8 ≤ 140737488355328 then if 0 ≤ κ then if κ < 4 then
          if κ = 0 then law25_heads_c0 (k + 1) l g now (aP l now n) ((aP l now n).map conv) (cP g 0 n ++ [(n : Int)]) (cP g 1 n) (cP g 2 n) (cP g 3 n) (n : Int) else if κ = 1 then none else if κ = 2 then none else if κ = 3 then none else none else none else none else none else
        if κ = 1 then if ((cP g 1 n).length + [((n : Nat) : Int)].length) * 8 ≤ 140737488355328 then if 0 ≤ κ then if κ < 4 then
          if κ = 0 then none else if κ = 1 then law25_heads_c0 (k + 1) l g now (aP l now n) ((aP l now n).map conv) (cP g 0 n) (cP g 1 n ++ [(n : Int)]) (cP g 2 n) (cP g 3 n) (n : Int) else if κ = 2 then none else if κ = 3 then none else none else none else none else none else
        if κ = 2 then if ((cP g 2 n).length + [((n : Nat) : Int)].length) * 8 ≤ 140737488355328 then if 0 ≤ κ then if κ < 4 then
          if κ = 0 then none else if κ = 1 then none else if κ = 2 then law25_heads_c0 (k + 1) l g now (aP l now n) ((aP l now n).map conv) (cP g 0 n) (cP g 1 n) (cP g 2 n ++ [(n : Int)]) (cP g 3 n) (n : Int) else if κ = 3 then none else none else none else none else none else
        if κ = 3 then if ((cP g 3 n).length + [((n : Nat) : Int)].length) * 8 ≤ 140737488355328 then if 0 ≤ κ then if κ < 4 then
          if κ = 0 then none else if κ = 1 then none else if κ = 2 then none else if κ = 3 then law25_heads_c0 (k + 1) l g now (aP l now n) ((aP l now n).map conv) (cP g 0 n) (cP g 1 n) (cP g 2 n) (cP g 3 n ++ [(n : Int)]) (n : Int) else none else none else none else none else none else none else none) = some (aP l now (min l.length 20), (aP l now (min l.length 20)).map conv, gsP g (min l.length 20)) := by
      rintro κ hκ
      have hr := kP_range hO n
      rw [← hκ] at hr
      have h4 : κ = 0 ∨ κ = 1 ∨ κ = 2 ∨ κ = 3 := by omega
      rcases h4 with rfl | rfl | rfl | rfl
      · simp only [Int.reduceEq, Int.reduceLE, Int.reduceLT, if_true, if_false, q]
        exact hc0 _ _ _ _ (by rw [cs, ← hκ]; rfl) (by rw [cs, ← hκ]; rfl) (by rw [cs, ← hκ]; rfl) (by rw [cs, ← hκ]; rfl)
      · simp only [Int.reduceEq, Int.reduceLE, Int.reduceLT, if_true, if_false, q]
        exact hc0 _ _ _ _ (by rw [cs, ← hκ]; rfl) (by rw [cs, ← hκ]; rfl) (by rw [cs, ← hκ]; rfl) (by rw [cs, ← hκ]; rfl)
      · simp only [Int.reduceEq, Int.reduceLE, Int.reduceLT, if_true, if_false, q]
        exact hc0 _ _ _ _ (by rw [cs, ← hκ]; rfl) (by rw [cs, ← hκ]; rfl) (by rw [cs, ← hκ]; rfl) (by rw [cs, ← hκ]; rfl)
      · simp only [Int.reduceEq, Int.reduceLE, Int.reduceLT, if_true, if_false, q]
        exact hc0 _ _ _ _ (by rw [cs, ← hκ]; rfl) (by rw [cs, ← hκ]; rfl) (by rw [cs, ← hκ]; rfl) (by rw [cs, ← hκ]; rfl)
    simp only [law25_heads_l0]
    rw [if_pos (by omega), if_pos (by omega)]
    by_cases hg : n < g.length
    · rw [if_pos (by omega), if_pos (by omega), if_pos (by omega), if_pos (by decide), Int.toNat_natCast]
      have hgn := hO.2.1 n
      exact hcut ((w64 (g.getD n 0)).tmod 4) (by rw [w64_in (by omega) (by omega)]; unfold kP; rw [if_pos hg])
    · rw [if_neg (by omega)]
      exact hcut 0 (by unfold kP; rw [if_neg hg])
theorem heads_eq (l : List law25_Raw) (g : List Int) (now : Int) (hO : Ok l g now) : law25_heads l g now = some (aP l now (min l.length 20), (aP l now (min l.length 20)).map conv, gsP g (min l.length 20)) :=
  lim_eq 41 fun k hk => heads_l l g now hO (min l.length 20) 0 (by omega) k (by omega)
end Go.Sy.Tu
/-! Plain laws over turn: TurnTells, TurnAged, TurnStands. -/
namespace Go.Sy.Tu
open Go.Sy
theorem range'_last (n : Nat) : List.range' 0 (n + 1) = List.range' 0 n ++ [n] := by
  rw [List.range'_concat]; simp
theorem front_in (g : List Int) (hs : List turn_Head) : ∀ n, n ≤ hs.length → (List.range' 0 n).foldl (frontS g hs) (-1) = -1 ∨ (0 ≤ (List.range' 0 n).foldl (frontS g hs) (-1) ∧ (hd hs ((List.range' 0 n).foldl (frontS g hs) (-1))).Queue ∈ g) := by
  intro n
  induction n with
  | zero => intro _; exact .inl rfl
  | succ n ih =>
    intro h
    rw [range'_last, List.foldl_append, List.foldl_cons, List.foldl_nil]
    rw [show frontS g hs ((List.range' 0 n).foldl (frontS g hs) (-1)) n = (if (hs.getD n turn_Head.z).Queue ∈ g ∧ (((List.range' 0 n).foldl (frontS g hs) (-1)) < 0 ∨ elderI (hs.getD n turn_Head.z) (hs.getD ((List.range' 0 n).foldl (frontS g hs) (-1)).toNat turn_Head.z) < 0) then (n : Int) else (List.range' 0 n).foldl (frontS g hs) (-1)) from rfl]
    split
    · rename_i hc
      refine .inr ⟨by omega, ?_⟩
      unfold hd
      rw [Int.toNat_natCast]
      exact hc.1
    · exact ih (by omega)
theorem front_mem (g : List Int) (hs : List turn_Head) (h : 0 ≤ front g hs) : (hd hs (front g hs)).Queue ∈ g := by
  rcases front_in g hs hs.length (Nat.le_refl _) with q | q
  · have : front g hs = -1 := q
    omega
  · exact q.2
/-- May a group's front go? -/
def canGo (gs : List (List Int)) (hs : List turn_Head) (j : Nat) : Prop := 0 ≤ front (gs.getD j []) hs ∧ (hd hs (front (gs.getD j []) hs)).May = true
theorem choose_fold (gs : List (List Int)) (hs : List turn_Head) (now age : Int) : ∀ n, 
    ((List.range' 0 n).foldl (chooseS gs hs now age) (-1) = -1 ∨ (0 ≤ (List.range' 0 n).foldl (chooseS gs hs now age) (-1) ∧ ∃ j, j < n ∧ canGo gs hs j ∧ front (gs.getD j []) hs = (List.range' 0 n).foldl (chooseS gs hs now age) (-1))) ∧
    ∀ j, j < n → canGo gs hs j → 0 ≤ (List.range' 0 n).foldl (chooseS gs hs now age) (-1) ∧ rankI (hd hs (front (gs.getD j []) hs)) now age ≤ rankI (hd hs ((List.range' 0 n).foldl (chooseS gs hs now age) (-1))) now age := by
  intro n
  induction n with
  | zero => exact ⟨.inl rfl, fun j hj => by omega⟩
  | succ n ih =>
    rw [range'_last, List.foldl_append, List.foldl_cons, List.foldl_nil]
    generalize (List.range' 0 n).foldl (chooseS gs hs now age) (-1) = b at ih
    obtain ⟨i1, i2⟩ := ih
    have step : chooseS gs hs now age b n = if front (gs.getD n []) hs < 0 ∨ (hd hs (front (gs.getD n []) hs)).May = false then b else if b < 0 ∨ orI [cmpI (rankI (hd hs b) now age) (rankI (hd hs (front (gs.getD n []) hs)) now age), elderI (hd hs (front (gs.getD n []) hs)) (hd hs b)] < 0 then front (gs.getD n []) hs else b := rfl
    rw [step]
    by_cases h1 : front (gs.getD n []) hs < 0 ∨ (hd hs (front (gs.getD n []) hs)).May = false
    · rw [if_pos h1]
      refine ⟨i1.imp id fun ⟨q, j, hj, hc⟩ => ⟨q, j, by omega, hc⟩, fun j hj hc => ?_⟩
      by_cases e : j = n
      · subst e
        obtain ⟨c1, c2⟩ := hc
        rcases h1 with h1 | h1
        · omega
        · rw [c2] at h1; cases h1
      · exact i2 j (by omega) hc
    · rw [if_neg h1]
      have hgo : canGo gs hs n := ⟨by omega, by
        cases hm : (hd hs (front (gs.getD n []) hs)).May with
        | true => rfl
        | false => exact absurd (.inr hm) h1⟩
      by_cases h2 : b < 0 ∨ orI [cmpI (rankI (hd hs b) now age) (rankI (hd hs (front (gs.getD n []) hs)) now age), elderI (hd hs (front (gs.getD n []) hs)) (hd hs b)] < 0
      · rw [if_pos h2]
        refine ⟨.inr ⟨hgo.1, n, by omega, hgo, rfl⟩, fun j hj hc => ⟨hgo.1, ?_⟩⟩
        by_cases e : j = n
        · subst e; exact Int.le_refl _
        · obtain ⟨q1, q2⟩ := i2 j (by omega) hc
          rcases h2 with h2 | h2
          · omega
          · rcases (over_iff _ _ _ _).1 h2 with h3 | h3
            · omega
            · omega
      · rw [if_neg h2]
        refine ⟨i1.imp id fun ⟨q, j, hj, hc⟩ => ⟨q, j, by omega, hc⟩, fun j hj hc => ?_⟩
        by_cases e : j = n
        · subst e
          refine ⟨by omega, ?_⟩
          by_cases q : rankI (hd hs b) now age < rankI (hd hs (front (gs.getD j []) hs)) now age
          · exact absurd (.inr ((over_iff _ _ _ _).2 (.inl q))) h2
          · omega
        · exact i2 j (by omega) hc
theorem aP_facts (l : List law25_Raw) (g : List Int) (now : Int) (hO : Ok l g now) : ∀ n, (∀ h ∈ aP l now n, 0 ≤ h.Queue ∧ h.Queue < (n : Int) ∧ 0 ≤ h.Since ∧ h.Since ≤ now ∧ 0 ≤ h.Prio ∧ h.Prio < 8) ∧ (aP l now n).Pairwise fun x y => x.Queue < y.Queue := by
  intro n
  induction n with
  | zero => exact ⟨fun h hh => (by cases hh), List.Pairwise.nil⟩
  | succ n ih =>
    obtain ⟨i1, i2⟩ := ih
    unfold aP
    have hnow := hO.2.2
    obtain ⟨r1, r2, r3, r4⟩ := hO.1 n
    split
    · refine ⟨fun h hh => ?_, ?_⟩
      · rcases List.mem_append.1 hh with hh | hh
        · obtain ⟨q1, q2, q3, q4, q5, q6⟩ := i1 h hh
          exact ⟨q1, by omega, q3, q4, q5, q6⟩
        · rw [List.mem_singleton] at hh
          subst hh
          refine ⟨by show (0 : Int) ≤ (n : Int); omega, by show (n : Int) < ((n + 1 : Nat) : Int); omega, ?_⟩
          show 0 ≤ (raw l n).Since.tmod (now + 1) ∧ (raw l n).Since.tmod (now + 1) ≤ now ∧ 0 ≤ (raw l n).Prio.tmod 8 ∧ (raw l n).Prio.tmod 8 < 8
          rw [Int.tmod_eq_emod_of_nonneg (by omega), Int.tmod_eq_emod_of_nonneg (by omega)]
          have e1 := Int.emod_nonneg (raw l n).Since (show now + 1 ≠ 0 by omega)
          have e2 := Int.emod_lt_of_pos (raw l n).Since (show 0 < now + 1 by omega)
          omega
      · rw [List.pairwise_append]
        refine ⟨i2, List.pairwise_singleton _ _, fun x hx y hy => ?_⟩
        rw [List.mem_singleton] at hy
        subst hy
        exact (i1 x hx).2.1
    · exact ⟨fun h hh => by
        obtain ⟨q1, q2, q3, q4, q5, q6⟩ := i1 h hh
        exact ⟨q1, by omega, q3, q4, q5, q6⟩, i2⟩
theorem queue_inj {a : List turn_Head} (hp : a.Pairwise fun x y => x.Queue < y.Queue) {i j : Nat} (hi : i < a.length) (hj : j < a.length) (h : (a.getD i turn_Head.z).Queue = (a.getD j turn_Head.z).Queue) : i = j := by
  rw [getD_lt _ hi, getD_lt _ hj] at h
  rw [List.pairwise_iff_getElem] at hp
  rcases Nat.lt_trichotomy i j with q | q | q
  · have := hp i j hi hj q; omega
  · exact q
  · have := hp j i hj hi q; omega
theorem cP_mem (g : List Int) (j : Int) : ∀ n (v : Int), v ∈ cP g j n → ∃ i : Nat, i < n ∧ v = (i : Int) ∧ kP g i = j := by
  intro n
  induction n with
  | zero => intro v h; cases h
  | succ n ih =>
    intro v h
    unfold cP at h
    split at h
    · rcases List.mem_append.1 h with h | h
      · obtain ⟨i, hi, q⟩ := ih v h
        exact ⟨i, by omega, q⟩
      · rw [List.mem_singleton] at h
        exact ⟨n, by omega, h, by assumption⟩
    · obtain ⟨i, hi, q⟩ := ih v h
      exact ⟨i, by omega, q⟩
theorem gsP_get (g : List Int) (n j : Nat) (h : j < 4) : (gsP g n).getD j [] = cP g (j : Int) n := by
  have : j = 0 ∨ j = 1 ∨ j = 2 ∨ j = 3 := by omega
  rcases this with rfl | rfl | rfl | rfl <;> rfl
theorem gsP_len (g : List Int) (n : Nat) : (gsP g n).length = 4 := rfl
theorem gsP_small (g : List Int) (n : Nat) (hn : n ≤ 20) : ∀ x ∈ gsP g n, x.length < 1000000000000 := by
  intro x hx
  unfold gsP at hx
  simp only [List.mem_cons, List.not_mem_nil, or_false] at hx
  have := fun j => cP_len g j n
  rcases hx with rfl | rfl | rfl | rfl
  · have := this 0; omega
  · have := this 1; omega
  · have := this 2; omega
  · have := this 3; omega
/-! TurnTells -/
theorem tells_l1 (n k_ : Int) (a : List turn_Head) (gs : List (List Int)) (hk_ : 1 ≤ k_) (hg : ∀ g ∈ gs, g.length < 1000000000000) (hgl : gs.length < 1000000000000) (hl : a.length < 1000000000000) : ∀ m i, i + m = a.length → ∀ k, m + 1 ≤ k → law25_TurnTells_l1 k n k_ a (a.map conv) gs (i : Int) = some true := by
  intro m
  induction m with
  | zero =>
    intro i h k hk
    obtain ⟨k, rfl⟩ : ∃ j, k = j + 1 := ⟨k - 1, by omega⟩
    simp only [law25_TurnTells_l1]
    rw [if_neg (by omega), Choose_eq gs a n k_ hg hgl hl, RChoose_eq gs a n k_ hk_ hg hgl hl, bind_some_eq, bind_some_eq, if_pos rfl, known_eq]
    rfl
  | succ m ih =>
    intro i h k hk
    obtain ⟨k, rfl⟩ : ∃ j, k = j + 1 := ⟨k - 1, by omega⟩
    have e : w64 ((i : Int) + 1) = ((i + 1 : Nat) : Int) := by rw [w64_in (by omega) (by omega)]; omega
    simp only [law25_TurnTells_l1, List.length_map]
    rw [if_pos (by omega), if_pos (by omega), if_pos (by omega), Rank_eq, bind_some_eq, if_pos (by omega), if_pos (by omega), Int.toNat_natCast, conv_getD a i (by omega), RRank_eq _ _ _ hk_, bind_some_eq, if_neg (by simp), e]
    exact ih (i + 1) (by omega) k (by omega)
theorem tells_l0 (n k_ : Int) (a : List turn_Head) (gs : List (List Int)) (hk_ : 1 ≤ k_) (hg : ∀ g ∈ gs, g.length < 1000000000000) (hgl : gs.length < 1000000000000) (hl : a.length < 1000000000000) : ∀ m i, i + m = gs.length → ∀ k, m + a.length + 2 ≤ k → law25_TurnTells_l0 k n k_ a (a.map conv) gs (i : Int) = some true := by
  intro m
  induction m with
  | zero =>
    intro i h k hk
    obtain ⟨k, rfl⟩ : ∃ j, k = j + 1 := ⟨k - 1, by omega⟩
    simp only [law25_TurnTells_l0]
    rw [if_neg (by omega)]
    exact tells_l1 n k_ a gs hk_ hg hgl hl a.length 0 (by omega) k (by omega)
  | succ m ih =>
    intro i h k hk
    obtain ⟨k, rfl⟩ : ∃ j, k = j + 1 := ⟨k - 1, by omega⟩
    have e : w64 ((i : Int) + 1) = ((i + 1 : Nat) : Int) := by rw [w64_in (by omega) (by omega)]; omega
    have hgn : (gs.getD i []).length < 1000000000000 := by
      rw [getD_lt _ (show i < gs.length by omega)]; exact hg _ (List.getElem_mem _)
    simp only [law25_TurnTells_l0]
    rw [if_pos (by omega), if_pos (by omega), if_pos (by omega), Int.toNat_natCast, Front_eq _ _ hgn hl, bind_some_eq, if_pos (by omega), if_pos (by omega), RFront_eq _ _ hgn hl, bind_some_eq, if_neg (by simp), e]
    exact ih (i + 1) (by omega) k (by omega)
theorem now_ok (l : List law25_Raw) (g : List Int) (now : Int) (h1 : ∀ i, 0 ≤ (raw l i).Since ∧ (raw l i).Since ≤ 65535 ∧ 0 ≤ (raw l i).Prio ∧ (raw l i).Prio ≤ 255) (h2 : ∀ i : Nat, 0 ≤ g.getD i 0 ∧ g.getD i 0 ≤ 255) (hn : 0 ≤ now ∧ now ≤ 65535) : Ok l g ((w64 now).tmod 3000) := by
  rw [w64_in (by omega) (by omega)]
  refine ⟨h1, h2, ?_⟩
  rw [Int.tmod_eq_emod_of_nonneg (by omega)]
  omega
theorem Tells_true (l : List law25_Raw) (g : List Int) (now age : Int) (h1 : ∀ i, 0 ≤ (raw l i).Since ∧ (raw l i).Since ≤ 65535 ∧ 0 ≤ (raw l i).Prio ∧ (raw l i).Prio ≤ 255) (h2 : ∀ i : Nat, 0 ≤ g.getD i 0 ∧ g.getD i 0 ≤ 255) (hn : 0 ≤ now ∧ now ≤ 65535) (ha : 0 ≤ age ∧ age ≤ 65535) : law25_TurnTells l g now age = some true := by
  refine lim_eq 100 fun k hk => ?_
  unfold law25_TurnTells_f
  have hO := now_ok l g now h1 h2 hn
  have hl := aP_len l ((w64 now).tmod 3000) (min l.length 20)
  have hage : 1 ≤ w64 (1 + (w64 age).tmod 300) := by
    rw [w64_in (n := age) (by omega) (by omega), Int.tmod_eq_emod_of_nonneg (by omega), w64_in (by omega) (by omega)]; omega
  rw [if_pos (by decide), if_pos (by decide), heads_eq l g _ hO, bind_some_eq]
  dsimp only
  exact tells_l0 _ _ _ _ hage (gsP_small g _ (by omega)) (by rw [gsP_len]; decide) (by omega) 4 0 (by rw [gsP_len]) k (by omega)
/-! TurnAged -/
theorem rank_val (h : turn_Head) (now age : Int) (hn : 0 ≤ now ∧ now < 3000) (ha : 1 ≤ age) (hs : 0 ≤ h.Since ∧ h.Since ≤ now) (hp : 0 ≤ h.Prio ∧ h.Prio < 8) : rankI h now age = h.Prio + (now - h.Since) / age := by
  unfold rankI
  have hd0 : 0 ≤ (now - h.Since) / age := Int.ediv_nonneg (by omega) (by omega)
  have hd1 : (now - h.Since) / age ≤ now - h.Since := Int.ediv_le_self _ (by omega)
  rw [if_neg (by omega), w64_in (n := now - h.Since) (by omega) (by omega), Int.tdiv_eq_ediv_of_nonneg (by omega), w64_in (n := (now - h.Since) / age) (by omega) (by omega), w64_in (by omega) (by omega)]
theorem rank_aged (x y : turn_Head) (now age : Int) (hn : 0 ≤ now ∧ now < 3000) (ha : 1 ≤ age) (hx : 0 ≤ x.Since ∧ x.Since ≤ now) (hxp : 0 ≤ x.Prio ∧ x.Prio < 8) (hy : 0 ≤ y.Since ∧ y.Since ≤ now) (hyp : 0 ≤ y.Prio ∧ y.Prio < 8)
    (h : x.Since + 8 * age ≤ y.Since) : rankI y now age < rankI x now age := by
  rw [rank_val x now age hn ha hx hxp, rank_val y now age hn ha hy hyp]
  have h1 : (now - y.Since) / age + 8 ≤ (now - x.Since) / age := by
    have : (now - y.Since) / age + 8 = (now - y.Since + 8 * age) / age := by
      rw [Int.add_mul_ediv_right _ _ (by omega)]
    rw [this]
    exact Int.ediv_le_ediv (by omega) (by omega)
  omega
theorem aged_l0 (a : List turn_Head) (gs : List (List Int)) (hg : ∀ g ∈ gs, g.length < 1000000000000) (hgl : gs.length < 1000000000000) (hl : a.length < 1000000000000) (hno : ∀ j, j < gs.length → ¬ canGo gs a j) : ∀ m i, i + m = gs.length → ∀ k, m + 1 ≤ k → law25_TurnAged_l0 k a gs (i : Int) = some true := by
  intro m
  induction m with
  | zero =>
    intro i h k hk
    obtain ⟨k, rfl⟩ : ∃ j, k = j + 1 := ⟨k - 1, by omega⟩
    simp only [law25_TurnAged_l0]
    rw [if_neg (by omega), known_eq]
    rfl
  | succ m ih =>
    intro i h k hk
    obtain ⟨k, rfl⟩ : ∃ j, k = j + 1 := ⟨k - 1, by omega⟩
    have e : w64 ((i : Int) + 1) = ((i + 1 : Nat) : Int) := by rw [w64_in (by omega) (by omega)]; omega
    have hgn : (gs.getD i []).length < 1000000000000 := by
      rw [getD_lt _ (show i < gs.length by omega)]; exact hg _ (List.getElem_mem _)
    have hf := front_lt (gs.getD i []) a
    have ih := ih (i + 1) (by omega) k (by omega)
    simp only [law25_TurnAged_l0]
    rw [if_pos (by omega), if_pos (by omega), if_pos (by omega), Int.toNat_natCast, Front_eq _ _ hgn hl, bind_some_eq, if_neg (by omega), e]
    by_cases h0 : 0 ≤ front (gs.getD i []) a
    · rw [if_pos h0, if_pos h0, if_pos hf.2]
      have : (a.getD (front (gs.getD i []) a).toNat turn_Head.z).May = false := by
        cases hm : (a.getD (front (gs.getD i []) a).toNat turn_Head.z).May with
        | false => rfl
        | true => exact absurd ⟨h0, hm⟩ (hno i (by omega))
      rw [this, cond_false]
      exact ih
    · rw [if_neg h0]
      exact ih
theorem aged_l2 (k_ : Int) (a : List turn_Head) (gs : List (List Int)) (b : Nat) (hb : b < a.length) (hk_ : 1 ≤ k_ ∧ k_ ≤ 1000) (hs : ∀ h ∈ a, 0 ≤ h.Since ∧ h.Since < 3000) (hg : ∀ g ∈ gs, g.length < 1000000000000) (hgl : gs.length < 1000000000000) (hl : a.length < 1000000000000)
    (hok : ∀ j, j < gs.length → canGo gs a j → ¬ (hd a (front (gs.getD j []) a)).Since + 8 * k_ ≤ (a.getD b turn_Head.z).Since) : ∀ m i, i + m = gs.length → ∀ k, m + 1 ≤ k → law25_TurnAged_l2 k k_ a gs (b : Int) (i : Int) = some true := by
  intro m
  induction m with
  | zero =>
    intro i h k hk
    obtain ⟨k, rfl⟩ : ∃ j, k = j + 1 := ⟨k - 1, by omega⟩
    simp only [law25_TurnAged_l2]
    rw [if_neg (by omega), known_eq]
    rfl
  | succ m ih =>
    intro i h k hk
    obtain ⟨k, rfl⟩ : ∃ j, k = j + 1 := ⟨k - 1, by omega⟩
    have e : w64 ((i : Int) + 1) = ((i + 1 : Nat) : Int) := by rw [w64_in (by omega) (by omega)]; omega
    have hgn : (gs.getD i []).length < 1000000000000 := by
      rw [getD_lt _ (show i < gs.length by omega)]; exact hg _ (List.getElem_mem _)
    have hf := front_lt (gs.getD i []) a
    have ih := ih (i + 1) (by omega) k (by omega)
    simp only [law25_TurnAged_l2]
    rw [if_pos (by omega), if_pos (by omega), if_pos (by omega), Int.toNat_natCast, Front_eq _ _ hgn hl, bind_some_eq, if_neg (by omega), e]
    by_cases h0 : 0 ≤ front (gs.getD i []) a
    · rw [if_pos h0, if_pos h0, if_pos hf.2]
      cases hm : (a.getD (front (gs.getD i []) a).toNat turn_Head.z).May with
      | false => rw [cond_false]; exact ih
      | true =>
        have hlt : (front (gs.getD i []) a).toNat < a.length := by omega
        have hsf := hs (a.getD (front (gs.getD i []) a).toNat turn_Head.z) (by rw [getD_lt _ hlt]; exact List.getElem_mem _)
        have e8 : w64 (8 * k_) = 8 * k_ := w64_in (by omega) (by omega)
        rw [cond_true, if_pos (by omega), if_pos (by omega), if_pos h0, if_pos hf.2, e8, w64_in (by omega) (by omega), Int.toNat_natCast, if_neg (show ¬ (a.getD (front (gs.getD i []) a).toNat turn_Head.z).Since + 8 * k_ ≤ (a.getD b turn_Head.z).Since from hok i (by omega) ⟨h0, hm⟩)]
        exact ih
    · rw [if_neg h0]
      exact ih
theorem aged_l1 (k_ : Int) (a : List turn_Head) (gs : List (List Int)) (b : Nat) (hb : b < a.length) (hp : a.Pairwise fun x y => x.Queue < y.Queue) (hl : a.length < 1000000000000) (K : Nat) (hend : ∀ k, K ≤ k → law25_TurnAged_l2 k k_ a gs (b : Int) 0 = some true) :
    ∀ m i, i + m = a.length → ∀ k, m + 1 + K ≤ k → law25_TurnAged_l1 k k_ a gs (a.getD b turn_Head.z).Queue (if b < i then (b : Int) else -1) (i : Int) = some true := by
  intro m
  induction m with
  | zero =>
    intro i h k hk
    obtain ⟨k, rfl⟩ : ∃ j, k = j + 1 := ⟨k - 1, by omega⟩
    simp only [law25_TurnAged_l1]
    rw [if_neg (by omega), if_pos (show b < i by omega), if_neg (by omega)]
    exact hend k (by omega)
  | succ m ih =>
    intro i h k hk
    obtain ⟨k, rfl⟩ : ∃ j, k = j + 1 := ⟨k - 1, by omega⟩
    have e : w64 ((i : Int) + 1) = ((i + 1 : Nat) : Int) := by rw [w64_in (by omega) (by omega)]; omega
    have ih := ih (i + 1) (by omega) k (by omega)
    simp only [law25_TurnAged_l1]
    rw [if_pos (by omega), if_pos (by omega), if_pos (by omega), Int.toNat_natCast, e]
    by_cases hq : (a.getD i turn_Head.z).Queue = (a.getD b turn_Head.z).Queue
    · rw [if_pos hq]
      have := queue_inj hp (by omega) hb hq
      subst this
      rw [if_pos (by omega)] at ih
      exact ih
    · rw [if_neg hq]
      have hne : i ≠ b := fun q => hq (by rw [q])
      by_cases hbi : b < i
      · rw [if_pos hbi]; rw [if_pos (by omega)] at ih; exact ih
      · rw [if_neg hbi]; rw [if_neg (by omega)] at ih; exact ih
theorem Aged_true (l : List law25_Raw) (g : List Int) (now age : Int) (h1 : ∀ i, 0 ≤ (raw l i).Since ∧ (raw l i).Since ≤ 65535 ∧ 0 ≤ (raw l i).Prio ∧ (raw l i).Prio ≤ 255) (h2 : ∀ i : Nat, 0 ≤ g.getD i 0 ∧ g.getD i 0 ≤ 255) (hn : 0 ≤ now ∧ now ≤ 65535) (ha : 0 ≤ age ∧ age ≤ 255) : law25_TurnAged l g now age = some true := by
  refine lim_eq 100 fun k hk => ?_
  unfold law25_TurnAged_f
  have hO := now_ok l g now h1 h2 hn
  have hnow := hO.2.2
  have hage : 1 ≤ w64 (1 + (w64 age).tmod 40) ∧ w64 (1 + (w64 age).tmod 40) ≤ 1000 := by
    rw [w64_in (n := age) (by omega) (by omega), Int.tmod_eq_emod_of_nonneg (by omega), w64_in (by omega) (by omega)]; omega
  rw [if_pos (by decide), if_pos (by decide), heads_eq l g _ hO, bind_some_eq]
  generalize (w64 now).tmod 3000 = t at *
  generalize w64 (1 + (w64 age).tmod 40) = k_ at *
  have hN : min l.length 20 ≤ 20 := by omega
  generalize min l.length 20 = N at *
  have hl := aP_len l t N
  obtain ⟨f1, f2⟩ := aP_facts l g t hO N
  have hg := gsP_small g N hN
  have hal : (aP l t N).length < 1000000000000 := by omega
  have hgl : (gsP g N).length < 1000000000000 := by rw [gsP_len]; decide
  dsimp only
  rw [Choose_eq _ _ _ _ hg hgl hal, bind_some_eq]
  obtain ⟨c1, c2⟩ := choose_fold (gsP g N) (aP l t N) t k_ 4
  unfold choose
  rw [gsP_len]
  generalize (List.range' 0 4).foldl (chooseS (gsP g N) (aP l t N) t k_) (-1) = b at *
  rcases c1 with rfl | ⟨hb, j, hj, hc, hjb⟩
  · rw [show chooseEnd (aP l t N) (-1) = -1 from rfl, if_pos (by decide)]
    exact aged_l0 _ _ hg hgl hal (fun j hj hc => absurd (c2 j hj hc).1 (by decide)) 4 0 (by rw [gsP_len]) k (by omega)
  · have hbl : b < ((aP l t N).length : Int) := by rw [← hjb]; exact (front_lt _ _).2
    obtain ⟨b, rfl⟩ : ∃ n : Nat, b = (n : Int) := ⟨b.toNat, by omega⟩
    have hbn : b < (aP l t N).length := by omega
    have hm : (aP l t N).getD b turn_Head.z ∈ aP l t N := by rw [getD_lt _ hbn]; exact List.getElem_mem _
    have fb := f1 _ hm
    have hce : chooseEnd (aP l t N) (b : Int) = ((aP l t N).getD b turn_Head.z).Queue := by
      unfold chooseEnd hd
      rw [if_neg (by omega), Int.toNat_natCast]
    rw [hce, if_neg (by omega)]
    have hfin := aged_l1 k_ (aP l t N) (gsP g N) b hbn f2 hal 5 (fun k hk => aged_l2 k_ (aP l t N) (gsP g N) b hbn hage (fun h hh => by have := f1 h hh; omega) hg hgl hal (fun j hj hc hle => ?_) 4 0 (by rw [gsP_len]) k (by omega)) (aP l t N).length 0 (by omega) k (by omega)
    · rw [if_neg (by omega)] at hfin
      exact hfin
    · have hfl := front_lt ((gsP g N).getD j []) (aP l t N)
      have hfn : (front ((gsP g N).getD j []) (aP l t N)).toNat < (aP l t N).length := by have := hc.1; omega
      have ff := f1 (hd (aP l t N) (front ((gsP g N).getD j []) (aP l t N))) (by unfold hd; rw [getD_lt _ hfn]; exact List.getElem_mem _)
      have := (c2 j hj hc).2
      have hx := rank_aged (hd (aP l t N) (front ((gsP g N).getD j []) (aP l t N))) ((aP l t N).getD b turn_Head.z) t k_ hnow hage.1 ⟨ff.2.2.1, ff.2.2.2.1⟩ ff.2.2.2.2 ⟨fb.2.2.1, fb.2.2.2.1⟩ fb.2.2.2.2 hle
      have e : hd (aP l t N) (b : Int) = (aP l t N).getD b turn_Head.z := by unfold hd; rw [Int.toNat_natCast]
      rw [e] at this
      omega
/-! TurnStands -/
theorem stands_l1 (a : List turn_Head) (gs : List (List Int)) (q : Int) (i : Nat) (hg : ∀ g ∈ gs, g.length < 1000000000000) (hgl : gs.length < 1000000000000) (hl : a.length < 1000000000000)
    (hok : ∀ j, j < gs.length → q ∈ gs.getD j [] → front (gs.getD j []) a = (i : Int)) (K : Nat) (hend : ∀ k, K ≤ k → law25_TurnStands_l0 k a gs q (w64 ((i : Int) + 1)) = some true) :
    ∀ m x, x + m = gs.length → ∀ k, m + 1 + K ≤ k → law25_TurnStands_l1 k a gs q (i : Int) (x : Int) = some true := by
  intro m
  induction m with
  | zero =>
    intro x h k hk
    obtain ⟨k, rfl⟩ : ∃ j, k = j + 1 := ⟨k - 1, by omega⟩
    simp only [law25_TurnStands_l1]
    rw [if_neg (by omega)]
    exact hend k (by omega)
  | succ m ih =>
    intro x h k hk
    obtain ⟨k, rfl⟩ : ∃ j, k = j + 1 := ⟨k - 1, by omega⟩
    have e : w64 ((x : Int) + 1) = ((x + 1 : Nat) : Int) := by rw [w64_in (by omega) (by omega)]; omega
    have hgn : (gs.getD x []).length < 1000000000000 := by
      rw [getD_lt _ (show x < gs.length by omega)]; exact hg _ (List.getElem_mem _)
    have ih := ih (x + 1) (by omega) k (by omega)
    simp only [law25_TurnStands_l1]
    rw [if_pos (by omega), if_pos (by omega), if_pos (by omega), Int.toNat_natCast, has_eq _ _ hgn, bind_some_eq, e]
    by_cases hm : q ∈ gs.getD x []
    · rw [decide_eq_true hm, cond_true, if_pos (by omega), if_pos (by omega), Front_eq _ _ hgn hl, bind_some_eq, hok x (by omega) hm, if_neg (by simp)]
      exact ih
    · rw [decide_eq_false hm, cond_false]
      exact ih
theorem stands_l0 (a : List turn_Head) (gs : List (List Int)) (q : Int) (hq : -1 ≤ q ∧ q < 20) (hg : ∀ g ∈ gs, g.length < 1000000000000) (hgl : gs.length < 1000000000000) (hl : a.length < 1000000000000)
    (hok : ∀ i, i < a.length → 0 ≤ q → (a.getD i turn_Head.z).Queue = q → (a.getD i turn_Head.z).May = true ∧ ∀ j, j < gs.length → q ∈ gs.getD j [] → front (gs.getD j []) a = (i : Int)) :
    ∀ m i, i + m = a.length → ∀ k, (m + 1) * (gs.length + 2) ≤ k → law25_TurnStands_l0 k a gs q (i : Int) = some true := by
  have fin : (if q < 20 then if (-1) ≤ q then (law25_known).bind fun r => some r else some false else some false) = some true := by
    rw [if_pos hq.2, if_pos hq.1, known_eq]; rfl
  intro m
  induction m with
  | zero =>
    intro i h k hk
    obtain ⟨k, rfl⟩ : ∃ j, k = j + 1 := ⟨k - 1, by omega⟩
    simp only [law25_TurnStands_l0]
    rw [if_neg (by omega)]
    exact fin
  | succ m ih =>
    intro i h k hk
    have hmul : (m + 1 + 1) * (gs.length + 2) = (m + 1) * (gs.length + 2) + (gs.length + 2) := Nat.succ_mul _ _
    obtain ⟨k, rfl⟩ : ∃ j, k = j + 1 := ⟨k - 1, by omega⟩
    have e : w64 ((i : Int) + 1) = ((i + 1 : Nat) : Int) := by rw [w64_in (by omega) (by omega)]; omega
    have ih := ih (i + 1) (by omega)
    simp only [law25_TurnStands_l0]
    rw [if_pos (by omega)]
    by_cases h0 : 0 ≤ q
    · rw [if_pos h0, if_pos (by omega), if_pos (by omega), Int.toNat_natCast]
      by_cases hqi : (a.getD i turn_Head.z).Queue = q
      · obtain ⟨o1, o2⟩ := hok i (by omega) h0 hqi
        rw [if_neg (by simpa using hqi), if_pos (by omega), if_pos (by omega), o1, Bool.not_true, cond_false]
        exact stands_l1 a gs q i hg hgl hl o2 ((m + 1) * (gs.length + 2)) (fun k hk => by rw [e]; exact ih k hk) gs.length 0 (by omega) k (by omega)
      · rw [if_pos (by simpa using hqi), e]
        exact ih k (by omega)
    · rw [if_neg h0]
      exact fin
theorem Stands_true (l : List law25_Raw) (g : List Int) (now age : Int) (h1 : ∀ i, 0 ≤ (raw l i).Since ∧ (raw l i).Since ≤ 65535 ∧ 0 ≤ (raw l i).Prio ∧ (raw l i).Prio ≤ 255) (h2 : ∀ i : Nat, 0 ≤ g.getD i 0 ∧ g.getD i 0 ≤ 255) (hn : 0 ≤ now ∧ now ≤ 65535) (ha : 0 ≤ age ∧ age ≤ 255) : law25_TurnStands l g now age = some true := by
  refine lim_eq 300 fun k hk => ?_
  unfold law25_TurnStands_f
  have hO := now_ok l g now h1 h2 hn
  have hnow := hO.2.2
  rw [if_pos (by decide), heads_eq l g _ hO, bind_some_eq]
  generalize (w64 now).tmod 3000 = t at *
  generalize w64 (1 + w64 age) = k_ at *
  have hN : min l.length 20 ≤ 20 := by omega
  generalize min l.length 20 = N at *
  have hl := aP_len l t N
  obtain ⟨f1, f2⟩ := aP_facts l g t hO N
  have hg := gsP_small g N hN
  have hal : (aP l t N).length < 1000000000000 := by omega
  have hgl : (gsP g N).length < 1000000000000 := by rw [gsP_len]; decide
  dsimp only
  rw [Choose_eq _ _ _ _ hg hgl hal, bind_some_eq]
  obtain ⟨c1, c2⟩ := choose_fold (gsP g N) (aP l t N) t k_ 4
  unfold choose
  rw [gsP_len]
  generalize (List.range' 0 4).foldl (chooseS (gsP g N) (aP l t N) t k_) (-1) = b at *
  have hfuel : ((aP l t N).length + 1) * ((gsP g N).length + 2) ≤ k := by
    rw [gsP_len]; omega
  rcases c1 with rfl | ⟨hb, j, hj, hc, hjb⟩
  · rw [show chooseEnd (aP l t N) (-1) = -1 from rfl]
    exact stands_l0 _ _ _ (by decide) hg hgl hal (fun i hi h0 => absurd h0 (by decide)) (aP l t N).length 0 (by omega) k hfuel
  · have hbl : b < ((aP l t N).length : Int) := by rw [← hjb]; exact (front_lt _ _).2
    obtain ⟨b, rfl⟩ : ∃ n : Nat, b = (n : Int) := ⟨b.toNat, by omega⟩
    have hbn : b < (aP l t N).length := by omega
    have hm : (aP l t N).getD b turn_Head.z ∈ aP l t N := by rw [getD_lt _ hbn]; exact List.getElem_mem _
    have fb := f1 _ hm
    have hce : chooseEnd (aP l t N) (b : Int) = ((aP l t N).getD b turn_Head.z).Queue := by
      unfold chooseEnd hd
      rw [if_neg (by omega), Int.toNat_natCast]
    rw [hce]
    refine stands_l0 _ _ _ ⟨by omega, by omega⟩ hg hgl hal (fun i hi h0 hqi => ?_) (aP l t N).length 0 (by omega) k hfuel
    have hib := queue_inj f2 hi hbn hqi
    subst hib
    have hcm := hc.2
    rw [hjb] at hcm
    refine ⟨by unfold hd at hcm; rw [Int.toNat_natCast] at hcm; exact hcm, fun x hx hqx => ?_⟩
    have hqj := front_mem ((gsP g N).getD j []) (aP l t N) hc.1
    rw [hjb] at hqj
    unfold hd at hqj
    rw [Int.toNat_natCast] at hqj
    rw [gsP_get g N j hj] at hqj
    rw [gsP_get g N x (by rw [gsP_len] at hx; exact hx)] at hqx
    obtain ⟨i1, _, e1, k1⟩ := cP_mem g _ N _ hqj
    obtain ⟨i2, _, e2, k2⟩ := cP_mem g _ N _ hqx
    have : i1 = i2 := by omega
    subst this
    have hxj : x = j := by omega
    rw [hxj]
    exact hjb
end Go.Sy.Tu
