import Derived.Lib.Strings
import Derived.Laws.MakeOwn
import Derived.Great.BuildSlice
import Derived.Deep.Upon
import Derived.Test.YtabknfplmamfmaaGreatDoorSa
set_option linter.unusedVariables false
set_option linter.unusedSimpArgs false
namespace Go.Sy
section
variable {P : Program} {S : Sen} {byt : Nat → Nat}
variable {w0 : World} {M0 s0 : St} {dq : List Deferred} {env : Env S.C} {a : Act} {w : World} {μ : Nat → Loc} {K : Act → World → Prop} {Q : Exit → Act → World → Prop} {o : Oper} {V : V S.C} {us : Ups S.C}
theorem extract_mk' (s : List UInt8) (i j : Nat) : (⟨s.toArray⟩ : ByteArray).extract i j = ⟨((s.take j).drop i).toArray⟩ := by
 apply ByteArray.ext
 apply Array.ext'
 rw [Lib.extract_data]
 simp [List.drop_take]
theorem size_mk (s : List UInt8) : ByteArray.size ⟨s.toArray⟩ = s.length := by show s.toArray.size = _; simp
theorem run_bound {k : IntKind} {i : Int} {y : Nat} (code : BoundsCode) (h0 : 0 ≤ i) (h1 : i ≤ (y : Int)) (w : World) : (Instr.sliceBound (.int k i) y code).run P w = .ok i.toNat w := by
 simp [Instr.sliceBound, asIntOf, h0, h1]
theorem optV_ok (h : Inv P S w0 M0 s0 dq env a w μ) {x : Option Operand} {l : Option (Sy.V S.C)} (hx : optV S env.tm x = some l) :
 (x = none ∧ l = none) ∨ ∃ y v, x = some y ∧ l = some v ∧ RV P S w (stab S w0 M0 s0 env.bx μ w) μ env.bx v (a.eval y) := by
 cases x with
 | none => cases hx; exact .inl ⟨rfl, rfl⟩
 | some y =>
  simp only [optV] at hx
  obtain ⟨v, hv, hx⟩ := Option.bind_eq_some_iff.1 hx
  cases hx
  exact .inr ⟨y, v, rfl, rfl, (evalV_ok h hv).1⟩
theorem intOf'_ok {s : St} {bx : Bx S.C} {V : Sy.V S.C} {v : Value} {n : Int} (h : RV P S w s μ bx V v) (hi : intOf' S V = some n) : ∃ k, v = .int k n := by
 unfold intOf' at hi
 cases e : V.int? with
 | none => rw [e] at hi; cases hi
 | some p =>
  rw [e] at hi
  cases hi
  exact ⟨p.1, int?_ok h e⟩
theorem bounds_ok (h : Inv P S w0 M0 s0 dq env a w μ) {lo hi : Option Operand} {l hh : Option (Sy.V S.C)} (hlo : optV S env.tm lo = some l) (hhi : optV S env.tm hi = some hh) {n cap : Nat} (hcap : n ≤ cap)
 {gs : List Gd} {i j : Int} (hb : bounds S n l hh = some (gs, i, j)) (hg : ∀ g ∈ gs, g.p) (isS : Bool) :
 (Instr.sliceBounds isS n cap (lo.map a.eval) (hi.map a.eval) none).run P w = .ok (i.toNat, j.toNat, cap) w ∧ 0 ≤ i ∧ i ≤ j ∧ j ≤ (n : Int) ∧ (hh = none → j = n) := by
 rcases optV_ok h hlo with ⟨rfl, rfl⟩ | ⟨x, v, rfl, rfl, hv⟩ <;> rcases optV_ok h hhi with ⟨rfl, rfl⟩ | ⟨y, u, rfl, rfl, hu⟩
 · cases hb
   exact ⟨by simp [Instr.sliceBounds], by omega, by omega, by omega, fun _ => rfl⟩
 · simp only [bounds] at hb
   obtain ⟨m, hm, hb⟩ := Option.bind_eq_some_iff.1 hb
   cases hb
   obtain ⟨k, hk⟩ := intOf'_ok hu hm
   have g0 : 0 ≤ j := hg ⟨0 ≤ j, inferInstance⟩ (by simp [gd])
   have g1 : j ≤ (n : Int) := hg ⟨j ≤ (n : Int), inferInstance⟩ (by simp [gd])
   refine ⟨?_, by omega, by omega, g1, fun h => by cases h⟩
   simp only [Option.map, hk, Instr.sliceBounds]
   simp [run_bound (P := P) _ g0 (show j ≤ (cap : Int) by omega)]
 · simp only [bounds] at hb
   obtain ⟨m, hm, hb⟩ := Option.bind_eq_some_iff.1 hb
   cases hb
   obtain ⟨k, hk⟩ := intOf'_ok hv hm
   have g0 : 0 ≤ i := hg ⟨0 ≤ i, inferInstance⟩ (by simp [gd])
   have g1 : i ≤ (n : Int) := hg ⟨i ≤ (n : Int), inferInstance⟩ (by simp [gd])
   refine ⟨?_, g0, g1, by omega, fun _ => rfl⟩
   simp only [Option.map, hk, Instr.sliceBounds]
   simp [run_bound (P := P) _ g0 g1]
 · simp only [bounds] at hb
   obtain ⟨m, hm, hb⟩ := Option.bind_eq_some_iff.1 hb
   obtain ⟨p, hp, hb⟩ := Option.bind_eq_some_iff.1 hb
   cases hb
   obtain ⟨k, hk⟩ := intOf'_ok hv hm
   obtain ⟨k', hk'⟩ := intOf'_ok hu hp
   have g0 : 0 ≤ j := hg ⟨0 ≤ j, inferInstance⟩ (by simp [gd])
   have g1 : j ≤ (n : Int) := hg ⟨j ≤ (n : Int), inferInstance⟩ (by simp [gd])
   have g2 : 0 ≤ i := hg ⟨0 ≤ i, inferInstance⟩ (by simp [gd])
   have g3 : i ≤ j := hg ⟨i ≤ j, inferInstance⟩ (by simp [gd])
   refine ⟨?_, g2, g3, g1, fun h => by cases h⟩
   simp only [Option.map, hk, hk', Instr.sliceBounds]
   simp [run_bound (P := P) _ g0 (show j ≤ (cap : Int) by omega), run_bound (P := P) .sliceB g2 (show i ≤ (j.toNat : Int) by omega)]
def subAddr (ad : Option Addr) (cap lo sz : Nat) : Option Addr := if cap = lo then ad else ad.map (·.add (lo * sz))
theorem run_slice (hP : ProgOk P S byt) {t : Nat} {e : Ty} (ht : S.ty t = some (.sl e)) {ad : Option Addr} {n cap i j : Nat} {lo hi : Option Value}
 (hb : (Instr.sliceBounds true n cap lo hi none).run P w = .ok (i, j, cap) w) : (Instr.sliceAt t (.slice ad n cap) lo hi none).run P w = .ok (.slice (subAddr ad cap i (Ty.sz S e)) (j - i) (cap - i)) w := by
 obtain ⟨te, ie, z, hu, he, _⟩ := hP.sl ht
 simp [Instr.sliceAt, Instr.slice, run_underlying hu, hb, hP.size he, subAddr]
theorem cutTo_eq {α : Type} (l : List α) {i j : Int} {hh : Option (Sy.V S.C)} (h0 : 0 ≤ i) (h1 : i ≤ j) (h2 : j ≤ (l.length : Int)) (hn : hh = none → j = (l.length : Int)) :
 cutTo S l i j hh = (l.take j.toNat).drop i.toNat := by
 cases hh with
 | none =>
  have := hn rfl
  show l.drop i.toNat = _
  rw [this, show ((l.length : Int)).toNat = l.length from by omega, List.take_length]
 | some v => rfl
theorem piece_elems {R : (t : Ty) → t.den S.C → List Value → Prop} {s : St} {e : Ty} {b o' : Nat} {l : List (e.den S.C)} (h : Elems S R w s e b o' l) (i j : Nat) : Elems S R w s e b (o' + i * Ty.sz S e) ((l.take j).drop i) := fun k x hk => by
 have hk' : l[i + k]? = some x := by
  rw [List.getElem?_drop, List.getElem?_take] at hk
  split at hk
  · exact hk
  · cases hk
 obtain ⟨ds, d1, d2, d3⟩ := h (i + k) x hk'
 refine ⟨ds, d1, ?_, d3⟩
 rw [show o' + i * Ty.sz S e + k * Ty.sz S e = o' + (i + k) * Ty.sz S e from by rw [Nat.add_mul]; omega]
 exact d2
theorem sub_RepV {s : St} {e : Ty} {l : List (e.den S.C)} {ad : Option Addr} {cap : Nat} (h : RepV S w s (.sl e) l (.slice ad l.length cap)) {i j : Nat} (h1 : i ≤ j) (h2 : j ≤ l.length) :
 RepV S w s (.sl e) ((l.take j).drop i) (.slice (subAddr ad cap i (Ty.sz S e)) (j - i) (cap - i)) := by
 obtain ⟨ad', cap', he, hle, hel⟩ := RepV_sl h
 cases he
 have hlen : ((l.take j).drop i).length = j - i := by rw [List.length_drop, List.length_take]; omega
 rcases hel with hel | ⟨b, o', n, rfl, hel⟩
 · exact ⟨rfl, 1, _, _, by rw [hlen]; rfl, by rw [hlen]; omega, .inl (by rw [hlen]; omega)⟩
 · by_cases hc : cap = i
   · exact ⟨rfl, 1, _, _, by rw [hlen]; rfl, by rw [hlen]; omega, .inl (by rw [hlen]; omega)⟩
   · refine ⟨rfl, n + 1, _, _, by rw [hlen]; rfl, by rw [hlen]; omega, .inr ⟨b, o' + i * Ty.sz S e, ?_, piece_elems hel i j⟩⟩
     rw [subAddr, if_neg hc]
     simp [Addr.add_mid]
theorem run_slice_str {t : Nat} (hu : P.underlying t = some .string) (s : List UInt8) {i j : Nat} {lo hi : Option Value}
 (hb : (Instr.sliceBounds false s.length s.length lo hi none).run P w = .ok (i, j, s.length) w) : (Instr.sliceAt t (.string ⟨s.toArray⟩) lo hi none).run P w = .ok (.string ⟨((s.take j).drop i).toArray⟩) w := by
 have e1 := extract_mk' s i j
 have hsz := size_mk s
 simp [Instr.sliceAt, Instr.slice, run_underlying hu, hsz, hb, e1]
theorem bounds_lo {n : Nat} {hh : Option (Sy.V S.C)} {gs : List Gd} {i j : Int} (hb : bounds S n none hh = some (gs, i, j)) : i = 0 := by
 cases hh with
 | none => cases hb; rfl
 | some u =>
  simp only [bounds] at hb
  obtain ⟨m, hm, hb⟩ := Option.bind_eq_some_iff.1 hb
  cases hb; rfl
theorem sliceBounds_hi {n n' cap : Nat} {lo : Option Value} {v : Value} : Instr.sliceBounds true n cap lo (some v) none = Instr.sliceBounds true n' cap lo (some v) none := rfl
theorem view_RV {s' : St} {bx : Bx S.C} {k : Nat} {e : Ty} {l : List (e.den S.C)} (hb : bx k = some (.arr e l)) {ad : Option Addr} {n cap : Nat} (ha : ArrOk (μ k) ad n cap (Ty.sz S e)) {N : Nat} {lo hh : Option (Sy.V S.C)} {gs : List Gd} {i j : Int}
 (hbd : bounds S N lo hh = some (gs, i, j)) (h0 : 0 ≤ i) (h1 : i ≤ j) (h2 : j ≤ (l.length : Int)) (h3 : j ≤ (cap : Int)) :
 RV P S w s' μ bx (viewV S k i j lo) (.slice (subAddr ad cap i.toNat (Ty.sz S e)) (j.toNat - i.toNat) (cap - i.toNat)) := by
 have hn : ∀ e' (l' : List (e'.den S.C)), bx k = some (.arr e' l') → e' = e ∧ l'.length = l.length ∧ Ty.sz S e' = Ty.sz S e := by
  intro e' l' h
  rw [hb] at h
  cases h
  exact ⟨rfl, rfl, rfl⟩
 cases lo with
 | none =>
  have := bounds_lo hbd
  subst this
  refine ⟨⟨_, _, _, rfl⟩, fun e' l' hb' => ?_⟩
  obtain ⟨_, q2, q3⟩ := hn e' l' hb'
  rw [q2, q3]
  have hs : subAddr ad cap 0 (Ty.sz S e) = ad := by
   unfold subAddr
   split
   · rfl
   · rw [ha.addr]
     split
     · rfl
     · simp [Addr.add_mid]
  refine ⟨h1, by omega, ad, cap, ?_, ha.addr, ha.capEq, ha.cells, ha.isNil, by omega⟩
  rw [show (0 : Int).toNat = 0 from rfl, hs]; rfl
 | some u =>
  refine ⟨⟨_, _, _, rfl⟩, fun e' l' hb' => ?_⟩
  obtain ⟨_, q2, q3⟩ := hn e' l' hb'
  rw [q2, q3]
  refine ⟨h0, by omega, by omega, _, _, by rw [show (j - i).toNat = j.toNat - i.toNat from by omega], by omega, ?_⟩
  by_cases hz : (j - i).toNat = 0
  · exact .inl hz
  · refine .inr ?_
    have hnil : (μ k).nil = false := by
     cases hn : (μ k).nil with
     | false => rfl
     | true => have := ha.isNil hn; have := ha.capEq; omega
    unfold subAddr
    rw [if_neg (by omega), ha.addr, hnil]
    simp [Addr.add_mid]
theorem slice_ok (hP : ProgOk P S byt) (h : Inv P S w0 M0 s0 dq env a w μ) (hd : ∀ d, o.dst = some d → d < a.tmps.size) {t : TypeId} {x : Operand} {lo hi : Option Operand} {ids : List Nat} {vw : Bool} (ho : o.op = .slice t x lo hi none)
 (hl : (match S.ty t, evalV S env.tm x, optV S env.tm lo, optV S env.tm hi with
  | some T, some v, some l, some h => sliceOp S vw T (restrict S env.bx ids) l h v
  | _, _, _, _ => .fail).leaf (V, us)) (hK : Goal P S w0 M0 s0 dq env a o.dst V us K) : o.wp P a w K Q := by
 split at hl
 · rename_i T v l hh ht hx hlo hhi
   obtain ⟨hv, hvr⟩ := evalV_ok h hx
   have run : ∀ (e : Ty) (ad : Option Addr) (n cap i j : Nat), S.ty t = some (.sl e) → a.eval x = .slice ad n cap → (Instr.sliceBounds true n cap (lo.map a.eval) (hi.map a.eval) none).run P w = .ok (i, j, cap) w →
    (execOp a.eval o).run P w = .ok (.value (.slice (subAddr ad cap i (Ty.sz S e)) (j - i) (cap - i))) w := by
    intro e ad n cap i j ht he hb
    unfold execOp
    simp only [ho, he]
    simp [run_slice hP ht hb]
   have data : ∀ (e : Ty) (s : List (e.den S.C)), RepV S w (stab S w0 M0 s0 env.bx μ w) (.sl e) s (a.eval x) → (if T = .sl e then match bounds S s.length l hh with
    | some (gs, a, b) => Tr.gd gs (okv S (.d (.sl e) (cutTo S s a b hh)) [])
    | none => .fail else .fail : Rt S).leaf (V, us) → o.wp P a w K Q := by
    intro e s hr hl1
    clear hl
    split at hl1
    · rename_i hT
      subst hT
      split at hl1
      · rename_i gs i j hb
        obtain ⟨hg, rfl, rfl⟩ := guards_all hl1
        obtain ⟨ad, cap, he, hcap, _⟩ := RepV_sl hr
        obtain ⟨b1, b2, b3, b4, b5⟩ := bounds_ok h hlo hhi hcap hb hg true
        rw [he] at hr
        refine wp_pure (V := .d (.sl e) (cutTo S s i j hh)) h (run e ad _ cap _ _ ht he b1) hd ?_ (by simp [idsOf, ids1]) hK
        show RepV S w _ (.sl e) (cutTo S s i j hh) _
        rw [cutTo_eq s b2 b3 b4 b5]
        exact sub_RepV hr (by omega) (by omega)
      · exact hl1.elim
    · exact hl1.elim
   unfold sliceOp at hl
   split at hl
   · rename_i s
     split at hl
     · rename_i hT
       subst hT
       split at hl
       · rename_i gs i j hb
         obtain ⟨hg, rfl, rfl⟩ := guards_all hl
         have he := RepV_str hv
         obtain ⟨b1, b2, b3, b4, b5⟩ := bounds_ok h hlo hhi (Nat.le_refl _) hb hg false
         have hu : P.underlying t = some .string := (hP.ty t _ ht).2
         refine wp_pure (V := .d .str (cutTo S s i j hh)) h (v := .string ⟨((List.take j.toNat s).drop i.toNat).toArray⟩) ?_ hd ?_ (by simp [idsOf, ids1]) hK
         · unfold execOp
           simp only [ho, he]
           rw [Sem.run_bind, show Option.map a.eval none = none from rfl, run_slice_str hu s b1]
           rfl
         · show RepV S w _ .str (cutTo S s i j hh) _
           rw [cutTo_eq s b2 b3 b4 b5]
           exact str_RepV ..
       · exact hl.elim
     · exact hl.elim
   · exact data _ _ hv hl
   · rename_i k e s
     split at hl
     · rename_i hT
       subst hT
       split at hl
       · rename_i gs i j hb
         obtain ⟨hg, rfl, rfl⟩ := guards_all hl
         obtain ⟨ad, cap, he, hcap, _⟩ := RepV_sl hv.1
         obtain ⟨b1, b2, b3, b4, b5⟩ := bounds_ok h hlo hhi hcap hb hg true
         have hr := hv.1
         rw [he] at hr
         have hsub := sub_RepV hr (show i.toNat ≤ j.toNat by omega) (by omega)
         cases hh with
         | some hv' =>
          refine wp_pure (V := .d (.sl e) (cut s i j)) h (run e ad _ cap _ _ ht he b1) hd hsub (by simp [idsOf, ids1]) hK
         | none =>
          have hj := b5 rfl
          have hcf : cutFrom s i = (s.take j.toNat).drop i.toNat := by
           show s.drop i.toNat = _
           rw [hj, show ((s.length : Int)).toNat = s.length from by omega, List.take_length]
          refine wp_pure (V := .town k e (cutFrom s i)) h (run e ad _ cap _ _ ht he b1) hd ⟨by rw [hcf]; exact hsub, fun hb' => ?_⟩ (fun i hi => hvr i hi) hK
          have hlen : (cutFrom s i).length = j.toNat - i.toNat := by rw [hcf, List.length_drop, List.length_take]; omega
          obtain ⟨ad', cap', he', htl⟩ := hv.2 hb'
          rw [he] at he'
          cases he'
          refine ⟨_, _, by rw [hlen], ?_⟩
          rw [hlen]
          rcases htl with ⟨rfl, rfl, hn⟩ | ⟨b, o', rfl, t1, t2⟩
          · exact .inl ⟨by unfold subAddr; split <;> rfl, by omega, hn⟩
          · by_cases hc : cap = i.toNat
            · refine .inr ⟨b, o', by rw [subAddr, if_pos hc], ?_, fun hlt => by omega⟩
              rw [t1]; congr 1; omega
            · refine .inr ⟨b, o' + i.toNat * Ty.sz S e, by rw [subAddr, if_neg hc]; simp [Addr.add_mid], ?_, fun hlt => ?_⟩
              · rw [t1]; congr 1; omega
              · obtain ⟨t2, t3⟩ := t2 (by omega)
                refine ⟨t2, ?_⟩
                rw [t3]
                have : s.length * Ty.sz S e = i.toNat * Ty.sz S e + (j.toNat - i.toNat) * Ty.sz S e := by rw [← Nat.add_mul]; congr 1; omega
                omega
       · exact hl.elim
     · exact hl.elim
   · rename_i k
     split at hl
     · rename_i e s hb
       have hb := restrict_some hb
       split at hl
       · rename_i hT
         subst hT
         split at hl
         · rename_i gs i j hbd
           cases vw with
           | true =>
            obtain ⟨hg, rfl, rfl⟩ := guards_all hl
            obtain ⟨ad, cap, he, hao⟩ := hv.2 e s (.inl hb)
            obtain ⟨b1, b2, b3, b4, b5⟩ := bounds_ok h hlo hhi hao.fits hbd hg true
            have hfit := hao.fits
            refine wp_pure (V := viewV S k i j l) h (run e ad _ cap _ _ ht he b1) hd (view_RV hb hao hbd b2 b3 b4 (by omega)) (fun q hq => ?_) hK
            have : q = k := by cases l <;> simpa [viewV, idsOf, ids1] using hq
            rw [this, hb]; simp
           | false =>
           have hl : (Tr.gd gs (okv S (.d (.sl e) (cutTo S s i j hh)) [(k, .farr e s)]) : Rt S).leaf (V, us) := hl
           obtain ⟨hg, rfl, rfl⟩ := guards_all hl
           have htk : Tk S env.bx (updates env.bx [(k, .farr e s)]) := Tk.upd_farr hb
           obtain ⟨ad, cap, he, hao⟩ := hv.2 e s (.inl hb)
           obtain ⟨b1, b2, b3, b4, b5⟩ := bounds_ok h hlo hhi hao.fits hbd hg true
           refine wp_tk (V := .d (.sl e) (cutTo S s i j hh)) h (run e ad _ cap _ _ ht he b1) hd htk (fun hI => ?_) (by simp [idsOf, ids1]) hK
           have hr := frozen_rep hI (Tk.refl S _) (upd_eq env.bx k (some (.farr e s))) (RV1.step P S (tak_to_stab htk) (fun i B0 hB0 => ?_) (fun j hj => hvr j hj) hv)
           · rw [he] at hr
             show RepV S w _ (.sl e) (cutTo S s i j hh) _
             rw [cutTo_eq s b2 b3 b4 b5]
             have hr' : RepV S w (tak S w0 M0 s0 (updates env.bx [(k, .farr e s)]) (updates env.bx [(k, .farr e s)]) μ w) (.sl e) s (.slice ad s.length cap) := ⟨rfl, hr⟩
             refine RepV.mono S (fun b o ⟨h1, h2, h3⟩ => ⟨⟨h1, h2, fun i hi => ?_⟩, rfl⟩) (sub_RepV hr' (show i.toNat ≤ j.toNat by omega) (by omega))
             rcases h3 i hi with ⟨e', l', hf⟩ | hf
             · unfold live at hi; rw [hf] at hi; exact hi.elim
             · exact hf
           · rcases htk i with e1 | ⟨e1, _⟩ | ⟨e', l', e1, e2⟩
             · exact ⟨B0, e1.trans hB0, compat.refl S _ _⟩
             · exact ⟨_, e1, by cases B0 <;> rfl⟩
             · rw [hB0] at e1; cases e1; exact ⟨_, e2, rfl, rfl, rfl⟩
         · exact hl.elim
       · exact hl.elim
     · rename_i e s hb
       have hb := restrict_some hb
       refine data e s ?_ hl
       obtain ⟨n, hn⟩ := frozen_rep h (Tk.refl S _) hb hv
       obtain ⟨ad, cap, he, hao⟩ := hv.2 e s (.inr hb)
       rw [he] at hn ⊢
       refine ⟨rfl, n, hn.mono S (fun b o ⟨h1, h2, h3⟩ => ⟨⟨h1, h2, fun i hi => ?_⟩, rfl⟩) (Nat.le_refl _)⟩
       rcases h3 i hi with ⟨e', l', hf⟩ | hf
       · unfold live at hi; rw [hf] at hi; exact hi.elim
       · exact hf
     · exact hl.elim
   · rename_i k n
     split at hl
     · rename_i e s hb
       have hb := restrict_some hb
       obtain ⟨hn0, hnl, ad, cap, he, hao⟩ := hv.2 e s hb
       obtain ⟨g1, g2, g3, g4, g5⟩ := h.bxs k _ hb
       have hcap := hao.capEq
       have hfit := hao.fits
       have ids : ∀ i j, ∀ q ∈ idsOf S (viewV S k i j l), env.bx q ≠ none := fun i j q hq => by
        have : q = k := by cases l <;> simpa [viewV, idsOf, ids1] using hq
        rw [this, hb]; simp
       split at hl
       · rename_i hT
         subst hT
         cases hh with
         | none =>
          dsimp only at hl
          split at hl
          · rename_i gs i j hbd
            obtain ⟨hg, rfl, rfl⟩ := guards_all hl
            obtain ⟨b1, b2, b3, b4, b5⟩ := bounds_ok h hlo hhi hao.fits hbd hg true
            exact wp_pure (V := viewV S k i j l) h (run e ad _ cap _ _ ht he b1) hd (view_RV hb hao hbd b2 b3 (by omega) (by omega)) (ids i j) hK
          · exact hl.elim
         | some u =>
          dsimp only at hl
          split at hl
          · rename_i gs i j hbd
            obtain ⟨hg, rfl, rfl⟩ := guards_all hl
            obtain ⟨b1, b2, b3, b4, b5⟩ := bounds_ok (cap := cap) h hlo hhi (show s.length ≤ cap by omega) hbd hg true
            obtain ⟨hi', hhi'⟩ : ∃ y, hi = some y := by
             cases hi with
             | none => cases hhi
             | some y => exact ⟨y, rfl⟩
            subst hhi'
            have b1' : (Instr.sliceBounds true n.toNat cap (lo.map a.eval) ((some hi').map a.eval) none).run P w = .ok (i.toNat, j.toNat, cap) w := b1
            exact wp_pure (V := viewV S k i j l) h (run e ad _ cap _ _ ht he b1') hd (view_RV hb hao hbd b2 b3 b4 (by omega)) (ids i j) hK
          · exact hl.elim
       · exact hl.elim
     · exact hl.elim
   · exact hl.elim
 · exact hl.elim
theorem len_ok (hP : ProgOk P S byt) (h : Inv P S w0 M0 s0 dq env a w μ) (hd : ∀ d, o.dst = some d → d < a.tmps.size) {c : Call} (ho : o.op = .call c) (hc : c.callee = .builtin .len) {args : List (Sy.V S.C)} {ids : List Nat}
 (hargs : c.args.toList.mapM (evalV S env.tm) = some args)
 (hl : (match args, (c.argTypes[0]?).bind S.ty with
  | [v], some T => lenOp S T (restrict S env.bx ids) v
  | _, _ => .fail).leaf (V, us)) (hK : Goal P S w0 M0 s0 dq env a o.dst V us K) : o.wp P a w K Q := by
 split at hl
 · rename_i v T hT0
   obtain ⟨t, ht, hT⟩ := Option.bind_eq_some_iff.1 hT0
   clear hT0
   have hone : ∃ x, c.args = #[x] ∧ evalV S env.tm x = some v := by
    cases e : c.args.toList with
    | nil => rw [e] at hargs; simp at hargs
    | cons x r =>
     rw [e] at hargs
     cases r with
     | nil =>
      refine ⟨x, ?_, ?_⟩
      · have : c.args = c.args.toList.toArray := by simp
        rw [this, e]
      · simp at hargs
        cases hx : evalV S env.tm x with
        | none => rw [hx] at hargs; simp at hargs
        | some v' => rw [hx] at hargs; simp at hargs; rw [hargs]
     | cons y r =>
      simp at hargs
      cases hx : evalV S env.tm x with
      | none => rw [hx] at hargs; simp at hargs
      | some v' =>
       rw [hx] at hargs
       cases hy : evalV S env.tm y with
       | none => rw [hy] at hargs; simp at hargs
       | some u' =>
        rw [hy] at hargs
        cases hr : List.mapM (evalV S env.tm) r with
        | none => rw [hr] at hargs; simp at hargs
        | some q => rw [hr] at hargs; simp at hargs
   obtain ⟨x, hx, hxv⟩ := hone
   have hv := (evalV_ok h hxv).1
   clear hargs hxv
   have fin : ∀ (n : Nat), (Builtin.len_ c.argTypes o.type #[a.eval x]).run P w = .ok (goInt n) w → V = .d (.int .i64) (n : Int) → us = [] → o.wp P a w K Q := by
    rintro n hr rfl rfl
    refine wp_pure (V := .d (.int .i64) (n : Int)) h (v := goInt n) ?_ hd (int_RepV ..) (by simp [idsOf, ids1]) hK
    unfold execOp
    simp only [ho]
    simp [resolve, hc, hx, invoke, builtin, hr]
   have slc : ∀ (e : Ty) (n cap : Nat) (ad : Option Addr), T = .sl e → a.eval x = .slice ad n cap → (Builtin.len_ c.argTypes o.type #[a.eval x]).run P w = .ok (goInt n) w := by
    rintro e n cap ad rfl he
    obtain ⟨te, ie, z, hu, _⟩ := hP.sl hT
    rw [he]
    simp [Builtin.len_, ht, run_underlying hu]
   unfold lenOp at hl
   split at hl
   · rename_i s
     split at hl
     · rename_i hT'
       subst hT'
       obtain ⟨e1, e2⟩ := ret_leaf hl
       refine fin _ ?_ e1 e2
       have hu : P.underlying t = some .string := (hP.ty t _ hT).2
       rw [RepV_str hv]
       simp only [Builtin.len_, ht]
       simp [run_underlying hu]
       exact congrArg (fun n : Nat => goInt n) (size_mk s)
     · exact hl.elim
   · split at hl
     · rename_i e
       obtain ⟨e1, e2⟩ := ret_leaf hl
       exact fin 0 (slc e 0 0 none rfl hv) e1 e2
     · exact hl.elim
   · rename_i e l
     split at hl
     · rename_i hT'
       obtain ⟨e1, e2⟩ := ret_leaf hl
       obtain ⟨ad, cap, he, _⟩ := RepV_sl hv
       exact fin _ (slc e _ cap ad hT' he) e1 e2
     · exact hl.elim
   · rename_i k e l
     split at hl
     · rename_i hT'
       obtain ⟨e1, e2⟩ := ret_leaf hl
       obtain ⟨ad, cap, he, _⟩ := RepV_sl hv.1
       exact fin _ (slc e _ cap ad hT' he) e1 e2
     · exact hl.elim
   · rename_i k
     have own : ∀ (e : Ty) (l : List (e.den S.C)), (env.bx k = some (.arr e l) ∨ env.bx k = some (.farr e l)) → (if T = .sl e then okv S (.d (.int .i64) (l.length : Int)) [] else .fail : Rt S).leaf (V, us) → o.wp P a w K Q := by
      intro e l hb hl1
      split at hl1
      · rename_i hT'
        obtain ⟨e1, e2⟩ := ret_leaf hl1
        obtain ⟨ad, cap, he, _⟩ := hv.2 e l hb
        exact fin _ (slc e _ cap ad hT' he) e1 e2
      · exact hl1.elim
     split at hl
     · rename_i hb; exact own _ _ (.inl (restrict_some hb)) hl
     · rename_i hb; exact own _ _ (.inr (restrict_some hb)) hl
     · exact hl.elim
   · rename_i b n
     split at hl
     · rename_i e l hb
       have hb := restrict_some hb
       split at hl
       · rename_i hT'
         obtain ⟨e1, e2⟩ := ret_leaf hl
         obtain ⟨hn0, hnl, ad, cap, he, _⟩ := hv.2 e l hb
         refine fin _ (slc e _ cap ad hT' he) ?_ e2
         rw [e1, show ((n.toNat : Nat) : Int) = n from by omega]
       · exact hl.elim
     · exact hl.elim
   · exact hl.elim
 · exact hl.elim
theorem run_slice3 (hP : ProgOk P S byt) {t : Nat} {e : Ty} (ht : S.ty t = some (.sl e)) {ad : Option Addr} {n cap : Nat} {k1 k2 k3 : IntKind} {i j m : Int} (h0 : 0 ≤ i) (h1 : i ≤ j) (h2 : j ≤ m) (h3 : m ≤ (cap : Int)) :
 ∃ v, (Instr.sliceAt t (.slice ad n cap) (some (.int k1 i)) (some (.int k2 j)) (some (.int k3 m))).run P w = .ok v w := by
 obtain ⟨te, ie, z, hu, he, _⟩ := hP.sl ht
 refine ⟨.slice (if m.toNat = i.toNat then ad else ad.map (·.add (i.toNat * Ty.sz S e))) (j.toNat - i.toNat) (m.toNat - i.toNat), ?_⟩
 simp [Instr.sliceAt, Instr.slice, run_underlying hu, Instr.sliceBounds, run_bound (P := P) _ (show 0 ≤ m by omega) h3, run_bound (P := P) (i := j) (y := m.toNat) _ (by omega) (by omega), run_bound (P := P) (i := i) (y := j.toNat) _ (by omega) (by omega), hP.size he]
theorem slice3_ok (hP : ProgOk P S byt) (h : Inv P S w0 M0 s0 dq env a w μ) (hd : ∀ d, o.dst = some d → d < a.tmps.size) {t : TypeId} {x lo hi mx : Operand} {ids : List Nat} (ho : o.op = .slice t x (some lo) (some hi) (some mx))
 (hl : (match S.ty t, evalV S env.tm x, evalV S env.tm lo, evalV S env.tm hi, evalV S env.tm mx with
  | some T, some v, some l, some h, some m => slice3Op S T (restrict S env.bx ids) l h m v
  | _, _, _, _, _ => .fail).leaf (V, us)) (hK : Goal P S w0 M0 s0 dq env a o.dst V us K) : o.wp P a w K Q := by
 split at hl
 · rename_i T v l hh m ht hx hlo hhi hmx
   obtain ⟨hv, hvr⟩ := evalV_ok h hx
   unfold slice3Op at hl
   split at hl
   · rename_i k
     split at hl
     · rename_i e s hb
       have hb := restrict_some hb
       split at hl
       · rename_i hT
         subst hT
         split at hl
         · rename_i i j c e1 e2 e3
           obtain ⟨hg, rfl, rfl⟩ := guards_all hl
           have g0 : 0 ≤ i := hg ⟨0 ≤ i, inferInstance⟩ (by simp [gd])
           have g1 : i ≤ j := hg ⟨i ≤ j, inferInstance⟩ (by simp [gd])
           have g2 : j ≤ c := hg ⟨j ≤ c, inferInstance⟩ (by simp [gd])
           have g3 : c ≤ (s.length : Int) := hg ⟨c ≤ (s.length : Int), inferInstance⟩ (by simp [gd])
           obtain ⟨ad, cap, he, hao⟩ := hv.2 e s (.inl hb)
           have hfit := hao.fits
           obtain ⟨k1, q1⟩ := intOf'_ok (evalV_ok h hlo).1 e1
           obtain ⟨k2, q2⟩ := intOf'_ok (evalV_ok h hhi).1 e2
           obtain ⟨k3, q3⟩ := intOf'_ok (evalV_ok h hmx).1 e3
           obtain ⟨r, hr⟩ := run_slice3 (P := P) (w := w) hP ht (ad := ad) (n := s.length) (cap := cap) (k1 := k1) (k2 := k2) (k3 := k3) g0 g1 g2 (by omega)
           refine wp_pure (V := .undef) h (v := r) ?_ hd trivial (by simp [idsOf, ids1]) hK
           unfold execOp
           simp only [ho, he, Option.map, q1, q2, q3]
           simp [hr]
         · exact hl.elim
       · exact hl.elim
     · exact hl.elim
   · exact hl.elim
 · exact hl.elim
end
end Go.Sy
namespace Go.Sy
section
variable {P : Program} {S : Sen} {byt : Nat → Nat}
variable {w0 : World} {M0 s0 : St} {dq : List Deferred} {env : Env S.C} {a : Act} {w : World} {μ : Nat → Loc} {K : Act → World → Prop} {Q : Exit → Act → World → Prop} {o : Oper} {V : V S.C} {us : Ups S.C}
theorem RVs.map {w w' : World} {s s' : St} {μ μ' : Nat → Loc} {bx bx' : Bx S.C} (h : ∀ V v, RV1 P S w s μ bx V v → (∀ j ∈ ids1 S V, bx j ≠ none) → RV1 P S w' s' μ' bx' V v) :
 ∀ {vs : List (Sy.V S.C)} {cs : List Value}, (∀ v ∈ vs, ∀ j ∈ ids1 S v, bx j ≠ none) → RVs P S w s μ bx vs cs → RVs P S w' s' μ' bx' vs cs
 | [], _, _, h' => h'
 | v :: vs, _, hr, ⟨c, r, h1, h2, h3⟩ => ⟨c, r, h1, h _ _ h2 (hr v (by simp)), RVs.map h (fun v hv => hr v (by simp [hv])) h3⟩
theorem isAgg_one {v : Value} (h : isAgg v = false) : v.cells.toList = [v] := Rep.cells1 (t := .bool) h rfl
theorem solid_one {s : St} {bx : Bx S.C} {V : Sy.V S.C} {v : Value} (hs : solid S V = true) (h : RV1 P S w s μ bx V v) : isAgg v = false ∧ v.oneCell' = true := by
 cases V with
 | d t x =>
  obtain ⟨ha, n, hn⟩ := h
  cases t with
  | st u => simp [solid] at hs
  | int k => rw [RepV_int (w := w) (s := s) ⟨ha, n, hn⟩]; exact ⟨rfl, rfl⟩
  | bool => rw [RepV_bool (w := w) (s := s) ⟨ha, n, hn⟩]; exact ⟨rfl, rfl⟩
  | str => rw [RepV_str (w := w) (s := s) ⟨ha, n, hn⟩]; exact ⟨rfl, rfl⟩
  | pt =>
   cases n with
   | zero => exact hn.elim
   | succ n =>
    have hn : v.cells.toList = [.pointer none] := hn
    rw [Rep.cells1 (t := .pt) ha rfl] at hn
    cases hn
    exact ⟨rfl, rfl⟩
  | sl e => obtain ⟨a, cap, he, _⟩ := RepV_sl (w := w) (s := s) ⟨ha, n, hn⟩; rw [he]; exact ⟨rfl, rfl⟩
 | pr p i => cases h; exact ⟨rfl, rfl⟩
 | town b e l => obtain ⟨a, cap, he, _⟩ := RepV_sl h.1; rw [he]; exact ⟨rfl, rfl⟩
 | marr b => obtain ⟨⟨a, n, c, rfl⟩, _⟩ := h; exact ⟨rfl, rfl⟩
 | ptr b off => cases h; exact ⟨rfl, rfl⟩
 | eptr b i off => obtain ⟨⟨p, rfl⟩, _⟩ := h; exact ⟨rfl, rfl⟩
 | fptr t x => obtain ⟨b, o', ds, rfl, _⟩ := h; exact ⟨rfl, rfl⟩
 | nil => cases h; exact ⟨rfl, rfl⟩
 | nilsl => cases h; exact ⟨rfl, rfl⟩
 | fv A R g => obtain ⟨f, first, cap, rfl, _⟩ := h; exact ⟨rfl, rfl⟩
 | undef => simp [solid] at hs
 | skip => simp [solid] at hs
 | pre b n => simp [solid] at hs
 | win b i n => simp [solid] at hs
 | csl b n => simp [solid] at hs
 | split b c => simp [solid] at hs
 | pcell c => simp [solid] at hs
 | err b => simp [solid] at hs
 | fnc f vs => simp [solid] at hs
 | agg u vs => simp [solid] at hs
 | tup vs => simp [solid] at hs
theorem solids_one {s : St} {bx : Bx S.C} : ∀ {vs : List (Sy.V S.C)} {cs : List Value}, vs.all (solid S) = true → RVs P S w s μ bx vs cs → ∀ c ∈ cs, c.oneCell' = true
 | [], _, _, h, c, hc => by cases h; simp at hc
 | V :: vs, _, hs, ⟨c, r, h1, h2, h3⟩, d, hd => by
  subst h1
  simp only [List.all_cons, Bool.and_eq_true] at hs
  rcases List.mem_cons.1 hd with rfl | hd
  · exact (solid_one hs.1 h2).2
  · exact solids_one hs.2 h3 d hd
theorem cellsOf_ok (hS : SenOk S) {s : St} {bx : Bx S.C} {V : Sy.V S.C} {v : Value} (hs : (cellsOf S V).all (solid S) = true) (h : RV P S w s μ bx V v) :
 RVs P S w s μ bx (cellsOf S V) v.cells.toList ∧ ∀ u ∈ cellsOf S V, ∀ j ∈ ids1 S u, j ∈ idsOf S V := by
 have one : ∀ (W : Sy.V S.C), V = W → cellsOf S V = [W] → RV1 P S w s μ bx W v → (∀ j ∈ ids1 S W, j ∈ idsOf S V) → RVs P S w s μ bx (cellsOf S V) v.cells.toList ∧ ∀ u ∈ cellsOf S V, ∀ j ∈ ids1 S u, j ∈ idsOf S V := by
  intro W hW he h1 h2
  rw [he] at hs
  simp only [List.all_cons, Bool.and_eq_true] at hs
  refine ⟨?_, fun u hu j hj => ?_⟩
  · rw [he, isAgg_one (solid_one hs.1 h1).1]
    exact ⟨v, [], rfl, h1, rfl⟩
  · rw [he] at hu
    simp at hu
    subst hu
    exact h2 j hj
 cases V with
 | d t x =>
  obtain ⟨ha, n, hn⟩ := h
  obtain ⟨h1, h2, h3⟩ := explode_ok (P := P) hS μ bx hn
  exact ⟨h1, fun u hu j hj => by rw [h3 u hu] at hj; simp at hj⟩
 | agg u vs =>
  obtain ⟨cs, rfl, _, _, hvs⟩ := h
  exact ⟨hvs, fun v hv j hj => by simp only [idsOf, List.mem_flatMap]; exact ⟨v, hv, hj⟩⟩
 | tup vs => simp [cellsOf, solid] at hs
 | fnc f vs => simp [cellsOf, solid] at hs
 | undef => simp [cellsOf, solid] at hs
 | skip => simp [cellsOf, solid] at hs
 | pr p i => exact one _ rfl rfl h (fun j hj => hj)
 | town b e l => exact one _ rfl rfl h (fun j hj => hj)
 | marr b => exact one _ rfl rfl h (fun j hj => hj)
 | pre b n => simp [cellsOf, solid] at hs
 | win b i n => simp [cellsOf, solid] at hs
 | csl b n => simp [cellsOf, solid] at hs
 | split b c => simp [cellsOf, solid] at hs
 | pcell c => simp [cellsOf, solid] at hs
 | err b => simp [cellsOf, solid] at hs
 | ptr b off => exact one _ rfl rfl h (fun j hj => hj)
 | eptr b i off => exact one _ rfl rfl h (fun j hj => hj)
 | fptr t x => exact one _ rfl rfl h (fun j hj => hj)
 | nil => exact one _ rfl rfl h (fun j hj => hj)
 | nilsl => exact one _ rfl rfl h (fun j hj => hj)
 | fv A R g => exact one _ rfl rfl h (fun j hj => hj)
theorem fits_ok {vs : List (Sy.V S.C)} {n : Nat} (h : fits S vs n = true) : vs.length = n ∧ vs.all (solid S) = true := by
 unfold fits at h
 rw [Bool.and_eq_true] at h
 exact ⟨Nat.eq_of_beq_eq_true h.1, h.2⟩
theorem new_there {w : World} {cs : Array Value} {t : TypeId} : (w.alloc (.cells cs t)).there w.heap.size 0 cs.size ∧ (w.alloc (.cells cs t)).rangeAt w.heap.size 0 cs.toList := by
 refine ⟨fun j hj => ?_, fun j v hv => ?_⟩
 · rw [Nat.zero_add]
   simp [hj]
 · rw [Nat.zero_add]
   simpa using hv
theorem wp_newVar (hP : ProgOk P S byt) (h : Inv P S w0 M0 s0 dq env a w μ) (hd : ∀ d, o.dst = some d → d < a.tmps.size) {B : Nat} {t : TypeId} {cells : Array Value} {vs : List (Sy.V S.C)}
 (hrun : (execOp a.eval o).run P w = .ok (.value (.pointer (some ⟨w.heap.size, 0, none⟩))) (w.alloc (.cells cells t))) (hB : env.bx B = none)
 (hs : vs.all (solid S) = true) (hv : RVs P S w (stab S w0 M0 s0 env.bx μ w) μ env.bx vs cells.toList) (hr : ∀ v ∈ vs, ∀ j ∈ ids1 S v, env.bx j ≠ none)
 (hK : Goal P S w0 M0 s0 dq env a o.dst (.ptr B 0) [(B, .cells vs)] K) : o.wp P a w K Q := by
 have hlen := RVs.length P S hv
 refine wp_new (i := B) (B := .cells vs) (V := .ptr B 0) (L := ⟨w.heap.size, 0, vs.length, 0, false⟩) h hrun hd (Chg.alloc w _ _) hB (fun b o' hf => Nat.le_of_eq hf.1.symm) (fun _ _ h3 => ⟨⟨hs, rfl, ?_, cells.toList, new_there.2, ?_⟩, ?_⟩)
  (fun vs' hvs v hv j hj => ?_) (fun j hj => .inl (by simpa [idsOf, ids1] using hj)) hK
 · have := (new_there (w := w) (cs := cells) (t := t)).1
   rw [show cells.size = vs.length from by rw [← hlen]; simp] at this
   exact this
 · exact RVs.map h3 hr hv
 · show Value.pointer _ = _
   rw [upd_eq]
 · rcases hvs with hvs | hvs
   · cases hvs; exact hr v hv j hj
   · cases hvs
theorem wp_newSplit (hP : ProgOk P S byt) (h : Inv P S w0 M0 s0 dq env a w μ) (hd : ∀ d, o.dst = some d → d < a.tmps.size) {B c : Nat} {t : TypeId} {cells : Array Value} {vs : List (Sy.V S.C)}
 (hrun : (execOp a.eval o).run P w = .ok (.value (.pointer (some ⟨w.heap.size, 0, none⟩))) (w.alloc (.cells cells t))) (hB : env.bx B = none)
 (hs : (Sy.V.ptr c 0 :: vs).all (solid S) = true) (hv : RVs P S w (stab S w0 M0 s0 env.bx μ w) μ env.bx (.ptr c 0 :: vs) cells.toList) (hr : ∀ v ∈ Sy.V.ptr c 0 :: vs, ∀ j ∈ ids1 S v, env.bx j ≠ none)
 (hK : Goal P S w0 M0 s0 dq env a o.dst (.split B c) [(B, .cells vs)] K) : o.wp P a w K Q := by
 obtain ⟨u, r, hcs, hu, hv⟩ := hv
 have hlen := RVs.length P S hv
 have hc0 : env.bx c ≠ none := hr (.ptr c 0) (by simp) c (by simp [ids1])
 have hcB : c ≠ B := fun e => hc0 (e ▸ hB)
 have hu : u = .pointer (some ⟨(μ c).b, (μ c).o, none⟩) := hu
 have hsz : cells.size = vs.length + 1 := by rw [← Array.length_toList, hcs, List.length_cons, hlen]
 simp only [List.all_cons, Bool.and_eq_true] at hs
 refine wp_new (i := B) (B := .cells vs) (V := .split B c) (L := ⟨w.heap.size, 1, vs.length, 0, false⟩) h hrun hd (Chg.alloc w _ _) hB (fun b o' hf => Nat.le_of_eq hf.1.symm) (fun _ _ h3 => ⟨⟨hs.2, rfl, ?_, r, ?_, ?_⟩, ?_⟩)
  (fun vs' hvs v hv j hj => ?_) (fun j hj => ?_) hK
 · intro j hj
   have := (new_there (w := w) (cs := cells) (t := t)).1 (1 + j) (by have : j < vs.length := hj; omega)
   rw [Nat.zero_add] at this
   exact this
 · intro j v hj
   have := (new_there (w := w) (cs := cells) (t := t)).2 (1 + j) v (by rw [hcs, Nat.add_comm]; simpa using hj)
   rw [Nat.zero_add] at this
   exact this
 · exact RVs.map h3 (fun v hv => hr v (by simp [hv])) hv
 · refine ⟨w.heap.size, 0, rfl, fun j v hj => ?_, by rw [upd_eq], by rw [upd_eq]⟩
   have hj0 : j = 0 ∧ v = .pointer (some ⟨(upd μ B ⟨w.heap.size, 1, vs.length, 0, false⟩ c).b, (upd μ B ⟨w.heap.size, 1, vs.length, 0, false⟩ c).o, none⟩) := by
    cases j with
    | zero => exact ⟨rfl, by simpa using hj.symm⟩
    | succ j => simp at hj
   obtain ⟨rfl, rfl⟩ := hj0
   rw [upd_ne _ _ hcB]
   refine ⟨?_, by simp, .inr (.inr h.chg.size), fun i hi hf => ?_⟩
   · have := (new_there (w := w) (cs := cells) (t := t)).2 0 u (by rw [hcs]; rfl)
     rw [Nat.zero_add] at this
     rw [← hu]
     exact this
   · by_cases e : i = B
     · subst e
       rw [upd_eq] at hf
       have h1 : 1 ≤ 0 + 0 := hf.2.1
       omega
     · have hl := (live_of S (show upd env.bx B (some (.cells vs)) i = env.bx i from upd_ne _ _ e)).1 hi
       rw [upd_ne _ _ e] at hf
       have := (live_lt P S (h.bxs i) hl hf).1
       omega
 · rcases hvs with hvs | hvs
   · cases hvs; exact hr v (by simp [hv]) j hj
   · cases hvs
 · have hj : j ∈ [B, c] := hj
   simp only [List.mem_cons, List.not_mem_nil, or_false] at hj
   rcases hj with rfl | rfl
   · exact .inl rfl
   · exact .inr hc0
theorem zero_ok {s : St} {bx : Bx S.C} : ∀ (ts : List Ty), ts.all (fun t => !isSt t) = true → RVs P S w s μ bx (ts.map (zeroCell S)) (ts.map zval) ∧ (ts.map (zeroCell S)).all (solid S) = true ∧ ∀ v ∈ ts.map (zeroCell S), ids1 S v = []
 | [], _ => ⟨rfl, rfl, by simp⟩
 | t :: ts, h => by
  simp only [List.all_cons, Bool.and_eq_true, Bool.not_eq_true'] at h
  obtain ⟨h1, h2, h3⟩ := zero_ok ts h.2
  refine ⟨⟨_, _, rfl, ?_, h1⟩, ?_, ?_⟩
  · cases t with
    | int k => exact int_RepV ..
    | bool => exact bool_RepV ..
    | str => exact str_RepV ..
    | pt => rfl
    | sl e => rfl
    | st u => simp [isSt] at h
  · simp only [List.map_cons, List.all_cons, Bool.and_eq_true]
    exact ⟨by cases t <;> first | rfl | simp [isSt] at h, h2⟩
  · intro v hv
    simp only [List.map_cons, List.mem_cons] at hv
    rcases hv with rfl | hv
    · cases t <;> rfl
    · exact h3 v hv
theorem zeroCells_ok (hS : SenOk S) {s : St} {bx : Bx S.C} (T : Ty) : RVs P S w s μ bx (zeroCells S T) (zvals S T) ∧ (zeroCells S T).all (solid S) = true ∧ ∀ v ∈ zeroCells S T, ids1 S v = [] := by
 cases T with
 | st u => exact zero_ok (S.F u) (hS.flat u)
 | int k => exact zero_ok [.int k] rfl
 | bool => exact zero_ok [.bool] rfl
 | str => exact zero_ok [.str] rfl
 | pt => exact zero_ok [.pt] rfl
 | sl e => exact zero_ok [.sl e] rfl
theorem bld_alloc (hP : ProgOk P S byt) (h : Inv P S w0 M0 s0 dq env a w μ) (hd : ∀ d, o.dst = some d → d < a.tmps.size) {B : Nat} {t : TypeId} (ho : o.op = .alloc t)
 (hnew : ∀ u ∈ ([(B + 1, .buf []), (B, .bld (B + 1))] : Ups S.C), B ≤ u.1 → u.1 < B + 16 → env.bx u.1 = none) (hb : isBt S t = true)
 (hK : Goal P S w0 M0 s0 dq env a o.dst (.ptr B 0) [(B + 1, .buf []), (B, .bld (B + 1))] K) : o.wp P a w K Q := by
 obtain ⟨T, e, hbt, rfl⟩ : ∃ T e, S.bt = some (T, e) ∧ t = T := by
  unfold isBt at hb
  split at hb
  · rename_i u hu
    exact ⟨u.1, u.2, hu, (Nat.eq_of_beq_eq_true hb).symm⟩
  · cases hb
 obtain ⟨_, i, z, h1, h2, h3⟩ := hP.bt _ hbt
 have n1 := hnew (B + 1, .buf []) (by simp) (by show B ≤ B + 1; omega) (by show B + 1 < B + 16; omega)
 have n0 := hnew (B, .bld (B + 1)) (by simp) (Nat.le_refl _) (by show B < B + 16; omega)
 have hrow : BldRow S w ⟨0, 0, 0, 0, true⟩ [] := ⟨rfl, rfl, fun _ => rfl, _, _, hbt, World.ownsRowF_nil ..⟩
 obtain ⟨hI, _, _⟩ := h.newBox (Chg.refl w _) n1 (B := .buf []) (L := ⟨0, 0, 0, 0, true⟩) (fun b o' hf => by have h1 : o' < 0 + 0 := hf.2.2; omega) (fun _ _ _ => hrow) (fun vs hvs => by rcases hvs with hvs | hvs <;> cases hvs)
 have hne : ∀ (i : Nat) (B0 : Option (Box S.C)), i = B → upd env.bx (B + 1) (some (.buf [])) i = env.bx i := fun i _ e => upd_ne _ _ (by omega)
 refine wp_new (env := { env with bx := upd env.bx (B + 1) (some (.buf [])) }) (i := B) (B := .bld (B + 1)) (V := .ptr B 0) (v := .pointer (some ⟨w.heap.size, 0, none⟩)) (w' := w.alloc (.cells #[.pointer none, .slice none 0 0] t)) (L := ⟨w.heap.size, 0, 2, 0, false⟩) hI ?_ hd (Chg.alloc w _ _) ((hne B none rfl).trans n0) (fun b o' hf => Nat.le_of_eq hf.1.symm)
  (fun _ _ _ => ⟨⟨rfl, rfl, ?_, .slice none 0 0, ⟨t, e, .pointer none, hbt, (by show (w.heap.push _)[w.heap.size]? = some _; simp), .inl rfl⟩, fun l hl => ?_⟩, ?_⟩) (fun vs hvs => by rcases hvs with hvs | hvs <;> cases hvs) (fun j hj => .inl (by simpa [idsOf, ids1] using hj)) hK
 · unfold execOp
   simp only [ho]
   simp [Instr.alloc, zeroValue, typeInfo, h1, h2, h3, newVar, newRow]
 · rw [upd_ne _ _ (show B + 1 ≠ B by omega)]
   show upd env.bx (B + 1) (some (.buf [])) (B + 1) ≠ none
   rw [upd_eq]; simp
 · rw [upd_ne _ _ (show B + 1 ≠ B by omega)] at hl
   have hl : upd env.bx (B + 1) (some (.buf [])) (B + 1) = some (.buf l) := hl
   rw [upd_eq] at hl
   cases hl
   rw [upd_ne _ _ (show B + 1 ≠ B by omega), upd_eq]
   rfl
 · show Value.pointer _ = _
   rw [upd_eq]
theorem alloc_ok (hP : ProgOk P S byt) (h : Inv P S w0 M0 s0 dq env a w μ) (hd : ∀ d, o.dst = some d → d < a.tmps.size) {B : Nat} {t : TypeId} (ho : o.op = .alloc t)
 (hnew : ∀ u ∈ us, B ≤ u.1 → u.1 < B + 16 → env.bx u.1 = none)
 (hl : (match S.ty t with
  | some u => okv S (.ptr B 0) [(B, .cells (zeroCells S u))]
  | none => cond (isBt S t) (okv S (.ptr B 0) [(B + 1, .buf []), (B, .bld (B + 1))]) .fail).leaf (V, us)) (hK : Goal P S w0 M0 s0 dq env a o.dst V us K) : o.wp P a w K Q := by
 split at hl
 · rename_i T ht
   obtain ⟨rfl, rfl⟩ := ret_leaf hl
   obtain ⟨⟨i, z, h1, h2, h3, h4, h5⟩, _⟩ := hP.ty t T ht
   obtain ⟨z1, z2, z3⟩ := zeroCells_ok (P := P) (w := w) (μ := μ) hP.toSenOk (s := stab S w0 M0 s0 env.bx μ w) (bx := env.bx) T
   refine wp_newVar hP h hd (cells := z.cells) (t := t) ?_ (hnew (B, .cells (zeroCells S T)) (List.mem_singleton.2 rfl) (Nat.le_refl _) (by show B < B + 16; omega)) z2 (by rw [h5]; exact z1) (fun v hv j hj => by rw [z3 v hv] at hj; simp at hj) hK
   unfold execOp
   simp only [ho]
   simp [Instr.alloc, zeroValue, typeInfo, h1, h3, newVar, newRow]
 · cases hb : isBt S t with
   | false => rw [hb] at hl; exact hl.elim
   | true =>
    rw [hb] at hl
    obtain ⟨rfl, rfl⟩ := ret_leaf hl
    exact bld_alloc hP h hd ho hnew hb hK
theorem box_ok (hP : ProgOk P S byt) (h : Inv P S w0 M0 s0 dq env a w μ) (hd : ∀ d, o.dst = some d → d < a.tmps.size) {B : Nat} {t : TypeId} {x : Operand} (ho : o.op = .box t x)
 (hnew : ∀ u ∈ us, B ≤ u.1 → u.1 < B + 16 → env.bx u.1 = none)
 (hl : (match S.ty t, evalV S env.tm x with
  | some u, some v => cond (fits S (cellsOf S v) (Ty.sz S u)) (match S.sp t with
   | false => okv S (.ptr (B) 0) [(B, .cells (cellsOf S v))]
   | true => match cellsOf S v with
    | .ptr c 0 :: vs => okv S (.split B c) [(B, .cells vs)]
    | _ => .fail) .fail
  | _, _ => .fail).leaf (V, us)) (hK : Goal P S w0 M0 s0 dq env a o.dst V us K) : o.wp P a w K Q := by
 split at hl
 · rename_i T v ht hx
   cases hf : fits S (cellsOf S v) (Ty.sz S T) with
   | false => rw [hf] at hl; exact hl.elim
   | true =>
    rw [hf, cond_true] at hl
    obtain ⟨f1, f2⟩ := fits_ok hf
    obtain ⟨hv, hvr⟩ := evalV_ok h hx
    obtain ⟨c1, c2⟩ := cellsOf_ok hP.toSenOk f2 hv
    split at hl
    rotate_left
    · split at hl
      · rename_i c vs hcs
        obtain ⟨rfl, rfl⟩ := ret_leaf hl
        rw [hcs] at f2 c1 c2
        refine wp_newSplit hP h hd (cells := (a.eval x).cells) (t := t) ?_ (hnew (B, .cells vs) (List.mem_singleton.2 rfl) (Nat.le_refl _) (by show B < B + 16; omega)) f2 c1 (fun v hv j hj => hvr j (c2 v hv j hj)) hK
        unfold execOp
        simp only [ho]
        simp [Instr.box, newVar, newRow]
      · exact hl.elim
    obtain ⟨rfl, rfl⟩ := ret_leaf hl
    refine wp_newVar hP h hd (cells := (a.eval x).cells) (t := t) ?_ (hnew (B, .cells (cellsOf S v)) (List.mem_singleton.2 rfl) (Nat.le_refl _) (by show B < B + 16; omega)) f2 c1 (fun v hv j hj => hvr j (c2 v hv j hj)) hK
    unfold execOp
    simp only [ho]
    simp [Instr.box, newVar, newRow]
 · exact hl.elim
end
end Go.Sy
namespace Go.Sy
theorem range_out {w : World} {b o b' o' : Nat} {cs vals : List Value} (h : w.rangeAt b' o' cs) (hd : b' ≠ b ∨ o' + cs.length ≤ o ∨ o + vals.length ≤ o') : (w.setCells b o vals).rangeAt b' o' cs := fun j v hj => by
 have hjl := (List.getElem?_eq_some_iff.1 hj).1
 rw [World.cell?_setCells_out b vals o w ⟨b', o' + j, none⟩ fun hb _ => by
  have hb : b' = b := hb
  show o' + j < o ∨ o + vals.length ≤ o' + j
  rcases hd with hd | hd | hd
  · exact absurd hb hd
  · omega
  · omega]
 exact h j v hj
theorem range_set {w : World} {b o : Nat} {cs vals : List Value} (h : w.rangeAt b o cs) (k : Nat) (hk : k + vals.length ≤ cs.length) : (w.setCells b (o + k) vals).rangeAt b o (cs.take k ++ vals ++ cs.drop (k + vals.length)) := fun j v hj => by
 have hin := World.cell?_setCells_in b vals (o + k) w (fun i hi => by
  have : (cs[k + i]?).isSome = true := by rw [List.getElem?_eq_getElem (by omega)]; rfl
  obtain ⟨u, hu⟩ := Option.isSome_iff_exists.1 this
  rw [Nat.add_assoc, h _ _ hu]; rfl)
 by_cases h1 : j < k
 · rw [List.append_assoc, List.getElem?_append_left (by simp; omega), List.getElem?_take, if_pos h1] at hj
   rw [World.cell?_setCells_out b vals (o + k) w ⟨b, o + j, none⟩ fun _ _ => .inl (by show o + j < o + k; omega)]
   exact h j v hj
 · by_cases h2 : j < k + vals.length
   · rw [List.append_assoc, List.getElem?_append_right (by simp; omega), List.getElem?_append_left (by simp; omega)] at hj
     have hlen : (List.take k cs).length = k := by simp; omega
     rw [hlen] at hj
     have := hin (j - k) (by omega)
     rw [show o + k + (j - k) = o + j from by omega] at this
     rw [this, ← hj, List.getElem?_eq_getElem]
   · rw [List.append_assoc, List.getElem?_append_right (by simp; omega), List.getElem?_append_right (by simp; omega), List.getElem?_drop] at hj
     have hlen : (List.take k cs).length = k := by simp; omega
     rw [hlen] at hj
     rw [World.cell?_setCells_out b vals (o + k) w ⟨b, o + j, none⟩ fun _ _ => .inr (by show o + k + vals.length ≤ o + j; omega)]
     rw [show k + vals.length + (j - k - vals.length) = j from by omega] at hj
     exact h j v hj
theorem range_in {w : World} {b o : Nat} {vals : List Value} (ht : w.there b o vals.length) : (w.setCells b o vals).rangeAt b o vals := fun j v hj => by
 have hjl := (List.getElem?_eq_some_iff.1 hj).1
 rw [World.cell?_setCells_in b vals o w (fun i hi => (ht i hi).1) j hjl, ← hj, List.getElem?_eq_getElem]
theorem there_set {w : World} {b o n b' o' : Nat} {vals : List Value} (h : w.there b o n) (hs : w.there b' o' vals.length) : (w.setCells b' o' vals).there b o n := fun j hj => by
 have hc := Chg.setCells w b' o' vals hs
 have hlt : b < w.heap.size := by
  obtain ⟨v, hv⟩ := Option.isSome_iff_exists.1 (h j hj).1
  exact World.block_lt_of_cell? w _ hv
 exact ⟨hc.some _ _ hlt (h j hj).1, (World.frozen?_setCells ..).trans (h j hj).2⟩
section
variable {P : Program} {S : Sen} {byt : Nat → Nat}
variable {w0 : World} {M0 s0 : St} {dq : List Deferred} {env : Env S.C} {a : Act} {w : World} {μ : Nat → Loc} {K : Act → World → Prop} {Q : Exit → Act → World → Prop} {o : Oper} {V : V S.C} {us : Ups S.C}
theorem live_there {s : St} {bx : Bx S.C} {i : Nat} {L : Loc} {B : Box S.C} (hb : bx i = some B) (hl : live S bx i) (hB : ∀ l, B ≠ .buf l) (h : RB P S w s μ bx L B) : w.there L.b L.o L.n := by
 unfold live at hl
 rw [hb] at hl
 cases B with
 | cells vs => exact h.2.2.1
 | arr e l => exact h.2.2.2.1
 | tail => exact h
 | fcells vs => exact hl.elim
 | farr e l => exact hl.elim
 | dead => exact hl.elim
 | bld j =>
  obtain ⟨h1, h2, _, v, ⟨T, e, p, _, h3, _⟩, _⟩ := h
  intro k hk
  rw [h1, h2] at *
  rw [Lib.cell_of_heap h3, Lib.frozen_of_heap h3]
  refine ⟨by simp; omega, rfl⟩
 | buf l => exact absurd rfl (hB l)
theorem compat_live {m m' : Loc} {B B' : Box S.C} (h : compat S m m' B B') : m' = m := by
 cases B <;> cases B' <;> simp only [compat] at h <;> first | exact h | exact h.1
theorem Inv.write (h : Inv P S w0 M0 s0 dq env a w μ) {i : Nat} {B0 B' : Box S.C} (hi : env.bx i = some B0) (hl0 : live S env.bx i) (hBf : ∀ l, B0 ≠ .buf l) {o' : Nat} {vals : List Value}
 (h1 : (μ i).o ≤ o') (h2 : o' + vals.length ≤ (μ i).o + (μ i).n) (hc : compat S (μ i) (μ i) B0 B')
 (hb : Later w (stab S w0 M0 s0 env.bx μ w) (w.setCells (μ i).b o' vals) (stab S w0 M0 s0 (upd env.bx i (some B')) μ (w.setCells (μ i).b o' vals)) →
  (∀ V v, RV1 P S w (stab S w0 M0 s0 env.bx μ w) μ env.bx V v → (∀ j ∈ ids1 S V, env.bx j ≠ none) →
   RV1 P S (w.setCells (μ i).b o' vals) (stab S w0 M0 s0 (upd env.bx i (some B')) μ (w.setCells (μ i).b o' vals)) μ (upd env.bx i (some B')) V v) →
  RB P S (w.setCells (μ i).b o' vals) (stab S w0 M0 s0 (upd env.bx i (some B')) μ (w.setCells (μ i).b o' vals)) μ (upd env.bx i (some B')) (μ i) B')
 (hr : ∀ vs, (B' = .cells vs ∨ B' = .fcells vs) → ∀ v ∈ vs, ∀ j ∈ ids1 S v, env.bx j ≠ none) :
 Inv P S w0 M0 s0 dq { env with bx := upd env.bx i (some B') } a (w.setCells (μ i).b o' vals) μ := by
 have hthere := there_sub (live_there hi hl0 hBf (h.bxs i B0 hi)) h1 h2
 have hU : ∀ j, ¬ j = i → upd env.bx i (some B') j = env.bx j ∧ μ j = μ j := fun j hj => ⟨upd_ne _ _ hj, rfl⟩
 have hT : ∀ b o, (b = (μ i).b ∧ o' ≤ o ∧ o < o' + vals.length) → b < w.heap.size → ∃ j, j = i ∧ live S env.bx j ∧ (μ j).foot b o := fun b o hbo _ =>
  ⟨i, rfl, hl0, hbo.1, by omega, by omega⟩
 have hf : ∀ j, j = i → live S (upd env.bx i (some B')) j → ∀ b o, (μ j).foot b o → w.heap.size ≤ b ∨ ∃ k, k = i ∧ live S env.bx k ∧ (μ k).foot b o := by
  rintro j rfl _ b o hfo
  exact .inr ⟨j, rfl, hl0, hfo⟩
 have hcc : ∀ j B0, env.bx j = some B0 → ∃ B1, upd env.bx i (some B') j = some B1 ∧ compat S (μ j) (μ j) B0 B1 := by
  intro j B1 hj
  by_cases e : j = i
  · subst e
    rw [hi] at hj
    cases hj
    exact ⟨B', upd_eq _ _ _, hc⟩
  · exact ⟨B1, by rw [upd_ne _ _ e]; exact hj, compat.refl S _ _⟩
 have hw := Chg.setCells w (μ i).b o' vals hthere
 have hl := h.later (U := fun j => j = i) hw hT hU hf
 refine h.step (U := fun j => j = i) hw hT hU hf hcc ?_ ?_ ?_
 · rintro j k rfl rfl hne; exact absurd rfl hne
 · rintro j B1 rfl hB1
   rw [upd_eq] at hB1
   cases hB1
   exact hb hl fun V v hv hr => RV1.step P S hl hcc hr hv
 · rintro j vs rfl hvs v hv k hk
   rw [upd_eq] at hvs
   have h0 := hr vs (by rcases hvs with hvs | hvs <;> · cases hvs; simp) v hv k hk
   obtain ⟨B1, hB1⟩ := Option.ne_none_iff_exists'.1 h0
   obtain ⟨B2, hB2, _⟩ := hcc k B1 hB1
   rw [hB2]; simp
theorem run_store (hP : ProgOk P S byt) {t : Nat} {T : Ty} (ht : S.ty t = some T) {b o' : Nat} {v : Value} (hs : v.cells.size = Ty.sz S T) (hth : w.there b o' v.cells.toList.length) (h1 : ∀ c ∈ v.cells.toList, c.oneCell' = true) :
 (Instr.storeAt t (.pointer (some ⟨b, o', none⟩)) v).run P w = .ok () (w.setCells b o' v.cells.toList) := by
 obtain ⟨⟨i, z, hi, hsz, _⟩, _⟩ := hP.ty t T ht
 have h2 := run_storeAt_mid (P := P) w b o' t v.cells (by simpa using hth) (by rw [hi]; simp [hsz, hs]) (Array.all_eq_true_iff_forall_mem.2 fun c hc => h1 c (by simpa using hc))
 exact h2
theorem wp_store (h : Inv P S w0 M0 s0 dq env a w μ) (hd : ∀ d, o.dst = some d → d < a.tmps.size) {w' : World} {us : Ups S.C}
 (hrun : (execOp a.eval o).run P w = .ok .skip w') (hI : Inv P S w0 M0 s0 dq { env with bx := updates env.bx us } a w' μ)
 (hK : Goal P S w0 M0 s0 dq env a o.dst .skip us K) : o.wp P a w K Q := by
 unfold Oper.wp
 rw [hrun]
 refine hK _ w' μ (hI.put hd (V := .skip) (v := undef) rfl (by simp [idsOf, ids1])) ?_
 cases o.dst <;> simp [Act.put]
theorem setCells_all {vs ws : List (Sy.V S.C)} {off : Nat} {p : Sy.V S.C → Bool} (h1 : vs.all p = true) (h2 : ws.all p = true) : (setCells S vs off ws).all p = true := by
 unfold Sy.setCells
 rw [List.all_eq_true] at *
 intro x hx
 simp only [List.mem_append] at hx
 rcases hx with (hx | hx) | hx
 · exact h1 x (List.mem_of_mem_take hx)
 · exact h2 x hx
 · exact h1 x (List.mem_of_mem_drop hx)
theorem setCells_mem {vs ws : List (Sy.V S.C)} {off : Nat} {x : Sy.V S.C} (hx : x ∈ setCells S vs off ws) : x ∈ vs ∨ x ∈ ws := by
 unfold Sy.setCells at hx
 simp only [List.mem_append] at hx
 rcases hx with (hx | hx) | hx
 · exact .inl (List.mem_of_mem_take hx)
 · exact .inr hx
 · exact .inl (List.mem_of_mem_drop hx)
theorem setCells_len {vs ws : List (Sy.V S.C)} {off : Nat} (h : off + ws.length ≤ vs.length) : (setCells S vs off ws).length = vs.length := by
 unfold Sy.setCells; simp; omega
theorem setCells_RVs {s : St} {bx : Bx S.C} {vs ws : List (Sy.V S.C)} {cs ds : List Value} {off : Nat} (h1 : RVs P S w s μ bx vs cs) (h2 : RVs P S w s μ bx ws ds) :
 RVs P S w s μ bx (setCells S vs off ws) (cs.take off ++ ds ++ cs.drop (off + ds.length)) := by
 unfold Sy.setCells
 rw [RVs.length P S h2]
 exact RVs.append P S (RVs.append P S (h1.take P S off) h2) (h1.drop P S _)
theorem datum_restrict {bx bx' : Bx S.C} {t : Ty} {V : Sy.V S.C} (h : ∀ i ∈ idsOf S V, bx' i = bx i) : datum S bx' t V = datum S bx t V ∧ freezes S bx' V = freezes S bx V := by
 have asTy_eq : ∀ (W : Sy.V S.C) (t : Ty), (∀ i ∈ ids1 S W, bx' i = bx i) → asTy S bx' t W = asTy S bx t W := by
  intro W t hW
  cases W with
  | marr b => simp only [asTy]; rw [hW b (by simp [ids1])]
  | _ => rfl
 have fr_eq : ∀ (W : Sy.V S.C), (∀ i ∈ ids1 S W, bx' i = bx i) → freeze1 S bx' W = freeze1 S bx W := by
  intro W hW
  cases W with
  | marr b => simp only [freeze1]; rw [hW b (by simp [ids1])]
  | _ => rfl
 have tup_eq : ∀ (ts : List Ty) (vs : List (Sy.V S.C)), (∀ v ∈ vs, ∀ i ∈ ids1 S v, bx' i = bx i) → tupFrom S bx' ts vs = tupFrom S bx ts vs := by
  intro ts
  induction ts with
  | nil => intro vs _; rfl
  | cons t ts ih =>
   intro vs hvs
   cases vs with
   | nil => rfl
   | cons v vs =>
    simp only [tupFrom]
    rw [asTy_eq v t (hvs v (by simp)), ih vs fun v hv => hvs v (by simp [hv])]
 have imp_eq : ∀ (t : Ty) (vs : List (Sy.V S.C)), (∀ v ∈ vs, ∀ i ∈ ids1 S v, bx' i = bx i) → implode S bx' t vs = implode S bx t vs := by
  intro t vs hvs
  cases t with
  | st u => simp only [implode]; rw [tup_eq _ vs hvs]
  | _ =>
   cases vs with
   | nil => rfl
   | cons v vs => exact asTy_eq v _ (hvs v (by simp))
 cases V with
 | agg u vs =>
  have hvs : ∀ v ∈ vs, ∀ i ∈ ids1 S v, bx' i = bx i := fun v hv i hi => h i (by simp only [idsOf, List.mem_flatMap]; exact ⟨v, hv, hi⟩)
  refine ⟨?_, ?_⟩
  · cases t <;> simp only [datum]
    rw [imp_eq _ vs hvs]
  · simp only [freezes]
    clear h
    induction vs with
    | nil => rfl
    | cons v vs ih =>
     simp only [List.flatMap_cons]
     rw [fr_eq v (hvs v (by simp)), ih fun v hv => hvs v (by simp [hv])]
 | marr b => exact ⟨by cases t <;> first | rfl | exact asTy_eq (.marr b) _ h, fr_eq (.marr b) h⟩
 | _ => exact ⟨by cases t <;> rfl, rfl⟩
theorem store_ok (hP : ProgOk P S byt) (h : Inv P S w0 M0 s0 dq env a w μ) (hd : ∀ d, o.dst = some d → d < a.tmps.size) {t : TypeId} {x y : Operand} {ids : List Nat} (ho : o.op = .store t x y)
 (hids : ∀ V, evalV S env.tm y = some V → ∀ i ∈ idsOf S V, restrict S env.bx ids i = env.bx i)
 (hl : (match S.ty t, evalV S env.tm x, evalV S env.tm y with
  | some u, some p, some v => storeOp S u (restrict S env.bx ids) v p
  | _, _, _ => .fail).leaf (V, us)) (hK : Goal P S w0 M0 s0 dq env a o.dst V us K) : o.wp P a w K Q := by
 split at hl
 · rename_i T p v ht hx hy
   obtain ⟨hp, _⟩ := evalV_ok h hx
   obtain ⟨hv, hvr⟩ := evalV_ok h hy
   cases p with
   | ptr b off =>
    simp only [storeOp] at hl
    split at hl
    · rename_i vs hb
      have hb := restrict_some hb
      cases hf : fits S (cellsOf S v) (Ty.sz S T) && Nat.ble (off + Ty.sz S T) vs.length with
      | false => rw [hf] at hl; exact hl.elim
      | true =>
       rw [hf] at hl
       obtain ⟨rfl, rfl⟩ := ret_leaf hl
       rw [Bool.and_eq_true] at hf
       obtain ⟨f1, f2⟩ := fits_ok hf.1
       have f3 := Nat.le_of_ble_eq_true hf.2
       obtain ⟨c1, c2⟩ := cellsOf_ok hP.toSenOk f2 hv
       have clen := RVs.length P S c1
       obtain ⟨b1, b2, b3, cs, b4, b5⟩ := h.bxs b _ hb
       have blen := RVs.length P S b5
       have hlive : live S env.bx b := by unfold live; rw [hb]; trivial
       have hle : off + (a.eval y).cells.toList.length ≤ cs.length := by omega
       have hth : w.there (μ b).b ((μ b).o + off) (a.eval y).cells.toList.length := there_sub b3 (by omega) (by omega)
       have hp : a.eval x = .pointer (some ⟨(μ b).b, (μ b).o + off, none⟩) := hp
       have hrun : (execOp a.eval o).run P w = .ok .skip (w.setCells (μ b).b ((μ b).o + off) (a.eval y).cells.toList) := by
        unfold execOp
        simp only [ho, hp]
        have := run_store hP ht (b := (μ b).b) (o' := (μ b).o + off) (v := a.eval y) (w := w) (by rw [← f1, ← clen]; simp) hth (solids_one f2 c1)
        simp [this]
       refine wp_store h hd hrun ?_ hK
       show Inv P S w0 M0 s0 dq { env with bx := upd env.bx b (some (.cells (setCells S vs off (cellsOf S v)))) } a _ μ
       refine h.write hb hlive (fun _ e => nomatch e) (by omega) (by omega) rfl (fun hl hRV => ⟨setCells_all b1 f2, by rw [setCells_len (by omega)]; exact b2, there_set b3 hth, _, range_set b4 off hle, ?_⟩) fun ws hws u hu j hj => ?_
       · refine setCells_RVs (RVs.map hRV (fun v hv => h.refB b vs (.inl hb) v hv) b5) (RVs.map hRV (fun u hu j hj => hvr j (c2 u hu j hj)) c1)
       · rcases hws with hws | hws
         · cases hws
           rcases setCells_mem hu with hu | hu
           · exact h.refB b vs (.inl hb) u hu j hj
           · exact hvr j (c2 u hu j hj)
         · cases hws
    · exact hl.elim
   | eptr b i off =>
    simp only [storeOp] at hl
    split at hl
    · rename_i e l hb
      have hb := restrict_some hb
      split at hl
      · rename_i z hz
        obtain ⟨d1, d2⟩ := datum_restrict (t := T) (hids v hy)
        rw [d1] at hz
        rw [d2] at hl
        cases hf : Nat.ble (off + Ty.sz S T) (Ty.sz S e) && (freezes S env.bx v).all (fun u => !Nat.beq u.1 b) with
        | false => rw [hf] at hl; exact hl.elim
        | true =>
         rw [hf, cond_true] at hl
         rw [Bool.and_eq_true] at hf
         split at hl
         · rename_i e' he'
           obtain ⟨rfl, rfl⟩ := ret_leaf hl
           have f3 := Nat.le_of_ble_eq_true hf.1
           obtain ⟨k1, r1⟩ := datum_ok hP.toSenOk h (Tk.refl S env.bx) hv hz
           have h1 := h.tk k1
           have hb1 : updates env.bx (freezes S env.bx v) b = some (.arr e l) := by
            rw [updates_out _ _ fun u hu => ?_]
            · exact hb
            · have := List.all_eq_true.1 hf.2 u hu
              intro e
              rw [e, Nat.beq_refl] at this
              cases this
           obtain ⟨_, hp2⟩ := h1.tms 0 |> fun _ => (show RV P S w (stab S w0 M0 s0 env.bx μ w) μ env.bx (.eptr b i off) (a.eval x) from hp)
           obtain ⟨i0, i1, hpe⟩ := hp2 e l (.inl hb)
           obtain ⟨g1, g2, g3, g4, g5⟩ := h1.bxs b _ hb1
           have hli : l[i.toNat]? = some (getZ S e l i) := getZ_get i0 (by omega)
           obtain ⟨ds, ds1, ds2, n, ds3⟩ := g5 _ _ hli
           have r2 : RepV S w (stab S w0 M0 s0 (updates env.bx (freezes S env.bx v)) μ w) T z (a.eval y) := by
            refine r1.mono S fun b' o' ⟨q1, q2, q3⟩ => ⟨⟨q1, q2, fun j hj => ?_⟩, rfl⟩
            rcases q3 j ((live_of S (k1.of_live hj)).1 hj) with ⟨_, _, hq⟩ | hq
            · unfold live at hj; rw [hq] at hj; exact hj.elim
            · exact hq
           obtain ⟨m, r3⟩ := r2.2
           have hvl := r3.length S
           have hrow : (i.toNat + 1) * Ty.sz S e ≤ (μ b).cap * Ty.sz S e := Nat.mul_le_mul_right _ (by omega)
           rw [Nat.add_mul, Nat.one_mul] at hrow
           have hlive : live S (updates env.bx (freezes S env.bx v)) b := by unfold live; rw [hb1]; trivial
           have hth : w.there (μ b).b ((μ b).o + (i.toNat * Ty.sz S e + off)) (a.eval y).cells.toList.length := there_sub g4 (by omega) (by omega)
           obtain ⟨x1, x2, x3⟩ := explode_ok (P := P) hP.toSenOk μ (updates env.bx (freezes S env.bx v)) r3
           obtain ⟨y1, y2, y3⟩ := explode_ok (P := P) hP.toSenOk μ (updates env.bx (freezes S env.bx v)) ds3
           have xlen := RVs.length P S x1
           have ylen := RVs.length P S y1
           have hrun : (execOp a.eval o).run P w = .ok .skip (w.setCells (μ b).b ((μ b).o + (i.toNat * Ty.sz S e + off)) (a.eval y).cells.toList) := by
            unfold execOp
            rw [show (μ b).o + i.toNat * Ty.sz S e + off = (μ b).o + (i.toNat * Ty.sz S e + off) from by omega] at hpe
            simp only [ho, hpe]
            have := run_store hP ht (b := (μ b).b) (o' := (μ b).o + (i.toNat * Ty.sz S e + off)) (v := a.eval y) (w := w) (by rw [← hvl]; simp) hth (solids_one x2 x1)
            simp [this]
           refine wp_store h hd hrun ?_ hK
           rw [updates_append]
           show Inv P S w0 M0 s0 dq { env with bx := upd (updates env.bx (freezes S env.bx v)) b (some (.arr e (l.set i.toNat e'))) } a _ μ
           refine h1.write (B' := .arr e (l.set i.toNat e')) hb1 hlive (fun _ e => nomatch e) (by omega) (by omega) ⟨rfl, rfl, by simp⟩ (fun hl hRV => ⟨g1, g2, by simpa using g3, there_set g4 hth, fun k q hk => ?_⟩) fun ws hws => by rcases hws with hws | hws <;> cases hws
           by_cases ek : i.toNat = k
           · subst ek
             rw [List.getElem?_set_self (by omega)] at hk
             cases hk
             rw [show (μ b).o + (i.toNat * Ty.sz S e + off) = (μ b).o + i.toNat * Ty.sz S e + off from by omega] at hl ⊢
             refine ⟨_, ?_, range_set (cs := ds) (vals := (a.eval y).cells.toList) ds2 off (by omega), ?_⟩
             · rw [List.length_append, List.length_append, List.length_take, List.length_drop]; omega
             · obtain ⟨q, hq⟩ := implode0_ok (P := P) hP.toSenOk (setCells_RVs (off := off) y1 x1) he'
               refine ⟨q, ?_⟩
               have := hq.mono S hl (Nat.le_refl _)
               rw [List.take_of_length_le (by rw [List.length_append, List.length_append, List.length_take, List.length_drop]; omega)] at this
               exact this
           · rw [List.getElem?_set_ne ek] at hk
             obtain ⟨ds', p1, p2, p3, p4⟩ := g5 k q hk
             refine ⟨ds', p1, range_out p2 (.inr ?_), p3, p4.mono S hl (Nat.le_refl _)⟩
             rcases Nat.lt_or_gt_of_ne ek with hlt | hlt
             · right
               have : (i.toNat + 1) * Ty.sz S e ≤ k * Ty.sz S e := Nat.mul_le_mul_right _ (by omega)
               rw [Nat.add_mul, Nat.one_mul] at this
               omega
             · left
               have : (k + 1) * Ty.sz S e ≤ i.toNat * Ty.sz S e := Nat.mul_le_mul_right _ (by omega)
               rw [Nat.add_mul, Nat.one_mul] at this
               omega
         · exact hl.elim
      · exact hl.elim
    · exact hl.elim
   | _ => exact hl.elim
 · exact hl.elim
end
end Go.Sy
namespace Go.Sy
section
variable {P : Program} {S : Sen} {byt : Nat → Nat}
variable {w0 : World} {M0 s0 : St} {dq : List Deferred} {env : Env S.C} {a : Act} {w : World} {μ : Nat → Loc} {K : Act → World → Prop} {Q : Exit → Act → World → Prop} {o : Oper} {V : V S.C} {us : Ups S.C}
theorem mapM_some_cons {α β : Type} {f : α → Option β} {x : α} {r : List α} {ys : List β} (h : (x :: r).mapM f = some ys) : ∃ y zs, f x = some y ∧ r.mapM f = some zs ∧ ys = y :: zs := by
 rw [List.mapM_cons] at h
 cases hx : f x with
 | none => rw [hx] at h; cases h
 | some y =>
  rw [hx] at h
  cases hr : r.mapM f with
  | none => rw [hr] at h; cases h
  | some zs => rw [hr] at h; cases h; exact ⟨y, zs, rfl, rfl, rfl⟩
def RPs (P : Program) (S : Sen) (w : World) (s : St) (μ : Nat → Loc) (bx : Bx S.C) : List (Nat × Sy.V S.C) → List (Nat × Value) → Prop
 | [], qs => qs = []
 | p :: ps, qs => ∃ v r, qs = (p.1, v) :: r ∧ RV P S w s μ bx p.2 v ∧ RPs P S w s μ bx ps r
theorem parts_ok (h : Inv P S w0 M0 s0 dq env a w μ) : ∀ {parts : List (Nat × Operand)} {ps : List (Nat × Sy.V S.C)}, parts.mapM (fun (p : Nat × Operand) => (evalV S env.tm p.2).map fun v => (p.1, v)) = some ps →
 RPs P S w (stab S w0 M0 s0 env.bx μ w) μ env.bx ps (parts.map fun (i, x) => (i, a.eval x)) ∧ ∀ p ∈ ps, ∃ x i, (i, x) ∈ parts ∧ evalV S env.tm x = some p.2
 | [], ps, hp => by cases hp; exact ⟨rfl, by simp⟩
 | (i, x) :: r, ps, hp => by
  obtain ⟨y, zs, h1, h2, rfl⟩ := mapM_some_cons hp
  obtain ⟨h3, h4⟩ := parts_ok h h2
  cases hx : evalV S env.tm x with
  | none => rw [hx] at h1; cases h1
  | some v =>
   rw [hx] at h1
   cases h1
   refine ⟨⟨a.eval x, _, rfl, (evalV_ok h hx).1, h3⟩, fun p hp => ?_⟩
   rcases List.mem_cons.1 hp with rfl | hp
   · exact ⟨x, i, by simp, hx⟩
   · obtain ⟨x', i', h5, h6⟩ := h4 p hp
     exact ⟨x', i', by simp [h5], h6⟩
theorem args_ok (h : Inv P S w0 M0 s0 dq env a w μ) : ∀ {xs : List Operand} {vs : List (Sy.V S.C)}, xs.mapM (evalV S env.tm) = some vs →
 RVl P S w (stab S w0 M0 s0 env.bx μ w) μ env.bx vs (xs.map a.eval) ∧ ∀ v ∈ vs, ∃ x ∈ xs, evalV S env.tm x = some v
 | [], vs, hp => by cases hp; exact ⟨rfl, by simp⟩
 | x :: r, ps, hp => by
  obtain ⟨y, zs, h1, h2, rfl⟩ := mapM_some_cons hp
  obtain ⟨h3, h4⟩ := args_ok h h2
  refine ⟨⟨a.eval x, _, rfl, (evalV_ok h h1).1, h3⟩, fun p hp => ?_⟩
  rcases List.mem_cons.1 hp with rfl | hp
  · exact ⟨x, by simp, h1⟩
  · obtain ⟨x', h5, h6⟩ := h4 p hp
    exact ⟨x', by simp [h5], h6⟩
theorem fold_set (off : Nat) : ∀ (l : List Value) (k : Nat) (cells : Array Value), off + k + l.length ≤ cells.size →
 ((l.zipIdx k).foldl (fun cs p => cs.setIfInBounds (off + p.2) p.1) cells).toList = cells.toList.take (off + k) ++ l ++ cells.toList.drop (off + k + l.length)
 | [], k, cells, h => by simp
 | v :: l, k, cells, h => by
  simp only [List.zipIdx_cons, List.foldl_cons]
  simp only [List.length_cons] at h
  rw [fold_set off l (k + 1) _ (by simp; omega)]
  have hc : (cells.setIfInBounds (off + k) v).toList = cells.toList.set (off + k) v := by simp
  have hlen : cells.toList.length = cells.size := by simp
  rw [hc, show off + (k + 1) = off + k + 1 from rfl, List.drop_set_of_lt (by omega)]
  have ht : (cells.toList.set (off + k) v).take (off + k + 1) = cells.toList.take (off + k) ++ [v] := by
   rw [List.take_add_one, List.take_set_of_le (Nat.le_refl _), List.getElem?_set_self (by omega)]
   rfl
  rw [ht, List.length_cons]
  simp [show off + k + 1 + l.length = off + k + (l.length + 1) from by omega]
theorem fill_step (place : Nat → Option (Nat × Nat)) {i off size : Nat} (hp : place i = some (off, size)) {v : Value} (hv : v.cells.size = size) {cells : Array Value} (hle : off + size ≤ cells.size) (rest : List (Nat × Value)) :
 ∃ cells', cells'.toList = cells.toList.take off ++ v.cells.toList ++ cells.toList.drop (off + v.cells.toList.length) ∧ Instr.fill place cells ((i, v) :: rest) = Instr.fill place cells' rest := by
 refine ⟨v.cells.zipIdx.foldl (fun cs (c, j) => cs.setIfInBounds (off + j) c) cells, ?_, ?_⟩
 · have := fold_set off v.cells.toList 0 cells (by simp; omega)
   simp only [Nat.add_zero] at this
   rw [← this]
   congr 1
   rw [← Array.foldl_toList]
   simp
 · simp only [Instr.fill, hp]
   rw [if_neg]
   simp only [hv]
   simp
   omega
theorem fillParts_ok (hS : SenOk S) {s : St} {bx : Bx S.C} {u : Nat} {place : Nat → Option (Nat × Nat)} (hp : ∀ f o T, S.fld u f = some (o, T) → place f = some (o, Ty.sz S T)) :
 ∀ {ps : List (Nat × Sy.V S.C)} {qs : List (Nat × Value)} {vs vs' : List (Sy.V S.C)} {cells : Array Value}, RPs P S w s μ bx ps qs → RVs P S w s μ bx vs cells.toList → vs.all (solid S) = true → fillParts S u vs ps = some vs' →
 ∃ cells', Instr.fill place cells qs = some cells' ∧ RVs P S w s μ bx vs' cells'.toList ∧ vs'.all (solid S) = true ∧ vs'.length = vs.length ∧ ∀ v ∈ vs', v ∈ vs ∨ ∃ p ∈ ps, ∀ j ∈ ids1 S v, j ∈ idsOf S p.2
 | [], qs, vs, vs', cells, h1, h2, h3, h4 => by
  cases h1; cases h4
  exact ⟨cells, rfl, h2, h3, rfl, fun v hv => .inl hv⟩
 | (i, W) :: ps, qs, vs, vs', cells, ⟨v, r, hq, hv, hr⟩, h2, h3, h4 => by
  subst hq
  simp only [fillParts] at h4
  split at h4
  · rename_i off T hf
    cases hc : fits S (cellsOf S W) (Ty.sz S T) && Nat.ble (off + Ty.sz S T) vs.length with
    | false => rw [hc] at h4; cases h4
    | true =>
     rw [hc, cond_true] at h4
     rw [Bool.and_eq_true] at hc
     obtain ⟨f1, f2⟩ := fits_ok hc.1
     have f3 := Nat.le_of_ble_eq_true hc.2
     obtain ⟨c1, c2⟩ := cellsOf_ok hS f2 hv
     have l1 := RVs.length P S c1
     have l2 := RVs.length P S h2
     obtain ⟨cells', e1, e2⟩ := fill_step place (hp _ _ _ hf) (v := v) (cells := cells) (by rw [← f1, ← l1]; simp) (by rw [← l2] at f3; simpa using f3) r
     obtain ⟨cells2, g1, g2, g3, g4, g5⟩ := fillParts_ok hS hp (cells := cells') hr (by rw [e1]; exact setCells_RVs h2 c1) (setCells_all h3 f2) h4
     refine ⟨cells2, by rw [e2]; exact g1, g2, g3, by rw [g4, setCells_len (by omega)], fun v hv => ?_⟩
     rcases g5 v hv with hv | ⟨p, hp, hv⟩
     · rcases setCells_mem hv with hv | hv
       · exact .inl hv
       · exact .inr ⟨(i, W), by simp, c2 v hv⟩
     · exact .inr ⟨p, by simp [hp], hv⟩
  · cases h4
theorem build_ok (hP : ProgOk P S byt) (h : Inv P S w0 M0 s0 dq env a w μ) (hd : ∀ d, o.dst = some d → d < a.tmps.size) {t : TypeId} {parts : Array (Nat × Operand)} (ho : o.op = .build t parts)
 (hl : (match S.ty t with
  | some (.st u) => match parts.toList.mapM (fun (p : Nat × Operand) => (evalV S env.tm p.2).map fun v => (p.1, v)) with
   | some ps => match fillParts S u (zeroCells S (.st u)) ps with
    | some vs => okv S (.agg u vs) []
    | none => .fail
   | none => .fail
  | _ => .fail).leaf (V, us)) (hK : Goal P S w0 M0 s0 dq env a o.dst V us K) : o.wp P a w K Q := by
 split at hl
 · rename_i u ht
   split at hl
   · rename_i ps hps
     split at hl
     · rename_i vs hvs
       obtain ⟨rfl, rfl⟩ := ret_leaf hl
       obtain ⟨p1, p2⟩ := parts_ok h hps
       obtain ⟨⟨i, z, h1, h2, h3, h4, h5⟩, ⟨hzz, hbu⟩, hund⟩ := hP.ty t _ ht
       obtain ⟨b0, hb0⟩ := Option.isSome_iff_exists.1 hbu
       obtain ⟨z1, z2, z3⟩ := zeroCells_ok (P := P) (w := w) (μ := μ) hP.toSenOk (s := stab S w0 M0 s0 env.bx μ w) (bx := env.bx) (.st u)
       have hbuilt : ∃ place : Nat → Option (Nat × Nat), (∀ qs, P.built t qs = Instr.fill place z.cells qs) ∧ ∀ f o T, S.fld u f = some (o, T) → place f = some (o, Ty.sz S T) := by
        cases har : S.ar t with
        | some p =>
         rw [har] at hund
         obtain ⟨te, hu, hte, _, hfl⟩ := hund
         obtain ⟨⟨ie, ze, e1, e2, _⟩, _⟩ := hP.ty te _ hte
         refine ⟨fun i => some (i * ie.size, ie.size), fun qs => ?_, fun f o' T hf => ?_⟩
         · unfold Program.built
           simp only [h1, hu, h3, e1]
         · obtain ⟨rfl, rfl, _⟩ := hfl f o' T hf
           simp [e2]
        | none =>
        rw [har] at hund
        obtain ⟨fs, hu, hfs⟩ := hund
        unfold Program.built at hb0
        simp only [h1, hu, h3] at hb0
        cases hpl : fs.toList.mapM (fun f => (P.info? f.type).map fun i => (f.offset, i.size)) with
        | none => rw [hpl] at hb0; cases hb0
        | some places =>
         refine ⟨(places.toArray[·]?), fun qs => ?_, fun f o' T hf => ?_⟩
         · unfold Program.built
           simp only [h1, hu, h3, hpl]
         · obtain ⟨fd, d1, d2, d3, d4, d5⟩ := hfs f o' T hf
           obtain ⟨⟨i', z', e1, e2, _⟩, _⟩ := hP.ty _ _ d3
           have hget : ∀ (l : List Field) (ys : List (Nat × Nat)) (k : Nat) (fd : Field), l.mapM (fun f => (P.info? f.type).map fun i => (f.offset, i.size)) = some ys → l[k]? = some fd → ∃ y, ys[k]? = some y ∧ (P.info? fd.type).map (fun i => (fd.offset, i.size)) = some y := by
            intro l
            induction l with
            | nil => intro ys k fd _ hk; simp at hk
            | cons x l ih =>
             intro ys k fd hys hk
             obtain ⟨y, zs, q1, q2, rfl⟩ := mapM_some_cons hys
             cases k with
             | zero => simp at hk; subst hk; exact ⟨y, by simp, q1⟩
             | succ k =>
              obtain ⟨y', q3, q4⟩ := ih zs k fd q2 (by simpa using hk)
              exact ⟨y', by simpa using q3, q4⟩
           obtain ⟨y, q1, q2⟩ := hget fs.toList places f fd hpl (by simpa using d1)
           rw [e1] at q2
           simp at q2
           simp [q1, ← q2, d2, e2]
       obtain ⟨place, g1, g2⟩ := hbuilt
       obtain ⟨cells', k1, k2, k3, k4, k5⟩ := fillParts_ok hP.toSenOk g2 (cells := z.cells) p1 (by rw [h5]; exact z1) z2 hvs
       refine wp_pure (V := .agg u vs) h (v := .agg cells') ?_ hd ⟨cells', rfl, ?_, k3, k2⟩ (fun j hj => ?_) hK
       · unfold execOp
         simp only [ho]
         have := run_build (P := P) w t (parts.map fun (i, x) => (i, a.eval x)) cells' (by rw [g1, Array.toList_map]; exact k1)
         simp [this]
       · rw [k4]; simp [zeroCells]
       · simp only [idsOf, List.mem_flatMap] at hj
         obtain ⟨v, hv, hj⟩ := hj
         rcases k5 v hv with hv | ⟨p, hp, hv⟩
         · rw [z3 v hv] at hj; simp at hj
         · obtain ⟨x, i', _, hx⟩ := p2 p hp
           exact (evalV_ok h hx).2 j (hv j hj)
     · exact hl.elim
   · exact hl.elim
 · exact hl.elim
end
end Go.Sy
namespace Go.Sy
section
variable {P : Program} {S : Sen} {byt : Nat → Nat}
variable {w0 : World} {M0 s0 : St} {dq : List Deferred} {env : Env S.C} {a : Act} {w : World} {μ : Nat → Loc} {K : Act → World → Prop} {Q : Exit → Act → World → Prop} {o : Oper} {V : V S.C} {us : Ups S.C}
def FzUs (bx : Bx S.C) (us : Ups S.C) : Prop := ∀ u ∈ us, ∃ e l, u.2 = .farr e l ∧ bx u.1 = some (.arr e l)
theorem FzUs.append {bx : Bx S.C} {us vs : Ups S.C} (h1 : FzUs bx us) (h2 : FzUs bx vs) : FzUs bx (us ++ vs) := fun u hu => (List.mem_append.1 hu).elim (h1 u) (h2 u)
theorem FzUs.at {bx : Bx S.C} : ∀ {us : Ups S.C} (bx' : Bx S.C), FzUs bx us → ∀ i, (updates bx' us i = bx' i ∧ ∀ u ∈ us, u.1 ≠ i) ∨ ((∃ u ∈ us, u.1 = i) ∧ ∃ e l, bx i = some (.arr e l) ∧ updates bx' us i = some (.farr e l))
 | [], bx', _, i => .inl ⟨rfl, by simp⟩
 | u :: us, bx', h, i => by
  rcases FzUs.at (us := us) (upd bx' u.1 (some u.2)) (fun v hv => h v (by simp [hv])) i with ⟨h1, h2⟩ | ⟨⟨v, hv, h1⟩, h2⟩
  · by_cases e : u.1 = i
    · right
      refine ⟨⟨u, by simp, e⟩, ?_⟩
      obtain ⟨e', l, h3, h4⟩ := h u (by simp)
      refine ⟨e', l, e ▸ h4, ?_⟩
      show updates (upd bx' u.1 (some u.2)) us i = _
      rw [h1, ← e, upd_eq, h3]
    · left
      refine ⟨?_, fun v hv => ?_⟩
      · show updates (upd bx' u.1 (some u.2)) us i = _
        rw [h1, upd_ne _ _ (Ne.symm e)]
      · rcases List.mem_cons.1 hv with rfl | hv
        · exact e
        · exact h2 v hv
  · exact .inr ⟨⟨v, by simp [hv], h1⟩, h2⟩
theorem FzUs.tk {bx : Bx S.C} {us US : Ups S.C} (h : FzUs bx US) (hs : ∀ u ∈ us, u ∈ US) : Tk S (updates bx us) (updates bx US) := by
 intro i
 have h0 : FzUs bx us := fun u hu => h u (hs u hu)
 rcases FzUs.at bx h i with ⟨h1, h2⟩ | ⟨_, e, l, h1, h2⟩
 · rcases FzUs.at bx h0 i with ⟨h3, _⟩ | ⟨⟨u, hu, h3⟩, _⟩
   · exact .inl (h1.trans h3.symm)
   · exact absurd h3 (h2 u (hs u hu))
 · rcases FzUs.at bx h0 i with ⟨h3, _⟩ | ⟨_, e', l', h3, h4⟩
   · exact .inr (.inr ⟨e, l, h3.trans h1, h2⟩)
   · rw [h1] at h3; cases h3
     exact .inl (h2.trans h4.symm)
theorem FzUs.tk0 {bx : Bx S.C} {US : Ups S.C} (h : FzUs bx US) : Tk S bx (updates bx US) := FzUs.tk (us := []) h (by simp)
theorem FzUs.freeze1 (bx : Bx S.C) (V : Sy.V S.C) : FzUs bx (freeze1 S bx V) := by
 cases V with
 | marr b =>
  unfold Sy.freeze1
  dsimp only
  split
  · rename_i e l hb
    intro u hu
    simp at hu
    subst hu
    exact ⟨e, l, rfl, hb⟩
  · intro u hu; simp at hu
 | _ => intro u hu; simp [Sy.freeze1] at hu
theorem FzUs.freezes (bx : Bx S.C) (V : Sy.V S.C) : FzUs bx (freezes S bx V) := by
 cases V with
 | agg u vs =>
  intro x hx
  simp only [Sy.freezes, List.mem_flatMap] at hx
  obtain ⟨v, _, hx⟩ := hx
  exact FzUs.freeze1 bx v x hx
 | marr b => exact FzUs.freeze1 bx (.marr b)
 | _ => intro u hu; simp [Sy.freezes, Sy.freeze1] at hu
theorem tak_stab' {bx' : Bx S.C} (hk : Tk S env.bx bx') : Later w (tak S w0 M0 s0 env.bx bx' μ w) w (stab S w0 M0 s0 bx' μ w) := fun b o ⟨q1, q2, q3⟩ =>
 ⟨⟨q1, q2, fun j hj => by
  rcases q3 j ((live_of S (hk.of_live hj)).1 hj) with ⟨_, _, hq⟩ | hq
  · unfold live at hj; rw [hq] at hj; exact hj.elim
  · exact hq⟩, rfl⟩
def Chunks (w : World) (s : St) (e : Ty) (l : List (e.den S.C)) (cs : List Value) : Prop :=
 cs.length = l.length * Ty.sz S e ∧ ∀ i x, l[i]? = some x → ∃ n, Rep S w s n e x ((cs.drop (i * Ty.sz S e)).take (Ty.sz S e))
theorem Chunks.nil {s : St} {e : Ty} : Chunks w s e ([] : List (e.den S.C)) [] := ⟨by simp, fun i x h => by simp at h⟩
theorem Chunks.later {w' : World} {s s' : St} (hl : Later w s w' s') {e : Ty} {l : List (e.den S.C)} {cs : List Value} (h : Chunks w s e l cs) : Chunks w' s' e l cs :=
 ⟨h.1, fun i x hi => (h.2 i x hi).imp fun _ hr => hr.mono S hl (Nat.le_refl _)⟩
theorem Chunks.append {s : St} {e : Ty} {l l' : List (e.den S.C)} {cs cs' : List Value} (h : Chunks w s e l cs) (h' : Chunks w s e l' cs') : Chunks w s e (l ++ l') (cs ++ cs') := by
 refine ⟨by simp [h.1, h'.1, Nat.add_mul], fun i x hi => ?_⟩
 by_cases hlt : i < l.length
 · rw [List.getElem?_append_left hlt] at hi
   obtain ⟨n, hn⟩ := h.2 i x hi
   refine ⟨n, ?_⟩
   have : (i + 1) * Ty.sz S e ≤ l.length * Ty.sz S e := Nat.mul_le_mul_right _ (by omega)
   rw [Nat.add_mul, Nat.one_mul, ← h.1] at this
   rw [List.drop_append_of_le_length (by omega), List.take_append_of_le_length (by simp; omega)]
   exact hn
 · rw [List.getElem?_append_right (by omega)] at hi
   obtain ⟨n, hn⟩ := h'.2 _ x hi
   refine ⟨n, ?_⟩
   have h1 : i * Ty.sz S e = cs.length + (i - l.length) * Ty.sz S e := by
    rw [h.1, ← Nat.add_mul]; congr 1; omega
   rw [h1, List.drop_append]
   simp only [List.drop_of_length_le (Nat.le_add_right cs.length _), List.nil_append, Nat.add_sub_cancel_left]
   exact hn
theorem Chunks.set {s : St} {e : Ty} {l : List (e.den S.C)} {cs : List Value} (h : Chunks w s e l cs) {i : Nat} (hi : i < l.length) {x : e.den S.C} {n : Nat} {ds : List Value} (hx : Rep S w s n e x ds) :
 Chunks w s e (l.set i x) (cs.take (i * Ty.sz S e) ++ ds ++ cs.drop (i * Ty.sz S e + ds.length)) := by
 have hd := hx.length S
 have hle : (i + 1) * Ty.sz S e ≤ l.length * Ty.sz S e := Nat.mul_le_mul_right _ (by omega)
 rw [Nat.add_mul, Nat.one_mul, ← h.1] at hle
 refine ⟨?_, fun k y hk => ?_⟩
 · rw [List.length_append, List.length_append, List.length_take, List.length_drop, List.length_set, ← h.1]; omega
 · by_cases ek : i = k
   · subst ek
     rw [List.getElem?_set_self hi] at hk
     cases hk
     refine ⟨n, ?_⟩
     rw [List.append_assoc, List.drop_append_of_le_length (by simp; omega), List.drop_of_length_le (by simp; omega), List.nil_append, ← hd, List.take_left]
     exact hx
   · rw [List.getElem?_set_ne ek] at hk
     have hkl := (List.getElem?_eq_some_iff.1 hk).1
     obtain ⟨m, hm⟩ := h.2 k y hk
     refine ⟨m, ?_⟩
     rcases Nat.lt_or_gt_of_ne ek with hlt | hlt
     · have hki : (i + 1) * Ty.sz S e ≤ k * Ty.sz S e := Nat.mul_le_mul_right _ (by omega)
       rw [Nat.add_mul, Nat.one_mul] at hki
       have hpre : (cs.take (i * Ty.sz S e) ++ ds).length = i * Ty.sz S e + ds.length := by rw [List.length_append, List.length_take]; omega
       rw [show k * Ty.sz S e = (cs.take (i * Ty.sz S e) ++ ds).length + (k * Ty.sz S e - (i * Ty.sz S e + ds.length)) from by rw [hpre]; omega, List.drop_append]
       simp only [List.drop_of_length_le (Nat.le_add_right _ _), List.nil_append, Nat.add_sub_cancel_left, List.drop_drop]
       rw [show i * Ty.sz S e + ds.length + (k * Ty.sz S e - (i * Ty.sz S e + ds.length)) = k * Ty.sz S e from by omega]
       exact hm
     · have hki : (k + 1) * Ty.sz S e ≤ i * Ty.sz S e := Nat.mul_le_mul_right _ (by omega)
       rw [Nat.add_mul, Nat.one_mul] at hki
       rw [List.append_assoc, List.drop_append_of_le_length (by simp; omega), List.take_append_of_le_length (by simp; omega), List.drop_take, List.take_take]
       rw [show min (Ty.sz S e) (i * Ty.sz S e - k * Ty.sz S e) = Ty.sz S e from by omega]
       exact hm
theorem Chunks.replicate {s : St} {e : Ty} {x : e.den S.C} {n : Nat} {z : Array Value} (hx : Rep S w s n e x z.toList) (k : Nat) : Chunks w s e (List.replicate k x) (madeCells z (k * Ty.sz S e)).toList := by
 have hz := hx.length S
 have hzs : z.size = Ty.sz S e := by rw [← hz]; simp
 refine ⟨by simp [size_madeCells], fun i y hi => ⟨n, ?_⟩⟩
 have hil := (List.getElem?_eq_some_iff.1 hi).1
 rw [List.length_replicate] at hil
 rw [List.getElem?_replicate, if_pos hil] at hi
 cases hi
 have : ((madeCells z (k * Ty.sz S e)).toList.drop (i * Ty.sz S e)).take (Ty.sz S e) = z.toList := by
  apply List.ext_getElem?
  intro j
  rw [List.getElem?_take]
  have hrow : (i + 1) * Ty.sz S e ≤ k * Ty.sz S e := Nat.mul_le_mul_right _ (by omega)
  rw [Nat.add_mul, Nat.one_mul] at hrow
  by_cases hj : j < Ty.sz S e
  · rw [if_pos hj, List.getElem?_drop]
    have hmod : (i * Ty.sz S e + j) % z.size = j := by
     rw [hzs, Nat.mul_comm, Nat.mul_add_mod, Nat.mod_eq_of_lt hj]
    simp [madeCells]
    rw [List.getElem?_range (by omega)]
    rw [Option.map_some, hmod]
    simp [hzs, hj]
  · rw [if_neg hj, List.getElem?_eq_none (by omega)]
 rw [this]
 exact hx
theorem rows_cells {s : St} {e : Ty} {b : Nat} : ∀ {l : List (e.den S.C)} {o' : Nat}, (∀ i x, l[i]? = some x → ∃ ds, ds.length = Ty.sz S e ∧ w.rangeAt b (o' + i * Ty.sz S e) ds ∧ ∃ n, Rep S w s n e x ds) →
 ∃ cs, w.rangeAt b o' cs ∧ Chunks w s e l cs
 | [], _, _ => ⟨[], fun j v h => by simp at h, Chunks.nil⟩
 | x :: l, o', h => by
  obtain ⟨ds, d1, d2, n, d3⟩ := h 0 x rfl
  obtain ⟨cs, c1, c2⟩ := rows_cells (s := s) (l := l) (o' := o' + Ty.sz S e) fun i y hi => by
   obtain ⟨ds, d1, d2, d3⟩ := h (i + 1) y (by simpa using hi)
   refine ⟨ds, d1, ?_, d3⟩
   rw [Nat.add_mul, Nat.one_mul] at d2
   rw [show o' + Ty.sz S e + i * Ty.sz S e = o' + (i * Ty.sz S e + Ty.sz S e) from by omega]
   exact d2
  simp only [Nat.zero_mul, Nat.add_zero] at d2
  refine ⟨ds ++ cs, fun j v hj => ?_, Chunks.append (l := [x]) (l' := l) ⟨by simp [d1], fun i y hi => ?_⟩ c2⟩
  · by_cases hlt : j < ds.length
    · rw [List.getElem?_append_left hlt] at hj; exact d2 j v hj
    · rw [List.getElem?_append_right (by omega)] at hj
      have := c1 _ v hj
      rw [show o' + Ty.sz S e + (j - ds.length) = o' + j from by omega] at this
      exact this
  · cases i with
    | zero => simp at hi; subst hi; exact ⟨n, by simpa [← d1] using d3⟩
    | succ i => simp at hi
theorem Chunks.row {s : St} {e : Ty} {l : List (e.den S.C)} {cs : List Value} (h : Chunks w s e l cs) {w' : World} {b o' : Nat} (hr : w'.rangeAt b o' cs) :
 ∀ i x, l[i]? = some x → ∃ ds, ds.length = Ty.sz S e ∧ w'.rangeAt b (o' + i * Ty.sz S e) ds ∧ ∃ n, Rep S w s n e x ds := fun i x hi => by
 obtain ⟨n, hn⟩ := h.2 i x hi
 exact ⟨_, hn.length S, range_part hr _ _, n, hn⟩
theorem zero_Rep (hP : ProgOk P S byt) {t : Nat} {T : Ty} (ht : S.ty t = some T) (s : St) : ∃ n, Rep S w s n T (Ty.zero S T) (zvals S T) := by
 have z1 : ∀ (T : Ty), isSt T = false → Rep S w s 1 T (Ty.zero S T) [zval T] := by
  intro T hT
  cases T with
  | int k => rfl
  | bool => rfl
  | str => rfl
  | pt => rfl
  | sl e => exact ⟨none, 0, rfl, Nat.le_refl _, .inl rfl⟩
  | st u => simp [isSt] at hT
 cases T with
 | st u =>
  obtain ⟨_, ⟨hz, _⟩, _⟩ := hP.ty t _ ht
  refine ⟨2, ?_⟩
  show RepTup S _ (S.F u) (S.ex u (S.z u)) ((S.F u).map zval)
  rw [hz]
  have : ∀ (ts : List Ty), ts.all (fun t => !isSt t) = true → RepTup S (fun t x cs => Rep S w s 1 t x cs) ts (ztup S ts) (ts.map zval) := by
   intro ts
   induction ts with
   | nil => intro _; rfl
   | cons t ts ih =>
    intro h
    simp only [List.all_cons, Bool.and_eq_true, Bool.not_eq_true'] at h
    refine ⟨_, _, rfl, ?_, ?_⟩
    · rw [show Tup.head (ztup S (t :: ts)) = Ty.zero S t from by cases ts <;> rfl]
      exact z1 t h.1
    · rw [show Tup.tail (ztup S (t :: ts)) = ztup S ts from by cases ts <;> rfl]
      exact ih h.2
  exact this _ (hP.flat u)
 | int k => exact ⟨1, z1 _ rfl⟩
 | bool => exact ⟨1, z1 _ rfl⟩
 | str => exact ⟨1, z1 _ rfl⟩
 | pt => exact ⟨1, z1 _ rfl⟩
 | sl e => exact ⟨1, z1 _ rfl⟩
theorem wp_newArr (h : Inv P S w0 M0 s0 dq env a w μ) (hd : ∀ d, o.dst = some d → d < a.tmps.size) {us : Ups S.C} {B : Nat} {e : Ty} {l : List (e.den S.C)} {t : TypeId} {cap : Nat} {cells : Array Value} {cs : List Value}
 (hk : Tk S env.bx (updates env.bx us)) (hB : updates env.bx us B = none) {w1 : World} (hw1 : w1.heap = w.heap) (hw2 : w1.os = w.os ∧ w1.tape = w.tape ∧ w1.output = w.output)
 (hrun : (execOp a.eval o).run P w = .ok (.value (.slice (some ⟨w.heap.size, 0, none⟩) l.length cap)) (w1.alloc (.cells cells t)))
 (hle : l.length ≤ cap) (hcap : cells.size = cap * Ty.sz S e) (hcs : Chunks w (stab S w0 M0 s0 (updates env.bx us) μ w) e l cs) (hpre : cs <+: cells.toList)
 (hK : Goal P S w0 M0 s0 dq env a o.dst (.marr B) (us ++ [(B, .arr e l)]) K) : o.wp P a w K Q := by
 have h1 := h.tk hk
 have hchg : Chg w (w1.alloc (.cells cells t)) (fun _ _ => False) := by
  have c1 : Chg w w1 (fun _ _ => False) := ⟨hw2.1, hw2.2.1, hw2.2.2, by rw [hw1]; exact Nat.le_refl _, fun b _ _ => by rw [hw1], fun b o _ _ => cell_of_heap (by rw [hw1]), fun b o _ h => by rw [cell_of_heap (by rw [hw1] : w1.heap[b]? = w.heap[b]?)]; exact h, fun b o _ _ => frz_of_heap (by rw [hw1])⟩
  exact c1.trans (Chg.alloc w1 _ (fun _ _ => False)) (fun _ _ h => h) (fun _ _ _ h => h)
 have nt := new_there (w := w1) (cs := cells) (t := t)
 rw [hw1] at nt
 have hpr : (w1.alloc (.cells cells t)).rangeAt w.heap.size 0 cs := fun j v hj => nt.2 j v (by
  obtain ⟨r, hr⟩ := hpre
  rw [← hr, List.getElem?_append_left (List.getElem?_eq_some_iff.1 hj).1]
  exact hj)
 refine wp_new (env := { env with bx := updates env.bx us }) (i := B) (B := .arr e l) (V := .marr B) (L := ⟨w.heap.size, 0, cap * Ty.sz S e, cap, false⟩) h1 hrun hd hchg hB (fun b o' hf => Nat.le_of_eq hf.1.symm)
  (fun hl _ h3 => ⟨⟨rfl, (fun h => by cases h), hle, (by show World.there _ w.heap.size 0 (cap * Ty.sz S e); rw [← hcap]; exact nt.1), fun i x hi => ?_⟩, ⟨⟨_, _, _, rfl⟩, fun e' l' hb => ?_⟩⟩) (fun vs hvs => by rcases hvs with hvs | hvs <;> cases hvs) (fun j hj => .inl (by simpa [idsOf, ids1] using hj)) ?_
 · obtain ⟨ds, d1, d2, n, d3⟩ := hcs.row hpr i x hi
   exact ⟨ds, d1, d2, n, d3.mono S hl (Nat.le_refl _)⟩
 · dsimp only at hb
   rw [upd_eq] at hb
   rcases hb with hb | hb
   · cases hb
     rw [upd_eq]
     exact ⟨_, cap, rfl, rfl, rfl, rfl, (fun h => by cases h), hle⟩
   · cases hb
 · intro a' w' μ' hI hs
   refine hK a' w' μ' ?_ hs
   have : (env.apply o.dst (.marr B) (us ++ [(B, .arr e l)])) = (Env.apply { env with bx := updates env.bx us } o.dst (.marr B) [(B, .arr e l)]) := by
    simp only [Env.apply, updates_append]
   rw [this]
   exact hI
theorem makeSlice_ok (hP : ProgOk P S byt) (h : Inv P S w0 M0 s0 dq env a w μ) (hd : ∀ d, o.dst = some d → d < a.tmps.size) {B : Nat} {t : TypeId} {x y : Operand} (ho : o.op = .makeSlice t x y)
 (hnew : ∀ u ∈ us, B ≤ u.1 → u.1 < B + 16 → env.bx u.1 = none)
 (hl : (match elemT S t, evalV S env.tm x, evalV S env.tm y with
  | some e, some v, some w => match v.int?, w.int? with
   | some (.i64, n), some (.i64, m) => Tr.gd [gd (0 ≤ n), gd (n ≤ m), gd (m * byt t ≤ limit)] (okv S (.marr (B)) [(B, .arr e (List.replicate n.toNat (Ty.zero S e)))])
   | _, _ => Tr.fail
  | _, _, _ => Tr.fail).leaf (V, us)) (hK : Goal P S w0 M0 s0 dq env a o.dst V us K) : o.wp P a w K Q := by
 split at hl
 · rename_i e v u ht hx hy
   split at hl
   · rename_i n m hn hm
     obtain ⟨hg, rfl, rfl⟩ := guards_all hl
     have g1 : 0 ≤ n := hg (gd (0 ≤ n)) (by simp)
     have g2 : n ≤ m := hg (gd (n ≤ m)) (by simp)
     have g3 : m * byt t ≤ limit := hg (gd (m * byt t ≤ limit)) (by simp)
     have ht' := elemT_ty ht
     obtain ⟨te, ie, z, hu, hte, hie, hby, hb1, _⟩ := hP.sl ht'
     obtain ⟨⟨i, z, h1, h2, h3, h4, h5⟩, _⟩ := hP.ty te _ hte
     rw [hie] at h1
     cases h1
     have e1 := int?_ok (evalV_ok h hx).1 hn
     have e2 := int?_ok (evalV_ok h hy).1 hm
     have hmn : (m.toNat : Int) = m := by omega
     have hpos : (byt t : Int) ≥ 1 := by omega
     have hml : m ≤ 140737488355328 := by
      have : m * 1 ≤ m * (byt t : Int) := Int.mul_le_mul_of_nonneg_left hpos (by omega)
      have : limit = 140737488355328 := rfl
      omega
     have hrun := run_make (P := P) w t te ie z hu hie h3 .i64 .i64 n m g1 g2 (by rw [hby, Int.mul_comm]; have : limit = 140737488355328 := rfl; omega) (by omega)
     obtain ⟨q, hq⟩ := zero_Rep (w := w) hP hte (stab S w0 M0 s0 (updates env.bx []) μ w)
     rw [← h5] at hq
     have hB := hnew _ (List.mem_singleton.2 rfl) (Nat.le_refl _) (by show B < B + 16; omega)
     refine wp_newArr (t := te) (us := []) (e := e) (l := List.replicate n.toNat (Ty.zero S e)) (cap := m.toNat) (cells := madeCells z.cells (m.toNat * ie.size)) (cs := (madeCells z.cells (n.toNat * Ty.sz S e)).toList) (w1 := w) h hd (Tk.refl S _) hB rfl ⟨rfl, rfl, rfl⟩ ?_ (by simp; omega)
      (by rw [size_madeCells, h2]) (Chunks.replicate hq _) ?_ hK
     · unfold execOp
       simp only [ho, e1, e2, List.length_replicate]
       simp [hrun]
     · rw [h2]
       simp only [madeCells, Array.toList_map, Array.toList_range]
       have : n.toNat * Ty.sz S e ≤ m.toNat * Ty.sz S e := Nat.mul_le_mul_right _ (by omega)
       refine List.IsPrefix.map _ ?_
       exact ⟨(List.range (m.toNat * Ty.sz S e)).drop (n.toNat * Ty.sz S e), by
        conv => rhs; rw [← List.take_append_drop (n.toNat * Ty.sz S e) (List.range (m.toNat * Ty.sz S e))]
        congr 1
        rw [List.take_range, Nat.min_eq_left this]⟩
   · exact hl.elim
 · exact hl.elim
end
end Go.Sy
namespace Go.Sy
section
variable {P : Program} {S : Sen} {byt : Nat → Nat}
variable {w0 : World} {M0 s0 : St} {dq : List Deferred} {env : Env S.C} {a : Act} {w : World} {μ : Nat → Loc} {K : Act → World → Prop} {Q : Exit → Act → World → Prop} {o : Oper} {V : V S.C} {us : Ups S.C}
theorem fillRow_restrict {bx bx' : Bx S.C} {e : Ty} : ∀ {ps : List (Nat × Sy.V S.C)} {l : List (e.den S.C)}, (∀ p ∈ ps, ∀ i ∈ idsOf S p.2, bx' i = bx i) → fillRow S bx' e l ps = fillRow S bx e l ps
 | [], _, _ => rfl
 | (i, v) :: ps, l, h => by
  obtain ⟨h1, h2⟩ := datum_restrict (t := e) (h (i, v) (by simp))
  simp only [fillRow, h1, h2]
  congr 1
  cases datum S bx e v with
  | none => rfl
  | some x => simp only [Option.bind_some]; rw [fillRow_restrict fun p hp => h p (by simp [hp])]
theorem fillRow_fz {bx : Bx S.C} {e : Ty} : ∀ {ps : List (Nat × Sy.V S.C)} {l l' : List (e.den S.C)} {us : Ups S.C}, fillRow S bx e l ps = some (l', us) → FzUs bx us ∧ l'.length = l.length
 | [], _, _, _, h => by cases h; exact ⟨fun u hu => by simp at hu, rfl⟩
 | (i, v) :: ps, l, l', us, h => by
  simp only [fillRow] at h
  cases hi : Nat.blt i (List.length l) with
  | false => rw [hi] at h; cases h
  | true =>
   rw [hi, cond_true] at h
   obtain ⟨x, hx, h⟩ := Option.bind_eq_some_iff.1 h
   obtain ⟨⟨l2, u2⟩, h2, h⟩ := Option.bind_eq_some_iff.1 h
   cases h
   obtain ⟨g1, g2⟩ := fillRow_fz h2
   exact ⟨(FzUs.freezes bx v).append g1, by rw [g2, List.length_set]⟩
theorem fillRow_ok (hS : SenOk S) (h : Inv P S w0 M0 s0 dq env a w μ) {e : Ty} {US : Ups S.C} (hU : FzUs env.bx US) : ∀ {ps : List (Nat × Sy.V S.C)} {qs : List (Nat × Value)} {l l' : List (e.den S.C)} {us : Ups S.C} {cells : Array Value},
 RPs P S w (stab S w0 M0 s0 env.bx μ w) μ env.bx ps qs → Chunks w (tak S w0 M0 s0 env.bx (updates env.bx US) μ w) e l cells.toList → fillRow S env.bx e l ps = some (l', us) → (∀ u ∈ us, u ∈ US) →
 ∃ cells', Instr.fill (fun i => some (i * Ty.sz S e, Ty.sz S e)) cells qs = some cells' ∧ Chunks w (tak S w0 M0 s0 env.bx (updates env.bx US) μ w) e l' cells'.toList
 | [], qs, l, l', us, cells, h1, h2, h3, _ => by
  cases h1; cases h3
  exact ⟨cells, rfl, h2⟩
 | (i, V) :: ps, qs, l, l', us, cells, ⟨v, r, hq, hv, hr⟩, h2, h3, hs => by
  subst hq
  simp only [fillRow] at h3
  cases hi : Nat.blt i (List.length l) with
  | false => rw [hi] at h3; cases h3
  | true =>
   rw [hi, cond_true] at h3
   have hlt : i < l.length := by
    have : Nat.ble (i + 1) l.length = true := hi
    exact Nat.le_of_ble_eq_true this
   obtain ⟨x, hx, h3⟩ := Option.bind_eq_some_iff.1 h3
   obtain ⟨⟨l2, u2⟩, h4, h3⟩ := Option.bind_eq_some_iff.1 h3
   cases h3
   obtain ⟨_, d2⟩ := datum_ok hS h (Tk.refl S env.bx) hv hx
   have d3 := d2.mono S (tak_mono S (hU.tk (us := freezes S env.bx V) fun u hu => hs u (by simp [hu])))
   obtain ⟨n, d4⟩ := d3.2
   have d5 := d4.length S
   have hc := h2.1
   have hle : (i + 1) * Ty.sz S e ≤ l.length * Ty.sz S e := Nat.mul_le_mul_right _ (by omega)
   rw [Nat.add_mul, Nat.one_mul, ← hc] at hle
   obtain ⟨cells', e1, e2⟩ := fill_step (fun i => some (i * Ty.sz S e, Ty.sz S e)) (i := i) rfl (v := v) (cells := cells) (by rw [← d5]; simp) (by simpa using hle) r
   obtain ⟨cells2, g1, g2⟩ := fillRow_ok hS h hU (cells := cells') hr (by rw [e1]; exact h2.set hlt d4) h4 fun u hu => hs u (by simp [hu])
   exact ⟨cells2, by rw [e2]; exact g1, g2⟩
theorem emptySlice_ok (hP : ProgOk P S byt) (h : Inv P S w0 M0 s0 dq env a w μ) (hd : ∀ d, o.dst = some d → d < a.tmps.size) {B : Nat} {t : TypeId} {parts : Array (Nat × Operand)} {e : Ty} (ho : o.op = .buildSlice t 0 parts) (ht : elemT S t = some e)
 (hnew : ∀ u ∈ us, B ≤ u.1 → u.1 < B + 16 → env.bx u.1 = none)
 (hl : (match parts.toList with
  | [] => okv S (.town B e []) [(B, .tail)]
  | _ => .fail : Rt S).leaf (V, us)) (hK : Goal P S w0 M0 s0 dq env a o.dst V us K) : o.wp P a w K Q := by
 split at hl
 · rename_i hps
   obtain ⟨rfl, rfl⟩ := ret_leaf hl
   have hp : parts = #[] := by
    have : parts = parts.toList.toArray := by simp
    rw [this, hps]
   subst hp
   have hB := hnew (B, .tail) (by simp) (Nat.le_refl _) (by show B < B + 16; omega)
   have ht' := elemT_ty ht
   obtain ⟨te, ie, z, hu, hte, hie, hby, hb1, _⟩ := hP.sl ht'
   have hrun : (execOp a.eval o).run P w = .ok (.value (.slice (some ⟨w.heap.size, 0, none⟩) 0 0)) (w.alloc (.cells #[] te)) := by
    unfold execOp
    simp only [ho]
    simp [Instr.buildSlice, run_underlying hu, sizeOf, typeInfo, hie, Array.range_zero', Instr.fill, newRow]
   refine wp_new (i := B) (B := .tail) (V := .town B e []) (L := ⟨0, 0, 0, 0, true⟩) h hrun hd (Chg.alloc w _ _) hB (fun b o hf => ?_) (fun _ _ _ => ⟨fun j hj => absurd hj (Nat.not_lt_zero j), ?_⟩) (by simp) (fun j hj => .inl (by simpa [idsOf, ids1] using hj)) hK
   · have h1 := hf.2.1; have h2 := hf.2.2; simp at h2
   · refine ⟨⟨rfl, 1, _, 0, rfl, Nat.le_refl _, .inl rfl⟩, fun _ => ⟨_, 0, rfl, ?_⟩⟩
     rw [upd_eq]
     exact .inr ⟨_, _, rfl, by simp, fun h => absurd h (Nat.lt_irrefl 0)⟩
 · exact hl.elim
theorem buildSlice_ok (hP : ProgOk P S byt) (h : Inv P S w0 M0 s0 dq env a w μ) (hd : ∀ d, o.dst = some d → d < a.tmps.size) {B : Nat} {t : TypeId} {len : Nat} {parts : Array (Nat × Operand)} {ids : List Nat} (ho : o.op = .buildSlice t len parts)
 (hids : ∀ i x, (i, x) ∈ parts.toList → ∀ V, evalV S env.tm x = some V → ∀ i ∈ idsOf S V, restrict S env.bx ids i = env.bx i)
 (hnew : ∀ u ∈ us, B ≤ u.1 → u.1 < B + 16 → env.bx u.1 = none)
 (hl : (match elemT S t with
  | some e => match parts.toList.mapM (fun (p : Nat × Operand) => (evalV S env.tm p.2).map fun v => (p.1, v)) with
   | some ps => cond (Nat.ble (len * Ty.sz S e) 16777216) (match fillRow S (restrict S env.bx ids) e (List.replicate len (Ty.zero S e)) ps with
    | some (l, us) => okv S (.marr (B)) (us ++ [(B, Box.arr e l)])
    | none => Tr.fail) Tr.fail
   | none => Tr.fail
  | none => Tr.fail).leaf (V, us)) (hK : Goal P S w0 M0 s0 dq env a o.dst V us K) : o.wp P a w K Q := by
 split at hl
 · rename_i e ht
   split at hl
   · rename_i ps hps
     cases hlim : Nat.ble (len * Ty.sz S e) 16777216 with
     | false => rw [hlim] at hl; exact hl.elim
     | true =>
      rw [hlim, cond_true] at hl
      obtain ⟨p1, p2⟩ := parts_ok h hps
      rw [fillRow_restrict (bx := env.bx) fun p hp i hi => by
       obtain ⟨x, k, hm, hx⟩ := p2 p hp
       exact hids k x hm p.2 hx i hi] at hl
      split at hl
      · rename_i l fz hfill
        obtain ⟨rfl, rfl⟩ := ret_leaf hl
        obtain ⟨f1, f2⟩ := fillRow_fz hfill
        rw [List.length_replicate] at f2
        have ht' := elemT_ty ht
        obtain ⟨te, ie, z, hu, hte, hie, hby, hb1, _⟩ := hP.sl ht'
        obtain ⟨⟨i, z, h1, h2, h3, h4, h5⟩, _⟩ := hP.ty te _ hte
        rw [hie] at h1
        cases h1
        obtain ⟨q, hq⟩ := zero_Rep (w := w) hP hte (tak S w0 M0 s0 env.bx (updates env.bx fz) μ w)
        rw [← h5] at hq
        obtain ⟨cells, c1, c2⟩ := fillRow_ok hP.toSenOk h f1 (cells := madeCells z.cells (len * Ty.sz S e)) p1 (Chunks.replicate hq len) hfill fun u hu => hu
        have hB0 := hnew (B, Box.arr e l) (by simp) (Nat.le_refl _) (by show B < B + 16; omega)
        have hB : updates env.bx fz B = none := by
         rcases FzUs.at env.bx f1 B with ⟨e1, _⟩ | ⟨_, e', l', e2, _⟩
         · rw [e1]; exact hB0
         · rw [show env.bx B = none from hB0] at e2; cases e2
        refine wp_newArr (t := te) (us := fz) (e := e) (l := l) (cap := len) (cells := cells) (cs := cells.toList) (w1 := w) h hd f1.tk0 hB rfl ⟨rfl, rfl, rfl⟩ ?_ (by omega) (by have := c2.1; rw [f2] at this; simpa using this)
         (c2.later (tak_stab' f1.tk0)) (List.prefix_refl _) hK
        unfold execOp
        simp only [ho, f2]
        have hrun : (Instr.buildSlice t len (parts.map fun (i, x) => (i, a.eval x))).run P w = .ok (.slice (some ⟨w.heap.size, 0, none⟩) len len) (w.alloc (.cells cells te)) := by
         have hlim := Nat.le_of_ble_eq_true hlim
         rw [← h2] at hlim c1
         by_cases h0 : len * ie.size = 0
         · rw [h0] at c1
           have hm : madeCells z.cells 0 = #[] := by simp [madeCells]
           rw [hm] at c1
           have c1' : Instr.fill (fun i => some (i * ie.size, ie.size)) #[] (parts.toList.map fun x => (x.1, a.eval x.2)) = some cells := c1
           simp [Instr.buildSlice, run_underlying hu, sizeOf, typeInfo, hie, h0, Array.range_zero', c1', newRow]
         · refine run_buildSlice w t te len _ cells ie z hu hie h3 (by omega) h0 ?_
           rw [Array.toList_map, h2]
           rw [h2] at c1
           exact c1
        simp [hrun]
      · exact hl.elim
   · exact hl.elim
 · exact hl.elim
end
end Go.Sy
namespace Go.Sy
section
variable {P : Program} {S : Sen} {byt : Nat → Nat}
variable {w0 : World} {M0 s0 : St} {dq : List Deferred} {env : Env S.C} {a : Act} {w : World} {μ : Nat → Loc} {K : Act → World → Prop} {Q : Exit → Act → World → Prop} {o : Oper} {V : V S.C} {us : Ups S.C}
theorem rep_one (P : Program) (hS : SenOk S) {s : St} {n : Nat} {e : Ty} {x : e.den S.C} {cs : List Value} (h : Rep S w s n e x cs) : ∀ u ∈ cs, u.oneCell' = true := by
 obtain ⟨h1, h2, _⟩ := explode_ok (P := P) hS (fun _ => ⟨0, 0, 0, 0, true⟩) (fun _ => none) h
 exact solids_one h2 h1
theorem chunks_one (P : Program) (hS : SenOk S) {s : St} {e : Ty} {l : List (e.den S.C)} {cs : List Value} (h : Chunks w s e l cs) : ∀ u ∈ cs, u.oneCell' = true := by
 intro u hu
 obtain ⟨k, hk, hku⟩ := List.getElem_of_mem hu
 have h0 : 0 < Ty.sz S e := by
  rcases Nat.eq_zero_or_pos (Ty.sz S e) with h0 | h0
  · have := h.1; rw [h0, Nat.mul_zero] at this; omega
  · exact h0
 have hkl : k < l.length * Ty.sz S e := by rw [← h.1]; exact hk
 have hi : k / Ty.sz S e < l.length := Nat.div_lt_of_lt_mul (by rw [Nat.mul_comm]; exact hkl)
 obtain ⟨n, hn⟩ := h.2 (k / Ty.sz S e) _ (List.getElem?_eq_getElem hi)
 refine rep_one P hS hn u ?_
 have hd : k / Ty.sz S e * Ty.sz S e + k % Ty.sz S e = k := by rw [Nat.mul_comm]; exact Nat.div_add_mod k _
 refine List.mem_iff_getElem?.2 ⟨k % Ty.sz S e, ?_⟩
 rw [List.getElem?_take, if_pos (Nat.mod_lt _ h0), List.getElem?_drop, hd, List.getElem?_eq_getElem hk, hku]
def Read (S : Sen) (w : World) (s : St) (e : Ty) (l : List (e.den S.C)) (v : Value) : Prop :=
 ∃ ad cap, v = .slice ad l.length cap ∧ l.length ≤ cap ∧ (l.length = 0 ∨ ∃ b o, ad = some ⟨b, o, none⟩ ∧ ∀ i x, l[i]? = some x → ∃ ds, ds.length = Ty.sz S e ∧ w.rangeAt b (o + i * Ty.sz S e) ds ∧ ∃ n, Rep S w s n e x ds)
theorem RepV.read {s : St} {e : Ty} {l : List (e.den S.C)} {v : Value} (h : RepV S w s (.sl e) l v) : Read S w s e l v := by
 obtain ⟨ad, cap, h1, h2, h3⟩ := RepV_sl h
 refine ⟨ad, cap, h1, h2, h3.imp id fun ⟨b, o, n, h4, h5⟩ => ⟨b, o, h4, fun i x hi => ?_⟩⟩
 obtain ⟨ds, d1, d2, d3⟩ := h5 i x hi
 exact ⟨ds, d1, d2.range, n, d3⟩
theorem ArrOk.read {s : St} {e : Ty} {l : List (e.den S.C)} {v : Value} {L : Loc} {ad : Option Addr} {cap : Nat} (hv : v = .slice ad l.length cap) (h : ArrOk L ad l.length cap (Ty.sz S e))
 (hr : ∀ i x, l[i]? = some x → ∃ ds, ds.length = Ty.sz S e ∧ w.rangeAt L.b (L.o + i * Ty.sz S e) ds ∧ ∃ n, Rep S w s n e x ds) : Read S w s e l v := by
 refine ⟨ad, cap, hv, h.fits, ?_⟩
 cases hn : L.nil with
 | true =>
  left
  have h1 := h.isNil hn
  have h2 := h.fits
  have h3 := h.capEq
  omega
 | false =>
  right
  have h1 := h.addr
  rw [hn] at h1
  exact ⟨L.b, L.o, h1, hr⟩
theorem marr_read (h : Inv P S w0 M0 s0 dq env a w μ) {b : Nat} {e : Ty} {l : List (e.den S.C)} {v : Value} (hb : env.bx b = some (.arr e l) ∨ env.bx b = some (.farr e l)) (hv : RV P S w (stab S w0 M0 s0 env.bx μ w) μ env.bx (.marr b) v) :
 Read S w (stab S w0 M0 s0 env.bx μ w) e l v := by
 obtain ⟨_, hv⟩ := hv
 obtain ⟨ad, cap, h1, h2⟩ := hv e l hb
 refine h2.read h1 ?_
 rcases hb with hb | hb
 · exact (h.bxs b _ hb).2.2.2.2
 · intro i x hi
   obtain ⟨ds, d1, d2, d3⟩ := (h.bxs b _ hb).2.2 i x hi
   exact ⟨ds, d1, d2.range, d3⟩
theorem datum_read (h : Inv P S w0 M0 s0 dq env a w μ) {e : Ty} {X : Sy.V S.C} {x : Value} {y : List (e.den S.C)} (hx : RV P S w (stab S w0 M0 s0 env.bx μ w) μ env.bx X x) (hy : datum S env.bx (.sl e) X = some y) :
 Read S w (stab S w0 M0 s0 env.bx μ w) e y x := by
 cases X with
 | d u z =>
  obtain ⟨rfl, rfl⟩ := cast?_some hy
  exact RepV.read hx
 | town b e' l =>
  obtain ⟨e1, rfl⟩ := cast?_some hy
  cases e1
  exact RepV.read hx.1
 | nilsl =>
  cases hy
  exact ⟨none, 0, hx, Nat.le_refl _, .inl rfl⟩
 | marr b =>
  have hy : asTy S env.bx (.sl e) (.marr b) = some y := hy
  simp only [asTy] at hy
  split at hy
  · rename_i e' l hb
    obtain ⟨e1, rfl⟩ := cast?_some hy
    cases e1
    exact marr_read h (.inl hb) hx
  · rename_i e' l hb
    obtain ⟨e1, rfl⟩ := cast?_some hy
    cases e1
    exact marr_read h (.inr hb) hx
  · cases hy
 | _ => cases hy
theorem Read.cells {s : St} {e : Ty} {l : List (e.den S.C)} {v : Value} (h : Read S w s e l v) : ∃ ad cap cs, v = .slice ad l.length cap ∧ l.length ≤ cap ∧ Chunks w s e l cs ∧
 (l.length = 0 ∧ cs = [] ∨ ∃ b o, ad = some ⟨b, o, none⟩ ∧ w.rangeAt b o cs) := by
 obtain ⟨ad, cap, h1, h2, h3⟩ := h
 rcases h3 with h3 | ⟨b, o, h3, h4⟩
 · have : l = [] := List.length_eq_zero_iff.1 h3
   subst this
   exact ⟨ad, cap, [], h1, h2, Chunks.nil, .inl ⟨rfl, rfl⟩⟩
 · obtain ⟨cs, c1, c2⟩ := rows_cells h4
   exact ⟨ad, cap, cs, h1, h2, c2, .inr ⟨b, o, h3, c1⟩⟩
theorem Read.src (hP : ProgOk P S byt) {s : St} {e : Ty} {l : List (e.den S.C)} {v : Value} (h : Read S w s e l v) {tx : Nat} (ht : S.ty tx = some (.sl e)) : ∃ news, Src P (Ty.sz S e) tx v l.length news w ∧ Chunks w s e l news := by
 obtain ⟨te, ie, z, hu, _⟩ := hP.sl ht
 obtain ⟨ad, cap, cs, h1, h2, h3, h4⟩ := h.cells
 refine ⟨cs, ?_, h3⟩
 subst h1
 rcases h4 with ⟨h4, rfl⟩ | ⟨b, o, rfl, h4⟩
 · cases ad with
   | none => rw [h4]; exact Src.ofNil w hu cap
   | some ad => exact Src.ofSlice w hu ad _ cap [] h3.1 (fun j u hj => by simp at hj) (fun u hu => by simp at hu)
 · exact Src.ofSlice w hu _ _ cap cs h3.1 (fun j u hj => by rw [Addr.add_mid]; exact h4 j u hj) (chunks_one P hP.toSenOk h3)
theorem Read.old {s : St} {e : Ty} {l : List (e.den S.C)} {ad : Option Addr} {cap : Nat} (P : Program) (h : Read S w s e l (.slice ad l.length cap)) : ∃ olds, (Builtin.firstCells (Ty.sz S e) l.length (.slice ad l.length cap)).run P w.drew = .ok olds.toArray w.drew ∧ Chunks w s e l olds ∧
 (l.length = 0 ∨ ∃ b o, ad = some ⟨b, o, none⟩ ∧ w.rangeAt b o olds) := by
 obtain ⟨ad', cap', cs, h1, h2, h3, h4⟩ := h.cells
 cases h1
 refine ⟨cs, ?_, h3, h4.imp (·.1) id⟩
 rcases h4 with ⟨h4, rfl⟩ | ⟨b, o, rfl, h4⟩
 · cases ad with
   | none => exact run_firstCells_none _ _ _ _ _
   | some ad => exact run_firstCells_some _ _ _ ad _ cap [] h3.1 (fun j u hj => by simp at hj)
 · exact run_firstCells_some _ _ _ _ _ cap cs h3.1 (fun j u hj => by rw [Addr.add_mid]; simpa using h4 j u hj)
theorem run_append (hP : ProgOk P S byt) {t tx ty : Nat} {e : Ty} (ht : S.ty t = some (.sl e)) {n m cap : Nat} {base : Option Addr} {x : Value} {news olds : List Value} (hs : Src P (Ty.sz S e) tx x m news w)
 (hold : (Builtin.firstCells (Ty.sz S e) n (.slice base n cap)).run P w.drew = .ok olds.toArray w.drew) (holdl : olds.length = n * Ty.sz S e) (hle : n ≤ cap) (hlim : (n + m) * byt t ≤ limit) :
 (m = 0 ∧ (Builtin.append_ #[t, tx] ty #[.slice base n cap, x]).run P w = .ok (.slice base n cap) w) ∨
 (0 < m ∧ n + m ≤ cap ∧ ∀ b off, base = some ⟨b, off, none⟩ → w.there b (off + n * Ty.sz S e) news.length → (Builtin.append_ #[t, tx] ty #[.slice base n cap, x]).run P w = .ok (.slice base (n + m) cap) (w.setCells b (off + n * Ty.sz S e) news)) ∨
 (∃ c' te cells, cap < n + m ∧ n + m ≤ c' ∧ Array.size cells = c' * Ty.sz S e ∧ (olds ++ news) <+: cells.toList ∧
  (Builtin.append_ #[t, tx] ty #[.slice base n cap, x]).run P w = .ok (.slice (some ⟨w.heap.size, 0, none⟩) (n + m) c') (w.drew.alloc (.cells cells te))) := by
 obtain ⟨te, ie, _, hu, hte, hie, hby, hb1, _⟩ := hP.sl ht
 obtain ⟨⟨i, z, h1, h2, h3, h4, h5⟩, _⟩ := hP.ty te _ hte
 rw [hie] at h1
 cases h1
 rw [← h2] at hs hold holdl ⊢
 rcases Nat.eq_zero_or_pos m with h0 | h0
 · left
   subst h0
   have hn : news = [] := by have := hs.newsLen; rw [Nat.zero_mul] at this; exact List.length_eq_zero_iff.1 this
   subst hn
   exact ⟨rfl, run_append_nothing w t tx ty te ie hu hie base n cap hle x hs⟩
 · right
   by_cases hroom : n + m ≤ cap
   · left
     refine ⟨h0, hroom, ?_⟩
     rintro b off rfl hth
     exact run_append_room_src w t tx ty te ie hu hie b off n cap x m news hs hroom (fun j hj => (hth j hj).1) (fun j hj => (hth j hj).2)
   · right
     have hlim' : limit = 140737488355328 := rfl
     have h63 : ((n + m : Nat) : Int) ≤ 9223372036854775807 := by
      have : (n + m) * 1 ≤ (n + m) * byt t := Nat.mul_le_mul_left _ hb1
      omega
     refine ⟨_, te, _, by omega, grownCap_ge w (n + m) cap te, ?_, ?_, run_append_grow_src w t tx ty te ie z hu hie h3 base n cap olds hold x m news hs (by omega) h63 (growslice_fits (by omega) (by rw [hby]; omega))⟩
     · have hg := grownCap_ge w (n + m) cap te
       have hzs : z.cells.size = ie.size := by
        have := congrArg List.length h5
        rw [Array.length_toList] at this
        rw [this, h2]
        cases e <;> simp [zvals, Ty.sz]
       rw [Array.size_append, size_zeroCells, hzs, List.size_toArray, List.length_append, holdl, hs.newsLen, ← Nat.add_mul, ← Nat.add_mul]
       congr 1
       omega
     · rw [Array.toList_append, List.toList_toArray]
       exact List.prefix_append _ _
theorem Inv.swap (h : Inv P S w0 M0 s0 dq env a w μ) {b B : Nat} {B0 BX : Box S.C} {L : Loc} {w' : World} {T : St} (hb : env.bx b = some B0) (hlive : live S env.bx b) (hB : env.bx B = none)
 (hw : Chg w w' T) (hT : ∀ k o, T k o → (μ b).foot k o) (hL : ∀ k o, L.foot k o → w.heap.size ≤ k ∨ (μ b).foot k o) (hnc : ∀ vs, BX ≠ .cells vs ∧ BX ≠ .fcells vs)
 (hRB : Later w (stab S w0 M0 s0 env.bx μ w) w' (stab S w0 M0 s0 (upd (upd env.bx b (some .dead)) B (some BX)) (upd μ B L) w') →
  RB P S w' (stab S w0 M0 s0 (upd (upd env.bx b (some .dead)) B (some BX)) (upd μ B L) w') (upd μ B L) (upd (upd env.bx b (some .dead)) B (some BX)) L BX) :
 Inv P S w0 M0 s0 dq { env with bx := upd (upd env.bx b (some .dead)) B (some BX) } a w' (upd μ B L) ∧
 Later w (stab S w0 M0 s0 env.bx μ w) w' (stab S w0 M0 s0 (upd (upd env.bx b (some .dead)) B (some BX)) (upd μ B L) w') ∧
 (∀ k o, ((μ b).foot k o ∨ k = w.heap.size) → k < w'.heap.size → ¬ L.foot k o → stab S w0 M0 s0 (upd (upd env.bx b (some .dead)) B (some BX)) (upd μ B L) w' k o) := by
 have hne : b ≠ B := fun e => by rw [e, hB] at hb; cases hb
 have hbd : upd (upd env.bx b (some .dead)) B (some BX) b = some .dead := by rw [upd_ne _ _ hne, upd_eq]
 have hBB : upd (upd env.bx b (some .dead)) B (some BX) B = some BX := upd_eq _ _ _
 have hU : ∀ i, ¬ (i = b ∨ i = B) → upd (upd env.bx b (some .dead)) B (some BX) i = env.bx i ∧ upd μ B L i = μ i := fun i hi => by
  rw [upd_ne _ _ fun e => hi (.inr e), upd_ne _ _ fun e => hi (.inl e), upd_ne _ _ fun e => hi (.inr e)]
  exact ⟨rfl, rfl⟩
 have hdead : ¬ live S (upd (upd env.bx b (some .dead)) B (some BX)) b := fun hl => by unfold live at hl; rw [hbd] at hl; exact hl
 have hf : ∀ i, (i = b ∨ i = B) → live S (upd (upd env.bx b (some .dead)) B (some BX)) i → ∀ k o, (upd μ B L i).foot k o → w.heap.size ≤ k ∨ ∃ j, (j = b ∨ j = B) ∧ live S env.bx j ∧ (μ j).foot k o := by
  rintro i (rfl | rfl) hl k o hfo
  · exact absurd hl hdead
  · rw [upd_eq] at hfo
    exact (hL k o hfo).imp id fun hfo => ⟨b, .inl rfl, hlive, hfo⟩
 have hT' : ∀ k o, T k o → k < w.heap.size → ∃ i, (i = b ∨ i = B) ∧ live S env.bx i ∧ (μ i).foot k o := fun k o ht _ => ⟨b, .inl rfl, hlive, hT k o ht⟩
 have hl := h.later hw hT' hU hf
 refine ⟨h.step (U := fun i => i = b ∨ i = B) hw hT' hU hf ?_ ?_ ?_ ?_, hl, ?_⟩
 · intro i B1 hi
   by_cases e1 : i = b
   · subst e1
     refine ⟨_, hbd, ?_⟩
     rw [upd_ne _ _ hne]
     cases B1 <;> rfl
   · have e2 : i ≠ B := fun e => by rw [e, hB] at hi; cases hi
     rw [upd_ne _ _ e2, upd_ne _ _ e1, upd_ne _ _ e2]
     exact ⟨B1, hi, compat.refl S _ _⟩
 · rintro i j (rfl | rfl) (rfl | rfl) hij li lj
   · exact absurd rfl hij
   · exact absurd li hdead
   · exact absurd lj hdead
   · exact absurd rfl hij
 · rintro i B1 (rfl | rfl) hB1
   · rw [hbd] at hB1; cases hB1; trivial
   · rw [hBB] at hB1; cases hB1
     rw [upd_eq]
     exact hRB hl
 · rintro i vs (rfl | rfl) hvs
   · rcases hvs with hvs | hvs <;> · rw [hbd] at hvs; cases hvs
   · rcases hvs with hvs | hvs <;> rw [hBB] at hvs
     · exact absurd (Option.some.inj hvs) (hnc vs).1
     · exact absurd (Option.some.inj hvs) (hnc vs).2
 · intro k o' hk hlt hnL
   refine ⟨hlt, ?_, fun i li hfo => ?_⟩
   · rcases hk with hk | rfl
     · exact (h.own b hlive k o' hk).elim (fun h => .inr (.inr h)) (fun h => .inr (.inl h))
     · exact .inr (.inr h.chg.size)
   · by_cases e1 : i = b
     · subst e1; exact hdead li
     · by_cases e2 : i = B
       · subst e2; rw [upd_eq] at hfo; exact hnL hfo
       · have hu := hU i fun e => e.elim e1 e2
         rw [live_of S hu.1] at li
         rw [hu.2] at hfo
         rcases hk with hk | rfl
         · exact h.dis i b e1 li hlive _ _ hfo hk
         · exact absurd (live_lt P S (h.bxs i) li hfo).1 (Nat.lt_irrefl _)
end
end Go.Sy
namespace Go.Sy
section
variable {P : Program} {S : Sen} {byt : Nat → Nat}
variable {w0 : World} {M0 s0 : St} {dq : List Deferred} {env : Env S.C} {a : Act} {w : World} {μ : Nat → Loc} {K : Act → World → Prop} {Q : Exit → Act → World → Prop} {o : Oper} {V : V S.C} {us : Ups S.C}
theorem slice_RepV {s : St} {e : Ty} {l : List (e.den S.C)} {b o' cap : Nat} (hle : l.length ≤ cap)
 (hall : ∀ (i : Nat) (x : e.den S.C), l[i]? = some x → ∃ ds, ds.length = Ty.sz S e ∧ At w s b (o' + i * Ty.sz S e) ds ∧ ∃ n, Rep S w s n e x ds) : RepV S w s (.sl e) l (.slice (some ⟨b, o', none⟩) l.length cap) := by
 have : ∀ m, m ≤ l.length → ∃ n, ∀ (i : Nat) (x : e.den S.C), i < m → l[i]? = some x → ∃ ds, ds.length = Ty.sz S e ∧ At w s b (o' + i * Ty.sz S e) ds ∧ Rep S w s n e x ds := by
  intro m
  induction m with
  | zero => exact fun _ => ⟨0, fun i x hi => by omega⟩
  | succ m ih =>
   intro hm
   obtain ⟨n, hn⟩ := ih (by omega)
   obtain ⟨ds, h1, h2, n', h3⟩ := hall m l[m] (by simp)
   refine ⟨max n n', fun i x hi hx => ?_⟩
   by_cases e : i = m
   · subst e
     have : x = l[i] := by simpa [List.getElem?_eq_getElem (show i < l.length by omega)] using hx.symm
     subst this
     exact ⟨ds, h1, h2, h3.up S (by omega)⟩
   · obtain ⟨ds, h1, h2, h3⟩ := hn i x (by omega) hx
     exact ⟨ds, h1, h2, h3.up S (by omega)⟩
 obtain ⟨n, hn⟩ := this l.length (Nat.le_refl _)
 exact ⟨rfl, n + 1, _, cap, rfl, hle, .inr ⟨b, o', rfl, fun i x hx => hn i x (List.getElem?_eq_some_iff.1 hx).1 hx⟩⟩
theorem Chunks.at {s : St} {e : Ty} {l : List (e.den S.C)} {cs : List Value} (h : Chunks w s e l cs) {b o' : Nat} (hr : At w s b o' cs) :
 ∀ i x, l[i]? = some x → ∃ ds, ds.length = Ty.sz S e ∧ At w s b (o' + i * Ty.sz S e) ds ∧ ∃ n, Rep S w s n e x ds := fun i x hi => by
 obtain ⟨n, hn⟩ := h.2 i x hi
 exact ⟨_, hn.length S, hr.part _ _, n, hn⟩
theorem append_at {s : St} {e : Ty} {l l' : List (e.den S.C)} {b o' : Nat}
 (h1 : ∀ i x, l[i]? = some x → ∃ ds, ds.length = Ty.sz S e ∧ At w s b (o' + i * Ty.sz S e) ds ∧ ∃ n, Rep S w s n e x ds)
 (h2 : ∀ i x, l'[i]? = some x → ∃ ds, ds.length = Ty.sz S e ∧ At w s b (o' + l.length * Ty.sz S e + i * Ty.sz S e) ds ∧ ∃ n, Rep S w s n e x ds) :
 ∀ i x, (l ++ l')[i]? = some x → ∃ ds, ds.length = Ty.sz S e ∧ At w s b (o' + i * Ty.sz S e) ds ∧ ∃ n, Rep S w s n e x ds := fun i x hi => by
 by_cases hlt : i < l.length
 · rw [List.getElem?_append_left hlt] at hi; exact h1 i x hi
 · rw [List.getElem?_append_right (by omega)] at hi
   have := h2 _ x hi
   rw [Nat.add_assoc, ← Nat.add_mul, show l.length + (i - l.length) = i from by omega] at this
   exact this
theorem append_range {s : St} {e : Ty} {l l' : List (e.den S.C)} {b o' : Nat}
 (h1 : ∀ i x, l[i]? = some x → ∃ ds, ds.length = Ty.sz S e ∧ w.rangeAt b (o' + i * Ty.sz S e) ds ∧ ∃ n, Rep S w s n e x ds)
 (h2 : ∀ i x, l'[i]? = some x → ∃ ds, ds.length = Ty.sz S e ∧ w.rangeAt b (o' + l.length * Ty.sz S e + i * Ty.sz S e) ds ∧ ∃ n, Rep S w s n e x ds) :
 ∀ i x, (l ++ l')[i]? = some x → ∃ ds, ds.length = Ty.sz S e ∧ w.rangeAt b (o' + i * Ty.sz S e) ds ∧ ∃ n, Rep S w s n e x ds := fun i x hi => by
 by_cases hlt : i < l.length
 · rw [List.getElem?_append_left hlt] at hi; exact h1 i x hi
 · rw [List.getElem?_append_right (by omega)] at hi
   have := h2 _ x hi
   rw [Nat.add_assoc, ← Nat.add_mul, show l.length + (i - l.length) = i from by omega] at this
   exact this
theorem wp_swap (h : Inv P S w0 M0 s0 dq env a w μ) (hd : ∀ d, o.dst = some d → d < a.tmps.size) {b B : Nat} {B0 BX : Box S.C} {L : Loc} {w' : World} {T : St} {v : Value} (hb : env.bx b = some B0) (hlive : live S env.bx b) (hB : env.bx B = none)
 (hrun : (execOp a.eval o).run P w = .ok (.value v) w')
 (hw : Chg w w' T) (hT : ∀ k o, T k o → (μ b).foot k o) (hL : ∀ k o, L.foot k o → w.heap.size ≤ k ∨ (μ b).foot k o) (hnc : ∀ vs, BX ≠ .cells vs ∧ BX ≠ .fcells vs)
 (hRB : ∀ s', Later w (stab S w0 M0 s0 env.bx μ w) w' s' → RB P S w' s' (upd μ B L) (upd (upd env.bx b (some .dead)) B (some BX)) L BX)
 (hV : ∀ s', Later w (stab S w0 M0 s0 env.bx μ w) w' s' → (∀ k o, ((μ b).foot k o ∨ k = w.heap.size) → k < w'.heap.size → ¬ L.foot k o → s' k o) →
  RV P S w' s' (upd μ B L) (upd (upd env.bx b (some .dead)) B (some BX)) V v)
 (hVi : ∀ i ∈ idsOf S V, i = B) (hK : Goal P S w0 M0 s0 dq env a o.dst V [(b, .dead), (B, BX)] K) : o.wp P a w K Q := by
 obtain ⟨hI, hl, hm⟩ := h.swap hb hlive hB hw hT hL hnc (hRB _)
 unfold Oper.wp
 rw [hrun]
 refine hK _ w' _ (hI.put hd (hV _ hl hm) fun i hi => ?_) ?_
 · rw [hVi i hi]
   show upd (upd env.bx b (some .dead)) B (some BX) B ≠ none
   rw [upd_eq]; simp
 · cases o.dst <;> simp [Act.put]
theorem args_two {f : Operand → Option (Sy.V S.C)} {xs : List Operand} {v u : Sy.V S.C} (h : xs.mapM f = some [v, u]) : ∃ x y, xs = [x, y] ∧ f x = some v ∧ f y = some u := by
 cases xs with
 | nil => cases h
 | cons x r =>
  obtain ⟨y, zs, h1, h2, h3⟩ := mapM_some_cons h
  cases h3
  cases r with
  | nil => cases h2
  | cons x' r' =>
   obtain ⟨y', zs', h4, h5, h6⟩ := mapM_some_cons h2
   cases h6
   cases r' with
   | nil => exact ⟨x, x', rfl, h1, h4⟩
   | cons x'' r'' =>
    obtain ⟨y', zs', h7, h8, h9⟩ := mapM_some_cons h5
    cases h9
theorem Chg.grown {w : World} {cells : Array Value} {t : TypeId} (T : St) : Chg w (w.drew.alloc (.cells cells t)) T :=
 (Chg.drew w T).trans (Chg.alloc w.drew _ T) (fun _ _ h => h) (fun _ _ _ h => h)
theorem grown_there {w : World} {cells : Array Value} {t : TypeId} : (w.drew.alloc (.cells cells t)).there w.heap.size 0 cells.size ∧ (w.drew.alloc (.cells cells t)).rangeAt w.heap.size 0 cells.toList ∧ w.heap.size < (w.drew.alloc (.cells cells t)).heap.size := by
 obtain ⟨h1, h2⟩ := new_there (w := w.drew) (cs := cells) (t := t)
 exact ⟨h1, h2, by simp⟩
theorem range_prefix {w : World} {b o' : Nat} {cs ds : List Value} (h : w.rangeAt b o' ds) (hp : cs <+: ds) : w.rangeAt b o' cs := fun j v hj => by
 obtain ⟨r, rfl⟩ := hp
 exact h j v (by rw [List.getElem?_append_left (List.getElem?_eq_some_iff.1 hj).1]; exact hj)
theorem moved_len {α : Type} (l : List α) {n i m : Int} (h0 : 0 ≤ n) (h1 : n ≤ i) (h2 : 0 ≤ m) (h3 : i.toNat + m.toNat ≤ l.length) : (moved l n i m).length = l.length := by
 unfold moved
 simp only [List.length_append, List.length_take, List.length_drop]
 omega
theorem append_ok (hP : ProgOk P S byt) (h : Inv P S w0 M0 s0 dq env a w μ) (hd : ∀ d, o.dst = some d → d < a.tmps.size) {c : Call} (ho : o.op = .call c) (hc : c.callee = .builtin .append) {args : List (Sy.V S.C)} {ids : List Nat} {B : Nat}
 (hargs : c.args.toList.mapM (evalV S env.tm) = some args) (hids : ∀ V ∈ args, ∀ i ∈ idsOf S V, restrict S env.bx ids i = env.bx i)
 (hnew : ∀ u ∈ us, B ≤ u.1 → u.1 < B + 16 → env.bx u.1 = none)
 (hl : (match args, c.argTypes.toList with
  | [s, x], [t, u] => match elemT S t, elemT S u with
   | some e, some e' => if e = e' then appendOp S B (byt t) e (restrict S env.bx ids) x s else .fail
   | _, _ => .fail
  | _, _ => .fail).leaf (V, us)) (hK : Goal P S w0 M0 s0 dq env a o.dst V us K) : o.wp P a w K Q := by
 split at hl
 · rename_i Vs Vx t tx htys
   split at hl
   · rename_i e e' het hetx
     split at hl
     · rename_i hee
       subst hee
       obtain ⟨xs, xx, hxs, hes, hex⟩ := args_two hargs
       obtain ⟨hs, _⟩ := evalV_ok h hes
       obtain ⟨hx, _⟩ := evalV_ok h hex
       have ht := elemT_ty het
       have htx := elemT_ty hetx
       have hat : c.argTypes = #[t, tx] := by
        have : c.argTypes = c.argTypes.toList.toArray := by simp
        rw [this, htys]
       have har : c.args = #[xs, xx] := by
        have : c.args = c.args.toList.toArray := by simp
        rw [this, hxs]
       have hrun : ∀ {v : Value} {w' : World}, (Builtin.append_ #[t, tx] o.type #[a.eval xs, a.eval xx]).run P w = .ok v w' → (execOp a.eval o).run P w = .ok (.value v) w' := by
        intro v w' hr
        unfold execOp
        simp only [ho]
        simp [resolve, hc, har, hat, invoke, builtin, hr]
       have hBnew : ∀ BX, (B, BX) ∈ us → env.bx B = none := fun BX hm => hnew _ hm (Nat.le_refl _) (by show B < B + 16; omega)
       have hdat : ∀ y, datum S (restrict S env.bx ids) (.sl e) Vx = some y → datum S env.bx (.sl e) Vx = some y := fun y hy => by
        rw [← (datum_restrict (t := .sl e) (hids Vx (by simp))).1]; exact hy
       cases Vs with
       | town b e' l =>
        simp only [appendOp] at hl
        split at hl
        · rename_i hb
          have hb := restrict_some hb
          split at hl
          · rename_i l' hl'
            obtain ⟨e1, e2⟩ := cast?_some hl'
            cases e1
            dsimp only at e2
            subst e2
            split at hl
            · rename_i y hy
              obtain ⟨hg, rfl, rfl⟩ := guards_all hl
              have hlim : (l.length + y.length) * byt t ≤ limit := hg (gd ((l.length + y.length) * byt t ≤ limit)) (by simp)
              have hB := hBnew .tail (by simp)
              obtain ⟨hrep, hown⟩ := hs
              obtain ⟨ad, cap, hse, htail⟩ := hown hb
              obtain ⟨news, hsrc, hnews⟩ := (datum_read h hx (hdat y hy)).src hP htx
              have hread := hrep.read
              rw [hse] at hread
              have hle : l.length ≤ cap := by obtain ⟨_, _, q1, q2, _⟩ := hread; cases q1; exact q2
              obtain ⟨olds, hold, holds, _⟩ := hread.old P
              have hlive : live S env.bx b := by unfold live; rw [hb]; trivial
              have hth : w.there (μ b).b (μ b).o (μ b).n := h.bxs b _ hb
              have hVi : ∀ i ∈ idsOf S (.town B e (List.append l y) : Sy.V S.C), i = B := fun i hi => by simpa [idsOf, ids1] using hi
              rcases run_append (ty := o.type) hP ht hsrc hold holds.1 hle hlim with ⟨h0, hr⟩ | ⟨h0, hroom, hr⟩ | ⟨c', te, cells, hcap, hc', hcsz, hpre, hr⟩
              · have : y = [] := List.length_eq_zero_iff.1 h0
                subst this
                rw [← hse] at hr
                refine wp_swap (V := .town B e (List.append l [])) (BX := .tail) (L := μ b) h hd hb hlive hB (hrun hr) (Chg.refl w (fun _ _ => False)) (fun _ _ h => h.elim) (fun _ _ h => .inr h) (fun vs => ⟨by simp, by simp⟩) (fun s' hl => hth) (fun s' hl _ => ⟨?_, fun _ => ⟨ad, cap, ?_, ?_⟩⟩) hVi hK
                · rw [show List.append l [] = l from List.append_nil l]; exact hrep.mono S hl
                · rw [show List.append l [] = l from List.append_nil l]; exact hse
                · rw [show List.append l [] = l from List.append_nil l, upd_eq]; exact htail
              · have hnl := hsrc.newsLen
                rcases htail with ⟨_, hc0, _⟩ | ⟨b0, off, rfl, hn, hlt⟩
                · omega
                · obtain ⟨q1, q2⟩ := hlt (by omega)
                  have hmul : y.length * Ty.sz S e ≤ (cap - l.length) * Ty.sz S e := Nat.mul_le_mul_right _ (by omega)
                  have hsplit : (cap - l.length) * Ty.sz S e = y.length * Ty.sz S e + (cap - (l.length + y.length)) * Ty.sz S e := by rw [← Nat.add_mul]; congr 1; omega
                  have hsum : (l.length + y.length) * Ty.sz S e = l.length * Ty.sz S e + y.length * Ty.sz S e := Nat.add_mul ..
                  rw [q1, q2] at hth
                  have hth2 : w.there b0 (off + l.length * Ty.sz S e) news.length := there_sub hth (Nat.le_refl _) (by omega)
                  have hr := hr b0 off rfl hth2
                  rw [← hse] at hr
                  refine wp_swap (V := .town B e (List.append l y)) (BX := .tail) (L := ⟨b0, off + (l.length + y.length) * Ty.sz S e, (cap - (l.length + y.length)) * Ty.sz S e, 0, false⟩) h hd hb hlive hB (hrun hr) (Chg.setCells w b0 _ news hth2) (fun k o' hk => ?_) (fun k o' hk => .inr ?_) (fun vs => ⟨by simp, by simp⟩)
                   (fun s' hl => ?_) (fun s' hl hm => ⟨?_, fun _ => ⟨some ⟨b0, off, none⟩, cap, ?_, ?_⟩⟩) hVi hK
                  · exact ⟨by rw [q1]; exact hk.1, by omega, by omega⟩
                  · obtain ⟨k1, k2, k3⟩ := hk
                    dsimp only at k1 k2 k3
                    exact ⟨by rw [q1]; exact k1, by omega, by omega⟩
                  · exact there_set (there_sub hth (by dsimp only; omega) (by dsimp only; omega)) hth2
                  · have hv : a.eval xs = .slice (some ⟨b0, off, none⟩) l.length cap := hse
                    obtain ⟨_, _, z1, z2, z3⟩ := RepV_sl hrep
                    rw [hv] at z1
                    cases z1
                    have hel : ∀ i x, l[i]? = some x → ∃ ds, ds.length = Ty.sz S e ∧ At (w.setCells b0 (off + l.length * Ty.sz S e) news) s' b0 (off + i * Ty.sz S e) ds ∧ ∃ n, Rep S (w.setCells b0 (off + l.length * Ty.sz S e) news) s' n e x ds := by
                     intro i x hi
                     rcases z3 with z3 | ⟨b1, o1, n, z4, z5⟩
                     · have := (List.getElem?_eq_some_iff.1 hi).1; omega
                     · cases z4
                       obtain ⟨ds, d1, d2, d3⟩ := z5 i x hi
                       exact ⟨ds, d1, d2.later hl, n, d3.mono S hl (Nat.le_refl _)⟩
                    have hnew2 : At (w.setCells b0 (off + l.length * Ty.sz S e) news) s' b0 (off + l.length * Ty.sz S e) news := fun j v hj => by
                     have hjl := (List.getElem?_eq_some_iff.1 hj).1
                     have hc1 := range_in hth2 j v hj
                     refine ⟨hc1, hm _ _ (.inl ⟨by rw [q1], by omega, by omega⟩) (World.block_lt_of_cell? _ _ hc1) fun hf => ?_⟩
                     have := hf.2.1
                     dsimp only at this
                     omega
                    have := slice_RepV (cap := cap) (b := b0) (o' := off) (l := List.append l y) (by rw [show (List.append l y).length = l.length + y.length from List.length_append]; exact hroom) (append_at hel ((hnews.later hl).at hnew2))
                    rw [show (List.append l y).length = l.length + y.length from List.length_append] at this
                    exact this
                  · show Value.slice _ _ _ = _
                    rw [show (List.append l y).length = l.length + y.length from List.length_append]
                  · rw [show (List.append l y).length = l.length + y.length from List.length_append, upd_eq]
                    exact .inr ⟨b0, off, rfl, rfl, fun _ => ⟨rfl, rfl⟩⟩
              · rw [← hse] at hr
                obtain ⟨g1, g2, g3⟩ := grown_there (w := w) (cells := cells) (t := te)
                have hsplit : c' * Ty.sz S e = (l.length + y.length) * Ty.sz S e + (c' - (l.length + y.length)) * Ty.sz S e := by rw [← Nat.add_mul]; congr 1; omega
                refine wp_swap (V := .town B e (List.append l y)) (BX := .tail) (L := ⟨w.heap.size, (l.length + y.length) * Ty.sz S e, (c' - (l.length + y.length)) * Ty.sz S e, 0, false⟩) h hd hb hlive hB (hrun hr) (Chg.grown (fun _ _ => False)) (fun _ _ h => h.elim) (fun k o' hk => .inl (Nat.le_of_eq hk.1.symm)) (fun vs => ⟨by simp, by simp⟩)
                 (fun s' hl => there_sub g1 (Nat.zero_le _) (by dsimp only; omega)) (fun s' hl hm => ⟨?_, fun _ => ⟨some ⟨w.heap.size, 0, none⟩, c', ?_, ?_⟩⟩) hVi hK
                · have hall : At (w.drew.alloc (.cells cells te)) s' w.heap.size 0 (olds ++ news) := fun j v hj => by
                   have hjl := (List.getElem?_eq_some_iff.1 hj).1
                   rw [List.length_append, holds.1, hnews.1, ← Nat.add_mul] at hjl
                   refine ⟨range_prefix g2 hpre j v hj, hm _ _ (.inr rfl) g3 fun hf => ?_⟩
                   have := hf.2.1
                   dsimp only at this
                   omega
                  have := slice_RepV (cap := c') (b := w.heap.size) (o' := 0) (l := List.append l y) (by rw [show (List.append l y).length = l.length + y.length from List.length_append]; exact hc') (((holds.append hnews).later hl).at hall)
                  rw [show (List.append l y).length = l.length + y.length from List.length_append] at this
                  exact this
                · show Value.slice _ _ _ = _
                  rw [show (List.append l y).length = l.length + y.length from List.length_append]
                · rw [show (List.append l y).length = l.length + y.length from List.length_append, upd_eq]
                  exact .inr ⟨_, 0, rfl, rfl, fun _ => ⟨rfl, by dsimp only; omega⟩⟩
            · exact hl.elim
          · exact hl.elim
        · exact hl.elim
       | marr b =>
        simp only [appendOp] at hl
        split at hl
        · rename_i e' l hb
          have hb := restrict_some hb
          split at hl
          · rename_i l' hl'
            obtain ⟨e1, e2⟩ := cast?_some hl'
            cases e1
            dsimp only at e2
            subst e2
            split at hl
            · rename_i y hy
              obtain ⟨hg, rfl, rfl⟩ := guards_all hl
              have hlim : (l.length + y.length) * byt t ≤ limit := hg (gd ((l.length + y.length) * byt t ≤ limit)) (by simp)
              have hB := hBnew (.arr e (List.append l y)) (by simp)
              have hread := marr_read h (.inl hb) hs
              obtain ⟨ad, cap, hse, harr⟩ := hs.2 e l (.inl hb)
              obtain ⟨news, hsrc, hnews⟩ := (datum_read h hx (hdat y hy)).src hP htx
              rw [hse] at hread
              have hle : l.length ≤ cap := harr.fits
              obtain ⟨olds, hold, holds, _⟩ := hread.old P
              have hlive : live S env.bx b := by unfold live; rw [hb]; trivial
              obtain ⟨b1, b2, b3, hth, b5⟩ := h.bxs b _ hb
              have hVi : ∀ i ∈ idsOf S (.marr B : Sy.V S.C), i = B := fun i hi => by simpa [idsOf, ids1] using hi
              have hcapL := harr.capEq
              have hrv : ∀ {w' : World} {s' : St} {μ' : Nat → Loc} {L : Loc} {v : Value} {ad' : Option Addr} {cap' : Nat}, v = .slice ad' (l.length + y.length) cap' → ArrOk L ad' (l.length + y.length) cap' (Ty.sz S e) → μ' B = L →
               RV P S w' s' μ' (upd (upd env.bx b (some .dead)) B (some (.arr e (List.append l y)))) (.marr B) v := by
               rintro w' s' μ' L v ad' cap' rfl hok hμ
               refine ⟨⟨_, _, _, rfl⟩, fun e2 l2 h2 => ?_⟩
               rw [upd_eq] at h2
               rcases h2 with h2 | h2
               · cases h2
                 rw [hμ, show (List.append l y).length = l.length + y.length from List.length_append]
                 exact ⟨ad', cap', rfl, hok⟩
               · cases h2
              rcases run_append (ty := o.type) hP ht hsrc hold holds.1 hle hlim with ⟨h0, hr⟩ | ⟨h0, hroom, hr⟩ | ⟨c', te, cells, hcap, hc', hcsz, hpre, hr⟩
              · have : y = [] := List.length_eq_zero_iff.1 h0
                subst this
                rw [← hse] at hr
                refine wp_swap (V := .marr B) (BX := .arr e (List.append l [])) (L := μ b) h hd hb hlive hB (hrun hr) (Chg.refl w (fun _ _ => False)) (fun _ _ h => h.elim) (fun _ _ h => .inr h) (fun vs => ⟨by simp, by simp⟩) (fun s' hl => ?_) (fun s' hl _ => hrv hse harr (upd_eq _ _ _)) hVi hK
                rw [show List.append l [] = l from List.append_nil l]
                refine ⟨b1, b2, b3, hth, fun i x hi => ?_⟩
                obtain ⟨ds, d1, d2, n, d3⟩ := b5 i x hi
                exact ⟨ds, d1, d2, n, d3.mono S hl (Nat.le_refl _)⟩
              · have hnl := hsrc.newsLen
                have hnil : (μ b).nil = false := by
                 cases hn : (μ b).nil with
                 | false => rfl
                 | true => have := harr.isNil hn; omega
                have had := harr.addr
                rw [hnil] at had
                have hmul : (l.length + y.length) * Ty.sz S e ≤ (μ b).cap * Ty.sz S e := Nat.mul_le_mul_right _ (by omega)
                rw [Nat.add_mul] at hmul
                have hth2 : w.there (μ b).b ((μ b).o + l.length * Ty.sz S e) news.length := there_sub hth (by omega) (by omega)
                have hr := hr _ _ had hth2
                rw [← hse] at hr
                refine wp_swap (V := .marr B) (BX := .arr e (List.append l y)) (L := μ b) h hd hb hlive hB (hrun hr) (Chg.setCells w (μ b).b _ news hth2) (fun k o' hk => ⟨hk.1, by omega, by omega⟩) (fun k o' hk => .inr hk) (fun vs => ⟨by simp, by simp⟩)
                 (fun s' hl => ⟨b1, b2, ?_, there_set hth hth2, ?_⟩) (fun s' hl hm => hrv (cap' := cap) rfl ?_ (upd_eq _ _ _)) hVi hK
                · rw [show (List.append l y).length = l.length + y.length from List.length_append]; omega
                · refine append_range (fun i x hi => ?_) ((hnews.later hl).row (range_in hth2))
                  obtain ⟨ds, d1, d2, n, d3⟩ := b5 i x hi
                  refine ⟨ds, d1, range_out d2 (.inr (.inl ?_)), n, d3.mono S hl (Nat.le_refl _)⟩
                  have hil := (List.getElem?_eq_some_iff.1 hi).1
                  have : (i + 1) * Ty.sz S e ≤ l.length * Ty.sz S e := Nat.mul_le_mul_right _ (by omega)
                  rw [Nat.add_mul, Nat.one_mul] at this
                  omega
                · exact ⟨harr.addr, harr.capEq, harr.cells, harr.isNil, hroom⟩
              · rw [← hse] at hr
                obtain ⟨g1, g2, g3⟩ := grown_there (w := w) (cells := cells) (t := te)
                refine wp_swap (V := .marr B) (BX := .arr e (List.append l y)) (L := ⟨w.heap.size, 0, c' * Ty.sz S e, c', false⟩) h hd hb hlive hB (hrun hr) (Chg.grown (fun _ _ => False)) (fun _ _ h => h.elim) (fun k o' hk => .inl (Nat.le_of_eq hk.1.symm)) (fun vs => ⟨by simp, by simp⟩)
                 (fun s' hl => ⟨rfl, (fun h => by cases h), ?_, by show World.there _ w.heap.size 0 (c' * Ty.sz S e); rw [← hcsz]; exact g1, ?_⟩) (fun s' hl hm => hrv (cap' := c') rfl ⟨rfl, rfl, rfl, (fun h => by cases h), hc'⟩ (upd_eq _ _ _)) hVi hK
                · rw [show (List.append l y).length = l.length + y.length from List.length_append]; exact hc'
                · exact ((holds.append hnews).later hl).row (range_prefix g2 hpre)
            · exact hl.elim
          · exact hl.elim
        · exact hl.elim
       | pre b n =>
        simp only [appendOp] at hl
        split at hl
        · rename_i e' l b' i m hb _
          have hb := restrict_some hb
          cases hbb : Nat.beq b' b with
          | false => rw [hbb] at hl; exact hl.elim
          | true =>
           rw [hbb, cond_true] at hl
           have := Nat.eq_of_beq_eq_true hbb
           subst this
           split at hl
           · rename_i l' hl'
             obtain ⟨e1, e2⟩ := cast?_some hl'
             cases e1
             dsimp only at e2
             subst e2
             obtain ⟨hg, rfl, rfl⟩ := guards_all hl
             have hni : n ≤ i := hg (gd (n ≤ i)) (by simp)
             have hlim0 : List.length l * byt t ≤ limit := hg (gd (List.length l * byt t ≤ limit)) (by simp)
             have hB := hBnew (.arr e (moved l n i m)) (by simp)
             obtain ⟨hn0, hnl, ad, cap, hse, harr⟩ := hs.2 e l hb
             obtain ⟨hi0, hm0, him, ad2, cap2, hxe, hmc, had2⟩ := hx.2 e l hb
             obtain ⟨b1, b2, b3, hth, b5⟩ := h.bxs b' _ hb
             have hcapL := harr.capEq
             have hlive : live S env.bx b' := by unfold live; rw [hb]; trivial
             obtain ⟨y, hy⟩ : ∃ y, y = (List.drop i.toNat l).take m.toNat := ⟨_, rfl⟩
             have hyl : y.length = m.toNat := by rw [hy, List.length_take, List.length_drop]; omega
             have hyg : ∀ k x, y[k]? = some x → l[i.toNat + k]? = some x := fun k x hk => by
              rw [hy, List.getElem?_take] at hk
              split at hk
              · rwa [List.getElem?_drop] at hk
              · cases hk
             have hrd : Read S w (stab S w0 M0 s0 env.bx μ w) e y (a.eval xx) := by
              refine ⟨ad2, cap2, by rw [hyl]; exact hxe, by omega, ?_⟩
              rcases had2 with h0 | h0
              · exact .inl (by omega)
              · refine .inr ⟨_, _, h0, fun k x hk => ?_⟩
                obtain ⟨ds, d1, d2, q, d3⟩ := b5 _ x (hyg k x hk)
                exact ⟨ds, d1, by rw [show (μ b').o + i.toNat * Ty.sz S e + k * Ty.sz S e = (μ b').o + (i.toNat + k) * Ty.sz S e from by rw [Nat.add_mul]; omega]; exact d2, q, d3⟩
             have hpl : (List.take n.toNat l).length = n.toNat := by rw [List.length_take]; omega
             have hprd : Read S w (stab S w0 M0 s0 env.bx μ w) e (List.take n.toNat l) (.slice ad (List.take n.toNat l).length cap) := by
              refine ⟨ad, cap, rfl, by rw [hpl]; exact harr.fits, ?_⟩
              by_cases h0 : n.toNat = 0
              · exact .inl (by rw [hpl]; exact h0)
              · have hnil : (μ b').nil = false := by
                 cases hn : (μ b').nil with
                 | false => rfl
                 | true => have := harr.isNil hn; have := harr.fits; omega
                have had := harr.addr
                rw [hnil] at had
                refine .inr ⟨_, _, had, fun k x hk => ?_⟩
                rw [List.getElem?_take] at hk
                split at hk
                · exact b5 k x hk
                · cases hk
             obtain ⟨news, hsrc, hnews⟩ := hrd.src hP htx
             obtain ⟨olds, hold, holds, _⟩ := hprd.old P
             rw [hpl] at hold
             have hol := holds.1
             rw [hpl] at hol
             have hlim : (n.toNat + y.length) * byt t ≤ limit := Nat.le_trans (Nat.mul_le_mul_right _ (by omega)) hlim0
             have hVi : ∀ j ∈ idsOf S (.pre B (n + m) : Sy.V S.C), j = B := fun j hj => by simpa [idsOf, ids1] using hj
             have hml := moved_len l hn0 hni hm0 him
             have hnm : (n + m).toNat = n.toNat + y.length := by omega
             have hrv : ∀ {w' : World} {s' : St} {μ' : Nat → Loc} {v : Value}, v = .slice ad (n.toNat + y.length) cap → μ' B = μ b' →
              RV P S w' s' μ' (upd (upd env.bx b' (some .dead)) B (some (.arr e (moved l n i m)))) (.pre B (n + m)) v := by
              rintro w' s' μ' v rfl hμ
              refine ⟨⟨_, _, _, rfl⟩, fun e2 l2 h2 => ?_⟩
              rw [upd_eq] at h2
              cases h2
              rw [hμ, hml]
              exact ⟨by omega, by omega, ad, cap, by rw [hnm], harr.addr, harr.capEq, harr.cells, harr.isNil, by omega⟩
             have hmv : moved l n i m = (List.take n.toNat l ++ y) ++ List.drop (n.toNat + y.length) l := by
              unfold moved; rw [hnm, hy]
             rcases run_append (ty := o.type) hP ht hsrc hold hol harr.fits hlim with ⟨h0, hr⟩ | ⟨h0, hroom, hr⟩ | ⟨c', te, cells, hcap, hc', hcsz, hpre, hr⟩
             · have hy0 : y = [] := List.length_eq_zero_iff.1 h0
               rw [← hse] at hr
               refine wp_swap (V := .pre B (n + m)) (BX := .arr e (moved l n i m)) (L := μ b') h hd hb hlive hB (hrun hr) (Chg.refl w (fun _ _ => False)) (fun _ _ h => h.elim) (fun _ _ h => .inr h) (fun vs => ⟨by simp, by simp⟩) (fun s' hl => ?_) (fun s' hl _ => hrv (by rw [hse, h0]; rfl) (upd_eq _ _ _)) hVi hK
               have : moved l n i m = l := by rw [hmv, hy0]; simp
               rw [this]
               refine ⟨b1, b2, b3, hth, fun i x hi => ?_⟩
               obtain ⟨ds, d1, d2, n, d3⟩ := b5 i x hi
               exact ⟨ds, d1, d2, n, d3.mono S hl (Nat.le_refl _)⟩
             · have hnl2 := hsrc.newsLen
               have hnil : (μ b').nil = false := by
                cases hn : (μ b').nil with
                | false => rfl
                | true => have := harr.isNil hn; omega
               have had := harr.addr
               rw [hnil] at had
               have hmul : (n.toNat + y.length) * Ty.sz S e ≤ (μ b').cap * Ty.sz S e := Nat.mul_le_mul_right _ (by omega)
               have hsum : (n.toNat + y.length) * Ty.sz S e = n.toNat * Ty.sz S e + y.length * Ty.sz S e := Nat.add_mul ..
               have hth2 : w.there (μ b').b ((μ b').o + n.toNat * Ty.sz S e) news.length := there_sub hth (by omega) (by omega)
               have hr := hr _ _ had hth2
               rw [← hse] at hr
               refine wp_swap (V := .pre B (n + m)) (BX := .arr e (moved l n i m)) (L := μ b') h hd hb hlive hB (hrun hr) (Chg.setCells w (μ b').b _ news hth2) (fun k o' hk => ⟨hk.1, by omega, by omega⟩) (fun k o' hk => .inr hk) (fun vs => ⟨by simp, by simp⟩)
                (fun s' hl => ⟨b1, b2, by rw [hml]; exact b3, there_set hth hth2, ?_⟩) (fun s' hl hm => hrv rfl (upd_eq _ _ _)) hVi hK
               rw [hmv]
               refine append_range (append_range (fun k x hk => ?_) ?_) (fun k x hk => ?_)
               · rw [List.getElem?_take] at hk
                 split at hk
                 · rename_i hkn
                   obtain ⟨ds, d1, d2, q, d3⟩ := b5 k x hk
                   refine ⟨ds, d1, range_out d2 (.inr (.inl ?_)), q, d3.mono S hl (Nat.le_refl _)⟩
                   have : (k + 1) * Ty.sz S e ≤ n.toNat * Ty.sz S e := Nat.mul_le_mul_right _ (by omega)
                   rw [Nat.add_mul, Nat.one_mul] at this
                   omega
                 · cases hk
               · rw [hpl]
                 exact (hnews.later hl).row (range_in hth2)
               · rw [List.getElem?_drop] at hk
                 obtain ⟨ds, d1, d2, q, d3⟩ := b5 _ x hk
                 rw [List.length_append, hpl, Nat.add_assoc, ← Nat.add_mul]
                 refine ⟨ds, d1, range_out d2 (.inr (.inr ?_)), q, d3.mono S hl (Nat.le_refl _)⟩
                 have : (n.toNat + y.length) * Ty.sz S e ≤ (n.toNat + y.length + k) * Ty.sz S e := Nat.mul_le_mul_right _ (by omega)
                 omega
             · omega
           · exact hl.elim
        · exact hl.elim
       | nilsl =>
        simp only [appendOp] at hl
        split at hl
        · rename_i y hy
          obtain ⟨hg, rfl, rfl⟩ := guards_all hl
          have hlim : y.length * byt t ≤ limit := hg (gd (y.length * byt t ≤ limit)) (by simp)
          have hB := hBnew (.arr e y) (by simp)
          obtain ⟨news, hsrc, hnews⟩ := (datum_read h hx (hdat y hy)).src hP htx
          have hse : a.eval xs = .slice none 0 0 := hs
          have hold : (Builtin.firstCells (Ty.sz S e) 0 (.slice none 0 0)).run P w.drew = .ok (#[] : Array Value) w.drew := run_firstCells_none _ _ _ _ _
          rcases run_append (olds := []) (ty := o.type) hP ht hsrc hold (by simp) (Nat.le_refl 0) (by rw [Nat.zero_add]; exact hlim) with ⟨h0, hr⟩ | ⟨h0, hroom, hr⟩ | ⟨c', te, cells, hcap, hc', hcsz, hpre, hr⟩
          · have : y = [] := List.length_eq_zero_iff.1 h0
            subst this
            rw [← hse] at hr
            refine wp_new (i := B) (B := .arr e []) (V := .marr B) (L := ⟨0, 0, 0, 0, true⟩) h (hrun hr) hd (Chg.refl w _) hB (fun b o' hf => ?_) (fun hl _ h3 => ⟨⟨by simp, fun _ => rfl, Nat.le_refl _, fun j hj => absurd hj (Nat.not_lt_zero j), fun i x hi => by simp at hi⟩, ⟨⟨none, 0, 0, hse⟩, fun e' l' hb => ?_⟩⟩)
             (fun vs hvs => by rcases hvs with hvs | hvs <;> cases hvs) (fun j hj => .inl (by simpa [idsOf, ids1] using hj)) hK
            · have h1 := hf.2.1; have h2 := hf.2.2; simp at h2
            · rw [upd_eq] at hb
              rcases hb with hb | hb
              · cases hb
                rw [upd_eq]
                exact ⟨none, 0, hse, rfl, rfl, by simp, fun _ => rfl, Nat.le_refl _⟩
              · cases hb
          · omega
          · rw [← hse] at hr
            rw [Nat.zero_add] at hc' hr
            exact wp_newArr (us := []) (t := te) (e := e) (l := y) (cap := c') (cells := cells) (cs := news) (w1 := w.drew) h hd (Tk.refl S _) hB rfl ⟨rfl, rfl, rfl⟩ (hrun hr) hc' hcsz hnews hpre hK
        · exact hl.elim
       | _ => exact hl.elim
     · exact hl.elim
   · exact hl.elim
 · exact hl.elim
theorem cleared_len {α : Type} (z : α) (l : List α) {i m : Int} (h3 : i.toNat + m.toNat ≤ l.length) (h0 : 0 ≤ i) (h1 : 0 ≤ m) : (cleared z l i m).length = l.length := by
 unfold cleared
 simp only [List.length_append, List.length_take, List.length_drop, List.length_replicate]
 omega
theorem run_clear (hP : ProgOk P S byt) {t : Nat} {e : Ty} (ht : S.ty t = some (.sl e)) {ty : Nat} {ad : Option Addr} {n cap b o' : Nat} {news : List Value} (had : n = 0 ∧ news = [] ∨ ad = some ⟨b, o', none⟩)
 {te : Nat} {ie : TypeInfo} {z : Value} (hu : P.underlying t = some (.slice te)) (hz : ∀ w, (zeroValue te).run P w = .ok z w) (hn : (Builtin.zeroCells z.cells n).toList = news) (hth : w.there b o' news.length) (h1 : ∀ c ∈ news, c.oneCell' = true) :
 (Builtin.clear_ #[t] ty #[.slice ad n cap]).run P w = .ok (.tuple #[]) (w.setCells b o' news) := by
 rcases Nat.eq_zero_or_pos n with h0 | h0
 · subst h0
   have : news = [] := by rw [← hn]; simp [Builtin.zeroCells]
   subst this
   cases ad <;> simp [Builtin.clear_, run_underlying hu, setCells_nil]
 · rcases had with ⟨h2, _⟩ | h2
   · omega
   · subst h2
     have hst := run_storeCells_cells (P := P) b o' news 0 w (by simpa using fun j hj => (hth j hj).1) (by simpa using fun j hj => (hth j hj).2) h1
     simp only [Nat.add_zero] at hst
     obtain ⟨m, rfl⟩ : ∃ m, n = m + 1 := ⟨n - 1, by omega⟩
     simp [Builtin.clear_, run_underlying hu, hz, hn, hst]
theorem clear_ok (hP : ProgOk P S byt) (h : Inv P S w0 M0 s0 dq env a w μ) (hd : ∀ d, o.dst = some d → d < a.tmps.size) {c : Call} (ho : o.op = .call c) (hc : c.callee = .builtin .clear) {args : List (Sy.V S.C)} {ids : List Nat}
 (hargs : c.args.toList.mapM (evalV S env.tm) = some args)
 (hl : (match args, c.argTypes.toList with
  | [v], [t] => match elemT S t with
   | some e => clearOp S e (restrict S env.bx ids) v
   | none => .fail
  | _, _ => .fail).leaf (V, us)) (hK : Goal P S w0 M0 s0 dq env a o.dst V us K) : o.wp P a w K Q := by
 split at hl
 · rename_i Vs t htys
   split at hl
   · rename_i e het
     have hone : ∃ x, c.args = #[x] ∧ evalV S env.tm x = some Vs := by
      have hca : c.args = c.args.toList.toArray := by simp
      cases e : c.args.toList with
      | nil => rw [e] at hargs; cases hargs
      | cons x r =>
       rw [e] at hargs
       obtain ⟨y, zs, h1, h2, h3⟩ := mapM_some_cons hargs
       cases h3
       cases r with
       | nil => exact ⟨x, by rw [hca, e], h1⟩
       | cons x' r' =>
        obtain ⟨y', zs', h4, h5, h6⟩ := mapM_some_cons h2
        cases h6
     obtain ⟨x, hax, hex⟩ := hone
     obtain ⟨hx, _⟩ := evalV_ok h hex
     have ht := elemT_ty het
     have hat : c.argTypes = #[t] := by
      have : c.argTypes = c.argTypes.toList.toArray := by simp
      rw [this, htys]
     unfold clearOp at hl
     split at hl
     · rename_i b i m _
       split at hl
       · rename_i e' l hb
         have hb := restrict_some hb
         split at hl
         · rename_i l' hl'
           obtain ⟨e1, e2⟩ := cast?_some hl'
           cases e1
           dsimp only at e2
           subst e2
           obtain ⟨rfl, rfl⟩ := ret_leaf hl
           obtain ⟨hi0, hm0, him, ad, cap, hxe, hmc, had⟩ := hx.2 e l hb
           obtain ⟨b1, b2, b3, hth, b5⟩ := h.bxs b _ hb
           have hlive : live S env.bx b := by unfold live; rw [hb]; trivial
           obtain ⟨te, ie, z, hu, hte, hie, hby, hb1, _⟩ := hP.sl ht
           obtain ⟨⟨i', z, h1, h2, h3, h4, h5⟩, _⟩ := hP.ty te _ hte
           obtain ⟨q, hq⟩ := zero_Rep (w := w) hP hte (stab S w0 M0 s0 env.bx μ w)
           obtain ⟨x1, x2, x3⟩ := explode_ok (P := P) hP.toSenOk μ env.bx hq
           have hones := solids_one x2 x1
           rw [← h5] at hq hones
           have hzv : ∀ w, (zeroValue te).run P w = .ok z w := fun w => by simp [zeroValue, typeInfo, h1, h3]
           have hzs : z.cells.size = Ty.sz S e := by have := hq.length S; simpa using this
           obtain ⟨news, hnews⟩ : ∃ news, news = (Builtin.zeroCells z.cells m.toNat).toList := ⟨_, rfl⟩
           have hchunk : Chunks w (stab S w0 M0 s0 env.bx μ w) e (List.replicate m.toNat (Ty.zero S e)) news := by
            have := Chunks.replicate hq m.toNat
            rw [hnews]
            have e3 : Builtin.zeroCells z.cells m.toNat = madeCells z.cells (m.toNat * Ty.sz S e) := by
             unfold Builtin.zeroCells madeCells
             rw [hzs]
            rw [e3]; exact this
           have hnl : news.length = m.toNat * Ty.sz S e := by have := hchunk.1; rwa [List.length_replicate] at this
           have hsum : (i.toNat + m.toNat) * Ty.sz S e = i.toNat * Ty.sz S e + m.toNat * Ty.sz S e := Nat.add_mul ..
           have hmul : (i.toNat + m.toNat) * Ty.sz S e ≤ (μ b).cap * Ty.sz S e := Nat.mul_le_mul_right _ (by omega)
           have hth2 : w.there (μ b).b ((μ b).o + i.toNat * Ty.sz S e) news.length := there_sub hth (by omega) (by omega)
           have hno : ∀ c ∈ news, c.oneCell' = true := by
            intro c hc
            rw [hnews] at hc
            unfold Builtin.zeroCells at hc
            simp only [Array.toList_map, List.mem_map, Array.toList_range, List.mem_range] at hc
            obtain ⟨k, hk, rfl⟩ := hc
            have hp : 0 < z.cells.size := by
             rcases Nat.eq_zero_or_pos z.cells.size with h0 | h0
             · rw [h0, Nat.mul_zero] at hk; omega
             · exact h0
            have hlt := Nat.mod_lt k hp
            rw [getElem!_pos z.cells _ hlt]
            exact hones _ (by simp)
           have hrun : (execOp a.eval o).run P w = .ok (.value (.tuple #[])) (w.setCells (μ b).b ((μ b).o + i.toNat * Ty.sz S e) news) := by
            have hr := run_clear (P := P) (w := w) (ty := o.type) hP ht (ad := ad) (n := m.toNat) (cap := cap) (b := (μ b).b) (o' := (μ b).o + i.toNat * Ty.sz S e) (news := news) (te := te) (ie := ie) (z := z) (had.imp (fun h0 => ⟨h0, List.length_eq_zero_iff.1 (by rw [hnl, h0, Nat.zero_mul])⟩) id) hu hzv hnews.symm hth2 hno
            rw [← hxe] at hr
            unfold execOp
            simp only [ho]
            simp [resolve, hc, hax, hat, invoke, builtin, hr]
           have hcl := cleared_len (Ty.zero S e) l him hi0 hm0
           have hI := h.write (B' := .arr e (cleared (Ty.zero S e) l i m)) hb hlive (fun _ e => nomatch e) (o' := (μ b).o + i.toNat * Ty.sz S e) (vals := news) (by omega) (by omega) ⟨rfl, rfl, hcl⟩ (fun hl hRV => ⟨b1, b2, by rw [hcl]; exact b3, there_set hth hth2, ?_⟩) (fun ws hws => by rcases hws with hws | hws <;> cases hws)
           · unfold Oper.wp
             rw [hrun]
             refine hK _ _ μ (hI.put hd (V := .tup []) (v := .tuple #[]) ⟨#[], rfl, rfl⟩ (by simp [idsOf])) ?_
             cases o.dst <;> simp [Act.put]
           · have hpl : (List.take i.toNat l).length = i.toNat := by rw [List.length_take]; omega
             unfold cleared
             refine append_range (append_range (fun k x hk => ?_) ?_) (fun k x hk => ?_)
             · rw [List.getElem?_take] at hk
               split at hk
               · rename_i hkn
                 obtain ⟨ds, d1, d2, q, d3⟩ := b5 k x hk
                 refine ⟨ds, d1, range_out d2 (.inr (.inl ?_)), q, d3.mono S hl (Nat.le_refl _)⟩
                 have : (k + 1) * Ty.sz S e ≤ i.toNat * Ty.sz S e := Nat.mul_le_mul_right _ (by omega)
                 rw [Nat.add_mul, Nat.one_mul] at this
                 omega
               · cases hk
             · rw [hpl]
               exact (hchunk.later hl).row (range_in hth2)
             · rw [List.getElem?_drop] at hk
               obtain ⟨ds, d1, d2, q, d3⟩ := b5 _ x hk
               rw [List.length_append, hpl, List.length_replicate, Nat.add_assoc, ← Nat.add_mul]
               have him2 : (i + m).toNat = i.toNat + m.toNat := by omega
               rw [him2] at d2
               refine ⟨ds, d1, range_out d2 (.inr (.inr ?_)), q, d3.mono S hl (Nat.le_refl _)⟩
               have : (i.toNat + m.toNat) * Ty.sz S e ≤ (i.toNat + m.toNat + k) * Ty.sz S e := Nat.mul_le_mul_right _ (by omega)
               omega
         · exact hl.elim
       · exact hl.elim
     · exact hl.elim
   · exact hl.elim
 · exact hl.elim
end
end Go.Sy
namespace Go.Sy
section
variable {P : Program} {S : Sen} {byt : Nat → Nat}
theorem CKsRel.length {w : World} {s : St} : ∀ {M : St} {cs : List CK} {x : CKs S.C cs} {vs : List Value}, CKsRel S w s M cs x vs → vs.length = CK.szs S cs
 | _, [], _, _, h => by rw [h.2]; rfl
 | _, c :: cs, _, _, ⟨M1, M2, v1, v2, h1, h2, h3, h4, h5⟩ => by subst h2; rw [List.length_append, h3, CKsRel.length h5]; rfl
theorem obj_put (hS : SenOk S) {w : World} {s M : St} (bid id : Nat) {cs : List CK} {x : CKs S.C cs} {v : Value} (hne : ∀ i, id ≤ i → i < (mkCKs S id cs x).2.2 → i ≠ bid) (L : Loc) (hv : v = .pointer (some ⟨L.b, L.o, none⟩)) (hn : L.n = CK.szs S cs)
 (h : ObjRel S w s M cs x v) :
 ∃ lam, lam bid = L ∧ id ≤ (mkCKs S id cs x).2.2 ∧ Give P S w s (fun i => i = bid ∨ (id ≤ i ∧ i < (mkCKs S id cs x).2.2)) ((bid, .cells (mkCKs S id cs x).1) :: (mkCKs S id cs x).2.1) lam M := by
 obtain ⟨b, o, ds, M', hv', hth, hra, hM, hcs⟩ := h
 rw [hv'] at hv
 cases hv
 obtain ⟨le, l2, g2, s2, r2, rv2⟩ := mkCKs_ok (P := P) hS cs id hcs
 have hlen := CKsRel.length hcs
 have hne : ∀ u ∈ (mkCKs S id cs x).2.1, u.1 ≠ bid := fun u hu => hne _ (g2.rng u hu).1 (g2.rng u hu).2
 let lam : Nat → Loc := fun i => if i = bid then L else l2 i
 have e1 : lam bid = L := if_pos rfl
 have e2 : ∀ u ∈ (mkCKs S id cs x).2.1, lam u.1 = l2 u.1 := fun u hu => if_neg (hne u hu)
 have hag : ∀ μ bx, Agree ((bid, .cells (mkCKs S id cs x).1) :: (mkCKs S id cs x).2.1) lam μ bx → Agree (mkCKs S id cs x).2.1 l2 μ bx :=
  fun μ bx h u hu => ⟨(h u (by simp [hu])).1, (h u (by simp [hu])).2.trans (e2 u hu)⟩
 refine ⟨lam, e1, le, ⟨?_, ?_, ?_, ?_, ?_, ?_, ?_⟩⟩
 · intro u hu
   rcases List.mem_cons.1 hu with rfl | hu
   · exact .inl rfl
   · exact .inr (g2.rng u hu)
 · intro u hu u' hu' he
   rcases List.mem_cons.1 hu with rfl | hu <;> rcases List.mem_cons.1 hu' with rfl | hu'
   · rfl
   · exact absurd he.symm (hne u' hu')
   · exact absurd he (hne u hu)
   · exact g2.one u hu u' hu' he
 · intro μ bx ha u hu
   rcases List.mem_cons.1 hu with rfl | hu
   · show RB P S w s μ bx (lam bid) (.cells _)
     rw [e1]
     have hr := rv2 μ bx (hag μ bx ha)
     exact ⟨s2, by rw [hn, ← hlen]; exact RVs.length P S hr, by rw [hn, ← hlen]; exact hth, ds, hra, hr⟩
   · rw [e2 u hu]
     exact g2.rb μ bx (hag μ bx ha) u hu
 · intro bx u hu hb
   rcases List.mem_cons.1 hu with rfl | hu
   · unfold live; rw [hb]; trivial
   · exact g2.lv bx u hu hb
 · intro b' o'
   rw [hM.1 b' o', g2.foot]
   constructor
   · rintro (h | ⟨u, hu, hf⟩)
     · refine ⟨_, List.mem_cons_self, ?_⟩
       show (lam bid).foot b' o'
       rw [e1]; exact ⟨h.1, h.2.1, by rw [hn, ← hlen]; exact h.2.2⟩
     · exact ⟨u, by simp [hu], by rw [e2 u hu]; exact hf⟩
   · rintro ⟨u, hu, hf⟩
     rcases List.mem_cons.1 hu with rfl | hu
     · have hf : (lam bid).foot b' o' := hf
       rw [e1] at hf; exact .inl ⟨hf.1, hf.2.1, by rw [hlen, ← hn]; exact hf.2.2⟩
     · rw [e2 u hu] at hf; exact .inr ⟨u, hu, hf⟩
 · intro u hu u' hu' hn' b' o' hf hf'
   rcases List.mem_cons.1 hu with rfl | hu <;> rcases List.mem_cons.1 hu' with rfl | hu'
   · exact hn' rfl
   · have hf : (lam bid).foot b' o' := hf
     rw [e1] at hf; rw [e2 u' hu'] at hf'
     exact hM.2 b' o' ⟨hf.1, hf.2.1, by rw [hlen, ← hn]; exact hf.2.2⟩ ((g2.foot b' o').2 ⟨u', hu', hf'⟩)
   · have hf' : (lam bid).foot b' o' := hf'
     rw [e1] at hf'; rw [e2 u hu] at hf
     exact hM.2 b' o' ⟨hf'.1, hf'.2.1, by rw [hlen, ← hn]; exact hf'.2.2⟩ ((g2.foot b' o').2 ⟨u, hu, hf⟩)
   · rw [e2 u hu] at hf; rw [e2 u' hu'] at hf'
     exact g2.dis u hu u' hu' hn' b' o' hf hf'
 · intro u hu vs hvs v hv j hj
   rcases List.mem_cons.1 hu with rfl | hu
   · rcases hvs with hvs | hvs
     · cases hvs
       obtain ⟨u', hu', he⟩ := r2 v hv j hj
       exact ⟨u', by simp [hu'], he⟩
     · cases hvs
   · obtain ⟨u', hu', he⟩ := g2.ref u hu vs hvs v hv j hj
     exact ⟨u', by simp [hu'], he⟩
theorem mkK_ok (hS : SenOk S) {w : World} {s M : St} (id : Nat) {k : K} {x : k.den S.C} {v : Value} (h : KRel P S w s M k x v) {κ : Sy.V S.C × Ups S.C × Nat → Tr (Sy.V S.C × Ups S.C)} {p : Sy.V S.C × Ups S.C} (hl : (mkK S id k x κ).leaf p) :
 ∃ q, (κ q).leaf p ∧ id ≤ q.2.2 ∧ q.2.2 ≤ id + idsIn k ∧ ∃ lam, Give P S w s (fun i => id ≤ i ∧ i < q.2.2) q.2.1 lam M ∧ (∀ j ∈ ids1 S q.1, ∃ u ∈ q.2.1, u.1 = j) ∧
  ∀ μ bx, Agree q.2.1 lam μ bx → RV1 P S w s μ bx q.1 v := by
 have triv : ∀ (M : St) (n : Nat), NoSt M → Give P S w s (fun i => n ≤ i ∧ i < n) ([] : Ups S.C) (fun _ => ⟨0, 0, 0, 0, true⟩) M := fun M n hM => Give.nil hM _
 have obj : ∀ (cs : List CK) (y : CKs S.C cs), ObjRel S w s M cs y v → (κ (.ptr id 0, (id, .cells (mkCKs S (id + 1) cs y).1) :: (mkCKs S (id + 1) cs y).2.1, (mkCKs S (id + 1) cs y).2.2)).leaf p →
  ∃ q, (κ q).leaf p ∧ id ≤ q.2.2 ∧ q.2.2 ≤ id + (1 + cs.foldl oneMore 0) ∧ ∃ lam, Give P S w s (fun i => id ≤ i ∧ i < q.2.2) q.2.1 lam M ∧ (∀ j ∈ ids1 S q.1, ∃ u ∈ q.2.1, u.1 = j) ∧
  ∀ μ bx, Agree q.2.1 lam μ bx → RV1 P S w s μ bx q.1 v := by
  intro cs y hy hl
  obtain ⟨lam, g, le, rv⟩ := obj_give (P := P) hS id hy
  refine ⟨_, hl, Nat.le_of_lt le, ?_, lam, g, fun j hj => ?_, rv⟩
  · have := idsIn_mk cs (id + 1) y 0
    show (mkCKs S (id + 1) cs y).2.2 ≤ _
    omega
  · simp [ids1] at hj
    subst hj
    exact ⟨_, List.mem_cons_self, rfl⟩
 cases k with
 | val c =>
  obtain ⟨h1, h2⟩ := h
  cases c with
  | data t =>
   obtain ⟨hM, n, hn⟩ := h1
   exact ⟨_, hl, Nat.le_refl _, Nat.le_refl _, _, triv M id hM, fun j hj => by simp [ids1] at hj, fun μ bx _ => ⟨h2, n, hn⟩⟩
  | town e =>
   obtain ⟨le, lam, g, s1, r1, rv⟩ := mkCK_ok (P := P) hS id h1
   refine ⟨_, hl, Nat.le_succ _, Nat.le_refl _, lam, g, fun j hj => r1 (.town id e x) (by simp [mkCK]) j hj, fun μ bx ha => ?_⟩
   obtain ⟨c, r, hc, hv, hr⟩ := rv μ bx ha
   cases hr
   rw [cells_one hc h2]
   exact hv
  | marr e =>
   obtain ⟨le, lam, g, s1, r1, rv⟩ := mkCK_ok (P := P) hS id h1
   refine ⟨_, hl, Nat.le_succ _, Nat.le_refl _, lam, g, fun j hj => r1 (.marr id) (by simp [mkCK]) j hj, fun μ bx ha => ?_⟩
   obtain ⟨c, r, hc, hv, hr⟩ := rv μ bx ha
   cases hr
   rw [cells_one hc h2]
   exact hv
 | obj cs => exact obj cs x h hl
 | opt cs =>
  rcases hl with ⟨hx, hl⟩ | ⟨y, hx, hl⟩
  · subst hx
    exact ⟨_, hl, Nat.le_refl _, Nat.le_add_right _ _, _, triv M id h.1, fun j hj => by simp [ids1] at hj, fun μ bx _ => h.2⟩
  · subst hx
    exact obj cs y h hl
 | robj t cs => exact hl.elim
 | err => exact ⟨_, hl, Nat.le_refl _, Nat.le_refl _, _, triv M id h.1, fun j hj => by simp [ids1] at hj, fun μ bx _ => h.2⟩
 | bld =>
  have h : BldRel S w M x v := h
  obtain ⟨b, R, hb, _⟩ := Iff.mp Iff.rfl h
  obtain ⟨lam, e, g⟩ := bld_give (P := P) (s := s) id (id + 1) (by omega) ⟨b, 0, 2, 0, false⟩ rfl rfl hb h
  refine ⟨_, hl, by show id ≤ id + 2; omega, Nat.le_refl _, lam, g.weaken fun i hi => by show id ≤ i ∧ i < id + 2; omega, fun j hj => ?_, fun μ bx ha => ?_⟩
  · simp [ids1] at hj
    subst hj
    exact ⟨_, List.mem_cons_self, rfl⟩
  · have a1 := (ha (id, .bld (id + 1)) (by simp)).2
    show v = .pointer (some ⟨(μ id).b, (μ id).o + 0, none⟩)
    rw [hb, show μ id = lam id from a1, e]
 | nil => exact ⟨_, hl, Nat.le_refl _, Nat.le_refl _, _, triv M id h.1, fun j hj => by simp [ids1] at hj, fun μ bx _ => h.2⟩
 | ro t => exact ⟨_, hl, Nat.le_refl _, Nat.le_refl _, _, triv M id h.1, fun j hj => by simp [ids1] at hj, fun μ bx _ => h.2⟩
 | fn a r => exact ⟨_, hl, Nat.le_refl _, Nat.le_refl _, _, triv M id h.1, fun j hj => by simp [ids1] at hj, fun μ bx _ => h.2⟩
 | csl cs =>
  obtain ⟨p', hv, h⟩ := h
  obtain ⟨lam, g, le, rv⟩ := obj_give (P := P) hS id h
  refine ⟨_, hl, Nat.le_of_lt le, ?_, lam, g, fun j hj => ?_, fun μ bx ha => ?_⟩
  · have := idsIn_mk cs (id + 1) x 0
    show (mkCKs S (id + 1) cs x).2.2 ≤ id + (1 + cs.foldl oneMore 0)
    omega
  · simp [ids1] at hj
    subst hj
    exact ⟨_, List.mem_cons_self, rfl⟩
  · have : Value.pointer (some p') = .pointer (some ⟨(μ id).b, (μ id).o + 0, none⟩) := rv μ bx ha
    show v = .slice (some ⟨(μ id).b, (μ id).o, none⟩) (CK.szs S cs) (CK.szs S cs)
    rw [hv]
    cases this
    rfl
theorem mkRes_ok (hS : SenOk S) {w : World} {s : St} {os : List K} : ∀ (rs : List K) {M : St} (id : Nat) {r : Ks S.C (rs ++ os)} {vs : List Value} {κ : List (Sy.V S.C) × Ups S.C × Nat → Rt S} {p : Sy.V S.C × Ups S.C},
 KsRel P S w s M (rs ++ os) r vs → (mkRes S id rs (splitKs S rs os r).1 κ).leaf p →
 ∃ q M1 M2 us ws, (κ q).leaf p ∧ vs = us ++ ws ∧ SplitSt M M1 M2 ∧ KsRel P S w s M2 os (splitKs S rs os r).2 ws ∧ id ≤ q.2.2 ∧ q.2.2 ≤ id + idSum rs ∧
  ∃ lam, Give P S w s (fun i => id ≤ i ∧ i < q.2.2) q.2.1 lam M1 ∧ (∀ v ∈ q.1, ∀ j ∈ ids1 S v, ∃ u ∈ q.2.1, u.1 = j) ∧ ∀ μ bx, Agree q.2.1 lam μ bx → RVs P S w s μ bx q.1 us
 | [], M, id, r, vs, κ, p, h, hl => ⟨_, fun _ _ => False, M, [], vs, hl, rfl, ⟨fun b o => by simp, fun _ _ h => h.elim⟩, h, Nat.le_refl _, Nat.le_refl _, fun _ => ⟨0, 0, 0, 0, true⟩, Give.nil (fun _ _ h => h) _, by simp, fun _ _ _ => rfl⟩
 | k :: rs, M, id, r, vs, κ, p, ⟨M1, M2, v, vr, hM, hvs, h1, h2⟩, hl => by
  have e1 : (splitKs S (k :: rs) os r).1 = Ks.cons (Ks.head r) (splitKs S rs os (Ks.tail r)).1 := rfl
  have e2 : (splitKs S (k :: rs) os r).2 = (splitKs S rs os (Ks.tail r)).2 := rfl
  rw [e1] at hl
  simp only [mkRes] at hl
  rw [show Ks.head (Ks.cons (Ks.head r) (splitKs S rs os (Ks.tail r)).1) = Ks.head (t := k) (ts := rs ++ os) r from by cases rs <;> rfl,
   show Ks.tail (Ks.cons (Ks.head r) (splitKs S rs os (Ks.tail r)).1) = (splitKs S rs os (Ks.tail r)).1 from by cases rs <;> rfl] at hl
  obtain ⟨q1, hl1, a1, a2, l1, g1, r1, rv1⟩ := mkK_ok (P := P) hS id h1 hl
  obtain ⟨q2, N1, N2, us, ws, hl2, b1, b2, b3, b4, b5, l2, g2, r2, rv2⟩ := mkRes_ok hS rs q1.2.2 h2 hl1
  have hsp : SplitSt (fun b o => M1 b o ∨ N1 b o) M1 N1 := ⟨fun _ _ => Iff.rfl, fun b o x y => hM.2 b o x (b2.left y)⟩
  obtain ⟨g, hag⟩ := Give.both g1 g2 (fun i hi hi' => by omega) hsp
  refine ⟨_, fun b o => M1 b o ∨ N1 b o, N2, v :: us, ws, hl2, by rw [hvs, b1]; rfl, ⟨fun b o => ?_, fun b o x y => ?_⟩, by rw [e2]; exact b3, Nat.le_trans a1 b4, ?_, _, g.weaken (fun i hi => ?_), fun v' hv' j hj => ?_, fun μ bx ha => ?_⟩
  · rw [hM.1, b2.1, or_assoc]
  · rcases x with x | x
    · exact hM.2 b o x (b2.right y)
    · exact b2.2 b o x y
  · show q2.2.2 ≤ id + (idsIn k + idSum rs)
    omega
  · show id ≤ i ∧ i < q2.2.2
    omega
  · rcases List.mem_cons.1 hv' with rfl | hv'
    · obtain ⟨u, hu, he⟩ := r1 j hj; exact ⟨u, List.mem_append.2 (.inl hu), he⟩
    · obtain ⟨u, hu, he⟩ := r2 v' hv' j hj; exact ⟨u, List.mem_append.2 (.inr hu), he⟩
  · obtain ⟨h3, h4⟩ := hag μ bx ha
    exact ⟨v, us, rfl, rv1 μ bx h3, rv2 μ bx h4⟩
end
end Go.Sy
namespace Go.Sy
section
variable {P : Program} {S : Sen} {byt : Nat → Nat}
def outArgs : List K → List Value → List Value
 | [], _ => []
 | _ :: _, [] => []
 | k :: ks, v :: vs => match k with
  | .obj _ | .bld | .robj _ _ => v :: outArgs ks vs
  | .val _ | .opt _ | .nil | .ro _ | .fn _ _ | .csl _ | .err => outArgs ks vs
def RoutOk (S : Sen) (μ : Nat → Loc) (w : World) (s : St) (t : Ty) (cs : List CK) (V : Sy.V S.C) (v : Value) : Prop :=
 ∃ b c kb q, V = .split b c ∧ v = .pointer (some ⟨kb, q, none⟩) ∧ (μ b).b = kb ∧ (μ b).o = q + 1 ∧ (μ b).n = CK.szs S cs ∧ (μ c).n = CK.szs S [.data t] ∧ s kb q ∧ w.cell? ⟨kb, q, none⟩ = some (.pointer (some ⟨(μ c).b, (μ c).o, none⟩))
def OutOk (S : Sen) (μ : Nat → Loc) (w : World) (s : St) : List K → List (Sy.V S.C) → List Value → Prop
 | [], _, _ => True
 | k :: ks, V :: Vs, v :: vs => (∀ t cs, k = .robj t cs → RoutOk S μ w s t cs V v) ∧ (∀ cs, k = .obj cs → ∃ b, V = .ptr b 0 ∧ v = .pointer (some ⟨(μ b).b, (μ b).o, none⟩) ∧ (μ b).n = CK.szs S cs) ∧ (k = .bld → ∃ b, V = .ptr b 0 ∧ v = .pointer (some ⟨(μ b).b, (μ b).o, none⟩) ∧ (μ b).o = 0 ∧ (μ b).n = 2) ∧ OutOk S μ w s ks Vs vs
 | _ :: _, _, _ => False
theorem OutOk.later {μ : Nat → Loc} {w w' : World} {s : St} (h : ∀ b o, s b o → w'.cell? ⟨b, o, none⟩ = w.cell? ⟨b, o, none⟩) : ∀ {ks : List K} {Vs : List (Sy.V S.C)} {vs : List Value}, OutOk S μ w s ks Vs vs → OutOk S μ w' s ks Vs vs
 | [], _, _, _ => trivial
 | _ :: _, [], _, h1 => h1.elim
 | _ :: _, _ :: _, [], h1 => h1.elim
 | k :: ks, V :: Vs, v :: vs, ⟨h0, h1, h2, h3⟩ => ⟨fun t cs e => by
  obtain ⟨b, c, kb, q, e1, e2, e3, e4, e5, e6, e7, e8⟩ := h0 t cs e
  exact ⟨b, c, kb, q, e1, e2, e3, e4, e5, e6, e7, (h kb q e7).trans e8⟩, h1, h2, OutOk.later h h3⟩
theorem hd_live {bx : Bx S.C} {b : Nat} {B : Box S.C} (h : isHd S B) (hb : bx b = some B) : live S bx b := by
 unfold live
 rw [hb]
 cases B <;> first | exact h.elim | trivial
theorem outV_obj {cs : List CK} {ks : List K} {b off : Nat} {Vs : List (Sy.V S.C)} : outV S (.obj cs :: ks) (.ptr b off :: Vs) = b :: outV S ks Vs := rfl
theorem outV_skip {k : K} {ks : List K} {V : Sy.V S.C} {Vs : List (Sy.V S.C)} (h : ∀ cs, k ≠ .obj cs) (h' : k ≠ .bld) (h'' : ∀ t cs, k ≠ .robj t cs) : outV S (k :: ks) (V :: Vs) = outV S ks Vs := by
 cases k <;> first | rfl | exact absurd rfl (h _) | exact absurd rfl h' | exact absurd rfl (h'' _ _)
theorem outs_skip {k : K} {ks : List K} (h : ∀ cs, k ≠ .obj cs) (h' : k ≠ .bld) (h'' : ∀ t cs, k ≠ .robj t cs) : outs (k :: ks) = outs ks := by
 cases k <;> first | rfl | exact absurd rfl (h _) | exact absurd rfl h' | exact absurd rfl (h'' _ _)
theorem outArgs_skip {k : K} {ks : List K} {v : Value} {vs : List Value} (h : ∀ cs, k ≠ .obj cs) (h' : k ≠ .bld) (h'' : ∀ t cs, k ≠ .robj t cs) : outArgs (k :: ks) (v :: vs) = outArgs ks vs := by
 cases k <;> first | rfl | exact absurd rfl (h _) | exact absurd rfl h' | exact absurd rfl (h'' _ _)
theorem idSum_cons {k : K} {ks : List K} : idSum (k :: ks) = idsIn k + idSum ks := rfl
theorem outs_ok (hS : SenOk S) {w : World} {s so : St} {μ : Nat → Loc} : ∀ (ps : List K) {M : St} (id : Nat) {Vs : List (Sy.V S.C)} {args : List Value} {x : Ks S.C (outs ps)}, OutOk S μ w so ps Vs args → (outV S ps Vs).Nodup →
 (∀ b ∈ outV S ps Vs, ∀ i, id ≤ i → i < id + idSum (outs ps) → i ≠ b) → KsRel P S w s M (outs ps) x (outArgs ps args) →
 ∃ lam, Give P S w s (fun i => i ∈ outV S ps Vs ∨ (id ≤ i ∧ i < id + idSum (outs ps))) (putOuts S id ps Vs x) lam M ∧ ∀ b ∈ outV S ps Vs, lam b = μ b ∧ ∃ B, isHd S B ∧ (b, B) ∈ putOuts S id ps Vs x
 | [], M, id, Vs, args, x, _, _, _, h => ⟨fun _ => ⟨0, 0, 0, 0, true⟩, by
  have : putOuts S id [] Vs x = [] := rfl
  rw [this]; exact Give.nil h.1 _, by intro b hb; cases Vs <;> simp [outV] at hb⟩
 | k :: ks, M, id, [], _, x, h, _, _, _ => h.elim
 | k :: ks, M, id, V :: Vs, [], x, h, _, _, _ => h.elim
 | k :: ks, M, id, V :: Vs, v :: args, x, ⟨h0r, h0, h0', h1⟩, hnd, hid, h => by
  by_cases hk : ∃ cs, k = .obj cs
  · obtain ⟨cs, rfl⟩ := hk
    obtain ⟨b, rfl, rfl, hn⟩ := h0 cs rfl
    rw [outV_obj] at hnd hid
    obtain ⟨M1, M2, v', r, hM, hvs, r1, r2⟩ := h
    cases hvs
    obtain ⟨hb, hnd'⟩ := List.nodup_cons.1 hnd
    have hsum : idSum (outs (.obj cs :: ks)) = 1 + cs.foldl oneMore 0 + idSum (outs ks) := rfl
    have hmk := idsIn_mk cs id (Ks.head (t := .obj cs) x) 0
    rw [hsum] at hid
    obtain ⟨l1, e1, le1, g1⟩ := obj_put (P := P) hS b id (cs := cs) (x := Ks.head (t := .obj cs) x) (fun i hi hi' => hid b (by simp) i hi (by omega)) (μ b) rfl hn r1
    obtain ⟨l2, g2, p2⟩ := outs_ok hS ks (mkCKs S id cs (Ks.head (t := .obj cs) x)).2.2 (x := Ks.tail (t := .obj cs) x) h1 hnd' (fun b' hb' i hi hi' => hid b' (by simp [hb']) i (by omega) (by omega)) r2
    obtain ⟨g, hag⟩ := Give.both g1 g2 (fun i hi hi' => by
     rcases hi with rfl | hi
     · rcases hi' with hi' | hi'
       · exact hb hi'
       · exact hid i (by simp) i (by omega) (by omega) rfl
     · rcases hi' with hi' | hi'
       · exact hid i (by simp [hi']) i (by omega) (by omega) rfl
       · omega) hM
    have hput : putOuts S id (.obj cs :: ks) (.ptr b 0 :: Vs) x = ((b, .cells (mkCKs S id cs (Ks.head (t := .obj cs) x)).1) :: (mkCKs S id cs (Ks.head (t := .obj cs) x)).2.1) ++ putOuts S (mkCKs S id cs (Ks.head (t := .obj cs) x)).2.2 ks Vs (Ks.tail (t := .obj cs) x) := rfl
    rw [hput]
    refine ⟨_, g.weaken fun i hi => ?_, fun b' hb' => ?_⟩
    · rw [outV_obj, hsum]
      rcases hi with (rfl | hi) | (hi | hi)
      · exact .inl (by simp)
      · exact .inr (by omega)
      · exact .inl (by simp [hi])
      · exact .inr (by omega)
    · rw [outV_obj] at hb'
      rcases List.mem_cons.1 hb' with rfl | hb'
      · refine ⟨?_, _, (by exact trivial), List.mem_append.2 (.inl List.mem_cons_self)⟩
        unfold both
        rw [if_pos (List.mem_map.2 ⟨_, List.mem_cons_self, rfl⟩)]
        exact e1
      · obtain ⟨p3, vs, p0, p4⟩ := p2 b' hb'
        refine ⟨?_, vs, p0, List.mem_append.2 (.inr p4)⟩
        unfold both
        rw [if_neg]
        · exact p3
        · intro hm
          obtain ⟨u, hu, he⟩ := List.mem_map.1 hm
          rcases g1.rng u hu with h | h
          · rw [he] at h; exact hb (h ▸ hb')
          · rw [he] at h; exact hid b' (by simp [hb']) b' (by omega) (by omega) rfl
  · have hk : ∀ cs, k ≠ .obj cs := fun cs e => hk ⟨cs, e⟩
    by_cases hkb : k = .bld
    · subst hkb
      obtain ⟨b, rfl, rfl, hn0, hn⟩ := h0' rfl
      have hov : outV S (.bld :: ks) (.ptr b 0 :: Vs) = b :: outV S ks Vs := rfl
      rw [hov] at hnd hid
      obtain ⟨M1, M2, v', r, hM, hvs, r1, r2⟩ := h
      cases hvs
      obtain ⟨hb, hnd'⟩ := List.nodup_cons.1 hnd
      have hsum : idSum (outs (.bld :: ks)) = 2 + idSum (outs ks) := rfl
      rw [hsum] at hid
      obtain ⟨l1, e1, g1⟩ := bld_give (P := P) (s := s) b id (fun e => hid b (by simp) id (Nat.le_refl _) (by omega) e) (μ b) hn0 hn (x := Ks.head (t := .bld) x) rfl r1
      obtain ⟨l2, g2, p2⟩ := outs_ok hS ks (id + 1) (x := Ks.tail (t := .bld) x) h1 hnd' (fun b' hb' i hi hi' => hid b' (by simp [hb']) i (by omega) (by omega)) r2
      obtain ⟨g, hag⟩ := Give.both g1 g2 (fun i hi hi' => by
       rcases hi with rfl | rfl
       · rcases hi' with hi' | hi'
         · exact hb hi'
         · exact hid i (by simp) i (by omega) (by omega) rfl
       · rcases hi' with hi' | hi'
         · exact hid i (by simp [hi']) i (by omega) (by omega) rfl
         · omega) hM
      have hput : putOuts S id (.bld :: ks) (.ptr b 0 :: Vs) x = [(b, .bld id), (id, .buf (Ks.head (t := .bld) x))] ++ putOuts S (id + 1) ks Vs (Ks.tail (t := .bld) x) := rfl
      rw [hput]
      refine ⟨_, g.weaken fun i hi => ?_, fun b' hb' => ?_⟩
      · rw [hov, hsum]
        rcases hi with (rfl | rfl) | (hi | hi)
        · exact .inl (by simp)
        · exact .inr (by omega)
        · exact .inl (by simp [hi])
        · exact .inr (by omega)
      · rw [hov] at hb'
        rcases List.mem_cons.1 hb' with rfl | hb'
        · refine ⟨?_, _, (by exact trivial), List.mem_append.2 (.inl List.mem_cons_self)⟩
          unfold both
          rw [if_pos (List.mem_map.2 ⟨_, List.mem_cons_self, rfl⟩)]
          exact e1
        · obtain ⟨p3, vs, p0, p4⟩ := p2 b' hb'
          refine ⟨?_, vs, p0, List.mem_append.2 (.inr p4)⟩
          unfold both
          rw [if_neg]
          · exact p3
          · intro hm
            obtain ⟨u, hu, he⟩ := List.mem_map.1 hm
            rcases g1.rng u hu with h | h
            · rw [he] at h; exact hb (h ▸ hb')
            · rw [he] at h; exact hid b' (by simp [hb']) b' (by omega) (by omega) rfl
    by_cases hkr : ∃ t cs, k = .robj t cs
    · obtain ⟨t, cs, rfl⟩ := hkr
      obtain ⟨b, c, kb, q, rfl, rfl, hb1, hb2, hbn, hcn, _, hcell⟩ := h0r t cs rfl
      have hov : outV S (.robj t cs :: ks) (.split b c :: Vs) = c :: b :: outV S ks Vs := rfl
      rw [hov] at hnd hid
      obtain ⟨M1, M2, v', r, hM, hvs, r1, r2⟩ := h
      cases hvs
      obtain ⟨b0, o0, p, Ma, Mb, q1, q2, q3, q4, q5⟩ := r1
      cases q1
      have hp : Value.pointer (some p) = .pointer (some ⟨(μ c).b, (μ c).o, none⟩) := by
       have := (q2 0 _ rfl).1
       rw [Nat.add_zero, hcell] at this
       exact (Option.some.inj this).symm
      obtain ⟨hcn', hnd'⟩ := List.nodup_cons.1 hnd
      obtain ⟨hbn', hnd''⟩ := List.nodup_cons.1 hnd'
      have hsum : idSum (outs (.robj t cs :: ks)) = 2 + cs.foldl oneMore 0 + idSum (outs ks) := rfl
      have hmk := idsIn_mk cs id (Ks.head (t := .robj t cs) x).2 0
      rw [hsum] at hid
      obtain ⟨l0, e0, le0, g0⟩ := obj_put (P := P) hS c id (cs := [.data t]) (x := (Ks.head (t := .robj t cs) x).1) (fun i hi hi' => hid c (by simp) i hi (by have : i < id := hi'; omega)) (μ c) hp hcn q4
      obtain ⟨l1, e1, le1, g1⟩ := obj_put (P := P) hS b id (cs := cs) (x := (Ks.head (t := .robj t cs) x).2) (fun i hi hi' => hid b (by simp) i hi (by omega)) (μ b) (by rw [hb1, hb2]) hbn q5
      obtain ⟨l2, g2, p2⟩ := outs_ok hS ks (mkCKs S id cs (Ks.head (t := .robj t cs) x).2).2.2 (x := Ks.tail (t := .robj t cs) x) h1 hnd'' (fun b' hb' i hi hi' => hid b' (by simp [hb']) i (by omega) (by omega)) r2
      obtain ⟨g01, hag01⟩ := Give.both g0 g1 (fun i hi hi' => by
       have hi : i = c := hi.elim (fun e => e) fun h => by
        have h1 : id ≤ i := h.1
        have h2 : i < id := h.2
        omega
       subst hi
       rcases hi' with hi' | hi'
       · subst hi'; exact hcn' (by simp)
       · exact hid i (by simp) i (by omega) (by omega) rfl) q3
      obtain ⟨g, hag⟩ := Give.both g01 g2 (fun i hi hi' => by
       rcases hi with (rfl | hi) | (rfl | hi)
       · rcases hi' with hi' | hi'
         · exact hcn' (by simp [hi'])
         · exact hid i (by simp) i (by omega) (by omega) rfl
       · have h1 : id ≤ i := hi.1
         have h2 : i < id := hi.2
         omega
       · rcases hi' with hi' | hi'
         · exact hbn' hi'
         · exact hid i (by simp) i (by omega) (by omega) rfl
       · rcases hi' with hi' | hi'
         · exact hid i (by simp [hi']) i (by omega) (by omega) rfl
         · omega) hM
      have hput : putOuts S id (.robj t cs :: ks) (.split b c :: Vs) x = (((c, .cells (mkCKs S id [.data t] (Ks.head (t := .robj t cs) x).1).1) :: (mkCKs S id [.data t] (Ks.head (t := .robj t cs) x).1).2.1) ++ ((b, .cells (mkCKs S id cs (Ks.head (t := .robj t cs) x).2).1) :: (mkCKs S id cs (Ks.head (t := .robj t cs) x).2).2.1)) ++ putOuts S (mkCKs S id cs (Ks.head (t := .robj t cs) x).2).2.2 ks Vs (Ks.tail (t := .robj t cs) x) := rfl
      rw [hput]
      refine ⟨_, g.weaken fun i hi => ?_, fun b' hb' => ?_⟩
      · rw [hov, hsum]
        rcases hi with ((rfl | hi) | (rfl | hi)) | (hi | hi)
        · exact .inl (by simp)
        · have h1 : id ≤ i := hi.1
          have h2 : i < id := hi.2
          omega
        · exact .inl (by simp)
        · exact .inr (by omega)
        · exact .inl (by simp [hi])
        · exact .inr (by omega)
      · rw [hov] at hb'
        have hin0 : ∀ (us1 us2 : Ups S.C) (la lb : Nat → Loc) (i : Nat) (B : Box S.C), (i, B) ∈ us1 → both us1 la lb i = la i := fun us1 us2 la lb i B hi => if_pos (List.mem_map.2 ⟨_, hi, rfl⟩)
        rcases List.mem_cons.1 hb' with rfl | hb'
        · refine ⟨?_, _, (by exact trivial), List.mem_append.2 (.inl (List.mem_append.2 (.inl List.mem_cons_self)))⟩
          unfold both
          rw [if_pos (List.mem_map.2 ⟨_, List.mem_append.2 (.inl List.mem_cons_self), rfl⟩), if_pos (List.mem_map.2 ⟨_, List.mem_cons_self, rfl⟩)]
          exact e0
        · rcases List.mem_cons.1 hb' with rfl | hb'
          · refine ⟨?_, _, (by exact trivial), List.mem_append.2 (.inl (List.mem_append.2 (.inr List.mem_cons_self)))⟩
            unfold both
            rw [if_pos (List.mem_map.2 ⟨_, List.mem_append.2 (.inr List.mem_cons_self), rfl⟩), if_neg]
            · exact e1
            · intro hm
              obtain ⟨u, hu, he⟩ := List.mem_map.1 hm
              rcases g0.rng u hu with h | h
              · rw [he] at h; exact hcn' (by rw [← h]; simp)
              · rw [he] at h
                have h1 : id ≤ b' := h.1
                have h2 : b' < id := h.2
                omega
          · obtain ⟨p3, vs, p0, p4⟩ := p2 b' hb'
            refine ⟨?_, vs, p0, List.mem_append.2 (.inr p4)⟩
            unfold both
            rw [if_neg]
            · exact p3
            · intro hm
              obtain ⟨u, hu, he⟩ := List.mem_map.1 hm
              rcases g01.rng u hu with (h | h) | (h | h)
              · rw [he] at h; exact hcn' (by rw [← h]; simp [hb'])
              · rw [he] at h
                have h1 : id ≤ b' := h.1
                have h2 : b' < id := h.2
                omega
              · rw [he] at h; exact hbn' (h ▸ hb')
              · rw [he] at h; exact hid b' (by simp [hb']) b' (by omega) (by omega) rfl
    have hkr : ∀ t cs, k ≠ .robj t cs := fun t cs e => hkr ⟨t, cs, e⟩
    rw [outV_skip hk hkb hkr] at hnd hid ⊢
    rw [outArgs_skip hk hkb hkr] at h
    cases k with
    | bld => exact absurd rfl hkb
    | obj cs => exact absurd rfl (hk cs)
    | robj t cs => exact absurd rfl (hkr t cs)
    | val c => exact outs_ok hS ks id h1 hnd hid h
    | opt cs => exact outs_ok hS ks id h1 hnd hid h
    | nil => exact outs_ok hS ks id h1 hnd hid h
    | ro t => exact outs_ok hS ks id h1 hnd hid h
    | fn a r => exact outs_ok hS ks id h1 hnd hid h
    | csl cs => exact outs_ok hS ks id h1 hnd hid h
    | err => exact outs_ok hS ks id h1 hnd hid h
theorem obj_dead {bx : Bx S.C} {b : Nat} {ws vs : List (Sy.V S.C)} {cs : List CK} {y' : CKs S.C cs} {u' : Ups S.C} (hb : bx b = some (.cells ws)) (hy' : takeCKs S (upd bx b (some .dead)) cs vs = some (y', u'))
 (k1 : Tk S bx (updates bx ((b, .dead) :: u'))) : updates bx ((b, .dead) :: u') b = some .dead := by
 have hpre : Tk S (upd bx b (some .dead)) (updates (upd bx b (some .dead)) u') := by
  intro i
  by_cases e : i = b
  · -- from the whole step
    subst e
    rcases k1 i with e1 | ⟨e1, _⟩ | ⟨e', l', e1, e2⟩
    · -- unchanged: then it was cells, but the parts' taking leaves cells alone
      exfalso
      rw [hb] at e1
      have : ∀ (cs : List CK) (bx : Bx S.C) (vs : List (Sy.V S.C)) (x : CKs S.C cs) (us : Ups S.C), takeCKs S bx cs vs = some (x, us) → ∀ u ∈ us, u.2 = .dead ∨ ∃ e l, u.2 = .farr e l := by
       intro cs
       induction cs with
       | nil => intro bx vs x us h; cases h; simp
       | cons c cs ih =>
        intro bx vs x us h
        simp only [takeCKs] at h
        obtain ⟨⟨p, q⟩, h1, h⟩ := Option.bind_eq_some_iff.1 h
        obtain ⟨⟨p', q'⟩, h2, h⟩ := Option.bind_eq_some_iff.1 h
        cases h
        intro u hu
        rcases List.mem_append.1 hu with hu | hu
        · cases c with
          | data t =>
           simp only [takeCK] at h1
           obtain ⟨z, _, h1⟩ := Option.bind_eq_some_iff.1 h1
           cases h1
           obtain ⟨v, _, hv⟩ := List.mem_flatMap.1 hu
           obtain ⟨e, l, he, _⟩ := FzUs.freeze1 bx v u hv
           exact .inr ⟨e, l, he⟩
          | town e =>
           simp only [takeCK] at h1
           split at h1
           · split at h1
             · obtain ⟨z, _, h1⟩ := Option.bind_eq_some_iff.1 h1
               cases h1
               simp at hu; subst hu; exact .inl rfl
             · cases h1
           · cases h1; simp at hu
           · cases h1
          | marr e =>
           simp only [takeCK] at h1
           split at h1
           · split at h1
             · obtain ⟨z, _, h1⟩ := Option.bind_eq_some_iff.1 h1
               cases h1
               simp at hu; subst hu; exact .inl rfl
             · cases h1
           · split at h1
             · obtain ⟨z, _, h1⟩ := Option.bind_eq_some_iff.1 h1
               cases h1
               simp at hu; subst hu; exact .inl rfl
             · cases h1
           · cases h1; simp at hu
           · cases h1
        · exact ih _ _ _ _ h2 u hu
      have hu' := this _ _ _ _ _ hy'
      have : ∀ (us : Ups S.C) (bx : Bx S.C), (∀ u ∈ us, u.2 = .dead ∨ ∃ e l, u.2 = .farr e l) → (∀ ws, bx i ≠ some (.cells ws)) → ∀ ws, updates bx us i ≠ some (.cells ws) := by
       intro us
       induction us with
       | nil => intro bx _ h; exact h
       | cons u us ih =>
        intro bx hu h
        refine ih _ (fun u' hu' => hu u' (by simp [hu'])) fun ws => ?_
        by_cases e : i = u.1
        · rw [e, upd_eq]
          rcases hu u (by simp) with h | ⟨_, _, h⟩ <;> rw [h] <;> simp
        · rw [upd_ne _ _ e]; exact h ws
      exact this u' (upd bx i (some .dead)) hu' (by intro ws; rw [upd_eq]; simp) _ e1
    · exact .inl (e1.trans (upd_eq _ _ _).symm)
    · rw [hb] at e1; cases e1
  · rcases k1 i with e1 | ⟨e1, h2⟩ | ⟨e', l', e1, e2⟩
    · exact .inl (e1.trans (upd_ne _ _ e).symm)
    · exact .inr (.inl ⟨e1, (live_of S (upd_ne _ _ e)).2 h2⟩)
    · exact .inr (.inr ⟨e', l', (upd_ne _ _ e).trans e1, e2⟩)
 exact dead_stays hpre (upd_eq _ _ _)
theorem takeObj_eq {fs : List (FEnt S)} {bx : Bx S.C} {cs : List CK} {b : Nat} : takeK S fs bx (.obj cs) (.ptr b 0) = takeObj S bx cs b := by
 simp only [takeK, takeObj]
 cases hb : bx b with
 | none => rfl
 | some B => cases B <;> rfl
theorem takeObj_dead {bx : Bx S.C} {cs : List CK} {b : Nat} {y : CKs S.C cs} {us : Ups S.C} (h : takeObj S bx cs b = some (y, us)) (hk : Tk S bx (updates bx us)) :
 (∃ ws, bx b = some (.cells ws) ∧ ws.length = CK.szs S cs) ∧ updates bx us b = some .dead := by
 unfold takeObj at h
 split at h
 · rename_i ws hb
   cases hw : Nat.beq ws.length (CK.szs S cs) with
   | false => rw [hw] at h; cases h
   | true =>
    rw [hw, cond_true] at h
    obtain ⟨⟨y', u'⟩, hy', h⟩ := Option.bind_eq_some_iff.1 h
    cases h
    exact ⟨⟨ws, hb, Nat.eq_of_beq_eq_true hw⟩, obj_dead hb hy' hk⟩
 · cases h
theorem takeKs_outs {env : Env S.C} {w : World} {s s' : St} {μ : Nat → Loc} {fs : List (FEnt S)} (hn : ∀ i B, env.bx i = some B → RB P S w s μ env.bx (μ i) B) :
 ∀ (ks : List K) {bx : Bx S.C} (hk : Tk S env.bx bx) (hks : ∀ (ks : List K) (bx : Bx S.C) (hk : Tk S env.bx bx) (Vs : List (Sy.V S.C)) (args : List Value) (x : Ks S.C ks) (us : Ups S.C), RVl P S w s' μ env.bx Vs args → takeKs S fs bx ks Vs = some (x, us) → Tk S bx (updates bx us))
  {Vs : List (Sy.V S.C)} {args : List Value} {x : Ks S.C ks} {us : Ups S.C}, RVl P S w s' μ env.bx Vs args → takeKs S fs bx ks Vs = some (x, us) →
 OutOk S μ w s' ks Vs args ∧ (outV S ks Vs).Nodup ∧ ∀ b ∈ outV S ks Vs, (∃ B, isHd S B ∧ bx b = some B) ∧ updates bx us b = some .dead
 | [], bx, hk, hks, [], args, x, us, h, hx => ⟨trivial, by simp [outV], by simp [outV]⟩
 | [], _, _, _, _ :: _, _, _, _, _, hx => by cases hx
 | _ :: _, _, _, _, [], _, _, _, _, hx => by cases hx
 | k :: ks, bx, hk, hks, V :: Vs, args, x, us, ⟨v, r, hargs, h1, h2⟩, hx => by
  subst hargs
  simp only [takeKs] at hx
  obtain ⟨⟨y, u1⟩, hy, hx⟩ := Option.bind_eq_some_iff.1 hx
  obtain ⟨⟨z, u2⟩, hz, hx⟩ := Option.bind_eq_some_iff.1 hx
  cases hx
  have hone : takeKs S fs bx [k] [V] = some (Ks.cons (t := k) (ts := []) y (), u1 ++ []) := by
   simp only [takeKs]
   rw [hy]; rfl
  have k1 := hks [k] bx hk [V] [v] _ _ ⟨v, [], rfl, h1, rfl⟩ hone
  rw [List.append_nil] at k1
  have k2 := hks ks _ (hk.trans S k1) Vs r _ _ h2 hz
  obtain ⟨o1, o2, o3⟩ := takeKs_outs hn ks (hk.trans S k1) hks h2 hz
  by_cases hobj : ∃ cs, k = .obj cs
  · obtain ⟨cs, rfl⟩ := hobj
    simp only [takeK] at hy
    split at hy
    · rename_i b off
      split at hy
      · rename_i ws hb
        cases hw : Nat.beq off 0 && Nat.beq ws.length (CK.szs S cs) with
        | false => rw [hw] at hy; cases hy
        | true =>
         rw [hw, cond_true] at hy
         rw [Bool.and_eq_true] at hw
         have w1 := Nat.eq_of_beq_eq_true hw.1
         have w2 := Nat.eq_of_beq_eq_true hw.2
         subst w1
         obtain ⟨⟨y', u'⟩, hy', hy⟩ := Option.bind_eq_some_iff.1 hy
         cases hy
         have hlb : live S bx b := by unfold live; rw [hb]; trivial
         have hb0 : env.bx b = some (.cells ws) := (hk.of_live hlb).symm.trans hb
         have hrb := hn b _ hb0
         have hdead : updates bx ((b, .dead) :: u') b = some .dead := obj_dead hb hy' k1
         have hv : v = .pointer (some ⟨(μ b).b, (μ b).o + 0, none⟩) := h1
         refine ⟨⟨(fun t' cs' e => nomatch e), fun cs' e => ?_, (fun e => nomatch e), o1⟩, ?_, ?_⟩
         · cases e
           exact ⟨b, rfl, hv, by rw [hrb.2.1, w2]⟩
         · rw [outV_obj]
           refine List.nodup_cons.2 ⟨fun hm => ?_, o2⟩
           obtain ⟨ws', hh, hw'⟩ := (o3 b hm).1
           rw [hdead] at hw'
           cases hw'
           exact hh
         · rw [outV_obj, updates_append]
           intro b' hb'
           rcases List.mem_cons.1 hb' with rfl | hb'
           · exact ⟨⟨_, (by exact trivial), hb⟩, dead_stays k2 hdead⟩
           · obtain ⟨⟨ws', hh, hw'⟩, h'⟩ := o3 b' hb'
             have hl' : live S (updates bx ((b, .dead) :: u')) b' := hd_live hh hw'
             exact ⟨⟨ws', hh, by rw [← k1.of_live hl']; exact hw'⟩, h'⟩
      · cases hy
    · cases hy
  · have hobj : ∀ cs, k ≠ .obj cs := fun cs e => hobj ⟨cs, e⟩
    by_cases hkb : k = .bld
    · subst hkb
      simp only [takeK] at hy
      split at hy
      · split at hy
        · split at hy
          · rename_i b off _ j hb _ l hj
            cases hw : Nat.beq off 0 with
            | false => rw [hw] at hy; cases hy
            | true =>
             rw [hw] at hy
             cases hy
             have ho := Nat.eq_of_beq_eq_true hw
             subst ho
             have hne : j ≠ b := fun e => by subst e; rw [hb] at hj; cases hj
             have hlb : live S bx b := by unfold live; rw [hb]; trivial
             have hb0 : env.bx b = some (.bld j) := (hk.of_live hlb).symm.trans hb
             have hrb := hn b _ hb0
             have hdead : updates bx [(b, .dead), (j, .dead)] b = some .dead := (upd_ne _ _ hne.symm).trans (upd_eq _ _ _)
             have hv : v = .pointer (some ⟨(μ b).b, (μ b).o + 0, none⟩) := h1
             have hov : outV S (.bld :: ks) (.ptr b 0 :: Vs) = b :: outV S ks Vs := rfl
             refine ⟨⟨(fun t' cs' e => nomatch e), (fun cs' e => nomatch e), fun _ => ⟨b, rfl, hv, hrb.1, hrb.2.1⟩, o1⟩, ?_, ?_⟩
             · rw [hov]
               refine List.nodup_cons.2 ⟨fun hm => ?_, o2⟩
               obtain ⟨ws', hh, hw'⟩ := (o3 b hm).1
               rw [hdead] at hw'
               cases hw'
               exact hh
             · rw [hov, updates_append]
               intro b' hb'
               rcases List.mem_cons.1 hb' with rfl | hb'
               · exact ⟨⟨_, (by exact trivial), hb⟩, dead_stays k2 hdead⟩
               · obtain ⟨⟨ws', hh, hw'⟩, h'⟩ := o3 b' hb'
                 have hl' : live S (updates bx [(b, .dead), (j, .dead)]) b' := hd_live hh hw'
                 exact ⟨⟨ws', hh, by rw [← k1.of_live hl']; exact hw'⟩, h'⟩
          · cases hy
        · cases hy
      · cases hy
    by_cases hkr : ∃ t cs, k = .robj t cs
    · obtain ⟨t, cs, rfl⟩ := hkr
      simp only [takeK] at hy
      split at hy
      · rename_i b c
        obtain ⟨⟨ya, ua⟩, hya, hy⟩ := Option.bind_eq_some_iff.1 hy
        obtain ⟨⟨yb, ub⟩, hyb, hy⟩ := Option.bind_eq_some_iff.1 hy
        cases hy
        dsimp only at hya hyb
        have hone1 : ∀ (bx : Bx S.C) (cs : List CK) (i : Nat) (y : CKs S.C cs) (u : Ups S.C), Tk S env.bx bx → takeObj S bx cs i = some (y, u) → Tk S bx (updates bx u) := fun bx cs i y u hk0 h0 => by
         have := hks [.obj cs] bx hk0 [.ptr i 0] [.pointer (some ⟨(μ i).b, (μ i).o + 0, none⟩)] (Ks.cons (t := .obj cs) (ts := []) y ()) (u ++ []) ⟨_, _, rfl, rfl, rfl⟩ (by
          simp only [takeKs]
          rw [takeObj_eq, h0]; rfl)
         rwa [List.append_nil] at this
        have ka := hone1 bx _ _ _ _ hk hya
        have kb' := hone1 _ _ _ _ _ (hk.trans S ka) hyb
        obtain ⟨⟨wa, hca, hla⟩, hda⟩ := takeObj_dead hya ka
        obtain ⟨⟨wb, hcb, hlb⟩, hdb⟩ := takeObj_dead hyb kb'
        have hlvb : live S (updates bx ua) b := by unfold live; rw [hcb]; trivial
        have hcb0 : bx b = some (.cells wb) := (ka.of_live hlvb).symm.trans hcb
        have hlvc : live S bx c := by unfold live; rw [hca]; trivial
        have hlvb0 : live S bx b := by unfold live; rw [hcb0]; trivial
        have hne : c ≠ b := fun e => by subst e; rw [hda] at hcb; cases hcb
        have hc0 : env.bx c = some (.cells wa) := (hk.of_live hlvc).symm.trans hca
        have hb0 : env.bx b = some (.cells wb) := (hk.of_live hlvb0).symm.trans hcb0
        obtain ⟨kb, q, e1, e2, e3, e4⟩ := h1
        have hat := e2 0 _ rfl
        rw [Nat.add_zero] at hat
        have hov : outV S (.robj t cs :: ks) (.split b c :: Vs) = c :: b :: outV S ks Vs := rfl
        have hdc2 : updates bx (ua ++ ub) c = some .dead := by rw [updates_append]; exact dead_stays kb' hda
        have hdb2 : updates bx (ua ++ ub) b = some .dead := by rw [updates_append]; exact hdb
        have hout : ∀ i ∈ outV S ks Vs, updates bx (ua ++ ub) i ≠ some .dead := fun i hi he => by
         obtain ⟨ws', hh, hw'⟩ := (o3 i hi).1
         rw [he] at hw'
         cases hw'
         exact hh
        refine ⟨⟨fun t' cs' e => ?_, (fun cs' e => nomatch e), (fun e => nomatch e), o1⟩, ?_, ?_⟩
        · cases e
          exact ⟨b, c, kb, q, rfl, e1, e3, e4, by rw [(hn b _ hb0).2.1, hlb], by rw [(hn c _ hc0).2.1, hla], hat.2, hat.1⟩
        · rw [hov]
          refine List.nodup_cons.2 ⟨fun hm => ?_, List.nodup_cons.2 ⟨fun hm => hout b hm hdb2, o2⟩⟩
          rcases List.mem_cons.1 hm with e | hm
          · exact hne e
          · exact hout c hm hdc2
        · rw [hov, updates_append]
          intro b' hb'
          rcases List.mem_cons.1 hb' with rfl | hb'
          · exact ⟨⟨_, (by exact trivial), hca⟩, dead_stays k2 hdc2⟩
          · rcases List.mem_cons.1 hb' with rfl | hb'
            · exact ⟨⟨_, (by exact trivial), hcb0⟩, dead_stays k2 hdb2⟩
            · obtain ⟨⟨ws', hh, hw'⟩, h'⟩ := o3 b' hb'
              have hl' : live S (updates bx (ua ++ ub)) b' := hd_live hh hw'
              exact ⟨⟨ws', hh, by rw [← k1.of_live hl']; exact hw'⟩, h'⟩
      · cases hy
    have hkr : ∀ t cs, k ≠ .robj t cs := fun t cs e => hkr ⟨t, cs, e⟩
    rw [outV_skip hobj hkb hkr, updates_append]
    refine ⟨⟨fun t cs e => absurd e (hkr t cs), fun cs e => absurd e (hobj cs), fun e => absurd e hkb, o1⟩, o2, fun b' hb' => ?_⟩
    obtain ⟨⟨ws', hh, hw'⟩, h'⟩ := o3 b' hb'
    have hl' : live S (updates bx u1) b' := hd_live hh hw'
    exact ⟨⟨ws', hh, by rw [← k1.of_live hl']; exact hw'⟩, h'⟩
end
end Go.Sy
namespace Go.Sy
section
variable {P : Program} {S : Sen} {byt : Nat → Nat}
variable {w0 : World} {M0 s0 : St} {dq : List Deferred} {env : Env S.C} {a : Act} {w : World} {μ : Nat → Loc}
theorem RV1.mono {w w' : World} {s s' : St} {μ : Nat → Loc} {bx : Bx S.C} (hl : Later w s w' s') {V : V S.C} {v : Value} (h : RV1 P S w s μ bx V v) : RV1 P S w' s' μ bx V v := by
 cases V with
 | d t x => exact RepV.mono S hl h
 | town b e l => exact ⟨RepV.mono S hl h.1, h.2⟩
 | fptr t x => exact PtrRel.mono S hl h
 | fv a r g => exact FnRel.mono P S hl h
 | split b c => obtain ⟨k, q, h1, h2, h3⟩ := h; exact ⟨k, q, h1, h2.later hl, h3⟩
 | pcell c => obtain ⟨k, q, h1, h2⟩ := h; exact ⟨k, q, h1, h2.later hl⟩
 | _ => exact h
theorem RVs.mono {w w' : World} {s s' : St} {μ : Nat → Loc} {bx : Bx S.C} (hl : Later w s w' s') : ∀ {vs : List (V S.C)} {cs : List Value}, RVs P S w s μ bx vs cs → RVs P S w' s' μ bx vs cs
 | [], _, h => h
 | _ :: _, _, ⟨c, r, h1, h2, h3⟩ => ⟨c, r, h1, h2.mono hl, RVs.mono hl h3⟩
theorem RB.mono {w : World} {s s' : St} {μ : Nat → Loc} {bx : Bx S.C} (hl : Later w s w s') {L : Loc} {B : Box S.C} (h : RB P S w s μ bx L B) : RB P S w s' μ bx L B := by
 cases B with
 | cells vs =>
  obtain ⟨h1, h2, h3, cs, h4, h5⟩ := h
  exact ⟨h1, h2, h3, cs, h4, h5.mono hl⟩
 | fcells vs =>
  obtain ⟨h1, cs, h4, h5⟩ := h
  exact ⟨h1, cs, h4.later hl, h5.mono hl⟩
 | arr e l =>
  obtain ⟨h1, h2, h3, h4, h5⟩ := h
  refine ⟨h1, h2, h3, h4, fun i x hi => ?_⟩
  obtain ⟨ds, d1, d2, n, d3⟩ := h5 i x hi
  exact ⟨ds, d1, d2, n, d3.mono S hl (Nat.le_refl _)⟩
 | farr e l =>
  obtain ⟨h2, h3, h5⟩ := h
  refine ⟨h2, h3, fun i x hi => ?_⟩
  obtain ⟨ds, d1, d2, n, d3⟩ := h5 i x hi
  exact ⟨ds, d1, d2.later hl, n, d3.mono S hl (Nat.le_refl _)⟩
 | tail => exact h
 | dead => trivial
 | bld j => exact h
 | buf l => exact h
def DF (us : Ups S.C) : Prop := ∀ u ∈ us, u.2 = .dead ∨ ∃ e l, u.2 = .farr e l
theorem DF.append {us vs : Ups S.C} (h : DF us) (h' : DF vs) : DF (us ++ vs) := fun u hu => (List.mem_append.1 hu).elim (h u) (h' u)
theorem DF.fz {bx : Bx S.C} {us : Ups S.C} (h : FzUs bx us) : DF us := fun u hu => by obtain ⟨e, l, he, _⟩ := h u hu; exact .inr ⟨e, l, he⟩
theorem DF.takeCK {bx : Bx S.C} {c : CK} {vs : List (Sy.V S.C)} {x : c.den S.C} {us : Ups S.C} (h1 : takeCK S bx c vs = some (x, us)) : DF us := by
 intro u hu
 cases c with
 | data t =>
  simp only [Sy.takeCK] at h1
  obtain ⟨z, _, h1⟩ := Option.bind_eq_some_iff.1 h1
  cases h1
  obtain ⟨v, _, hv⟩ := List.mem_flatMap.1 hu
  obtain ⟨e, l, he, _⟩ := FzUs.freeze1 bx v u hv
  exact .inr ⟨e, l, he⟩
 | town e =>
  simp only [Sy.takeCK] at h1
  split at h1
  · split at h1
    · obtain ⟨z, _, h1⟩ := Option.bind_eq_some_iff.1 h1
      cases h1
      simp at hu; subst hu; exact .inl rfl
    · cases h1
  · cases h1; simp at hu
  · cases h1
 | marr e =>
  simp only [Sy.takeCK] at h1
  split at h1
  · split at h1
    · obtain ⟨z, _, h1⟩ := Option.bind_eq_some_iff.1 h1
      cases h1
      simp at hu; subst hu; exact .inl rfl
    · cases h1
  · split at h1
    · obtain ⟨z, _, h1⟩ := Option.bind_eq_some_iff.1 h1
      cases h1
      simp at hu; subst hu; exact .inl rfl
    · cases h1
  · cases h1; simp at hu
  · cases h1
theorem DF.takeCKs : ∀ {cs : List CK} {bx : Bx S.C} {vs : List (Sy.V S.C)} {x : CKs S.C cs} {us : Ups S.C}, takeCKs S bx cs vs = some (x, us) → DF us
 | [], _, _, _, _, h => by cases h; intro u hu; simp at hu
 | c :: cs, bx, vs, x, us, h => by
  simp only [Sy.takeCKs] at h
  obtain ⟨⟨p, q⟩, h1, h⟩ := Option.bind_eq_some_iff.1 h
  obtain ⟨⟨p', q'⟩, h2, h⟩ := Option.bind_eq_some_iff.1 h
  cases h
  exact (DF.takeCK h1).append (DF.takeCKs h2)
theorem DF.takeObj {cs : List CK} {bx : Bx S.C} {b : Nat} {x : CKs S.C cs} {us : Ups S.C} (hx : takeObj S bx cs b = some (x, us)) : DF us := by
 unfold Sy.takeObj at hx
 split at hx
 · rename_i ws hb
   cases hw : Nat.beq ws.length (CK.szs S cs) with
   | false => rw [hw] at hx; cases hx
   | true =>
    rw [hw, cond_true] at hx
    obtain ⟨⟨y, u'⟩, hy, hx⟩ := Option.bind_eq_some_iff.1 hx
    cases hx
    intro u hu
    rcases List.mem_cons.1 hu with rfl | hu
    · exact .inl rfl
    · exact DF.takeCKs hy u hu
 · cases hx
theorem DF.takeK {fs : List (FEnt S)} {bx : Bx S.C} {k : K} {V : Sy.V S.C} {x : k.den S.C} {us : Ups S.C} (hx : takeK S fs bx k V = some (x, us)) : DF us := by
 have obj : ∀ (b : Nat) (us' : Ups S.C), DF us' → DF ((b, .dead) :: us') := fun b us' h u hu => by
  rcases List.mem_cons.1 hu with rfl | hu
  · exact .inl rfl
  · exact h u hu
 cases k with
 | val c =>
  cases c with
  | data t =>
   simp only [Sy.takeK] at hx
   obtain ⟨y, hy, hx⟩ := Option.bind_eq_some_iff.1 hx
   cases hx
   exact DF.fz (FzUs.freezes bx V)
  | town e => exact DF.takeCK (c := .town e) hx
  | marr e => exact DF.takeCK (c := .marr e) hx
 | obj ps =>
  simp only [Sy.takeK] at hx
  split at hx
  · split at hx
    · rename_i b off _ ws hb
      cases hw : Nat.beq off 0 && Nat.beq ws.length (CK.szs S ps) with
      | false => rw [hw] at hx; cases hx
      | true =>
       rw [hw, cond_true] at hx
       obtain ⟨⟨y, u'⟩, hy, hx⟩ := Option.bind_eq_some_iff.1 hx
       cases hx
       exact obj _ _ (DF.takeCKs hy)
    · cases hx
  · cases hx
 | robj t ps =>
  simp only [Sy.takeK] at hx
  split at hx
  · obtain ⟨⟨y, u1⟩, hy, hx⟩ := Option.bind_eq_some_iff.1 hx
    obtain ⟨⟨z, u2⟩, hz, hx⟩ := Option.bind_eq_some_iff.1 hx
    cases hx
    exact (DF.takeObj hy).append (DF.takeObj hz)
  · cases hx
 | opt ps =>
  simp only [Sy.takeK] at hx
  split at hx
  · cases hx; intro u hu; simp at hu
  · split at hx
    · rename_i b off _ ws hb
      cases hw : Nat.beq off 0 && Nat.beq ws.length (CK.szs S ps) with
      | false => rw [hw] at hx; cases hx
      | true =>
       rw [hw, cond_true] at hx
       obtain ⟨⟨y, u'⟩, hy, hx⟩ := Option.bind_eq_some_iff.1 hx
       cases hx
       exact obj _ _ (DF.takeCKs hy)
    · cases hx
  · cases hx
 | csl ps =>
  simp only [Sy.takeK] at hx
  split at hx
  · split at hx
    · rename_i b n _ ws hb
      cases hw : Nat.beq n ws.length && Nat.beq ws.length (CK.szs S ps) with
      | false => rw [hw] at hx; cases hx
      | true =>
       rw [hw, cond_true] at hx
       obtain ⟨⟨y, u'⟩, hy, hx⟩ := Option.bind_eq_some_iff.1 hx
       cases hx
       exact obj _ _ (DF.takeCKs hy)
    · cases hx
  · cases hx
 | err =>
  simp only [Sy.takeK] at hx
  split at hx
  · cases hx; intro u hu; simp at hu
  · cases hx
 | bld =>
  simp only [Sy.takeK] at hx
  split at hx
  · split at hx
    · split at hx
      · rename_i b off _ j hb _ l hj
        cases hw : Nat.beq off 0 with
        | false => rw [hw] at hx; cases hx
        | true =>
         rw [hw] at hx
         cases hx
         intro u hu
         simp only [List.mem_cons, List.not_mem_nil, or_false] at hu
         rcases hu with rfl | rfl <;> exact .inl rfl
      · cases hx
    · cases hx
  · cases hx
 | nil =>
  simp only [Sy.takeK] at hx
  split at hx
  · cases hx; intro u hu; simp at hu
  · cases hx
 | ro t =>
  simp only [Sy.takeK] at hx
  obtain ⟨y, hy, hx⟩ := Option.bind_eq_some_iff.1 hx
  cases hx; intro u hu; simp at hu
 | fn A R =>
  simp only [Sy.takeK] at hx
  obtain ⟨y, hy, hx⟩ := Option.bind_eq_some_iff.1 hx
  cases hx; intro u hu; simp at hu
theorem DF.takeKs {fs : List (FEnt S)} : ∀ {ks : List K} {bx : Bx S.C} {Vs : List (Sy.V S.C)} {x : Ks S.C ks} {us : Ups S.C}, takeKs S fs bx ks Vs = some (x, us) → DF us
 | [], _, [], _, _, h => by cases h; intro u hu; simp at hu
 | [], _, _ :: _, _, _, h => by cases h
 | _ :: _, _, [], _, _, h => by cases h
 | k :: ks, bx, V :: Vs, x, us, h => by
  simp only [Sy.takeKs] at h
  obtain ⟨⟨p, q⟩, h1, h⟩ := Option.bind_eq_some_iff.1 h
  obtain ⟨⟨p', q'⟩, h2, h⟩ := Option.bind_eq_some_iff.1 h
  cases h
  exact (DF.takeK h1).append (DF.takeKs h2)
theorem lasting_dead {i : Nat} : ∀ {us : Ups S.C} {bx bx2 : Bx S.C} (leak : Bool), (bx i = some .dead → bx2 i = some .dead) → updates bx us i = some .dead → updates bx2 (lasting S leak us) i = some .dead
 | [], bx, bx2, leak, h, hu => by
  have : lasting S leak ([] : Ups S.C) = [] := by cases leak <;> rfl
  rw [this]; exact h hu
 | u :: us, bx, bx2, true, h, hu => lasting_dead (us := us) (bx := upd bx u.1 (some u.2)) (bx2 := upd bx2 u.1 (some u.2)) true (fun hi => by
  by_cases e : i = u.1
  · rw [e, upd_eq] at hi ⊢; exact hi
  · rw [upd_ne _ _ e] at hi ⊢; exact h hi) hu
 | (k, B) :: us, bx, bx2, false, h, hu => by
  have keep : updates bx2 ((k, B) :: lasting S false us) i = some .dead := lasting_dead (us := us) (bx := upd bx k (some B)) (bx2 := upd bx2 k (some B)) false (fun hi => by
   by_cases e : i = k
   · rw [e, upd_eq] at hi ⊢; exact hi
   · rw [upd_ne _ _ e] at hi ⊢; exact h hi) hu
  cases B with
  | farr e l =>
   refine lasting_dead (us := us) (bx := upd bx k (some (.farr e l))) (bx2 := bx2) false (fun hi => ?_) hu
   by_cases e : i = k
   · rw [e, upd_eq] at hi
     cases hi
   · rw [upd_ne _ _ e] at hi; exact h hi
  | _ => exact keep
theorem updates_dead {i : Nat} : ∀ {us : Ups S.C} {bx : Bx S.C}, (∀ u ∈ us, u.2 = .dead) → updates bx us i = bx i ∨ updates bx us i = some .dead
 | [], _, _ => .inl rfl
 | u :: us, bx, h => by
  rcases updates_dead (us := us) (bx := upd bx u.1 (some u.2)) (fun v hv => h v (by simp [hv])) with h1 | h1
  · by_cases e : i = u.1
    · right; show updates (upd bx u.1 (some u.2)) us i = _
      rw [h1, e, upd_eq, h u (by simp)]
    · left; show updates (upd bx u.1 (some u.2)) us i = _
      rw [h1, upd_ne _ _ e]
  · exact .inr h1
theorem lasting_cases {us : Ups S.C} (h : DF us) (leak : Bool) (bx : Bx S.C) (i : Nat) :
 updates bx (lasting S leak us) i = bx i ∨ updates bx (lasting S leak us) i = some .dead ∨ (leak = true ∧ updates bx (lasting S leak us) i = updates bx us i) := by
 cases leak with
 | true => exact .inr (.inr ⟨rfl, rfl⟩)
 | false =>
  rcases updates_dead (i := i) (us := lasting S false us) (bx := bx) (fun u hu => by
   unfold lasting at hu
   rw [cond_false, List.mem_filter] at hu
   rcases h u hu.1 with h1 | ⟨e, l, h1⟩
   · exact h1
   · rw [h1] at hu; exact absurd hu.2 (by simp)) with h1 | h1
  · exact .inl h1
  · exact .inr (.inl h1)
theorem Inv.call (h : Inv P S w0 M0 s0 dq env a w μ) {us1 gs : Ups S.C} {leak : Bool} {M M' s' : St} {w' : World} {lam : Nat → Loc} {I : Nat → Prop} {heads : List Nat}
 (hdf : DF us1) (hk : Tk S env.bx (updates env.bx us1)) (hM : From S env μ env.bx (updates env.bx us1) M) (hw : Chg w w' M)
 (hs' : ∀ b o, s' b o → b < w'.heap.size ∧ ¬ M' b o ∧ (tak S w0 M0 s0 env.bx (updates env.bx us1) μ w b o ∨ M b o ∨ w.heap.size ≤ b))
 (hM' : ∀ b o, M' b o → M b o ∨ w.heap.size ≤ b) (hG : Give P S w' s' I gs lam M') (hI : ∀ i, I i → i ∈ heads ∨ env.bx i = none)
 (hh : ∀ b ∈ heads, (∃ B, isHd S B ∧ env.bx b = some B) ∧ lam b = μ b ∧ ∃ B, isHd S B ∧ (b, B) ∈ gs) (hl : leak = true ∨ ∀ b o, ¬ s' b o) :
 ∃ μ', Inv P S w0 M0 s0 dq { env with bx := updates env.bx (lasting S leak us1 ++ gs) } a w' μ' ∧ Later w' s' w' (stab S w0 M0 s0 (updates env.bx (lasting S leak us1 ++ gs)) μ' w') ∧
  Agree gs lam μ' (updates env.bx (lasting S leak us1 ++ gs)) := by
 rw [updates_append]
 generalize hbx1 : updates env.bx (lasting S leak us1) = bx1
 let μ' : Nat → Loc := fun i => if i ∈ gs.map (·.1) then lam i else μ i
 have hin : ∀ u ∈ gs, updates bx1 gs u.1 = some u.2 ∧ μ' u.1 = lam u.1 := fun u hu => ⟨updates_in gs bx1 hG.one u hu, if_pos (List.mem_map.2 ⟨u, hu, rfl⟩)⟩
 have hout : ∀ i, (∀ u ∈ gs, u.1 ≠ i) → updates bx1 gs i = bx1 i ∧ μ' i = μ i := fun i hi => ⟨updates_out gs bx1 hi, if_neg fun hm => by
  obtain ⟨u, hu, he⟩ := List.mem_map.1 hm; exact hi u hu he⟩
 have hb1 : ∀ i, bx1 i = env.bx i ∨ bx1 i = some .dead ∨ (leak = true ∧ bx1 i = updates env.bx us1 i) := fun i => by rw [← hbx1]; exact lasting_cases hdf leak env.bx i
 have hdead : ∀ i, updates env.bx us1 i = some .dead → bx1 i = some .dead := fun i hi => by rw [← hbx1]; exact lasting_dead leak (fun h => h) hi
 have hlv : ∀ i, live S bx1 i → bx1 i = env.bx i ∧ live S env.bx i := fun i hi => by
  have h1 : bx1 i = env.bx i := by
   rcases hb1 i with h1 | h1 | ⟨_, h1⟩
   · exact h1
   · unfold live at hi; rw [h1] at hi; exact hi.elim
   · rw [h1]; exact hk.of_live ((live_of S h1).1 hi)
  exact ⟨h1, (live_of S h1).1 hi⟩
 let U : Nat → Prop := fun i => (∃ u ∈ gs, u.1 = i) ∨ bx1 i ≠ env.bx i
 have hMd : ∀ b o, M b o → ∃ i, live S env.bx i ∧ bx1 i = some .dead ∧ (μ i).foot b o := fun b o hm => by
  obtain ⟨i, h1, _, h3, h4⟩ := hM b o hm
  exact ⟨i, h1, hdead i h3, h4⟩
 have hUd : ∀ i, live S env.bx i → bx1 i = some .dead → U i := fun i h1 h2 => .inr fun e => by
  unfold live at h1; rw [← e, h2] at h1; exact h1
 have hT : ∀ b o, M b o → b < w.heap.size → ∃ i, U i ∧ live S env.bx i ∧ (μ i).foot b o := fun b o hm _ => by
  obtain ⟨i, h1, h2, h3⟩ := hMd b o hm
  exact ⟨i, hUd i h1 h2, h1, h3⟩
 have hU : ∀ i, ¬ U i → updates bx1 gs i = env.bx i ∧ μ' i = μ i := fun i hi => by
  obtain ⟨h1, h2⟩ := hout i fun u hu e => hi (.inl ⟨u, hu, e⟩)
  exact ⟨h1.trans (Classical.not_not.1 fun e => hi (.inr e)), h2⟩
 have hgl : ∀ i, live S (updates bx1 gs) i → (∃ u ∈ gs, u.1 = i ∧ μ' i = lam u.1) ∨ (bx1 i = env.bx i ∧ live S env.bx i ∧ μ' i = μ i ∧ updates bx1 gs i = bx1 i) := fun i hi => by
  by_cases hg : ∃ u ∈ gs, u.1 = i
  · obtain ⟨u, hu, rfl⟩ := hg
    exact .inl ⟨u, hu, rfl, (hin u hu).2⟩
  · obtain ⟨h1, h2⟩ := hout i fun u hu e => hg ⟨u, hu, e⟩
    obtain ⟨h3, h4⟩ := hlv i ((live_of S h1).1 hi)
    exact .inr ⟨h3, h4, h2, h1⟩
 have hgf : ∀ u ∈ gs, ∀ b o, (lam u.1).foot b o → M' b o := fun u hu b o hf => (hG.foot b o).2 ⟨u, hu, hf⟩
 have hf : ∀ i, U i → live S (updates bx1 gs) i → ∀ b o, (μ' i).foot b o → w.heap.size ≤ b ∨ ∃ j, U j ∧ live S env.bx j ∧ (μ j).foot b o := by
  intro i hi hli b o hfo
  rcases hgl i hli with ⟨u, hu, rfl, h2⟩ | ⟨h1, h2, h3, h4⟩
  · rw [h2] at hfo
    rcases hM' b o (hgf u hu b o hfo) with hm | hn
    · obtain ⟨j, j1, j2, j3⟩ := hMd b o hm
      exact .inr ⟨j, hUd j j1 j2, j1, j3⟩
    · exact .inl hn
  · rcases hi with ⟨u, hu, rfl⟩ | hi
    · rw [(hin u hu).2] at hfo
      rcases hM' b o (hgf u hu b o hfo) with hm | hn
      · obtain ⟨j, j1, j2, j3⟩ := hMd b o hm
        exact .inr ⟨j, hUd j j1 j2, j1, j3⟩
      · exact .inl hn
    · exact absurd h1 hi
 have hlat := h.later hw hT hU hf
 have hsl : Later w' s' w' (stab S w0 M0 s0 (updates bx1 gs) μ' w') := by
  intro b o hs
  obtain ⟨q1, q2, q3⟩ := hs' b o hs
  refine ⟨⟨q1, ?_, fun i hi hfo => ?_⟩, rfl⟩
  · rcases q3 with q3 | q3 | q3
    · exact q3.2.1
    · obtain ⟨i, i1, _, i3⟩ := hMd b o q3
      exact (h.own i i1 b o i3).elim (fun h => .inr (.inr h)) (fun h => .inr (.inl h))
    · exact .inr (.inr (Nat.le_trans h.chg.size q3))
  · rcases hgl i hi with ⟨u, hu, rfl, h2⟩ | ⟨h1, h2, h3, h4⟩
    · rw [h2] at hfo; exact q2 (hgf u hu b o hfo)
    · rw [h3] at hfo
      rcases q3 with q3 | q3 | q3
      · rcases q3.2.2 i h2 with ⟨e, l, hq⟩ | hq
        · rcases hl with hl | hl
          · have : bx1 i = some (.farr e l) := by rw [← hbx1, hl]; exact hq
            have hi' := (live_of S h4).1 hi
            unfold live at hi'
            rw [this] at hi'
            exact hi'
          · exact hl b o hs
        · exact hq hfo
      · obtain ⟨k, k1, k2, k3⟩ := hMd b o q3
        refine h.dis i k (fun e => ?_) h2 k1 b o hfo k3
        subst e
        rw [h1] at k2
        unfold live at h2; rw [k2] at h2; exact h2
      · exact absurd (live_lt P S (h.bxs i) h2 hfo).1 (by omega)
 refine ⟨μ', h.step hw hT hU hf ?_ ?_ ?_ ?_, hsl, hin⟩
 · intro i B0 hi
   by_cases hg : ∃ u ∈ gs, u.1 = i
   · obtain ⟨u, hu, rfl⟩ := hg
     rcases hI u.1 (hG.rng u hu) with hm | hn
     · obtain ⟨⟨ws, d1, e1⟩, e2, vs, d3, e3⟩ := hh _ hm
       rw [hi] at e1
       cases e1
       have : u = (u.1, vs) := hG.one u hu _ e3 rfl
       refine ⟨_, (hin u hu).1, ?_⟩
       rw [show u.2 = vs from congrArg Prod.snd this]
       exact compat_hd S d1 d3 ((hin u hu).2.trans e2)
     · rw [hi] at hn; cases hn
   · obtain ⟨h1, h2⟩ := hout i fun u hu e => hg ⟨u, hu, e⟩
     rw [h1, h2]
     rcases hb1 i with e1 | e1 | ⟨e0, e1⟩
     · exact ⟨B0, e1.trans hi, compat.refl S _ _⟩
     · exact ⟨_, e1, by cases B0 <;> rfl⟩
     · rcases hk i with e2 | ⟨e2, _⟩ | ⟨e, l, e2, e3⟩
       · exact ⟨B0, (e1.trans e2).trans hi, compat.refl S _ _⟩
       · exact ⟨_, e1.trans e2, by cases B0 <;> rfl⟩
       · rw [hi] at e2
         cases e2
         exact ⟨_, e1.trans e3, rfl, rfl, rfl⟩
 · intro i j hi hj hij li lj b o fi fj
   rcases hgl i li with ⟨u, hu, rfl, h2⟩ | ⟨h1, h2, h3, h4⟩
   · rcases hgl j lj with ⟨u', hu', rfl, h2'⟩ | ⟨h1', _, _, _⟩
     · rw [h2] at fi; rw [h2'] at fj
       exact hG.dis u hu u' hu' hij b o fi fj
     · rcases hj with ⟨u', hu', rfl⟩ | hj
       · rw [h2] at fi; rw [(hin u' hu').2] at fj
         exact hG.dis u hu u' hu' hij b o fi fj
       · exact hj h1'
   · rcases hi with ⟨u, hu, rfl⟩ | hi
     · rcases hgl j lj with ⟨u', hu', rfl, h2'⟩ | ⟨h1', _, _, _⟩
       · rw [(hin u hu).2] at fi; rw [h2'] at fj
         exact hG.dis u hu u' hu' hij b o fi fj
       · rcases hj with ⟨u', hu', rfl⟩ | hj
         · rw [(hin u hu).2] at fi; rw [(hin u' hu').2] at fj
           exact hG.dis u hu u' hu' hij b o fi fj
         · exact hj h1'
     · exact hi h1
 · intro i B hi hB
   by_cases hg : ∃ u ∈ gs, u.1 = i
   · obtain ⟨u, hu, rfl⟩ := hg
     rw [(hin u hu).1] at hB
     cases hB
     rw [(hin u hu).2]
     exact (hG.rb μ' _ hin u hu).mono hsl
   · obtain ⟨h1, h2⟩ := hout i fun u hu e => hg ⟨u, hu, e⟩
     rw [h1] at hB
     rw [h2]
     have hne : bx1 i ≠ env.bx i := hi.resolve_left hg
     rcases hb1 i with e1 | e1 | ⟨e0, e1⟩
     · exact absurd e1 hne
     · rw [e1] at hB; cases hB; trivial
     · rcases hk i with e2 | ⟨e2, _⟩ | ⟨e, l, e2, e3⟩
       · exact absurd (e1.trans e2) hne
       · rw [e1, e2] at hB; cases hB; trivial
       · have hbi : bx1 i = some (.farr e l) := e1.trans e3
         rw [hbi] at hB
         cases hB
         have hlive : live S env.bx i := by unfold live; rw [e2]; trivial
         obtain ⟨g1, g2, g3, g4, g5⟩ := h.bxs i _ e2
         refine ⟨g2, g3, fun k x hkx => ?_⟩
         obtain ⟨ds, d1, d2, n, d3⟩ := g5 k x hkx
         refine ⟨ds, d1, fun j u hj => ?_, n, d3.mono S hlat (Nat.le_refl _)⟩
         have hj' := (List.getElem?_eq_some_iff.1 hj).1
         have hil := (List.getElem?_eq_some_iff.1 hkx).1
         have hfoot : (μ i).foot (μ i).b ((μ i).o + k * Ty.sz S e + j) := by
          refine ⟨rfl, by omega, ?_⟩
          have : (k + 1) * Ty.sz S e ≤ (μ i).cap * Ty.sz S e := Nat.mul_le_mul_right _ (by omega)
          rw [Nat.add_mul, Nat.one_mul] at this
          omega
         have hnM : ¬ M (μ i).b ((μ i).o + k * Ty.sz S e + j) := fun hm => by
          obtain ⟨q, q1, q2, q3⟩ := hMd _ _ hm
          refine h.dis i q (fun e => ?_) hlive q1 _ _ hfoot q3
          subst e
          rw [hbi] at q2
          cases q2
         have hltw := (live_lt P S (h.bxs i) hlive hfoot).1
         refine ⟨(hw.cell _ _ hltw hnM).trans (d2 j u hj), Nat.lt_of_lt_of_le hltw hw.size, (h.own i hlive _ _ hfoot).elim (fun h => .inr (.inr h)) (fun h => .inr (.inl h)), fun q hq hfq => ?_⟩
         rcases hgl q hq with ⟨u, hu, rfl, h2⟩ | ⟨r1, r2, r3, r4⟩
         · rw [h2] at hfq
           rcases hM' _ _ (hgf u hu _ _ hfq) with hm | hn
           · exact hnM hm
           · omega
         · rw [r3] at hfq
           refine h.dis q i (fun e => ?_) r2 hlive _ _ hfq hfoot
           subst e
           exact hne r1
 · intro i vs hi hvs v hv j hj
   by_cases hg : ∃ u ∈ gs, u.1 = i
   · obtain ⟨u, hu, rfl⟩ := hg
     rw [(hin u hu).1] at hvs
     obtain ⟨u', hu', he⟩ := hG.ref u hu vs (by rcases hvs with hvs | hvs <;> · rw [Option.some.inj hvs]; simp) v hv j hj
     rw [← he, (hin u' hu').1]; simp
   · obtain ⟨h1, h2⟩ := hout i fun u hu e => hg ⟨u, hu, e⟩
     have hne : bx1 i ≠ env.bx i := hi.resolve_left hg
     rw [h1] at hvs
     rcases hb1 i with e1 | e1 | ⟨e0, e1⟩
     · exact absurd e1 hne
     · rw [e1] at hvs; rcases hvs with hvs | hvs <;> cases hvs
     · rcases hk i with e2 | ⟨e2, _⟩ | ⟨e, l, e2, e3⟩
       · exact absurd (e1.trans e2) hne
       · rw [e1, e2] at hvs; rcases hvs with hvs | hvs <;> cases hvs
       · rw [e1, e3] at hvs; rcases hvs with hvs | hvs <;> cases hvs
end
end Go.Sy
namespace Go.Sy
section
variable {P : Program} {S : Sen} {byt : Nat → Nat}
theorem asTy_eq {bx bx' : Bx S.C} {W : Sy.V S.C} {t : Ty} (hW : ∀ i ∈ ids1 S W, bx' i = bx i) : asTy S bx' t W = asTy S bx t W := by
 cases W with
 | marr b => simp only [asTy]; rw [hW b (by simp [ids1])]
 | _ => rfl
theorem freeze1_eq {bx bx' : Bx S.C} {W : Sy.V S.C} (hW : ∀ i ∈ ids1 S W, bx' i = bx i) : freeze1 S bx' W = freeze1 S bx W := by
 cases W with
 | marr b => simp only [freeze1]; rw [hW b (by simp [ids1])]
 | _ => rfl
theorem tupFrom_eq {bx bx' : Bx S.C} : ∀ {ts : List Ty} {vs : List (Sy.V S.C)}, (∀ v ∈ vs, ∀ i ∈ ids1 S v, bx' i = bx i) → tupFrom S bx' ts vs = tupFrom S bx ts vs
 | [], _, _ => rfl
 | t :: ts, [], _ => rfl
 | t :: ts, v :: vs, h => by
  simp only [tupFrom]
  rw [asTy_eq (h v (by simp)), tupFrom_eq fun v hv => h v (by simp [hv])]
theorem implode_eq {bx bx' : Bx S.C} {t : Ty} {vs : List (Sy.V S.C)} (h : ∀ v ∈ vs, ∀ i ∈ ids1 S v, bx' i = bx i) : implode S bx' t vs = implode S bx t vs := by
 cases t with
 | st u => simp only [implode]; rw [tupFrom_eq h]
 | _ =>
  cases vs with
  | nil => rfl
  | cons v vs => exact asTy_eq (h v (by simp))
theorem freezes1_eq {bx bx' : Bx S.C} : ∀ {vs : List (Sy.V S.C)}, (∀ v ∈ vs, ∀ i ∈ ids1 S v, bx' i = bx i) → vs.flatMap (freeze1 S bx') = vs.flatMap (freeze1 S bx)
 | [], _ => rfl
 | v :: vs, h => by
  simp only [List.flatMap_cons]
  rw [freeze1_eq (h v (by simp)), freezes1_eq fun v hv => h v (by simp [hv])]
theorem takeCK_eq {bx bx' : Bx S.C} {c : CK} {vs : List (Sy.V S.C)} (h : ∀ v ∈ vs, ∀ i ∈ ids1 S v, bx' i = bx i) : takeCK S bx' c vs = takeCK S bx c vs := by
 cases c with
 | data t =>
  simp only [takeCK]
  rw [implode_eq h, freezes1_eq fun v hv => h v (List.mem_of_mem_take hv)]
 | town e =>
  cases vs with
  | nil => rfl
  | cons v vs =>
   have := h v (by simp)
   cases v with
   | town b e' l => simp only [takeCK]; rw [this b (by simp [ids1])]
   | _ => rfl
 | marr e =>
  cases vs with
  | nil => rfl
  | cons v vs =>
   have := h v (by simp)
   cases v with
   | marr b => simp only [takeCK]; rw [this b (by simp [ids1])]
   | pre b n => simp only [takeCK]; rw [this b (by simp [ids1])]
   | _ => rfl
theorem updates_eq {i : Nat} : ∀ (us : Ups S.C) {bx bx' : Bx S.C}, bx' i = bx i → updates bx' us i = updates bx us i
 | [], _, _, h => h
 | u :: us, bx, bx', h => updates_eq us (bx := upd bx u.1 (some u.2)) (bx' := upd bx' u.1 (some u.2)) (by
  by_cases e : i = u.1
  · rw [e, upd_eq, upd_eq]
  · rw [upd_ne _ _ e, upd_ne _ _ e]; exact h)
theorem takeCKs_eq : ∀ {cs : List CK} {bx bx' : Bx S.C} {vs : List (Sy.V S.C)}, (∀ v ∈ vs, ∀ i ∈ ids1 S v, bx' i = bx i) → takeCKs S bx' cs vs = takeCKs S bx cs vs
 | [], _, _, _, _ => rfl
 | c :: cs, bx, bx', vs, h => by
  simp only [takeCKs]
  rw [takeCK_eq h]
  cases takeCK S bx c vs with
  | none => rfl
  | some a =>
   simp only [Option.bind_some]
   rw [takeCKs_eq fun v hv i hi => updates_eq _ (h v (List.mem_of_mem_drop hv) i hi)]
def Known (S : Sen) (bx bx' : Bx S.C) (V : Sy.V S.C) : Prop :=
 ∀ i ∈ idsOf S V, bx' i = bx i ∧ (∀ vs, (bx i = some (.cells vs) ∨ bx i = some (.fcells vs)) → ∀ v ∈ vs, ∀ j ∈ ids1 S v, bx' j = bx j) ∧ ∀ j, bx i = some (.bld j) → bx' j = bx j
theorem updates_DF {us : Ups S.C} {i : Nat} {vs : List (Sy.V S.C)} (h : DF us) : ∀ {bx : Bx S.C}, (updates bx us i = some (.cells vs) ∨ updates bx us i = some (.fcells vs)) → (bx i = some (.cells vs) ∨ bx i = some (.fcells vs)) := by
 induction us with
 | nil => exact fun h => h
 | cons u us ih =>
  intro bx hu
  have := ih (fun v hv => h v (by simp [hv])) (bx := upd bx u.1 (some u.2)) hu
  by_cases e : i = u.1
  · rw [e, upd_eq] at this
    rcases h u (by simp) with h1 | ⟨_, _, h1⟩ <;> · rw [h1] at this; rcases this with h2 | h2 <;> cases h2
  · rw [upd_ne _ _ e] at this; exact this
theorem updates_DFb {us : Ups S.C} {i j : Nat} (h : DF us) : ∀ {bx : Bx S.C}, updates bx us i = some (.bld j) → bx i = some (.bld j) := by
 induction us with
 | nil => exact fun h => h
 | cons u us ih =>
  intro bx hu
  have := ih (fun v hv => h v (by simp [hv])) (bx := upd bx u.1 (some u.2)) hu
  by_cases e : i = u.1
  · rw [e, upd_eq] at this
    rcases h u (by simp) with h1 | ⟨_, _, h1⟩ <;> · rw [h1] at this; cases this
  · rw [upd_ne _ _ e] at this; exact this
theorem Known.updates {bx bx' : Bx S.C} {V : Sy.V S.C} {us : Ups S.C} (hd : DF us) (h : Known S bx bx' V) : Known S (updates bx us) (updates bx' us) V := fun i hi =>
 ⟨updates_eq us (h i hi).1, fun vs hvs v hv j hj => updates_eq us ((h i hi).2.1 vs (updates_DF hd hvs) v hv j hj), fun j hj => updates_eq us ((h i hi).2.2 j (updates_DFb hd hj))⟩
theorem cap1_eq {bx bx' : Bx S.C} {t : Ty} {v : Sy.V S.C} (this : ∀ i ∈ ids1 S v, bx' i = bx i ∧ ∀ ws, (bx i = some (.cells ws) ∨ bx i = some (.fcells ws)) → ∀ v ∈ ws, ∀ j ∈ ids1 S v, bx' j = bx j) : cap1 S bx' t v = cap1 S bx t v := by
 cases v with
 | ptr b off =>
  obtain ⟨h1, h2⟩ := this b (by simp [ids1])
  cases off with
  | zero =>
   simp only [cap1]
   rw [h1]
   split
   · rename_i ws hb
     rw [implode_eq (h2 ws (.inr hb))]
   · rfl
  | succ n => rfl
 | _ => rfl
theorem caps_eq {bx bx' : Bx S.C} : ∀ {ts : List Ty} {vs : List (Sy.V S.C)}, (∀ v ∈ vs, ∀ i ∈ ids1 S v, bx' i = bx i ∧ ∀ ws, (bx i = some (.cells ws) ∨ bx i = some (.fcells ws)) → ∀ v ∈ ws, ∀ j ∈ ids1 S v, bx' j = bx j) → caps S bx' ts vs = caps S bx ts vs
 | [], [], _ => rfl
 | [], _ :: _, _ => rfl
 | t :: ts, [], _ => rfl
 | t :: ts, v :: vs, h => by
  simp only [caps]
  have h1 : cap1 S bx' t v = cap1 S bx t v := by
   have := h v (by simp)
   cases v with
   | ptr b off =>
    obtain ⟨h1, h2⟩ := this b (by simp [ids1])
    cases off with
    | zero =>
     simp only [cap1]
     rw [h1]
     split
     · rename_i ws hb
       rw [implode_eq (h2 ws (.inr hb))]
     · rfl
    | succ n => rfl
   | _ => rfl
  rw [h1, caps_eq fun v hv => h v (by simp [hv])]
theorem fnOf_eq {fs : List (FEnt S)} {bx bx' : Bx S.C} {A R : List Ty} {V : Sy.V S.C} (h : Known S bx bx' V) : fnOf S fs bx' A R V = fnOf S fs bx A R V := by
 cases V with
 | fnc f vs =>
  simp only [fnOf]
  have : ∀ ts, caps S bx' ts vs = caps S bx ts vs := fun ts => caps_eq fun v hv i hi => have q := h i (by simp only [idsOf, List.mem_flatMap]; exact ⟨v, hv, hi⟩); ⟨q.1, q.2.1⟩
  simp only [this]
 | _ => rfl
theorem takeObj_known {bx bx' : Bx S.C} {cs : List CK} {b : Nat} (h : Known S bx bx' (.ptr b 0)) : takeObj S bx' cs b = takeObj S bx cs b := by
 unfold takeObj
 rw [(h b (by simp [idsOf, ids1])).1]
 split
 · rename_i vs hb
   have : takeCKs S (upd bx' b (some .dead)) cs (vs.drop 0) = takeCKs S (upd bx b (some .dead)) cs (vs.drop 0) := by
    refine takeCKs_eq fun v hv i hi => ?_
    have := (h b (by simp [idsOf, ids1])).2.1 vs (.inl hb) v (List.mem_of_mem_drop hv) i hi
    by_cases e : i = b
    · rw [e, upd_eq, upd_eq]
    · rw [upd_ne _ _ e, upd_ne _ _ e]; exact this
   rw [this]
 · rfl
theorem takeK_eq {fs : List (FEnt S)} {bx bx' : Bx S.C} {k : K} {V : Sy.V S.C} (h : Known S bx bx' V) : takeK S fs bx' k V = takeK S fs bx k V := by
 have h1 : ∀ (c : CK), takeCK S bx' c [V] = takeCK S bx c [V] ∨ ∃ u vs, V = .agg u vs ∨ V = .fnc u vs ∨ V = .tup vs := by
  intro c
  cases V with
  | agg u vs => exact .inr ⟨u, vs, .inl rfl⟩
  | fnc u vs => exact .inr ⟨u, vs, .inr (.inl rfl)⟩
  | tup vs => exact .inr ⟨0, vs, .inr (.inr rfl)⟩
  | _ => exact .inl (takeCK_eq fun v hv i hi => by simp at hv; subst hv; exact (h i hi).1)
 have obj : ∀ (cs : List CK) (b : Nat) (vs : List (Sy.V S.C)) (off : Nat), V = .ptr b off → bx b = some (.cells vs) → takeCKs S (upd bx' b (some .dead)) cs (vs.drop off) = takeCKs S (upd bx b (some .dead)) cs (vs.drop off) := by
  rintro cs b vs off rfl hb
  refine takeCKs_eq fun v hv i hi => ?_
  have := (h b (by simp [idsOf, ids1])).2.1 vs (.inl hb) v (List.mem_of_mem_drop hv) i hi
  by_cases e : i = b
  · rw [e, upd_eq, upd_eq]
  · rw [upd_ne _ _ e, upd_ne _ _ e]; exact this
 cases k with
 | val c =>
  cases c with
  | data t =>
   obtain ⟨d1, d2⟩ := datum_restrict (t := t) fun i hi => (h i hi).1
   simp only [takeK, d1, d2]
  | town e =>
   rcases h1 (.town e) with h1 | ⟨u, vs, rfl | rfl | rfl⟩
   · exact h1
   all_goals rfl
  | marr e =>
   rcases h1 (.marr e) with h1 | ⟨u, vs, rfl | rfl | rfl⟩
   · exact h1
   all_goals rfl
 | obj cs =>
  cases V with
  | ptr b off =>
   simp only [takeK]
   rw [(h b (by simp [idsOf, ids1])).1]
   split
   · rename_i vs hb
     rw [obj cs b vs off rfl hb]
   · rfl
  | _ => rfl
 | opt cs =>
  cases V with
  | ptr b off =>
   simp only [takeK]
   rw [(h b (by simp [idsOf, ids1])).1]
   split
   · rename_i vs hb
     rw [obj cs b vs off rfl hb]
   · rfl
  | _ => rfl
 | csl cs =>
  cases V with
  | csl b n =>
   simp only [takeK]
   rw [(h b (by simp [idsOf, ids1])).1]
   split
   · rename_i vs hb
     have : takeCKs S (upd bx' b (some .dead)) cs (vs.drop 0) = takeCKs S (upd bx b (some .dead)) cs (vs.drop 0) := by
      refine takeCKs_eq fun v hv i hi => ?_
      have := (h b (by simp [idsOf, ids1])).2.1 vs (.inl hb) v (List.mem_of_mem_drop hv) i hi
      by_cases e : i = b
      · rw [e, upd_eq, upd_eq]
      · rw [upd_ne _ _ e, upd_ne _ _ e]; exact this
     rw [this]
   · rfl
  | _ => rfl
 | robj t cs =>
  cases V with
  | split b c =>
   simp only [takeK]
   have hc : Known S bx bx' (.ptr c 0) := fun i hi => h i (by simp [idsOf, ids1] at hi ⊢; exact .inr hi)
   have hb : Known S bx bx' (.ptr b 0) := fun i hi => h i (by simp [idsOf, ids1] at hi ⊢; exact .inl hi)
   rw [takeObj_known hc]
   cases hy : takeObj S bx [.data t] c with
   | none => rfl
   | some y =>
    simp only [Option.bind_some]
    rw [takeObj_known (hb.updates (DF.takeObj (us := y.2) (x := y.1) hy))]
  | _ => rfl
 | nil => rfl
 | err => rfl
 | bld =>
  cases V with
  | ptr b off =>
   simp only [takeK]
   rw [(h b (by simp [idsOf, ids1])).1]
   split
   · rename_i j hb
     rw [(h b (by simp [idsOf, ids1])).2.2 j hb]
   · rfl
  | _ => rfl
 | ro t =>
  cases V with
  | ptr b off =>
   simp only [takeK]
   have := cap1_eq (t := t) (v := .ptr b off) fun i hi => ⟨(h i hi).1, (h i hi).2.1⟩
   rw [this]
  | _ => rfl
 | fn A R => simp only [takeK]; rw [fnOf_eq h]
theorem takeKs_eq {fs : List (FEnt S)} : ∀ {ks : List K} {bx bx' : Bx S.C} {Vs : List (Sy.V S.C)}, (∀ V ∈ Vs, Known S bx bx' V) → takeKs S fs bx' ks Vs = takeKs S fs bx ks Vs
 | [], _, _, [], _ => rfl
 | [], _, _, _ :: _, _ => rfl
 | k :: ks, _, _, [], _ => rfl
 | k :: ks, bx, bx', V :: Vs, h => by
  simp only [takeKs]
  rw [takeK_eq (h V (by simp))]
  cases hk : takeK S fs bx k V with
  | none => rfl
  | some a =>
   simp only [Option.bind_some]
   rw [takeKs_eq fun V' hV' => (h V' (by simp [hV'])).updates (DF.takeK (us := a.2) (x := a.1) hk)]
theorem KsRel.length {w : World} {s : St} : ∀ {M : St} {ks : List K} {x : Ks S.C ks} {vs : List Value}, KsRel P S w s M ks x vs → vs.length = ks.length
 | _, [], _, _, h => by rw [h.2]; rfl
 | _, k :: ks, _, _, ⟨M1, M2, v, r, h1, h2, h3, h4⟩ => by subst h2; rw [List.length_cons, KsRel.length h4]; rfl
theorem Rep.flat {w : World} {s s' : St} {n : Nat} {t : Ty} (hf : flatT S t = true) {x : t.den S.C} {cs : List Value} (h : Rep S w s n t x cs) : Rep S w s' n t x cs := by
 cases n with
 | zero => exact h.elim
 | succ n => cases t with
  | int k => exact h
  | bool => exact h
  | str => exact h
  | pt => exact h
  | sl e => simp [flatT] at hf
  | st u =>
   cases n with
   | zero =>
    have : ∀ (ts : List Ty) (x : Tup S.C ts) (cs : List Value), RepTup S (fun t x cs => Rep S w s 0 t x cs) ts x cs → RepTup S (fun t x cs => Rep S w s' 0 t x cs) ts x cs := by
     intro ts x cs h
     exact RepTup.mono S (fun t x cs h => h.elim) ts x cs h
    exact this _ _ _ h
   | succ m => exact (RepTup.flat S (m := m) _ _ _ hf h)
theorem CKRel.flat {w : World} {s s' M : St} {c : CK} (hf : flatC S c = true) {x : c.den S.C} {cs : List Value} (h : CKRel S w s M c x cs) : CKRel S w s' M c x cs := by
 cases c with
 | data t => exact ⟨h.1, h.2.imp fun _ hn => hn.flat hf⟩
 | town e => simp [flatC] at hf
 | marr e =>
  obtain ⟨a, cap, L, h1, h2, h3, h4, h5⟩ := h
  refine ⟨a, cap, L, h1, h2, h3, h4, fun i y hi => ?_⟩
  obtain ⟨ds, d1, d2, n, d3⟩ := h5 i y hi
  exact ⟨ds, d1, d2, n, d3.flat hf⟩
theorem CKsRel.flat {w : World} {s s' : St} : ∀ {M : St} {cs : List CK} {x : CKs S.C cs} {vs : List Value}, cs.all (flatC S) = true → CKsRel S w s M cs x vs → CKsRel S w s' M cs x vs
 | _, [], _, _, _, h => h
 | _, _ :: _, _, _, hf, ⟨M1, M2, v1, v2, h1, h2, h3, h4, h5⟩ => by
  simp only [List.all_cons, Bool.and_eq_true] at hf
  exact ⟨M1, M2, v1, v2, h1, h2, h3, h4.flat hf.1, CKsRel.flat hf.2 h5⟩
theorem ObjRel.flat {w : World} {s s' M : St} {cs : List CK} (hf : cs.all (flatC S) = true) {x : CKs S.C cs} {v : Value} (h : ObjRel S w s M cs x v) : ObjRel S w s' M cs x v := by
 obtain ⟨b, o, ds, M', h1, h2, h3, h4, h5⟩ := h
 exact ⟨b, o, ds, M', h1, h2, h3, h4, h5.flat hf⟩
theorem KRel.flat {w : World} {s s' M : St} {k : K} (hf : flatK S k = true) {x : k.den S.C} {v : Value} (h : KRel P S w s M k x v) : KRel P S w s' M k x v := by
 cases k with
 | val c => exact ⟨h.1.flat hf, h.2⟩
 | obj cs => exact ObjRel.flat hf h
 | bld => exact h
 | opt cs =>
  cases x with
  | none => exact h
  | some y => exact ObjRel.flat hf h
 | nil => exact h
 | ro t => simp [flatK] at hf
 | fn a r => simp [flatK] at hf
 | robj t cs => simp [flatK] at hf
 | csl cs =>
  obtain ⟨p, h1, h2⟩ := h
  exact ⟨p, h1, ObjRel.flat hf h2⟩
 | err => exact h
theorem KsRel.flat {w : World} {s s' : St} : ∀ {M : St} {ks : List K} {x : Ks S.C ks} {vs : List Value}, ks.all (flatK S) = true → KsRel P S w s M ks x vs → KsRel P S w s' M ks x vs
 | _, [], _, _, _, h => h
 | _, _ :: _, _, _, hf, ⟨M1, M2, v, r, h1, h2, h3, h4⟩ => by
  simp only [List.all_cons, Bool.and_eq_true] at hf
  exact ⟨M1, M2, v, r, h1, h2, h3.flat hf.1, KsRel.flat hf.2 h4⟩
def Snd (P : Program) (S : Sen) (e : Entry S) : Prop := FnOk P e.f ∧ ∀ (w : World) (s M : St) (x : Ks S.C e.ps) (args : List Value) (r : Ks S.C (e.rs ++ outs e.ps)),
 KsRel P S w s M e.ps x args → (∀ b o, s b o → b < w.heap.size ∧ ¬ M b o) → Glob S w M → e.sp x = some r →
 Calls P e.f args.toArray w fun en w' => ∃ us s' M', en = .returned (retV us) ∧ Chg w w' M ∧ KsRel P S w' s' M' (e.rs ++ outs e.ps) r (us ++ outArgs e.ps args) ∧
  (∀ b o, s' b o → b < w'.heap.size ∧ ¬ M' b o ∧ (s b o ∨ M b o ∨ w.heap.size ≤ b)) ∧ ∀ b o, M' b o → M b o ∨ w.heap.size ≤ b
def SndAt (P : Program) (S : Sen) (w0 : World) (M0 : St) (e : Entry S) : Prop := FnOk P e.f ∧ ∀ (w : World) (s M : St) (x : Ks S.C e.ps) (args : List Value) (r : Ks S.C (e.rs ++ outs e.ps)),
 Chg w0 w M0 → (∀ b o, M b o → w0.heap.size ≤ b ∨ M0 b o) → KsRel P S w s M e.ps x args → (∀ b o, s b o → b < w.heap.size ∧ ¬ M b o) → e.sp x = some r →
 Calls P e.f args.toArray w fun en w' => ∃ us s' M', en = .returned (retV us) ∧ Chg w w' M ∧ KsRel P S w' s' M' (e.rs ++ outs e.ps) r (us ++ outArgs e.ps args) ∧
  (∀ b o, s' b o → b < w'.heap.size ∧ ¬ M' b o ∧ (s b o ∨ M b o ∨ w.heap.size ≤ b)) ∧ ∀ b o, M' b o → M b o ∨ w.heap.size ≤ b
theorem Snd.at {w0 : World} {M0 : St} {e : Entry S} (h : Snd P S e) (hG : Glob S w0 M0) : SndAt P S w0 M0 e :=
 ⟨h.1, fun w s M x args r hc hM hx hs hr => h.2 w s M x args r hx hs ⟨fun g hg => by
  obtain ⟨g1, g2, v, g3, g4⟩ := hG.1 g hg
  refine ⟨Nat.lt_of_lt_of_le g1 hc.size, fun hm => ?_, v, (hc.cell g.1.1 g.1.2 g1 g2).trans g3, g4⟩
  rcases hM _ _ hm with h1 | h1
  · exact absurd g1 (Nat.not_lt.2 h1)
  · exact g2 h1, fun g hg => by
  obtain ⟨g1, g2, v, g3, g4⟩ := hG.2 g hg
  refine ⟨Nat.lt_of_lt_of_le g1 hc.size, fun o hm => ?_, v, (hc.same g.1 g1 g2).trans g3, g4⟩
  rcases hM _ _ hm with h1 | h1
  · exact absurd g1 (Nat.not_lt.2 h1)
  · exact g2 o h1⟩ hr⟩
end
end Go.Sy
namespace Go.Sy
section
variable {P : Program} {S : Sen} {byt : Nat → Nat}
variable {w0 : World} {M0 s0 : St} {dq : List Deferred} {env : Env S.C} {a : Act} {w : World} {μ : Nat → Loc} {K : Act → World → Prop} {Q : Exit → Act → World → Prop} {o : Oper} {V : V S.C} {us : Ups S.C}
theorem RVs_tup {s : St} {bx : Bx S.C} {vs : List (Sy.V S.C)} {us : List Value} (h : RVs P S w s μ bx vs us) : RV P S w s μ bx (tupV S vs) (retV us) := by
 cases vs with
 | nil => cases h; exact ⟨#[], rfl, rfl⟩
 | cons v vs =>
  obtain ⟨c, r, rfl, h1, h2⟩ := h
  cases vs with
  | nil => cases h2; exact RV_of_RV1 h1
  | cons v' vs =>
   obtain ⟨c', r', rfl, h3, h4⟩ := h2
   exact ⟨_, rfl, c, c' :: r', by simp, h1, c', r', rfl, h3, h4⟩
theorem ids_tup {vs : List (Sy.V S.C)} {j : Nat} (h : j ∈ idsOf S (tupV S vs)) : ∃ v ∈ vs, j ∈ ids1 S v ∨ j ∈ idsOf S v := by
 cases vs with
 | nil => simp [tupV, idsOf] at h
 | cons v vs =>
  cases vs with
  | nil => exact ⟨v, by simp, .inr h⟩
  | cons v' vs =>
   simp only [tupV, idsOf, List.mem_flatMap] at h
   obtain ⟨u, hu, hj⟩ := h
   exact ⟨u, hu, .inl hj⟩
theorem ids_one {s : St} {bx : Bx S.C} {V : Sy.V S.C} {v : Value} (h : RV1 P S w s μ bx V v) {j : Nat} (hj : j ∈ idsOf S V) : j ∈ ids1 S V := by
 cases V <;> first | exact hj | exact (h : False).elim
theorem ids_ones {s : St} {bx : Bx S.C} : ∀ {vs : List (Sy.V S.C)} {cs : List Value}, RVs P S w s μ bx vs cs → ∀ v ∈ vs, ∀ j ∈ idsOf S v, j ∈ ids1 S v
 | [], _, _, v, hv, _, _ => by simp at hv
 | u :: vs, _, ⟨c, r, h1, h2, h3⟩, v, hv, j, hj => by
  rcases List.mem_cons.1 hv with rfl | hv
  · exact ids_one h2 hj
  · exact ids_ones h3 v hv j hj
theorem run_call {c : Call} (ho : o.op = .call c) {f : Operand} (hc : c.callee = .value f) {g : Nat} {first cap : Array Value} (hf : a.eval f = .func (.func g) first cap) (hok : FnOk P g) :
 (execOp a.eval o).run P w = .ok (.enter g (first ++ c.args.map a.eval ++ cap)) w := by
 obtain ⟨fn, h1, h2, h3⟩ := hok
 unfold execOp
 simp only [ho]
 have h2' : ¬ fn.name = "runtime.NumGoroutine" := by simpa using h2
 have h3' : ¬ fn.body = none := fun e => by rw [e] at h3; cases h3
 simp [resolve, hc, hf, Deferred.ofValue, invoke, callFunc, h1, h2', h3']
theorem outArgs_len : ∀ (ps : List Sy.K) (args : List Value), args.length = ps.length → (outArgs ps args).length = (outs ps).length
 | [], _, _ => by simp [outArgs, outs]
 | _ :: _, [], h => by simp at h
 | k :: ps, v :: args, h => by
  have ih := outArgs_len ps args (by simpa using h)
  cases k <;> simp [outArgs, outs, ih]
theorem callOp_core (hP : ProgOk P S byt) {T : Tab S} {f : Nat} {args : Array Value} {C : (Ending → World → Prop) → Prop} (hmono : ∀ R R', (∀ en w', R en w' → R' en w') → C R → C R')
 (hT : ∀ e ∈ T.es, e.f = f → ∀ (s M : St) (x : Ks S.C e.ps) (r : Ks S.C (e.rs ++ outs e.ps)), (∀ b o, M b o → w0.heap.size ≤ b ∨ M0 b o) → KsRel P S w s M e.ps x args.toList → (∀ b o, s b o → b < w.heap.size ∧ ¬ M b o) → e.sp x = some r →
  C fun en w' => ∃ us s' M', en = .returned (retV us) ∧ Chg w w' M ∧ KsRel P S w' s' M' (e.rs ++ outs e.ps) r (us ++ outArgs e.ps args.toList) ∧
   (∀ b o, s' b o → b < w'.heap.size ∧ ¬ M' b o ∧ (s b o ∨ M b o ∨ w.heap.size ≤ b)) ∧ ∀ b o, M' b o → M b o ∨ w.heap.size ≤ b)
 (hF : ∀ e ∈ T.fs, FSnd P S e) (h : Inv P S w0 M0 s0 dq env a w μ) {B : Nat} {bx0 : Bx S.C}
 {Vs : List (Sy.V S.C)} (hargs : RVl P S w (stab S w0 M0 s0 env.bx μ w) μ env.bx Vs args.toList)
 (hkn : ∀ V ∈ Vs, Known S env.bx bx0 V) (hnew : ∀ u ∈ us, B ≤ u.1 → u.1 < B + 16 → env.bx u.1 = none)
 (hl : (callOp S T B bx0 f Vs).leaf (V, us)) :
 C fun en w' => ∃ v μ', en = .returned v ∧ Inv P S w0 M0 s0 dq { env with bx := updates env.bx us } a w' μ' ∧ RV P S w' (stab S w0 M0 s0 (updates env.bx us) μ' w') μ' (updates env.bx us) V v ∧ ∀ j ∈ idsOf S V, updates env.bx us j ≠ none := by
 unfold callOp at hl
 split at hl
 · rename_i e tk hfind
   obtain ⟨e0, he0, hsel⟩ := List.exists_of_findSome?_eq_some hfind
   split at hsel
   · rename_i hef
     obtain ⟨tk0, htk, hsel⟩ := Option.bind_eq_some_iff.1 hsel
     cases hsel
     cases hlim : Nat.ble (idSum e.rs + idSum (outs e.ps)) 16 && (outV S e.ps Vs).all fun b => !(Nat.ble B b && Nat.blt b (B + 16)) with
     | false => rw [hlim] at hl; exact hl.elim
     | true =>
      rw [hlim, cond_true] at hl
      rw [Bool.and_eq_true] at hlim
      obtain ⟨hlim, hapart⟩ := hlim
      have hlim := Nat.le_of_ble_eq_true hlim
      obtain ⟨r, hr, hl⟩ := hl
      rw [takeKs_eq hkn] at htk
      obtain ⟨x, us1⟩ := tk
      dsimp only at hr hl
      obtain ⟨k1, M, kr, fr⟩ := takeKs_ok hP.toSenOk h hF e.ps (Tk.refl S env.bx) hargs htk
      have htkall : ∀ (ks : List Sy.K) (bx : Bx S.C) (hk : Tk S env.bx bx) (Vs : List (Sy.V S.C)) (args : List Value) (x : Ks S.C ks) (us : Ups S.C), RVl P S w (stab S w0 M0 s0 env.bx μ w) μ env.bx Vs args → takeKs S T.fs bx ks Vs = some (x, us) → Tk S bx (updates bx us) :=
       fun ks bx hk Vs args x us h1 h2 => (takeKs_ok hP.toSenOk h hF ks hk h1 h2).1
      obtain ⟨oo, ond, od⟩ := takeKs_outs (s := stab S w0 M0 s0 env.bx μ w) (s' := stab S w0 M0 s0 env.bx μ w) h.bxs e.ps (Tk.refl S env.bx) htkall hargs htk
      have hdf := DF.takeKs htk
      have hsM : ∀ b o, tak S w0 M0 s0 env.bx (updates env.bx us1) μ w b o → b < w.heap.size ∧ ¬ M b o := by
       intro b o ⟨q1, q2, q3⟩
       refine ⟨q1, fun hm => ?_⟩
       obtain ⟨i, i1, _, i3, i4⟩ := fr b o hm
       rcases q3 i i1 with ⟨_, _, hq⟩ | hq
       · rw [i3] at hq; cases hq
       · exact hq i4
      refine hmono _ _ ?_ (hT e he0 hef _ M x r (fun b o hm => by obtain ⟨i, i1, _, _, i4⟩ := fr b o hm; exact h.own i i1 b o i4) kr hsM hr)
      rintro en w' ⟨vs, s', M', rfl, hw, hks, hs', hM'⟩
      have hflat : ∃ s2 : St, KsRel P S w' s2 M' (e.rs ++ outs e.ps) r (vs ++ outArgs e.ps args.toList) ∧ (∀ b o, s2 b o → s' b o) ∧ (leaks S e = true ∨ ∀ b o, ¬ s2 b o) := by
       cases hlk : leaks S e with
       | true => exact ⟨s', hks, fun _ _ h => h, .inl rfl⟩
       | false =>
        unfold leaks at hlk
        simp only [Bool.not_eq_false'] at hlk
        exact ⟨fun _ _ => False, hks.flat hlk, fun _ _ h => h.elim, .inr fun _ _ h => h⟩
      obtain ⟨s2, hks2, hs2, hlk⟩ := hflat
      obtain ⟨q, M1, M2, us', ws, hq, hv1, hsp, ho2, n1, n2, l1, g1, r1, rv1⟩ := mkRes_ok hP.toSenOk e.rs B hks2 hl
      obtain ⟨rfl, rfl⟩ := ret_leaf hq
      have hlen := KsRel.length hks2
      have hlo := KsRel.length ho2
      have hla : args.toList.length = e.ps.length := KsRel.length kr
      have hol := outArgs_len e.ps args.toList hla
      have hsame : vs = us' ∧ outArgs e.ps args.toList = ws := by
       refine List.append_inj hv1 ?_
       have := congrArg List.length hv1
       simp only [List.length_append] at this
       omega
      obtain ⟨rfl, rfl⟩ := hsame
      have hhn : ∀ b ∈ outV S e.ps Vs, ∀ i, B ≤ i → i < B + 16 → i ≠ b := by
       rintro b hb i h1 h2 rfl
       have := List.all_eq_true.1 hapart i hb
       rw [show Nat.ble B i = true from Nat.ble_eq_true_of_le h1, show Nat.blt i (B + 16) = true from Nat.ble_eq_true_of_le h2] at this
       cases this
      obtain ⟨l2, g2, hh2⟩ := outs_ok (P := P) hP.toSenOk e.ps q.2.2 (oo.later fun b o hs => have hq := hsM b o (tak_stab S w0 M0 s0 env.bx (updates env.bx us1) μ w b o hs).1; hw.cell b o hq.1 hq.2) ond (fun b hb i h1 h2 => hhn b hb i (by omega) (by omega)) ho2
      obtain ⟨g, hag⟩ := Give.both g1 g2 (fun i h1 h2 => by
       rcases h2 with h2 | h2
       · exact hhn i h2 i (by omega) (by omega) rfl
       · omega) hsp
      have hgs : Give P S w' s2 (fun i => ∃ u ∈ (q.2.1 ++ putOuts S q.2.2 e.ps Vs (splitKs S e.rs (outs e.ps) r).2), u.1 = i) (q.2.1 ++ putOuts S q.2.2 e.ps Vs (splitKs S e.rs (outs e.ps) r).2) _ M' :=
       ⟨fun u hu => ⟨u, hu, rfl⟩, g.one, g.rb, g.lv, g.foot, g.dis, g.ref⟩
      obtain ⟨μ', hI, hsl, hagr⟩ := h.call (heads := outV S e.ps Vs) hdf k1 fr hw (fun b o hs => hs' b o (hs2 b o hs)) hM' hgs (fun i hi => by
       obtain ⟨u, hu, rfl⟩ := hi
       rcases g.rng u hu with h1 | h1 | h1
       · exact .inr (hnew u (List.mem_append.2 (.inr hu)) h1.1 (by omega))
       · exact .inl h1
       · exact .inr (hnew u (List.mem_append.2 (.inr hu)) (by omega) (by omega)))
       (fun b hb => ⟨(od b hb).1, by
        unfold both
        rw [if_neg]
        · exact (hh2 b hb).1
        · intro hm
          obtain ⟨u, hu, he⟩ := List.mem_map.1 hm
          have := g1.rng u hu
          rw [he] at this
          exact hhn b hb b this.1 (by omega) rfl, by
        obtain ⟨vs, hh, hvs⟩ := (hh2 b hb).2
        exact ⟨vs, hh, List.mem_append.2 (.inr hvs)⟩⟩) hlk
      have hrv := (rv1 _ _ (hag _ _ hagr).1).mono hsl
      refine ⟨_, μ', rfl, hI, RVs_tup hrv, fun j hj => ?_⟩
      obtain ⟨v, hv, hj⟩ := ids_tup hj
      obtain ⟨u, hu, he⟩ := r1 v hv j (hj.elim id fun hj => ids_ones hrv v hv j hj)
      have := (hagr u (List.mem_append.2 (.inl hu))).1
      rw [he] at this
      rw [this]
      simp
   · cases hsel
 · exact hl.elim
theorem callOp_ok (hP : ProgOk P S byt) {T : Tab S} (hT : ∀ e ∈ T.es, SndAt P S w0 M0 e) (hF : ∀ e ∈ T.fs, FSnd P S e) (h : Inv P S w0 M0 s0 dq env a w μ) (hd : ∀ d, o.dst = some d → d < a.tmps.size) {B : Nat} {ids : List Nat}
 {Vs : List (Sy.V S.C)} {args : Array Value} {f : Nat} (hrun : FnOk P f → (execOp a.eval o).run P w = .ok (.enter f args) w) (hargs : RVl P S w (stab S w0 M0 s0 env.bx μ w) μ env.bx Vs args.toList)
 (hkn : ∀ V ∈ Vs, Known S env.bx (restrict S env.bx ids) V) (hnew : ∀ u ∈ us, B ≤ u.1 → u.1 < B + 16 → env.bx u.1 = none)
 (hl : (callOp S T B (restrict S env.bx ids) f Vs).leaf (V, us)) (hK : Goal P S w0 M0 s0 dq env a o.dst V us K) : o.wp P a w K Q := by
 have hok : FnOk P f := by
  unfold callOp at hl
  split at hl
  · rename_i e tk hfind
    obtain ⟨e0, he0, hsel⟩ := List.exists_of_findSome?_eq_some hfind
    split at hsel
    · rename_i hef
      rw [← hef]; exact (hT e0 he0).1
    · cases hsel
  · exact hl.elim
 unfold Oper.wp
 rw [hrun hok]
 refine Calls.mono (callOp_core (dq := dq) hP (C := fun R => Calls P f args w R) (fun R R' hR hc => Calls.mono hc hR) (fun e he hef s M x r hM hx hs hr => ?_) hF h hargs hkn hnew hl) ?_
 · have hc := (hT e he).2 w s M x args.toList r h.chg hM hx hs hr
   rw [hef, show args.toList.toArray = args from by simp] at hc
   exact hc
 · rintro en w' ⟨v, μ', rfl, hI, hrv, hids⟩
   refine hK _ w' μ' (hI.put hd hrv hids) ?_
   cases o.dst <;> simp [Act.put]
end
end Go.Sy
namespace Go.Sy
section
variable {P : Program} {S : Sen} {byt : Nat → Nat}
variable {w0 : World} {M0 s0 : St} {dq : List Deferred} {env : Env S.C} {a : Act} {w : World} {μ : Nat → Loc} {K : Act → World → Prop} {Q : Exit → Act → World → Prop} {o : Oper} {V : V S.C} {us : Ups S.C}
theorem Inv.world (h : Inv P S w0 M0 s0 dq env a w μ) {w' : World} (hw : Chg w w' (fun _ _ => False)) :
 Inv P S w0 M0 s0 dq env a w' μ ∧ Later w' (grown (stab S w0 M0 s0 env.bx μ w) w w') w' (stab S w0 M0 s0 env.bx μ w') := by
 have hlat := h.later (T := fun _ _ => False) (U := fun _ => False) (bx' := env.bx) (μ' := μ) hw (fun _ _ h => h.elim) (fun _ _ => ⟨rfl, rfl⟩) (fun _ h => h.elim)
 refine ⟨h.step (T := fun _ _ => False) (U := fun _ => False) hw (fun _ _ h => h.elim) (fun _ _ => ⟨rfl, rfl⟩) (fun _ h => h.elim) (fun i B0 hi => ⟨B0, hi, compat.refl S _ _⟩) (fun _ _ h => h.elim) (fun _ _ h => h.elim) (fun _ _ h => h.elim), ?_⟩
 rintro b o (hs | ⟨h1, h2⟩)
 · exact ⟨(hlat b o hs).1, rfl⟩
 · exact ⟨⟨h2, .inr (.inr (Nat.le_trans h.chg.size h1)), fun i li hf => absurd (live_lt P S (h.bxs i) li hf).1 (by omega)⟩, rfl⟩
theorem dataOf_eq {bx bx' : Bx S.C} : ∀ {ts : List Ty} {Vs : List (Sy.V S.C)}, (∀ V ∈ Vs, ∀ i ∈ idsOf S V, bx' i = bx i) → dataOf S bx' ts Vs = dataOf S bx ts Vs
 | [], [], _ => rfl
 | [], _ :: _, _ => rfl
 | _ :: _, [], _ => rfl
 | t :: ts, V :: Vs, h => by
  obtain ⟨h1, h2⟩ := datum_restrict (t := t) (h V (by simp))
  simp only [dataOf, h1, h2]
  rw [dataOf_eq fun V hV => h V (by simp [hV])]
theorem dataOf_fz {bx : Bx S.C} : ∀ {ts : List Ty} {Vs : List (Sy.V S.C)} {x : Tup S.C ts} {us : Ups S.C}, dataOf S bx ts Vs = some (x, us) → FzUs bx us
 | [], [], _, _, h => by cases h; intro u hu; simp at hu
 | [], _ :: _, _, _, h => by cases h
 | _ :: _, [], _, _, h => by cases h
 | t :: ts, V :: Vs, x, us, h => by
  simp only [dataOf] at h
  obtain ⟨y, hy, h⟩ := Option.bind_eq_some_iff.1 h
  obtain ⟨⟨z, u2⟩, hz, h⟩ := Option.bind_eq_some_iff.1 h
  cases h
  exact (FzUs.freezes bx V).append (dataOf_fz hz)
theorem dataOf_ok (hS : SenOk S) (h : Inv P S w0 M0 s0 dq env a w μ) {US : Ups S.C} (hU : FzUs env.bx US) : ∀ {ts : List Ty} {Vs : List (Sy.V S.C)} {args : List Value} {x : Tup S.C ts} {us : Ups S.C},
 RVl P S w (stab S w0 M0 s0 env.bx μ w) μ env.bx Vs args → dataOf S env.bx ts Vs = some (x, us) → (∀ u ∈ us, u ∈ US) → RepVs S w (tak S w0 M0 s0 env.bx (updates env.bx US) μ w) ts x args
 | [], [], _, _, _, hv, h, _ => hv
 | [], _ :: _, _, _, _, _, h, _ => by cases h
 | _ :: _, [], _, _, _, _, h, _ => by cases h
 | t :: ts, V :: Vs, args, x, us, ⟨v, r, hargs, h1, h2⟩, hx, hs => by
  simp only [dataOf] at hx
  obtain ⟨y, hy, hx⟩ := Option.bind_eq_some_iff.1 hx
  obtain ⟨⟨z, u2⟩, hz, hx⟩ := Option.bind_eq_some_iff.1 hx
  cases hx
  obtain ⟨_, d2⟩ := datum_ok hS h (Tk.refl S env.bx) h1 hy
  refine ⟨v, r, hargs, ?_, ?_⟩
  · rw [show Tup.head (Tup.cons y z) = y from by cases ts <;> rfl]
    exact d2.mono S (tak_mono S (hU.tk (us := freezes S env.bx V) fun u hu => hs u (by simp [hu])))
  · rw [show Tup.tail (Tup.cons y z) = z from by cases ts <;> rfl]
    exact dataOf_ok hS h hU h2 hz fun u hu => hs u (by simp [hu])
theorem tupOf_ok {s : St} {bx : Bx S.C} : ∀ {ts : List Ty} {x : Tup S.C ts} {us : List Value}, RepVs S w s ts x us → RVs P S w s μ bx (tupOf S ts x) us ∧ ∀ v ∈ tupOf S ts x, idsOf S v = [] ∧ ids1 S v = []
 | [], _, _, h => ⟨h, by simp [tupOf]⟩
 | t :: ts, x, us, ⟨v, r, h1, h2, h3⟩ => by
  obtain ⟨h4, h5⟩ := tupOf_ok (bx := bx) h3
  refine ⟨⟨v, r, h1, h2, h4⟩, fun u hu => ?_⟩
  rcases List.mem_cons.1 hu with rfl | hu
  · exact ⟨rfl, rfl⟩
  · exact h5 u hu
theorem wp_data (hP : ProgOk P S byt) (h : Inv P S w0 M0 s0 dq env a w μ) (hd : ∀ d, o.dst = some d → d < a.tmps.size) {f : Nat} {args : Array Value} {us : Ups S.C} (hfz : FzUs env.bx us) {r : List Ty} {y : Tup S.C r}
 (hrun : (execOp a.eval o).run P w = .ok (.enter f args) w)
 (hc : Calls P f args w fun e w' => ∃ us', e = .returned (retV us') ∧ Chg w w' (fun _ _ => False) ∧ RepVs S w' (grown (stab S w0 M0 s0 (updates env.bx us) μ w) w w') r y us')
 (hK : Goal P S w0 M0 s0 dq env a o.dst (tupV S (tupOf S r y)) us K) : o.wp P a w K Q := by
 have h1 := h.tk hfz.tk0
 unfold Oper.wp
 rw [hrun]
 refine Calls.mono hc ?_
 rintro en w' ⟨vs, rfl, hw, hrep⟩
 obtain ⟨h2, hl⟩ := h1.world hw
 obtain ⟨h3, h4⟩ := tupOf_ok (P := P) (μ := μ) (bx := updates env.bx us) (hrep.mono S hl)
 refine hK _ w' μ (h2.put hd (RVs_tup h3) fun j hj => ?_) ?_
 · obtain ⟨v, hv, hj⟩ := ids_tup hj
   obtain ⟨e1, e2⟩ := h4 v hv
   rw [e1, e2] at hj
   simp at hj
 · cases o.dst <;> simp [Act.put]
theorem callV_ok (hP : ProgOk P S byt) {T : Tab S} (hT : ∀ e ∈ T.es, SndAt P S w0 M0 e) (hF : ∀ e ∈ T.fs, FSnd P S e) (h : Inv P S w0 M0 s0 dq env a w μ) (hd : ∀ d, o.dst = some d → d < a.tmps.size) {B : Nat} {ids : List Nat}
 {c : Call} (ho : o.op = .call c) {f : Operand} (hc : c.callee = .value f) {Vs : List (Sy.V S.C)} {Vf : Sy.V S.C} (hargs : c.args.toList.mapM (evalV S env.tm) = some Vs) (hf : evalV S env.tm f = some Vf)
 (hkn : ∀ V ∈ Vs, Known S env.bx (restrict S env.bx ids) V) (hkf : Known S env.bx (restrict S env.bx ids) Vf) (hnew : ∀ u ∈ us, B ≤ u.1 → u.1 < B + 16 → env.bx u.1 = none)
 (hl : (callV S T B (restrict S env.bx ids) Vs Vf).leaf (V, us)) (hK : Goal P S w0 M0 s0 dq env a o.dst V us K) : o.wp P a w K Q := by
 obtain ⟨hvs, _⟩ := args_ok h hargs
 obtain ⟨hvf, _⟩ := evalV_ok h hf
 have hdat : ∀ {ts : List Ty} {x : Tup S.C ts} {us : Ups S.C}, dataOf S (restrict S env.bx ids) ts Vs = some (x, us) → dataOf S env.bx ts Vs = some (x, us) := fun hx => by
  rw [dataOf_eq (bx := env.bx) fun V hV i hi => (hkn V hV i hi).1] at hx; exact hx
 cases Vf with
 | fv A R g =>
  simp only [callV] at hl
  split at hl
  · rename_i x us' hx
    obtain ⟨y, hy, hl⟩ := hl
    obtain ⟨rfl, rfl⟩ := ret_leaf hl
    have hx := hdat hx
    have hfz := dataOf_fz hx
    have hrep := (dataOf_ok hP.toSenOk h hfz hvs hx fun u hu => hu).mono S (tak_stab' hfz.tk0)
    have hvf : FnRel P S w (stab S w0 M0 s0 env.bx μ w) A R g (a.eval f) := hvf
    obtain ⟨g', first, cap, he, hok, hcall⟩ := hvf
    have := hcall w _ (tak_to_stab hfz.tk0) (h.glb.at h.chg fun _ _ h => h.elim) x _ y hrep hy
    refine wp_data hP h hd hfz (run_call ho hc he hok) ?_ hK
    rw [show (c.args.toList.map a.eval).toArray = c.args.map a.eval from by rw [← Array.toList_map, Array.toArray_toList]] at this
    exact this
  · exact hl.elim
 | fnc g vs =>
  obtain ⟨cs, he, hcs⟩ := hvf
  cases vs with
  | nil =>
   simp only [callV] at hl
   have hcs' : cs = #[] := by have h0 : cs.toList = [] := hcs; exact Array.toList_eq_nil_iff.1 h0
   subst hcs'
   refine callOp_ok hP hT hF h hd (args := c.args.map a.eval) (fun hok => ?_) (by simpa using hvs) hkn hnew hl hK
   have := run_call (w := w) ho hc he hok
   simpa using this
  | cons v vs =>
   simp only [callV] at hl
   split at hl
   · rename_i e hfind
     split at hl
     · rename_i y x us' hy hx
       obtain ⟨z, hz, hl⟩ := hl
       obtain ⟨rfl, rfl⟩ := ret_leaf hl
       have hx := hdat hx
       have hfz := dataOf_fz hx
       have hrep := (dataOf_ok hP.toSenOk h hfz hvs hx fun u hu => hu).mono S (tak_stab' hfz.tk0)
       have hmem := List.mem_of_find?_eq_some hfind
       have hef : e.f = g := by simpa using List.find?_some hfind
       obtain ⟨hok, hcall⟩ := hF e hmem
       rw [hef] at hok hcall
       have hy : caps S env.bx e.c (v :: vs) = some y := by
        rw [← caps_eq (bx := env.bx) (bx' := restrict S env.bx ids) fun u hu i hi => have q := hkf i (by simp only [idsOf, List.mem_flatMap]; exact ⟨u, hu, hi⟩); ⟨q.1, q.2.1⟩]
        exact hy
       have hcap := capss_ok hP.toSenOk h (Tk.refl S env.bx) e.c hcs hy
       have hcap2 : CapRel S w (stab S w0 M0 s0 (updates env.bx us) μ w) e.c y cs.toList := by
        refine CapRel.mono ?_ _ _ _ hcap
        exact (tak_mono S hfz.tk0).trans (tak_stab' hfz.tk0)
       refine wp_data hP h hd hfz (run_call ho hc he hok) ?_ hK
       have := hcall w _ x y z (c.args.toList.map a.eval) cs.toList (h.glb.at h.chg fun _ _ h => h.elim) hrep hcap2 hz
       rw [show (c.args.toList.map a.eval ++ cs.toList).toArray = #[] ++ c.args.map a.eval ++ cs from by simp] at this
       exact this
     · exact hl.elim
   · exact hl.elim
 | _ => exact hl.elim
theorem frozen_at {bx bx0 : Bx S.C} : ∀ (vs : List (Sy.V S.C)) (u : Nat × Box S.C), u ∈ frozenBoxes S bx0 vs → (∀ i B, bx0 i = some B → bx i = some B) → ∃ ws, u.2 = .fcells ws ∧ bx u.1 = some (.cells ws)
 | [], u, hu, _ => by simp [frozenBoxes] at hu
 | v :: vs, u, hu, h => by
  cases v with
  | ptr b off =>
   simp only [frozenBoxes, List.mem_append] at hu
   rcases hu with hu | hu
   · split at hu
     · rename_i ws hb
       simp at hu
       subst hu
       exact ⟨ws, rfl, h _ _ hb⟩
     · simp at hu
   · exact frozen_at vs u hu h
  | _ => exact frozen_at vs u hu h
theorem fcUs_at {bx : Bx S.C} {i : Nat} : ∀ {us : Ups S.C} (bx' : Bx S.C), (∀ u ∈ us, ∃ ws, u.2 = .fcells ws ∧ bx u.1 = some (.cells ws)) → updates bx' us i = bx' i ∨ ∃ ws, bx i = some (.cells ws) ∧ updates bx' us i = some (.fcells ws)
 | [], _, _ => .inl rfl
 | u :: us, bx', h => by
  rcases fcUs_at (us := us) (upd bx' u.1 (some u.2)) (fun v hv => h v (by simp [hv])) with h1 | h1
  · by_cases e : i = u.1
    · right
      obtain ⟨ws, h2, h3⟩ := h u (by simp)
      refine ⟨ws, e ▸ h3, ?_⟩
      show updates (upd bx' u.1 (some u.2)) us i = _
      rw [h1, e, upd_eq, h2]
    · left
      show updates (upd bx' u.1 (some u.2)) us i = _
      rw [h1, upd_ne _ _ e]
  · exact .inr h1
theorem Inv.freezeCells (h : Inv P S w0 M0 s0 dq env a w μ) {bx' : Bx S.C} (hk : ∀ i, bx' i = env.bx i ∨ ∃ ws, env.bx i = some (.cells ws) ∧ bx' i = some (.fcells ws)) : Inv P S w0 M0 s0 dq { env with bx := bx' } a w μ := by
 have hlv : ∀ i, live S bx' i → bx' i = env.bx i := fun i hi => by
  rcases hk i with e | ⟨ws, _, e⟩
  · exact e
  · unfold live at hi; rw [e] at hi; exact hi.elim
 have hf : ∀ i, ¬ bx' i = env.bx i → live S bx' i → False := fun i hi hl => hi (hlv i hl)
 have hl : Later w (stab S w0 M0 s0 env.bx μ w) w (stab S w0 M0 s0 bx' μ w) := h.later (T := fun _ _ => False) (U := fun i => ¬ bx' i = env.bx i) (Chg.refl w _) (fun _ _ h => h.elim) (fun i hi => ⟨Classical.not_not.1 hi, rfl⟩) (fun i hi hl => (hf i hi hl).elim)
 have hc : ∀ i B0, env.bx i = some B0 → ∃ B, bx' i = some B ∧ compat S (μ i) (μ i) B0 B := fun i B0 hB0 => by
  rcases hk i with e | ⟨ws, e1, e2⟩
  · exact ⟨B0, e.trans hB0, compat.refl S _ _⟩
  · rw [hB0] at e1; cases e1
    exact ⟨_, e2, rfl⟩
 refine h.step (T := fun _ _ => False) (U := fun i => ¬ bx' i = env.bx i) (Chg.refl w _) (fun _ _ h => h.elim) (fun i hi => ⟨Classical.not_not.1 hi, rfl⟩)
  (fun i hi hl => (hf i hi hl).elim) hc (fun i _ hi _ _ hl => (hf i hi hl).elim) (fun i B hi hB => ?_) (fun i vs hi hvs v hv j hj => ?_)
 · rcases hk i with e | ⟨ws, e1, e2⟩
   · exact absurd e hi
   · rw [e2] at hB
     cases hB
     obtain ⟨g1, g2, g3, cs, g4, g5⟩ := h.bxs i _ e1
     have hlive : live S env.bx i := by unfold live; rw [e1]; trivial
     have hlen := RVs.length P S g5
     refine ⟨g1, cs, fun j u hj => ⟨g4 j u hj, ?_⟩, RVs.step P S hl hc (h.refB i ws (.inl e1)) g5⟩
     have hj' := (List.getElem?_eq_some_iff.1 hj).1
     have hfoot : (μ i).foot (μ i).b ((μ i).o + j) := ⟨rfl, by omega, by omega⟩
     refine ⟨(live_lt P S (h.bxs i) hlive hfoot).1, (h.own i hlive _ _ hfoot).elim (fun h => .inr (.inr h)) (fun h => .inr (.inl h)), fun q hq hfq => ?_⟩
     refine h.dis q i (fun e => ?_) ((live_of S (hlv q hq)).1 hq) hlive _ _ hfq hfoot
     subst e
     unfold live at hq; rw [e2] at hq; exact hq
 · rcases hk i with e | ⟨ws, e1, e2⟩
   · exact absurd e hi
   · rw [e2] at hvs
     rcases hvs with hvs | hvs
     · cases hvs
     · cases hvs
       have := h.refB i _ (.inl e1) v hv j hj
       obtain ⟨B0, hB0⟩ := Option.ne_none_iff_exists'.1 this
       obtain ⟨B', hB', _⟩ := hc j B0 hB0
       rw [hB']; simp
theorem RVl_RVs {s : St} {bx : Bx S.C} : ∀ {vs : List (Sy.V S.C)} {cs : List Value}, vs.all (solid S) = true → RVl P S w s μ bx vs cs → RVs P S w s μ bx vs cs
 | [], _, _, h => h
 | v :: vs, _, hs, ⟨c, r, h1, h2, h3⟩ => by
  simp only [List.all_cons, Bool.and_eq_true] at hs
  refine ⟨c, r, h1, ?_, RVl_RVs hs.2 h3⟩
  cases v <;> first | exact h2 | simp [solid] at hs
theorem makeFunc_ok (h : Inv P S w0 M0 s0 dq env a w μ) (hd : ∀ d, o.dst = some d → d < a.tmps.size) {f : Nat} {cs : Array Operand} {ids : List Nat} (ho : o.op = .makeFunc (.func f) #[] cs)
 (hl : (match cs.toList.mapM (evalV S env.tm) with
  | some vs => cond (vs.all (solid S)) (okv S (.fnc f vs) (frozenBoxes S (restrict S env.bx ids) vs)) .fail
  | none => .fail).leaf (V, us)) (hK : Goal P S w0 M0 s0 dq env a o.dst V us K) : o.wp P a w K Q := by
 split at hl
 · rename_i vs hvs
   cases hs : vs.all (solid S) with
   | false => rw [hs] at hl; exact hl.elim
   | true =>
    rw [hs, cond_true] at hl
    obtain ⟨rfl, rfl⟩ := ret_leaf hl
    obtain ⟨h1, h2⟩ := args_ok h hvs
    have h3 := RVl_RVs hs h1
    have hall : ∀ i, updates env.bx (frozenBoxes S (restrict S env.bx ids) vs) i = env.bx i ∨ ∃ ws, env.bx i = some (.cells ws) ∧ updates env.bx (frozenBoxes S (restrict S env.bx ids) vs) i = some (.fcells ws) := fun i =>
     fcUs_at env.bx fun u hu => frozen_at vs u hu fun i B hB => restrict_some hB
    have hI := h.freezeCells hall
    have hc : ∀ i B0, env.bx i = some B0 → ∃ B, updates env.bx (frozenBoxes S (restrict S env.bx ids) vs) i = some B ∧ compat S (μ i) (μ i) B0 B := fun i B0 hB0 => by
     rcases hall i with e | ⟨ws, e1, e2⟩
     · exact ⟨B0, e.trans hB0, compat.refl S _ _⟩
     · rw [hB0] at e1; cases e1
       exact ⟨_, e2, rfl⟩
    have hlat : Later w (stab S w0 M0 s0 env.bx μ w) w (stab S w0 M0 s0 (updates env.bx (frozenBoxes S (restrict S env.bx ids) vs)) μ w) := fun b o ⟨q1, q2, q3⟩ => ⟨⟨q1, q2, fun i hi => q3 i (by
     rcases hall i with e | ⟨ws, _, e⟩
     · exact (live_of S e).1 hi
     · unfold live at hi; rw [e] at hi; exact hi.elim)⟩, rfl⟩
    have hids : ∀ v ∈ vs, ∀ j ∈ ids1 S v, env.bx j ≠ none := fun v hv j hj => by
     obtain ⟨x, hx, he⟩ := h2 v hv
     refine (evalV_ok h he).2 j ?_
     cases v <;> first | exact hj | simp [ids1] at hj
    unfold Oper.wp
    have hrun : (execOp a.eval o).run P w = .ok (.value (.func (.func f) #[] (cs.map a.eval))) w := by
     unfold execOp
     simp only [ho]
     simp [Instr.makeFunc]
    rw [hrun]
    refine hK _ w μ (hI.put hd (V := .fnc f vs) ⟨_, rfl, ?_⟩ fun j hj => ?_) ?_
    · have := RVs.step P S hlat hc hids h3
      simpa using this
    · simp only [idsOf, List.mem_flatMap] at hj
      obtain ⟨v, hv, hj⟩ := hj
      obtain ⟨B0, hB0⟩ := Option.ne_none_iff_exists'.1 (hids v hv j hj)
      obtain ⟨B', hB', _⟩ := hc j B0 hB0
      dsimp only
      rw [hB']; simp
    · cases o.dst <;> simp [Act.put]
 · exact hl.elim
theorem minmax_ok (h : Inv P S w0 M0 s0 dq env a w μ) (hd : ∀ d, o.dst = some d → d < a.tmps.size) {c : Call} (ho : o.op = .call c) {b : Builtin} (hc : c.callee = .builtin b) {args : List (Sy.V S.C)}
 (hargs : c.args.toList.mapM (evalV S env.tm) = some args)
 (hl : (match args with
  | [v, w] => match v.int?, w.int? with
   | some (k, x), some (k', y) => if k = k' then match b with
    | .min => okv S (.d (.int k) (Min.min (α := Int) x y)) []
    | .max => okv S (.d (.int k) (Max.max (α := Int) x y)) []
    | _ => Tr.fail else Tr.fail
   | _, _ => Tr.fail
  | _ => Tr.fail).leaf (V, us)) (hK : Goal P S w0 M0 s0 dq env a o.dst V us K) : o.wp P a w K Q := by
 split at hl
 · rename_i v u
   obtain ⟨xs, xx, hxs, hes, hex⟩ := args_two hargs
   have har : c.args = #[xs, xx] := by
    have : c.args = c.args.toList.toArray := by simp
    rw [this, hxs]
   split at hl
   · rename_i k x k' y hv hu
     split at hl
     · rename_i hkk
       subst hkk
       have e1 := int?_ok (evalV_ok h hes).1 hv
       have e2 := int?_ok (evalV_ok h hex).1 hu
       split at hl
       · obtain ⟨rfl, rfl⟩ := ret_leaf hl
         refine wp_pure (V := .d (.int k) (Min.min (α := Int) x y)) h (v := .int k (Min.min x y)) ?_ hd (int_RepV ..) (by simp [idsOf, ids1]) hK
         unfold execOp
         simp only [ho]
         simp [resolve, hc, har, e1, e2, invoke, builtin, Builtin.min_, Builtin.min2]
         split <;> first | omega | (simp; omega)
       · obtain ⟨rfl, rfl⟩ := ret_leaf hl
         refine wp_pure (V := .d (.int k) (Max.max (α := Int) x y)) h (v := .int k (Max.max x y)) ?_ hd (int_RepV ..) (by simp [idsOf, ids1]) hK
         unfold execOp
         simp only [ho]
         simp [resolve, hc, har, e1, e2, invoke, builtin, Builtin.max_, Builtin.max2]
         split <;> first | omega | (simp; omega)
       · exact hl.elim
     · exact hl.elim
   · exact hl.elim
 · exact hl.elim
end
end Go.Sy
