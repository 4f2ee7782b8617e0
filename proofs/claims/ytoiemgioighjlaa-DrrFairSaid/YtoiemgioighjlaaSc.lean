import Derived.Below
import Derived.Carry
import Derived.IntWalk
import Derived.Test.YtoiemgioighjlaaSb
set_option linter.unusedVariables false
set_option linter.unusedSimpArgs false
/-! A statement's arguments, opened. -/
namespace Go.Sy
section
variable {P : Program} {S : Sen} {byt : Nat → Nat}
def WfTup (S : Sen) (R : (t : Ty) → t.den S.C → Prop) : (ts : List Ty) → Tup S.C ts → Prop
  | [], _ => True
  | t :: ts, x => R t (Tup.head x) ∧ WfTup S R ts (Tup.tail x)
/-- Data as a program can hold them. -/
def Wf (S : Sen) (bz : Ty → Nat) : Nat → (t : Ty) → t.den S.C → Prop
  | 0, _, _ => False
  | n + 1, t, x => match t, x with
    | .int k, x => (Lit.int k x).wf = true
    | .bool, _ => True
    | .str, x => List.length x ≤ maxLen ∧ List.length x ≤ reachBytes
    | .sl e, l => List.length l ≤ maxLen ∧ List.length l * bz e ≤ reachBytes ∧ ∀ (i : Nat) (y : e.den S.C), (show List (e.den S.C) from l)[i]? = some y → Wf S bz n e y
    | .st u, x => WfTup S (fun t x => Wf S bz n t x) (S.F u) (S.ex u x)
theorem WfTup.mono {R R' : (t : Ty) → t.den S.C → Prop} (h : ∀ t x, R t x → R' t x) : ∀ (ts : List Ty) (x : Tup S.C ts), WfTup S R ts x → WfTup S R' ts x
  | [], _, _ => trivial
  | t :: ts, x, hw => ⟨h _ _ hw.1, WfTup.mono h ts _ hw.2⟩
theorem Wf.up {bz : Ty → Nat} : ∀ {n m : Nat}, n ≤ m → ∀ {t : Ty} {x : t.den S.C}, Wf S bz n t x → Wf S bz m t x
  | 0, _, _, _, _, h => h.elim
  | n + 1, 0, hm, _, _, _ => by omega
  | n + 1, m + 1, hm, t, x, h => by
    have ih := fun {t : Ty} {x : t.den S.C} => Wf.up (bz := bz) (n := n) (m := m) (by omega) (t := t) (x := x)
    cases t with
    | int k => exact h
    | bool => trivial
    | str => exact h
    | sl e => exact ⟨h.1, h.2.1, fun i y hy => ih (h.2.2 i y hy)⟩
    | st u => exact WfTup.mono (fun t x h => ih h) _ _ h
/-- The places that were there. -/
def There (w : World) : St := fun b _ => b < w.heap.size
/-- Structs: one field a cell. -/
def StOk (P : Program) (S : Sen) : Prop := ∀ t u, S.ty t = some (.st u) → ∃ fs, P.underlying t = some (.struct fs) ∧ fs.toList.length = (S.F u).length ∧
  ∀ i T, (S.F u)[i]? = some T → ∃ fd : Field, fs.toList[i]? = some fd ∧ fd.offset = i ∧ S.ty fd.type = some T
def SlOk (S : Sen) : Prop := ∀ t e, S.ty t = some (.sl e) → 1 ≤ Ty.sz S e
theorem ProgOk.cells (hP : ProgOk P S byt) {t : Nat} {T : Ty} (h : S.ty t = some T) : P.cellsOf t = Ty.sz S T := by
  obtain ⟨⟨i, z, h1, h2, _⟩, _⟩ := hP.ty t T h
  unfold Program.cellsOf
  rw [h1]; exact h2
theorem cells_some {w : World} {a : Addr} {n : Nat} {cs : List Value} (h : w.cells? 0 a n = some cs) : cs.length = n ∧ ∀ j v, cs[j]? = some v → w.cell? (a.add j) = some v := by
  unfold World.cells? at h
  rw [if_pos (Nat.zero_le _)] at h
  have key : ∀ (l : List Nat) (cs : List Value), l.mapM (fun i => w.cell? (a.add i)) = some cs → cs.length = l.length ∧ ∀ (j : Nat) (v : Value), cs[j]? = some v → ∃ i, l[j]? = some i ∧ w.cell? (a.add i) = some v := by
    intro l
    induction l with
    | nil => intro cs h; cases h; exact ⟨rfl, fun j v h => by simp at h⟩
    | cons x l ih =>
      intro cs h
      obtain ⟨y, zs, h1, h2, rfl⟩ := mapM_some_cons h
      obtain ⟨h3, h4⟩ := ih zs h2
      refine ⟨by simp [h3], fun j v hj => ?_⟩
      cases j with
      | zero => simp at hj; subst hj; exact ⟨x, rfl, h1⟩
      | succ j => obtain ⟨i, h5, h6⟩ := h4 j v (by simpa using hj); exact ⟨i, by simpa using h5, h6⟩
  obtain ⟨h1, h2⟩ := key _ _ h
  refine ⟨by simpa using h1, fun j v hj => ?_⟩
  obtain ⟨i, h3, h4⟩ := h2 j v hj
  rw [List.getElem?_range (by have := (List.getElem?_eq_some_iff.1 hj).1; simpa [h1] using this)] at h3
  cases h3
  exact h4
theorem cell_addr {w : World} {a : Addr} {v : Value} (h : w.cell? a = some v) : a.spot = none := by
  unfold World.cell? at h
  split at h
  · split at h
    · cases h
    · rename_i hs
      cases hh : a.spot with
      | none => rfl
      | some x => rw [hh] at hs; exact absurd rfl hs
  · cases h
theorem mapM_some_get {α β : Type} {f : α → Option β} : ∀ {l : List α} {ys : List β}, l.mapM f = some ys → ys.length = l.length ∧ ∀ (i : Nat) (x : α), l[i]? = some x → ∃ y, ys[i]? = some y ∧ f x = some y
  | [], ys, h => by cases h; exact ⟨rfl, fun i x h => by simp at h⟩
  | x :: l, ys, h => by
    obtain ⟨y, zs, h1, h2, rfl⟩ := mapM_some_cons h
    obtain ⟨h3, h4⟩ := mapM_some_get h2
    refine ⟨by simp [h3], fun i z hi => ?_⟩
    cases i with
    | zero => simp at hi; subst hi; exact ⟨y, rfl, h1⟩
    | succ i => obtain ⟨u, h5, h6⟩ := h4 i z (by simpa using hi); exact ⟨u, by simpa using h5, h6⟩
theorem tup_open {bz : Ty → Nat} {W : World} : ∀ (ts : List Ty) (cs : List Value), cs.length = ts.length → (∀ (i : Nat) (T : Ty) (c : Value), ts[i]? = some T → cs[i]? = some c → ∃ (x : T.den S.C) (n : Nat), Rep S W (There W) n T x [c] ∧ Wf S bz n T x) →
    ∃ (y : Tup S.C ts) (n : Nat), RepTup S (fun t x cs => Rep S W (There W) n t x cs) ts y cs ∧ WfTup S (fun t x => Wf S bz n t x) ts y
  | [], cs, hl, _ => ⟨(), 0, List.length_eq_zero_iff.1 hl, trivial⟩
  | t :: ts, [], hl, _ => by simp at hl
  | t :: ts, c :: cs, hl, h => by
    obtain ⟨x, n, h1, h2⟩ := h 0 t c rfl rfl
    obtain ⟨y, m, h3, h4⟩ := tup_open ts cs (by simpa using hl) fun i T d hi hd => h (i + 1) T d (by simpa using hi) (by simpa using hd)
    refine ⟨Tup.cons x y, max n m, ⟨c, cs, rfl, ?_, ?_⟩, ?_, ?_⟩
    · rw [show Tup.head (Tup.cons x y) = x from by cases ts <;> rfl]; exact h1.up S (by omega)
    · rw [show Tup.tail (Tup.cons x y) = y from by cases ts <;> rfl]; exact RepTup.mono S (fun t x cs hr => hr.up S (by omega)) _ _ _ h3
    · rw [show Tup.head (Tup.cons x y) = x from by cases ts <;> rfl]; exact h2.up (by omega)
    · rw [show Tup.tail (Tup.cons x y) = y from by cases ts <;> rfl]; exact WfTup.mono (fun t x hr => hr.up (by omega)) _ _ h4
theorem row_open {bz : Ty → Nat} {W : World} {e : Ty} {b o : Nat} : ∀ (n : Nat), (∀ i, i < n → ∃ ds, ds.length = Ty.sz S e ∧ At W (There W) b (o + i * Ty.sz S e) ds ∧ ∃ (x : e.den S.C) (m : Nat), Rep S W (There W) m e x ds ∧ Wf S bz m e x) →
    ∃ (l : List (e.den S.C)) (m : Nat), l.length = n ∧ Elems S (fun t x cs => Rep S W (There W) m t x cs) W (There W) e b o l ∧ ∀ (i : Nat) (y : e.den S.C), l[i]? = some y → Wf S bz m e y
  | 0, _ => ⟨[], 0, rfl, fun i x h => by simp at h, fun i y h => by simp at h⟩
  | n + 1, h => by
    obtain ⟨l, m, h1, h2, h3⟩ := row_open n fun i hi => h i (by omega)
    obtain ⟨ds, d1, d2, x, k, d3, d4⟩ := h n (by omega)
    refine ⟨l ++ [x], max m k, by simp [h1], fun i y hi => ?_, fun i y hi => ?_⟩
    · by_cases hlt : i < l.length
      · rw [List.getElem?_append_left hlt] at hi
        obtain ⟨ds', e1, e2, e3⟩ := h2 i y hi
        exact ⟨ds', e1, e2, e3.up S (by omega)⟩
      · rw [List.getElem?_append_right (by omega)] at hi
        have hi0 : i = n := by
          have := (List.getElem?_eq_some_iff.1 hi).1
          simp at this; omega
        subst hi0
        rw [h1, Nat.sub_self] at hi
        simp at hi
        subst hi
        exact ⟨ds, d1, d2, d3.up S (by omega)⟩
    · by_cases hlt : i < l.length
      · rw [List.getElem?_append_left hlt] at hi
        exact (h3 i y hi).up (by omega)
      · rw [List.getElem?_append_right (by omega)] at hi
        have hi0 : i = n := by
          have := (List.getElem?_eq_some_iff.1 hi).1
          simp at this; omega
        subst hi0
        rw [h1, Nat.sub_self] at hi
        simp at hi
        subst hi
        exact d4.up (by omega)
theorem weightsAll_mem {H : Type} {e : Nat} {d : DataW H} {n : Nat} : ∀ {l : List (DataW H)}, d ∈ l → n ∈ d.weights P e → n ∈ DataW.weightsAll P e l
  | x :: l, hm, hn => by
    simp only [DataW.weightsAll, List.mem_append]
    rcases List.mem_cons.1 hm with rfl | hm
    · exact .inl hn
    · exact .inr (weightsAll_mem hm hn)
theorem weightsEach_get {H : Type} {d : DataW H} {n : Nat} : ∀ {ts : List Nat} {l : List (DataW H)} {i t : Nat}, ts[i]? = some t → l[i]? = some d → n ∈ d.weights P t → n ∈ DataW.weightsEach P ts l
  | [], _, i, t, h, _, _ => by simp at h
  | _ :: _, [], i, t, _, h, _ => by simp at h
  | u :: ts, x :: l, i, t, h1, h2, hn => by
    simp only [DataW.weightsEach, List.mem_append]
    cases i with
    | zero => simp at h1 h2; subst h1 h2; exact .inl hn
    | succ i => exact .inr (weightsEach_get (by simpa using h1) (by simpa using h2) hn)
/-- Data in memory, as the statements say it. -/
theorem open_rep {H : Type} {enc : TypeId × Value → H} (hP : ProgOk P S byt) (hst : StOk P S) (hsl : SlOk S) {bz : Ty → Nat} (hbz : ∀ t e, S.ty t = some (.sl e) → byt t = bz e) {W : World} {spare : Nat → Bool} {held : Bool} : ∀ (fuel : Nat) {T : Ty} {t : Nat} {cs : List Value} {r : DataW H × List MemPlace}, S.ty t = some T →
    DataW.trod enc P W 0 spare held fuel t cs = some r → (∀ n ∈ r.1.weights P t, n ≤ reachBytes) → ∃ (x : T.den S.C) (n : Nat), Rep S W (There W) n T x cs ∧ Wf S bz n T x
  | 0, _, _, _, _, _, h, _ => by cases h
  | fuel + 1, T, t, cs, r, ht, h, hwt => by
    obtain ⟨_, hty⟩ := hP.ty t T ht
    cases T with
    | int k =>
      rcases cs with _ | ⟨v, _ | ⟨v', r'⟩⟩
      · simp [DataW.trod, hty] at h
      · cases v with
        | int k' n =>
          simp only [DataW.trod, hty] at h
          split at h
          · rename_i hk
            obtain ⟨rfl, hw⟩ := hk
            exact ⟨n, 1, rfl, hw⟩
          · cases h
        | _ => simp [DataW.trod, hty] at h
      · simp [DataW.trod, hty] at h
    | bool =>
      rcases cs with _ | ⟨v, _ | ⟨v', r'⟩⟩
      · simp [DataW.trod, hty] at h
      · cases v with
        | bool b => exact ⟨b, 1, rfl, trivial⟩
        | _ => simp [DataW.trod, hty] at h
      · simp [DataW.trod, hty] at h
    | str =>
      rcases cs with _ | ⟨v, _ | ⟨v', r'⟩⟩
      · simp [DataW.trod, hty] at h
      · cases v with
        | string b =>
          simp only [DataW.trod, hty] at h
          split at h
          · rename_i hk
            refine ⟨b.data.toList, 1, ?_, ?_⟩
            · show [Value.string b] = [Value.string ⟨b.data.toList.toArray⟩]
              cases b; simp
            · have hb : b.size = b.data.toList.length := by show b.data.size = _; simp
              cases h
              refine ⟨?_, hwt _ (by simp [DataW.weights])⟩
              show b.data.toList.length ≤ maxLen
              omega
          · cases h
        | _ => simp [DataW.trod, hty] at h
      · simp [DataW.trod, hty] at h
    | sl e =>
      obtain ⟨te, ie, hu, hte, hie, hib, _⟩ := hty
      have hbo : P.bytesOf te = bz e := by
        unfold Program.bytesOf
        rw [hie, ← hbz t e ht, ← hib]; rfl
      have hsz := hsl t e ht
      have hce := hP.cells hte
      rcases cs with _ | ⟨v, _ | ⟨v', r'⟩⟩
      · simp [DataW.trod, hu] at h
      · cases v with
        | slice a len cap =>
          cases a with
          | none =>
            have h00 : len = 0 ∧ cap = 0 := by
              unfold DataW.trod at h
              rw [hu] at h
              dsimp only at h
              split at h <;> simp_all
            obtain ⟨rfl, rfl⟩ := h00
            exact ⟨[], 1, ⟨none, 0, rfl, Nat.le_refl _, .inl rfl⟩, ⟨Nat.zero_le _, by simp, fun i y h => by simp at h⟩⟩
          | some a =>
            simp only [DataW.trod, hu] at h
            split at h
            · rename_i hb
              obtain ⟨_, hle, hmax⟩ := hb
              obtain ⟨elems, hel, hres⟩ := Option.bind_eq_some_iff.1 h
              obtain ⟨rest, _, hres⟩ := Option.map_eq_some_iff.1 hres
              obtain ⟨g1, g2⟩ := mapM_some_get hel
              subst hres
              have hw0 : (elems.length + rest.length) * bz e ≤ reachBytes := hwt _ (by
                simp only [DataW.weights, hu, List.length_map, hbo]
                exact List.mem_cons_self)
              have hwe : ∀ y ∈ elems, ∀ n ∈ y.1.weights P te, n ≤ reachBytes := fun y hy n hn => hwt n (by
                simp only [DataW.weights, hu]
                exact List.mem_cons_of_mem _ (List.mem_append.2 (.inl (weightsAll_mem (List.mem_map.2 ⟨y, hy, rfl⟩) hn))))
              have hel0 : elems.length = len := by simpa using g1
              have hone : ∀ i, i < len → ∃ ds, ds.length = Ty.sz S e ∧ (∀ j v, ds[j]? = some v → W.cell? ((a.add (i * Ty.sz S e)).add j) = some v) ∧ ∃ (x : e.den S.C) (m : Nat), Rep S W (There W) m e x ds ∧ Wf S bz m e x := by
                intro i hi
                obtain ⟨y, hyi, hy⟩ := g2 i i (by rw [List.getElem?_range hi])
                rw [hce] at hy
                obtain ⟨ds, hds, htr⟩ := Option.bind_eq_some_iff.1 hy
                obtain ⟨c1, c2⟩ := cells_some hds
                exact ⟨ds, c1, c2, open_rep hP hst hsl hbz fuel hte htr (hwe y (List.mem_of_getElem? hyi))⟩
              rcases Nat.eq_zero_or_pos len with h0 | h0
              · subst h0
                exact ⟨[], 1, ⟨some a, cap, rfl, Nat.zero_le _, .inl rfl⟩, ⟨Nat.zero_le _, by simp, fun i y h => by simp at h⟩⟩
              · have hsp : a.spot = none := by
                  obtain ⟨ds, d1, d2, _⟩ := hone 0 h0
                  have := d2 0 _ (List.getElem?_eq_getElem (by omega))
                  rw [Nat.zero_mul] at this
                  have e1 : (a.add 0).add 0 = a := rfl
                  rw [e1] at this
                  exact cell_addr this
                obtain ⟨b, off, spot⟩ := a
                dsimp only at hsp
                subst hsp
                obtain ⟨l, m, l1, l2, l3⟩ := row_open (W := W) (e := e) (b := b) (o := off) len fun i hi => by
                  obtain ⟨ds, d1, d2, d3⟩ := hone i hi
                  refine ⟨ds, d1, fun j v hj => ?_, d3⟩
                  have := d2 j v hj
                  rw [Addr.add_mid, Addr.add_mid] at this
                  exact ⟨this, World.block_lt_of_cell? W _ this⟩
                refine ⟨l, m + 1, ⟨some ⟨b, off, none⟩, cap, ?_, ?_, .inr ⟨b, off, rfl, l2⟩⟩, ⟨?_, ?_, l3⟩⟩
                · show [Value.slice _ len cap] = [Value.slice _ l.length cap]
                  rw [l1]
                · show l.length ≤ cap
                  omega
                · show l.length ≤ maxLen
                  omega
                · show l.length * bz e ≤ reachBytes
                  have : l.length * bz e ≤ (elems.length + rest.length) * bz e := Nat.mul_le_mul_right _ (by omega)
                  omega
            · cases h
        | _ => simp [DataW.trod, hu] at h
      · simp [DataW.trod, hu] at h
    | st u =>
      obtain ⟨fs, hu, hlen, hfs⟩ := hst t u ht
      have hct := hP.cells ht
      have htr : DataW.trod enc P W 0 spare held (fuel + 1) t cs = (if cs.length = P.cellsOf t then (fs.toList.mapM fun f => DataW.trod enc P W 0 spare held fuel f.type ((cs.drop f.offset).take (P.cellsOf f.type))).map fun xs => (.agg (xs.map (·.1)), xs.flatMap (·.2)) else none) := by
        rcases cs with _ | ⟨v, _ | ⟨v', r'⟩⟩
        · simp only [DataW.trod, hu]
        · cases v <;> simp only [DataW.trod, hu]
        · simp only [DataW.trod, hu]
      rw [htr] at h
      split at h
      · rename_i hcl
        rw [hct] at hcl
        have hcl : cs.length = (S.F u).length := hcl
        obtain ⟨xs, hxs, hres⟩ := Option.map_eq_some_iff.1 h
        subst hres
        obtain ⟨g1, g2⟩ := mapM_some_get hxs
        obtain ⟨y, n, h1, h2⟩ := tup_open (S := S) (W := W) (S.F u) cs hcl fun i T c hT hc => by
          obtain ⟨fd, f1, f2, f3⟩ := hfs i T hT
          obtain ⟨z, hzi, hz⟩ := g2 i fd f1
          have hsz1 : Ty.sz S T = 1 := by
            have := List.all_eq_true.1 (hP.flat u) T (List.mem_of_getElem? hT)
            cases T with
            | st w => simp [isSt] at this
            | _ => rfl
          rw [hP.cells f3, hsz1, f2] at hz
          have hd : (cs.drop i).take 1 = [c] := by
            have hil := (List.getElem?_eq_some_iff.1 hc).1
            rw [List.take_one, List.head?_drop, hc]; rfl
          rw [hd] at hz
          refine open_rep hP hst hsl hbz fuel f3 hz fun n hn => hwt n ?_
          simp only [DataW.weights, hu]
          exact weightsEach_get (i := i) (t := fd.type) (d := z.1) (by simp [f1]) (by simp [hzi]) hn
        refine ⟨S.im u y, n + 1, ?_, ?_⟩
        · show RepTup S _ (S.F u) (S.ex u (S.im u y)) cs
          rw [hP.exim]; exact h1
        · show WfTup S _ (S.F u) (S.ex u (S.im u y))
          rw [hP.exim]; exact h2
      · cases h
end
end Go.Sy
/-! A statement's arguments; a law's call. -/
namespace Go.Sy
section
variable {P : Program} {S : Sen} {byt : Nat → Nat}
abbrev dks (Ts : List Ty) : List K := Ts.map fun t => .val (.data t)
def WfKs (S : Sen) (bz : Ty → Nat) (n : Nat) : (Ts : List Ty) → Ks S.C (dks Ts) → Prop
  | [], _ => True
  | t :: ts, x => Wf S bz n t (Ks.head (t := .val (.data t)) (ts := dks ts) x) ∧ WfKs S bz n ts (Ks.tail (t := .val (.data t)) (ts := dks ts) x)
theorem WfKs.up {bz : Ty → Nat} {n m : Nat} (hm : n ≤ m) : ∀ {Ts : List Ty} {x : Ks S.C (dks Ts)}, WfKs S bz n Ts x → WfKs S bz m Ts x
  | [], _, _ => trivial
  | t :: ts, x, h => ⟨h.1.up hm, WfKs.up hm h.2⟩
theorem okWide_agg (hP : ProgOk P S byt) {t : Nat} {T : Ty} (ht : S.ty t = some T) {W : World} {r : Reach} {base : Nat} {v : Value} (h : Value.okWide P W r base t v) : isAgg v = isSt T := by
  obtain ⟨_, hty⟩ := hP.ty t T ht
  cases T with
  | st u =>
    obtain ⟨_, hty⟩ := hty
    unfold Value.okWide at h
    cases ha : S.ar t with
    | none =>
      rw [ha] at hty
      obtain ⟨fs, hu, _⟩ := hty
      rw [hu] at h
      obtain ⟨cs, rfl, _⟩ := h
      rfl
    | some p =>
      rw [ha] at hty
      obtain ⟨te, hu, _⟩ := hty
      rw [hu] at h
      obtain ⟨cs, rfl, _⟩ := h
      rfl
  | int k =>
    unfold Value.okWide at h
    rw [hty] at h
    cases v <;> first | rfl | simp [Cell.okWide, Cell.ok, hty] at h
  | bool =>
    unfold Value.okWide at h
    rw [hty] at h
    cases v <;> first | rfl | simp [Cell.okWide, Cell.ok, hty] at h
  | str =>
    unfold Value.okWide at h
    rw [hty] at h
    cases v <;> first | rfl | simp [Cell.okWide, Cell.ok, hty] at h
  | sl e =>
    obtain ⟨te, ie, hu, _⟩ := hty
    unfold Value.okWide at h
    rw [hu] at h
    cases v <;> first | rfl | simp [Cell.okWide, Cell.ok, hu] at h
theorem open_args {H : Type} {enc : TypeId × Value → H} (hP : ProgOk P S byt) (hst : StOk P S) (hsl : SlOk S) {bz : Ty → Nat} (hbz : ∀ t e, S.ty t = some (.sl e) → byt t = bz e) {W : World} {r : Reach} {base : Nat} :
    ∀ (Ts : List Ty) (ts : List Nat) (args : List Value) (ds : List (DataW H)) (p : List MemPlace), ts.map S.ty = Ts.map some → DataW.TrodAll enc P W 0 (fun _ => true) true ts args ds p → (∀ n ∈ DataW.weightsEach P ts ds, n ≤ reachBytes) →
    (∀ (j : Nat) t v, ts[j]? = some t → args[j]? = some v → Value.okWide P W r base t v) →
    ∃ (x : Ks S.C (dks Ts)) (n : Nat), KsRel P S W (There W) (fun _ _ => False) (dks Ts) x args ∧ WfKs S bz n Ts x
  | [], [], [], [], p, _, _, _, _ => ⟨(), 0, ⟨fun _ _ h => h, rfl⟩, trivial⟩
  | T :: Ts, t :: ts, v :: args, d :: ds, p, hts, ⟨p1, q1, h1, h2, _⟩, hw, hok => by
    simp only [List.map_cons, List.cons.injEq] at hts
    obtain ⟨fuel, hf⟩ := h1
    obtain ⟨x, n, hx, hwx⟩ := open_rep hP hst hsl hbz fuel hts.1 hf fun m hm => hw m (by simp only [DataW.weightsEach, List.mem_append]; exact .inl hm)
    obtain ⟨y, m, hy, hwy⟩ := open_args hP hst hsl hbz Ts ts args ds q1 hts.2 h2 (fun m hm => hw m (by simp only [DataW.weightsEach, List.mem_append]; exact .inr hm)) fun j t v hj hv => hok (j + 1) t v (by simpa using hj) (by simpa using hv)
    have hag := okWide_agg hP hts.1 (hok 0 t v rfl rfl)
    refine ⟨Ks.cons (t := .val (.data T)) (ts := dks Ts) x y, max n m, ⟨fun _ _ => False, fun _ _ => False, v, args, ⟨fun _ _ => ⟨fun h => h.elim, fun h => h.elim id id⟩, fun _ _ h => h.elim⟩, rfl, ?_, ?_⟩, ?_, ?_⟩
    · rw [show Ks.head (Ks.cons (t := .val (.data T)) (ts := dks Ts) x y) = x from by cases Ts <;> rfl]
      exact ⟨⟨fun _ _ h => h, n, hx⟩, hag⟩
    · rw [show Ks.tail (Ks.cons (t := .val (.data T)) (ts := dks Ts) x y) = y from by cases Ts <;> rfl]
      exact hy
    · rw [show Ks.head (Ks.cons (t := .val (.data T)) (ts := dks Ts) x y) = x from by cases Ts <;> rfl]
      exact hwx.up (by omega)
    · rw [show Ks.tail (Ks.cons (t := .val (.data T)) (ts := dks Ts) x y) = y from by cases Ts <;> rfl]
      exact hwy.up (by omega)
  | [], _ :: _, _, _, _, h, _, _, _ => by simp at h
  | _ :: _, [], _, _, _, h, _, _, _ => by simp at h
  | _, [], _ :: _, _, _, _, h, _, _ => by cases h
  | _, [], [], _ :: _, _, _, h, _, _ => by cases h
  | _, _ :: _, [], _, _, _, h, _, _ => by cases h
  | _, _ :: _, _ :: _, [], _, _, h, _, _ => by cases h
theorem Chg.below {W W' : World} {M : St} (h : Chg W W' M) (hM : NoSt M) : RowKit.Below W.heap.size W W' :=
  ⟨h.os, h.tape, h.output, h.size, fun k hk => h.same k hk fun o => hM k o⟩
/-- A law's call. -/
theorem law_calls {f : Nat} {ps : List K} {sp : Ks S.C ps → Option (Ks S.C ([.val (.data .bool)] ++ outs ps))} (hs : Snd P S ⟨f, ps, [.val (.data .bool)], sp⟩) {W : World} {M : St} (hM : NoSt M) {x : Ks S.C ps} {args : List Value} (hx : KsRel P S W (There W) M ps x args)
    {r : Ks S.C ([.val (.data .bool)] ++ outs ps)} (hsp : sp x = some r) (hr : (Ks.head (t := .val (.data .bool)) (ts := outs ps) r : Bool) = true) :
    Calls P f args.toArray W fun e W' => e = .returned (.bool true) ∧ RowKit.Below W.heap.size W W' := by
  refine (hs.2 W (There W) M x args r hx (fun b o h => ⟨h, hM b o⟩) hsp).mono fun e W' ⟨us, s', M', he, hc, hk, _⟩ => ⟨?_, hc.below hM⟩
  have hlen := KsRel.length hk
  have hla := KsRel.length hx
  dsimp only at hlen hla
  have hol := outArgs_len ps args hla
  rw [List.length_append, hol] at hlen
  have h1 : us.length = 1 := by simp at hlen; omega
  obtain ⟨u, rfl⟩ := List.length_eq_one_iff.1 h1
  obtain ⟨M1, M2, v, r', _, hv, hk1, _⟩ := hk
  cases hv
  subst he
  obtain ⟨⟨_, n, hn⟩, hag⟩ := hk1
  have := RepV_bool (w := W') (s := s') ⟨hag, n, hn⟩
  rw [this]
  rw [hr]
  rfl
end
end Go.Sy
/-! What the arguments led to is as it was. -/
namespace Go.Sy
section
variable {P : Program}
theorem carry_all {H : Type} {enc : TypeId × Value → H} (hl : laidOutB P = true) {W W' : World} (hb : RowKit.Below W.heap.size W W') : ∀ (ts : List Nat) (args : List Value) (ds : List (DataW H)) (p : List MemPlace),
    (ts.all fun t => P.readableRec t && Nat.blt t P.types.size) = true → DataW.TrodAll enc P W 0 (fun _ => true) true ts args ds p → DataW.TrodAll enc P W' 0 (fun b => decide (b < W.heap.size)) true ts args ds p
  | [], [], [], p, _, h => h
  | t :: ts, v :: args, d :: ds, p, ht, ⟨p1, q1, h1, h2, hp⟩ => by
    simp only [List.all_cons, Bool.and_eq_true] at ht
    refine ⟨p1, q1, RowKit.Below.trod hl ht.1.1 (Nat.le_of_ble_eq_true ht.1.2) h1 hb (by obtain ⟨m, hm⟩ := h1; exact DataW.trod_lt m _ _ _ hm), carry_all hl hb ts args ds q1 ht.2 h2, hp⟩
  | [], _ :: _, _, _, _, h => by cases h
  | [], [], _ :: _, _, _, h => by cases h
  | _ :: _, [], _, _, _, h => by cases h
  | _ :: _, _ :: _, [], _, _, h => by cases h
end
end Go.Sy
/-! Limits over fuel; function values out of functions; words of the printer. -/
namespace Go.Sy
section
variable {P : Program} {S : Sen}
/-- What a function with fuel says in the end. -/
noncomputable def lim {α β : Type} (f : Nat → α → Option β) (x : α) : Option β :=
  open Classical in if h : ∃ r K, ∀ k, K ≤ k → f k x = some r then some h.choose else none
theorem lim_eq {α β : Type} {f : Nat → α → Option β} {x : α} {r : β} (K : Nat) (h : ∀ k, K ≤ k → f k x = some r) : lim f x = some r := by
  unfold lim
  have hx : ∃ r K, ∀ k, K ≤ k → f k x = some r := ⟨r, K, h⟩
  rw [dif_pos hx]
  obtain ⟨K', h'⟩ := hx.choose_spec
  have h1 := h (max K K') (Nat.le_max_left ..)
  rw [h' (max K K') (Nat.le_max_right ..)] at h1
  exact h1
theorem lim_some {α β : Type} {f : Nat → α → Option β} {x : α} {r : β} (h : lim f x = some r) : ∃ k, f k x = some r := by
  unfold lim at h
  split at h
  · rename_i hx
    cases h
    obtain ⟨K, h'⟩ := hx.choose_spec
    exact ⟨K, h' K (Nat.le_refl _)⟩
  · cases h
theorem Snd.lim {f : Nat} {ps rs : List K} {sp : Nat → Ks S.C ps → Option (Ks S.C (rs ++ outs ps))} (h : ∀ k, Snd P S ⟨f, ps, rs, sp k⟩) : Snd P S ⟨f, ps, rs, Sy.lim sp⟩ :=
  ⟨(h 0).1, fun w s M x args r hx hs hr => by
    obtain ⟨k, hk⟩ := lim_some hr
    exact (h k).2 w s M x args r hx hs hk⟩
theorem Snd.none {f : Nat} {ps rs : List K} {sp : Ks S.C ps → Option (Ks S.C (rs ++ outs ps))} (hf : FnOk P f) (h : ∀ x, sp x = .none) : Snd P S ⟨f, ps, rs, sp⟩ :=
  ⟨hf, fun w s M x args r hx hs hr => by dsimp only at hr; rw [h x] at hr; cases hr⟩
end
abbrev w64 (n : Int) : Int := IntKind.i64.wrap n
abbrev w32 (n : Int) : Int := IntKind.i32.wrap n
abbrev w16 (n : Int) : Int := IntKind.i16.wrap n
abbrev w8 (n : Int) : Int := IntKind.i8.wrap n
abbrev wu64 (n : Int) : Int := IntKind.u64.wrap n
abbrev wu32 (n : Int) : Int := IntKind.u32.wrap n
abbrev wu16 (n : Int) : Int := IntKind.u16.wrap n
abbrev wu8 (n : Int) : Int := IntKind.u8.wrap n
def ac (cuts : List Nat) (f : Func) : AC := match f.body with | some c => (AC.of cuts c 0 0).1 | none => .ret
theorem ac_code (cuts : List Nat) (f : Func) {c : Code} (h : f.body = some c) : (ac cuts f).code = c := by unfold ac; rw [h]; exact AC.code_of cuts c 0 0
theorem all_nil {α : Type _} {p : α → Prop} : ∀ e ∈ ([] : List α), p e := fun _ h => by cases h
theorem all_cons {α : Type _} {p : α → Prop} {a : α} {l : List α} (h : p a) (h' : ∀ e ∈ l, p e) : ∀ e ∈ a :: l, p e := List.forall_mem_cons.2 ⟨h, h'⟩
end Go.Sy
/-! Arguments' tables, checked. -/
namespace Go.Sy
/-- One field a cell, checked. -/
def stChk (S : Sen) : (fs : List Field) → (ts : List Ty) → (i : Nat) → Bool
  | [], [], _ => true
  | fd :: fs, T :: ts, i => Nat.beq fd.offset i && (match S.ty fd.type with | some T' => decide (T' = T) | none => false) && stChk S fs ts (i + 1)
  | _, _, _ => false
theorem stChk_ok {S : Sen} : ∀ {fs : List Field} {ts : List Ty} {i0 : Nat}, stChk S fs ts i0 = true → fs.length = ts.length ∧ ∀ i T, ts[i]? = some T → ∃ fd : Field, fs[i]? = some fd ∧ fd.offset = i0 + i ∧ S.ty fd.type = some T
  | [], [], _, _ => ⟨rfl, fun i T h => by simp at h⟩
  | fd :: fs, T :: ts, i0, h => by
    simp only [stChk, Bool.and_eq_true] at h
    obtain ⟨⟨h1, h2⟩, h3⟩ := h
    obtain ⟨h4, h5⟩ := stChk_ok h3
    refine ⟨by simp [h4], fun i U hi => ?_⟩
    cases i with
    | zero =>
      simp at hi
      subst hi
      refine ⟨fd, rfl, Nat.eq_of_beq_eq_true h1, ?_⟩
      split at h2
      · rename_i T2 hT2
        rw [hT2, of_decide_eq_true h2]
      · cases h2
    | succ i =>
      obtain ⟨fd', h6, h7, h8⟩ := h5 i U (by simpa using hi)
      exact ⟨fd', by simpa using h6, by omega, h8⟩
  | [], _ :: _, _, h => by cases h
  | _ :: _, [], _, h => by cases h
theorem stOk_of {P : Program} {S : Sen} {t u : Nat} {fs : Array Field} (h : P.underlying t = some (.struct fs)) (hc : stChk S fs.toList (S.F u) 0 = true) : ∃ fs, P.underlying t = some (.struct fs) ∧ fs.toList.length = (S.F u).length ∧
  ∀ i T, (S.F u)[i]? = some T → ∃ fd : Field, fs.toList[i]? = some fd ∧ fd.offset = i ∧ S.ty fd.type = some T := by
  obtain ⟨h1, h2⟩ := stChk_ok hc
  exact ⟨fs, h, h1, fun i T hi => by
    obtain ⟨fd, h3, h4, h5⟩ := h2 i T hi
    exact ⟨fd, h3, by omega, h5⟩⟩
theorem wf_int {S : Sen} {bz : Ty → Nat} {n : Nat} {k : IntKind} {x : Int} (h : Wf S bz n (.int k) x) : (Lit.int k x).wf = true := by
  cases n with
  | zero => exact h.elim
  | succ n => exact h
theorem wf_sl {S : Sen} {bz : Ty → Nat} {n : Nat} {e : Ty} {l : List (e.den S.C)} (h : Wf S bz n (.sl e) l) : ∃ m, List.length l ≤ maxLen ∧ List.length l * bz e ≤ reachBytes ∧ ∀ (i : Nat) (y : e.den S.C), l[i]? = some y → Wf S bz m e y := by
  cases n with
  | zero => exact h.elim
  | succ n => exact ⟨n, h.1, h.2.1, h.2.2⟩
theorem wf_str {S : Sen} {bz : Ty → Nat} {n : Nat} {l : List UInt8} (h : Wf S bz n .str l) : List.length l ≤ reachBytes := by
  cases n with
  | zero => exact h.elim
  | succ n => exact h.2
theorem wf_st {S : Sen} {bz : Ty → Nat} {n : Nat} {u : Nat} {x : S.C u} (h : Wf S bz n (.st u) x) : ∃ m, WfTup S (fun t x => Wf S bz m t x) (S.F u) (S.ex u x) := by
  cases n with
  | zero => exact h.elim
  | succ n => exact ⟨n, h⟩
theorem wf_range {S : Sen} {bz : Ty → Nat} {n : Nat} {k : IntKind} {x : Int} (h : Wf S bz n (.int k) x) : k.min ≤ x ∧ x ≤ k.max := by
  have := wf_int h
  simp only [Lit.wf, Bool.and_eq_true, decide_eq_true_eq] at this
  exact this
theorem wf_u8 {S : Sen} {bz : Ty → Nat} {n : Nat} {x : Int} (h : Wf S bz n (.int .u8) x) : 0 ≤ x ∧ x ≤ 255 := wf_range h
theorem wf_u16 {S : Sen} {bz : Ty → Nat} {n : Nat} {x : Int} (h : Wf S bz n (.int .u16) x) : 0 ≤ x ∧ x ≤ 65535 := wf_range h
theorem wf_i64 {S : Sen} {bz : Ty → Nat} {n : Nat} {x : Int} (h : Wf S bz n (.int .i64) x) : -9223372036854775808 ≤ x ∧ x ≤ 9223372036854775807 := wf_range h
end Go.Sy
/-! Function values out of functions. -/
namespace Go.Sy
section
variable {P : Program} {S : Sen}
/-- Of the places that are relied on those that are there. -/
def Low1 (w : World) (s : St) : St := fun b o => s b o ∧ b < w.heap.size
theorem At.low {w : World} {s : St} {b o : Nat} {cs : List Value} (h : At w s b o cs) : At w (Low1 w s) b o cs := fun j v hj =>
  ⟨(h j v hj).1, (h j v hj).2, World.block_lt_of_cell? w _ (h j v hj).1⟩
theorem RepTup.map {R R' : (t : Ty) → t.den S.C → List Value → Prop} (h : ∀ t x cs, R t x cs → R' t x cs) (ts : List Ty) (x : Tup S.C ts) (cs : List Value) (hr : RepTup S R ts x cs) : RepTup S R' ts x cs := RepTup.mono S h ts x cs hr
theorem Rep.low {w : World} {s : St} : ∀ {n : Nat} {t : Ty} {x : t.den S.C} {cs : List Value}, Rep S w s n t x cs → Rep S w (Low1 w s) n t x cs
  | 0, _, _, _, h => h.elim
  | n + 1, t, x, cs, h => by
    cases t with
    | int k => exact h
    | bool => exact h
    | str => exact h
    | sl e =>
      obtain ⟨a, cap, h1, h2, h3⟩ := h
      refine ⟨a, cap, h1, h2, h3.imp id fun ⟨b, o, h4, h5⟩ => ⟨b, o, h4, fun i y hi => ?_⟩⟩
      obtain ⟨ds, d1, d2, d3⟩ := h5 i y hi
      exact ⟨ds, d1, d2.low, Rep.low d3⟩
    | st u => exact RepTup.map (fun t x cs hr => Rep.low hr) _ _ _ h
theorem RepVs.low {w : World} {s : St} : ∀ (ts : List Ty) (x : Tup S.C ts) (vs : List Value), RepVs S w s ts x vs → RepVs S w (Low1 w s) ts x vs
  | [], _, _, h => h
  | _ :: ts, _, _, ⟨v, r, h1, ⟨h2, n, h3⟩, h4⟩ => ⟨v, r, h1, ⟨h2, n, h3.low⟩, RepVs.low ts _ _ h4⟩
theorem CapRel.low {w : World} {s : St} : ∀ (ts : List Ty) (x : Tup S.C ts) (vs : List Value), CapRel S w s ts x vs → CapRel S w (Low1 w s) ts x vs
  | [], _, _, h => h
  | _ :: ts, _, _, ⟨v, r, h1, ⟨b, o, ds, g1, g2, g3, n, g4⟩, h4⟩ => ⟨v, r, h1, ⟨b, o, ds, g1, g2.low, g3, n, g4.low⟩, CapRel.low ts _ _ h4⟩
def ros (c : List Ty) : List K := c.map .ro
def ksRo : (c : List Ty) → Tup S.C c → Ks S.C (ros c)
  | [], _ => ()
  | t :: ts, y => Ks.cons (t := .ro t) (ts := ros ts) (Tup.head y) (ksRo ts (Tup.tail y))
def ksOf : (a c : List Ty) → Tup S.C a → Tup S.C c → Ks S.C (dks a ++ ros c)
  | [], c, _, y => ksRo c y
  | t :: ts, c, x, y => Ks.cons (t := .val (.data t)) (ts := dks ts ++ ros c) (Tup.head x) (ksOf ts c (Tup.tail x) y)
def backR : (r : List Ty) → (os : List K) → Ks S.C (dks r ++ os) → Tup S.C r
  | [], _, _ => ()
  | t :: ts, os, q => Tup.cons (Ks.head (t := .val (.data t)) (ts := dks ts ++ os) q) (backR ts os (Ks.tail (t := .val (.data t)) (ts := dks ts ++ os) q))
theorem ksRo_rel {w : World} {s : St} : ∀ (c : List Ty) (y : Tup S.C c) (vs : List Value), CapRel S w s c y vs → KsRel P S w s (fun _ _ => False) (ros c) (ksRo c y) vs
  | [], _, _, h => ⟨fun _ _ h => h, h⟩
  | t :: ts, y, vs, ⟨v, r, h1, h2, h3⟩ => by
    refine ⟨fun _ _ => False, fun _ _ => False, v, r, ⟨fun _ _ => ⟨fun h => h.elim, fun h => h.elim id id⟩, fun _ _ h => h.elim⟩, h1, ?_, ?_⟩
    · rw [show Ks.head (ksRo (t :: ts) y) = Tup.head y from by cases ts <;> rfl]
      exact ⟨fun _ _ h => h, h2⟩
    · rw [show Ks.tail (ksRo (t :: ts) y) = ksRo ts (Tup.tail y) from by cases ts <;> rfl]
      exact ksRo_rel ts _ _ h3
theorem ksOf_rel {w : World} {s : St} : ∀ (a c : List Ty) (x : Tup S.C a) (y : Tup S.C c) (vs us : List Value), RepVs S w s a x vs → CapRel S w s c y us → KsRel P S w s (fun _ _ => False) (dks a ++ ros c) (ksOf a c x y) (vs ++ us)
  | [], c, _, y, vs, us, h, hc => by cases h; exact ksRo_rel c y us hc
  | t :: ts, c, x, y, vs, us, ⟨v, r, h1, h2, h3⟩, hc => by
    subst h1
    refine ⟨fun _ _ => False, fun _ _ => False, v, r ++ us, ⟨fun _ _ => ⟨fun h => h.elim, fun h => h.elim id id⟩, fun _ _ h => h.elim⟩, rfl, ?_, ?_⟩
    · rw [show Ks.head (ksOf (t :: ts) c x y) = Tup.head x from by cases ts <;> cases c <;> rfl]
      exact ⟨⟨fun _ _ h => h, h2.2⟩, h2.1⟩
    · rw [show Ks.tail (ksOf (t :: ts) c x y) = ksOf ts c (Tup.tail x) y from by cases ts <;> cases c <;> rfl]
      exact ksOf_rel ts c _ _ r us h3 hc
theorem outs_data : ∀ (a c : List Ty), outs (dks a ++ ros c) = []
  | [], [] => rfl
  | [], _ :: c => outs_data [] c
  | _ :: a, c => outs_data a c
theorem outArgs_data : ∀ (a c : List Ty) (vs : List Value), outArgs (dks a ++ ros c) vs = []
  | [], [], vs => by cases vs <;> rfl
  | [], _ :: c, [] => rfl
  | [], _ :: c, _ :: vs => outArgs_data [] c vs
  | _ :: a, c, [] => rfl
  | _ :: a, c, _ :: vs => outArgs_data a c vs
theorem backR_rel {w : World} {s M : St} : ∀ (r : List Ty) (os : List K) (q : Ks S.C (dks r ++ os)) (us : List Value), os = [] → KsRel P S w s M (dks r ++ os) q us → RepVs S w s r (backR r os q) us
  | [], os, q, us, ho, h => by subst ho; exact h.2
  | t :: ts, os, q, us, ho, ⟨M1, M2, v, r, h1, h2, h3, h4⟩ => by
    refine ⟨v, r, h2, ?_, ?_⟩
    · rw [show Tup.head (backR (t :: ts) os q) = Ks.head (t := .val (.data t)) (ts := dks ts ++ os) q from by cases ts <;> rfl]
      exact ⟨h3.2, h3.1.2⟩
    · rw [show Tup.tail (backR (t :: ts) os q) = backR ts os (Ks.tail (t := .val (.data t)) (ts := dks ts ++ os) q) from by cases ts <;> rfl]
      exact backR_rel ts os _ r ho h4
/-- A function of data, and of what is captured, as a function value. -/
theorem FSnd.of {f : Nat} {a c r : List Ty} {sp : Ks S.C (dks a ++ ros c) → Option (Ks S.C (dks r ++ outs (dks a ++ ros c)))} (h : Snd P S ⟨f, dks a ++ ros c, dks r, sp⟩) {g : Tup S.C a → Tup S.C c → Option (Tup S.C r)}
    (hg : ∀ x y z, g x y = some z → ∃ q, sp (ksOf a c x y) = some q ∧ backR r _ q = z) : FSnd P S ⟨f, a, c, r, g⟩ := by
  refine ⟨h.1, fun w s x y z args caps hx hy hz => ?_⟩
  obtain ⟨q, hq, rfl⟩ := hg x y z hz
  refine (h.2 w (Low1 w s) (fun _ _ => False) (ksOf a c x y) (args ++ caps) q (ksOf_rel a c x y args caps (RepVs.low a x args hx) (CapRel.low c y caps hy)) (fun b o hb => ⟨hb.2, id⟩) hq).mono ?_
  rintro en w' ⟨us, s', M', he, hc, hk, hs, _⟩
  rw [outArgs_data, List.append_nil] at hk
  refine ⟨us, he, hc, ?_⟩
  refine RepVs.mono S (fun b o hbo => ⟨?_, rfl⟩) r _ us (backR_rel r _ q us (outs_data a c) hk)
  obtain ⟨h1, _, h3⟩ := hs b o hbo
  rcases h3 with h3 | h3 | h3
  · exact .inl h3.1
  · exact h3.elim
  · exact .inr ⟨h3, h1⟩
/-! ### Another table of types -/
/-- The same structs, another table. -/
abbrev Sen.withT (S : Sen) (ty : Nat → Option Ty) (pt : Nat → Bool) (ar : Nat → Option (Nat × Ty)) (eq : Nat → Bool) : Sen := ⟨S.C, S.F, S.ex, S.im, S.fld, S.z, ty, pt, ar, eq⟩
theorem Rep_with {ty : Nat → Option Ty} {pt : Nat → Bool} {ar : Nat → Option (Nat × Ty)} {eq : Nat → Bool} {w : World} {s : St} : ∀ (n : Nat) (t : Ty) (x : t.den S.C) (cs : List Value), Rep (S.withT ty pt ar eq) w s n t x cs → Rep S w s n t x cs
  | 0, _, _, _, h => h
  | n + 1, t, x, cs, h => by
    cases t with
    | int k => exact h
    | bool => exact h
    | str => exact h
    | sl e =>
      obtain ⟨a, cap, h1, h2, h3⟩ := h
      refine ⟨a, cap, h1, h2, h3.imp id fun ⟨b, o, h4, h5⟩ => ⟨b, o, h4, fun i y hi => ?_⟩⟩
      obtain ⟨ds, d1, d2, d3⟩ := h5 i y hi
      exact ⟨ds, d1, d2, Rep_with n e y ds d3⟩
    | st u =>
      have go : ∀ (ts : List Ty) (y : Tup S.C ts) (cs : List Value), RepTup (S.withT ty pt ar eq) (fun t x cs => Rep (S.withT ty pt ar eq) w s n t x cs) ts y cs → RepTup S (fun t x cs => Rep S w s n t x cs) ts y cs := by
        intro ts
        induction ts with
        | nil => intro y cs h; exact h
        | cons t ts ih =>
          rintro y cs ⟨c, r, h1, h2, h3⟩
          exact ⟨c, r, h1, Rep_with n t _ _ h2, ih _ _ h3⟩
      exact go _ _ _ h
theorem KsRel_with {ty : Nat → Option Ty} {pt : Nat → Bool} {ar : Nat → Option (Nat × Ty)} {eq : Nat → Bool} {w : World} {s : St} : ∀ (Ts : List Ty) (M : St) (x : Ks S.C (dks Ts)) (vs : List Value), KsRel P (S.withT ty pt ar eq) w s M (dks Ts) x vs → KsRel P S w s M (dks Ts) x vs
  | [], _, _, _, h => h
  | t :: ts, M, x, vs, ⟨M1, M2, v, r, h1, h2, ⟨⟨h3, n, h4⟩, h5⟩, h6⟩ => ⟨M1, M2, v, r, h1, h2, ⟨⟨h3, n, Rep_with n t _ _ h4⟩, h5⟩, KsRel_with ts M2 _ r h6⟩
end
end Go.Sy
/-! Small laws for plain proofs. -/
namespace Go.Sy
theorem w64_in {n : Int} (h1 : -9223372036854775808 ≤ n) (h2 : n ≤ 9223372036854775807) : w64 n = n := IntWalk.i64_in n ⟨h1, h2⟩
theorem wu8_in {n : Int} (h1 : 0 ≤ n) (h2 : n ≤ 255) : wu8 n = n := IntWalk.u8_in n ⟨h1, h2⟩
theorem bind_some_eq {α β : Type} (a : α) (f : α → Option β) : (some a).bind f = f a := rfl
/-- A test that holds. -/
theorem ite_t {α : Type} {p : Prop} [Decidable p] {a b : α} (h : p) : (if p then a else b) = a := if_pos h
theorem ite_f {α : Type} {p : Prop} [Decidable p] {a b : α} (h : ¬ p) : (if p then a else b) = b := if_neg h
theorem getD_lt {α : Type} {l : List α} {i : Nat} (d : α) (h : i < l.length) : l.getD i d = l[i] := by simp [h]
end Go.Sy
