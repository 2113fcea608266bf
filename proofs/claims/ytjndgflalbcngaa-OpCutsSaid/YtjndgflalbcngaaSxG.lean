/- What an argument holds, by its type's shape; and how a law's row follows from the contract of its function. -/
import Derived.Test.YtjndgflalbcngaaSxF
import Derived.OpenShut
import Derived.ProofKit
import Derived.ShutString
import Derived.ChangeOld
import Derived.SizedLaws
set_option linter.unusedVariables false
set_option linter.unusedSimpArgs false
namespace Go.Sx
open Go.RowKit Go.ChangeShapes Go.WideShapes

/-- A type's shape. -/
inductive Sh where
  | int (k : IntKind) | bool
  | agg (n : Nat) (fs : List (Nat × Nat × Sh))
  | sl (n : Nat) (e : Sh)
mutual
/-- What cells of this shape hold. -/
def Rd (w : World) : Sh → List Value → Prop
  | .int k, cs => ∃ n, cs = [.int k n] ∧ (Lit.int k n).wf = true
  | .bool, cs => ∃ b, cs = [.bool b]
  | .agg n fs, cs => cs.length = n ∧ RdF w fs cs
  | .sl n e, cs => cs = [.slice none 0 0] ∨ ∃ a len cap, cs = [.slice (some a) len cap] ∧ len ≤ cap ∧ cap ≤ maxLen ∧ (0 < cap * n → a.block < w.heap.size) ∧
      ∀ i, i < cap → ∃ es : List Value, es.length = n ∧ (∀ j v, es[j]? = some v → w.cell? (a.add (i * n + j)) = some v) ∧ Rd w e es
def RdF (w : World) : List (Nat × Nat × Sh) → List Value → Prop
  | [], _ => True
  | f :: fs, cs => Rd w f.2.2 ((cs.drop f.1).take f.2.1) ∧ RdF w fs cs
end
/-- The shape of a type, out of the program's own table. -/
def shOf (P : Program) : Nat → TypeId → Option Sh
  | 0, _ => none
  | f + 1, t => match P.underlying t with
    | some (.int k) => some (.int k)
    | some .bool => some .bool
    | some (.slice e) => (shOf P f e).map (.sl (P.cellsOf e))
    | some (.struct fs) => (fs.toList.mapM fun x => (shOf P f x.type).map fun s => (x.offset, P.cellsOf x.type, s)).map (.agg (P.cellsOf t))
    | some (.array n e) => (shOf P f e).map fun s => .agg (P.cellsOf t) ((List.range n).map fun i => (i * P.cellsOf e, P.cellsOf e, s))
    | _ => none
theorem rdF_of {w : World} : ∀ {fs : List (Nat × Nat × Sh)} {cs : List Value}, (∀ f ∈ fs, Rd w f.2.2 ((cs.drop f.1).take f.2.1)) → RdF w fs cs
  | [], _, _ => by simp [RdF]
  | f :: fs, cs, h => by
    unfold RdF
    exact ⟨h f (by simp), rdF_of fun g hg => h g (by simp [hg])⟩
theorem cells?_some {w : World} {a : Addr} {n : Nat} {es : List Value} (h : w.cells? 0 a n = some es) : es.length = n ∧ ∀ j v, es[j]? = some v → w.cell? (a.add j) = some v := by
  unfold World.cells? at h
  simp only [Nat.zero_le, if_true] at h
  have hl := mapM_some_length h
  simp only [List.length_range] at hl
  refine ⟨hl, fun j v hv => ?_⟩
  have hj : j < n := by
    have := (List.getElem?_eq_some_iff.1 hv).1
    omega
  have := mapM_some_get h j j (by simp [hj])
  rw [this, hv]
theorem rd_of {H : Type} {enc : TypeId × Value → H} {P : Program} {w : World} {held : Bool} : ∀ {fuel : Nat} {t : TypeId} {sh : Sh} {cs : List Value} {m : Nat} {x : DataW H × List MemPlace},
    shOf P fuel t = some sh → DataW.trod enc P w 0 (fun _ => true) held m t cs = some x → Rd w sh cs
  | 0, _, _, _, _, _, h, _ => by simp [shOf] at h
  | fuel + 1, t, sh, cs, m, x, h, hd => by
    unfold shOf at h
    split at h
    · rename_i k hu
      cases h
      obtain ⟨n, h1, _, h3⟩ := DataW.trod_int hu hd
      unfold Rd
      exact ⟨n, h1, h3⟩
    · rename_i hu
      cases h
      unfold Rd
      cases m with
      | zero => simp [DataW.trod] at hd
      | succ m =>
        unfold DataW.trod at hd
        rw [hu] at hd
        split at hd <;> simp_all
    · rename_i e hu
      obtain ⟨s, hs, rfl⟩ := Option.map_eq_some_iff.1 h
      unfold Rd
      rcases DataW.trod_slice hu hd with ⟨h1, _⟩ | ⟨a, len, cap, elems, rest, n, _, rfl, _, _, h2, h3, h4, h5, h6, _⟩
      · exact .inl h1
      · have hel : ∀ i, i < cap → ∃ es : List Value, es.length = P.cellsOf e ∧ (∀ j v, es[j]? = some v → w.cell? (a.add (i * P.cellsOf e + j)) = some v) ∧ Rd w s es := by
          intro i hi
          have key : ∃ y, (w.cells? 0 (a.add (i * P.cellsOf e)) (P.cellsOf e)).bind (DataW.trod enc P w 0 (fun _ => true) held n e) = some y := by
            rcases Nat.lt_or_ge i len with hl | hl
            · rw [h5 i hl]
              exact ⟨elems[i]'(by omega), by simp⟩
            · obtain ⟨h61, h62⟩ := h6 rfl
              have := h62 (i - len) (by omega)
              rw [show len + (i - len) = i by omega] at this
              rw [this]
              exact ⟨rest[i - len]'(by omega), by simp⟩
          obtain ⟨y, hy⟩ := key
          obtain ⟨es, he, hy⟩ := Option.bind_eq_some_iff.1 hy
          obtain ⟨hl, hc⟩ := cells?_some he
          exact ⟨es, hl, fun j v hv => by rw [← add_add]; exact hc j v hv, rd_of hs hy⟩
        refine .inr ⟨a, len, cap, rfl, h2, h3, fun hpos => ?_, hel⟩
        have hc0 : 0 < cap := Nat.pos_of_mul_pos_right hpos
        have hn0 : 0 < P.cellsOf e := Nat.pos_of_mul_pos_left hpos
        obtain ⟨es, hl, hc, _⟩ := hel 0 hc0
        have := hc 0 (es[0]'(by omega)) (by simp)
        have := World.block_lt_of_cell? w _ this
        rwa [add_block] at this
    · rename_i fs hu
      obtain ⟨ss, hs, rfl⟩ := Option.map_eq_some_iff.1 h
      obtain ⟨xs, n, _, _, h1, h2, h3⟩ := DataW.trod_struct hu hd
      unfold Rd
      refine ⟨h1, rdF_of fun f hf => ?_⟩
      obtain ⟨i, hi, rfl⟩ := List.getElem_of_mem hf
      have hil : i < fs.size := by
        have := mapM_some_length hs
        simp at this
        omega
      have h4 := mapM_some_get hs i fs[i] (by simp [hil])
      have h5 := h3 i fs[i] (by simp [hil])
      rw [List.getElem?_eq_getElem hi] at h4
      obtain ⟨s, hs1, hs2⟩ := Option.map_eq_some_iff.1 h4
      rw [← hs2]
      rw [List.getElem?_eq_getElem (by omega)] at h5
      exact rd_of hs1 h5
    · rename_i n e hu
      obtain ⟨s, hs, rfl⟩ := Option.map_eq_some_iff.1 h
      obtain ⟨xs, q, _, _, h1, h2, h3⟩ := DataW.trod_array hu hd
      unfold Rd
      refine ⟨h1, rdF_of fun f hf => ?_⟩
      obtain ⟨i, hi, rfl⟩ := List.mem_map.1 hf
      have h4 := h3 i (by simpa using hi)
      rw [List.getElem?_eq_getElem (by rw [h2]; simpa using hi)] at h4
      exact rd_of hs h4
    · cases h
/-- What a value of this shape is. -/
def RdV (w : World) (sh : Sh) (v : Value) : Prop := match sh with
  | .agg _ _ => ∃ cs : List Value, v = .agg cs.toArray ∧ Rd w sh cs
  | _ => Rd w sh [v]
def RdAll (w : World) : List Sh → List Value → Prop
  | [], [] => True
  | s :: ss, v :: vs => RdV w s v ∧ RdAll w ss vs
  | _, _ => False
theorem rdV_of {H : Type} {enc : TypeId × Value → H} {P : Program} {w : World} {held : Bool} {fuel : Nat} {t : TypeId} {sh : Sh} {v : Value} {d : DataW H} {ps : List MemPlace} {b0 : Nat}
    (h : shOf P fuel t = some sh) (hval : Value.okWide P w .any b0 t v) (hd : DataW.Trod enc P w 0 (fun _ => true) held t v d ps) : RdV w sh v := by
  obtain ⟨m, hd⟩ := hd
  have hr := rd_of h hd
  cases fuel with
  | zero => simp [shOf] at h
  | succ fuel =>
    unfold shOf at h
    split at h
    · rename_i k hu
      cases h
      obtain ⟨n, rfl⟩ := okWide_int hu hval
      exact hr
    · rename_i hu
      cases h
      obtain ⟨n, rfl⟩ := okWide_bool hu hval
      exact hr
    · rename_i e hu
      obtain ⟨s, hs, rfl⟩ := Option.map_eq_some_iff.1 h
      obtain ⟨a, len, cap, rfl⟩ := okWide_slice hu hval
      exact hr
    · rename_i fs hu
      obtain ⟨s, hs, rfl⟩ := Option.map_eq_some_iff.1 h
      simp only [Value.okWide, hu] at hval
      obtain ⟨cs, rfl, _⟩ := hval
      exact ⟨cs.toList, by simp, hr⟩
    · rename_i n e hu
      obtain ⟨s, hs, rfl⟩ := Option.map_eq_some_iff.1 h
      simp only [Value.okWide, hu] at hval
      obtain ⟨cs, rfl, _⟩ := hval
      exact ⟨cs.toList, by simp, hr⟩
    · cases h
theorem rdAll_of {H : Type} {enc : TypeId × Value → H} {P : Program} {w : World} {held : Bool} {fuel b0 : Nat} : ∀ {ts : List TypeId} {shs : List Sh} {vs : List Value} {ds : List (DataW H)} {ps : List MemPlace},
    ts.map (shOf P fuel) = shs.map some → (∀ (j : Nat) t v, ts[j]? = some t → vs[j]? = some v → Value.okWide P w .any b0 t v) → DataW.TrodAll enc P w 0 (fun _ => true) held ts vs ds ps → RdAll w shs vs
  | [], shs, vs, ds, ps, h, hv, hd => by
    obtain ⟨rfl, _, _⟩ := trodAll_nil hd
    cases shs with
    | nil => simp [RdAll]
    | cons => simp at h
  | t :: ts, shs, vs, ds, ps, h, hv, hd => by
    obtain ⟨v, vs', d, ds', p, q, rfl, _, _, h1, h2⟩ := trodAll_cons hd
    cases shs with
    | nil => simp at h
    | cons s ss =>
      simp only [List.map_cons, List.cons.injEq] at h
      exact ⟨rdV_of h.1 (hv 0 t v rfl rfl) h1, rdAll_of h.2 (fun j t' v' ht hv' => hv (j + 1) t' v' (by simpa using ht) (by simpa using hv')) h2⟩
theorem trodAll_below {H : Type} {enc : TypeId × Value → H} {P : Program} (hl : laidOutB P = true) {W W' : World} (hb : Below W.heap.size W W') : ∀ {ts : List TypeId} {vs : List Value} {ds : List (DataW H)} {ps : List MemPlace},
    (ts.all fun t => P.readableRec t && decide (t < P.types.size)) = true → DataW.TrodAll enc P W 0 (fun _ => true) true ts vs ds ps → (∀ x ∈ ps, x.block < W.heap.size) →
    DataW.TrodAll enc P W' 0 (fun b => decide (b < W.heap.size)) true ts vs ds ps
  | [], vs, ds, ps, hr, hd, hlt => by
    obtain ⟨rfl, rfl, rfl⟩ := trodAll_nil hd
    exact trodAll_mk0
  | t :: ts, vs, ds, ps, hr, hd, hlt => by
    obtain ⟨v, vs', d, ds', p, q, rfl, rfl, rfl, h1, h2⟩ := trodAll_cons hd
    simp only [List.all_cons, Bool.and_eq_true, decide_eq_true_eq] at hr
    exact trodAll_cons_mk (Below.trod hl hr.1.1 hr.1.2 h1 hb fun x hx => hlt x (by simp [hx])) (trodAll_below hl hb hr.2 h2 fun x hx => hlt x (by simp [hx]))
theorem trodAll_length {H : Type} {enc : TypeId × Value → H} {P : Program} {W : World} {base : Nat} {sp : Nat → Bool} {held : Bool} : ∀ {ts : List TypeId} {vs : List Value} {ds : List (DataW H)} {ps : List MemPlace},
    DataW.TrodAll enc P W base sp held ts vs ds ps → ds.length = ts.length
  | [], vs, ds, ps, hd => by
    obtain ⟨_, rfl, _⟩ := trodAll_nil hd
    rfl
  | t :: ts, vs, ds, ps, hd => by
    obtain ⟨v, vs', d, ds', p, q, _, rfl, _, _, h2⟩ := trodAll_cons hd
    simp [trodAll_length h2]

theorem RdAll.nil {w : World} {vs : List Value} (h : RdAll w [] vs) : vs = [] := by
  cases vs with
  | nil => rfl
  | cons => exact h.elim
theorem RdAll.cons {w : World} {s : Sh} {ss : List Sh} {vs : List Value} (h : RdAll w (s :: ss) vs) : ∃ v vs', vs = v :: vs' ∧ RdV w s v ∧ RdAll w ss vs' := by
  cases vs with
  | nil => exact h.elim
  | cons v vs => exact ⟨v, vs, rfl, h⟩
theorem rd_int {w : World} {k : IntKind} {v : Value} (h : Rd w (.int k) [v]) : ∃ n, v = .int k n ∧ (Lit.int k n).wf = true := by
  unfold Rd at h
  obtain ⟨n, h1, h2⟩ := h
  cases h1
  exact ⟨n, rfl, h2⟩
theorem rd_bool {w : World} {v : Value} (h : Rd w .bool [v]) : ∃ b, v = .bool b := by
  unfold Rd at h
  obtain ⟨n, h1⟩ := h
  cases h1
  exact ⟨n, rfl⟩
theorem rd_agg {w : World} {n : Nat} {fs : List (Nat × Nat × Sh)} {cs : List Value} (h : Rd w (.agg n fs) cs) : cs.length = n ∧ RdF w fs cs := by
  unfold Rd at h
  exact h
theorem rdF_cons {w : World} {f : Nat × Nat × Sh} {fs : List (Nat × Nat × Sh)} {cs : List Value} (h : RdF w (f :: fs) cs) : Rd w f.2.2 ((cs.drop f.1).take f.2.1) ∧ RdF w fs cs := by
  unfold RdF at h
  exact h
theorem rd_sl {w : World} {n : Nat} {e : Sh} {v : Value} (h : Rd w (.sl n e) [v]) : v = .slice none 0 0 ∨ ∃ a len cap, v = .slice (some a) len cap ∧ len ≤ cap ∧ cap ≤ maxLen ∧ (0 < cap * n → a.block < w.heap.size) ∧
    ∀ i, i < cap → ∃ es : List Value, es.length = n ∧ (∀ j v, es[j]? = some v → w.cell? (a.add (i * n + j)) = some v) ∧ Rd w e es := by
  unfold Rd at h
  rcases h with h | ⟨a, len, cap, h, r⟩
  · cases h
    exact .inl rfl
  · cases h
    exact .inr ⟨a, len, cap, rfl, r⟩
theorem rdV_int {w : World} {k : IntKind} {v : Value} (h : RdV w (.int k) v) : ∃ n, v = .int k n ∧ (Lit.int k n).wf = true := rd_int (w := w) h
theorem rdV_bool {w : World} {v : Value} (h : RdV w .bool v) : ∃ b, v = .bool b := rd_bool (w := w) h
theorem rdV_sl {w : World} {n : Nat} {e : Sh} {v : Value} (h : RdV w (.sl n e) v) : v = .slice none 0 0 ∨ ∃ a len cap, v = .slice (some a) len cap ∧ len ≤ cap ∧ cap ≤ maxLen ∧ (0 < cap * n → a.block < w.heap.size) ∧
    ∀ i, i < cap → ∃ es : List Value, es.length = n ∧ (∀ j v, es[j]? = some v → w.cell? (a.add (i * n + j)) = some v) ∧ Rd w e es := rd_sl (w := w) h
theorem rdV_agg {w : World} {n : Nat} {fs : List (Nat × Nat × Sh)} {v : Value} (h : RdV w (.agg n fs) v) : ∃ cs : List Value, v = .agg cs.toArray ∧ cs.length = n ∧ RdF w fs cs := by
  obtain ⟨cs, h1, h2⟩ := h
  exact ⟨cs, h1, rd_agg h2⟩
/-- What a law's function is asked: that it answers true, and leaves what was there. -/
def LawOk (P : Program) (f : FuncId) (shs : List Sh) : Prop :=
  ∀ (W : World) (args : List Value), RdAll W shs args → CallK P f args.toArray W fun v W' => dB v fun r => r = true ∧ Below W.heap.size W W'
theorem law_lifted {H : Type} {enc : TypeId × Value → H} {C : Checked} {os : Os} {f : FuncId} {fn : Func} {s : ChangeSpec} {conds : List PathCond} {ts : List TypeId} {shs : List Sh} {tb : TypeId} {fuel : Nat}
    (own : ownKnob C.prog.godebug = none) (started : os.Started) (noInit : C.prog.inits.idxOf? f = none) (hfn : C.prog.funcs[f]? = some fn)
    (witness : ∃ (w : World) (tape : Tape) (i : Input), w.os = os ∧ (w.forCall tape i).Shaped C.prog ∧ i.vars = [] ∧ Input.okWide C.prog (w.forCall tape i) .any w.heap.size f i ∧
      s.pre6 enc C.prog fn conds false (w.forCall tape i).memory i.args ∧ ({} : Assume).holds C.prog (lone (Frame.enter C.prog f i.args .normal) [] (w.forCall tape i)))
    (hl : laidOutB C.prog = true) (hts : fn.params.toList = ts) (hshs : ts.map (shOf C.prog fuel) = shs.map some) (hrd : (ts.all fun t => C.prog.readableRec t && decide (t < C.prog.types.size)) = true)
    (hvars : s.vars = []) (hres : fn.resultTypes = #[tb]) (htb : C.prog.underlying tb = some .bool)
    (hspec : ∀ (ds : List (DataW H)), ds.length = ts.length → s.fn H ds = { results := [.lit (.bool true)], args := ds })
    (law : LawOk C.prog f shs) :
    ReturnsInHanded {} C os f .any (s.pre6 enc C.prog fn conds false) (s.post enc C.prog fn false true false false) := by
  refine returnsInHanded_of_change_sized own started noInit hfn witness ?_
  intro W base args ds gs before hval hW _ _ _
  have hW' := hW
  obtain ⟨p, q, hA, hV, rfl, hfz, hnd⟩ := hW
  rw [hvars] at hV
  obtain ⟨rfl, rfl⟩ := trodVars_none hV
  rw [hts] at hA
  have hrdall := rdAll_of hshs (fun j t v ht hv => hval j t v (by rw [← Array.getElem?_toList, hts]; exact ht) (by rw [← Array.getElem?_toList]; exact hv)) hA
  have hlt : ∀ x ∈ p, x.block < W.heap.size := fun x hx => hW'.lt x (by simp [hx])
  have hc := law W args.toList hrdall
  unfold CallK at hc
  rw [Array.toArray_toList] at hc
  refine hc.mono fun e W' he => ?_
  cases e with
  | returned v =>
    obtain ⟨r, rfl, rfl, bel⟩ := dB_elim he
    have hsp := hspec ds (trodAll_length hA)
    refine ⟨_, rfl, ds, [], p ++ [], [], p, [], hW', ?_, ?_, ?_, bel.frame _, fun h => by cases h⟩
    · rw [List.append_nil, hsp, hres]
      exact trodAll_mk1 (shut_bool htb _)
    · rw [List.append_nil, hsp, hts]
      exact trodAll_below hl bel hrd hA hlt
    · rw [List.append_nil, hsp, hvars]
      simp [DataW.TrodVars]
  | _ => exact he.elim
end Go.Sx
