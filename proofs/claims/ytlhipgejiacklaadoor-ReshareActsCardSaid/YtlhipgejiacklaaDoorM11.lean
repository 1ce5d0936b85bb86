/-
  A region that draws its order: what holds of it whatever the order, told by what each operation leaves behind it.
  A region's operations, one by one.
  Rows of elements of any width, in memory: those that came in, and those of the call's own.
  A region's operations, one by one: addresses, sums, literals, append.
  A region that draws its order: each operation's value has a property of its own, which later worlds keep.
  Reshare: a share that is made in a region that draws its order; what a call that returns shares gave.
  Conditions: those that each theorem names.
-/
import Derived.Test.YtlhipgejiacklaaDoorM10
import Derived.RegionTactic
import Derived.Conc.EntryLaws
import Derived.Deep.AppendLies
set_option linter.unusedVariables false
set_option linter.unusedSimpArgs false
namespace Go.Proofs.YtlhipgejiacklaaDoor
open Go.RowKit

def upd (L : Nat → Bool) (i : Nat) : Nat → Bool := fun k => cond (Nat.beq k i) true (L k)
def updV (V : Nat → Value) (i : Nat) (v : Value) : Nat → Value := fun k => cond (Nat.beq k i) v (V k)
theorem upd_same (L : Nat → Bool) (i : Nat) : upd L i i = true := by simp [upd]
theorem upd_other (L : Nat → Bool) {i k : Nat} (h : k ≠ i) : upd L i k = L k := by
  unfold upd
  have : Nat.beq k i = false := by
    cases hb : Nat.beq k i
    · rfl
    · exact absurd (Nat.eq_of_beq_eq_true hb) h
  rw [this]; rfl
theorem updV_same (V : Nat → Value) (i : Nat) (v : Value) : updV V i v i = v := by simp [updV]
theorem updV_other (V : Nat → Value) {i k : Nat} (v : Value) (h : k ≠ i) : updV V i v k = V k := by
  unfold updV
  have : Nat.beq k i = false := by
    cases hb : Nat.beq k i
    · rfl
    · exact absurd (Nat.eq_of_beq_eq_true hb) h
  rw [this]; rfl

/-- Where each operation's value lies, and that nothing else has turned. -/
structure RJ (ops : Array Oper) (a0 : Act) (V : Nat → Value) (L : Nat → Bool) (a : Act) : Prop where
  defers : a.defers = a0.defers
  size : a.tmps.size = a0.tmps.size
  val : ∀ (j : Nat) (o : Oper), ops[j]? = some o → ∀ d, o.dst = some d → L j = true → a.tmps[d]?.getD undef = V j
  same : ∀ k, (ops.all fun o => o.dst != some k) = true → a.tmps[k]? = a0.tmps[k]?
/-- Each operation's slot is its own, and lies in the frame. -/
def dstsB (ops : Array Oper) (n : Nat) : Bool :=
  (List.range ops.size).all fun i => match ops[i]? with
    | none => true
    | some o => match o.dst with
      | none => true
      | some d => decide (d < n) && (List.range ops.size).all fun j => j == i || match ops[j]? with
        | none => true
        | some p => p.dst != some d
theorem dstsB_spec {ops : Array Oper} {n : Nat} (h : dstsB ops n = true) {i : Nat} {o : Oper} (hi : ops[i]? = some o) {d : Nat} (hd : o.dst = some d) : d < n ∧ ∀ j p, j ≠ i → ops[j]? = some p → p.dst ≠ some d := by
  unfold dstsB at h
  rw [List.all_eq_true] at h
  have hil : i < ops.size := (Array.getElem?_eq_some_iff.1 hi).1
  have h1 := h i (List.mem_range.2 hil)
  rw [hi] at h1
  simp only [hd, Bool.and_eq_true, decide_eq_true_eq, List.all_eq_true, List.mem_range, Bool.or_eq_true, beq_iff_eq] at h1
  refine ⟨h1.1, fun j p hj hp => ?_⟩
  have hjl : j < ops.size := (Array.getElem?_eq_some_iff.1 hp).1
  have h2 := h1.2 j hjl
  rw [hp] at h2
  rcases h2 with h2 | h2
  · exact absurd h2 hj
  · simpa using h2
theorem RJ.step {ops : Array Oper} {a0 : Act} {V : Nat → Value} {L : Nat → Bool} {a : Act} (h : RJ ops a0 V L a) (hB : dstsB ops a0.tmps.size = true) {i : Nat} {o : Oper} (hi : ops[i]? = some o) (v : Value) : RJ ops a0 (updV V i v) (upd L i) (a.put o.dst v) := by
  cases hd : o.dst with
  | none =>
    refine ⟨h.defers, h.size, fun j p hj d hpd hL => ?_, h.same⟩
    by_cases e : j = i
    · subst e
      rw [hi] at hj; injection hj with hj; subst hj
      rw [hd] at hpd; cases hpd
    · rw [updV_other _ _ e]; rw [upd_other _ e] at hL; exact h.val j p hj d hpd hL
  | some d0 =>
    obtain ⟨hlt, hne⟩ := dstsB_spec hB hi hd
    refine ⟨h.defers, by simpa [Act.put] using h.size, fun j p hj d hpd hL => ?_, fun k hk => ?_⟩
    · by_cases e : j = i
      · subst e
        rw [hi] at hj; injection hj with hj; subst hj
        rw [hd] at hpd; injection hpd with hpd; subst hpd
        rw [updV_same]
        have : d0 < a.tmps.size := by rw [h.size]; exact hlt
        simp [Act.put, this]
      · have hdd : d0 ≠ d := fun e2 => hne j p e hj (by rw [e2]; exact hpd)
        rw [updV_other _ _ e]; rw [upd_other _ e] at hL
        have := h.val j p hj d hpd hL
        simp only [Act.put, Array.getElem?_setIfInBounds_ne hdd]; exact this
    · have hdk : d0 ≠ k := fun e => by
        rw [Array.all_eq_true_iff_forall_mem] at hk
        have := hk o (Array.mem_of_getElem? hi)
        simp [hd, e] at this
      simp only [Act.put, Array.getElem?_setIfInBounds_ne hdk]; exact h.same k hk

/-- The operations that must come before one. -/
def preL (o : Oper) : List Nat := (o.after.toList.filter fun e => Region.binds .any e).map (·.on)
def lowB (ops : Array Oper) : Bool := (List.range ops.size).all fun i => match ops[i]? with
  | none => true
  | some o => (preL o).all fun j => decide (j < i)
def JSteps (P : Program) (ops : Array Oper) (Q : Exit → Act → World → Prop) (a0 : Act) (I : (Nat → Value) → (Nat → Bool) → World → Prop) : Nat → List Oper → Prop
  | _, [] => True
  | i, o :: l => (∀ V L a w, L i = false → (∀ j ∈ preL o, L j = true) → RJ ops a0 V L a → I V L w → ∀ K : Act → World → Prop, (∀ v w', I (updV V i v) (upd L i) w' → K (a.put o.dst v) w') →
      if Region.wanted o (yielded ops a.tmps) = true then Oper.wp P o a w K Q else K (a.put o.dst undef) w) ∧ JSteps P ops Q a0 I (i + 1) l
theorem JSteps.at_ {P : Program} {ops : Array Oper} {Q : Exit → Act → World → Prop} {a0 : Act} {I : (Nat → Value) → (Nat → Bool) → World → Prop} : ∀ (l : List Oper) (i : Nat), JSteps P ops Q a0 I i l → ∀ (j : Nat) (o : Oper), l[j]? = some o → ∀ V L a w, L (i + j) = false → (∀ k ∈ preL o, L k = true) → RJ ops a0 V L a → I V L w → ∀ K : Act → World → Prop, (∀ v w', I (updV V (i + j) v) (upd L (i + j)) w' → K (a.put o.dst v) w') →
      if Region.wanted o (yielded ops a.tmps) = true then Oper.wp P o a w K Q else K (a.put o.dst undef) w
  | [], i, _, j, o, h => by simp at h
  | p :: l, i, hs, 0, o, h => by
    simp only [List.getElem?_cons_zero, Option.some.injEq] at h
    subst h; exact hs.1
  | p :: l, i, hs, j + 1, o, h => by
    rw [List.getElem?_cons_succ] at h
    have := JSteps.at_ l (i + 1) hs.2 j o h
    rw [show i + 1 + j = i + (j + 1) by omega] at this; exact this
theorem count_set_lt {l : List Bool} {i : Nat} (h : i < l.length) (hf : l[i] = false) : (l.set i true).count false + 1 = l.count false := by
  induction l generalizing i with
  | nil => simp at h
  | cons b l ih =>
    cases i with
    | zero =>
      simp only [List.getElem_cons_zero] at hf
      subst hf
      simp
    | succ i =>
      simp only [List.getElem_cons_succ] at hf
      have := ih (by simpa using h) hf
      simp only [List.set_cons_succ, List.count_cons]
      omega
theorem wp_region_J {P : Program} {ops : Array Oper} {Q : Exit → Act → World → Prop} {id : Nat} {a0 : Act} {w0 : World} (I : (Nat → Value) → (Nat → Bool) → World → Prop)
    (hm : P.follows .mixedOrders = true) (hlow : lowB ops = true) (hB : dstsB ops a0.tmps.size = true)
    (h0 : ∀ V, I V (fun _ => false) w0.drew) (hs : JSteps P ops Q a0 I 0 ops.toList)
    (h1 : ∀ V L a w, (∀ i, i < ops.size → L i = true) → RJ ops a0 V L a → I V L w → Q .normal a w) : (Code.region id ops true).wp P Q a0 w0 := by
  refine wp_region_any hm ?_
  have key : ∀ (fuel : Nat) (listed : Array Bool) (V : Nat → Value) (L : Nat → Bool) (a : Act) (w : World), listed.size = ops.size → listed.toList.count false ≤ fuel → (∀ i, i < ops.size → L i = listed.getD i false) → RJ ops a0 V L a → I V L w → wpAny P .any ops Q fuel listed a w := by
    intro fuel
    induction fuel with
    | zero =>
      intro listed V L a w hsz hc hL hR hI
      have hall : ∀ i, i < ops.size → L i = true := fun i hi => by
        rw [hL i hi]
        have hil : i < listed.size := by omega
        have : listed[i] ≠ false := fun e => by
          have hm : false ∈ listed.toList := by rw [← e]; exact Array.mem_toList_iff.2 (Array.getElem_mem hil)
          have := List.count_pos_iff.2 hm
          omega
        simp [hil]; simpa using this
      refine ⟨?_, h1 V L a w hall hR hI⟩
      rw [List.eq_nil_iff_forall_not_mem]
      intro i hi
      obtain ⟨hf, o, ho, -⟩ := mem_ready.1 hi
      have hil := (Array.getElem?_eq_some_iff.1 ho).1
      have := hall i hil
      rw [hL i hil] at this
      have hil2 : i < listed.size := by omega
      simp [hil2] at hf this
      rw [hf] at this; cases this
    | succ fuel ih =>
      intro listed V L a w hsz hc hL hR hI
      refine ⟨fun hnil => ?_, fun i hi => ?_⟩
      · have hall : ∀ i, i < ops.size → L i = true := by
          intro i
          induction i using Nat.strongRecOn with
          | _ i IH =>
            intro hi
            cases hLi : L i with
            | true => rfl
            | false =>
              exfalso
              have hil : i < listed.size := by omega
              have hlf : listed[i] = false := by
                have := hL i hi
                rw [hLi] at this; simp [hil] at this; exact this
              have : i ∈ Region.ready .any ops listed := by
                refine mem_ready.2 ⟨by simp [hil, hlf], ops[i], Array.getElem?_eq_getElem hi, fun e he hb => ?_⟩
                have hlt : e.on < i := by
                  unfold lowB at hlow
                  rw [List.all_eq_true] at hlow
                  have h2 := hlow i (List.mem_range.2 hi)
                  rw [Array.getElem?_eq_getElem hi] at h2
                  simp only [List.all_eq_true] at h2
                  have := h2 e.on (List.mem_map.2 ⟨e, List.mem_filter.2 ⟨Array.mem_toList_iff.2 he, hb⟩, rfl⟩)
                  simpa using this
                have := IH e.on hlt (by omega)
                rw [hL e.on (by omega)] at this; exact this
              rw [hnil] at this; cases this
        exact h1 V L a w hall hR hI
      · obtain ⟨hf, o, ho, hpre⟩ := mem_ready.1 hi
        have hil := (Array.getElem?_eq_some_iff.1 ho).1
        have hil2 : i < listed.size := by omega
        have hlf : listed[i] = false := by simpa [hil2] using hf
        refine wpOp_step ho fun K hK => ?_
        have hst := JSteps.at_ ops.toList 0 hs i o (by rw [Array.getElem?_toList]; exact ho) V L a w (by rw [Nat.zero_add, hL i hil, Array.getD_eq_getD_getElem?, Array.getElem?_eq_getElem hil2, hlf]; rfl) (fun j hj => ?_) hR hI K (fun v w' hI' => ?_)
        · exact hst
        · obtain ⟨e, he, rfl⟩ := List.mem_map.1 hj
          obtain ⟨he1, he2⟩ := List.mem_filter.1 he
          have := hpre e (Array.mem_toList_iff.1 he1) he2
          have hjl : e.on < listed.size := by
            rcases Nat.lt_or_ge e.on listed.size with h' | h'
            · exact h'
            · simp [Array.getElem?_eq_none h'] at this
          rw [hL e.on (by omega)]; exact this
        · rw [Nat.zero_add] at hI'
          refine hK _ _ (ih (listed.setIfInBounds i true) (updV V i v) (upd L i) _ w' (by simpa using hsz) ?_ (fun k hk => ?_) (hR.step hB ho v) hI')
          · rw [Array.toList_setIfInBounds]
            have := count_set_lt (l := listed.toList) (i := i) (by simpa using hil2) (by simpa using hlf)
            omega
          · by_cases e : k = i
            · subst e; rw [upd_same]; simp [hil2]
            · rw [upd_other _ e, hL k hk]
              simp [Array.getElem?_setIfInBounds_ne (Ne.symm e)]
  refine key ops.size (Array.replicate ops.size false) (fun _ => undef) (fun _ => false) a0 w0.drew (by simp) (by simp) (fun i hi => by simp [hi]) ⟨rfl, rfl, fun j o hj d hd hL => (by cases hL), fun k _ => rfl⟩ (h0 _)

/-! ### The frame behind the region -/
def putL (a : Act) : List (Nat × Value) → Act
  | [] => a
  | e :: l => putL (a.put (some e.1) e.2) l
def finL (V : Nat → Value) : Nat → List Oper → List (Nat × Value)
  | _, [] => []
  | i, o :: l => match o.dst with
    | none => finL V (i + 1) l
    | some d => (d, V i) :: finL V (i + 1) l
theorem putL_defers : ∀ (l : List (Nat × Value)) (a : Act), (putL a l).defers = a.defers
  | [], _ => rfl
  | e :: l, a => by rw [putL, putL_defers l]; rfl
theorem putL_size : ∀ (l : List (Nat × Value)) (a : Act), (putL a l).tmps.size = a.tmps.size
  | [], _ => rfl
  | e :: l, a => by rw [putL, putL_size l]; simp [Act.put]
theorem putL_none (V : Nat → Value) (k : Nat) : ∀ (l : List Oper) (i : Nat) (a : Act), (∀ o ∈ l, o.dst ≠ some k) → (putL a (finL V i l)).tmps[k]? = a.tmps[k]?
  | [], _, _, _ => rfl
  | o :: l, i, a, h => by
    have h1 := h o (by simp)
    have h2 : ∀ p ∈ l, p.dst ≠ some k := fun p hp => h p (by simp [hp])
    cases hd : o.dst with
    | none => simp only [finL, hd]; exact putL_none V k l (i + 1) a h2
    | some d =>
      have hdk : d ≠ k := fun e => h1 (by rw [hd, e])
      simp only [finL, hd, putL]
      rw [putL_none V k l (i + 1) _ h2]
      simp only [Act.put, Array.getElem?_setIfInBounds_ne hdk]
theorem putL_some (V : Nat → Value) (k : Nat) : ∀ (l : List Oper) (i : Nat) (a : Act) (j : Nat) (o : Oper), l[j]? = some o → o.dst = some k → k < a.tmps.size → (∀ j' p, j' ≠ j → l[j']? = some p → p.dst ≠ some k) → (putL a (finL V i l)).tmps[k]? = some (V (i + j))
  | [], _, _, j, o, h, _, _, _ => by simp at h
  | p :: l, i, a, 0, o, h, hd, hk, hne => by
    simp only [List.getElem?_cons_zero, Option.some.injEq] at h
    subst h
    simp only [finL, hd, putL]
    rw [putL_none V k l (i + 1) _ (fun q hq => by
      obtain ⟨j', hj', hq'⟩ := List.getElem_of_mem hq
      exact hne (j' + 1) q (by omega) (by rw [List.getElem?_cons_succ, ← hq']; exact List.getElem?_eq_getElem hj'))]
    simp [Act.put, hk]
  | p :: l, i, a, j + 1, o, h, hd, hk, hne => by
    rw [List.getElem?_cons_succ] at h
    have hne' : ∀ j' q, j' ≠ j → l[j']? = some q → q.dst ≠ some k := fun j' q hj hq => hne (j' + 1) q (by omega) (by rw [List.getElem?_cons_succ]; exact hq)
    rw [show i + (j + 1) = (i + 1) + j by omega]
    cases hp : p.dst with
    | none => simp only [finL, hp]; exact putL_some V k l (i + 1) a j o h hd hk hne'
    | some d => simp only [finL, hp, putL]; exact putL_some V k l (i + 1) _ j o h hd (by simpa [Act.put] using hk) hne'
theorem RJ.fin {ops : Array Oper} {a0 : Act} {V : Nat → Value} {L : Nat → Bool} {a : Act} (h : RJ ops a0 V L a) (hB : dstsB ops a0.tmps.size = true) (hL : ∀ i, i < ops.size → L i = true) : a = putL a0 (finL V 0 ops.toList) := by
  have e1 : a.defers = (putL a0 (finL V 0 ops.toList)).defers := by rw [putL_defers]; exact h.defers
  have e2 : a.tmps = (putL a0 (finL V 0 ops.toList)).tmps := by
    refine Array.ext_getElem? fun k => ?_
    by_cases hk : (ops.all fun o => o.dst != some k) = true
    · rw [h.same k hk, putL_none]
      intro o ho
      rw [Array.all_eq_true_iff_forall_mem] at hk
      have := hk o (Array.mem_toList_iff.1 ho)
      simpa using this
    · have hex : ∃ (i : Nat) (o : Oper), ops[i]? = some o ∧ o.dst = some k := by
        refine Classical.byContradiction fun hn => hk ?_
        rw [Array.all_eq_true_iff_forall_mem]
        intro o ho
        obtain ⟨i, hi, he⟩ := Array.getElem_of_mem ho
        have : ¬ o.dst = some k := fun e => hn ⟨i, o, by rw [← he]; exact Array.getElem?_eq_getElem hi, e⟩
        simpa using this
      obtain ⟨i, o, hi, hd⟩ := hex
      obtain ⟨hlt, hne⟩ := dstsB_spec hB hi hd
      have hil := (Array.getElem?_eq_some_iff.1 hi).1
      rw [putL_some V k ops.toList 0 a0 i o (by rw [Array.getElem?_toList]; exact hi) hd hlt (fun j' p hj hp => hne j' p hj (by rw [Array.getElem?_toList] at hp; exact hp)), Nat.zero_add]
      have hv := h.val i o hi k hd (hL i hil)
      have hka : k < a.tmps.size := by rw [h.size]; exact hlt
      rw [Array.getElem?_eq_getElem hka] at hv ⊢
      simpa using hv
  cases a
  simp only at e1 e2
  subst e1; subst e2
  rfl
/-- The region, told by its steps; behind it the frame is written out. -/
theorem wp_region_J2 {P : Program} {l : List Oper} {Q : Exit → Act → World → Prop} {id : Nat} {a0 : Act} {w0 : World} (I : (Nat → Value) → (Nat → Bool) → World → Prop)
    (hm : P.follows .mixedOrders = true) (hlow : lowB l.toArray = true) (hB : dstsB l.toArray a0.tmps.size = true)
    (h0 : ∀ V, I V (fun _ => false) w0.drew) (hs : JSteps P l.toArray Q a0 I 0 l)
    (h1 : ∀ V L w, (∀ i, i < l.length → L i = true) → I V L w → Q .normal (putL a0 (finL V 0 l)) w) : (Code.region id l.toArray true).wp P Q a0 w0 := by
  refine wp_region_J I hm hlow hB h0 hs fun V L a w hL hR hI => ?_
  rw [hR.fin hB hL]
  exact h1 V L w (fun i hi => hL i (by simpa using hi)) hI
end Go.Proofs.YtlhipgejiacklaaDoor
namespace Go.Proofs.YtlhipgejiacklaaDoor
open Go.RowKit

section
variable {P : Program} {ops : Array Oper} {o : Oper} {a : Act} {K : Act → World → Prop} {Q : Exit → Act → World → Prop} {E : Prop} {w : World}
theorem J_val (hgd : o.guard = none) {v : Value} {w' : World} (he : (execOp a.eval o).run P w = .ok (.value v) w') (hK : K (a.put o.dst v) w') :
    if Region.wanted o (yielded ops a.tmps) = true then Oper.wp P o a w K Q else E := by
  rw [if_pos (by simp [Region.wanted, hgd])]
  unfold Oper.wp
  rw [he]; exact hK
theorem J_skip (hgd : o.guard = none) {w' : World} (he : (execOp a.eval o).run P w = .ok .skip w') (hK : K (a.put o.dst undef) w') :
    if Region.wanted o (yielded ops a.tmps) = true then Oper.wp P o a w K Q else E := by
  rw [if_pos (by simp [Region.wanted, hgd])]
  unfold Oper.wp
  rw [he]; exact hK
theorem J_move (hgd : o.guard = none) (x : Operand) (ho : o.op = .move x) (hK : K (a.put o.dst (a.eval x)) w) :
    if Region.wanted o (yielded ops a.tmps) = true then Oper.wp P o a w K Q else E :=
  J_val hgd (w' := w) (v := a.eval x) (by unfold execOp; rw [ho]; rfl) hK
theorem J_assign (hgd : o.guard = none) (x : Operand) (ho : o.op = .assign x) (hK : K (a.put o.dst (a.eval x)) w) :
    if Region.wanted o (yielded ops a.tmps) = true then Oper.wp P o a w K Q else E :=
  J_val hgd (w' := w) (v := a.eval x) (by unfold execOp; rw [ho]; rfl) hK
theorem run_val {s : Sem Value} {v : Value} {w' : World} (h : s.run P w = .ok v w') : (do pure (Next.value (← s)) : Sem Next).run P w = .ok (.value v) w' := by
  simp [h]
theorem run_skip {s : Sem Unit} {w' : World} (h : s.run P w = .ok () w') : (do s; pure Next.skip : Sem Next).run P w = .ok .skip w' := by
  simp [h]
theorem J_load (hgd : o.guard = none) (t : TypeId) (x : Operand) (ho : o.op = .load t x) {v : Value} (h : (Instr.loadAt t (a.eval x)).run P w = .ok v w) (hK : K (a.put o.dst v) w) :
    if Region.wanted o (yielded ops a.tmps) = true then Oper.wp P o a w K Q else E :=
  J_val hgd (by unfold execOp; rw [ho]; exact run_val h) hK
theorem J_alloc (hgd : o.guard = none) (t : TypeId) (ho : o.op = .alloc t) {v : Value} {w' : World} (h : (Instr.alloc t true (.tuple #[])).run P w = .ok v w') (hK : K (a.put o.dst v) w') :
    if Region.wanted o (yielded ops a.tmps) = true then Oper.wp P o a w K Q else E :=
  J_val hgd (by unfold execOp; rw [ho]; exact run_val h) hK
theorem J_extract (hgd : o.guard = none) (x : Operand) (i : Nat) (ho : o.op = .extract x i) {vs : Array Value} {v : Value} (hx : a.eval x = .tuple vs) (hv : vs[i]? = some v) (hK : K (a.put o.dst v) w) :
    if Region.wanted o (yielded ops a.tmps) = true then Oper.wp P o a w K Q else E :=
  J_val hgd (by unfold execOp; rw [ho]; exact run_val (by rw [hx]; simp [Instr.extract, hv])) hK
theorem J_store (hgd : o.guard = none) (t : TypeId) (x y : Operand) (ho : o.op = .store t x y) {w' : World} (h : (Instr.storeAt t (a.eval x) (a.eval y)).run P w = .ok () w') (hK : K (a.put o.dst undef) w') :
    if Region.wanted o (yielded ops a.tmps) = true then Oper.wp P o a w K Q else E :=
  J_skip hgd (by unfold execOp; rw [ho]; exact run_skip h) hK
theorem J_call (hgd : o.guard = none) (f : FuncId) (aa : Array Operand) (ts : Array TypeId)
    (ho : o.op = .call { callee := .value (.func f), args := aa, argTypes := ts }) (hen : ∀ args w, (callFunc f args).run P w = .ok (.enter f args) w) {vs : Array Value} (hv : aa.map a.eval = vs)
    {R : Ending → World → Prop} (hc : Calls P f vs w R) (hK : ∀ e w', R e w' → ∃ v, e = .returned v ∧ K (a.put o.dst v) w') :
    if Region.wanted o (yielded ops a.tmps) = true then Oper.wp P o a w K Q else E := by
  rw [if_pos (by simp [Region.wanted, hgd])]
  have hcc : (execOp a.eval o).run P w = .ok (.enter f vs) w := by
    rw [Go.Conc.execOp_call_func ho, hen, hv]
  unfold Oper.wp
  rw [hcc]
  refine Calls.mono hc ?_
  intro e w' hr
  obtain ⟨v, rfl, hk⟩ := hK e w' hr
  exact hk
end
theorem JSteps.cons {P : Program} {ops : Array Oper} {Q : Exit → Act → World → Prop} {a0 : Act} {I : (Nat → Value) → (Nat → Bool) → World → Prop} {i : Nat} {o : Oper} {l : List Oper}
    (h : ∀ V L a w, L i = false → (∀ j ∈ preL o, L j = true) → RJ ops a0 V L a → I V L w → ∀ K : Act → World → Prop, (∀ v w', I (updV V i v) (upd L i) w' → K (a.put o.dst v) w') →
      if Region.wanted o (yielded ops a.tmps) = true then Oper.wp P o a w K Q else K (a.put o.dst undef) w) (hs : JSteps P ops Q a0 I (i + 1) l) : JSteps P ops Q a0 I i (o :: l) := ⟨h, hs⟩
/-- What a slot holds: what the operation that writes it gave. -/
theorem RJ.ev {ops : Array Oper} {a0 : Act} {V : Nat → Value} {L : Nat → Bool} {a : Act} (h : RJ ops a0 V L a) (j : Nat) {o : Oper} (hj : ops[j]? = some o) {d : Nat} (hd : o.dst = some d) (hL : L j = true) : a.eval (.tmp d) = V j := by
  show a.tmps.getD d undef = V j
  rw [Array.getD_eq_getD_getElem?]; exact h.val j o hj d hd hL
theorem RJ.old {ops : Array Oper} {a0 : Act} {V : Nat → Value} {L : Nat → Bool} {a : Act} (h : RJ ops a0 V L a) (k : Nat) (hk : (ops.all fun o => o.dst != some k) = true) : a.eval (.tmp k) = a0.eval (.tmp k) := by
  show a.tmps.getD k undef = a0.tmps.getD k undef
  rw [Array.getD_eq_getD_getElem?, Array.getD_eq_getD_getElem?, h.same k hk]
/-- A literal of numbers. -/
theorem J_lit2 {ops : Array Oper} {o : Oper} {a : Act} {K : Act → World → Prop} {Q : Exit → Act → World → Prop} {E : Prop} {w : World} (hgd : o.guard = none) (x y : Operand) (ho : o.op = .buildSlice 22 2 #[(0, x), (1, y)]) {m n : Int} (hx : a.eval x = .int .i64 m) (hy : a.eval y = .int .i64 n)
    (hK : K (a.put o.dst (.slice (some ⟨w.heap.size, 0, none⟩) 2 2)) (w.alloc (.cells #[.int .i64 m, .int .i64 n] 3))) :
    if Region.wanted o (yielded ops a.tmps) = true then Oper.wp Tryd.prog o a w K Q else E :=
  J_val hgd (by
    unfold execOp; rw [ho]
    refine run_val ?_
    simp only [List.map_toArray, List.map_cons, List.map_nil, hx, hy]
    go_simp) hK
end Go.Proofs.YtlhipgejiacklaaDoor
namespace Go.Proofs.YtlhipgejiacklaaDoor
open Go.RowKit

/-- What the elements of one type are in memory: so many cells each. -/
structure El (α : Type) where
  n : Nat
  f : α → List Value
  len : ∀ x, (f x).length = n
  one : ∀ x, ∀ u ∈ f x, u.oneCell' = true
  pos : 0 < n
def El.flat {α : Type} (E : El α) : List α → List Value
  | [] => []
  | x :: L => E.f x ++ El.flat E L
theorem El.flat_len {α : Type} (E : El α) : ∀ L : List α, (E.flat L).length = L.length * E.n
  | [] => by simp [El.flat]
  | x :: L => by simp only [El.flat, List.length_append, E.len, El.flat_len E L, List.length_cons, Nat.succ_mul]; omega
theorem El.flat_append {α : Type} (E : El α) : ∀ L M : List α, E.flat (L ++ M) = E.flat L ++ E.flat M
  | [], M => rfl
  | x :: L, M => by simp only [List.cons_append, El.flat, El.flat_append E L M, List.append_assoc]
theorem El.flat_one {α : Type} (E : El α) : ∀ L : List α, ∀ u ∈ E.flat L, u.oneCell' = true
  | [], u, h => by cases h
  | x :: L, u, h => by
    simp only [El.flat, List.mem_append] at h
    rcases h with h | h
    · exact E.one x u h
    · exact El.flat_one E L u h
theorem El.flat_at {α : Type} (E : El α) : ∀ (L : List α) (k : Nat) (x : α), L[k]? = some x → ∀ j, j < E.n → (E.flat L)[k * E.n + j]? = (E.f x)[j]?
  | [], k, x, h, j, _ => by simp at h
  | y :: L, 0, x, h, j, hj => by
    simp only [List.getElem?_cons_zero, Option.some.injEq] at h
    subst h
    rw [Nat.zero_mul, Nat.zero_add, El.flat, List.getElem?_append_left (by rw [E.len]; exact hj)]
  | y :: L, k + 1, x, h, j, hj => by
    rw [List.getElem?_cons_succ] at h
    rw [El.flat, List.getElem?_append_right (by rw [E.len, Nat.succ_mul]; omega), E.len, Nat.succ_mul]
    rw [show k * E.n + E.n + j - E.n = k * E.n + j by omega]
    exact El.flat_at E L k x h j hj
/-- The address A leads to the elements L. -/
def ElAt {α : Type} (E : El α) (w : World) (A : Option Addr) (L : List α) : Prop :=
  ∀ k x, L[k]? = some x → ∃ b off, A = some ⟨b, off, none⟩ ∧ b < w.heap.size ∧ ∀ j, j < E.n → w.cell? ⟨b, off + k * E.n + j, none⟩ = (E.f x)[j]?
theorem ElAt.nil {α : Type} (E : El α) (w : World) (A : Option Addr) : ElAt E w A [] := fun k x h => by simp at h
theorem ElAt.below {α : Type} {E : El α} {w w' : World} {A : Option Addr} {L : List α} (h : ElAt E w A L) (hb : Below w.heap.size w w') : ElAt E w' A L := fun k x hk => by
  obtain ⟨b, off, hA, hlt, hc⟩ := h k x hk
  exact ⟨b, off, hA, Nat.lt_of_lt_of_le hlt hb.size, fun j hj => (hb.cell hlt).trans (hc j hj)⟩
theorem ElAt.alloc {α : Type} {E : El α} {w : World} {A : Option Addr} {L : List α} (h : ElAt E w A L) (o : Obj) : ElAt E (w.alloc o) A L := h.below (below_alloc w o)
theorem ElAt.drewN {α : Type} {E : El α} {w : World} {A : Option Addr} {L : List α} (h : ElAt E w A L) (n : Nat) : ElAt E (w.drewN n) A L := h
theorem ElAt.grown {α : Type} {E : El α} {w w' : World} {A : Option Addr} {L : List α} {D : Nat} (h : ElAt E w A L) (hg : w.grownBy w' (some D)) (hD : ∀ b off, A = some ⟨b, off, none⟩ → b ≠ D) : ElAt E w' A L := fun k x hk => by
  obtain ⟨b, off, hA, hlt, hc⟩ := h k x hk
  exact ⟨b, off, hA, Nat.lt_of_lt_of_le hlt hg.size, fun j hj => (grown_cell hg b _ hlt (hD b off hA)).trans (hc j hj)⟩
/-- The call's own slice of elements. -/
def ElOwn {α : Type} (E : El α) (ty : TypeId) (w : World) (base : Nat) (v : Value) (L : List α) : Prop := w.ownsRow base ty E.n v L.length (E.flat L)
theorem blk_ltE {w : World} {x : Nat} {o : Obj} (h : w.heap[x]? = some o) : x < w.heap.size := by
  rcases Nat.lt_or_ge x w.heap.size with hlt | hge
  · exact hlt
  · rw [Array.getElem?_eq_none hge] at h; cases h
theorem ElOwn.at_ {α : Type} {E : El α} {ty : TypeId} {w : World} {base : Nat} {v : Value} {L : List α} (h : ElOwn E ty w base v L) :
    ∃ A c, v = .slice A L.length c ∧ ElAt E w A L ∧ (A = none → L.length = 0 ∧ c = 0) ∧ (∀ a, A = some a → a.off = 0 ∧ a.spot = none ∧ base ≤ a.block ∧ a.block < w.heap.size) ∧ L.length ≤ c ∧ c ≤ maxLen := by
  rcases h.2 with ⟨rfl, h0⟩ | ⟨g, cap, cur, rfl, hg, hh, hnc, hcm, hcs, htk⟩
  · have : L = [] := List.eq_nil_of_length_eq_zero h0
    subst this
    exact ⟨none, 0, rfl, ElAt.nil _ _ _, fun _ => ⟨rfl, rfl⟩, fun a e => (by cases e), Nat.le_refl _, Nat.zero_le _⟩
  · have hlt : g < w.heap.size := blk_ltE hh
    refine ⟨some ⟨g, 0, none⟩, cap, rfl, fun k x hk => ?_, fun e => (by cases e), fun a e => (by injection e with e; subst e; exact ⟨rfl, rfl, hg, hlt⟩), hnc, hcm⟩
    have hkl : k < L.length := by
      rcases Nat.lt_or_ge k L.length with h1 | h1
      · exact h1
      · rw [List.getElem?_eq_none h1] at hk; cases hk
    refine ⟨g, 0, rfl, hlt, fun j hj => ?_⟩
    have hm : (k + 1) * E.n ≤ L.length * E.n := Nat.mul_le_mul_right _ hkl
    rw [Nat.succ_mul] at hm
    rw [Nat.zero_add, h.cellAt (j := k * E.n + j) (by omega)]
    exact E.flat_at L k x hk j hj
theorem ElOwn.below {α : Type} {E : El α} {ty : TypeId} {w w' : World} {base : Nat} {v : Value} {L : List α} (h : ElOwn E ty w base v L) (hb : Below w.heap.size w w') : ElOwn E ty w' base v L := own_below h hb
theorem ElOwn.alloc {α : Type} {E : El α} {ty : TypeId} {w : World} {base : Nat} {v : Value} {L : List α} (h : ElOwn E ty w base v L) (o : Obj) : ElOwn E ty (w.alloc o) base v L := own_below h (below_alloc w o)
theorem ElOwn.mono {α : Type} {E : El α} {ty : TypeId} {w : World} {base base' : Nat} {v : Value} {L : List α} (h : ElOwn E ty w base v L) (hb : base' ≤ base) : ElOwn E ty w base' v L := ownsRow_mono h hb
theorem ElOwn.nil {α : Type} (E : El α) (ty : TypeId) (w : World) (base : Nat) : ElOwn E ty w base (.slice none 0 0) [] := ⟨by simp [El.flat], .inl ⟨rfl, rfl⟩⟩
theorem ElOwn.grown {α : Type} {E : El α} {ty : TypeId} {w w' : World} {base D : Nat} {v : Value} {L : List α} (h : ElOwn E ty w base v L) (hg : w.grownBy w' (some D)) (hD : D < base) : ElOwn E ty w' base v L := by
  obtain ⟨h1, h2⟩ := h
  refine ⟨h1, ?_⟩
  rcases h2 with h2 | ⟨g, cap, cur, hv, hgb, hh, r⟩
  · exact .inl h2
  · exact .inr ⟨g, cap, cur, hv, hgb, (hg.block g (blk_ltE hh) (fun e => by injection e with e; omega)).trans hh, r⟩
theorem ElOwn.kept {α : Type} {E : El α} {ty : TypeId} {w w' : World} {base : Nat} {v : Value} {L : List α} (h : ElOwn E ty w base v L) (hk : ∀ k, v.ownBlock = some k → w'.heap[k]? = w.heap[k]?) : ElOwn E ty w' base v L := by
  obtain ⟨h1, h2⟩ := h
  refine ⟨h1, ?_⟩
  rcases h2 with h2 | ⟨g, cap, cur, hv, hgb, hh, r⟩
  · exact .inl h2
  · exact .inr ⟨g, cap, cur, hv, hgb, (hk g (by rw [hv]; rfl)).trans hh, r⟩
theorem ElOwn.set_ {α : Type} {E : El α} {ty : TypeId} {w : World} {base : Nat} {v : Value} {L : List α} (h : ElOwn E ty w base v L) (p : Addr) (u : Value) (hp : p.block < base) : ElOwn E ty (w.setCell p u) base v L :=
  h.kept fun k hk => Below.heap_setCell w p u k (by have := (World.ownsRow.lt h k hk).1; omega)
theorem ElAt.lit {α : Type} (E : El α) (w : World) (x : α) (ty : TypeId) : ElAt E (w.alloc (.cells (E.f x).toArray ty)) (some ⟨w.heap.size, 0, none⟩) [x] := fun k y hk => by
  rcases k with _ | k
  · simp only [List.getElem?_cons_zero, Option.some.injEq] at hk
    subst hk
    refine ⟨_, _, rfl, by simp, fun j hj => ?_⟩
    have h := heap_alloc_new w (.cells (E.f x).toArray ty)
    rw [Nat.zero_add, Nat.zero_mul, Nat.zero_add, cell_of_row _ _ j _ _ (0, 0) h]
    simp
  · simp at hk
theorem ElAt.news {α : Type} {E : El α} {w : World} {b off : Nat} {L : List α} (h : ElAt E w (some ⟨b, off, none⟩) L) : ∀ j u, (E.flat L)[j]? = some u → w.cell? ((⟨b, off, none⟩ : Addr).add j) = some u := fun j u hu => by
  have hj : j < L.length * E.n := by
    rcases Nat.lt_or_ge j (E.flat L).length with h1 | h1
    · rw [E.flat_len] at h1; exact h1
    · rw [List.getElem?_eq_none h1] at hu; cases hu
  have hk : j / E.n < L.length := (Nat.div_lt_iff_lt_mul E.pos).2 hj
  have hr : j % E.n < E.n := Nat.mod_lt _ E.pos
  have hjj : j / E.n * E.n + j % E.n = j := by rw [Nat.mul_comm]; exact Nat.div_add_mod j E.n
  obtain ⟨b', off', e, _, hc⟩ := h (j / E.n) L[j / E.n] (List.getElem?_eq_getElem hk)
  injection e with e
  injection e with e1 e2
  subst e1; subst e2
  have e : (⟨b, off, none⟩ : Addr).add j = ⟨b, off + j, none⟩ := by
    unfold Addr.add; split
    · rename_i h; subst h; rfl
    · rfl
  have h2 := E.flat_at L (j / E.n) L[j / E.n] (List.getElem?_eq_getElem hk) (j % E.n) hr
  rw [hjj] at h2
  have h3 := hc (j % E.n) hr
  rw [show off + j / E.n * E.n + j % E.n = off + j by omega] at h3
  rw [e, h3, ← h2, hu]
theorem ElAt.newsA {α : Type} {E : El α} {w : World} {a : Addr} {L : List α} (h : ElAt E w (some a) L) (hA : a.spot = none ∨ L.length = 0) : ∀ j u, (E.flat L)[j]? = some u → w.cell? (a.add j) = some u := fun j u hu => by
  rcases hA with hA | hA
  · obtain ⟨b, off, spot⟩ := a
    have hA : spot = none := hA
    subst hA
    exact h.news j u hu
  · have : L = [] := List.eq_nil_of_length_eq_zero hA
    subst this
    simp [El.flat] at hu
/-- append of a slice of elements onto one of the call's own. -/
theorem app_els {α : Type} (E : El α) {t ty : TypeId} {z : Value} {bytes : Nat} (ht : Tryd.prog.underlying t = some (.slice ty)) (hinfo : (Tryd.prog.info? ty).map (fun i => (i.zero, i.size, i.bytes)) = some (some z, E.n, bytes)) (hzs : z.cells.size = E.n)
    {ops : Array Oper} {rest : List Oper} {o : Oper} {a : Act} {Q : Exit → Act → World → Prop} (hgd : o.guard = none) (s x : Operand)
    (ho : o.op = .call { callee := .builtin .append, args := #[s, x], argTypes := #[t, t] })
    {base : Nat} {w : World} {v : Value} {S T : List α} {ad : Addr} {c : Nat} (hs : a.eval s = v) (hown : ElOwn E ty w base v S)
    (hx : a.eval x = .slice (some ad) T.length c) (hT : ∀ j u, (E.flat T)[j]? = some u → w.cell? (ad.add j) = some u) (hl : S.length + T.length ≤ 1000000) (hb : bytes ≤ 1000) (hbase : base ≤ w.heap.size)
    (h : ∀ v' w', ElOwn E ty w' base v' (S ++ T) → w.grownBy w' v.ownBlock → Below base w w' → wpList Tryd.prog ops Q rest (a.put o.dst v') w') :
    wpList Tryd.prog ops Q (o :: rest) a w := by
  obtain ⟨i0, hi, hz0, hz1, hz2⟩ := info_parts hinfo
  have hbb : (S.length + T.length) * bytes ≤ 1000000 * 1000 := Nat.mul_le_mul hl hb
  refine wpList_append_own w hgd s x t ho base ty i0 z E.n bytes ht hi hz0 hz1 hz2 hzs E.pos v S.length (E.flat S) hs hown _ T.length c (E.flat T) hx (E.flat_len T) hT (E.flat_one T) (by unfold maxLen; omega) (by omega) hbase ?_
  intro v' w' h2 h3 _
  refine h v' w' ?_ h3 ((Below.refl _ _).grown h3 hbase (fun k hk => (World.ownsRow.lt hown k hk).1))
  unfold ElOwn; rw [List.length_append, E.flat_append]; exact h2
/-- append of one element onto a slice of the call's own. -/
theorem app_el {α : Type} (E : El α) {t ty : TypeId} {z : Value} {bytes : Nat} (ht : Tryd.prog.underlying t = some (.slice ty)) (hinfo : (Tryd.prog.info? ty).map (fun i => (i.zero, i.size, i.bytes)) = some (some z, E.n, bytes)) (hzs : z.cells.size = E.n)
    {ops : Array Oper} {rest : List Oper} {o : Oper} {a : Act} {Q : Exit → Act → World → Prop} (hgd : o.guard = none) (s x : Operand)
    (ho : o.op = .call { callee := .builtin .append, args := #[s, x], argTypes := #[t, t] })
    {base : Nat} {w : World} {v : Value} {S : List α} (y : α) {C : Array Value} (hC : C = (E.f y).toArray) (hs : a.eval s = v) (hown : ElOwn E ty w base v S)
    (hx : a.eval x = .slice (some ⟨w.heap.size, 0, none⟩) 1 1) (hl : S.length + 1 ≤ 1000000) (hb : bytes ≤ 1000) (hbase : base ≤ w.heap.size)
    (h : ∀ v' w', ElOwn E ty w' base v' (S ++ [y]) → w.grownBy w' v.ownBlock → Below base w w' → wpList Tryd.prog ops Q rest (a.put o.dst v') w') :
    wpList Tryd.prog ops Q (o :: rest) a (w.alloc (.cells C ty)) := by
  subst hC
  refine app_els E ht hinfo hzs hgd s x ho (S := S) (T := [y]) (base := base) hs (hown.alloc _) hx (ElAt.lit E w y ty).news hl hb (by simp; omega) ?_
  intro v' w' h2 h3 hb2
  have hg : w.grownBy w' v.ownBlock := ⟨h3.os, h3.tape, h3.output, Nat.le_trans (by simp) h3.size, fun k hk hne => (h3.block k (by simp; omega) hne).trans (Below.heap_alloc w _ k hk)⟩
  exact h v' w' h2 hg (((Below.refl _ _).alloc hbase _).trans hb2)
end Go.Proofs.YtlhipgejiacklaaDoor
namespace Go.Proofs.YtlhipgejiacklaaDoor
open Go.RowKit

section
variable {P : Program} {ops : Array Oper} {o : Oper} {a : Act} {K : Act → World → Prop} {Q : Exit → Act → World → Prop} {E : Prop} {w : World}
theorem J_fieldAddr (hgd : o.guard = none) (s : TypeId) (x : Operand) (f : Nat) (ho : o.op = .fieldAddr s x f) {v : Value} (h : (Instr.fieldAt s (a.eval x) f).run P w = .ok v w) (hK : K (a.put o.dst v) w) :
    if Region.wanted o (yielded ops a.tmps) = true then Oper.wp P o a w K Q else E :=
  J_val hgd (by unfold execOp; rw [ho]; exact run_val h) hK
theorem J_indexAddr (hgd : o.guard = none) (t : TypeId) (x ix : Operand) (ho : o.op = .indexAddr t x ix) {v : Value} (h : (Instr.indexAt t (a.eval x) (a.eval ix)).run P w = .ok v w) (hK : K (a.put o.dst v) w) :
    if Region.wanted o (yielded ops a.tmps) = true then Oper.wp P o a w K Q else E :=
  J_val hgd (by unfold execOp; rw [ho]; exact run_val h) hK
theorem J_binOp (hgd : o.guard = none) (b : BinOp) (t : TypeId) (x y : Operand) (u : TypeId) (ho : o.op = .binOp b t x y u) {v : Value} (h : (do Go.eqGuard b t x y (a.eval x) (a.eval y); Go.binOp b t (a.eval x) (a.eval y) : Sem Value).run P w = .ok v w) (hK : K (a.put o.dst v) w) :
    if Region.wanted o (yielded ops a.tmps) = true then Oper.wp P o a w K Q else E :=
  J_val hgd (by unfold execOp; rw [ho]; exact run_val h) hK
theorem J_build (hgd : o.guard = none) (t : TypeId) (parts : Array (Nat × Operand)) (ho : o.op = .build t parts) {v : Value} (h : (Instr.build t (parts.map fun (i, x) => (i, a.eval x))).run P w = .ok v w) (hK : K (a.put o.dst v) w) :
    if Region.wanted o (yielded ops a.tmps) = true then Oper.wp P o a w K Q else E :=
  J_val hgd (by unfold execOp; rw [ho]; exact run_val h) hK
theorem J_buildSlice (hgd : o.guard = none) (t : TypeId) (n : Nat) (parts : Array (Nat × Operand)) (ho : o.op = .buildSlice t n parts) {v : Value} {w' : World} (h : (Instr.buildSlice t n (parts.map fun (i, x) => (i, a.eval x))).run P w = .ok v w') (hK : K (a.put o.dst v) w') :
    if Region.wanted o (yielded ops a.tmps) = true then Oper.wp P o a w K Q else E :=
  J_val hgd (by unfold execOp; rw [ho]; exact run_val h) hK
end
/-- append of one element, from a literal that lies anywhere. -/
theorem J_app {α : Type} (E : El α) {t ty : TypeId} {z : Value} {bytes : Nat} (ht : Tryd.prog.underlying t = some (.slice ty)) (hinfo : (Tryd.prog.info? ty).map (fun i => (i.zero, i.size, i.bytes)) = some (some z, E.n, bytes)) (hzs : z.cells.size = E.n)
    {ops : Array Oper} {o : Oper} {a : Act} {K : Act → World → Prop} {Q : Exit → Act → World → Prop} {X : Prop} (W : World) (hgd : o.guard = none) (s x : Operand)
    (ho : o.op = .call { callee := .builtin .append, args := #[s, x], argTypes := #[t, t] })
    (base : Nat) (v : Value) (D : List α) (y : α) (g0 : Nat) (hs : a.eval s = v) (hx : a.eval x = .slice (some ⟨g0, 0, none⟩) 1 1)
    (hlit : ElAt E W (some ⟨g0, 0, none⟩) [y]) (hl : D.length ≤ 100000) (hb : bytes ≤ 1000) (hown : ElOwn E ty W base v D) (hbase : base ≤ W.heap.size)
    (h : ∀ g cap w', ElOwn E ty w' base (.slice (some ⟨g, 0, none⟩) (D.length + 1) cap) (D ++ [y]) → W.grownBy w' v.ownBlock → (v.ownBlock = some g ∨ g = W.heap.size) → K (a.put o.dst (.slice (some ⟨g, 0, none⟩) (D.length + 1) cap)) w') :
    if Region.wanted o (yielded ops a.tmps) = true then Oper.wp Tryd.prog o a W K Q else X := by
  obtain ⟨i0, hi, hz0, hz1, hz2⟩ := info_parts hinfo
  have hE1 : E.flat [y] = E.f y := by simp [El.flat]
  have hn := hlit.news
  rw [hE1] at hn
  have hbb : (D.length + 1) * bytes ≤ 100001 * 1000 := Nat.mul_le_mul (by omega) hb
  refine step_append_lies _ hgd s x t ho base ty i0 z E.n bytes ht hi hz0 hz1 hz2 hzs E.pos v D.length (E.flat D) hs hown ⟨g0, 0, none⟩ 1 1 (E.f y) hx (by rw [E.len]; simp) hn (fun u hu => E.one y u hu) (by omega) (by unfold maxLen; omega) (by omega) hbase _ rfl ?_
  intro g cap w' ho' hg hor _
  refine h g cap w' ?_ hg hor
  unfold ElOwn; rw [List.length_append, E.flat_append, hE1, List.length_singleton]; exact ho'
end Go.Proofs.YtlhipgejiacklaaDoor
namespace Go.Proofs.YtlhipgejiacklaaDoor
open Go.RowKit

/-! ### Guarded operations -/
section
variable {P : Program} {ops : Array Oper} {o : Oper} {a : Act} {K : Act → World → Prop} {Q : Exit → Act → World → Prop} {E : Prop} {w : World}
theorem G_g (hw : Region.wanted o (yielded ops a.tmps) = true) (h : if Region.wanted { o with guard := none } (yielded ops a.tmps) = true then Oper.wp P { o with guard := none } a w K Q else False) : if Region.wanted o (yielded ops a.tmps) = true then Oper.wp P o a w K Q else E := by
  rw [if_pos hw]
  rw [if_pos (by simp [Region.wanted])] at h
  exact h
theorem G_un (hw : Region.wanted o (yielded ops a.tmps) = false) (h : K (a.put o.dst undef) w) : if Region.wanted o (yielded ops a.tmps) = true then Oper.wp P o a w K Q else K (a.put o.dst undef) w := by
  rw [if_neg (by rw [hw]; decide)]; exact h
theorem RJ.yld {a0 : Act} {V : Nat → Value} {L : Nat → Bool} (h : RJ ops a0 V L a) {j : Nat} {p : Oper} (hj : ops[j]? = some p) {d : Nat} (hd : p.dst = some d) (hL : L j = true) {b : Bool} (hv : V j = .bool b) : yielded ops a.tmps j = some b := by
  have h1 := h.val j p hj d hd hL
  rw [hv] at h1
  unfold yielded
  rw [hj]
  simp only [Option.bind_some, hd]
  cases ht : a.tmps[d]? with
  | none => rw [ht] at h1; cases h1
  | some v => rw [ht] at h1; simp only [Option.getD_some] at h1; rw [h1]
theorem RJ.want' {a0 : Act} {V : Nat → Value} {L : Nat → Bool} (h : RJ ops a0 V L a) (j : Nat) {b : Bool} (hg : o.guard = some (j, b)) {p : Oper} (hj : ops[j]? = some p) {d : Nat} (hd : p.dst = some d) (hL : L j = true) (hv : V j = .bool b) : Region.wanted o (yielded ops a.tmps) = true := by
  unfold Region.wanted
  rw [hg]
  simp only
  rw [h.yld hj hd hL hv]
  simp
theorem RJ.unwant' {a0 : Act} {V : Nat → Value} {L : Nat → Bool} (h : RJ ops a0 V L a) (j : Nat) {b : Bool} (hg : o.guard = some (j, b)) {p : Oper} (hj : ops[j]? = some p) {d : Nat} (hd : p.dst = some d) (hL : L j = true) (hv : V j = .bool (!b)) : Region.wanted o (yielded ops a.tmps) = false := by
  unfold Region.wanted
  rw [hg]
  simp only
  rw [h.yld hj hd hL hv]
  cases b <;> rfl
theorem RJ.unwantU {a0 : Act} {V : Nat → Value} {L : Nat → Bool} (h : RJ ops a0 V L a) (j : Nat) {b : Bool} (hg : o.guard = some (j, b)) {p : Oper} (hj : ops[j]? = some p) {d : Nat} (hd : p.dst = some d) (hL : L j = true) (hv : V j = undef) : Region.wanted o (yielded ops a.tmps) = false := by
  have h1 := h.val j p hj d hd hL
  rw [hv] at h1
  have hy : yielded ops a.tmps j = none := by
    unfold yielded
    rw [hj]
    simp only [Option.bind_some, hd]
    cases ht : a.tmps[d]? with
    | none => rfl
    | some v => rw [ht] at h1; simp only [Option.getD_some] at h1; rw [h1]; rfl
  unfold Region.wanted
  rw [hg]
  simp only
  rw [hy]
  cases b <;> rfl
theorem G_pick (hgd : o.guard = none) (c x y : Operand) (ho : o.op = .pick c x y) {b : Bool} (hc : a.eval c = .bool b) {v : Value} (hv : (if b then a.eval x else a.eval y) = v) (hK : K (a.put o.dst v) w) :
    if Region.wanted o (yielded ops a.tmps) = true then Oper.wp P o a w K Q else E :=
  J_val hgd (w' := w) (v := v) (by unfold execOp; rw [ho]; simp only [hc]; rw [← hv]; rfl) hK
theorem G_unOp (hgd : o.guard = none) (b : UnOp) (t : TypeId) (x : Operand) (ho : o.op = .unOp b t x) {v : Value} (h : (Op.unary b (a.eval x)).run P w = .ok v w) (hK : K (a.put o.dst v) w) :
    if Region.wanted o (yielded ops a.tmps) = true then Oper.wp P o a w K Q else E :=
  J_val hgd (by unfold execOp; rw [ho]; exact run_val h) hK
theorem G_move (hgd : o.guard = none) (x : Operand) (ho : o.op = .move x) {v : Value} (e : a.eval x = v) (hK : K (a.put o.dst v) w) :
    if Region.wanted o (yielded ops a.tmps) = true then Oper.wp P o a w K Q else E := by
  rw [← e] at hK; exact J_move hgd x ho hK
theorem G_assign (hgd : o.guard = none) (x : Operand) (ho : o.op = .assign x) {v : Value} (e : a.eval x = v) (hK : K (a.put o.dst v) w) :
    if Region.wanted o (yielded ops a.tmps) = true then Oper.wp P o a w K Q else E := by
  rw [← e] at hK; exact J_assign hgd x ho hK
theorem G_slice (hgd : o.guard = none) (t : TypeId) (x : Operand) (lo hi mx : Option Operand) (ho : o.op = .slice t x lo hi mx) {v : Value} (h : (Instr.sliceAt t (a.eval x) (lo.map a.eval) (hi.map a.eval) (mx.map a.eval)).run P w = .ok v w) (hK : K (a.put o.dst v) w) :
    if Region.wanted o (yielded ops a.tmps) = true then Oper.wp P o a w K Q else E :=
  J_val hgd (by unfold execOp; rw [ho]; exact run_val h) hK
theorem G_len (hgd : o.guard = none) (x : Operand) (t : TypeId) (ho : o.op = .call { callee := .builtin .len, args := #[x], argTypes := #[t] }) {v : Value} (h : (Builtin.len_ #[t] o.type #[a.eval x]).run P w = .ok v w) (hK : K (a.put o.dst v) w) :
    if Region.wanted o (yielded ops a.tmps) = true then Oper.wp P o a w K Q else E := by
  refine J_val hgd (v := v) (w' := w) ?_ hK
  simp only [execOp, ho, resolve, invoke, builtin, Sem.run_bind, Sem.run_pure, Result.andThen_ok, List.map_toArray, List.map_cons, List.map_nil, h]
end
/-- A property of an operation's value, which later worlds keep. -/
structure Pr (R : World → World → Prop) where
  p : Value → World → Prop
  mono : ∀ v w w', p v w → R w w' → p v w'
def Pr.eq {R : World → World → Prop} (v : Value) : Pr R := ⟨fun u _ => u = v, fun _ _ _ h _ => h⟩
def Pr.any {R : World → World → Prop} : Pr R := ⟨fun _ _ => True, fun _ _ _ h _ => h⟩
/-- What holds of a region that is under way. -/
structure GI {R : World → World → Prop} (PL : List (Pr R)) (S : (Nat → Value) → (Nat → Bool) → World → Prop) (V : Nat → Value) (L : Nat → Bool) (w : World) : Prop where
  st : S V L w
  val : ∀ i q, PL[i]? = some q → L i = true → q.p (V i) w
section
variable {R : World → World → Prop} {PL : List (Pr R)} {S : (Nat → Value) → (Nat → Bool) → World → Prop} {V : Nat → Value} {L : Nat → Bool} {w w' : World}
theorem GI.start {V : Nat → Value} (h : S V (fun _ => false) w) : GI PL S V (fun _ => false) w := ⟨h, fun _ _ _ e => by cases e⟩
theorem GI.put (h : GI PL S V L w) (hr : R w w') (i : Nat) {q : Pr R} (hq : PL[i]? = some q) {v : Value} (hv : q.p v w') (hs : S (updV V i v) (upd L i) w') : GI PL S (updV V i v) (upd L i) w' := by
  refine ⟨hs, fun j q' hj e => ?_⟩
  by_cases hji : j = i
  · subst hji
    rw [updV_same]
    rw [hq] at hj
    injection hj with hj
    rw [← hj]; exact hv
  · rw [updV_other _ _ hji]
    rw [upd_other _ hji] at e
    exact q'.mono _ _ _ (h.val j q' hj e) hr
theorem GI.put0 (h : GI PL S V L w) (i : Nat) {q : Pr R} (hq : PL[i]? = some q) {v : Value} (hv : q.p v w) (hs : S (updV V i v) (upd L i) w) : GI PL S (updV V i v) (upd L i) w := by
  refine ⟨hs, fun j q' hj e => ?_⟩
  by_cases hji : j = i
  · subst hji
    rw [updV_same]
    rw [hq] at hj
    injection hj with hj
    rw [← hj]; exact hv
  · rw [updV_other _ _ hji]
    rw [upd_other _ hji] at e
    exact h.val j q' hj e
end
theorem pm {o : Oper} {L : Nat → Bool} (h : ∀ j ∈ preL o, L j = true) (k : Nat) (e : (preL o).elem k = true) : L k = true := h k (List.mem_of_elem_eq_true e)
theorem GI.ef {R : World → World → Prop} {PL : List (Pr R)} {S : (Nat → Value) → (Nat → Bool) → World → Prop} {V : Nat → Value} {L : Nat → Bool} {w : World} {ops : Array Oper} {a0 a : Act} {o : Oper} (hI : GI PL S V L w) (hR : RJ ops a0 V L a) (hpre : ∀ j ∈ preL o, L j = true) (k : Nat) {p : Oper} (hp : ops[k]? = some p) {d : Nat} (hd : p.dst = some d) {v : Value} (hq : PL[k]? = some (Pr.eq v)) (hm : (preL o).elem k = true) : a.eval (.tmp d) = v :=
  (hR.ev k hp hd (pm hpre k hm)).trans (hI.val k _ hq (pm hpre k hm))
theorem G_gw {R : World → World → Prop} {PL : List (Pr R)} {S : (Nat → Value) → (Nat → Bool) → World → Prop} {V : Nat → Value} {L : Nat → Bool} {w : World} {P : Program} {ops : Array Oper} {a0 a : Act} {o : Oper} {K : Act → World → Prop} {Q : Exit → Act → World → Prop} {E : Prop} (hI : GI PL S V L w) (hR : RJ ops a0 V L a) (hpre : ∀ j ∈ preL o, L j = true) (k : Nat) {b : Bool} (hg : o.guard = some (k, b)) {p : Oper} (hp : ops[k]? = some p) {d : Nat} (hd : p.dst = some d) (hq : PL[k]? = some (Pr.eq (.bool b))) (hm : (preL o).elem k = true)
    (h : if Region.wanted { o with guard := none } (yielded ops a.tmps) = true then Oper.wp P { o with guard := none } a w K Q else False) : if Region.wanted o (yielded ops a.tmps) = true then Oper.wp P o a w K Q else E :=
  G_g (hR.want' k hg hp hd (pm hpre k hm) (hI.val k _ hq (pm hpre k hm))) h
/-- The world has only grown. -/
def GrS (W0 : World) (_ : Nat → Value) (_ : Nat → Bool) (w : World) : Prop := Below W0.heap.size W0 w
theorem GrS.bl {W0 : World} {V : Nat → Value} {L : Nat → Bool} {w : World} (h : GrS W0 V L w) : Below W0.heap.size W0 w := h
theorem GrS.up {W0 : World} {V V' : Nat → Value} {L L' : Nat → Bool} {w : World} (h : GrS W0 V L w) : GrS W0 V' L' w := h
theorem GrS.to {W0 : World} {V V' : Nat → Value} {L L' : Nat → Bool} {w w' : World} (h : GrS W0 V L w) (hb : Below w.heap.size w w') : GrS W0 V' L' w' := below_trans h hb
theorem GrS.start (W0 : World) (V : Nat → Value) (L : Nat → Bool) : GrS W0 V L W0.drew := (Below.refl _ _).drew
theorem GI.u0 {R : World → World → Prop} {PL : List (Pr R)} {W0 : World} {V : Nat → Value} {L : Nat → Bool} {w : World} {o : Oper} {a : Act} {K : Act → World → Prop} {i : Nat} (hI : GI PL (GrS W0) V L w) (hK : ∀ v w', GI PL (GrS W0) (updV V i v) (upd L i) w' → K (a.put o.dst v) w') {v : Value} (hq : PL[i]? = some (Pr.eq v)) : K (a.put o.dst v) w := hK _ _ (hI.put0 i hq rfl hI.st.up)
section
variable {R : World → World → Prop} {PL : List (Pr R)} {W0 : World} {P : Program} {ops : Array Oper} {Q : Exit → Act → World → Prop} {a0 : Act} {i : Nat} {o : Oper} {l : List Oper}
theorem JSteps.un (k : Nat) {b : Bool} (hg : o.guard = some (k, b)) {p : Oper} (hp : ops[k]? = some p) {d : Nat} (hd : p.dst = some d) (hv : PL[k]? = some (Pr.eq (.bool (!b)))) (hm : (preL o).elem k = true) (hq : PL[i]? = some (Pr.eq undef)) (h : JSteps P ops Q a0 (GI PL (GrS W0)) (i + 1) l) : JSteps P ops Q a0 (GI PL (GrS W0)) i (o :: l) :=
  JSteps.cons (fun _ _ _ _ _ hpre hR hI _ hK => G_un (hR.unwant' k hg hp hd (pm hpre k hm) (hI.val k _ hv (pm hpre k hm))) (hI.u0 hK hq)) h
theorem JSteps.unU (k : Nat) {b : Bool} (hg : o.guard = some (k, b)) {p : Oper} (hp : ops[k]? = some p) {d : Nat} (hd : p.dst = some d) (hv : PL[k]? = some (Pr.eq undef)) (hm : (preL o).elem k = true) (hq : PL[i]? = some (Pr.eq undef)) (h : JSteps P ops Q a0 (GI PL (GrS W0)) (i + 1) l) : JSteps P ops Q a0 (GI PL (GrS W0)) i (o :: l) :=
  JSteps.cons (fun _ _ _ _ _ hpre hR hI _ hK => G_un (hR.unwantU k hg hp hd (pm hpre k hm) (hI.val k _ hv (pm hpre k hm))) (hI.u0 hK hq)) h
theorem JSteps.mf (k : Nat) (hg : o.guard = none) {p : Oper} (hp : ops[k]? = some p) {d : Nat} (hd : p.dst = some d) (ho : o.op = .move (.tmp d)) {v : Value} (hv : PL[k]? = some (Pr.eq v)) (hm : (preL o).elem k = true) (hq : PL[i]? = some (Pr.eq v)) (h : JSteps P ops Q a0 (GI PL (GrS W0)) (i + 1) l) : JSteps P ops Q a0 (GI PL (GrS W0)) i (o :: l) :=
  JSteps.cons (fun _ _ _ _ _ hpre hR hI _ hK => G_move hg (.tmp d) ho (hI.ef hR hpre k hp hd hv hm) (hI.u0 hK hq)) h
end
/-- Worlds that only grow. -/
def Bl (w w' : World) : Prop := Below w.heap.size w w'
/-- A literal of the call's own, in a block that came behind B. -/
def Pr.lit (B : Nat) (n : Nat) (cs : Array Value) (ty : TypeId) : Pr Bl :=
  ⟨fun u w => ∃ g, u = .slice (some ⟨g, 0, none⟩) n n ∧ B ≤ g ∧ w.heap[g]? = some (.cells cs ty (0, 0)), fun _ w w' h hb => by
    obtain ⟨g, e, hg, hh⟩ := h
    have hlt : g < w.heap.size := by
      rcases Nat.lt_or_ge g w.heap.size with h1 | h1
      · exact h1
      · rw [Array.getElem?_eq_none h1] at hh; cases hh
    exact ⟨g, e, hg, (Below.block hb g hlt).trans hh⟩⟩
end Go.Proofs.YtlhipgejiacklaaDoor
namespace Go.Proofs.YtlhipgejiacklaaDoor
open Go.RowKit

section
variable {P : Program} {ops : Array Oper} {o : Oper} {a : Act} {K : Act → World → Prop} {Q : Exit → Act → World → Prop} {E : Prop} {w : World}
theorem J_make (hgd : o.guard = none) (t : TypeId) (n c : Operand) (ho : o.op = .makeSlice t n c) {v : Value} {w' : World} (h : (Instr.makeSlice t (a.eval n) (a.eval c)).run P w = .ok v w') (hK : K (a.put o.dst v) w') :
    if Region.wanted o (yielded ops a.tmps) = true then Oper.wp P o a w K Q else E :=
  J_val hgd (by unfold execOp; rw [ho]; exact run_val h) hK
end
theorem al_shr (w : World) : (Instr.alloc 53 true (.tuple #[])).run Tryd.prog w = .ok (.pointer (some ⟨w.heap.size, 0, none⟩)) (w.alloc (.cells #[.int .i64 0, .slice none 0 0] 53)) := by
  go_simp
theorem st_shr {w : World} {x : Nat} {y : Int} {v : Value} (h : ShCell w x y v) (z : Int) (A : Option Addr) (n c : Nat) : (Instr.storeAt 53 (.pointer (some ⟨x, 0, none⟩)) (shV z (.slice A n c))).run Tryd.prog w = .ok () ((w.setCell ⟨x, 0, none⟩ (.int .i64 z)).setCell ⟨x, 1, none⟩ (.slice A n c)) := by
  have h0 := h.c0
  have h1 := h.c1
  have f0 := h.frozen 0
  have f1 := h.frozen 1
  go_simp
theorem ptr_inj {a b : Nat} (h : (Value.pointer (some ⟨a, 0, none⟩)) = .pointer (some ⟨b, 0, none⟩)) : a = b := by
  injection h with h; injection h with h; injection h
/-- A share made: its numbers at 9, the whole at 10, the variable at 11, the store at 12. -/
structure JoS (W0 : World) (y : Int) (m : Nat) (V : Nat → Value) (L : Nat → Bool) (w : World) : Prop where
  b : Below W0.heap.size W0 w
  so : L 12 = true → L 11 = true ∧ L 10 = true
  bd : L 10 = true → L 9 = true ∧ V 10 = shV y (V 9)
  nu : L 9 = true → ∃ vb, V 9 = .slice (some ⟨vb, 0, none⟩) m m ∧ W0.heap.size ≤ vb ∧ NatBlk w vb (List.replicate m 0) ∧ (L 11 = true → V 11 ≠ .pointer (some ⟨vb, 0, none⟩))
  al : L 11 = true → ∃ nb, V 11 = .pointer (some ⟨nb, 0, none⟩) ∧ W0.heap.size ≤ nb ∧ nb < w.heap.size ∧ (L 12 = false → ShCell w nb 0 (.slice none 0 0)) ∧ (L 12 = true → ShCell w nb y (V 9))
section
variable {W0 w w' : World} {y : Int} {m : Nat} {V : Nat → Value} {L : Nat → Bool}
theorem JoS.start (V : Nat → Value) : JoS W0 y m V (fun _ => false) W0.drew :=
  ⟨Below.drew (Below.refl _ _), fun e => (by cases e), fun e => (by cases e), fun e => (by cases e), fun e => (by cases e)⟩
theorem JoS.mv (h : JoS W0 y m V L w) (i : Nat) (hi : 9 ≠ i ∧ 10 ≠ i ∧ 11 ≠ i ∧ 12 ≠ i) {v : Value} : JoS W0 y m (updV V i v) (upd L i) w := by
  obtain ⟨h1, h2, h3, h4⟩ := hi
  obtain ⟨q1, q2, q3, q4, q5⟩ := h
  refine ⟨?_, ?_, ?_, ?_, ?_⟩ <;> (try simp only [upd_other _ h1, upd_other _ h2, upd_other _ h3, upd_other _ h4, updV_other _ _ h1, updV_other _ _ h2, updV_other _ _ h3]) <;> assumption
theorem JoS.n10 (h : JoS W0 y m V L w) (hL : L 9 = false) : L 10 = false := by
  cases q : L 10 with
  | false => rfl
  | true => have := (h.bd q).1; rw [hL] at this; cases this
theorem JoS.n12 (h : JoS W0 y m V L w) (hL : L 10 = false) : L 12 = false := by
  cases q : L 12 with
  | false => rfl
  | true => have := (h.so q).2; rw [hL] at this; cases this
theorem JoS.n12a (h : JoS W0 y m V L w) (hL : L 11 = false) : L 12 = false := by
  cases q : L 12 with
  | false => rfl
  | true => have := (h.so q).1; rw [hL] at this; cases this
/-- The numbers are made. -/
theorem JoS.om (h : JoS W0 y m V L w) (hL : L 9 = false) {t : TypeId} (hv : NatBlk (w.alloc (.cells (Array.replicate m (.int .i64 0)) t)) w.heap.size (List.replicate m 0)) : JoS W0 y m (updV V 9 (.slice (some ⟨w.heap.size, 0, none⟩) m m)) (upd L 9) (w.alloc (.cells (Array.replicate m (.int .i64 0)) t)) := by
  have n1 := h.n10 hL
  have n2 := h.n12 n1
  refine ⟨below_trans h.b (below_alloc _ _), ?_, ?_, fun _ => ⟨w.heap.size, updV_same _ _ _, h.b.size, hv, ?_⟩, ?_⟩
  · rw [upd_other _ (show 12 ≠ 9 by decide), n2]; intro e; cases e
  · rw [upd_other _ (show 10 ≠ 9 by decide), n1]; intro e; cases e
  · rw [upd_other _ (show 11 ≠ 9 by decide), updV_other _ _ (show 11 ≠ 9 by decide)]
    intro e e2
    obtain ⟨nb, h1, -, h3, -⟩ := h.al e
    have := ptr_inj (h1.symm.trans e2); omega
  · rw [upd_other _ (show 11 ≠ 9 by decide), upd_other _ (show 12 ≠ 9 by decide), updV_other _ _ (show 11 ≠ 9 by decide), n2]
    intro e
    obtain ⟨nb, h1, h2, h3, h4, -⟩ := h.al e
    exact ⟨nb, h1, h2, Nat.lt_of_lt_of_le h3 (below_alloc _ _).size, fun _ => (h4 n2).below (below_alloc _ _), fun e => by cases e⟩
/-- The whole. -/
theorem JoS.ob (h : JoS W0 y m V L w) (h9 : L 9 = true) (hL : L 10 = false) : JoS W0 y m (updV V 10 (shV y (V 9))) (upd L 10) w := by
  have n2 := h.n12 hL
  refine ⟨h.b, ?_, fun _ => ⟨by rw [upd_other _ (show 9 ≠ 10 by decide)]; exact h9, by rw [updV_same, updV_other _ _ (show 9 ≠ 10 by decide)]⟩, ?_, ?_⟩
  · rw [upd_other _ (show 12 ≠ 10 by decide), n2]; intro e; cases e
  · rw [upd_other _ (show 9 ≠ 10 by decide), upd_other _ (show 11 ≠ 10 by decide), updV_other _ _ (show 9 ≠ 10 by decide), updV_other _ _ (show 11 ≠ 10 by decide)]
    exact h.nu
  · rw [upd_other _ (show 11 ≠ 10 by decide), upd_other _ (show 12 ≠ 10 by decide), updV_other _ _ (show 11 ≠ 10 by decide), updV_other _ _ (show 9 ≠ 10 by decide)]
    exact h.al
/-- The variable. -/
theorem JoS.oa (h : JoS W0 y m V L w) (hL : L 11 = false) : JoS W0 y m (updV V 11 (.pointer (some ⟨w.heap.size, 0, none⟩))) (upd L 11) (w.alloc (.cells #[.int .i64 0, .slice none 0 0] 53)) := by
  have n2 := h.n12a hL
  refine ⟨below_trans h.b (below_alloc _ _), ?_, ?_, ?_, ?_⟩
  · rw [upd_other _ (show 12 ≠ 11 by decide), n2]; intro e; cases e
  · rw [upd_other _ (show 10 ≠ 11 by decide), upd_other _ (show 9 ≠ 11 by decide), updV_other _ _ (show 10 ≠ 11 by decide), updV_other _ _ (show 9 ≠ 11 by decide)]
    exact h.bd
  · rw [upd_other _ (show 9 ≠ 11 by decide), updV_other _ _ (show 9 ≠ 11 by decide), updV_same]
    intro e
    obtain ⟨vb, h1, h2, h3, -⟩ := h.nu e
    exact ⟨vb, h1, h2, h3.below (below_alloc _ _), fun _ e2 => by have := ptr_inj e2; have := h3.lt; omega⟩
  · rw [upd_other _ (show 12 ≠ 11 by decide), updV_same, updV_other _ _ (show 9 ≠ 11 by decide), n2]
    intro _
    exact ⟨_, rfl, h.b.size, by simp, fun _ => ShCell.new _ _ rfl, fun e => by cases e⟩
/-- The store. -/
theorem JoS.os (h : JoS W0 y m V L w) (h10 : L 10 = true) (h11 : L 11 = true) (hL : L 12 = false) : ∃ w', (Instr.storeAt 53 (V 11) (V 10)).run Tryd.prog w = .ok () w' ∧ ∀ v, JoS W0 y m (updV V 12 v) (upd L 12) w' := by
  obtain ⟨nb, h1, h2, h3, h4, -⟩ := h.al h11
  obtain ⟨h9, hv⟩ := h.bd h10
  obtain ⟨vb, k1, k2, k3, k4⟩ := h.nu h9
  have hne : vb ≠ nb := fun e => k4 h11 (by rw [h1, e])
  have hr := st_shr (h4 hL) y (some ⟨vb, 0, none⟩) m m
  rw [h1, hv, k1]
  refine ⟨_, hr, fun v => ⟨below_set2 h.b h2 _ _, ?_, ?_, ?_, ?_⟩⟩
  · intro _; exact ⟨by rw [upd_other _ (show 11 ≠ 12 by decide)]; exact h11, by rw [upd_other _ (show 10 ≠ 12 by decide)]; exact h10⟩
  · rw [upd_other _ (show 10 ≠ 12 by decide), upd_other _ (show 9 ≠ 12 by decide), updV_other _ _ (show 10 ≠ 12 by decide), updV_other _ _ (show 9 ≠ 12 by decide)]
    exact h.bd
  · rw [upd_other _ (show 9 ≠ 12 by decide), upd_other _ (show 11 ≠ 12 by decide), updV_other _ _ (show 9 ≠ 12 by decide), updV_other _ _ (show 11 ≠ 12 by decide)]
    intro _
    exact ⟨vb, k1, k2, (Below.heap_setCell _ _ _ vb hne).trans ((Below.heap_setCell _ _ _ vb hne).trans k3), k4⟩
  · rw [upd_other _ (show 11 ≠ 12 by decide), updV_other _ _ (show 11 ≠ 12 by decide), updV_other _ _ (show 9 ≠ 12 by decide), upd_same, k1]
    intro _
    exact ⟨nb, h1, h2, by simpa [World.setCell] using h3, fun e => (by cases e), fun _ => shcell_fill (h4 hL) _ _⟩
theorem JoS.fin (h : JoS W0 y m V L w) (h12 : L 12 = true) : ∃ vb nb, V 11 = .pointer (some ⟨nb, 0, none⟩) ∧ W0.heap.size ≤ vb ∧ W0.heap.size ≤ nb ∧ vb ≠ nb ∧ NatBlk w vb (List.replicate m 0) ∧ ShCell w nb y (.slice (some ⟨vb, 0, none⟩) m m) ∧ Below W0.heap.size W0 w := by
  obtain ⟨h11, h10⟩ := h.so h12
  obtain ⟨nb, h1, h2, h3, -, h5⟩ := h.al h11
  obtain ⟨h9, hv⟩ := h.bd h10
  obtain ⟨vb, k1, k2, k3, k4⟩ := h.nu h9
  have h6 := h5 h12
  rw [k1] at h6
  exact ⟨vb, nb, h1, k2, h2, fun e => k4 h11 (by rw [h1, e]), k3, h6, h.b⟩
end
theorem bd_shr (w : World) (h : Int) (A : Option Addr) (n c : Nat) : (Instr.build 53 #[(0, .int .i64 h), (1, .slice A n c)]).run Tryd.prog w = .ok (shV h (.slice A n c)) w := by go_simp
/-- A store (19) of a number that was read (7), summed up (14) and cut down (17) before. -/
structure StS (W0 : World) (q : Addr) (x : Value) (_ : Nat → Value) (L : Nat → Bool) (w : World) : Prop where
  n : L 19 = false → w = W0.drew
  y : L 19 = true → w = W0.drew.setCell q x
  c1 : L 19 = true → L 17 = true
  c2 : L 17 = true → L 14 = true
  c3 : L 14 = true → L 7 = true
section
variable {W0 w : World} {q : Addr} {x : Value} {V V' : Nat → Value} {L : Nat → Bool}
theorem StS.start (V : Nat → Value) : StS W0 q x V (fun _ => false) W0.drew := ⟨fun _ => rfl, fun e => (by cases e), fun e => (by cases e), fun e => (by cases e), fun e => (by cases e)⟩
theorem StS.mv (h : StS W0 q x V L w) (i : Nat) (hi : 7 ≠ i ∧ 14 ≠ i ∧ 17 ≠ i ∧ 19 ≠ i) : StS W0 q x V' (upd L i) w := by
  obtain ⟨h1, h2, h3, h4⟩ := hi
  obtain ⟨q1, q2, q3, q4, q5⟩ := h
  refine ⟨?_, ?_, ?_, ?_, ?_⟩ <;> (try simp only [upd_other _ h1, upd_other _ h2, upd_other _ h3, upd_other _ h4]) <;> assumption
theorem StS.n7 (h : StS W0 q x V L w) (hL : L 7 = false) : w = W0.drew := by
  refine h.n ?_
  cases e : L 19 with
  | false => rfl
  | true => have := h.c3 (h.c2 (h.c1 e)); rw [hL] at this; cases this
theorem StS.cell (h : StS W0 q x V L w) {p : Addr} {v : Value} (hp : W0.cell? p = some v) (hne : p.block ≠ q.block) : w.cell? p = some v := by
  cases e : L 19 with
  | false => rw [h.n e]; exact hp
  | true => rw [h.y e]; exact (World.cell?_of_block (w := W0) (Below.heap_setCell W0.drew q x p.block hne)).trans hp
theorem StS.o7 (h : StS W0 q x V L w) (hL : L 7 = false) : StS W0 q x V' (upd L 7) w := by
  have e := h.n7 hL
  have e19 : L 19 = false := by
    cases e : L 19 with
    | false => rfl
    | true => have := h.c3 (h.c2 (h.c1 e)); rw [hL] at this; cases this
  have e17 : L 17 = false := by
    cases e : L 17 with
    | false => rfl
    | true => have := h.c3 (h.c2 e); rw [hL] at this; cases this
  refine ⟨fun _ => e, ?_, ?_, ?_, fun _ => upd_same _ _⟩
  · rw [upd_other _ (show 19 ≠ 7 by decide), e19]; intro e; cases e
  · rw [upd_other _ (show 19 ≠ 7 by decide), e19]; intro e; cases e
  · rw [upd_other _ (show 17 ≠ 7 by decide), e17]; intro e; cases e
theorem StS.o14 (h : StS W0 q x V L w) (h7 : L 7 = true) (_ : L 14 = false) : StS W0 q x V' (upd L 14) w := by
  refine ⟨?_, ?_, ?_, fun _ => upd_same _ _, fun _ => by rw [upd_other _ (show 7 ≠ 14 by decide)]; exact h7⟩
  · rw [upd_other _ (show 19 ≠ 14 by decide)]; exact h.n
  · rw [upd_other _ (show 19 ≠ 14 by decide)]; exact h.y
  · rw [upd_other _ (show 19 ≠ 14 by decide), upd_other _ (show 17 ≠ 14 by decide)]; exact h.c1
theorem StS.o17 (h : StS W0 q x V L w) (h14 : L 14 = true) (_ : L 17 = false) : StS W0 q x V' (upd L 17) w := by
  refine ⟨?_, ?_, fun _ => upd_same _ _, fun _ => by rw [upd_other _ (show 14 ≠ 17 by decide)]; exact h14, ?_⟩
  · rw [upd_other _ (show 19 ≠ 17 by decide)]; exact h.n
  · rw [upd_other _ (show 19 ≠ 17 by decide)]; exact h.y
  · rw [upd_other _ (show 14 ≠ 17 by decide), upd_other _ (show 7 ≠ 17 by decide)]; exact h.c3
theorem StS.o19 (h : StS W0 q x V L w) (h17 : L 17 = true) (hL : L 19 = false) : StS W0 q x V' (upd L 19) (w.setCell q x) := by
  refine ⟨fun e => ?_, fun _ => by rw [h.n hL], fun _ => by rw [upd_other _ (show 17 ≠ 19 by decide)]; exact h17, ?_, ?_⟩
  · rw [upd_same] at e; cases e
  · rw [upd_other _ (show 17 ≠ 19 by decide), upd_other _ (show 14 ≠ 19 by decide)]; exact h.c2
  · rw [upd_other _ (show 14 ≠ 19 by decide), upd_other _ (show 7 ≠ 19 by decide)]; exact h.c3
end
theorem st_int {w : World} {q : Addr} {y : Value} (h : w.cell? q = some y) (hf : w.frozen? q = false) (z : Int) : (Instr.storeAt 3 (.pointer (some q)) (.int .i64 z)).run Tryd.prog w = .ok () (w.setCell q (.int .i64 z)) := by
  go_simp
section
variable (o1 o2 : Operand) (w : World)
theorem b_mulI {x y r : Int} (hr : x * y = r) (h1 : -9223372036854775808 ≤ r) (h2 : r ≤ 9223372036854775807) : (do Go.eqGuard .mul 3 o1 o2 (.int .i64 x) (.int .i64 y); Go.binOp .mul 3 (.int .i64 x) (.int .i64 y) : Sem Value).run Tryd.prog w = .ok (.int .i64 r) w := by
  simp only [Go.eqGuard]
  go_simp
  exact IntWalk.i64_in _ (by omega)
theorem b_addI {x y r : Int} (hr : x + y = r) (h1 : -9223372036854775808 ≤ r) (h2 : r ≤ 9223372036854775807) : (do Go.eqGuard .add 3 o1 o2 (.int .i64 x) (.int .i64 y); Go.binOp .add 3 (.int .i64 x) (.int .i64 y) : Sem Value).run Tryd.prog w = .ok (.int .i64 r) w := by
  simp only [Go.eqGuard]
  go_simp
  exact IntWalk.i64_in _ (by omega)
theorem b_remI {x r : Int} {p : Nat} (hp : 1 ≤ p) (hr : x.tmod p = r) : (do Go.eqGuard .rem 3 o1 o2 (.int .i64 x) (.int .i64 (p : Int)); Go.binOp .rem 3 (.int .i64 x) (.int .i64 (p : Int)) : Sem Value).run Tryd.prog w = .ok (.int .i64 r) w := by
  have h2 : ¬ (p : Int) = 0 := by omega
  simp only [Go.eqGuard]
  go_simp
  omega
end
theorem below_setQ {B : Nat} {w w' : World} (h : Below B w w') (p : Addr) (u : Value) (hp : B ≤ p.block) : Below B w (w'.setCell p u) :=
  h.trans ⟨rfl, rfl, rfl, by simp [World.setCell], fun k hk => Below.heap_setCell w' p u k (by omega)⟩
/-- Shares that a call gave, with an error. -/
def PrSE (B : Nat) (S : List Shr) (n : Nat) (er : Int) : Pr Bl :=
  ⟨fun v w => ∃ DA dc, v = .tuple #[.slice DA n dc, .int .i64 er] ∧ ShP (fun b => B ≤ b) w DA dc S, fun _ _ _ h hb => by
    obtain ⟨DA, dc, e, h2⟩ := h; exact ⟨DA, dc, e, h2.below hb⟩⟩
def PrS1 (B : Nat) (S : List Shr) (n : Nat) : Pr Bl :=
  ⟨fun v w => ∃ DA dc, v = .slice DA n dc ∧ ShP (fun b => B ≤ b) w DA dc S, fun _ _ _ h hb => by
    obtain ⟨DA, dc, e, h2⟩ := h; exact ⟨DA, dc, e, h2.below hb⟩⟩
theorem ld_plan {w : World} {x : Nat} {p n h : Int} (H : PlanCell w x p n h) : (Instr.loadAt 28 (.pointer (some ⟨x, 0, none⟩))).run Tryd.prog w = .ok (planV p n h) w := by
  have h0 := H.c0
  have h1 := H.c1
  have h2 := H.c2
  go_simp
theorem ld_shr {w : World} {x : Nat} {y : Int} {v : Value} (H : ShCell w x y v) : (Instr.loadAt 53 (.pointer (some ⟨x, 0, none⟩))).run Tryd.prog w = .ok (shV y v) w := by
  have h0 := H.c0
  have h1 := H.c1
  go_simp
end Go.Proofs.YtlhipgejiacklaaDoor
