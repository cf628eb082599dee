/- Code, functions. -/
import Derived.Test.YtcmfahemeogamaaGreatEvO
namespace Go.Ev
section
variable {P : Program}

def exOf : Ex → Exit
  | .normal => .normal
  | .exit id => .exit id
  | .ret => .ret
/-- What a piece of code comes to: of a loop, its rounds are bounded. -/
def Reach (P : Program) (c : Code) (fuel : Nat) (Q : Exit → Act → World → Prop) (A : Act) (w : World) : Prop :=
  match c with
  | .loop b => Code.rounds P b Q fuel A w
  | c => c.wp P Q A w
theorem Reach.wp {c : Code} {fuel : Nat} {Q : Exit → Act → World → Prop} {A : Act} {w : World} (h : Reach P c fuel Q A w) : c.wp P Q A w := by
  cases c <;> first | exact wp_loop_rounds fuel h | exact h

theorem exec_succ (call : CallF) (n fuel : Nat) : exec P call n (fuel + 1) = execStep P call n (exec P call n fuel) := rfl
theorem exec_run {call : CallF} (hc : CallOk P call) (hmix : P.follows .mixedOrders = true) {n : Nat} (hn : n ≤ TMAX) : ∀ (fuel : Nat) (c : Code) (s s' : St) (a a' : Fr) (ex : Ex), exec P call n fuel c s a = some (ex, s', a') →
    Mono s s' ∧ ∀ (H : Nat → Option O) (φ : Phi) (w : World) (A : Act), Pre s s' H φ w → FRel φ n a A → ∀ (Q : Exit → Act → World → Prop),
      (∀ H' φ' w' A', Post s s' H φ w H' φ' w' → FRel φ' n a' A' → Q (exOf ex) A' w') → Reach P c fuel Q A w := by
  intro fuel
  induction fuel with
  | zero => intro c s s' a a' ex h; cases h
  | succ fuel ih =>
    intro c s s' a a' ex h
    rw [exec_succ] at h
    generalize hE : exec P call n fuel = E at h ih
    cases c with
    | skip =>
      simp only [execStep, Option.some.injEq, Prod.mk.injEq] at h
      obtain ⟨rfl, rfl, rfl⟩ := h
      exact ⟨Mono.refl _, fun H φ w A p r Q hQ => wp_skip (hQ H φ w A (Post.refl p) r)⟩
    | exit id =>
      simp only [execStep, Option.some.injEq, Prod.mk.injEq] at h
      obtain ⟨rfl, rfl, rfl⟩ := h
      exact ⟨Mono.refl _, fun H φ w A p r Q hQ => wp_exit (hQ H φ w A (Post.refl p) r)⟩
    | ret =>
      simp only [execStep, Option.some.injEq, Prod.mk.injEq] at h
      obtain ⟨rfl, rfl, rfl⟩ := h
      exact ⟨Mono.refl _, fun H φ w A p r Q hQ => wp_ret (hQ H φ w A (Post.refl p) r)⟩
    | seq x y =>
      simp only [execStep] at h
      cases hx : E x s a with
      | none => rw [hx] at h; cases h
      | some r1 =>
        obtain ⟨e1, s1, a1⟩ := r1
        rw [hx] at h
        obtain ⟨hm1, h1⟩ := ih x s s1 a a1 e1 hx
        cases e1 with
        | normal =>
          simp only [thenV] at h
          obtain ⟨hm2, h2⟩ := ih y s1 s' a1 a' ex h
          refine ⟨hm1.trans hm2, fun H φ w A p r Q hQ => wp_seq ?_⟩
          refine (h1 H φ w A (p.left hm2) r _ (fun H1 φ1 w1 A1 hp hr => ?_)).wp
          exact (h2 H1 φ1 w1 A1 (p.right hm1 hp) hr Q (fun H' φ' w' A' hp' hr' => hQ H' φ' w' A' (Post.trans hm1 hm2 hp hp') hr')).wp
        | exit id =>
          simp only [thenV, Option.some.injEq, Prod.mk.injEq] at h
          obtain ⟨rfl, rfl, rfl⟩ := h
          exact ⟨hm1, fun H φ w A p r Q hQ => wp_seq (h1 H φ w A p r (Exit.then (y.wp P Q) Q) (fun H1 φ1 w1 A1 hp hr => hQ H1 φ1 w1 A1 hp hr)).wp⟩
        | ret =>
          simp only [thenV, Option.some.injEq, Prod.mk.injEq] at h
          obtain ⟨rfl, rfl, rfl⟩ := h
          exact ⟨hm1, fun H φ w A p r Q hQ => wp_seq (h1 H φ w A p r (Exit.then (y.wp P Q) Q) (fun H1 φ1 w1 A1 hp hr => hQ H1 φ1 w1 A1 hp hr)).wp⟩
    | cond c x y =>
      simp only [execStep] at h
      cases hv : opnd a c with
      | none => rw [hv] at h; cases h
      | some v =>
        rw [hv] at h
        cases v <;> simp only [condV, reduceCtorEq] at h
        rename_i b
        have key : ∀ (φ : Phi) (A : Act), FRel φ n a A → A.eval c = .bool b := by
          intro φ A r
          have := opnd_rel hv (fun t _ ht => r.at_ t ht)
          generalize A.eval c = z at this
          cases this; rfl
        cases b with
        | true =>
          obtain ⟨hm, h1⟩ := ih x s s' a a' ex h
          exact ⟨hm, fun H φ w A p r Q hQ => wp_cond_true (key φ A r) (h1 H φ w A p r Q hQ).wp⟩
        | false =>
          obtain ⟨hm, h1⟩ := ih y s s' a a' ex h
          exact ⟨hm, fun H φ w A p r Q hQ => wp_cond_false (key φ A r) (h1 H φ w A p r Q hQ).wp⟩
    | block id b =>
      simp only [execStep] at h
      cases hx : E b s a with
      | none => rw [hx] at h; cases h
      | some r1 =>
        obtain ⟨e1, s1, a1⟩ := r1
        rw [hx] at h
        obtain ⟨hm1, h1⟩ := ih b s s1 a a1 e1 hx
        cases e1 with
        | normal =>
          simp only [inBlockV, Option.some.injEq, Prod.mk.injEq] at h
          obtain ⟨rfl, rfl, rfl⟩ := h
          exact ⟨hm1, fun H φ w A p r Q hQ => wp_block (h1 H φ w A p r (Exit.inBlock id Q) (fun H1 φ1 w1 A1 hp hr => hQ H1 φ1 w1 A1 hp hr)).wp⟩
        | exit i =>
          simp only [inBlockV, Option.some.injEq, Prod.mk.injEq] at h
          obtain ⟨h1', rfl, rfl⟩ := h
          refine ⟨hm1, fun H φ w A p r Q hQ => wp_block (h1 H φ w A p r (Exit.inBlock id Q) (fun H1 φ1 w1 A1 hp hr => ?_)).wp⟩
          have := hQ H1 φ1 w1 A1 hp hr
          show if i = id then Q .normal A1 w1 else Q (.exit i) A1 w1
          cases hb : Nat.beq i id with
          | true => rw [hb] at h1'; subst h1'; rw [if_pos (beq_iff.1 hb)]; exact this
          | false =>
            rw [hb] at h1'; subst h1'
            rw [if_neg (fun e => by rw [beq_iff.2 e] at hb; cases hb)]; exact this
        | ret =>
          simp only [inBlockV, Option.some.injEq, Prod.mk.injEq] at h
          obtain ⟨rfl, rfl, rfl⟩ := h
          exact ⟨hm1, fun H φ w A p r Q hQ => wp_block (h1 H φ w A p r (Exit.inBlock id Q) (fun H1 φ1 w1 A1 hp hr => hQ H1 φ1 w1 A1 hp hr)).wp⟩
    | loop b =>
      simp only [execStep] at h
      cases hx : E b s a with
      | none => rw [hx] at h; cases h
      | some r1 =>
        obtain ⟨e1, s1, a1⟩ := r1
        rw [hx] at h
        obtain ⟨hm1, h1⟩ := ih b s s1 a a1 e1 hx
        cases e1 with
        | normal =>
          simp only [thenV] at h
          obtain ⟨hm2, h2⟩ := ih (.loop b) s1 s' a1 a' ex h
          refine ⟨hm1.trans hm2, fun H φ w A p r Q hQ => ?_⟩
          show Code.rounds P b Q (fuel + 1) A w
          rw [rounds_succ]
          refine (h1 H φ w A (p.left hm2) r _ (fun H1 φ1 w1 A1 hp hr => ?_)).wp
          exact h2 H1 φ1 w1 A1 (p.right hm1 hp) hr Q (fun H' φ' w' A' hp' hr' => hQ H' φ' w' A' (Post.trans hm1 hm2 hp hp') hr')
        | exit i =>
          simp only [thenV, Option.some.injEq, Prod.mk.injEq] at h
          obtain ⟨rfl, rfl, rfl⟩ := h
          refine ⟨hm1, fun H φ w A p r Q hQ => ?_⟩
          show Code.rounds P b Q (fuel + 1) A w
          rw [rounds_succ]
          exact (h1 H φ w A p r (Exit.then (Code.rounds P b Q fuel) Q) (fun H1 φ1 w1 A1 hp hr => hQ H1 φ1 w1 A1 hp hr)).wp
        | ret =>
          simp only [thenV, Option.some.injEq, Prod.mk.injEq] at h
          obtain ⟨rfl, rfl, rfl⟩ := h
          refine ⟨hm1, fun H φ w A p r Q hQ => ?_⟩
          show Code.rounds P b Q (fuel + 1) A w
          rw [rounds_succ]
          exact (h1 H φ w A p r (Exit.then (Code.rounds P b Q fuel) Q) (fun H1 φ1 w1 A1 hp hr => hQ H1 φ1 w1 A1 hp hr)).wp
    | region id ops draw =>
      simp only [execStep] at h
      cases draw with
      | true =>
        simp only [cond_true] at h
        cases hd : drawnV call s a (pstepsOf P n ops) with
        | none => rw [hd] at h; cases h
        | some sa =>
          obtain ⟨s1, a1⟩ := sa
          rw [hd] at h
          simp only [done, Option.some.injEq, Prod.mk.injEq] at h
          obtain ⟨rfl, rfl, rfl⟩ := h
          obtain ⟨hm, hr⟩ := drawn_run hc hmix hn hd id
          exact ⟨hm, fun H φ w A p r Q hQ => hr H φ w A p r Q hQ⟩
      | false =>
        simp only [cond_false] at h
        cases hd : regionV call (stepsOf P n ops) s a with
        | none => rw [hd] at h; cases h
        | some sa =>
          obtain ⟨s1, a1⟩ := sa
          rw [hd] at h
          simp only [done, Option.some.injEq, Prod.mk.injEq] at h
          obtain ⟨rfl, rfl, rfl⟩ := h
          obtain ⟨hm, hr⟩ := region_run hc hn hd id
          exact ⟨hm, fun H φ w A p r Q hQ => hr H φ w A p r Q hQ⟩
    | _ => simp only [execStep, reduceCtorEq] at h

theorem args0_get : ∀ (l : List V) (i t : Nat) (tr : T V), i + l.length ≤ TMAX → t < TMAX → T.get (bits TK t) (args0 l i tr) = if i ≤ t then (match l[t - i]? with | some v => some v | none => T.get (bits TK t) tr) else T.get (bits TK t) tr := by
  intro l
  induction l with
  | nil => intro i t tr _ _; show T.get (bits TK t) tr = _; simp
  | cons v l ih =>
    intro i t tr hl ht
    have hT : TMAX = 2 ^ TK := rfl
    have e : args0 (v :: l) i tr = args0 l (i + 1) (T.put (.one v) (bits TK i) tr) := rfl
    simp only [List.length_cons] at hl
    rw [e, ih (i + 1) t _ (by omega) ht]
    by_cases h1 : i ≤ t
    · rw [if_pos h1]
      by_cases h2 : i = t
      · subst h2
        rw [if_neg (by omega), T.get_put_same]
        simp
        rfl
      · rw [if_pos (by omega), T.get_put_other _ _ _ _ (by rw [bits_length, bits_length]) (fun h => h2 (bits_inj TK _ _ (by omega) (by omega) h)), show t - i = (t - (i + 1)) + 1 by omega, List.getElem?_cons_succ]
    · rw [if_neg (by omega), if_neg h1, T.get_put_other _ _ _ _ (by rw [bits_length, bits_length]) (fun h => by have := bits_inj TK _ _ (by omega) (by omega) h; omega)]
theorem args_rel {φ : Phi} {args : List V} {A : Array Value} (h : LRel φ args A.toList) {n : Nat} (hl : args.length ≤ n) (hn : n ≤ TMAX) : FRel φ n ⟨args0 args 0 .nil⟩ { tmps := A ++ Array.replicate (n - A.size) Go.undef, defers := [] } := by
  have hlen : args.length = A.size := by simpa using h.len
  refine ⟨by simp; omega, rfl, fun t ht => ?_⟩
  unfold Fr.get
  rw [args0_get args 0 t .nil (by omega) ht, if_pos (Nat.zero_le _), Nat.sub_zero]
  simp only [Array.getD_eq_getD_getElem?]
  cases ha : args[t]? with
  | some v =>
    obtain ⟨y, hy, hv⟩ := h.get ha
    have hlt : t < A.size := by have := (List.getElem?_eq_some_iff.1 ha).1; omega
    rw [Array.getElem?_append_left hlt]
    rw [Array.getElem?_toList] at hy
    rw [hy]
    exact hv
  | none =>
    have hge : A.size ≤ t := by rw [List.getElem?_eq_none_iff] at ha; omega
    rw [Array.getElem?_append_right hge, Array.getElem?_replicate, T.get_nil_of]
    have e : ((if t - A.size < n - A.size then some Go.undef else none : Option Value).getD Go.undef) = Go.undef := by split <;> rfl
    rw [e]
    exact .undef φ

def resF (A : Act) (x : ResultVar) : Sem Value :=
  match x with
  | .tmp t => pure (A.tmps.getD t Go.undef)
  | .cell p t => do loadVar t (← asAddr (A.tmps.getD p Go.undef))
theorem results_eq (fn : Func) (A : Act) : results fn A.tmps = (fn.results.mapM (resF A) >>= fun vs => pure (if h : vs.size = 1 then vs[0] else .tuple vs)) := rfl
theorem resultV_run {s : St} {a : Fr} {x : ResultVar} {v : V} (h : resultV P s a x = some v) {H : Nat → Option O} {φ : Phi} {w : World} {n : Nat} {A : Act} (hs : ∀ n o, s.get n = some o → H n = some o) (hi : Inv H φ w) (r : FRel φ n a A) :
    ∃ X, (resF A x).run P w = .ok X w ∧ VRel φ v X := by
  cases x with
  | tmp t =>
    obtain ⟨ht, h⟩ := cond_some (show cond (Nat.blt t TMAX) (some (a.get t)) none = some v from h)
    injection h with h; subst h
    exact ⟨_, by simp only [resF, Sem.run_pure], r.at_ t (blt_iff.1 ht)⟩
  | cell p t =>
    simp only [resultV, doRead] at h
    cases hr : rLoad (aggSize P t) (.tmp p) (opnd a) with
    | none => rw [hr] at h; cases h
    | some bg =>
      obtain ⟨b, g⟩ := bg
      rw [hr] at h
      simp only at h
      cases hb : s.get b with
      | none => rw [hb] at h; cases h
      | some ob =>
        rw [hb] at h
        simp only at h
        cases hg : g ob with
        | none => rw [hg] at h; cases h
        | some v' =>
          rw [hg] at h
          simp only [Option.some.injEq] at h
          subst h
          unfold rLoad at hr
          cases ho : opnd a (.tmp p) with
          | none => rw [ho] at hr; cases hr
          | some y =>
            rw [ho] at hr
            cases y <;> simp only [reduceCtorEq] at hr
            rename_i b' o
            have hbb : b' = b := by
              cases hk : aggSize P t with
              | none => rw [hk] at hr; cases hr
              | some k => rw [hk] at hr; cases k <;> (simp only [Option.some.injEq, Prod.mk.injEq] at hr; exact hr.1)
            subst hbb
            obtain ⟨l, hl, hor⟩ := hi.obj _ _ (hs _ _ hb)
            obtain ⟨z, hz, hv⟩ := load_run hr hg hor
            have hp := opnd_rel ho (fun t e ht => r.at_ t ht)
            simp only [Act.eval] at hp
            generalize hq : A.tmps.getD p Go.undef = q at hp
            cases hp
            rename_i l' hl'
            rw [hl] at hl'; injection hl' with hl'; subst hl'
            exact ⟨z, by simp [resF, hq, asAddr, hz], hv⟩
theorem resultsL_run {s : St} {a : Fr} {H : Nat → Option O} {φ : Phi} {w : World} {n : Nat} {A : Act} (hs : ∀ n o, s.get n = some o → H n = some o) (hi : Inv H φ w) (r : FRel φ n a A) : ∀ {xs : List ResultVar} {vs : List V}, mapO (resultV P s a) xs = some vs →
    ∃ L, (xs.mapM (resF A)).run P w = .ok L w ∧ LRel φ vs L := by
  intro xs
  induction xs with
  | nil => intro vs h; injection h with h; subst h; exact ⟨[], by simp, .nil φ⟩
  | cons x xs ih =>
    intro vs h
    rw [mapO_cons] at h
    cases hx : resultV P s a x with
    | none => rw [hx] at h; cases h
    | some v =>
      rw [hx] at h
      cases hr : mapO (resultV P s a) xs with
      | none => rw [hr] at h; cases h
      | some vs' =>
        rw [hr] at h
        injection h with h; subst h
        obtain ⟨X, hX, hv⟩ := resultV_run hx hs hi r
        obtain ⟨L, hL, hvs⟩ := ih hr
        refine ⟨X :: L, ?_, .cons hv hvs⟩
        rw [List.mapM_cons]
        simp only [Sem.run_bind, hX, Result.andThen_ok, hL, Sem.run_pure]

/-- A function whose body the evaluator runs. -/
theorem body_run {call : CallF} (hc : CallOk P call) (hmix : P.follows .mixedOrders = true) {f : FuncId} {fi : FnI} (hf : fnOf P f = some fi) {args : List V} {s s' : St} {v : V}
    (h : cond (Nat.ble args.length fi.n) (endV P fi.results (exec P call fi.n FUEL fi.body s ⟨args0 args 0 .nil⟩)) none = some (v, s')) :
    (∀ (A : Array Value) (w : World), (callFunc f A).run P w = .ok (.enter f A) w) ∧ Mono s s' ∧
    ∀ (H : Nat → Option O) (φ : Phi) (w : World) (A : Array Value), Pre s s' H φ w → LRel φ args A.toList → Calls P f A w (RetOk v s s' H φ w) := by
  unfold fnOf at hf
  cases hfn : P.funcs[f]? with
  | none => rw [hfn] at hf; cases hf
  | some fn =>
    rw [hfn] at hf
    simp only at hf
    cases hb : fn.body with
    | none => rw [hb] at hf; cases hf
    | some body =>
      rw [hb] at hf
      simp only at hf
      obtain ⟨hchk, hf⟩ := cond_some hf
      injection hf with hf; subst hf
      rw [Bool.and_eq_true, Bool.not_eq_true'] at hchk
      have hn := ble_iff.1 hchk.1
      obtain ⟨hle, h⟩ := cond_some h
      have hle := ble_iff.1 hle
      refine ⟨fun A w => ?_, ?_⟩
      · have h0 : ¬ (fn.name = "runtime.NumGoroutine") := by simpa using hchk.2
        simp [callFunc, hfn, h0, hb]
      · unfold endV at h
        have fin : ∀ (ex : Ex) (s1 : St) (a1 : Fr), (∀ i, ex ≠ .exit i) → exec P call fn.ntmps FUEL body s ⟨args0 args 0 .nil⟩ = some (ex, s1, a1) →
            (match mapO (resultV P s1 a1) fn.results.toList with | some [v] => some (v, s1) | some vs => some (.tuple vs, s1) | none => none) = some (v, s') →
            Mono s s' ∧ ∀ (H : Nat → Option O) (φ : Phi) (w : World) (A : Array Value), Pre s s' H φ w → LRel φ args A.toList → Calls P f A w (RetOk v s s' H φ w) := by
          intro ex s1 a1 hex he hres
          obtain ⟨hm, hr⟩ := exec_run hc hmix hn FUEL body s s1 _ a1 ex he
          cases hmo : mapO (resultV P s1 a1) fn.results.toList with
          | none => rw [hmo] at hres; cases hres
          | some vs =>
            rw [hmo] at hres
            have hs1 : s1 = s' := by
              split at hres
              · simp only [Option.some.injEq, Prod.mk.injEq] at hres; exact hres.2
              · simp only [Option.some.injEq, Prod.mk.injEq] at hres; exact hres.2
              · cases hres
            subst hs1
            refine ⟨hm, fun H φ w A p hA => ?_⟩
            refine calls_of_wp hfn hb ?_
            refine (hr H φ w _ p (args_rel hA hle hn) _ (fun H' φ' w' A' hp hR => ?_)).wp
            obtain ⟨L, hL, hvs⟩ := resultsL_run hp.sub hp.inv hR hmo
            have hrun : ∃ X, (results fn A'.tmps).run P w' = .ok X w' ∧ VRel φ' v X := by
              have hL' : (fn.results.mapM (resF A')).run P w' = .ok L.toArray w' := by
                rw [Array.mapM_eq_mapM_toList]
                simp only [Sem.run_map, hL]
                rfl
              rw [results_eq]
              simp only [Sem.run_bind, hL', Result.andThen_ok, Sem.run_pure]
              refine ⟨_, rfl, ?_⟩
              have hlen := hvs.len
              split at hres
              · rename_i v0 e
                simp only [Option.some.injEq] at e
                subst e
                simp only [Option.some.injEq, Prod.mk.injEq, and_true] at hres
                subst hres
                cases L with
                | nil => simp at hlen
                | cons X L =>
                  cases L with
                  | cons => simp at hlen
                  | nil => exact hvs.at_ 0 v0 X rfl rfl
              · rename_i vs0 hne e
                simp only [Option.some.injEq] at e
                subst e
                simp only [Option.some.injEq, Prod.mk.injEq, and_true] at hres
                subst hres
                have h1 : ¬ (L.toArray.size = 1) := by
                  intro h1
                  simp at h1
                  cases vs with
                  | nil => simp at hlen; omega
                  | cons x vs =>
                    cases vs with
                    | nil => exact hne x rfl
                    | cons => simp at hlen; omega
                rw [dif_neg h1]
                exact .tuple (by simpa using hlen) (fun i x y hx hy => hvs.at_ i x y hx (by simpa using hy))
              · cases hres
            obtain ⟨X, hX, hv⟩ := hrun
            cases ex with
            | normal => exact ⟨hR.defers, X, hX, H', φ', hv, hp⟩
            | ret => exact ⟨hR.defers, X, hX, H', φ', hv, hp⟩
            | exit i => exact absurd rfl (hex i)
        cases he : exec P call fn.ntmps FUEL body s ⟨args0 args 0 .nil⟩ with
        | none => rw [he] at h; cases h
        | some r =>
          obtain ⟨ex, s1, a1⟩ := r
          rw [he] at h
          cases ex with
          | normal => exact fin .normal s1 a1 (fun i e => by cases e) he h
          | ret => exact fin .ret s1 a1 (fun i e => by cases e) he h
          | exit i => cases h

/-- What is asked of a special function. -/
def SpecOk (P : Program) (sp : FuncId → Bool) : Prop :=
  ∀ f, sp f = true → (∀ (A : Array Value) (w : World), (callFunc f A).run P w = .ok (.enter f A) w) ∧
    ∀ (call : CallF), CallOk P call → ∀ (args : List V) (s s' : St) (v : V), callSpec call args s = some (v, s') → Mono s s' ∧
      ∀ (H : Nat → Option O) (φ : Phi) (w : World) (A : Array Value), Pre s s' H φ w → LRel φ args A.toList → Calls P f A w (RetOk v s s' H φ w)
/-- What the evaluator says of a call is so. -/
theorem call_ok {sp : FuncId → Bool} (hsp : SpecOk P sp) (hmix : P.follows .mixedOrders = true) : ∀ depth, CallOk P (call P sp depth) := by
  intro depth
  induction depth with
  | zero => intro f args s v s' h; cases h
  | succ depth ih =>
    intro f args s v s' h
    change callStep P sp (call P sp depth) f args s = some (v, s') at h
    unfold callStep at h
    cases hb : sp f with
    | true =>
      rw [hb] at h
      obtain ⟨h1, h2⟩ := hsp f hb
      obtain ⟨h3, h4⟩ := h2 _ ih args s s' v h
      exact ⟨h1, h3, h4⟩
    | false =>
      rw [hb] at h
      simp only [cond_false] at h
      cases hf : fnOf P f with
      | none => rw [hf] at h; cases h
      | some fi =>
        rw [hf] at h
        exact body_run ih hmix hf h
end
end Go.Ev
