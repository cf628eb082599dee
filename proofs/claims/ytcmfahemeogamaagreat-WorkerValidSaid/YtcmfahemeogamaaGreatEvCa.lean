/- The function that catches. -/
import Derived.Test.YtcmfahemeogamaaGreatEvEx
import Derived.Test.YtcmfahemeogamaaGreatProg
import Derived.Tactics
import Derived.Tactics2
import Derived.Defers
import Derived.Recover
import Derived.Laws.Pointers
namespace Go.Ev
open Go.Proofs

theorem catch_idle (p : Addr) (w : World) :
    CallsD Tryz.prog 195 #[.pointer (some p)] .returning w fun e u' w' => e = .returned (.tuple #[]) ∧ u' = .returning ∧ w' = w := by
  refine callsD_of_wpS Tryz.func195 rfl fun c₀ cs hu => ?_
  apply wpS_seq
  apply wpS_region
  simp [wpOpsS, go_sem, recoverD, hu, Tryz.ntmps195, Exit.thenS]
  apply wpS_seq
  apply wpS_region
  simp [wpOpsS, go_sem, recoverD, hu, Exit.thenS]
  refine wpS_cond (t := false) (by simp [Act.eval, Array.replicate]) ?_
  simp only [Bool.false_eq_true, if_false]
  refine wpS_of_wp (wp_skip ?_)
  cases c₀
  simp_all [bodyPostS, results, Tryz.results195]

/-- A block that no object lies in, made ahead and written behind. -/
theorem Post.around {s s' : St} {H H' : Nat → Option O} {φ φ' : Phi} {w w2 w3 : World} {X : Obj} (p : Pre s s' H φ w) (h : Post s s' H φ (w.alloc X) H' φ' w2)
    (hb : ∀ b, b ≠ w.heap.size → w3.heap[b]? = w2.heap[b]?) (hz : w3.heap.size = w2.heap.size) (ho : w3.os = w2.os) (ht : w3.tape = w2.tape) (hp : w3.output = w2.output) : Post s s' H φ w H' φ' w3 := by
  have hsz : (w.alloc X).heap.size = w.heap.size + 1 := by simp
  have hne : ∀ n l, φ' n = some l → l.blk ≠ w.heap.size := by
    intro n l hl
    rcases h.blk n l hl with ⟨m, k, hk, e⟩ | hge
    · have := p.inv.in_ m k hk; omega
    · omega
  refine ⟨h.sub, ⟨fun n o ho => ?_, h.inv.inj, fun n l hl => by rw [hz]; exact h.inv.in_ n l hl⟩, h.phi, h.keep, ho.trans h.os, ht.trans h.tape, hp.trans h.output, by have := h.size; omega, fun b hlt hf => ?_, fun n l hl => ?_⟩
  · obtain ⟨l, hl, hr⟩ := h.inv.obj n o ho
    exact ⟨l, hl, by rw [hb _ (hne n l hl)]; exact hr⟩
  · rw [hb b (by omega), h.frame b (by omega) hf]
    simp only [World.alloc, Array.getElem?_push]
    rw [if_neg (by omega)]
  · rcases h.blk n l hl with h | h
    · exact .inl h
    · exact .inr (by omega)
theorem Pre.around {s s' : St} {H : Nat → Option O} {φ : Phi} {w : World} (p : Pre s s' H φ w) (X : Obj) : Pre s s' H φ (w.alloc X) := by
  refine ⟨p.sub, ⟨fun n o ho => ?_, p.inv.inj, fun n l hl => by have := p.inv.in_ n l hl; simp; omega⟩, p.fresh⟩
  obtain ⟨l, hl, hr⟩ := p.inv.obj n o ho
  refine ⟨l, hl, ?_⟩
  have := p.inv.in_ n l hl
  simp only [World.alloc, Array.getElem?_push]
  rw [if_neg (by omega)]
  exact hr

theorem caught_ok : SpecOk Tryz.prog (fun f => Nat.beq f 112) := by
  intro f hf
  have hf := beq_iff.1 hf
  subst hf
  refine ⟨Tryz.call112, fun call hc args s s' v h => ?_⟩
  unfold callSpec at h
  split at h
  · rename_i g first cap
    cases hcl : call g (first ++ cap) s with
    | none => rw [hcl] at h; cases h
    | some vs =>
      obtain ⟨v0, s1⟩ := vs
      rw [hcl] at h
      simp only [Option.some.injEq, Prod.mk.injEq] at h
      obtain ⟨rfl, rfl⟩ := h
      obtain ⟨hin, hm, hr⟩ := hc g _ s v0 s1 hcl
      refine ⟨hm, fun H φ w A p hA => ?_⟩
      have hA1 : ∃ fs bs, A = #[Value.func (.func g) fs bs] ∧ LRel φ first fs.toList ∧ LRel φ cap bs.toList := by
        have hlen := hA.len
        obtain ⟨L⟩ := A
        cases L with
        | nil => simp at hlen
        | cons x L =>
          cases L with
          | cons => simp at hlen
          | nil =>
            have hv := hA.at_ 0 _ x rfl rfl
            cases hv
            rename_i fs bs h1 h2 h3 h4
            exact ⟨fs, bs, rfl, ⟨by simpa using h1, fun i x y hx hy => h2 i x y hx (by simpa using hy)⟩, ⟨by simpa using h3, fun i x y hx hy => h4 i x y hx (by simpa using hy)⟩⟩
      obtain ⟨fs, bs, rfl, has, hbs⟩ := hA1
      have hmf : ∀ (fn : Fn) (first cap : Array Value) (w : World), (Instr.makeFunc fn first cap).run Tryz.prog w = .ok (.func fn first cap) w := fun _ _ _ _ => rfl
      have hcall := hr H φ (w.alloc (.cells #[.bool false] 4)) (fs ++ bs) (p.around _) (by rw [Array.toList_append]; exact has.append hbs)
      refine calls_of_wp_defers Tryz.func112 rfl ?_
      have e0 : (#[Value.func (.func g) fs bs] ++ Array.replicate (Tryz.f112.ntmps - (#[Value.func (.func g) fs bs] : Array Value).size) Go.undef) = #[.func (.func g) fs bs, Go.undef, Go.undef, Go.undef, Go.undef, Go.undef] := rfl
      rw [e0]
      apply wp_seq
      apply wp_region
      simp [wpOps, go_sem, Exit.then, Oper.wp, Oper.upon]
      refine .inl ?_
      apply wp_seq
      apply wp_region
      simp [wpOps, go_sem, Exit.then, Oper.wp, Oper.upon, hmf]
      refine .inl (.inl ?_)
      apply wp_seq
      apply wp_region
      simp [wpOps, go_sem, Exit.then, Oper.wp, Oper.upon, hin]
      refine .inl (.inl ?_)
      refine hcall.mono (fun e w2 he => ?_)
      cases e with
      | panicked => exact he.elim
      | outgrown => exact he.elim
      | returned x =>
        obtain ⟨H', φ', _, hpost⟩ := he
        have hblk : w2.heap[w.heap.size]? = some (.cells #[.bool false] 4 (0, 0)) := by
          rw [hpost.frame w.heap.size (by simp) (fun n l hl e => by have := p.inv.in_ n l hl; omega)]
          show (w.heap.push _)[w.heap.size]? = _
          rw [Array.getElem?_push, if_pos rfl]
        have hc2 : w2.cell? ⟨w.heap.size, 0, none⟩ = some (.bool false) := by simp [World.cell?, hblk]
        have hz2 : w2.frozen? ⟨w.heap.size, 0, none⟩ = false := by simp [World.frozen?, hblk]
        apply wp_seq
        apply wp_region
        simp [wpOps, go_sem, Exit.then, Oper.wp, Oper.upon, hc2, hz2]
        refine .inl (wp_ret ?_)
        have hpost3 := Post.around (w3 := w2.setCell ⟨w.heap.size, 0, none⟩ (.bool true)) p hpost (fun b hb => by rw [setCell_eq_setRow w2 w.heap.size 0 _ 4 (0, 0) _ hblk]; exact setRow_other w2 _ b _ hb) (by simp) rfl rfl rfl
        have hc3 : (w2.setCell ⟨w.heap.size, 0, none⟩ (.bool true)).cell? ⟨w.heap.size, 0, none⟩ = some (.bool true) := by
          rw [setCell_eq_setRow w2 w.heap.size 0 _ 4 (0, 0) _ hblk]
          simp [World.cell?, setRow_heap w2 w.heap.size _ _ 4 (0, 0) hblk]
        refine leaves_cons (f := 195) (args := #[.pointer (some ⟨w.heap.size, 0, none⟩)]) (by simp) (by simp [go_sem]) ?_
        refine (catch_idle ⟨w.heap.size, 0, none⟩ _).mono ?_
        rintro e u' w'' ⟨rfl, rfl, rfl⟩
        simp [Leaves, settle, results, Tryz.results112, go_sem, hc3]
        exact ⟨H', φ', .bool true, hpost3⟩
  · cases h
end Go.Ev
