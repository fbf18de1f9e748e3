/- Regions that leave their order open: what the interpreter answers the machine answers, whatever the order. No condition. -/
import Derived.Test.YtgbdopegfcphfaaGreatDrawd
namespace Go.Ideal

def unl (ops : Array Oper) (listed : Array Bool) : Nat := ((List.range ops.size).filter (fun i => !lst listed i)).length

theorem unl_set {ops : Array Oper} {listed : Array Bool} (hsz : listed.size = ops.size) {i : Nat} (hi : i < ops.size) (hl : lst listed i = false) : unl ops (listed.setIfInBounds i true) < unl ops listed := by
  have hset := lst_set (listed := listed) (i := i) (by rw [hsz]; exact hi)
  have e : (List.range ops.size).filter (fun j => !lst (listed.setIfInBounds i true) j) = ((List.range ops.size).filter (fun j => !lst listed j)).filter (fun j => decide (j ≠ i)) := by
    rw [List.filter_filter]
    apply List.filter_congr
    intro j _
    rw [hset]
    by_cases hji : j = i
    · simp [hji]
    · simp [hji]
  unfold unl
  rw [e]
  apply List.length_filter_lt_length_iff_exists.2
  exact ⟨i, List.mem_filter.2 ⟨by simpa using hi, by simp [hl]⟩, by simp⟩

theorem draw_sim {A} (hA : Par.OK A) {call : CallI} (hC : CallOK A call) {n : Nat} {ops : Array Oper} (ro : Option Nat) (ds : List Deferred) {QQ : Exit → Act → World → Prop} {m0 nv0 S0 w0} {Q : Tm × ISt → Prop}
    (final : ∀ tm' s' m' S' w' tmps', Q (tm', s') → TR m' s'.nv S' n tm' tmps' → HR A m' S' s' w' → Step m0 nv0 S0 w0 m' s'.nv S' w' → QQ .normal ⟨tmps', ds⟩ w') :
    ∀ (fi : Nat) {fr L E tm s listed tmps m S w}, (drawI A call n ops (preMasks ops.toList []) fi L E tm s).All Q → DInv A n ops L E tm s listed tmps m S w → unl ops listed ≤ fr → Step m0 nv0 S0 w0 m s.nv S w →
      wpAnyIn (FW ro) 0 A.P .any ops QQ fr listed ⟨tmps, ds⟩ w := by
  intro fi
  induction fi with
  | zero => intro fr L E tm s listed tmps m S w hx; exact hx.elim
  | succ fi ih =>
    intro fr L E tm s listed tmps m S w hx hinv hfr hst
    unfold drawI at hx
    simp only at hx
    split at hx
    · rename_i i o hfind
      have hs := List.find?_some hfind
      obtain ⟨ho, hr⟩ := readyI_at.1 (List.mem_of_find?_eq_some hfind)
      split at hx
      case h_2 => exact hx.elim
      rename_i v hy
      split at hx
      case h_2 => exact hx.elim
      rename_i tm' hp
      exact ih hx (hinv.ahead ho hr hs hy hp) hfr hst
    · rename_i hfind
      clear hfind
      have finish : ∀ listed tmps m S w, DInv A n ops L E tm s listed tmps m S w → Step m0 nv0 S0 w0 m s.nv S w → Region.ready .any ops listed = [] → QQ .normal ⟨tmps, ds⟩ w := by
        intro listed tmps m S w hinv hst hempty
        have nopend : ∀ i o v, (i, o, v) ∈ E → lst listed i = true := by
          intro i o v hm
          cases hq : lst listed i with
          | true => rfl
          | false =>
            obtain ⟨k, hk⟩ := EOrd.first hinv.size hinv.ord (fun i o v hm => (hinv.ent i o v hm).1) ⟨i, o, v, hm, hq⟩
            rw [hempty] at hk; cases hk
        have hTR : TR m s.nv S n tm tmps := ⟨hinv.tsz, fun t => hinv.tr t (fun i o v hm hl => by rw [nopend i o v hm] at hl; cases hl)⟩
        split at hx
        · exact final tm s m S w tmps hx hTR hinv.hr hst
        · rename_i hne
          exfalso
          cases hrs : readyI L 0 ops.toList with
          | nil => exact hne hrs
          | cons p l =>
            obtain ⟨j, o⟩ := p
            obtain ⟨ho, hr⟩ := readyI_at.1 (show (j, o) ∈ readyI L 0 ops.toList by rw [hrs]; simp)
            obtain ⟨r1, r2⟩ := readyAt_spec hr
            have hl : lst listed j = false := by
              cases hq : lst listed j with
              | false => rfl
              | true => rw [hinv.sub j hq] at r1; cases r1
            have := ready_of hinv.size ho hl (fun k hk => by
              cases hq : lst listed k with
              | true => rfl
              | false =>
                obtain ⟨o', v', hm⟩ := hinv.pend k (hinv.lt k (r2 k hk)) (r2 k hk) hq
                rw [nopend k o' v' hm] at hq; cases hq)
            rw [hempty] at this; cases this
      -- the interpreter waits
      have inner : ∀ fr listed tmps m S w, DInv A n ops L E tm s listed tmps m S w → unl ops listed ≤ fr → Step m0 nv0 S0 w0 m s.nv S w → wpAnyIn (FW ro) 0 A.P .any ops QQ fr listed ⟨tmps, ds⟩ w := by
        intro fr
        induction fr with
        | zero =>
          intro listed tmps m S w hinv hfr hst
          have hempty : Region.ready .any ops listed = [] := by
            apply List.eq_nil_iff_forall_not_mem.2
            intro i hi
            obtain ⟨h1, h2, _⟩ := ready_spec hi hinv.size
            have : i ∈ (List.range ops.size).filter (fun i => !lst listed i) := List.mem_filter.2 ⟨by simpa using h1, by simp [h2]⟩
            have hpos := List.length_pos_of_mem this
            unfold unl at hfr
            omega
          exact ⟨hempty, finish listed tmps m S w hinv hst hempty⟩
        | succ fr ihr =>
          intro listed tmps m S w hinv hfr hst
          refine ⟨fun hempty => ?_, fun i hi => ?_⟩
          · exact finish listed tmps m S w hinv hst hempty
          · obtain ⟨h1, h2, o, ho, he⟩ := ready_spec hi hinv.size
            have hun := unl_set hinv.size h1 h2
            cases hL : L.testBit i with
            | true =>
              obtain ⟨o', v, hm⟩ := hinv.pend i h1 hL h2
              exact hinv.catchUp hA hm hi ro ds (fun tmps' m' S' w' hinv' st => ihr _ tmps' m' S' w' hinv' (by omega) (hst.trans st))
            | false =>
              have hrd : readyAt L i o = true := by
                simp only [readyAt, hL, Bool.not_false, Bool.true_and, List.all_eq_true]
                exact fun j hj => hinv.sub j (he j hj)
              have hmem := readyI_at.2 ⟨ho, hrd⟩
              split at hx
              · rename_i hnil
                rw [hnil] at hmem; cases hmem
              · obtain ⟨q, hq, hqe⟩ := List.getElem_of_mem hmem
                have hxq := hx q hq
                simp only [List.getElem?_eq_getElem hq, hqe] at hxq
                refine hinv.both hA hC ho hi hL (Tree.bind_all hxq) ro ds (fun v s' tmps' m' S' w' hqx st hnext => ?_)
                simp only at hqx
                split at hqx
                case h_2 => exact hqx.elim
                rename_i tm' hp
                split at hqx
                case h_2 => exact hqx.elim
                rename_i hall
                exact ih hqx (hnext tm' hp hall) (by omega) (hst.trans st)
      exact inner fr listed tmps m S w hinv hfr hst

theorem draw_start {A : Par} {n : Nat} {ops : Array Oper} {tm : Tm} {s : ISt} {tmps : Array Value} {m S w} (h : HR A m S s w) (ht : TR m s.nv S n tm tmps) :
    DInv A n ops 0 [] tm s (Array.replicate ops.size false) tmps m S w := by
  have hl : ∀ i, lst (Array.replicate ops.size false) i = false := by
    intro i
    simp only [lst, Array.getD_eq_getD_getElem?, Array.getElem?_replicate]
    split <;> rfl
  refine ⟨by simp, fun i hi => (by simp at hi), fun i hi => (by rw [hl] at hi; cases hi), fun i _ hi => (by simp at hi), fun i o v hm => (by cases hm), fun i o v hm => (by cases hm), trivial, fun i o hi => (by rw [hl] at hi; cases hi), h, ht.size, fun t _ => ht.at_ t⟩
end Go.Ideal
