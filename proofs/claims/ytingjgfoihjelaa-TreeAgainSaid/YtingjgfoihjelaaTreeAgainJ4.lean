/- TreeAgain, part 4 of 7. The engine and the contracts that the proof needs. -/
import Derived.Scope
import Derived.Deep.Slices
import Derived.ChangeMaps5
import Derived.RowKit
import Derived.OpenShut
import Derived.Ground.SlbCloneProg
import Derived.Shelf.Bytes.SlClone
import Derived.Ground.Names8Prog
import Derived.Shelf.Spec.SlicesGrow
import Derived.Test.YtingjgfoihjelaaProg
import Derived.Sort.OwnSortedInts
import Derived.Shelf.Spec.SlicesInsertGrow
import Derived.Shelf.SlGeneric
import Derived.Lib.Bytealg
import Derived.Laws.Strings
import Derived.Shelf.SlicesE.Delete
import Derived.Lib.RowBridge
import Derived.Test.YtingjgfoihjelaaTreeAgainJ1
import Derived.Test.YtingjgfoihjelaaTreeAgainJ2
import Derived.Test.YtingjgfoihjelaaTreeAgainJ3
set_option maxRecDepth 100000
set_option maxHeartbeats 20000000
set_option linter.all false
open List renaming getElem?_eq_some_iff -> aAe, getElem?_eq_getElem -> aAf, mem_of_getElem? -> aAg, length_map -> aAh, getElem?_map -> aAi, getElem?_append_right -> aAj, getElem?_append_left -> aAk, length_take -> aAl, length_append -> aAm, length_cons -> aAn, length_nil -> aAo, length_set -> aAp, length_drop -> aAq, getElem?_set_self -> aAr, getElem?_set_ne -> aAs, take_of_length_le -> aAt, mem_cons_self -> aAu, mem_cons_of_mem -> aAv, take_length -> aAw, map_map -> aAx, mem_singleton -> aAy, drop_eq_nil_of_le -> aAz, getElem?_take -> aA0, getElem?_drop -> aA1, getD_eq_getElem?_getD -> aA2, pairwise_cons -> aA3, pairwise_append -> aA4, mem_append -> aA5, mem_of_mem_take -> aA6, mem_of_mem_drop -> aA7, mem_flatMap -> aA8, getElem?_cons_zero -> aA9, getElem?_cons_succ -> aBa, append_assoc -> aBb, mem_map -> aBc, all_eq_true -> aBd, mem_range -> aBe, getElem_mem -> aBf, drop_eq_getElem_cons -> aBg, length_replicate -> aBh, getElem?_toArray -> aBx, mem_iff_getElem? -> aB4
open Int renaming toNat_natCast -> aBi
open Nat renaming eq_of_beq_eq_true -> aBj, lt_of_lt_of_le -> aBk, lt_or_ge -> aBl, lt_succ_self -> aBm, zero_le -> aBn, le_refl -> aBo, le_trans -> aBp, le_succ -> aBu, sub_self -> aB2, add_sub_cancel -> aB3
open Option renaming map_eq_some_iff -> aBq, map_some -> aBz, getD_some -> aB0
open Option.some renaming inj -> aBr
open Bool renaming and_eq_true -> aBs, false_ne_true -> aBt, or_eq_true -> aB1
open Array renaming getElem?_toList -> aBv, getElem?_eq_some_iff -> aBw, length_toList -> aBy
namespace Go.Proofs.Ve
open Go
section
variable {F:Fence} {n:Nat} {P:Program} {b:Frame} {a:Act} {k:List Item} {cs:List Frame} {w:World} {Q:Exit->Act->World->Prop}
theorem stepR_scope {c:Code}:step P (lone (b.atR a (.code (.scope c)::k)) cs w) = .next (lone (b.atR a (.code c :: .inScope c::k)) cs w):=
 step_lone_go (by simp [stepG,stepG.exec,Frame.atR])
theorem stepR_inScope {c:Code}:step P (lone (b.atR a (.inScope c::k)) cs w) = .next (lone (b.atR a k) cs w):=
 step_lone_go (by simp [stepG,stepG.exec,Frame.atR])
theorem wpIn_scope_straight {c:Code} (h:c.wpIn F n P (Exit.noGoto Q) a w):(Code.scope c).wpIn F n P Q a w:=by
 intro b k cs hro hb hr
 have h0:(lone (b.atR a (.code (.scope c)::k)) cs w).fenced P F:=fenced_calm hb hr rfl
 obtain ⟨e,a₁,w₁,hq,harr⟩:=h b (.inScope c::k) cs hro hb hr
 cases e with
 | normal=>exact ⟨.normal,a₁,w₁,hq,.head h0 stepR_scope (StepsIn.trans harr (.one (fenced_calm hb hr rfl) stepR_inScope))⟩
 | exit id=>
   have hx:exitTo id (.inScope c::k)=exitTo id k:=by simp [exitTo]
   exact ⟨.exit id,a₁,w₁,hq,fun k' hk=>.head h0 stepR_scope (harr.1 k' (by rw [hx];exact hk)),fun hr' hk=>let ⟨k₁,h1,h2⟩:=harr.2 hr' (by rw [hx];exact hk);⟨k₁,h1,.head h0 stepR_scope h2⟩⟩
 | goto l=>exact hq.elim
 | ret=>exact ⟨_,a₁,w₁,hq,.of_steps (.one h0 stepR_scope) harr⟩
 | panic ch=>exact ⟨_,a₁,w₁,hq,.of_steps (.one h0 stepR_scope) harr⟩
 | outgrown=>exact ⟨_,a₁,w₁,hq,.of_steps (.one h0 stepR_scope) harr⟩
end
theorem wpC_sound {C:Cx} (hC:C.Ok) {H:List (List Blk)} {mo:List (Nat × Tr)} (c:Code):∀ rd,bM C.give C.frz C.fcl mo rd c=true->pB C H mo rd c:=by
 induction c with
 | skip=>intro rd _ r m0 K tm top m a _ _ _ _ h hs;exact wpIn_skip ⟨rfl,tm,top,m,rfl,h,hs⟩
 | label l=>intro rd _ r m0 K tm top m a _ _ _ _ h hs;exact wpIn_label ⟨rfl,tm,top,m,rfl,h,hs⟩
 | exit id=>intro rd _ r m0 K tm top m a _ _ _ _ h hs;exact wpIn_exit ⟨rfl,tm,top,m,rfl,h,hs⟩
 | ret=>intro rd _ r m0 K tm top m a _ _ _ _ h hs;exact wpIn_ret ⟨rfl,tm,top,m,rfl,h,hs⟩
 | goto l=>intro rd _ r m0 K tm top m a _ _ _ _ h hs;exact wpIn_goto ⟨rfl,tm,top,m,rfl,h,hs⟩
 | scope x ihx=>
   intro rd hd r m0 K tm top m a hr hrd hW hF h hs
   refine wpIn_scope_straight (wpIn_mono (ihx rd hd r m0 _ tm top m a hr hrd hW hF h hs) ?_)
   rintro e a' w ⟨hok,tm',top',m',rfl,hk,hs'⟩
   cases e with
   | goto l=>exact hk
   | _=>exact ⟨hok,tm',top',m',rfl,hk,hs'⟩
 | region id ops draw=>
   intro rd hd r m0 K tm top m a hr hrd hW hF h hs
   have hW':∀ o ∈ ops.toList,∀ d,o.dst=some d->m0.W d:=fun o ho d hd=>hW d (lF.2 ⟨o,ho,hd⟩)
   cases draw with
   | false=>
     refine wpIn_region ?_
     have:=mH hC (r:=r) (m0:=m0) (Q:=oA H m0 K) (K:=fun tm' top'=>K .normal tm' top') (fun m a tm top hk hs=>⟨rfl,tm,top,m,rfl,hk,hs⟩) hW' hF ops.toList (List.range ops.size) [] tm top m a (by simp) (fun k i hi=>by
      have:k < ops.size:=by have:=(aAe.1 hi).1;simpa using this
      simp [this] at hi
      subst hi;rfl) h hs (fun d hd=>by cases hd)
     simpa using this
   | true=>
     simp only [bM,Bool.not_true,Bool.false_or,aBs] at hd
     obtain ⟨hnd,hd⟩:=hd
     rcases zD (show moK mo id (fun t=>trK C H ops.toList t (fun tm' top'=>K .normal tm' top') [] tm top) (opsK C H (empsF C.frz ops.toList) ops.toList ops.toList tm top fun tm' top'=>K .normal tm' top') from h) with ⟨t,ht,h⟩ | ⟨ht,h⟩
     . rw [ht] at hd
       simp only [aBs,Bool.not_eq_true'] at hd
       have:=uW hC (r:=r) (hrd hd.1) (ops:=ops.toList) (id:=id) (m0:=m0) (K:=fun tm' top'=>K .normal tm' top') (Q:=oA H m0 K) hnd hW' hF (fun m a tm top hk hs=>⟨rfl,tm,top,m,rfl,hk,hs⟩) t top hd.2 h hs
       simpa using this
     . rw [ht] at hd
       have:=draw_spec hC (r:=r) (ops:=ops.toList) (id:=id) (m0:=m0) (K:=fun tm' top'=>K .normal tm' top') (Q:=oA H m0 K) hnd (by simpa using hd) hW' (fun m a tm top hk hs=>⟨rfl,tm,top,m,rfl,hk,hs⟩) h hs
       simpa using this
 | seq x y ihx ihy=>
   intro rd hd r m0 K tm top m a hr hrd hW hF h hs
   simp only [bM,aBs] at hd
   refine wpIn_seq (wpIn_mono (ihx rd hd.1 r m0 _ tm top m a hr hrd (fun d hd=>hW d (dY.2 (.inl hd))) hF h hs) ?_)
   rintro e a' w ⟨hok,tm',top',m',rfl,hk,hs'⟩
   cases e with
   | normal=>exact ihy rd hd.2 r m0 K tm' top' m' a' hr hrd (fun d hd=>hW d (dY.2 (.inr hd))) hF hk hs'
   | _=>exact ⟨hok,tm',top',m',rfl,hk,hs'⟩
 | cond c x y ihx ihy=>
   intro rd hd r m0 K tm top m a hr hrd hW hF h hs
   simp only [bM,aBs] at hd
   have hWx:∀ d ∈ dstsC x,m0.W d:=fun d hd=>hW d (dY.2 (.inl hd))
   have hWy:∀ d ∈ dstsC y,m0.W d:=fun d hd=>hW d (dY.2 (.inr hd))
   obtain ⟨p,hp,h⟩:=aT h
   have hv:=uU hs.1 hp
   generalize hve:a.eval c=v at hv
   split at h
   . cases hv
     exact wpIn_cond_true hve (ihx rd hd.1 r m0 K tm top m a hr hrd hWx hF h hs)
   . cases hv
     exact wpIn_cond_false hve (ihy rd hd.2 r m0 K tm top m a hr hrd hWy hF h hs)
   . cases hv
     exact wpIn_cond_split hve (fun _=>ihx rd hd.1 r m0 K tm top m a hr hrd hWx hF h.1 hs) (fun _=>ihy rd hd.2 r m0 K tm top m a hr hrd hWy hF h.2 hs)
   . cases hv with
     | d _ _ hx=>
       cases hx
       exact wpIn_cond_split hve (fun e=>ihx rd hd.1 r m0 K tm top m a hr hrd hWx hF (h.1 e) hs) (fun e=>ihy rd hd.2 r m0 K tm top m a hr hrd hWy hF (h.2 e) hs)
   . exact h.elim
 | block id x ihx=>
   intro rd hd r m0 K tm top m a hr hrd hW hF h hs
   refine wpIn_block (wpIn_mono (ihx rd hd r m0 _ tm top m a hr hrd hW hF h hs) ?_)
   rintro e a' w ⟨hok,tm',top',m',rfl,hk,hs'⟩
   cases e with
   | exit id'=>
     simp only [Exit.inBlock]
     dsimp only at hk
     cases hb:Nat.beq id' id with
     | true=>
       rw [hb] at hk
       rw [if_pos (aBj hb)]
       exact ⟨rfl,tm',top',m',rfl,hk,hs'⟩
     | false=>
       rw [hb] at hk
       rw [if_neg (fun e=>by subst e;simp at hb)]
       exact ⟨rfl,tm',top',m',rfl,hk,hs'⟩
   | _=>exact ⟨hok,tm',top',m',rfl,hk,hs'⟩
 | loop x ihx=>
   intro rd hd r m0 K tm top m a hr hrd hW hF h hs
   change oO (wpM C H mo x) K tm top at h
   unfold oO at h
   obtain ⟨ι,S,I,μ,⟨i0,s0,hI0,hr0⟩,hstep⟩:=h
   have key:∀ (n:Nat) (i:ι) (m:M) (a:Act),μ i < n->I i->aV H m0 m a (S i).tm (S i).top->Code.roundsIn (FW r) 0 C.P x (oA H m0 K) n a m.w:=by
    intro n
    induction n with
    | zero=>intro i m a h;omega
    | succ n ih=>
      intro i m a hμ hI hs
      rw [roundsIn_succ]
      refine wpIn_mono (ihx rd hd r m0 _ _ _ m a hr hrd hW hF (hstep i hI) hs) ?_
      rintro e a' w ⟨hok,tm',top',m',rfl,hk,hs'⟩
      cases e with
      | normal=>
        obtain ⟨i',s',hI',hlt,hr'⟩:=hk
        exact ih i' (m'.ren s' top'.length) a' (by omega) hI' (hs'.ref hr')
      | _=>exact ⟨hok,tm',top',m',rfl,hk,hs'⟩
   exact wpIn_loop_rounds (μ i0+1) (key _ i0 (m.ren s0 top.length) a (aBm _) hI0 (hs.ref hr0))
 | rangeFunc g ps x y ihx ihy=>
   intro rd hd r m0 K tm top m a hr hrd hW hF h hs
   simp only [bM,aBs,Bool.not_eq_true'] at hd
   exact wG hC hd.1 (ihx true hd.2.1) (ihy true hd.2.2) hr h hs
 | _=>intro rd _ r m0 K tm top m a _ _ _ _ h _;exact h.elim
theorem load_as {P:Program} {t:TypeId} {v u:Value} {w:World} (h:(Instr.loadAt t v).run P w = .ok u w):((asAddr v) >>= loadVar t).run P w = .ok u w:=by
 cases v with
 | pointer a=>cases a <;> simpa [Instr.loadAt,Instr.sureAddr,asAddr] using h
 | _=>simp [Instr.loadAt,Instr.sureAddr,stuck] at h
def resF (tmps:Array Value):ResultVar->Sem Value
 | .tmp t=>pure (tmps.getD t undef)
 | .cell a t=>do loadVar t (<- asAddr (tmps.getD a undef))
theorem resK_spec {C:Cx} (hC:C.Ok) {H:List (List Blk)} {tm:List PV} {top:List Blk}:∀ {rvs:List ResultVar} {K:List PV->Prop},resK C H tm top rvs K ->
 ∃ ps,K ps /\ ∀ m0 m a,St H m0 m a tm top -> ∃ vs:List Value,ps.length=vs.length/\(rvs.mapM (resF a.tmps)).run C.P m.w = .ok vs m.w /\ ∀ (j:Nat) p v,ps[j]? = some p->vs[j]? = some v->RP m p v
 | [],K,h=>⟨[],h,fun m0 m a hs=>⟨[],rfl,by simp,fun j p v hp=>by simp at hp⟩⟩
 | .tmp t::rs,K,h=>by
   obtain ⟨p,hp,h⟩:=getK_spec.1 h
   obtain ⟨ps,hk,hh⟩:=resK_spec hC h
   refine ⟨p::ps,hk,fun m0 m a hs=>?_⟩
   obtain ⟨vs,hl,hrun,hr⟩:=hh m0 m a hs
   have h1:=hs.evR [.tmp t] t p (aAy.2 rfl) hp
   refine ⟨a.tmps.getD t undef::vs,by simp [hl],?_,fun j q v hq hv=>?_⟩
   . simp only [List.mapM_cons,resF,Sem.run_bind,Sem.run_pure,Result.andThen_ok,hrun]
   . cases j with
     | zero=>simp only [aA9,Option.some.injEq] at hq hv;subst hq;subst hv;exact h1
     | succ j=>exact hr j q v (by simpa using hq) (by simpa using hv)
 | .cell x t::rs,K,h=>by
   obtain ⟨p,hp,h⟩:=getK_spec.1 h
   obtain ⟨q0,h,hq0⟩:=oQ hC h
   obtain ⟨ps,hk,hh⟩:=resK_spec hC h
   refine ⟨q0::ps,hk,fun m0 m a hs=>?_⟩
   obtain ⟨vs,hl,hrun,hr⟩:=hh m0 m a hs
   have h1:=hs.evR [.tmp x] x p (aAy.2 rfl) hp
   obtain ⟨u,hu,hru⟩:=hq0 m _ hs.inv h1
   have hu':(resF a.tmps (.cell x t)).run C.P m.w = .ok u m.w:=load_as hu
   refine ⟨u::vs,by simp [hl],?_,fun j q v hq hv=>?_⟩
   . simp only [List.mapM_cons,Sem.run_bind,Sem.run_pure,hu',Result.andThen_ok,hrun]
   . cases j with
     | zero=>simp only [aA9,Option.some.injEq] at hq hv;subst hq;subst hv;exact hru
     | succ j=>exact hr j q v (by simpa using hq) (by simpa using hv)
def oneV:List Value->Value
 | [v]=>v
 | vs=>.tuple vs.toArray
theorem results_run {P:Program} {fn:Func} {tmps:Array Value} {w:World} {vs:List Value} (h:(fn.results.toList.mapM (resF tmps)).run P w = .ok vs w) :
 (results fn tmps).run P w = .ok (oneV vs) w:=by
 have h1:(fn.results.mapM (resF tmps)).run P w = .ok vs.toArray w:=by
  rw [<- Array.toArray_toList (xs:=fn.results),List.mapM_toArray]
  simp [h]
 have h2:results fn tmps=(do let vs <- fn.results.mapM (resF tmps);pure (if h:vs.size=1 then vs[0] else .tuple vs)):=by
  unfold results
  congr 2
 rw [h2]
 simp only [Sem.run_bind,h1,Result.andThen_ok,Sem.run_pure]
 match vs with
 | []=>simp [oneV]
 | [v]=>simp [oneV]
 | v::u::vs=>simp [oneV]
theorem padK_spec:∀ {args:List PV} {n:Nat} {K:List PV->Prop},padK args n K->args.length<=n/\K (args++List.replicate (n - args.length) .any)
 | [],0,K,h=>⟨aBo _,h⟩
 | [],n+1,K,h=>by
   have:=(padK_spec (args:=[]) (n:=n) h).2
   refine ⟨aBn _,?_⟩
   simpa [List.replicate_succ] using this
 | p::ps,0,K,h=>h.elim
 | p::ps,n+1,K,h=>by
   obtain ⟨h1,h2⟩:=padK_spec (args:=ps) (n:=n) h
   refine ⟨by simp;omega,?_⟩
   simpa using h2
theorem refs_dpv {s:List Nat} {n nt:Nat}:∀ {cs:List PV} {ds:List DV},dvsK cs (fun xs=>xs=ds)->refT s n nt cs (dpv ds)
 | [],[],_=>trivial
 | [],_::_,h=>by cases h
 | c::cs,ds,h=>by
   rw [dvsK_cons] at h
   have key:∀ x,refP s n nt c (.d x)->dvsK cs (fun xs=>x::xs=ds)->refT s n nt (c::cs) (dpv ds):=fun x hx h=>by
    cases ds with
    | nil=>
      exfalso
      obtain ⟨ys,h,_⟩:=dR h
      cases h
    | cons y ds=>
      obtain ⟨ys,h',_⟩:=dR h
      cases h'
      have h2:dvsK cs (fun xs=>xs=ds):=by
       have:∀ {cs:List PV} {K K':List DV->Prop},(∀ xs,K xs->K' xs)->dvsK cs K->dvsK cs K':=by
        intro cs
        induction cs with
        | nil=>intro K K' hk h;exact hk _ h
        | cons c cs ih=>
          intro K K' hk h
          rw [dvsK_cons] at h ⊢
          unfold dvK at h ⊢
          split at h <;> first | exact ih (fun xs hx=>hk _ hx) h | exact h.elim
       exact this (fun xs hx=>by cases hx;rfl) h
      exact ⟨hx,refs_dpv h2⟩
   unfold dvK at h
   split at h
   . exact key _ rfl h
   . exact key _ rfl h
   . exact key _ rfl h
   . exact key _ rfl h
   . exact h.elim
theorem beq_of_ble {n:Nat} (h:Nat.ble 64 n=true):Nat.beq n 0=false:=by
 cases n with
 | zero=>cases h
 | succ n=>rfl
theorem refN_B {top:List Blk} {s:List Nat} {n:Nat}:∀ {js:List Nat} {N:List RowB} {i:Nat},refN top js N->refBi s n top i js (N.map RowB.blk)
 | [],[],_,_=>trivial
 | [],_::_,_,h=>h.elim
 | _::_,[],_,h=>h.elim
 | j::js,r::rs,i,h=>by
   refine ⟨?_,refN_B h.2⟩
   have h1:refRow top[j]? r:=h.1
   unfold refRow at h1
   split at h1
   . rename_i e' sz' xs' hb
     cases hz:Nat.beq sz' 0 with
     | true=>rw [hz] at h1;exact h1.elim
     | false=>
       rw [hz] at h1
       dsimp only at h1
       unfold RowB.blk
       cases hd:Nat.ble 64 r.sz with
       | false=>
         rw [hd] at h1
         obtain ⟨rfl,rfl,rfl⟩:=h1
         rw [hz]
         show refOne s n top i j (.row r.e r.sz r.xs)
         simp only [refOne,hb]
         exact ⟨trivial,trivial,trivial⟩
       | true=>
         rw [hd] at h1
         obtain ⟨q1,q2,q3⟩:=h1
         subst q1;subst q3
         rw [beq_of_ble hd]
         dsimp only
         rw [<- q2]
         simp only [refOne,hb]
         exact ⟨trivial,trivial,trivial⟩
   . rename_i e' sz' xs' hb
     cases hz:Nat.beq sz' 0 with
     | true=>rw [hz] at h1;exact h1.elim
     | false=>
       rw [hz] at h1
       dsimp only at h1
       unfold RowB.blk
       cases hd:Nat.ble 64 r.sz with
       | false=>rw [hd] at h1;exact h1.elim
       | true=>
         rw [hd] at h1
         obtain ⟨q1,q2,q3⟩:=h1
         subst q1;subst q3
         rw [beq_of_ble hd]
         dsimp only
         rw [<- q2]
         simp only [refOne,hb]
         exact ⟨trivial,trivial,trivial⟩
   . rename_i hb
     unfold RowB.blk
     cases hd:Nat.ble 64 r.sz with
     | false=>
       rw [hd] at h1
       obtain ⟨h1,h2⟩:=h1
       have hz:Nat.beq r.sz 0=false:=by
        cases hz:Nat.beq r.sz 0 with
        | false=>rfl
        | true=>have:=aBj hz;rw [this] at h2;cases h2
       rw [hz]
       show refOne s n top i j (.row r.e r.sz r.xs)
       simp only [refOne,hb]
       exact ⟨h1,h2⟩
     | true=>
       rw [hd] at h1
       obtain ⟨h1,h2⟩:=h1
       rw [beq_of_ble hd]
       dsimp only
       generalize r.sz - 64=S at h2 ⊢
       simp only [refOne,hb]
       exact ⟨h1,h2⟩
   . rename_i cs' hb
     split at h1
     . rename_i hz
       unfold RowB.blk
       rw [hz]
       show refOne s n top i j (.box (dpv (headD r.xs)))
       simp only [refOne,hb]
       exact refs_dpv h1
     . exact h1.elim
   . exact h1.elim
theorem ret_spec {C:Cx} (hC:C.Ok) {H:List (List Blk)} {fn:Func} {r:PV} {N:List RowB} {m0:M0} {tm:List PV} {top:List Blk} {m:M} {a:Act} (hs:St H m0 m a tm top)
 (h:resK C H tm top fn.results.toList fun ps=>oneK ps fun p=>takesK C [p] top fun top1=>∃ s,nodupB s=true/\refP s s.length top1.length p r/\refN top1 s N) :
 ∃ v,(results fn a.tmps).run C.P m.w = .ok v m.w /\ ∃ m2:M,m2.w=m.w/\(∀ i,N.length<=i->m2.ρ 0 i=none)/\Since m0 m2 (N.map RowB.blk)/\Inv m2 (N.map RowB.blk) H/\RP m2 r v:=by
 obtain ⟨ps,hk,hh⟩:=resK_spec hC h
 obtain ⟨vs,hl,hrun,hr⟩:=hh m0 m a hs
 refine ⟨_,results_run hrun,?_⟩
 have fin:∀ p v,RP m p v->(takesK C [p] top fun top1=>∃ s,nodupB s=true/\refP s s.length top1.length p r/\refN top1 s N) -> ∃ m2:M,m2.w=m.w/\(∀ i,N.length<=i->m2.ρ 0 i=none)/\Since m0 m2 (N.map RowB.blk)/\Inv m2 (N.map RowB.blk) H/\RP m2 r v:=by
  intro p v hp ht
  obtain ⟨top1,⟨s,h1,h2,h3⟩,g⟩:=fF ht
  obtain ⟨hinv,hmine⟩:=g.inv m H hs.inv
  have hfree:∀ j,top1.length<=j->m.ρ 0 j=none:=fun j hj=>hs.free j (by rw [<- g.len];exact hj)
  have t:=hs.since
  have hsince:Since m0 m top1:=⟨t.os,t.tape,t.output,t.size,t.heap,t.up,t.U,fun k hk=>t.fresh k (hmine k hk)⟩
  have hB:refB s s.length top1 s (N.map RowB.blk):=refN_B (s:=s) (n:=s.length) (i:=0) h3
  exact ⟨m.ren s top1.length,rfl,sD (by simpa using (iE hB).1),mJ hinv hB hsince,qD hinv hfree h1 hB,oZ hfree h2 hp⟩
 unfold oneK at hk
 split at hk
 . rename_i p
   match vs,hl,hr with
   | [v],_,hr=>exact fin p v (hr 0 p v rfl rfl) hk
 . rename_i hne
   refine fin (.tuple ps) _ ?_ hk
   have:oneV vs=Value.tuple vs.toArray:=by
    clear hrun hr hh
    match vs,hl with
    | [],_=>rfl
    | [v],hl=>exact absurd (show ps = [ps[0]'(by simp at hl;omega)] by match ps,hl with | [p],_=>rfl) (hne _)
    | v::u::vs,_=>rfl
   rw [this]
   exact .tuple _ _ (by simp [hl]) (fun j p v hp hv=>hr j p v hp (by simpa using hv))
theorem leaves_spec {P:Program} {fn:Func} {H:List (List Blk)} {m0:M0} {a:Act} {tm:List PV} {top:List Blk} {V:Nat->Prop} {R:Ending->World->Prop} (hz:∀ k,m0.Z k=none) (hrnd:m0.rnd=false)
 (fin:∀ m,St H { m0 with ds:=a.defers } m a tm top->(∃ ds,Calm H m0 m ds top V) -> ∃ v,(results fn a.tmps).run P m.w = .ok v m.w/\R (.returned v) m.w) :
 ∀ (ds:List Deferred) (m:M),St H { m0 with ds:=a.defers } m a tm top->Calm H m0 m ds top V->LeavesInM Fence.wide 0 P fn a.tmps R ds .returning m.w
 | [],m,hs,hc=>fin m hs ⟨_,hc⟩
 | d::ds,m,hs,hc=>by
   obtain ⟨D,hd,q⟩:=hc.d d (aAu ..)
   have hlate:=hc.late hrnd d (aAu ..) D hd
   have hnd:=List.nodup_cons.1 hc.nd
   have hc':Calm H m0 m ds top V:=⟨hc.one,hc.used,hc.more,hc.old,hc.mine,hc.gen,hc.z,hnd.2,fun h d hd=>hc.late h d (aAv _ hd),fun d hd=>hc.d d (aAv _ hd),hc.far⟩
   obtain ⟨r1,r2,_⟩:=sG (m0:={ m0 with ds:=a.defers }) hs (ds:=ds) ⟨hc'.one,hc'.used,hc'.more,hc'.old,hc'.mine,hc'.gen,hc'.z,hc'.nd,hc'.late,hc'.d,hc'.far⟩ q (fun l i b v e1 e2 e3 e4=>by
    obtain ⟨cs,e,fz,h9⟩:=hs.inv.cells e1 e2 e3 e4
    rw [q.heap] at h9;cases h9) hlate (fun k o hk=>by rw [show (M0.Z { m0 with ds:=a.defers }) k=m0.Z k from rfl,hz] at hk;cases hk) (fun d' hd' e=>hnd.1 (by rw [hd,<- e];exact hd')) (.deferred none)
   subst hd
   refine ⟨by simp,.inl ⟨D,_,rfl,run_takeDeferred q.heap,?_⟩⟩
   exact leaves_spec hz hrnd fin ds ⟨m.w.putObj D (.deferred none),m.ρ,m.U⟩ r1 ⟨r2.one,r2.used,r2.more,r2.old,r2.mine,r2.gen,r2.z,r2.nd,r2.late,r2.d,r2.far⟩
theorem good_draws {C:Cx} (hC:C.Ok) {f:Nat} (hg:C.good f=true) {fn:Func} {c:Code} (hf:C.P.funcs[f]? = some fn) (hb:fn.body=some c):drawsOk C.give c=true:=by
 have:=hC.draws
 unfold goodB at this
 rw [aBd] at this
 simp only [Cx.good,aBs,Bool.not_eq_true'] at hg
 have:=this f (aBe.2 (by simpa [Nat.blt_eq] using hg.1))
 rw [hg.2,Bool.false_or,hf] at this
 simpa [hb] using this
theorem run_spec {C:Cx} (hC:C.Ok) {H:List (List Blk)} {f:Nat} {fn:Func} {c:Code} {top0:List Blk} {args:List PV} {K:Exit->List PV->List Blk->Prop} {V:Nat->Prop}
 {mo:List (Nat × Tr)} (hg:bM C.give C.frz C.fcl mo false c=true) (hf:C.P.funcs[f]? = some fn) (hb:fn.body=some c) (h:padK args fn.ntmps fun tm=>wpM C H mo c K tm top0)
 (m:M) (vs:Array Value) (hinv:Inv m top0 H) (hfree:∀ i,top0.length<=i->m.ρ 0 i=none) (hlen:args.length=vs.size) (hargs:∀ (j:Nat) p v,args[j]? = some p->vs[j]? = some v->RP m p v)
 (m0:M0) (h0:m0 = { toM:=m,g:=top0,V:=V,Z:=fun _=>none,W:=fun _=>True,A:=fun _=>none,ds:=[],tsz:=fn.ntmps,rnd:=false })
 (hcalm:Calm H m0 m [] top0 V) {R:Ending->World->Prop}
 (fin:∀ e,(e = .normal\/e = .ret) -> ∀ tm top m' a V',K e tm top->St H { m0 with ds:=a.defers } m' a tm top->(∃ ds,Calm H m0 m' ds top V') -> ∃ v,(results fn a.tmps).run C.P m'.w = .ok v m'.w/\R (.returned v) m'.w)
 (hno:∀ e tm top,okE e=true->K e tm top->e = .normal\/e = .ret) (hF:C.fcl=true -> ∀ k,¬ Mine m top0 k):Calls C.P f vs m.w R:=by
 obtain ⟨hle,h⟩:=padK_spec h
 rw [<- callsIn_wide (n:=0)]
 refine callsIn_of_wp_marks hf hb trivial (wpIn_mono (wpC_sound hC c false hg none m0 K _ _ m { tmps:=vs++Array.replicate (fn.ntmps - vs.size) undef,defers:=[] } (fun l e=>by cases e) (fun _=>rfl) (fun d _=>by subst h0;trivial) (fun h=>by subst h0;exact hF h) h ⟨⟨hinv,?_,fun j p v hp hv=>?_,rfl,fun j hj=>hfree j hj,?_,?_,fun j hj=>absurd trivial (by subst h0;exact hj)⟩,V,hcalm⟩) ?_)
 . simp [hlen]
 . rcases aBl j args.length with h1 | h1
   . rw [aAk h1] at hp
     rw [Array.getElem?_append_left (by omega)] at hv
     exact hargs j p v hp hv
   . rw [aAj h1] at hp
     have:=aAg hp
     rw [List.mem_replicate] at this
     rw [this.2];exact .any _
 . subst h0;exact ⟨rfl,rfl,rfl,aBo _,fun _ _ _ _=>rfl,fun _ _=>rfl,fun _ _=>Iff.rfl,fun k hk=>.inr hk⟩
 . subst h0;simp;omega
 . rintro e a w ⟨hok,tm,top,m',rfl,hk,hs,V',hc⟩
   have hz:∀ k,m0.Z k=none:=by subst h0;intro k;rfl
   have hrnd:m0.rnd=false:=by subst h0;rfl
   rcases hno e tm top hok hk with rfl | rfl
   . exact leaves_spec hz hrnd (fun m hs hc=>fin .normal (.inl rfl) tm top m a V' hk hs hc) a.defers m' hs hc
   . exact leaves_spec hz hrnd (fun m hs hc=>fin .ret (.inr rfl) tm top m a V' hk hs hc) a.defers m' hs hc
theorem body_spec {C:Cx} (hC:C.Ok) {H:List (List Blk)} {f:Nat} {fn:Func} {c:Code} {G:List RowB} {args:List PV} {r:PV} {N:List RowB}
 {mo:List (Nat × Tr)} (hg:bM C.give C.frz C.fcl mo false c=true) (hf:C.P.funcs[f]? = some fn) (hb:fn.body=some c) (h:padK args fn.ntmps fun tm=>wpM C H mo c (retK C H fn.results.toList r N) tm (G.map RowB.blk))
 (m:M) (vs:Array Value) (hinv:Inv m (G.map RowB.blk) H) (hfree:∀ i,G.length<=i->m.ρ 0 i=none) (hlen:args.length=vs.size) (hargs:∀ (j:Nat) p v,args[j]? = some p->vs[j]? = some v->RP m p v) (hF:C.fcl=true -> ∀ k,¬ Mine m (G.map RowB.blk) k) :
 Calls C.P f vs m.w fun e w'=>∃ (v:Value) (m2:M),e = .returned v/\m2.w=w'/\(∀ i,N.length<=i->m2.ρ 0 i=none)/\Since (M0.of m (G.map RowB.blk)) m2 (N.map RowB.blk)/\Inv m2 (N.map RowB.blk) H/\RP m2 r v:=by
 refine run_spec hC hg hf hb h m vs hinv (fun i hi=>hfree i (by simpa using hi)) hlen hargs _ rfl (V:=fun _=>False) ?_ ?_ ?_ hF
 . have ng:∀ (i:Nat) Y st,(G.map RowB.blk)[i]? = some (.gen Y st)->False:=fun i Y st hi=>by
    rw [aAi] at hi
    obtain ⟨r,_,hr⟩:=aBq.1 hi
    have:=r.noGen
    rw [hr] at this;cases this
   exact ⟨fun i j Y st Y' st' h1 _=>(ng i Y st h1).elim,fun k h=>h.elim,fun k h=>h,fun k h _=>h,fun k h=>h.elim,fun i Y st h=>(ng i Y st h).elim,(fun k o h=>by cases h),List.nodup_nil,fun _ d hd=>(by cases hd),fun d hd=>(by cases hd),fun l i b v k _ _ _ _ h=>h⟩
 . rintro e he tm top m' a V' hk hs _
   have hk:resK C H tm top fn.results.toList fun ps=>oneK ps fun p=>takesK C [p] top fun top1=>∃ s,nodupB s=true/\refP s s.length top1.length p r/\refN top1 s N:=by rcases he with rfl | rfl <;> exact hk
   obtain ⟨v,hrun,m2,hw,h0,h1,h2,h3⟩:=ret_spec hC hs hk
   exact ⟨v,hrun,v,m2,rfl,hw,h0,⟨h1.os,h1.tape,h1.output,h1.size,fun k hk hm hv=>h1.heap k hk hm (fun h=>h),h1.up,h1.U,h1.fresh⟩,h2,h3⟩
 . intro e tm top _ hk
   cases e <;> first | exact .inl rfl | exact .inr rfl | exact hk.elim
theorem callEq_of_bodyM {C:Cx} (hC:C.Ok) {H:List (List Blk)} {f:Nat} {fn:Func} {c:Code} {args:List PV} {r:PV} {N:List RowB}
 {mo:List (Nat × Tr)} (hg:bM C.give C.frz C.fcl mo false c=true) (hf:C.P.funcs[f]? = some fn) (hb:fn.body=some c) (h:padK args fn.ntmps fun tm=>wpM C H mo c (retK C H fn.results.toList r N) tm []):aD C H f args r N:=by
 unfold aD
 intro m vs hinv hfree hlen hargs
 refine (body_spec hC (G:=[]) hg hf hb h m vs hinv (fun i _=>hfree i) hlen hargs (fun _ k ⟨i,b,v,h,_⟩=>by simp at h)).mono ?_
 rintro e w' ⟨v,m2,rfl,rfl,hfr,t,hi,hr⟩
 have nm:∀ k,¬ Mine m [] k:=fun k ⟨i,b,v,h,_⟩=>by simp at h
 refine ⟨v,m2,rfl,rfl,⟨t.os,t.tape,t.output,t.size,fun k hk=>t.heap k hk (nm k) (fun h=>h),fun l i v hv=>?_,t.U⟩,t.up,fun j b u k hb hu hk=>?_,hi,hr⟩
 . cases l with
   | zero=>rw [hfree i] at hv;cases hv
   | succ l=>exact (t.up l i).trans hv
 . have hl:b.live=true:=by
    rw [aAi] at hb
    obtain ⟨r,_,rfl⟩:=aBq.1 hb
    exact r.live
   exact (t.fresh k ⟨j,b,u,hb,hl,hu,hk⟩).resolve_right (nm k)
theorem callEq_of_body {C:Cx} (hC:C.Ok) {H:List (List Blk)} {f:Nat} {fn:Func} {c:Code} {args:List PV} {r:PV} {N:List RowB}
 (hg:C.good f=true) (hf:C.P.funcs[f]? = some fn) (hb:fn.body=some c) (h:padK args fn.ntmps fun tm=>wpC C H c (retK C H fn.results.toList r N) tm []) (hz:C.frz=false:=by rfl) (hz2:C.fcl=false:=by rfl):aD C H f args r N:=
 callEq_of_bodyM hC (mo:=[]) (by rw [hz,hz2];exact (xT _ _ _).trans (good_draws hC hg hf hb)) hf hb h
theorem callEqG_of_bodyM {C:Cx} (hC:C.Ok) {H:List (List Blk)} {f:Nat} {fn:Func} {c:Code} {G:List RowB} {args:List PV} {r:PV} {N:List RowB}
 {mo:List (Nat × Tr)} (hg:bM C.give C.frz C.fcl mo false c=true) (hf:C.P.funcs[f]? = some fn) (hb:fn.body=some c) (h:padK args fn.ntmps fun tm=>wpM C H mo c (retK C H fn.results.toList r N) tm (blksOf G)) (hz2:C.fcl=false:=by rfl):aE C H f G args (G.map fun _=>none) r N:=by
 rw [cX] at h
 unfold aE
 refine ⟨by simp,fun m vs hinv hfree hlen hargs=>?_⟩
 refine (body_spec hC (G:=G) hg hf hb h m vs hinv hfree hlen hargs (fun h=>by rw [hz2] at h;cases h)).mono ?_
 . rintro e w' ⟨v,m',rfl,rfl,hl,t,hi,hr⟩
   let m2:M:=⟨m'.w,fun l i=>match l with | 0=>if i < N.length then m'.ρ 0 i else m.ρ 0 (i - N.length) | l+1=>m'.ρ (l+1) i,m'.U⟩
   have hlo:∀ i,i < N.length->m2.ρ 0 i=m'.ρ 0 i:=fun i hi=>by show (if i < N.length then _ else _)=_;rw [if_pos hi]
   have hhi:∀ i,m2.ρ 0 (N.length+i)=m.ρ 0 i:=fun i=>by show (if N.length+i < N.length then _ else m.ρ 0 (N.length+i - N.length))=_;rw [if_neg (by omega),show N.length+i - N.length=i by omega]
   have hK:Keep m' m2:=by
    refine ⟨fun l i u hu=>?_,aBo _,fun k hk=>⟨hk.2,rfl⟩⟩
    cases l with
    | succ l=>exact hu
    | zero=>
      rw [hlo]
      . exact hu
      . rcases aBl i N.length with h | h
        . exact h
        . rw [hl i h] at hu;cases hu
   have get:∀ l i b,getB (N.map RowB.blk++(G.map fun _=>(none:Option RowB)).map gblk) H l i=some b->b.live=true->getB (N.map RowB.blk) H l i=some b/\m2.ρ l i=m'.ρ l i:=by
    intro l i b hb hlv
    cases l with
    | succ l=>exact ⟨hb,rfl⟩
    | zero=>
      simp only [getB] at hb ⊢
      rcases aBl i N.length with h | h
      . rw [aAk (by simpa using h)] at hb
        exact ⟨hb,hlo i h⟩
      . rw [aAj (by simpa using h)] at hb
        simp only [aAx,aAi] at hb
        obtain ⟨r,_,rfl⟩:=aBq.1 hb
        cases hlv
   refine ⟨v,m2,rfl,rfl,⟨t.os,t.tape,t.output,t.size,t.heap,t.up,t.U,fun k hk=>?_⟩,fun i _=>hhi i,⟨fun l i b hb=>?_,fun l i b l' i' b' v v' k h1 h2 h3 h4 h5 h6=>?_,fun l i b v k h1 h2 h3=>?_,hi.lt,Views.none fun i p e c h=>?_⟩,hr.keep hK⟩
   . obtain ⟨j,b,u,e1,e2,e3,e4⟩:=hk
     obtain ⟨a1,a2⟩:=get 0 j b (by simpa [getB] using e1) e2
     exact t.fresh k ⟨j,b,u,a1,e2,a2 ▸ e3,e4⟩
   . cases hlv:b.live with
     | false=>cases b <;> simp [Blk.live] at hlv <;> exact True.intro
     | true=>
       obtain ⟨h1,h2⟩:=get l i b hb hlv
       exact (hi.blk l i b h1).keep hK h2 (fun _ _ _ _ _=>rfl)
   . obtain ⟨a1,a2⟩:=get l i b h1 h2
     obtain ⟨b1,b2⟩:=get l' i' b' h3 h4
     exact hi.inj l i b l' i' b' v v' k a1 h2 b1 h4 (a2 ▸ h5) (b2 ▸ h6)
   . obtain ⟨a1,a2⟩:=get l i b h1 h2
     exact hi.own l i b v k a1 h2 (a2 ▸ h3)
   . rcases aBl i (N.map RowB.blk).length with h' | h'
     . rw [aAk h',aAi] at h
       obtain ⟨r,_,hr⟩:=aBq.1 h
       have:=r.noSub
       rw [hr] at this;cases this
     . rw [aAj h'] at h
       simp only [aAx,aAi] at h
       obtain ⟨r,_,hr⟩:=aBq.1 h
       cases hr
def iterK (Y:Yield):Exit->List PV->List Blk->Prop:=fun e _ top=>
 match e with
 | .normal=>genK top 0 fun _ Y' st=>Y'=Y/\(match st with | some k=>k=Y.xs.length | none=>True)
 | .ret=>genK top 0 fun _ Y' st=>Y'=Y/\(match st with | some k=>k=Y.xs.length | none=>True)
 | _=>False
theorem iterEq_of_bodyM {C:Cx} (hC:C.Ok) {f:Nat} {fn:Func} {c:Code} {G:List RowB} {args:List PV} {xs:List (List YV)}
 {mo:List (Nat × Tr)} (hg:bM C.give C.frz C.fcl mo false c=true) (hf:C.P.funcs[f]? = some fn) (hb:fn.body=some c) (hres:fn.results = #[])
 (h:∀ Y:Yield,Y.P=C.P->Y.xs=xs->padK (.yld Y::args) fn.ntmps fun tm=>wpM C [] mo c (iterK Y) tm (blksOf G ++ [.gen Y (some 0)])) (hz2:C.fcl=false:=by rfl):kK C f G args xs:=by
 unfold kK
 intro Y V m vs y hP hxs hY hinv hfree hlen hargs hVU hVm hJ
 have hB:=cX G
 have ng:∀ (i:Nat) Y st,(G.map RowB.blk)[i]? = some (.gen Y st)->False:=fun i Y st hi=>by
  rw [aAi] at hi
  obtain ⟨r,_,hr⟩:=aBq.1 hi
  have:=r.noGen
  rw [hr] at this;cases this
 have get:∀ (i:Nat) b,(blksOf G ++ [.gen Y (some 0)])[i]? = some b->(G.map RowB.blk)[i]? = some b\/(i=G.length/\b = .gen Y (some 0)):=fun i b hi=>by
  rw [hB] at hi
  rcases aBl i (G.map RowB.blk).length with h1 | h1
  . rw [aAk h1] at hi;exact .inl hi
  . rw [aAj h1] at hi
    have h2:=(aAe.1 hi).1
    simp at h2 h1
    have:i=G.length:=by omega
    subst this
    simp at hi
    exact .inr ⟨rfl,hi.symm⟩
 have mineLe:∀ k,Mine m (blksOf G ++ [.gen Y (some 0)]) k->Mine m (G.map RowB.blk) k:=by
  rintro k ⟨i,b,v,h1,h2,h3,h4⟩
  rcases get i b h1 with h1 | ⟨_,rfl⟩
  . exact ⟨i,b,v,h1,h2,h3,h4⟩
  . cases h2
 have hinv':Inv m (blksOf G ++ [.gen Y (some 0)]) []:=by
  have old:∀ l i b,getB (blksOf G ++ [.gen Y (some 0)]) [] l i=some b->b.live=true->getB (G.map RowB.blk) [] l i=some b:=fun l i b h1 h2=>by
   cases l with
   | succ l=>simp [getB] at h1
   | zero=>
     simp only [getB] at h1 ⊢
     rcases get i b h1 with h1 | ⟨_,rfl⟩
     . exact h1
     . cases h2
  refine ⟨fun l i b h1=>?_,fun l i b l' i' b' v v' k h1 h2 h3 h4 h5 h6 h7 h8=>hinv.inj l i b l' i' b' v v' k (old l i b h1 h2) h2 (old l' i' b' h3 h4) h4 h5 h6 h7 h8,fun l i b v k h1 h2 h3 h4=>hinv.own l i b v k (old l i b h1 h2) h2 h3 h4,hinv.lt,Views.none fun i p e c h=>by
   rcases get i _ h with h1 | ⟨_,h1⟩
   . rw [aAi] at h1
     obtain ⟨r,_,hr⟩:=aBq.1 h1
     have:=r.noSub
     rw [hr] at this;cases this
   . cases h1⟩
  cases hlv:b.live with
  | false=>cases b <;> simp [Blk.live] at hlv <;> exact True.intro
  | true=>exact hinv.blk l i b (old l i b h1 hlv)
 refine run_spec hC hg hf hb (h Y hP hxs) m (#[y]++vs) hinv' (fun i hi=>hfree i (by rw [hB] at hi;simp at hi;omega)) (by simp [hlen];omega) (fun j p v hp hv=>?_) _ rfl (V:=V) ?_ ?_ ?_ (fun h=>by rw [hz2] at h;cases h)
 . cases j with
   | zero=>
     rw [Array.getElem?_append_left (by simp)] at hv
     simp at hp hv;subst hp;subst hv;exact .yld Y _ hY
   | succ j=>
     refine hargs j p v (by simpa using hp) ?_
     rw [Array.getElem?_append_right (by simp)] at hv
     simpa using hv
 . refine ⟨fun i j Y1 st1 Y2 st2 h1 h2=>?_,hVU,fun k h=>h,fun k h _=>h,fun k hk hm=>hVm k hk (mineLe k hm),fun i Y1 st1 h1=>?_,(fun k o h=>by cases h),List.nodup_nil,fun _ d hd=>(by cases hd),fun d hd=>(by cases hd),fun l i b v k h1=>by simp [getB] at h1⟩
   . rcases get i _ h1 with h1 | ⟨rfl,_⟩
     . exact (ng i Y1 st1 h1).elim
     . rcases get j _ h2 with h2 | ⟨rfl,_⟩
       . exact (ng j Y2 st2 h2).elim
       . rfl
   . rcases get i _ h1 with h1 | ⟨_,h1⟩
     . exact (ng i Y1 st1 h1).elim
     . cases h1;exact ⟨rfl,hY.1,hJ⟩
 . rintro e he tm top m' a V' hk hs ⟨ds,hc⟩
   have hk:genK top 0 fun _ Y' st=>Y'=Y/\(match st with | some k=>k=Y.xs.length | none=>True):=by rcases he with rfl | rfl <;> exact hk
   obtain ⟨i,Y',st,⟨rfl,hst⟩,hb'⟩:=mD top 0 _ hk
   obtain ⟨_,_,hJ'⟩:=hc.gen i _ st hb'
   have hr0:fn.results.toList = []:=by rw [hres]
   refine ⟨.tuple #[],results_run (vs:=[]) (by rw [hr0];simp),_,m'.U,V',st,rfl,hs.since.os,hs.since.tape,hs.since.output,hs.since.size,hs.since.U,fun k hk hm hv=>hs.since.heap k hk (fun h=>hm (mineLe k h)) hv,fun k h=>hc.more k h,fun k h=>?_,hc.used,hs.inv.lt,hJ',?_⟩
   . rcases aBl k m.w.heap.size with h1 | h1
     . exact .inl (hc.old k h h1)
     . exact .inr h1
   . cases st with
     | none=>exact .inr rfl
     | some k=>exact .inl (by rw [hst,hxs])
 . intro e tm top _ hk
   cases e <;> first | exact .inl rfl | exact .inr rfl | exact hk.elim
def Cx.md (C:Cx) (fz fc:Bool):Cx:=⟨C.P,C.L,C.n,C.no,C.bad,C.give,C.cmp,C.grow,fz,fc,[],[]⟩
theorem Cx.Ok.md {C:Cx} (h:C.Ok) (fz fc:Bool):(C.md fz fc).Ok:=⟨h.rows,h.closed,h.funs,h.mix,h.draws,h.cmps,h.grows⟩
theorem aD.md {C:Cx} {H:List (List Blk)} {f:Nat} {args:List PV} {r:PV} {N:List RowB} (h:aD C H f args r N) (fz fc:Bool):aD (C.md fz fc) H f args r N:=by
 unfold aD at h ⊢;exact h
theorem aD.ofmd {C:Cx} {H:List (List Blk)} {f:Nat} {args:List PV} {r:PV} {N:List RowB} {fz fc:Bool} (h:aD (C.md fz fc) H f args r N):aD C H f args r N:=by
 unfold aD at h ⊢;exact h
theorem aE.md {C:Cx} {H:List (List Blk)} {f:Nat} {G:List RowB} {args:List PV} {G':List (Option RowB)} {r:PV} {N:List RowB} (h:aE C H f G args G' r N) (fz fc:Bool):aE (C.md fz fc) H f G args G' r N:=by
 unfold aE at h ⊢;exact h
theorem callEq_of_bodyF {C:Cx} (hC:C.Ok) {H:List (List Blk)} {f:Nat} {fn:Func} {c:Code} {args:List PV} {r:PV} {N:List RowB} (fz fc:Bool) {mo:List (Nat × Tr)} (hg:bM C.give fz fc mo false c=true) (hf:C.P.funcs[f]? = some fn) (hb:fn.body=some c)
 (h:padK args fn.ntmps fun tm=>wpM (C.md fz fc) H mo c (retK (C.md fz fc) H fn.results.toList r N) tm []):aD C H f args r N:=
 (callEq_of_bodyM (hC.md fz fc) (mo:=mo) hg hf hb h).ofmd
def Cx.mdd (C:Cx) (fz fc:Bool) (mv fld:List Nat):Cx:=⟨C.P,C.L,C.n,C.no,C.bad,C.give,C.cmp,C.grow,fz,fc,mv,fld⟩
theorem Cx.Ok.mdd {C:Cx} (h:C.Ok) (fz fc:Bool) (mv fld:List Nat):(C.mdd fz fc mv fld).Ok:=⟨h.rows,h.closed,h.funs,h.mix,h.draws,h.cmps,h.grows⟩
theorem aD.mdd {C:Cx} {H:List (List Blk)} {f:Nat} {args:List PV} {r:PV} {N:List RowB} (h:aD C H f args r N) (fz fc:Bool) (mv fld:List Nat):aD (C.mdd fz fc mv fld) H f args r N:=by
 unfold aD at h ⊢;exact h
theorem aD.ofmdd {C:Cx} {H:List (List Blk)} {f:Nat} {args:List PV} {r:PV} {N:List RowB} {fz fc:Bool} {mv fld:List Nat} (h:aD (C.mdd fz fc mv fld) H f args r N):aD C H f args r N:=by
 unfold aD at h ⊢;exact h
theorem aE.mdd {C:Cx} {H:List (List Blk)} {f:Nat} {G:List RowB} {args:List PV} {G':List (Option RowB)} {r:PV} {N:List RowB} (h:aE C H f G args G' r N) (fz fc:Bool) (mv fld:List Nat):aE (C.mdd fz fc mv fld) H f G args G' r N:=by
 unfold aE at h ⊢;exact h
theorem callEq_of_bodyD {C:Cx} (hC:C.Ok) {H:List (List Blk)} {f:Nat} {fn:Func} {c:Code} {args:List PV} {r:PV} {N:List RowB} (fz fc:Bool) (mv fld:List Nat) {mo:List (Nat × Tr)} (hg:bM C.give fz fc mo false c=true) (hf:C.P.funcs[f]? = some fn) (hb:fn.body=some c)
 (h:padK args fn.ntmps fun tm=>wpM (C.mdd fz fc mv fld) H mo c (retK (C.mdd fz fc mv fld) H fn.results.toList r N) tm []):aD C H f args r N:=
 (callEq_of_bodyM (hC.mdd fz fc mv fld) (mo:=mo) hg hf hb h).ofmdd
def iO (tm:List PV) (s:List Nat) (b:Nat) (ps:List (Nat × Nat)):Prop:=
 List.rec (motive:=fun _=>Nat->Prop) (fun _=>True) (fun jq _ ih b=>(getK tm jq.1 fun P=>match P with
  | .agg cs=>getK cs jq.2 fun c=>(match c with | .row 0 i _=>s[b]? = some i | _=>False)
  | _=>False)/\ih (b+1)) ps b
theorem wH (tm:List PV) (s:List Nat) (b:Nat) (jq:Nat × Nat) (ps:List (Nat × Nat)):iO tm s b (jq::ps)=((getK tm jq.1 fun P=>match P with
 | .agg cs=>getK cs jq.2 fun c=>(match c with | .row 0 i _=>s[b]? = some i | _=>False)
 | _=>False)/\iO tm s (b+1) ps):=rfl
theorem jV {tm:List PV} {s:List Nat}:∀ {ps:List (Nat × Nat)} {b:Nat},iO tm s b ps -> ∀ (g j q:Nat),ps[g]? = some (j,q) -> ∃ cs i n,tm[j]? = some (.agg cs)/\cs[q]? = some (.row 0 i n)/\s[b+g]? = some i
 | [],b,_,g,j,q,h=>by simp at h
 | p::ps,b,hk,g,j,q,h=>by
   rw [wH] at hk
   cases g with
   | zero=>
     simp at h
     subst h
     obtain ⟨P,hP,h1⟩:=getK_spec.1 hk.1
     split at h1
     . obtain ⟨c,hc,h2⟩:=getK_spec.1 h1
       split at h2
       . exact ⟨_,_,_,hP,hc,h2⟩
       . exact h2.elim
     . exact h1.elim
   | succ g=>
     obtain ⟨cs,i,n,h1,h2,h3⟩:=jV hk.2 g j q (by simpa using h)
     exact ⟨cs,i,n,h1,h2,by rw [<- h3];congr 1;omega⟩
def retB (C:Cx) (H:List (List Blk)) (rvs:List ResultVar) (r:PV) (N R:List RowB) (ps:List (Nat × Nat)) (e:Exit) (tm:List PV) (top:List Blk):Prop:=
 let fin:Prop:=resK C H tm top rvs fun qs=>oneK qs fun p=>takesK C [p] top fun top1=>∃ s,nodupB s=true/\refP s s.length top1.length p r/\refN top1 s (N++R)/\iO tm s N.length ps
 match e with
 | .normal=>fin
 | .ret=>fin
 | _=>False
theorem uY {m:M} {top:List Blk} {H:List (List Blk)} (hi:Inv m top H) {i:Nat} {r:RowB} (hb:top[i]? = some r.blk) (hsz:Nat.beq r.sz 0=false) {A:Option Addr} {N c:Nat} (hρ:m.ρ 0 i=some (.slice A N c)):N=r.xs.length:=by
 rcases gR r with h | h | ⟨_,h⟩
 . exfalso
   unfold RowB.blk at h
   rw [hsz] at h
   dsimp only at h
   split at h <;> cases h
 . rw [h] at hb
   obtain ⟨_,_,flat,ho,_⟩:=hi.blk 0 i _ hb _ hρ
   exact (owns_hdr ho).1
 . rw [h] at hb
   generalize r.sz - 64=S at hb
   have hro:RO m.w m.ok (.own r.e S r.xs) (.slice A N c):=hi.blk 0 i _ hb _ hρ
   obtain ⟨flat,_,_,ho,_⟩:=hro.parts
   exact (owns_hdr ho).1
theorem xU {C:Cx} (hC:C.Ok) {H:List (List Blk)} {fn:Func} {r:PV} {N R:List RowB} {ps:List (Nat × Nat)} {m0:M0} {tm:List PV} {top:List Blk} {m:M} {a:Act} (hs:St H m0 m a tm top)
 (h:resK C H tm top fn.results.toList fun qs=>oneK qs fun p=>takesK C [p] top fun top1=>∃ s,nodupB s=true/\refP s s.length top1.length p r/\refN top1 s (N++R)/\iO tm s N.length ps) :
 ∃ v,(results fn a.tmps).run C.P m.w = .ok v m.w /\ ∃ (m2:M) (s:List Nat),m2.w=m.w/\(∀ l i,m2.ρ (l+1) i=m.ρ (l+1) i)/\Since m0 m2 ((N++R).map RowB.blk)/\Inv m2 ((N++R).map RowB.blk) H/\RP m2 r v/\(∀ (b i:Nat) u,s[b]? = some i->m.ρ 0 i=some u->m2.ρ 0 b=some u)/\iO tm s N.length ps:=by
 obtain ⟨qs,hk,hh⟩:=resK_spec hC h
 obtain ⟨vs,hl,hrun,hr⟩:=hh m0 m a hs
 refine ⟨_,results_run hrun,?_⟩
 have fin:∀ p v,RP m p v->(takesK C [p] top fun top1=>∃ s,nodupB s=true/\refP s s.length top1.length p r/\refN top1 s (N++R)/\iO tm s N.length ps) ->
  ∃ (m2:M) (s:List Nat),m2.w=m.w/\(∀ l i,m2.ρ (l+1) i=m.ρ (l+1) i)/\Since m0 m2 ((N++R).map RowB.blk)/\Inv m2 ((N++R).map RowB.blk) H/\RP m2 r v/\(∀ (b i:Nat) u,s[b]? = some i->m.ρ 0 i=some u->m2.ρ 0 b=some u)/\iO tm s N.length ps:=by
  intro p v hp ht
  obtain ⟨top1,⟨s,h1,h2,h3,h4⟩,g⟩:=fF ht
  obtain ⟨hinv,hmine⟩:=g.inv m H hs.inv
  have hfree:∀ j,top1.length<=j->m.ρ 0 j=none:=fun j hj=>hs.free j (by rw [<- g.len];exact hj)
  have t:=hs.since
  have hsince:Since m0 m top1:=⟨t.os,t.tape,t.output,t.size,t.heap,t.up,t.U,fun k hk=>t.fresh k (hmine k hk)⟩
  have hB:refB s s.length top1 s ((N++R).map RowB.blk):=refN_B (s:=s) (n:=s.length) (i:=0) h3
  refine ⟨m.ren s top1.length,s,rfl,fun _ _=>rfl,mJ hinv hB hsince,qD hinv hfree h1 hB,oZ hfree h2 hp,fun b i u hb hu=>?_,h4⟩
  have hi:i < top1.length:=by
   rcases aBl i top1.length with h | h
   . exact h
   . rw [hfree i h] at hu;cases hu
  show (s[b]?).bind (fun j=>if j < top1.length then m.ρ 0 j else some (.slice none 0 0))=some u
  rw [hb]
  show (if i < top1.length then m.ρ 0 i else _)=some u
  rw [if_pos hi];exact hu
 unfold oneK at hk
 split at hk
 . rename_i p
   match vs,hl,hr with
   | [v],_,hr=>exact fin p v (hr 0 p v rfl rfl) hk
 . rename_i hne
   refine fin (.tuple qs) _ ?_ hk
   have:oneV vs=Value.tuple vs.toArray:=by
    clear hrun hr hh
    match vs,hl with
    | [],_=>rfl
    | [v],hl=>exact absurd (show qs = [qs[0]'(by simp at hl;omega)] by match qs,hl with | [p],_=>rfl) (hne _)
    | v::u::vs,_=>rfl
   rw [this]
   exact .tuple _ _ (by simp [hl]) (fun j p v hp hv=>hr j p v hp (by simpa using hv))
theorem xV {C:Cx} (hC:C.Ok) {H:List (List Blk)} {f:Nat} {fn:Func} {c:Code} {top0:List Blk} {args:List PV} {K:Exit->List PV->List Blk->Prop} {V:Nat->Prop} {ps:List (Nat × Nat)}
 {mo:List (Nat × Tr)} (hg:bM C.give C.frz C.fcl mo false c=true) (hf:C.P.funcs[f]? = some fn) (hb:fn.body=some c) (h:padK args fn.ntmps fun tm=>wpM C H mo c K tm top0)
 (m:M) (vs:Array Value) (hinv:Inv m top0 H) (hfree:∀ i,top0.length<=i->m.ρ 0 i=none) (hlen:args.length=vs.size) (hargs:∀ (j:Nat) p v,args[j]? = some p->vs[j]? = some v->RP m p v)
 (hW:∀ d ∈ dstsC c,∀ p ∈ ps,p.1≠d) (hin:∀ p ∈ ps,p.1 < args.length)
 (m0:M0) (h0:m0 = { toM:=m,g:=top0,V:=V,Z:=fun _=>none,W:=fun d=>∀ p ∈ ps,p.1≠d,A:=fun j=>vs[j]?,ds:=[],tsz:=fn.ntmps,rnd:=false })
 (hcalm:Calm H m0 m [] top0 V) {R:Ending->World->Prop}
 (fin:∀ e,(e = .normal\/e = .ret) -> ∀ tm top m' a V',K e tm top->St H { m0 with ds:=a.defers } m' a tm top->(∃ ds,Calm H m0 m' ds top V') -> ∃ v,(results fn a.tmps).run C.P m'.w = .ok v m'.w/\R (.returned v) m'.w)
 (hno:∀ e tm top,okE e=true->K e tm top->e = .normal\/e = .ret) (hF:C.fcl=true -> ∀ k,¬ Mine m top0 k):Calls C.P f vs m.w R:=by
 obtain ⟨hle,h⟩:=padK_spec h
 rw [<- callsIn_wide (n:=0)]
 refine callsIn_of_wp_marks hf hb trivial (wpIn_mono (wpC_sound hC c false hg none m0 K _ _ m { tmps:=vs++Array.replicate (fn.ntmps - vs.size) undef,defers:=[] } (fun l e=>by cases e) (fun _=>rfl) (fun d hd=>by subst h0;exact fun p hp=>hW d hd p hp) (fun h=>by subst h0;exact hF h) h ⟨⟨hinv,?_,fun j p v hp hv=>?_,rfl,fun j hj=>hfree j hj,?_,?_,fun j hj=>?_⟩,V,hcalm⟩) ?_)
 . simp [hlen]
 . rcases aBl j args.length with h1 | h1
   . rw [aAk h1] at hp
     rw [Array.getElem?_append_left (by omega)] at hv
     exact hargs j p v hp hv
   . rw [aAj h1] at hp
     have:=aAg hp
     rw [List.mem_replicate] at this
     rw [this.2];exact .any _
 . subst h0;exact ⟨rfl,rfl,rfl,aBo _,fun _ _ _ _=>rfl,fun _ _=>rfl,fun _ _=>Iff.rfl,fun k hk=>.inr hk⟩
 . subst h0;simp;omega
 . subst h0
   have hj:¬ ∀ p ∈ ps,p.1≠j:=hj
   have:∃ p ∈ ps,p.1=j:=Classical.byContradiction fun hn=>hj fun p hp e=>hn ⟨p,hp,e⟩
   obtain ⟨p,hp,rfl⟩:=this
   have:=hin p hp
   show (vs++Array.replicate (fn.ntmps - vs.size) undef)[p.1]? = vs[p.1]?
   rw [Array.getElem?_append_left (by omega)]
 . rintro e a w ⟨hok,tm,top,m',rfl,hk,hs,V',hc⟩
   have hz:∀ k,m0.Z k=none:=by subst h0;intro k;rfl
   have hrnd:m0.rnd=false:=by subst h0;rfl
   rcases hno e tm top hok hk with rfl | rfl
   . exact leaves_spec hz hrnd (fun m hs hc=>fin .normal (.inl rfl) tm top m a V' hk hs hc) a.defers m' hs hc
   . exact leaves_spec hz hrnd (fun m hs hc=>fin .ret (.inr rfl) tm top m a V' hk hs hc) a.defers m' hs hc
theorem oD {C:Cx} (hC:C.Ok) {H:List (List Blk)} {f:Nat} {fn:Func} {c:Code} {G:List RowB} {args:List PV} {r:PV} {N R:List RowB} (ps:List (Nat × Nat))
 {mo:List (Nat × Tr)} (hg:bM C.give C.frz C.fcl mo false c=true) (hf:C.P.funcs[f]? = some fn) (hb:fn.body=some c) (hW:((dstsC c).all fun d=>ps.all fun p=>!(Nat.beq p.1 d))=true)
 (hA:iO args (List.range G.length) 0 ps) (hl:ps.length=G.length/\R.length=G.length) (hsz:∀ (g:Nat) r r',G[g]? = some r->R[g]? = some r'->r.xs.length=r'.xs.length/\Nat.beq r.sz 0=false/\Nat.beq r'.sz 0=false)
 (h:padK args fn.ntmps fun tm=>wpM C H mo c (retB C H fn.results.toList r N R ps) tm (blksOf G)) (hz2:C.fcl=false:=by rfl):aE C H f G args (R.map some) r N:=by
 rw [cX] at h
 unfold aE
 refine ⟨by simp [hl.2],fun m vs hinv hfree hlen hargs=>?_⟩
 have hW':∀ d ∈ dstsC c,∀ p ∈ ps,p.1≠d:=fun d hd p hp e=>by
  rw [aBd] at hW
  have:=hW d hd
  rw [aBd] at this
  have:=this p hp
  rw [e,Nat.beq_refl] at this;cases this
 have hin:∀ p ∈ ps,p.1 < args.length:=fun p hp=>by
  obtain ⟨g,hg⟩:=aB4.1 hp
  obtain ⟨cs,i,n,h1,_⟩:=jV hA g p.1 p.2 hg
  exact (aAe.1 h1).1
 refine xV hC hg hf hb h m vs hinv (fun i hi=>hfree i (by simpa using hi)) hlen hargs hW' hin _ rfl (V:=fun _=>False) ?_ ?_ ?_ (fun h=>by rw [hz2] at h;cases h)
 . have ng:∀ (i:Nat) Y st,(G.map RowB.blk)[i]? = some (.gen Y st)->False:=fun i Y st hi=>by
    rw [aAi] at hi
    obtain ⟨r,_,hr⟩:=aBq.1 hi
    have:=r.noGen
    rw [hr] at this;cases this
   exact ⟨fun i j Y st Y' st' h1 _=>(ng i Y st h1).elim,fun k h=>h.elim,fun k h=>h,fun k h _=>h,fun k h=>h.elim,fun i Y st h=>(ng i Y st h).elim,(fun k o h=>by cases h),List.nodup_nil,fun _ d hd=>(by cases hd),fun d hd=>(by cases hd),fun l i b v k _ _ _ _ h=>h⟩
 . rintro e he tm top m' a V' hk hs _
   have hk:resK C H tm top fn.results.toList fun qs=>oneK qs fun p=>takesK C [p] top fun top1=>∃ s,nodupB s=true/\refP s s.length top1.length p r/\refN top1 s (N++R)/\iO tm s N.length ps:=by rcases he with rfl | rfl <;> exact hk
   obtain ⟨v,hrun,m2,s,hw,hup,h1,h2,h3,h4,h5⟩:=xU hC hs hk
   refine ⟨v,hrun,v,m2,rfl,hw,?_,fun i hi=>?_,?_,h3⟩
   . rw [show N.map RowB.blk++(R.map some).map gblk=(N++R).map RowB.blk by rw [List.map_append,aAx];rfl]
     exact ⟨h1.os,h1.tape,h1.output,h1.size,fun k hk hm hv=>h1.heap k hk hm (fun h=>h),h1.up,h1.U,h1.fresh⟩
   ·
    obtain ⟨r0,hr0⟩:∃ r0,G[i]? = some r0:=⟨_,aAf hi⟩
    obtain ⟨r1,hr1⟩:∃ r1,R[i]? = some r1:=⟨_,aAf (by rw [hl.2];exact hi)⟩
    obtain ⟨⟨j,q⟩,hp⟩:∃ p,ps[i]? = some p:=⟨_,aAf (by rw [hl.1];exact hi)⟩
    obtain ⟨e1,e2,e3⟩:=hsz i r0 r1 hr0 hr1
    obtain ⟨cs0,i0,n0,a1,a2,a3⟩:=jV hA i j q hp
    have a3:i0=i:=by
     rw [Nat.zero_add,List.getElem?_range hi] at a3
     exact (aBr a3).symm
    subst a3
    obtain ⟨cs1,i1,n1,b1,b2,b3⟩:=jV h5 i0 j q hp
    have hjl:j < vs.size:=by rw [<- hlen];exact (aAe.1 a1).1
    have hv0:=Array.getElem?_eq_getElem hjl
    generalize vs[j]=v0 at hv0
    have hprot:a.tmps[j]? = some v0:=by
     have:=hs.prot j (fun hn=>hn (j,q) (aAg hp) rfl)
     rw [this];exact hv0
    have r0':=hargs j _ v0 a1 hv0
    have r1':=hs.rel j _ v0 b1 hprot
    cases r0' with
    | agg _ us u1 u2=>
      cases r1' with
      | agg _ us' w1 w2=>
        have hql:q < us.size:=by rw [<- u1];exact (aAe.1 a2).1
        have hu:=Array.getElem?_eq_getElem hql
        generalize us[q]=u at hu
        have c0:=u2 q _ u a2 hu
        have c1:=w2 q _ u b2 hu
        cases c0 with
        | row _ _ _ Na ca A hρ hn hc=>
          cases c1 with
          | row _ _ _ Nb cb _ hρ' hn' hc'=>
            have k0:=uY hinv (r:=r0) (by rw [aAi,hr0];rfl) e2 hρ
            have hm2:=h4 _ _ _ b3 hρ'
            have k1:=uY h2 (r:=r1) (by rw [aAi,aAj (by omega),show N.length+i0 - N.length=i0 by omega,hr1];rfl) e3 hm2
            rw [hm2,hρ,k0,k1,e1]
   . rw [show N.map RowB.blk++(R.map some).map gblk=(N++R).map RowB.blk by rw [List.map_append,aAx];rfl]
     exact h2
 . intro e tm top _ hk
   cases e <;> first | exact .inl rfl | exact .inr rfl | exact hk.elim
def fz (N:List RowB) (k:Nat):PV->PV:=
 Nat.rec (motive:=fun _=>PV->PV) (fun _=>.any) (fun _ ih p=>match p with
  | .row 0 i n=>(match N[i]? with | some r=>(match Nat.beq r.sz 0 with | true=>.any | false=>(match Nat.ble 64 r.sz with | true=>.d (.sl ((plRows r.xs).take n)) | false=>.d (.sl (r.xs.take n)))) | none=>.any)
  | .agg cs=>.agg (cs.map ih)
  | .tuple cs=>.tuple (cs.map ih)
  | .kb b=>.kb b
  | .ub=>.ub
  | .d x=>.d x
  | .nils=>.nils
  | .emp=>.emp
  | .iptr cs=>.iptr cs
  | _=>.any) k
def oE (m:M) (n:List RowB):M:=⟨m.w,fun l i=>match l with | 0=>none | l+1=>m.ρ (l+1) i,fun k=>m.U k /\ ¬ Mine m (n.map RowB.blk) k⟩
theorem mL {m:M} {n:List RowB} {k:Nat} (h:m.ok k):(oE m n).ok k:=⟨h.1,fun hu=>h.2 hu.1⟩
theorem wI {m:M} {N:List RowB} {H:List (List Blk)} (hi:Inv m (N.map RowB.blk) H):∀ (k:Nat) (p:PV) (v:Value),RP m p v->RP (oE m N) (fz N k p) v
 | 0,p,v,h=>.any _
 | k+1,p,v,h=>by
   cases h with
   | any v=>exact .any v
   | yld Y=>exact .any _
   | lits=>exact .any _
   | kb b=>exact .kb b
   | ub b=>exact .ub b
   | d x v h=>exact .d _ _ (h.mono fun k hk=>⟨mL hk,rfl⟩)
   | nils=>exact .nils
   | emp ad=>exact .emp ad
   | row l i n A0 c A hρ hn hc=>
     cases l with
     | succ l=>exact .any _
     | zero=>
       change RP _ (match N[i]? with | some r=>(match Nat.beq r.sz 0 with | true=>.any | false=>(match Nat.ble 64 r.sz with | true=>PV.d (.sl ((plRows r.xs).take n)) | false=>PV.d (.sl (r.xs.take n)))) | none=>.any) _
       cases hN:N[i]? with
       | none=>exact .any _
       | some r=>
         have hil:i < N.length:=(aAe.1 hN).1
         show RP _ (match Nat.beq r.sz 0 with | true=>.any | false=>(match Nat.ble 64 r.sz with | true=>PV.d (.sl ((plRows r.xs).take n)) | false=>PV.d (.sl (r.xs.take n)))) _
         cases hz:Nat.beq r.sz 0 with
         | true=>exact .any _
         | false=>
         dsimp only
         have hmine:∀ k,r.blk.has m.w (.slice A A0 c) k->(oE m N).ok k:=fun k hk=>⟨hi.lt k (hi.own 0 i r.blk _ k (by show (N.map RowB.blk)[i]? = _;rw [aAi,hN];rfl) r.live hρ hk),fun hu=>hu.2 ⟨i,_,_,by rw [aAi,hN];rfl,r.live,hρ,hk⟩⟩
         cases hd:Nat.ble 64 r.sz with
         | true=>
           have hb:r.blk = .deep r.e (r.sz - 64) r.xs:=by
            unfold RowB.blk
            rw [hz,hd]
           generalize r.sz - 64=S at hb
           rw [hb] at hmine
           have hro:RO m.w m.ok (.own r.e S r.xs) (.slice A A0 c):=hi.blk 0 i (.deep r.e S r.xs) (by show (N.map RowB.blk)[i]? = _;rw [aAi,hN,aBz,hb]) _ hρ
           exact .d _ _ ((pW (m':=oE m N) hro rfl (fun k hk=>mL hk) hmine).take hn)
         | false=>
         exact .d _ _ (rQ (i:=i) (e:=r.e) (sz:=r.sz) hi (by rw [aAi,hN];unfold RowB.blk;rw [aBz,hz,hd]) hρ hn hc rfl (fun k hk=>mL hk) (fun k hk hu=>hu.2 ⟨i,_,_,by rw [aAi,hN];rfl,r.live,hρ,Blk.has_head hk r.live⟩))
   | ptr l i o g hρ=>exact .any _
   | rptr l i sz e j g A0 c hρ=>exact .any _
   | iptr cs ad u hc hr=>exact RP.other (m:=m) (m':=oE m N) rfl (fun _ h=>h.1) rfl (.iptr cs ad u hc hr)
   | func fn fs cs fv cv h1 h2 h3 h4=>exact .any _
   | agg cs vs h1 h2=>
     refine .agg _ _ (by simp [h1]) (fun j p v hp hv=>?_)
     rw [aAi] at hp
     obtain ⟨q,hq,rfl⟩:=aBq.1 hp
     exact wI hi k q v (h2 j q v hq hv)
   | tuple cs vs h1 h2=>
     refine .tuple _ _ (by simp [h1]) (fun j p v hp hv=>?_)
     rw [aAi] at hp
     obtain ⟨q,hq,rfl⟩:=aBq.1 hp
     exact wI hi k q v (h2 j q v hq hv)
theorem aD.freeze {C:Cx} {H:List (List Blk)} {f:Nat} {args:List PV} {r:PV} {N:List RowB} (h:aD C H f args r N) (k:Nat) {r':PV} (hr:fz N k r=r'):aD C H f args r' []:=by
 subst hr
 unfold aD at h ⊢
 intro m vs hinv hfree hlen hargs
 refine (h m vs hinv hfree hlen hargs).mono ?_
 rintro e w' ⟨v,m',rfl,rfl,hg,hup,hfr,hi,hr⟩
 refine ⟨v,oE m' N,rfl,rfl,⟨hg.os,hg.tape,hg.output,hg.size,hg.heap,fun l i u hu=>?_,fun j hj=>?_⟩,fun l i=>hup l i,(fun j b u k hb=>by simp at hb),⟨fun l i b hb=>?_,fun l i b l' i' b' u u' j h1 h2 h3 h4 h5 h6 h7 h8=>?_,fun l i b u j h1 h2 h3 h4=>?_,fun j hj=>hi.lt j hj.1,Views.none fun i p e c h=>by simp at h⟩,wI hi k r v hr⟩
 . cases l with
   | zero=>rw [hfree i] at hu;cases hu
   | succ l=>exact (hup l i).trans hu
 . refine Iff.trans ⟨fun hu=>hu.1,fun hu=>⟨hu,?_⟩⟩ (hg.U j hj)
   rintro ⟨i,b,u,hb,_,hu,hk⟩
   have:=hfr i b u j hb hu hk
   omega
 . cases l with
   | zero=>simp [getB] at hb
   | succ l=>
     have hbo:=hi.blk (l+1) i b hb
     cases b with
     | dead=>trivial
     | gen Y st=>trivial
     | row e sz xs=>
       intro u hu
       obtain ⟨a1,a2,flat,a3,a4⟩:=hbo u hu
       exact ⟨a1,a2,flat,a3,fun i x j y u hx hy hu=>(a4 i x j y u hx hy hu).mono fun k hk=>⟨mL hk,rfl⟩⟩
     | sub _ _ _=>trivial
     | deep e sz xs=>exact fun u hu=>RO.mono (fun k hk=>⟨mL hk,rfl⟩) (hbo u hu) (fun _ _=>rfl)
     | box cs=>
       intro u hu
       obtain ⟨g,us,e,q1,q2,q3,q4⟩:=hbo u hu
       refine ⟨g,us,e,q1,q2,q3,fun j p x hp hx=>?_⟩
       have K:Keep (m'.up (l+1)) ((oE m' N).up (l+1)):=⟨fun a i' u' hu'=>hu',aBo _,fun k hk=>⟨fun hu=>hk.2 hu.1,rfl⟩⟩
       exact (q4 j p x hp hx).keep K
 . cases l with
   | zero=>simp [getB] at h1
   | succ l=>
     cases l' with
     | zero=>simp [getB] at h3
     | succ l'=>exact hi.inj (l+1) i b (l'+1) i' b' u u' j h1 h2 h3 h4 h5 h6 h7 h8
 . cases l with
   | zero=>simp [getB] at h1
   | succ l=>
     refine ⟨hi.own (l+1) i b u j h1 h2 h3 h4,?_⟩
     rintro ⟨i',b',u',hi',hl',hu',hk'⟩
     have:=hi.inj (l+1) i b 0 i' b' u u' j h1 h2 hi' hl' h3 hu' h4 hk'
     cases this.1
end Go.Proofs.Ve
namespace Go.Proofs.Ve
open Go Go.ChangeShapes Go.WideShapes Go.RowKit
inductive CT where
 | bool
 | int (k:IntKind)
 | str
 | sl (r:List CT)
inductive FitC:CT->DV->Prop
 | bool (b:Bool):FitC .bool (.bool b)
 | int (k:IntKind) (n:Int) (h:(Lit.int k n).wf=true):FitC (.int k) (.int k n)
 | str (s:ByteArray) (h:s.size<=maxLen):FitC .str (.str s)
 | sl (r:List CT) (xs:List (List DV)) (hn:xs.length<=maxLen) (hs:∀ x ∈ xs,x.length=r.length) (h:∀ x ∈ xs,∀ (j:Nat) c y,r[j]? = some c->x[j]? = some y->FitC c y):FitC (.sl r) (.sl xs)
def FitR (r:List CT) (x:List DV):Prop:=x.length=r.length /\ ∀ (j:Nat) c y,r[j]? = some c->x[j]? = some y->FitC c y
theorem FitR.nil:FitR [] []:=⟨rfl,fun j c y h=>by simp at h⟩
theorem FitR.cons {c:CT} {r:List CT} {x:List DV} (h:FitR (c::r) x):∃ y x',x=y::x'/\FitC c y/\FitR r x':=by
 obtain ⟨h1,h2⟩:=h
 match x,h1 with
 | y::x',h1=>exact ⟨y,x',rfl,h2 0 c y rfl rfl,by simpa using h1,fun j c' y' hc hy=>h2 (j+1) c' y' (by simpa using hc) (by simpa using hy)⟩
theorem FitR.done {x:List DV} (h:FitR [] x):x = []:=by
 obtain ⟨h1,_⟩:=h
 exact List.length_eq_zero_iff.1 (by simpa using h1)
theorem FitR.app {a b:List CT} {x y:List DV} (h:FitR a x) (k:FitR b y):FitR (a++b) (x++y):=by
 refine ⟨by rw [aAm,aAm,h.1,k.1],fun j c u hc hu=>?_⟩
 by_cases hj:j < a.length
 . rw [aAk hj] at hc
   rw [aAk (by rw [h.1];exact hj)] at hu
   exact h.2 j c u hc hu
 . rw [aAj (by omega)] at hc
   rw [aAj (by rw [h.1];omega),h.1] at hu
   exact k.2 _ c u hc hu
theorem FitC.sl_inv {r:List CT} {x:DV} (h:FitC (.sl r) x):∃ xs,x = .sl xs/\xs.length<=maxLen /\ ∀ y ∈ xs,FitR r y:=by
 cases h with
 | sl _ xs hn hs h=>exact ⟨xs,rfl,hn,fun y hy=>⟨hs y hy,h y hy⟩⟩
theorem FitC.int_inv {k:IntKind} {x:DV} (h:FitC (.int k) x):∃ n,x = .int k n/\(Lit.int k n).wf=true:=by cases h with | int _ n h=>exact ⟨n,rfl,h⟩
noncomputable def layOff (one:TypeId->Option (List CT)) (size:TypeId->Nat) (l:List (Nat × TypeId)):Nat->Option (List CT):=
 List.rec (fun _=>some []) (fun p _ ih off=>if p.1=off then (one p.2).bind fun r=>if r.length=size p.2 then (ih (off+size p.2)).map fun rs=>r++rs else none else none) l
noncomputable def layB (P:Program) (fuel:Nat):TypeId->Option (List CT):=
 Nat.rec (fun _=>none) (fun _ ih t=>
  match P.underlying t with
  | some .bool=>some [.bool]
  | some (.int k)=>some [.int k]
  | some .string=>some [.str]
  | some (.slice e)=>(ih e).bind fun r=>if r.length=P.cellsOf e then some [.sl r] else none
  | some (.struct fs)=>(layOff ih P.cellsOf (fs.toList.map fun f=>(f.offset,f.type)) 0).bind fun r=>if r.length=P.cellsOf t then some r else none
  | some (.array n e)=>(layOff ih P.cellsOf ((List.range n).map fun i=>(i*P.cellsOf e,e)) 0).bind fun r=>if r.length=P.cellsOf t then some r else none
  | _=>none) fuel
section
variable {H:Type} {enc:TypeId × Value->H} {P:Program} {w:World} {spare:Nat->Bool} {held:Bool}
def okW (w:World) (k:Nat):Prop:=k < w.heap.size
def Reads (w:World) (r:List CT) (cs:List Value) (ds:List DV):Prop:=
 cs.length=r.length/\FitR r ds /\ ∀ (j:Nat) y u,ds[j]? = some y->cs[j]? = some u->RD w (okW w) y u
theorem reads_one {c:CT} {y:DV} {u:Value} (h:FitC c y) (k:RD w (okW w) y u):Reads w [c] [u] [y]:=by
 refine ⟨rfl,⟨rfl,fun j c' y' hc hy=>?_⟩,fun j y' u' hy hu=>?_⟩
 . cases j with
   | zero=>simp at hc hy;subst hc;subst hy;exact h
   | succ j=>simp at hc
 . cases j with
   | zero=>simp at hu hy;subst hu;subst hy;exact k
   | succ j=>simp at hy
theorem cell_lt {a:Addr} {v:Value} (h:w.cell? a=some v):a.block < w.heap.size:=by
 apply Classical.byContradiction
 intro hn
 have:w.heap[a.block]? = none:=by rw [Array.getElem?_eq_none_iff];omega
 simp [World.cell?,this] at h
theorem off_sound {fuel:Nat} {one:TypeId->Option (List CT)} (hone:∀ t r,one t=some r -> ∀ fuel cs x,DataW.trod enc P w 0 spare held fuel t cs=some x -> ∃ ds,Reads w r cs ds) (cs:List Value) :
 ∀ (l:List (Nat × TypeId)) (off:Nat) (r:List CT),layOff one P.cellsOf l off=some r->off+r.length<=cs.length ->
   (∀ p ∈ l,∃ n y,DataW.trod enc P w 0 spare held n p.2 ((cs.drop p.1).take (P.cellsOf p.2))=some y) -> ∃ ds,Reads w r ((cs.drop off).take r.length) ds:=by
 intro l
 induction l with
 | nil=>
   intro off r h hle _
   change some []=some r at h
   cases h
   exact ⟨[],by simp,FitR.nil,fun j y u hy=>by simp at hy⟩
 | cons p l ih=>
   intro off r h hle hx
   change (if p.1=off then (one p.2).bind fun r=>if r.length=P.cellsOf p.2 then (layOff one P.cellsOf l (off+P.cellsOf p.2)).map fun rs=>r++rs else none else none)=some r at h
   split at h
   . next hoff=>
     obtain ⟨r1,h1,h2⟩:=Option.bind_eq_some_iff.1 h
     split at h2
     . next hlen=>
       obtain ⟨rs,h3,rfl⟩:=aBq.1 h2
       rw [aAm] at hle ⊢
       obtain ⟨n,y,hy⟩:=hx p (aAu ..)
       obtain ⟨d1,e1,f1,g1⟩:=hone p.2 r1 h1 n _ y hy
       obtain ⟨d2,e2,f2,g2⟩:=ih (off+P.cellsOf p.2) rs h3 (by omega) (fun q hq=>hx q (aAv _ hq))
       rw [hoff] at g1 e1
       refine ⟨d1++d2,by rw [aAl,aAq,aAm];omega,f1.app f2,fun j u v hu hv=>?_⟩
       by_cases hj:j < r1.length
       . rw [aAk (by rw [f1.1];exact hj)] at hu
         refine g1 j u v hu ?_
         rw [aA0,if_pos (by omega)] at hv ⊢
         exact hv
       . rw [aAj (by rw [f1.1];omega),f1.1] at hu
         refine g2 (j - r1.length) u v hu ?_
         rw [aA0] at hv ⊢
         split at hv
         . next hjj=>
           rw [if_pos (by omega)]
           rw [aA1] at hv ⊢
           rw [<- hv];congr 1;omega
         . cases hv
     . cases h2
   . cases h
theorem trod_arr {t e:TypeId} {n fuel:Nat} {cs:List Value} {x:DataW H × List MemPlace} (ht:P.underlying t=some (.array n e)) (h:DataW.trod enc P w 0 spare held fuel t cs=some x) :
 ∃ m,cs.length=P.cellsOf t /\ ∀ i,i < n -> ∃ y,DataW.trod enc P w 0 spare held m e ((cs.drop (i*P.cellsOf e)).take (P.cellsOf e))=some y:=by
 cases fuel with
 | zero=>simp [DataW.trod] at h
 | succ m=>
   unfold DataW.trod at h
   rw [ht] at h
   split at h <;> simp_all
   obtain ⟨hcl,xs,hp,hd⟩:=h
   refine ⟨m,fun i hi=>?_⟩
   have hg:=mapM_some_get hp i i (by simp [hi])
   have hlt:i < xs.length:=by have:=mapM_some_length hp;simp at this;omega
   rw [aAf hlt] at hg
   obtain ⟨a,b,hab⟩:∃ a b,xs[i]=(a,b):=⟨_,_,rfl⟩
   exact ⟨a,b,hg.trans (by rw [hab])⟩
theorem lay_sound:∀ (f:Nat) (t:TypeId) (r:List CT),layB P f t=some r -> ∀ fuel cs x,DataW.trod enc P w 0 spare held fuel t cs=some x -> ∃ ds,Reads w r cs ds:=by
 intro f
 induction f with
 | zero=>intro t r h;cases h
 | succ f ih=>
   intro t r h fuel cs x hx
   change (match P.underlying t with
    | some .bool=>some [.bool]
    | some (.int k)=>some [.int k]
    | some .string=>some [.str]
    | some (.slice e)=>(layB P f e).bind fun r=>if r.length=P.cellsOf e then some [.sl r] else none
    | some (.struct fs)=>(layOff (layB P f) P.cellsOf (fs.toList.map fun f=>(f.offset,f.type)) 0).bind fun r=>if r.length=P.cellsOf t then some r else none
    | some (.array n e)=>(layOff (layB P f) P.cellsOf ((List.range n).map fun i=>(i*P.cellsOf e,e)) 0).bind fun r=>if r.length=P.cellsOf t then some r else none
    | _=>none)=some r at h
   split at h
   . next hu=>
     cases h
     obtain ⟨b,rfl,_⟩:=DataW.trod_bool hu hx
     exact ⟨_,reads_one (.bool b) (.bool b)⟩
   . next k hu=>
     cases h
     obtain ⟨n,rfl,_,hw⟩:=DataW.trod_int hu hx
     exact ⟨_,reads_one (.int k n hw) (.int k n)⟩
   . next hu=>
     cases h
     obtain ⟨s,rfl,_,hs⟩:=DataW.trod_string hu hx
     exact ⟨_,reads_one (.str s hs) (.str s)⟩
   . next e hu=>
     obtain ⟨r1,h1,h2⟩:=Option.bind_eq_some_iff.1 h
     split at h2
     . next hlen=>
       cases h2
       rcases Deep.open_slice hu hx with ⟨rfl,_⟩ | ⟨a,len,cap,m,n,D,Pl,rfl,hb,hl,hm,hmm,rfl,hel⟩
       . refine ⟨_,reads_one (.sl r1 [] (aBn _) (fun x hx=>by cases hx) (fun x hx=>by cases hx)) (.sl r1.length [] none 0 0 ⟨0,0,none⟩ (fun _=>.nilFunc) rfl (aBo _) (by omega) (fun h=>by omega) (fun x hx=>by cases hx) (fun i x j y hx=>by simp at hx) (fun i x j y hx=>by simp at hx))⟩
       . have hlm:len<=m:=by rw [hmm];split <;> omega
         have hall:∀ i,i < len -> ∃ d:List DV,FitR r1 d /\ ∀ (j:Nat) y,d[j]? = some y -> ∃ u,w.cell? (a.add (i*r1.length+j))=some u/\RD w (okW w) y u:=by
          intro i hi
          obtain ⟨cs',hc,ht⟩:=hel i (by omega)
          obtain ⟨d,e1,e2,e3⟩:=ih e r1 h1 n cs' _ ht
          obtain ⟨_,hlen',hcell⟩:=World.cells?_some hc
          refine ⟨d,e2,fun j y hy=>?_⟩
          have hj:j < cs'.length:=by rw [e1,<- e2.1];exact (aAe.1 hy).1
          have:=hcell j (by omega)
          rw [Deep.add_add,aAf hj] at this
          exact ⟨cs'[j],by rw [hlen];exact this,e3 j y _ hy (aAf hj)⟩
         obtain ⟨d,hd⟩:=Deep.choose_lt hall
         have mem:∀ x ∈ (List.range len).map d,∃ i,i < len/\x=d i:=fun x hx=>by
          obtain ⟨i,hi,rfl⟩:=aBc.1 hx
          exact ⟨i,aBe.1 hi,rfl⟩
         have at_:∀ (i:Nat) x,((List.range len).map d)[i]? = some x->i < len/\x=d i:=fun i x hx=>by
          rw [aAi] at hx
          obtain ⟨k,hk,rfl⟩:=aBq.1 hx
          obtain ⟨hlt,hk⟩:=aAe.1 hk
          simp at hk hlt
          subst hk
          exact ⟨hlt,rfl⟩
         refine ⟨_,reads_one (.sl r1 ((List.range len).map d) (by simp;omega) (fun x hx=>?_) (fun x hx=>?_)) (.sl r1.length ((List.range len).map d) (some a) len cap a (fun k=>(w.cell? (a.add k)).getD .nilFunc) (by simp) hl (by unfold maxLen at hm;omega) (fun _=>rfl) (fun x hx=>?_) (fun i x j y hx hy=>?_) (fun i x j y hx hy=>?_))⟩
         . obtain ⟨i,hi,rfl⟩:=mem x hx;exact (hd i hi).1.1
         . obtain ⟨i,hi,rfl⟩:=mem x hx;exact (hd i hi).1.2
         . obtain ⟨i,hi,rfl⟩:=mem x hx;exact (hd i hi).1.1
         . obtain ⟨hi,rfl⟩:=at_ i x hx
           obtain ⟨u,hu1,hu2⟩:=(hd i hi).2 j y hy
           refine ⟨?_,by rw [hu1];rfl⟩
           have:=cell_lt hu1
           rw [jU] at this
           exact this
         . obtain ⟨hi,rfl⟩:=at_ i x hx
           obtain ⟨u,hu1,hu2⟩:=(hd i hi).2 j y hy
           show RD w (okW w) y ((w.cell? (a.add (i*r1.length+j))).getD .nilFunc)
           rw [hu1];exact hu2
     . cases h2
   . next fs hu=>
     obtain ⟨r1,h1,h2⟩:=Option.bind_eq_some_iff.1 h
     split at h2
     . next hlen=>
       cases h2
       obtain ⟨xs,n,_,_,hcl,hxl,hf⟩:=DataW.trod_struct hu hx
       have:=off_sound (fuel:=0) ih cs _ 0 r h1 (by omega) (fun p hp=>by
        obtain ⟨g,hg,rfl⟩:=aBc.1 hp
        obtain ⟨i,hi⟩:=aB4.1 hg
        have hi':fs[i]? = some g:=by simpa using hi
        have:=hf i g hi'
        have hlt:i < xs.length:=by rw [hxl];exact (aBw.1 hi').1
        rw [aAf hlt] at this
        exact ⟨n,_,this⟩)
       rw [List.drop_zero,aAt (by omega)] at this
       exact this
     . cases h2
   . next n e hu=>
     obtain ⟨r1,h1,h2⟩:=Option.bind_eq_some_iff.1 h
     split at h2
     . next hlen=>
       cases h2
       obtain ⟨m,hcl,hf⟩:=trod_arr hu hx
       have:=off_sound (fuel:=0) ih cs _ 0 r h1 (by omega) (fun p hp'=>by
        obtain ⟨i,hi,rfl⟩:=aBc.1 hp'
        exact ⟨m,hf i (aBe.1 hi)⟩)
       rw [List.drop_zero,aAt (by omega)] at this
       exact this
     . cases h2
   . cases h
def aggB (P:Program) (t:TypeId):Bool:=match P.underlying t with | some (.struct _)=>true | some (.array _ _)=>true | _=>false
def pOf (agg:Bool) (ds:List DV):PV:=match agg with | true=>.agg (ds.map .d) | false=>(match ds with | [y]=>.d y | _=>.any)
def m0 (w:World):M:=⟨w,fun _ _=>none,fun _=>False⟩
theorem m0_ok (w:World) (k:Nat) (h:okW w k):(m0 w).ok k:=⟨h,fun h=>h⟩
theorem RD.m0 {x:DV} {v:Value} (h:RD w (okW w) x v):RD (m0 w).w (m0 w).ok x v:=h.mono fun k hk=>⟨m0_ok w k hk,rfl⟩
theorem arg_reads {t:TypeId} {v:Value} {d:DataW H} {ps:List MemPlace} (f:Nat) {r:List CT} (hr:layB P f t=some r) (hval:Value.okWide P w .any 0 t v) (hd:DataW.Trod enc P w 0 spare held t v d ps) :
 ∃ ds,FitR r ds/\RP (m0 w) (pOf (aggB P t) ds) v:=by
 obtain ⟨fuel,hf⟩:=hd
 obtain ⟨ds,h1,h2,h3⟩:=lay_sound f t r hr fuel _ _ hf
 refine ⟨ds,h2,?_⟩
 have single:∀ v:Value,v.cells = #[v]->Reads w r v.cells.toList ds->RP (m0 w) (pOf false ds) v:=fun v hv hd=>by
  obtain ⟨h1,h2,h3⟩:=hd
  rw [hv] at h1 h3
  have hl:ds.length=1:=by rw [h2.1,<- h1];rfl
  match ds,hl with
  | [y],_=>exact .d y v (h3 0 y v rfl rfl).m0
 cases f with
 | zero=>cases hr
 | succ f=>
   change (match P.underlying t with
    | some .bool=>some [.bool]
    | some (.int k)=>some [.int k]
    | some .string=>some [.str]
    | some (.slice e)=>(layB P f e).bind fun r=>if r.length=P.cellsOf e then some [.sl r] else none
    | some (.struct fs)=>(layOff (layB P f) P.cellsOf (fs.toList.map fun f=>(f.offset,f.type)) 0).bind fun r=>if r.length=P.cellsOf t then some r else none
    | some (.array n e)=>(layOff (layB P f) P.cellsOf ((List.range n).map fun i=>(i*P.cellsOf e,e)) 0).bind fun r=>if r.length=P.cellsOf t then some r else none
    | _=>none)=some r at hr
   unfold aggB
   have agg:∀ cs:Array Value,v = .agg cs->RP (m0 w) (pOf true ds) v:=fun cs hv=>by
    subst hv
    refine .agg _ _ ?_ fun j p u hp hu=>?_
    . rw [aAh,h2.1,<- h1];simp [Value.cells]
    . rw [aAi] at hp
      obtain ⟨y,hy,rfl⟩:=aBq.1 hp
      exact .d y u (h3 j y u hy (by simpa [Value.cells] using hu)).m0
   split at hr
   . next hu=>rw [hu];obtain ⟨b,rfl⟩:=okWide_bool hu hval;exact single _ rfl ⟨h1,h2,h3⟩
   . next k hu=>rw [hu];obtain ⟨n,rfl⟩:=okWide_int hu hval;exact single _ rfl ⟨h1,h2,h3⟩
   . next hu=>rw [hu];obtain ⟨s,rfl⟩:=okWide_string hu hval;exact single _ rfl ⟨h1,h2,h3⟩
   . next e hu=>rw [hu];obtain ⟨a,l,c,rfl⟩:=okWide_slice hu hval;exact single _ rfl ⟨h1,h2,h3⟩
   . next fs hu=>rw [hu];obtain ⟨cs,hv,_⟩:=okWide_struct hu hval;exact agg cs hv
   . next n e hu=>
     rw [hu]
     simp only [Value.okWide,hu] at hval
     obtain ⟨cs,hv,_⟩:=hval
     exact agg cs hv
   . cases hr
end
theorem m0_inv (w:World):Inv (m0 w) [] []:=by
 have none_:∀ l i b,getB [] [] l i=some b->False:=fun l i b h=>by cases l <;> simp [getB] at h
 exact ⟨fun l i b h=>(none_ l i b h).elim,fun l i b l' i' b' v v' k h=>(none_ l i b h).elim,fun l i b v k h=>(none_ l i b h).elim,fun k hk=>hk.elim,Views.none fun i p e c h=>by simp at h⟩
theorem aD.calls {C:Cx} {f:Nat} {args:List PV} {b:Bool} {vs:Array Value} {w:World} (h:aD C [] f args (.d (.bool b)) []) (hn:args.length=vs.size) (ha:∀ (j:Nat) p v,args[j]? = some p->vs[j]? = some v->RP (m0 w) p v) :
 Calls C.P f vs w fun e w'=>e = .returned (.bool b)/\Below w.heap.size w w':=by
 unfold aD at h
 refine (h (m0 w) vs (m0_inv w) (fun _=>rfl) hn ha).mono fun e w' ⟨v,m',he,hw,hg,_,_,_,hr⟩=>?_
 subst hw
 have hv:v = .bool b:=by
  cases hr with
  | d x v hx=>cases hx;rfl
 exact ⟨by rw [he,hv],hg.os,hg.tape,hg.output,hg.size,hg.heap⟩
end Go.Proofs.Ve
namespace Go.Proofs
open Go.Shelf
def Try.laysSlK4_ren:Go.Shelf.Ren:=⟨fun | 4=>41 | n=>n,fun | 22=>27 | 4=>4 | 5=>5 | n=>n,fun | n=>n⟩
theorem Try.laysSlK4:Go.Proofs.SlLaysK.n4 Try.prog Try.laysSlK4_ren:={
 mixed:=by kernel_rfl
 f4:=Try.func41.trans (congrArg some (by kernel_rfl))
 t4:=Try.underlying4
 a4:=Try.isAgg4
 z4:=Try.sizeOf4
 v4:=Try.zeroValue4
 t22:=Try.underlying27
 a22:=Try.isAgg27
 z22:=Try.sizeOf27
 v22:=Try.zeroValue27
 t5:=Try.underlying5
 i5:=by kernel_rfl }
open Go.RowKit Go.Lib in
theorem Try.bytes_Clone_at (a:Addr) (n c:Nat) (xs:List Int) (w:World) (hx:xs.length=n) (hbig:n<=140737488355328) (hc:∀ i,i < n->w.cell? (a.add i)=some (.int .u8 (xs.getD i 0))) :
 Calls Try.prog 41 #[.slice (some a) n c] w fun e w'=>∃ v',e = .returned v'/\w'.ownsRow w.heap.size 5 1 v' n (xs.map (Value.int .u8))/\v' ≠ .slice none 0 0/\Below w.heap.size w w':=Any.bytes_Clone_at Try.laysSlK4 a n c xs w hx hbig hc
open Go.RowKit Go.Lib in
theorem Try.bytes_Clone_nil (n c:Nat) (w:World) :
 Calls Try.prog 41 #[.slice none n c] w fun e w'=>e = .returned (.slice none 0 0)/\w'=w:=Any.bytes_Clone_nil Try.laysSlK4 n c w
def Try.laysGrow88_ren:Go.Shelf.Ren:=⟨fun | 4=>88 | n=>n,fun | 22=>22 | 25=>27 | 3=>3 | 4=>4 | 9=>9 | 20=>20 | 0=>0 | n=>n,fun | n=>n⟩
theorem Try.laysGrow88:Go.Proofs.Lays8.n4 Try.prog Try.laysGrow88_ren:={
 mixed:=by kernel_rfl
 f4:=⟨Try.f88.name,by decide,Try.func88.trans (congrArg some (by kernel_rfl))⟩
 t0:=Try.underlying0
 a0:=Try.isAgg0
 z0:=Try.sizeOf0
 v0:=Try.zeroValue0
 t3:=Try.underlying3
 a3:=Try.isAgg3
 z3:=Try.sizeOf3
 v3:=Try.zeroValue3
 t4:=Try.underlying4
 a4:=Try.isAgg4
 z4:=Try.sizeOf4
 v4:=Try.zeroValue4
 t9:=Try.underlying9
 a9:=Try.isAgg9
 z9:=Try.sizeOf9
 v9:=Try.zeroValue9
 t20:=Try.underlying20
 a20:=Try.isAgg20
 z20:=Try.sizeOf20
 v20:=Try.zeroValue20
 t22:=Try.underlying22
 a22:=Try.isAgg22
 z22:=Try.sizeOf22
 v22:=Try.zeroValue22 }
def Try.laysGrow89_ren:Go.Shelf.Ren:=⟨fun | 4=>89 | n=>n,fun | 22=>23 | 25=>32 | 3=>3 | 4=>4 | 9=>9 | 20=>20 | 0=>0 | n=>n,fun | n=>n⟩
theorem Try.laysGrow89:Go.Proofs.Lays8.n4 Try.prog Try.laysGrow89_ren:={
 mixed:=by kernel_rfl
 f4:=⟨Try.f89.name,by decide,Try.func89.trans (congrArg some (by kernel_rfl))⟩
 t0:=Try.underlying0
 a0:=Try.isAgg0
 z0:=Try.sizeOf0
 v0:=Try.zeroValue0
 t3:=Try.underlying3
 a3:=Try.isAgg3
 z3:=Try.sizeOf3
 v3:=Try.zeroValue3
 t4:=Try.underlying4
 a4:=Try.isAgg4
 z4:=Try.sizeOf4
 v4:=Try.zeroValue4
 t9:=Try.underlying9
 a9:=Try.isAgg9
 z9:=Try.sizeOf9
 v9:=Try.zeroValue9
 t20:=Try.underlying20
 a20:=Try.isAgg20
 z20:=Try.sizeOf20
 v20:=Try.zeroValue20
 t22:=Try.underlying23
 a22:=Try.isAgg23
 z22:=Try.sizeOf23
 v22:=Try.zeroValue23 }
def Try.laysGrow90_ren:Go.Shelf.Ren:=⟨fun | 4=>90 | n=>n,fun | 22=>24 | 25=>26 | 3=>3 | 4=>4 | 9=>9 | 20=>20 | 0=>0 | n=>n,fun | n=>n⟩
theorem Try.laysGrow90:Go.Proofs.Lays8.n4 Try.prog Try.laysGrow90_ren:={
 mixed:=by kernel_rfl
 f4:=⟨Try.f90.name,by decide,Try.func90.trans (congrArg some (by kernel_rfl))⟩
 t0:=Try.underlying0
 a0:=Try.isAgg0
 z0:=Try.sizeOf0
 v0:=Try.zeroValue0
 t3:=Try.underlying3
 a3:=Try.isAgg3
 z3:=Try.sizeOf3
 v3:=Try.zeroValue3
 t4:=Try.underlying4
 a4:=Try.isAgg4
 z4:=Try.sizeOf4
 v4:=Try.zeroValue4
 t9:=Try.underlying9
 a9:=Try.isAgg9
 z9:=Try.sizeOf9
 v9:=Try.zeroValue9
 t20:=Try.underlying20
 a20:=Try.isAgg20
 z20:=Try.sizeOf20
 v20:=Try.zeroValue20
 t22:=Try.underlying24
 a22:=Try.isAgg24
 z22:=Try.sizeOf24
 v22:=Try.zeroValue24 }
end Go.Proofs
namespace Go.Proofs.Ve
open Go
def lay:List TyRow:=[
 ⟨2,.int .i64,1,8,[.d (.int .i64 0)]⟩,
 ⟨3,.int .i64,1,8,[.d (.int .i64 0)]⟩,
 ⟨4,.bool,1,1,[.kb false]⟩,
 ⟨5,.int .u8,1,1,[.d (.int .u8 0)]⟩,
 ⟨9,.str,1,16,[.d (.str ⟨#[]⟩)]⟩,
 ⟨12,.int .u64,1,8,[.d (.int .u64 0)]⟩,
 ⟨21,.int .i32,1,4,[.d (.int .i32 0)]⟩,
 ⟨22,.slice 27,1,24,[.nils]⟩,
 ⟨23,.slice 32,1,24,[.nils]⟩,
 ⟨24,.slice 26,1,24,[.nils]⟩,
 ⟨25,.struct [(0,22),(1,23),(2,24)],3,72,[.nils,.nils,.nils]⟩,
 ⟨26,.struct [(0,22),(1,23),(2,24)],3,72,[.nils,.nils,.nils]⟩,
 ⟨27,.slice 5,1,24,[.nils]⟩,
 ⟨30,.slice 41,1,24,[.nils]⟩,
 ⟨32,.slice 61,1,24,[.nils]⟩,
 ⟨40,.struct [(0,27),(1,32)],2,48,[.nils,.nils]⟩,
 ⟨41,.struct [(0,27),(1,32)],2,48,[.nils,.nils]⟩,
 ⟨46,.int .i64,1,8,[.d (.int .i64 0)]⟩,
 ⟨55,.slice 58,1,24,[.nils]⟩,
 ⟨57,.struct [(0,5),(1,5),(2,4)],3,3,[.d (.int .u8 0),.d (.int .u8 0),.kb false]⟩,
 ⟨58,.struct [(0,5),(1,5),(2,4)],3,3,[.d (.int .u8 0),.d (.int .u8 0),.kb false]⟩,
 ⟨60,.struct [(0,3),(1,4),(2,27)],3,40,[.d (.int .i64 0),.kb false,.nils]⟩,
 ⟨61,.struct [(0,3),(1,4),(2,27)],3,40,[.d (.int .i64 0),.kb false,.nils]⟩,
 ⟨83,.other,1,8,[.any]⟩,
 ⟨97,.int .u64,1,8,[.d (.int .u64 0)]⟩,
 ⟨106,.struct [(0,4)],1,1,[.kb false]⟩,
 ⟨107,.struct [(0,4)],1,1,[.kb false]⟩,
 ⟨111,.slice 22,1,24,[.nils]⟩,
 ⟨113,.slice 23,1,24,[.nils]⟩,
 ⟨115,.slice 24,1,24,[.nils]⟩,
 ⟨127,.int .u32,1,4,[.d (.int .u32 0)]⟩
]
noncomputable def X:Cx:=⟨Try.prog,lay,94,[0,1,57,71,73,78],[27,47,49,50,51,63,68,69],[49,50,51,61,62,63,64,65,66,68,69,70,75,76,77,81,82,83,84],[57],[(88,27),(89,32),(90,26)],false,false,[],[]⟩
theorem jP {α:Type} {p:α->Prop} {r:α} {rs:List α} (h:p r) (hs:∀ x ∈ rs,p x):∀ x ∈ r::rs,p x:=fun x hx=>by cases hx with | head=>exact h | tail _ h'=>exact hs x h'
theorem cmp_ok {f:FuncId} {fn:Func} (h:Try.prog.funcs[f]? = some fn) (h1:(fn.name == "runtime.NumGoroutine")=false) (h2:fn.body.isNone=true) (h3:(Extern.findNext fn).isNone=true) (h4:Extern.find fn=some Extern.BytealgCompare.compare):CmpOk Try.prog f:=by
 intro a b w
 have h5:Extern.findNext fn=none:=by simpa using h3
 have h6:¬ fn.name = "runtime.NumGoroutine":=by simpa using h1
 have h7:fn.body=none:=by simpa using h2
 unfold callFunc
 simp [h,h5,h4,h6,h7]
theorem qE (cs:Array Value) (n:Nat):(Builtin.zeroCells cs n).size=n*cs.size:=by
 unfold Builtin.zeroCells
 induction n with
 | zero=>simp
 | succ n ih=>simp_all [List.replicate_succ,Nat.succ_mul,Nat.add_comm]
theorem qF {P:Program} {ρ:Go.Shelf.Ren} (L:Go.Proofs.Lays8.n4 P ρ):GrowOk P (ρ.f 4) (ρ.t 25):=by
 intro n w
 refine ⟨fun h=>?_,fun i z hi hz hs hzc hn hb h6=>?_⟩
 . subst h
   exact Any8.slices_Grow_room L none 0 0 0 w (aBo _) (by omega) (by omega) (aBo _)
 . refine (Any8.slices_Grow_grow L i z hi hz hs none 0 0 n [] w (aBo _) (by omega) (by simpa using hb) (by omega) (by simp) (fun _=>rfl) (fun a h=>by cases h)).mono ?_
   rintro e w' ⟨rfl,rfl⟩
   rw [show 0+n=n by omega]
   refine ⟨grownCap w n 0 (ρ.t 25),_,rfl,rfl,?_,grownCap_le_maxLen w n 0 _ (by unfold maxLen;omega)⟩
   have hge:=grownCap_ge w n 0 (ρ.t 25)
   simp only [Array.size_append,qE,hzc,List.size_toArray,aAo,Nat.zero_add,Nat.sub_zero]
   rw [<- Nat.add_mul,show n+(grownCap w n 0 (ρ.t 25) - n)=grownCap w n 0 (ρ.t 25) by omega]
theorem aY:X.Ok:=by
 refine ⟨?_,by kernel_rfl,by kernel_rfl,by kernel_rfl,by kernel_rfl,?_,?_⟩
 . show ∀ r ∈ lay,RowOk Try.prog r
   unfold lay
   repeat (refine jP ⟨by kernel_rfl,by kernel_rfl⟩ ?_)
   intro r hr;cases hr
 . show ∀ f ∈ [57],CmpOk Try.prog f
   refine jP (cmp_ok Try.func57 rfl rfl rfl rfl) ?_
   intro f hf;cases hf
 . show ∀ p ∈ ([(88,27),(89,32),(90,26)]:List (Nat × Nat)),GrowOk Try.prog p.1 p.2
   refine jP (qF Try.laysGrow88) ?_
   refine jP (qF Try.laysGrow89) ?_
   refine jP (qF Try.laysGrow90) ?_
   intro f hf;cases hf
theorem aZ:FlatN []:=fun r hr=>by cases hr
structure Span where
 t:Int
 lo:List UInt8
 hi:List UInt8
 op:Bool
structure Lock where
 owner:Int
 whole:Bool
 span:Span
 mode:Int
def aL (b:List UInt8):DV:=.sl (b.map fun x=>[.int .u8 x.toNat])
def cLock (x:Lock):List DV:=[.int .i64 x.owner,.bool x.whole,.int .i64 x.span.t,aL x.span.lo,aL x.span.hi,.bool x.span.op,.int .i64 x.mode]
def oF (b:List UInt8):ByteArray:=⟨b.toArray⟩
def iF (a b:List UInt8):Int:=Extern.BytealgCompare.cmp ⟨a.toArray⟩ ⟨b.toArray⟩
def eqB (a b:List UInt8):Bool:=(oF a).toList==(oF b).toList
theorem bI {body:(Exit->List PV->List Blk->Prop)->List PV->List Blk->Prop} {K:Exit->List PV->List Blk->Prop} {tm:List PV} {top:List Blk} {ι:Type} (S:ι->LS) (I:ι->Prop) (μ:ι->Nat) (i0:ι) (s0:List Nat)
 (hI:I i0) (h0:Ref s0 tm top (S i0).tm (S i0).top) (h:∀ i,I i->body (fun e tm' top'=>match e with | .normal=>∃ i' s,I i'/\μ i' < μ i/\Ref s tm' top' (S i').tm (S i').top | e=>K e tm' top') (S i).tm (S i).top):oO body K tm top:=by
 unfold oO;exact ⟨ι,S,I,μ,⟨i0,s0,hI,h0⟩,h⟩
def idxOf {α:Type} (p:α->Bool):List α->Int->Int
 | [],_=>-1
 | x::xs,k=>bif p x then k else idxOf p xs (k+1)
theorem aJ {k:Int} (h0:0<=k) (h1:k < 9223372036854775808):IntKind.i64.wrap k=k:=by rw [IntKind.wrap_i64];omega
structure Locks where
 held:List Lock
 queue:List Lock
def short (x:Lock):Bool:=decide ((x.span.lo.length:Int)<=100)&&decide ((x.span.hi.length:Int)<=100)
def dA (l:List Lock) (o:Int):Int:=idxOf (fun x=>x.owner==o) l 0
def sH:List Int->List Int->Bool
 | [],_=>true
 | x::xs,ys=>match ys with | []=>true | y::ys=>bif x != y then false else sH xs ys
def numbers (a b:List Int):Bool:=if ((a.map fun x=>[DV.int .i64 x]).length:Int) != ((b.map fun x=>[DV.int .i64 x]).length:Int) then false else sH a b
def lLong (x:Lock):Bool:=decide (((x.span.lo.map fun b=>[DV.int .u8 b.toNat]).length:Int) > 100)||decide (((x.span.hi.map fun b=>[DV.int .u8 b.toNat]).length:Int) > 100)
def sI:List Lock->Bool
 | []=>true
 | x::xs=>bif lLong x then false else sI xs
def few (l:Locks):Bool:=if decide (((l.held.map cLock).length:Int) > 60)||decide (((l.queue.map cLock).length:Int) > 60) then false else bif sI l.held then sI l.queue else false
end Go.Proofs.Ve
namespace Go.Proofs.Ve
open Go Go.RowKit
theorem new_row {m:M} {H:List (List Blk)} (hinv:Inv m [] H) (hfree:∀ i,m.ρ 0 i=none) {w':World} {v:Value} {e sz:Nat} {xs:List (List DV)} {flat:List Value} (h0:0 < sz) (hxs:∀ x ∈ xs,x.length=sz)
 (hown:w'.ownsRow m.w.heap.size e sz v xs.length flat) (hB:Below m.w.heap.size m.w w') (hc:∀ (ok:Nat->Prop),∀ (i:Nat) x (j:Nat) y u,xs[i]? = some x->x[j]? = some y->flat[i*sz+j]? = some u->RD w' ok y u) :
 ∃ m',m'.w=w'/\Grow m m'/\(∀ l i,m'.ρ (l+1) i=m.ρ (l+1) i)/\(∀ j b u k,[Blk.row e sz xs][j]? = some b->m'.ρ 0 j=some u->b.has m'.w u k->m.w.heap.size<=k)/\Inv m' [.row e sz xs] H/\m'.ρ 0 0=some v:=by
 have hown0:w'.ownsRow 0 e sz v xs.length flat:=by
  obtain ⟨a,b⟩:=hown
  refine ⟨a,?_⟩
  rcases b with b | ⟨g,cap,cur,b1,_,b2⟩
  . exact .inl b
  . exact .inr ⟨g,cap,cur,b1,aBn _,b2⟩
 have hblk:∀ k,blkOf v=some k->m.w.heap.size<=k/\k < w'.heap.size:=fun k hk=>by
  rcases hown.2 with ⟨b,_⟩ | ⟨g,cap,cur,b1,b2,b3,_⟩
  . rw [b] at hk;cases hk
  . rw [b1] at hk;cases hk;exact ⟨b2,(aBw.1 b3).1⟩
 let m':M:=⟨w',fun l i=>match l with | 0=>if i=0 then some v else none | l+1=>m.ρ (l+1) i,fun k=>m.U k\/blkOf v=some k⟩
 have h00:m'.ρ 0 0=some v:=rfl
 have hup:∀ l i,m'.ρ (l+1) i=m.ρ (l+1) i:=fun _ _=>rfl
 have hz:∀ i u,m'.ρ 0 i=some u->i=0/\u=v:=fun i u h=>by
  change (if i=0 then some v else none)=some u at h
  split at h
  . cases h;exact ⟨by assumption,rfl⟩
  . cases h
 have hG:Grow m m':=by
  refine ⟨hB.os,hB.tape,hB.output,hB.size,fun k hk=>hB.block k hk,fun l i u hu=>?_,fun k hk=>⟨fun h=>?_,.inl⟩⟩
  . cases l with
    | zero=>rw [hfree i] at hu;cases hu
    | succ l=>exact hu
  . rcases h with h | h
    . exact h
    . have:=(hblk k h).1;omega
 have get:∀ l i b,getB [.row e sz xs] H l i=some b->(l=0/\i=0/\b = .row e sz xs)\/(∃ l',l=l'+1/\getB [] H l i=some b):=by
  intro l i b hb
  cases l with
  | zero=>
    cases i with
    | zero=>simp [getB] at hb;exact .inl ⟨rfl,rfl,hb.symm⟩
    | succ i=>simp [getB] at hb
  | succ l=>exact .inr ⟨l,rfl,hb⟩
 refine ⟨m',rfl,hG,hup,fun j b u k hb hu hk=>?_,⟨fun l i b hb=>?_,fun l i b l' i' b' u u' k h1 h2 h3 h4 h5 h6 h7 h8=>?_,fun l i b u k h1 h2 h3 h4=>?_,fun k hk=>?_,Views.none fun i p e c h=>by cases i <;> simp at h⟩,h00⟩
 . obtain ⟨rfl,rfl⟩:=hz j u hu;cases hb;exact (hblk k hk).1
 . rcases get l i b hb with ⟨rfl,rfl,rfl⟩ | ⟨l',rfl,hb'⟩
   . intro u hu
     rw [h00] at hu;cases hu
     exact ⟨h0,hxs,flat,hown0,hc _⟩
   . exact (hinv.blk _ i b hb').keep hG.keep (hup l' i) (fun u k hl hu hk=>hG.heap k (hinv.lt k (hinv.own _ i b u k hb' hl hu hk)))
 . rcases get l i b h1 with ⟨rfl,rfl,rfl⟩ | ⟨a,rfl,hb⟩ <;> rcases get l' i' b' h3 with ⟨rfl,rfl,rfl⟩ | ⟨a',rfl,hb'⟩
   . exact ⟨rfl,rfl⟩
   . exfalso
     rw [h00] at h5;cases h5
     have:=hinv.lt k (hinv.own _ i' b' u' k hb' h4 h6 (hinv.grow hG hb' h4 h6 h8))
     have:=(hblk k h7).1;omega
   . exfalso
     rw [h00] at h6;cases h6
     have:=hinv.lt k (hinv.own _ i b u k hb h2 h5 (hinv.grow hG hb h2 h5 h7))
     have:=(hblk k h8).1;omega
   . exact hinv.inj _ i b _ i' b' u u' k hb h2 hb' h4 h5 h6 (hinv.grow hG hb h2 h5 h7) (hinv.grow hG hb' h4 h6 h8)
 . rcases get l i b h1 with ⟨rfl,rfl,rfl⟩ | ⟨a,rfl,hb⟩
   . rw [h00] at h3;cases h3;exact .inr h4
   . exact .inl (hinv.own _ i b u k hb h2 h3 (hinv.grow hG hb h2 h3 h4))
 . rcases hk with hk | hk
   . exact aBk (hinv.lt k hk) hB.size
   . exact (hblk k hk).2
end Go.Proofs.Ve
namespace Go.Proofs.Ve
open Go Go.RowKit
def rowB (b:List UInt8):List (List DV):=b.map fun x=>[.int .u8 x.toNat]
theorem rd_bytes {w:World} {ok:Nat->Prop} {b:List UInt8} {v:Value} (h:RD w ok (aL b) v):∃ A n c,v = .slice A n c/\n=b.length/\(0 < n -> ∃ ad,A=some ad /\ ∀ i,i < n->w.cell? (ad.add i)=some (.int .u8 ((b.map fun x=>(x.toNat:Int)).getD i 0))):=by
 unfold aL at h
 cases h with
 | sl sz _ A n c ad u hn hc hm hA hs hcell hr=>
   refine ⟨A,n,c,rfl,by simpa using hn.symm,fun hp=>⟨ad,hA hp,fun i hi=>?_⟩⟩
   have hb:i < b.length:=by simp at hn;omega
   have h1:(b.map fun x=>[DV.int .u8 (x.toNat:Int)])[i]? = some [.int .u8 (b[i].toNat:Int)]:=by simp [hb]
   have hsz:sz=1:=by
    have:=hs _ (aAg h1)
    simpa using this.symm
   subst hsz
   have h2:=(hcell i _ 0 _ h1 rfl).2
   have h3:=hr i _ 0 _ h1 rfl
   rw [Nat.mul_one,Nat.add_zero] at h2 h3
   rw [h2]
   generalize u i=q at h3
   cases h3
   simp [hb]
theorem c103r (b:List UInt8) (hb:b.length<=140737488355328) (H:List (List Blk)):aD X H 41 [.d (aL b)] (.row 0 0 b.length) [⟨5,1,rowB b⟩]:=by
 unfold aD
 intro m vs hinv hfree hlen hargs
 obtain ⟨v,rfl⟩:∃ v,vs = #[v]:=by
  match vs,hlen with
  | ⟨[v]⟩,_=>exact ⟨v,rfl⟩
 have hv:=hargs 0 _ v rfl rfl
 cases hv with
 | d _ _ hv=>
   obtain ⟨A,n,c,rfl,hn,hcell⟩:=rd_bytes hv
   have fin:∀ (w':World) (v':Value),w'.ownsRow m.w.heap.size 5 1 v' n ((b.map fun x=>(x.toNat:Int)).map (Value.int .u8))->Below m.w.heap.size m.w w' ->
    ∃ v m',Ending.returned v' = .returned v/\m'.w=w'/\Grow m m'/\(∀ l i,m'.ρ (l+1) i=m.ρ (l+1) i)/\(∀ j b' u k,([⟨5,1,rowB b⟩].map RowB.blk)[j]? = some b'->m'.ρ 0 j=some u->b'.has m'.w u k->m.w.heap.size<=k)/\Inv m' ([⟨5,1,rowB b⟩].map RowB.blk) H/\RP m' (.row 0 0 b.length) v:=by
    intro w' v' hown hB
    have hl:(rowB b).length=n:=by simp [rowB,hn]
    obtain ⟨m',h1,h2,h3,h4,h5,h6⟩:=new_row (xs:=rowB b) hinv hfree (by decide) (fun x hx=>by simp only [rowB,aBc] at hx;obtain ⟨_,_,rfl⟩:=hx;rfl) (hl ▸ hown) hB (fun ok i x j y u hx hy hu=>by
     unfold rowB at hx
     rw [aAi] at hx
     obtain ⟨q,hq,rfl⟩:=aBq.1 hx
     cases j with
     | succ j=>simp at hy
     | zero=>
       simp at hy;subst hy
       rw [Nat.mul_one,Nat.add_zero,aAi,aAi,hq] at hu
       cases hu;exact .int _ _)
    refine ⟨v',m',rfl,h1,h2,h3,h4,h5,?_⟩
    rcases hown.2 with ⟨a,a0⟩ | ⟨g,cap,cur,a,_,_,a1,_⟩
    . subst a
      rw [<- hn,a0]
      exact .row 0 0 0 0 0 none h6 (aBo _) (aBo _)
    . subst a
      exact hn ▸ .row 0 0 n n cap (some ⟨g,0,none⟩) h6 (aBo _) a1
   cases A with
   | none=>
     have h0:n=0:=by
      rcases Nat.eq_zero_or_pos n with h | h
      . exact h
      . obtain ⟨ad,h1,_⟩:=hcell h;cases h1
     refine (Try.bytes_Clone_nil n c m.w).mono ?_
     rintro e w' ⟨rfl,rfl⟩
     refine fin _ _ ⟨?_,.inl ⟨rfl,h0⟩⟩ (Below.refl _ _)
     simp [hn]
   | some a=>
     refine (Try.bytes_Clone_at a n c (b.map fun x=>(x.toNat:Int)) m.w (by simp [hn]) (by omega) (fun i hi=>?_)).mono ?_
     . obtain ⟨ad,h1,h2⟩:=hcell (by omega)
       cases h1;exact h2 i hi
     . rintro e w' ⟨v',rfl,hown,_,hB⟩
       exact fin w' v' hown hB
theorem c103 (b:List UInt8) (hb:b.length<=140737488355328) (H:List (List Blk)):aD X H 41 [.d (aL b)] (.d (aL b)) []:=
 (c103r b hb H).freeze 1 (by
   change PV.d (.sl ((rowB b).take b.length))=_
   rw [aAt (by simp [rowB])];rfl)
structure Ver where
 stamp:Int
 gone:Bool
 val:List UInt8
inductive Node where
 | mk (keys:List (List UInt8)) (chains:List (List Ver)) (kids:List Node)
def Node.keys:Node->List (List UInt8) | .mk k _ _=>k
def Node.chains:Node->List (List Ver) | .mk _ c _=>c
def Node.kids:Node->List Node | .mk _ _ n=>n
def cVer (x:Ver):List DV:=[.int .i64 x.stamp,.bool x.gone,aL x.val]
def pVer (x:Ver):PV:=.agg [.d (.int .i64 x.stamp),.d (.bool x.gone),.d (aL x.val)]
def encVs (l:List Ver):DV:=.sl (l.map cVer)
def encKs (l:List (List UInt8)):DV:=.sl (l.map fun k=>[aL k])
def encCs (l:List (List Ver)):DV:=.sl (l.map fun c=>[encVs c])
mutual
def cNode:Node->List DV
 | .mk k c n=>[encKs k,encCs c,.sl (cNodes n)]
def cNodes:List Node->List (List DV)
 | []=>[]
 | n::ns=>cNode n::cNodes ns
end
theorem cNodes_eq:∀ ns,cNodes ns=ns.map cNode
 | []=>by simp [cNodes]
 | n::ns=>by simp [cNodes,cNodes_eq ns]
def encNs (l:List Node):DV:=.sl (l.map cNode)
theorem cNode_eq (n:Node):cNode n = [encKs n.keys,encCs n.chains,encNs n.kids]:=by
 cases n with
 | mk k c ns=>unfold cNode;rw [cNodes_eq];rfl
def pNode (n:Node):PV:=.agg [.d (encKs n.keys),.d (encCs n.chains),.d (encNs n.kids)]
def bNode (n:Node):Blk:=.box [.d (encKs n.keys),.d (encCs n.chains),.d (encNs n.kids)]
theorem d_comp (a b:List UInt8) (H:List (List Blk)):aD X H 45 [.d (aL a),.d (aL b)] (.d (.int .i64 (iF a b))) []:=by
 unfold iF
 refine callEq_of_body aY rfl Try.func45 rfl ?_
 conv=>whnf
 repeat' (first
  | (refine And.intro (fun h_=>?_) (fun h_=>?_) <;> (conv=>whnf))
  | (refine ⟨_,_,rfl,rfl,?_⟩;conv=>whnf)
  | (intro z_ hz_;conv=>whnf)
  | (refine ⟨[],rfl,?_,True.intro⟩;(conv=>whnf);(first | done | (simp_all only [refP,Bool.not_true,Bool.not_false,Bool.true_and,Bool.false_and,Bool.and_true,Bool.and_false,Bool.true_or,Bool.false_or,Bool.or_true,Bool.or_false,Bool.not_not,Bool.not_eq_true',Bool.not_eq_false',if_true,if_false,Bool.false_eq_true,Bool.true_eq_false,aAh];done)))
  | fail)
def leafN (n:Node):Bool:=(((n.kids.map cNode).length:Int)==0)
theorem d_leaf (n:Node) (H:List (List Blk)):aD X H 40 [pNode n] (.d (.bool (leafN n))) []:=by
 unfold leafN
 refine callEq_of_body aY rfl Try.func40 rfl ?_
 conv=>whnf
 repeat' (first
  | (refine And.intro (fun h_=>?_) (fun h_=>?_) <;> (conv=>whnf))
  | (intro z_ hz_;conv=>whnf)
  | (refine ⟨[],rfl,?_,True.intro⟩;(conv=>whnf);(first | done | (simp_all only [refP,Bool.not_true,Bool.not_false,Bool.true_and,Bool.false_and,Bool.and_true,Bool.and_false,Bool.true_or,Bool.false_or,Bool.or_true,Bool.or_false,Bool.not_not,Bool.not_eq_true',Bool.not_eq_false',if_true,if_false,Bool.false_eq_true,Bool.true_eq_false,aAh];done)))
  | fail)
def half (a b:Nat):Nat:=(a+b) / 2
def bsF (p:List UInt8->Int) (l:List (List UInt8)):Nat->Nat->Nat->Nat
 | 0,i,_=>i
 | n+1,i,j=>if i < j then (if p (l.getD (half i j) []) < 0 then bsF p l n (half i j+1) j else bsF p l n i (half i j)) else i
def bs (l:List (List UInt8)) (k:List UInt8):Nat:=bsF (fun x=>iF x k) l l.length 0 l.length
def bsIs (l:List (List UInt8)) (k:List UInt8):Bool:=decide (((bs l k:Nat):Int) < ((l.map fun k=>[aL k]).length:Int))&&iF (l.getD (bs l k) []) k==0
theorem bsF_more (p:List UInt8->Int) (l:List (List UInt8)):∀ (n m i j:Nat),j - i<=n->j - i<=m->bsF p l n i j=bsF p l m i j
 | 0,0,i,j,_,_=>rfl
 | 0,m+1,i,j,h,_=>by unfold bsF;rw [if_neg (by omega)]
 | n+1,0,i,j,_,h=>by unfold bsF;rw [if_neg (by omega)]
 | n+1,m+1,i,j,h1,h2=>by
   unfold bsF
   split
   . split
     . exact bsF_more p l n m _ _ (by unfold half;omega) (by unfold half;omega)
     . exact bsF_more p l n m _ _ (by unfold half;omega) (by unfold half;omega)
   . rfl
theorem wrap_u {k:Int} (h0:0<=k) (h1:k < 18446744073709551616):IntKind.u64.wrap k=k:=by rw [IntKind.wrap_u64];omega
theorem fdiv2 (n:Nat):Int.fdiv (n:Int) (2 ^ (1:Int).toNat)=((n / 2:Nat):Int):=by
 rw [show ((2:Int) ^ (1:Int).toNat)=2 from rfl,Int.fdiv_eq_ediv_of_nonneg _ (by decide)];omega
theorem d_bs (l:List (List UInt8)) (k:List UInt8) (hl:l.length < 1000000) (H:List (List Blk)):aD X H 53 [.d (encKs l),.d (aL k),.func (.func 45) [] []] (.tuple [.d (.int .i64 (bs l k)),.d (.bool (bsIs l k))]) []:=by
 unfold bsIs
 generalize hR:bs l k=R
 refine callEq_of_body aY rfl Try.func53 rfl ?_
 conv=>whnf
 refine bI (fun i:Nat × Nat=>⟨[.d (encKs l),.d (aL k),.func (.func 45) [] [],.any,.any,.any,.any,.any,.d (.int .i64 (l.map fun k=>[aL k]).length),.d (.int .i64 i.1),.d (.int .i64 i.2),.any,.any,.any,.any,.any,.any,.any,.any,.any,.any,.any,.any,.any,.any,.any,.any,.any,.any,.any,.any,.any,.any,.any,.any,.any,.any,.any,.any,.any,.any,.any,.any,.any,.any,.any,.any,.any,.any],[]⟩)
  (fun i=>i.1<=i.2/\i.2<=l.length/\bsF (fun x=>iF x k) l l.length i.1 i.2=R) (fun i=>i.2 - i.1) (0,l.length) [] ⟨aBn _,aBo _,hR⟩ ?_ ?_
 . refine And.intro rfl (And.intro ?_ ?_)
   all_goals (repeat' (first | exact True.intro | exact rfl | refine And.intro ?_ ?_))
   show DV.int .i64 _ = .int .i64 _
   rw [aAh]
 . rintro ⟨i,j⟩ ⟨h1,h2,h3⟩
   dsimp only at h1 h2 h3
   conv=>whnf
   refine And.intro (fun q=>?_) (fun q=>?_)
   . conv=>whnf
     have q:i < j:=by simpa using q
     have h3':bsF (fun x=>iF x k) l (l.length+1) i j=R:=by rw [<- h3];exact bsF_more _ _ _ _ _ _ (by omega) (by omega)
     unfold bsF at h3'
     rw [if_pos q] at h3'
     obtain ⟨y,hy⟩:∃ y,l[half i j]? = some y:=⟨_,aAf (by unfold half;omega)⟩
     have hg:l.getD (half i j) []=y:=by simp [List.getD,hy]
     rw [hg] at h3'
     intro z hz
     conv=>whnf
     rw [aJ (by omega) (by omega)] at hz
     subst hz
     intro z hz
     conv=>whnf
     rw [wrap_u (by omega) (by omega)] at hz
     subst hz
     refine ⟨by decide,by decide,?_⟩
     intro z hz
     rw [show (((i,j).1:Nat):Int)+(((i,j).2:Nat):Int)=((i+j:Nat):Int) by simp,fdiv2] at hz
     subst hz
     conv=>whnf
     intro z hz
     conv=>whnf
     rw [aJ (by omega) (by have:(i+j) / 2<=l.length:=by omega
                           omega)] at hz
     subst hz
     refine ⟨by omega,[aL y],by show (l.map fun k=>[aL k])[(((i+j) / 2:Nat):Int).toNat]? = _;rw [aBi,aAi,show l[(i+j) / 2]? = some y from hy];rfl,rfl,?_⟩
     conv=>whnf
     refine ⟨_,_,d_comp y k _,True.intro,?_⟩
     conv=>whnf
     refine And.intro (fun q1=>?_) (fun q1=>?_) <;> (conv=>whnf)
     . rw [if_pos (by simpa using q1)] at h3'
       intro z hz
       conv=>whnf
       rw [aJ (by omega) (by have:(i+j) / 2<=l.length:=by omega
                             omega)] at hz
       subst hz
       refine ⟨(half i j+1,j),[],⟨by unfold half;omega,h2,h3'⟩,by show j - (half i j+1) < j - i;unfold half;omega,And.intro rfl (And.intro ?_ ?_)⟩
       all_goals (repeat' (first | exact True.intro | exact rfl | refine And.intro ?_ ?_))
     . rw [if_neg (by simpa using q1)] at h3'
       refine ⟨(i,half i j),[],⟨by unfold half;omega,by show half i j<=l.length;unfold half;omega,h3'⟩,by show half i j - i < j - i;unfold half;omega,And.intro rfl (And.intro ?_ ?_)⟩
       all_goals (repeat' (first | exact True.intro | exact rfl | refine And.intro ?_ ?_))
   . conv=>whnf
     have q:¬ i < j:=by simpa using q
     have hi:i=R:=by
      rw [<- h3]
      cases l.length with
      | zero=>rfl
      | succ n=>unfold bsF;rw [if_neg q]
     subst hi
     refine And.intro (fun q1=>?_) (fun q1=>?_) <;> (conv=>whnf)
     . have hlt:i < l.length:=by simpa using q1
       obtain ⟨y,hy⟩:∃ y,l[i]? = some y:=⟨_,aAf hlt⟩
       have hg:l.getD i []=y:=by simp [List.getD,hy]
       refine ⟨by omega,[aL y],by show (l.map fun k=>[aL k])[((i:Nat):Int).toNat]? = _;rw [aBi,aAi,hy];rfl,rfl,?_⟩
       conv=>whnf
       refine ⟨_,_,d_comp y k _,True.intro,?_⟩
       conv=>whnf
       refine ⟨[],rfl,?_,True.intro⟩
       rw [hg]
       (repeat' (first | exact True.intro | exact rfl | refine And.intro ?_ ?_))
       show DV.bool _=DV.bool (decide _&&_)
       rw [q1];rfl
     . refine ⟨[],rfl,?_,True.intro⟩
       (repeat' (first | exact True.intro | exact rfl | refine And.intro ?_ ?_))
       show DV.bool _=DV.bool (decide _&&_)
       rw [q1];rfl
end Go.Proofs.Ve
namespace Go.Proofs.Ve
open Go Go.ChangeShapes Go.WideShapes Go.RowKit
theorem all_map {α β:Type} {f:α->β}:∀ (xs:List β),(∀ y ∈ xs,∃ a,y=f a) -> ∃ l:List α,xs=l.map f
 | [],_=>⟨[],rfl⟩
 | y::ys,h=>by
   obtain ⟨a,rfl⟩:=h y (aAu ..)
   obtain ⟨l,rfl⟩:=all_map ys (fun z hz=>h z (aAv _ hz))
   exact ⟨a::l,rfl⟩
theorem fit_bytes {y:DV} (h:FitC (.sl [.int .u8]) y):∃ b,y=aL b:=by
 obtain ⟨xs,rfl,_,h2⟩:=h.sl_inv
 obtain ⟨l,rfl⟩:=all_map (f:=fun x:UInt8=>[DV.int .u8 x.toNat]) xs (fun z hz=>by
  obtain ⟨u,z',rfl,hu,hz'⟩:=(h2 z hz).cons
  cases hz'.done
  obtain ⟨n,rfl,hn⟩:=hu.int_inv
  simp only [Lit.wf,aBs,decide_eq_true_eq] at hn
  have hmin:IntKind.u8.min=0:=by decide
  have hmax:IntKind.u8.max=255:=by decide
  rw [hmin,hmax] at hn
  refine ⟨UInt8.ofNat n.toNat,?_⟩
  have:((UInt8.ofNat n.toNat).toNat:Int)=n:=by rw [UInt8.toNat_ofNat'];omega
  rw [this])
 exact ⟨l,rfl⟩
theorem fit_pbytes {ds:List DV} (h:FitR [.sl [.int .u8]] ds):∃ b,pOf false ds = .d (aL b):=by
 obtain ⟨_,_,rfl,h1,h⟩:=h.cons
 cases h.done
 obtain ⟨b,rfl⟩:=fit_bytes h1
 exact ⟨b,rfl⟩
section
variable {H:Type} {enc:TypeId × Value->H} {P:Program} {w:World} {spare:Nat->Bool} {held:Bool}
end
end Go.Proofs.Ve
namespace Go.Proofs.Ve
open Go Go.ChangeShapes Go.WideShapes Go.RowKit
end Go.Proofs.Ve
namespace Go.Proofs.Ve
open Go Go.ChangeShapes Go.WideShapes Go.RowKit
theorem fit_int {k:IntKind} {ds:List DV} (h:FitR [.int k] ds):∃ n,pOf false ds = .d (.int k n)/\(Lit.int k n).wf=true:=by
 obtain ⟨_,_,rfl,h1,h⟩:=h.cons
 cases h.done
 obtain ⟨a,rfl,hw⟩:=h1.int_inv
 exact ⟨a,rfl,hw⟩
theorem wf_u8 {n:Int} (h:(Lit.int .u8 n).wf=true):0<=n/\n < 256:=by
 have hmin:IntKind.u8.min=0:=by decide
 have hmax:IntKind.u8.max=255:=by decide
 simp only [Lit.wf,hmin,hmax] at h
 simp at h;omega
end Go.Proofs.Ve
namespace Go.Proofs.Ve
open Go Go.Proofs Go.Shelf Go.RowKit Go.Lib
variable {P:Program} {ρ:Ren} {zr:Value}
structure InsL (P:Program) (ρ:Ren) (zr:Value):Prop where
 mixed:P.follows .mixedOrders=true
 f22:Bears P (ρ.f 22) (Body2.n22 ρ)
 ov:∀ (w:World) (vb voff m vc b o lb cb:Nat) (tA tB:TypeId) (kA kB:Nat),vb≠b->w.shape? vb=some (tA,kA)->w.shape? b=some (tB,kB)->kA≠0->(∀ o,w.frozen? ⟨b,o,none⟩=false) ->
  (callFunc (ρ.f 29) #[.slice (some ⟨vb,voff,none⟩) m vc,.slice (some ⟨b,o,none⟩) lb cb]).run P w = .ok (.value (.bool false)) w
 t0:P.underlying (ρ.t 0)=some (TypeDesc.tuple #[])
 a0:∀ w,(isAgg (ρ.t 0)).run P w = .ok false w
 z0:∀ w,(Go.sizeOf (ρ.t 0)).run P w = .ok 1 w
 v0:∀ w,(zeroValue (ρ.t 0)).run P w = .ok (Value.tuple #[]) w
 t3:P.underlying (ρ.t 3)=some (TypeDesc.int IntKind.i64)
 a3:∀ w,(isAgg (ρ.t 3)).run P w = .ok false w
 z3:∀ w,(Go.sizeOf (ρ.t 3)).run P w = .ok 1 w
 v3:∀ w,(zeroValue (ρ.t 3)).run P w = .ok (Value.int IntKind.i64 0) w
 t4:P.underlying (ρ.t 4)=some (TypeDesc.bool)
 a4:∀ w,(isAgg (ρ.t 4)).run P w = .ok false w
 z4:∀ w,(Go.sizeOf (ρ.t 4)).run P w = .ok 1 w
 v4:∀ w,(zeroValue (ρ.t 4)).run P w = .ok (Value.bool false) w
 a9:∀ w,(isAgg (ρ.t 9)).run P w = .ok false w
 z9:∀ w,(Go.sizeOf (ρ.t 9)).run P w = .ok 1 w
 v9:∀ w,(zeroValue (ρ.t 9)).run P w = .ok zr w
 t24:P.underlying (ρ.t 24)=some (TypeDesc.slice (ρ.t 9))
 a24:∀ w,(isAgg (ρ.t 24)).run P w = .ok false w
 z24:∀ w,(Go.sizeOf (ρ.t 24)).run P w = .ok 1 w
 v24:∀ w,(zeroValue (ρ.t 24)).run P w = .ok (Value.slice none 0 0) w
 i9:(P.info? (ρ.t 9)).map (fun i=>(i.zero,i.size,i.bytes))=some (some zr,1,24)
 cz:zr.cells = #[zr]
theorem ins_shift (L:InsL P ρ zr) (b off n c i vb voff m vc:Nat) (cs vs:List Value) (w:World) (hi:i < n) (hm:0 < m) (hroom:n+m<=c) (hc63:c<=9223372036854775807) (hvb:vb≠b)
 (hcl:cs.length=n) (hvl:vs.length=m)
 (hcs:∀ j v,cs[j]? = some v->w.cell? ⟨b,off+j,none⟩=some v) (hsp:∀ j,j < n+m->(w.cell? ⟨b,off+j,none⟩).isSome=true) (hfz:∀ j,j < n+m->w.frozen? ⟨b,off+j,none⟩=false)
 (hvs:∀ j v,vs[j]? = some v->w.cell? ⟨vb,voff+j,none⟩=some v) (h1c:∀ v ∈ cs,v.oneCell'=true) (h1v:∀ v ∈ vs,v.oneCell'=true)
 (tA tB:TypeId) (kA kB:Nat) (hsa:w.shape? vb=some (tA,kA)) (hsb:w.shape? b=some (tB,kB)) (hkA:kA≠0) (hfb:∀ o,w.frozen? ⟨b,o,none⟩=false) :
 Calls P (ρ.f 22) #[.slice (some ⟨b,off,none⟩) n c,.int .i64 i,.slice (some ⟨vb,voff,none⟩) m vc] w fun e w'=>
  e = .returned (.slice (some ⟨b,off,none⟩) (n+m) c)/\w'=(w.drew.setCells b (off+(i+m)) (cs.drop i)).setCells b (off+i) vs:=by
 have t0:=L.t0;have a0:=L.a0;have z0:=L.z0;have v0:=L.v0;have t3:=L.t3;have a3:=L.a3;have z3:=L.z3;have v3:=L.v3;have t4:=L.t4;have a4:=L.a4;have z4:=L.z4;have v4:=L.v4;have a9:=L.a9;have z9:=L.z9;have v9:=L.v9;have t24:=L.t24;have a24:=L.a24;have z24:=L.z24;have v24:=L.v24
 have u0:=run_underlying L.t0;have u3:=run_underlying L.t3;have u4:=run_underlying L.t4;have u24:=run_underlying L.t24
 have hz1:¬ ((m:Int)=0):=by omega
 have hz2:¬ ((i:Int)=(n:Int)):=by omega
 have hsz:(P.info? (ρ.t 9)).map (·.size)=some 1:=by
  obtain ⟨i0,hi0,h0,h1,h2⟩:=info_parts L.i9
  rw [hi0];simp [h1]
 have hov:∀ lb cb,(callFunc (ρ.f 29) #[.slice (some ⟨vb,voff,none⟩) m vc,.slice (some ⟨b,off+(i+m),none⟩) lb cb]).run P w = .ok (.value (.bool false)) w:=fun lb cb=>L.ov w vb voff m vc b _ lb cb tA tB kA kB hvb hsa hsb hkA hfb
 have hdl:(cs.drop i).length=n - i:=by rw [aAq,hcl]
 have mixed:=L.mixed
 have hw1:IntKind.i64.wrap ((i:Int)+(m:Int))=(i:Int)+(m:Int):=by rw [IntKind.wrap_i64];omega
 have hb1:(0:Int)<=(i:Int)+(m:Int):=by omega
 have hin:i<=n:=by omega
 have htn:((i:Int)+(m:Int)).toNat=i+m:=by omega
 have hb2:¬ (c=i+m):=by omega
 have hb3:(i:Int)<=(n:Int)+(m:Int):=by omega
 have hb4:¬ (c=i):=by omega
 have hcp1:∀ ty dc sc,(Builtin.copy_ #[(ρ.t 24),(ρ.t 24)] ty #[.slice (some ⟨b,off+(i+m),none⟩) (n+m - (i+m)) dc,.slice (some ⟨b,off+i,none⟩) (n+m - i) sc]).run P w.drew = .ok (goInt (cs.drop i).length) (w.drew.setCells b (off+(i+m)) (cs.drop i)):=fun ty dc sc=>
  run_copy_cells w.drew _ _ ty (ρ.t 9) b (off+(i+m)) (n+m - (i+m)) dc ⟨b,off+i,none⟩ (n+m - i) sc (cs.drop i) L.t24 hsz (by rw [hdl];simp only [Nat.min_def];split <;> omega)
   (fun j v hj=>by rw [Addr.add_lit,Nat.add_assoc];exact hcs (i+j) v (by rwa [aA1] at hj))
   (fun j hj=>by rw [Nat.add_assoc];exact hsp _ (by omega)) (fun j hj=>by rw [Nat.add_assoc];exact hfz _ (by omega)) (fun v hv=>h1c v (aA7 hv))
 obtain ⟨W1,hW1⟩:∃ W1,W1=w.drew.setCells b (off+(i+m)) (cs.drop i):=⟨_,rfl⟩
 have hsp1:∀ k,k < n+m->(W1.cell? ⟨b,off+k,none⟩).isSome=true:=fun k hk=>by
  rw [hW1]
  exact isSome_setCells b _ _ _ (fun j hj=>by rw [Nat.add_assoc];exact hsp _ (by omega)) _ (hsp k hk)
 have hcp2:∀ (W:World),(∀ x,W.cell? x=W1.cell? x)->(∀ x,W.frozen? x=W1.frozen? x) -> ∀ ty dc,(Builtin.copy_ #[(ρ.t 24),(ρ.t 24)] ty #[.slice (some ⟨b,off+i,none⟩) (n+m - i) dc,.slice (some ⟨vb,voff,none⟩) m vc]).run P W = .ok (goInt vs.length) (W.setCells b (off+i) vs):=fun W hWc hWf ty dc=>
  run_copy_cells W _ _ ty (ρ.t 9) b (off+i) (n+m - i) dc ⟨vb,voff,none⟩ m vc vs L.t24 hsz (by rw [hvl];simp only [Nat.min_def];split <;> omega)
   (fun j v hj=>by
     rw [Addr.add_lit,hWc,hW1,World.cell?_setCells_out b _ _ _ _ (fun h _=>absurd h hvb)]
     exact hvs j v hj)
   (fun j hj=>by rw [hWc,Nat.add_assoc];exact hsp1 _ (by omega)) (fun j hj=>by rw [hWf,hW1,World.frozen?_setCells,Nat.add_assoc];exact hfz _ (by omega)) h1v
 rw [<- hW1] at hcp1
 obtain ⟨_,_,FG⟩:=L.f22
 go_enter FG,Body2.n22_ntmps ρ
 go_wp2_with (simp only [hov])
 go_region_law_o (refine step_copy_runI rfl _ _ (ρ.t 24) (ρ.t 24) rfl _ _ (by simp [Act.eval,Act.put]) (by simp [Act.eval,Act.put]) (hcp1 _ _ _) ?_)
 go_wp2_with (at_builtin;refine wpList_copy_runI _ rfl _ _ (ρ.t 24) (ρ.t 24) rfl _ _ rfl rfl (hcp2 _ (fun _=>rfl) (fun _=>rfl) _ _) ?_)
 go_ret
 first | exact ⟨rfl,rfl⟩ | exact ⟨rfl,by rw [hW1]⟩
theorem ins_end_room (L:InsL P ρ zr) (b off n c vb voff m vc:Nat) (vs:List Value) (w:World) (hm:0 < m) (hroom:n+m<=c) (hc63:c<=9223372036854775807)
 (hvl:vs.length=m) (hsp:∀ j,j < m->(w.cell? ⟨b,off+n+j,none⟩).isSome=true) (hfz:∀ j,j < m->w.frozen? ⟨b,off+n+j,none⟩=false)
 (hvs:∀ j v,vs[j]? = some v->w.cell? ⟨vb,voff+j,none⟩=some v) (h1v:∀ v ∈ vs,v.oneCell'=true) :
 Calls P (ρ.f 22) #[.slice (some ⟨b,off,none⟩) n c,.int .i64 n,.slice (some ⟨vb,voff,none⟩) m vc] w fun e w'=>
  e = .returned (.slice (some ⟨b,off,none⟩) (n+m) c)/\w'=w.setCells b (off+n) vs:=by
 have t0:=L.t0;have a0:=L.a0;have z0:=L.z0;have v0:=L.v0;have t3:=L.t3;have a3:=L.a3;have z3:=L.z3;have v3:=L.v3;have t4:=L.t4;have a4:=L.a4;have z4:=L.z4;have v4:=L.v4;have a9:=L.a9;have z9:=L.z9;have v9:=L.v9;have t24:=L.t24;have a24:=L.a24;have z24:=L.z24;have v24:=L.v24
 have u0:=run_underlying L.t0;have u3:=run_underlying L.t3;have u4:=run_underlying L.t4;have u24:=run_underlying L.t24
 have mixed:=L.mixed
 have hz1:¬ ((m:Int)=0):=by omega
 have hsrc:Src P 1 (ρ.t 24) (.slice (some ⟨vb,voff,none⟩) m vc) m vs w:=Src.ofSlice w L.t24 ⟨vb,voff,none⟩ m vc vs (by omega) (fun j u hj=>by rw [Addr.add_lit];exact hvs j u hj) h1v
 obtain ⟨_,_,FG⟩:=L.f22
 go_enter FG,Body2.n22_ntmps ρ
 go_wp2_with (at_builtin;refine wpList_append_room1 _ rfl _ _ (ρ.t 24) (ρ.t 24) rfl (ρ.t 9) _ _ L.t24 L.i9 b off n c rfl _ rfl m vs hsrc hroom (by rw [hvl];exact hsp) (by rw [hvl];exact hfz) ?_)
 go_ret
 exact ⟨rfl,rfl⟩
theorem ins_end_grow (L:InsL P ρ zr) (base:Option Addr) (n c vb voff m vc:Nat) (cs vs:List Value) (w:World) (hm:0 < m) (hnc:n<=c) (hroom:c < n+m) (hbig:(n+m)*24<=140737488355328)
 (hcl:cs.length=n) (hvl:vs.length=m) (hnil:base=none->n=0)
 (hcs:∀ a,base=some a -> ∀ j v,cs[j]? = some v->w.cell? (a.add j)=some v)
 (hvs:∀ j v,vs[j]? = some v->w.cell? ⟨vb,voff+j,none⟩=some v) (h1v:∀ v ∈ vs,v.oneCell'=true) :
 Calls P (ρ.f 22) #[.slice base n c,.int .i64 n,.slice (some ⟨vb,voff,none⟩) m vc] w fun e w'=>
  e = .returned (.slice (some ⟨w.heap.size,0,none⟩) (n+m) (grownCap w (n+m) c (ρ.t 9))) /\
  w'=w.drew.alloc (.cells ((cs++vs).toArray++Builtin.zeroCells #[zr] (grownCap w (n+m) c (ρ.t 9) - (n+m))) (ρ.t 9)):=by
 have t0:=L.t0;have a0:=L.a0;have z0:=L.z0;have v0:=L.v0;have t3:=L.t3;have a3:=L.a3;have z3:=L.z3;have v3:=L.v3;have t4:=L.t4;have a4:=L.a4;have z4:=L.z4;have v4:=L.v4;have a9:=L.a9;have z9:=L.z9;have v9:=L.v9;have t24:=L.t24;have a24:=L.a24;have z24:=L.z24;have v24:=L.v24
 have u0:=run_underlying L.t0;have u3:=run_underlying L.t3;have u4:=run_underlying L.t4;have u24:=run_underlying L.t24
 have mixed:=L.mixed
 obtain ⟨i0,hi0,hz0,hzs,hzb⟩:=info_parts L.i9
 have hz1:¬ ((m:Int)=0):=by omega
 have hsrc:Src P i0.size (ρ.t 24) (.slice (some ⟨vb,voff,none⟩) m vc) m vs w:=by
  rw [hzs]
  exact Src.ofSlice w L.t24 ⟨vb,voff,none⟩ m vc vs (by omega) (fun j u hj=>by rw [Addr.add_lit];exact hvs j u hj) h1v
 have hold:(Builtin.firstCells i0.size n (.slice base n c)).run P w.drew = .ok cs.toArray w.drew:=by
  rw [hzs]
  cases base with
  | none=>
    have h0:=hnil rfl
    subst h0
    rw [List.length_eq_zero_iff.1 hcl]
    exact run_firstCells_none w.drew 1 0 0 c
  | some a=>exact run_firstCells_some w.drew 1 n a n c cs (by omega) (fun j v hj=>hcs a rfl j v hj)
 have hrun:∀ ty,(Builtin.append_ #[(ρ.t 24),(ρ.t 24)] ty #[.slice base n c,.slice (some ⟨vb,voff,none⟩) m vc]).run P w =
  .ok (.slice (some ⟨w.heap.size,0,none⟩) (n+m) (grownCap w (n+m) c (ρ.t 9))) (w.drew.alloc (.cells ((cs++vs).toArray++Builtin.zeroCells #[zr] (grownCap w (n+m) c (ρ.t 9) - (n+m))) (ρ.t 9))):=fun ty=>by
  have h:=run_append_grow_src w (ρ.t 24) (ρ.t 24) ty (ρ.t 9) i0 _ L.t24 hi0 hz0 base n c cs hold _ m vs hsrc hroom (by omega) (by rw [hzb];exact growslice_fits hroom hbig)
  rw [L.cz] at h
  first | exact h | (rw [h];simp)
 obtain ⟨_,_,FG⟩:=L.f22
 go_enter FG,Body2.n22_ntmps ρ
 cases base with
 | none=>
   have h0:=hnil rfl
   subst h0
   go_wp2_with (at_builtin;refine Lib.wpList_append_run _ rfl _ _ _ _ rfl _ _ rfl rfl _ _ (hrun _) ?_)
   go_ret
   exact ⟨rfl,rfl⟩
 | some a=>
   obtain ⟨ab,ao,asp⟩:=a
   go_wp2_with (at_builtin;refine Lib.wpList_append_run _ rfl _ _ _ _ rfl _ _ rfl rfl _ _ (hrun _) ?_)
   all_goals (go_ret;exact ⟨rfl,rfl⟩)
theorem ins_grow (L:InsL P ρ zr) (b off n c i vb voff m vc:Nat) (cs vs:List Value) (w:World) (hi:i < n) (hm:0 < m) (hnc:n<=c) (hroom:c < n+m) (hbig:(n+m)*24<=140737488355328)
 (hcl:cs.length=n) (hvl:vs.length=m)
 (hcs:∀ j v,cs[j]? = some v->w.cell? ⟨b,off+j,none⟩=some v)
 (hvs:∀ j v,vs[j]? = some v->w.cell? ⟨vb,voff+j,none⟩=some v) (h1c:∀ v ∈ cs,v.oneCell'=true) (h1v:∀ v ∈ vs,v.oneCell'=true) :
 Calls P (ρ.f 22) #[.slice (some ⟨b,off,none⟩) n c,.int .i64 i,.slice (some ⟨vb,voff,none⟩) m vc] w fun e w'=>
  e = .returned (.slice (some ⟨w.heap.size,0,none⟩) (n+m) (grownCap w (n+m) c (ρ.t 9))) /\
  w'=(((w.alloc (.cells ((cs.take i).toArray++Builtin.zeroCells #[zr] (n+m - i)++Builtin.zeroCells #[zr] (grownCap w (n+m) c (ρ.t 9) - (n+m))) (ρ.t 9))).drew.setCells w.heap.size i vs).drew).setCells w.heap.size (i+m) (cs.drop i):=by
 have t0:=L.t0;have a0:=L.a0;have z0:=L.z0;have v0:=L.v0;have t3:=L.t3;have a3:=L.a3;have z3:=L.z3;have v3:=L.v3;have t4:=L.t4;have a4:=L.a4;have z4:=L.z4;have v4:=L.v4;have a9:=L.a9;have z9:=L.z9;have v9:=L.v9;have t24:=L.t24;have a24:=L.a24;have z24:=L.z24;have v24:=L.v24
 have u0:=run_underlying L.t0;have u3:=run_underlying L.t3;have u4:=run_underlying L.t4;have u24:=run_underlying L.t24
 have mixed:=L.mixed
 obtain ⟨i0,hi0,hz0,hzs,hzb⟩:=info_parts L.i9
 have hz1:¬ ((m:Int)=0):=by omega
 have hz2:¬ ((i:Int)=(n:Int)):=by omega
 have hz3:(c:Int) < (n:Int)+(m:Int):=by omega
 have hsz:(P.info? (ρ.t 9)).map (·.size)=some 1:=by rw [hi0];simp [hzs]
 have hbw:b < w.heap.size:=block_lt_of_cell (hcs 0 _ (aAf (by omega)))
 have hvw:vb < w.heap.size:=block_lt_of_cell (hvs 0 _ (aAf (by omega)))
 have hkk:(n:Int)+(m:Int) - (i:Int)=((n+m - i:Nat):Int):=by omega
 have hik:i+(n+m - i)=n+m:=by omega
 have hold:(Builtin.firstCells i0.size i (.slice (some ⟨b,off,none⟩) i c)).run P w.drew = .ok (cs.take i).toArray w.drew:=by
  rw [hzs]
  exact run_firstCells_some w.drew 1 i ⟨b,off,none⟩ i c (cs.take i) (by rw [aAl];omega) (fun j v hj=>by
   rw [Addr.add_lit]
   rw [aA0] at hj
   split at hj
   . exact hcs j v hj
   . cases hj)
 have hrz:∀ ty,(Builtin.append_ #[(ρ.t 24),(ρ.t 3)] ty #[.slice (some ⟨b,off,none⟩) i c,.int .i64 ((n:Int)+(m:Int) - (i:Int))]).run P w =
  .ok (.slice (some ⟨w.heap.size,0,none⟩) (n+m) (grownCap w (n+m) c (ρ.t 9))) (w.drew.alloc (.cells ((cs.take i).toArray++Builtin.zeroCells #[zr] (n+m - i)++Builtin.zeroCells #[zr] (grownCap w (n+m) c (ρ.t 9) - (n+m))) (ρ.t 9))):=fun ty=>by
  have h:=Lib.run_append_grow_zeros w (ρ.t 24) (ρ.t 3) ty (ρ.t 9) i0 _ .i64 .i64 L.t24 L.t3 hi0 hz0 (some ⟨b,off,none⟩) i c (cs.take i) hold (n+m - i) (by omega) (by omega) (by omega) (by omega) (by rw [hzb];omega) (by rw [hzb,hik];exact growslice_fits hroom hbig)
  rw [hik,L.cz] at h
  rw [hkk]
  exact h
 obtain ⟨G,hG⟩:∃ G,G=grownCap w (n+m) c (ρ.t 9):=⟨_,rfl⟩
 obtain ⟨ROW,hROW⟩:∃ ROW:Array Value,ROW=(cs.take i).toArray++Builtin.zeroCells #[zr] (n+m - i)++Builtin.zeroCells #[zr] (G - (n+m)):=⟨_,rfl⟩
 rw [<- hG] at hrz ⊢
 rw [<- hROW] at hrz ⊢
 have hRl:n+m<=ROW.size:=by
  rw [hROW]
  simp [Builtin.zeroCells,Value.cells]
  omega
 obtain ⟨W1,hW1⟩:∃ W1,W1=w.drew.alloc (.cells ROW (ρ.t 9)):=⟨_,rfl⟩
 rw [<- hW1] at hrz
 have hN:∀ j,j < n+m->(W1.cell? ⟨w.heap.size,j,none⟩).isSome=true:=fun j hj=>by
  rw [hW1,World.cell?_alloc_at (w:=w.drew) ROW _ w.heap.size j rfl,Array.getElem?_eq_getElem (by omega)];rfl
 have hNf:∀ j,W1.frozen? ⟨w.heap.size,j,none⟩=false:=fun j=>by rw [hW1];exact World.frozen?_alloc_at (w:=w.drew) ROW _ w.heap.size j rfl
 have hOb:∀ j v,w.cell? ⟨b,j,none⟩=some v->W1.cell? ⟨b,j,none⟩=some v:=fun j v h=>by rw [hW1,World.cell?_alloc_past (w:=w.drew) _ b j hbw];exact h
 have hOv:∀ j v,w.cell? ⟨vb,j,none⟩=some v->W1.cell? ⟨vb,j,none⟩=some v:=fun j v h=>by rw [hW1,World.cell?_alloc_past (w:=w.drew) _ vb j hvw];exact h
 have hcpA:∀ (W:World),(∀ x,W.cell? x=W1.cell? x)->(∀ x,W.frozen? x=W1.frozen? x) -> ∀ ty dc,(Builtin.copy_ #[(ρ.t 24),(ρ.t 24)] ty #[.slice (some ⟨w.heap.size,i,none⟩) (n+m - i) dc,.slice (some ⟨vb,voff,none⟩) m vc]).run P W = .ok (goInt vs.length) (W.setCells w.heap.size i vs):=fun W hWc hWf ty dc=>
  run_copy_cells W _ _ ty (ρ.t 9) w.heap.size i (n+m - i) dc ⟨vb,voff,none⟩ m vc vs L.t24 hsz (by rw [hvl];simp only [Nat.min_def];split <;> omega)
   (fun j v hj=>by rw [Addr.add_lit,hWc];exact hOv _ v (hvs j v hj))
   (fun j hj=>by rw [hWc];exact hN _ (by omega)) (fun j hj=>by rw [hWf];exact hNf _) h1v
 have hGn:n+m<=G:=by rw [hG];exact grownCap_ge w _ _ _
 have hG63:G<=9223372036854775807:=by
  have:=grownCap_le_maxLen w (n+m) c (ρ.t 9) (by unfold maxLen;omega)
  rw [<- hG] at this
  unfold maxLen at this
  omega
 have hGi:¬ (G=i):=by omega
 have hGim:¬ (G=i+m):=by omega
 have hci:¬ (c=i):=by omega
 have hbN:b≠w.heap.size:=by omega
 have hdl:(cs.drop i).length=n - i:=by rw [aAq,hcl]
 have hcpB:∀ (W:World),(∀ x,W.cell? x=(W1.setCells w.heap.size i vs).cell? x)->(∀ x,W.frozen? x=(W1.setCells w.heap.size i vs).frozen? x) -> ∀ ty dc sc,(Builtin.copy_ #[(ρ.t 24),(ρ.t 24)] ty #[.slice (some ⟨w.heap.size,i+m,none⟩) (n+m - (i+m)) dc,.slice (some ⟨b,off+i,none⟩) (n - i) sc]).run P W = .ok (goInt (cs.drop i).length) (W.setCells w.heap.size (i+m) (cs.drop i)):=fun W hWc hWf ty dc sc=>
  run_copy_cells W _ _ ty (ρ.t 9) w.heap.size (i+m) (n+m - (i+m)) dc ⟨b,off+i,none⟩ (n - i) sc (cs.drop i) L.t24 hsz (by rw [hdl];simp only [Nat.min_def];split <;> omega)
   (fun j v hj=>by
     rw [Addr.add_lit,hWc,World.cell?_setCells_out _ _ _ _ _ (fun h _=>absurd h hbN),Nat.add_assoc]
     exact hOb _ v (hcs (i+j) v (by rwa [aA1] at hj)))
   (fun j hj=>by rw [hWc];exact isSome_setCells _ _ _ _ (fun t ht=>hN _ (by omega)) _ (hN _ (by omega)))
   (fun j hj=>by rw [hWf,World.frozen?_setCells];exact hNf _) (fun v hv=>h1c v (aA7 hv))
 subst hW1
 have hE1:∀ x,((w.alloc (.cells ROW (ρ.t 9))).drew).cell? x=(w.drew.alloc (.cells ROW (ρ.t 9))).cell? x:=fun x=>rfl
 have hE2:∀ x,((w.alloc (.cells ROW (ρ.t 9))).drew).frozen? x=(w.drew.alloc (.cells ROW (ρ.t 9))).frozen? x:=fun x=>rfl
 have hF1:∀ x,(((w.alloc (.cells ROW (ρ.t 9))).drew.setCells w.heap.size i vs).drew).cell? x=((w.drew.alloc (.cells ROW (ρ.t 9))).setCells w.heap.size i vs).cell? x:=fun x=>rfl
 have hF2:∀ x,(((w.alloc (.cells ROW (ρ.t 9))).drew.setCells w.heap.size i vs).drew).frozen? x=((w.drew.alloc (.cells ROW (ρ.t 9))).setCells w.heap.size i vs).frozen? x:=fun x=>rfl
 have hw1:IntKind.i64.wrap ((i:Int)+(m:Int))=(i:Int)+(m:Int):=by rw [IntKind.wrap_i64];omega
 have hb1:(0:Int)<=(i:Int)+(m:Int):=by omega
 have hin:i<=n:=by omega
 have htn:((i:Int)+(m:Int)).toNat=i+m:=by omega
 have hb3:(i:Int)<=(n:Int):=by omega
 clear hkk hik hold hROW hG hRl
 obtain ⟨_,_,FG⟩:=L.f22
 go_enter FG,Body2.n22_ntmps ρ
 go_wp2_with (first
  | (at_builtin;refine Lib.wpList_append_run _ rfl _ _ _ _ rfl _ _ rfl rfl _ _ (hrz _) ?_)
  | (at_builtin;refine wpList_copy_runI _ rfl _ _ (ρ.t 24) (ρ.t 24) rfl _ _ rfl rfl (hcpA _ hE1 hE2 _ _) ?_)
  | (at_builtin;refine wpList_copy_runI _ rfl _ _ (ρ.t 24) (ρ.t 24) rfl _ _ rfl rfl (hcpB _ (fun _=>rfl) (fun _=>rfl) _ _ _) ?_))
 go_region_law_o (refine step_copy_runI rfl _ _ (ρ.t 24) (ρ.t 24) rfl (.slice (some ⟨w.heap.size,i+m,none⟩) (n+m - (i+m)) (G - (i+m))) (.slice (some ⟨b,off+i,none⟩) (n - i) (c - i)) (by simp [Act.eval,Act.put]) (by simp [Act.eval,Act.put]) (hcpB _ hF1 hF2 (ρ.t 3) (G - (i+m)) (c - i)) ?_)
 go_wp2
 go_ret
 exact ⟨rfl,rfl⟩
end Go.Proofs.Ve
namespace Go.Proofs.Ve
open Go Go.Proofs Go.Shelf Go.RowKit Go.Lib
theorem overlaps_own {P:Program} (w:World) (tS tR e:TypeId) (ht:P.underlying tS=some (.slice e)) (size:Nat) (hz:∀ w,(Go.sizeOf e).run P w = .ok size w) (a b:Addr) (la ca lb cb:Nat) (hne:a.block≠b.block) (tA tB:TypeId) (kA kB:Nat)
 (hsa:w.shape? a.block=some (tA,kA)) (hsb:w.shape? b.block=some (tB,kB)) (hkA:kA≠0) (hfb:w.frozen? b=false) (hfe:w.frozen? { block:=b.block,off:=kB }=false) :
 (Extern.SlicesOverlaps.overlaps #[tS,tS] #[tR] #[.slice (some a) la ca,.slice (some b) lb cb]).run P w = .ok (.bool false) w:=by
 have h1:(a.block != b.block)=true:=by simpa using hne
 have h2:(a.block==b.block)=false:=by simpa using hne
 have key:∀ K:TypeDesc->Sem Value,((underlying tS).bind K).run P w=(K (.slice e)).run P w:=fun K=>by
  show Sem.run P (underlying tS >>= K) w=_
  rw [Sem.run_bind,run_underlying ht];rfl
 have hb:∀ K:Nat->Sem Value,((Go.sizeOf e).bind K).run P w=(K size).run P w:=fun K=>by
  show Sem.run P (Go.sizeOf e >>= K) w=_
  rw [Sem.run_bind,hz];rfl
 refine (key _).trans ((hb _).trans ?_)
 by_cases h0:la=0\/lb=0\/size=0
 . simp [h0]
 . cases kA with
   | zero=>exact absurd rfl hkA
   | succ kA=>
     cases hfa:w.frozen? a <;> cases hfa':w.frozen? { block:=a.block,off:=kA+1 } <;>
      simp [h0,h1,h2,frozen,noView,viewAt,mayBeOne,stringish,shape,Sem.run,hsa,hsb,hfa,hfb,hfe,hfa']
theorem setCells_block {g:Nat} {e:TypeId} {fz:Nat × Nat}:∀ (vs:List Value) (o:Nat) (w:World) (cur:Array Value),w.heap[g]? = some (.cells cur e fz) ->
 ∃ cur',(w.setCells g o vs).heap[g]? = some (.cells cur' e fz)/\cur'.size=cur.size /\ ∀ j,cur'[j]? = if o<=j/\j < o+vs.length/\j < cur.size then vs[j - o]? else cur[j]?
 | [],o,w,cur,h=>⟨cur,h,rfl,fun j=>by rw [if_neg (by simp;omega)]⟩
 | v::vs,o,w,cur,h=>by
   have h':(w.setCell ⟨g,o,none⟩ v).heap[g]? = some (.cells (cur.setIfInBounds o v) e fz):=by
    show (w.heap.modify g _)[g]? = _
    rw [Array.getElem?_modify,if_pos rfl,h];rfl
   obtain ⟨cur',a1,a2,a3⟩:=setCells_block vs (o+1) _ _ h'
   refine ⟨cur',a1,by rw [a2];simp,fun j=>?_⟩
   rw [a3 j]
   simp only [Array.size_setIfInBounds,aAn]
   by_cases hj:o+1<=j/\j < o+1+vs.length/\j < cur.size
   . rw [if_pos hj,if_pos (by omega),show j - o=(j - (o+1))+1 by omega];rfl
   . rw [if_neg hj,Array.getElem?_setIfInBounds]
     by_cases hjo:o=j
     . subst hjo
       rw [if_pos rfl]
       by_cases hs:o < cur.size
       . rw [if_pos hs,if_pos (by omega),aB2];rfl
       . rw [if_neg hs,if_neg (by omega)];simp [Nat.le_of_not_lt hs]
     . rw [if_neg hjo,if_neg (by omega)]
theorem setCells_rest (b:Nat):∀ (vs:List Value) (o:Nat) (W:World),(W.setCells b o vs).os=W.os/\(W.setCells b o vs).tape=W.tape/\(W.setCells b o vs).output=W.output/\(W.setCells b o vs).heap.size=W.heap.size /\ ∀ k,k≠b->(W.setCells b o vs).heap[k]? = W.heap[k]?
 | [],o,W=>⟨rfl,rfl,rfl,rfl,fun _ _=>rfl⟩
 | v::vs,o,W=>by
   obtain ⟨h1,h2,h3,h4,h5⟩:=setCells_rest b vs (o+1) (W.setCell ⟨b,o,none⟩ v)
   refine ⟨h1,h2,h3,h4.trans (by unfold World.setCell;simp),fun k hk=>(h5 k hk).trans ?_⟩
   show (W.heap.modify b _)[k]? = _
   rw [Array.getElem?_modify,if_neg (fun e=>hk e.symm)]
variable {P:Program} {ρ:Ren} {zr:Value}
theorem frozen_none {w:World} {g:Nat} {cur:Array Value} {e:TypeId} (h:w.heap[g]? = some (.cells cur e (0,0))) (o:Nat):w.frozen? ⟨g,o,none⟩=false:=by
 unfold World.frozen?
 show (match w.heap[g]? with | some (.cells _ _ (lo,hi))=>decide (lo<=o)&&decide (o < hi) | _=>false)=false
 rw [h];simp
theorem cell_at {w:World} {g:Nat} {cur:Array Value} {e:TypeId} {fz:Nat × Nat} (h:w.heap[g]? = some (.cells cur e fz)) (o:Nat):w.cell? ⟨g,o,none⟩=cur[o]?:=by
 unfold World.cell?
 show (match w.heap[g]? with | some (.cells c _ _)=>if (none:Option Unit).isSome then none else c[o]? | _=>none)=_
 rw [h];rfl
theorem ins_get {α:Type} {xs news:List α} {i m:Nat} (hi:i<=xs.length) (hm:news.length=m) (j:Nat):(xs.take i++news++xs.drop i)[j]? = if j < i then xs[j]? else if j < i+m then news[j - i]? else xs[j - m]?:=by
 have hl:(xs.take i).length=i:=by rw [aAl];omega
 by_cases h1:j < i
 . rw [if_pos h1,aBb,aAk (by omega),aA0,if_pos h1]
 . rw [if_neg h1]
   by_cases h2:j < i+m
   . rw [if_pos h2,aAk (by simp [hl];omega),aAj (by omega),hl]
   . rw [if_neg h2,aAj (by simp [hl];omega),aA1]
     congr 1
     simp [hl];omega
theorem zeros_size (z:Value) (k:Nat):(Builtin.zeroCells #[z] k).size=k:=by
 unfold Builtin.zeroCells
 induction k with
 | zero=>simp
 | succ k ih=>simp_all [List.replicate_succ]
theorem ins_own (L:InsL P ρ zr) (v:Value) (n i m:Nat) (xs news:List Value) (vb voff vc:Nat) (w:World) (hown:w.ownsRow 0 (ρ.t 9) 1 v n xs) (hi:i<=n) (hm:0 < m) (hnl:news.length=m) (hbig:(n+m)*24<=140737488355328)
 (hx1:∀ u ∈ xs,u.oneCell'=true) (hn1:∀ u ∈ news,u.oneCell'=true) (hvs:∀ j u,news[j]? = some u->w.cell? ⟨vb,voff+j,none⟩=some u) (hne:v.ownBlock≠some vb) :
 Calls P (ρ.f 22) #[v,.int .i64 i,.slice (some ⟨vb,voff,none⟩) m vc] w fun e w'=>∃ v',e = .returned v'/\w'.ownsRow 0 (ρ.t 9) 1 v' (n+m) (xs.take i++news++xs.drop i)/\w.grownBy w' v.ownBlock/\(v'.ownBlock=v.ownBlock\/v'.ownBlock=some w.heap.size):=by
 have hxl:xs.length=n:=by have:=hown.1;omega
 have hmax:maxLen<=9223372036854775807:=by unfold maxLen;decide
 have hlen:(xs.take i++news++xs.drop i).length=(n+m)*1:=by simp [hxl,hnl];omega
 obtain ⟨tA,kA,hsa,hkA⟩:∃ tA kA,w.shape? vb=some (tA,kA)/\kA≠0:=by
  have h0:(w.cell? ⟨vb,voff+0,none⟩).isSome=true:=by rw [hvs 0 _ (aAf (by omega))];rfl
  unfold World.cell? at h0
  unfold World.shape?
  simp only at h0
  cases hh:w.heap[vb]? with
  | none=>rw [hh] at h0;cases h0
  | some o=>
    rw [hh] at h0
    cases o with
    | cells c t fz=>
      refine ⟨t,c.size,rfl,fun h=>?_⟩
      have:c = #[]:=Array.eq_empty_of_size_eq_zero h
      subst this
      simp at h0
    | _=>cases h0
 have new:∀ (cur:Array Value) (cap:Nat) (w':World),w'.heap=(w.alloc (.cells cur (ρ.t 9))).heap->w'.os=w.os->w'.tape=w.tape->w'.output=w.output->n+m<=cap->cap<=maxLen->cur.size=cap->cur.toList.take (n+m)=xs.take i++news++xs.drop i ->
  ∃ v',Ending.returned (.slice (some ⟨w.heap.size,0,none⟩) (n+m) cap) = .returned v'/\w'.ownsRow 0 (ρ.t 9) 1 v' (n+m) (xs.take i++news++xs.drop i)/\w.grownBy w' v.ownBlock/\(v'.ownBlock=v.ownBlock\/v'.ownBlock=some w.heap.size):=fun cur cap w' h1 h2 h3 h4 h5 h6 h7 h8=>by
  refine ⟨_,rfl,⟨hlen,.inr ⟨w.heap.size,cap,cur,rfl,aBn _,by rw [h1];exact heap_alloc_new w _,h5,h6,by rw [h7];omega,by rw [Nat.mul_one];exact h8⟩⟩,⟨h2,h3,h4,?_,fun k hk _=>?_⟩,.inr rfl⟩
  . rw [h1];unfold World.alloc;simp
  . rw [h1];unfold World.alloc;simp [Array.getElem?_push,Nat.ne_of_lt hk]
 rcases hown.2 with ⟨rfl,rfl⟩ | ⟨g,cap,cur,rfl,_,hg,h1,h2,h3,h4⟩
 . obtain rfl:xs = []:=List.eq_nil_of_length_eq_zero hxl
   obtain rfl:i=0:=by omega
   refine (ins_end_grow L none 0 0 vb voff m vc [] news w hm (aBo _) (by omega) hbig rfl hnl (fun _=>rfl) (fun a h=>by cases h) hvs hn1).mono ?_
   rintro e w' ⟨rfl,rfl⟩
   have hge:=grownCap_ge w (0+m) 0 (ρ.t 9)
   refine new _ _ _ rfl rfl rfl rfl hge (grownCap_le_maxLen w (0+m) 0 _ (by unfold maxLen;omega)) ?_ ?_
   . rw [Array.size_append,zeros_size,List.size_toArray,List.nil_append,hnl];omega
   . simp [hnl]
 . have hcur:∀ j,j < n->cur[j]? = xs[j]?:=fun j hj=>by
    rw [<- h4,aA0,if_pos (by omega),aBv]
   have hsz:cur.size=cap:=by omega
   have hvb:vb≠g:=fun h=>hne (by rw [h];rfl)
   have hfz:∀ o,w.frozen? ⟨g,o,none⟩=false:=frozen_none hg
   have hcell:∀ o,w.cell? ⟨g,o,none⟩=cur[o]?:=cell_at hg
   have hsome:∀ o,o < cap->(w.cell? ⟨g,o,none⟩).isSome=true:=fun o ho=>by rw [hcell,Array.getElem?_eq_getElem (by omega)];rfl
   have hcs:∀ j u,xs[j]? = some u->w.cell? ⟨g,0+j,none⟩=some u:=fun j u hu=>by
    have:=(aAe.1 hu).1
    rw [Nat.zero_add,hcell,hcur j (by omega)];exact hu
   have h63:cap<=9223372036854775807:=aBp h2 hmax
   have inp:∀ (w':World) (cur':Array Value),w'.heap[g]? = some (.cells cur' (ρ.t 9) (0,0))->cur'.size=cap->(∀ k,k≠g->w'.heap[k]? = w.heap[k]?)->w'.heap.size=w.heap.size->w'.os=w.os->w'.tape=w.tape->w'.output=w.output->n+m<=cap ->
    (∀ j,j < n+m->cur'[j]? = (xs.take i++news++xs.drop i)[j]?) ->
    ∃ v',Ending.returned (.slice (some ⟨g,0,none⟩) (n+m) cap) = .returned v'/\w'.ownsRow 0 (ρ.t 9) 1 v' (n+m) (xs.take i++news++xs.drop i)/\w.grownBy w' (Value.slice (some ⟨g,0,none⟩) n cap).ownBlock/\(v'.ownBlock=(Value.slice (some ⟨g,0,none⟩) n cap).ownBlock\/v'.ownBlock=some w.heap.size):=fun w' cur' a1 a2 a3 a4 a5 a6 a7 a8 a9=>by
    refine ⟨_,rfl,⟨hlen,.inr ⟨g,cap,cur',rfl,aBn _,a1,a8,h2,by omega,?_⟩⟩,⟨a5,a6,a7,Nat.le_of_eq a4.symm,fun k hk hne=>a3 k (fun e=>hne (by rw [e];rfl))⟩,.inl rfl⟩
    apply List.ext_getElem?
    intro j
    rw [aA0,Nat.mul_one]
    by_cases hj:j < n+m
    . rw [if_pos hj,aBv];exact a9 j hj
    . rw [if_neg hj,List.getElem?_eq_none (by omega)]
   have osW:∀ (W:World) (b o:Nat) (vs:List Value),(W.setCells b o vs).os=W.os/\(W.setCells b o vs).tape=W.tape/\(W.setCells b o vs).output=W.output/\(W.setCells b o vs).heap.size=W.heap.size /\ ∀ k,k≠b->(W.setCells b o vs).heap[k]? = W.heap[k]?:=fun W b o vs=>setCells_rest b vs o W
   by_cases hin:i=n
   . subst hin
     by_cases hroom:i+m<=cap
     . refine (ins_end_room L g 0 i cap vb voff m vc news w hm hroom h63 hnl (fun j hj=>hsome _ (by omega)) (fun j hj=>hfz _) hvs hn1).mono ?_
       rintro e w' ⟨rfl,rfl⟩
       obtain ⟨cur',c1,c2,c3⟩:=setCells_block news (0+i) w cur hg
       obtain ⟨o1,o2,o3,o4,o5⟩:=osW w g (0+i) news
       refine inp _ cur' c1 (by omega) o5 o4 o1 o2 o3 hroom fun j hj=>?_
       rw [c3 j,ins_get (by omega) hnl]
       by_cases hji:j < i
       . rw [if_neg (by omega),if_pos hji];exact hcur j hji
       . rw [if_pos (by omega),if_neg hji,if_pos (by omega),Nat.zero_add]
     . refine (ins_end_grow L (some ⟨g,0,none⟩) i cap vb voff m vc xs news w hm h1 (by omega) hbig hxl hnl (fun h=>by cases h) (fun a ha j u hu=>by cases ha;rw [Addr.add_lit];exact hcs j u hu) hvs hn1).mono ?_
       rintro e w' ⟨rfl,rfl⟩
       have hge:=grownCap_ge w (i+m) cap (ρ.t 9)
       refine new _ _ _ rfl rfl rfl rfl hge (grownCap_le_maxLen w (i+m) cap _ (by unfold maxLen;omega)) ?_ ?_
       . rw [Array.size_append,zeros_size];simp [hnl,hxl];omega
       . rw [aAt (Nat.le_of_eq hxl),aAz (Nat.le_of_eq hxl),List.append_nil,Array.toList_append]
         rw [List.take_append_of_le_length (by simp [hxl,hnl])]
         exact aAt (by simp [hxl,hnl])
   . have hlt:i < n:=by omega
     by_cases hroom:n+m<=cap
     . refine (ins_shift L g 0 n cap i vb voff m vc xs news w hlt hm hroom h63 hvb hxl hnl hcs (fun j hj=>by rw [Nat.zero_add];exact hsome _ (by omega)) (fun j hj=>hfz _) hvs hx1 hn1 tA (ρ.t 9) kA cap hsa (by unfold World.shape?;rw [hg];show some (ρ.t 9,cur.size)=_;rw [hsz]) hkA hfz).mono ?_
       rintro e w' ⟨rfl,rfl⟩
       obtain ⟨cur',c1,c2,c3⟩:=setCells_block (xs.drop i) (0+(i+m)) w.drew cur hg
       obtain ⟨cur2,d1,d2,d3⟩:=setCells_block news (0+i) _ cur' c1
       obtain ⟨o1,o2,o3,o4,o5⟩:=osW w.drew g (0+(i+m)) (xs.drop i)
       obtain ⟨q1,q2,q3,q4,q5⟩:=osW (w.drew.setCells g (0+(i+m)) (xs.drop i)) g (0+i) news
       refine inp _ cur2 d1 (by omega) (fun k hk=>(q5 k hk).trans (o5 k hk)) (q4.trans o4) (q1.trans o1) (q2.trans o2) (q3.trans o3) hroom fun j hj=>?_
       rw [d3 j,ins_get (by omega) hnl]
       by_cases hji:j < i
       . rw [if_neg (by omega),if_pos hji,c3 j,if_neg (by omega)];exact hcur j (by omega)
       . rw [if_neg hji]
         by_cases hjm:j < i+m
         . rw [if_pos (by omega),if_pos hjm,Nat.zero_add]
         . rw [if_neg (by omega),if_neg hjm,c3 j,if_pos (by rw [aAq];omega),aA1]
           congr 1;omega
     . refine (ins_grow L g 0 n cap i vb voff m vc xs news w hlt hm h1 (by omega) hbig hxl hnl hcs hvs hx1 hn1).mono ?_
       rintro e w' ⟨rfl,rfl⟩
       have hge:=grownCap_ge w (n+m) cap (ρ.t 9)
       have hgm:=grownCap_le_maxLen w (n+m) cap (ρ.t 9) (by unfold maxLen;omega)
       generalize grownCap w (n+m) cap (ρ.t 9)=G at hge hgm
       generalize hROW:(xs.take i).toArray++Builtin.zeroCells #[zr] (n+m - i)++Builtin.zeroCells #[zr] (G - (n+m))=ROW
       have hR:ROW.size=G:=by rw [<- hROW,Array.size_append,Array.size_append,zeros_size,zeros_size];simp;omega
       have hRi:∀ j,j < i->ROW[j]? = xs[j]?:=fun j hj=>by
        rw [<- hROW,Array.getElem?_append_left (by simp;omega),Array.getElem?_append_left (by simp;omega)]
        simp [hj]
       have hW:((w.alloc (.cells ROW (ρ.t 9))).drew).heap[w.heap.size]? = some (.cells ROW (ρ.t 9) (0,0)):=heap_alloc_new w _
       obtain ⟨cur',c1,c2,c3⟩:=setCells_block news i _ ROW hW
       obtain ⟨cur2,d1,d2,d3⟩:=setCells_block (xs.drop i) (i+m) ((((w.alloc (.cells ROW (ρ.t 9))).drew).setCells w.heap.size i news).drew) cur' c1
       obtain ⟨o1,o2,o3,o4,o5⟩:=osW ((w.alloc (.cells ROW (ρ.t 9))).drew) w.heap.size i news
       obtain ⟨q1,q2,q3,q4,q5⟩:=osW ((((w.alloc (.cells ROW (ρ.t 9))).drew).setCells w.heap.size i news).drew) w.heap.size (i+m) (xs.drop i)
       refine ⟨_,rfl,⟨hlen,.inr ⟨w.heap.size,G,cur2,rfl,aBn _,d1,hge,hgm,by omega,?_⟩⟩,⟨q1.trans o1,q2.trans o2,q3.trans o3,?_,fun k hk _=>?_⟩,.inr rfl⟩
       . apply List.ext_getElem?
         intro j
         rw [aA0,Nat.mul_one]
         by_cases hj:j < n+m
         . rw [if_pos hj,aBv,d3 j,ins_get (by omega) hnl]
           by_cases hji:j < i
           . rw [if_neg (by omega),if_pos hji,c3 j,if_neg (by omega)];exact hRi j hji
           . rw [if_neg hji]
             by_cases hjm:j < i+m
             . rw [if_neg (by omega),if_pos hjm,c3 j,if_pos (by omega)]
             . rw [if_pos (by rw [aAq];omega),if_neg hjm,aA1]
               congr 1;omega
         . rw [if_neg hj,List.getElem?_eq_none (by omega)]
       . rw [q4]
         show _<=(((w.alloc (.cells ROW (ρ.t 9))).drew).setCells w.heap.size i news).heap.size
         rw [o4];unfold World.alloc World.drew;simp
       . rw [q5 k (by omega)]
         show (((w.alloc (.cells ROW (ρ.t 9))).drew).setCells w.heap.size i news).heap[k]? = _
         rw [o5 k (by omega)];unfold World.alloc World.drew;simp [Array.getElem?_push,Nat.ne_of_lt hk]
theorem d_place (n:Node) (k:List UInt8) (hl:n.keys.length < 1000000) (H:List (List Blk)):aD X H 38 [pNode n,.d (aL k)] (.tuple [.d (.int .i64 (bs n.keys k)),.d (.bool (bsIs n.keys k))]) []:=by
 have h:=fun H=>d_bs n.keys k hl H
 refine callEq_of_body aY rfl Try.func38 rfl ?_
 conv=>whnf
 repeat' (first
  | (refine And.intro (fun h_=>?_) (fun h_=>?_) <;> (conv=>whnf))
  | (refine ⟨_,_,h _,(by first | exact True.intro | exact And.intro rfl aZ),?_⟩;conv=>whnf)
  | (intro z_ hz_;conv=>whnf)
  | (refine ⟨[],rfl,?_,True.intro⟩;(conv=>whnf);(first | done | ((repeat' (first | exact True.intro | exact rfl | refine And.intro ?_ ?_));done)))
  | fail)
def vMay (x:Ver):Bool:=((decide (x.stamp>=1)&&decide (x.stamp<=2147483647))&&decide ((x.val.length:Int)<=32))&&(!x.gone||(x.val.length:Int)==0)
theorem d_vmay (x:Ver) (H:List (List Blk)):aD X H 56 [pVer x] (.d (.bool (vMay x))) []:=by
 unfold vMay
 refine callEq_of_body aY rfl Try.func56 rfl ?_
 conv=>whnf
 repeat' (first
  | (refine And.intro (fun h_=>?_) (fun h_=>?_) <;> (conv=>whnf))
  | (intro z_ hz_;conv=>whnf)
  | (refine ⟨[],rfl,?_,True.intro⟩;(conv=>whnf);(first | done | (simp_all only [refP,Bool.not_true,Bool.not_false,Bool.true_and,Bool.false_and,Bool.and_true,Bool.and_false,Bool.true_or,Bool.false_or,Bool.or_true,Bool.or_false,Bool.not_not,Bool.not_eq_true',Bool.not_eq_false',if_true,if_false,Bool.false_eq_true,Bool.true_eq_false,aAh];done)))
  | fail)
def vsF:Int->List Ver->Bool
 | _,[]=>true
 | a,x::xs=>if !vMay x||decide (x.stamp<=a) then false else vsF x.stamp xs
def vsOk (l:List Ver):Bool:=vsF 0 l
theorem vsF_at {a:Int} {l:List Ver} {k:Nat} {x:Ver} (h:l[k]? = some x):vsF a (l.drop k)=if !vMay x||decide (x.stamp<=a) then false else vsF x.stamp (l.drop (k+1)):=by
 obtain ⟨hk,rfl⟩:=aAe.1 h
 rw [aBg hk];rfl
theorem d_vscheck (l:List Ver) (hl:l.length < 1000000) (H:List (List Blk)):aD X H 44 [.d (encVs l)] (.d (.bool (vsOk l))) []:=by
 refine callEq_of_body aY rfl Try.func44 rfl ?_
 conv=>whnf
 refine bI (fun i:Nat × Int=>⟨[.any,.any,.any,.d (.int .i64 i.2),.any,.any,.d (encVs l),.d (.int .i64 (l.map cVer).length),.d (.int .i64 i.1),.any,.any,.any,.any,.any,.any,.any,.any,.any,.any,.any,.any,.any,.any,.any],[]⟩)
  (fun i=>i.1<=l.length/\vsOk l=vsF i.2 (l.drop i.1)) (fun i=>l.length - i.1) (0,0) [] ⟨aBn _,rfl⟩ ?_ ?_
 . refine And.intro rfl (And.intro ?_ ?_)
   all_goals (repeat' (first | exact True.intro | exact rfl | refine And.intro ?_ ?_))
 . rintro ⟨k,a⟩ ⟨hk,hI⟩
   dsimp only at hk hI
   conv=>whnf
   refine And.intro (fun h_=>?_) (fun h_=>?_)
   . conv=>whnf
     have hk':k < l.length:=by simpa using h_
     obtain ⟨x,hx⟩:∃ x,l[k]? = some x:=⟨_,aAf hk'⟩
     have hst:=vsF_at (a:=a) hx
     have yes:(!vMay x||decide (x.stamp<=a))=true->DV.bool false = .bool (vsOk l):=fun h=>by rw [hI,hst,if_pos h]
     have no:(!vMay x||decide (x.stamp<=a))=false->vsOk l=vsF x.stamp (l.drop (k+1)):=fun h=>by rw [hI,hst,if_neg (by simp [h])]
     have hm:=fun H=>d_vmay x H
     generalize vMay x=b at yes no hm
     refine ⟨by omega,cVer x,by show (l.map cVer)[((k:Nat):Int).toNat]? = _;rw [aBi,aAi,hx];rfl,rfl,?_⟩
     conv=>whnf
     refine ⟨_,_,hm _,True.intro,?_⟩
     conv=>whnf
     have nxt:(!b||decide (x.stamp<=a))=false->((k+1,x.stamp).1<=l.length/\vsOk l=vsF (k+1,x.stamp).2 (l.drop (k+1,x.stamp).1)):=fun h=>⟨hk',no h⟩
     repeat' (first
      | (refine And.intro (fun h3=>?_) (fun h3=>?_) <;> (conv=>whnf))
      | (refine ⟨[],rfl,yes (by simp_all),True.intro⟩;done)
      | (intro z hz;conv=>whnf
         rw [aJ (by omega) (by omega)] at hz
         subst hz
         refine ⟨(k+1,x.stamp),[],nxt (by simp_all),by show l.length - (k+1) < l.length - k;omega,And.intro rfl (And.intro ?_ ?_)⟩
         all_goals (repeat' (first | exact True.intro | exact rfl | refine And.intro ?_ ?_))
         done)
      | fail)
   . conv=>whnf
     have hk':k=l.length:=by simp at h_;omega
     refine ⟨[],rfl,?_,True.intro⟩
     show DV.bool true = .bool (vsOk l)
     rw [hI,hk',List.drop_length];rfl
def nOk:Nat->Node->Prop
 | 0,_=>False
 | d+1,n=>n.keys.length < 100000/\n.chains.length < 100000/\n.kids.length < 100000/\(∀ x ∈ n.keys,x.length<=1000000)/\(∀ y ∈ n.chains,y.length < 100000 /\ ∀ v ∈ y,v.val.length<=1000000) /\ ∀ x ∈ n.kids,nOk d x
theorem nOk_pos {d:Nat} {n:Node} (h:nOk d n):∃ e,d=e+1:=by
 cases d with
 | zero=>exact h.elim
 | succ e=>exact ⟨e,rfl⟩
theorem nOk_keys {d:Nat} {n:Node} (h:nOk d n):n.keys.length < 100000:=by obtain ⟨e,rfl⟩:=nOk_pos h;exact h.1
theorem nOk_chains {d:Nat} {n:Node} (h:nOk d n):n.chains.length < 100000:=by obtain ⟨e,rfl⟩:=nOk_pos h;exact h.2.1
theorem nOk_kids {d:Nat} {n:Node} (h:nOk d n):n.kids.length < 100000:=by obtain ⟨e,rfl⟩:=nOk_pos h;exact h.2.2.1
theorem nOk_key {d:Nat} {n:Node} (h:nOk d n):∀ x ∈ n.keys,x.length<=1000000:=by obtain ⟨e,rfl⟩:=nOk_pos h;exact h.2.2.2.1
theorem nOk_chain {d:Nat} {n:Node} (h:nOk d n):∀ y ∈ n.chains,y.length < 100000 /\ ∀ v ∈ y,v.val.length<=1000000:=by obtain ⟨e,rfl⟩:=nOk_pos h;exact h.2.2.2.2.1
theorem nOk_kid {d:Nat} {n:Node} (h:nOk (d+1) n):∀ x ∈ n.kids,nOk d x:=h.2.2.2.2.2
mutual
def deepN:Node->Int->Int
 | .mk k c ns,least=>
   if (c.length:Int) != k.length||(decide ((k.length:Int) > 3)||decide ((k.length:Int) < least)) then 0
   else match deepNs ns with
    | []=>1
    | d::ds=>if (ns.length:Int) != k.length+1||(k.length:Int)==0 then 0 else if ds.any (fun x=>x != d) then 0 else if d==0 then 0 else d+1
def deepNs:List Node->List Int
 | []=>[]
 | n::ns=>deepN n 1::deepNs ns
end
theorem deepNs_eq:∀ ns,deepNs ns=ns.map (deepN · 1)
 | []=>by simp [deepNs]
 | n::ns=>by simp [deepNs,deepNs_eq ns]
theorem deepN_eq (n:Node) (least:Int):deepN n least=if (n.chains.length:Int) != n.keys.length||(decide ((n.keys.length:Int) > 3)||decide ((n.keys.length:Int) < least)) then 0
 else match n.kids.map (deepN · 1) with
  | []=>1
  | d::ds=>if (n.kids.length:Int) != n.keys.length+1||(n.keys.length:Int)==0 then 0 else if ds.any (fun x=>x != d) then 0 else if d==0 then 0 else d+1:=by
 cases n with
 | mk k c ns=>rw [deepN,deepNs_eq];rfl
theorem any_tk {α:Type} {p:α->Bool} {l:List α} {k:Nat} {x:α} (h:l[k]? = some x):(l.drop k).any p=(p x||(l.drop (k+1)).any p):=by
 have hk:=(aAe.1 h).1
 rw [aBg hk,(aAe.1 h).2,List.any_cons]
theorem deepN_le:∀ (d:Nat) (n:Node) (least:Int),nOk d n->0<=deepN n least/\deepN n least<=d
 | 0,n,least,h=>h.elim
 | d+1,n,least,h=>by
   have ih:=fun x hx=>deepN_le d x 1 (nOk_kid h x hx)
   rw [deepN_eq]
   split
   . omega
   . cases hk:n.kids with
     | nil=>simp only [List.map_nil];omega
     | cons x xs=>
       have:=ih x (by rw [hk];exact aAu ..)
       simp only [List.map_cons]
       split
       . omega
       . split
         . omega
         . split
           . omega
           . obtain ⟨h1,h2⟩:=this
             refine ⟨?_,?_⟩
             . show 0<=deepN x 1+1;omega
             . show deepN x 1+1<=((d+1:Nat):Int);omega
theorem d_deep:∀ (d:Nat) (n:Node) (least:Int) (H:List (List Blk)),d < 1000000->nOk d n->aD X H 42 [pNode n,.d (.int .i64 least)] (.d (.int .i64 (deepN n least))) []:=by
 intro m
 induction m with
 | zero=>intro n least H _ h;exact h.elim
 | succ m ih=>
   intro n least H hm hn
   have b1:=nOk_keys hn
   have b2:=nOk_chains hn
   have b3:=nOk_kids hn
   have hkid:∀ x ∈ n.kids,∀ H,aD X H 42 [pNode x,.d (.int .i64 1)] (.d (.int .i64 (deepN x 1))) []:=fun x hx H=>ih x 1 H (by omega) (nOk_kid hn x hx)
   have hleaf:=fun H=>d_leaf n H
   have heq:=deepN_eq n least
   generalize deepN n least=R at heq ⊢
   refine callEq_of_body aY rfl Try.func42 rfl ?_
   conv=>whnf
   have bad:((n.chains.length:Int) != n.keys.length||(decide ((n.keys.length:Int) > 3)||decide ((n.keys.length:Int) < least)))=true->DV.int .i64 0 = .int .i64 R:=fun h=>by rw [heq,if_pos h]
   repeat' (first
    | (refine And.intro (fun h3=>?_) (fun h3=>?_) <;> (conv=>whnf))
    | (refine ⟨[],rfl,bad (by simp_all),True.intro⟩;done)
    | fail)
   have ok1:((n.chains.length:Int) != n.keys.length||(decide ((n.keys.length:Int) > 3)||decide ((n.keys.length:Int) < least)))=false:=by simp_all
   rw [if_neg (by simp [ok1])] at heq
   refine ⟨_,_,hleaf _,True.intro,?_⟩
   conv=>whnf
   refine And.intro (fun q1=>?_) (fun q1=>?_) <;> (conv=>whnf)
   . have hk:n.kids = []:=by
      unfold leafN at q1
      simpa using q1
     rw [hk] at heq
     refine ⟨[],rfl,?_,True.intro⟩
     show DV.int .i64 1 = .int .i64 R
     rw [heq];rfl
   . obtain ⟨x0,xs,hk⟩:∃ x0 xs,n.kids=x0::xs:=by
      cases hk:n.kids with
      | nil=>unfold leafN at q1;rw [hk] at q1;cases q1
      | cons x0 xs=>exact ⟨x0,xs,rfl⟩
     have heq:R=if (n.kids.length:Int) != n.keys.length+1||(n.keys.length:Int)==0 then 0 else if (xs.map (deepN · 1)).any (fun x=>x != deepN x0 1) then 0 else if deepN x0 1==0 then 0 else deepN x0 1+1:=by
      rw [heq,hk];rfl
     intro z hz
     conv=>whnf
     rw [aJ (by omega) (by simp only [aAh];omega)] at hz
     subst hz
     have bad2:((n.kids.length:Int) != n.keys.length+1||(n.keys.length:Int)==0)=true->DV.int .i64 0 = .int .i64 R:=fun h=>by rw [heq,if_pos h]
     repeat' (first
      | (refine And.intro (fun h4=>?_) (fun h4=>?_) <;> (conv=>whnf))
      | (refine ⟨[],rfl,bad2 (by simp_all),True.intro⟩;done)
      | fail)
     have ok2:((n.kids.length:Int) != n.keys.length+1||(n.keys.length:Int)==0)=false:=by simp_all
     rw [if_neg (by simp [ok2])] at heq
     have hx0:=hkid x0 (by rw [hk];exact aAu ..)
     have hlen:n.kids.length=xs.length+1:=by rw [hk];rfl
     have hd0:=deepN_le m x0 1 (nOk_kid hn x0 (by rw [hk];exact aAu ..))
     refine ⟨by decide,[encKs x0.keys,encCs x0.chains,encNs x0.kids],by show (n.kids.map cNode)[0]? = _;rw [hk,List.map_cons,cNode_eq];rfl,rfl,?_⟩
     conv=>whnf
     refine ⟨_,_,hx0 _,True.intro,?_⟩
     conv=>whnf
     generalize deepN x0 1=d at heq hd0
     have len3:∀ y ∈ n.kids.map cNode,y.length=3:=fun y hy=>by simp only [aBc] at hy;obtain ⟨w,_,rfl⟩:=hy;rw [cNode_eq];rfl
     refine ⟨len3,by decide,by show (1:Int)<=((n.kids.map cNode).length:Int);rw [aAh];omega,?_⟩
     conv=>whnf
     have hdr:List.drop (1:Int).toNat (n.kids.map cNode)=xs.map cNode:=by rw [hk];rfl
     rw [hdr]
     refine bI (fun j:Nat=>⟨[.any,.any,.ptr 0 0 0,.any,.any,.d (.int .i64 d),.any,.any,.any,.any,.any,.any,.any,.any,.any,.any,.any,.any,.any,.any,.any,.any,.any,.any,.any,.any,.any,.any,.any,.any,.any,.any,.any,.any,.any,.any,.any,.any,.any,.any,.any,.any,.any,.any,.any,.any,.any,.any,.any,.any,.any,.d (.sl (xs.map cNode)),.d (.int .i64 (xs.map cNode).length),.d (.int .i64 j),.any,.any,.any,.any,.any,.any,.any,.any,.any,.any,.any,.any],[bNode n]⟩)
      (fun j=>j<=xs.length/\(xs.map (deepN · 1)).any (fun x=>x != d)=((xs.map (deepN · 1)).drop j).any (fun x=>x != d)) (fun j=>xs.length - j) 0 [0] ⟨aBn _,rfl⟩ ?_ ?_
     . refine And.intro rfl (And.intro ?_ ?_)
       all_goals (repeat' (first | exact True.intro | exact rfl | refine And.intro ?_ ?_))
     . rintro j ⟨hj,hI⟩
       conv=>whnf
       refine And.intro (fun q2=>?_) (fun q2=>?_)
       . conv=>whnf
         have hj':j < xs.length:=by simpa using q2
         obtain ⟨y,hy⟩:∃ y,xs[j]? = some y:=⟨_,aAf hj'⟩
         have hst:=any_tk (p:=fun x=>x != d) (l:=xs.map (deepN · 1)) (k:=j) (x:=deepN y 1) (by rw [aAi,hy];rfl)
         have hy1:=hkid y (by rw [hk];exact aAv _ (aAg hy))
         generalize deepN y 1=e at hst hy1
         refine ⟨by omega,[encKs y.keys,encCs y.chains,encNs y.kids],by show (xs.map cNode)[((j:Nat):Int).toNat]? = _;rw [aBi,aAi,hy,aBz,cNode_eq],rfl,?_⟩
         conv=>whnf
         refine ⟨_,_,hy1 _,True.intro,?_⟩
         conv=>whnf
         refine And.intro (fun q3=>?_) (fun q3=>?_) <;> (conv=>whnf)
         . refine ⟨[],rfl,?_,True.intro⟩
           show DV.int .i64 0 = .int .i64 R
           rw [heq,if_pos (by rw [hI,hst,q3];rfl)]
         . intro z hz
           conv=>whnf
           rw [aJ (by omega) (by omega)] at hz
           subst hz
           refine ⟨j+1,[0],⟨hj',by rw [hI,hst,q3];rfl⟩,by omega,And.intro rfl (And.intro ?_ ?_)⟩
           all_goals (repeat' (first | exact True.intro | exact rfl | refine And.intro ?_ ?_))
       . conv=>whnf
         have hj':j=xs.length:=by simp at q2;omega
         have hno:(xs.map (deepN · 1)).any (fun x=>x != d)=false:=by rw [hI,hj',aAz (by simp)];rfl
         rw [hno] at heq
         refine And.intro (fun q3=>?_) (fun q3=>?_) <;> (conv=>whnf)
         . refine ⟨[],rfl,?_,True.intro⟩
           show DV.int .i64 0 = .int .i64 R
           rw [heq,if_neg (by simp),if_pos q3]
         . intro z hz
           conv=>whnf
           rw [aJ (by omega) (by omega)] at hz
           subst hz
           refine ⟨[],rfl,?_,True.intro⟩
           show DV.int .i64 (d+1) = .int .i64 R
           rw [heq,if_neg (by simp),if_neg (by simp [q3])]
noncomputable def mo55:List (Nat × Tr):=[(12,(.alt 1 (.alt 3 (.alt 6 (.alt 8 (.alt 0 (.alt 2 (.alt 4 (.alt 5 (.alt 7 (.alt 9 (.alt 10 (.alt 11 (.alt 12 .fin .none) .none) .none) .none) .none) (.alt 7 (.alt 5 (.alt 9 (.alt 10 (.alt 11 (.alt 12 .fin .none) .none) .none) .none) (.alt 9 (.alt 5 (.alt 10 (.alt 11 (.alt 12 .fin .none) .none) .none) (.alt 10 (.alt 5 (.alt 11 (.alt 12 .fin .none) .none) .none) .none)) .none)) .none)) (.alt 7 (.alt 4 (.alt 5 (.alt 9 (.alt 10 (.alt 11 (.alt 12 .fin .none) .none) .none) .none) (.alt 9 (.alt 5 (.alt 10 (.alt 11 (.alt 12 .fin .none) .none) .none) (.alt 10 (.alt 5 (.alt 11 (.alt 12 .fin .none) .none) .none) .none)) .none)) (.alt 9 (.alt 4 (.alt 5 (.alt 10 (.alt 11 (.alt 12 .fin .none) .none) .none) (.alt 10 (.alt 5 (.alt 11 (.alt 12 .fin .none) .none) .none) .none)) (.alt 10 (.alt 4 (.alt 5 (.alt 11 (.alt 12 .fin .none) .none) .none) .none) .none)) .none)) .none)) (.alt 7 (.alt 2 (.alt 4 (.alt 5 (.alt 9 (.alt 10 (.alt 11 (.alt 12 .fin .none) .none) .none) .none) (.alt 9 (.alt 5 (.alt 10 (.alt 11 (.alt 12 .fin .none) .none) .none) (.alt 10 (.alt 5 (.alt 11 (.alt 12 .fin .none) .none) .none) .none)) .none)) (.alt 9 (.alt 4 (.alt 5 (.alt 10 (.alt 11 (.alt 12 .fin .none) .none) .none) (.alt 10 (.alt 5 (.alt 11 (.alt 12 .fin .none) .none) .none) .none)) (.alt 10 (.alt 4 (.alt 5 (.alt 11 (.alt 12 .fin .none) .none) .none) .none) .none)) .none)) (.alt 9 (.alt 2 (.alt 4 (.alt 5 (.alt 10 (.alt 11 (.alt 12 .fin .none) .none) .none) (.alt 10 (.alt 5 (.alt 11 (.alt 12 .fin .none) .none) .none) .none)) (.alt 10 (.alt 4 (.alt 5 (.alt 11 (.alt 12 .fin .none) .none) .none) .none) .none)) (.alt 10 (.alt 2 (.alt 4 (.alt 5 (.alt 11 (.alt 12 .fin .none) .none) .none) .none) .none) .none)) .none)) .none)) (.alt 2 (.alt 0 (.alt 4 (.alt 5 (.alt 7 (.alt 9 (.alt 10 (.alt 11 (.alt 12 .fin .none) .none) .none) .none) .none) (.alt 7 (.alt 5 (.alt 9 (.alt 10 (.alt 11 (.alt 12 .fin .none) .none) .none) .none) (.alt 9 (.alt 5 (.alt 10 (.alt 11 (.alt 12 .fin .none) .none) .none) (.alt 10 (.alt 5 (.alt 11 (.alt 12 .fin .none) .none) .none) .none)) .none)) .none)) (.alt 7 (.alt 4 (.alt 5 (.alt 9 (.alt 10 (.alt 11 (.alt 12 .fin .none) .none) .none) .none) (.alt 9 (.alt 5 (.alt 10 (.alt 11 (.alt 12 .fin .none) .none) .none) (.alt 10 (.alt 5 (.alt 11 (.alt 12 .fin .none) .none) .none) .none)) .none)) (.alt 9 (.alt 4 (.alt 5 (.alt 10 (.alt 11 (.alt 12 .fin .none) .none) .none) (.alt 10 (.alt 5 (.alt 11 (.alt 12 .fin .none) .none) .none) .none)) (.alt 10 (.alt 4 (.alt 5 (.alt 11 (.alt 12 .fin .none) .none) .none) .none) .none)) .none)) .none)) (.alt 4 (.alt 0 (.alt 5 (.alt 7 (.alt 9 (.alt 10 (.alt 11 (.alt 12 .fin .none) .none) .none) .none) .none) (.alt 7 (.alt 5 (.alt 9 (.alt 10 (.alt 11 (.alt 12 .fin .none) .none) .none) .none) (.alt 9 (.alt 5 (.alt 10 (.alt 11 (.alt 12 .fin .none) .none) .none) (.alt 10 (.alt 5 (.alt 11 (.alt 12 .fin .none) .none) .none) .none)) .none)) .none)) (.alt 5 (.alt 0 (.alt 7 (.alt 9 (.alt 10 (.alt 11 (.alt 12 .fin .none) .none) .none) .none) .none) (.alt 7 (.alt 0 (.alt 9 (.alt 10 (.alt 11 (.alt 12 .fin .none) .none) .none) .none) (.alt 9 (.alt 0 (.alt 10 (.alt 11 (.alt 12 .fin .none) .none) .none) (.alt 10 (.alt 0 (.alt 11 (.alt 12 .fin .none) .none) .none) .none)) .none)) .none)) (.alt 7 (.alt 0 (.alt 5 (.alt 9 (.alt 10 (.alt 11 (.alt 12 .fin .none) .none) .none) .none) (.alt 9 (.alt 5 (.alt 10 (.alt 11 (.alt 12 .fin .none) .none) .none) (.alt 10 (.alt 5 (.alt 11 (.alt 12 .fin .none) .none) .none) .none)) .none)) (.alt 5 (.alt 0 (.alt 9 (.alt 10 (.alt 11 (.alt 12 .fin .none) .none) .none) .none) (.alt 9 (.alt 0 (.alt 10 (.alt 11 (.alt 12 .fin .none) .none) .none) (.alt 10 (.alt 0 (.alt 11 (.alt 12 .fin .none) .none) .none) .none)) .none)) (.alt 9 (.alt 0 (.alt 5 (.alt 10 (.alt 11 (.alt 12 .fin .none) .none) .none) (.alt 10 (.alt 5 (.alt 11 (.alt 12 .fin .none) .none) .none) .none)) (.alt 5 (.alt 0 (.alt 10 (.alt 11 (.alt 12 .fin .none) .none) .none) (.alt 10 (.alt 0 (.alt 11 (.alt 12 .fin .none) .none) .none) .none)) (.alt 10 (.alt 0 (.alt 5 (.alt 11 (.alt 12 .fin .none) .none) .none) (.alt 5 (.alt 0 (.alt 11 (.alt 12 .fin .none) .none) .none) .none)) .none))) .none))) .none))) (.alt 7 (.alt 0 (.alt 4 (.alt 5 (.alt 9 (.alt 10 (.alt 11 (.alt 12 .fin .none) .none) .none) .none) (.alt 9 (.alt 5 (.alt 10 (.alt 11 (.alt 12 .fin .none) .none) .none) (.alt 10 (.alt 5 (.alt 11 (.alt 12 .fin .none) .none) .none) .none)) .none)) (.alt 9 (.alt 4 (.alt 5 (.alt 10 (.alt 11 (.alt 12 .fin .none) .none) .none) (.alt 10 (.alt 5 (.alt 11 (.alt 12 .fin .none) .none) .none) .none)) (.alt 10 (.alt 4 (.alt 5 (.alt 11 (.alt 12 .fin .none) .none) .none) .none) .none)) .none)) (.alt 4 (.alt 0 (.alt 5 (.alt 9 (.alt 10 (.alt 11 (.alt 12 .fin .none) .none) .none) .none) (.alt 9 (.alt 5 (.alt 10 (.alt 11 (.alt 12 .fin .none) .none) .none) (.alt 10 (.alt 5 (.alt 11 (.alt 12 .fin .none) .none) .none) .none)) .none)) (.alt 5 (.alt 0 (.alt 9 (.alt 10 (.alt 11 (.alt 12 .fin .none) .none) .none) .none) (.alt 9 (.alt 0 (.alt 10 (.alt 11 (.alt 12 .fin .none) .none) .none) (.alt 10 (.alt 0 (.alt 11 (.alt 12 .fin .none) .none) .none) .none)) .none)) (.alt 9 (.alt 0 (.alt 5 (.alt 10 (.alt 11 (.alt 12 .fin .none) .none) .none) (.alt 10 (.alt 5 (.alt 11 (.alt 12 .fin .none) .none) .none) .none)) (.alt 5 (.alt 0 (.alt 10 (.alt 11 (.alt 12 .fin .none) .none) .none) (.alt 10 (.alt 0 (.alt 11 (.alt 12 .fin .none) .none) .none) .none)) (.alt 10 (.alt 0 (.alt 5 (.alt 11 (.alt 12 .fin .none) .none) .none) (.alt 5 (.alt 0 (.alt 11 (.alt 12 .fin .none) .none) .none) .none)) .none))) .none))) (.alt 9 (.alt 0 (.alt 4 (.alt 5 (.alt 10 (.alt 11 (.alt 12 .fin .none) .none) .none) (.alt 10 (.alt 5 (.alt 11 (.alt 12 .fin .none) .none) .none) .none)) (.alt 10 (.alt 4 (.alt 5 (.alt 11 (.alt 12 .fin .none) .none) .none) .none) .none)) (.alt 4 (.alt 0 (.alt 5 (.alt 10 (.alt 11 (.alt 12 .fin .none) .none) .none) (.alt 10 (.alt 5 (.alt 11 (.alt 12 .fin .none) .none) .none) .none)) (.alt 5 (.alt 0 (.alt 10 (.alt 11 (.alt 12 .fin .none) .none) .none) (.alt 10 (.alt 0 (.alt 11 (.alt 12 .fin .none) .none) .none) .none)) (.alt 10 (.alt 0 (.alt 5 (.alt 11 (.alt 12 .fin .none) .none) .none) (.alt 5 (.alt 0 (.alt 11 (.alt 12 .fin .none) .none) .none) .none)) .none))) (.alt 10 (.alt 0 (.alt 4 (.alt 5 (.alt 11 (.alt 12 .fin .none) .none) .none) .none) (.alt 4 (.alt 0 (.alt 5 (.alt 11 (.alt 12 .fin .none) .none) .none) (.alt 5 (.alt 0 (.alt 11 (.alt 12 .fin .none) .none) .none) .none)) .none)) .none))) .none))) .none))) (.alt 7 (.alt 0 (.alt 2 (.alt 4 (.alt 5 (.alt 9 (.alt 10 (.alt 11 (.alt 12 .fin .none) .none) .none) .none) (.alt 9 (.alt 5 (.alt 10 (.alt 11 (.alt 12 .fin .none) .none) .none) (.alt 10 (.alt 5 (.alt 11 (.alt 12 .fin .none) .none) .none) .none)) .none)) (.alt 9 (.alt 4 (.alt 5 (.alt 10 (.alt 11 (.alt 12 .fin .none) .none) .none) (.alt 10 (.alt 5 (.alt 11 (.alt 12 .fin .none) .none) .none) .none)) (.alt 10 (.alt 4 (.alt 5 (.alt 11 (.alt 12 .fin .none) .none) .none) .none) .none)) .none)) (.alt 9 (.alt 2 (.alt 4 (.alt 5 (.alt 10 (.alt 11 (.alt 12 .fin .none) .none) .none) (.alt 10 (.alt 5 (.alt 11 (.alt 12 .fin .none) .none) .none) .none)) (.alt 10 (.alt 4 (.alt 5 (.alt 11 (.alt 12 .fin .none) .none) .none) .none) .none)) (.alt 10 (.alt 2 (.alt 4 (.alt 5 (.alt 11 (.alt 12 .fin .none) .none) .none) .none) .none) .none)) .none)) (.alt 2 (.alt 0 (.alt 4 (.alt 5 (.alt 9 (.alt 10 (.alt 11 (.alt 12 .fin .none) .none) .none) .none) (.alt 9 (.alt 5 (.alt 10 (.alt 11 (.alt 12 .fin .none) .none) .none) (.alt 10 (.alt 5 (.alt 11 (.alt 12 .fin .none) .none) .none) .none)) .none)) (.alt 9 (.alt 4 (.alt 5 (.alt 10 (.alt 11 (.alt 12 .fin .none) .none) .none) (.alt 10 (.alt 5 (.alt 11 (.alt 12 .fin .none) .none) .none) .none)) (.alt 10 (.alt 4 (.alt 5 (.alt 11 (.alt 12 .fin .none) .none) .none) .none) .none)) .none)) (.alt 4 (.alt 0 (.alt 5 (.alt 9 (.alt 10 (.alt 11 (.alt 12 .fin .none) .none) .none) .none) (.alt 9 (.alt 5 (.alt 10 (.alt 11 (.alt 12 .fin .none) .none) .none) (.alt 10 (.alt 5 (.alt 11 (.alt 12 .fin .none) .none) .none) .none)) .none)) (.alt 5 (.alt 0 (.alt 9 (.alt 10 (.alt 11 (.alt 12 .fin .none) .none) .none) .none) (.alt 9 (.alt 0 (.alt 10 (.alt 11 (.alt 12 .fin .none) .none) .none) (.alt 10 (.alt 0 (.alt 11 (.alt 12 .fin .none) .none) .none) .none)) .none)) (.alt 9 (.alt 0 (.alt 5 (.alt 10 (.alt 11 (.alt 12 .fin .none) .none) .none) (.alt 10 (.alt 5 (.alt 11 (.alt 12 .fin .none) .none) .none) .none)) (.alt 5 (.alt 0 (.alt 10 (.alt 11 (.alt 12 .fin .none) .none) .none) (.alt 10 (.alt 0 (.alt 11 (.alt 12 .fin .none) .none) .none) .none)) (.alt 10 (.alt 0 (.alt 5 (.alt 11 (.alt 12 .fin .none) .none) .none) (.alt 5 (.alt 0 (.alt 11 (.alt 12 .fin .none) .none) .none) .none)) .none))) .none))) (.alt 9 (.alt 0 (.alt 4 (.alt 5 (.alt 10 (.alt 11 (.alt 12 .fin .none) .none) .none) (.alt 10 (.alt 5 (.alt 11 (.alt 12 .fin .none) .none) .none) .none)) (.alt 10 (.alt 4 (.alt 5 (.alt 11 (.alt 12 .fin .none) .none) .none) .none) .none)) (.alt 4 (.alt 0 (.alt 5 (.alt 10 (.alt 11 (.alt 12 .fin .none) .none) .none) (.alt 10 (.alt 5 (.alt 11 (.alt 12 .fin .none) .none) .none) .none)) (.alt 5 (.alt 0 (.alt 10 (.alt 11 (.alt 12 .fin .none) .none) .none) (.alt 10 (.alt 0 (.alt 11 (.alt 12 .fin .none) .none) .none) .none)) (.alt 10 (.alt 0 (.alt 5 (.alt 11 (.alt 12 .fin .none) .none) .none) (.alt 5 (.alt 0 (.alt 11 (.alt 12 .fin .none) .none) .none) .none)) .none))) (.alt 10 (.alt 0 (.alt 4 (.alt 5 (.alt 11 (.alt 12 .fin .none) .none) .none) .none) (.alt 4 (.alt 0 (.alt 5 (.alt 11 (.alt 12 .fin .none) .none) .none) (.alt 5 (.alt 0 (.alt 11 (.alt 12 .fin .none) .none) .none) .none)) .none)) .none))) .none))) (.alt 9 (.alt 0 (.alt 2 (.alt 4 (.alt 5 (.alt 10 (.alt 11 (.alt 12 .fin .none) .none) .none) (.alt 10 (.alt 5 (.alt 11 (.alt 12 .fin .none) .none) .none) .none)) (.alt 10 (.alt 4 (.alt 5 (.alt 11 (.alt 12 .fin .none) .none) .none) .none) .none)) (.alt 10 (.alt 2 (.alt 4 (.alt 5 (.alt 11 (.alt 12 .fin .none) .none) .none) .none) .none) .none)) (.alt 2 (.alt 0 (.alt 4 (.alt 5 (.alt 10 (.alt 11 (.alt 12 .fin .none) .none) .none) (.alt 10 (.alt 5 (.alt 11 (.alt 12 .fin .none) .none) .none) .none)) (.alt 10 (.alt 4 (.alt 5 (.alt 11 (.alt 12 .fin .none) .none) .none) .none) .none)) (.alt 4 (.alt 0 (.alt 5 (.alt 10 (.alt 11 (.alt 12 .fin .none) .none) .none) (.alt 10 (.alt 5 (.alt 11 (.alt 12 .fin .none) .none) .none) .none)) (.alt 5 (.alt 0 (.alt 10 (.alt 11 (.alt 12 .fin .none) .none) .none) (.alt 10 (.alt 0 (.alt 11 (.alt 12 .fin .none) .none) .none) .none)) (.alt 10 (.alt 0 (.alt 5 (.alt 11 (.alt 12 .fin .none) .none) .none) (.alt 5 (.alt 0 (.alt 11 (.alt 12 .fin .none) .none) .none) .none)) .none))) (.alt 10 (.alt 0 (.alt 4 (.alt 5 (.alt 11 (.alt 12 .fin .none) .none) .none) .none) (.alt 4 (.alt 0 (.alt 5 (.alt 11 (.alt 12 .fin .none) .none) .none) (.alt 5 (.alt 0 (.alt 11 (.alt 12 .fin .none) .none) .none) .none)) .none)) .none))) (.alt 10 (.alt 0 (.alt 2 (.alt 4 (.alt 5 (.alt 11 (.alt 12 .fin .none) .none) .none) .none) .none) (.alt 2 (.alt 0 (.alt 4 (.alt 5 (.alt 11 (.alt 12 .fin .none) .none) .none) .none) (.alt 4 (.alt 0 (.alt 5 (.alt 11 (.alt 12 .fin .none) .none) .none) (.alt 5 (.alt 0 (.alt 11 (.alt 12 .fin .none) .none) .none) .none)) .none)) .none)) .none))) .none))) .none))) .none) .none) .none) .none))]
def cY (f:Node->List (List UInt8 × List Ver)) (n:Node) (i:Nat):List (List UInt8 × List Ver):=match n.kids[i]? with | some x=>f x | none=>[]
def bJ (n:Node) (i:Nat):List (List UInt8 × List Ver):=match n.keys[i]?,n.chains[i]? with | some k,some c=>[(k,c)] | _,_=>[]
def aB:Nat->Node->List (List UInt8 × List Ver)
 | 0,_=>[]
 | d+1,n=>(List.range (n.keys.length+1)).flatMap fun i=>cY (aB d) n i++bJ n i
def cA (d:Nat) (n:Node) (i:Nat):List (List UInt8 × List Ver):=cY (aB d) n i
def cB (d:Nat) (n:Node) (i:Nat):List (List UInt8 × List Ver):=cA d n i++bJ n i
def cR (d:Nat) (n:Node) (i:Nat):Nat:=((List.range i).flatMap (cB d n)).length
theorem gM (d:Nat) (n:Node) (i:Nat):cR d n (i+1)=cR d n i+(cB d n i).length:=by
 unfold cR;rw [List.range_succ];simp
theorem sJ {α:Type} {f:Nat->List α}:∀ (m i j:Nat) (x:α),i < m->(f i)[j]? = some x->((List.range m).flatMap f)[((List.range i).flatMap f).length+j]? = some x
 | 0,i,j,x,h,_=>by omega
 | m+1,i,j,x,h,hx=>by
   rw [List.range_succ,List.flatMap_append]
   have hj:=(aAe.1 hx).1
   rcases aBl i m with h1 | h1
   . have:=sJ m i j x h1 hx
     rw [aAk (aAe.1 this).1];exact this
   . have e:i=m:=by omega
     subst e
     rw [aAj (by omega)]
     simpa using hx
def dM (d:Nat) (n:Node):List (List YV):=(aB d n).map fun p=>[.one (aL p.1),.one (encVs p.2)]
theorem oG {d:Nat} {n:Node} {i j:Nat} {p:List UInt8 × List Ver} (h:i<=n.keys.length) (hx:(cB d n i)[j]? = some p):(dM (d+1) n)[cR d n i+j]? = some [.one (aL p.1),.one (encVs p.2)]:=by
 unfold dM
 rw [aAi]
 have:=sJ (f:=cB d n) (n.keys.length+1) i j p (by omega) hx
 rw [show aB (d+1) n=(List.range (n.keys.length+1)).flatMap (cB d n) from rfl]
 rw [show ((List.range (n.keys.length+1)).flatMap (cB d n))[cR d n i+j]? = some p from this];rfl
theorem zE (d:Nat) (n:Node):(dM (d+1) n).length=cR d n (n.keys.length+1):=by unfold dM cR;rw [aAh];rfl
def allG (n:Node):List RowB:=[⟨0,0,[[encKs n.keys,encCs n.chains,encNs n.kids]]⟩]
theorem wJ (n:Node) (H:List (List Blk)):aD X H 43 [pNode n] (.func (.func 55) [] [.ptr 0 0 0]) (allG n):=by
 refine callEq_of_body aY rfl Try.func43 rfl ?_
 conv=>whnf
 refine ⟨[0],rfl,?_,?_⟩
 all_goals (repeat' (first | exact True.intro | exact rfl | refine And.intro ?_ ?_))
theorem i_all:∀ (d:Nat) (n:Node),d < 1000000->nOk d n->kK X 55 (allG n) [.ptr 0 0 0] (dM d n):=by
 intro d
 induction d with
 | zero=>intro n _ h;exact h.elim
 | succ d ih=>
   intro n hd hn
   have b1:=nOk_keys hn
   have b2:=nOk_chains hn
   have b3:=nOk_kids hn
   refine iterEq_of_bodyM aY (mo:=mo55) (by kernel_rfl) Try.func55 rfl rfl ?_
   intro Y hP hxs
   have hy0:∀ {k:Nat} {x:List YV},(dM (d+1) n)[k]? = some x->(dM (d+1) n)[k]? = some x:=fun h=>h
   conv=>whnf
   refine bI (fun s:Nat × Bool=>⟨[.any,.ptr 0 0 0,.ptr 0 2 0,.ptr 0 3 0,.d (.int .i64 s.1),.any,.any,.any,.any,.any,.any,.any,.any,.any,.any,.any,.any,.any,.any,.any,.any,.any,.any,.any,.any,.any,.any,.any,.any,.any,.any,.any,.any,.any,.any,.any,.any,.any,.any,.any,.any,.any,.any,.any,.any,.any,.any,.any,.any,.any,.any,.any,.any,.any,.any,.any,.any,.any,.any,.any,.any,.any,.any],[bNode n,.gen Y (bif s.2 then some (cR d n s.1) else none),.box [.yld Y],.box [.kb s.2]]⟩)
    (fun s=>s.1<=n.keys.length+1) (fun s=>n.keys.length+1 - s.1) (0,true) [0,1,2,3] (aBn _) ?_ ?_
   . refine And.intro rfl (And.intro ?_ ?_)
     all_goals (repeat' (first | exact True.intro | exact rfl | refine And.intro ?_ ?_))
   . rintro ⟨i,g⟩ hi
     dsimp only at hi
     cases g with
     | false=>
       conv=>whnf
       refine And.intro (fun q=>?_) (fun q=>?_) <;> (conv=>whnf)
       all_goals exact ⟨rfl,True.intro⟩
     | true=>
       conv=>whnf
       refine And.intro (fun q=>?_) (fun q=>?_) <;> (conv=>whnf)
       rotate_left
       . have hi':i=n.keys.length+1:=by simp at q;omega
         subst hi'
         exact ⟨rfl,by show cR d n (n.keys.length+1)=Y.xs.length;rw [hxs,zE]⟩
       . have hk:i<=n.keys.length:=by simp at q;omega
         refine And.intro (fun q2=>?_) (fun q2=>?_) <;> (conv=>whnf)
         . have hk2:i < n.kids.length:=by simpa using q2
           obtain ⟨x,hx⟩:∃ y,n.kids[i]? = some y:=⟨_,aAf hk2⟩
           have hkid:cA d n i=aB d x:=by unfold cA cY;rw [hx]
           have it:=ih x (by omega) (nOk_kid hn x (aAg hx))
           refine ⟨by omega,[encKs x.keys,encCs x.chains,encNs x.kids],by show (n.kids.map cNode)[((i:Nat):Int).toNat]? = _;rw [aBi,aAi,hx,aBz,cNode_eq],rfl,?_⟩
           conv=>whnf
           refine ⟨_,_,wJ x _,True.intro,?_⟩
           conv=>whnf
           refine mK (dM d x) [.any,.ptr 0 0 0,.ptr 0 2 0,.ptr 0 3 0,.d (.int .i64 i),.any,.any,.any,.any,.any,.any,.any,.any,.any,.any,.any,.any,.any,.any,.any,.any,.any,.any,.any,.any,.any,.any,.any,.any,.any,.any,.any,.any,.any,.any,.any,.any,.any,.any,.any,.any,.any,.any,.any,.any,.any,.any,.any,.any,.any,.any,.any,.any,.any,.any,.any,.any,.any,.any,.any,.any,.any,.any] (fun j=>[bNode n,.gen Y (some (cR d n i+j)),.box [.yld Y],.box [.kb true]]) (fun j=>True) [0,1,2,3] it trivial ?_ ?_ ?_
           . refine And.intro rfl (And.intro ?_ ?_)
             all_goals (repeat' (first | exact True.intro | exact rfl | refine And.intro ?_ ?_))
           . rintro j y hy _
             unfold dM at hy
             rw [aAi] at hy
             obtain ⟨p,hp,rfl⟩:=aBq.1 hy
             have hyy:=oG (i:=i) (j:=j) (p:=p) hk (by unfold cB;rw [hkid,aAk (aAe.1 hp).1];exact hp)
             conv=>whnf
             refine ⟨rfl,hP,by rw [hxs];exact hyy,?_,?_⟩ <;> (conv=>whnf)
             . refine ⟨trivial,[0,1,2,3],And.intro rfl (And.intro ?_ ?_)⟩
               all_goals (repeat' (first | exact True.intro | exact rfl | refine And.intro ?_ ?_))
             . exact ⟨rfl,True.intro⟩
           . intro _
             conv=>whnf
             have hpos:(cR d n i+(dM d x).length)=cR d n i+(cA d n i).length:=by rw [hkid];unfold dM;rw [aAh]
             refine And.intro (fun q3=>?_) (fun q3=>?_) <;> (conv=>whnf)
             . refine And.intro (fun q4=>?_) (fun q4=>?_) <;> (conv=>whnf)
               . have hk3:i < n.keys.length:=by simpa using q3
                 have hk4:i < n.chains.length:=by simpa using q4
                 obtain ⟨ky,hky⟩:∃ y,n.keys[i]? = some y:=⟨_,aAf hk3⟩
                 obtain ⟨ch,hch⟩:∃ y,n.chains[i]? = some y:=⟨_,aAf hk4⟩
                 have fk:(n.keys.map fun k=>[aL k])[((i:Nat):Int).toNat]? = some [aL ky]:=by rw [aBi,aAi,hky];rfl
                 have fc:(n.chains.map fun c=>[encVs c])[((i:Nat):Int).toNat]? = some [encVs ch]:=by rw [aBi,aAi,hch];rfl
                 have hseg:cB d n i=cA d n i ++ [(ky,ch)]:=by unfold cB bJ;rw [hky,hch]
                 have hy:Y.xs[(cR d n i+(dM d x).length)]? = some [.one (aL ky),.one (encVs ch)]:=by rw [hxs,hpos];exact oG (p:=(ky,ch)) hk (by rw [hseg,aAj (aBo _),aB2];rfl)
                 have hp:cR d n (i+1)=(cR d n i+(dM d x).length)+1:=by rw [hpos,gM,hseg];simp;omega
                 have hge:(0:Int)<=((i:Nat):Int):=by omega
                 have hi1:i+1<=n.keys.length+1:=by omega
                 repeat' (first
                  | (refine ⟨hge,[aL ky],fk,rfl,?_⟩;conv=>whnf)
                  | (refine ⟨hge,[encVs ch],fc,rfl,?_⟩;conv=>whnf)
                  | (refine ⟨rfl,hP,hy,?_,?_⟩ <;> (conv=>whnf))
                  | (intro z hz;conv=>whnf
                     rw [aJ (by omega) (by omega)] at hz
                     subst hz
                     first
                      | (refine ⟨(i+1,true),[0,1,2,3],hi1,by show n.keys.length+1 - (i+1) < n.keys.length+1 - i;omega,And.intro rfl (And.intro ?_ ?_)⟩
                         (all_goals (repeat' (first | exact True.intro | exact rfl | refine And.intro ?_ ?_)))
                         exact congrArg some hp.symm)
                      | (refine ⟨(i+1,false),[0,1,2,3],hi1,by show n.keys.length+1 - (i+1) < n.keys.length+1 - i;omega,And.intro rfl (And.intro ?_ ?_)⟩
                         (all_goals (repeat' (first | exact True.intro | exact rfl | refine And.intro ?_ ?_)))
                         done))
                  | (refine And.intro ?_ ?_ <;> (conv=>whnf))
                  | fail)
               . have hseg:cB d n i=cA d n i:=by
                  have:n.chains[i]? = none:=List.getElem?_eq_none (by simpa using q4)
                  unfold cB bJ;rw [this];cases n.keys[i]? <;> simp
                 have hp:cR d n (i+1)=(cR d n i+(dM d x).length):=by rw [hpos,gM,hseg]
                 intro z hz;conv=>whnf
                 rw [aJ (by omega) (by omega)] at hz
                 subst hz
                 refine ⟨(i+1,true),[0,1,2,3],by show i+1<=n.keys.length+1;omega,by show n.keys.length+1 - (i+1) < n.keys.length+1 - i;omega,And.intro rfl (And.intro ?_ ?_)⟩
                 all_goals (repeat' (first | exact True.intro | exact rfl | refine And.intro ?_ ?_))
                 exact congrArg some hp.symm
             . have hseg:cB d n i=cA d n i:=by
                have:n.keys[i]? = none:=List.getElem?_eq_none (by simpa using q3)
                unfold cB bJ;rw [this];simp
               have hp:cR d n (i+1)=(cR d n i+(dM d x).length):=by rw [hpos,gM,hseg]
               intro z hz;conv=>whnf
               rw [aJ (by omega) (by omega)] at hz
               subst hz
               refine ⟨(i+1,true),[0,1,2,3],by show i+1<=n.keys.length+1;omega,by show n.keys.length+1 - (i+1) < n.keys.length+1 - i;omega,And.intro rfl (And.intro ?_ ?_)⟩
               all_goals (repeat' (first | exact True.intro | exact rfl | refine And.intro ?_ ?_))
               exact congrArg some hp.symm
         . have hk2:¬ i < n.kids.length:=by simpa using q2
           have hkid:cA d n i = []:=by unfold cA cY;rw [List.getElem?_eq_none (by omega)]
           have hpos:(cR d n i)=cR d n i+(cA d n i).length:=by rw [hkid];rfl
           refine And.intro (fun q3=>?_) (fun q3=>?_) <;> (conv=>whnf)
           . refine And.intro (fun q4=>?_) (fun q4=>?_) <;> (conv=>whnf)
             . have hk3:i < n.keys.length:=by simpa using q3
               have hk4:i < n.chains.length:=by simpa using q4
               obtain ⟨ky,hky⟩:∃ y,n.keys[i]? = some y:=⟨_,aAf hk3⟩
               obtain ⟨ch,hch⟩:∃ y,n.chains[i]? = some y:=⟨_,aAf hk4⟩
               have fk:(n.keys.map fun k=>[aL k])[((i:Nat):Int).toNat]? = some [aL ky]:=by rw [aBi,aAi,hky];rfl
               have fc:(n.chains.map fun c=>[encVs c])[((i:Nat):Int).toNat]? = some [encVs ch]:=by rw [aBi,aAi,hch];rfl
               have hseg:cB d n i=cA d n i ++ [(ky,ch)]:=by unfold cB bJ;rw [hky,hch]
               have hy:Y.xs[(cR d n i)]? = some [.one (aL ky),.one (encVs ch)]:=by rw [hxs,hpos];exact oG (p:=(ky,ch)) hk (by rw [hseg,aAj (aBo _),aB2];rfl)
               have hp:cR d n (i+1)=(cR d n i)+1:=by rw [hpos,gM,hseg];simp;omega
               have hge:(0:Int)<=((i:Nat):Int):=by omega
               have hi1:i+1<=n.keys.length+1:=by omega
               repeat' (first
                | (refine ⟨hge,[aL ky],fk,rfl,?_⟩;conv=>whnf)
                | (refine ⟨hge,[encVs ch],fc,rfl,?_⟩;conv=>whnf)
                | (refine ⟨rfl,hP,hy,?_,?_⟩ <;> (conv=>whnf))
                | (intro z hz;conv=>whnf
                   rw [aJ (by omega) (by omega)] at hz
                   subst hz
                   first
                    | (refine ⟨(i+1,true),[0,1,2,3],hi1,by show n.keys.length+1 - (i+1) < n.keys.length+1 - i;omega,And.intro rfl (And.intro ?_ ?_)⟩
                       (all_goals (repeat' (first | exact True.intro | exact rfl | refine And.intro ?_ ?_)))
                       exact congrArg some hp.symm)
                    | (refine ⟨(i+1,false),[0,1,2,3],hi1,by show n.keys.length+1 - (i+1) < n.keys.length+1 - i;omega,And.intro rfl (And.intro ?_ ?_)⟩
                       (all_goals (repeat' (first | exact True.intro | exact rfl | refine And.intro ?_ ?_)))
                       done))
                | (refine And.intro ?_ ?_ <;> (conv=>whnf))
                | fail)
             . have hseg:cB d n i=cA d n i:=by
                have:n.chains[i]? = none:=List.getElem?_eq_none (by simpa using q4)
                unfold cB bJ;rw [this];cases n.keys[i]? <;> simp
               have hp:cR d n (i+1)=(cR d n i):=by rw [hpos,gM,hseg]
               intro z hz;conv=>whnf
               rw [aJ (by omega) (by omega)] at hz
               subst hz
               refine ⟨(i+1,true),[0,1,2,3],by show i+1<=n.keys.length+1;omega,by show n.keys.length+1 - (i+1) < n.keys.length+1 - i;omega,And.intro rfl (And.intro ?_ ?_)⟩
               all_goals (repeat' (first | exact True.intro | exact rfl | refine And.intro ?_ ?_))
               exact congrArg some hp.symm
           . have hseg:cB d n i=cA d n i:=by
              have:n.keys[i]? = none:=List.getElem?_eq_none (by simpa using q3)
              unfold cB bJ;rw [this];simp
             have hp:cR d n (i+1)=(cR d n i):=by rw [hpos,gM,hseg]
             intro z hz;conv=>whnf
             rw [aJ (by omega) (by omega)] at hz
             subst hz
             refine ⟨(i+1,true),[0,1,2,3],by show i+1<=n.keys.length+1;omega,by show n.keys.length+1 - (i+1) < n.keys.length+1 - i;omega,And.intro rfl (And.intro ?_ ?_)⟩
             all_goals (repeat' (first | exact True.intro | exact rfl | refine And.intro ?_ ?_))
             exact congrArg some hp.symm
abbrev KV:=List UInt8 × List Ver
theorem lI:∀ (d:Nat) (n:Node),nOk d n -> ∀ p ∈ aB d n,p.1.length<=1000000/\p.2.length < 100000 /\ ∀ v ∈ p.2,v.val.length<=1000000
 | 0,n,h,_,_=>h.elim
 | d+1,n,h,p,hp=>by
   simp only [aB,aA8,aA5] at hp
   obtain ⟨i,_,hp | hp⟩:=hp
   . unfold cY at hp
     split at hp
     . rename_i x hx
       exact lI d x (nOk_kid h x (aAg hx)) p hp
     . cases hp
   . unfold bJ at hp
     split at hp
     . rename_i k c hk hc
       obtain rfl:=aAy.1 hp
       exact ⟨nOk_key h _ (aAg hk),nOk_chain h _ (aAg hc)⟩
     . cases hp
def gA (o:Option (List UInt8)) (p:KV):Bool:=(decide ((p.1.length:Int) > 16)||((p.2.length:Int)==0)) || !vsOk p.2||(match o with | none=>false | some a=>decide (iF a p.1>=0))
def dO:Option (List UInt8)->List KV->Bool
 | _,[]=>true
 | o,p::ps=>if gA o p then false else dO (some p.1) ps
def aX (d:Nat) (n:Node):Bool:=if deepN n 0==0 then false else dO none (aB d n)
def jW (l:List KV) (k:Nat):Option (List UInt8):=match k with | 0=>none | k+1=>l[k]?.map (·.1)
theorem chkL_at {o:Option (List UInt8)} {l:List KV} {k:Nat} {p:KV} (h:l[k]? = some p):dO o (l.drop k)=if gA o p then false else dO (some p.1) (l.drop (k+1)):=by
 obtain ⟨hk,rfl⟩:=aAe.1 h
 rw [aBg hk];rfl
theorem eU (d:Nat) (n:Node) (hd:d < 1000000) (hn:nOk d n) (H:List (List Blk)):aD X H 22 [pNode n] (.d (.bool (aX d n))) []:=by
 have hdeep:=fun H=>d_deep d n 0 H hd hn
 have heq:aX d n=if deepN n 0==0 then false else dO none (aB d n):=rfl
 have hmem:=lI d n hn
 generalize aX d n=R at heq ⊢
 generalize deepN n 0=D at heq hdeep
 refine callEq_of_body aY rfl Try.func22 rfl ?_
 conv=>whnf
 refine ⟨_,_,hdeep _,True.intro,?_⟩
 conv=>whnf
 refine And.intro (fun q=>?_) (fun q=>?_) <;> (conv=>whnf)
 . rw [if_pos q] at heq
   subst heq
   exact ⟨[],rfl,rfl,True.intro⟩
 . rw [if_neg (by simpa using q)] at heq
   refine ⟨_,_,wJ n _,True.intro,?_⟩
   conv=>whnf
   refine mK (dM d n) [.any,.ptr 0 0 0,.ptr 0 1 0,.ptr 0 2 0,.ptr 0 3 0,.any,.any,.any,.any,.any,.any,.any,.any,.any,.any,.any,.any,.any,.any,.any,.any,.any,.any,.any,.any,.any,.any,.any,.any,.any,.any,.any,.any,.any,.any,.any,.any,.any] (fun k=>[bNode n,.box [.d (.bool false)],.box [.d (aL ((jW (aB d n) k).getD []))],.box [.d (.bool (k==0))]])
    (fun k=>R=dO (jW (aB d n) k) ((aB d n).drop k)) [0,1,2,3] (i_all d n hd hn) heq ?_ ?_ ?_
   . refine And.intro rfl (And.intro ?_ ?_)
     all_goals (repeat' (first | exact True.intro | exact rfl | refine And.intro ?_ ?_))
   . rintro k y hy hI
     unfold dM at hy
     rw [aAi] at hy
     obtain ⟨p,hp,rfl⟩:=aBq.1 hy
     rw [chkL_at hp] at hI
     have hpm:=hmem p (aAg hp)
     have hv:=fun H=>d_vscheck p.2 (by omega) H
     have hc:=fun a H=>d_comp a p.1 H
     have hnx:jW (aB d n) (k+1)=some p.1:=by show (aB d n)[k]?.map _=_;rw [hp];rfl
     rw [<- hnx] at hI
     have hl1:((p.1.map fun x=>[DV.int .u8 (x.toNat:Int)]).length:Int)=p.1.length:=by rw [aAh]
     have hl2:((p.2.map cVer).length:Int)=p.2.length:=by rw [aAh]
     have hz:(k==0)=true->jW (aB d n) k=none:=fun h=>by cases k with | zero=>rfl | succ k=>cases h
     have hs:(k==0)=false->jW (aB d n) k=some ((jW (aB d n) k).getD []):=fun h=>by
      cases k with
      | zero=>cases h
      | succ k=>
        show (aB d n)[k]?.map _=some (((aB d n)[k]?.map _).getD [])
        have:k < (aB d n).length:=by have:=(aAe.1 hp).1;omega
        rw [aAf this];rfl
     generalize (k==0)=b at hz hs ⊢
     generalize jW (aB d n) k=o at hI hz hs ⊢
     generalize (o.getD [])=a at hs ⊢
     have hb:((decide ((p.1.length:Int) > 16)||((p.2.length:Int)==0)) || !vsOk p.2||(!b&&decide (iF a p.1>=0)))=gA o p:=by
      unfold gA
      cases b with
      | true=>rw [hz rfl];rfl
      | false=>rw [hs rfl];rfl
     rw [<- hb] at hI
     clear hb hz hs
     generalize vsOk p.2=v at hI hv
     have hI1:((decide ((p.1.length:Int) > 16)||((p.2.length:Int)==0)) || !v||(!b&&decide (iF a p.1>=0)))=true->R=false:=fun h=>by rw [hI,if_pos h]
     have hI2:((decide ((p.1.length:Int) > 16)||((p.2.length:Int)==0)) || !v||(!b&&decide (iF a p.1>=0)))=false->R=dO (jW (aB d n) (k+1)) ((aB d n).drop (k+1)):=fun h=>by rw [hI,if_neg (by simp [h])]
     clear hI
     conv=>whnf
     repeat' (first
      | (refine And.intro (fun h3=>?_) (fun h3=>?_) <;> (conv=>whnf))
      | (refine ⟨_,_,hv _,True.intro,?_⟩;conv=>whnf)
      | (refine ⟨_,_,hc _ _,True.intro,?_⟩;conv=>whnf)
      | (refine ⟨[],rfl,?_,True.intro⟩
         rw [hI1 (by simp_all)]
         (repeat' (first | exact True.intro | exact rfl | refine And.intro ?_ ?_))
         done)
      | (refine ⟨hI2 (by simp_all),[0,1,2,3],And.intro rfl (And.intro ?_ ?_)⟩
         all_goals (repeat' (first | exact True.intro | exact rfl | refine And.intro ?_ ?_))
         rw [hnx];rfl)
      | fail)
   . intro hI
     conv=>whnf
     refine ⟨[],rfl,?_,True.intro⟩
     have:R=true:=by rw [hI,aAz (by unfold dM;rw [aAh];omega)];rfl
     rw [this];(repeat' (first | exact True.intro | exact rfl | refine And.intro ?_ ?_))
theorem uZ {α:Type} {l:List α} {k:Nat} {x:α} (h:l[k]? = some x):l.take (k+1)=l.take k ++ [x]:=by rw [List.take_add_one,h];rfl
theorem cI {n:Node} {least:Int} (h:deepN n least≠0):n.chains.length=n.keys.length/\n.keys.length<=3/\least<=n.keys.length /\
 (n.kids = []/\deepN n least=1\/n.kids.length=n.keys.length+1/\n.keys.length≠0 /\ ∀ x ∈ n.kids,deepN x 1+1=deepN n least/\deepN x 1≠0):=by
 have e:=deepN_eq n least
 generalize deepN n least=D at e h ⊢
 split at e
 . exact absurd e h
 . rename_i h1
   have a1:n.chains.length=n.keys.length:=by simp at h1;omega
   have a2:n.keys.length<=3:=by simp at h1;omega
   have a3:least<=n.keys.length:=by simp at h1;omega
   refine ⟨a1,a2,a3,?_⟩
   cases hk:n.kids with
   | nil=>rw [hk] at e;exact .inl ⟨rfl,e⟩
   | cons x xs=>
     rw [hk] at e
     simp only [List.map_cons] at e
     split at e
     . exact absurd e h
     . rename_i h2
       split at e
       . exact absurd e h
       . rename_i h3
         split at e
         . exact absurd e h
         . rename_i h4
           have h4:deepN x 1≠0:=by simpa using h4
           refine .inr ⟨by simp at h2 ⊢;omega,fun h=>h2 (by rw [h];simp),?_⟩
           have hall:∀ y ∈ xs,deepN y 1=deepN x 1:=by
            intro y hy
            have:=h3
            simp only [List.any_eq_true,aBc,not_exists,not_and] at this
            have:=this (deepN y 1) ⟨y,hy,rfl⟩
            simpa using this
           intro y hy
           rcases List.mem_cons.1 hy with rfl | hy
           . exact ⟨e.symm,h4⟩
           . rw [hall y hy];exact ⟨e.symm,h4⟩
theorem oH {α:Type} {f:Nat->List α} {c:Nat}:∀ (m:Nat),(∀ i,i < m->(f i).length<=c)->((List.range m).flatMap f).length<=m*c
 | 0,_=>by simp
 | m+1,h=>by
   rw [List.range_succ,List.flatMap_append,aAm,Nat.succ_mul]
   have h1:=oH m (fun i hi=>h i (by omega))
   have h2:=h m (by omega)
   simpa using Nat.add_le_add h1 h2
theorem sK:∀ (d:Nat) (n:Node) (least:Int),nOk d n->deepN n least≠0->(aB d n).length+1<=4 ^ d
 | 0,n,_,h,_=>h.elim
 | d+1,n,least,h,hd=>by
   obtain ⟨h1,h2,h3,h4⟩:=cI hd
   have hp:4 ^ (d+1)=4*4 ^ d:=by rw [Nat.pow_succ,Nat.mul_comm]
   have hpos:1<=4 ^ d:=Nat.pos_of_ne_zero (by simp)
   have hkid:∀ i,(cY (aB d) n i).length+1<=4 ^ d:=by
    intro i
    unfold cY
    split
    . rename_i x hx
      have hm:=aAg hx
      rcases h4 with ⟨h4,_⟩ | ⟨_,_,h4⟩
      . rw [h4] at hm;cases hm
      . exact sK d x 1 (nOk_kid h x hm) (h4 x hm).2
    . exact hpos
   have hpair:∀ i,(bJ n i).length<=1:=by
    intro i;unfold bJ;split <;> simp
   have hlast:bJ n n.keys.length = []:=by
    unfold bJ;rw [List.getElem?_eq_none (aBo _)]
   show ((List.range (n.keys.length+1)).flatMap fun i=>cY (aB d) n i++bJ n i).length+1<=_
   rw [List.range_succ,List.flatMap_append,aAm]
   have hA:=oH (f:=fun i=>cY (aB d) n i++bJ n i) (c:=4 ^ d) n.keys.length (fun i _=>by
    have:=hkid i;have:=hpair i;simp only [aAm];omega)
   have hB:=hkid n.keys.length
   simp only [List.flatMap_cons,List.flatMap_nil,List.append_nil,hlast]
   have hC:n.keys.length*4 ^ d<=3*4 ^ d:=Nat.mul_le_mul_right _ h2
   omega
theorem pow4 {d:Nat} (h:d<=16):4 ^ d<=4294967296:=aBp (Nat.pow_le_pow_right (by decide) h) (by decide)
theorem mM {d:Nat} {n:Node} (hd:d<=16) (hn:nOk d n) (h:aX d n=true):(aB d n).length < 4294967296:=by
 have h1:deepN n 0≠0:=fun h'=>by unfold aX at h;rw [if_pos (by simp [h'])] at h;cases h
 have:=sK d n 0 hn h1
 have:=pow4 hd
 omega
def eB (d:Nat) (n:Node):List (List UInt8):=if aX d n then (aB d n).map (·.1) else []
def aF (l:List (List UInt8)):List (List DV):=l.map fun k=>[aL k]
theorem vC (d:Nat) (n:Node) (hd:d<=16) (hn:nOk d n) (H:List (List Blk)):aD X H 35 [pNode n] (.row 0 0 (eB d n).length) [⟨27,1,aF (eB d n)⟩]:=by
 have hchk:=fun H=>eU d n (by omega) hn H
 have hmem:=lI d n hn
 have hlen:=mM hd hn
 unfold eB
 generalize aX d n=R at hchk hlen ⊢
 refine callEq_of_body aY rfl Try.func35 rfl ?_
 conv=>whnf
 refine ⟨_,_,hchk _,True.intro,?_⟩
 conv=>whnf
 refine And.intro (fun q=>?_) (fun q=>?_) <;> (conv=>whnf)
 . obtain rfl:R=false:=by simpa using q
   exact ⟨[5],rfl,by (repeat' (first | exact True.intro | exact rfl | refine And.intro ?_ ?_))⟩
 . obtain rfl:R=true:=by simpa using q
   have hlen:=hlen rfl
   rw [if_pos rfl]
   refine ⟨_,_,wJ n _,True.intro,?_⟩
   conv=>whnf
   have take_succ:∀ {k:Nat} {p:KV},(aB d n)[k]? = some p->aF (((aB d n).take (k+1)).map (·.1))=aF (((aB d n).take k).map (·.1)) ++ [[aL p.1]]:=fun h=>by
    rw [uZ h];simp [aF]
   refine mK (dM d n) [.any,.ptr 0 0 0,.ptr 0 1 0,.any,.any,.any,.any,.any,.any,.any,.any,.any,.any,.any,.any,.any,.any] (fun k=>[bNode n,.box [.row 0 2 (aF (((aB d n).take k).map (·.1))).length],.row 27 1 (aF (((aB d n).take k).map (·.1)))])
    (fun k=>True) [0,1,3] (i_all d n (by omega) hn) trivial ?_ ?_ ?_
   . refine And.intro rfl (And.intro ?_ ?_)
     all_goals (repeat' (first | exact True.intro | exact rfl | refine And.intro ?_ ?_))
   . rintro k y hy _
     unfold dM at hy
     rw [aAi] at hy
     obtain ⟨p,hp,rfl⟩:=aBq.1 hy
     have hpm:=hmem p (aAg hp)
     have hr:=take_succ hp
     have hk:k < (aB d n).length:=(aAe.1 hp).1
     have hrl:(aF (((aB d n).take k).map (·.1))).length=k:=by unfold aF;simp;omega
     generalize aF (((aB d n).take k).map (·.1))=rk at hr hrl ⊢
     conv=>whnf
     refine ⟨_,_,c103 p.1 (by omega) _,True.intro,?_⟩
     conv=>whnf
     refine ⟨fun y hy=>by simp at hy;subst hy;rfl,?_⟩
     conv=>whnf
     refine ⟨by simp,by (first | omega | (dsimp only;omega) | (simp;done) | (simp;omega)),?_⟩
     conv=>whnf
     refine ⟨trivial,[0,1,3],And.intro rfl (And.intro ?_ ?_)⟩
     all_goals (try rw [hr])
     all_goals (repeat' (first | exact True.intro | exact rfl | refine And.intro ?_ ?_))
     all_goals (show PV.row 0 3 _=PV.row 0 3 _;rw [aAm])
   . intro _
     conv=>whnf
     have:(dM d n).length=(aB d n).length:=by unfold dM;rw [aAh]
     rw [this,aAw]
     refine ⟨[2],rfl,?_⟩
     (repeat' (first | exact True.intro | exact rfl | refine And.intro ?_ ?_))
     show PV.row 0 2 _=PV.row 0 2 _
     unfold aF;rw [aAh]
theorem zF (xs:List (List DV)) (hx:∀ x ∈ xs,x.length=3) (hl:xs.length < 1000000) (H:List (List Blk)):aD X H 54 [.d (.sl xs)] (.row 0 0 xs.length) [⟨61,3,xs⟩]:=by
 refine callEq_of_body aY rfl Try.func54 rfl ?_
 conv=>whnf
 refine And.intro (fun h=>?_) (fun h=>?_) <;> (conv=>whnf)
 . subst h
   refine And.intro ?_ ?_ <;> (conv=>whnf)
   . exact ⟨[5],rfl,by (repeat' (first | exact True.intro | exact rfl | refine And.intro ?_ ?_))⟩
   . refine ⟨fun y hy=>(by cases hy),?_⟩
     conv=>whnf
     refine ⟨rfl,by decide,?_⟩
     conv=>whnf
     exact ⟨[1],rfl,by (repeat' (first | exact True.intro | exact rfl | refine And.intro ?_ ?_))⟩
 . refine ⟨fun y hy=>hx y hy,?_⟩
   conv=>whnf
   refine ⟨rfl,by (first | omega | (dsimp only;omega) | (simp;done) | (simp;omega)),?_⟩
   conv=>whnf
   refine ⟨[1],rfl,?_⟩
   (repeat' (first | exact True.intro | exact rfl | refine And.intro ?_ ?_))
   show PV.row 0 1 _=PV.row 0 1 _;rw [Nat.zero_add]
theorem sL (xs:List (List DV)) (hx:∀ x ∈ xs,x.length=1) (hl:xs.length < 1000000) (H:List (List Blk)):aD X H 58 [.d (.sl xs)] (.row 0 0 xs.length) [⟨27,1,xs⟩]:=by
 refine callEq_of_body aY rfl Try.func58 rfl ?_
 conv=>whnf
 refine And.intro (fun h=>?_) (fun h=>?_) <;> (conv=>whnf)
 . subst h
   refine And.intro ?_ ?_ <;> (conv=>whnf)
   . exact ⟨[5],rfl,by (repeat' (first | exact True.intro | exact rfl | refine And.intro ?_ ?_))⟩
   . refine ⟨fun y hy=>(by cases hy),?_⟩
     conv=>whnf
     refine ⟨rfl,by decide,?_⟩
     conv=>whnf
     exact ⟨[1],rfl,by (repeat' (first | exact True.intro | exact rfl | refine And.intro ?_ ?_))⟩
 . refine ⟨fun y hy=>hx y hy,?_⟩
   conv=>whnf
   refine ⟨rfl,by (first | omega | (dsimp only;omega) | (simp;done) | (simp;omega)),?_⟩
   conv=>whnf
   refine ⟨[1],rfl,?_⟩
   (repeat' (first | exact True.intro | exact rfl | refine And.intro ?_ ?_))
   show PV.row 0 1 _=PV.row 0 1 _;rw [Nat.zero_add]
theorem sM (xs:List (List DV)) (hx:∀ x ∈ xs,x.length=1) (hl:xs.length < 1000000) (H:List (List Blk)):aD X H 59 [.d (.sl xs)] (.row 0 0 xs.length) [⟨32,1,xs⟩]:=by
 refine callEq_of_body aY rfl Try.func59 rfl ?_
 conv=>whnf
 refine And.intro (fun h=>?_) (fun h=>?_) <;> (conv=>whnf)
 . subst h
   refine And.intro ?_ ?_ <;> (conv=>whnf)
   . exact ⟨[5],rfl,by (repeat' (first | exact True.intro | exact rfl | refine And.intro ?_ ?_))⟩
   . refine ⟨fun y hy=>(by cases hy),?_⟩
     conv=>whnf
     refine ⟨rfl,by decide,?_⟩
     conv=>whnf
     exact ⟨[1],rfl,by (repeat' (first | exact True.intro | exact rfl | refine And.intro ?_ ?_))⟩
 . refine ⟨fun y hy=>hx y hy,?_⟩
   conv=>whnf
   refine ⟨rfl,by (first | omega | (dsimp only;omega) | (simp;done) | (simp;omega)),?_⟩
   conv=>whnf
   refine ⟨[1],rfl,?_⟩
   (repeat' (first | exact True.intro | exact rfl | refine And.intro ?_ ?_))
   show PV.row 0 1 _=PV.row 0 1 _;rw [Nat.zero_add]
theorem sN (xs:List (List DV)) (hx:∀ x ∈ xs,x.length=3) (hl:xs.length < 1000000) (H:List (List Blk)):aD X H 60 [.d (.sl xs)] (.row 0 0 xs.length) [⟨26,3,xs⟩]:=by
 refine callEq_of_body aY rfl Try.func60 rfl ?_
 conv=>whnf
 refine And.intro (fun h=>?_) (fun h=>?_) <;> (conv=>whnf)
 . subst h
   refine And.intro ?_ ?_ <;> (conv=>whnf)
   . exact ⟨[5],rfl,by (repeat' (first | exact True.intro | exact rfl | refine And.intro ?_ ?_))⟩
   . refine ⟨fun y hy=>(by cases hy),?_⟩
     conv=>whnf
     refine ⟨rfl,by decide,?_⟩
     conv=>whnf
     exact ⟨[1],rfl,by (repeat' (first | exact True.intro | exact rfl | refine And.intro ?_ ?_))⟩
 . refine ⟨fun y hy=>hx y hy,?_⟩
   conv=>whnf
   refine ⟨rfl,by (first | omega | (dsimp only;omega) | (simp;done) | (simp;omega)),?_⟩
   conv=>whnf
   refine ⟨[1],rfl,?_⟩
   (repeat' (first | exact True.intro | exact rfl | refine And.intro ?_ ?_))
   show PV.row 0 1 _=PV.row 0 1 _;rw [Nat.zero_add]
theorem d_versR (l:List Ver) (hl:l.length < 1000000) (hv:∀ x ∈ l,x.val.length<=1000000) (H:List (List Blk)):aD X H 39 [.d (encVs l)] (.row 0 0 l.length) [⟨61,3,l.map cVer⟩]:=by
 have h3:∀ x ∈ l.map cVer,x.length=3:=fun x hx=>by simp only [aBc] at hx;obtain ⟨_,_,rfl⟩:=hx;rfl
 have hlen:(l.map cVer).length=l.length:=aAh ..
 refine callEq_of_bodyF aY false true (mo:=[]) (by kernel_rfl) Try.func39 rfl ?_
 conv=>whnf
 refine ⟨_,_,(zF (l.map cVer) h3 (by omega) _).md _ _,True.intro,?_⟩
 conv=>whnf
 refine bI (fun i:Nat=>⟨[.any,.any,.any,.row 0 0 (l.map cVer).length,.any,.any,.any,.any,.row 0 0 (l.map cVer).length,.d (.int .i64 (l.map cVer).length),.d (.int .i64 i),.any,.any,.any,.any,.any,.any,.any,.any,.any,.any,.any,.any,.any],[.row 61 3 (l.map cVer)]⟩)
  (fun i=>i<=l.length) (fun i=>l.length - i) 0 [0] (aBn _) ?_ ?_
 . refine And.intro rfl (And.intro ?_ ?_)
   all_goals (repeat' (first | exact True.intro | exact rfl | refine And.intro ?_ ?_))
 . intro i hi
   conv=>whnf
   refine And.intro (fun q=>?_) (fun q=>?_)
   . conv=>whnf
     have hi':i < l.length:=by simpa using q
     obtain ⟨x,hx⟩:∃ x,l[i]? = some x:=⟨_,aAf hi'⟩
     have hxv:=hv x (aAg hx)
     have hget:(l.map cVer)[((i:Nat):Int).toNat]? = some (cVer x):=by rw [aBi,aAi,hx];rfl
     have hset:(l.map cVer).set ((i:Nat):Int).toNat (cVer x)=l.map cVer:=by
      rw [aBi]
      refine List.ext_getElem? fun j=>?_
      rw [List.getElem?_set]
      split
      . rename_i h;subst h
        rw [if_pos (by rw [hlen];omega)]
        rw [aAi,hx];rfl
      . rfl
     refine ⟨by omega,by rw [hlen];omega,?_⟩
     conv=>whnf
     refine ⟨cVer x,hget,?_⟩
     conv=>whnf
     refine ⟨_,_,(c103 x.val (by omega) _).md _ _,True.intro,?_⟩
     conv=>whnf
     refine ⟨by omega,by rw [hlen];omega,?_⟩
     conv=>whnf
     refine ⟨cVer x,hget,?_⟩
     conv=>whnf
     intro z hz
     conv=>whnf
     rw [aJ (by omega) (by omega)] at hz
     subst hz
     refine ⟨i+1,[0],by omega,by omega,And.intro rfl (And.intro ?_ ?_)⟩
     all_goals (repeat' (first | exact True.intro | exact rfl | refine And.intro ?_ ?_))
     exact hset
   . conv=>whnf
     refine ⟨[0],rfl,?_⟩
     (repeat' (first | exact True.intro | exact rfl | refine And.intro ?_ ?_))
     show PV.row 0 0 _=PV.row 0 0 _
     rw [hlen]
theorem pD (l:List Ver) (hl:l.length < 1000000) (hv:∀ x ∈ l,x.val.length<=1000000) (H:List (List Blk)):aD X H 39 [.d (encVs l)] (.d (encVs l)) []:=
 (d_versR l hl hv H).freeze 1 (by
   show PV.d (.sl ((l.map cVer).take l.length))=_
   rw [aAt (by simp)];rfl)
theorem d_many (d:Nat) (n:Node) (hd:d<=16) (hn:nOk d n) (H:List (List Blk)):aD X H 24 [pNode n] (.d (.int .i64 (eB d n).length)) []:=by
 have h:=fun H=>vC d n hd hn H
 refine callEq_of_body aY rfl Try.func24 rfl ?_
 conv=>whnf
 repeat' (first
  | (refine And.intro (fun h_=>?_) (fun h_=>?_) <;> (conv=>whnf))
  | (refine ⟨_,_,h _,(by first | exact True.intro | exact And.intro rfl aZ),?_⟩;conv=>whnf)
  | (intro z_ hz_;conv=>whnf)
  | (refine ⟨[],rfl,?_,True.intro⟩;(conv=>whnf);(first | done | ((repeat' (first | exact True.intro | exact rfl | refine And.intro ?_ ?_));done)))
  | fail)
def sO (d:Nat) (n:Node):Int:=if aX d n then deepN n 0 else 0
theorem d_depth (d:Nat) (n:Node) (hd:d<=16) (hn:nOk d n) (H:List (List Blk)):aD X H 25 [pNode n] (.d (.int .i64 (sO d n))) []:=by
 have h1:=fun H=>eU d n (by omega) hn H
 have h2:=fun H=>d_deep d n 0 H (by omega) hn
 unfold sO
 generalize aX d n=R at h1 ⊢
 refine callEq_of_body aY rfl Try.func25 rfl ?_
 conv=>whnf
 refine ⟨_,_,h1 _,True.intro,?_⟩
 conv=>whnf
 refine And.intro (fun q=>?_) (fun q=>?_) <;> (conv=>whnf)
 . obtain rfl:R=false:=by simpa using q
   exact ⟨[],rfl,by (repeat' (first | exact True.intro | exact rfl | refine And.intro ?_ ?_))⟩
 . obtain rfl:R=true:=by simpa using q
   refine ⟨_,_,h2 _,True.intro,?_⟩
   conv=>whnf
   exact ⟨[],rfl,by (repeat' (first | exact True.intro | exact rfl | refine And.intro ?_ ?_))⟩
theorem sP (p:List UInt8->Int) (l:List (List UInt8)):∀ (n i j:Nat),i<=j->bsF p l n i j<=j/\i<=bsF p l n i j
 | 0,i,j,h=>⟨h,aBo _⟩
 | n+1,i,j,h=>by
   unfold bsF
   split
   . split
     . have:=sP p l n (half i j+1) j (by unfold half;omega)
       unfold half at this ⊢;omega
     . have:=sP p l n i (half i j) (by unfold half;omega)
       unfold half at this ⊢;omega
   . omega
theorem cO (l:List (List UInt8)) (k:List UInt8):bs l k<=l.length:=(sP _ l _ 0 _ (aBn _)).1
theorem eV {l:List (List UInt8)} {k:List UInt8} (h:bsIs l k=true):bs l k < l.length:=by
 unfold bsIs at h
 simp at h
 omega
def jX:Nat->Node->List UInt8->Option (List Ver)
 | 0,_,_=>none
 | d+1,n,k=>if bsIs n.keys k then n.chains[bs n.keys k]? else match n.kids[bs n.keys k]? with | some x=>jX d x k | none=>none
def sQ (o:Option (List Ver)):PV:=.tuple [.d (encVs (o.getD [])),.d (.bool o.isSome)]
def eY (d:Nat) (n:Node) (k:List UInt8):Option (List Ver):=if aX d n then jX d n k else none
theorem pE (d:Nat) (n:Node) (k:List UInt8) (hd:d<=16) (hn:nOk d n) (H:List (List Blk)):aD X H 15 [pNode n,.d (aL k)] (sQ (eY d n k)) []:=by
 have hchk:=fun H=>eU d n (by omega) hn H
 have hdeep:aX d n=true->deepN n 0≠0:=fun h h'=>by unfold aX at h;rw [if_pos (by simp [h'])] at h;cases h
 have heq:eY d n k=if aX d n then jX d n k else none:=rfl
 generalize eY d n k=R at heq ⊢
 generalize aX d n=C at hchk hdeep heq
 unfold sQ
 refine callEq_of_body aY rfl Try.func15 rfl ?_
 conv=>whnf
 refine ⟨_,_,hchk _,True.intro,?_⟩
 conv=>whnf
 refine And.intro (fun q=>?_) (fun q=>?_) <;> (conv=>whnf)
 . obtain rfl:C=false:=by simpa using q
   obtain rfl:R=none:=by simpa using heq
   exact ⟨[],rfl,by (repeat' (first | exact True.intro | exact rfl | refine And.intro ?_ ?_))⟩
 . obtain rfl:C=true:=by simpa using q
   have heq:R=jX d n k:=by simpa using heq
   refine bI (fun i:Nat × Node=>⟨[.any,.d (aL k),.ptr 0 0 0,.any,.nils,.kb false,.any,.any,.any,.any,.any,.any,.any,.any,.any,.any,.any,.any,.any,.any,.any,.any,.any,.any,.any,.any,.any,.any,.any,.any,.any,.any,.any],[bNode i.2]⟩)
    (fun i=>nOk i.1 i.2/\(∃ l,deepN i.2 l≠0)/\R=jX i.1 i.2 k) (fun i=>i.1) (d,n) [0] ⟨hn,⟨0,hdeep rfl⟩,heq⟩ ?_ ?_
   . refine And.intro rfl (And.intro ?_ ?_)
     all_goals (repeat' (first | exact True.intro | exact rfl | refine And.intro ?_ ?_))
   . rintro ⟨e,m⟩ ⟨hm,⟨least,hl⟩,hI⟩
     dsimp only at hm hl hI
     obtain ⟨e,rfl⟩:=nOk_pos hm
     have hp:=fun H=>d_place m k (by have:=nOk_keys hm;omega) H
     have hlf:=fun H=>d_leaf m H
     obtain ⟨p1,p2,p3,p4⟩:=cI hl
     have hle:=cO m.keys k
     have hlt:bsIs m.keys k=true->bs m.keys k < m.keys.length:=eV
     unfold jX at hI
     generalize bs m.keys k=i at hp hle hlt hI
     generalize bsIs m.keys k=is at hp hlt hI
     have hleaf:leafN m=true->m.kids = []:=fun h=>by unfold leafN at h;simpa using h
     have hno:leafN m=false->m.kids ≠ []:=fun h h'=>by unfold leafN at h;rw [h'] at h;cases h
     generalize leafN m=lf at hlf hleaf hno
     conv=>whnf
     refine ⟨_,_,hp _,True.intro,?_⟩
     conv=>whnf
     refine And.intro (fun q=>?_) (fun q=>?_) <;> (conv=>whnf)
     . rw [if_pos q] at hI
       obtain ⟨c,hc⟩:∃ y,m.chains[i]? = some y:=⟨_,aAf (by rw [p1];exact hlt q)⟩
       rw [hc] at hI
       have hcv:=nOk_chain hm c (aAg hc)
       refine ⟨by omega,[encVs c],by show (m.chains.map fun c=>[encVs c])[((i:Nat):Int).toNat]? = _;rw [aBi,aAi,hc];rfl,rfl,?_⟩
       conv=>whnf
       refine ⟨_,_,pD c (by omega) hcv.2 _,True.intro,?_⟩
       conv=>whnf
       refine ⟨[],rfl,?_⟩
       rw [hI]
       (repeat' (first | exact True.intro | exact rfl | refine And.intro ?_ ?_))
     . rw [if_neg (by simp [q])] at hI
       refine ⟨_,_,hlf _,True.intro,?_⟩
       conv=>whnf
       refine And.intro (fun q2=>?_) (fun q2=>?_) <;> (conv=>whnf)
       . rw [hleaf q2] at hI
         refine ⟨[],rfl,?_⟩
         rw [hI]
         (repeat' (first | exact True.intro | exact rfl | refine And.intro ?_ ?_))
       . rcases p4 with ⟨p4,_⟩ | ⟨p4,p5,p6⟩
         . exact absurd p4 (hno q2)
         obtain ⟨x,hx⟩:∃ y,m.kids[i]? = some y:=⟨_,aAf (by omega)⟩
         rw [hx] at hI
         have hmx:=aAg hx
         refine ⟨by omega,[encKs x.keys,encCs x.chains,encNs x.kids],by show (m.kids.map cNode)[((i:Nat):Int).toNat]? = _;rw [aBi,aAi,hx,aBz,cNode_eq],rfl,?_⟩
         conv=>whnf
         refine ⟨(e,x),[0],⟨nOk_kid hm x hmx,⟨1,(p6 x hmx).2⟩,hI⟩,by show e < e+1;omega,And.intro rfl (And.intro ?_ ?_)⟩
         all_goals (repeat' (first | exact True.intro | exact rfl | refine And.intro ?_ ?_))
def gX (n:Node) (k:List UInt8) (o:Option (List UInt8)):Option (List UInt8):=match n.keys[bs n.keys k]? with | some x=>some x | none=>o
def iP:Nat->Node->List UInt8->Option (List UInt8)->Option (List UInt8)
 | 0,_,_,o=>o
 | d+1,n,k,o=>if bsIs n.keys k||leafN n then gX n k o else match n.kids[bs n.keys k]? with | some x=>iP d x k (gX n k o) | none=>o
def ansB (o:Option (List UInt8)):PV:=.tuple [.d (aL (o.getD [])),.d (.bool o.isSome)]
def pF (d:Nat) (n:Node) (k:List UInt8):Option (List UInt8):=if aX d n then iP d n k none else none
theorem xW (d:Nat) (n:Node) (k:List UInt8) (hd:d<=16) (hn:nOk d n) (H:List (List Blk)):aD X H 17 [pNode n,.d (aL k)] (ansB (pF d n k)) []:=by
 have hchk:=fun H=>eU d n (by omega) hn H
 have hdeep:aX d n=true->deepN n 0≠0:=fun h h'=>by unfold aX at h;rw [if_pos (by simp [h'])] at h;cases h
 have heq:pF d n k=if aX d n then iP d n k none else none:=rfl
 generalize pF d n k=R at heq ⊢
 generalize aX d n=C at hchk hdeep heq
 unfold ansB
 refine callEq_of_body aY rfl Try.func17 rfl ?_
 conv=>whnf
 refine ⟨_,_,hchk _,True.intro,?_⟩
 conv=>whnf
 refine And.intro (fun q=>?_) (fun q=>?_) <;> (conv=>whnf)
 . obtain rfl:C=false:=by simpa using q
   obtain rfl:R=none:=by simpa using heq
   exact ⟨[],rfl,by (repeat' (first | exact True.intro | exact rfl | refine And.intro ?_ ?_))⟩
 . obtain rfl:C=true:=by simpa using q
   have heq:R=iP d n k none:=by simpa using heq
   refine bI (fun i:Nat × Node × Option (List UInt8)=>⟨[.any,.d (aL k),.ptr 0 0 0,.any,.d (aL (i.2.2.getD [])),.d (.bool i.2.2.isSome),.any,.any,.any,.any,.any,.any,.any,.any,.any,.any,.any,.any,.any,.any,.any,.any,.any,.any,.any,.any,.any,.any,.any,.any,.any,.any,.any,.any,.any,.any,.any,.any,.any,.any],[bNode i.2.1]⟩)
    (fun i=>nOk i.1 i.2.1/\(∃ l,deepN i.2.1 l≠0)/\(i.2.2.getD []).length<=1000000/\R=iP i.1 i.2.1 k i.2.2) (fun i=>i.1) (d,n,none) [0] ⟨hn,⟨0,hdeep rfl⟩,by simp,heq⟩ ?_ ?_
   . refine And.intro rfl (And.intro ?_ ?_)
     all_goals (repeat' (first | exact True.intro | exact rfl | refine And.intro ?_ ?_))
   . rintro ⟨e,m,o⟩ ⟨hm,⟨least,hl⟩,ho,hI⟩
     dsimp only at hm hl hI ho
     obtain ⟨e,rfl⟩:=nOk_pos hm
     have hp:=fun H=>d_place m k (by have:=nOk_keys hm;omega) H
     have hlf:=fun H=>d_leaf m H
     obtain ⟨p1,p2,p3,p4⟩:=cI hl
     have hle:=cO m.keys k
     have hlt:bsIs m.keys k=true->bs m.keys k < m.keys.length:=eV
     have hso:gX m k o=match m.keys[bs m.keys k]? with | some x=>some x | none=>o:=rfl
     have ho':((gX m k o).getD []).length<=1000000:=by
      rw [hso]
      split
      . rename_i x hx;exact nOk_key hm x (aAg hx)
      . exact ho
     unfold iP at hI
     generalize gX m k o=o' at hso hI ho'
     generalize bs m.keys k=i at hp hle hlt hI hso
     generalize bsIs m.keys k=is at hp hlt hI
     have hleaf:leafN m=true->m.kids = []:=fun h=>by unfold leafN at h;simpa using h
     have hno:leafN m=false->m.kids ≠ []:=fun h h'=>by unfold leafN at h;rw [h'] at h;cases h
     generalize leafN m=lf at hlf hleaf hno hI
     have hcl:=fun H=>c103 (o'.getD []) (by omega) H
     conv=>whnf
     refine ⟨_,_,hp _,True.intro,?_⟩
     conv=>whnf
     have kid:is=false->lf=false -> ∃ x,m.kids[i]? = some x/\nOk e x/\deepN x 1≠0/\R=iP e x k o':=fun h1 h2=>by
      rcases p4 with ⟨p4,_⟩ | ⟨p4,p5,p6⟩
      . exact absurd p4 (hno h2)
      obtain ⟨x,hx⟩:∃ y,m.kids[i]? = some y:=⟨_,aAf (by omega)⟩
      rw [hx,h1,h2] at hI
      have hmx:=aAg hx
      exact ⟨x,hx,nOk_kid hm x hmx,(p6 x hmx).2,hI⟩
     have ends:(is||lf)=true->R=o':=fun h=>by rw [hI,if_pos h]
     have key:∀ {x:List UInt8},m.keys[i]? = some x->(m.keys.map fun k=>[aL k])[((i:Nat):Int).toNat]? = some [aL x]:=fun h=>by rw [aBi,aAi,h];rfl
     refine And.intro (fun q=>?_) (fun q=>?_) <;> (conv=>whnf)
     . have q':i < m.keys.length:=by simpa using q
       obtain ⟨x,hx⟩:∃ y,m.keys[i]? = some y:=⟨_,aAf q'⟩
       obtain rfl:o'=some x:=by rw [hso,hx]
       refine ⟨by omega,[aL x],key hx,rfl,?_⟩
       conv=>whnf
       refine And.intro (fun q1=>?_) (fun q1=>?_) <;> (conv=>whnf)
       rotate_left
       . refine ⟨_,_,hcl _,True.intro,?_⟩
         conv=>whnf
         refine ⟨[],rfl,?_⟩
         rw [ends (by simp [q1])]
         (repeat' (first | exact True.intro | exact rfl | refine And.intro ?_ ?_))
       . refine ⟨_,_,hlf _,True.intro,?_⟩
         conv=>whnf
         refine And.intro (fun q2=>?_) (fun q2=>?_) <;> (conv=>whnf)
         . refine ⟨_,_,hcl _,True.intro,?_⟩
           conv=>whnf
           refine ⟨[],rfl,?_⟩
           rw [ends (by simp [q2])]
           (repeat' (first | exact True.intro | exact rfl | refine And.intro ?_ ?_))
         . obtain ⟨y,hy,k1,k2,k3⟩:=kid (by simpa using q1) (by simpa using q2)
           refine ⟨by omega,[encKs y.keys,encCs y.chains,encNs y.kids],by show (m.kids.map cNode)[((i:Nat):Int).toNat]? = _;rw [aBi,aAi,hy,aBz,cNode_eq],rfl,?_⟩
           conv=>whnf
           refine ⟨(e,y,some x),[0],⟨k1,⟨1,k2⟩,ho',k3⟩,by show e < e+1;omega,And.intro rfl (And.intro ?_ ?_)⟩
           all_goals (repeat' (first | exact True.intro | exact rfl | refine And.intro ?_ ?_))
     . have q':¬ i < m.keys.length:=by simpa using q
       have hnone:m.keys[i]? = none:=List.getElem?_eq_none (by omega)
       obtain rfl:o'=o:=by rw [hso,hnone]
       refine And.intro (fun q1=>?_) (fun q1=>?_) <;> (conv=>whnf)
       rotate_left
       . exact absurd (hlt q1) q'
       . refine ⟨_,_,hlf _,True.intro,?_⟩
         conv=>whnf
         refine And.intro (fun q2=>?_) (fun q2=>?_) <;> (conv=>whnf)
         . refine ⟨_,_,hcl _,True.intro,?_⟩
           conv=>whnf
           refine ⟨[],rfl,?_⟩
           rw [ends (by simp [q2])]
           (repeat' (first | exact True.intro | exact rfl | refine And.intro ?_ ?_))
         . obtain ⟨y,hy,k1,k2,k3⟩:=kid (by simpa using q1) (by simpa using q2)
           refine ⟨by omega,[encKs y.keys,encCs y.chains,encNs y.kids],by show (m.kids.map cNode)[((i:Nat):Int).toNat]? = _;rw [aBi,aAi,hy,aBz,cNode_eq],rfl,?_⟩
           conv=>whnf
           refine ⟨(e,y,o'),[0],⟨k1,⟨1,k2⟩,ho',k3⟩,by show e < e+1;omega,And.intro rfl (And.intro ?_ ?_)⟩
           all_goals (repeat' (first | exact True.intro | exact rfl | refine And.intro ?_ ?_))
def kH (x y:Ver):Bool:=((x.stamp != y.stamp) || !(x.gone==y.gone)) || !(eqB x.val y.val)
def fL {α:Type} (bad:α->α->Bool):List α->List α->Bool
 | x::xs,y::ys=>if bad x y then false else fL bad xs ys
 | _,_=>true
theorem sR {α:Type} {bad:α->α->Bool} {a b:List α} {k:Nat} {x y:α} (h:a[k]? = some x) (h':b[k]? = some y):fL bad (a.drop k) (b.drop k)=if bad x y then false else fL bad (a.drop (k+1)) (b.drop (k+1)):=by
 obtain ⟨hk,rfl⟩:=aAe.1 h
 obtain ⟨hk',rfl⟩:=aAe.1 h'
 rw [aBg hk,aBg hk'];rfl
def jQ (a b:List Ver):Bool:=if ((a.length:Nat):Int) != ((b.length:Nat):Int) then false else fL kH a b
theorem d_sameV (a b:List Ver) (ha:a.length < 1000000) (H:List (List Blk)):aD X H 21 [.d (encVs a),.d (encVs b)] (.d (.bool (jQ a b))) []:=by
 unfold jQ
 refine callEq_of_body aY rfl Try.func21 rfl ?_
 conv=>whnf
 refine And.intro (fun q=>?_) (fun q=>?_) <;> (conv=>whnf)
 . refine ⟨[],rfl,?_,True.intro⟩
   rw [if_pos (by simpa using q)];(repeat' (first | exact True.intro | exact rfl | refine And.intro ?_ ?_))
 . have hab:a.length=b.length:=by simp at q;omega
   rw [if_neg (by simpa using q)]
   clear q
   generalize hR:fL kH a b=R
   refine bI (fun i:Nat=>⟨[.d (encVs a),.d (encVs b),.any,.any,.any,.d (.int .i64 i),.any,.any,.any,.any,.any,.any,.any,.any,.any,.any,.any,.any,.any,.any,.any,.any,.any,.any,.any,.any,.any,.any,.any,.any,.any,.any,.any,.any,.any,.any,.any,.any,.any,.any,.any,.any,.any,.any,.any,.any,.any,.any,.any,.any,.any,.any,.any,.any,.any,.any],[]⟩)
    (fun i=>i<=a.length/\R=fL kH (a.drop i) (b.drop i)) (fun i=>a.length - i) 0 [] ⟨aBn _,hR.symm⟩ ?_ ?_
   . refine And.intro rfl (And.intro ?_ ?_)
     all_goals (repeat' (first | exact True.intro | exact rfl | refine And.intro ?_ ?_))
   . rintro k ⟨hk,hI⟩
     conv=>whnf
     refine And.intro (fun h_=>?_) (fun h_=>?_)
     . conv=>whnf
       have hk':k < a.length:=by simpa using h_
       obtain ⟨x,hx⟩:∃ x,a[k]? = some x:=⟨_,aAf hk'⟩
       obtain ⟨y,hy⟩:∃ x,b[k]? = some x:=⟨_,aAf (by omega)⟩
       rw [sR hx hy] at hI
       have hI1:kH x y=true->R=false:=fun h=>by rw [hI,if_pos h]
       have hI2:kH x y=false->(k+1<=a.length/\R=fL kH (a.drop (k+1)) (b.drop (k+1))):=fun h=>⟨hk',by rw [hI,if_neg (by rw [h];exact aBt)]⟩
       clear hI
       have hge:(0:Int)<=((k:Nat):Int):=by omega
       have hgx:(a.map cVer)[((k:Nat):Int).toNat]? = some (cVer x):=by rw [aBi,aAi,hx];rfl
       have hgy:(b.map cVer)[((k:Nat):Int).toNat]? = some (cVer y):=by rw [aBi,aAi,hy];rfl
       have hw2:IntKind.i64.wrap (((k:Nat):Int)+1)=((k:Nat):Int)+1:=aJ (by omega) (by omega)
       have ebad:kH x y=(((x.stamp != y.stamp) || !(x.gone==y.gone)) || !(eqB x.val y.val)):=rfl
       generalize kH x y=bd at hI1 hI2 ebad
       unfold eqB oF at ebad
       repeat' (first
        | (refine And.intro (fun q=>?_) (fun q=>?_) <;> (conv=>whnf))
        | (refine ⟨[],rfl,?_,True.intro⟩
           rw [hI1 (by simp_all)]
           (repeat' (first | exact True.intro | exact rfl | refine And.intro ?_ ?_))
           done)
        | (refine ⟨hge,cVer x,hgx,rfl,?_⟩;conv=>whnf)
        | (refine ⟨hge,cVer y,hgy,rfl,?_⟩;conv=>whnf)
        | (refine ⟨x.val,rfl,?_⟩;conv=>whnf)
        | (refine ⟨y.val,rfl,?_⟩;conv=>whnf)
        | (intro z hz;conv=>whnf
           rw [hw2] at hz
           subst hz
           refine ⟨k+1,[],hI2 (by simp_all),by omega,And.intro rfl (And.intro ?_ ?_)⟩
           all_goals (repeat' (first | exact True.intro | exact rfl | refine And.intro ?_ ?_))
           done)
        | fail)
     . conv=>whnf
       have hk':k=a.length:=by simp at h_;omega
       refine ⟨[],rfl,?_,True.intro⟩
       show DV.bool true = .bool R
       rw [hI,hk',List.drop_length];rfl
def okVal (x:Ver):Bool:=decide ((x.val.length:Int)<=100)
def vD (c:List Ver):Bool:=decide ((c.length:Int)<=20)&&c.all okVal
def sS:Nat->Node->Bool
 | 0,_=>false
 | d+1,n=>(decide ((n.keys.length:Int)<=6)&&decide ((n.chains.length:Int)<=6)&&decide ((n.kids.length:Int)<=6))&&((n.keys.all fun k=>decide ((k.length:Int)<=100))&&(n.chains.all vD&&n.kids.all (sS d)))
def cKV (p:KV):List DV:=[aL p.1,encVs p.2]
def gG (d:Nat) (n:Node) (i:Nat):List KV:=(List.range i).flatMap (cB d n)
def cm (a b:List UInt8):Int:=Go.Lib.compareBytes a b
theorem cm_nn:cm [] []=0:=rfl
theorem cm_nc (b:UInt8) (bs:List UInt8):cm [] (b::bs) = -1:=rfl
theorem wK (a:UInt8) (ts:List UInt8):cm (a::ts) []=1:=rfl
theorem rL (a b:UInt8) (ts bs:List UInt8):cm (a::ts) (b::bs)=if a < b then -1 else if b < a then 1 else cm ts bs:=rfl
theorem kP (a b:List UInt8):iF a b=cm a b:=Go.Lib.cmp_eq _ _
theorem u8 {a b:UInt8}:a < b↔a.toNat < b.toNat:=UInt8.lt_iff_toNat_lt
theorem wL {a b:UInt8} (h1:¬ a < b) (h2:¬ b < a):a=b:=UInt8.toNat_inj.1 (by rw [u8] at h1 h2;omega)
theorem dB:∀ (a b:List UInt8),cm b a = - cm a b
 | [],[]=>rfl
 | [],_::_=>rfl
 | _::_,[]=>rfl
 | a::ts,b::bs=>by
   rw [rL,rL]
   by_cases h1:a < b
   . have h2:¬ b < a:=by rw [u8] at h1 ⊢;omega
     rw [if_neg h2,if_pos h1,if_pos h1];rfl
   . by_cases h2:b < a
     . rw [if_pos h2,if_neg h1,if_pos h2]
     . rw [if_neg h1,if_neg h2,if_neg h2,if_neg h1,dB ts bs]
theorem fM:∀ (a b:List UInt8),cm a b=0↔a=b
 | [],[]=>by simp [cm_nn]
 | [],_::_=>by simp [cm_nc]
 | _::_,[]=>by simp [wK]
 | a::ts,b::bs=>by
   rw [rL]
   by_cases h1:a < b
   . rw [if_pos h1]
     have:a≠b:=fun e=>by subst e;rw [u8] at h1;omega
     simp [this]
   . by_cases h2:b < a
     . rw [if_neg h1,if_pos h2]
       have:a≠b:=fun e=>by subst e;rw [u8] at h2;omega
       simp [this]
     . rw [if_neg h1,if_neg h2,fM ts bs]
       simp [wL h1 h2]
theorem cG (a:List UInt8):cm a a=0:=(fM a a).2 rfl
theorem sU:∀ (a b c:List UInt8),cm a b<=0->cm b c<=0->cm a c<=0
 | [],_,[],_,_=>by simp [cm_nn]
 | [],_,_::_,_,_=>by simp [cm_nc]
 | _::_,[],_,h,_=>by simp [wK] at h
 | _::_,_::_,[],_,h=>by simp [wK] at h
 | a::ts,b::bs,c::cs,h,h'=>by
   rw [rL] at h h' ⊢
   by_cases h1:a < b
   . by_cases h3:b < c
     . rw [if_pos (by rw [u8] at *;omega)];decide
     . by_cases h4:c < b
       . rw [if_neg h3,if_pos h4] at h';simp at h'
       . rw [<- wL h3 h4,if_pos h1];decide
   . by_cases h2:b < a
     . rw [if_neg h1,if_pos h2] at h;simp at h
     . have e:=wL h1 h2
       subst e
       rw [if_neg h1,if_neg h1] at h
       by_cases h3:a < c
       . rw [if_pos h3];decide
       . by_cases h4:c < a
         . rw [if_neg h3,if_pos h4] at h';simp at h'
         . rw [if_neg h3,if_neg h4] at h' ⊢
           exact sU ts bs cs h h'
theorem qX (a:List UInt8):(oF a).toList=a:=by
 have:(oF a).toList=(oF a).data.toList:=ByteArray.toList_eq _
 rw [this];rfl
theorem xX (a b:List UInt8):eqB a b=decide (cm a b=0):=by
 unfold eqB
 rw [qX,qX]
 by_cases h:a=b
 . subst h;simp [cG]
 . have:cm a b≠0:=fun e=>h ((fM a b).1 e)
   simp [h,this]
def dJ (d:Nat) (n:Node):List KV:=if aX d n then aB d n else []
theorem gY {d:Nat} {n:Node} (h:aX d n=true):deepN n 0≠0:=fun h'=>by unfold aX at h;rw [if_pos (by simp [h'])] at h;cases h
def lJ (p q:KV):Bool:=(!jQ p.2 q.2) || !(eqB p.1 q.1)
def pG (a b:List KV):Bool:=if ((a.length:Nat):Int) != ((b.length:Nat):Int) then false else fL lJ a b
theorem d_same (a b:List KV) (ha:a.length < 4294967296) (hm:∀ p ∈ a,p.2.length < 100000) (H:List (List Blk)):aD X H 19 [.d (.sl (a.map cKV)),.d (.sl (b.map cKV))] (.d (.bool (pG a b))) []:=by
 unfold pG
 refine callEq_of_body aY rfl Try.func19 rfl ?_
 conv=>whnf
 refine And.intro (fun q=>?_) (fun q=>?_) <;> (conv=>whnf)
 . refine ⟨[],rfl,?_,True.intro⟩
   rw [if_pos (by simpa using q)];(repeat' (first | exact True.intro | exact rfl | refine And.intro ?_ ?_))
 . have hab:a.length=b.length:=by simp at q;omega
   rw [if_neg (by simpa using q)]
   clear q
   generalize hR:fL lJ a b=R
   refine bI (fun i:Nat=>⟨[.d (.sl (a.map cKV)),.d (.sl (b.map cKV)),.any,.any,.any,.d (.int .i64 i),.any,.any,.any,.any,.any,.any,.any,.any,.any,.any,.any,.any,.any,.any,.any,.any,.any,.any,.any,.any,.any,.any,.any,.any,.any,.any,.any,.any,.any,.any,.any,.any,.any,.any,.any,.any,.any,.any,.any,.any],[]⟩)
    (fun i=>i<=a.length/\R=fL lJ (a.drop i) (b.drop i)) (fun i=>a.length - i) 0 [] ⟨aBn _,hR.symm⟩ ?_ ?_
   . refine And.intro rfl (And.intro ?_ ?_)
     all_goals (repeat' (first | exact True.intro | exact rfl | refine And.intro ?_ ?_))
   . rintro k ⟨hk,hI⟩
     conv=>whnf
     refine And.intro (fun h_=>?_) (fun h_=>?_)
     . conv=>whnf
       have hk':k < a.length:=by simpa using h_
       obtain ⟨x,hx⟩:∃ x,a[k]? = some x:=⟨_,aAf hk'⟩
       obtain ⟨y,hy⟩:∃ x,b[k]? = some x:=⟨_,aAf (by omega)⟩
       have hs:=fun H=>d_sameV x.2 y.2 (by have:=hm x (aAg hx);omega) H
       rw [sR hx hy] at hI
       have hI1:lJ x y=true->R=false:=fun h=>by rw [hI,if_pos h]
       have hI2:lJ x y=false->(k+1<=a.length/\R=fL lJ (a.drop (k+1)) (b.drop (k+1))):=fun h=>⟨hk',by rw [hI,if_neg (by rw [h];exact aBt)]⟩
       clear hI
       have hge:(0:Int)<=((k:Nat):Int):=by omega
       have hgx:(a.map cKV)[((k:Nat):Int).toNat]? = some (cKV x):=by rw [aBi,aAi,hx];rfl
       have hgy:(b.map cKV)[((k:Nat):Int).toNat]? = some (cKV y):=by rw [aBi,aAi,hy];rfl
       have hw2:IntKind.i64.wrap (((k:Nat):Int)+1)=((k:Nat):Int)+1:=aJ (by omega) (by omega)
       have ebad:lJ x y=((!jQ x.2 y.2) || !(eqB x.1 y.1)):=rfl
       rw [ebad] at hI1 hI2
       clear ebad
       unfold eqB oF at hI1 hI2
       generalize jQ x.2 y.2=sv at hI1 hI2 hs
       refine ⟨hge,cKV x,hgx,rfl,?_⟩
       conv=>whnf
       refine ⟨hge,cKV y,hgy,rfl,?_⟩
       conv=>whnf
       refine ⟨_,_,hs _,True.intro,?_⟩
       conv=>whnf
       refine And.intro (fun q=>?_) (fun q=>?_) <;> (conv=>whnf)
       . refine ⟨hge,cKV x,hgx,rfl,?_⟩
         conv=>whnf
         refine ⟨x.1,rfl,?_⟩
         conv=>whnf
         refine ⟨hge,cKV y,hgy,rfl,?_⟩
         conv=>whnf
         refine ⟨y.1,rfl,?_⟩
         conv=>whnf
         refine And.intro (fun q1=>?_) (fun q1=>?_) <;> (conv=>whnf)
         . refine ⟨[],rfl,?_,True.intro⟩
           have:=hI1 (by rw [q];exact q1)
           rw [this];(repeat' (first | exact True.intro | exact rfl | refine And.intro ?_ ?_))
         . have:=hI2 (by rw [q];exact q1)
           intro z hz
           conv=>whnf
           rw [hw2] at hz
           subst hz
           refine ⟨k+1,[],this,by omega,And.intro rfl (And.intro ?_ ?_)⟩
           all_goals (repeat' (first | exact True.intro | exact rfl | refine And.intro ?_ ?_))
       . refine ⟨[],rfl,?_,True.intro⟩
         have:=hI1 (by rw [show (!sv)=true from q];rfl)
         rw [this];(repeat' (first | exact True.intro | exact rfl | refine And.intro ?_ ?_))
     . conv=>whnf
       have hk':k=a.length:=by simp at h_;omega
       refine ⟨[],rfl,?_,True.intro⟩
       show DV.bool true = .bool R
       rw [hI,hk',List.drop_length];rfl
theorem xY (d:Nat) (n:Node) (hd:d<=16) (hn:nOk d n) (H:List (List Blk)):aD X H 35 [pNode n] (.d (encKs (eB d n))) []:=
 (vC d n hd hn H).freeze 1 (by
   show PV.d (.sl ((aF (eB d n)).take (eB d n).length))=_
   rw [aAt (by unfold aF;rw [aAh];exact aBo _)];rfl)
def cJ (d:Nat) (n:Node):List KV:=(eB d n).map fun k=>(k,(eY d n k).getD [])
theorem lK (d:Nat) (n:Node) (hd:d<=16) (hn:nOk d n) (H:List (List Blk)):aD X H 20 [pNode n] (.d (.sl ((cJ d n).map cKV))) []:=by
 have hk:=fun H=>xY d n hd hn H
 have hf:=fun k H=>pE d n k hd hn H
 have hl:(eB d n).length < 4294967296:=by
  unfold eB
  split
  . rename_i h
    rw [aAh];exact mM hd hn h
  . decide
 have main:aD X H 20 [pNode n] (.row 0 0 (cJ d n).length) [⟨41,2,(cJ d n).map cKV⟩]:=by
  have hLL:(cJ d n).length=(eB d n).length:=by unfold cJ;rw [aAh]
  have hget:∀ {i:Nat} {k:List UInt8},(eB d n)[i]? = some k->((cJ d n).take (i+1)).map cKV=((cJ d n).take i).map cKV ++ [[aL k,encVs ((eY d n k).getD [])]]:=fun {i k} h=>by
   have:(cJ d n)[i]? = some (k,(eY d n k).getD []):=by unfold cJ;rw [aAi,h];rfl
   rw [uZ this];simp [cKV]
  generalize hL:cJ d n=L at hLL hget ⊢
  generalize eB d n=ks at hk hl hLL hget
  refine callEq_of_body aY rfl Try.func20 rfl ?_
  conv=>whnf
  refine ⟨_,_,hk _,True.intro,?_⟩
  conv=>whnf
  have eK:((ks.map fun k=>[aL k]).length:Int)=ks.length:=by rw [aAh]
  refine bI (fun i:Nat=>⟨[.any,.ptr 0 0 0,.any,.row 0 1 ((L.take i).map cKV).length,.d (encKs ks),.d (.int .i64 i),.any,.any,.any,.any,.any,.any,.any,.any,.any,.any,.any,.any,.any,.any,.any,.any,.any,.any,.any,.any,.any,.any,.any,.any,.any,.any,.any,.any,.any],[bNode n,.row 41 2 ((L.take i).map cKV)]⟩)
   (fun i=>i<=ks.length) (fun i=>ks.length - i) 0 [0,1] (aBn _) ?_ ?_
  . refine And.intro rfl (And.intro ?_ ?_)
    all_goals (repeat' (first | exact True.intro | exact rfl | refine And.intro ?_ ?_))
  . intro i hi
    have hlt:((L.take i).map cKV).length=i:=by rw [aAh,aAl];omega
    conv=>whnf
    refine And.intro (fun q=>?_) (fun q=>?_) <;> (conv=>whnf)
    . have hi':i < ks.length:=by simpa using q
      obtain ⟨k,hkk⟩:∃ x,ks[i]? = some x:=⟨_,aAf hi'⟩
      have hs:=hget hkk
      have hf:=hf k
      unfold sQ at hf
      have hgk:(ks.map fun k=>[aL k])[((i:Nat):Int).toNat]? = some [aL k]:=by rw [aBi,aAi,hkk];rfl
      generalize eY d n k=o at hs hf
      refine ⟨by omega,[aL k],hgk,rfl,?_⟩
      conv=>whnf
      refine ⟨_,_,hf _,True.intro,?_⟩
      conv=>whnf
      refine ⟨by omega,[aL k],hgk,rfl,?_⟩
      conv=>whnf
      refine ⟨fun y hy=>by simp at hy;subst hy;rfl,?_⟩
      conv=>whnf
      refine ⟨rfl,by show _*48<=_;rw [hlt];show (_+1)*48<=_;omega,?_⟩
      conv=>whnf
      intro z hz
      conv=>whnf
      rw [aJ (by omega) (by omega)] at hz
      subst hz
      refine ⟨i+1,[0,2],by omega,by omega,And.intro rfl (And.intro ?_ ?_)⟩
      all_goals rw [hs]
      all_goals (repeat' (first | exact True.intro | exact rfl | refine And.intro ?_ ?_))
      show PV.row 0 2 _=PV.row 0 2 _
      rw [aAm]
    . obtain rfl:i=ks.length:=by simp at q;omega
      have ht:L.take ks.length=L:=aAt (by omega)
      rw [ht]
      refine ⟨[1],rfl,?_⟩
      (repeat' (first | exact True.intro | exact rfl | refine And.intro ?_ ?_))
      show PV.row 0 1 _=PV.row 0 1 _
      rw [aAh]
 exact main.freeze 1 (by
  show PV.d (.sl (((cJ d n).map cKV).take (cJ d n).length))=_
  rw [aAt (by simp)])
theorem qY:∀ (d:Nat) (n:Node),sS d n=true->nOk d n
 | 0,n,h=>by cases h
 | d+1,n,h=>by
   simp only [sS,aBs,decide_eq_true_eq,aBd] at h
   obtain ⟨⟨⟨h1,h2⟩,h3⟩,h4,h5,h6⟩:=h
   refine ⟨by omega,by omega,by omega,fun x hx=>by have:=h4 x hx;omega,fun y hy=>?_,fun x hx=>qY d x (h6 x hx)⟩
   have:=h5 y hy
   simp only [vD,aBs,decide_eq_true_eq,aBd] at this
   obtain ⟨g1,g2⟩:=this
   refine ⟨by omega,fun v hv=>?_⟩
   have:=g2 v hv
   simp only [okVal,decide_eq_true_eq] at this
   omega
end Go.Proofs.Ve
namespace Go.Proofs.Ve
open Go Go.Proofs Go.Shelf Go.RowKit Go.Lib
theorem give_row {m:M} {H:List (List Blk)} {e sz:Nat} {xs xs':List (List DV)} {v v':Value} (hinv:Inv m [.row e sz xs] H) (hρ:m.ρ 0 0=some v) (hfree:∀ i,1<=i->m.ρ 0 i=none) {w':World} {flat:List Value} (hxs:∀ x ∈ xs',x.length=sz)
 (hown:w'.ownsRow 0 e sz v' xs'.length flat) (hgr:m.w.grownBy w' (blkOf v)) (hat:blkOf v'=blkOf v\/blkOf v'=some m.w.heap.size)
 (hc:∀ (i:Nat) x (j:Nat) y u,xs'[i]? = some x->x[j]? = some y->flat[i*sz+j]? = some u->RD m.w m.ok y u) :
 ∃ m',m'.w=w'/\Since (M0.of m [.row e sz xs]) m' [.row e sz xs',.dead]/\m'.ρ 0 1=m.ρ 0 0/\Inv m' [.row e sz xs',.dead] H/\m'.ρ 0 0=some v':=by
 obtain ⟨h0,_⟩:=hinv.blk 0 0 _ rfl v hρ
 have hvU:∀ k,blkOf v=some k->m.U k:=fun k hk=>hinv.own 0 0 _ v k rfl rfl hρ hk
 have mine:∀ k,blkOf v=some k->Mine m [.row e sz xs] k:=fun k hk=>⟨0,_,v,rfl,rfl,hρ,hk⟩
 have hv':∀ k,blkOf v'=some k->k < w'.heap.size/\(m.U k/\blkOf v=some k\/k=m.w.heap.size):=fun k hk=>by
  refine ⟨?_,?_⟩
  . rcases hown.2 with ⟨b,_⟩ | ⟨g,cap,cur,b1,_,b3,_⟩
    . rw [b] at hk;cases hk
    . rw [b1] at hk;cases hk;exact (aBw.1 b3).1
  . rcases hat with h | h
    . rw [h] at hk;exact .inl ⟨hvU k hk,hk⟩
    . rw [h] at hk;cases hk;exact .inr rfl
 let m':M:=⟨w',fun l i=>match l with | 0=>if i=0 then some v' else if i=1 then m.ρ 0 0 else none | l+1=>m.ρ (l+1) i,fun k=>m.U k\/blkOf v'=some k⟩
 have h00:m'.ρ 0 0=some v':=rfl
 have h01:m'.ρ 0 1=m.ρ 0 0:=rfl
 have hup:∀ l i,m'.ρ (l+1) i=m.ρ (l+1) i:=fun _ _=>rfl
 have hUold:∀ k,k < m.w.heap.size->(m'.U k↔m.U k):=fun k hk=>⟨fun h=>by
  rcases h with h | h
  . exact h
  . rcases (hv' k h).2 with ⟨h,_⟩ | h
    . exact h
    . omega,.inl⟩
 have hne:∀ k,m.U k->(blkOf v≠some k)->w'.heap[k]? = m.w.heap[k]?:=fun k hk hne=>hgr.block k (hinv.lt k hk) (fun h=>hne h.symm)
 have okk:∀ k,m.ok k->m'.ok k/\w'.heap[k]? = m.w.heap[k]?:=fun k hk=>by
  refine ⟨⟨aBk hk.1 hgr.size,fun h=>hk.2 ((hUold k hk.1).1 h)⟩,hgr.block k hk.1 (fun h=>hk.2 (hvU k h.symm))⟩
 have get:∀ l i b,getB [.row e sz xs',.dead] H l i=some b->b.live=true->(l=0/\i=0/\b = .row e sz xs')\/(∃ l',l=l'+1/\getB [.row e sz xs] H l i=some b):=by
  intro l i b hb hl
  cases l with
  | zero=>
    match i,hb with
    | 0,hb=>simp [getB] at hb;exact .inl ⟨rfl,rfl,hb.symm⟩
    | 1,hb=>simp [getB] at hb;subst hb;cases hl
    | i+2,hb=>simp [getB] at hb
  | succ l=>exact .inr ⟨l,rfl,hb⟩
 have far:∀ l i b u k,getB [.row e sz xs] H (l+1) i=some b->b.live=true->m.ρ (l+1) i=some u->b.has m.w u k->blkOf v≠some k/\blkOf v'≠some k:=fun l i b u k hb hl hu hk=>by
  have hU:=hinv.own (l+1) i b u k hb hl hu hk
  have h1:blkOf v≠some k:=fun h=>by
   have:=(hinv.inj (l+1) i b 0 0 _ u v k hb hl rfl rfl hu hρ hk h).1
   cases this
  refine ⟨h1,fun h=>?_⟩
  rcases (hv' k h).2 with ⟨_,h⟩ | h
  . exact h1 h
  . have:=hinv.lt k hU;omega
 have fb:∀ l i b u k,getB [.row e sz xs] H (l+1) i=some b->b.live=true->m.ρ (l+1) i=some u->b.has w' u k->b.has m.w u k:=fun l i b u k hb hl hu hk=>hinv.back hb hl hu (fun j hj hjk=>hne j hj (far l i b u j hb hl hu hjk).1) hk
 have hK:Keep ⟨m.w,fun l i=>match l with | 0=>none | l+1=>m.ρ (l+1) i,m.U⟩ m':=⟨fun l i u hu=>by
  cases l with
  | zero=>cases hu
  | succ l=>exact hu,hgr.size,fun k hk=>⟨(okk k hk).1.2,(okk k hk).2⟩⟩
 refine ⟨m',rfl,⟨hgr.os,hgr.tape,hgr.output,hgr.size,fun k hk hn _=>hgr.block k hk (fun h=>hn (mine k h.symm)),fun _ _=>rfl,fun k hk=>hUold k hk,fun k ⟨j,b,u,hb,hl,hu,hk⟩=>?_⟩,h01,⟨fun l i b hb=>?_,fun l i b l' i' b' u u' k h1 h2 h3 h4 h5 h6 h7 h8=>?_,fun l i b u k h1 h2 h3 h4=>?_,fun k hk=>?_,Views.none fun i p e c h=>by match i,h with | 0,h=>simp at h | 1,h=>simp at h | i+2,h=>simp at h⟩,h00⟩
 . match j,hb,hu with
   | 0,hb,hu=>
     change m'.ρ 0 0=some u at hu
     rw [h00] at hu;cases hu
     cases hb
     rcases (hv' k hk).2 with ⟨_,h⟩ | h
     . exact .inr (mine k h)
     . exact .inl (by rw [h];exact aBo _)
   | 1,hb,hu=>simp at hb;subst hb;cases hl
   | j+2,hb,hu=>simp at hb
 . cases hlv:b.live with
   | false=>cases b <;> first | (simp [Blk.live] at hlv;done) | trivial
   | true=>
     rcases get l i b hb hlv with ⟨rfl,rfl,rfl⟩ | ⟨l',rfl,hb'⟩
     . intro u hu
       change m'.ρ 0 0=some u at hu
       rw [h00] at hu;cases hu
       exact ⟨h0,hxs,flat,hown,fun i x j y u hx hy hu=>(hc i x j y u hx hy hu).mono okk⟩
     . have hb2:=hinv.blk (l'+1) i b hb'
       have hb3:BlkOk ⟨m.w,fun l i=>match l with | 0=>none | l+1=>m.ρ (l+1) i,m.U⟩ (l'+1) i b:=by
        cases b with
        | dead=>trivial
        | gen Y st=>trivial
        | row e sz xs=>exact hb2
        | deep e sz xs=>exact hb2
        | sub _ _ _=>trivial
        | box cs=>
          intro u hu
          obtain ⟨g,us,t,q1,q2,q3,q4⟩:=hb2 u hu
          refine ⟨g,us,t,q1,q2,q3,fun j p x hp hx=>(q4 j p x hp hx).keep ?_⟩
          exact ⟨fun a i u hu=>by
           show (match a+(l'+1) with | 0=>none | l+1=>m.ρ (l+1) i)=some u
           exact hu,aBo _,fun k hk=>⟨hk.2,rfl⟩⟩
       exact hb3.keep hK (hup l' i) (fun u k hl hu hk=>hne k (hinv.own _ i b u k hb' hl hu hk) (far l' i b u k hb' hl hu hk).1)
 . rcases get l i b h1 h2 with ⟨rfl,rfl,rfl⟩ | ⟨a,rfl,hb⟩ <;> rcases get l' i' b' h3 h4 with ⟨rfl,rfl,rfl⟩ | ⟨a',rfl,hb'⟩
   . exact ⟨rfl,rfl⟩
   . exfalso
     change m'.ρ 0 0=some u at h5
     rw [h00] at h5;cases h5
     exact (far a' i' b' u' k hb' h4 h6 (fb a' i' b' u' k hb' h4 h6 h8)).2 h7
   . exfalso
     change m'.ρ 0 0=some u' at h6
     rw [h00] at h6;cases h6
     exact (far a i b u k hb h2 h5 (fb a i b u k hb h2 h5 h7)).2 h8
   . exact hinv.inj _ i b _ i' b' u u' k hb h2 hb' h4 h5 h6 (fb a i b u k hb h2 h5 h7) (fb a' i' b' u' k hb' h4 h6 h8)
 . rcases get l i b h1 h2 with ⟨rfl,rfl,rfl⟩ | ⟨a,rfl,hb⟩
   . change m'.ρ 0 0=some u at h3
     rw [h00] at h3;cases h3;exact .inr h4
   . exact .inl (hinv.own _ i b u k hb h2 h3 (fb a i b u k hb h2 h3 h4))
 . rcases hk with hk | hk
   . exact aBk (hinv.lt k hk) hgr.size
   . exact (hv' k hk).1
theorem own_slice (A:Option Addr) (n c:Nat):(Value.slice A n c).ownBlock=blkOf (.slice A n c):=by cases A <;> rfl
theorem ins_eq {ρ:Ren} {zr:Value} (L:InsL X.P ρ zr) (xs:List (List DV)) (hx:∀ x ∈ xs,x.length=1) (i:Nat) (hi:i<=xs.length) (y:DV) (hbig:xs.length < 1000000) (ht9:Nat.ble 64 1=false) (H:List (List Blk)) :
 aE X H (ρ.f 22) [⟨ρ.t 9,1,xs⟩] [.row 0 0 xs.length,.d (.int .i64 i),.d (.sl [[y]])] [none] (.row 0 0 (xs.length+1)) [⟨ρ.t 9,1,xs.take i ++ [[y]]++xs.drop i⟩]:=by
 have hB:∀ ys,RowB.blk ⟨ρ.t 9,1,ys⟩ = .row (ρ.t 9) 1 ys:=fun ys=>eD rfl rfl
 unfold aE
 simp only [List.map_cons,List.map_nil,hB]
 refine ⟨rfl,fun m vs hinv hfree hlen hargs=>?_⟩
 obtain ⟨v0,v1,v2,rfl⟩:∃ v0 v1 v2,vs = #[v0,v1,v2]:=by
  match vs,hlen with
  | ⟨[a,b,c]⟩,_=>exact ⟨a,b,c,rfl⟩
 have a0:=hargs 0 _ v0 rfl rfl
 have a1:=hargs 1 _ v1 rfl rfl
 have a2:=hargs 2 _ v2 rfl rfl
 cases a1 with
 | d _ _ a1=>
 cases a1
 cases a2 with
 | d _ _ a2=>
 cases a2 with
 | sl sz _ A2 n2 c2 ad u hn2 hc2 hm2 hA2 hs2 hcell2 hr2=>
 obtain rfl:n2=1:=by simpa using hn2.symm
 obtain rfl:=hA2 (by decide)
 have hsz:sz=1:=by have:=hs2 [y] (by simp);simpa using this.symm
 subst hsz
 obtain ⟨hok,hcell⟩:=hcell2 0 [y] 0 y rfl rfl
 have hry:=hr2 0 [y] 0 y rfl rfl
 obtain ⟨vb,voff,sp⟩:=ad
 cases sp with
 | some s=>
   exfalso
   have:(m.w.cell? ((⟨vb,voff,some s⟩:Addr).add 0))=none:=by
    unfold World.cell? Addr.add
    simp
    split <;> rfl
   rw [Nat.zero_mul,Nat.add_zero,this] at hcell;cases hcell
 | none=>
 rw [Addr.add_lit] at hcell
 simp only [Nat.zero_mul,Nat.add_zero] at hcell hry
 cases a0 with
 | row _ _ _ Nn c A hρ hn hc=>
   have hb:=hinv.blk 0 0 _ rfl _ hρ
   obtain ⟨h0,_,flat,hown,hrd⟩:=hb
   change m.w.ownsRow 0 (ρ.t 9) 1 (.slice A Nn c) xs.length flat at hown
   change ∀ (i:Nat) x (j:Nat) y u,xs[i]? = some x->x[j]? = some y->flat[i*1+j]? = some u->RD m.w m.ok y u at hrd
   have hNn:Nn=xs.length:=by
    rcases hown.2 with ⟨b,b'⟩ | ⟨g,cap,cur,b1,_⟩
    . cases b;exact b'.symm
    . cases b1;rfl
   subst hNn
   have hfl:flat.length=xs.length:=by have:=hown.1;omega
   have hvU:∀ k,blkOf (.slice A xs.length c)=some k->m.U k:=fun k hk=>hinv.own 0 0 _ _ k rfl rfl hρ hk
   have hflat:∀ (j:Nat) u,flat[j]? = some u -> ∃ y,xs[j]? = some [y]/\RD m.w m.ok y u:=fun j u hu=>by
    have hj:j < xs.length:=by have:=(aAe.1 hu).1;omega
    obtain ⟨x,hxj⟩:∃ x,xs[j]? = some x:=⟨_,aAf hj⟩
    have hl:=hx x (aAg hxj)
    match x,hl with
    | [y],_=>exact ⟨y,hxj,hrd j [y] 0 y u hxj rfl (by rw [Nat.mul_one,Nat.add_zero];exact hu)⟩
   refine (ins_own L (.slice A xs.length c) xs.length i 1 flat [u 0] vb voff c2 m.w hown hi (by decide) rfl (by omega) (fun w hw=>?_) (fun w hw=>?_) (fun j w hw=>?_) (fun h=>?_)).mono ?_
   . obtain ⟨j,hj⟩:=List.getElem?_of_mem hw
     obtain ⟨y,_,h⟩:=hflat j w hj
     exact h.one
   . simp at hw;subst hw;exact hry.one
   . cases j with
     | zero=>simp at hw;subst hw;exact hcell
     | succ j=>simp at hw
   . rw [own_slice] at h
     exact hok.2 (hvU vb h)
   . rintro e w' ⟨v',rfl,hown',hgr,hat⟩
     have hv'b:v'.ownBlock=blkOf v':=by
      rcases hown'.2 with ⟨b,_⟩ | ⟨g,cap,cur,b1,_⟩
      . rw [b];rfl
      . rw [b1];rfl
     rw [own_slice] at hgr hat
     rw [hv'b] at hat
     have hlen':(xs.take i ++ [[y]]++xs.drop i).length=xs.length+1:=by simp;omega
     have hall:∀ x ∈ xs.take i ++ [[y]]++xs.drop i,x.length=1:=fun x hxm=>by
      simp only [aA5,aAy] at hxm
      rcases hxm with (h | h) | h
      . exact hx x (aA6 h)
      . rw [h];rfl
      . exact hx x (aA7 h)
     obtain ⟨m',e1,e2,e3,e4,e5⟩:=give_row (xs':=xs.take i ++ [[y]]++xs.drop i) (v':=v') hinv hρ hfree hall (by rw [hlen'];exact hown') hgr hat (fun k x j z u' hk hj hu=>by
      have hxl:=hall x (aAg hk)
      obtain rfl:j=0:=by have:=(aAe.1 hj).1;omega
      rw [Nat.mul_one,Nat.add_zero,ins_get (m:=1) (by omega) rfl] at hu
      rw [ins_get (m:=1) hi rfl] at hk
      by_cases h1:k < i
      . rw [if_pos h1] at hu hk
        obtain ⟨q,hq,hr⟩:=hflat k u' hu
        rw [hq] at hk;cases hk;simp at hj;subst hj;exact hr
      . rw [if_neg h1] at hu hk
        by_cases h2:k < i+1
        . rw [if_pos h2] at hu hk
          obtain rfl:k=i:=by omega
          simp at hu hk
          subst hk;subst hu;simp at hj;subst hj
          exact hry
        . rw [if_neg h2] at hu hk
          obtain ⟨q,hq,hr⟩:=hflat (k - 1) u' hu
          rw [hq] at hk;cases hk;simp at hj;subst hj;exact hr)
     refine ⟨v',m',rfl,e1,e2,fun i hi=>?_,e4,?_⟩
     . obtain rfl:i=0:=by simpa using hi
       exact e3
     . rcases hown'.2 with ⟨b,b'⟩ | ⟨g,cap,cur,b1,_,_,b2,_⟩
       . omega
       . subst b1
         exact .row 0 0 _ _ _ _ e5 (aBo _) b2
abbrev OneV:={ v:Value // v.oneCell'=true }
def zeroV:OneV:=⟨.slice none 0 0,rfl⟩
instance:Inhabited OneV:=⟨zeroV⟩
theorem holds_flat {w:World} {g:Nat} {cur:Array Value} {e:TypeId} {xs:List OneV} (hg:w.heap[g]? = some (.cells cur e (0,0))) (h:∀ j,j < xs.length->cur[j]? = (xs[j]?).map (·.1)):Go.Sort.Holds (Subtype.val:OneV->Value) w g 0 xs.toArray:=by
 intro j hj
 have hj':j < xs.length:=by simpa using hj
 refine ⟨?_,frozen_none hg _⟩
 rw [cell_at hg,Nat.zero_add,h j hj',aAf hj']
 simp [hj']
theorem del_own {P:Program} {ρ:Ren} (L:SlLaysE.n45 P ρ) (v23:∀ w,(zeroValue (ρ.t 23)).run P w = .ok (.slice none 0 0) w) (i0:TypeInfo) (hi0:P.info? (ρ.t 23)=some i0) (hz1:i0.size=1) (g n cap i j:Nat) (cur:Array Value) (xs:List OneV) (w:World)
 (hg:w.heap[g]? = some (.cells cur (ρ.t 23) (0,0))) (hn:xs.length=n) (h1:n<=cap) (h2:cap<=maxLen) (h3:cur.size=cap) (h4:cur.toList.take n=xs.map (·.1)) (hij:i<=j) (hj:j<=n) :
 Calls P (ρ.f 45) #[.slice (some ⟨g,0,none⟩) n cap,.int .i64 i,.int .i64 j] w fun e w'=>e = .returned (.slice (some ⟨g,0,none⟩) (n - (j - i)) cap) /\
  w'.ownsRow 0 (ρ.t 23) 1 (.slice (some ⟨g,0,none⟩) n cap) n ((xs.take i++xs.drop j++List.replicate (j - i) zeroV).map (fun x:OneV=>x.1))/\w.grownBy w' (some g):=by
 have hcur:∀ k,k < n->cur[k]? = (xs[k]?).map (·.1):=fun k hk=>by
  have:=congrArg (fun l=>l[k]?) h4
  simpa [aA0,hk] using this
 have hH:=holds_flat hg (fun k hk=>hcur k (by omega))
 have hsz:xs.toArray.size=n:=by simpa using hn
 have:=AnyE.slices_Delete L (Subtype.val:OneV->Value) (fun x=>x.2) zeroV v23 i0 hi0 hz1 g 0 cap i j xs.toArray w hH (by omega) (aBp h2 (by unfold maxLen;decide)) hij (by omega)
 rw [hsz] at this
 refine this.mono ?_
 rintro e w' ⟨rfl,q,hw⟩
 generalize hys:xs.take i++xs.drop j++List.replicate (j - i) zeroV=ys
 have hyl:ys.length=n:=by rw [<- hys];simp;omega
 have hys':(xs.toArray.toList.take i++xs.toArray.toList.drop j++List.replicate (j - i) zeroV).toArray=ys.toArray:=by rw [<- hys]
 rw [hys',putRow_eq_setCells (Subtype.val:OneV->Value) w g 0 xs.toArray ys q hH (by omega)] at hw
 obtain ⟨cur',c1,c2,c3⟩:=setCells_block (ys.map (·.1)) 0 (w.drewN q) cur hg
 obtain ⟨o1,o2,o3,o4,o5⟩:=setCells_rest g (ys.map (·.1)) 0 (w.drewN q)
 rw [<- hw] at c1 o1 o2 o3 o4 o5
 refine ⟨rfl,⟨by simp [hyl],.inr ⟨g,cap,cur',rfl,aBn _,c1,h1,h2,by omega,?_⟩⟩,⟨o1,o2,o3,Nat.le_of_eq o4.symm,fun k hk hne=>o5 k (fun e=>hne (by rw [e]))⟩⟩
 apply List.ext_getElem?
 intro k
 rw [aA0,Nat.mul_one]
 by_cases hk:k < n
 . rw [if_pos hk,aBv,c3 k,if_pos (by rw [aAh];omega),Nat.sub_zero]
 . rw [if_neg hk,List.getElem?_eq_none (by rw [aAh];omega)]
theorem del_eq {ρ:Ren} (L:SlLaysE.n45 X.P ρ) (v23:∀ w,(zeroValue (ρ.t 23)).run X.P w = .ok (.slice none 0 0) w) (i0:TypeInfo) (hi0:X.P.info? (ρ.t 23)=some i0) (hz1:i0.size=1) (xs:List (List DV)) (hx:∀ x ∈ xs,x.length=1) (i j:Nat) (hij:i<=j) (hj:j<=xs.length) (h0:0 < xs.length) (ht23:Nat.ble 64 1=false) (H:List (List Blk)) :
 aE X H (ρ.f 45) [⟨ρ.t 23,1,xs⟩] [.row 0 0 xs.length,.d (.int .i64 i),.d (.int .i64 j)] [none] (.row 0 0 (xs.length - (j - i))) [⟨ρ.t 23,1,xs.take i++xs.drop j++List.replicate (j - i) [.sl []]⟩]:=by
 have hB:∀ ys,RowB.blk ⟨ρ.t 23,1,ys⟩ = .row (ρ.t 23) 1 ys:=fun ys=>eD rfl rfl
 unfold aE
 simp only [List.map_cons,List.map_nil,hB]
 refine ⟨rfl,fun m vs hinv hfree hlen hargs=>?_⟩
 obtain ⟨v0,v1,v2,rfl⟩:∃ v0 v1 v2,vs = #[v0,v1,v2]:=by
  match vs,hlen with
  | ⟨[a,b,c]⟩,_=>exact ⟨a,b,c,rfl⟩
 have a0:=hargs 0 _ v0 rfl rfl
 have a1:=hargs 1 _ v1 rfl rfl
 have a2:=hargs 2 _ v2 rfl rfl
 cases a1 with
 | d _ _ a1=>
 cases a1
 cases a2 with
 | d _ _ a2=>
 cases a2
 cases a0 with
 | row _ _ _ Nn c A hρ hn hc=>
   have hb:=hinv.blk 0 0 _ rfl _ hρ
   obtain ⟨_,_,flat,hown,hrd⟩:=hb
   change m.w.ownsRow 0 (ρ.t 23) 1 (.slice A Nn c) xs.length flat at hown
   change ∀ (i:Nat) x (j:Nat) y u,xs[i]? = some x->x[j]? = some y->flat[i*1+j]? = some u->RD m.w m.ok y u at hrd
   rcases hown.2 with ⟨b,b'⟩ | ⟨g,cap,cur,b1,_,hg,b2,b3,b4,b5⟩
   . omega
   cases b1
   have hfl:flat.length=xs.length:=by have:=hown.1;omega
   have hflat:∀ (j:Nat) u,flat[j]? = some u -> ∃ y,xs[j]? = some [y]/\RD m.w m.ok y u:=fun j u hu=>by
    have hj:j < xs.length:=by have:=(aAe.1 hu).1;omega
    obtain ⟨x,hxj⟩:∃ x,xs[j]? = some x:=⟨_,aAf hj⟩
    have hl:=hx x (aAg hxj)
    match x,hl with
    | [y],_=>exact ⟨y,hxj,hrd j [y] 0 y u hxj rfl (by rw [Nat.mul_one,Nat.add_zero];exact hu)⟩
   obtain ⟨fs,hfs⟩:∃ fs:List OneV,fs.map (·.1)=flat:=by
    refine ⟨flat.pmap (fun v h=>⟨v,h⟩) (fun v hv=>?_),?_⟩
    . obtain ⟨k,hk⟩:=List.getElem?_of_mem hv
      obtain ⟨y,_,h⟩:=hflat k v hk
      exact h.one
    . rw [List.map_pmap];simp
   have hfsl:fs.length=xs.length:=by rw [<- hfl,<- hfs,aAh]
   refine (del_own L v23 i0 hi0 hz1 g xs.length c i j cur fs m.w hg hfsl b2 b3 (by omega) (by rw [hfs];rw [<- b5,Nat.mul_one]) hij hj).mono ?_
   rintro e w' ⟨rfl,hown',hgr⟩
   have hall:∀ x ∈ xs.take i++xs.drop j++List.replicate (j - i) [DV.sl []],x.length=1:=fun x hxm=>by
    simp only [aA5,List.mem_replicate] at hxm
    rcases hxm with (h | h) | ⟨_,h⟩
    . exact hx x (aA6 h)
    . exact hx x (aA7 h)
    . rw [h];rfl
   have hl':(xs.take i++xs.drop j++List.replicate (j - i) [DV.sl []]).length=xs.length:=by simp;omega
   have hti:(xs.take i).length=i:=by rw [aAl];omega
   have hfi:(fs.take i).length=i:=by rw [aAl];omega
   obtain ⟨m',e1,e2,e3,e4,e5⟩:=give_row (xs':=xs.take i++xs.drop j++List.replicate (j - i) [.sl []]) (v':=.slice (some ⟨g,0,none⟩) xs.length c) hinv hρ hfree hall (by rw [hl'];exact hown') hgr (.inl rfl) (fun k x t z u' hk ht hu=>by
    have hxl:=hall x (aAg hk)
    obtain rfl:t=0:=by have:=(aAe.1 ht).1;omega
    rw [Nat.mul_one,Nat.add_zero,aAi] at hu
    obtain ⟨f,hf,rfl⟩:=aBq.1 hu
    have fl:∀ (q:Nat) (f:OneV),fs[q]? = some f->flat[q]? = some f.1:=fun q f h=>by rw [<- hfs,aAi,h];rfl
    by_cases h1:k < i
    . rw [aBb,aAk (by omega),aA0,if_pos h1] at hf hk
      obtain ⟨q,hq,hr⟩:=hflat k _ (fl k f hf)
      rw [hq] at hk;cases hk;simp at ht;subst ht;exact hr
    . by_cases h2:k < i+(xs.length - j)
      . rw [aBb,aAj (by omega),aAk (by rw [aAq];omega),aA1] at hf hk
        rw [hfi] at hf
        rw [hti] at hk
        obtain ⟨q,hq,hr⟩:=hflat _ _ (fl _ f hf)
        rw [hq] at hk;cases hk;simp at ht;subst ht;exact hr
      . rw [aAj (by simp;omega)] at hf hk
        have h3:=aAg hf
        have h4:=aAg hk
        rw [List.mem_replicate] at h3 h4
        rw [h4.2] at ht
        simp at ht
        subst ht
        rw [h3.2]
        exact .sl 1 [] none 0 0 ⟨0,0,none⟩ (fun _=>.bool true) rfl (aBo _) (by decide) (fun h=>absurd h (by decide)) (fun x h=>by cases h) (fun i x j y h=>by simp at h) (fun i x j y h=>by simp at h))
   refine ⟨_,m',rfl,e1,e2,fun t ht=>?_,e4,.row 0 0 _ _ _ _ e5 (by omega) b2⟩
   obtain rfl:t=0:=by simpa using ht
   exact e3
end Go.Proofs.Ve
namespace Go.Proofs.Ve
open Go Go.Proofs Go.Shelf Go.RowKit Go.Lib
def renIK:Ren:=⟨fun | 22=>61 | 29=>71 | 30=>72 | n=>n,fun | 9=>27 | 24=>22 | n=>n,fun n=>n⟩
def renIC:Ren:=⟨fun | 22=>62 | 29=>73 | 30=>74 | n=>n,fun | 9=>32 | 24=>23 | n=>n,fun n=>n⟩
theorem laysIK:InsL Try.prog renIK (.slice none 0 0):={
 mixed:=by kernel_rfl
 f22:=⟨Try.f61.name,by decide,Try.func61.trans (congrArg some (by kernel_rfl))⟩
 ov:=fun w vb voff m vc b o lb cb tA tB kA kB h1 h2 h3 h4 h5=>by
  show (callFunc 71 _).run _ w=_
  rw [run_callFunc_extern Try.func71 (by kernel_rfl) (by kernel_rfl) (by kernel_rfl) (e:=Extern.SlicesOverlaps.overlaps #[22,22] #[4]) (by kernel_rfl),
   overlaps_own w 22 4 27 Try.underlying22 1 Try.sizeOf27 ⟨vb,voff,none⟩ ⟨b,o,none⟩ m vc lb cb h1 tA tB kA kB h2 h3 h4 (h5 _) (h5 _)]
  rfl
 t0:=Try.underlying0
 a0:=Try.isAgg0
 z0:=Try.sizeOf0
 v0:=Try.zeroValue0
 t3:=Try.underlying3
 a3:=Try.isAgg3
 z3:=Try.sizeOf3
 v3:=Try.zeroValue3
 t4:=Try.underlying4
 a4:=Try.isAgg4
 z4:=Try.sizeOf4
 v4:=Try.zeroValue4
 a9:=Try.isAgg27
 z9:=Try.sizeOf27
 v9:=Try.zeroValue27
 t24:=Try.underlying22
 a24:=Try.isAgg22
 z24:=Try.sizeOf22
 v24:=Try.zeroValue22
 i9:=by kernel_rfl
 cz:=rfl }
theorem laysIC:InsL Try.prog renIC (.slice none 0 0):={
 mixed:=by kernel_rfl
 f22:=⟨Try.f62.name,by decide,Try.func62.trans (congrArg some (by kernel_rfl))⟩
 ov:=fun w vb voff m vc b o lb cb tA tB kA kB h1 h2 h3 h4 h5=>by
  show (callFunc 73 _).run _ w=_
  rw [run_callFunc_extern Try.func73 (by kernel_rfl) (by kernel_rfl) (by kernel_rfl) (e:=Extern.SlicesOverlaps.overlaps #[23,23] #[4]) (by kernel_rfl),
   overlaps_own w 23 4 32 Try.underlying23 1 Try.sizeOf32 ⟨vb,voff,none⟩ ⟨b,o,none⟩ m vc lb cb h1 tA tB kA kB h2 h3 h4 (h5 _) (h5 _)]
  rfl
 t0:=Try.underlying0
 a0:=Try.isAgg0
 z0:=Try.sizeOf0
 v0:=Try.zeroValue0
 t3:=Try.underlying3
 a3:=Try.isAgg3
 z3:=Try.sizeOf3
 v3:=Try.zeroValue3
 t4:=Try.underlying4
 a4:=Try.isAgg4
 z4:=Try.sizeOf4
 v4:=Try.zeroValue4
 a9:=Try.isAgg32
 z9:=Try.sizeOf32
 v9:=Try.zeroValue32
 t24:=Try.underlying23
 a24:=Try.isAgg23
 z24:=Try.sizeOf23
 v24:=Try.zeroValue23
 i9:=by kernel_rfl
 cz:=rfl }
def renDK:Ren:=⟨fun | 45=>65 | n=>n,fun | 22=>22 | 23=>27 | n=>n,fun n=>n⟩
theorem laysDK:SlLaysE.n45 Try.prog renDK:={
 mixed:=by kernel_rfl
 f45:=⟨Try.f65.name,by decide,Try.func65.trans (congrArg some (by kernel_rfl))⟩
 t0:=Try.underlying0
 a0:=Try.isAgg0
 z0:=Try.sizeOf0
 v0:=Try.zeroValue0
 t3:=Try.underlying3
 a3:=Try.isAgg3
 z3:=Try.sizeOf3
 v3:=Try.zeroValue3
 t4:=Try.underlying4
 a4:=Try.isAgg4
 z4:=Try.sizeOf4
 v4:=Try.zeroValue4
 t22:=Try.underlying22
 a22:=Try.isAgg22
 z22:=Try.sizeOf22
 v22:=Try.zeroValue22
 a23:=Try.isAgg27
 z23:=Try.sizeOf27 }
def renDC:Ren:=⟨fun | 45=>66 | n=>n,fun | 22=>23 | 23=>32 | n=>n,fun n=>n⟩
theorem laysDC:SlLaysE.n45 Try.prog renDC:={
 mixed:=by kernel_rfl
 f45:=⟨Try.f66.name,by decide,Try.func66.trans (congrArg some (by kernel_rfl))⟩
 t0:=Try.underlying0
 a0:=Try.isAgg0
 z0:=Try.sizeOf0
 v0:=Try.zeroValue0
 t3:=Try.underlying3
 a3:=Try.isAgg3
 z3:=Try.sizeOf3
 v3:=Try.zeroValue3
 t4:=Try.underlying4
 a4:=Try.isAgg4
 z4:=Try.sizeOf4
 v4:=Try.zeroValue4
 t22:=Try.underlying23
 a22:=Try.isAgg23
 z22:=Try.sizeOf23
 v22:=Try.zeroValue23
 a23:=Try.isAgg32
 z23:=Try.sizeOf32 }
theorem d_insK (xs:List (List DV)) (hx:∀ x ∈ xs,x.length=1) (i:Nat) (hi:i<=xs.length) (y:DV) (hb:xs.length < 1000000) (H:List (List Blk)) :
 aE X H 61 [⟨27,1,xs⟩] [.row 0 0 xs.length,.d (.int .i64 i),.d (.sl [[y]])] [none] (.row 0 0 (xs.length+1)) [⟨27,1,xs.take i ++ [[y]]++xs.drop i⟩]:=
 ins_eq (ρ:=renIK) laysIK xs hx i hi y hb rfl H
theorem d_insC (xs:List (List DV)) (hx:∀ x ∈ xs,x.length=1) (i:Nat) (hi:i<=xs.length) (y:DV) (hb:xs.length < 1000000) (H:List (List Blk)) :
 aE X H 62 [⟨32,1,xs⟩] [.row 0 0 xs.length,.d (.int .i64 i),.d (.sl [[y]])] [none] (.row 0 0 (xs.length+1)) [⟨32,1,xs.take i ++ [[y]]++xs.drop i⟩]:=
 ins_eq (ρ:=renIC) laysIC xs hx i hi y hb rfl H
theorem one_size {P:Program} {t:TypeId} {z:Value} {b:Nat} (h:(P.info? t).map (fun i=>(i.zero,i.size,i.bytes))=some (some z,1,b)):∃ i0,P.info? t=some i0/\i0.size=1:=by
 obtain ⟨i0,h1,_,h2,_⟩:=info_parts h
 exact ⟨i0,h1,h2⟩
theorem d_delK (xs:List (List DV)) (hx:∀ x ∈ xs,x.length=1) (i j:Nat) (hij:i<=j) (hj:j<=xs.length) (h0:0 < xs.length) (H:List (List Blk)) :
 aE X H 65 [⟨27,1,xs⟩] [.row 0 0 xs.length,.d (.int .i64 i),.d (.int .i64 j)] [none] (.row 0 0 (xs.length - (j - i))) [⟨27,1,xs.take i++xs.drop j++List.replicate (j - i) [.sl []]⟩]:=by
 obtain ⟨i0,h1,h2⟩:=one_size (P:=X.P) (t:=27) laysIK.i9
 exact del_eq (ρ:=renDK) laysDK Try.zeroValue27 i0 h1 h2 xs hx i j hij hj h0 rfl H
theorem d_delC (xs:List (List DV)) (hx:∀ x ∈ xs,x.length=1) (i j:Nat) (hij:i<=j) (hj:j<=xs.length) (h0:0 < xs.length) (H:List (List Blk)) :
 aE X H 66 [⟨32,1,xs⟩] [.row 0 0 xs.length,.d (.int .i64 i),.d (.int .i64 j)] [none] (.row 0 0 (xs.length - (j - i))) [⟨32,1,xs.take i++xs.drop j++List.replicate (j - i) [.sl []]⟩]:=by
 obtain ⟨i0,h1,h2⟩:=one_size (P:=X.P) (t:=32) laysIC.i9
 exact del_eq (ρ:=renDC) laysDC Try.zeroValue32 i0 h1 h2 xs hx i j hij hj h0 rfl H
def aG (l:List (List Ver)):List (List DV):=l.map fun c=>[encVs c]
theorem bY (l:List (List UInt8)):∀ x ∈ aF l,x.length=1:=fun x hx=>by unfold aF at hx;simp only [aBc] at hx;obtain ⟨_,_,rfl⟩:=hx;rfl
theorem bZ (l:List (List Ver)):∀ x ∈ aG l,x.length=1:=fun x hx=>by unfold aG at hx;simp only [aBc] at hx;obtain ⟨_,_,rfl⟩:=hx;rfl
theorem sV {α β:Type} {f:α->β} {l:List α} {i:Nat} {x:α} (h:l[i]? = some x):(l.map f).set i (f x)=l.map f:=by
 refine List.ext_getElem? fun j=>?_
 rw [List.getElem?_set]
 have hi:=(aAe.1 h).1
 split
 . rename_i e;subst e
   rw [if_pos (by rw [aAh];omega),aAi,h];rfl
 . rfl
def mo50:List (Nat × Tr):=[(6,(.alt 0 (.alt 2 (.alt 3 (.alt 6 (.alt 8 (.alt 9 (.alt 1 (.alt 4 (.alt 5 (.alt 7 (.alt 12 (.alt 10 (.alt 11 (.alt 13 (.alt 14 (.alt 15 .fin .none) .none) .none) .none) .none) .none) (.alt 10 (.alt 7 (.alt 12 (.alt 11 (.alt 13 (.alt 14 (.alt 15 .fin .none) .none) .none) .none) .none) .none) .none)) (.alt 7 (.alt 5 (.alt 12 (.alt 10 (.alt 11 (.alt 13 (.alt 14 (.alt 15 .fin .none) .none) .none) .none) .none) .none) (.alt 10 (.alt 5 (.alt 12 (.alt 11 (.alt 13 (.alt 14 (.alt 15 .fin .none) .none) .none) .none) .none) .none) .none)) (.alt 10 (.alt 5 (.alt 7 (.alt 12 (.alt 11 (.alt 13 (.alt 14 (.alt 15 .fin .none) .none) .none) .none) .none) .none) (.alt 7 (.alt 5 (.alt 12 (.alt 11 (.alt 13 (.alt 14 (.alt 15 .fin .none) .none) .none) .none) .none) .none) .none)) .none))) (.alt 7 (.alt 4 (.alt 5 (.alt 12 (.alt 10 (.alt 11 (.alt 13 (.alt 14 (.alt 15 .fin .none) .none) .none) .none) .none) .none) (.alt 10 (.alt 5 (.alt 12 (.alt 11 (.alt 13 (.alt 14 (.alt 15 .fin .none) .none) .none) .none) .none) .none) .none)) (.alt 10 (.alt 4 (.alt 5 (.alt 12 (.alt 11 (.alt 13 (.alt 14 (.alt 15 .fin .none) .none) .none) .none) .none) .none) .none) .none)) (.alt 10 (.alt 4 (.alt 5 (.alt 7 (.alt 12 (.alt 11 (.alt 13 (.alt 14 (.alt 15 .fin .none) .none) .none) .none) .none) .none) (.alt 7 (.alt 5 (.alt 12 (.alt 11 (.alt 13 (.alt 14 (.alt 15 .fin .none) .none) .none) .none) .none) .none) .none)) (.alt 7 (.alt 4 (.alt 5 (.alt 12 (.alt 11 (.alt 13 (.alt 14 (.alt 15 .fin .none) .none) .none) .none) .none) .none) .none) .none)) .none))) (.alt 4 (.alt 1 (.alt 5 (.alt 7 (.alt 12 (.alt 10 (.alt 11 (.alt 13 (.alt 14 (.alt 15 .fin .none) .none) .none) .none) .none) .none) (.alt 10 (.alt 7 (.alt 12 (.alt 11 (.alt 13 (.alt 14 (.alt 15 .fin .none) .none) .none) .none) .none) .none) .none)) (.alt 7 (.alt 5 (.alt 12 (.alt 10 (.alt 11 (.alt 13 (.alt 14 (.alt 15 .fin .none) .none) .none) .none) .none) .none) (.alt 10 (.alt 5 (.alt 12 (.alt 11 (.alt 13 (.alt 14 (.alt 15 .fin .none) .none) .none) .none) .none) .none) .none)) (.alt 10 (.alt 5 (.alt 7 (.alt 12 (.alt 11 (.alt 13 (.alt 14 (.alt 15 .fin .none) .none) .none) .none) .none) .none) (.alt 7 (.alt 5 (.alt 12 (.alt 11 (.alt 13 (.alt 14 (.alt 15 .fin .none) .none) .none) .none) .none) .none) .none)) .none))) (.alt 7 (.alt 1 (.alt 5 (.alt 12 (.alt 10 (.alt 11 (.alt 13 (.alt 14 (.alt 15 .fin .none) .none) .none) .none) .none) .none) (.alt 10 (.alt 5 (.alt 12 (.alt 11 (.alt 13 (.alt 14 (.alt 15 .fin .none) .none) .none) .none) .none) .none) .none)) (.alt 10 (.alt 1 (.alt 5 (.alt 12 (.alt 11 (.alt 13 (.alt 14 (.alt 15 .fin .none) .none) .none) .none) .none) .none) .none) .none)) (.alt 10 (.alt 1 (.alt 5 (.alt 7 (.alt 12 (.alt 11 (.alt 13 (.alt 14 (.alt 15 .fin .none) .none) .none) .none) .none) .none) (.alt 7 (.alt 5 (.alt 12 (.alt 11 (.alt 13 (.alt 14 (.alt 15 .fin .none) .none) .none) .none) .none) .none) .none)) (.alt 7 (.alt 1 (.alt 5 (.alt 12 (.alt 11 (.alt 13 (.alt 14 (.alt 15 .fin .none) .none) .none) .none) .none) .none) .none) .none)) .none))) (.alt 7 (.alt 1 (.alt 4 (.alt 5 (.alt 12 (.alt 10 (.alt 11 (.alt 13 (.alt 14 (.alt 15 .fin .none) .none) .none) .none) .none) .none) (.alt 10 (.alt 5 (.alt 12 (.alt 11 (.alt 13 (.alt 14 (.alt 15 .fin .none) .none) .none) .none) .none) .none) .none)) (.alt 10 (.alt 4 (.alt 5 (.alt 12 (.alt 11 (.alt 13 (.alt 14 (.alt 15 .fin .none) .none) .none) .none) .none) .none) .none) .none)) (.alt 4 (.alt 1 (.alt 5 (.alt 12 (.alt 10 (.alt 11 (.alt 13 (.alt 14 (.alt 15 .fin .none) .none) .none) .none) .none) .none) (.alt 10 (.alt 5 (.alt 12 (.alt 11 (.alt 13 (.alt 14 (.alt 15 .fin .none) .none) .none) .none) .none) .none) .none)) (.alt 10 (.alt 1 (.alt 5 (.alt 12 (.alt 11 (.alt 13 (.alt 14 (.alt 15 .fin .none) .none) .none) .none) .none) .none) .none) .none)) (.alt 10 (.alt 1 (.alt 4 (.alt 5 (.alt 12 (.alt 11 (.alt 13 (.alt 14 (.alt 15 .fin .none) .none) .none) .none) .none) .none) .none) (.alt 4 (.alt 1 (.alt 5 (.alt 12 (.alt 11 (.alt 13 (.alt 14 (.alt 15 .fin .none) .none) .none) .none) .none) .none) .none) .none)) .none))) (.alt 10 (.alt 1 (.alt 4 (.alt 5 (.alt 7 (.alt 12 (.alt 11 (.alt 13 (.alt 14 (.alt 15 .fin .none) .none) .none) .none) .none) .none) (.alt 7 (.alt 5 (.alt 12 (.alt 11 (.alt 13 (.alt 14 (.alt 15 .fin .none) .none) .none) .none) .none) .none) .none)) (.alt 7 (.alt 4 (.alt 5 (.alt 12 (.alt 11 (.alt 13 (.alt 14 (.alt 15 .fin .none) .none) .none) .none) .none) .none) .none) .none)) (.alt 4 (.alt 1 (.alt 5 (.alt 7 (.alt 12 (.alt 11 (.alt 13 (.alt 14 (.alt 15 .fin .none) .none) .none) .none) .none) .none) (.alt 7 (.alt 5 (.alt 12 (.alt 11 (.alt 13 (.alt 14 (.alt 15 .fin .none) .none) .none) .none) .none) .none) .none)) (.alt 7 (.alt 1 (.alt 5 (.alt 12 (.alt 11 (.alt 13 (.alt 14 (.alt 15 .fin .none) .none) .none) .none) .none) .none) .none) .none)) (.alt 7 (.alt 1 (.alt 4 (.alt 5 (.alt 12 (.alt 11 (.alt 13 (.alt 14 (.alt 15 .fin .none) .none) .none) .none) .none) .none) .none) (.alt 4 (.alt 1 (.alt 5 (.alt 12 (.alt 11 (.alt 13 (.alt 14 (.alt 15 .fin .none) .none) .none) .none) .none) .none) .none) .none)) .none))) .none)))) .none) .none) .none) .none) .none) .none)),(11,(.alt 0 (.alt 2 (.alt 3 (.alt 5 (.alt 8 (.alt 9 (.alt 1 (.alt 4 (.alt 6 (.alt 7 (.alt 10 (.alt 11 (.alt 12 .fin .none) .none) .none) .none) .none) .none) (.alt 4 (.alt 1 (.alt 6 (.alt 7 (.alt 10 (.alt 11 (.alt 12 .fin .none) .none) .none) .none) .none) (.alt 6 (.alt 1 (.alt 7 (.alt 10 (.alt 11 (.alt 12 .fin .none) .none) .none) .none) (.alt 7 (.alt 1 (.alt 10 (.alt 11 (.alt 12 .fin .none) .none) .none) (.alt 10 (.alt 1 (.alt 11 (.alt 12 .fin .none) .none) .none) .none)) .none)) .none)) .none)) .none) .none) .none) .none) .none) .none))]
end Go.Proofs.Ve
