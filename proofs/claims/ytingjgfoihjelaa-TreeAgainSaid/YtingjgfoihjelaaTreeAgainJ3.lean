/- TreeAgain, part 3 of 7. The engine and the contracts that the proof needs. -/
import Derived.LoopN
import Derived.RangeFuncNested
import Derived.RangeFuncBound
import Derived.Test.YtingjgfoihjelaaTreeAgainJ1
import Derived.Test.YtingjgfoihjelaaTreeAgainJ2
set_option maxRecDepth 100000
set_option maxHeartbeats 20000000
set_option linter.all false
open List renaming getElem?_eq_some_iff -> aAe, getElem?_eq_getElem -> aAf, mem_of_getElem? -> aAg, length_map -> aAh, getElem?_map -> aAi, getElem?_append_right -> aAj, getElem?_append_left -> aAk, length_take -> aAl, length_append -> aAm, length_cons -> aAn, length_nil -> aAo, length_set -> aAp, length_drop -> aAq, getElem?_set_self -> aAr, getElem?_set_ne -> aAs, take_of_length_le -> aAt, mem_cons_self -> aAu, mem_cons_of_mem -> aAv, take_length -> aAw, map_map -> aAx, mem_singleton -> aAy, drop_eq_nil_of_le -> aAz, getElem?_take -> aA0, getElem?_drop -> aA1, getD_eq_getElem?_getD -> aA2, pairwise_cons -> aA3, pairwise_append -> aA4, mem_append -> aA5, mem_of_mem_take -> aA6, mem_of_mem_drop -> aA7, mem_flatMap -> aA8, getElem?_cons_zero -> aA9, getElem?_cons_succ -> aBa, append_assoc -> aBb, mem_map -> aBc, all_eq_true -> aBd, mem_range -> aBe, getElem_mem -> aBf, drop_eq_getElem_cons -> aBg, length_replicate -> aBh, getElem?_toArray -> aBx, mem_iff_getElem? -> aB4
open Int renaming toNat_natCast -> aBi
open Nat renaming eq_of_beq_eq_true -> aBj, lt_of_lt_of_le -> aBk, lt_or_ge -> aBl, lt_succ_self -> aBm, zero_le -> aBn, le_refl -> aBo, le_trans -> aBp, le_succ -> aBu, sub_self -> aB2, add_sub_cancel -> aB3
open Option renaming map_eq_some_iff -> aBq, map_some -> aBz, getD_some -> aB0
open Option.some renaming inj -> aBr
open Bool renaming and_eq_true -> aBs, false_ne_true -> aBt, or_eq_true -> aB1
open Array renaming getElem?_toList -> aBv, getElem?_eq_some_iff -> aBw, length_toList -> aBy
namespace Go.Proofs.Ve
open Go
theorem RD.mark {w w':World} {ok ok':Nat->Prop} (hc:∀ a,w'.cell? a=w.cell? a) (ho:∀ k,ok k->ok' k) {x:DV} {v:Value} (h:RD w ok x v):RD w' ok' x v:=by
 induction h with
 | bool b=>exact .bool b
 | int k n=>exact .int k n
 | str s=>exact .str s
 | junk v h=>exact .junk v h
 | val v h=>exact .val v h
 | sl sz xs A n c ad u hn hcc hm hA hs hcell hr ih=>
   exact .sl sz xs A n c ad u hn hcc hm hA hs (fun i x j y hx hy=>⟨ho _ (hcell i x j y hx hy).1,(hc _).trans (hcell i x j y hx hy).2⟩) ih
structure Mark (m:M) (w':World) (g:Nat):Prop where
 os:w'.os=m.w.os
 tape:w'.tape=m.w.tape
 output:w'.output=m.w.output
 size:w'.heap.size=m.w.heap.size
 heap:∀ k,k≠g->w'.heap[k]? = m.w.heap[k]?
 cell:∀ a,w'.cell? a=m.w.cell? a
 free:¬ m.U g
theorem RP.mark {m:M} {w':World} {g:Nat} (h:Mark m w' g) {p:PV} {v:Value} (hp:RP m p v):RP ⟨w',m.ρ,m.U⟩ p v:=by
 have ok:∀ k,m.ok k->(⟨w',m.ρ,m.U⟩:M).ok k:=fun k hk=>⟨by show k < w'.heap.size;rw [h.size];exact hk.1,hk.2⟩
 induction hp with
 | any v=>exact .any v
 | kb b=>exact .kb b
 | ub b=>exact .ub b
 | d x v hx=>exact .d x v (hx.mark h.cell ok)
 | nils=>exact .nils
 | emp ad=>exact .emp ad
 | row l i n N c A hl hn hc=>exact .row l i n N c A hl hn hc
 | ptr l i o g hl=>exact .ptr l i o g hl
 | rptr l i sz e j g N c hl=>exact .rptr l i sz e j g N c hl
 | iptr cs ad u hc hr=>exact .iptr cs ad u (fun j y hy=>⟨ok _ (hc j y hy).1,(h.cell _).trans (hc j y hy).2⟩) (fun j y hy=>(hr j y hy).mark h.cell ok)
 | func fn fs cs fv cv h1 h2 h3 h4 ih1 ih2=>exact .func fn fs cs fv cv h1 h2 ih1 ih2
 | agg cs vs h1 h2 ih=>exact .agg cs vs h1 ih
 | tuple cs vs h1 h2 ih=>exact .tuple cs vs h1 ih
 | yld Y v h=>exact .yld Y v h
 | lits sz xs ad u h0 hm hs hc hr ih=>exact .lits sz xs ad u h0 hm hs (fun i x j y hx hy=>⟨ok _ (hc i x j y hx hy).1,(h.cell _).trans (hc i x j y hx hy).2⟩) ih
theorem BlkOk.mark {m:M} {w':World} {g:Nat} (h:Mark m w' g) {l i:Nat} {b:Blk} (hu:∀ v k,b.live=true->m.ρ l i=some v->b.has m.w v k->m.U k) (hb:BlkOk m l i b):BlkOk ⟨w',m.ρ,m.U⟩ l i b:=by
 have ok:∀ k,m.ok k->(⟨w',m.ρ,m.U⟩:M).ok k:=fun k hk=>⟨by show k < w'.heap.size;rw [h.size];exact hk.1,hk.2⟩
 cases b with
 | dead=>trivial
 | gen Y st=>trivial
 | sub _ _ _=>trivial
 | box cs=>
   intro v hv
   obtain ⟨g',vs,e,rfl,hg,hs,hc⟩:=hb v hv
   exact ⟨g',vs,e,rfl,(h.heap g' (fun e=>h.free (e ▸ hu _ g' rfl hv rfl))).trans hg,hs,fun j p u hj hx=>RP.mark (m:=m.up l) ⟨h.os,h.tape,h.output,h.size,h.heap,h.cell,h.free⟩ (hc j p u hj hx)⟩
 | row e sz xs=>
   intro v hv
   obtain ⟨h0,h1,flat,ho,hc⟩:=hb v hv
   exact ⟨h0,h1,flat,ownsRow_same ho (fun k hk=>h.heap k (fun e=>h.free (e ▸ hu _ k rfl hv hk))),fun i x j y u hx hy hv=>(hc i x j y u hx hy hv).mark h.cell ok⟩
 | deep e sz xs=>
   intro v hv
   exact (hb v hv).move (fun x v hx=>hx.mark h.cell ok) (fun k hk=>h.heap k (fun e=>h.free (e ▸ hu _ k rfl hv hk)))
theorem Mark.back {m:M} {top:List Blk} {H:List (List Blk)} (hi:Inv m top H) {w':World} {g:Nat} (h:Mark m w' g) {l i:Nat} {b:Blk} (hb:getB top H l i=some b) (hl:b.live=true) {v:Value} (hv:m.ρ l i=some v) {k:Nat} (hk:b.has w' v k):b.has m.w v k:=
 hi.back hb hl hv (fun k hu _=>h.heap k (fun e=>h.free (e ▸ hu))) hk
theorem Inv.mark {m:M} {top:List Blk} {H:List (List Blk)} (hi:Inv m top H) {w':World} {g:Nat} (h:Mark m w' g):Inv ⟨w',m.ρ,m.U⟩ top H:=
 ⟨fun l i b hb=>(hi.blk l i b hb).mark h (fun v k hl hv hk=>hi.own l i b v k hb hl hv hk),fun l i b l' i' b' v v' k h1 h2 h3 h4 h5 h6 h7 h8=>hi.inj l i b l' i' b' v v' k h1 h2 h3 h4 h5 h6 (h.back hi h1 h2 h5 h7) (h.back hi h3 h4 h6 h8),fun l i b v k h1 h2 h3 h4=>hi.own l i b v k h1 h2 h3 (h.back hi h1 h2 h3 h4),fun k hk=>by show k < w'.heap.size;rw [h.size];exact hi.lt k hk,
  hi.sub.of (fun i p e c v h1 h2=>⟨h1,h2⟩) (fun p V hV=>hV) (fun p et sz xs V h1 h2=>⟨h1,fun k hk=>h.heap k (fun e=>h.free (e ▸ hi.own 0 p _ V k h1 rfl h2 (Blk.has_head hk)))⟩)⟩
theorem fZ:∀ {top:List Blk},noGenB top=true -> ∀ (i:Nat) (Y:Yield) (st:Option Nat),top[i]? ≠ some (Blk.gen Y st)
 | [],_,i,Y,st=>by simp
 | b::top,h,i,Y,st=>by
   intro hb
   have hb2:noGenB top=true /\ ∀ Y st,b ≠ .gen Y st:=by
    cases b with
    | gen Y st=>cases (show false=true from h)
    | dead=>exact ⟨h,fun _ _ e=>by cases e⟩
    | box cs=>exact ⟨h,fun _ _ e=>by cases e⟩
    | row e sz xs=>exact ⟨h,fun _ _ e=>by cases e⟩
    | deep e sz xs=>exact ⟨h,fun _ _ e=>by cases e⟩
    | sub _ _ _=>exact ⟨h,fun _ _ e=>by cases e⟩
   cases i with
   | zero=>simp at hb;exact hb2.2 _ _ hb
   | succ i=>exact fZ hb2.1 i Y st (by simpa using hb)
theorem aV.mark {H:List (List Blk)} {m0:M0} {m:M} {a:Act} {tm:List PV} {top:List Blk} (hs:aV H m0 m a tm top) {w':World} {g:Nat} (h:Mark m w' g) (h0:m0.w.heap.size<=g) (hn:noGenB top=true):aV H m0 ⟨w',m.ρ,m.U⟩ a tm top:=by
 obtain ⟨s,V,c⟩:=hs
 have t:=s.since
 have hmn:∀ k,Mine ⟨w',m.ρ,m.U⟩ top k->Mine m top k:=fun k ⟨i,b,v,h1,h2,h3,h4⟩=>⟨i,b,v,h1,h2,h3,h.back s.inv (l:=0) h1 h2 h3 h4⟩
 have q:∀ k o,Quiet m top V k o->Quiet ⟨w',m.ρ,m.U⟩ top V k o:=fun k o q=>⟨(h.heap k (fun e=>h.free (e ▸ q.used))).trans q.heap,fun hk=>q.mine (hmn k hk),q.out,q.used⟩
 refine ⟨⟨s.inv.mark h,s.size,fun j p v hp hv=>(s.rel j p v hp hv).mark h,s.defers,s.free,⟨h.os.trans t.os,h.tape.trans t.tape,h.output.trans t.output,aBp t.size (Nat.le_of_eq h.size.symm),fun k hk h1 h2=>(h.heap k (fun e=>by rw [e] at hk;exact absurd hk (Nat.not_lt.2 h0))).trans (t.heap k hk h1 h2),t.up,t.U,fun k hk=>t.fresh k (hmn k hk)⟩,s.tsz,s.prot⟩,V,?_⟩
 exact ⟨c.one,c.used,c.more,c.old,fun k hk hm=>c.mine k hk (hmn k hm),fun i Y st hi=>absurd hi (fZ hn i Y st),fun k o hz=>q k o (c.z k o hz),c.nd,c.late,fun d hd=>by
  obtain ⟨D,h1,h2⟩:=c.d d hd
  exact ⟨D,h1,q _ _ h2⟩,fun l i b v k h1 h2 h3 h4=>c.far l i b v k h1 h2 h3 (h.back s.inv (l:=l+1) h1 h2 h3 h4)⟩
theorem nQ (w:World) (a:Addr) (n k:Nat) (h:k≠a.block):(w.freeze a n).heap[k]? = w.heap[k]?:=by
 unfold World.freeze
 split
 . rfl
 . show (w.heap.modify a.block _)[k]? = _
   rw [Array.getElem?_modify,if_neg (fun e=>h e.symm)]
theorem uC (w:World) (a:Addr) (n:Nat):(w.freeze a n).heap.size=w.heap.size:=by
 unfold World.freeze
 split
 . rfl
 . simp
theorem uD (w:World) (a:Addr) (n:Nat) (b:Addr):(w.freeze a n).cell? b=w.cell? b:=by
 by_cases h:b.block=a.block
 . unfold World.freeze
   split
   . rfl
   . unfold World.cell?
     show (match (w.heap.modify a.block _)[b.block]? with | some (.cells c _ _)=>if b.spot.isSome then none else c[b.off]? | _=>none)=_
     rw [Array.getElem?_modify,if_pos h.symm]
     cases w.heap[b.block]? with
     | none=>rfl
     | some o=>cases o <;> rfl
 . unfold World.cell?
   rw [nQ w a n _ h]
theorem zA {P:Program} {s e:TypeId} (hs:P.underlying s=some (.slice e)) (he:P.underlying e=some (.int .u8)) (m:M) (g n c:Nat) (hg:¬ m.U g) :
 ∃ w',(convert s s (.slice (some ⟨g,0,none⟩) n c)).run P m.w = .ok (.slice (some ⟨g,0,none⟩) n c) w'/\Mark m w' g:=by
 cases hsh:m.w.shape? g with
 | none=>exact ⟨m.w,by simp [convert,run_underlying hs,run_underlying he,markStringish,hsh],⟨rfl,rfl,rfl,rfl,fun _ _=>rfl,fun _=>rfl,hg⟩⟩
 | some x=>
   obtain ⟨t,k⟩:=x
   refine ⟨m.w.freeze ⟨g,k,none⟩ 1,by simp [convert,run_underlying hs,run_underlying he,markStringish,hsh],⟨?_,?_,?_,uC _ _ _,fun j hj=>nQ _ _ _ _ hj,fun b=>uD _ _ _ _,hg⟩⟩ <;> (unfold World.freeze;split <;> rfl)
theorem xH {C:Cx} (hC:C.Ok) {H:List (List Blk)} {o:Oper} {t n:Nat} {parts:Array (Nat × Operand)} (ho:o.op = .buildSlice t (n+1) parts) {tm:List PV} {top:List Blk} {K:PV->List Blk->Prop} (h:opK C H o.op tm top K) :
 ∃ pv,K pv top /\ ∀ (m:M) (a:Act),Inv m top H->EvR m a tm o.op.operands.toList -> ∃ w',(execOp a.eval o).run C.P m.w = .ok (.value (.slice (some ⟨m.w.heap.size,0,none⟩) (n+1) (n+1))) w' /\
   Grow m ⟨w',m.ρ,m.U⟩/\m.w.heap.size < w'.heap.size/\Inv ⟨w',m.ρ,m.U⟩ top H/\RP ⟨w',m.ρ,m.U⟩ pv (.slice (some ⟨m.w.heap.size,0,none⟩) (n+1) (n+1)):=by
 rw [ho] at h
 have h:(match anyRow tm parts.toList with | true=>litsK C tm t (n+1) parts.toList (fun q=>K q top) | false=>plainK C tm top t (n+1) parts.toList K):=h
 split at h
 . obtain ⟨pv,hk,_,hh⟩:=rP hC (H:=H) (top:=top) ho h
   exact ⟨pv,hk,hh⟩
 unfold plainK at h
 obtain ⟨r,hr,ht_,h_⟩:=lookK_spec h
 clear h
 subst ht_
 have h:=h_
 clear h_
 split at h
 case h_2=>exact h.elim
 rename_i e hty0
 obtain ⟨r',hr',ht_,h_⟩:=lookK_spec h
 clear h
 subst ht_
 have h:=h_
 clear h_
 simp only [ifK] at h
 split at h
 case h_2=>exact h.elim
 rename_i hpos
 have hpos:0 < r'.size:=by simpa [Nat.blt_eq] using hpos
 split at h
 case h_2=>exact h.elim
 rename_i hmax
 have hmax:(n+1)*r'.size<=16777216:=Nat.le_of_ble_eq_true hmax
 obtain ⟨es,h,hel,hes,hfill⟩:=kZ (xs:=o.op.operands.toList) parts.toList 0 _ h (fun x hx=>by rw [ho];simp only [Op.operands,List.toList_toArray];exact List.mem_map_of_mem hx)
 rw [lenK_spec] at h
 split at h
 case h_2=>exact h.elim
 rename_i hn
 have hn:=aBj hn
 obtain ⟨i,z,d,hi,hs,hb,hz,hzz,hd,hty⟩:=aP hC hr
 obtain ⟨i',z',d',hi',hs',hb',hz',hzz',hd',hty'⟩:=aP hC hr'
 rw [hty0] at hty
 obtain ⟨e,rfl⟩:∃ e,d = .slice e:=by cases d <;> simp [tyOf] at hty <;> exact ⟨_,rfl⟩
 simp only [tyOf,Ty.slice.injEq] at hty
 subst hty
 have hrun0:∀ (m:M) (a:Act),EvR m a tm o.op.operands.toList -> ∃ arr:Array Value,arr.size=(n+1)*r'.size/\(execOp a.eval o).run C.P m.w = .ok (.value (.slice (some ⟨m.w.heap.size,0,none⟩) (n+1) (n+1))) (m.w.alloc (.cells arr r'.t (0,0))) /\
  ∀ (i:Nat) x (j:Nat) y u,es[i]? = some x->x[j]? = some y->arr[(0+i)*r'.size+j]? = some u->RD m.w m.ok y u:=by
  intro m a he
  obtain ⟨zc,hzc⟩:∃ zc:Array Value,zc=if (n+1)*r'.size=0 then #[] else z'.cells:=⟨_,rfl⟩
  obtain ⟨arr,h1,h2,_,h4⟩:=hfill m a ((Array.range ((n+1)*r'.size)).map (zc[· % zc.size]!)) he (by simp [<- hel,hn])
  have hsz:arr.size=(n+1)*r'.size:=by rw [h2];simp
  have hrun:(execOp a.eval o).run C.P m.w = .ok (.value (.slice (some ⟨m.w.heap.size,0,none⟩) (n+1) (n+1))) (m.w.alloc (.cells arr r'.t (0,0))):=by
   refine cH (s:=Instr.buildSlice r.t (n+1) (parts.map fun x=>(x.1,a.eval x.2))) (by simp [execOp,ho]) ?_
   simp only [Instr.buildSlice,Sem.run_bind,aU hd,Result.andThen_ok,bS hi',hs']
   rw [if_neg (by omega)]
   by_cases h0:(n+1)*r'.size=0
   . rw [if_pos h0] at hzc
     rw [if_pos h0,<- hzc]
     simp only [Sem.run_bind,Sem.run_pure,Result.andThen_ok,Array.toList_map]
     rw [h1]
     simp [newRow]
   . rw [if_neg h0] at hzc
     rw [if_neg h0]
     simp only [Sem.run_bind,gF hi' hz',Sem.run_pure,Result.andThen_ok,Array.toList_map]
     rw [<- hzc,h1]
     simp [newRow]
  exact ⟨arr,hsz,hrun,h4⟩
 change K (.d (.sl es)) top at h
 refine ⟨_,h,fun m a hinv he=>?_⟩
 obtain ⟨arr,hsz,hrun,h4⟩:=hrun0 m a he
 have hsz':(m.w.alloc (.cells arr r'.t (0,0))).heap.size=m.w.heap.size+1:=by simp
 have hg:Grow m ⟨m.w.alloc (.cells arr r'.t (0,0)),m.ρ,m.U⟩:=⟨rfl,rfl,rfl,by rw [hsz'];omega,fun k hk=>cF _ _ _ hk,fun _ _ _ h=>h,fun _ _=>Iff.rfl⟩
 refine ⟨_,hrun,hg,by rw [hsz'];omega,hinv.of_grow hg rfl rfl,?_⟩
 have hn1:es.length=n+1:=hn
 have cell:∀ (i:Nat) x (j:Nat) y,es[i]? = some x->x[j]? = some y -> ∃ u,arr[i*r'.size+j]? = some u:=fun i x j y hx hy=>by
  have h1:i < n+1:=by rw [<- hn1];exact (aAe.1 hx).1
  have h2:j < r'.size:=by rw [<- hes x (aAg hx)];exact (aAe.1 hy).1
  have h3:i*r'.size+r'.size<=(n+1)*r'.size:=by rw [<- Nat.succ_mul];exact Nat.mul_le_mul_right _ h1
  exact ⟨_,Array.getElem?_eq_getElem (by omega)⟩
 refine .d _ _ (.sl r'.size _ _ _ _ ⟨m.w.heap.size,0,none⟩ (fun k=>arr.getD k undef) hn1 (aBo _) (by have:n+1<=(n+1)*r'.size:=Nat.le_mul_of_pos_right _ hpos;omega) (fun _=>rfl) hes (fun i x j y hx hy=>?_) (fun i x j y hx hy=>?_))
 . obtain ⟨u,hu⟩:=cell i x j y hx hy
   refine ⟨⟨?_,fun hU=>?_⟩,?_⟩
   . show m.w.heap.size < (m.w.alloc (.cells arr r'.t (0,0))).heap.size;omega
   . have:=hinv.lt _ hU;simp at this
   . rw [bT,Nat.zero_add]
     have hh:=gE m.w (.cells arr r'.t (0,0))
     show (m.w.alloc (.cells arr r'.t (0,0))).cell? ⟨m.w.heap.size,i*r'.size+j,none⟩=_
     simp only [World.cell?,hh,hu]
     simp [hu]
 . obtain ⟨u,hu⟩:=cell i x j y hx hy
   have:=(h4 i x j y u hx hy (by rw [Nat.zero_add];exact hu)).keep hg.keep
   simpa [hu] using this
def gU (m0:M0) (m:M) (a:Act) (ds:List Nat):Prop:=∀ d ∈ ds,∃ k n c,a.tmps[d]? = some (.slice (some ⟨k,0,none⟩) n c)/\m0.w.heap.size<=k/\k < m.w.heap.size /\ ¬ m.U k
theorem zB {o:Option Nat} {ds:List Nat} {d:Nat} (h:d ∈ rmN o ds):d ∈ ds/\o≠some d:=by
 cases o with
 | none=>exact ⟨h,fun e=>by cases e⟩
 | some e=>
   induction ds with
   | nil=>cases h
   | cons x xs ih=>
     have h:d ∈ (match Nat.beq x e with | true=>rmN (some e) xs | false=>x::rmN (some e) xs):=h
     cases hb:Nat.beq x e with
     | true=>rw [hb] at h;exact ⟨aAv _ (ih h).1,(ih h).2⟩
     | false=>
       rw [hb] at h
       rcases List.mem_cons.1 h with rfl | h
       . refine ⟨aAu ..,fun e'=>?_⟩
         cases e'
         rw [Nat.beq_refl] at hb;cases hb
       . exact ⟨aAv _ (ih h).1,(ih h).2⟩
theorem qT:∀ {ds:List Nat} {t:Nat},memB ds t=true->t ∈ ds
 | [],t,h=>by cases h
 | x::xs,t,h=>by
   have h:(match Nat.beq x t with | true=>true | false=>memB xs t)=true:=h
   cases hb:Nat.beq x t with
   | true=>rw [aBj hb];exact aAu ..
   | false=>rw [hb] at h;exact aAv _ (qT h)
theorem gU.next {m0:M0} {m m':M} {a:Act} {ds:List Nat} (h:gU m0 m a ds) (hsz:m.w.heap.size<=m'.w.heap.size) (hU:∀ k,k < m.w.heap.size->(m'.U k↔m.U k)) (o:Option Nat) (v:Value):gU m0 m' (a.put o v) (rmN o ds):=by
 intro d hd
 obtain ⟨h1,h2⟩:=zB hd
 obtain ⟨k,n,c,q1,q2,q3,q4⟩:=h d h1
 refine ⟨k,n,c,?_,q2,aBk q3 hsz,fun hu=>q4 ((hU k q3).1 hu)⟩
 cases o with
 | none=>exact q1
 | some e=>
   simp only [Act.put]
   rw [Array.getElem?_setIfInBounds_ne (fun e'=>h2 (by rw [e'])),q1]
theorem uS {C:Cx} (hC:C.Ok) {r:Option Nat} {H:List (List Blk)} {o:Oper} {ds:List Nat} {tm:List PV} {top:List Blk} {K:PV->List Blk->Prop} (h:actL C H o.op ds tm top K) {m0:M0} {m:M} {a:Act} (hs:aV H m0 m a tm top) (hl:gU m0 m a ds)
 {next:Act->World->Prop} {Q:Exit->Act->World->Prop} (hn:∀ pv top' v m',K pv top'->RP m' pv v->aV H m0 m' a tm top'->((∀ d,o.dst=some d->d < a.tmps.size)->gU m0 m' (a.put o.dst v) (litsN C.give o ds))->next (a.put o.dst v) m'.w):o.wpIn (FW r) 0 C.P a m.w next Q:=by
 have plain:litD C.give o=none->actY C H o.op tm top K->o.wpIn (FW r) 0 C.P a m.w next Q:=fun hd h=>
  actY_wp hC h hs fun pv top' v m' hk hR hF hsz hU=>hn pv top' v m' hk hR hF fun _=>by unfold litsN;rw [hd];exact hl.next hsz hU _ _
 cases ho:o.op with
 | buildSlice t n parts=>
   cases hgv:C.give.any (Nat.beq (t+1000)) with
   | true=>exact plain (by unfold litD;rw [ho];dsimp only;rw [hgv]) (by rw [ho] at h ⊢;exact h)
   | false=>
   cases n with
   | zero=>rw [ho] at h plain;exact plain (by unfold litD;rw [ho];dsimp only;rw [hgv]) h
   | succ n=>
     have h:opK C H o.op tm top K:=by
      rw [ho] at h ⊢
      have h:(match C.give.any (Nat.beq (t+1000)) with | true=>litDeepK C tm top t (n+1) parts.toList K | false=>opK C H (.buildSlice t (n+1) parts) tm top K):=h
      rw [hgv] at h
      exact h
     obtain ⟨pv,hk,hb⟩:=xH hC ho h
     obtain ⟨w',hrun,hg,hlt,hI,hR⟩:=hb m a hs.1.inv (hs.1.evR _)
     have hd:isDefer o.op=false:=by rw [ho];rfl
     refine mZ hd ?_
     unfold Oper.wp
     rw [hrun]
     have hF:=hs.turn (GenLe.refl _) (hg.turn top) (aBo _) (fun _ _ _=>rfl) (rS hs.1.inv hg (List.prefix_refl _) (fun _ _ _=>rfl) (fun j b u k h1 h2=>by have:=(aAe.1 h2).1;omega)) hI
     refine hn pv top _ ⟨w',m.ρ,m.U⟩ hk hR hF fun hin d hd=>?_
     unfold litsN at hd
     have hlit:litD C.give o=o.dst:=by unfold litD;rw [ho];dsimp only;rw [hgv]
     rw [hlit] at hd
     have old:=hl.next hg.size hg.U o.dst (.slice (some ⟨m.w.heap.size,0,none⟩) (n+1) (n+1))
     cases hdst:o.dst with
     | none=>rw [hdst] at hd old;exact old d hd
     | some e=>
       rw [hdst] at hd old
       rcases List.mem_cons.1 hd with rfl | hd
       . refine ⟨m.w.heap.size,n+1,n+1,?_,hs.1.since.size,hlt,fun hu=>?_⟩
         . have:=hin d hdst
           simp [Act.put,this]
         . have:=hs.1.inv.lt _ hu;omega
       . exact old d hd
 | convert s d x=>
   have hd:litD C.give o=none:=by unfold litD;rw [ho]
   rw [ho] at h plain
   have plain:=plain hd
   unfold actL at h
   dsimp only at h
   cases x with
   | const v=>exact plain h
   | global g=>exact plain h
   | func g=>exact plain h
   | tmp t=>
     dsimp only at h
     obtain ⟨p,hp,g1⟩:=getK_spec.1 h
     clear h
     split at g1
     case h_2=>exact plain g1
     rename_i xs
     split at g1
     case h_2=>exact plain g1
     rename_i hsd
     have hsd:=aBj hsd
     subst hsd
     unfold markK at g1
     simp only [ifK] at g1
     split at g1
     case h_2=>exact g1.elim
     rename_i hmem
     split at g1
     case h_2=>exact g1.elim
     rename_i hng
     obtain ⟨rs,hrs,ht_,g2⟩:=lookK_spec g1
     clear g1
     subst ht_
     split at g2
     case h_2=>exact g2.elim
     rename_i e hty0
     obtain ⟨re,hre,ht_,g3⟩:=lookK_spec g2
     clear g2
     subst ht_
     split at g3
     case h_2=>exact g3.elim
     rename_i hty1
     obtain ⟨i,z,d1,hi,hsz,hb,hz,hzz,hd1,hty⟩:=aP hC hrs
     obtain ⟨i',z',d2,hi',hsz',hb',hz',hzz',hd2,hty'⟩:=aP hC hre
     rw [hty0] at hty
     rw [hty1] at hty'
     obtain rfl:d1 = .slice re.t:=by cases d1 <;> simp [tyOf] at hty <;> rw [hty]
     obtain rfl:d2 = .int .u8:=by cases d2 <;> simp [tyOf] at hty' <;> rw [hty']
     obtain ⟨k,n,c,q1,q2,q3,q4⟩:=hl t (qT hmem)
     have hev:a.eval (.tmp t) = .slice (some ⟨k,0,none⟩) n c:=by
      have htl:=(aBw.1 q1).1
      simp [Act.eval,Array.getD,htl]
      have:=(aBw.1 q1).2
      exact this
     obtain ⟨w',hrun,hM⟩:=zA hd1 hd2 m k n c q4
     have hdf:isDefer o.op=false:=by rw [ho];rfl
     refine mZ hdf ?_
     unfold Oper.wp
     rw [cH (s:=convert rs.t rs.t (a.eval (.tmp t))) (by simp [execOp,ho]) (by rw [hev];exact hrun)]
     have hR:RP m (.d (.sl xs)) (.slice (some ⟨k,0,none⟩) n c):=hs.1.rel t _ _ hp q1
     refine hn _ top _ ⟨w',m.ρ,m.U⟩ g3 (hR.mark hM) (hs.mark hM q2 hng) fun _=>?_
     unfold litsN;rw [hd]
     exact gU.next (m':=⟨w',m.ρ,m.U⟩) hl (Nat.le_of_eq hM.size.symm) (fun _ _=>Iff.rfl) _ _
 | _=>exact plain (by unfold litD;rw [ho]) (by rw [ho] at h ⊢;exact h)
theorem xI {o:Oper} {tm:List PV} {p:PV} {K:List PV->Prop} (h:putDst o tm p K) {d:Nat} (hd:o.dst=some d) {n:Nat} (hn:n=tm.length):d < n:=by
 unfold putDst at h
 rw [hd] at h
 rw [hn]
 exact (setK_spec.1 h).1
def M.unuse (m:M) (b:Blk) (v:Value):M:=⟨m.w,m.ρ,fun k=>m.U k /\ ¬ b.has m.w v k⟩
theorem oY (m:M) (b:Blk) (v:Value):Keep m (m.unuse b v):=⟨fun _ _ _ h=>h,aBo _,fun k hk=>⟨fun hu=>hk.2 hu.1,rfl⟩⟩
def dS (R:PV->PV->Prop) (p p':PV):Prop:=
 ∀ m m':M,(∀ q v,RP m q v->RP m' q v)->(∀ q q' v,R q q'->RP m q v->RP m' q' v) -> ∀ v,RP m p v->RP m' p' v
theorem dS.refl (R:PV->PV->Prop) (p:PV):dS R p p:=fun _ _ h _ v hv=>h p v hv
def kG (i:Nat) (xs:List (List DV)) (q q':PV):Prop:=∃ n,q = .row 0 i n/\q' = .d (.sl (xs.take n))
def nV (i:Nat) (ds:List DV) (q q':PV):Prop:=∃ o,q = .ptr 0 i o/\q' = .iptr (ds.drop o)
structure BlkSub (i:Nat) (R:PV->PV->Prop) (top top':List Blk):Prop where
 len:top'.length=top.length
 get:∀ (j:Nat) b',top'[j]? = some b'->(j=i/\b' = .dead)\/(j≠i /\ ∃ b,top[j]? = some b/\(b'=b \/ ∃ cs cs',b = .box cs/\b' = .box cs'/\cs'.length=cs.length /\ ∀ (k:Nat) p',cs'[k]? = some p' -> ∃ p,cs[k]? = some p/\dS R p p'))
theorem BlkSub.live {i:Nat} {R:PV->PV->Prop} {top top':List Blk} (h:BlkSub i R top top') {j:Nat} {b':Blk} (h1:top'[j]? = some b') (h2:b'.live=true):j≠i /\ ∃ b,top[j]? = some b/\b.live=true /\ ∀ w v k,b'.has w v k->b.has w v k:=by
 rcases h.get j b' h1 with ⟨_,rfl⟩ | ⟨h3,b,h4,rfl | ⟨cs,cs',rfl,rfl,_⟩⟩
 . cases h2
 . exact ⟨h3,_,h4,h2,fun _ _ _ h=>h⟩
 . exact ⟨h3,_,h4,rfl,fun _ _ _ h=>h⟩
theorem BlkSub.gen {i:Nat} {R:PV->PV->Prop} {top top':List Blk} (h:BlkSub i R top top') {j:Nat} {Y:Yield} {st:Option Nat} (h1:top'[j]? = some (.gen Y st)):top[j]? = some (.gen Y st):=by
 rcases h.get j _ h1 with ⟨_,h2⟩ | ⟨h3,b,h4,h5 | ⟨cs,cs',_,h5,_⟩⟩
 . cases h2
 . rw [h5];exact h4
 . cases h5
theorem mE:∀ {top:List Blk},(∀ (i:Nat) (Y:Yield) (st:Option Nat),top[i]? ≠ some (Blk.gen Y st))->noGenB top=true
 | [],_=>rfl
 | b::top,h=>by
   have ih:noGenB top=true:=mE fun i Y st hi=>h (i+1) Y st (by simpa using hi)
   cases b with
   | gen Y st=>exact absurd rfl (h 0 Y st)
   | _=>exact ih
theorem has_nil {w:World} {b:Blk} {k:Nat} (h:b.has w .nilFunc k):False:=by
 cases b with
 | deep e sz xs=>
   cases (show Ins w (.own e sz xs) .nilFunc k from h) with
   | head _ _ _ _ _ h=>cases h
   | cell _ _ _ _ _ flat i x j y u ho=>rcases ho.2 with ⟨h,_⟩ | ⟨g,cap,cur,h,_⟩ <;> cases h
 | _=>cases h
theorem aV.freezeG {R:PV->PV->Prop} {H:List (List Blk)} {m0:M0} {m:M} {a:Act} {tm tm':List PV} {top top':List Blk} (hs:aV H m0 m a tm top) (h0:∀ k,¬ Mine m0.toM m0.g k) (hn:noGenB top=true) {i:Nat} {b0:Blk} (hb:top[i]? = some b0) (live:b0.live=true)
 (hr2:∀ v0:Value,(∀ v,m.ρ 0 i=some v->v=v0)->Inv m top H -> ∀ q q' v,R q q'->RP m q v->RP (m.unuse b0 v0) q' v)
 (ht1:tm'.length=tm.length) (ht2:∀ (j:Nat) p',tm'[j]? = some p' -> ∃ p,tm[j]? = some p/\dS R p p') (hT:BlkSub i R top top') :
 ∃ m':M,m'.w=m.w/\(∀ k,m'.U k->m.U k)/\(∀ k,k < m0.w.heap.size->(m'.U k↔m.U k))/\aV H m0 m' a tm' top':=by
 obtain ⟨s,V,c⟩:=hs
 obtain ⟨v0,hρ0,hv0⟩:∃ v0:Value,(∀ k,b0.has m.w v0 k->m.ρ 0 i=some v0) /\ ∀ v,m.ρ 0 i=some v->v=v0:=by
  cases hρ:m.ρ 0 i with
  | none=>exact ⟨.nilFunc,(fun k h=>(has_nil h).elim),(fun v h=>by cases h)⟩
  | some v0=>exact ⟨v0,(fun _ _=>rfl),(fun v h=>by cases h;rfl)⟩
 have hK:=oY m b0 v0
 have hmine:∀ k,b0.has m.w v0 k->Mine m top k:=fun k hk=>⟨i,_,v0,hb,live,hρ0 k hk,hk⟩
 have hk0:∀ k,b0.has m.w v0 k->m0.w.heap.size<=k:=fun k hk=>(s.since.fresh k (hmine k hk)).elim id (fun h=>absurd h (h0 k))
 have r1:∀ q v,RP m q v->RP (m.unuse b0 v0) q v:=fun q v h=>h.keep hK
 have r2:=hr2 v0 hv0 s.inv
 have other:∀ l j b v k,getB top' H l j=some b->b.live=true->m.ρ l j=some v->b.has m.w v k->(∃ c,getB top H l j=some c/\c.live=true/\c.has m.w v k) /\ ¬ b0.has m.w v0 k:=fun l j b v k h1 h2 h3 h4=>by
  have h1':(∃ c,getB top H l j=some c/\c.live=true/\c.has m.w v k) /\ ¬ (l=0/\j=i):=by
   cases l with
   | zero=>
     obtain ⟨e1,c,e2,e3,e4⟩:=hT.live h1 h2
     exact ⟨⟨c,e2,e3,e4 _ _ _ h4⟩,fun h=>e1 h.2⟩
   | succ l=>exact ⟨⟨b,h1,h2,h4⟩,fun h=>by cases h.1⟩
  refine ⟨h1'.1,fun h5=>h1'.2 ?_⟩
  obtain ⟨⟨c,h6,h7,h8⟩,_⟩:=h1'
  exact s.inv.inj l j c 0 i _ v v0 k h6 h7 hb live h3 (hρ0 k h5) h8 h5
 have hinv:Inv (m.unuse b0 v0) top' H:=by
  refine ⟨fun l j b h1=>?_,fun l j b l' j' b' v v' k h1 h2 h3 h4 h5 h6 h7 h8=>?_,fun l j b v k h1 h2 h3 h4=>?_,fun k hk=>s.inv.lt k hk.1,s.inv.sub.of (fun j p e c v h1 h2=>?_) (fun p V h=>h) (fun p et sz xs V h1 h2=>?_)⟩
  . cases l with
    | succ l=>exact (s.inv.blk (l+1) j b h1).keep hK rfl (fun _ _ _ _ _=>rfl)
    | zero=>
      rcases hT.get j b h1 with ⟨_,rfl⟩ | ⟨h3,b1,h4,rfl | ⟨cs,cs',rfl,rfl,h5,h6⟩⟩
      . exact True.intro
      . exact (s.inv.blk 0 j _ h4).keep hK rfl (fun _ _ _ _ _=>rfl)
      . intro v hv
        obtain ⟨g,vs,e',e1,e2,e3,e4⟩:=s.inv.blk 0 j _ h4 v hv
        refine ⟨g,vs,e',e1,e2,e3.trans h5.symm,fun k p' u hk hu=>?_⟩
        obtain ⟨p,hp,hsub⟩:=h6 k p' hk
        exact hsub m (m.unuse b0 v0) r1 r2 u (e4 k p u hp hu)
  . obtain ⟨⟨c1,a1,a2,a3⟩,_⟩:=other l j b v k h1 h2 h5 h7
    obtain ⟨⟨c2,b1,b2,b3⟩,_⟩:=other l' j' b' v' k h3 h4 h6 h8
    exact s.inv.inj l j c1 l' j' c2 v v' k a1 a2 b1 b2 h5 h6 a3 b3
  . obtain ⟨⟨c1,a1,a2,a4⟩,a3⟩:=other l j b v k h1 h2 h3 h4
    exact ⟨s.inv.own l j c1 v k a1 a2 h3 a4,a3⟩
  . rcases hT.get j _ h1 with ⟨_,h⟩ | ⟨_,b1,h4,h | ⟨cs,cs',_,h,_⟩⟩
    . cases h
    . rw [<- h] at h4;exact ⟨h4,h2⟩
    . cases h
  . rcases hT.get p _ h1 with ⟨_,h⟩ | ⟨_,b1,h4,h | ⟨cs,cs',_,h,_⟩⟩
    . cases h
    . rw [<- h] at h4;exact ⟨h4,fun _ _=>rfl⟩
    . cases h
 have hmn:∀ k,Mine (m.unuse b0 v0) top' k->Mine m top k:=fun k ⟨j,b,v,h1,h2,h3,h4⟩=>by
  obtain ⟨_,c,a1,a2,a3⟩:=hT.live h1 h2
  exact ⟨j,c,v,a1,a2,h3,a3 _ _ _ h4⟩
 have q:∀ k o,Quiet m top V k o->Quiet (m.unuse b0 v0) top' V k o:=fun k o q=>
  ⟨q.heap,fun h=>q.mine (hmn k h),q.out,q.used,fun h=>q.mine (hmine k h)⟩
 have t:=s.since
 refine ⟨m.unuse b0 v0,rfl,fun k h=>h.1,fun k hk=>⟨fun h=>h.1,fun h=>⟨h,fun e=>absurd hk (Nat.not_lt.2 (hk0 k e))⟩⟩,⟨⟨hinv,by rw [ht1];exact s.size,fun j p' v hp hv=>?_,s.defers,fun j hj=>s.free j (by rw [<- hT.len];exact hj),⟨t.os,t.tape,t.output,t.size,t.heap,t.up,fun k hk=>?_,fun k hk=>t.fresh k (hmn k hk)⟩,s.tsz,s.prot⟩,V,?_⟩⟩
 . obtain ⟨p,hp,hsub⟩:=ht2 j p' hp
   exact hsub m (m.unuse b0 v0) r1 r2 v (s.rel j p v hp hv)
 . refine Iff.trans ⟨fun h=>h.1,fun h=>⟨h,fun e=>?_⟩⟩ (t.U k hk)
   have:=hk0 k e
   exact absurd hk (Nat.not_lt.2 this)
 . exact ⟨fun x y Y1 s1 Y2 s2 h1 h2=>c.one x y Y1 s1 Y2 s2 (hT.gen h1) (hT.gen h2),fun k hk=>⟨c.used k hk,fun h=>c.mine k hk (hmine k h)⟩,c.more,c.old,fun k hk h=>c.mine k hk (hmn k h),fun x Y st hx=>absurd (hT.gen hx) (fZ hn x Y st),fun k o hz=>q k o (c.z k o hz),c.nd,c.late,fun d hd=>by
    obtain ⟨D,h1,h2⟩:=c.d d hd
    exact ⟨D,h1,q _ _ h2⟩,fun l i b v k h1 h2 h3 h4=>c.far l i b v k h1 h2 h3 h4⟩
theorem aV.freeze {H:List (List Blk)} {m0:M0} {m:M} {a:Act} {tm tm':List PV} {top top':List Blk} (hs:aV H m0 m a tm top) (h0:∀ k,¬ Mine m0.toM m0.g k) (hn:noGenB top=true) {i e sz:Nat} {xs:List (List DV)} (hb:top[i]? = some (.row e sz xs))
 (ht1:tm'.length=tm.length) (ht2:∀ (j:Nat) p',tm'[j]? = some p' -> ∃ p,tm[j]? = some p/\dS (kG i xs) p p') (hT:BlkSub i (kG i xs) top top') :
 ∃ m':M,m'.w=m.w/\(∀ k,m'.U k->m.U k)/\(∀ k,k < m0.w.heap.size->(m'.U k↔m.U k))/\aV H m0 m' a tm' top':=
 hs.freezeG h0 hn hb rfl (fun v0 hv0 hinv q q' v hq h=>by
  obtain ⟨n,rfl,rfl⟩:=hq
  cases h with
  | row _ _ _ N cc A h1 h2 h3=>
    refine .d _ _ (rQ hinv hb h1 h2 h3 rfl (fun k hk=>⟨hk.1,fun hu=>hk.2 hu.1⟩) (fun k hk hu=>hu.2 ?_))
    rw [<- hv0 _ h1];exact hk) ht1 ht2 hT
theorem aV.freezeBox {H:List (List Blk)} {m0:M0} {m:M} {a:Act} {tm tm':List PV} {top top':List Blk} (hs:aV H m0 m a tm top) (h0:∀ k,¬ Mine m0.toM m0.g k) (hn:noGenB top=true) {i:Nat} {cs:List PV} {ds:List DV} (hb:top[i]? = some (.box cs)) (hl:ds.length=cs.length)
 (hd:∀ m,∀ (vs:Nat->Value),(∀ (j:Nat) p,cs[j]? = some p->RP m p (vs j)) -> ∀ (j:Nat) x,ds[j]? = some x->RD m.w m.ok x (vs j))
 (ht1:tm'.length=tm.length) (ht2:∀ (j:Nat) p',tm'[j]? = some p' -> ∃ p,tm[j]? = some p/\dS (nV i ds) p p') (hT:BlkSub i (nV i ds) top top') :
 ∃ m':M,m'.w=m.w/\(∀ k,m'.U k->m.U k)/\(∀ k,k < m0.w.heap.size->(m'.U k↔m.U k))/\aV H m0 m' a tm' top':=
 hs.freezeG h0 hn hb rfl (fun v0 hv0 hinv q q' v hq h=>by
  obtain ⟨o,rfl,rfl⟩:=hq
  cases h with
  | ptr _ _ _ g h1=>
    obtain rfl:=hv0 _ h1
    obtain ⟨g',vs,e,h2,h3,h4,h5⟩:=hinv.blk 0 i _ hb _ h1
    obtain rfl:g=g':=by simpa using h2
    have h6:=hd m (fun j=>vs.getD j undef) (fun j p hj=>by
     have hlt:=(aAe.1 hj).1
     have hv:vs[j]? = some (vs.getD j undef):=by rw [Array.getD_eq_getD_getElem?,Array.getElem?_eq_getElem (by omega)];rfl
     exact h5 j p _ hj hv)
    have hk:=oY m (.box cs) (.pointer (some ⟨g,0,none⟩))
    refine .iptr _ _ (fun j=>vs.getD (o+j) undef) (fun j y hy=>?_) (fun j y hy=>?_)
    . rw [aA1] at hy
      have hlt:=(aAe.1 hy).1
      refine ⟨⟨?_,fun hu=>hu.2 rfl⟩,?_⟩
      . exact (aBw.1 h3).1
      . have hv:vs[o+j]? = some (vs.getD (o+j) undef):=by rw [Array.getD_eq_getD_getElem?,Array.getElem?_eq_getElem (by omega)];rfl
        rw [<- hv,bT]
        show m.w.cell? ⟨g,o+j,none⟩=_
        simp [World.cell?,h3]
    . rw [aA1] at hy
      exact (h6 _ _ hy).keep hk) ht1 ht2 hT
theorem dF {R:PV->PV->Prop} {one:PV->(PV->Prop)->Prop} (h1:∀ p K,one p K -> ∃ p',K p'/\dS R p p'):∀ (ps:List PV) (K:List PV->Prop),adoptsF one ps K -> ∃ ps',K ps'/\ps'.length=ps.length /\ ∀ (j:Nat) p',ps'[j]? = some p' -> ∃ p,ps[j]? = some p/\dS R p p'
 | [],K,h=>⟨[],h,rfl,fun j p' hp=>by simp at hp⟩
 | p::ps,K,h=>by
   rw [adoptsF_cons] at h
   obtain ⟨p',h,hs⟩:=h1 _ _ h
   obtain ⟨ps',h,hl,hh⟩:=dF h1 ps _ h
   refine ⟨p'::ps',h,by simp [hl],fun j q hq=>?_⟩
   cases j with
   | zero=>simp at hq;subst hq;exact ⟨p,rfl,hs⟩
   | succ j=>exact hh j q (by simpa using hq)
theorem nA (i:Nat) (xs:List (List DV)):∀ (n:Nat) (p:PV) (K:PV->Prop),sbF i xs n p K -> ∃ p',K p'/\dS (kG i xs) p p'
 | 0,p,K,h=>⟨p,h,.refl _ p⟩
 | n+1,p,K,h=>by
   change sbOne i xs (sbF i xs n) p K at h
   have ih:=dF (nA i xs n)
   cases p with
   | row l j k=>
     cases l with
     | succ l=>exact ⟨_,h,.refl _ _⟩
     | zero=>
       change (match Nat.beq j i with | true=>K (.d (.sl (xs.take k))) | false=>K (.row 0 j k)) at h
       cases hj:Nat.beq j i with
       | true=>
         rw [hj] at h
         obtain rfl:=aBj hj
         exact ⟨_,h,fun m m' _ h2 v hv=>h2 _ _ v ⟨k,rfl,rfl⟩ hv⟩
       | false=>rw [hj] at h;exact ⟨_,h,.refl _ _⟩
   | agg cs=>
     obtain ⟨cs',h,hl,hh⟩:=ih cs _ h
     refine ⟨_,h,fun m m' h1 h2 v hv=>?_⟩
     cases hv with
     | agg _ vs e1 e2=>exact .agg _ _ (by rw [hl];exact e1) (fun j p' u hp hu=>by obtain ⟨p,hp0,hs⟩:=hh j p' hp;exact hs m m' h1 h2 u (e2 j p u hp0 hu))
   | tuple cs=>
     obtain ⟨cs',h,hl,hh⟩:=ih cs _ h
     refine ⟨_,h,fun m m' h1 h2 v hv=>?_⟩
     cases hv with
     | tuple _ vs e1 e2=>exact .tuple _ _ (by rw [hl];exact e1) (fun j p' u hp hu=>by obtain ⟨p,hp0,hs⟩:=hh j p' hp;exact hs m m' h1 h2 u (e2 j p u hp0 hu))
   | _=>exact ⟨_,h,.refl _ _⟩
theorem nW (i:Nat) (ds:List DV):∀ (n:Nat) (p:PV) (K:PV->Prop),sbpF i ds n p K -> ∃ p',K p'/\dS (nV i ds) p p'
 | 0,p,K,h=>⟨p,h,.refl _ p⟩
 | n+1,p,K,h=>by
   change sbpOne i ds (sbpF i ds n) p K at h
   have ih:=dF (nW i ds n)
   cases p with
   | ptr l j k=>
     cases l with
     | succ l=>exact ⟨_,h,.refl _ _⟩
     | zero=>
       change (match Nat.beq j i with | true=>K (.iptr (ds.drop k)) | false=>K (.ptr 0 j k)) at h
       cases hj:Nat.beq j i with
       | true=>
         rw [hj] at h
         obtain rfl:=aBj hj
         exact ⟨_,h,fun m m' _ h2 v hv=>h2 _ _ v ⟨k,rfl,rfl⟩ hv⟩
       | false=>rw [hj] at h;exact ⟨_,h,.refl _ _⟩
   | agg cs=>
     obtain ⟨cs',h,hl,hh⟩:=ih cs _ h
     refine ⟨_,h,fun m m' h1 h2 v hv=>?_⟩
     cases hv with
     | agg _ vs e1 e2=>exact .agg _ _ (by rw [hl];exact e1) (fun j p' u hp hu=>by obtain ⟨p,hp0,hs⟩:=hh j p' hp;exact hs m m' h1 h2 u (e2 j p u hp0 hu))
   | tuple cs=>
     obtain ⟨cs',h,hl,hh⟩:=ih cs _ h
     refine ⟨_,h,fun m m' h1 h2 v hv=>?_⟩
     cases hv with
     | tuple _ vs e1 e2=>exact .tuple _ _ (by rw [hl];exact e1) (fun j p' u hp hu=>by obtain ⟨p,hp0,hs⟩:=hh j p' hp;exact hs m m' h1 h2 u (e2 j p u hp0 hu))
   | _=>exact ⟨_,h,.refl _ _⟩
theorem qB {i:Nat} {xs:List (List DV)}:∀ (top:List Blk) (K:List Blk->Prop),sbB i xs top K -> ∃ top',K top'/\top'.length=top.length /\ ∀ (j:Nat) b',top'[j]? = some b' -> ∃ b,top[j]? = some b/\(b'=b \/ ∃ cs cs',b = .box cs/\b' = .box cs'/\cs'.length=cs.length /\ ∀ (k:Nat) p',cs'[k]? = some p' -> ∃ p,cs[k]? = some p/\dS (kG i xs) p p')
 | [],K,h=>⟨[],h,rfl,fun j b hb=>by simp at hb⟩
 | b::top,K,h=>by
   rw [sbB_cons] at h
   have key:∀ b1,sbB i xs top (fun bs=>K (b1::bs))->(b1=b \/ ∃ cs cs',b = .box cs/\b1 = .box cs'/\cs'.length=cs.length /\ ∀ (k:Nat) p',cs'[k]? = some p' -> ∃ p,cs[k]? = some p/\dS (kG i xs) p p') ->
    ∃ top',K top'/\top'.length=(b::top).length /\ ∀ (j:Nat) b',top'[j]? = some b' -> ∃ b2,(b::top)[j]? = some b2/\(b'=b2 \/ ∃ cs cs',b2 = .box cs/\b' = .box cs'/\cs'.length=cs.length /\ ∀ (k:Nat) p',cs'[k]? = some p' -> ∃ p,cs[k]? = some p/\dS (kG i xs) p p'):=by
    intro b1 h hb1
    obtain ⟨top',h,hl,hh⟩:=qB top _ h
    refine ⟨b1::top',h,by simp [hl],fun j b' hb'=>?_⟩
    cases j with
    | zero=>simp at hb';subst hb';exact ⟨b,rfl,hb1⟩
    | succ j=>exact hh j b' (by simpa using hb')
   cases b with
   | box cs=>
     obtain ⟨cs',h,hl,hh⟩:=dF (nA i xs 3) cs _ h
     exact key (.box cs') h (.inr ⟨cs,cs',rfl,rfl,hl,hh⟩)
   | _=>exact key _ h (.inl rfl)
theorem sA {i:Nat} {ds:List DV}:∀ (top:List Blk) (K:List Blk->Prop),sbpB i ds top K -> ∃ top',K top'/\top'.length=top.length /\ ∀ (j:Nat) b',top'[j]? = some b' -> ∃ b,top[j]? = some b/\(b'=b \/ ∃ cs cs',b = .box cs/\b' = .box cs'/\cs'.length=cs.length /\ ∀ (k:Nat) p',cs'[k]? = some p' -> ∃ p,cs[k]? = some p/\dS (nV i ds) p p')
 | [],K,h=>⟨[],h,rfl,fun j b hb=>by simp at hb⟩
 | b::top,K,h=>by
   rw [sbpB_cons] at h
   have key:∀ b1,sbpB i ds top (fun bs=>K (b1::bs))->(b1=b \/ ∃ cs cs',b = .box cs/\b1 = .box cs'/\cs'.length=cs.length /\ ∀ (k:Nat) p',cs'[k]? = some p' -> ∃ p,cs[k]? = some p/\dS (nV i ds) p p') ->
    ∃ top',K top'/\top'.length=(b::top).length /\ ∀ (j:Nat) b',top'[j]? = some b' -> ∃ b2,(b::top)[j]? = some b2/\(b'=b2 \/ ∃ cs cs',b2 = .box cs/\b' = .box cs'/\cs'.length=cs.length /\ ∀ (k:Nat) p',cs'[k]? = some p' -> ∃ p,cs[k]? = some p/\dS (nV i ds) p p'):=by
    intro b1 h hb1
    obtain ⟨top',h,hl,hh⟩:=sA top _ h
    refine ⟨b1::top',h,by simp [hl],fun j b' hb'=>?_⟩
    cases j with
    | zero=>simp at hb';subst hb';exact ⟨b,rfl,hb1⟩
    | succ j=>exact hh j b' (by simpa using hb')
   cases b with
   | box cs=>
     obtain ⟨cs',h,hl,hh⟩:=dF (nW i ds 3) cs _ h
     exact key (.box cs') h (.inr ⟨cs,cs',rfl,rfl,hl,hh⟩)
   | _=>exact key _ h (.inl rfl)
def fI (H:List (List Blk)) (m0:M0) (m:M) (a:Act) (K:List PV->List Blk->Prop):Prop:=
 ∃ (m':M) (tm':List PV) (top':List Blk),K tm' top'/\m'.w=m.w/\(∀ k,m'.U k->m.U k)/\(∀ k,k < m0.w.heap.size->(m'.U k↔m.U k))/\aV H m0 m' a tm' top'
theorem nR {H:List (List Blk)} {m0:M0} {m:M} {a:Act} {tm:List PV} {top:List Blk} (hs:aV H m0 m a tm top) (h0:∀ k,¬ Mine m0.toM m0.g k) (hn:noGenB top=true) {i:Nat} {K:List PV->List Blk->Prop} (h:frName i tm top K) :
 fI H m0 m a fun tm' top'=>K tm' top'/\noGenB top'=true:=by
 obtain ⟨b,hb,h⟩:=getK_spec.1 h
 have same:K tm top->fI H m0 m a fun tm' top'=>K tm' top'/\noGenB top'=true:=fun h=>⟨m,tm,top,⟨h,hn⟩,rfl,fun _ h=>h,fun _ _=>Iff.rfl,hs⟩
 cases b with
 | row e sz xs=>
   obtain ⟨hlt,h⟩:=setK_spec.1 h
   obtain ⟨tm',h,hl,hh⟩:=dF (nA i xs 3) tm _ h
   obtain ⟨top',h,hl2,hh2⟩:=qB _ _ h
   have hT:BlkSub i (kG i xs) top top':=by
    refine ⟨by rw [hl2];simp,fun j b' hb'=>?_⟩
    obtain ⟨b,h1,h2⟩:=hh2 j b' hb'
    by_cases e:i=j
    . subst e
      rw [aAr hlt] at h1
      cases h1
      rcases h2 with rfl | ⟨cs,cs',h3,_⟩
      . exact .inl ⟨rfl,rfl⟩
      . cases h3
    . rw [aAs e] at h1
      exact .inr ⟨fun e'=>e e'.symm,b,h1,h2⟩
   obtain ⟨m',h1,h2,h3,h4⟩:=hs.freeze h0 hn hb hl hh hT
   refine ⟨m',tm',top',⟨h,?_⟩,h1,h2,h3,h4⟩
   exact mE fun j Y st hj=>fZ hn j Y st (hT.gen hj)
 | dead=>exact same h
 | box cs=>exact same h
 | gen Y st=>exact same h
 | deep e sz xs=>exact same h
 | sub _ _ _=>exact same h
theorem wD {H:List (List Blk)} {m0:M0} {m:M} {a:Act} {tm:List PV} {top:List Blk} (hs:aV H m0 m a tm top) (h0:∀ k,¬ Mine m0.toM m0.g k) (hn:noGenB top=true) {i:Nat} {K:List PV->List Blk->Prop} (h:frBox i tm top K) :
 fI H m0 m a K:=by
 obtain ⟨b,hb,h⟩:=getK_spec.1 h
 cases b with
 | box cs=>
   obtain ⟨ds,h,hdl,hd⟩:=dR h
   obtain ⟨hlt,h⟩:=setK_spec.1 h
   obtain ⟨tm',h,hl,hh⟩:=dF (nW i ds 3) tm _ h
   obtain ⟨top',h,hl2,hh2⟩:=sA _ _ h
   have hT:BlkSub i (nV i ds) top top':=by
    refine ⟨by rw [hl2];simp,fun j b' hb'=>?_⟩
    obtain ⟨b,h1,h2⟩:=hh2 j b' hb'
    by_cases e:i=j
    . subst e
      rw [aAr hlt] at h1
      cases h1
      rcases h2 with rfl | ⟨cs,cs',h3,_⟩
      . exact .inl ⟨rfl,rfl⟩
      . cases h3
    . rw [aAs e] at h1
      exact .inr ⟨fun e'=>e e'.symm,b,h1,h2⟩
   obtain ⟨m',h1,h2,h3,h4⟩:=hs.freezeBox h0 hn hb hdl hd hl hh hT
   exact ⟨m',tm',top',h,h1,h2,h3,h4⟩
 | _=>exact h.elim
theorem mF {H:List (List Blk)} {m0:M0} {a:Act} (h0:∀ k,¬ Mine m0.toM m0.g k):∀ (is:List Nat) {m:M} {tm:List PV} {top:List Blk} (hs:aV H m0 m a tm top) (hn:noGenB top=true) {K:List PV->List Blk->Prop},frNames is tm top K ->
 fI H m0 m a fun tm' top'=>K tm' top'/\noGenB top'=true
 | [],m,tm,top,hs,hn,K,h=>⟨m,tm,top,⟨h,hn⟩,rfl,fun _ h=>h,fun _ _=>Iff.rfl,hs⟩
 | i::is,m,tm,top,hs,hn,K,h=>by
   rw [frNames_cons] at h
   obtain ⟨m1,tm1,top1,⟨h,hn1⟩,e1,e2,e3,hs1⟩:=nR hs h0 hn h
   obtain ⟨m2,tm2,top2,h,f1,f2,f3,hs2⟩:=mF h0 is hs1 hn1 h
   exact ⟨m2,tm2,top2,h,f1.trans e1,fun k hk=>e2 k (f2 k hk),fun k hk=>(f3 k hk).trans (e3 k hk),hs2⟩
theorem gV {H:List (List Blk)} {m0:M0} {a:Act} (h0:∀ k,¬ Mine m0.toM m0.g k):∀ (xs:List Operand) {m:M} {tm:List PV} {top:List Blk} (hs:aV H m0 m a tm top) (hn:noGenB top=true) {K:List PV->List Blk->Prop},frOps xs tm top K ->
 fI H m0 m a fun tm' top'=>K tm' top'/\noGenB top'=true
 | [],m,tm,top,hs,hn,K,h=>⟨m,tm,top,⟨h,hn⟩,rfl,fun _ h=>h,fun _ _=>Iff.rfl,hs⟩
 | x::xs,m,tm,top,hs,hn,K,h=>by
   rw [frOps_cons] at h
   cases x with
   | tmp t=>
     obtain ⟨p,_,h⟩:=getK_spec.1 h
     obtain ⟨m1,tm1,top1,⟨h,hn1⟩,e1,e2,e3,hs1⟩:=mF h0 _ hs hn h
     obtain ⟨m2,tm2,top2,h,f1,f2,f3,hs2⟩:=gV h0 xs hs1 hn1 h
     exact ⟨m2,tm2,top2,h,f1.trans e1,fun k hk=>e2 k (f2 k hk),fun k hk=>(f3 k hk).trans (e3 k hk),hs2⟩
   | const v=>exact gV h0 xs hs hn h
   | global g=>exact gV h0 xs hs hn h
   | func f=>exact gV h0 xs hs hn h
theorem qU {C:Cx} {op:Op} {H:List (List Blk)} {m0:M0} {m:M} {a:Act} {tm:List PV} {top:List Blk} (hF:C.fcl=true -> ∀ k,¬ Mine m0.toM m0.g k) (hs:aV H m0 m a tm top) {K:List PV->List Blk->Prop} (h:frzK C op tm top K):fI H m0 m a K:=by
 have same:K tm top->fI H m0 m a K:=fun h=>⟨m,tm,top,h,rfl,fun _ h=>h,fun _ _=>Iff.rfl,hs⟩
 unfold frzK at h
 cases hc:C.fcl with
 | false=>rw [hc] at h;exact same h
 | true=>
   rw [hc] at h
   have go:∀ xs,ifK (noGenB top) (frOps xs tm top K)->fI H m0 m a K:=fun xs h=>by
    simp only [ifK] at h
    split at h
    . rename_i hn
      obtain ⟨m',tm',top',⟨h,_⟩,e1,e2,e3,hs'⟩:=gV (hF hc) xs hs hn h
      exact ⟨m',tm',top',h,e1,e2,e3,hs'⟩
    . exact h.elim
   dsimp only at h
   split at h
   . split at h
     . split at h
       . exact same h
       . exact go _ h
     . exact same h
   . split at h
     . exact same h
     . exact go _ h
   . split at h
     . exact same h
     . obtain ⟨q,_,h'⟩:=getK_spec.1 h
       clear h
       split at h'
       . exact go _ h'
       . exact same h'
   . exact same h
theorem RD.take {w:World} {ok:Nat->Prop} {zs:List (List DV)} {A:Option Addr} {N c n:Nat} (h:RD w ok (.sl zs) (.slice A N c)) (hn:n<=N):RD w ok (.sl (zs.take n)) (.slice A n c):=by
 cases h with
 | sl sz _ _ _ _ ad u h1 hc hm hA hs hcell hr=>
   have key:∀ (i:Nat) x,(zs.take n)[i]? = some x->zs[i]? = some x:=fun i x hx=>by
    rcases aBl i n with h | h
    . rwa [List.getElem?_take_of_lt h] at hx
    . rw [List.getElem?_eq_none (by rw [aAl];omega)] at hx;cases hx
   exact .sl sz _ A n c ad u (by rw [aAl];omega) (by omega) (by omega) (fun h=>hA (by omega)) (fun x hx=>hs x (aA6 hx)) (fun i x j y hx hy=>hcell i x j y (key i x hx) hy) (fun i x j y hx hy=>hr i x j y (key i x hx) hy)
theorem aV.freezeDeep {H:List (List Blk)} {m0:M0} {m:M} {a:Act} {tm tm':List PV} {top top':List Blk} (hs:aV H m0 m a tm top) (h0:∀ k,¬ Mine m0.toM m0.g k) (hn:noGenB top=true) {i e sz:Nat} {xs:List (List DV)} (hb:top[i]? = some (.deep e sz xs))
 (ht1:tm'.length=tm.length) (ht2:∀ (j:Nat) p',tm'[j]? = some p' -> ∃ p,tm[j]? = some p/\dS (kG i (plRows xs)) p p') (hT:BlkSub i (kG i (plRows xs)) top top') :
 ∃ m':M,m'.w=m.w/\(∀ k,m'.U k->m.U k)/\(∀ k,k < m0.w.heap.size->(m'.U k↔m.U k))/\aV H m0 m' a tm' top':=
 hs.freezeG h0 hn hb rfl (fun v0 hv0 hinv q q' v hq h=>by
  obtain ⟨n,rfl,rfl⟩:=hq
  cases h with
  | row _ _ _ N cc A h1 h2 h3=>
    have hro:RO m.w m.ok (.own e sz xs) (.slice A N cc):=hinv.blk 0 i _ hb _ h1
    obtain rfl:=hv0 _ h1
    refine .d _ _ (RD.take ?_ h2)
    exact hro.rd (ok':=(m.unuse (.deep e sz xs) (.slice A N cc)).ok) (fun k hk=>⟨hk.1,fun hu=>hk.2 hu.1⟩) fun k hk=>⟨hinv.lt k (hinv.own 0 i _ _ k hb rfl h1 hk),fun hu=>hu.2 hk⟩) ht1 ht2 hT
theorem uE {H:List (List Blk)} {m0:M0} {m:M} {a:Act} {tm:List PV} {top:List Blk} (hs:aV H m0 m a tm top) (h0:∀ k,¬ Mine m0.toM m0.g k) (hn:noGenB top=true) {i:Nat} {K:List PV->List Blk->Prop} (h:frDeep i tm top K) :
 fI H m0 m a fun tm' top'=>K tm' top'/\noGenB top'=true:=by
 obtain ⟨b,hb,h1⟩:=getK_spec.1 h
 have same:K tm top->fI H m0 m a fun tm' top'=>K tm' top'/\noGenB top'=true:=fun h=>⟨m,tm,top,⟨h,hn⟩,rfl,fun _ h=>h,fun _ _=>Iff.rfl,hs⟩
 cases b with
 | deep e sz xs=>
   clear h
   obtain ⟨hlt,h⟩:=setK_spec.1 h1
   obtain ⟨tm',h,hl,hh⟩:=dF (nA i (plRows xs) 3) tm _ h
   obtain ⟨top',h,hl2,hh2⟩:=qB _ _ h
   have hT:BlkSub i (kG i (plRows xs)) top top':=by
    refine ⟨by rw [hl2];simp,fun j b' hb'=>?_⟩
    obtain ⟨b,h1,h2⟩:=hh2 j b' hb'
    by_cases e:i=j
    . subst e
      rw [aAr hlt] at h1
      cases h1
      rcases h2 with rfl | ⟨cs,cs',h3,_⟩
      . exact .inl ⟨rfl,rfl⟩
      . cases h3
    . rw [aAs e] at h1
      exact .inr ⟨fun e'=>e e'.symm,b,h1,h2⟩
   obtain ⟨m',h1,h2,h3,h4⟩:=hs.freezeDeep h0 hn hb hl hh hT
   refine ⟨m',tm',top',⟨h,?_⟩,h1,h2,h3,h4⟩
   exact mE fun j Y st hj=>fZ hn j Y st (hT.gen hj)
 | row e sz xs=>exact nR hs h0 hn (i:=i) (getK_spec.2 ⟨_,hb,h1⟩)
 | dead=>exact same h1
 | box cs=>exact same h1
 | gen Y st=>exact same h1
 | sub _ _ _=>exact same h1
theorem mG {H:List (List Blk)} {m0:M0} {a:Act} (h0:∀ k,¬ Mine m0.toM m0.g k):∀ (is:List Nat) {m:M} {tm:List PV} {top:List Blk} (hs:aV H m0 m a tm top) (hn:noGenB top=true) {K:List PV->List Blk->Prop},frDeeps is tm top K ->
 fI H m0 m a fun tm' top'=>K tm' top'/\noGenB top'=true
 | [],m,tm,top,hs,hn,K,h=>⟨m,tm,top,⟨h,hn⟩,rfl,fun _ h=>h,fun _ _=>Iff.rfl,hs⟩
 | i::is,m,tm,top,hs,hn,K,h=>by
   rw [frDeeps_cons] at h
   obtain ⟨m1,tm1,top1,⟨h,hn1⟩,e1,e2,e3,hs1⟩:=uE hs h0 hn h
   obtain ⟨m2,tm2,top2,h,f1,f2,f3,hs2⟩:=mG h0 is hs1 hn1 h
   exact ⟨m2,tm2,top2,h,f1.trans e1,fun k hk=>e2 k (f2 k hk),fun k hk=>(f3 k hk).trans (e3 k hk),hs2⟩
theorem aV.ghost {H:List (List Blk)} {m0:M0} {m:M} {a:Act} {tm:List PV} {top top':List Blk} (h:aV H m0 m a tm top) (g:Ghost top top'):aV H m0 m a tm top':=by
 obtain ⟨hI,hm⟩:=g.inv m H h.1.inv
 exact h.turn g.gen ⟨rfl,rfl,rfl,aBo _,fun _ _ _=>rfl,fun _ _ _ h=>h,fun _ _=>Iff.rfl⟩ (Nat.le_of_eq g.len.symm) (fun _ _ _=>rfl) (fun k hk=>.inr (hm k hk)) hI
theorem xJ {C:Cx} {op:Op} {H:List (List Blk)} {m0:M0} {m:M} {a:Act} {tm:List PV} {top:List Blk} (hF:C.fcl=true -> ∀ k,¬ Mine m0.toM m0.g k) (hs:aV H m0 m a tm top) {K:List PV->List Blk->Prop} (h:frzS C op tm top K):fI H m0 m a K:=by
 have same:K tm top->fI H m0 m a K:=fun h=>⟨m,tm,top,h,rfl,fun _ h=>h,fun _ _=>Iff.rfl,hs⟩
 unfold frzS at h
 split at h
 . split at h
   . exact same h
   . rename_i hc
     obtain ⟨q,_,h⟩:=getK_spec.1 h
     split at h
     . split at h
       . simp only [ifK] at h
         split at h
         . rename_i hn
           exact wD hs (hF hc) hn h
         . exact h.elim
       . exact same h
     . exact same h
 . split at h
   . split at h
     . exact same h
     . obtain ⟨q,_,h1⟩:=getK_spec.1 h
       split at h1
       . split at h1
         . obtain ⟨b,_,h2⟩:=getK_spec.1 h1
           split at h2
           . obtain ⟨top',h3,g⟩:=jL h2
             exact ⟨m,tm,top',h3,rfl,fun _ h=>h,fun _ _=>Iff.rfl,hs.ghost g⟩
           . exact same h2
         . exact same h1
       . exact same h1
   . split at h
     . exact same h
     . rename_i hc
       obtain ⟨r,_,_,h1⟩:=lookK_spec h
       clear h
       split at h1
       . exact same h1
       . obtain ⟨q,_,h2⟩:=getK_spec.1 h1
         clear h1
         split at h2
         . split at h2
           . obtain ⟨b,_,h3⟩:=getK_spec.1 h2
             clear h2
             split at h3
             . simp only [ifK] at h3
               split at h3
               . rename_i hn
                 obtain ⟨m',tm',top',⟨h4,_⟩,e1,e2,e3,hs'⟩:=mG (hF hc) _ hs hn h3
                 exact ⟨m',tm',top',h4,e1,e2,e3,hs'⟩
               . exact h3.elim
             . exact same h3
           . exact same h2
         . exact same h2
 . exact qU hF hs h
theorem mH {C:Cx} (hC:C.Ok) {r:Option Nat} {H:List (List Blk)} {ops:List Oper} {m0:M0} {K:List PV->List Blk->Prop} {Q:Exit->Act->World->Prop} (hQ:∀ m a tm top,K tm top->aV H m0 m a tm top->Q .normal a m.w) (hW:∀ o ∈ ops,∀ d,o.dst=some d->m0.W d) (hF:C.fcl=true -> ∀ k,¬ Mine m0.toM m0.g k) :
 ∀ (l:List Oper) (is:List Nat) (ds:List Nat) (tm:List PV) (top:List Blk) (m:M) (a:Act),is.length=l.length->(∀ (k:Nat) i,is[k]? = some i->ops[i]? = l[k]?)->opsY C H ops l ds tm top K->aV H m0 m a tm top->gU m0 m a ds ->
   wpOpsIn (FW r) 0 C.P ops.toArray Q is a m.w
 | [],is,ds,tm,top,m,a,hl,_,hk,hs,hL=>by
   obtain rfl:is = []:=List.eq_nil_of_length_eq_zero hl
   exact hQ m a tm top hk hs
 | o::l,[],ds,tm,top,m,a,hl,_,hk,hs,hL=>by cases hl
 | o::l,i::is,ds,tm,top,m,a,hl,hi,hk,hs,hL=>by
   have h0:ops[i]? = some o:=hi 0 i rfl
   have ha:ops.toArray[i]? = some o:=by simpa using h0
   have hd:=hW o (aAg h0)
   have hi':∀ (k:Nat) i',is[k]? = some i'->ops[i']? = l[k]?:=fun k i' h=>hi (k+1) i' (by simpa using h)
   unfold opsY at hk
   obtain ⟨tm1,hk,hs1,_⟩:=hs.want hk
   simp only [wpOpsIn,ha]
   split
   . rename_i hw
     rw [hw] at hk
     obtain ⟨m1,tm2,top2,hk,ew,hU,_,hs2⟩:=xJ hF hs1 hk
     have hL2:gU m0 m1 a ds:=fun d hd=>by
      obtain ⟨k,n,c,h1,h2,h3,h4⟩:=hL d hd
      exact ⟨k,n,c,h1,h2,by rw [ew];exact h3,fun h=>h4 (hU k h)⟩
     rw [<- ew]
     refine uS hC hk hs2 hL2 fun pv top' v m' hk' hR hs' hL'=>?_
     obtain ⟨tm',hk2,hs2⟩:=hs'.put hd hR hk'
     exact mH hC hQ hW hF l is _ tm' top' m' _ (by simpa using hl) hi' hk2 hs2 (hL' (fun d hdst=>xI hk' hdst hs'.1.size))
   . rename_i hw
     have hw:Region.wanted o (Go.yielded ops.toArray a.tmps)=false:=by simpa using hw
     rw [hw] at hk
     obtain ⟨tm',hk',hs'⟩:=hs1.put (v:=undef) hd (.tuple [] #[] rfl (fun j p v h=>by simp at h)) hk
     exact ⟨fun _ _=>trivial,mH hC hQ hW hF l is _ tm' top m _ (by simpa using hl) hi' hk' hs' (hL.next (aBo _) (fun _ _=>Iff.rfl) _ _)⟩
def fA (P:Program) (o:Oper) (tm:List PV) (pv:PV):Prop:=
 ∀ (m:M) (a:Act),EvR m a tm o.op.operands.toList -> ∃ v,(∀ w,(execOp a.eval o).run P w = .ok (.value v) w)/\RP m pv v
theorem fA.step {C:Cx} {H:List (List Blk)} {o:Oper} {tm:List PV} {top:List Blk} {pv:PV} (h:fA C.P o tm pv):bQ C H o tm top pv top:=
 bE fun m a _ he=>let ⟨v,h1,h2⟩:=h m a he;⟨v,h1 _,h2⟩
theorem qV {C:Cx} (hC:C.Ok) {H:List (List Blk)} {o:Oper} {tm:List PV} {top:List Blk} {K:PV->List Blk->Prop} (h:actK C H o.op tm top K) (hp:pureOp o.op=true) :
 ∃ pv,K pv top/\fA C.P o tm pv:=by
 cases ho:o.op <;> rw [ho] at hp <;> simp [pureOp] at hp <;> rw [ho] at h
 . obtain ⟨p,hp,h⟩:=aT h
   exact ⟨p,h,fun m a he=>⟨_,fun w=>by simp [execOp,ho],aO he (by simp [ho,Op.operands]) hp⟩⟩
 . obtain ⟨p,hp,h⟩:=aT h
   exact ⟨p,h,fun m a he=>⟨_,fun w=>by simp [execOp,ho],aO he (by simp [ho,Op.operands]) hp⟩⟩
 . obtain ⟨p,hp,h⟩:=aT h
   obtain ⟨q,hq,hh⟩:=nG hC h
   refine ⟨q,hq,fun m a he=>?_⟩
   obtain ⟨u,hu,hr⟩:=hh m _ (aO he (by simp [ho,Op.operands]) hp)
   exact ⟨u,fun w=>cH (by simp [execOp,ho]) (hu w),hr⟩
 . rename_i x i
   obtain ⟨p,hp,h⟩:=aT h
   split at h
   case h_2=>exact h.elim
   rename_i cs
   obtain ⟨q,hq,h⟩:=getK_spec.1 h
   refine ⟨q,h,fun m a he=>?_⟩
   have:=aO he (x:=x) (by simp [ho,Op.operands]) hp
   generalize hv:a.eval x=v at this
   cases this with
   | tuple _ vs h1 h2=>
     have hlt:i < vs.size:=by rw [<- h1];exact (aAe.1 hq).1
     have hvi:vs[i]? = some vs[i]:=Array.getElem?_eq_getElem hlt
     exact ⟨vs[i],fun w=>by simp [execOp,ho,hv,Instr.extract,hvi],h2 i q _ hq hvi⟩
theorem zC {C:Cx} (hC:C.Ok) {H:List (List Blk)} {o:Oper} {c:Call} (ho:o.op = .call c) (hcl:c.callee = .builtin .append) {tm:List PV} {top:List Blk} {K:PV->List Blk->Prop} (h:actK C H (.call c) tm top K)
 {t:Nat} {rest:List Operand} (hargs:c.args.toList = .tmp t::rest) (ht:tm[t]? = some .emp):∃ pv top',K pv top'/\top.length<=top'.length/\GenLe top top'/\bU C H o tm top pv top'/\top <+: top'/\bQ C H o tm top pv top':=by
 simp only [actK,hcl] at h
 split at h
 case h_2=>exact h.elim
 rename_i x y ty ty' hx hty
 simp only [ifK] at h
 split at h
 case h_2=>exact h.elim
 rename_i hb
 obtain rfl:=aBj hb
 obtain ⟨p,hp,h⟩:=aT h
 obtain ⟨q,hq,h⟩:=aT h
 have hpe:p = .emp:=by
  rw [hargs] at hx
  obtain rfl:=(List.cons.inj hx).1
  change tm[t]? = some p at hp
  rw [ht] at hp;exact (aBr hp).symm
 obtain ⟨pv,top',h1,h2,h3,h4,h5⟩:=mC hC ho hcl (by rw [<- Array.toArray_toList (xs:=c.args),hx]) (by rw [<- Array.toArray_toList (xs:=c.argTypes),hty]) hp hq h
 exact ⟨pv,top',h1,h2,h3,h4,h5 hpe⟩
theorem xK {C:Cx} {H:List (List Blk)} {es:List Nat} {op:Op} {tm:List PV} {top:List Blk} {K:PV->List Blk->Prop} (h:actF C H es op tm top K) :
 actK C H op tm top K/\(Op.turns C.give [] op=Op.turns C.give es op \/ ∃ c t rest,op = .call c/\c.callee = .builtin .append/\c.args.toList = .tmp t::rest/\tm[t]? = some .emp):=by
 cases es with
 | nil=>exact ⟨h,.inl rfl⟩
 | cons e es=>
   cases op with
   | call c=>
     unfold actF at h
     dsimp only at h
     cases hcl:c.callee with
     | builtin b=>
       rw [hcl] at h
       cases b <;> try exact ⟨h,.inl (by simp only [Op.turns,hcl])⟩
       dsimp only at h
       cases hx:c.args.toList with
       | nil=>rw [hx] at h;exact ⟨h,.inl (by simp only [Op.turns,hcl,hx])⟩
       | cons x rest=>
         rw [hx] at h
         cases x with
         | tmp t=>
           dsimp only at h
           cases ha:(e::es).any (Nat.beq t) with
           | true=>
             rw [ha] at h
             obtain ⟨p,hp,h⟩:=getK_spec.1 h
             cases p with
             | emp=>exact ⟨h,.inr ⟨c,t,rest,rfl,hcl,hx,hp⟩⟩
             | _=>exact h.elim
           | false=>rw [ha] at h;exact ⟨h,.inl (by simp only [Op.turns,hcl,hx,ha];rfl)⟩
         | const v=>exact ⟨h,.inl (by simp only [Op.turns,hcl,hx])⟩
         | global g=>exact ⟨h,.inl (by simp only [Op.turns,hcl,hx])⟩
         | func f=>exact ⟨h,.inl (by simp only [Op.turns,hcl,hx])⟩
     | value f=>rw [hcl] at h;exact ⟨h,.inl (by simp only [Op.turns,hcl];cases f <;> rfl)⟩
     | invoke r n=>rw [hcl] at h;exact ⟨h,.inl (by simp only [Op.turns,hcl])⟩
   | _=>exact ⟨h,.inl rfl⟩
theorem fJ {C:Cx} (hC:C.Ok) {H:List (List Blk)} {o:Oper} {tm:List PV} {top:List Blk} {K:PV->List Blk->Prop} (h:actK C H o.op tm top K) :
 ∃ pv top',K pv top'/\top.length<=top'.length/\GenLe top top'/\bU C H o tm top pv top'/\(Op.turns C.give [] o.op=false->top <+: top'/\bQ C H o tm top pv top')/\(pureOp o.op=true->top'=top/\fA C.P o tm pv):=by
 cases hp:pureOp o.op with
 | true=>
   obtain ⟨pv,h1,h2⟩:=qV hC h hp
   exact ⟨pv,top,h1,aBo _,GenLe.refl _,h2.step.act (List.prefix_refl _),fun _=>⟨List.prefix_refl _,h2.step⟩,fun _=>⟨rfl,h2⟩⟩
 | false=>
   cases ht:Op.turns C.give [] o.op with
   | true=>
     obtain ⟨pv,top',h1,h2,hg,h3⟩:=qR hC h
     exact ⟨pv,top',h1,h2,hg,h3,fun h=>(by cases h),fun h=>(by cases h)⟩
   | false=>
     have h':opK C H o.op tm top K:=by
      cases ho:o.op with
      | store t a v=>rw [ho] at ht;cases ht
      | buildSlice t n parts=>
        rw [ho] at h ht
        have ht:C.give.any (Nat.beq (t+1000))=false:=ht
        have h:(match C.give.any (Nat.beq (t+1000)) with | true=>litDeepK C tm top t n parts.toList K | false=>opK C H (.buildSlice t n parts) tm top K):=h
        rw [ht] at h
        exact h
      | call c=>
        rw [ho] at h ht
        unfold actK at h
        dsimp only at h
        unfold Op.turns at ht
        dsimp only at ht
        cases hcl:c.callee with
        | builtin b=>
          rw [hcl] at h ht
          cases b <;> try exact h
          all_goals exfalso;dsimp only at ht
          all_goals first | (cases ht;done) | (split at ht <;> cases ht)
        | invoke r n=>rw [hcl] at h;exact h
        | value f=>
          rw [hcl] at h ht
          cases f with
          | func f=>
            dsimp only at h ht
            rw [ht] at h
            exact h
          | tmp t=>exact h
          | const v=>exact h
          | global g=>exact h
      | _=>rw [ho] at h;exact h
     obtain ⟨pv,top',h1,h2,h3⟩:=rR hC h'
     exact ⟨pv,top',h1,h2.isPre.length_le,h2.genLe,h3.act h2.isPre,fun _=>⟨h2.isPre,h3⟩,fun h=>(by cases h)⟩
theorem xL {C:Cx} (hC:C.Ok) {H:List (List Blk)} {es:List Nat} {o:Oper} {tm:List PV} {top:List Blk} {K:PV->List Blk->Prop} (h:actF C H es o.op tm top K) :
 ∃ pv top',K pv top'/\top.length<=top'.length/\GenLe top top'/\bU C H o tm top pv top'/\(Op.turns C.give es o.op=false->top <+: top'/\bQ C H o tm top pv top')/\(pureOp o.op=true->top'=top/\fA C.P o tm pv):=by
 obtain ⟨h,he | ⟨c,t,rest,ho,hcl,hx,ht⟩⟩:=xK h
 . rw [<- he];exact fJ hC h
 . obtain ⟨pv,top',h1,h2,h3,h4,h5⟩:=zC hC ho hcl (ho ▸ h) hx ht
   exact ⟨pv,top',h1,h2,h3,h4,fun _=>h5,fun hp=>by rw [ho] at hp;cases hp⟩
def sB (x y:List PV):Prop:=x.length=y.length /\ ∀ (t:Nat) p,x[t]? = some p -> ∃ q,y[t]? = some q /\ ∀ m v,RP m p v->RP m q v
theorem sB.refl (x:List PV):sB x x:=⟨rfl,fun t p h=>⟨p,h,fun _ _ h=>h⟩⟩
structure Seqn where
 w:Nat->Bool
 pv:Nat->PV
 tc:Nat->List PV
 tr:Nat->List PV
 tp:Nat->List Blk
structure StpOk (C:Cx) (H:List (List Blk)) (es:List Nat) (ops:List Oper) (o:Oper) (w:Bool) (pv:PV) (tc tr tc':List PV) (tp tp':List Blk):Prop where
 le:sB tc tr
 want:(o.guard=none/\w=true) \/ ∃ j b o' d p x,o.guard=some (j,b)/\ops[j]? = some o'/\o'.dst=some d/\(tc[d]? = some p/\bool? p=some x/\w=(x==b)\/tc[d]? = some (.tuple [])/\w=false)
 next:(o.dst=none/\tc'=tr) \/ ∃ d,o.dst=some d/\d < tr.length/\tc'=tr.set d pv
 skip:w=false->pv = .tuple []/\tp'=tp
 len:tp.length<=tp'.length
 gen:GenLe tp tp'
 act:w=true->bU C H o tr tp pv tp'
 op:w=true->Op.turns C.give es o.op=false->tp <+: tp'/\bQ C H o tr tp pv tp'
 pure:w=true->pureOp o.op=true->tp'=tp/\fA C.P o tr pv
theorem xM {ops:List Oper} {o:Oper} {tm:List PV} {K:Bool->List PV->Prop} (hk:wantK ops o tm K) :
 ∃ w tm1,K w tm1/\sB tm tm1/\((o.guard=none/\w=true) \/ ∃ j b o' d p x,o.guard=some (j,b)/\ops[j]? = some o'/\o'.dst=some d/\(tm[d]? = some p/\bool? p=some x/\w=(x==b)\/tm[d]? = some (.tuple [])/\w=false)):=by
 unfold wantK at hk
 split at hk
 . rename_i hg
   exact ⟨true,tm,hk,.refl _,.inl ⟨hg,rfl⟩⟩
 . rename_i j b hg
   obtain ⟨o',ho',hk⟩:=getK_spec.1 hk
   split at hk
   . exact hk.elim
   . rename_i d hd
     obtain ⟨p,hp,hk⟩:=getK_spec.1 hk
     split at hk
     . rename_i x
       exact ⟨_,tm,hk,.refl _,.inr ⟨j,b,o',d,_,x,hg,ho',hd,.inl ⟨hp,rfl,rfl⟩⟩⟩
     . exact ⟨false,tm,hk,.refl _,.inr ⟨j,b,o',d,.any,false,hg,ho',hd,.inr ⟨hp,rfl⟩⟩⟩
     . rename_i x
       have same:sB tm (tm.set d (.kb x)):=by
        refine ⟨by simp,fun t q hq=>?_⟩
        by_cases ht:d=t
        . subst ht
          rw [hp] at hq;cases hq
          refine ⟨.kb x,by simp [(aAe.1 hp).1],fun m v hv=>?_⟩
          cases hv with | d _ _ hx=>cases hx;exact .kb _
        . exact ⟨q,by rw [aAs ht];exact hq,fun _ _ h=>h⟩
       by_cases hxb:x=b
       . subst hxb
         exact ⟨true,_,(setK_spec.1 (hk.1 rfl)).2,same,.inr ⟨j,x,o',d,_,x,hg,ho',hd,.inl ⟨hp,rfl,by cases x <;> rfl⟩⟩⟩
       . have hx:x = !b:=by cases x <;> cases b <;> first | rfl | exact absurd rfl hxb
         subst hx
         exact ⟨false,_,(setK_spec.1 (hk.2 rfl)).2,same,.inr ⟨j,b,o',d,_,!b,hg,ho',hd,.inl ⟨hp,rfl,by cases b <;> rfl⟩⟩⟩
     . exact hk.elim
theorem fK {o:Oper} {tr:List PV} {pv:PV} {K:List PV->Prop} (h:putDst o tr pv K):∃ tc',K tc'/\((o.dst=none/\tc'=tr) \/ ∃ d,o.dst=some d/\d < tr.length/\tc'=tr.set d pv):=by
 unfold putDst at h
 split at h
 . rename_i hd;exact ⟨tr,h,.inl ⟨hd,rfl⟩⟩
 . rename_i d hd;obtain ⟨h1,h2⟩:=setK_spec.1 h;exact ⟨_,h2,.inr ⟨d,hd,h1,rfl⟩⟩
theorem canon {C:Cx} (hC:C.Ok) {H:List (List Blk)} {es:List Nat} {ops:List Oper} {K:List PV->List Blk->Prop}:∀ (l:List Oper) (tm:List PV) (top:List Blk),opsK C H es ops l tm top K ->
 ∃ S:Seqn,S.tc 0=tm/\S.tp 0=top/\K (S.tc l.length) (S.tp l.length) /\ ∀ (k:Nat) o,l[k]? = some o->StpOk C H es ops o (S.w k) (S.pv k) (S.tc k) (S.tr k) (S.tc (k+1)) (S.tp k) (S.tp (k+1))
 | [],tm,top,h=>⟨⟨fun _=>true,fun _=>.any,fun _=>tm,fun _=>tm,fun _=>top⟩,rfl,rfl,h,fun k o hk=>by simp at hk⟩
 | o::l,tm,top,h=>by
   unfold opsK at h
   obtain ⟨w,tr,h,hle,hw⟩:=xM h
   have fin:∀ (pv:PV) (tc':List PV) (top':List Blk),StpOk C H es ops o w pv tm tr tc' top top'->opsK C H es ops l tc' top' K ->
    ∃ S:Seqn,S.tc 0=tm/\S.tp 0=top/\K (S.tc (o::l).length) (S.tp (o::l).length) /\ ∀ (k:Nat) o',(o::l)[k]? = some o'->StpOk C H es ops o' (S.w k) (S.pv k) (S.tc k) (S.tr k) (S.tc (k+1)) (S.tp k) (S.tp (k+1)):=by
    intro pv tc' top' hs hk
    obtain ⟨S,h1,h2,h3,h4⟩:=canon hC l tc' top' hk
    refine ⟨⟨fun i=>match i with | 0=>w | i+1=>S.w i,fun i=>match i with | 0=>pv | i+1=>S.pv i,fun i=>match i with | 0=>tm | i+1=>S.tc i,fun i=>match i with | 0=>tr | i+1=>S.tr i,fun i=>match i with | 0=>top | i+1=>S.tp i⟩,rfl,rfl,h3,fun k o' hk=>?_⟩
    cases k with
    | zero=>
      simp at hk
      subst hk
      show StpOk C H es ops o w pv tm tr (S.tc 0) top (S.tp 0)
      rw [h1,h2];exact hs
    | succ k=>exact h4 k o' (by simpa using hk)
   cases w with
   | true=>
     obtain ⟨pv,top',h,hl,hG,hA,hO,hP⟩:=xL hC h
     obtain ⟨tc',h,hn⟩:=fK h
     exact fin pv tc' top' ⟨hle,hw,hn,fun h=>(by cases h),hl,hG,fun _=>hA,fun _=>hO,fun _=>hP⟩ h
   | false=>
     obtain ⟨tc',h,hn⟩:=fK h
     exact fin (.tuple []) tc' top ⟨hle,hw,hn,fun _=>⟨rfl,rfl⟩,aBo _,GenLe.refl _,fun h=>(by cases h),fun h=>(by cases h),fun h=>(by cases h)⟩ h
theorem testBit_anc {T:List Nat}:∀ (l:List Edge) (s i:Nat),(l.foldl (fun s e=>bif Region.binds .any e then Nat.lor (Nat.lor s (Nat.shiftLeft 1 e.on)) (T.getD e.on 0) else s) s).testBit i=true ->
 s.testBit i=true \/ ∃ e ∈ l,Region.binds .any e=true/\(e.on=i\/(T.getD e.on 0).testBit i=true)
 | [],s,i,h=>.inl h
 | e::l,s,i,h=>by
   rw [List.foldl_cons] at h
   rcases testBit_anc l _ i h with h1 | ⟨e',he,h1⟩
   . cases hb:Region.binds .any e with
     | false=>rw [hb] at h1;exact .inl h1
     | true=>
       rw [hb] at h1
       change ((s ||| (1 <<< e.on)) ||| T.getD e.on 0).testBit i=true at h1
       simp only [Nat.testBit_or,aB1,Nat.testBit_shiftLeft] at h1
       rcases h1 with (h1 | h1) | h1
       . exact .inl h1
       . simp only [aBs,decide_eq_true_eq] at h1
         obtain ⟨h2,h3⟩:=h1
         have:i - e.on=0:=by
          rcases Nat.eq_zero_or_pos (i - e.on) with h | h
          . exact h
          . exfalso
            obtain ⟨k,hk⟩:∃ k,i - e.on=k+1:=⟨i - e.on - 1,by omega⟩
            rw [hk] at h3
            simp [Nat.testBit_succ] at h3
         exact .inr ⟨e,aAu,hb,.inl (by omega)⟩
       . exact .inr ⟨e,aAu,hb,.inr h1⟩
   . exact .inr ⟨e',aAv _ he,h1⟩
structure Drawn (tn:Op->Bool) (ops:List Oper) (T:List Nat):Prop where
 back:∀ (j:Nat) o,ops[j]? = some o -> ∀ e ∈ o.after,Region.binds .any e=true->e.on < j
 bit:∀ (j:Nat) o,ops[j]? = some o -> ∀ i,bitB T j i=true -> ∃ e ∈ o.after,Region.binds .any e=true/\(e.on=i\/bitB T e.on i=true)
 pair:∀ (i j:Nat) oi oj,i < j->ops[i]? = some oi->ops[j]? = some oj->bitB T j i=true\/(oi.apart ops.toArray oj=true/\(pureOp oi.op=true\/pureOp oj.op=true\/lateB tn ops j=false))
theorem drawOk_spec {tn:Op->Bool} {ops:List Oper} (h:drawOk tn ops.toArray=true):∃ T,Drawn tn ops T:=by
 unfold drawOk at h
 generalize ancs ops.toArray.toList=T at h
 refine ⟨T,?_⟩
 unfold drawAt at h
 rw [aBd] at h
 have H:∀ (j:Nat) o,ops[j]? = some o->_:=fun j o ho=>by
  have:=h j (aBe.2 (by simpa using (aAe.1 ho).1))
  simp only [aBx,ho,aBs] at this
  exact this
 refine ⟨fun j o ho e he hb=>?_,fun j o ho i hi=>?_,fun i j oi oj hij hi hj=>?_⟩
 . have:=Array.all_eq_true_iff_forall_mem.1 (H j o ho).1.1 e he
   rw [hb] at this
   simpa [Nat.blt_eq] using this
 . have h1:=aBj (H j o ho).1.2
   unfold bitB at hi
   rw [h1] at hi
   rcases testBit_anc _ _ _ hi with h2 | ⟨e,he,h2⟩
   . simp at h2
   . exact ⟨e,by simpa using he,h2⟩
 . have h1:=aBd.1 (H j oj hj).2 i (aBe.2 hij)
   simp only [hi,aB1,aBs,Bool.not_eq_true'] at h1
   rcases h1 with h1 | ⟨h1,h2⟩
   . exact .inl h1
   . exact .inr ⟨h1,by rcases h2 with (h2 | h2) | h2 <;> simp [h2]⟩
def Dn (L:Array Bool) (i:Nat):Prop:=L.getD i false=true
theorem dn_set {L:Array Bool} {i:Nat} (hi:i < L.size) (j:Nat):Dn (L.setIfInBounds i true) j↔j=i\/Dn L j:=by
 unfold Dn
 by_cases h:i=j
 . subst h;simp [hi]
 . rw [getD_set_ne false h]
   constructor
   . exact .inr
   . rintro (rfl | h2)
     . exact absurd rfl h
     . exact h2
def Closed (ops:List Oper) (L:Array Bool):Prop:=∀ (j:Nat) o,ops[j]? = some o->Dn L j -> ∀ e ∈ o.after,Region.binds .any e=true->Dn L e.on
def Rdy (ops:List Oper) (L:Array Bool) (j:Nat):Prop:=∃ o,ops[j]? = some o /\ ∀ e ∈ o.after,Region.binds .any e=true->Dn L e.on
theorem bit_done {tn:Op->Bool} {ops:List Oper} {T:List Nat} (hD:Drawn tn ops T) {L:Array Bool} (hC:Closed ops L):∀ (n j:Nat),j < n->Rdy ops L j -> ∀ i,bitB T j i=true->Dn L i:=by
 intro n
 induction n with
 | zero=>intro j hj;omega
 | succ n ih=>
   intro j hj ⟨o,ho,hr⟩ i hi
   obtain ⟨e,he,hb,h⟩:=hD.bit j o ho i hi
   have hd:=hr e he hb
   rcases h with h | h
   . rw [<- h];exact hd
   . have hlt:=hD.back j o ho e he hb
     have hlen:e.on < ops.length:=by have:=(aAe.1 ho).1;omega
     exact ih e.on (by omega) ⟨_,aAf hlen,hC e.on _ (aAf hlen) hd⟩ i h
theorem done_bit {tn:Op->Bool} {ops:List Oper} {T:List Nat} (hD:Drawn tn ops T) {L:Array Bool} (hC:Closed ops L) {j:Nat} {o:Oper} (ho:ops[j]? = some o) (hd:Dn L j) {i:Nat} (hi:bitB T j i=true):Dn L i:=
 bit_done hD hC (j+1) j (aBm j) ⟨o,ho,hC j o ho hd⟩ i hi
theorem tm_mono {C:Cx} {H:List (List Blk)} {es:List Nat} {ops:List Oper} {S:Seqn} (hS:∀ (k:Nat) o,ops[k]? = some o->StpOk C H es ops o (S.w k) (S.pv k) (S.tc k) (S.tr k) (S.tc (k+1)) (S.tp k) (S.tp (k+1))) {t:Nat} :
 ∀ (n i:Nat),i+n<=ops.length->(∀ (j:Nat) o,i<=j->j < i+n->ops[j]? = some o->o.dst≠some t) -> ∀ p,(S.tc i)[t]? = some p -> ∃ q,(S.tc (i+n))[t]? = some q /\ ∀ m v,RP m p v->RP m q v:=by
 intro n
 induction n with
 | zero=>intro i _ _ p hp;exact ⟨p,hp,fun _ _ h=>h⟩
 | succ n ih=>
   intro i hl hno p hp
   have hi:i < ops.length:=by omega
   have ho:ops[i]? = some ops[i]:=aAf hi
   have s:=hS i _ ho
   obtain ⟨q,hq,h1⟩:=s.le.2 t p hp
   have hq':(S.tc (i+1))[t]? = some q:=by
    rcases s.next with ⟨_,h⟩ | ⟨d,hd,_,h⟩
    . rw [h];exact hq
    . rw [h,aAs]
      . exact hq
      . rintro rfl
        exact hno i _ (aBo _) (by omega) ho hd
   obtain ⟨r,hr,h2⟩:=ih (i+1) (by omega) (fun j o h3 h4=>hno j o (by omega) (by omega)) q hq'
   exact ⟨r,by rw [show i+(n+1)=i+1+n by omega];exact hr,fun m v h=>h2 m v (h1 m v h)⟩
theorem tc_len {C:Cx} {H:List (List Blk)} {es:List Nat} {ops:List Oper} {S:Seqn} (hS:∀ (k:Nat) o,ops[k]? = some o->StpOk C H es ops o (S.w k) (S.pv k) (S.tc k) (S.tr k) (S.tc (k+1)) (S.tp k) (S.tp (k+1))):∀ (i:Nat),i<=ops.length->(S.tc i).length=(S.tc 0).length:=by
 intro i
 induction i with
 | zero=>intro _;rfl
 | succ i ih=>
   intro hi
   have s:=hS i _ (aAf (by omega:i < ops.length))
   rw [<- ih (by omega),s.le.1]
   rcases s.next with ⟨_,h⟩ | ⟨d,_,_,h⟩ <;> rw [h] <;> simp
theorem tp_same {C:Cx} {H:List (List Blk)} {es:List Nat} {ops:List Oper} {S:Seqn} (hS:∀ (k:Nat) o,ops[k]? = some o->StpOk C H es ops o (S.w k) (S.pv k) (S.tc k) (S.tr k) (S.tc (k+1)) (S.tp k) (S.tp (k+1))) :
 ∀ (n i:Nat),i+n<=ops.length->(∀ (j:Nat) o,i<=j->j < i+n->ops[j]? = some o->pureOp o.op=true)->S.tp (i+n)=S.tp i:=by
 intro n
 induction n with
 | zero=>intro i _ _;rfl
 | succ n ih=>
   intro i hl hp
   have ho:ops[i]? = some ops[i]:=aAf (by omega)
   have s:=hS i _ ho
   rw [show i+(n+1)=i+1+n by omega,ih (i+1) (by omega) (fun j o h1 h2=>hp j o (by omega) (by omega))]
   cases hw:S.w i with
   | true=>exact (s.pure hw (hp i _ (aBo _) (by omega) ho)).1
   | false=>exact (s.skip hw).2
theorem tp_prefix {C:Cx} {H:List (List Blk)} {es:List Nat} {ops:List Oper} {S:Seqn} (hS:∀ (k:Nat) o,ops[k]? = some o->StpOk C H es ops o (S.w k) (S.pv k) (S.tc k) (S.tr k) (S.tc (k+1)) (S.tp k) (S.tp (k+1))) :
 ∀ (n i:Nat),i+n<=ops.length->(∀ (j:Nat) o,i<=j->j < i+n->ops[j]? = some o->Op.turns C.give es o.op=false)->S.tp i <+: S.tp (i+n):=by
 intro n
 induction n with
 | zero=>intro i _ _;exact List.prefix_refl _
 | succ n ih=>
   intro i hl hp
   have ho:ops[i]? = some ops[i]:=aAf (by omega)
   have s:=hS i _ ho
   rw [show i+(n+1)=i+1+n by omega]
   refine List.IsPrefix.trans ?_ (ih (i+1) (by omega) (fun j o h1 h2=>hp j o (by omega) (by omega)))
   cases hw:S.w i with
   | true=>exact (s.op hw (hp i _ (aBo _) (by omega) ho)).1
   | false=>rw [(s.skip hw).2];exact List.prefix_refl _
theorem pre_get {α:Type} {t t':List α} (h:t <+: t') {i:Nat} {b:α} (hb:t[i]? = some b):t'[i]? = some b:=by
 obtain ⟨s,rfl⟩:=h
 rw [aAk (aAe.1 hb).1]
 exact hb
theorem getB_prefix {t t':List Blk} (h:t <+: t') {H:List (List Blk)} {l i:Nat} {b:Blk} (hb:getB t H l i=some b):getB t' H l i=some b:=by
 cases l with
 | zero=>exact pre_get h hb
 | succ l=>exact hb
theorem inv_prefix {m:M} {t t':List Blk} (h:t <+: t') {H:List (List Blk)} (hi:Inv m t' H):Inv m t H:=
 ⟨fun l i b hb=>hi.blk l i b (getB_prefix h hb),fun l i b l' i' b' v v' k h1 h2 h3 h4=>hi.inj l i b l' i' b' v v' k (getB_prefix h h1) h2 (getB_prefix h h3) h4,
  fun l i b v k h1 h2=>hi.own l i b v k (getB_prefix h h1) h2,hi.lt,
  hi.sub.of (fun i p e c v h1 h2=>⟨getB_prefix (H:=H) (l:=0) h h1,h2⟩) (fun p V hV=>hV) (fun p et sz xs V h1 h2=>⟨getB_prefix (H:=H) (l:=0) h h1,fun _ _=>rfl⟩)⟩
theorem inv_join {m m':M} {t0 t1 t:List Blk} (h01:t0 <+: t1) (h1:t1 <+: t) {H:List (List Blk)} (hi:Inv m t H) (hg:Grow m m') (hρ:∀ l j,¬ (l=0/\t0.length<=j/\j < t1.length)->m'.ρ l j=m.ρ l j)
 (hfr:∀ j b u k,t0.length<=j->t1[j]? = some b->m'.ρ 0 j=some u->b.has m'.w u k->m.w.heap.size<=k) (hnone:∀ j,t0.length<=j->j < t1.length->m.ρ 0 j=none) (hi':Inv m' t1 H):Inv m' t H:=by
 have get:∀ l i b,getB t H l i=some b->(l=0/\t0.length<=i/\i < t1.length/\getB t1 H l i=some b)\/(¬ (l=0/\t0.length<=i/\i < t1.length)):=by
  intro l i b hb
  by_cases h:l=0/\t0.length<=i/\i < t1.length
  . obtain ⟨rfl,h2,h3⟩:=h
    refine .inl ⟨rfl,h2,h3,?_⟩
    have:=pre_get h1 (aAf h3)
    simp only [getB] at hb ⊢
    rw [this] at hb
    rw [aAf h3];exact hb
  . exact .inr h
 have old:∀ l i b v k,getB t H l i=some b->b.live=true -> ¬ (l=0/\t0.length<=i/\i < t1.length)->m'.ρ l i=some v->b.has m'.w v k->m.ρ l i=some v/\k < m.w.heap.size/\m.U k/\b.has m.w v k:=by
  intro l i b v k hb hl hn hv hk
  rw [hρ l i hn] at hv
  have hk:=hi.grow hg hb hl hv hk
  have:=hi.own l i b v k hb hl hv hk
  exact ⟨hv,hi.lt k this,this,hk⟩
 refine ⟨fun l i b hb=>?_,fun l i b l' i' b' v v' k hb hl hb' hl' hv hv' hk hk'=>?_,fun l i b v k hb hl hv hk=>?_,hi'.lt,fun i p e c v h2 h3=>?_⟩
 . rcases get l i b hb with ⟨_,_,_,h⟩ | h
   . exact hi'.blk l i b h
   . exact (hi.blk l i b hb).keep hg.keep (hρ l i h) (fun v k hl hv hk=>hg.heap k (hi.lt k (hi.own l i b v k hb hl hv hk)))
 . rcases get l i b hb with ⟨rfl,a1,a2,a3⟩ | h <;> rcases get l' i' b' hb' with ⟨rfl,b1,b2,b3⟩ | h'
   . exact hi'.inj 0 i b 0 i' b' v v' k a3 hl b3 hl' hv hv' hk hk'
   . exfalso
     have:=hfr i b v k a1 a3 hv hk
     have:=(old l' i' b' v' k hb' hl' h' hv' hk').2.1
     omega
   . exfalso
     have:=hfr i' b' v' k b1 b3 hv' hk'
     have:=(old l i b v k hb hl h hv hk).2.1
     omega
   . exact hi.inj l i b l' i' b' v v' k hb hl hb' hl' (old l i b v k hb hl h hv hk).1 (old l' i' b' v' k hb' hl' h' hv' hk').1 (old l i b v k hb hl h hv hk).2.2.2 (old l' i' b' v' k hb' hl' h' hv' hk').2.2.2
 . rcases get l i b hb with ⟨_,_,_,h⟩ | h
   . exact hi'.own l i b v k h hl hv hk
   . obtain ⟨h2,h3,h4,_⟩:=old l i b v k hb hl h hv hk
     exact (hg.U k h3).2 h4
 . rcases get 0 i _ h2 with ⟨_,a1,a2,a3⟩ | hn
   . obtain ⟨q1,V,q2,q3⟩:=hi'.sub i p e c v a3 h3
     refine ⟨q1,V,q2,fun et sz xs x e2 sz2 ys flat d1=>q3 et sz xs x e2 sz2 ys flat ?_⟩
     have:=pre_get h1 (aAf (show p < t1.length by omega))
     rw [this] at d1
     rw [aAf (show p < t1.length by omega)];exact d1
   . rw [hρ 0 i hn] at h3
     obtain ⟨q1,V,q2,q3⟩:=hi.sub i p e c v h2 h3
     have hpn:¬ (0=0/\t0.length<=p/\p < t1.length):=fun h=>by rw [hnone p h.2.1 h.2.2] at q2;cases q2
     refine ⟨q1,V,by rw [hρ 0 p hpn];exact q2,fun et sz xs x e2 sz2 ys flat d1 d2 d3 d4=>q3 et sz xs x e2 sz2 ys flat d1 d2 d3 (ownsRow_same d4 fun k hk=>?_)⟩
     exact (hg.heap k (hi.lt k (hi.own 0 p _ V k d1 rfl q2 (Blk.has_head hk)))).symm
def Stage (ops:List Oper) (L:Array Bool) (t i:Nat):Prop:=∀ (j:Nat) o,ops[j]? = some o->o.dst=some t->(j < i↔Dn L j)
structure Some0 (ops:List Oper) (S:Seqn) (m0:M0) (m:M) (a:Act) (L:Array Bool):Prop where
 len:L.size=ops.length
 closed:Closed ops L
 size:a.tmps.size=(S.tc 0).length
 vals:∀ (t i:Nat) p v,i<=ops.length->Stage ops L t i->(S.tc i)[t]? = some p->a.tmps[t]? = some v->RP m p v
 prot:∀ j,¬ m0.W j->a.tmps[j]? = m0.A j
 tsz:a.tmps.size=m0.tsz
structure Some1 (C:Cx) (H:List (List Blk)) (es:List Nat) (ops:List Oper) (S:Seqn) (m0:M0) (m:M) (a:Act) (L:Array Bool):Prop extends Some0 ops S m0 m a L where
 phase:∃ c,c<=ops.length/\Since m0 m (S.tp c)/\(∃ V,Calm H m0 m a.defers (S.tp c) V)/\Inv m (S.tp c) H/\(∀ j,(S.tp c).length<=j->m.ρ 0 j=none)/\(∀ (i:Nat) o,ops[i]? = some o->c<=i->lateB (Op.turns C.give es) ops i=true) /\
  (∀ (i:Nat) o,ops[i]? = some o->pureOp o.op=false->c<=i -> ¬ Dn L i) /\
  (∀ (i:Nat) o,ops[i]? = some o->pureOp o.op=false->i < c -> ¬ Dn L i->lateB (Op.turns C.give es) ops (c - 1)=false /\ ∀ j,(S.tp i).length<=j->j < (S.tp (i+1)).length->m.ρ 0 j=none)
theorem late_no {tn:Op->Bool} {ops:List Oper} {c:Nat} (h:lateB tn ops (c - 1)=false) {j:Nat} {o:Oper} (hj:j < c) (ho:ops[j]? = some o):tn o.op=false:=by
 unfold lateB at h
 rw [List.any_eq_false] at h
 have:o ∈ ops.take (c - 1+1):=aAg (i:=j) (by rw [List.getElem?_take_of_lt (by omega)];exact ho)
 simpa using h o this
section
variable {C:Cx} {H:List (List Blk)} {es:List Nat} {tn:Op->Bool} {ops:List Oper} {S:Seqn} {T:List Nat} {m0:M0} {m:M} {a:Act} {L:Array Bool}
theorem stage_of (hD:Drawn tn ops T) (hL:Some0 ops S m0 m a L) {i:Nat} {o:Oper} (ho:ops[i]? = some o) (hr:Rdy ops L i) (hn:¬ Dn L i) {t:Nat} (ht:t ∈ o.looksAt ops.toArray):Stage ops L t i:=by
 intro j oj hj hd
 rcases Nat.lt_trichotomy j i with h | h | h
 . refine ⟨fun _=>?_,fun _=>h⟩
   rcases hD.pair j i oj o h hj ho with hb | ⟨hap,_⟩
   . exact bit_done hD hL.closed (i+1) i (aBm i) hr j hb
   . exact absurd ht ((Oper.apart_spec hap).1 t hd)
 . subst h
   exact ⟨fun h=>absurd h (Nat.lt_irrefl _),fun h=>absurd h hn⟩
 . refine ⟨fun h'=>by omega,fun hdn=>?_⟩
   rcases hD.pair i j o oj h ho hj with hb | ⟨hap,_⟩
   . exact absurd (done_bit hD hL.closed hj hdn hb) hn
   . exact absurd ht ((Oper.apart_spec hap).2.2 t hd)
theorem closed_set (hL:L.size=ops.length) (hc:Closed ops L) {i:Nat} (hr:Rdy ops L i):Closed ops (L.setIfInBounds i true):=by
 obtain ⟨o,ho,hr⟩:=hr
 have hi:i < L.size:=by rw [hL];exact (aAe.1 ho).1
 intro j oj hj hd e he hb
 rw [dn_set hi] at hd ⊢
 rcases hd with rfl | hd
 . rw [ho] at hj;cases hj
   exact .inr (hr e he hb)
 . exact .inr (hc j oj hj hd e he hb)
theorem vals_set (hS:∀ (k:Nat) o,ops[k]? = some o->StpOk C H es ops o (S.w k) (S.pv k) (S.tc k) (S.tr k) (S.tc (k+1)) (S.tp k) (S.tp (k+1))) (hD:Drawn tn ops T) (hL:Some0 ops S m0 m a L) {i:Nat} {o:Oper} (ho:ops[i]? = some o)
 (hn:¬ Dn L i) {m':M} (hK:Keep m m') {v:Value} (hv:RP m' (S.pv i) v) :
 ∀ (t k:Nat) p u,k<=ops.length->Stage ops (L.setIfInBounds i true) t k->(S.tc k)[t]? = some p->(a.put o.dst v).tmps[t]? = some u->RP m' p u:=by
 intro t k p u hk hst hp hu
 have hi:i < L.size:=by rw [hL.len];exact (aAe.1 ho).1
 have hil:i < ops.length:=(aAe.1 ho).1
 by_cases hd:o.dst=some t
 . have hik:i < k:=(hst i o ho hd).2 ((dn_set hi i).2 (.inl rfl))
   have hlt:t < (S.tc k).length:=(aAe.1 hp).1
   have hut:u=v:=by
    rw [hd] at hu
    simp only [Act.put] at hu
    have:t < a.tmps.size:=by have:=(aBw.1 hu).1;simpa using this
    simp [this] at hu
    exact hu.symm
   subst hut
   have h1:(S.tc (i+1))[t]? = some (S.pv i):=by
    rcases (hS i o ho).next with ⟨h,_⟩ | ⟨d,h,hlt',h2⟩
    . rw [h] at hd;cases hd
    . rw [hd] at h;cases h
      rw [h2];simp [hlt']
   obtain ⟨q,hq,h2⟩:=tm_mono hS (t:=t) (k - (i+1)) (i+1) (by omega) (fun j oj h3 h4 hj hjd=>by
    have h5:Dn L j:=by
     rcases (dn_set hi j).1 ((hst j oj hj hjd).1 (by omega)) with h | h
     . omega
     . exact h
    rcases hD.pair i j o oj (by omega) ho hj with hb | ⟨hap,_⟩
    . exact hn (done_bit hD hL.closed hj h5 hb)
    . exact (Oper.apart_spec hap).2.1 t hd hjd) _ h1
   rw [show i+1+(k - (i+1))=k by omega] at hq
   rw [hp] at hq;cases hq
   exact h2 m' u hv
 . have hu':a.tmps[t]? = some u:=by
    unfold Act.put at hu
    split at hu
    . rename_i d hd'
      rw [hd'] at hd
      have hne:d≠t:=fun e=>hd (by rw [e])
      rw [Array.getElem?_setIfInBounds_ne hne] at hu
      exact hu
    . exact hu
   refine (hL.vals t k p u hk (fun j oj hj hjd=>?_) hp hu').keep hK
   rw [hst j oj hj hjd,dn_set hi]
   constructor
   . rintro (rfl | h)
     . rw [ho] at hj;cases hj;exact absurd hjd hd
     . exact h
   . exact .inr
end
theorem rp_bool {m:M} {p:PV} {v:Value} {b:Bool} (h:RP m p v) (hb:bool? p=some b):v = .bool b:=by
 cases p with
 | kb x=>simp [bool?] at hb;subst hb;cases h;rfl
 | d x=>
   cases x with
   | bool x=>simp [bool?] at hb;subst hb;cases h with | d _ _ hx=>cases hx;rfl
   | int k n=>simp [bool?] at hb
   | str s=>simp [bool?] at hb
   | sl xs=>simp [bool?] at hb
   | own e sz xs=>simp [bool?] at hb
   | junk=>simp [bool?] at hb
   | val v=>simp [bool?] at hb
 | _=>simp [bool?] at hb
theorem St.draw {H:List (List Blk)} {m0:M0} {m:M} {a:Act} {tm:List PV} {top:List Blk} (h:St H m0 m a tm top) (n:Nat):St H m0 ⟨{ m.w with drawn:=n },m.ρ,m.U⟩ a tm top:=by
 have hK:Keep m ⟨{ m.w with drawn:=n },m.ρ,m.U⟩:=⟨fun _ _ _ h=>h,aBo _,fun k hk=>⟨hk.2,rfl⟩⟩
 have hg:Grow m ⟨{ m.w with drawn:=n },m.ρ,m.U⟩:=⟨rfl,rfl,rfl,aBo _,fun _ _=>rfl,fun _ _ _ h=>h,fun _ _=>Iff.rfl⟩
 refine ⟨h.inv.of_grow hg rfl rfl,h.size,fun j p v hp hv=>(h.rel j p v hp hv).keep hK,h.defers,h.free,?_,h.tsz,h.prot⟩
 exact ⟨h.since.os,h.since.tape,h.since.output,h.since.size,h.since.heap,h.since.up,h.since.U,fun k hk=>h.since.fresh k (hk.grow h.inv hg (fun _=>rfl))⟩
theorem aV.draw {H:List (List Blk)} {m0:M0} {m:M} {a:Act} {tm:List PV} {top:List Blk} (h:aV H m0 m a tm top) (n:Nat):aV H m0 ⟨{ m.w with drawn:=n },m.ρ,m.U⟩ a tm top:=by
 obtain ⟨hs,V,hc⟩:=h
 have hs':=hs.draw n
 exact ⟨hs',V,hc.step hs.inv hs'.inv (GenLe.refl _) rfl rfl rfl (aBo _) (fun _ _ _=>rfl) (fun _ _=>Iff.rfl) (fun _ _=>rfl) (fun k hk=>.inr (hk.grow (m':=⟨{ m.w with drawn:=n },m.ρ,m.U⟩) hs.inv ⟨rfl,rfl,rfl,aBo _,fun _ _=>rfl,fun _ _ _ h=>h,fun _ _=>Iff.rfl⟩ (fun _=>rfl)))⟩
section
variable {C:Cx} {H:List (List Blk)} {es:List Nat} {tn:Op->Bool} {ops:List Oper} {S:Seqn} {T:List Nat} {m0:M0} {m:M} {a:Act} {L:Array Bool}
theorem some1_evR (hS:∀ (k:Nat) o,ops[k]? = some o->StpOk C H es ops o (S.w k) (S.pv k) (S.tc k) (S.tr k) (S.tc (k+1)) (S.tp k) (S.tp (k+1))) (hD:Drawn tn ops T) (hL:Some0 ops S m0 m a L) {i:Nat} {o:Oper} (ho:ops[i]? = some o) (hr:Rdy ops L i) (hn:¬ Dn L i) :
 EvR m a (S.tr i) o.op.operands.toList:=by
 intro t p ht hp
 have hil:i < ops.length:=(aAe.1 ho).1
 have s:=hS i o ho
 have hlt:t < (S.tc i).length:=by rw [s.le.1];exact (aAe.1 hp).1
 have hta:t < a.tmps.size:=by rw [hL.size,<- tc_len hS i (by omega)];exact hlt
 obtain ⟨q,hq,h1⟩:=s.le.2 t _ (aAf hlt)
 rw [hp] at hq;cases hq
 have hst:=stage_of hD hL ho hr hn (t:=t) (by
  unfold Oper.looksAt
  exact List.mem_append_left _ (List.mem_filterMap.2 ⟨_,ht,rfl⟩))
 have:=h1 m _ (hL.vals t i _ _ (by omega) hst (aAf hlt) (Array.getElem?_eq_getElem hta))
 simpa [Act.eval,Array.getD,hta] using this
theorem some1_want (hS:∀ (k:Nat) o,ops[k]? = some o->StpOk C H es ops o (S.w k) (S.pv k) (S.tc k) (S.tr k) (S.tc (k+1)) (S.tp k) (S.tp (k+1))) (hD:Drawn tn ops T) (hL:Some0 ops S m0 m a L) {i:Nat} {o:Oper} (ho:ops[i]? = some o) (hr:Rdy ops L i) (hn:¬ Dn L i) :
 Region.wanted o (yielded ops.toArray a.tmps)=S.w i:=by
 have hil:i < ops.length:=(aAe.1 ho).1
 rcases (hS i o ho).want with ⟨hg,hw⟩ | ⟨j,b,o',d,p,x,hg,hj,hd,⟨hp,hb,hw⟩ | ⟨hp,hw⟩⟩
 . rw [hw];simp [Region.wanted,hg]
 . have hlt:d < (S.tc i).length:=(aAe.1 hp).1
   have hta:d < a.tmps.size:=by rw [hL.size,<- tc_len hS i (by omega)];exact hlt
   have hst:=stage_of hD hL ho hr hn (t:=d) (by
    unfold Oper.looksAt
    refine List.mem_append_right _ ?_
    simp [hg,hj,hd])
   have hv:=Array.getElem?_eq_getElem hta
   have:=rp_bool (hL.vals d i _ _ (by omega) hst hp hv) hb
   rw [this] at hv
   have hy:yielded ops.toArray a.tmps j=some x:=by simp [Go.yielded,hj,hd,hv]
   simp only [Region.wanted,hg,hy]
   rw [hw]
   cases x <;> cases b <;> rfl
 . have hlt:d < (S.tc i).length:=(aAe.1 hp).1
   have hta:d < a.tmps.size:=by rw [hL.size,<- tc_len hS i (by omega)];exact hlt
   have hst:=stage_of hD hL ho hr hn (t:=d) (by
    unfold Oper.looksAt
    refine List.mem_append_right _ ?_
    simp [hg,hj,hd])
   have hv:=Array.getElem?_eq_getElem hta
   have hrp:=hL.vals d i _ _ (by omega) hst hp hv
   generalize a.tmps[d]=v at hv hrp
   cases hrp with
   | tuple _ vs e1 e2=>
     have hy:yielded ops.toArray a.tmps j=none:=by simp [Go.yielded,hj,hd,hv]
     simp only [Region.wanted,hg,hy,hw]
     rfl
theorem any_spec (hS:∀ (k:Nat) o,ops[k]? = some o->StpOk C H es ops o (S.w k) (S.pv k) (S.tc k) (S.tr k) (S.tc (k+1)) (S.tp k) (S.tp (k+1))) (hD:Drawn (Op.turns C.give es) ops T) {Q:Exit->Act->World->Prop} (hW:∀ o ∈ ops,∀ d,o.dst=some d->m0.W d) (hQ:∀ m a,aV H m0 m a (S.tc ops.length) (S.tp ops.length)->Q .normal a m.w) :
 ∀ (fuel:Nat) (L:Array Bool) (m:M) (a:Act),Some1 C H es ops S m0 m a L->L.toList.count false=fuel->wpAny C.P .any ops.toArray Q fuel L a m.w:=by
 have done:∀ (L:Array Bool) (m:M) (a:Act),Some1 C H es ops S m0 m a L->(∀ i,i < ops.length->Dn L i)->Q .normal a m.w:=by
  intro L m a hL hall
  obtain ⟨c,hc,hsn,⟨V0,h0⟩,h1,h2,h3,h4,h5⟩:=hL.phase
  have htp:S.tp ops.length=S.tp c:=by
   have:=tp_same hS (ops.length - c) c (by omega) (fun j o h6 h7 ho=>by
    cases hp:pureOp o.op with
    | true=>rfl
    | false=>exact absurd (hall j (aAe.1 ho).1) (h4 j o ho hp h6))
   rwa [show c+(ops.length - c)=ops.length by omega] at this
  refine hQ m a ⟨⟨by rw [htp];exact h1,by rw [hL.size,tc_len hS _ (aBo _)],fun t p v hp hv=>hL.vals t _ p v (aBo _) (fun j o hj _=>?_) hp hv,rfl,fun j hj=>h2 j (by rwa [htp] at hj),by rw [htp];exact ⟨hsn.os,hsn.tape,hsn.output,hsn.size,hsn.heap,hsn.up,hsn.U,hsn.fresh⟩,hL.tsz,hL.prot⟩,V0,by rw [htp];exact h0⟩
  have:=(aAe.1 hj).1
  exact ⟨fun _=>hall j this,fun _=>this⟩
 have ready:∀ (L:Array Bool) (i:Nat),L.size=ops.length->(i ∈ Region.ready .any ops.toArray L↔i < ops.length /\ ¬ Dn L i/\Rdy ops L i):=by
  intro L i hl
  rw [mem_ready]
  constructor
  . rintro ⟨h1,o,ho,h2⟩
    have ho':ops[i]? = some o:=by simpa using ho
    refine ⟨(aAe.1 ho').1,fun h=>?_,o,ho',h2⟩
    have hi:i < L.size:=by rw [hl];exact (aAe.1 ho').1
    unfold Dn at h
    simp [hi] at h1 h
    rw [h1] at h;cases h
  . rintro ⟨hi,h1,o,ho,h2⟩
    refine ⟨?_,o,by simpa using ho,h2⟩
    unfold Dn at h1
    have hi:i < L.size:=by rw [hl];exact hi
    simp [hi] at h1 ⊢
    exact h1
 have next:∀ (L:Array Bool) (m:M) (a:Act) (i:Nat) (o:Oper),Some1 C H es ops S m0 m a L->ops[i]? = some o->Rdy ops L i -> ¬ Dn L i -> ∀ (m':M) (v:Value),Keep m m'->RP m' (S.pv i) v ->
  (∃ c,c<=ops.length/\Since m0 m' (S.tp c)/\(∃ V,Calm H m0 m' a.defers (S.tp c) V)/\Inv m' (S.tp c) H/\(∀ j,(S.tp c).length<=j->m'.ρ 0 j=none)/\(∀ (i:Nat) o,ops[i]? = some o->c<=i->lateB (Op.turns C.give es) ops i=true) /\
    (∀ (k:Nat) o,ops[k]? = some o->pureOp o.op=false->c<=k -> ¬ Dn (L.setIfInBounds i true) k) /\
    (∀ (k:Nat) o,ops[k]? = some o->pureOp o.op=false->k < c -> ¬ Dn (L.setIfInBounds i true) k->lateB (Op.turns C.give es) ops (c - 1)=false /\ ∀ j,(S.tp k).length<=j->j < (S.tp (k+1)).length->m'.ρ 0 j=none)) ->
  Some1 C H es ops S m0 m' (a.put o.dst v) (L.setIfInBounds i true):=by
  intro L m a i o hL ho hr hn m' v hK hv hph
  refine ⟨⟨by simp [hL.len],closed_set hL.len hL.closed hr,?_,vals_set hS hD hL.toSome0 ho hn hK hv,fun j hj=>?_,?_⟩,by rw [gT];exact hph⟩
  . rw [<- hL.size];unfold Act.put;split <;> simp
  . rw [<- hL.prot j hj]
    unfold Act.put
    split
    . rename_i d hd
      dsimp only
      rw [Array.getElem?_setIfInBounds_ne (fun e=>hj (by rw [<- e];exact hW o (aAg ho) d hd))]
    . rfl
  . rw [<- hL.tsz];unfold Act.put;split <;> simp
 intro fuel
 induction fuel with
 | zero=>
   intro L m a hL hcount
   have hall:∀ i,i < ops.length->Dn L i:=by
    intro i hi
    rw [List.count_eq_zero] at hcount
    have hi:i < L.size:=by rw [hL.len];exact hi
    unfold Dn
    cases hv:L[i] with
    | true=>simp [hi,hv]
    | false=>exact absurd (aAg (i:=i) (by simp [hi,hv])) hcount
   refine ⟨List.eq_nil_iff_forall_not_mem.2 fun i hi=>?_,done L m a hL hall⟩
   obtain ⟨h1,h2,_⟩:=(ready L i hL.len).1 hi
   exact h2 (hall i h1)
 | succ fuel ih=>
   intro L m a hL hcount
   refine ⟨fun hnil=>done L m a hL ?_,fun i hi=>?_⟩
   . have:∀ n i,i < n->i < ops.length->Dn L i:=by
      intro n
      induction n with
      | zero=>intro i h;omega
      | succ n ihn=>
        intro i hin hi
        by_cases hd:Dn L i
        . exact hd
        . exfalso
          have hmem:=(ready L i hL.len).2 ⟨hi,hd,_,aAf hi,fun e he hb=>ihn e.on (by have:=hD.back i _ (aAf hi) e he hb;omega) (by have:=hD.back i _ (aAf hi) e he hb;omega)⟩
          rw [hnil] at hmem;cases hmem
     exact fun i hi=>this (i+1) i (aBm i) hi
   . obtain ⟨hil,hn,hr⟩:=(ready L i hL.len).1 hi
     obtain ⟨o,ho⟩:∃ o,ops[i]? = some o:=⟨_,aAf hil⟩
     have hiL:i < L.size:=by rw [hL.len];exact hil
     have hcount':(L.setIfInBounds i true).toList.count false=fuel:=by
      rw [Array.toList_setIfInBounds,List.count_set (by simpa using hiL)]
      have hf:L.toList[i]'(by simpa using hiL)=false:=by
       unfold Dn at hn
       simpa [hiL] using hn
      rw [hf,hcount];simp
     have s:=hS i o ho
     have hev:=some1_evR hS hD hL.toSome0 ho hr hn
     have hwant:=some1_want hS hD hL.toSome0 ho hr hn
     have hdn:∀ k,Dn (L.setIfInBounds i true) k↔k=i\/Dn L k:=dn_set hiL
     obtain ⟨c,hc,hsn,⟨V0,h0⟩,h1,h2,h3,h4,h5⟩:=hL.phase
     have tail:pureOp o.op=false->c<=i->(∀ (j:Nat) oj,j < i->ops[j]? = some oj->pureOp oj.op=false->Dn L j)/\S.tp i=S.tp c:=by
      intro hp hci
      have key:∀ (j:Nat) oj,j < i->ops[j]? = some oj->pureOp oj.op=false->Dn L j:=by
       intro j oj hj hoj hpj
       rcases hD.pair j i oj o hj hoj ho with hb | ⟨_,h | h | h⟩
       . exact bit_done hD hL.closed (i+1) i (aBm i) hr j hb
       . rw [hpj] at h;cases h
       . rw [hp] at h;cases h
       . rw [h3 i o ho hci] at h;cases h
      refine ⟨key,?_⟩
      have:=tp_same hS (i - c) c (by omega) (fun j oj h6 h7 hoj=>by
       cases hpj:pureOp oj.op with
       | true=>rfl
       | false=>exact absurd (key j oj (by omega) hoj hpj) (h4 j oj hoj hpj h6))
      rwa [show c+(i - c)=i by omega] at this
     have quiet:S.tp (i+1)=S.tp i -> ∃ c,c<=ops.length/\Since m0 m (S.tp c)/\(∃ V,Calm H m0 m a.defers (S.tp c) V)/\Inv m (S.tp c) H/\(∀ j,(S.tp c).length<=j->m.ρ 0 j=none)/\(∀ (i:Nat) o,ops[i]? = some o->c<=i->lateB (Op.turns C.give es) ops i=true) /\
      (∀ (k:Nat) o,ops[k]? = some o->pureOp o.op=false->c<=k -> ¬ Dn (L.setIfInBounds i true) k) /\
      (∀ (k:Nat) o,ops[k]? = some o->pureOp o.op=false->k < c -> ¬ Dn (L.setIfInBounds i true) k->lateB (Op.turns C.give es) ops (c - 1)=false /\ ∀ j,(S.tp k).length<=j->j < (S.tp (k+1)).length->m.ρ 0 j=none):=by
      intro htp
      by_cases hcase:pureOp o.op=false/\c<=i
      . obtain ⟨hp,hci⟩:=hcase
        obtain ⟨t1,t2⟩:=tail hp hci
        refine ⟨i+1,by omega,by rw [htp,t2];exact hsn,⟨V0,by rw [htp,t2];exact h0⟩,by rw [htp,t2];exact h1,fun j hj=>h2 j (by rw [<- t2,<- htp];exact hj),fun k ok hk h=>h3 k ok hk (by omega),fun k ok hk hpk h hd=>?_,fun k ok hk hpk h hd=>?_⟩
        . rcases (hdn k).1 hd with rfl | hd
          . omega
          . exact h4 k ok hk hpk (by omega) hd
        . exfalso
          rcases aBl k i with h6 | h6
          . exact hd ((hdn k).2 (.inr (t1 k ok h6 hk hpk)))
          . exact hd ((hdn k).2 (.inl (by omega)))
      . refine ⟨c,hc,hsn,⟨V0,h0⟩,h1,h2,h3,fun k ok hk hpk h hd=>?_,fun k ok hk hpk h hd=>h5 k ok hk hpk h (fun hd'=>hd ((hdn k).2 (.inr hd')))⟩
        rcases (hdn k).1 hd with rfl | hd
        . rw [ho] at hk;cases hk;exact hcase ⟨hpk,h⟩
        . exact h4 k ok hk hpk h hd
     unfold wpOp
     simp only [aBx,ho]
     rw [hwant]
     cases hw:S.w i with
     | false=>
       simp only [Bool.false_eq_true,if_false]
       obtain ⟨hpv,htp⟩:=s.skip hw
       exact ih _ m _ (next L m a i o hL ho hr hn m undef (.refl m) (by rw [hpv];exact .tuple [] #[] rfl (fun j p v h=>by simp at h)) (quiet htp)) hcount'
     | true=>
       simp only [if_true]
       refine .inl ?_
       cases hp:pureOp o.op with
       | true=>
         obtain ⟨htp,hps⟩:=s.pure hw hp
         obtain ⟨v,hrun,hv⟩:=hps m a hev
         unfold Oper.wp
         rw [hrun]
         exact ih _ m _ (next L m a i o hL ho hr hn m v (.refl m) hv (quiet htp)) hcount'
       | false=>
         rcases aBl i c with hic | hci
         ·
          obtain ⟨hlate,hfree⟩:=h5 i o ho hp hic hn
          obtain ⟨hpre,hstep⟩:=s.op hw (late_no hlate hic ho)
          have p1:S.tp (i+1) <+: S.tp c:=by
           have:=tp_prefix hS (c - (i+1)) (i+1) (by omega) (fun j oj h6 h7 hj=>late_no hlate (by omega) hj)
           rwa [show i+1+(c - (i+1))=c by omega] at this
          refine hstep m a (inv_prefix (hpre.trans p1) h1) hev hfree _ Q fun v m' hg hρ hfr hi' hv=>?_
          have hmn:∀ k,Mine m' (S.tp c) k->m.w.heap.size<=k\/Mine m (S.tp c) k:=by
           rintro k ⟨j,b,u,q1,q2,q3,q4⟩
           by_cases hj:(S.tp i).length<=j/\j < (S.tp (i+1)).length
           . have q5:=pre_get p1 (aAf hj.2)
             rw [q1] at q5
             exact .inl (hfr j b u k hj.1 (by rw [aAf hj.2];exact q5.symm) q3 q4)
           . rw [hρ 0 j (by omega)] at q3;exact .inr ⟨j,b,u,q1,q2,q3,h1.grow hg (l:=0) q1 q2 q3 q4⟩
          have hsince:Since m0 m' (S.tp c):=hsn.step hg.os hg.tape hg.output hg.size (fun k hk _=>hg.heap k hk) (fun l j=>hρ (l+1) j (by omega)) hg.U hmn
          have hij:=inv_join hpre p1 h1 hg hρ hfr hfree hi'
          refine ih _ m' _ (next L m a i o hL ho hr hn m' v hg.keep hv ⟨c,hc,hsince,⟨V0,h0.step h1 hij (GenLe.refl _) hg.os hg.tape hg.output hg.size (fun k hk _=>hg.heap k hk) hg.U (fun l j=>hρ (l+1) j (by omega)) hmn⟩,hij,fun j hj=>?_,h3,fun k ok hk hpk h hd=>?_,fun k ok hk hpk h hd=>?_⟩) hcount'
          . have:=p1.length_le
            rw [hρ 0 j (by omega)];exact h2 j hj
          . rcases (hdn k).1 hd with rfl | hd
            . omega
            . exact h4 k ok hk hpk h hd
          . obtain ⟨q1,q2⟩:=h5 k ok hk hpk h (fun hd'=>hd ((hdn k).2 (.inr hd')))
            refine ⟨q1,fun j hj1 hj2=>?_⟩
            rw [hρ 0 j ?_]
            . exact q2 j hj1 hj2
            . rintro ⟨_,a1,a2⟩
              have hki:k≠i:=fun e=>hd ((hdn k).2 (.inl e))
              have mono:∀ x y,x<=y->y<=c->(S.tp x).length<=(S.tp y).length:=fun x y hxy hyc=>by
               have:=(tp_prefix hS (y - x) x (by omega) (fun j oj h6 h7 hj=>late_no hlate (by omega) hj)).length_le
               rwa [show x+(y - x)=y by omega] at this
              rcases aBl k i with h6 | h6
              . have:=mono (k+1) i (by omega) (by omega);omega
              . have:=mono (i+1) k (by omega) (by omega);omega
         ·
          obtain ⟨t1,t2⟩:=tail hp hci
          refine s.act hw m a (by rw [t2];exact h1) hev (fun j hj=>h2 j (by rwa [t2] at hj)) _ Q fun v m' hT hρ hfr hI hv=>?_
          have hinv:Inv m (S.tp i) H:=by rw [t2];exact h1
          have hs1:Since m0 m' (S.tp (i+1)):=Since.turn (top:=S.tp i) (by rw [t2];exact hsn) s.gen hT hρ hfr
          have hf1:∀ j,(S.tp (i+1)).length<=j->m'.ρ 0 j=none:=fun j hj=>by
           have:=s.len
           rw [hρ 0 j (by omega)];exact h2 j (by rw [<- t2];omega)
          have hcalm:Calm H m0 m a.defers (S.tp i) V0:=by rw [t2];exact h0
          refine ih _ m' _ (next L m a i o hL ho hr hn m' v (hT.keep hinv) hv ⟨i+1,by omega,hs1,⟨V0,hcalm.step hinv hI s.gen hT.os hT.tape hT.output hT.size hT.heap hT.U (fun l j=>hρ (l+1) j (by omega)) hfr⟩,hI,hf1,fun k ok hk h=>h3 k ok hk (by omega),fun k ok hk hpk h hd=>?_,fun k ok hk hpk h hd=>?_⟩) hcount'
          . rcases (hdn k).1 hd with rfl | hd
            . omega
            . exact h4 k ok hk hpk (by omega) hd
          . exfalso
            rcases aBl k i with h6 | h6
            . exact hd ((hdn k).2 (.inr (t1 k ok h6 hk hpk)))
            . exact hd ((hdn k).2 (.inl (by omega)))
end
theorem late_first (tn:Op->Bool) (ops:List Oper):∃ c,c<=ops.length/\(∀ (i:Nat) o,ops[i]? = some o->c<=i->lateB tn ops i=true)/\(0 < c->lateB tn ops (c - 1)=false):=by
 have mono:∀ i j,i<=j->lateB tn ops i=true->lateB tn ops j=true:=by
  intro i j hij h
  unfold lateB at h ⊢
  rw [List.any_eq_true] at h ⊢
  obtain ⟨x,hx,h⟩:=h
  refine ⟨x,?_,h⟩
  have:ops.take (i+1) <+: ops.take (j+1):=List.take_prefix_take_left (by omega)
  exact this.subset hx
 have:∀ n,n<=ops.length -> ∃ c,c<=n/\(∀ (i:Nat),i < n->c<=i->lateB tn ops i=true)/\(0 < c->lateB tn ops (c - 1)=false):=by
  intro n
  induction n with
  | zero=>intro _;exact ⟨0,aBo _,fun i hi=>by omega,fun h=>by omega⟩
  | succ n ih=>
    intro hn
    obtain ⟨c,h1,h2,h3⟩:=ih (by omega)
    cases hl:lateB tn ops n with
    | true=>
      refine ⟨c,by omega,fun i hi hc=>?_,h3⟩
      rcases aBl i n with h | h
      . exact h2 i h hc
      . exact mono n i h hl
    | false=>exact ⟨n+1,aBo _,fun i hi hc=>by omega,fun _=>hl⟩
 obtain ⟨c,h1,h2,h3⟩:=this ops.length (aBo _)
 exact ⟨c,h1,fun i o ho hc=>h2 i (aAe.1 ho).1 hc,h3⟩
theorem inv_extend {m:M} {t t':List Blk} (h:t <+: t') {H:List (List Blk)} (hi:Inv m t H) (hf:∀ j,t.length<=j->m.ρ 0 j=none):Inv m t' H:=by
 have get:∀ l i b v,getB t' H l i=some b->m.ρ l i=some v->getB t H l i=some b:=by
  intro l i b v hb hv
  cases l with
  | succ l=>exact hb
  | zero=>
    rcases aBl i t.length with h1 | h1
    . have:=pre_get h (aAf h1)
      simp only [getB] at hb ⊢
      rw [this] at hb
      rw [aAf h1];exact hb
    . rw [hf i h1] at hv;cases hv
 refine ⟨fun l i b hb=>?_,fun l i b l' i' b' v v' k h1 h2 h3 h4 h5 h6=>hi.inj l i b l' i' b' v v' k (get l i b v h1 h5) h2 (get l' i' b' v' h3 h6) h4 h5 h6,fun l i b v k h1 h2 h3=>hi.own l i b v k (get l i b v h1 h3) h2 h3,hi.lt,hi.sub.of (fun i p e c v h1 h2=>⟨get 0 i _ v h1 h2,h2⟩) (fun p V hV=>hV) (fun p et sz xs V h1 h2=>⟨get 0 p _ V h1 h2,fun _ _=>rfl⟩)⟩
 cases hv:m.ρ l i with
 | some v=>exact hi.blk l i b (get l i b v hb hv)
 | none=>cases b <;> first | trivial | (intro v h;rw [hv] at h;cases h)
theorem any_in {r:Option Nat} {P:Program} {md:Region.Mode} {ops:List Oper} (hnd:noDefer ops=true) {Q:Exit->Act->World->Prop} (hQ:∀ a w,¬ Q .outgrown a w) :
 ∀ (fuel:Nat) (L:Array Bool) (a:Act) (w:World),wpAny P md ops.toArray Q fuel L a w->wpAnyIn (FW r) 0 P md ops.toArray Q fuel L a w:=by
 have one:∀ (i:Nat) (K:Act->World->Prop) (a:Act) (w:World),wpOp P ops.toArray Q i K a w->wpOpIn (FW r) 0 P ops.toArray Q i K a w:=by
  intro i K a w h
  unfold wpOp at h
  unfold wpOpIn
  cases ho:ops.toArray[i]? with
  | none=>rw [ho] at h;exact h
  | some o=>
    rw [ho] at h
    dsimp only at h ⊢
    split
    . rename_i hw
      rw [if_pos hw] at h
      rcases h with h | ⟨_,a',w',h⟩
      . refine mZ ?_ h
        unfold noDefer at hnd
        rw [aBd] at hnd
        simpa using hnd o (aAg (by simpa using ho))
      . exact (hQ a' w' h).elim
    . rename_i hw
      rw [if_neg hw] at h
      exact ⟨fun _ _=>trivial,h⟩
 intro fuel
 induction fuel with
 | zero=>intro L a w h;exact h
 | succ fuel ih=>intro L a w h;exact ⟨h.1,fun i hi=>wpOpIn_mono (fun a w hk=>ih _ a w hk) (one i _ a w (h.2 i hi))⟩
theorem draw_spec {C:Cx} (hC:C.Ok) {r:Option Nat} {H:List (List Blk)} {es:List Nat} {ops:List Oper} {id:Nat} (hnd:noDefer ops=true) (hd:drawOk (Op.turns C.give es) ops.toArray=true) {m0:M0} (hW:∀ o ∈ ops,∀ d,o.dst=some d->m0.W d) {m:M} {a:Act} {tm:List PV} {top:List Blk} {K:List PV->List Blk->Prop} {Q:Exit->Act->World->Prop}
 (hQ:∀ m a tm top,K tm top->aV H m0 m a tm top->Q .normal a m.w) (hk:opsK C H es ops ops tm top K) (hs:aV H m0 m a tm top):(Code.region id ops.toArray true).wpIn (FW r) 0 C.P Q a m.w:=by
 obtain ⟨T,hD⟩:=drawOk_spec hd
 obtain ⟨S,e1,e2,hK,hS⟩:=canon hC ops tm top hk
 subst e1;subst e2
 have hs:=hs.draw (m.w.drawn+1)
 obtain ⟨hs,V0,hcalm⟩:=hs
 have hnone:∀ i,¬ Dn (Array.replicate ops.length false) i:=fun i h=>by
  unfold Dn at h
  rcases aBl i ops.length with h' | h' <;> simp [h'] at h
 refine wpIn_mono (Q:=fun e a w=>e = .normal/\Q .normal a w) (wpIn_region_any hC.mix (any_in hnd (fun a w h=>by cases h.1) _ _ _ _ ?_)) (fun e a w ⟨h1,h2⟩=>h1 ▸ h2)
 have hsz:ops.toArray.size=ops.length:=by simp
 rw [hsz]
 obtain ⟨c,hc,hc1,hc2⟩:=late_first (Op.turns C.give es) ops
 have hp0:S.tp 0 <+: S.tp c:=by
  have:=tp_prefix hS c 0 (by omega) (fun j o h1 h2 ho=>late_no (hc2 (by omega)) (by omega) ho)
  rwa [Nat.zero_add] at this
 have hgen:∀ n,n<=ops.length->GenLe (S.tp 0) (S.tp n):=by
  intro n
  induction n with
  | zero=>intro _;exact GenLe.refl _
  | succ n ih=>intro hn;exact (ih (by omega)).trans (hS n _ (aAf (by omega))).gen
 have hinv:=inv_extend hp0 hs.inv hs.free
 have hmn:∀ k,Mine ⟨{ m.w with drawn:=m.w.drawn+1 },m.ρ,m.U⟩ (S.tp c) k->m.w.heap.size<=k\/Mine ⟨{ m.w with drawn:=m.w.drawn+1 },m.ρ,m.U⟩ (S.tp 0) k:=by
  rintro k ⟨j,b,u,q1,q2,q3,q4⟩
  rcases aBl j (S.tp 0).length with hj | hj
  . have:=pre_get hp0 (aAf hj)
    rw [q1] at this;cases this
    exact .inr ⟨j,_,u,aAf hj,q2,q3,q4⟩
  . have:=hs.free j hj
    rw [this] at q3;cases q3
 refine any_spec hS hD hW (fun m a h=>⟨rfl,hQ m a _ _ hK h⟩) _ _ ⟨{ m.w with drawn:=m.w.drawn+1 },m.ρ,m.U⟩ a ⟨⟨by simp,fun j o ho h=>absurd h (hnone j),hs.size,fun t i p v hi hst hp hv=>?_,hs.prot,hs.tsz⟩,c,hc,?_,⟨V0,hcalm.step hs.inv hinv (hgen c hc) rfl rfl rfl (aBo _) (fun _ _ _=>rfl) (fun _ _=>Iff.rfl) (fun _ _=>rfl) ?_⟩,hinv,?_,hc1,fun i o ho hp hci=>hnone i,fun i o ho hp hci hn=>⟨hc2 (by omega),fun j hj1 hj2=>?_⟩⟩ (by simp)
 . have hlt:t < (S.tc 0).length:=by rw [<- tc_len hS i hi];exact (aAe.1 hp).1
   obtain ⟨q,hq,h1⟩:=tm_mono hS (t:=t) i 0 (by omega) (fun j o h1 h2 ho hdt=>hnone j ((hst j o ho hdt).1 (by omega))) _ (aAf hlt)
   rw [Nat.zero_add,hp] at hq;cases hq
   exact h1 _ _ (hs.rel t _ v (aAf hlt) hv)
 . have:=hs.since
   exact ⟨this.os,this.tape,this.output,this.size,this.heap,this.up,this.U,fun k hk=>(hmn k hk).elim (fun h=>.inl (aBp this.size h)) (this.fresh k)⟩
 . exact hmn
 . exact fun j hj=>hs.free j (aBp hp0.length_le hj)
 . have hp:S.tp 0 <+: S.tp i:=by
    have:=tp_prefix hS i 0 (by omega) (fun j o h1 h2 ho=>late_no (hc2 (by omega)) (by omega) ho)
    rwa [Nat.zero_add] at this
   exact hs.free j (aBp hp.length_le hj1)
def sureOp:Op->Bool
 | .binOp b _ _ _ _=>(match b with | .add=>true | _=>false)
 | .slice _ _ _ _ c=>(match c with | none=>true | some _=>false)
 | op=>pureOp op
theorem sure_step {C:Cx} (hC:C.Ok) {H:List (List Blk)} {o:Oper} {tm:List PV} {top:List Blk} {K:PV->List Blk->Prop} (h:actK C H o.op tm top K) (hp:sureOp o.op=true) :
 ∃ pv,K pv top/\fA C.P o tm pv:=by
 cases hpu:pureOp o.op with
 | true=>exact qV hC h hpu
 | false=>
   cases ho:o.op with
   | binOp op t x y ty=>
     rw [ho] at h hp
     cases op <;> try cases hp
     obtain ⟨p,hp1,h⟩:=aT h
     obtain ⟨q,hq1,h⟩:=aT h
     have key:∃ (k:IntKind) (a b:Int),p = .d (.int k a)/\q = .d (.int k b)/\K (.d (.int k (k.wrap (a+b)))) top:=by
      clear hp1 hq1
      unfold binK at h
      split at h
      . rename_i k a
        split at h
        . rename_i k' b
          simp only [ifK] at h
          split at h
          . rename_i hk
            obtain rfl:=kEq_eq hk
            exact ⟨_,_,_,rfl,rfl,h _ rfl⟩
          . exact h.elim
        . exact h.elim
      . split at h <;> exact h.elim
      . obtain ⟨r,_,_,h⟩:=lookK_spec h
        simp only [ifK] at h
        split at h
        . unfold boolsK at h
          split at h <;> exact h.elim
        . exact h.elim
      . obtain ⟨r,_,_,h⟩:=lookK_spec h
        simp only [ifK] at h
        split at h
        . unfold boolsK at h
          split at h <;> exact h.elim
        . exact h.elim
      . obtain ⟨r,_,_,h⟩:=lookK_spec h
        simp only [ifK] at h
        split at h
        . split at h <;> exact h.elim
        . exact h.elim
      . obtain ⟨r,_,_,h⟩:=lookK_spec h
        simp only [ifK] at h
        split at h
        . split at h <;> exact (show False from h).elim
        . exact h.elim
      . split at h
        . obtain ⟨r,_,_,h⟩:=lookK_spec h
          split at h
          . obtain ⟨re,_,_,h⟩:=lookK_spec h
            split at h
            . simp only [ifK] at h
              split at h
              . rw [lenK_spec] at h
                split at h
                . obtain ⟨b,hb,_⟩:=qO _ _ _ h
                  exact hb.elim
                . exact h.elim
              . exact h.elim
            . exact h.elim
          . exact h.elim
        . exact h.elim
      . exact h.elim
     obtain ⟨k,a,b,rfl,rfl,hK⟩:=key
     refine ⟨_,hK,fun m act he=>⟨.int k (k.wrap (a+b)),fun w=>?_,.d _ _ (.int _ _)⟩⟩
     have e1:=aO he (x:=x) (by simp [ho,Op.operands]) hp1
     have e2:=aO he (x:=y) (by simp [ho,Op.operands]) hq1
     generalize hx:act.eval x=v at e1
     generalize hy:act.eval y=v' at e2
     cases e1 with | d _ _ e1=>cases e1;cases e2 with | d _ _ e2=>cases e2;exact cH (s:=do eqGuard .add t x y (act.eval x) (act.eval y);binOp .add t (act.eval x) (act.eval y)) (by simp only [execOp,ho]) (by rw [hx,hy];simp [eqGuard,binOp,Op.intArith] <;> rfl)
   | slice t x lo hi mx=>
     rw [ho] at h hp
     cases mx with
     | some _=>cases hp
     | none=>
       obtain ⟨p,hpx,h⟩:=aT h
       obtain ⟨l,h,hl0,hl1⟩:=iL h
       obtain ⟨hh,h,hh0,hh1⟩:=iL h
       obtain ⟨q,hq,hq2⟩:=oR hC h
       refine ⟨q,hq,fun m a he=>?_⟩
       have memx:x ∈ o.op.operands.toList:=by rw [ho];simp [Op.operands]
       have meml:∀ y,lo=some y->y ∈ o.op.operands.toList:=fun y hy=>by rw [ho,hy];simp [Op.operands]
       have memh:∀ y,hi=some y->y ∈ o.op.operands.toList:=fun y hy=>by rw [ho,hy];simp [Op.operands]
       obtain ⟨u,hu,hr3⟩:=hq2 m (a.eval x) (lo.map a.eval) (hi.map a.eval) (aO he memx hpx)
        (fun p' hp'=>by
          cases lo with
          | none=>rw [hl0 rfl] at hp';cases hp'
          | some y=>obtain ⟨p2,h1,h2⟩:=hl1 y rfl;rw [h1] at hp';cases hp';exact ⟨_,rfl,aO he (meml y rfl) h2⟩)
        (fun hn=>by
          cases lo with
          | none=>rfl
          | some y=>obtain ⟨p2,h1,h2⟩:=hl1 y rfl;rw [h1] at hn;cases hn)
        (fun p' hp'=>by
          cases hi with
          | none=>rw [hh0 rfl] at hp';cases hp'
          | some y=>obtain ⟨p2,h1,h2⟩:=hh1 y rfl;rw [h1] at hp';cases hp';exact ⟨_,rfl,aO he (memh y rfl) h2⟩)
        (fun hn=>by
          cases hi with
          | none=>rfl
          | some y=>obtain ⟨p2,h1,h2⟩:=hh1 y rfl;rw [h1] at hn;cases hn)
       exact ⟨u,fun w=>cH (by simp [execOp,ho]) (hu w),hr3⟩
   | _=>rw [ho] at hp hpu;first | (exact absurd (hp.symm.trans hpu) (by decide)) | (rw [show sureOp _=pureOp _ from rfl,hpu] at hp;cases hp)
def QOp.sees:QOp->Nat->Bool
 | .quiet l,i=>l.any (Nat.beq i)
 | .act l,i=>l.any (Nat.beq i)
 | _,_=>false
def seesB (i:Nat):QOp->QOp->Bool
 | .act _,.act _=>false
 | .act _,.quiet l=>l.any (Nat.beq i)
 | .quiet _,.act l=>l.any (Nat.beq i)
 | .make,.act l=>l.any (Nat.beq i)
 | _,_=>true
def pairB (ops:Array Oper) (T:List Nat) (i j:Nat) (oi oj:Oper) (qi qj:QOp):Bool:=
 (match qi,qj with
   | .act _,.make=>false
   | _,_=>true)&&(bitB T j i||(oi.apart ops oj&&seesB i qi qj))
theorem pairB_bit {ops:Array Oper} {T:List Nat} {i j:Nat} {oi oj:Oper} {qi qj:QOp} (h:pairB ops T i j oi oj qi qj=true):bitB T j i=true\/(oi.apart ops oj&&seesB i qi qj)=true:=by
 unfold pairB at h
 rw [aBs] at h
 exact (aB1 _ _).mp h.2
def oneB (gv:List Nat) (o:Oper) (q:QOp):Bool:=
 (match o.guard with | none=>true | some _=>false)&&(match q with
   | .pure=>sureOp o.op
   | .make=>!pureOp o.op && !Op.turns gv [] o.op
   | .quiet _=>!pureOp o.op && !Op.turns gv [] o.op
   | .act _=>!pureOp o.op)
def quietAt (gv:List Nat) (ops:Array Oper) (plan:List QOp) (T:List Nat):Bool:=
 Nat.beq plan.length ops.size&&(List.range ops.size).all fun j=>match ops[j]?,plan[j]? with
  | some oj,some qj=>oneB gv oj qj&&((oj.after.all fun e=>!Region.binds .any e||Nat.blt e.on j)&&(Nat.beq (T.getD j 0) (anc1 T oj)&&((List.range j).all fun i=>match ops[i]?,plan[i]? with
    | some oi,some qi=>pairB ops T i j oi oj qi qj
    | _,_=>false)))
  | _,_=>false
def quietB (gv:List Nat) (ops:Array Oper) (plan:List QOp):Bool:=quietAt gv ops plan (ancs ops.toList)
structure QDrawn (gv:List Nat) (ops:List Oper) (plan:List QOp) (T:List Nat):Prop where
 len:plan.length=ops.length
 drawn:Drawn (fun _=>false) ops T
 one:∀ (j:Nat) o q,ops[j]? = some o->plan[j]? = some q->oneB gv o q=true
 pair:∀ (i j:Nat) oi oj qi qj,i < j->ops[i]? = some oi->ops[j]? = some oj->plan[i]? = some qi->plan[j]? = some qj->pairB ops.toArray T i j oi oj qi qj=true
theorem late_false (ops:List Oper) (j:Nat):lateB (fun _=>false) ops j=false:=by
 unfold lateB;rw [List.any_eq_false];intro x _ h;cases h
theorem quietB_spec {gv:List Nat} {ops:List Oper} {plan:List QOp} (h:quietB gv ops.toArray plan=true):∃ T,QDrawn gv ops plan T:=by
 unfold quietB at h
 generalize ancs ops.toArray.toList=T at h
 refine ⟨T,?_⟩
 unfold quietAt at h
 rw [aBs] at h
 obtain ⟨hl,h⟩:=h
 have hl:plan.length=ops.length:=by have:=aBj hl;simpa using this
 rw [aBd] at h
 have H:∀ (j:Nat) o q,ops[j]? = some o->plan[j]? = some q->oneB gv o q=true/\(∀ e ∈ o.after,Region.binds .any e=true->e.on < j)/\T.getD j 0=anc1 T o /\ ∀ i,i < j -> ∀ oi qi,ops[i]? = some oi->plan[i]? = some qi->pairB ops.toArray T i j oi o qi q=true:=fun j o q ho hq=>by
  have:=h j (aBe.2 (by simpa using (aAe.1 ho).1))
  simp only [aBx,ho,hq,aBs] at this
  obtain ⟨h1,h2,h3,h4⟩:=this
  refine ⟨h1,fun e he hb=>?_,aBj h3,fun i hi oi qi hoi hqi=>?_⟩
  . have:=Array.all_eq_true_iff_forall_mem.1 h2 e he
    rw [hb] at this
    simpa [Nat.blt_eq] using this
  . have:=aBd.1 h4 i (aBe.2 hi)
    simp only [hoi,hqi] at this
    exact this
 have hq:∀ (j:Nat) o,ops[j]? = some o -> ∃ q,plan[j]? = some q:=fun j o ho=>⟨_,aAf (by rw [hl];exact (aAe.1 ho).1)⟩
 refine ⟨hl,⟨fun j o ho e he hb=>?_,fun j o ho i hi=>?_,fun i j oi oj hij hi hj=>?_⟩,fun j o q ho hq=>(H j o q ho hq).1,fun i j oi oj qi qj hij hi hj hqi hqj=>(H j oj qj hj hqj).2.2.2 i hij oi qi hi hqi⟩
 . obtain ⟨q,hq⟩:=hq j o ho
   exact (H j o q ho hq).2.1 e he hb
 . obtain ⟨q,hq⟩:=hq j o ho
   have h1:=(H j o q ho hq).2.2.1
   unfold bitB at hi
   rw [h1] at hi
   rcases testBit_anc _ _ _ hi with h2 | ⟨e,he,h2⟩
   . simp at h2
   . exact ⟨e,by simpa using he,h2⟩
 . obtain ⟨qi,hqi⟩:=hq i oi hi
   obtain ⟨qj,hqj⟩:=hq j oj hj
   have:=(H j oj qj hj hqj).2.2.2 i hij oi qi hi hqi
   rcases pairB_bit this with h | h
   . exact .inl h
   . rw [aBs] at h
     exact .inr ⟨h.1,.inr (.inr (late_false ops j))⟩
theorem findK_spec {α:Type} {l:List (Nat × α)} {j:Nat} {K:α->Prop} (h:findK l j K):∃ x,(j,x) ∈ l/\K x:=by
 induction l with
 | nil=>exact h.elim
 | cons p l ih=>
   change (match Nat.beq p.1 j with | true=>K p.2 | false=>findK l j K) at h
   cases hb:Nat.beq p.1 j with
   | true=>
     rw [hb] at h
     have:=aBj hb
     exact ⟨p.2,by rw [<- this];exact aAu,h⟩
   | false=>
     rw [hb] at h
     obtain ⟨x,h1,h2⟩:=ih h
     exact ⟨x,aAv _ h1,h2⟩
theorem eachK_spec {is:List Nat} {f:Nat->Prop} {K:Prop} (h:eachK is f K):(∀ i ∈ is,f i)/\K:=by
 induction is with
 | nil=>exact ⟨fun i hi=>(by cases hi),h⟩
 | cons i is ih=>
   obtain ⟨h1,h2⟩:=(show f i/\eachK is f K from h)
   obtain ⟨h3,h4⟩:=ih h2
   exact ⟨fun j hj=>by cases hj with | head=>exact h1 | tail _ hj=>exact h3 j hj,h4⟩
structure QStp (C:Cx) (H:List (List Blk)) (ops:List Oper) (plan:List QOp) (tc:Nat->List PV) (pv:Nat->PV) (tp:Nat->List Blk) (bl:Nat->Nat) (i:Nat) (o:Oper) (q:QOp):Prop where
 made:bl i=(tp (i+1)).length
 next:(o.dst=none/\tc (i+1)=tc i) \/ ∃ d,o.dst=some d/\d < (tc i).length/\tc (i+1)=(tc i).set d (pv i)
 len:(tp i).length<=(tp (i+1)).length
 gen:GenLe (tp i) (tp (i+1))
 act:bU C H o (tc i) (tp i) (pv i) (tp (i+1))
 op:Op.turns C.give [] o.op=false->tp i <+: tp (i+1)/\bQ C H o (tc i) (tp i) (pv i) (tp (i+1))
 sure:q = .pure->tp (i+1)=tp i/\fA C.P o (tc i) (pv i)
 quiet:∀ l,q = .quiet l->tp (i+1)=tp i /\ ∀ j ∈ l,j < i/\bQ C H o (tc i) (tp j) (pv i) (tp j)
 back:∀ l,q = .act l -> ∀ k ∈ l,k < i /\ ∃ ok qk,ops[k]? = some ok/\plan[k]? = some qk/\((qk ≠ .make/\bQ C H ok (tc k) (tp (i+1)) (pv k) (tp (i+1))) \/
  (qk = .make/\(tp k).length<=(tp (i+1)).length/\bl k<=(tp (i+1)).length/\bQ C H ok (tc k) ((tp (i+1)).take (tp k).length) (pv k) ((tp (i+1)).take (bl k))))
theorem quiet_op {C:Cx} (hC:C.Ok) {H:List (List Blk)} {o:Oper} {tm:List PV} {h:List Blk} {p:PV} (ht:Op.turns C.give [] o.op=false) (hk:actK C H o.op tm h fun p' h'=>p'=p/\h'=h):bQ C H o tm h p h:=by
 obtain ⟨pv,top',⟨e1,e2⟩,_,_,_,hO,_⟩:=fJ hC hk
 subst e1;subst e2
 exact (hO ht).2
theorem canonQ {C:Cx} (hC:C.Ok) {H:List (List Blk)} {ops:List Oper} {plan0:List QOp} {K:List PV->List Blk->Prop}:∀ (plan:List QOp) (i:Nat) (tm:List PV) (top:List Blk) (tops:List (Nat × List Blk)) (pend:List (Nat × Oper × List PV × PV × Option (Nat × Nat))) (tcP:Nat->List PV) (pvP:Nat->PV) (tpP:Nat->List Blk) (blP:Nat->Nat),(∀ (j:Nat) q,plan[j]? = some q->plan0[i+j]? = some q) ->
 (∀ p ∈ tops,p.1 < i/\p.2=tpP p.1)->(∀ p ∈ pend,p.1 < i/\ops[p.1]? = some p.2.1/\p.2.2.1=tcP p.1/\p.2.2.2.1=pvP p.1/\Op.turns C.give [] p.2.1.op=false /\ ∃ qk,plan0[p.1]? = some qk/\((qk ≠ .make/\p.2.2.2.2=none)\/(qk = .make/\p.2.2.2.2=some ((tpP p.1).length,blP p.1)))) ->
 (∀ (j:Nat) o q,plan[j]? = some q->ops[i+j]? = some o->oneB C.give o q=true)->i+plan.length=ops.length->quietK C H ops plan K i tm top tops pend ->
 ∃ (tc:Nat->List PV) (pv:Nat->PV) (tp:Nat->List Blk) (bl:Nat->Nat),(∀ j,j < i->tc j=tcP j/\pv j=pvP j/\tp j=tpP j/\bl j=blP j)/\tc i=tm/\tp i=top/\K (tc (i+plan.length)) (tp (i+plan.length)) /\
   ∀ (j:Nat) o q,plan[j]? = some q->ops[i+j]? = some o->QStp C H ops plan0 tc pv tp bl (i+j) o q
 | [],i,tm,top,tops,pend,tcP,pvP,tpP,blP,_,_,_,_,hl,h=>by
   refine ⟨fun j=>if j < i then tcP j else tm,pvP,fun j=>if j < i then tpP j else top,blP,fun j hj=>⟨if_pos hj,rfl,if_pos hj,rfl⟩,if_neg (Nat.lt_irrefl _),if_neg (Nat.lt_irrefl _),?_,fun j o q hq=>by simp at hq⟩
   rw [aAo,Nat.add_zero]
   simp only [Nat.lt_irrefl,if_false]
   exact h
 | q::plan,i,tm,top,tops,pend,tcP,pvP,tpP,blP,hpl,ht,hp,hone,hl,h=>by
   have hq0:plan0[i]? = some q:=by have:=hpl 0 q rfl;rwa [Nat.add_zero] at this
   have hpl':∀ (j:Nat) q,plan[j]? = some q->plan0[i+1+j]? = some q:=fun j q' h=>by
    have:=hpl (j+1) q' (by simpa using h)
    rwa [show i+(j+1)=i+1+j by omega] at this
   rw [quietK_cons] at h
   obtain ⟨o,ho,h⟩:=getK_spec.1 h
   have hoq:=hone 0 o q rfl (by rw [Nat.add_zero];exact ho)
   simp only [oneB,aBs] at hoq
   have hone':∀ (j:Nat) o q,plan[j]? = some q->ops[i+1+j]? = some o->oneB C.give o q=true:=fun j o q' hq' ho'=>hone (j+1) o q' (by simpa using hq') (by rw [show i+(j+1)=i+1+j by omega];exact ho')
   have hl':i+1+plan.length=ops.length:=by rw [<- hl,aAn];omega
   have fin:∀ (p:PV) (tm':List PV) (top':List Blk) (tops':List (Nat × List Blk)) (pend':List (Nat × Oper × List PV × PV × Option (Nat × Nat))),
    (∀ x ∈ tops',x ∈ tops\/x=(i,top))->(∀ x ∈ pend',x ∈ pend\/((x.1=i/\x.2.1=o/\x.2.2.1=tm/\x.2.2.2.1=p)/\Op.turns C.give [] o.op=false/\((q ≠ .make/\x.2.2.2.2=none)\/(q = .make/\x.2.2.2.2=some (top.length,top'.length)))))->quietK C H ops plan K (i+1) tm' top' tops' pend' ->
    (∀ (tc:Nat->List PV) (pv:Nat->PV) (tp:Nat->List Blk) (bl:Nat->Nat),(∀ j,j < i->tc j=tcP j/\pv j=pvP j/\tp j=tpP j/\bl j=blP j)->tc i=tm->pv i=p->tp i=top->tc (i+1)=tm'->tp (i+1)=top'->bl i=top'.length->QStp C H ops plan0 tc pv tp bl i o q) ->
    ∃ (tc:Nat->List PV) (pv:Nat->PV) (tp:Nat->List Blk) (bl:Nat->Nat),(∀ j,j < i->tc j=tcP j/\pv j=pvP j/\tp j=tpP j/\bl j=blP j)/\tc i=tm/\tp i=top/\K (tc (i+(q::plan).length)) (tp (i+(q::plan).length)) /\
      ∀ (j:Nat) o q',(q::plan)[j]? = some q'->ops[i+j]? = some o->QStp C H ops plan0 tc pv tp bl (i+j) o q':=by
    intro p tm' top' tops' pend' hto hpe hk hst
    obtain ⟨tc,pv,tp,bl,h1,h2,h3,h4,h5⟩:=canonQ hC plan (i+1) tm' top' tops' pend' (fun j=>if j=i then tm else tcP j) (fun j=>if j=i then p else pvP j) (fun j=>if j=i then top else tpP j) (fun j=>if j=i then top'.length else blP j) hpl'
     (fun x hx=>by
       rcases hto x hx with h | rfl
       . obtain ⟨a1,a2⟩:=ht x h
         exact ⟨by omega,by rw [if_neg (by omega)];exact a2⟩
       . exact ⟨aBm _,(if_pos rfl).symm⟩)
     (fun x hx=>by
       rcases hpe x hx with h | ⟨⟨e1,e2,e3,e4⟩,h,h6⟩
       . obtain ⟨a1,a2,a3,a4,a5,qk,a6,a7⟩:=hp x h
         exact ⟨by omega,a2,by rw [if_neg (by omega)];exact a3,by rw [if_neg (by omega)];exact a4,a5,qk,a6,by rw [if_neg (by omega),if_neg (by omega)];exact a7⟩
       . refine ⟨by omega,by rw [e1,e2];exact ho,by rw [if_pos e1];exact e3,by rw [if_pos e1];exact e4,by rw [e2];exact h,q,by rw [e1];exact hq0,?_⟩
         rw [if_pos e1,if_pos e1]
         exact h6) hone' hl' hk
    have old:∀ j,j < i->tc j=tcP j/\pv j=pvP j/\tp j=tpP j/\bl j=blP j:=fun j hj=>by
     obtain ⟨a1,a2,a3,a4⟩:=h1 j (by omega)
     rw [if_neg (by omega)] at a1 a2 a3 a4
     exact ⟨a1,a2,a3,a4⟩
    obtain ⟨b1,b2,b3,b4⟩:=h1 i (aBm _)
    rw [if_pos rfl] at b1 b2 b3 b4
    refine ⟨tc,pv,tp,bl,old,b1,b3,?_,fun j o' q' hq' ho'=>?_⟩
    . rw [aAn,show i+(plan.length+1)=i+1+plan.length by omega];exact h4
    . cases j with
      | zero=>
        rw [Nat.add_zero] at ho' ⊢
        rw [ho] at ho'
        obtain rfl:=aBr ho'
        obtain rfl:=aBr (show some q=some q' from hq')
        exact hst tc pv tp bl old b1 b2 b3 h2 h3 b4
      | succ j=>
        rw [show i+(j+1)=i+1+j by omega] at ho' ⊢
        exact h5 j o' q' (by simpa using hq') ho'
   cases q with
   | pure=>
     obtain ⟨p,hk,hps⟩:=sure_step hC h hoq.2
     obtain ⟨tm',hk,hn⟩:=fK hk
     refine fin p tm' top tops pend (fun x hx=>.inl hx) (fun x hx=>.inl hx) hk fun tc pv tp bl _ e1 e2 e3 e4 e5 e6=>?_
     refine ⟨by rw [e6,e5],by rw [e1,e2,e4];exact hn,by rw [e3,e5];exact aBo _,by rw [e3,e5];exact GenLe.refl _,by rw [e1,e2,e3,e5];exact hps.step.act (List.prefix_refl _),fun _=>by rw [e1,e2,e3,e5];exact ⟨List.prefix_refl _,hps.step⟩,fun _=>by rw [e1,e2,e3,e5];exact ⟨rfl,hps⟩,fun l hq=>(by cases hq),fun l hq=>(by cases hq)⟩
   | make=>
     have htn:Op.turns C.give [] o.op=false:=by
      have:=show (!pureOp o.op && !Op.turns C.give [] o.op)=true from hoq.2
      simp only [aBs,Bool.not_eq_true'] at this
      exact this.2
     obtain ⟨p,top',hk,h1,h2,h3,h4,_⟩:=fJ hC h
     rw [lenK_spec,lenK_spec] at hk
     obtain ⟨tm',hk,hn⟩:=fK hk
     refine fin p tm' top' tops ((i,o,tm,p,some (top.length,top'.length))::pend) (fun x hx=>.inl hx) (fun x hx=>by
      rcases List.mem_cons.1 hx with rfl | hx
      . exact .inr ⟨⟨rfl,rfl,rfl,rfl⟩,htn,.inr ⟨rfl,rfl⟩⟩
      . exact .inl hx) hk fun tc pv tp bl old e1 e2 e3 e4 e5 e6=>?_
     exact ⟨by rw [e6,e5],by rw [e1,e2,e4];exact hn,by rw [e3,e5];exact h1,by rw [e3,e5];exact h2,by rw [e1,e2,e3,e5];exact h3,fun h=>by rw [e1,e2,e3,e5];exact h4 h,fun hq=>(by cases hq),fun l hq=>(by cases hq),fun l hq=>(by cases hq)⟩
   | quiet hist=>
     have htn:Op.turns C.give [] o.op=false:=by
      have:=show (!pureOp o.op && !Op.turns C.give [] o.op)=true from hoq.2
      simp only [aBs,Bool.not_eq_true'] at this
      exact this.2
     obtain ⟨p,top',⟨rfl,hk⟩,h1,h2,h3,h4,_⟩:=fJ hC h
     obtain ⟨hh,hk⟩:=eachK_spec hk
     obtain ⟨tm',hk,hn⟩:=fK hk
     refine fin p tm' top' tops ((i,o,tm,p,none)::pend) (fun x hx=>.inl hx) (fun x hx=>by
      rcases List.mem_cons.1 hx with rfl | hx
      . exact .inr ⟨⟨rfl,rfl,rfl,rfl⟩,htn,.inl ⟨(by intro h;cases h),rfl⟩⟩
      . exact .inl hx) hk fun tc pv tp bl old e1 e2 e3 e4 e5 e6=>?_
     refine ⟨by rw [e6,e5],by rw [e1,e2,e4];exact hn,by rw [e3,e5];exact aBo _,by rw [e3,e5];exact GenLe.refl _,by rw [e1,e2,e3,e5];exact h3,fun h=>by rw [e1,e2,e3,e5];exact h4 h,fun hq=>(by cases hq),fun l hq=>?_,fun l hq=>(by cases hq)⟩
     cases hq
     refine ⟨by rw [e3,e5],fun j hj=>?_⟩
     obtain ⟨hb,hm,hk2⟩:=findK_spec (hh j hj)
     obtain ⟨a1,a2⟩:=ht _ hm
     refine ⟨a1,?_⟩
     rw [e1,e2,(old j a1).2.2.1,<- (show hb=tpP j from a2)]
     exact quiet_op hC htn hk2
   | act pl=>
     obtain ⟨p,top',hk,h1,h2,h3,h4,_⟩:=fJ hC h
     obtain ⟨hh,hk⟩:=eachK_spec hk
     obtain ⟨tm',hk,hn⟩:=fK hk
     refine fin p tm' top' ((i,top)::tops) pend (fun x hx=>by
      rcases List.mem_cons.1 hx with rfl | hx
      . exact .inr rfl
      . exact .inl hx) (fun x hx=>.inl hx) hk fun tc pv tp bl old e1 e2 e3 e4 e5 e6=>?_
     refine ⟨by rw [e6,e5],by rw [e1,e2,e4];exact hn,by rw [e3,e5];exact h1,by rw [e3,e5];exact h2,by rw [e1,e2,e3,e5];exact h3,fun h=>by rw [e1,e2,e3,e5];exact h4 h,fun hq=>(by cases hq),fun l hq=>(by cases hq),fun l hq=>?_⟩
     cases hq
     intro k hk'
     obtain ⟨x,hm,hk2⟩:=findK_spec (hh k hk')
     obtain ⟨a1,a2,a3,a4,a5,qk,a6,a7⟩:=hp _ hm
     refine ⟨a1,x.1,qk,a2,a6,?_⟩
     obtain ⟨o1,o2,o3,o4⟩:=old k a1
     rw [o1,o2,e5,<- (show x.2.1=tcP k from a3),<- (show x.2.2.1=pvP k from a4)]
     rcases a7 with ⟨a7,a8⟩ | ⟨a7,a8⟩
     . rw [show x.2.2.2=none from a8] at hk2
       exact .inl ⟨a7,quiet_op hC a5 hk2⟩
     . rw [show x.2.2.2=some ((tpP k).length,blP k) from a8] at hk2
       obtain ⟨t1,hk3⟩:=takeK_spec.1 (show takeK top' (tpP k).length (fun h=>takeK top' (blP k) fun h1=>actK C H x.1.op x.2.1 h fun p' h'=>p'=x.2.2.1/\h'=h1) from hk2)
       obtain ⟨t2,hk4⟩:=takeK_spec.1 hk3
       rw [o3,o4]
       refine .inr ⟨a7,t1,t2,?_⟩
       obtain ⟨pv',top2,⟨f1,f2⟩,_,_,_,hO,_⟩:=fJ hC hk4
       subst f1;subst f2
       exact (hO a5).2
theorem act_first (A:Nat->Prop) [DecidablePred A]:∀ (n c:Nat),(∀ j,c<=j->j < c+n -> ¬ A j) \/ ∃ j,c<=j/\j < c+n/\A j /\ ∀ k,c<=k->k < j -> ¬ A k
 | 0,c=>.inl fun j h1 h2=>by omega
 | n+1,c=>by
   rcases act_first A n c with h | ⟨j,h1,h2,h3,h4⟩
   . by_cases ha:A (c+n)
     . exact .inr ⟨c+n,by omega,by omega,ha,fun k h1 h2=>h k h1 h2⟩
     . refine .inl fun j h1 h2=>?_
       by_cases hj:j=c+n
       . rw [hj];exact ha
       . exact h j h1 (by omega)
   . exact .inr ⟨j,h1,by omega,h3,h4⟩
theorem act_last (A:Nat->Prop) [DecidablePred A]:∀ (n c:Nat),(∀ j,c<=j->j < c+n -> ¬ A j) \/ ∃ j,c<=j/\j < c+n/\A j /\ ∀ k,j < k->k < c+n -> ¬ A k
 | 0,c=>.inl fun j h1 h2=>by omega
 | n+1,c=>by
   by_cases ha:A (c+n)
   . exact .inr ⟨c+n,by omega,by omega,ha,fun k h1 h2=>by omega⟩
   . rcases act_last A n c with h | ⟨j,h1,h2,h3,h4⟩
     . refine .inl fun j h1 h2=>?_
       by_cases hj:j=c+n
       . rw [hj];exact ha
       . exact h j h1 (by omega)
     . refine .inr ⟨j,h1,by omega,h3,fun k h5 h6=>?_⟩
       by_cases hk:k=c+n
       . rw [hk];exact ha
       . exact h4 k h5 (by omega)
def actP (plan:List QOp) (i:Nat):Prop:=∃ l,plan[i]? = some (.act l)
instance (plan:List QOp):DecidablePred (actP plan):=fun i=>by
 unfold actP
 cases h:plan[i]? with
 | none=>exact .isFalse fun ⟨l,h⟩=>(by cases h)
 | some q=>
   cases q with
   | act l=>exact .isTrue ⟨l,rfl⟩
   | make=>exact .isFalse fun ⟨l,h⟩=>(by cases h)
   | pure=>exact .isFalse fun ⟨l,h⟩=>(by cases h)
   | quiet l=>exact .isFalse fun ⟨l,h⟩=>(by cases h)
section
variable {C:Cx} {H:List (List Blk)} {ops:List Oper} {plan:List QOp} {T:List Nat} {tc:Nat->List PV} {pv:Nat->PV} {tp:Nat->List Blk} {bl:Nat->Nat}
def QS (tc:Nat->List PV) (pv:Nat->PV) (tp:Nat->List Blk):Seqn:=⟨fun _=>true,pv,tc,tc,tp⟩
theorem q_stp (hD:QDrawn C.give ops plan T) (hq:∀ (i:Nat) o q,plan[i]? = some q->ops[i]? = some o->QStp C H ops plan tc pv tp bl i o q) (k:Nat) (o:Oper) (ho:ops[k]? = some o) :
 StpOk C H [] ops o ((QS tc pv tp).w k) ((QS tc pv tp).pv k) ((QS tc pv tp).tc k) ((QS tc pv tp).tr k) ((QS tc pv tp).tc (k+1)) ((QS tc pv tp).tp k) ((QS tc pv tp).tp (k+1)):=by
 obtain ⟨q,hqk⟩:∃ q,plan[k]? = some q:=⟨_,aAf (by rw [hD.len];exact (aAe.1 ho).1)⟩
 have s:=hq k o q hqk ho
 have h1:=hD.one k o q ho hqk
 simp only [oneB,aBs] at h1
 refine ⟨.refl _,.inl ⟨?_,rfl⟩,s.next,fun h=>(by cases h),s.len,s.gen,fun _=>s.act,fun _ h=>s.op h,fun _ hp=>?_⟩
 . cases hg:o.guard with
   | none=>rfl
   | some x=>rw [hg] at h1;cases h1.1
 . cases q with
   | pure=>exact s.sure rfl
   | make=>
     have:=show (!pureOp o.op && !Op.turns C.give [] o.op)=true from h1.2
     rw [hp] at this;cases this
   | quiet l=>
     have:=show (!pureOp o.op && !Op.turns C.give [] o.op)=true from h1.2
     rw [hp] at this;cases this
   | act l=>
     have:=show (!pureOp o.op)=true from h1.2
     rw [hp] at this;cases this
def makeP (plan:List QOp) (i:Nat):Prop:=plan[i]? = some .make
theorem q_same (hD:QDrawn C.give ops plan T) (hq:∀ (i:Nat) o q,plan[i]? = some q->ops[i]? = some o->QStp C H ops plan tc pv tp bl i o q):∀ (n i:Nat),i+n<=ops.length->(∀ j,i<=j->j < i+n -> ¬ actP plan j /\ ¬ makeP plan j)->tp (i+n)=tp i:=by
 intro n
 induction n with
 | zero=>intro i _ _;rfl
 | succ n ih=>
   intro i hl hn
   have ho:ops[i+n]? = some ops[i+n]:=aAf (by omega)
   obtain ⟨q,hqk⟩:∃ q,plan[i+n]? = some q:=⟨_,aAf (by rw [hD.len];omega)⟩
   have s:=hq (i+n) _ q hqk ho
   rw [<- ih i (by omega) (fun j h1 h2=>hn j h1 (by omega))]
   show tp (i+n+1)=tp (i+n)
   cases q with
   | pure=>exact (s.sure rfl).1
   | quiet l=>exact (s.quiet l rfl).1
   | make=>exact absurd hqk (hn (i+n) (by omega) (by omega)).2
   | act l=>exact absurd ⟨l,hqk⟩ (hn (i+n) (by omega) (by omega)).1
theorem q_prefix (hD:QDrawn C.give ops plan T) (hq:∀ (i:Nat) o q,plan[i]? = some q->ops[i]? = some o->QStp C H ops plan tc pv tp bl i o q):∀ (n i:Nat),i+n<=ops.length->(∀ j,i<=j->j < i+n -> ¬ actP plan j)->tp i <+: tp (i+n):=by
 intro n
 induction n with
 | zero=>intro i _ _;exact List.prefix_refl _
 | succ n ih=>
   intro i hl hn
   have ho:ops[i+n]? = some ops[i+n]:=aAf (by omega)
   obtain ⟨q,hqk⟩:∃ q,plan[i+n]? = some q:=⟨_,aAf (by rw [hD.len];omega)⟩
   have s:=hq (i+n) _ q hqk ho
   refine (ih i (by omega) (fun j h1 h2=>hn j h1 (by omega))).trans ?_
   show tp (i+n) <+: tp (i+n+1)
   have h1:=hD.one (i+n) _ q ho hqk
   simp only [oneB,aBs] at h1
   cases q with
   | pure=>rw [(s.sure rfl).1];exact List.prefix_refl _
   | quiet l=>rw [(s.quiet l rfl).1];exact List.prefix_refl _
   | make=>
     have:=show (!pureOp ops[i+n].op && !Op.turns C.give [] ops[i+n].op)=true from h1.2
     simp only [aBs,Bool.not_eq_true'] at this
     exact (s.op this.2).1
   | act l=>exact absurd ⟨l,hqk⟩ (hn (i+n) (by omega) (by omega))
theorem q_len (hD:QDrawn C.give ops plan T) (hq:∀ (i:Nat) o q,plan[i]? = some q->ops[i]? = some o->QStp C H ops plan tc pv tp bl i o q):∀ (n i:Nat),i+n<=ops.length->(tp i).length<=(tp (i+n)).length:=by
 intro n
 induction n with
 | zero=>intro i _;exact aBo _
 | succ n ih=>
   intro i hl
   have ho:ops[i+n]? = some ops[i+n]:=aAf (by omega)
   obtain ⟨q,hqk⟩:∃ q,plan[i+n]? = some q:=⟨_,aAf (by rw [hD.len];omega)⟩
   exact aBp (ih i (by omega)) (hq (i+n) _ q hqk ho).len
def QPh (H:List (List Blk)) (m0:M0) (ops:List Oper) (plan:List QOp) (tp:Nat->List Blk) (m:M) (ds:List Deferred) (L:Array Bool):Prop:=
 ∃ c,c<=ops.length/\Since m0 m (tp c)/\(∃ V,Calm H m0 m ds (tp c) V)/\Inv m (tp c) H/\(∀ j,(tp c).length<=j->m.ρ 0 j=none)/\(∀ i,i < ops.length->actP plan i->(i < c↔Dn L i)) /\
   (∀ i,makeP plan i->i < c) /\ ∀ i,makeP plan i -> ¬ Dn L i -> ∀ j,(tp i).length<=j->j < (tp (i+1)).length->m.ρ 0 j=none
theorem any_quiet (hD:QDrawn C.give ops plan T) (hq:∀ (i:Nat) o q,plan[i]? = some q->ops[i]? = some o->QStp C H ops plan tc pv tp bl i o q) {m0:M0} {Q:Exit->Act->World->Prop} (hW:∀ o ∈ ops,∀ d,o.dst=some d->m0.W d)
 (hQ:∀ m a,aV H m0 m a (tc ops.length) (tp ops.length)->Q .normal a m.w) :
 ∀ (fuel:Nat) (L:Array Bool) (m:M) (a:Act),Some0 ops (QS tc pv tp) m0 m a L ->
   QPh H m0 ops plan tp m a.defers L ->
   L.toList.count false=fuel->wpAny C.P .any ops.toArray Q fuel L a m.w:=by
 have hS:=q_stp hD hq
 have same:∀ i c,i<=c->c<=ops.length->(∀ j,i<=j->j < c -> ¬ actP plan j /\ ¬ makeP plan j)->tp c=tp i:=fun i c h1 h2 h3=>by
  have:=q_same hD hq (c - i) i (by omega) (fun j h4 h5=>h3 j h4 (by omega))
  rwa [show i+(c - i)=c by omega] at this
 have pre:∀ i c,i<=c->c<=ops.length->(∀ j,i<=j->j < c -> ¬ actP plan j)->tp i <+: tp c:=fun i c h1 h2 h3=>by
  have:=q_prefix hD hq (c - i) i (by omega) (fun j h4 h5=>h3 j h4 (by omega))
  rwa [show i+(c - i)=c by omega] at this
 have lens:∀ i c,i<=c->c<=ops.length->(tp i).length<=(tp c).length:=fun i c h1 h2=>by
  have:=q_len hD hq (c - i) i (by omega)
  rwa [show i+(c - i)=c by omega] at this
 have noMake:∀ i j,actP plan i->i < j->j < ops.length -> ¬ makeP plan j:=fun i j ⟨l,hl⟩ hij hj hm=>by
  obtain ⟨oi,hoi⟩:∃ oi,ops[i]? = some oi:=⟨_,aAf (by omega)⟩
  obtain ⟨oj,hoj⟩:∃ oj,ops[j]? = some oj:=⟨_,aAf hj⟩
  have hp:=hD.pair i j oi oj _ _ hij hoi hoj hl hm
  unfold pairB at hp
  rw [aBs] at hp
  cases hp.1
 have done:∀ (L:Array Bool) (m:M) (a:Act),Some0 ops (QS tc pv tp) m0 m a L->QPh H m0 ops plan tp m a.defers L ->
  (∀ i,i < ops.length->Dn L i)->Q .normal a m.w:=by
  intro L m a hL ⟨c,hc,hsn,⟨V0,h0⟩,h1,h2,h3,h9,_⟩ hall
  have htp:tp ops.length=tp c:=same c ops.length hc (aBo _) fun j h4 h5=>⟨fun ha=>by
   have:=(h3 j h5 ha).2 (hall j h5)
   omega,fun hm=>by have:=h9 j hm;omega⟩
  refine hQ m a ⟨⟨by rw [htp];exact h1,by rw [hL.size];exact (tc_len hS ops.length (aBo _)).symm,fun t p v hp hv=>hL.vals t ops.length p v (aBo _) (fun j o hj _=>?_) hp hv,rfl,fun j hj=>h2 j (by rwa [htp] at hj),by rw [htp];exact ⟨hsn.os,hsn.tape,hsn.output,hsn.size,hsn.heap,hsn.up,hsn.U,hsn.fresh⟩,hL.tsz,hL.prot⟩,V0,by rw [htp];exact h0⟩
  have:=(aAe.1 hj).1
  exact ⟨fun _=>hall j this,fun _=>this⟩
 have ready:∀ (L:Array Bool) (i:Nat),L.size=ops.length->(i ∈ Region.ready .any ops.toArray L↔i < ops.length /\ ¬ Dn L i/\Rdy ops L i):=by
  intro L i hl
  rw [mem_ready]
  constructor
  . rintro ⟨h1,o,ho,h2⟩
    have ho':ops[i]? = some o:=by simpa using ho
    refine ⟨(aAe.1 ho').1,fun h=>?_,o,ho',h2⟩
    have hi:i < L.size:=by rw [hl];exact (aAe.1 ho').1
    unfold Dn at h
    simp [hi] at h1 h
    rw [h1] at h;cases h
  . rintro ⟨hi,h1,o,ho,h2⟩
    refine ⟨?_,o,by simpa using ho,h2⟩
    unfold Dn at h1
    have hi:i < L.size:=by rw [hl];exact hi
    simp [hi] at h1 ⊢
    exact h1
 have next:∀ (L:Array Bool) (m:M) (a:Act) (i:Nat) (o:Oper),Some0 ops (QS tc pv tp) m0 m a L->ops[i]? = some o->Rdy ops L i -> ¬ Dn L i -> ∀ (m':M) (v:Value),Keep m m'->RP m' (pv i) v ->
  Some0 ops (QS tc pv tp) m0 m' (a.put o.dst v) (L.setIfInBounds i true):=by
  intro L m a i o hL ho hr hn m' v hK hv
  refine ⟨by simp [hL.len],closed_set hL.len hL.closed hr,?_,vals_set hS hD.drawn hL ho hn hK hv,fun j hj=>?_,?_⟩
  . rw [<- hL.size];unfold Act.put;split <;> simp
  . rw [<- hL.prot j hj]
    unfold Act.put
    split
    . rename_i d hd
      dsimp only
      rw [Array.getElem?_setIfInBounds_ne (fun e=>hj (by rw [<- e];exact hW o (aAg ho) d hd))]
    . rfl
  . rw [<- hL.tsz];unfold Act.put;split <;> simp
 intro fuel
 induction fuel with
 | zero=>
   intro L m a hL hph hcount
   have hall:∀ i,i < ops.length->Dn L i:=by
    intro i hi
    rw [List.count_eq_zero] at hcount
    have hi:i < L.size:=by rw [hL.len];exact hi
    unfold Dn
    cases hv:L[i] with
    | true=>simp [hi,hv]
    | false=>exact absurd (aAg (i:=i) (by simp [hi,hv])) hcount
   refine ⟨List.eq_nil_iff_forall_not_mem.2 fun i hi=>?_,done L m a hL hph hall⟩
   obtain ⟨h1,h2,_⟩:=(ready L i hL.len).1 hi
   exact h2 (hall i h1)
 | succ fuel ih=>
   intro L m a hL hph hcount
   refine ⟨fun hnil=>done L m a hL hph ?_,fun i hi=>?_⟩
   . have:∀ n i,i < n->i < ops.length->Dn L i:=by
      intro n
      induction n with
      | zero=>intro i h;omega
      | succ n ihn=>
        intro i hin hi
        by_cases hd:Dn L i
        . exact hd
        . exfalso
          have hmem:=(ready L i hL.len).2 ⟨hi,hd,_,aAf hi,fun e he hb=>ihn e.on (by have:=hD.drawn.back i _ (aAf hi) e he hb;omega) (by have:=hD.drawn.back i _ (aAf hi) e he hb;omega)⟩
          rw [hnil] at hmem;cases hmem
     exact fun i hi=>this (i+1) i (aBm i) hi
   . obtain ⟨hil,hn,hr⟩:=(ready L i hL.len).1 hi
     obtain ⟨o,ho⟩:∃ o,ops[i]? = some o:=⟨_,aAf hil⟩
     obtain ⟨q,hqi⟩:∃ q,plan[i]? = some q:=⟨_,aAf (by rw [hD.len];exact hil)⟩
     have hiL:i < L.size:=by rw [hL.len];exact hil
     have hcount':(L.setIfInBounds i true).toList.count false=fuel:=by
      rw [Array.toList_setIfInBounds,List.count_set (by simpa using hiL)]
      have hf:L.toList[i]'(by simpa using hiL)=false:=by
       unfold Dn at hn
       simpa [hiL] using hn
      rw [hf,hcount];simp
     have s:=hq i o q hqi ho
     have hev:=some1_evR hS hD.drawn hL ho hr hn
     have hwant:=some1_want hS hD.drawn hL ho hr hn
     have hdn:∀ k,Dn (L.setIfInBounds i true) k↔k=i\/Dn L k:=dn_set hiL
     obtain ⟨c,hc,hsn,⟨V0,h0⟩,h1,h2,h3,h9,h10⟩:=hph
     have hbit:∀ j,bitB T i j=true->Dn L j:=fun j hb=>bit_done hD.drawn hL.closed (i+1) i (aBm i) hr j hb
     have hbit2:∀ (j:Nat) oj,ops[j]? = some oj->Dn L j->bitB T j i=true->False:=fun j oj hj hd hb=>hn (done_bit hD.drawn hL.closed hj hd hb)
     unfold wpOp
     simp only [aBx,ho]
     rw [hwant]
     simp only [show (QS tc pv tp).w i=true from rfl,if_true]
     refine .inl ?_
     have slots:∀ k,makeP plan k->makeP plan i->k≠i -> ∀ j,(tp k).length<=j->j < (tp (k+1)).length -> ¬ ((tp i).length<=j/\j < (tp (i+1)).length):=fun k hk hi hki j j1 j2 ⟨j3,j4⟩=>by
      have hkl:k < ops.length:=by rw [<- hD.len];exact (aAe.1 hk).1
      rcases aBl k i with h | h
      . have:=lens (k+1) i h (by omega);omega
      . have:=lens (i+1) k (by omega) (by omega);omega
     have calm:(∀ l,q ≠ .act l) -> ∀ (t0 t1:List Blk),t0 <+: t1->t1 <+: tp c->bQ C H o (tc i) t0 (pv i) t1->(t0.length=t1.length\/(q = .make/\t0.length=(tp i).length/\t1.length=(tp (i+1)).length)) ->
      o.wp C.P a m.w (wpAny C.P .any ops.toArray Q fuel (L.setIfInBounds i true)) Q:=fun hna t0 t1 p01 p1 hst hor=>by
      have hfree:∀ j,t0.length<=j->j < t1.length->m.ρ 0 j=none:=fun j j1 j2=>by
       rcases hor with h | ⟨h,e1,e2⟩
       . omega
       . exact h10 i (by rw [h] at hqi;exact hqi) hn j (by omega) (by omega)
      refine hst m a (inv_prefix (p01.trans p1) h1) hev hfree _ Q fun v m' hg hρ hfr hi' hv=>?_
      have hmn:∀ k,Mine m' (tp c) k->m.w.heap.size<=k\/Mine m (tp c) k:=by
       rintro k ⟨j,b,u,q1,q2,q3,q4⟩
       by_cases hj:t0.length<=j/\j < t1.length
       . have q5:=pre_get p1 (aAf hj.2)
         rw [q1] at q5
         exact .inl (hfr j b u k hj.1 (by rw [aAf hj.2];exact q5.symm) q3 q4)
       . rw [hρ 0 j (by omega)] at q3;exact .inr ⟨j,b,u,q1,q2,q3,h1.grow hg (l:=0) q1 q2 q3 q4⟩
      have hsince:Since m0 m' (tp c):=hsn.step hg.os hg.tape hg.output hg.size (fun k hk _=>hg.heap k hk) (fun l j=>hρ (l+1) j (by omega)) hg.U hmn
      have hij:=inv_join p01 p1 h1 hg hρ hfr hfree hi'
      have hlc:=p1.length_le
      refine ih _ m' _ (next L m a i o hL ho hr hn m' v hg.keep hv) ⟨c,hc,hsince,⟨V0,?_⟩,hij,fun j hj=>by rw [hρ 0 j (by omega)];exact h2 j hj,fun k hk ha=>?_,h9,fun k hk hd j j1 j2=>?_⟩ hcount'
      . rw [gT]
        exact h0.step h1 hij (GenLe.refl _) hg.os hg.tape hg.output hg.size (fun k hk _=>hg.heap k hk) hg.U (fun l j=>hρ (l+1) j (by omega)) hmn
      . rw [hdn k,h3 k hk ha]
        constructor
        . exact .inr
        . rintro (rfl | h)
          . obtain ⟨l,ha⟩:=ha
            rw [hqi] at ha
            exact absurd (aBr ha) (hna l)
          . exact h
      . have hki:k≠i:=fun e=>hd ((hdn k).2 (.inl e))
        rw [hρ 0 j ?_]
        . exact h10 k hk (fun h=>hd ((hdn k).2 (.inr h))) j j1 j2
        . rintro ⟨_,a1,a2⟩
          rcases hor with h | ⟨h,e1,e2⟩
          . omega
          . exact slots k hk (by rw [h] at hqi;exact hqi) hki j j1 j2 ⟨by omega,by omega⟩
     have same0:∀ t,t <+: tp c->bQ C H o (tc i) t (pv i) t->(∀ l,q ≠ .act l)->o.wp C.P a m.w (wpAny C.P .any ops.toArray Q fuel (L.setIfInBounds i true)) Q:=fun t ht hst hna=>calm hna t t (List.prefix_refl _) ht hst (.inl rfl)
     cases q with
     | pure=>exact same0 (tp c) (List.prefix_refl _) ((s.sure rfl).2.step) (fun l h=>by cases h)
     | make=>
       have htn:Op.turns C.give [] o.op=false:=by
        have h1:=hD.one i o _ ho hqi
        simp only [oneB,aBs,Bool.not_eq_true'] at h1
        exact h1.2.2
       have hic:i < c:=h9 i hqi
       rcases act_last (actP plan) (c - i) i with h | ⟨j,j1,j2,⟨l,hl⟩,j4⟩
       . obtain ⟨p1,hst⟩:=s.op htn
         exact calm (fun l h=>by cases h) (tp i) (tp (i+1)) p1 (pre (i+1) c (by omega) hc (fun j h4 h5=>h j (by omega) (by omega))) hst (.inr ⟨rfl,rfl,rfl⟩)
       . have hji:j≠i:=fun e=>by rw [e,hqi] at hl;cases hl
         obtain ⟨oj,hoj⟩:∃ oj,ops[j]? = some oj:=⟨_,aAf (by omega)⟩
         have hjd:Dn L j:=(h3 j (by omega) ⟨l,hl⟩).1 (by omega)
         rcases pairB_bit (hD.pair i j o oj _ _ (by omega) ho hoj hqi hl) with hp | hp
         . exact (hbit2 j oj hoj hjd hp).elim
         . rw [aBs] at hp
           have hm:i ∈ l:=by
            obtain ⟨x,hx,hb⟩:=List.any_eq_true.1 hp.2
            rw [aBj hb];exact hx
           obtain ⟨_,ok,qk,hok,hqk,hst⟩:=(hq j oj _ hl hoj).back l rfl i hm
           rw [ho] at hok
           obtain rfl:=aBr hok
           rw [hqi] at hqk
           obtain rfl:=aBr hqk
           rcases hst with ⟨h,_⟩ | ⟨_,t1,t2,hst⟩
           . exact absurd rfl h
           . rw [s.made] at t2 hst
             have htp:tp c=tp (j+1):=same (j+1) c (by omega) hc (fun k h4 h5=>⟨j4 k (by omega) (by omega),noMake j k ⟨l,hl⟩ (by omega) (by omega)⟩)
             have hle:=s.len
             refine calm (fun l h=>by cases h) _ _ ?_ ?_ hst (.inr ⟨rfl,by rw [aAl];omega,by rw [aAl];omega⟩)
             . exact List.take_prefix_take_left hle
             . rw [htp];exact List.take_prefix _ _
     | quiet hist=>
       have htn:Op.turns C.give [] o.op=false:=by
        have h1:=hD.one i o _ ho hqi
        simp only [oneB,aBs,Bool.not_eq_true'] at h1
        exact h1.2.2
       obtain ⟨hsame,hhist⟩:=s.quiet hist rfl
       have base:bQ C H o (tc i) (tp i) (pv i) (tp i):=by have:=(s.op htn).2;rwa [hsame] at this
       suffices hgo:bQ C H o (tc i) (tp c) (pv i) (tp c)\/(∃ t,t <+: tp c/\bQ C H o (tc i) t (pv i) t) by
        rcases hgo with h | ⟨t,ht,h⟩
        . exact same0 (tp c) (List.prefix_refl _) h (fun l h=>by cases h)
        . exact same0 t ht h (fun l h=>by cases h)
       rcases aBl i c with hic | hci
       . rcases act_last (actP plan) (c - i) i with h | ⟨j,j1,j2,⟨l,hl⟩,j4⟩
         . exact .inr ⟨tp i,pre i c (by omega) hc (fun j h4 h5=>h j h4 (by omega)),base⟩
         . have hji:j≠i:=fun e=>by rw [e,hqi] at hl;cases hl
           obtain ⟨oj,hoj⟩:∃ oj,ops[j]? = some oj:=⟨_,aAf (by omega)⟩
           have hjd:Dn L j:=(h3 j (by omega) ⟨l,hl⟩).1 (by omega)
           rcases pairB_bit (hD.pair i j o oj _ _ (by omega) ho hoj hqi hl) with hp | hp
           . exact (hbit2 j oj hoj hjd hp).elim
           . rw [aBs] at hp
             have hm:i ∈ l:=by
              obtain ⟨x,hx,hb⟩:=List.any_eq_true.1 hp.2
              rw [aBj hb];exact hx
             obtain ⟨_,ok,qk,hok,hqk,hst⟩:=(hq j oj _ hl hoj).back l rfl i hm
             rw [ho] at hok
             obtain rfl:=aBr hok
             rw [hqi] at hqk
             obtain rfl:=aBr hqk
             rcases hst with ⟨_,hst⟩ | ⟨h,_⟩
             . rw [same (j+1) c (by omega) hc (fun k h4 h5=>⟨j4 k (by omega) (by omega),noMake j k ⟨l,hl⟩ (by omega) (by omega)⟩)];exact .inl hst
             . cases h
       . have hnm:∀ k,c<=k->k < ops.length -> ¬ makeP plan k:=fun k h4 h5 h6=>by have:=h9 k h6;omega
         rcases act_first (actP plan) (i - c) c with h | ⟨j,j1,j2,⟨l,hl⟩,j4⟩
         . rw [<- same c i hci (by omega) (fun j h4 h5=>⟨h j h4 (by omega),hnm j h4 (by omega)⟩)];exact .inl base
         . obtain ⟨oj,hoj⟩:∃ oj,ops[j]? = some oj:=⟨_,aAf (by omega)⟩
           have hjn:¬ Dn L j:=fun hd=>by have:=(h3 j (by omega) ⟨l,hl⟩).2 hd;omega
           rcases pairB_bit (hD.pair j i oj o _ _ (by omega) hoj ho hl hqi) with hp | hp
           . exact (hjn (hbit j hp)).elim
           . rw [aBs] at hp
             have hm:j ∈ hist:=by
              obtain ⟨x,hx,hb⟩:=List.any_eq_true.1 hp.2
              rw [aBj hb];exact hx
             rw [<- same c j j1 (by omega) (fun k h4 h5=>⟨j4 k h4 h5,hnm k h4 (by omega)⟩)]
             exact .inl (hhist j hm).2
     | act l=>
       have hact:∀ j lj,plan[j]? = some (.act lj)->j < i->Dn L j:=fun j lj hlj hji=>by
        obtain ⟨oj,hoj⟩:∃ oj,ops[j]? = some oj:=⟨_,aAf (by omega)⟩
        rcases pairB_bit (hD.pair j i oj o _ _ hji hoj ho hlj hqi) with hp | hp
        . exact hbit j hp
        . rw [aBs] at hp
          cases hp.2
       have hci:c<=i:=by
        rcases aBl i c with h | h
        . exact absurd ((h3 i hil ⟨l,hqi⟩).1 h) hn
        . exact h
       have htp:tp i=tp c:=same c i hci (by omega) fun j h4 h5=>⟨fun ⟨lj,hlj⟩=>by
        have:=(h3 j (by omega) ⟨lj,hlj⟩).2 (hact j lj hlj h5);omega,fun hm=>by have:=h9 j hm;omega⟩
       refine s.act m a (by rw [htp];exact h1) hev (fun j hj=>h2 j (by rwa [htp] at hj)) _ Q fun v m' hT hρ hfr hI hv=>?_
       have hinv:Inv m (tp i) H:=by rw [htp];exact h1
       have hs1:Since m0 m' (tp (i+1)):=Since.turn (top:=tp i) (by rw [htp];exact hsn) s.gen hT hρ hfr
       have hf1:∀ j,(tp (i+1)).length<=j->m'.ρ 0 j=none:=fun j hj=>by
        have:=s.len
        rw [hρ 0 j (by omega)];exact h2 j (by rw [<- htp];omega)
       have hcalm:Calm H m0 m a.defers (tp i) V0:=by rw [htp];exact h0
       refine ih _ m' _ (next L m a i o hL ho hr hn m' v (hT.keep hinv) hv) ⟨i+1,by omega,hs1,⟨V0,?_⟩,hI,hf1,fun k hk ⟨lk,hlk⟩=>?_,fun k hk=>by have:=h9 k hk;omega,fun k hk hd j j1 j2=>?_⟩ hcount'
       . rw [gT]
         exact hcalm.step hinv hI s.gen hT.os hT.tape hT.output hT.size hT.heap hT.U (fun l j=>hρ (l+1) j (by omega)) hfr
       . rw [hdn k]
         constructor
         . intro h
           by_cases hki:k=i
           . exact .inl hki
           . exact .inr (hact k lk hlk (by omega))
         . rintro (rfl | h)
           . omega
           . rcases aBl k (i+1) with h' | h'
             . exact h'
             . exfalso
               obtain ⟨ok,hok⟩:∃ ok,ops[k]? = some ok:=⟨_,aAf hk⟩
               rcases pairB_bit (hD.pair i k o ok _ _ (by omega) ho hok hqi hlk) with hp | hp
               . exact hbit2 k ok hok h hp
               . rw [aBs] at hp
                 cases hp.2
       . have hki:k < c:=h9 k hk
         have hle:=lens (k+1) i (by omega) (by omega)
         rw [hρ 0 j (by omega)]
         exact h10 k hk (fun h=>hd ((hdn k).2 (.inr h))) j j1 j2
end
theorem quiet_spec {C:Cx} (hC:C.Ok) {r:Option Nat} {H:List (List Blk)} {ops:List Oper} {plan:List QOp} {id:Nat} (hnd:noDefer ops=true) (hd:quietB C.give ops.toArray plan=true) {m0:M0} (hW:∀ o ∈ ops,∀ d,o.dst=some d->m0.W d) {m:M} {a:Act} {tm:List PV} {top:List Blk} {K:List PV->List Blk->Prop} {Q:Exit->Act->World->Prop}
 (hQ:∀ m a tm top,K tm top->aV H m0 m a tm top->Q .normal a m.w) (hk:quietK C H ops plan K 0 tm top [] []) (hs:aV H m0 m a tm top):(Code.region id ops.toArray true).wpIn (FW r) 0 C.P Q a m.w:=by
 obtain ⟨T,hD⟩:=quietB_spec hd
 obtain ⟨tc,pv,tp,bl,_,e1,e2,hK,hq⟩:=canonQ hC (plan0:=plan) plan 0 tm top [] [] (fun _=>tm) (fun _=>.any) (fun _=>top) (fun _=>0) (fun j q h=>by rw [Nat.zero_add];exact h) (fun p hp=>by cases hp) (fun p hp=>by cases hp)
  (fun j o q h1 h2=>hD.one j o q (by simpa using h2) h1) (by rw [Nat.zero_add];exact hD.len) hk
 subst e1;subst e2
 rw [Nat.zero_add,hD.len] at hK
 have hq':∀ (i:Nat) o q,plan[i]? = some q->ops[i]? = some o->QStp C H ops plan tc pv tp bl i o q:=fun i o q h1 h2=>by
  have:=hq i o q h1 (by rw [Nat.zero_add];exact h2)
  rwa [Nat.zero_add] at this
 have hs:=hs.draw (m.w.drawn+1)
 obtain ⟨hs,V0,hcalm⟩:=hs
 have hS:=q_stp hD hq'
 have hnone:∀ i,¬ Dn (Array.replicate ops.length false) i:=fun i h=>by
  unfold Dn at h
  rcases aBl i ops.length with h' | h' <;> simp [h'] at h
 obtain ⟨c,hc,hc1,hc2⟩:∃ c,c<=ops.length/\(∀ j,j < c -> ¬ actP plan j)/\(c < ops.length->actP plan c):=by
  rcases act_first (actP plan) ops.length 0 with h | ⟨j,_,j2,j3,j4⟩
  . exact ⟨ops.length,aBo _,fun j hj=>h j (aBn _) (by omega),fun h=>by omega⟩
  . exact ⟨j,by omega,fun k hk=>j4 k (aBn _) hk,fun _=>j3⟩
 have hp0:tp 0 <+: tp c:=by
  have:=q_prefix hD hq' c 0 (by omega) (fun j _ h=>hc1 j (by omega))
  rwa [Nat.zero_add] at this
 have hlen:∀ i,i<=ops.length->(tp 0).length<=(tp i).length:=fun i hi=>by
  have:=q_len hD hq' i 0 (by omega)
  rwa [Nat.zero_add] at this
 have hgen:∀ n,n<=ops.length->GenLe (tp 0) (tp n):=by
  intro n
  induction n with
  | zero=>intro _;exact GenLe.refl _
  | succ n ih=>
    intro hn
    obtain ⟨q,hqk⟩:∃ q,plan[n]? = some q:=⟨_,aAf (by rw [hD.len];omega)⟩
    exact (ih (by omega)).trans (hq' n _ q hqk (aAf (by omega))).gen
 have hinv:=inv_extend hp0 hs.inv hs.free
 have hmn:∀ k,Mine ⟨{ m.w with drawn:=m.w.drawn+1 },m.ρ,m.U⟩ (tp c) k->m.w.heap.size<=k\/Mine ⟨{ m.w with drawn:=m.w.drawn+1 },m.ρ,m.U⟩ (tp 0) k:=by
  rintro k ⟨j,b,u,q1,q2,q3,q4⟩
  rcases aBl j (tp 0).length with hj | hj
  . have:=pre_get hp0 (aAf hj)
    rw [q1] at this;cases this
    exact .inr ⟨j,_,u,aAf hj,q2,q3,q4⟩
  . have:=hs.free j hj
    rw [this] at q3;cases q3
 refine wpIn_mono (Q:=fun e a w=>e = .normal/\Q .normal a w) (wpIn_region_any hC.mix (any_in hnd (fun a w h=>by cases h.1) _ _ _ _ ?_)) (fun e a w ⟨h1,h2⟩=>h1 ▸ h2)
 have hsz:ops.toArray.size=ops.length:=by simp
 rw [hsz]
 refine any_quiet hD hq' hW (fun m a h=>⟨rfl,hQ m a _ _ hK h⟩) _ _ ⟨{ m.w with drawn:=m.w.drawn+1 },m.ρ,m.U⟩ a ⟨by simp,fun j o ho h=>absurd h (hnone j),hs.size,fun t i p v hi hst hp hv=>?_,hs.prot,hs.tsz⟩
  ⟨c,hc,?_,⟨V0,hcalm.step hs.inv hinv (hgen c hc) rfl rfl rfl (aBo _) (fun _ _ _=>rfl) (fun _ _=>Iff.rfl) (fun _ _=>rfl) hmn⟩,hinv,fun j hj=>hs.free j (aBp hp0.length_le hj),fun i hi ha=>⟨fun h=>absurd ha (hc1 i h),fun h=>absurd h (hnone i)⟩,fun i hi=>?_,fun i hi _ j j1 j2=>?_⟩ (by simp)
 . have hlt:t < (tc 0).length:=by
    have h1:=tc_len hS i hi
    have h2:(QS tc pv tp).tc i=tc i:=rfl
    have h3:(QS tc pv tp).tc 0=tc 0:=rfl
    rw [h2,h3] at h1
    rw [<- h1];exact (aAe.1 hp).1
   obtain ⟨q,hq,h1⟩:=tm_mono hS (t:=t) i 0 (by omega) (fun j o h1 h2 ho hdt=>hnone j ((hst j o ho hdt).1 (by omega))) _ (aAf hlt)
   rw [Nat.zero_add,hp] at hq;cases hq
   exact h1 _ _ (hs.rel t _ v (aAf hlt) hv)
 . have:=hs.since
   exact ⟨this.os,this.tape,this.output,this.size,this.heap,this.up,this.U,fun k hk=>(hmn k hk).elim (fun h=>.inl (aBp this.size h)) (this.fresh k)⟩
 . have hil:i < ops.length:=by rw [<- hD.len];exact (aAe.1 hi).1
   rcases aBl i c with h | h
   . exact h
   . exfalso
     rcases aBl c i with h' | h'
     . obtain ⟨l,hl⟩:=hc2 (by omega)
       have hp:=hD.pair c i _ _ _ _ h' (aAf (by omega)) (aAf hil) hl hi
       unfold pairB at hp
       rw [aBs] at hp
       cases hp.1
     . obtain rfl:i=c:=by omega
       obtain ⟨l,hl⟩:=hc2 hil
       rw [show plan[i]? = some .make from hi] at hl
       cases hl
 . have hil:i < ops.length:=by rw [<- hD.len];exact (aAe.1 hi).1
   exact hs.free j (aBp (hlen i (by omega)) j1)
def M.ren (m:M) (s:List Nat) (nt:Nat):M:=⟨m.w,fun l i=>match l with | 0=>(s[i]?).bind fun j=>if j < nt then m.ρ 0 j else some (.slice none 0 0) | l+1=>m.ρ (l+1) i,m.U⟩
theorem jN (s:List Nat):∀ (cs:List PV) (j:Nat),(rens s cs)[j]? = (cs[j]?).map (ren s)
 | [],j=>by simp [rens]
 | c::cs,0=>by simp [rens]
 | c::cs,j+1=>by simp [rens,jN s cs j]
theorem jO (s:List Nat):∀ (cs:List PV),(rens s cs).length=cs.length
 | []=>rfl
 | c::cs=>by simp [rens,jO s cs]
theorem eI {n:Nat}:∀ {cs:List PV} {j:Nat} {q:PV},insN n cs=true->cs[j]? = some q->inN n q=true
 | [],j,q,_,h=>by simp at h
 | c::cs,0,q,h,hq=>by
   simp only [insN,aBs] at h
   simp at hq;subst hq;exact h.1
 | c::cs,j+1,q,h,hq=>by
   simp only [insN,aBs] at h
   exact eI h.2 (by simpa using hq)
theorem rJ {m:M} {s:List Nat} {nt i:Nat} {v:Value} (hf:∀ j,nt<=j->m.ρ 0 j=none) (hi:i < s.length) (h:m.ρ 0 (s.getD i 0)=some v):(m.ren s nt).ρ 0 i=some v:=by
 have e:s.getD i 0=s[i]:=by simp [List.getD,aAf hi]
 rw [e] at h
 have hlt:s[i] < nt:=by
  rcases aBl s[i] nt with h1 | h1
  . exact h1
  . rw [hf _ h1] at h;cases h
 simp only [M.ren,aAf hi,Option.bind_some]
 rw [if_pos hlt];exact h
inductive RenI (s:List Nat):PV->PV->Prop
 | any:RenI s .any .any
 | kb (b:Bool):RenI s (.kb b) (.kb b)
 | ub:RenI s .ub .ub
 | d (x:DV):RenI s (.d x) (.d x)
 | nils:RenI s .nils .nils
 | emp:RenI s .emp .emp
 | row0 (i n:Nat):RenI s (.row 0 i n) (.row 0 (s.getD i 0) n)
 | rowS (l i n:Nat):RenI s (.row (l+1) i n) (.row (l+1) i n)
 | ptr0 (i o:Nat):RenI s (.ptr 0 i o) (.ptr 0 (s.getD i 0) o)
 | ptrS (l i o:Nat):RenI s (.ptr (l+1) i o) (.ptr (l+1) i o)
 | rptr0 (i sz e j:Nat):RenI s (.rptr 0 i sz e j) (.rptr 0 (s.getD i 0) sz e j)
 | rptrS (l i sz e j:Nat):RenI s (.rptr (l+1) i sz e j) (.rptr (l+1) i sz e j)
 | iptr (cs:List DV):RenI s (.iptr cs) (.iptr cs)
 | func (fn:Fn) (fs cs:List PV):RenI s (.func fn fs cs) (.func fn (rens s fs) (rens s cs))
 | agg (cs:List PV):RenI s (.agg cs) (.agg (rens s cs))
 | tuple (cs:List PV):RenI s (.tuple cs) (.tuple (rens s cs))
 | yld (Y:Yield):RenI s (.yld Y) (.yld Y)
 | lits (xs:List (List PV)):RenI s (.lits xs) (.lits xs)
theorem eJ (s:List Nat) (q:PV):RenI s q (ren s q):=by
 cases q with
 | any=>exact .any
 | kb b=>exact .kb b
 | ub=>exact .ub
 | d x=>exact .d x
 | nils=>exact .nils
 | emp=>exact .emp
 | row l i n=>cases l with | zero=>exact .row0 i n | succ l=>exact .rowS l i n
 | ptr l i o=>cases l with | zero=>exact .ptr0 i o | succ l=>exact .ptrS l i o
 | rptr l i sz e j=>cases l with | zero=>exact .rptr0 i sz e j | succ l=>exact .rptrS l i sz e j
 | iptr cs=>exact .iptr cs
 | func fn fs cs=>exact .func fn fs cs
 | agg cs=>exact .agg cs
 | tuple cs=>exact .tuple cs
 | yld Y=>exact .yld Y
 | lits xs=>exact .lits xs
theorem xN {m:M} {s:List Nat} {nt:Nat} {p:PV} {v:Value} (hf:∀ j,nt<=j->m.ρ 0 j=none) (h:RP m p v):∀ q,p=ren s q->inN s.length q=true->RP (m.ren s nt) q v:=by
 induction h with
 | any v=>intro q hq hn;have:=eJ s q;rw [<- hq] at this;cases this;exact .any _
 | kb b=>intro q hq hn;have:=eJ s q;rw [<- hq] at this;cases this;exact .kb _
 | ub b=>intro q hq hn;have:=eJ s q;rw [<- hq] at this;cases this;exact .ub _
 | d x v hx=>intro q hq hn;have:=eJ s q;rw [<- hq] at this;cases this;exact .d _ _ hx
 | nils=>intro q hq hn;have:=eJ s q;rw [<- hq] at this;cases this;exact .nils
 | emp ad=>intro q hq hn;have:=eJ s q;rw [<- hq] at this;cases this;exact .emp _
 | row l i n N c A hρ hn hc=>
   intro q hq hin
   have:=eJ s q
   rw [<- hq] at this
   cases this with
   | row0 i'=>exact .row _ _ _ _ _ _ (rJ hf (by simpa only [inN,Nat.blt_eq] using hin) hρ) hn hc
   | rowS l=>exact .row _ _ _ _ _ _ hρ hn hc
 | ptr l i o g hρ=>
   intro q hq hin
   have:=eJ s q
   rw [<- hq] at this
   cases this with
   | ptr0 i'=>exact .ptr _ _ _ _ (rJ hf (by simpa only [inN,Nat.blt_eq] using hin) hρ)
   | ptrS l=>exact .ptr _ _ _ _ hρ
 | rptr l i sz e j g N c hρ=>
   intro q hq hin
   have:=eJ s q
   rw [<- hq] at this
   cases this with
   | rptr0 i'=>exact .rptr _ _ _ _ _ _ _ _ (rJ hf (by simpa only [inN,Nat.blt_eq] using hin) hρ)
   | rptrS l=>exact .rptr _ _ _ _ _ _ _ _ hρ
 | iptr cs ad u hc hr=>intro q hq hn;have:=eJ s q;rw [<- hq] at this;cases this;exact .iptr _ ad u hc hr
 | func fn fs cs fv cv h1 h2 h3 h4 ih1 ih2=>
   intro q hq hin
   have:=eJ s q
   rw [<- hq] at this
   cases this with
   | func fn fs' cs'=>
     simp only [inN,aBs] at hin
     exact .func _ _ _ _ _ (by rw [<- h1,jO]) (by rw [<- h2,jO]) (fun j p v hp hv=>ih1 j (ren s p) v (by rw [jN,hp];rfl) hv p rfl (eI hin.1 hp)) (fun j p v hp hv=>ih2 j (ren s p) v (by rw [jN,hp];rfl) hv p rfl (eI hin.2 hp))
 | agg cs vs h1 h2 ih=>
   intro q hq hin
   have:=eJ s q
   rw [<- hq] at this
   cases this with
   | agg cs'=>exact .agg _ _ (by rw [<- h1,jO]) (fun j p v hp hv=>ih j (ren s p) v (by rw [jN,hp];rfl) hv p rfl (eI (by simpa only [inN] using hin) hp))
 | tuple cs vs h1 h2 ih=>
   intro q hq hin
   have:=eJ s q
   rw [<- hq] at this
   cases this with
   | tuple cs'=>exact .tuple _ _ (by rw [<- h1,jO]) (fun j p v hp hv=>ih j (ren s p) v (by rw [jN,hp];rfl) hv p rfl (eI (by simpa only [inN] using hin) hp))
 | yld Y v hy=>intro q hq hn;have:=eJ s q;rw [<- hq] at this;cases this;exact .yld _ _ hy
 | lits sz xs ad u h0 hm hs hc hr ih=>intro q hq hn;have:=eJ s q;rw [<- hq] at this;cases this;cases hn
theorem uT {m:M} {s:List Nat} {nt:Nat} {p q:PV} {v:Value} (hf:∀ j,nt<=j->m.ρ 0 j=none) (hr:refO s s.length nt p q) (h:RP m p v):RP (m.ren s nt) q v:=by
 unfold refO at hr
 split at hr
 . exact .any _
 . split at hr
   . cases h;exact .ub _
   . cases h;exact .ub _
   . cases h with | d _ _ hx=>cases hx;exact .ub _
   . exact hr.elim
 . subst hr;cases h;exact .kb _
 . subst hr;cases h;exact .nils
 . split at hr
   . subst hr;cases h with | d _ _ hx=>exact .d _ _ hx
   . subst hr;cases h;exact .d _ _ (.bool _)
   . subst hr;cases h;exact .d _ _ (.sl 0 [] none 0 0 ⟨0,0,none⟩ (fun _=>undef) rfl (aBo _) (by omega) (by omega) (by simp) (by simp) (by simp))
   . subst hr
     cases h with
     | emp ad=>exact .d _ _ (.sl 0 [] (some ad) 0 0 ⟨0,0,none⟩ (fun _=>undef) rfl (aBo _) (by omega) (by omega) (by simp) (by simp) (by simp))
   . exact hr.elim
 . rename_i l i k
   split at hr
   . split at hr
     . simp only [aBs] at hr
       obtain ⟨h1,h2,h3⟩:=hr
       obtain rfl:=aBj h1
       have h2:i < s.length:=by simpa [Nat.blt_eq] using h2
       have h3:nt<=s.getD i 0:=Nat.le_of_ble_eq_true h3
       cases h
       refine .row 0 i 0 0 0 none ?_ (aBo _) (aBo _)
       simp only [M.ren,aAf h2,Option.bind_some]
       rw [if_neg]
       simp only [List.getD,aAf h2,aB0] at h3
       omega
     . exact hr.elim
   . exact xN hf h _ hr.2 hr.1
 . exact xN hf h _ hr.2 hr.1
theorem nX {one:PV->PV->Prop}:∀ {tm tm':List PV},refs one tm tm'->tm.length=tm'.length /\ ∀ (j:Nat) q,tm'[j]? = some q -> ∃ p,tm[j]? = some p/\one p q
 | [],[],_=>⟨rfl,fun j q h=>by simp at h⟩
 | [],_::_,h=>h.elim
 | _::_,[],h=>h.elim
 | p::ps,q::qs,h=>by
   rw [refs_cons] at h
   obtain ⟨h1,h2⟩:=nX h.2
   refine ⟨by simp [h1],fun j r hr=>?_⟩
   cases j with
   | zero=>simp at hr;subst hr;exact ⟨p,rfl,h.1⟩
   | succ j=>exact h2 j r (by simpa using hr)
theorem qC {m:M} {s:List Nat} {nt:Nat} (hf:∀ j,nt<=j->m.ρ 0 j=none):∀ (k:Nat) {p q:PV} {v:Value},refF s s.length nt k p q->RP m p v->RP (m.ren s nt) q v
 | 0,p,q,v,hr,h=>uT hf hr h
 | k+1,p,q,v,hr,h=>by
   change refStep s s.length nt (refF s s.length nt k) p q at hr
   unfold refStep at hr
   split at hr
   . split at hr
     . obtain ⟨hl,hg⟩:=nX hr
       cases h with
       | tuple _ vs h1 h2=>
         refine .tuple _ _ (hl.symm.trans h1) (fun j q v hq hv=>?_)
         obtain ⟨p,hp,hpq⟩:=hg j q hq
         exact qC hf k hpq (h2 j p v hp hv)
     . exact hr.elim
   . split at hr
     . obtain ⟨hl,hg⟩:=nX hr
       cases h with
       | agg _ vs h1 h2=>
         refine .agg _ _ (hl.symm.trans h1) (fun j q v hq hv=>?_)
         obtain ⟨p,hp,hpq⟩:=hg j q hq
         exact qC hf k hpq (h2 j p v hp hv)
     . exact hr.elim
   . exact uT hf hr h
theorem oZ {m:M} {s:List Nat} {nt:Nat} {p q:PV} {v:Value} (hf:∀ j,nt<=j->m.ρ 0 j=none) (hr:refP s s.length nt p q) (h:RP m p v):RP (m.ren s nt) q v:=qC hf 2 hr h
theorem nY {s:List Nat} {n nt:Nat}:∀ {tm tm':List PV},refT s n nt tm tm'->tm.length=tm'.length /\ ∀ (j:Nat) q,tm'[j]? = some q -> ∃ p,tm[j]? = some p/\refP s n nt p q
 | [],[],_=>⟨rfl,fun j q h=>by simp at h⟩
 | [],_::_,h=>h.elim
 | _::_,[],h=>h.elim
 | p::ps,q::qs,h=>by
   obtain ⟨h1,h2⟩:=nY h.2
   refine ⟨by simp [h1],fun j r hr=>?_⟩
   cases j with
   | zero=>simp at hr;subst hr;exact ⟨p,rfl,h.1⟩
   | succ j=>exact h2 j r (by simpa using hr)
theorem qW {s:List Nat} {n:Nat} {top:List Blk}:∀ {js:List Nat} {bs:List Blk} {i0:Nat},refBi s n top i0 js bs->js.length=bs.length /\ ∀ (i:Nat) b,bs[i]? = some b -> ∃ j,js[i]? = some j/\(match b with
 | .dead=>True
 | .gen Y st=>top[j]? = some (.gen Y st)
 | .row e sz xs=>top[j]? = some (.row e sz xs)\/(top.length<=j/\xs = []/\0 < sz)
 | .deep e sz xs=>top[j]? = some (.deep e sz xs)\/top[j]? = some (.row e sz xs)\/(top.length<=j/\xs = []/\0 < sz)
 | .sub p e c=>top[j]? = some (.sub (s.getD p 0) e c)/\p < i0+i/\p < n
 | .box cs=>∃ cs',top[j]? = some (.box cs')/\refT s n top.length cs' cs)
 | [],[],_,_=>⟨rfl,fun i b h=>by simp at h⟩
 | [],_::_,_,h=>h.elim
 | _::_,[],_,h=>h.elim
 | j::js,b::bs,i0,h=>by
   obtain ⟨h1,h2⟩:=qW h.2
   refine ⟨by simp [h1],fun i b' hb=>?_⟩
   cases i with
   | zero=>
     simp at hb
     subst hb
     refine ⟨j,rfl,?_⟩
     have:=h.1
     cases b with
     | dead=>trivial
     | gen Y st=>
       simp only [refOne] at this
       dsimp only
       split at this
       . rename_i h3;obtain ⟨rfl,rfl⟩:=this;exact h3
       . exact this.elim
     | row e sz xs=>
       simp only [refOne] at this
       dsimp only
       split at this
       . rename_i h3;obtain ⟨rfl,rfl,rfl⟩:=this;exact .inl h3
       . rename_i h3;exact .inr ⟨List.getElem?_eq_none_iff.1 h3,this.1,by simpa [Nat.blt_eq] using this.2⟩
       . exact this.elim
     | box cs=>
       simp only [refOne] at this
       dsimp only
       split at this
       . rename_i h3;exact ⟨_,h3,this⟩
       . exact this.elim
     | deep e sz xs=>
       simp only [refOne] at this
       dsimp only
       split at this
       . rename_i h3;obtain ⟨rfl,rfl,rfl⟩:=this;exact .inl h3
       . rename_i h3;obtain ⟨rfl,rfl,rfl⟩:=this;exact .inr (.inl h3)
       . rename_i h3;exact .inr (.inr ⟨List.getElem?_eq_none_iff.1 h3,this.1,by simpa [Nat.blt_eq] using this.2⟩)
       . exact this.elim
     | sub p e c=>
       simp only [refOne] at this
       dsimp only
       split at this
       . rename_i h3
         obtain ⟨h4,rfl,rfl⟩:=this
         simp only [aBs] at h4
         obtain ⟨h5,h6,h7⟩:=h4
         rw [<- aBj h7]
         exact ⟨h3,by simpa [Nat.blt_eq] using h5,by simpa [Nat.blt_eq] using h6⟩
       . exact this.elim
   | succ i=>
     obtain ⟨j',q1,q2⟩:=h2 i b' (by simpa using hb)
     refine ⟨j',by simpa using q1,?_⟩
     cases b' with
     | sub p e c=>obtain ⟨r1,r2,r3⟩:=q2;exact ⟨r1,by omega,r3⟩
     | _=>exact q2
theorem iE {s:List Nat} {n:Nat} {top:List Blk} {js:List Nat} {bs:List Blk} (h:refB s n top js bs):js.length=bs.length /\ ∀ (i:Nat) b,bs[i]? = some b -> ∃ j,js[i]? = some j/\(match b with
 | .dead=>True
 | .gen Y st=>top[j]? = some (.gen Y st)
 | .row e sz xs=>top[j]? = some (.row e sz xs)\/(top.length<=j/\xs = []/\0 < sz)
 | .deep e sz xs=>top[j]? = some (.deep e sz xs)\/top[j]? = some (.row e sz xs)\/(top.length<=j/\xs = []/\0 < sz)
 | .sub p e c=>top[j]? = some (.sub (s.getD p 0) e c)/\p < i/\p < n
 | .box cs=>∃ cs',top[j]? = some (.box cs')/\refT s n top.length cs' cs):=by
 have:=qW h
 simpa only [Nat.zero_add] using this
theorem mI {s:List Nat} (h:nodupB s=true):∀ (i j:Nat) x,s[i]? = some x->s[j]? = some x->i=j:=by
 induction s with
 | nil=>intro i j x hi;simp at hi
 | cons y s ih=>
   simp only [nodupB,aBs,Bool.not_eq_true'] at h
   have hno:y ∉ s:=fun hy=>by
    have:=h.1
    rw [List.any_eq_false] at this
    exact this y hy (by simp)
   intro i j x hi hj
   cases i with
   | zero=>
     simp at hi;subst hi
     cases j with
     | zero=>rfl
     | succ j=>exact absurd (aAg (by simpa using hj)) hno
   | succ i=>
     cases j with
     | zero=>simp at hj;subst hj;exact absurd (aAg (by simpa using hi)) hno
     | succ j=>rw [ih h.2 i j x (by simpa using hi) (by simpa using hj)]
theorem sC {w:World} {b:Blk} {k:Nat} (h:b.has w (.slice none 0 0) k):False:=by
 cases b with
 | deep e sz xs=>
   cases (show Ins w (.own e sz xs) (.slice none 0 0) k from h) with
   | head _ _ _ _ _ h=>cases h
   | cell _ _ _ _ _ flat i x j y u ho hx=>
     rcases ho.2 with ⟨_,h⟩ | ⟨g,cap,cur,h,_⟩
     . have:=(aAe.1 hx).1;omega
     . cases h
 | _=>cases h
theorem qD {m:M} {s:List Nat} {top top':List Blk} {H:List (List Blk)} (hi:Inv m top H) (hf:∀ j,top.length<=j->m.ρ 0 j=none) (hs:nodupB s=true) (hb:refB s s.length top s top'):Inv (m.ren s top.length) top' H:=by
 obtain ⟨hlen,hget⟩:=iE hb
 have get0:∀ i j v,s[i]? = some j->(m.ren s top.length).ρ 0 i=some v->(m.ρ 0 j=some v/\j < top.length)\/(top.length<=j/\v = .slice none 0 0):=by
  intro i j v hj hv
  simp only [M.ren,hj,Option.bind_some] at hv
  split at hv
  . exact .inl ⟨hv,by assumption⟩
  . cases hv;exact .inr ⟨by omega,rfl⟩
 have old:∀ l i b v k,getB top' H l i=some b->b.live=true->(m.ren s top.length).ρ l i=some v->b.has m.w v k -> ∃ j b',getB top H l j=some b'/\b'.live=true/\m.ρ l j=some v/\(l=0->s[i]? = some j)/\(l≠0->i=j)/\b'.has m.w v k:=by
  intro l i b v k h1 h2 h3 hk
  cases l with
  | succ l=>exact ⟨i,b,h1,h2,h3,(fun h=>by cases h),fun _=>rfl,hk⟩
  | zero=>
    obtain ⟨j,hj,hm⟩:=hget i b h1
    rcases get0 i j v hj h3 with ⟨h3,hlt⟩ | ⟨_,rfl⟩
    . cases b with
      | dead=>cases h2
      | gen Y st=>cases h2
      | row e sz xs=>
        rcases hm with hm | ⟨hm,_⟩
        . exact ⟨j,_,hm,rfl,h3,fun _=>hj,fun h=>absurd rfl h,hk⟩
        . omega
      | box cs=>obtain ⟨cs',h4,_⟩:=hm;exact ⟨j,_,h4,rfl,h3,fun _=>hj,fun h=>absurd rfl h,hk⟩
      | deep e sz xs=>
        rcases hm with hm | hm | ⟨hm,_⟩
        . exact ⟨j,_,hm,rfl,h3,fun _=>hj,fun h=>absurd rfl h,hk⟩
        . obtain ⟨q0,q1,flat,q2,q3⟩:=hi.blk 0 j _ hm v h3
          exact ⟨j,_,hm,rfl,h3,fun _=>hj,fun h=>absurd rfl h,(row_deep (ok:=m.ok) q0 q1 q2 q3).2 k hk⟩
        . omega
      | sub _ _ _=>cases h2
    . exact (sC hk).elim
 refine ⟨fun l i b h1=>?_,fun l i b l' i' b' v v' k h1 h2 h3 h4 h5 h6 h7 h8=>?_,fun l i b v k h1 h2 h3 h4=>?_,hi.lt,fun i p e c v h1 h2=>?_⟩
 . cases l with
   | succ l=>
     have:=hi.blk (l+1) i b h1
     cases b with
     | dead=>trivial
     | gen Y st=>trivial
     | row e sz xs=>exact this
     | box cs=>exact this
     | deep e sz xs=>exact this
     | sub _ _ _=>trivial
   | zero=>
     obtain ⟨j,hj,hm⟩:=hget i b h1
     cases b with
     | dead=>trivial
     | gen Y st=>trivial
     | row e sz xs=>
       intro v hv
       rcases hm with hm | ⟨hm,rfl,hsz⟩
       . rcases get0 i j v hj hv with ⟨hv,_⟩ | ⟨hge,_⟩
         . exact hi.blk 0 j _ hm v hv
         . have:=(aAe.1 hm).1;omega
       . rcases get0 i j v hj hv with ⟨_,hlt⟩ | ⟨_,rfl⟩
         . omega
         . exact ⟨hsz,(fun x hx=>by cases hx),[],⟨by simp,.inl ⟨rfl,rfl⟩⟩,(fun i x j y u hx=>by simp at hx)⟩
     | box cs=>
       obtain ⟨cs',h4,h5⟩:=hm
       intro v hv
       rcases get0 i j v hj hv with ⟨hv,_⟩ | ⟨hge,_⟩
       . obtain ⟨g,vs,e,h6,h7,h8,h9⟩:=hi.blk 0 j _ h4 v hv
         obtain ⟨hl,hg⟩:=nY h5
         refine ⟨g,vs,e,h6,h7,by rw [h8,hl],fun k q u hq hu=>?_⟩
         obtain ⟨p,hp,hr⟩:=hg k q hq
         exact oZ hf hr (h9 k p u hp hu)
       . have:=(aAe.1 h4).1;omega
     | deep e sz xs=>
       intro v hv
       rcases get0 i j v hj hv with ⟨hv,hlt⟩ | ⟨hge,hv0⟩
       . rcases hm with hm | hm | ⟨hm,_⟩
         . exact hi.blk 0 j _ hm v hv
         . obtain ⟨q0,q1,flat,q2,q3⟩:=hi.blk 0 j _ hm v hv
           exact (row_deep (ok:=m.ok) q0 q1 q2 q3).1
         . omega
       . rcases hm with hm | hm | ⟨hm,rfl,hsz⟩
         . have:=(aAe.1 hm).1;omega
         . have:=(aAe.1 hm).1;omega
         . subst hv0
           exact .own e sz [] _ [] hsz (fun x hx=>by cases hx) ⟨by simp,.inl ⟨rfl,rfl⟩⟩ (fun i x j y u hx=>by simp at hx) (fun i x j y u k hx=>by simp at hx) (fun i x j y u i' x' j' y' u' k hx=>by simp at hx)
     | sub _ _ _=>trivial
 . obtain ⟨j,c,a1,a2,a3,a4,a5,a6⟩:=old l i b v k h1 h2 h5 h7
   obtain ⟨j',c',b1,b2,b3,b4,b5,b6⟩:=old l' i' b' v' k h3 h4 h6 h8
   obtain ⟨rfl,rfl⟩:=hi.inj l j c l' j' c' v v' k a1 a2 b1 b2 a3 b3 a6 b6
   refine ⟨rfl,?_⟩
   by_cases hl:l=0
   . exact mI hs i i' j (a4 hl) (b4 hl)
   . rw [a5 hl,b5 hl]
 . obtain ⟨j,c,a1,a2,a3,_,_,a4⟩:=old l i b v k h1 h2 h3 h4
   exact hi.own l j c v k a1 a2 a3 a4
 . obtain ⟨j,hj,hm,hpi,hpn⟩:=hget i _ h1
   have hm1:j < top.length:=(aAe.1 hm).1
   rcases get0 i j v hj h2 with ⟨h2,_⟩ | ⟨hge,_⟩
   . obtain ⟨hlt,V,hV,hh⟩:=hi.sub j (s.getD p 0) e c v hm h2
     have hsp:s[p]? = some (s.getD p 0):=by rw [aA2,aAf hpn];rfl
     refine ⟨hpi,V,rJ hf hpn hV,fun et sz xs x e2 sz2 ys flat b1 b2 b3 b4=>?_⟩
     obtain ⟨j',hj',hm'⟩:=hget p _ b1
     rw [hsp] at hj';cases hj'
     rcases hm' with hm' | hm' | ⟨hm',_⟩
     rotate_right
     . rw [hf _ hm'] at hV;cases hV
     . exact hh et sz xs x e2 sz2 ys flat hm' b2 b3 b4
     . obtain ⟨q0,q1,flat',q2,q3⟩:=hi.blk 0 _ _ hm' V hV
       obtain ⟨u,hu⟩:=flat_at q1 q2 b2 b3
       have:=q3 e x c _ u b2 b3 hu
       cases this
   . omega
theorem nZ {m:M} {s:List Nat} {top top':List Blk} {H:List (List Blk)} (hi:Inv m top H) (h3:refB s s.length top s top') {k:Nat} (h:Mine (m.ren s top.length) top' k):Mine m top k:=by
 obtain ⟨i,b,v,q1,q2,q3,q4⟩:=h
 obtain ⟨hlen,hget⟩:=iE h3
 obtain ⟨j,hj,hm⟩:=hget i b q1
 simp only [M.ren,hj,Option.bind_some] at q3
 split at q3
 . cases b with
   | dead=>cases q2
   | gen Y st=>cases q2
   | row e sz xs=>
     rcases hm with hm | ⟨hm,_⟩
     . exact ⟨j,_,v,hm,rfl,q3,q4⟩
     . omega
   | box cs=>obtain ⟨cs',h4,_⟩:=hm;exact ⟨j,_,v,h4,rfl,q3,q4⟩
   | deep e sz xs=>
     rcases hm with hm | hm | ⟨hm,_⟩
     . exact ⟨j,_,v,hm,rfl,q3,q4⟩
     . obtain ⟨p0,p1,flat,p2,p3⟩:=hi.blk 0 j _ hm v q3
       exact ⟨j,_,v,hm,rfl,q3,(row_deep (ok:=m.ok) p0 p1 p2 p3).2 k q4⟩
     . omega
   | sub _ _ _=>cases q2
 . cases q3;exact (sC q4).elim
theorem mJ {m0:M0} {m:M} {s:List Nat} {top top':List Blk} {H:List (List Blk)} (hi:Inv m top H) (h3:refB s s.length top s top') (t:Since m0 m top):Since m0 (m.ren s top.length) top':=
 ⟨t.os,t.tape,t.output,t.size,t.heap,fun l i=>t.up l i,t.U,fun k hk=>t.fresh k (nZ hi h3 hk)⟩
theorem sD {m:M} {s:List Nat} {nt n:Nat} (h:s.length=n):∀ j,n<=j->(m.ren s nt).ρ 0 j=none:=fun j hj=>by
 simp [M.ren,List.getElem?_eq_none (show s.length<=j by omega)]
theorem St.ref {H:List (List Blk)} {m0:M0} {m:M} {a:Act} {tm tm':List PV} {top top':List Blk} (h:St H m0 m a tm top) {s:List Nat} (hr:Ref s tm top tm' top'):St H m0 (m.ren s top.length) a tm' top':=by
 obtain ⟨h1,h2,h3⟩:=hr
 obtain ⟨hl,hg⟩:=nY h2
 obtain ⟨hlen,_⟩:=iE h3
 refine ⟨qD h.inv h.free h1 h3,by rw [h.size,hl],fun j q v hq hv=>?_,h.defers,sD hlen,mJ h.inv h3 h.since,h.tsz,h.prot⟩
 obtain ⟨p,hp,hr⟩:=hg j q hq
 exact oZ h.free hr (h.rel j p v hp hv)
theorem aV.ref {H:List (List Blk)} {m0:M0} {m:M} {a:Act} {tm tm':List PV} {top top':List Blk} (h:aV H m0 m a tm top) {s:List Nat} (hr:Ref s tm top tm' top'):aV H m0 (m.ren s top.length) a tm' top':=by
 obtain ⟨hs,V,hc⟩:=h
 have hs':=hs.ref hr
 obtain ⟨h1,h2,h3⟩:=hr
 obtain ⟨hlen,hget⟩:=iE h3
 have mineLe:∀ k,Mine (m.ren s top.length) top' k->Mine m top k:=fun k=>nZ hs.inv h3
 have genLe:∀ (i:Nat) Y st,top'[i]? = some (.gen Y st) -> ∃ j,s[i]? = some j/\top[j]? = some (.gen Y st):=fun i Y st hi=>hget i _ hi
 have quiet:∀ k o,Quiet m top V k o->Quiet (m.ren s top.length) top' V k o:=fun k o q=>⟨q.heap,fun hm=>q.mine (mineLe k hm),q.out,q.used⟩
 refine ⟨hs',V,fun i j Y st Y' st' q1 q2=>?_,hc.used,hc.more,hc.old,fun k hk hm=>hc.mine k hk (mineLe k hm),fun i Y st hi=>?_,fun k o hz=>quiet k o (hc.z k o hz),hc.nd,hc.late,fun d hd=>?_,fun l i b v k h1 h2 h3 h4=>hc.far l i b v k h1 h2 h3 h4⟩
 . obtain ⟨x,e1,e2⟩:=genLe i Y st q1
   obtain ⟨y,e3,e4⟩:=genLe j Y' st' q2
   obtain rfl:=hc.one x y _ _ _ _ e2 e4
   exact mI h1 i j x e1 e3
 . obtain ⟨j,_,e⟩:=genLe i Y st hi
   exact hc.gen j Y st e
 . obtain ⟨D,e1,e2⟩:=hc.d d hd
   exact ⟨D,e1,quiet _ _ e2⟩
def okE:Exit->Bool
 | .panic _=>false
 | .outgrown=>false
 | _=>true
def oA (H:List (List Blk)) (m0:M0) (K:Exit->List PV->List Blk->Prop):Exit->Act->World->Prop:=fun e a w=>okE e=true /\ ∃ tm top m,m.w=w/\K e tm top/\aV H m0 m a tm top
theorem uU {H:List (List Blk)} {m0:M0} {m:M} {a:Act} {tm:List PV} {top:List Blk} (hs:St H m0 m a tm top) {c:Operand} {p:PV} (hp:ev? tm c=some p):RP m p (a.eval c):=
 aO (hs.evR [c]) (aAy.2 rfl) hp
def inB (dn:List Nat) (i:Nat):Bool:=dn.any (Nat.beq i)
def iT (ops:List Oper) (dn:List Nat) (i:Nat):Bool:=
 !inB dn i&&(match ops[i]? with | some o=>o.after.toList.all (fun e=>!Region.binds .any e||inB dn e.on) | none=>false)
theorem wE {op:Op} (h:sureOp op=true) {C:Cx} {tm:List PV} {top:List Blk} {K:List PV->List Blk->Prop} (hk:frzK C op tm top K):K tm top:=by
 unfold frzK at hk
 cases hc:C.fcl with
 | false=>rw [hc] at hk;exact hk
 | true=>rw [hc] at hk;cases op <;> first | exact hk | cases h
def freeB (ops:List Oper) (dn:List Nat) (i:Nat):Bool:=
 match ops[i]? with
 | none=>false
 | some oi=>sureOp oi.op&&(List.range ops.length).all fun j=>Nat.beq j i||inB dn j||(match ops[j]? with
   | some oj=>oj.after.toList.any (fun e=>Region.binds .any e&&Nat.beq e.on i)||oi.apart ops.toArray oj
   | none=>true)
def sE:Tr->Nat->Bool
 | .alt i _ rest,j=>Nat.beq i j||sE rest j
 | _,_=>false
def wF:Tr->Bool
 | .none=>true
 | _=>false
def trB (ops:List Oper):Tr->Bool->List Nat->Bool
 | .fin,_,dn=>(List.range ops.length).all fun i=>inB dn i
 | .none,head,_=>!head
 | .cut _,_,_=>false
 | .quiet _,_,_=>false
 | .take _ _,_,_=>false
 | .alt i sub rest,head,dn=>iT ops dn i&&(trB ops sub true (i::dn)&&(trB ops rest false dn&&(!head||((freeB ops dn i&&wF rest)||(List.range ops.length).all fun j=>!iT ops dn j||sE (.alt i sub rest) j))))
def Tr.uncut:Tr->Tr
 | .cut t=>t
 | t=>t
def backB (ops:List Oper):Bool:=ops.all fun o=>o.after.toList.all fun e=>!Region.binds .any e||Nat.blt e.on ops.length
def pA (gv:List Nat) (ops:List Oper):Tr->Bool
 | .quiet plan=>quietB gv ops.toArray plan
 | t=>backB ops&&(Region.noSelect ops.toArray&&trB ops t.uncut true [])
def oB (gv:List Nat) (ops:List Oper):Tr->Bool
 | .take _ t=>oB gv ops t
 | t=>pA gv ops t
noncomputable def sF (mo:List (Nat × Tr)) (id:Nat):Option Tr:=List.rec (motive:=fun _=>Option Tr) none (fun p _ ih=>match Nat.beq p.1 id with | true=>some p.2 | false=>ih) mo
theorem zD {mo:List (Nat × Tr)} {id:Nat} {f:Tr->Prop} {d:Prop} (h:moK mo id f d):(∃ t,sF mo id=some t/\f t)\/(sF mo id=none/\d):=by
 induction mo with
 | nil=>exact .inr ⟨rfl,h⟩
 | cons p mo ih=>
   change (match Nat.beq p.1 id with | true=>f p.2 | false=>moK mo id f d) at h
   change (∃ t,(match Nat.beq p.1 id with | true=>some p.2 | false=>sF mo id)=some t/\f t)\/((match Nat.beq p.1 id with | true=>some p.2 | false=>sF mo id)=none/\d)
   cases hb:Nat.beq p.1 id with
   | true=>rw [hb] at h;exact .inl ⟨_,rfl,h⟩
   | false=>rw [hb] at h;exact ih h
def Tr.sz:Tr->Nat
 | .alt _ sub rest=>sub.sz+rest.sz+1
 | _=>0
theorem uV {C:Cx} {H:List (List Blk)} {ops:List Oper} {i:Nat} {sub rest:Tr} {K:List PV->List Blk->Prop} {ds:List Nat} {tm:List PV} {top:List Blk} (h:trK C H ops (.alt i sub rest) K ds tm top) :
 opAtK C H ops i ds (trK C H ops sub K) tm top/\(wF rest=false->trK C H ops rest K ds tm top):=by
 cases rest with
 | none=>exact ⟨h,fun h=>by cases h⟩
 | fin=>exact ⟨h.1,fun _=>h.2⟩
 | alt j s r=>exact ⟨h.1,fun _=>h.2⟩
 | cut s=>exact ⟨h.1,fun _=>h.2⟩
 | quiet p=>exact ⟨h.1,fun _=>h.2⟩
 | take j s=>exact ⟨h.1,fun _=>h.2⟩
theorem xO {C:Cx} {H:List (List Blk)} {ops:List Oper} {K:List PV->List Blk->Prop} {ds:List Nat} {tm:List PV} {top:List Blk} {j:Nat} {dn:List Nat}:∀ (t:Tr) (head:Bool),trB ops t head dn=true->sE t j=true->trK C H ops t K ds tm top ->
 ∃ sub,trB ops sub true (j::dn)=true/\opAtK C H ops j ds (trK C H ops sub K) tm top/\sub.sz < t.sz
 | .fin,_,_,h,_=>by cases h
 | .none,_,_,h,_=>by cases h
 | .cut _,_,h,_,_=>by cases h
 | .quiet _,_,h,_,_=>by cases h
 | .take _ _,_,h,_,_=>by cases h
 | .alt i sub rest,head,hb,hk,h=>by
   simp only [trB,aBs] at hb
   obtain ⟨h1,h2⟩:=uV h
   simp only [sE,aB1] at hk
   rcases hk with hk | hk
   . obtain rfl:=aBj hk
     exact ⟨sub,hb.2.1,h1,by simp only [Tr.sz];omega⟩
   . have hr:wF rest=false:=by cases rest <;> first | rfl | cases hk
     obtain ⟨s,a1,a2,a3⟩:=xO rest false hb.2.2.1 hk (h2 hr)
     exact ⟨s,a1,a2,by simp only [Tr.sz];omega⟩
theorem kO {dn:List Nat} {i:Nat}:inB dn i=true↔i ∈ dn:=by
 unfold inB
 rw [List.any_eq_true]
 constructor
 . rintro ⟨x,hx,hb⟩;rw [aBj hb];exact hx
 . intro h;exact ⟨i,h,by simp⟩
theorem xP {ops:List Oper} {dn:List Nat} {L:Array Bool} (hL:L.size=ops.length) (hd:∀ i,i < ops.length->(Dn L i↔i ∈ dn)) (hdn:∀ i ∈ dn,i < ops.length) (hb:∀ (j:Nat) o,ops[j]? = some o -> ∀ e ∈ o.after,Region.binds .any e=true->e.on < ops.length) (i:Nat) :
 i ∈ Region.ready .any ops.toArray L↔iT ops dn i=true:=by
 rw [mem_ready]
 unfold iT
 cases ho:ops[i]? with
 | none=>simp [ho]
 | some o=>
   have hi:i < ops.length:=(aAe.1 ho).1
   have h1:L.getD i true=false ↔ ¬ i ∈ dn:=by
    rw [<- hd i hi]
    have:i < L.size:=by omega
    unfold Dn
    simp [this]
   simp only [aBx,ho,aBs,Bool.not_eq_true',aBd,aB1,h1,Option.some.injEq,exists_eq_left']
   have h2:inB dn i=false ↔ ¬ i ∈ dn:=by rw [<- kO];simp
   rw [h2]
   refine and_congr_right fun _=>⟨fun h e he=>?_,fun h e he hbe=>?_⟩
   . cases hbe:Region.binds .any e with
     | false=>exact .inl rfl
     | true=>exact .inr (kO.2 ((hd e.on (hb i o ho e (by simpa using he) hbe)).1 (h e (by simpa using he) hbe)))
   . rcases h e (by simpa using he) with h | h
     . rw [hbe] at h;cases h
     . exact (hd e.on (hb i o ho e he hbe)).2 (kO.1 h)
theorem opAt_wp {C:Cx} (hC:C.Ok) {r:Option Nat} {H:List (List Blk)} {ops:List Oper} {i:Nat} {ds:List Nat} {K:List Nat->List PV->List Blk->Prop} {tm:List PV} {top:List Blk} (h:opAtK C H ops i ds K tm top) {m0:M0} (hW:∀ o ∈ ops,∀ d,o.dst=some d->m0.W d) (hF:C.fcl=true -> ∀ k,¬ Mine m0.toM m0.g k) {m:M} {a:Act} (hs:aV H m0 m a tm top) (hL:gU m0 m a ds)
 {Q:Exit->Act->World->Prop} {next:Act->World->Prop} (hn:∀ m' a' ds' tm' top',K ds' tm' top'->aV H m0 m' a' tm' top'->gU m0 m' a' ds'->next a' m'.w):wpOpIn (FW r) 0 C.P ops.toArray Q i next a m.w:=by
 obtain ⟨o,ho,h⟩:=getK_spec.1 h
 have hd:=hW o (aAg ho)
 obtain ⟨tm1,h,hs1,_⟩:=hs.want h
 unfold wpOpIn
 simp only [aBx,ho]
 split
 . rename_i hw
   rw [hw] at h
   obtain ⟨m1,tm2,top2,h,ew,hU,_,hs2⟩:=qU hF hs1 h
   have hL2:gU m0 m1 a ds:=fun d hd=>by
    obtain ⟨k,n,c,h1,h2,h3,h4⟩:=hL d hd
    exact ⟨k,n,c,h1,h2,by rw [ew];exact h3,fun h=>h4 (hU k h)⟩
   rw [<- ew]
   refine uS hC h hs2 hL2 fun pv top' v m' hk hR hs3 hL'=>?_
   obtain ⟨tm',hk',hs'⟩:=hs3.put hd hR hk
   exact hn m' _ _ tm' top' hk' hs' (hL' (fun d hdst=>xI hk hdst hs3.1.size))
 . rename_i hw
   have hw:Region.wanted o (Go.yielded ops.toArray a.tmps)=false:=by simpa using hw
   rw [hw] at h
   obtain ⟨tm',hk',hs'⟩:=hs1.put (v:=undef) hd (.tuple [] #[] rfl (fun j p v h=>by simp at h)) h
   exact ⟨fun _ _=>trivial,hn m _ _ tm' top hk' hs' (hL.next (aBo _) (fun _ _=>Iff.rfl) _ _)⟩
theorem xQ {op:Op} (h:sureOp op=true) {C:Cx} {H:List (List Blk)} {tm:List PV} {top:List Blk} {K:PV->List Blk->Prop} (hk:actY C H op tm top K):actK C H op tm top K:=by
 cases op <;> first | exact hk | cases h
theorem xR {op:Op} (h:sureOp op=true) {C:Cx} {H:List (List Blk)} {ds:List Nat} {tm:List PV} {top:List Blk} {K:PV->List Blk->Prop} (hk:actL C H op ds tm top K):actY C H op tm top K:=by
 cases op <;> first | exact hk | cases h
theorem xS {C:Cx} (hC:C.Ok) {H:List (List Blk)} {ops:List Oper} {i:Nat} {ds:List Nat} {o:Oper} (ho:ops[i]? = some o) (hp:sureOp o.op=true) {K:List Nat->List PV->List Blk->Prop} {tm:List PV} {top:List Blk} (h:opAtK C H ops i ds K tm top) {m0:M0} (hW:∀ o ∈ ops,∀ d,o.dst=some d->m0.W d) {m:M} {a:Act} (hs:aV H m0 m a tm top) (hL:gU m0 m a ds) :
 ∃ v ds' tm',YieldsFenced C.P ops.toArray o v a/\K ds' tm' top/\aV H m0 m (a.put o.dst v) tm' top/\gU m0 m (a.put o.dst v) ds':=by
 obtain ⟨o',ho',h⟩:=getK_spec.1 h
 rw [ho] at ho';cases ho'
 have hd:=hW o (aAg ho)
 have hab:∀ w,o.about C.P w a.eval=none:=fun w=>by
  cases hop:o.op <;> rw [hop] at hp <;> first | (simp [Oper.about,hop];done) | cases hp
 have hlit:litsN C.give o ds=rmN o.dst ds:=by
  unfold litsN litD
  cases hop:o.op <;> rw [hop] at hp <;> first | rfl | cases hp
 obtain ⟨tm1,h,hs1,_⟩:=hs.want h
 cases hw:Region.wanted o (Go.yielded ops.toArray a.tmps) with
 | true=>
   rw [hw] at h
   have h:actK C H o.op tm1 top _:=xQ hp (xR hp (wE hp h))
   obtain ⟨pv,hk,hps⟩:=sure_step hC h hp
   obtain ⟨v,hrun,hv⟩:=hps m a (hs1.1.evR _)
   obtain ⟨tm',hk',hs'⟩:=hs1.put hd hv hk
   rw [hlit] at hk'
   exact ⟨v,_,tm',⟨.inl ⟨hw,hrun⟩,hab⟩,hk',hs',hL.next (aBo _) (fun _ _=>Iff.rfl) _ _⟩
 | false=>
   rw [hw] at h
   obtain ⟨tm',hk',hs'⟩:=hs1.put (v:=undef) hd (.tuple [] #[] rfl (fun j p v h=>by simp at h)) h
   exact ⟨undef,_,tm',⟨.inr ⟨hw,rfl⟩,hab⟩,hk',hs',hL.next (aBo _) (fun _ _=>Iff.rfl) _ _⟩
theorem count_set {L:Array Bool} {i fuel:Nat} (hi:i < L.size) (hn:¬ Dn L i) (hc:L.toList.count false=fuel+1):(L.setIfInBounds i true).toList.count false=fuel:=by
 rw [Array.toList_setIfInBounds,List.count_set (by simpa using hi)]
 have hf:L.toList[i]'(by simpa using hi)=false:=by
  unfold Dn at hn
  simpa [hi] using hn
 rw [hf,hc];simp
theorem tr_any {C:Cx} (hC:C.Ok) {r:Option Nat} (hr:r=none) {H:List (List Blk)} {ops:List Oper} (hsel:Region.noSelect ops.toArray=true) {m0:M0} (hW:∀ o ∈ ops,∀ d,o.dst=some d->m0.W d) (hF:C.fcl=true -> ∀ k,¬ Mine m0.toM m0.g k) {K:List PV->List Blk->Prop} {R:Act->World->Prop} (hR:∀ m a tm top,K tm top->aV H m0 m a tm top->R a m.w)
 (hb:∀ (j:Nat) o,ops[j]? = some o -> ∀ e ∈ o.after,Region.binds .any e=true->e.on < ops.length) :
 ∀ (n:Nat) (t:Tr) (dn:List Nat) (ds:List Nat) (L:Array Bool) (fuel:Nat) (m:M) (a:Act) (tm:List PV) (top:List Blk),t.sz < n->trB ops t true dn=true->L.size=ops.length->(∀ i,i < ops.length->(Dn L i↔i ∈ dn))->(∀ i ∈ dn,i < ops.length)->trK C H ops t K ds tm top->aV H m0 m a tm top->gU m0 m a ds->L.toList.count false=fuel ->
   wpAnyIn (FW r) 0 C.P .any ops.toArray (fun e a w=>e = .normal/\R a w) fuel L a m.w:=by
 intro n
 induction n with
 | zero=>intro t dn ds L fuel m a tm top h;omega
 | succ n ih=>
   intro t dn ds L fuel m a tm top hsz ht hL hd hdn hk hs hLits hc
   have hready:=xP hL hd hdn hb
   cases t with
   | none=>cases ht
   | cut s=>cases ht
   | quiet s=>cases ht
   | take _ s=>cases ht
   | fin=>
     simp only [trB,aBd,aBe] at ht
     refine wpAnyIn_done ?_ ⟨rfl,hR m a tm top hk hs⟩ fuel
     refine List.eq_nil_iff_forall_not_mem.2 fun i hi=>?_
     have h1:=(hready i).1 hi
     unfold iT at h1
     simp only [aBs,Bool.not_eq_true'] at h1
     have hil:i < ops.length:=by
      cases ho:ops[i]? with
      | none=>rw [ho] at h1;cases h1.2
      | some o=>exact (aAe.1 ho).1
     rw [ht i hil] at h1
     cases h1.1
   | alt i sub rest=>
     have ht':=ht
     simp only [trB,aBs] at ht
     obtain ⟨hri,hsub,hrest,hhead⟩:=ht
     have hil:i < ops.length:=by
      unfold iT at hri
      cases ho:ops[i]? with
      | none=>rw [ho] at hri;simp at hri
      | some o=>exact (aAe.1 ho).1
     have nd:∀ j,iT ops dn j=true -> ¬ Dn L j/\j < ops.length:=fun j hj=>by
      unfold iT at hj
      simp only [aBs,Bool.not_eq_true'] at hj
      have hjl:j < ops.length:=by
       cases ho:ops[j]? with
       | none=>rw [ho] at hj;cases hj.2
       | some o=>exact (aAe.1 ho).1
      refine ⟨fun h=>?_,hjl⟩
      rw [kO.2 ((hd j hjl).1 h)] at hj
      cases hj.1
     have upd:∀ j,j < ops.length->(L.setIfInBounds j true).size=ops.length/\(∀ k,k < ops.length->(Dn (L.setIfInBounds j true) k↔k ∈ j::dn)) /\ ∀ k ∈ j::dn,k < ops.length:=fun j hj=>by
      refine ⟨by simp [hL],fun k hk=>?_,fun k hk=>?_⟩
      . rw [dn_set (by omega),hd k hk,List.mem_cons]
      . cases hk with
        | head=>exact hj
        | tail _ hk=>exact hdn k hk
     obtain ⟨fuel',rfl⟩:∃ f,fuel=f+1:=by
      cases fuel with
      | succ f=>exact ⟨f,rfl⟩
      | zero=>
        exfalso
        rw [List.count_eq_zero] at hc
        have hi:i < L.size:=by omega
        have:=(nd i hri).1
        unfold Dn at this
        cases hv:L[i] with
        | true=>exact this (by simp [hi,hv])
        | false=>exact hc (aAg (i:=i) (by simp [hi,hv]))
     simp only [Bool.not_true,Bool.false_or,aB1] at hhead
     rcases hhead with hhead | hhead
     . simp only [aBs] at hhead
       obtain ⟨hfree,hno⟩:=hhead
       obtain ⟨hk1,_⟩:=uV hk
       obtain ⟨o,ho⟩:∃ o,ops[i]? = some o:=⟨_,aAf hil⟩
       unfold freeB at hfree
       rw [ho] at hfree
       simp only [aBs,aBd,aBe] at hfree
       obtain ⟨hp,hfree⟩:=hfree
       obtain ⟨v,ds',tm',hy,hk',hs',hL'⟩:=xS hC ho hp hk1 hW hs hLits
       obtain ⟨u1,u2,u3⟩:=upd i hil
       refine wpAnyIn_first (by subst hr;rfl) (by simpa using ho) (Region.noSelect_spec hsel) (fun c a w h=>by cases h.1) fuel' L a m.w (fun j oj hj hne hun hnot=>?_) ((hready i).2 hri) hy (ih sub (i::dn) ds' _ fuel' m _ tm' top (by simp only [Tr.sz] at hsz;omega) hsub u1 u2 u3 hk' hs' hL' (count_set (by omega) (nd i hri).1 hc))
       have hj':ops[j]? = some oj:=by simpa using hj
       have hjl:=(aAe.1 hj').1
       have:=hfree j hjl
       rw [hj'] at this
       simp only [aB1] at this
       rcases this with (h | h) | h | h
       . exact absurd (aBj h) hne
       . exfalso
         have h1:=(hd j hjl).2 (kO.1 h)
         have:j < L.size:=by omega
         unfold Dn at h1
         simp [this] at h1 hun
         rw [h1] at hun;cases hun
       . exfalso
         rw [List.any_eq_true] at h
         obtain ⟨e,he,hbe⟩:=h
         simp only [aBs] at hbe
         exact hnot e (by simpa using he) hbe.1 (aBj hbe.2)
       . exact h
     . simp only [aBd,aBe,aB1,Bool.not_eq_true'] at hhead
       refine ⟨fun h=>?_,fun j hj=>?_⟩
       . have:=(hready i).2 hri
         rw [h] at this;cases this
       . have hrj:=(hready j).1 hj
         obtain ⟨hnj,hjl⟩:=nd j hrj
         have hkid:sE (.alt i sub rest) j=true:=by
          rcases hhead j hjl with h | h
          . rw [hrj] at h;cases h
          . exact h
         obtain ⟨sub',b1,b2,b3⟩:=xO (.alt i sub rest) true ht' hkid hk
         obtain ⟨u1,u2,u3⟩:=upd j hjl
         exact opAt_wp hC b2 hW hF hs hLits fun m' a' ds' tm' top' hk' hs' hL'=>ih sub' (j::dn) ds' _ fuel' m' a' tm' top' (by omega) b1 u1 u2 u3 hk' hs' hL' (count_set (by omega) hnj hc)
theorem lD {C:Cx} (hC:C.Ok) {r:Option Nat} (hr:r=none) {H:List (List Blk)} {ops:List Oper} {id:Nat} {t:Tr} (hb:backB ops=true) (hsel:Region.noSelect ops.toArray=true) (ht:trB ops t true []=true) {m0:M0} (hW:∀ o ∈ ops,∀ d,o.dst=some d->m0.W d) (hF:C.fcl=true -> ∀ k,¬ Mine m0.toM m0.g k) {m:M} {a:Act} {tm:List PV} {top:List Blk} {K:List PV->List Blk->Prop} {Q:Exit->Act->World->Prop}
 (hQ:∀ m a tm top,K tm top->aV H m0 m a tm top->Q .normal a m.w) (hk:trK C H ops t K [] tm top) (hs:aV H m0 m a tm top):(Code.region id ops.toArray true).wpIn (FW r) 0 C.P Q a m.w:=by
 have hb':∀ (j:Nat) o,ops[j]? = some o -> ∀ e ∈ o.after,Region.binds .any e=true->e.on < ops.length:=fun j o ho e he hbe=>by
  have h1:=aBd.1 hb o (aAg ho)
  have h2:=aBd.1 h1 e (by simpa using he)
  rw [hbe] at h2
  simpa [Nat.blt_eq] using h2
 have hs:=hs.draw (m.w.drawn+1)
 have hnone:∀ i,¬ Dn (Array.replicate ops.length false) i:=fun i h=>by
  unfold Dn at h
  rcases aBl i ops.length with h' | h' <;> simp [h'] at h
 refine wpIn_mono (wpIn_region_any hC.mix ?_) (Q:=fun e a w=>e = .normal/\Q .normal a w) ?_
 . have hsz:ops.toArray.size=ops.length:=by simp
   rw [hsz]
   exact tr_any hC hr hsel (m0:=m0) hW hF (K:=K) (R:=fun a w=>Q .normal a w) hQ hb' _ t [] [] (Array.replicate ops.length false) _ ⟨{ m.w with drawn:=m.w.drawn+1 },m.ρ,m.U⟩ a tm top (aBm _) ht (by simp) (fun i hi=>⟨fun h=>absurd h (hnone i),fun h=>by cases h⟩) (fun i hi=>by cases hi) hk hs (fun d hd=>by cases hd) (by simp)
 . rintro e a w ⟨rfl,h⟩;exact h
theorem uW {C:Cx} (hC:C.Ok) {r:Option Nat} (hr:r=none) {H:List (List Blk)} {ops:List Oper} {id:Nat} (hnd:noDefer ops=true) {m0:M0} (hW:∀ o ∈ ops,∀ d,o.dst=some d->m0.W d) (hF:C.fcl=true -> ∀ k,¬ Mine m0.toM m0.g k) {m:M} {a:Act} {tm:List PV} {K:List PV->List Blk->Prop} {Q:Exit->Act->World->Prop}
 (hQ:∀ m a tm top,K tm top->aV H m0 m a tm top->Q .normal a m.w):∀ (t:Tr) (top:List Blk),oB C.give ops t=true->trK C H ops t K [] tm top->aV H m0 m a tm top->(Code.region id ops.toArray true).wpIn (FW r) 0 C.P Q a m.w
 | .take j t,top,hd,hk,hs=>by
   obtain ⟨top',h1,g⟩:=jL (show takeOneK C top j fun top'=>trK C H ops t K [] tm top' from hk)
   exact uW hC hr hnd hW hF hQ t top' hd h1 (hs.ghost g)
 | .quiet plan,top,hd,hk,hs=>quiet_spec hC hnd hd hW hQ hk hs
 | .cut t,top,hd,hk,hs=>by
   simp only [oB,pA,aBs] at hd
   obtain ⟨hb,hsel,ht⟩:=hd
   obtain ⟨tmS,S,h1,h2⟩:=cutV_to (show pT (fun K' tm top=>trK C H ops t K' [] tm top) K tm top from hk)
   exact lD hC hr hb hsel ht hW hF (K:=fun tm' top'=>∃ s,Ref s tm' top' tmS S) (fun m a tm top hk hs=>by
    obtain ⟨s,hk⟩:=hk
    exact hQ (m.ren s top.length) a tmS S h2 (hs.ref hk)) h1 hs
 | .fin,top,hd,hk,hs=>by
   simp only [oB,pA,aBs] at hd
   exact lD hC hr hd.1 hd.2.1 hd.2.2 hW hF hQ hk hs
 | .none,top,hd,hk,hs=>by
   simp only [oB,pA,aBs] at hd
   exact lD hC hr hd.1 hd.2.1 hd.2.2 hW hF hQ hk hs
 | .alt i s r',top,hd,hk,hs=>by
   simp only [oB,pA,aBs] at hd
   exact lD hC hr hd.1 hd.2.1 hd.2.2 hW hF hQ hk hs
noncomputable def bM (gv:List Nat) (fz fc:Bool) (mo:List (Nat × Tr)):Bool->Code->Bool
 | rd,.region id ops draw=>!draw||(noDefer ops.toList&&(match sF mo id with | some t=>!rd&&oB gv ops.toList t | none=>drawOk (Op.turns gv (empsF fz ops.toList)) ops))
 | rd,.seq a b=>bM gv fz fc mo rd a&&bM gv fz fc mo rd b
 | rd,.cond _ a b=>bM gv fz fc mo rd a&&bM gv fz fc mo rd b
 | rd,.block _ a=>bM gv fz fc mo rd a
 | rd,.loop a=>bM gv fz fc mo rd a
 | rd,.scope a=>bM gv fz fc mo rd a
 | _,.rangeFunc _ _ a b=>!fc&&(bM gv fz fc mo true a&&bM gv fz fc mo true b)
 | _,_=>true
theorem xT (gv:List Nat):∀ (c:Code) (rd:Bool),bM gv false false [] rd c=drawsOk gv c:=by
 intro c
 induction c with
 | region id ops draw=>intro rd;rfl
 | seq a b iha ihb=>intro rd;simp only [bM,drawsOk,iha,ihb]
 | cond x a b iha ihb=>intro rd;simp only [bM,drawsOk,iha,ihb]
 | block id a ih=>intro rd;simp only [bM,drawsOk,ih]
 | loop a ih=>intro rd;simp only [bM,drawsOk,ih]
 | scope a ih=>intro rd;simp only [bM,drawsOk,ih]
 | rangeFunc f ps a b iha ihb=>intro rd;simp only [bM,drawsOk,iha,ihb,Bool.not_false,Bool.true_and]
 | _=>intro rd;rfl
theorem bD {w:World} {L k:Nat} {o:Obj} (h:k≠L):(w.putObj L o).heap[k]? = w.heap[k]?:=World.putObj_heap_other h
theorem oC (w:World) (L:Nat) (o:Obj):(w.putObj L o).heap.size=w.heap.size:=by simp [World.putObj]
theorem iU {m m':M} {top:List Blk} {H:List (List Blk)} (hi:Inv m top H) (hρ:m'.ρ=m.ρ) (hK:Keep m m') (hheap:∀ l i b v k,getB top H l i=some b->b.live=true->m.ρ l i=some v->b.has m.w v k->m'.w.heap[k]? = m.w.heap[k]?) (hU:∀ k,k < m.w.heap.size->m.U k->m'.U k) (hlt:∀ k,m'.U k->k < m'.w.heap.size):Inv m' top H:=
 ⟨fun l i b hb=>(hi.blk l i b hb).keep hK (by rw [hρ]) (fun v k hl hv hk=>hheap l i b v k hb hl hv hk),
  fun l i b l' i' b' v v' k h1 h2 h3 h4 h5 h6 h7 h8=>hi.inj l i b l' i' b' v v' k h1 h2 h3 h4 (hρ ▸ h5) (hρ ▸ h6) (Blk.has_back h7 (hheap l i b v · h1 h2 (hρ ▸ h5))) (Blk.has_back h8 (hheap l' i' b' v' · h3 h4 (hρ ▸ h6))),
  fun l i b v k h1 h2 h3 h4=>by rw [hρ] at h3;have hu:=hi.own l i b v k h1 h2 h3 (Blk.has_back h4 (hheap l i b v · h1 h2 h3));exact hU k (hi.lt k hu) hu,hlt,
  hi.sub.of (fun i p e c v h1 h2=>⟨h1,by rw [<- hρ];exact h2⟩) (fun p V hV=>by rw [hρ];exact hV) (fun p et sz xs V h1 h2=>⟨h1,fun k hk=>hheap 0 p _ V k h1 rfl h2 (Blk.has_head hk)⟩)⟩
theorem gW {m m':M} {top:List Blk} (hρ:m'.ρ=m.ρ) (hheap:∀ k,Mine m top k->m'.w.heap[k]? = m.w.heap[k]?) {k:Nat} (h:Mine m' top k):Mine m top k:=by
 obtain ⟨i,b,v,h1,h2,h3,h4⟩:=h
 rw [hρ] at h3
 exact ⟨i,b,v,h1,h2,h3,Blk.has_back h4 fun j hj=>hheap j ⟨i,b,v,h1,h2,h3,hj⟩⟩
theorem sG {H:List (List Blk)} {m0:M0} {m:M} {a:Act} {tm:List PV} {top:List Blk} {V:Nat->Prop} {ds:List Deferred} (hs:St H m0 m a tm top) (hc:Calm H m0 m ds top V) {L:Nat} {o:Obj} (q:Quiet m top V L o) (hH:∀ l i b v,getB top H l i=some b->b.live=true->m.ρ l i=some v -> ¬ b.has m.w v L)
 (hL:m0.w.heap.size<=L) (hz:∀ k o,m0.Z k=some o->k≠L) (hd:∀ d ∈ ds,d ≠ { target:=.collected L,args:=#[] }) (o':Obj) :
 St H m0 ⟨m.w.putObj L o',m.ρ,m.U⟩ a tm top/\Calm H m0 ⟨m.w.putObj L o',m.ρ,m.U⟩ ds top V/\Quiet ⟨m.w.putObj L o',m.ρ,m.U⟩ top V L o':=by
 have hsz:=oC m.w L o'
 have hK:Keep m ⟨m.w.putObj L o',m.ρ,m.U⟩:=⟨fun _ _ _ h=>h,Nat.le_of_eq hsz.symm,fun k hk=>⟨hk.2,bD (fun e=>hk.2 (e ▸ q.used))⟩⟩
 have hlt:=(aBw.1 q.heap).1
 have hmn:∀ k,Mine ⟨m.w.putObj L o',m.ρ,m.U⟩ top k->Mine m top k:=fun k h=>gW (m:=m) (m':=⟨m.w.putObj L o',m.ρ,m.U⟩) rfl (fun j hj=>bD (fun e=>q.mine (e ▸ hj))) h
 have hinv:Inv ⟨m.w.putObj L o',m.ρ,m.U⟩ top H:=iU hs.inv rfl hK (fun l i b v k h1 h2 h3 h4=>bD (fun e=>hH l i b v h1 h2 h3 (e ▸ h4))) (fun _ _ h=>h) (fun k hk=>by show k < (m.w.putObj L o').heap.size;rw [hsz];exact hs.inv.lt k hk)
 refine ⟨⟨hinv,hs.size,fun j p v hp hv=>(hs.rel j p v hp hv).keep hK,hs.defers,hs.free,⟨hs.since.os,hs.since.tape,hs.since.output,by show _<=(m.w.putObj L o').heap.size;rw [hsz];exact hs.since.size,fun k hk h1 h2=>(bD (by omega)).trans (hs.since.heap k hk h1 h2),hs.since.up,hs.since.U,fun k hk=>hs.since.fresh k (hmn k hk)⟩,hs.tsz,hs.prot⟩,?_,⟨World.putObj_heap_same hlt,fun h=>q.mine (hmn _ h),q.out,q.used⟩⟩
 refine ⟨hc.one,hc.used,hc.more,hc.old,fun k hk h=>hc.mine k hk (hmn k h),fun i Y st hb=>?_,fun k o hk=>?_,hc.nd,hc.late,fun d hd'=>?_,fun l i b v k h1 h2 h3 h4=>hc.far l i b v k h1 h2 h3 (Blk.has_back h4 fun j hj=>bD (fun e=>hH (l+1) i b v h1 h2 h3 (e ▸ hj)))⟩
 . obtain ⟨h1,h2,h3⟩:=hc.gen i Y st hb
   exact ⟨h1,h2,h2 st V m.w m.U _ m.U ⟨rfl,rfl,rfl,Nat.le_of_eq hsz.symm,fun _ _=>Iff.rfl,fun k _ hk=>bD (fun e=>hk (e ▸ q.used)),fun k hk=>bD (fun e=>q.out (e ▸ hk)),hinv.lt⟩ hc.used hs.inv.lt h3⟩
 . have:=hc.z k o hk
   exact ⟨(bD (hz k o hk)).trans this.heap,fun h=>this.mine (hmn k h),this.out,this.used⟩
 . obtain ⟨D,h1,h2⟩:=hc.d d hd'
   exact ⟨D,h1,(bD (fun e=>hd d hd' (by rw [h1,e]))).trans h2.heap,fun h=>h2.mine (hmn D h),h2.out,h2.used⟩
theorem lE {H:List (List Blk)} {m0:M0} {m:M} {a:Act} {tm:List PV} {top:List Blk} {V:Nat->Prop} {ds:List Deferred} (hs:St H m0 m a tm top) (hc:Calm H m0 m ds top V) (o:Obj) :
 St H m0 ⟨m.w.alloc o,m.ρ,fun k=>m.U k\/k=m.w.heap.size⟩ a tm top/\Calm H m0 ⟨m.w.alloc o,m.ρ,fun k=>m.U k\/k=m.w.heap.size⟩ ds top V/\Quiet ⟨m.w.alloc o,m.ρ,fun k=>m.U k\/k=m.w.heap.size⟩ top V m.w.heap.size o:=by
 have hK:Keep m ⟨m.w.alloc o,m.ρ,fun k=>m.U k\/k=m.w.heap.size⟩:=⟨fun _ _ _ h=>h,by simp,fun k hk=>⟨fun h=>h.elim hk.2 (fun h=>by have:=hk.1;omega),cF _ _ _ hk.1⟩⟩
 have hU:∀ k,k < m.w.heap.size->((m.U k\/k=m.w.heap.size)↔m.U k):=fun k hk=>⟨fun h=>h.elim id (fun h=>by omega),.inl⟩
 have hinv:Inv ⟨m.w.alloc o,m.ρ,fun k=>m.U k\/k=m.w.heap.size⟩ top H:=iU hs.inv rfl hK (fun l i b v k h1 h2 h3 h4=>cF _ _ _ (hs.inv.lt k (hs.inv.own l i b v k h1 h2 h3 h4))) (fun _ _ h=>.inl h) (fun k hk=>by
  show k < (m.w.alloc o).heap.size
  rw [World.size_alloc]
  rcases hk with hk | hk
  . have:=hs.inv.lt k hk;omega
  . omega)
 have hmn:∀ k,Mine ⟨m.w.alloc o,m.ρ,fun k=>m.U k\/k=m.w.heap.size⟩ top k->Mine m top k:=fun k h=>gW (m:=m) (m':=⟨m.w.alloc o,m.ρ,fun k=>m.U k\/k=m.w.heap.size⟩) rfl (fun j ⟨i,b,v,h1,h2,h3,h4⟩=>cF _ _ _ (hs.inv.lt j (hs.inv.own 0 i b v j h1 h2 h3 h4))) h
 refine ⟨⟨hinv,hs.size,fun j p v hp hv=>(hs.rel j p v hp hv).keep hK,hs.defers,hs.free,hs.since.step rfl rfl rfl (by simp) (fun k hk _=>cF _ _ _ hk) (fun _ _=>rfl) hU (fun k hk=>.inr (hmn k hk)),hs.tsz,hs.prot⟩,hc.step hs.inv hinv (GenLe.refl _) rfl rfl rfl (by simp) (fun k hk _=>cF _ _ _ hk) hU (fun _ _=>rfl) (fun k hk=>.inr (hmn k hk)),gE _ _,fun h=>?_,fun h=>?_,.inr rfl⟩
 . obtain ⟨i,b,v,h1,h2,h3,h4⟩:=hmn _ h
   have:=hs.inv.lt _ (hs.inv.own 0 i b v _ h1 h2 h3 h4);omega
 . have:=hs.inv.lt _ (hc.used _ h);omega
theorem dY {x:Nat}:∀ {a b:List Nat},x ∈ appL a b↔x ∈ a\/x ∈ b
 | [],b=>by simp [appL]
 | y::a,b=>by
   change x ∈ y::appL a b↔_
   rw [List.mem_cons,dY (a:=a),List.mem_cons,or_assoc]
theorem lF {x:Nat}:∀ {l:List Oper},x ∈ opDsts l ↔ ∃ o ∈ l,o.dst=some x
 | []=>by simp [opDsts]
 | o::l=>by
   change x ∈ (match o.dst with | some d=>d::opDsts l | none=>opDsts l)↔_
   cases ho:o.dst with
   | none=>simp only [lF (l:=l)];constructor
           . rintro ⟨y,h1,h2⟩;exact ⟨y,aAv _ h1,h2⟩
           . rintro ⟨y,h1,h2⟩
             rcases List.mem_cons.1 h1 with rfl | h1
             . rw [ho] at h2;cases h2
             . exact ⟨y,h1,h2⟩
   | some d=>simp only [List.mem_cons,lF (l:=l)];constructor
             . rintro (rfl | ⟨y,h1,h2⟩)
               . exact ⟨o,.inl rfl,ho⟩
               . exact ⟨y,.inr h1,h2⟩
             . rintro ⟨y,rfl | h1,h2⟩
               . rw [ho] at h2;cases h2;exact .inl rfl
               . exact .inr ⟨y,h1,h2⟩
def pB (C:Cx) (H:List (List Blk)) (mo:List (Nat × Tr)) (rd:Bool) (c:Code):Prop:=
 ∀ (r:Option Nat) (m0:M0) (K:Exit->List PV->List Blk->Prop) (tm:List PV) (top:List Blk) (m:M) (a:Act),(∀ l,r=some l -> ∃ r0,m0.Z l=some (.loop r0))->(rd=false->r=none)->(∀ d ∈ dstsC c,m0.W d)->(C.fcl=true -> ∀ k,¬ Mine m0.toM m0.g k)->wpM C H mo c K tm top->aV H m0 m a tm top ->
   c.wpIn (FW r) 0 C.P (oA H m0 K) a m.w
theorem uX {xs:List DV} {j:Nat} {p:PV} (h:(dpv xs)[j]? = some p):∃ x,xs[j]? = some x/\p = .d x:=by
 rw [kN,aAi] at h
 obtain ⟨x,h1,h2⟩:=aBq.1 h
 exact ⟨x,h1,h2.symm⟩
theorem ry_rp {m:M} {y:YV} {v:Value} (h:RY m.w m.ok y v):RP m (yvPV y) v:=by
 cases h with
 | one x v h=>exact .d _ _ h
 | agg xs vs h1 h2=>
   refine .agg _ _ (by rw [kN,aAh,h1]) (fun j p v hp hv=>?_)
   obtain ⟨x,hx,rfl⟩:=uX hp
   exact .d _ _ (h2 j x v hx hv)
theorem pC:∀ (ps:List Nat) (xs:List YV) (tm:List PV) (K:List PV->Prop),putPs ps xs tm K -> ∃ tmr,K tmr/\ps.length=xs.length/\tmr.length=tm.length /\
 ∀ (m:M) (vs:List Value) (t:Array Value),vs.length=xs.length->(∀ (j:Nat) y u,xs[j]? = some y->vs[j]? = some u->RY m.w m.ok y u)->t.size=tm.length->(∀ (j:Nat) p v,tm[j]? = some p->t[j]? = some v->RP m p v) ->
   ((ps.zip vs).foldl (fun t (x:Nat × Value)=>t.setIfInBounds x.1 x.2) t).size=t.size/\(∀ j,j ∉ ps->((ps.zip vs).foldl (fun t (x:Nat × Value)=>t.setIfInBounds x.1 x.2) t)[j]? = t[j]?) /\
     ∀ (j:Nat) p v,tmr[j]? = some p->((ps.zip vs).foldl (fun t (x:Nat × Value)=>t.setIfInBounds x.1 x.2) t)[j]? = some v->RP m p v
 | [],[],tm,K,h=>⟨tm,h,rfl,rfl,fun m vs t hl _ hs hr=>⟨by simp,by simp,fun j p v hp hv=>hr j p v hp (by simpa using hv)⟩⟩
 | [],_::_,tm,K,h=>h.elim
 | _::_,[],tm,K,h=>h.elim
 | p::ps,x::xs,tm,K,h=>by
   rw [putPs_cons] at h
   obtain ⟨hlt,h⟩:=setK_spec.1 h
   obtain ⟨tmr,hk,h1,h2,h3⟩:=pC ps xs _ K h
   refine ⟨tmr,hk,by simp [h1],by simp [h2],fun m vs t hl hy hs hr=>?_⟩
   cases vs with
   | nil=>simp at hl
   | cons u vs=>
     have hyu:=ry_rp (hy 0 x u rfl rfl)
     obtain ⟨q1,q2,q3⟩:=h3 m vs (t.setIfInBounds p u) (by simpa using hl) (fun j y w hj hw=>hy (j+1) y w (by simpa using hj) (by simpa using hw)) (by simp [hs]) (fun j q v hq hv=>by
      by_cases hj:p=j
      . subst hj
        simp [hlt] at hq
        have:p < t.size:=by omega
        simp [this] at hv
        subst hq;subst hv;exact hyu
      . rw [aAs hj] at hq
        rw [Array.getElem?_setIfInBounds_ne hj] at hv
        exact hr j q v hq hv)
     refine ⟨by simp only [List.zip_cons_cons,List.foldl_cons];rw [q1];simp,fun j hj=>?_,fun j q v hq hv=>q3 j q v hq (by simpa using hv)⟩
     rw [List.mem_cons,not_or] at hj
     simp only [List.zip_cons_cons,List.foldl_cons]
     rw [q2 j hj.2,Array.getElem?_setIfInBounds_ne (fun e=>hj.1 e.symm)]
theorem lG:∀ (W:List Nat) (tm:List PV) (K:List PV->Prop),maskK W tm K -> ∃ tm',K tm'/\tm'.length=tm.length /\ ∀ (j:Nat) p,tm'[j]? = some p->p = .any\/(j ∉ W/\tm[j]? = some p)
 | [],tm,K,h=>⟨tm,h,rfl,fun j p hp=>.inr ⟨by simp,hp⟩⟩
 | x::W,tm,K,h=>by
   rw [maskK_cons] at h
   obtain ⟨hlt,h⟩:=setK_spec.1 h
   obtain ⟨tm',hk,h1,h2⟩:=lG W _ K h
   refine ⟨tm',hk,by simpa using h1,fun j p hp=>?_⟩
   rcases h2 j p hp with h3 | ⟨h3,h4⟩
   . exact .inl h3
   . by_cases hj:x=j
     . subst hj;simp [hlt] at h4;exact .inl h4.symm
     . rw [aAs hj] at h4
       exact .inr ⟨by rw [List.mem_cons,not_or];exact ⟨fun e=>hj e.symm,h3⟩,h4⟩
def rK:Exit->Option Code
 | .ret=>some .ret
 | .exit id=>some (.exit id)
 | .goto l=>some (.goto l)
 | _=>none
structure Held (H:List (List Blk)) (m0:M0) (a:Act) (L:Nat) (V:Nat->Prop) (m:M) (tm:List PV) (top:List Blk) (o:Obj):Prop where
 st:St H { m0 with ds:=a.defers } m a tm top
 calm:∃ Vc,Calm H m0 m a.defers top Vc/\(∀ k,Vc k->V k)/\Quiet m top Vc L o
 z:∀ k o,m0.Z k=some o->k≠L/\V k
 d:∀ d ∈ a.defers,∀ D,d = { target:=.collected D,args:=#[] }->D≠L/\V D
 named:∀ l i b v k,getB top H l i=some b->b.live=true->m.ρ l i=some v->b.has m.w v k->V k/\k≠L
 lrec:V L
 old:∀ k,k < m0.w.heap.size->m.U k->V k\/Mine m0.toM m0.g k\/m0.V k
 late:m0.w.heap.size<=L
theorem Held.obj {H:List (List Blk)} {m0:M0} {a:Act} {L:Nat} {V:Nat->Prop} {m:M} {tm:List PV} {top:List Blk} {o:Obj} (h:Held H m0 a L V m tm top o) (o':Obj):Held H m0 a L V ⟨m.w.putObj L o',m.ρ,m.U⟩ tm top o':=by
 obtain ⟨Vc,hc,h1,q⟩:=h.calm
 obtain ⟨r1,r2,r3⟩:=sG (m0:={ m0 with ds:=a.defers }) h.st (ds:=a.defers) ⟨hc.one,hc.used,hc.more,hc.old,hc.mine,hc.gen,hc.z,hc.nd,hc.late,hc.d,hc.far⟩ q (fun l i b v e1 e2 e3 e4=>(h.named l i b v L e1 e2 e3 e4).2 rfl) h.late (fun k o hk=>(h.z k o hk).1) (fun d hd e=>(h.d d hd L e).1 rfl) o'
 exact ⟨r1,⟨Vc,⟨r2.one,r2.used,r2.more,r2.old,r2.mine,r2.gen,r2.z,r2.nd,r2.late,r2.d,r2.far⟩,h1,r3⟩,h.z,h.d,fun l i b v k e1 e2 e3 e4=>h.named l i b v k e1 e2 e3 (Blk.has_back e4 fun j hj=>bD (h.named l i b v j e1 e2 e3 hj).2),h.lrec,h.old,h.late⟩
theorem Held.abide {H:List (List Blk)} {m0:M0} {a:Act} {L:Nat} {V:Nat->Prop} {m:M} {tm:List PV} {top:List Blk} {o:Obj} (h:Held H m0 a L V m tm top o) {w':World} {U':Nat->Prop} (hs:Abide m.w m.U V w' U') (hVU:∀ k,V k->m.U k):Held H m0 a L V ⟨w',m.ρ,U'⟩ tm top o:=by
 obtain ⟨Vc,hc,h1,q⟩:=h.calm
 have hlt:=h.st.inv.lt
 have hK:Keep m ⟨w',m.ρ,U'⟩:=⟨fun _ _ _ h=>h,hs.size,fun k hk=>⟨fun hu=>hk.2 ((hs.iff k hk.1).1 hu),hs.plain k hk.1 hk.2⟩⟩
 have hinv:Inv ⟨w',m.ρ,U'⟩ top H:=iU h.st.inv rfl hK (fun l i b v k e1 e2 e3 e4=>hs.keep k (h.named l i b v k e1 e2 e3 e4).1) (fun k hk hu=>(hs.iff k hk).2 hu) hs.lt
 have hmn:∀ k,Mine ⟨w',m.ρ,U'⟩ top k->Mine m top k:=fun k e=>gW (m:=m) (m':=⟨w',m.ρ,U'⟩) rfl (fun j ⟨i,b,v,e1,e2,e3,e4⟩=>hs.keep j (h.named 0 i b v j e1 e2 e3 e4).1) e
 have up:∀ k,m.U k->U' k:=fun k hu=>(hs.iff k (hlt k hu)).2 hu
 have quiet:∀ k o,V k->Quiet m top Vc k o->Quiet ⟨w',m.ρ,U'⟩ top Vc k o:=fun k o hv q=>⟨(hs.keep k hv).trans q.heap,fun e=>q.mine (hmn k e),q.out,up k q.used⟩
 refine ⟨⟨hinv,h.st.size,fun j p v hp hv=>(h.st.rel j p v hp hv).keep hK,h.st.defers,h.st.free,?_,h.st.tsz,h.st.prot⟩,⟨Vc,⟨hc.one,fun k hk=>up k (hc.used k hk),hc.more,hc.old,fun k hk e=>hc.mine k hk (hmn k e),fun i Y st hb=>?_,fun k o hk=>quiet k o (h.z k o hk).2 (hc.z k o hk),hc.nd,hc.late,fun d hd=>?_,fun l i b v k e1 e2 e3 e4=>hc.far l i b v k e1 e2 e3 (Blk.has_back e4 fun j hj=>hs.keep j (h.named (l+1) i b v j e1 e2 e3 hj).1)⟩,h1,quiet L o h.lrec q⟩,h.z,h.d,fun l i b v k e1 e2 e3 e4=>h.named l i b v k e1 e2 e3 (Blk.has_back e4 fun j hj=>hs.keep j (h.named l i b v j e1 e2 e3 hj).1),h.lrec,fun k hk hu=>h.old k hk ((hs.iff k (aBk hk h.st.since.size)).1 hu),h.late⟩
 . have t:=h.st.since
   refine ⟨hs.os.trans t.os,hs.tape.trans t.tape,hs.output.trans t.output,aBp t.size hs.size,fun k hk hm hv=>?_,t.up,fun k hk=>(hs.iff k (aBk hk t.size)).trans (t.U k hk),fun k hk=>t.fresh k (hmn k hk)⟩
   refine Eq.trans ?_ (t.heap k hk hm hv)
   by_cases hu:m.U k
   . rcases h.old k hk hu with e | e | e
     . exact hs.keep k e
     . exact absurd e hm
     . exact absurd e hv
   . exact hs.plain k (aBk hk t.size) hu
 . obtain ⟨e1,e2,e3⟩:=hc.gen i Y st hb
   exact ⟨e1,e2,e2 st Vc m.w m.U w' U' ⟨hs.os,hs.tape,hs.output,hs.size,hs.iff,hs.plain,fun k hk=>hs.keep k (h1 k hk),hs.lt⟩ hc.used hlt e3⟩
 . obtain ⟨D,e1,e2⟩:=hc.d d hd
   exact ⟨D,e1,quiet D _ (h.d d hd D e1).2 e2⟩
theorem Held.ref {H:List (List Blk)} {m0:M0} {a:Act} {L:Nat} {V:Nat->Prop} {m:M} {tm tm':List PV} {top top':List Blk} {o:Obj} (h:Held H m0 a L V m tm top o) {s:List Nat} (hr:Ref s tm top tm' top'):Held H m0 a L V (m.ren s top.length) tm' top' o:=by
 obtain ⟨Vc,hc,h1,q⟩:=h.calm
 have hr':=hr
 obtain ⟨g1,g2,g3⟩:=hr'
 have hst:=h.st.ref hr
 obtain ⟨hlen,hget⟩:=iE g3
 have mineLe:∀ k,Mine (m.ren s top.length) top' k->Mine m top k:=fun k=>nZ h.st.inv g3
 have quiet:∀ k o,Quiet m top Vc k o->Quiet (m.ren s top.length) top' Vc k o:=fun k o q=>⟨q.heap,fun hm=>q.mine (mineLe k hm),q.out,q.used⟩
 refine ⟨hst,⟨Vc,⟨fun i j Y st Y' st' q1 q2=>?_,hc.used,hc.more,hc.old,fun k hk hm=>hc.mine k hk (mineLe k hm),fun i Y st hi=>?_,fun k o hz=>quiet k o (hc.z k o hz),hc.nd,hc.late,fun d hd=>?_,fun l i b v k e1 e2 e3 e4=>hc.far l i b v k e1 e2 e3 e4⟩,h1,quiet L o q⟩,h.z,h.d,fun l i b v k e1 e2 e3 e4=>?_,h.lrec,h.old,h.late⟩
 . obtain ⟨x,e1,e2⟩:=hget i _ q1
   obtain ⟨y,e3,e4⟩:=hget j _ q2
   obtain rfl:=hc.one x y _ _ _ _ e2 e4
   exact mI g1 i j x e1 e3
 . obtain ⟨j,_,e⟩:=hget i _ hi
   exact hc.gen j Y st e
 . obtain ⟨D,e1,e2⟩:=hc.d d hd
   exact ⟨D,e1,quiet _ _ e2⟩
 . cases l with
   | succ l=>exact h.named (l+1) i b v k e1 e2 e3 e4
   | zero=>
     obtain ⟨j,b0,v0,q1,q2,q3,q4⟩:=mineLe k ⟨i,b,v,e1,e2,e3,e4⟩
     exact h.named 0 j b0 v0 k q1 q2 q3 q4
def recL (fn:FuncId) (a:Act) (ps:Array Tmp) (asg body:Code) (dft:Nat) (st:LoopState) (pe:Option Code):Loop:={ state:=st,pending:=pe,fn,tmps:=a.tmps,params:=ps,assign:=asg,body,defers:=dft }
open Classical in
noncomputable def zR (m0:M0) (a:Act) (L:Nat) (o:Obj):Nat->Option Obj:=fun j=>if j=L then some o else if (∃ d ∈ a.defers,d = { target:=.collected j,args:=#[] }) then some (.deferred (some [])) else m0.Z j
theorem zR_rec (m0:M0) (a:Act) (L:Nat) (o:Obj):zR m0 a L o L=some o:=by simp [zR]
theorem zR_d {m0:M0} {a:Act} {L:Nat} (o:Obj) {D:Nat} (h:D≠L) (hd : { target:=.collected D,args:=#[] } ∈ a.defers):zR m0 a L o D=some (.deferred (some [])):=by
 unfold zR;rw [if_neg h,if_pos ⟨_,hd,rfl⟩]
theorem zR_cases {m0:M0} {a:Act} {L:Nat} {o o':Obj} {k:Nat} (h:zR m0 a L o k=some o'):(k=L/\o'=o)\/(k≠L/\((∃ d ∈ a.defers,d = { target:=.collected k,args:=#[] })/\o' = .deferred (some [])\/m0.Z k=some o')):=by
 unfold zR at h
 split at h
 . rename_i e;cases h;exact .inl ⟨e,rfl⟩
 . rename_i e
   split at h
   . rename_i e';cases h;exact .inr ⟨e,.inl ⟨e',rfl⟩⟩
   . exact .inr ⟨e,.inr h⟩
theorem zR_z {m0:M0} {a:Act} {L:Nat} (o:Obj) {k:Nat} {o':Obj} (hk:k≠L) (hz:m0.Z k=some o') (hq:∀ d ∈ a.defers,d = { target:=.collected k,args:=#[] }->o' = .deferred (some [])):zR m0 a L o k=some o':=by
 unfold zR
 rw [if_neg hk]
 split
 . rename_i e;obtain ⟨d,h1,h2⟩:=e;rw [hq d h1 h2]
 . exact hz
theorem mine_put {m:M} {top:List Blk} {L:Nat} (hL:¬ Mine m top L) {o':Obj} {k:Nat} (h:Mine ⟨m.w.putObj L o',m.ρ,m.U⟩ top k):Mine m top k:=gW (m:=m) (m':=⟨m.w.putObj L o',m.ρ,m.U⟩) rfl (fun j hj=>bD (fun e=>hL (e ▸ hj))) h
theorem quiet_put {m:M} {top:List Blk} {V:Nat->Prop} {k:Nat} {o:Obj} (q:Quiet m top V k o) {L:Nat} (hL:¬ Mine m top L) (h:k≠L) (o':Obj):Quiet ⟨m.w.putObj L o',m.ρ,m.U⟩ top V k o:=⟨(bD h).trans q.heap,fun e=>q.mine (mine_put hL e),q.out,q.used⟩
theorem round_spec {C:Cx} {H:List (List Blk)} {mo:List (Nat × Tr)} {asg body:Code} (hz:C.fcl=false) (hA:pB C H mo true asg) (hB:pB C H mo true body) {m0:M0} {a:Act} {L:Nat} {V:Nat->Prop} {m:M} {tmS:List PV} {topS topN:List Blk} {Nx:Prop} {fn:FuncId} {ps:Array Tmp} {dft:Nat}
 (hh:Held H m0 a L V m tmS topS (.loop (recL fn a ps asg body dft .ready none))) {K:Exit->List PV->List Blk->Prop} {x:List YV} {W:List Nat} (hW1:∀ d ∈ ps.toList,d ∈ W) (hW2:∀ d ∈ dstsC asg,d ∈ W) (hW3:∀ d ∈ dstsC body,d ∈ W)
 (walk:putPs ps.toList x tmS fun tmr=>wpM C H mo asg (fun e tm1 top1=>match e with
   | .normal=>wpM C H mo body (fun e tm2 top2=>match e with
      | .normal=>maskK W tm2 fun tm3=>Nx /\ ∃ s,Ref s tm3 top2 tmS topN
      | e=>maskK W tm2 fun tm3=>K e tm3 top2) tm1 top1
   | _=>False) tmr topS)
 (hVU:∀ k,V k->m.U k) {vs:Array Value} (hl:x.length=vs.size) (hry:∀ (j:Nat) y u,x[j]? = some y->vs[j]? = some u->RY m.w m.ok y u) :
 YieldAt Fence.wide 0 C.P L vs m.w fun e w'=>∃ (b:Bool) (U' V':Nat->Prop),e = .returned (.bool b)/\YStep m.w m.U V w' U' V' /\ ∃ ρ:Nat->Nat->Option Value,
  (b=true/\Nx/\Held H m0 a L V' ⟨w',ρ,U'⟩ tmS topN (.loop (recL fn a ps asg body dft .ready none))) \/
  (b=false /\ ∃ e c tmc topc,rK e=some c/\K e tmc topc/\Held H m0 a L V' ⟨w',ρ,U'⟩ tmc topc (.loop (recL fn a ps asg body dft .done (some c)))):=by
 obtain ⟨tmr,hwalk,hpl,htl,hput⟩:=pC _ _ _ _ walk
 obtain ⟨Vc,hc,hVc,q⟩:=hh.calm
 have hps:ps.toList.length=ps.size:=aBy
 refine ⟨fn,_,asg,body,run_yield q.heap (by show vs.size=ps.size;omega),?_⟩
 have hfold:(ps.zip vs).foldl (fun tmps (x:Nat × Value)=>tmps.setIfInBounds x.1 x.2) a.tmps=(ps.toList.zip vs.toList).foldl (fun t (x:Nat × Value)=>t.setIfInBounds x.1 x.2) a.tmps:=by
  rw [<- Array.foldl_toList,Array.toList_zip]
 obtain ⟨t1,t2,t3⟩:=hput m vs.toList a.tmps (by simp [hl]) (fun j y u hy hu=>hry j y u hy (by simpa using hu)) hh.st.size hh.st.rel
 rw [<- hfold] at t1 t2 t3
 show RoundIn Fence.wide 0 C.P L fn ((ps.zip vs).foldl (fun tmps (x:Nat × Value)=>tmps.setIfInBounds x.1 x.2) a.tmps) asg body m.w _
 generalize (ps.zip vs).foldl (fun tmps (x:Nat × Value)=>tmps.setIfInBounds x.1 x.2) a.tmps=t' at t1 t2 t3
 refine roundIn_of_wpIn (F:=Fence.wide) trivial ?_
 show asg.wpIn (FW (some L)) 0 C.P _ _ _
 let mA:M0:={ toM:=m,g:=topS,V:=Vc,Z:=zR m0 a L (.loop (recL fn a ps asg body dft .ready none)),W:=fun j=>j ∈ W,A:=fun j=>a.tmps[j]?,ds:=[],tsz:=m0.tsz,rnd:=true }
 have hdq:∀ d ∈ a.defers,∀ D,d = { target:=.collected D,args:=#[] }->Quiet m topS Vc D (.deferred (some [])):=fun d hd D e=>by
  obtain ⟨D',e1,e2⟩:=hc.d d hd
  rw [e1] at e;cases e;exact e2
 have FA:aV H mA m { tmps:=t',defers:=[] } tmr topS:=by
  refine ⟨⟨hh.st.inv,by show t'.size=tmr.length;rw [t1,htl];exact hh.st.size,t3,rfl,hh.st.free,⟨rfl,rfl,rfl,aBo _,fun _ _ _ _=>rfl,fun _ _=>rfl,fun _ _=>Iff.rfl,fun k hk=>.inr hk⟩,by show t'.size=m0.tsz;rw [t1];exact hh.st.tsz,fun j hj=>t2 j (fun h=>hj (hW1 j h))⟩,Vc,?_⟩
  refine ⟨hc.one,hc.used,fun k h=>h,fun k h _=>h,hc.mine,hc.gen,fun k o hk=>?_,List.nodup_nil,(fun h=>by cases h),(fun d hd=>by cases hd),hc.far⟩
  rcases zR_cases hk with ⟨rfl,rfl⟩ | ⟨hne,⟨⟨d,hd,e⟩,rfl⟩ | hz⟩
  . exact q
  . exact hdq d hd k e
  . exact hc.z k o hz
 refine wpIn_mono (hA (some L) mA _ tmr topS m { tmps:=t',defers:=[] } (fun l e=>by cases e;exact ⟨_,zR_rec m0 a L _⟩) (fun h=>by cases h) hW2 (fun h=>by rw [hz] at h;cases h) hwalk FA) ?_
 rintro e a1 w1 ⟨hok,tm1,top1,m1,rfl,hk1,s1,V1,c1⟩
 cases e with
 | normal=>?_
 | _=>exact hk1.elim
 have q1:Quiet m1 top1 V1 L (.loop (recL fn a ps asg body dft .ready none)):=c1.z L _ (zR_rec m0 a L _)
 refine ⟨_,run_beginRound q1.heap rfl,?_⟩
 show body.wpIn (FW (some L)) 0 C.P _ _ (m1.w.putObj L (.loop (recL fn a ps asg body dft .busy none)))
 have hsz1:=oC m1.w L (.loop (recL fn a ps asg body dft .busy none))
 generalize hob:Obj.loop (recL fn a ps asg body dft .busy none)=ob at hsz1 ⊢
 let m1':M:=⟨m1.w.putObj L ob,m1.ρ,m1.U⟩
 have hL1:=(aBw.1 q1.heap).1
 have upρ:∀ l i,m1.ρ (l+1) i=m.ρ (l+1) i:=s1.since.up
 have far1:∀ l i b v,getB topS H (l+1) i=some b->b.live=true->m.ρ (l+1) i=some v -> ∀ k,b.has m1.w v k->b.has m.w v k:=fun l i b v e1 e2 e3 k e4=>
  hh.st.inv.back e1 e2 e3 (fun k' hu hk'=>s1.since.heap k' (hh.st.inv.lt k' hu) (fun ⟨i',b',v',d1,d2,d3,d4⟩=>by
   have:=hh.st.inv.inj (l+1) i b 0 i' b' v v' k' e1 e2 d1 d2 e3 d3 hk' d4
   cases this.1) (hc.far l i b v k' e1 e2 e3 hk')) e4
 have nm1:∀ l i b v,getB top1 H l i=some b->b.live=true->m1.ρ l i=some v -> ¬ b.has m1.w v L:=fun l i b v e1 e2 e3 e4=>by
  cases l with
  | zero=>exact q1.mine ⟨i,b,v,e1,e2,e3,e4⟩
  | succ l=>rw [upρ] at e3;exact (hh.named (l+1) i b v L e1 e2 e3 (far1 l i b v e1 e2 e3 L e4)).2 rfl
 have hK1:Keep m1 m1':=⟨fun _ _ _ h=>h,Nat.le_of_eq hsz1.symm,fun k hk=>⟨hk.2,bD (fun e=>hk.2 (e ▸ q1.used))⟩⟩
 have hinv1:Inv m1' top1 H:=iU s1.inv rfl hK1 (fun l i b v k e1 e2 e3 e4=>bD (fun e=>nm1 l i b v e1 e2 e3 (e ▸ e4))) (fun _ _ h=>h) (fun k hk=>by show k < (m1.w.putObj L ob).heap.size;rw [hsz1];exact s1.inv.lt k hk)
 let mB:M0:={ toM:=m1',g:=top1,V:=V1,Z:=zR m0 a L ob,W:=fun j=>j ∈ W,A:=fun j=>a.tmps[j]?,ds:=[],tsz:=m0.tsz,rnd:=true }
 have qz:∀ k o,zR m0 a L ob k=some o->Quiet m1' top1 V1 k o:=fun k o hk=>by
  rcases zR_cases hk with ⟨rfl,rfl⟩ | ⟨hne,h⟩
  . exact ⟨World.putObj_heap_same hL1,fun e=>q1.mine (mine_put q1.mine e),q1.out,q1.used⟩
  . refine quiet_put (c1.z k o ?_) q1.mine hne ob
    show zR m0 a L _ k=some o
    rcases h with ⟨⟨d,hd,e⟩,rfl⟩ | hz
    . exact zR_d _ hne (e ▸ hd)
    . refine zR_z _ hne hz (fun d hd e=>?_)
      have h1:=(hdq d hd k e).heap
      rw [(hc.z k o hz).heap] at h1
      exact aBr h1
 have FB:aV H mB m1' a1 tm1 top1:=by
  refine ⟨⟨hinv1,s1.size,fun j p v hp hv=>(s1.rel j p v hp hv).keep hK1,rfl,s1.free,⟨rfl,rfl,rfl,aBo _,fun _ _ _ _=>rfl,fun _ _=>rfl,fun _ _=>Iff.rfl,fun k hk=>.inr hk⟩,s1.tsz,s1.prot⟩,V1,?_⟩
  refine ⟨c1.one,c1.used,fun k h=>h,fun k h _=>h,fun k hk e=>c1.mine k hk (mine_put q1.mine e),fun i Y st hb=>?_,qz,c1.nd,(fun h=>by cases h),fun d hd=>?_,fun l i b v k e1 e2 e3 e4=>c1.far l i b v k e1 e2 e3 (Blk.has_back e4 fun j hj=>bD (fun e=>nm1 (l+1) i b v e1 e2 e3 (e ▸ hj)))⟩
  . obtain ⟨e1,e2,e3⟩:=c1.gen i Y st hb
    exact ⟨e1,e2,e2 st V1 m1.w m1.U _ m1.U ⟨rfl,rfl,rfl,Nat.le_of_eq hsz1.symm,fun _ _=>Iff.rfl,fun k _ hk=>bD (fun e=>hk (e ▸ q1.used)),fun k hk=>bD (fun e=>q1.out (e ▸ hk)),hinv1.lt⟩ c1.used s1.inv.lt e3⟩
  . obtain ⟨D,e1,e2⟩:=c1.d d hd
    refine ⟨D,e1,quiet_put e2 q1.mine (fun e=>?_) ob⟩
    rw [e] at e2
    have:=e2.heap.symm.trans q1.heap
    cases this
 refine wpIn_mono (hB (some L) mB _ tm1 top1 m1' a1 (fun l e=>by cases e;exact ⟨_,by show zR m0 a L ob L=_;rw [zR_rec,<- hob]⟩) (fun h=>by cases h) hW3 (fun h=>by rw [hz] at h;cases h) hk1 FB) ?_
 rintro e2 a2 w2 ⟨hok2,tm2,top2,m2,rfl,hk2,s2,V2,c2⟩
 have q2:Quiet m2 top2 V2 L ob:=c2.z L _ (zR_rec m0 a L ob)
 have hq2:m2.w.heap[L]? = some (.loop (recL fn a ps asg body dft .busy none)):=by rw [hob];exact q2.heap
 have hL2:=(aBw.1 q2.heap).1
 have hlt:=hh.st.inv.lt
 have S1:=s1.since
 have S2:=s2.since
 have hz1:m.w.heap.size<=m1.w.heap.size:=S1.size
 have hz2:m1.w.heap.size<=m2.w.heap.size:=by have:=S2.size;rw [show mB.w.heap.size=m1.w.heap.size from hsz1] at this;exact this
 have mine1:∀ k,Mine m1 top1 k->m.w.heap.size<=k\/V k:=fun k hk=>(S1.fresh k hk).imp id (fun ⟨i,b,v,e1,e2,e3,e4⟩=>(hh.named 0 i b v k e1 e2 e3 e4).1)
 have mine2:∀ k,Mine m2 top2 k->m.w.heap.size<=k\/V k:=fun k hk=>by
  rcases S2.fresh k hk with h | h
  . left
    have h:(m1.w.putObj L ob).heap.size<=k:=h
    rw [hsz1] at h;omega
  . exact mine1 k (mine_put q1.mine h)
 have v1:∀ k,V1 k->m.w.heap.size<=k\/V k:=fun k hk=>by
  rcases aBl k m.w.heap.size with h | h
  . exact .inr (hVc k (c1.old k hk h))
  . exact .inl h
 have v2:∀ k,V2 k->m.w.heap.size<=k\/V k:=fun k hk=>by
  rcases aBl k m.w.heap.size with h | h
  . exact v1 k (c2.old k hk (by show k < (m1.w.putObj L ob).heap.size;rw [hsz1];omega))
  . exact .inl h
 have heap2:∀ k,k < m.w.heap.size -> ¬ V k->m2.w.heap[k]? = m.w.heap[k]?:=fun k hk hv=>by
  have e2:=S2.heap k (by show k < (m1.w.putObj L ob).heap.size;rw [hsz1];omega) (fun h=>(mine1 k (mine_put q1.mine h)).elim (fun h=>by omega) hv) (fun h=>(v1 k h).elim (fun h=>by omega) hv)
  have e1:=S1.heap k hk (fun ⟨i,b,v,e1,e2,e3,e4⟩=>hv (hh.named 0 i b v k e1 e2 e3 e4).1) (fun h=>hv (hVc k h))
  have hne:k≠L:=fun e=>hv (e ▸ hh.lrec)
  exact (e2.trans (bD hne)).trans e1
 have U2:∀ k,k < m.w.heap.size->(m2.U k↔m.U k):=fun k hk=>(S2.U k (by show k < (m1.w.putObj L ob).heap.size;rw [hsz1];omega)).trans (S1.U k hk)
 have os2:m2.w.os=m.w.os:=S2.os.trans S1.os
 have tape2:m2.w.tape=m.w.tape:=S2.tape.trans S1.tape
 have output2:m2.w.output=m.w.output:=S2.output.trans S1.output
 have up2:∀ l i,m2.ρ (l+1) i=m.ρ (l+1) i:=fun l i=>(S2.up l i).trans (S1.up l i)
 have far2:∀ l i b v,getB topS H (l+1) i=some b->b.live=true->m.ρ (l+1) i=some v -> ∀ k,b.has m2.w v k->b.has m.w v k:=fun l i b v e1 e2 e3 k e4=>
  hh.st.inv.back e1 e2 e3 (fun k' hu hk'=>by
   have e5:=hh.st.inv.lt k' hu
   have hkL:=(hh.named (l+1) i b v k' e1 e2 e3 hk').2
   have d1:=s1.since.heap k' e5 (fun ⟨i',b',v',d1,d2,d3,d4⟩=>by
    have:=hh.st.inv.inj (l+1) i b 0 i' b' v v' k' e1 e2 d1 d2 e3 d3 hk' d4
    cases this.1) (hc.far l i b v k' e1 e2 e3 hk')
   have e6:b.has m1.w v k':=Blk.has_fwd hk' (fun j hj=>s1.since.heap j (hh.st.inv.lt j (hh.st.inv.own (l+1) i b v j e1 e2 e3 hj)) (fun ⟨i',b',v',d1,d2,d3,d4⟩=>by
    have:=hh.st.inv.inj (l+1) i b 0 i' b' v v' j e1 e2 d1 d2 e3 d3 hj d4
    cases this.1) (hc.far l i b v j e1 e2 e3 hj))
   have e3':m1.ρ (l+1) i=some v:=(upρ l i).trans e3
   have d2:=S2.heap k' (by show k' < (m1.w.putObj L ob).heap.size;rw [hsz1];omega) (fun h=>by
    obtain ⟨i',b',v',d1,d2,d3,d4⟩:=mine_put q1.mine h
    have:=s1.inv.inj (l+1) i b 0 i' b' v v' k' e1 e2 d1 d2 e3' d3 e6 d4
    cases this.1) (c1.far l i b v k' e1 e2 e3' e6)
   exact (d2.trans (bD hkL)).trans d1) e4
 have nm2:∀ l i b v,getB top2 H l i=some b->b.live=true->m2.ρ l i=some v -> ¬ b.has m2.w v L:=fun l i b v e1 e2 e3 e4=>by
  cases l with
  | zero=>exact q2.mine ⟨i,b,v,e1,e2,e3,e4⟩
  | succ l=>rw [up2] at e3;exact (hh.named (l+1) i b v L e1 e2 e3 (far2 l i b v e1 e2 e3 L e4)).2 rfl
 have close:∀ (o3:Obj) (tm3:List PV),tm3.length=tm2.length->(∀ (j:Nat) p,tm3[j]? = some p->p = .any\/(j ∉ W/\tm2[j]? = some p)) ->
  YStep m.w m.U V (m2.w.putObj L o3) m2.U (fun k=>V k\/(m.w.heap.size<=k/\m2.U k))/\Held H m0 a L (fun k=>V k\/(m.w.heap.size<=k/\m2.U k)) ⟨m2.w.putObj L o3,m2.ρ,m2.U⟩ tm3 top2 o3:=by
  intro o3 tm3 hl3 hr3
  have hsz3:=oC m2.w L o3
  have hK3:Keep m2 ⟨m2.w.putObj L o3,m2.ρ,m2.U⟩:=⟨fun _ _ _ h=>h,Nat.le_of_eq hsz3.symm,fun k hk=>⟨hk.2,bD (fun e=>hk.2 (e ▸ q2.used))⟩⟩
  have hinv3:Inv ⟨m2.w.putObj L o3,m2.ρ,m2.U⟩ top2 H:=iU s2.inv rfl hK3 (fun l i b v k e1 e2 e3 e4=>bD (fun e=>nm2 l i b v e1 e2 e3 (e ▸ e4))) (fun _ _ h=>h) (fun k hk=>by show k < (m2.w.putObj L o3).heap.size;rw [hsz3];exact s2.inv.lt k hk)
  have toV:∀ k,m2.U k->(m.w.heap.size<=k\/V k)->V k\/(m.w.heap.size<=k/\m2.U k):=fun k hu h=>h.elim (fun h=>.inr ⟨h,hu⟩) .inl
  refine ⟨⟨os2,tape2,output2,by rw [hsz3];omega,U2,fun k hk hv=>(bD (fun e=>hv (by rw [e];exact hh.lrec))).trans (heap2 k hk hv),fun k h=>.inl h,fun k h=>h.imp id (·.1),fun k h=>h.elim (fun h=>(U2 k (hlt k (hVU k h))).2 (hVU k h)) (·.2),hinv3.lt⟩,?_⟩
  have t:=hh.st.since
  refine ⟨⟨hinv3,?_,fun j p v hp hv=>?_,rfl,s2.free,⟨os2.trans t.os,tape2.trans t.tape,output2.trans t.output,by show _<=(m2.w.putObj L o3).heap.size;rw [hsz3];have:=t.size;omega,fun k hk hm hv=>?_,fun l i=>(up2 l i).trans (t.up l i),fun k hk=>(U2 k (aBk hk t.size)).trans (t.U k hk),fun k hk=>?_⟩,hh.st.tsz,hh.st.prot⟩,⟨V2,⟨c2.one,c2.used,fun k h=>c2.more k (c1.more k (hc.more k h)),fun k h hk=>?_,fun k hk e=>c2.mine k hk (mine_put q2.mine e),fun i Y st hb=>?_,fun k o hz=>?_,hc.nd,hc.late,fun d hd=>?_,fun l i b v k e1 e2 e3 e4=>c2.far l i b v k e1 e2 e3 (Blk.has_back e4 fun j hj=>bD (fun e=>nm2 (l+1) i b v e1 e2 e3 (e ▸ hj)))⟩,fun k h=>toV k (c2.used k h) (v2 k h),World.putObj_heap_same hL2,fun e=>q2.mine (mine_put q2.mine e),q2.out,q2.used⟩,fun k o hz=>⟨(hh.z k o hz).1,.inl (hh.z k o hz).2⟩,fun d hd D e=>⟨(hh.d d hd D e).1,.inl (hh.d d hd D e).2⟩,fun l i b v k e1 e2 e3 e4=>?_,.inl hh.lrec,fun k hk hu=>?_,hh.late⟩
  . show a.tmps.size=tm3.length
    rw [hl3,<- s2.size,hh.st.tsz,s2.tsz]
  . rcases hr3 j p hp with rfl | ⟨hj,hp2⟩
    . exact .any _
    . have hv2:a2.tmps[j]? = some v:=by rw [s2.prot j hj];exact hv
      exact (s2.rel j p v hp2 hv2).keep hK3
  . have hk':k < m.w.heap.size:=aBk hk t.size
    have e0:=t.heap k hk hm hv
    refine Eq.trans ?_ e0
    have hne:k≠L:=fun e=>absurd hk (by rw [e];exact Nat.not_lt.2 hh.late)
    have e2:=S2.heap k (by show k < (m1.w.putObj L ob).heap.size;rw [hsz1];omega) (fun h=>?_) (fun h=>?_)
    . have e1:=S1.heap k hk' (fun h=>?_) (fun h=>hv (hc.old k h hk))
      . exact ((bD hne).trans (e2.trans (bD hne))).trans e1
      . exact (t.fresh k h).elim (fun h=>absurd hk (by show ¬ k < m0.w.heap.size;exact Nat.not_lt.2 h)) hm
    . rcases S1.fresh k (mine_put q1.mine h) with h1 | h1
      . exact absurd hk' (Nat.not_lt.2 h1)
      . exact (t.fresh k h1).elim (fun h=>absurd hk (Nat.not_lt.2 h)) hm
    . exact hv (hc.old k (c1.old k h hk') hk)
  . rcases S2.fresh k (mine_put q2.mine hk) with h | h
    . left
      have h:(m1.w.putObj L ob).heap.size<=k:=h
      rw [hsz1] at h
      have:=t.size
      exact aBp this (aBp hz1 h)
    . rcases S1.fresh k (mine_put q1.mine h) with h1 | h1
      . exact .inl (aBp t.size h1)
      . exact t.fresh k h1
  . have hk':k < m.w.heap.size:=aBk hk t.size
    exact hc.old k (c1.old k (c2.old k h (by show k < (m1.w.putObj L ob).heap.size;rw [hsz1];omega)) hk') hk
  . obtain ⟨e1,e2,e3⟩:=c2.gen i Y st hb
    exact ⟨e1,e2,e2 st V2 m2.w m2.U _ m2.U ⟨rfl,rfl,rfl,Nat.le_of_eq hsz3.symm,fun _ _=>Iff.rfl,fun k _ hk=>bD (fun e=>hk (e ▸ q2.used)),fun k hk=>bD (fun e=>q2.out (e ▸ hk)),hinv3.lt⟩ c2.used s2.inv.lt e3⟩
  . have hne:=(hh.z k o hz).1
    refine quiet_put (c2.z k o (zR_z _ hne hz (fun d hd e=>?_))) q2.mine hne o3
    have h1:=(hdq d hd k e).heap
    rw [(hc.z k o hz).heap] at h1
    exact aBr h1
  . obtain ⟨D,e1,_⟩:=hc.d d hd
    have hne:=(hh.d d hd D e1).1
    exact ⟨D,e1,quiet_put (c2.z D _ (zR_d _ hne (e1 ▸ hd))) q2.mine hne o3⟩
  . cases l with
    | zero=>
      have e4:b.has m2.w v k:=Blk.has_back e4 fun j hj=>bD (fun e=>nm2 0 i b v e1 e2 e3 (e ▸ hj))
      have hm:Mine m2 top2 k:=⟨i,b,v,e1,e2,e3,e4⟩
      have hu:=s2.inv.own 0 i b v k e1 e2 e3 e4
      exact ⟨toV k hu (mine2 k hm),fun e=>q2.mine (e ▸ hm)⟩
    | succ l=>
      have e3':m.ρ (l+1) i=some v:=by rw [<- up2];exact e3
      have e4:b.has m2.w v k:=Blk.has_back e4 fun j hj=>bD (fun e=>nm2 (l+1) i b v e1 e2 e3 (e ▸ hj))
      have:=hh.named (l+1) i b v k e1 e2 e3' (far2 l i b v e1 e2 e3' k e4)
      exact ⟨.inl this.1,this.2⟩
  . have hk':k < m.w.heap.size:=aBk hk t.size
    exact (hh.old k hk ((U2 k hk').1 hu)).imp .inl id
 have leave:∀ (c:Code) (e:Exit),rK e=some c->maskK W tm2 (fun tm3=>K e tm3 top2) -> ∃ v w',(Instr.endRound L (some c)).run C.P m2.w = .ok v w' /\ ∃ (b:Bool) (U' V':Nat->Prop),Ending.returned v = .returned (.bool b)/\YStep m.w m.U V w' U' V' /\ ∃ ρ:Nat->Nat->Option Value,
  (b=true/\Nx/\Held H m0 a L V' ⟨w',ρ,U'⟩ tmS topN (.loop (recL fn a ps asg body dft .ready none))) \/
  (b=false /\ ∃ e c tmc topc,rK e=some c/\K e tmc topc/\Held H m0 a L V' ⟨w',ρ,U'⟩ tmc topc (.loop (recL fn a ps asg body dft .done (some c)))):=by
  intro c e hj hk
  obtain ⟨tm3,hk3,hl3,hr3⟩:=lG _ _ _ hk
  obtain ⟨y,hd⟩:=close (.loop (recL fn a ps asg body dft .done (some c))) tm3 hl3 hr3
  exact ⟨_,_,run_endRound (some c) hq2,false,m2.U,_,rfl,y,m2.ρ,.inr ⟨rfl,e,c,tm3,top2,hj,hk3,hd⟩⟩
 cases e2 with
 | normal=>
   obtain ⟨tm3,⟨hnx,s,hr⟩,hl3,hr3⟩:=lG _ _ _ hk2
   obtain ⟨y,hd⟩:=close (.loop (recL fn a ps asg body dft .ready none)) tm3 hl3 hr3
   exact ⟨_,_,run_endRound none hq2,true,m2.U,_,rfl,y,_,.inl ⟨rfl,hnx,hd.ref hr⟩⟩
 | ret=>exact leave .ret .ret rfl hk2
 | exit id=>exact leave (.exit id) (.exit id) rfl hk2
 | goto l=>exact leave (.goto l) (.goto l) rfl hk2
 | panic ch=>cases hok2
 | outgrown=>cases hok2
theorem lH {top:List Blk}:∀ (ps:List PV) (bs0:List Nat) (K:List PV->List Nat->List RowB->Prop),bs0.Nodup->capsK top ps bs0 K ->
 ∃ ps' bs G,K ps' bs G/\bs.length=G.length/\(bs0++bs).Nodup/\(∀ (g:Nat) i,bs[g]? = some i -> ∃ (r:RowB) (cs:List PV) (ds:List DV),G[g]? = some r/\top[i]? = some (.box cs)/\r.blk = .box (dpv ds)/\ds.length=cs.length /\
    ∀ (m:M) (u:Nat->Value),(∀ (j:Nat) p,cs[j]? = some p->RP m p (u j)) -> ∀ (j:Nat) y,ds[j]? = some y->RD m.w m.ok y (u j)) /\
   ∀ (m:M) (ba:List Nat),(bs0++bs) <+: ba->ps'.length=ps.length /\ ∀ (j:Nat) p' v,ps'[j]? = some p'->(∀ p,ps[j]? = some p->RP m p v)->RP (bX m ba) p' v
 | [],bs0,K,hnd,h=>⟨[],[],[],h,rfl,by simpa using hnd,fun g i hg=>by simp at hg,fun m ba _=>⟨rfl,fun j p' v hp=>by simp at hp⟩⟩
 | p::ps,bs0,K,hnd,h=>by
   have plain:∀ (p:PV),dvK p (fun x=>capsK top ps bs0 fun ps' bs' G=>K (.d x::ps') bs' G)->(∃ ps' bs G,K ps' bs G/\bs.length=G.length/\(bs0++bs).Nodup/\(∀ (g:Nat) i,bs[g]? = some i -> ∃ (r:RowB) (cs:List PV) (ds:List DV),G[g]? = some r/\top[i]? = some (.box cs)/\r.blk = .box (dpv ds)/\ds.length=cs.length /\
    ∀ (m:M) (u:Nat->Value),(∀ (j:Nat) p,cs[j]? = some p->RP m p (u j)) -> ∀ (j:Nat) y,ds[j]? = some y->RD m.w m.ok y (u j)) /\
    ∀ (m:M) (ba:List Nat),(bs0++bs) <+: ba->ps'.length=(p::ps).length /\ ∀ (j:Nat) p' v,ps'[j]? = some p'->(∀ q,(p::ps)[j]? = some q->RP m q v)->RP (bX m ba) p' v):=by
    intro p h
    have key:∃ x,(capsK top ps bs0 fun ps' bs' G=>K (.d x::ps') bs' G) /\ ∀ m v,RP m p v->RP m (.d x) v:=by
     unfold dvK at h
     split at h
     . exact ⟨_,h,fun m v hv=>hv⟩
     . exact ⟨_,h,fun m v hv=>by cases hv;exact dH _⟩
     . exact ⟨_,h,fun m v hv=>by cases hv;exact .d _ _ (.sl 0 [] none 0 0 default (fun _=>undef) rfl (aBo _) (by omega) (by omega) (by simp) (fun i x j y hx=>by simp at hx) (fun i x j y hx=>by simp at hx))⟩
     . exact ⟨_,h,fun m v hv=>by cases hv with | emp ad=>exact .d _ _ (.sl 0 [] (some ad) 0 0 default (fun _=>undef) rfl (aBo _) (by omega) (by omega) (by simp) (fun i x j y hx=>by simp at hx) (fun i x j y hx=>by simp at hx))⟩
     . exact h.elim
    obtain ⟨x,h,hx⟩:=key
    obtain ⟨ps',bs,G,hk,h1,h2,h3,h4⟩:=lH ps bs0 _ hnd h
    refine ⟨_,_,_,hk,h1,h2,h3,fun m ba hpre=>?_⟩
    obtain ⟨q1,q2⟩:=h4 m ba hpre
    refine ⟨by simp [q1],fun j p' v hp hv=>?_⟩
    cases j with
    | zero=>
      simp at hp
      subst hp
      exact RP.other (m:=m) (m':=bX m ba) rfl (fun _ h=>h) rfl (hx m v (hv p rfl))
    | succ j=>exact q2 j p' v (by simpa using hp) (fun p0 h0=>hv p0 (by simpa using h0))
   rw [capsK_cons] at h
   unfold capOneK at h
   split at h
   . rename_i i o
     obtain ⟨b,hb,h⟩:=getK_spec.1 h
     split at h
     case h_2=>exact h.elim
     rename_i cs
     split at h
     . exact h.elim
     . rename_i hno
       obtain ⟨ds,h,hdl,hds⟩:=dR h
       rw [lenK_spec] at h
       dsimp only at h
       rw [snocK_spec] at h
       have hni:i ∉ bs0:=fun hi=>by
        rw [List.any_eq_false] at hno
        exact hno i hi (by simp)
       obtain ⟨ps',bs,G,hk,h1,h2,h3,h4⟩:=lH ps _ _ (by
        rw [List.nodup_append]
        refine ⟨hnd,by simp,fun a ha b hb e=>?_⟩
        simp at hb;subst hb;subst e;exact hni ha) h
       refine ⟨_,_,_,hk,by simp [h1],by simpa using h2,fun g j hg=>?_,fun m ba hpre=>?_⟩
       . cases g with
         | zero=>simp at hg;subst hg;exact ⟨⟨0,0,[ds]⟩,cs,ds,rfl,hb,rfl,hdl,hds⟩
         | succ g=>exact h3 g j (by simpa using hg)
       . obtain ⟨q1,q2⟩:=h4 m ba (by simpa using hpre)
         refine ⟨by simp [q1],fun j p' v hp hv=>?_⟩
         cases j with
         | zero=>
           simp at hp
           subst hp
           have:=hv _ rfl
           cases this with
           | ptr _ _ _ g hρ=>
             refine .ptr _ _ _ g ?_
             obtain ⟨t,rfl⟩:=hpre
             simp [bX,hρ]
         | succ j=>exact q2 j p' v (by simpa using hp) (fun p0 h0=>hv p0 (by simpa using h0))
   . obtain ⟨x,hx⟩:∃ y:PV,y=p:=⟨p,rfl⟩
     refine plain p ?_
     unfold dvK at h ⊢
     split at h <;> first | exact h | exact h.elim
theorem wG {C:Cx} (hC:C.Ok) {H:List (List Blk)} {mo:List (Nat × Tr)} {asg body:Code} (hz:C.fcl=false) (hA:pB C H mo true asg) (hB:pB C H mo true body) {r:Option Nat} {m0:M0} {K:Exit->List PV->List Blk->Prop} {tm:List PV} {top:List Blk} {m:M} {a:Act} {g:Operand} {ps:Array Tmp}
 (hRC:∀ l,r=some l -> ∃ r0,m0.Z l=some (.loop r0)) (h:rangeK C g ps.toList (appL ps.toList (appL (dstsC asg) (dstsC body))) (wpM C H mo asg) (wpM C H mo body) K tm top) (hs:aV H m0 m a tm top) :
 (Code.rangeFunc g ps asg body).wpIn (FW r) 0 C.P (oA H m0 K) a m.w:=by
 unfold rangeK at h
 obtain ⟨p,hp,h⟩:=aT h
 split at h
 case h_2=>exact h.elim
 rename_i f cs
 simp only [ifK] at h
 split at h
 case h_2=>exact h.elim
 rename_i hpl
 obtain ⟨args,bs,G,h,hbl,hnd,hbs,hargs⟩:=lH cs [] _ List.nodup_nil h
 rw [List.nil_append] at hnd
 obtain ⟨top1,h,hl1,hd1,hs1⟩:=eH bs _ h
 unfold oP at h
 obtain ⟨xs,tmS,S,I,hIter,⟨hI0,s0,hr0⟩,hrounds,hend⟩:=h
 obtain ⟨st,Vc,calm⟩:=hs
 have hval:=uU st hp
 generalize hve:a.eval g=v at hval
 cases hval with
 | func _ _ _ fv cv e1 e2 r1 r2=>?_
 obtain rfl:fv = #[]:=Array.eq_empty_of_size_eq_zero e1.symm
 refine wpIn_rangeFunc ?_
 intro fn hfn
 have enter:∃ (L:Nat) (mk:List Deferred) (dft:Nat) (W1:World) (U1:Nat->Prop),(Instr.enterLoop fn a.tmps ps asg body r).run C.P m.w = .ok (L,mk) W1 /\
  St H { m0 with ds:=mk++a.defers } ⟨W1,m.ρ,U1⟩ { a with defers:=mk++a.defers } tm top/\Calm H m0 ⟨W1,m.ρ,U1⟩ (mk++a.defers) top Vc/\Quiet ⟨W1,m.ρ,U1⟩ top Vc L (.loop (recL fn a ps asg body dft .ready none)) /\
  m.w.heap.size<=L/\(∀ k,k < m.w.heap.size->(U1 k↔m.U k))/\(∀ d ∈ mk++a.defers,∀ D,d = { target:=.collected D,args:=#[] }->D≠L) /\
  m.w.heap.size<=W1.heap.size/\(∀ k,k < m.w.heap.size->W1.heap[k]? = m.w.heap[k]?):=by
  cases r with
  | none=>
    obtain ⟨a1,a2,a3⟩:=lE (ds:=a.defers) st ⟨calm.one,calm.used,calm.more,calm.old,calm.mine,calm.gen,calm.z,calm.nd,calm.late,calm.d,calm.far⟩ (.deferred (some []))
    have c2:Calm H m0 ⟨m.w.alloc (.deferred (some [])),m.ρ,fun k=>m.U k\/k=m.w.heap.size⟩ ({ target:=.collected m.w.heap.size,args:=#[] }::a.defers) top Vc:=by
     refine ⟨a2.one,a2.used,a2.more,a2.old,a2.mine,a2.gen,a2.z,List.nodup_cons.2 ⟨fun hm=>?_,a2.nd⟩,fun hr d hd D e=>?_,fun d hd=>?_,?_⟩
     . obtain ⟨D,q1,q2⟩:=calm.d _ hm
       cases q1
       have:=(aBw.1 q2.heap).1
       omega
     . rcases List.mem_cons.1 hd with rfl | hd
       . cases e;exact st.since.size
       . exact calm.late hr d hd D e
     . rcases List.mem_cons.1 hd with rfl | hd
       . exact ⟨_,rfl,a3⟩
       . exact a2.d d hd
     . exact a2.far
    obtain ⟨b1,b2,b3⟩:=lE (ds:={ target:=.collected m.w.heap.size,args:=#[] }::a.defers) a1 ⟨c2.one,c2.used,c2.more,c2.old,c2.mine,c2.gen,c2.z,c2.nd,c2.late,c2.d,c2.far⟩ (.loop (recL fn a ps asg body m.w.heap.size .ready none))
    refine ⟨(m.w.alloc (.deferred (some []))).heap.size,[{ target:=.collected m.w.heap.size,args:=#[] }],m.w.heap.size,_,_,by rw [World.size_alloc];exact run_enterLoop_outer _ _ _ _ _,⟨b1.inv,b1.size,b1.rel,rfl,b1.free,⟨b1.since.os,b1.since.tape,b1.since.output,b1.since.size,b1.since.heap,b1.since.up,b1.since.U,b1.since.fresh⟩,b1.tsz,b1.prot⟩,⟨b2.one,b2.used,b2.more,b2.old,b2.mine,b2.gen,b2.z,b2.nd,b2.late,b2.d,b2.far⟩,b3,by rw [World.size_alloc];omega,fun k hk=>?_,fun d hd D e=>?_,by show _<=((m.w.alloc (.deferred (some []))).alloc _).heap.size;rw [World.size_alloc,World.size_alloc];omega,fun k hk=>(cF _ _ _ (by rw [World.size_alloc];omega)).trans (cF _ _ _ hk)⟩
    . show ((m.U k\/k=m.w.heap.size)\/k=(m.w.alloc (.deferred (some []))).heap.size)↔m.U k
      rw [World.size_alloc]
      exact ⟨fun h=>h.elim (fun h=>h.elim id (fun h=>by omega)) (fun h=>by omega),fun h=>.inl (.inl h)⟩
    . rcases aA5.1 hd with hd | hd
      . simp at hd;rw [hd] at e;cases e;rw [World.size_alloc];omega
      . obtain ⟨D',q1,q2⟩:=calm.d d hd
        rw [q1] at e;cases e
        have:=(aBw.1 q2.heap).1
        rw [World.size_alloc];omega
  | some l0=>
    obtain ⟨r0,hr0⟩:=hRC l0 rfl
    obtain ⟨b1,b2,b3⟩:=lE (ds:=a.defers) st ⟨calm.one,calm.used,calm.more,calm.old,calm.mine,calm.gen,calm.z,calm.nd,calm.late,calm.d,calm.far⟩ (.loop (recL fn a ps asg body r0.defers .ready none))
    refine ⟨m.w.heap.size,[],r0.defers,_,_,run_enterLoop_inner (calm.z l0 _ hr0).heap _ _ _ _ _,b1,⟨b2.one,b2.used,b2.more,b2.old,b2.mine,b2.gen,b2.z,b2.nd,b2.late,b2.d,b2.far⟩,b3,aBo _,fun k hk=>⟨fun h=>h.elim id (fun h=>by omega),.inl⟩,fun d hd D e=>?_,by show _<=(m.w.alloc _).heap.size;rw [World.size_alloc];omega,fun k hk=>cF _ _ _ hk⟩
    obtain ⟨D',q1,q2⟩:=calm.d d hd
    rw [q1] at e;cases e
    have:=(aBw.1 q2.heap).1
    omega
 obtain ⟨L,mk,dft,W1,U1,hent,st1,calm1,q1,hL,hU1,hdL,hsz01,hheap01⟩:=enter
 let a':Act:={ a with defers:=mk++a.defers }
 let m1:M:=⟨W1,m.ρ,U1⟩
 have hinv1:Inv m1 top H:=st1.inv
 have hK01:Keep m m1:=⟨fun _ _ _ h=>h,hsz01,fun k hk=>⟨fun hu=>hk.2 ((hU1 k hk.1).1 hu),hheap01 k hk.1⟩⟩
 have inBs:∀ i,i ∈ bs -> ∃ (g:Nat) (cs:List PV),bs[g]? = some i/\top[i]? = some (.box cs):=fun i hi=>by
  obtain ⟨g,hg⟩:=aB4.1 hi
  obtain ⟨r',cs',ds,h1,h2,_⟩:=hbs g i hg
  exact ⟨g,cs',hg,h2⟩
 have gget:∀ (g:Nat) (r':RowB),G[g]? = some r' -> ∃ i,bs[g]? = some i:=fun g r' hg=>⟨_,aAf (by rw [hbl];exact (aAe.1 hg).1)⟩
 have givOf:∀ k,Mine (bX m1 bs) (G.map RowB.blk) k -> ∃ i cs v,i ∈ bs/\top[i]? = some (.box cs)/\m.ρ 0 i=some v/\blkOf v=some k:=by
  rintro k ⟨g,b,v,h1,h2,h3,h4⟩
  rw [aAi] at h1
  obtain ⟨r',hr',rfl⟩:=aBq.1 h1
  obtain ⟨i,hi⟩:=gget g r' hr'
  obtain ⟨r2,cs',_,h5,h6,h7,_⟩:=hbs g i hi
  rw [hr'] at h5;cases h5
  rw [h7] at h4
  simp only [bX,hi,Option.bind_some] at h3
  exact ⟨i,cs',v,aAg hi,h6,h3,h4⟩
 have hinvG:Inv (bX m1 bs) (G.map RowB.blk) []:=by
  refine ⟨fun l i b hb=>?_,fun l i b l' i' b' v v' k h1 h2 h3 h4 h5 h6 h7 h8=>?_,fun l i b v k h1 h2 h3 h4=>?_,hinv1.lt,Views.none fun i p e c h=>by
   rw [aAi] at h
   obtain ⟨r,_,hr⟩:=aBq.1 h
   have:=r.noSub
   rw [hr] at this;cases this⟩
  . cases l with
    | succ l=>simp [getB] at hb
    | zero=>
      simp only [getB,aAi] at hb
      obtain ⟨r',hr',rfl⟩:=aBq.1 hb
      obtain ⟨j,hj⟩:=gget i r' hr'
      obtain ⟨r2,cs',ds,q1',q2',q3',q4',q5'⟩:=hbs i j hj
      rw [hr'] at q1';cases q1'
      rw [q3']
      intro v hv
      simp only [bX,hj,Option.bind_some] at hv
      obtain ⟨gg,vs,e,rfl,w1,w2,w3⟩:=hinv1.blk 0 j _ q2' v hv
      refine ⟨gg,vs,e,rfl,w1,by rw [w2,kN,aAh,q4'],fun x p u hp hu=>?_⟩
      obtain ⟨y,hy,rfl⟩:=uX hp
      refine .d _ _ ((show u=(fun j=>(vs[j]?).getD undef) x from by simp [hu]) ▸ q5' m1 (fun j=>(vs[j]?).getD undef) (fun j' p' hp'=>?_) x y hy)
      have:j' < vs.size:=by rw [w2];exact (aAe.1 hp').1
      rw [Array.getElem?_eq_getElem this]
      exact w3 j' p' _ hp' (Array.getElem?_eq_getElem this)
  . cases l with
    | succ l=>simp [getB] at h1
    | zero=>cases l' with
      | succ l'=>simp [getB] at h3
      | zero=>
        simp only [getB,aAi] at h1 h3
        obtain ⟨r',hr',rfl⟩:=aBq.1 h1
        obtain ⟨r2,hr2,rfl⟩:=aBq.1 h3
        obtain ⟨j,hj⟩:=gget i r' hr'
        obtain ⟨j',hj'⟩:=gget i' r2 hr2
        obtain ⟨_,c1',_,q1',q2',q3',_⟩:=hbs i j hj
        obtain ⟨_,c2',_,q1'',q2'',q3'',_⟩:=hbs i' j' hj'
        rw [hr'] at q1';cases q1'
        rw [hr2] at q1'';cases q1''
        rw [q3'] at h7;rw [q3''] at h8
        simp only [bX,hj,hj',Option.bind_some] at h5 h6
        obtain ⟨_,rfl⟩:=hinv1.inj 0 j _ 0 j' _ v v' k q2' rfl q2'' rfl h5 h6 h7 h8
        exact ⟨rfl,(List.getElem?_inj (aAe.1 hj).1 hnd).1 (hj.trans hj'.symm)⟩
  . obtain ⟨i',cs',v',w1,w2,w3,w4⟩:∃ i cs v',i ∈ bs/\top[i]? = some (.box cs)/\m.ρ 0 i=some v'/\blkOf v'=some k:=by
     cases l with
     | succ l=>simp [getB] at h1
     | zero=>exact givOf k ⟨i,b,v,h1,h2,h3,h4⟩
    exact hinv1.own 0 i' _ v' k w2 rfl w3 w4
 let V0:Nat->Prop:=fun k=>U1 k /\ ¬ Mine (bX m1 bs) (G.map RowB.blk) k
 have notGiv:∀ l i b v k,getB top1 H l i=some b->b.live=true->m1.ρ l i=some v->b.has m1.w v k->getB top H l i=some b /\ ¬ Mine (bX m1 bs) (G.map RowB.blk) k:=fun l i b v k h1 h2 h3 h4=>by
  have hb:getB top H l i=some b/\(l=0->i ∉ bs):=by
   cases l with
   | succ l=>exact ⟨h1,fun h=>by cases h⟩
   | zero=>
     simp only [getB] at h1 ⊢
     by_cases hi:i ∈ bs
     . have hlt:i < top.length:=by rw [<- hl1];exact (aAe.1 h1).1
       rw [hd1 i hi hlt] at h1;cases h1;cases h2
     . rw [hs1 i hi] at h1;exact ⟨h1,fun _=>hi⟩
  refine ⟨hb.1,fun hm=>?_⟩
  obtain ⟨i',cs',v',w1,w2,w3,w4⟩:=givOf k hm
  obtain ⟨rfl,rfl⟩:=hinv1.inj l i b 0 i' _ v v' k hb.1 h2 w2 rfl h3 w3 h4 w4
  exact hb.2 rfl w1
 have mineTop:∀ k,Mine m1 top1 k->Mine m1 top k:=fun k ⟨i,b,v,h1,h2,h3,h4⟩=>⟨i,b,v,(notGiv 0 i b v k h1 h2 h3 h4).1,h2,h3,h4⟩
 have givMine:∀ k,Mine (bX m1 bs) (G.map RowB.blk) k->Mine m1 top k:=fun k hm=>by
  obtain ⟨i',cs',v',w1,w2,w3,w4⟩:=givOf k hm
  exact ⟨i',_,v',w2,rfl,w3,w4⟩
 have quiet0:∀ k o,Quiet m1 top Vc k o->Quiet m1 top1 Vc k o/\V0 k:=fun k o q=>⟨⟨q.heap,fun hm=>q.mine (mineTop k hm),q.out,q.used⟩,q.used,fun hm=>q.mine (givMine k hm)⟩
 have gen1:∀ (i:Nat) Y st,top1[i]? = some (.gen Y st)->top[i]? = some (.gen Y st):=fun i Y st hi=>by
  by_cases hb:i ∈ bs
  . have hlt:i < top.length:=by rw [<- hl1];exact (aAe.1 hi).1
    rw [hd1 i hb hlt] at hi;cases hi
  . rwa [hs1 i hb] at hi
 have sameTop:∀ (i:Nat) b,top1[i]? = some b->b.vd=true->top[i]? = some b:=fun i b h hvd=>by
  by_cases hb:i ∈ bs
  . have hlt:i < top.length:=by rw [<- hl1];exact (aAe.1 h).1
    rw [hd1 i hb hlt] at h;cases h;cases hvd
  . rwa [hs1 i hb] at h
 have held0:Held H m0 a' L V0 m1 tm top1 (.loop (recL fn a ps asg body dft .ready none)):=by
  have hinvT:Inv m1 top1 H:=⟨fun l i b hb=>by
   cases hlv:b.live with
   | false=>cases b <;> simp [Blk.live] at hlv <;> exact True.intro
   | true=>
     cases hρ:m1.ρ l i with
     | none=>cases b <;> first | trivial | (intro v h;rw [hρ] at h;cases h)
     | some v=>
       have hb':getB top H l i=some b:=by
        cases l with
        | succ l=>exact hb
        | zero=>
          simp only [getB] at hb ⊢
          by_cases hi:i ∈ bs
          . have hlt:i < top.length:=by rw [<- hl1];exact (aAe.1 hb).1
            rw [hd1 i hi hlt] at hb;cases hb;cases hlv
          . rwa [hs1 i hi] at hb
       exact hinv1.blk l i b hb',fun l i b l' i' b' v v' k h1 h2 h3 h4 h5 h6 h7 h8=>hinv1.inj l i b l' i' b' v v' k (notGiv l i b v k h1 h2 h5 h7).1 h2 (notGiv l' i' b' v' k h3 h4 h6 h8).1 h4 h5 h6 h7 h8,fun l i b v k h1 h2 h3 h4=>hinv1.own l i b v k (notGiv l i b v k h1 h2 h3 h4).1 h2 h3 h4,hinv1.lt,hinv1.sub.of (fun i p e c v h1 h2=>⟨sameTop i _ h1 rfl,h2⟩) (fun p V hV=>hV) (fun p et sz xs V h1 h2=>⟨sameTop p _ h1 rfl,fun _ _=>rfl⟩)⟩
  have t:=st1.since
  have hlate:m0.w.heap.size<=m.w.heap.size:=st.since.size
  refine ⟨⟨hinvT,st1.size,st1.rel,rfl,fun j hj=>st1.free j (by rwa [<- hl1]),⟨t.os,t.tape,t.output,t.size,t.heap,t.up,t.U,fun k hk=>t.fresh k (mineTop k hk)⟩,st1.tsz,st1.prot⟩,⟨Vc,⟨fun i j Y s Y' s' h1 h2=>calm1.one i j Y s Y' s' (gen1 i Y s h1) (gen1 j Y' s' h2),calm1.used,calm1.more,calm1.old,fun k hk hm=>calm1.mine k hk (mineTop k hm),fun i Y s hi=>calm1.gen i Y s (gen1 i Y s hi),fun k o hz=>(quiet0 k o (calm1.z k o hz)).1,calm1.nd,calm1.late,fun d hd=>?_,fun l i b v k h1 h2 h3 h4=>calm1.far l i b v k h1 h2 h3 h4⟩,fun k hk=>⟨calm1.used k hk,fun hm=>calm1.mine k hk (givMine k hm)⟩,(quiet0 L _ q1).1⟩,fun k o hz=>⟨?_,(quiet0 k o (calm1.z k o hz)).2⟩,fun d hd D e=>⟨hdL d hd D e,?_⟩,fun l i b v k h1 h2 h3 h4=>?_,(quiet0 L _ q1).2,fun k hk hu=>?_,aBp hlate hL⟩
  . obtain ⟨D,e1,e2⟩:=calm1.d d hd
    exact ⟨D,e1,(quiet0 D _ e2).1⟩
  . have:=(aBw.1 (calm.z k o hz).heap).1
    omega
  . obtain ⟨D',e1,e2⟩:=calm1.d d hd
    rw [e1] at e;cases e
    exact (quiet0 _ _ e2).2
  . obtain ⟨w1,w2⟩:=notGiv l i b v k h1 h2 h3 h4
    refine ⟨⟨hinv1.own l i b v k w1 h2 h3 h4,w2⟩,fun e=>?_⟩
    have:=st.inv.lt k (st.inv.own l i b v k w1 h2 h3 (st.inv.back w1 h2 h3 (fun k' hu _=>hheap01 k' (st.inv.lt k' hu)) h4))
    omega
  . by_cases hm:Mine (bX m1 bs) (G.map RowB.blk) k
    . rcases st.since.fresh k (gW (m:=m) (m':=m1) rfl (fun j ⟨i,b,v,e1,e2,e3,e4⟩=>hheap01 j (st.inv.lt j (st.inv.own 0 i b v j e1 e2 e3 e4))) (givMine k hm)) with h1 | h1
      . exact absurd hk (Nat.not_lt.2 h1)
      . exact .inr (.inl h1)
    . exact .inl ⟨hu,hm⟩
 have heldS:=held0.ref hr0
 let Y:Yield:=⟨C.P,xs,fun st V w U=>∃ ρ:Nat->Nat->Option Value,match st with
  | some k=>I k/\Held H m0 a' L V ⟨w,ρ,U⟩ tmS (S k) (.loop (recL fn a' ps asg body dft .ready none))
  | none=>∃ e c tmc topc,rK e=some c/\K e tmc topc/\Held H m0 a' L V ⟨w,ρ,U⟩ tmc topc (.loop (recL fn a' ps asg body dft .done (some c)))⟩
 have hY:YieldOk Y (.func (.yield L) #[] #[]):=by
  refine ⟨fun st V w U w' U' hab hVU hU hJ=>?_,L,rfl,fun k x V U w vs hx hJ hVU hU hl hry=>?_⟩
  . obtain ⟨ρ,hJ⟩:=hJ
    refine ⟨ρ,?_⟩
    cases st with
    | some k=>exact ⟨hJ.1,Held.abide (m:=⟨w,ρ,U⟩) hJ.2 hab hVU⟩
    | none=>
      obtain ⟨e,c,tmc,topc,h1,h2,h3⟩:=hJ
      exact ⟨e,c,tmc,topc,h1,h2,Held.abide (m:=⟨w,ρ,U⟩) h3 hab hVU⟩
  . obtain ⟨ρ,hJ⟩:=hJ
    have hr:=round_spec hz hA hB (m:=⟨w,ρ,U⟩) hJ.2 (K:=K) (Nx:=I (k+1)) (W:=appL ps.toList (appL (dstsC asg) (dstsC body))) (fun d hd=>dY.2 (.inl hd)) (fun d hd=>dY.2 (.inr (dY.2 (.inl hd)))) (fun d hd=>dY.2 (.inr (dY.2 (.inr hd)))) (hrounds k x hx hJ.1) hVU hl hry
    refine YieldAt.mono hr ?_
    rintro e w' ⟨b,U',V',rfl,hst,ρ',h⟩
    refine ⟨b,U',V',rfl,hst,ρ',?_⟩
    rcases h with ⟨rfl,h⟩ | ⟨rfl,h⟩
    . exact h
    . exact h
 unfold kK at hIter
 have hcall:=hIter Y V0 (bX m1 bs) cv (.func (.yield L) #[] #[]) rfl rfl hY hinvG (fun i hi=>by simp [bX,List.getElem?_eq_none (show bs.length<=i by omega)]) (((hargs m1 bs (by simp)).1).trans e2) (fun j p v hp hv=>(hargs m1 bs (by simp)).2 j p v hp (fun p0 h0=>(r2 j p0 v h0 hv).keep hK01)) (fun k hk=>hk.1) (fun k hk=>hk.2) ⟨_,hI0,heldS⟩
 refine ⟨L,mk,W1,{ target:=.fn (.func f) cv,args:=#[.func (.yield L) #[] #[]] },W1,f,#[.func (.yield L) #[] #[]]++cv,W1,hent,?_,fun _ _=>trivial,?_,(fun h=>by cases h),?_⟩
 . simp only [resolve,hve]
   simp [go_sem]
 . exact gS hC hpl _ _
 refine rZ (hcall.mono ?_)
 rintro e w' ⟨rv,U',V',st',rfl,_,_,_,_,_,_,_,_,_,_,⟨ρ,hJ⟩,hst⟩
 rcases hst with rfl | rfl
 . obtain ⟨hI,hJ⟩:I xs.length/\Held H m0 a' L V' ⟨w',ρ,U'⟩ tmS (S xs.length) (.loop (recL fn a' ps asg body dft .ready none)):=hJ
   obtain ⟨V2,_,_,q2⟩:=hJ.calm
   refine ⟨none,_,run_endLoop q2.heap (by simp [recL]),?_⟩
   have hJ':=hJ.obj (.loop { recL fn a' ps asg body dft .ready none with state:=.exhausted })
   obtain ⟨V3,c3,_,_⟩:=hJ'.calm
   exact ⟨rfl,tmS,S xs.length,_,rfl,hend hI,hJ'.st,V3,c3⟩
 . obtain ⟨e,c,tmc,topc,h1,h2,hJ⟩:=hJ
   obtain ⟨V2,_,_,q2⟩:=hJ.calm
   refine ⟨some c,_,run_endLoop q2.heap (by simp [recL]),?_⟩
   have hJ':=hJ.obj (.loop { recL fn a' ps asg body dft .done (some c) with state:=.exhausted })
   obtain ⟨V3,c3,_,_⟩:=hJ'.calm
   have fin:okE e=true->oA H m0 K e a' (w'.putObj L (.loop { recL fn a' ps asg body dft .done (some c) with state:=.exhausted })):=fun hok=>⟨hok,tmc,topc,_,rfl,h2,hJ'.st,V3,c3⟩
   cases e with
   | ret=>cases h1;exact wpIn_ret (fin rfl)
   | exit id=>cases h1;exact wpIn_exit (fin rfl)
   | goto l=>cases h1;exact wpIn_goto (fin rfl)
   | _=>cases h1
theorem mK {C:Cx} {f:Nat} {G:List RowB} {args:List PV} {ps W:List Nat} {asg body:(Exit->List PV->List Blk->Prop)->List PV->List Blk->Prop} {K:Exit->List PV->List Blk->Prop} {tm:List PV} {top:List Blk}
 (xs:List (List YV)) (tmS:List PV) (S:Nat->List Blk) (I:Nat->Prop) (s:List Nat) (h1:kK C f G args xs) (h0:I 0) (h2:Ref s tm top tmS (S 0))
 (h3:∀ k x,xs[k]? = some x->I k->putPs ps x tmS fun tmr=>asg (fun e tm1 top1=>match e with
   | .normal=>body (fun e tm2 top2=>match e with
      | .normal=>maskK W tm2 fun tm3=>I (k+1) /\ ∃ s,Ref s tm3 top2 tmS (S (k+1))
      | e=>maskK W tm2 fun tm3=>K e tm3 top2) tm1 top1
   | _=>False) tmr (S k)) (h4:I xs.length->K .normal tmS (S xs.length)):oP C f G args ps W asg body K tm top:=by
 unfold oP
 exact ⟨xs,tmS,S,I,h1,⟨h0,s,h2⟩,h3,h4⟩
end Go.Proofs.Ve
