/- TreeAgain, part 2 of 7. The engine and the contracts that the proof needs. -/
import Derived.Test.YtingjgfoihjelaaTreeAgainJ1
set_option maxRecDepth 100000
set_option maxHeartbeats 20000000
set_option linter.all false
open List renaming getElem?_eq_some_iff -> aAe, getElem?_eq_getElem -> aAf, mem_of_getElem? -> aAg, length_map -> aAh, getElem?_map -> aAi, getElem?_append_right -> aAj, getElem?_append_left -> aAk, length_take -> aAl, length_append -> aAm, length_cons -> aAn, length_nil -> aAo, length_set -> aAp, length_drop -> aAq, getElem?_set_self -> aAr, getElem?_set_ne -> aAs, take_of_length_le -> aAt, mem_cons_self -> aAu, mem_cons_of_mem -> aAv, take_length -> aAw, map_map -> aAx, mem_singleton -> aAy, drop_eq_nil_of_le -> aAz, getElem?_take -> aA0, getElem?_drop -> aA1, getD_eq_getElem?_getD -> aA2, pairwise_cons -> aA3, pairwise_append -> aA4, mem_append -> aA5, mem_of_mem_take -> aA6, mem_of_mem_drop -> aA7, mem_flatMap -> aA8, getElem?_cons_zero -> aA9, getElem?_cons_succ -> aBa, append_assoc -> aBb, mem_map -> aBc, all_eq_true -> aBd, mem_range -> aBe, getElem_mem -> aBf, drop_eq_getElem_cons -> aBg, length_replicate -> aBh, getElem?_toArray -> aBx, mem_iff_getElem? -> aB4
open Int renaming toNat_natCast -> aBi
open Nat renaming eq_of_beq_eq_true -> aBj, lt_of_lt_of_le -> aBk, lt_or_ge -> aBl, lt_succ_self -> aBm, zero_le -> aBn, le_refl -> aBo, le_trans -> aBp, le_succ -> aBu, sub_self -> aB2, add_sub_cancel -> aB3
open Option renaming map_eq_some_iff -> aBq, map_some -> aBz, getD_some -> aB0
open Option.some renaming inj -> aBr
open Bool renaming and_eq_true -> aBs, false_ne_true -> aBt, or_eq_true -> aB1
open Array renaming getElem?_toList -> aBv, getElem?_eq_some_iff -> aBw, length_toList -> aBy
namespace Go.Proofs.Ve
open Go
def lY (m:M) (top:List Blk) (bs:List Nat) (k:Nat):Prop:=∃ i b v,i ∈ bs/\top[i]? = some b/\m.ρ 0 i=some v/\b.has m.w v k
def iM (m:M) (top:List Blk) (bs:List Nat):M:=⟨m.w,fun l i=>match l with | 0=>none | l+1=>m.ρ l i,fun k=>m.U k /\ ¬ lY m top bs k⟩
theorem kM {m:M} {top:List Blk} {bs:List Nat} (k:Nat) (h:m.ok k):(iM m top bs).ok k:=⟨h.1,fun hu=>h.2 hu.1⟩
theorem pV {m:M} {top:List Blk} {bs:List Nat} {x:DV} {v:Value} (h:RD m.w m.ok x v):RD (iM m top bs).w (iM m top bs).ok x v:=h.mono fun k hk=>⟨kM k hk,rfl⟩
theorem rQ {m:M} {top:List Blk} {H:List (List Blk)} (hinv:Inv m top H) {i n c:Nat} {A:Option Addr} {e sz:Nat} {xs:List (List DV)} (hb:top[i]? = some (.row e sz xs)) {N:Nat}
 (hρ:m.ρ 0 i=some (.slice A N c)) (hn:n<=N) (hc:N<=c) {m':M} (hw:m'.w=m.w) (hok:∀ k,m.ok k->m'.ok k) (hg:∀ k,blkOf (.slice A N c)=some k -> ¬ m'.U k):RD m'.w m'.ok (.sl (xs.take n)) (.slice A n c):=by
 obtain ⟨hp,hxs,flat,ho,hrd⟩:=hinv.blk 0 i _ hb _ hρ
 have hfl:flat.length=xs.length*sz:=ho.1
 have hnx:N=xs.length/\c<=9223372036854775807/\(A=none->N=0) /\ ∀ a,A=some a->a=⟨a.block,0,none⟩:=by
  rcases ho.2 with ⟨h,h0⟩ | ⟨g,cap,cur,h,_,_,h1,h2,_⟩
  . simp only [Value.slice.injEq] at h
    obtain ⟨rfl,rfl,rfl⟩:=h
    exact ⟨h0.symm,by omega,(fun _=>rfl),(fun a ha=>by cases ha)⟩
  . simp only [Value.slice.injEq] at h
    obtain ⟨rfl,rfl,rfl⟩:=h
    unfold maxLen at h2
    exact ⟨rfl,h2,(fun h=>by cases h),(fun a ha=>by cases ha;rfl)⟩
 obtain ⟨hN,hc9,hA0,hA1⟩:=hnx
 have hok':∀ k,m.ok k->m'.ok k/\m'.w.heap[k]? = m.w.heap[k]?:=fun k hk=>⟨hok k hk,by rw [hw]⟩
 cases A with
 | none=>
   have h0:=hA0 rfl
   obtain rfl:n=0:=by omega
   exact .sl sz _ none 0 c default (fun _=>undef) (by simp) (aBn _) (by omega) (by omega) (by simp) (fun a x j y hx=>by simp at hx) (fun a x j y hx=>by simp at hx)
 | some ad=>
   refine .sl sz _ (some ad) n c ad (fun k=>flat.getD k undef) (by rw [aAl];omega) (by omega) (by omega) (fun _=>rfl) (fun x hx=>hxs x (aA6 hx)) (fun a x j y hx hy=>?_) (fun a x j y hx hy=>?_)
   all_goals
    have hal:a < n:=by
     rcases aBl a n with h1 | h1
     . exact h1
     . rw [List.getElem?_eq_none (by rw [aAl];omega)] at hx;cases hx
    have hx':xs[a]? = some x:=by rwa [List.getElem?_take_of_lt hal] at hx
    have hjl:j < sz:=by rw [<- hxs x (aAg hx')];exact (aAe.1 hy).1
    have hlt:a*sz+j < flat.length:=by
     rw [hfl]
     have:a*sz+sz<=xs.length*sz:=by rw [<- Nat.succ_mul];exact Nat.mul_le_mul_right _ (by omega)
     omega
    have hf:flat[a*sz+j]? = some (flat.getD (a*sz+j) undef):=by rw [aA2,aAf hlt];rfl
   . refine ⟨⟨?_,hg _ rfl⟩,?_⟩
     . rw [hw];exact hinv.lt _ (hinv.own 0 i _ _ _ hb rfl hρ rfl)
     . rw [hw]
       have:=ho.cells (g:=ad.block) rfl _ _ hf
       rw [hA1 ad rfl]
       exact this
   . exact (hrd a x j y _ hx' hy hf).mono hok'
theorem pW {m:M} {e sz:Nat} {xs:List (List DV)} {v:Value} (h:RO m.w m.ok (.own e sz xs) v) {m':M} (hw:m'.w=m.w) (hok:∀ k,m.ok k->m'.ok k) (hg:∀ k,Ins m.w (.own e sz xs) v k->m'.ok k):RD m'.w m'.ok (.sl (plRows xs)) v:=by
 rw [hw];exact h.rd hok hg
def vS (top:List Blk) (p:PV) (bs:List Nat) (K:PV->List Nat->Prop):Prop:=
 ∃ p' bs',K p' bs'/\(∀ i ∈ bs,i ∈ bs')/\(∀ i ∈ bs',i ∈ bs \/ ∃ b,top[i]? = some b/\b.live=true) /\
   ∀ (m:M) (H:List (List Blk)) (bs2:List Nat) v,(∀ i ∈ bs',i ∈ bs2)->Inv m top H->RP m p v->RP (iM m top bs2) p' v
def xA (top:List Blk) (ps:List PV) (bs:List Nat) (K:List PV->List Nat->Prop):Prop:=
 ∃ ps' bs',K ps' bs'/\(∀ i ∈ bs,i ∈ bs')/\(∀ i ∈ bs',i ∈ bs \/ ∃ b,top[i]? = some b/\b.live=true) /\
   ∀ (m:M) (H:List (List Blk)) (bs2:List Nat),(∀ i ∈ bs',i ∈ bs2)->Inv m top H->ps'.length=ps.length /\ ∀ (j:Nat) p' v,ps'[j]? = some p'->(∀ p,ps[j]? = some p->RP m p v)->RP (iM m top bs2) p' v
theorem gQ {top:List Blk} {one:PV->List Nat->(PV->List Nat->Prop)->Prop} (ho:∀ p bs K,one p bs K->vS top p bs K):∀ (ps:List PV) (bs:List Nat) (K:List PV->List Nat->Prop),argsF one ps bs K->xA top ps bs K
 | [],bs,K,h=>⟨_,_,h,fun _ h=>h,fun _ h=>.inl h,fun m H bs2 _ _=>⟨rfl,fun j p' v hp=>by simp at hp⟩⟩
 | p::ps,bs,K,h=>by
   rw [argsF_cons] at h
   obtain ⟨p',bs1,h,h1,h2,h3⟩:=ho p bs _ h
   obtain ⟨ps',bs2,h,h4,h5,h6⟩:=gQ ho ps bs1 _ h
   refine ⟨_,_,h,fun j hj=>h4 j (h1 j hj),fun j hj=>?_,fun m H bs3 hs hinv=>?_⟩
   . rcases h5 j hj with h | h
     . exact h2 j h
     . exact .inr h
   . obtain ⟨l2,q2⟩:=h6 m H bs3 hs hinv
     refine ⟨by simp [l2],fun j q v hq hv=>?_⟩
     cases j with
     | zero=>simp at hq;subst hq;exact h3 m H bs3 v (fun j hj=>hs j (h4 j hj)) hinv (hv p rfl)
     | succ j=>exact q2 j q v hq (fun p0 h0=>hv p0 h0)
theorem iS {top:List Blk}:∀ (n:Nat) (p:PV) (bs:List Nat) (K:PV->List Nat->Prop),argF top n p bs K->vS top p bs K
 | 0,p,bs,K,h=>h.elim
 | n+1,.any,bs,K,h=>⟨_,_,h,fun _ h=>h,fun _ h=>.inl h,fun m H bs2 v _ _ _=>.any v⟩
 | n+1,.kb b,bs,K,h=>⟨_,_,h,fun _ h=>h,fun _ h=>.inl h,fun m H bs2 v _ _ hv=>by cases hv;exact dH _⟩
 | n+1,.ub,bs,K,h=>⟨_,_,h,fun _ h=>h,fun _ h=>.inl h,fun m H bs2 v _ _ hv=>by cases hv;exact .ub _⟩
 | n+1,.d x,bs,K,h=>⟨_,_,h,fun _ h=>h,fun _ h=>.inl h,fun m H bs2 v _ _ hv=>by cases hv with | d _ _ hx=>exact .d _ _ (pV hx)⟩
 | n+1,.nils,bs,K,h=>⟨_,_,h,fun _ h=>h,fun _ h=>.inl h,fun m H bs2 v _ _ hv=>by
     cases hv
     exact .d _ _ (.sl 0 [] none 0 0 default (fun _=>undef) rfl (aBo _) (by omega) (by omega) (by simp) (fun i x j y hx=>by simp at hx) (fun i x j y hx=>by simp at hx))⟩
 | n+1,.emp,bs,K,h=>⟨_,_,h,fun _ h=>h,fun _ h=>.inl h,fun m H bs2 v _ _ hv=>by
     cases hv with
     | emp ad=>exact .d _ _ (.sl 0 [] (some ad) 0 0 default (fun _=>undef) rfl (aBo _) (by omega) (by omega) (by simp) (fun i x j y hx=>by simp at hx) (fun i x j y hx=>by simp at hx))⟩
 | n+1,.row 0 i k,bs,K,h=>by
   change argOne top (argF top n) (.row 0 i k) bs K at h
   unfold argOne at h
   obtain ⟨b,hb,h⟩:=getK_spec.1 h
   split at h
   . rename_i e sz xs
     refine ⟨_,_,h,fun j hj=>aAv _ hj,fun j hj=>?_,fun m H bs2 v hs hinv hv=>?_⟩
     . cases hj with
       | head=>exact .inr ⟨_,hb,rfl⟩
       | tail _ hj=>exact .inl hj
     . cases hv with
       | row _ _ _ N c A hρ hn hc=>
         exact .d _ _ (rQ hinv hb hρ hn hc rfl (fun k hk=>kM k hk) (fun k hk hu=>hu.2 ⟨i,_,_,hs i aAu,hb,hρ,hk⟩))
   . rename_i e sz xs
     obtain ⟨rfl,h9⟩:=h
     refine ⟨_,_,h9,fun j hj=>aAv _ hj,fun j hj=>?_,fun m H bs2 v hs hinv hv=>?_⟩
     . cases hj with
       | head=>exact .inr ⟨_,hb,rfl⟩
       | tail _ hj=>exact .inl hj
     . cases hv with
       | row _ _ _ N c A hρ hn hc=>
         have hro:RO m.w m.ok (.own e sz xs) (.slice A N c):=hinv.blk 0 i _ hb _ hρ
         obtain ⟨flat,_,_,ho,_⟩:=hro.parts
         obtain rfl:=(owns_hdr ho).1
         exact .d _ _ (pW hro rfl (fun k hk=>kM k hk) (fun k hk=>⟨hinv.lt k (hinv.own 0 i _ _ k hb rfl hρ hk),fun hu=>hu.2 ⟨i,_,_,hs i aAu,hb,hρ,hk⟩⟩))
   . rename_i p e c
     unfold ownAtK at h
     obtain ⟨b',hb',h6⟩:=getK_spec.1 h
     split at h6
     case h_2=>exact h6.elim
     rename_i t0 sz0 xs0
     obtain ⟨x0,hx0,h7⟩:=h6
     obtain ⟨y,hy,h8⟩:=getK_spec.1 h7
     split at h8
     case h_2=>exact h8.elim
     rename_i e2 sz2 ys
     obtain ⟨rfl,h9⟩:=h8
     refine ⟨_,_,h9,fun j hj=>aAv _ hj,fun j hj=>?_,fun m H bs2 v hs hinv hv=>?_⟩
     . cases hj with
       | head=>exact .inr ⟨_,hb',rfl⟩
       | tail _ hj=>exact .inl hj
     . cases hv with
       | row _ _ _ N c2 A hρ hn hc=>
         obtain ⟨V,flat,hV,ho,hf,hro,hro2⟩:=hinv.at hb hb' hx0 hy hρ
         obtain ⟨flat2,_,_,ho2,_⟩:=hro2.parts
         obtain rfl:=(owns_hdr ho2).1
         have hin:∀ k,Ins m.w (.own e2 sz2 ys) (.slice A ys.length c2) k->Ins m.w (.own t0 sz0 xs0) V k:=fun k hk=>.cell _ _ _ _ _ flat e x0 c _ _ ho hx0 hy hf hk
         exact .d _ _ (pW hro2 rfl (fun k hk=>kM k hk) (fun k hk=>⟨hinv.lt k (hinv.own 0 p _ _ k hb' rfl hV (hin k hk)),fun hu=>hu.2 ⟨p,_,_,hs p aAu,hb',hV,hin k hk⟩⟩))
   . exact h.elim
 | n+1,.row (l+1) i k,bs,K,h=>h.elim
 | n+1,.ptr l i o,bs,K,h=>⟨_,_,h,fun _ h=>h,fun _ h=>.inl h,fun m H bs2 v _ _ hv=>by cases hv with | ptr _ _ _ g hρ=>exact .ptr _ _ _ _ hρ⟩
 | n+1,.rptr l i sz e j,bs,K,h=>h.elim
 | n+1,.iptr cs,bs,K,h=>⟨_,_,h,fun _ h=>h,fun _ h=>.inl h,fun m H bs2 v _ _ hv=>by
     cases hv with
     | iptr _ ad u hc hr=>exact .iptr _ _ u (fun j y hy=>⟨kM _ (hc j y hy).1,(hc j y hy).2⟩) (fun j y hy=>pV (hr j y hy))⟩
 | n+1,.func fn fs cs,bs,K,h=>by
   change argsF (argF top n) fs bs (fun fs' bs'=>argsF (argF top n) cs bs' fun cs' bs''=>K (.func fn fs' cs') bs'') at h
   obtain ⟨fs',bs1,h,h1,h2,h3⟩:=gQ (iS n) fs bs _ h
   obtain ⟨cs',bs2,h,h4,h5,h6⟩:=gQ (iS n) cs bs1 _ h
   refine ⟨_,_,h,fun j hj=>h4 j (h1 j hj),fun j hj=>?_,fun m H bs3 v hs hinv hv=>?_⟩
   . rcases h5 j hj with h | h
     . exact h2 j h
     . exact .inr h
   . cases hv with
     | func _ _ _ fv cv e1 e2 r1 r2=>
       obtain ⟨l1,q1⟩:=h3 m H bs3 (fun j hj=>hs j (h4 j hj)) hinv
       obtain ⟨l2,q2⟩:=h6 m H bs3 hs hinv
       exact .func _ _ _ _ _ (l1.trans e1) (l2.trans e2) (fun j p v hp hv=>q1 j p v hp (fun p0 h0=>r1 j p0 v h0 hv)) (fun j p v hp hv=>q2 j p v hp (fun p0 h0=>r2 j p0 v h0 hv))
 | n+1,.agg cs,bs,K,h=>by
   change argsF (argF top n) cs bs (fun cs' bs'=>K (.agg cs') bs') at h
   obtain ⟨cs',bs1,h,h1,h2,h3⟩:=gQ (iS n) cs bs _ h
   refine ⟨_,_,h,h1,h2,fun m H bs3 v hs hinv hv=>?_⟩
   cases hv with
   | agg _ vs e1 r1=>
     obtain ⟨l1,q1⟩:=h3 m H bs3 hs hinv
     exact .agg _ _ (l1.trans e1) (fun j p v hp hv=>q1 j p v hp (fun p0 h0=>r1 j p0 v h0 hv))
 | n+1,.tuple cs,bs,K,h=>h.elim
 | n+1,.lits xs,bs,K,h=>h.elim
theorem xB {top:List Blk} (p:PV) (bs:List Nat) (K:PV->List Nat->Prop) (h:argK top p bs K):vS top p bs K:=iS 8 p bs K h
theorem vT {top:List Blk} (ps:List PV) (bs:List Nat) (K:List PV->List Nat->Prop) (h:argsK top ps bs K):xA top ps bs K:=gQ (iS 8) ps bs K h
theorem eH {top:List Blk}:∀ (bs:List Nat) (K:List Blk->Prop),hideK top bs K -> ∃ top1,K top1/\top1.length=top.length/\(∀ i ∈ bs,i < top.length->top1[i]? = some .dead) /\ ∀ i,i ∉ bs->top1[i]? = top[i]?
 | [],K,h=>⟨top,h,rfl,(fun i hi=>by cases hi),(fun i _=>rfl)⟩
 | b::bs,K,h=>by
   obtain ⟨top1,h,hl,h1,h2⟩:=eH bs _ h
   obtain ⟨hlt,h⟩:=setK_spec.1 h
   refine ⟨_,h,by simp [hl],fun i hi hil=>?_,fun i hi=>?_⟩
   . by_cases hib:b=i
     . subst hib;simp [hlt]
     . rw [aAs hib]
       cases hi with
       | head=>exact absurd rfl hib
       | tail _ hi=>exact h1 i hi hil
   . have hib:b≠i:=fun e=>hi (e ▸ aAu)
     rw [aAs hib]
     exact h2 i (fun h=>hi (aAv _ h))
theorem yY {m:M} {top:List Blk} {H:List (List Blk)} (hinv:Inv m top H) {bs:List Nat} (hbs:∀ i ∈ bs,∃ b,top[i]? = some b/\b.live=true) {top1:List Blk} (hl:top1.length=top.length) (h1:∀ i ∈ bs,i < top.length->top1[i]? = some .dead) (h2:∀ i,i ∉ bs->top1[i]? = top[i]?) :
 Inv (iM m top bs) [] (top1::H):=by
 have old:∀ l i b,getB [] (top1::H) l i=some b->b.live=true -> ∃ l',l=l'+1/\getB top H l' i=some b/\(l'=0->i ∉ bs):=by
  intro l i b hb hlive
  cases l with
  | zero=>simp [getB] at hb
  | succ l=>
    refine ⟨l,rfl,?_⟩
    cases l with
    | zero=>
      simp only [getB,aA9,Option.bind_some] at hb
      by_cases hi:i ∈ bs
      . have hlt:i < top.length:=by rw [<- hl];exact (aAe.1 hb).1
        rw [h1 i hi hlt] at hb
        cases hb
        cases hlive
      . rw [h2 i hi] at hb
        exact ⟨hb,fun _=>hi⟩
    | succ l=>exact ⟨by simpa [getB] using hb,fun h=>by cases h⟩
 refine ⟨fun l i b hb=>?_,fun l i b l' i' b' v v' k hb hlb hb' hlb' hv hv' hk hk'=>?_,fun l i b v k hb hlb hv hk=>?_,fun k hk=>hinv.lt k hk.1,Views.none (fun i p e c h=>by simp at h)⟩
 . cases hlb:b.live with
   | false=>cases b <;> simp [Blk.live] at hlb <;> exact True.intro
   | true=>
     obtain ⟨l,rfl,hb2,hnb⟩:=old l i b hb hlb
     have hbo:=hinv.blk l i b hb2
     cases b with
     | dead=>trivial
     | gen Y st=>trivial
     | sub _ _ _=>trivial
     | box cs=>
       intro v hv
       obtain ⟨g,vs,e,rfl,hg,hs,hc⟩:=hbo v hv
       refine ⟨g,vs,e,rfl,hg,hs,fun j p u hp hu=>?_⟩
       have:=hc j p u hp hu
       exact RP.keep (m:=m.up l) (m':=(iM m top bs).up (l+1)) ⟨fun l' i' v' h'=>h',aBo _,fun k hk=>⟨fun hu=>hk.2 hu.1,rfl⟩⟩ this
     | row e sz xs=>
       intro v hv
       obtain ⟨h0,hx,flat,ho,hc⟩:=hbo v hv
       exact ⟨h0,hx,flat,ho,fun i x j y u hx hy hu=>pV (hc i x j y u hx hy hu)⟩
     | deep e sz xs=>exact fun v hv=>RO.mono (fun k hk=>⟨⟨hk.1,fun hu=>hk.2 hu.1⟩,rfl⟩) (hbo v hv) (fun _ _=>rfl)
 . obtain ⟨l,rfl,hb2,_⟩:=old l i b hb hlb
   obtain ⟨l',rfl,hb2',_⟩:=old l' i' b' hb' hlb'
   obtain ⟨h1,h2⟩:=hinv.inj l i b l' i' b' v v' k hb2 hlb hb2' hlb' hv hv' hk hk'
   exact ⟨by rw [h1],h2⟩
 . obtain ⟨l,rfl,hb2,hnb⟩:=old l i b hb hlb
   refine ⟨hinv.own l i b v k hb2 hlb hv hk,?_⟩
   rintro ⟨j,b3,v',hj,hb3,hv',hk'⟩
   obtain ⟨b4,hb4,hl4⟩:=hbs j hj
   rw [hb3] at hb4;cases hb4
   obtain ⟨rfl,rfl⟩:=hinv.inj l i b 0 j _ v v' k hb2 hlb hb3 hl4 hv hv' hk hk'
   exact hnb rfl hj
def iZ (m m2:M) (top:List Blk) (t n:Nat) (bs:List Nat):M:=
 ⟨m2.w,fun l i=>match l with | 0=>if t<=i/\i < t+n then m2.ρ 0 (i - t) else m.ρ 0 i | l+1=>m.ρ (l+1) i,fun k=>m2.U k\/lY m top bs k⟩
theorem uR {w w':World} {ok ok':Nat->Prop} {x:DV} {v:Value} (hf:x.flat=true) (h:RD w ok x v):RD w' ok' x v:=by
 cases h with
 | bool b=>exact .bool _
 | int k n=>exact .int _ _
 | str s=>exact .str _
 | junk v h=>cases hf
 | val v h=>cases hf
 | sl sz xs A n c ad u hn hc hm hA hs hcell hr=>
   cases xs with
   | cons x xs=>cases hf
   | nil=>exact .sl sz [] A n c ad u hn hc hm hA hs (fun i x j y hx=>by simp at hx) (fun i x j y hx=>by simp at hx)
def pX (b n:Nat) (p:PV) (K:PV->Prop):Prop:=
 ∃ q,K q /\ ∀ (m m3:M) v,(∀ i v,i < n->m.ρ 0 i=some v->m3.ρ 0 (b+i)=some v)->(p.flat=true \/ ∀ x v,RD m.w m.ok x v->RD m3.w m3.ok x v)->RP m p v->RP m3 q v
def yZ (b n:Nat) (ps:List PV) (K:List PV->Prop):Prop:=
 ∃ qs,K qs /\ ∀ (m m3:M),(∀ i v,i < n->m.ρ 0 i=some v->m3.ρ 0 (b+i)=some v)->(flats ps=true \/ ∀ x v,RD m.w m.ok x v->RD m3.w m3.ok x v) ->
   qs.length=ps.length /\ ∀ (j:Nat) q v,qs[j]? = some q->(∀ p,ps[j]? = some p->RP m p v)->RP m3 q v
theorem eZ {b n:Nat} {one:PV->(PV->Prop)->Prop} (ho:∀ p K,one p K->pX b n p K):∀ (ps:List PV) (K:List PV->Prop),adoptsF one ps K->yZ b n ps K
 | [],K,h=>⟨_,h,fun m m3 _ _=>⟨rfl,fun j q v hq=>by simp at hq⟩⟩
 | p::ps,K,h=>by
   rw [adoptsF_cons] at h
   obtain ⟨q,h,hq⟩:=ho p _ h
   obtain ⟨qs,h,hqs⟩:=eZ ho ps _ h
   refine ⟨_,h,fun m m3 hρ hf=>?_⟩
   have hf1:p.flat=true \/ ∀ x v,RD m.w m.ok x v->RD m3.w m3.ok x v:=hf.imp (fun h=>by simp [flats] at h;exact h.1) id
   have hf2:flats ps=true \/ ∀ x v,RD m.w m.ok x v->RD m3.w m3.ok x v:=hf.imp (fun h=>by simp [flats] at h;exact h.2) id
   obtain ⟨hl,hr⟩:=hqs m m3 hρ hf2
   refine ⟨by simp [hl],fun j q' v hq' hv=>?_⟩
   cases j with
   | zero=>simp at hq';subst hq';exact hq m m3 v hρ hf1 (hv p rfl)
   | succ j=>exact hr j q' v hq' (fun p0 h0=>hv p0 h0)
theorem fX {b n:Nat}:∀ (f:Nat) (p:PV) (K:PV->Prop),adoptF b n f p K->pX b n p K
 | 0,p,K,h=>h.elim
 | f+1,.d x,K,h=>⟨_,h,fun m m3 v _ hf hv=>by
     cases hv with
     | d _ _ hx=>
       rcases hf with hf | hf
       . exact .d _ _ (uR hf hx)
       . exact .d _ _ (hf _ _ hx)⟩
 | f+1,.kb x,K,h=>⟨_,h,fun m m3 v _ hf hv=>by cases hv;exact .kb _⟩
 | f+1,.nils,K,h=>⟨_,h,fun m m3 v _ hf hv=>by cases hv;exact .nils⟩
 | f+1,.emp,K,h=>⟨_,h,fun m m3 v _ hf hv=>by cases hv;exact .emp _⟩
 | f+1,.row 0 i k,K,h=>by
   change ifK (Nat.blt i n) (K (.row 0 (b+i) k)) at h
   simp only [ifK] at h
   split at h
   case h_2=>exact h.elim
   rename_i hlt
   have hlt:i < n:=by simpa [Nat.blt_eq] using hlt
   exact ⟨_,h,fun m m3 v hρ _ hv=>by cases hv with | row _ _ _ N c A e1 e2 e3=>exact .row _ _ _ _ _ _ (hρ i _ hlt e1) e2 e3⟩
 | f+1,.row (l+1) i k,K,h=>h.elim
 | f+1,.agg cs,K,h=>by
   change adoptsF (adoptF b n f) cs (fun cs'=>K (.agg cs')) at h
   obtain ⟨qs,h,hq⟩:=eZ (fX f) cs _ h
   refine ⟨_,h,fun m m3 v hρ hf hv=>?_⟩
   cases hv with
   | agg _ vs e r=>
     obtain ⟨hl,hr⟩:=hq m m3 hρ (hf.imp (fun h=>h) id)
     exact .agg _ _ (hl.trans e) (fun j p v hp hv=>hr j p v hp (fun p0 h0=>r j p0 v h0 hv))
 | f+1,.tuple cs,K,h=>by
   change adoptsF (adoptF b n f) cs (fun cs'=>K (.tuple cs')) at h
   obtain ⟨qs,h,hq⟩:=eZ (fX f) cs _ h
   refine ⟨_,h,fun m m3 v hρ hf hv=>?_⟩
   cases hv with
   | tuple _ vs e r=>
     obtain ⟨hl,hr⟩:=hq m m3 hρ (hf.imp (fun h=>h) id)
     exact .tuple _ _ (hl.trans e) (fun j p v hp hv=>hr j p v hp (fun p0 h0=>r j p0 v h0 hv))
 | f+1,.any,K,h=>h.elim
 | f+1,.ub,K,h=>h.elim
 | f+1,.ptr 0 i o,K,h=>by
   change ifK (Nat.blt i n) (K (.ptr 0 (b+i) o)) at h
   simp only [ifK] at h
   split at h
   case h_2=>exact h.elim
   rename_i hlt
   have hlt:i < n:=by simpa [Nat.blt_eq] using hlt
   exact ⟨_,h,fun m m3 v hρ _ hv=>by cases hv with | ptr _ _ _ g e1=>exact .ptr _ _ _ _ (hρ i _ hlt e1)⟩
 | f+1,.ptr (l+1) i o,K,h=>h.elim
 | f+1,.yld Y,K,h=>h.elim
 | f+1,.lits xs,K,h=>h.elim
 | f+1,.rptr l i sz e j,K,h=>h.elim
 | f+1,.iptr cs,K,h=>h.elim
 | f+1,.func fn fs cs,K,h=>by
   change adoptsF (adoptF b n f) fs (fun fs'=>adoptsF (adoptF b n f) cs fun cs'=>K (.func fn fs' cs')) at h
   obtain ⟨q1,h,h1⟩:=eZ (fX f) fs _ h
   obtain ⟨q2,h,h2⟩:=eZ (fX f) cs _ h
   refine ⟨_,h,fun m m3 v hρ hf hv=>?_⟩
   cases hv with
   | func _ _ _ fv cv e1 e2 r1 r2=>
     have hf1:flats fs=true \/ ∀ x v,RD m.w m.ok x v->RD m3.w m3.ok x v:=hf.imp (fun h=>by simp [PV.flat] at h;exact h.1) id
     have hf2:flats cs=true \/ ∀ x v,RD m.w m.ok x v->RD m3.w m3.ok x v:=hf.imp (fun h=>by simp [PV.flat] at h;exact h.2) id
     obtain ⟨l1,s1⟩:=h1 m m3 hρ hf1
     obtain ⟨l2,s2⟩:=h2 m m3 hρ hf2
     exact .func _ _ _ _ _ (l1.trans e1) (l2.trans e2) (fun j p v hp hv=>s1 j p v hp (fun p0 h0=>r1 j p0 v h0 hv)) (fun j p v hp hv=>s2 j p v hp (fun p0 h0=>r2 j p0 v h0 hv))
theorem nK {b n:Nat} (p:PV) (K:PV->Prop) (h:adoptK b n p K):pX b n p K:=fX 8 p K h
theorem cX:∀ (N:List RowB),blksOf N=N.map RowB.blk
 | []=>rfl
 | r::rs=>by rw [List.map_cons,<- cX rs];rfl
theorem kN:∀ (xs:List DV),dpv xs=xs.map .d
 | []=>rfl
 | x::xs=>by rw [List.map_cons,<- kN xs];rfl
theorem gR (r:RowB):r.blk = .box (dpv (headD r.xs))\/r.blk = .row r.e r.sz r.xs\/(Nat.ble 64 r.sz=true/\r.blk = .deep r.e (r.sz - 64) r.xs):=by
 unfold RowB.blk;split
 . exact .inl rfl
 . split
   . rename_i h;exact .inr (.inr ⟨h,rfl⟩)
   . exact .inr (.inl rfl)
theorem RowB.live (r:RowB):r.blk.live=true:=by rcases gR r with h | h | ⟨_,h⟩ <;> rw [h] <;> rfl
theorem RowB.noSub (r:RowB):r.blk.isSub=false:=by rcases gR r with h | h | ⟨_,h⟩ <;> rw [h] <;> rfl
theorem RowB.noGen (r:RowB):r.blk.isGen=false:=by rcases gR r with h | h | ⟨_,h⟩ <;> rw [h] <;> rfl
theorem nL (N:List RowB):fV (blksOf N)=true:=by
 rw [cX];unfold fV
 rw [aBd]
 intro b hb
 obtain ⟨r,_,rfl⟩:=aBc.1 hb
 rw [r.noGen];rfl
theorem xC {xs:List (List DV)} {y:DV} (h:y ∈ headD xs):∃ x ∈ xs,y ∈ x:=by
 cases xs with
 | nil=>cases h
 | cons x xs=>exact ⟨x,aAu ..,h⟩
theorem gK {m m':M} {l i l' i':Nat} (r:RowB) (hρ:m'.ρ l' i'=m.ρ l i) (hw:m'.w=m.w) (hrd:∀ x ∈ r.xs,∀ y ∈ x,∀ v,RD m.w m.ok y v->RD m'.w m'.ok y v) (hdp:Nat.ble 64 r.sz=true -> ∀ y v,RD m.w m.ok y v->RD m'.w m'.ok y v) (h:BlkOk m l i r.blk):BlkOk m' l' i' r.blk:=by
 rcases gR r with hb | hb | ⟨hd,hb⟩ <;> rw [hb] at h ⊢
 . intro v hv
   rw [hρ] at hv
   obtain ⟨g,vs,e,rfl,h1,h2,h3⟩:=h v hv
   refine ⟨g,vs,e,rfl,by rw [hw];exact h1,h2,fun j p u hp hu=>?_⟩
   have hr:=h3 j p u hp hu
   rw [kN,aAi] at hp
   obtain ⟨y,hy,rfl⟩:=aBq.1 hp
   obtain ⟨x,hx,hyx⟩:=xC (aAg hy)
   cases hr with | d _ _ hr=>exact .d _ _ (hrd x hx y hyx u hr)
 . intro v hv
   rw [hρ] at hv
   obtain ⟨h0,hx,flat,ho,hc⟩:=h v hv
   exact ⟨h0,hx,flat,by rw [hw];exact ho,fun a x j y u hx' hy hu=>hrd x (aAg hx') y (aAg hy) u (hc a x j y u hx' hy hu)⟩
 . intro v hv
   rw [hρ] at hv
   exact RO.move (hdp hd) (h v hv) (fun k _=>by rw [hw])
theorem vU {C:Cx} {H:List (List Blk)} {top:List Blk} {f:Nat} {args:List PV} {K:PV->List Blk->Prop} (h:callK C H top f args K) :
 ∃ pv top',K pv top'/\Ext top top' /\ ∀ (m:M) (vs:Array Value),Inv m top H->args.length=vs.size->(∀ (j:Nat) p v,args[j]? = some p->vs[j]? = some v->RP m p v)->(∀ j,top.length<=j->j < top'.length->m.ρ 0 j=none) ->
   Calls C.P f vs m.w fun e w'=>∃ v m',e = .returned v/\m'.w=w'/\Grow m m'/\(∀ l j,¬ (l=0/\top.length<=j/\j < top'.length)->m'.ρ l j=m.ρ l j)/\(∀ j b u k,top.length<=j->top'[j]? = some b->m'.ρ 0 j=some u->b.has m'.w u k->m.w.heap.size<=k)/\Inv m' top' H/\RP m' pv v:=by
 obtain ⟨args',bs,h,hin,hrows,hargs⟩:=vT args [] _ h
 obtain ⟨top1,h,hl1,hd1,hs1⟩:=eH bs _ h
 obtain ⟨r,N,hcall,hlent,h⟩:=h
 rw [lenK_spec,lenK_spec] at h
 obtain ⟨pv,h,hpv⟩:=nK r _ h
 rw [appK_spec] at h
 refine ⟨pv,_,h,Ext.app _ _ (nL N),fun m vs hinv hlen hrel hfree=>?_⟩
 have hbs:∀ i ∈ bs,∃ b,top[i]? = some b/\b.live=true:=fun i hi=>(hrows i hi).resolve_left (by simp)
 obtain ⟨hal,har⟩:=hargs m H bs (fun _ h=>h) hinv
 have hinv2:=yY hinv hbs hl1 hd1 hs1
 unfold aD at hcall
 refine (hcall (iM m top bs) vs hinv2 (fun _=>rfl) (hal.trans hlen) (fun j p v hp hv=>har j p v hp (fun p0 h0=>hrel j p0 v h0 hv))).mono ?_
 rintro e w' ⟨v,m2,rfl,rfl,hg,hup,hfresh,hi2,hr⟩
 have hNl:(blksOf N).length=N.length:=by rw [cX];simp
 rw [hNl] at hpv
 have htl:(top++blksOf N).length=top.length+N.length:=by rw [aAm,hNl]
 have hsz:m.w.heap.size<=m2.w.heap.size:=hg.size
 have lentU:∀ k,lY m top bs k->m.U k/\k < m.w.heap.size:=by
  rintro k ⟨i,b,v,hi,hb,hv,hk⟩
  obtain ⟨b',hb',hl⟩:=hbs i hi
  rw [hb] at hb';cases hb'
  have:=hinv.own 0 i _ v k hb hl hv hk
  exact ⟨this,hinv.lt k this⟩
 have hU:∀ k,k < m.w.heap.size->((m2.U k\/lY m top bs k)↔m.U k):=by
  intro k hk
  have h1:=hg.U k hk
  simp only [iM] at h1
  by_cases hL:lY m top bs k
  . exact ⟨fun _=>(lentU k hL).1,fun _=>.inr hL⟩
  . exact ⟨fun h=>by rcases h with h | h;exact (h1.1 h).1;exact absurd h hL,fun h=>.inl (h1.2 ⟨h,hL⟩)⟩
 have hG:Grow m (iZ m m2 top top.length N.length bs):=by
  refine ⟨hg.os,hg.tape,hg.output,hsz,hg.heap,fun l i v hv=>?_,fun k hk=>hU k hk⟩
  cases l with
  | succ l=>exact hv
  | zero=>
    simp only [iZ]
    rw [if_neg]
    . exact hv
    . rintro ⟨h1,h2⟩
      rw [hfree i h1 (by rw [htl];exact h2)] at hv
      cases hv
 have hold:∀ l i,¬ (l=0/\top.length<=i/\i < top.length+N.length)->(iZ m m2 top top.length N.length bs).ρ l i=m.ρ l i:=by
  intro l i hn
  cases l with
  | succ l=>rfl
  | zero=>
    simp only [iZ]
    rw [if_neg (fun h=>hn ⟨rfl,h⟩)]
 have hnew:∀ i,i < N.length->(iZ m m2 top top.length N.length bs).ρ 0 (top.length+i)=m2.ρ 0 i:=by
  intro i hi
  simp only [iZ]
  rw [if_pos ⟨by omega,by omega⟩,show top.length+i - top.length=i by omega]
 have getOld:∀ l i b,getB (top++blksOf N) H l i=some b->(getB top H l i=some b /\ ¬ (l=0/\top.length<=i/\i < top.length+N.length))\/(l=0 /\ ∃ j r,i=top.length+j/\j < N.length/\N[j]? = some r/\b=r.blk):=by
  intro l i b hb
  cases l with
  | succ l=>exact .inl ⟨hb,fun h=>by cases h.1⟩
  | zero=>
    simp only [getB] at hb ⊢
    rcases aBl i top.length with hi | hi
    . rw [aAk hi] at hb
      exact .inl ⟨hb,fun h=>by omega⟩
    . rw [aAj hi,cX,aAi] at hb
      obtain ⟨r,hr,rfl⟩:=aBq.1 hb
      exact .inr ⟨trivial,i - top.length,r,by omega,(aAe.1 hr).1,hr,rfl⟩
 have hplain:bs = [] -> ∀ x v,RD m2.w m2.ok x v->RD (iZ m m2 top top.length N.length bs).w (iZ m m2 top top.length N.length bs).ok x v:=by
  rintro rfl x v hx
  refine hx.mono fun k hk=>⟨⟨hk.1,?_⟩,rfl⟩
  rintro (h | ⟨i,_,_,hi,_⟩)
  . exact hk.2 h
  . cases hi
 have hflat:bs ≠ []->r.flat=true/\FlatN N:=by
  intro hne
  cases hbs':bs with
  | nil=>exact absurd hbs' hne
  | cons b bs'=>rw [hbs'] at hlent;exact hlent
 have newNot:∀ j r v k,N[j]? = some r->m2.ρ 0 j=some v->r.blk.has m2.w v k->m2.U k /\ ¬ lY m top bs k:=by
  intro j r v k hr hv hk
  have hb:getB (N.map RowB.blk) (top1::H) 0 j=some r.blk:=by simp [getB,hr]
  have hu:=hi2.own 0 j _ v k hb r.live hv hk
  refine ⟨hu,fun hL=>?_⟩
  have:=(hg.U k (lentU k hL).2).1 hu
  exact this.2 hL
 refine ⟨v,iZ m m2 top top.length N.length bs,rfl,rfl,hG,fun l j hj=>hold l j (by rwa [htl] at hj),(fun j b u k h1 h2 hu hk=>by
  have h3:=(aAe.1 h2).1
  rw [htl] at h3
  rw [aAj h1,cX] at h2
  exact hfresh (j - top.length) b u k h2 (by rw [<- hnew (j - top.length) (by omega),show top.length+(j - top.length)=j by omega];exact hu) hk),⟨fun l i b hb=>?_,fun l i b l' i' b' v1 v2 k hb hlb hb' hlb' hv1 hv2 hk1 hk2=>?_,fun l i b v1 k hb hlb hv1 hk=>?_,fun k hk=>?_,?_⟩,hpv m2 _ v (fun i v hi hv=>by rw [hnew i hi];exact hv) (by
  by_cases hne:bs = []
  . exact .inr (hplain hne)
  . exact .inl (hflat hne).1) hr⟩
 . rcases getOld l i b hb with ⟨hb1,hn⟩ | ⟨rfl,j,r',rfl,hj,hr',rfl⟩
   . exact (hinv.blk l i b hb1).keep hG.keep (hold l i hn) (fun u k hl hu hk=>hG.heap k (hinv.lt k (hinv.own l i b u k hb1 hl hu hk)))
   . refine gK r' (hnew j hj) rfl (fun x hx y hy u hu=>?_) (fun hd y u hu=>?_) (hi2.blk 0 j r'.blk (by simp [getB,hr']))
     rotate_left
     . by_cases hne:bs = []
       . exact hplain hne _ _ hu
       . rw [((hflat hne).2 r' (aAg hr')).1] at hd;cases hd
     by_cases hne:bs = []
     . exact hplain hne _ _ hu
     . exact uR (((hflat hne).2 r' (aAg hr')).2 x hx y hy) hu
 . rcases getOld l i b hb with ⟨hb1,hn⟩ | ⟨rfl,j,r',rfl,hj,hr',rfl⟩ <;> rcases getOld l' i' b' hb' with ⟨hb1',hn'⟩ | ⟨rfl,j',r'',rfl,hj',hr'',rfl⟩
   . rw [hold l i hn] at hv1;rw [hold l' i' hn'] at hv2
     exact hinv.inj l i b l' i' b' v1 v2 k hb1 hlb hb1' hlb' hv1 hv2 (hinv.grow hG hb1 hlb hv1 hk1) (hinv.grow hG hb1' hlb' hv2 hk2)
   . exfalso
     rw [hold l i hn] at hv1;rw [hnew j' hj'] at hv2
     obtain ⟨hu2,hnl⟩:=newNot j' r'' v2 k hr'' hv2 hk2
     have hlb2:getB (N.map RowB.blk) (top1::H) (l+1) i=some b\/lY m top bs k:=by
      cases l with
      | succ l=>exact .inl (by simpa [getB] using hb1)
      | zero=>
        by_cases hi:i ∈ bs
        . exact .inr ⟨i,b,v1,hi,hb1,hv1,hinv.grow hG (l:=0) hb1 hlb hv1 hk1⟩
        . exact .inl (by simp only [getB,aA9,Option.bind_some];rw [hs1 i hi];exact hb1)
     rcases hlb2 with hb2 | hL
     . have:=hi2.inj (l+1) i b 0 j' r''.blk v1 v2 k hb2 hlb (by simp [getB,hr'']) r''.live (by rw [hup l i];exact hv1) hv2 hk1 hk2
       cases this.1
     . exact hnl hL
   . exfalso
     rw [hold l' i' hn'] at hv2;rw [hnew j hj] at hv1
     obtain ⟨hu2,hnl⟩:=newNot j r' v1 k hr' hv1 hk1
     have hlb2:getB (N.map RowB.blk) (top1::H) (l'+1) i'=some b'\/lY m top bs k:=by
      cases l' with
      | succ l'=>exact .inl (by simpa [getB] using hb1')
      | zero=>
        by_cases hi:i' ∈ bs
        . exact .inr ⟨i',b',v2,hi,hb1',hv2,hinv.grow hG (l:=0) hb1' hlb' hv2 hk2⟩
        . exact .inl (by simp only [getB,aA9,Option.bind_some];rw [hs1 i' hi];exact hb1')
     rcases hlb2 with hb2 | hL
     . have:=hi2.inj (l'+1) i' b' 0 j r'.blk v2 v1 k hb2 hlb' (by simp [getB,hr']) r'.live (by rw [hup l' i'];exact hv2) hv1 hk2 hk1
       cases this.1
     . exact hnl hL
   . rw [hnew j hj] at hv1;rw [hnew j' hj'] at hv2
     obtain ⟨_,h2⟩:=hi2.inj 0 j r'.blk 0 j' r''.blk v1 v2 k (by simp [getB,hr']) r'.live (by simp [getB,hr'']) r''.live hv1 hv2 hk1 hk2
     exact ⟨rfl,by rw [h2]⟩
 . rcases getOld l i b hb with ⟨hb1,hn⟩ | ⟨rfl,j,r',rfl,hj,hr',rfl⟩
   . rw [hold l i hn] at hv1
     have hu:=hinv.own l i b v1 k hb1 hlb hv1 (hinv.grow hG hb1 hlb hv1 hk)
     exact (hU k (hinv.lt k hu)).2 hu
   . rw [hnew j hj] at hv1
     exact .inl (newNot j r' v1 k hr' hv1 hk).1
 . rcases hk with hk | hk
   . exact hi2.lt k hk
   . exact aBk (lentU k hk).2 hsz
 . refine hinv.views hG (fun i p e c v hb hv=>?_) (fun p et sz xs V hb hV=>?_)
   . rcases getOld 0 i _ hb with ⟨hb1,hn⟩ | ⟨_,j,r',_,_,_,h⟩
     . exact ⟨hb1,by rw [<- hold 0 i hn];exact hv⟩
     . have:=r'.noSub;rw [<- h] at this;cases this
   . rcases getOld 0 p _ hb with ⟨hb1,hn⟩ | ⟨_,j,r',rfl,_,_,h⟩
     . exact hb1
     . rw [hfree _ (by omega) (by omega)] at hV;cases hV
theorem nM {top:List Blk}:∀ (ps:List PV) (K:List (Nat × Nat × List (List DV))->Prop),rowsOfK top ps K -> ∃ cs,K cs/\cs.length=ps.length /\ ∀ (H:List (List Blk)) (m:M),Inv m top H -> ∀ (j:Nat) p c u,ps[j]? = some p->cs[j]? = some c->RP m p u ->
 RO m.w m.ok (.own c.1 c.2.1 c.2.2) u /\ ∀ k,Ins m.w (.own c.1 c.2.1 c.2.2) u k->k < m.w.heap.size
 | [],K,h=>⟨[],h,rfl,fun H m hi j p c u hp=>by simp at hp⟩
 | p::ps,K,h=>by
   have fin:∀ (c:Nat × Nat × List (List DV)),(rowsOfK top ps fun cs=>K (c::cs))->(∀ (H:List (List Blk)) (m:M),Inv m top H -> ∀ u,RP m p u->RO m.w m.ok (.own c.1 c.2.1 c.2.2) u /\ ∀ k,Ins m.w (.own c.1 c.2.1 c.2.2) u k->k < m.w.heap.size) ->
    ∃ cs,K cs/\cs.length=(p::ps).length /\ ∀ (H:List (List Blk)) (m:M),Inv m top H -> ∀ (j:Nat) p' c u,(p::ps)[j]? = some p'->cs[j]? = some c->RP m p' u->RO m.w m.ok (.own c.1 c.2.1 c.2.2) u /\ ∀ k,Ins m.w (.own c.1 c.2.1 c.2.2) u k->k < m.w.heap.size:=fun c h hc=>by
    obtain ⟨cs,h1,h2,h3⟩:=nM ps _ h
    refine ⟨c::cs,h1,by simp [h2],fun H m hi j p' c' u hp hc' hr=>?_⟩
    cases j with
    | zero=>simp at hp hc';subst hp;subst hc';exact hc H m hi u hr
    | succ j=>exact h3 H m hi j p' c' u (by simpa using hp) (by simpa using hc') hr
   have own:∀ (i:Nat) (e sz:Nat) (xs:List (List DV)),p = .row 0 i xs.length->(∀ (H:List (List Blk)) (m:M),Inv m top H -> ∀ v,m.ρ 0 i=some v->RO m.w m.ok (.own e sz xs) v /\ ∀ k,Ins m.w (.own e sz xs) v k->k < m.w.heap.size)->(rowsOfK top ps fun cs=>K ((e,sz,xs)::cs)) ->
    ∃ cs,K cs/\cs.length=(p::ps).length /\ ∀ (H:List (List Blk)) (m:M),Inv m top H -> ∀ (j:Nat) p' c u,(p::ps)[j]? = some p'->cs[j]? = some c->RP m p' u->RO m.w m.ok (.own c.1 c.2.1 c.2.2) u /\ ∀ k,Ins m.w (.own c.1 c.2.1 c.2.2) u k->k < m.w.heap.size:=fun i e sz xs hp hb h=>by
    refine fin (e,sz,xs) h fun H m hi u hr=>?_
    subst hp
    cases hr with
    | row _ _ _ N c A hρ hn hc=>
      obtain ⟨h1,h2⟩:=hb H m hi _ hρ
      obtain ⟨flat,_,_,ho,_⟩:=h1.parts
      have hN:=(owns_hdr ho).1
      subst hN
      exact ⟨h1,h2⟩
   rw [rowsOfK_cons] at h
   split at h
   . rename_i i n
     obtain ⟨b,hb,hB⟩:=getK_spec.1 h
     clear h
     cases b with
     | row e sz xs=>
       obtain ⟨rfl,hB2⟩:=hB
       refine own i e sz xs rfl (fun H m hi v hv=>?_) hB2
       obtain ⟨h0,hs,flat,ho,hr⟩:=hi.blk 0 i _ hb v hv
       obtain ⟨q1,q2⟩:=row_deep (ok:=m.ok) h0 hs ho hr
       exact ⟨q1,fun k hk=>hi.lt k (hi.own 0 i _ v k hb rfl hv (q2 k hk))⟩
     | deep e sz xs=>
       obtain ⟨rfl,hB2⟩:=hB
       exact own i e sz xs rfl (fun H m hi v hv=>⟨hi.blk 0 i _ hb v hv,fun k hk=>hi.lt k (hi.own 0 i _ v k hb rfl hv hk)⟩) hB2
     | sub p0 e0 c0=>
       obtain ⟨b',hb',hB'⟩:=getK_spec.1 hB
       cases b' with
       | deep et sz0 xs0=>
         obtain ⟨x,hx,hX⟩:=hB'
         obtain ⟨y,hy,hY⟩:=getK_spec.1 hX
         cases y with
         | own e2 sz2 ys=>
           obtain ⟨rfl,hY2⟩:=hY
           refine own i e2 sz2 ys rfl (fun H m hi v hv=>?_) hY2
           obtain ⟨_,V,hV,hh⟩:=hi.sub i p0 e0 c0 v hb hv
           have hro:RO m.w m.ok (.own et sz0 xs0) V:=hi.blk 0 p0 _ hb' V hV
           obtain ⟨flat,_,_,ho,hr,_⟩:=hro.parts
           have hf:=hh et sz0 xs0 x e2 sz2 ys flat hb' hx hy ho
           exact ⟨hr e0 x c0 _ v hx hy hf,fun k hk=>hi.lt k (hi.own 0 p0 _ V k hb' rfl hV (.cell _ _ _ _ _ flat e0 x c0 _ v ho hx hy hf hk))⟩
         | _=>exact hY.elim
       | _=>exact hB'.elim
     | _=>exact hB.elim
   . exact h.elim
theorem vV {C:Cx} {H:List (List Blk)} {top:List Blk} {f:Nat} {args:List PV} {K:PV->List Blk->Prop} (h:thruK C top f args K) :
 ∃ pv top',K pv top'/\Ext top top' /\ ∀ (m:M) (vs:Array Value),Inv m top H->args.length=vs.size->(∀ (j:Nat) p v,args[j]? = some p->vs[j]? = some v->RP m p v)->(∀ j,top.length<=j->j < top'.length->m.ρ 0 j=none) ->
   Calls C.P f vs m.w fun e w'=>∃ v m',e = .returned v/\m'.w=w'/\Grow m m'/\(∀ l j,¬ (l=0/\top.length<=j/\j < top'.length)->m'.ρ l j=m.ρ l j)/\(∀ j b u k,top.length<=j->top'[j]? = some b->m'.ρ 0 j=some u->b.has m'.w u k->m.w.heap.size<=k)/\Inv m' top' H/\RP m' pv v:=by
 unfold thruK at h
 split at h
 . rename_i ps
   obtain ⟨cs,⟨ys,hT,hk⟩,hl,hh⟩:=nM ps _ h
   refine ⟨_,top,hk,Ext.refl _,fun m vs hinv hlen hrel hfree=>?_⟩
   obtain ⟨v0,rfl⟩:∃ v0,vs = #[v0]:=by
    match vs,hlen with
    | ⟨[a]⟩,_=>exact ⟨a,rfl⟩
   have r0:=hrel 0 _ v0 rfl rfl
   cases r0 with
   | agg _ us h1 h2=>
     unfold gP at hT
     refine (hT m.w m.ok us (fun k hk=>hk.1) (by omega) (fun j c u hc hu=>?_)).mono ?_
     . obtain ⟨p,hp⟩:∃ p,ps[j]? = some p:=⟨_,aAf (by have:=(aAe.1 hc).1;omega)⟩
       exact hh H m hinv j p c u hp hc (h2 j p u hp hu)
     . rintro e w' ⟨us',rfl,hs,hr,o1,o2,o3,o4,o5⟩
       have hg:Grow m ⟨w',m.ρ,m.U⟩:=⟨o1,o2,o3,o4,o5,fun _ _ _ h=>h,fun _ _=>Iff.rfl⟩
       refine ⟨.tuple us',⟨w',m.ρ,m.U⟩,rfl,rfl,hg,fun _ _ _=>rfl,fun j b u k h1 h2=>by have:=(aAe.1 h2).1;omega,hinv.of_grow hg rfl rfl,?_⟩
       rw [kN]
       refine .tuple _ us' (by rw [aAh,hs]) fun j p v hp hv=>?_
       rw [aAi] at hp
       obtain ⟨y,hy,rfl⟩:=aBq.1 hp
       exact .d _ _ ((hr j y v hy hv).keep (m:=m) hg.keep)
 . exact h.elim
theorem tZ {C:Cx} {H:List (List Blk)} {top:List Blk} {f:Nat} {args:List PV} {K:PV->List Blk->Prop} (h:callsK C H top f args K) :
 ∃ pv top',K pv top'/\Ext top top' /\ ∀ (m:M) (vs:Array Value),Inv m top H->args.length=vs.size->(∀ (j:Nat) p v,args[j]? = some p->vs[j]? = some v->RP m p v)->(∀ j,top.length<=j->j < top'.length->m.ρ 0 j=none) ->
   Calls C.P f vs m.w fun e w'=>∃ v m',e = .returned v/\m'.w=w'/\Grow m m'/\(∀ l j,¬ (l=0/\top.length<=j/\j < top'.length)->m'.ρ l j=m.ρ l j)/\(∀ j b u k,top.length<=j->top'[j]? = some b->m'.ρ 0 j=some u->b.has m'.w u k->m.w.heap.size<=k)/\Inv m' top' H/\RP m' pv v:=by
 unfold callsK at h
 split at h
 . exact vV h
 . exact vU h
theorem xD {C:Cx} (hC:C.Ok) {f:Nat} (h:C.plain f=true):∃ fn,C.P.funcs[f]? = some fn/\fn.body.isSome=true/\(fn.name == "runtime.NumGoroutine")=false:=by
 have hf:=hC.funs
 unfold funsB at hf
 rw [aBd] at hf
 simp only [Cx.plain,aBs,Bool.not_eq_true'] at h
 obtain ⟨h1,h2⟩:=h
 have:=hf f (aBe.2 (by simpa [Nat.blt_eq] using h1))
 rw [h2,Bool.false_or] at this
 split at this
 . rename_i fn hfn
   simp only [aBs,Bool.not_eq_true'] at this
   exact ⟨fn,hfn,this.1,this.2⟩
 . cases this
theorem gS {C:Cx} (hC:C.Ok) {f:Nat} (h:C.plain f=true) (args:Array Value) (w:World):(callFunc f args).run C.P w = .ok (.enter f args) w:=by
 obtain ⟨fn,h1,h2,h3⟩:=xD hC h
 obtain ⟨c,hc⟩:=Option.isSome_iff_exists.1 h2
 have h4:¬ fn.name = "runtime.NumGoroutine":=by simpa using h3
 simp [callFunc,h1,h4,hc]
theorem oT {P:Program} {m:M} {bs:List UInt8} {v:Value} (h:RP m (.d (.sl (bs.map fun b=>[DV.int .u8 b.toNat]))) v):(Extern.Bytes.bytesOf v).run P m.w = .ok ⟨bs.toArray⟩ m.w:=by
 cases h with
 | d _ _ h=>
   cases h with
   | sl sz _ A n c ad u hn hc hm hA hsz hcell hr=>
     simp only [aAh] at hn
     have hb:Lib.bytesOf (bs.map fun b=>(b.toNat:Int))=bs:=by simp [Lib.bytesOf,Function.comp_def]
     cases A with
     | none=>
       obtain rfl:bs = []:=by
        rcases Nat.eq_zero_or_pos n with h | h
        . exact List.eq_nil_of_length_eq_zero (by omega)
        . have:=hA h;cases this
       rfl
     | some a0=>
       have:=Lib.run_loadBytesX (P:=P) m.w (bs.map fun b=>(b.toNat:Int)) a0 .empty (fun j x hx=>by
        have h0:0 < n:=by have:=(aAe.1 hx).1;simp at this;omega
        have hA':=hA h0
        cases hA'
        rw [aAi] at hx
        obtain ⟨b,hb,rfl⟩:=aBq.1 hx
        have h1:(bs.map fun b=>[DV.int .u8 (b.toNat:Int)])[j]? = some [DV.int .u8 (b.toNat:Int)]:=by rw [aAi,hb];rfl
        have hs1:sz=1:=(hsz _ (aAg h1)).symm
        subst hs1
        have h2:=(hcell j _ 0 _ h1 rfl).2
        have h3:=hr j _ 0 _ h1 rfl
        rw [Nat.mul_one,Nat.add_zero] at h2 h3
        rw [h2]
        generalize u j=uu at h3
        cases h3;rfl)
       rw [aAh,hn] at this
       simp only [Extern.Bytes.bytesOf,this,hb]
       rw [show ByteArray.empty.data = #[] from rfl,Array.empty_append]
theorem vW {l:List (Nat × Nat)} {g e:Nat} (h:growAt l g=some e):(g,e) ∈ l:=by
 induction l with
 | nil=>cases h
 | cons p l ih=>
   obtain ⟨f,e'⟩:=p
   change (match Nat.beq f g with | true=>some e' | false=>growAt l g)=some e at h
   split at h
   . rename_i hb
     have:=aBj hb
     subst this
     cases h
     exact aAu
   . exact aAv _ (ih h)
theorem rR {C:Cx} (hC:C.Ok) {H:List (List Blk)} {o:Oper} {tm:List PV} {top:List Blk} {K:PV->List Blk->Prop} (h:opK C H o.op tm top K) :
 ∃ pv top',K pv top'/\Ext top top'/\bQ C H o tm top pv top':=by
 by_cases hcall:∀ c,o.op ≠ .call c
 . exact wZ hC hcall h
 obtain ⟨c,ho⟩:∃ c,o.op = .call c:=by
  cases ho:o.op <;> first | exact ⟨_,rfl⟩ | exact absurd (fun c hc=>by rw [ho] at hc;cases hc) hcall
 rw [ho] at h
 simp only [opK] at h
 cases hcl:c.callee with
 | invoke r n=>rw [hcl] at h;exact h.elim
 | builtin b=>
   rw [hcl] at h
   cases b <;> try exact h.elim
   dsimp only at h
   split at h
   case h_2=>exact h.elim
   rename_i x t hx ht
   have hx':c.args = #[x]:=by rw [<- Array.toArray_toList (xs:=c.args),hx]
   have ht':c.argTypes = #[t]:=by rw [<- Array.toArray_toList (xs:=c.argTypes),ht]
   obtain ⟨p,hp,h⟩:=aT h
   obtain ⟨r,hr,ht_,h_⟩:=lookK_spec h
   clear h
   subst ht_
   obtain ⟨i,z,d,hi,hs,hb,hz,hzz,hd,hty⟩:=aP hC hr
   have mx:x ∈ o.op.operands.toList:=by rw [ho];simp [Op.operands,Call.operands,hcl,hx']
   have ex:∀ (a:Act) (w:World) (v:Value),(Builtin.len_ #[r.t] o.type #[a.eval x]).run C.P w = .ok v w->(execOp a.eval o).run C.P w = .ok (.value v) w:=fun a w v hv=>by
    simp [execOp,ho,resolve,hcl,hx',ht',invoke,builtin,hv]
   have sl:∀ (A:Option Addr) (n k:Nat) (w:World),r.ty.isSlice=true->(Builtin.len_ #[r.t] o.type #[.slice A n k]).run C.P w = .ok (.int .i64 n) w:=fun A n k w hsl=>by
    obtain ⟨e,rfl⟩:=nU hty hsl
    simp [Builtin.len_,aU hd,goInt]
   split at h_
   . rename_i xs
     simp only [ifK] at h_
     split at h_
     case h_2=>exact h_.elim
     rename_i hsl
     refine ⟨_,top,h_,Ext.refl _,bE fun m a hinv he=>?_⟩
     have:=aO he mx hp
     generalize hv:a.eval x=v at this
     cases this with
     | d _ _ hx2=>
       cases hx2 with
       | sl sz _ A n k ad u hn hc hm hA hsz hcell hr2=>
         exact ⟨_,ex a _ _ (by rw [hv];exact sl A n k _ hsl),by rw [hn];exact cW _ _⟩
   . simp only [ifK] at h_
     split at h_
     case h_2=>exact h_.elim
     rename_i hsl
     refine ⟨_,top,h_,Ext.refl _,bE fun m a hinv he=>?_⟩
     have:=aO he mx hp
     generalize hv:a.eval x=v at this
     cases this
     exact ⟨_,ex a _ _ (by rw [hv];exact sl none 0 0 _ hsl),cW _ _⟩
   . simp only [ifK] at h_
     split at h_
     case h_2=>exact h_.elim
     rename_i hsl
     refine ⟨_,top,h_,Ext.refl _,bE fun m a hinv he=>?_⟩
     have:=aO he mx hp
     generalize hv:a.eval x=v at this
     cases this with
     | emp ad=>exact ⟨_,ex a _ _ (by rw [hv];exact sl (some ad) 0 0 _ hsl),cW _ _⟩
   . simp only [ifK] at h_
     split at h_
     case h_2=>exact h_.elim
     rename_i hsl
     refine ⟨_,top,h_,Ext.refl _,bE fun m a hinv he=>?_⟩
     have:=aO he mx hp
     generalize hv:a.eval x=v at this
     cases this with
     | row _ _ n N k A h1 h2 h3=>exact ⟨_,ex a _ _ (by rw [hv];exact sl A _ k _ hsl),cW _ _⟩
   . rename_i s
     cases hT:r.ty <;> rw [hT] at h_ <;> try exact h_.elim
     rw [hT] at hty
     obtain rfl:d = .string:=by cases d <;> simp [tyOf] at hty <;> rfl
     refine ⟨_,top,h_,Ext.refl _,bE fun m a hinv he=>?_⟩
     have:=aO he mx hp
     generalize hv:a.eval x=v at this
     cases this with
     | d _ _ hx2=>
       cases hx2
       exact ⟨_,ex a _ _ (by rw [hv];simp [Builtin.len_,aU hd,goInt]),cW _ _⟩
   . exact h_.elim
   dsimp only at h
   split at h
   case h_2=>exact h.elim
   rename_i x y hx
   have hx':c.args = #[x,y]:=by rw [<- Array.toArray_toList (xs:=c.args),hx]
   obtain ⟨p,hp,h⟩:=aT h
   have g1:=h
   clear h
   obtain ⟨q,hq,g2⟩:=aT g1
   clear g1
   have mx:x ∈ o.op.operands.toList:=by rw [ho];simp [Op.operands,Call.operands,hcl,hx']
   have my:y ∈ o.op.operands.toList:=by rw [ho];simp [Op.operands,Call.operands,hcl,hx']
   split at g2
   case h_2=>exact g2.elim
   rename_i k va k' vb
   refine ⟨_,top,g2 _ rfl,Ext.refl _,bE fun m a hinv he=>?_⟩
   have h1:=aO he mx hp
   have h2:=aO he my hq
   generalize hv1:a.eval x=v1 at h1
   generalize hv2:a.eval y=v2 at h2
   cases h1 with
   | d _ _ h1=>
     cases h1
     cases h2 with
     | d _ _ h2=>
       cases h2
       refine ⟨.int k (if vb < va then vb else va),?_,?_⟩
       . simp [execOp,ho,resolve,hcl,hx',invoke,builtin,hv1,hv2,Builtin.min_,Builtin.min2]
       . rw [show min va vb=if vb < va then vb else va by split <;> omega]
         exact cW _ _
 | value f=>
   rw [hcl] at h
   dsimp only at h
   obtain ⟨p,hp,h⟩:=aT h
   split at h
   case h_2=>exact h.elim
   rename_i g fs cs
   obtain ⟨aas,h,hl,hr⟩:=gJ (ys:=o.op.operands.toList) h (fun x hx=>by rw [ho];simp only [Op.operands,Call.operands,hcl,Array.toList_append];exact List.mem_append_right _ hx)
   rw [appK_spec,appK_spec] at h
   have hvals:∀ (m:M) (a:Act) (fv cv:Array Value),EvR m a tm o.op.operands.toList->fs.length=fv.size->cs.length=cv.size->(∀ (j:Nat) p v,fs[j]? = some p->fv[j]? = some v->RP m p v)->(∀ (j:Nat) p v,cs[j]? = some p->cv[j]? = some v->RP m p v) ->
    (fs++aas++cs).length=(fv++c.args.map a.eval++cv).size /\ ∀ (j:Nat) q u,(fs++aas++cs)[j]? = some q->(fv++c.args.map a.eval++cv)[j]? = some u->RP m q u:=by
    intro m a fv cv he e1 e2 r1 r2
    refine ⟨by simp [e1,e2,hl],fun j q u hq hu=>?_⟩
    have hls:fs.length=fv.size:=e1
    have hl2:aas.length=c.args.size:=by rw [hl];simp
    rcases aBl j (fs++aas).length with h1 | h1
    . rw [aAk h1] at hq
      rw [Array.getElem?_append_left (by simp only [aAm,Array.size_append,Array.size_map] at h1 ⊢;omega)] at hu
      rcases aBl j fs.length with h2 | h2
      . rw [aAk h2] at hq
        rw [Array.getElem?_append_left (by omega)] at hu
        exact r1 j q u hq hu
      . rw [aAj h2] at hq
        rw [Array.getElem?_append_right (by omega),Array.getElem?_map,<- hls] at hu
        obtain ⟨x,hx,rfl⟩:=aBq.1 hu
        exact hr m a he _ q x hq (by simpa using hx)
    . rw [aAj h1] at hq
      rw [Array.getElem?_append_right (by simp only [aAm,Array.size_append,Array.size_map] at h1 ⊢;omega)] at hu
      have hsz:(fv++c.args.map a.eval).size=(fs++aas).length:=by simp [e1,hl2]
      rw [hsz] at hu
      exact r2 _ q u hq hu
   have mf:f ∈ o.op.operands.toList:=by rw [ho];simp [Op.operands,Call.operands,hcl]
   split at h
   ·
    rename_i hg
    obtain ⟨k,hk1,hk2⟩:=List.any_eq_true.1 hg
    obtain rfl:g=k:=aBj hk2
    have hcmp:=hC.cmps _ hk1
    unfold cmpK at h
    split at h
    case h_2=>exact h.elim
    rename_i xs ys hargs
    obtain ⟨bs1,bs2,rfl,rfl,h⟩:=h
    refine ⟨_,top,h,Ext.refl _,bE fun m a hinv he=>?_⟩
    have hfv:=aO he mf hp
    generalize hv:a.eval f=v at hfv
    cases hfv with
    | func _ _ _ fv cv e1 e2 r1 r2=>
      obtain ⟨q1,q2⟩:=hvals m a fv cv he e1 e2 r1 r2
      rw [hargs] at q1 q2
      obtain ⟨x,y,hxy⟩:∃ x y,fv++c.args.map a.eval++cv = #[x,y]:=by
       generalize fv++c.args.map a.eval++cv=arr at q1
       obtain ⟨l⟩:=arr
       match l,q1 with
       | [x,y],_=>exact ⟨x,y,rfl⟩
      rw [hxy] at q2
      have rx:=q2 0 _ x rfl rfl
      have ry:=q2 1 _ y rfl rfl
      have bx:(Extern.Bytes.bytesOf x).run C.P m.w = .ok ⟨bs1.toArray⟩ m.w:=oT rx
      have by_:(Extern.Bytes.bytesOf y).run C.P m.w = .ok ⟨bs2.toArray⟩ m.w:=oT ry
      refine ⟨_,?_,cW _ _⟩
      simp only [execOp,ho,resolve,hcl,hv,Deferred.ofValue,Sem.run_bind,Sem.run_pure,Result.andThen_ok,invoke]
      rw [hxy,hcmp]
      rw [show Extern.BytealgCompare.compare #[x,y]=(do let a <- Extern.Bytes.bytesOf x;let b <- Extern.Bytes.bytesOf y;pure (goInt (Extern.BytealgCompare.cmp a b))) from rfl]
      simp [bx,by_,goInt]
   simp only [ifK] at h
   split at h
   case h_2=>exact h.elim
   rename_i hpl
   split at h
   ·
    rename_i e hgr
    have hgo:=hC.grows (g,e) (vW hgr)
    unfold growK at h
    split at h
    case h_2=>exact h.elim
    rename_i k n hargs
    simp only [ifK] at h
    split at h
    case h_2=>exact h.elim
    rename_i hke
    obtain rfl:=kEq_eq hke
    obtain ⟨h0,h_⟩:=h
    obtain ⟨r,hr,ht_,h⟩:=lookK_spec h_
    clear h_
    subst ht_
    split at h
    case h_2=>exact h.elim
    rename_i hpos
    have hpos:0 < r.size:=by simpa [Nat.blt_eq] using hpos
    rw [lenK_spec] at h
    split at h
    case h_2=>exact h.elim
    rename_i hzl
    have hzl:=aBj hzl
    obtain ⟨hby,h62,hk0,hk1⟩:=h
    obtain ⟨i,z,d,hi,hs,hb,hz,hzz,hd,hty⟩:=aP hC hr
    have hzs:z.cells.size=r.size:=by rw [<- hzl,<- hzz];simp
    obtain ⟨N,rfl⟩:∃ N:Nat,n=N:=⟨n.toNat,by omega⟩
    have two:∀ (m:M) (a:Act) (fv cv:Array Value),EvR m a tm o.op.operands.toList->fs.length=fv.size->cs.length=cv.size->(∀ (j:Nat) p v,fs[j]? = some p->fv[j]? = some v->RP m p v)->(∀ (j:Nat) p v,cs[j]? = some p->cv[j]? = some v->RP m p v) ->
     fv++c.args.map a.eval++cv = #[.slice none 0 0,.int .i64 N]:=by
     intro m a fv cv he e1 e2 r1 r2
     obtain ⟨q1,q2⟩:=hvals m a fv cv he e1 e2 r1 r2
     rw [hargs] at q1 q2
     generalize fv++c.args.map a.eval++cv=arr at q1 q2
     obtain ⟨l⟩:=arr
     match l,q1,q2 with
     | [x,y],_,q2=>
       have rx:=q2 0 _ x rfl rfl
       have ry:=q2 1 _ y rfl rfl
       cases rx
       cases ry with
       | d _ _ hy=>cases hy;rfl
    have enter:∀ (m:M) (a:Act),EvR m a tm o.op.operands.toList->(execOp a.eval o).run C.P m.w = .ok (.enter g #[.slice none 0 0,.int .i64 N]) m.w:=by
     intro m a he
     have hfv:=aO he mf hp
     generalize hv:a.eval f=v at hfv
     cases hfv with
     | func _ _ _ fv cv e1 e2 r1 r2=>
       simp only [execOp,ho,resolve,hcl,hv,Deferred.ofValue,Sem.run_bind,Sem.run_pure,Result.andThen_ok,invoke]
       rw [two m a fv cv he e1 e2 r1 r2]
       exact gS hC hpl _ _
    rcases Nat.eq_zero_or_pos N with hN | hN
    . subst hN
      refine ⟨_,top,hk0 rfl,Ext.refl _,fun m a hinv he hfree next Q hnext=>?_⟩
      unfold Oper.wp
      rw [enter m a he]
      show Calls C.P g _ m.w _
      refine ((hgo 0 m.w).1 rfl).mono ?_
      rintro e w' ⟨rfl,rfl⟩
      exact hnext _ m (Grow.refl m) (fun _ _ _=>rfl) (fun j b u k h1 h2=>by have:=(aAe.1 h2).1;omega) hinv .nils
    . have h:=hk1 (by omega)
      unfold newK at h
      rw [lenK_spec,snocK_spec] at h
      refine ⟨_,_,h,Ext.app _ _,fun m a hinv he hfree next Q hnext=>?_⟩
      unfold Oper.wp
      rw [enter m a he]
      show Calls C.P g _ m.w _
      refine ((hgo N m.w).2 i z hi hz (by rw [hs];exact hpos) (by rw [hzs,hs]) hN (by rw [hb];have h9:=hby;rw [<- Int.natCast_mul] at h9;omega) (by omega)).mono ?_
      rintro e w' ⟨cp,cur,rfl,rfl,hcur,hcap⟩
      have hfr:m.ρ 0 top.length=none:=hfree _ (aBo _) (by rw [aAm];exact aBm _)
      let m1:M:=⟨m.w.drew,m.ρ,m.U⟩
      have hK:Keep m m1:=⟨fun _ _ _ h=>h,aBo _,fun k hk=>⟨hk.2,rfl⟩⟩
      have hg1:Grow m m1:=⟨rfl,rfl,rfl,aBo _,fun _ _=>rfl,fun _ _ _ h=>h,fun _ _=>Iff.rfl⟩
      have hinv1:Inv m1 top H:=hinv.of_grow hg1 rfl rfl
      have hg2:=gD m1 (.cells cur r.t (0,0)) top.length (.slice (some ⟨m.w.heap.size,0,none⟩) 0 cp) hfr
      refine hnext _ (m1.new (.cells cur r.t (0,0)) top.length (.slice (some ⟨m.w.heap.size,0,none⟩) 0 cp)) (hg1.trans hg2) (fun l j hj=>?_) (fun j b' u' k h1 h2 hu' hk=>?_) (mY hinv1 hfr rfl rfl ?_) (.row _ _ _ 0 cp _ (by show (if 0=0/\top.length=top.length then _ else _)=_;rw [if_pos ⟨rfl,rfl⟩]) (aBo _) (aBn _))
      . simp only [M.new]
        rw [if_neg]
        rintro ⟨rfl,rfl⟩
        exact hj ⟨rfl,aBo _,by simp⟩
      . obtain rfl:j=top.length:=by have:=(aAe.1 h2).1;simp at this;omega
        simp only [M.new,and_self,if_true,Option.some.injEq] at hu'
        subst hu'
        rw [aAj (aBo _),aB2] at h2
        cases h2
        cases hk
        exact aBo _
      . intro v hv
        simp only [M.new,and_self,if_true,Option.some.injEq] at hv
        subst hv
        refine ⟨hpos,(fun x hx=>by cases hx),[],⟨(Nat.zero_mul _).symm,.inr ⟨m.w.heap.size,cp,cur,rfl,aBn _,?_,aBn _,hcap,by rw [hcur,hs],by rw [show ([]:List (List DV)).length*r.size=0 from Nat.zero_mul _];rfl⟩⟩,fun i x j y u hx=>by simp at hx⟩
        exact gE m.w.drew _
   obtain ⟨pv,top',hk,hpre,hh⟩:=tZ h
   refine ⟨pv,top',hk,hpre,fun m a hinv he hfree next Q hnext=>?_⟩
   have hfv:=aO he mf hp
   generalize hv:a.eval f=v at hfv
   cases hfv with
   | func _ _ _ fv cv e1 e2 r1 r2=>
     have hrun:(execOp a.eval o).run C.P m.w = .ok (.enter g (fv++c.args.map a.eval++cv)) m.w:=by
      simp only [execOp,ho,resolve,hcl,hv,Deferred.ofValue,Sem.run_bind,Sem.run_pure,Result.andThen_ok,invoke]
      exact gS hC hpl _ _
     unfold Oper.wp
     rw [hrun]
     show Calls C.P g _ m.w _
     obtain ⟨q1,q2⟩:=hvals m a fv cv he e1 e2 r1 r2
     refine (hh m (fv++c.args.map a.eval++cv) hinv q1 q2 hfree).mono ?_
     . rintro e w' ⟨v,m',rfl,rfl,hg,hρ,hfr,hi,hr⟩
       exact hnext v m' hg hρ hfr hi hr
structure Turn (m m':M) (top:List Blk):Prop where
 os:m'.w.os=m.w.os
 tape:m'.w.tape=m.w.tape
 output:m'.w.output=m.w.output
 size:m.w.heap.size<=m'.w.heap.size
 heap:∀ k,k < m.w.heap.size -> ¬ Mine m top k->m'.w.heap[k]? = m.w.heap[k]?
 ρ:∀ l i v,m.ρ l i=some v->m'.ρ l i=some v
 U:∀ k,k < m.w.heap.size->(m'.U k↔m.U k)
theorem Turn.keep {m m':M} {top:List Blk} {H:List (List Blk)} (h:Turn m m' top) (hi:Inv m top H):Keep m m':=
 ⟨h.ρ,h.size,fun k hk=>⟨fun hu=>hk.2 ((h.U k hk.1).1 hu),h.heap k hk.1 (by
   rintro ⟨i,b,v,h1,h2,h3,h4⟩
   exact hk.2 (hi.own 0 i b v k h1 h2 h3 h4))⟩⟩
theorem Grow.turn {m m':M} (h:Grow m m') (top:List Blk):Turn m m' top:=⟨h.os,h.tape,h.output,h.size,fun k hk _=>h.heap k hk,h.ρ,h.U⟩
def bU (C:Cx) (H:List (List Blk)) (o:Oper) (tm:List PV) (top:List Blk) (pv:PV) (top':List Blk):Prop:=
 ∀ (m:M) (a:Act),Inv m top H->EvR m a tm o.op.operands.toList->(∀ j,top.length<=j->m.ρ 0 j=none) ->
   ∀ (next:Act->World->Prop) (Q:Exit->Act->World->Prop),
     (∀ v m',Turn m m' top->(∀ l j,¬ (l=0/\top.length<=j/\j < top'.length)->m'.ρ l j=m.ρ l j) ->
       (∀ k,Mine m' top' k->m.w.heap.size<=k\/Mine m top k)->Inv m' top' H->RP m' pv v->next (a.put o.dst v) m'.w) ->
     o.wp C.P a m.w next Q
theorem Mine.grow {m m':M} {top:List Blk} {H:List (List Blk)} (hi:Inv m top H) (hg:Grow m m') (hρ:∀ i,m'.ρ 0 i=m.ρ 0 i) {k:Nat} (h:Mine m' top k):Mine m top k:=by
 obtain ⟨j,b,v,hb,hl,hv,hk⟩:=h
 rw [hρ] at hv
 exact ⟨j,b,v,hb,hl,hv,hi.grow hg (l:=0) hb hl hv hk⟩
theorem rS {m m':M} {top top':List Blk} {H:List (List Blk)} (hi:Inv m top H) (hg:Grow m m') (hp:top <+: top') (hρ:∀ l j,¬ (l=0/\top.length<=j/\j < top'.length)->m'.ρ l j=m.ρ l j)
 (hfr:∀ j b u k,top.length<=j->top'[j]? = some b->m'.ρ 0 j=some u->b.has m'.w u k->m.w.heap.size<=k) (k:Nat) (h:Mine m' top' k):m.w.heap.size<=k\/Mine m top k:=by
 obtain ⟨j,b,v,hb,hl,hv,hk⟩:=h
 rcases aBl j top.length with hj | hj
 . rw [hρ 0 j (by omega)] at hv
   obtain ⟨t,rfl⟩:=hp
   rw [aAk hj] at hb
   exact .inr ⟨j,b,v,hb,hl,hv,hi.grow hg (l:=0) hb hl hv hk⟩
 . exact .inl (hfr j b v k hj hb hv hk)
theorem bQ.act {C:Cx} {H:List (List Blk)} {o:Oper} {tm:List PV} {top:List Blk} {pv:PV} {top':List Blk} (h:bQ C H o tm top pv top') (hp:top <+: top'):bU C H o tm top pv top':=
 fun m a hi he hf next Q hn=>h m a hi he (fun j h1 _=>hf j h1) next Q fun v m' hg hρ hfr hi' hr=>hn v m' (hg.turn top) hρ (rS hi hg hp hρ hfr) hi' hr
theorem jK {top:List Blk} {b:Blk} {H:List (List Blk)} {i0 l i:Nat} (h:¬ (l=0/\i=i0)):getB (top.set i0 b) H l i=getB top H l i:=by
 cases l with
 | zero=>
   simp only [getB]
   rw [aAs (fun e=>h ⟨rfl,e.symm⟩)]
 | succ l=>rfl
theorem rT {m:M} {top:List Blk} {H:List (List Blk)} (hi:Inv m top H) {i0 g:Nat} {b0 b:Blk} {v0:Value} (hb0:top[i0]? = some b0) (hl0:b0.live=true) (hρ:m.ρ 0 i0=some v0) (hg:b0.has m.w v0 g) (hlive:b.live=true)
 {w':World} (hos:w'.os=m.w.os) (htape:w'.tape=m.w.tape) (hout:w'.output=m.w.output) (hsz:w'.heap.size=m.w.heap.size) (hheap:∀ k,k≠g->w'.heap[k]? = m.w.heap[k]?)
 (hhas:∀ k,b.has w' v0 k->b0.has m.w v0 k) (hviews:Views ⟨w',m.ρ,m.U⟩ (top.set i0 b)) (hb:Keep m ⟨w',m.ρ,m.U⟩->BlkOk ⟨w',m.ρ,m.U⟩ 0 i0 b):Turn m ⟨w',m.ρ,m.U⟩ top/\Inv ⟨w',m.ρ,m.U⟩ (top.set i0 b) H /\ ∀ k,Mine ⟨w',m.ρ,m.U⟩ (top.set i0 b) k->m.w.heap.size<=k\/Mine m top k:=by
 have hT:Turn m ⟨w',m.ρ,m.U⟩ top:=⟨hos,htape,hout,Nat.le_of_eq hsz.symm,fun k _ hk=>hheap k (by
  rintro rfl
  exact hk ⟨i0,b0,v0,hb0,hl0,hρ,hg⟩),fun _ _ _ h=>h,fun _ _=>Iff.rfl⟩
 have hK:=hT.keep hi
 have hlt:i0 < top.length:=(aAe.1 hb0).1
 have get:∀ l i b',getB (top.set i0 b) H l i=some b'->(l=0/\i=i0/\b'=b)\/(¬ (l=0/\i=i0)/\getB top H l i=some b'):=by
  intro l i b' hb'
  by_cases h:l=0/\i=i0
  . obtain ⟨rfl,rfl⟩:=h
    simp [getB,hlt] at hb'
    exact .inl ⟨rfl,rfl,hb'.symm⟩
  . rw [jK h] at hb'
    exact .inr ⟨h,hb'⟩
 have same:∀ l i b' v,getB top H l i=some b'->b'.live=true->m.ρ l i=some v -> ¬ (l=0/\i=i0) -> ∀ k,b'.has m.w v k->w'.heap[k]? = m.w.heap[k]?:=fun l i b' v h1 h2 h3 hn k hk=>hheap k (by
  rintro rfl
  exact hn (hi.inj l i b' 0 i0 b0 v v0 k h1 h2 hb0 hl0 h3 hρ hk hg))
 have old:∀ l i b',getB (top.set i0 b) H l i=some b'->b'.live=true -> ∃ b'',getB top H l i=some b''/\b''.live=true /\ ∀ v,m.ρ l i=some v -> ∀ k,b'.has w' v k->b''.has m.w v k:=by
  intro l i b' hb' hl'
  rcases get l i b' hb' with ⟨rfl,rfl,rfl⟩ | ⟨hn,h⟩
  . exact ⟨b0,hb0,hl0,fun v hv k hk=>by rw [hρ] at hv;cases hv;exact hhas k hk⟩
  . exact ⟨b',h,hl',fun v hv k hk=>Blk.has_back hk (same l i b' v h hl' hv hn)⟩
 refine ⟨hT,⟨fun l i b' hb'=>?_,fun l i b1 l' i' b2 v1 v2 k h1 hl1 h2 hl2 hv1 hv2 hk1 hk2=>?_,fun l i b1 v1 k h1 hl1 hv1 hk=>?_,fun k hk=>by rw [show (⟨w',m.ρ,m.U⟩:M).w.heap.size=m.w.heap.size from hsz];exact hi.lt k hk,hviews⟩,fun k ⟨j,b1,v1,h1,hl1,hv1,hk⟩=>by
  obtain ⟨c1,hc1,hd1,e1⟩:=old 0 j b1 h1 hl1
  exact .inr ⟨j,c1,v1,hc1,hd1,hv1,e1 v1 hv1 k hk⟩⟩
 . rcases get l i b' hb' with ⟨rfl,rfl,rfl⟩ | ⟨hn,h⟩
   . exact hb hK
   . exact (hi.blk l i b' h).keep hK rfl (fun v k hl hv hk=>same l i b' v h hl hv hn k hk)
 . obtain ⟨c1,hc1,hd1,e1⟩:=old l i b1 h1 hl1
   obtain ⟨c2,hc2,hd2,e2⟩:=old l' i' b2 h2 hl2
   exact hi.inj l i c1 l' i' c2 v1 v2 k hc1 hd1 hc2 hd2 hv1 hv2 (e1 v1 hv1 k hk1) (e2 v2 hv2 k hk2)
 . obtain ⟨c1,hc1,hd1,e1⟩:=old l i b1 h1 hl1
   exact hi.own l i c1 v1 k hc1 hd1 hv1 (e1 v1 hv1 k hk)
theorem pY {m:M} {top:List Blk} {H:List (List Blk)} (hi:Inv m top H) {i0 g:Nat} {b0 b:Blk} {v0:Value} (hb0:top[i0]? = some b0) (hl0:b0.live=true) (hρ:m.ρ 0 i0=some v0) (hg:b0.has m.w v0 g) (hlive:b.live=true)
 {w':World} (hos:w'.os=m.w.os) (htape:w'.tape=m.w.tape) (hout:w'.output=m.w.output) (hsz:w'.heap.size=m.w.heap.size) (hheap:∀ k,k≠g->w'.heap[k]? = m.w.heap[k]?)
 (hhas:∀ k,b.has w' v0 k->b0.has m.w v0 k) (hvd:b.vd=false) (hb:Keep m ⟨w',m.ρ,m.U⟩->BlkOk ⟨w',m.ρ,m.U⟩ 0 i0 b):Turn m ⟨w',m.ρ,m.U⟩ top/\Inv ⟨w',m.ρ,m.U⟩ (top.set i0 b) H /\ ∀ k,Mine ⟨w',m.ρ,m.U⟩ (top.set i0 b) k->m.w.heap.size<=k\/Mine m top k:=by
 have hlt:i0 < top.length:=(aAe.1 hb0).1
 have get:∀ (i:Nat) b',(top.set i0 b)[i]? = some b'->b'.vd=true->i≠i0/\top[i]? = some b':=fun i b' h1 h2=>by
  by_cases hi0:i0=i
  . subst hi0;rw [aAr hlt] at h1;cases h1;rw [hvd] at h2;cases h2
  . rw [aAs hi0] at h1;exact ⟨fun e=>hi0 e.symm,h1⟩
 refine rT hi hb0 hl0 hρ hg hlive hos htape hout hsz hheap hhas (hi.sub.of (fun i p e c v h1 h2=>⟨(get i _ h1 rfl).2,h2⟩) (fun p V h=>h) (fun p et sz xs V h1 h2=>?_)) hb
 obtain ⟨hn,h3⟩:=get p _ h1 rfl
 refine ⟨h3,fun k hk=>hheap k (fun e=>?_)⟩
 subst e
 exact hn (hi.inj 0 p _ 0 i0 b0 V v0 k h3 rfl hb0 hl0 h2 hρ (Blk.has_head hk) hg).2
theorem eQ:∀ {cs:List PV} {K:Prop},allCellK cs K->(∀ q ∈ cs,q.cell=true)/\K
 | [],K,h=>⟨fun q hq=>(by cases hq),h⟩
 | c::cs,K,h=>by
   rw [allCellK_cons] at h
   split at h
   . rename_i hc
     obtain ⟨h1,h2⟩:=eQ h
     exact ⟨fun q hq=>by cases hq with | head=>exact hc | tail _ hq=>exact h1 q hq,h2⟩
   . exact h.elim
theorem gL {α:Type} {l ys:List α} {o:Nat} (h:o+ys.length<=l.length) (k:Nat):(l.take o++ys++l.drop (o+ys.length))[k]? = if o<=k/\k < o+ys.length then ys[k - o]? else l[k]?:=by
 by_cases hk:o<=k/\k < o+ys.length
 . rw [if_pos hk,aBb,aAj (by rw [aAl];omega),aAl,Nat.min_eq_left (by omega),aAk (by omega)]
 . rw [if_neg hk]
   rcases aBl k o with h1 | h1
   . rw [aBb,aAk (by rw [aAl];omega),List.getElem?_take_of_lt h1]
   . rw [aAj (by simp;omega)]
     simp only [aAm,aAl,aA1]
     rw [Nat.min_eq_left (by omega),show o+ys.length+(k - (o+ys.length))=k by omega]
def lB (w:World) (sz:Nat) (xs:List (List DV)) (flat:List Value) (e c n:Nat) (k:Nat):Prop:=
 ∃ (i:Nat) (x:List DV) (j:Nat) (y:DV) (u:Value),xs[i]? = some x/\x[j]? = some y/\flat[i*sz+j]? = some u /\ ¬ (i=e/\c<=j/\j < c+n)/\Ins w y u k
theorem RO.put {w w':World} {ok ok':Nat->Prop} (hrd:∀ x v,RD w ok x v->RD w' ok' x v) {et sz:Nat} {xs:List (List DV)} {V:Value} {flat flat':List Value} (h0:0 < sz) (hs:∀ x ∈ xs,x.length=sz)
 (hr:∀ (i:Nat) x (j:Nat) y u,xs[i]? = some x->x[j]? = some y->flat[i*sz+j]? = some u->RO w ok y u)
 (head:∀ (i:Nat) x (j:Nat) y u k,xs[i]? = some x->x[j]? = some y->flat[i*sz+j]? = some u->Ins w y u k->blkOf V≠some k)
 (sep:∀ (i:Nat) x (j:Nat) y u (i':Nat) x' (j':Nat) y' u' k,xs[i]? = some x->x[j]? = some y->flat[i*sz+j]? = some u->xs[i']? = some x'->x'[j']? = some y'->flat[i'*sz+j']? = some u'->Ins w y u k->Ins w y' u' k->i=i'/\j=j')
 {e c:Nat} {x0 ds:List DV} (hx:xs[e]? = some x0) (hle:c+ds.length<=x0.length) (ho':w'.ownsRow 0 et sz V xs.length flat')
 (hflat:∀ k,¬ (e*sz+c<=k/\k < e*sz+c+ds.length)->k < xs.length*sz->flat'[k]? = flat[k]?)
 (hother:∀ k,lB w sz xs flat e c ds.length k->w'.heap[k]? = w.heap[k]?)
 (hnew:∀ (j:Nat) y u,ds[j]? = some y->flat'[e*sz+(c+j)]? = some u->RO w' ok' y u /\ ∀ k,Ins w' y u k->blkOf V≠some k /\ ¬ lB w sz xs flat e c ds.length k)
 (hsep:∀ (j:Nat) y u (j':Nat) y' u' k,ds[j]? = some y->flat'[e*sz+(c+j)]? = some u->ds[j']? = some y'->flat'[e*sz+(c+j')]? = some u'->Ins w' y u k->Ins w' y' u' k->j=j') :
 RO w' ok' (.own et sz (xs.set e (x0.take c++ds++x0.drop (c+ds.length)))) V /\
  ∀ k,Ins w' (.own et sz (xs.set e (x0.take c++ds++x0.drop (c+ds.length)))) V k->blkOf V=some k\/lB w sz xs flat e c ds.length k \/ ∃ (j:Nat) (y:DV) (u:Value),ds[j]? = some y/\flat'[e*sz+(c+j)]? = some u/\Ins w' y u k:=by
 have hel:e < xs.length:=(aAe.1 hx).1
 have hx0l:x0.length=sz:=hs x0 (aAg hx)
 have cl:∀ (i:Nat) x (j:Nat) y u,(xs.set e (x0.take c++ds++x0.drop (c+ds.length)))[i]? = some x->x[j]? = some y->flat'[i*sz+j]? = some u ->
  (i=e/\c<=j/\j < c+ds.length/\ds[j - c]? = some y/\flat'[e*sz+(c+(j - c))]? = some u)\/(¬ (i=e/\c<=j/\j < c+ds.length) /\ ∃ x1,xs[i]? = some x1/\x1[j]? = some y/\flat[i*sz+j]? = some u):=by
  intro i x j y u h1 h2 h3
  by_cases hie:i=e
  . subst hie
    rw [aAr hel] at h1
    cases h1
    have hjl:j < sz:=by
     have:=(aAe.1 h2).1
     simp at this;omega
    rw [gL hle] at h2
    by_cases hj:c<=j/\j < c+ds.length
    . rw [if_pos hj] at h2
      exact .inl ⟨rfl,hj.1,hj.2,h2,by rw [show c+(j - c)=j by omega];exact h3⟩
    . rw [if_neg hj] at h2
      refine .inr ⟨fun h=>hj ⟨h.2.1,h.2.2⟩,x0,hx,h2,?_⟩
      have h4:i*sz+sz<=xs.length*sz:=by rw [<- Nat.succ_mul];exact Nat.mul_le_mul_right _ hel
      rw [<- hflat _ (fun h=>hj ⟨by omega,by omega⟩) (by omega)];exact h3
  . rw [aAs (fun h=>hie h.symm)] at h1
    have hil:i < xs.length:=(aAe.1 h1).1
    have hjl:j < sz:=by rw [<- hs x (aAg h1)];exact (aAe.1 h2).1
    have h4:i*sz+sz<=xs.length*sz:=by rw [<- Nat.succ_mul];exact Nat.mul_le_mul_right _ hil
    refine .inr ⟨fun h=>hie h.1,x,h1,h2,?_⟩
    rw [<- hflat _ (fun h=>?_) (by omega)]
    . exact h3
    . rcases aBl i e with h5 | h5
      . have:i*sz+sz<=e*sz:=by rw [<- Nat.succ_mul];exact Nat.mul_le_mul_right _ h5
        omega
      . have:e*sz+sz<=i*sz:=by rw [<- Nat.succ_mul];exact Nat.mul_le_mul_right _ (by omega)
        omega
 have oth:∀ (i:Nat) x1 (j:Nat) y u,¬ (i=e/\c<=j/\j < c+ds.length)->xs[i]? = some x1->x1[j]? = some y->flat[i*sz+j]? = some u->(∀ k,Ins w y u k->w'.heap[k]? = w.heap[k]?):=
  fun i x1 j y u hn h1 h2 h3 k hk=>hother k ⟨i,x1,j,y,u,h1,h2,h3,hn,hk⟩
 refine ⟨.own et sz _ V flat' h0 (fun x hx'=>?_) (by rw [aAp];exact ho') (fun i x j y u h1 h2 h3=>?_) (fun i x j y u k h1 h2 h3 hk=>?_) (fun i x j y u i' x' j' y' u' k h1 h2 h3 h1' h2' h3' hk hk'=>?_),fun k hk=>?_⟩
 . rcases List.mem_or_eq_of_mem_set hx' with h | h
   . exact hs x h
   . rw [h];simp;omega
 . rcases cl i x j y u h1 h2 h3 with ⟨_,_,_,a,b⟩ | ⟨hn,x1,a1,a2,a3⟩
   . exact (hnew _ y u a b).1
   . exact (hr i x1 j y u a1 a2 a3).move hrd (oth i x1 j y u hn a1 a2 a3)
 . rcases cl i x j y u h1 h2 h3 with ⟨_,_,_,a,b⟩ | ⟨hn,x1,a1,a2,a3⟩
   . exact ((hnew _ y u a b).2 k hk).1
   . exact head i x1 j y u k a1 a2 a3 (hk.back (oth i x1 j y u hn a1 a2 a3))
 . rcases cl i x j y u h1 h2 h3 with ⟨rfl,q1,q2,a,b⟩ | ⟨hn,x1,a1,a2,a3⟩ <;> rcases cl i' x' j' y' u' h1' h2' h3' with ⟨rfl,q1',q2',a',b'⟩ | ⟨hn',x1',a1',a2',a3'⟩
   . have:=hsep _ y u _ y' u' k a b a' b' hk hk'
     exact ⟨rfl,by omega⟩
   . exact absurd ⟨i',x1',j',y',u',a1',a2',a3',hn',hk'.back (oth i' x1' j' y' u' hn' a1' a2' a3')⟩ ((hnew _ y u a b).2 k hk).2
   . exact absurd ⟨i,x1,j,y,u,a1,a2,a3,hn,hk.back (oth i x1 j y u hn a1 a2 a3)⟩ ((hnew _ y' u' a' b').2 k hk').2
   . exact sep i x1 j y u i' x1' j' y' u' k a1 a2 a3 a1' a2' a3' (hk.back (oth i x1 j y u hn a1 a2 a3)) (hk'.back (oth i' x1' j' y' u' hn' a1' a2' a3'))
 . cases hk with
   | head _ _ _ _ _ h=>exact .inl h
   | cell _ _ _ _ _ flat2 i x j y u ho2 h1 h2 h3 h4=>
     rw [aAp] at ho2
     rw [ownsRow_inj ho2 ho'] at h3
     rcases cl i x j y u h1 h2 h3 with ⟨_,_,_,a,b⟩ | ⟨hn,x1,a1,a2,a3⟩
     . exact .inr (.inr ⟨_,y,u,a,b,h4⟩)
     . exact .inr (.inl ⟨i,x1,j,y,u,a1,a2,a3,hn,h4.back (oth i x1 j y u hn a1 a2 a3)⟩)
theorem nN {C:Cx} (hC:C.Ok) {H:List (List Blk)} {o:Oper} {t:Nat} {x y:Operand} (ho:o.op = .store t x y) {tm:List PV} {top:List Blk} {p q:PV} (hp:ev? tm x=some p) (hq:ev? tm y=some q) {K:List Blk->Prop}
 (h:storeK0 C top t p q K):∃ top',K top'/\top'.length=top.length/\GenLe top top'/\bU C H o tm top .any top':=by
 have mx:x ∈ o.op.operands.toList:=by simp [ho,Op.operands]
 have my:y ∈ o.op.operands.toList:=by simp [ho,Op.operands]
 obtain ⟨r,hr,ht_,h_⟩:=lookK_spec h
 clear h
 subst ht_
 obtain ⟨ii,z,d,hii,hs,hb,hz,hzz,hd,hty⟩:=aP hC hr
 obtain ⟨cs,h,hcell,hcs⟩:=gI h_
 obtain ⟨_,h⟩:=eQ h
 rw [lenK_spec] at h
 simp only [ifK] at h
 split at h
 case h_2=>exact h.elim
 rename_i hn
 have hn:=aBj hn
 have run:∀ (m:M) (a:Act) (g o':Nat) (cur:Array Value) (e:Nat),a.eval x = .pointer (some ⟨g,o',none⟩)->RP m q (a.eval y)->m.w.heap[g]? = some (.cells cur e (0,0))->o'+r.size<=cur.size ->
  (execOp a.eval o).run C.P m.w = .ok .skip (m.w.setRow g (cur.toList.take o'++(a.eval y).cells.toList++cur.toList.drop (o'+(a.eval y).cells.toList.length)).toArray):=by
  intro m a g o' cur e hv hrq hg hle
  obtain ⟨hsz,hrel⟩:=hcs m _ hrq
  have h1:∀ u ∈ (a.eval y).cells.toList,u.oneCell'=true:=by
   intro u hu
   obtain ⟨j,hj⟩:=aB4.1 hu
   have hjl:j < cs.length:=by rw [<- hsz];simpa using (aAe.1 hj).1
   exact (hrel j _ u (aAf hjl) (by simpa using hj)).one (hcell _ (aBf _))
  have:=run_storeCells_at (P:=C.P) g o' e (a.eval y).cells.toList 0 cur m.w hg (by simp [hsz];omega) h1
  simp only [execOp,ho,Instr.storeAt,Instr.sureAddr,hv,storeVar,Sem.run_bind,Sem.run_pure,Result.andThen_ok,bS hii,hs]
  rw [if_neg (by omega)]
  simp only [this,Result.andThen_ok,Nat.add_zero]
 cases p with
 | ptr l i o'=>
   cases l with
   | succ l=>exact h.elim
   | zero=>
     obtain ⟨b,hb0,h⟩:=getK_spec.1 h
     cases b with
     | box bs=>
       obtain ⟨hle,h⟩:=putK_spec.1 h
       obtain ⟨hlt,h⟩:=setK_spec.1 h
       refine ⟨_,h,by simp,GenLe.set hb0 rfl rfl,fun m a hi he hf next Q hnext=>?_⟩
       have hpx:=aO he mx hp
       have hqy:=aO he my hq
       generalize hv:a.eval x=v at hpx
       cases hpx with
       | ptr _ _ _ g hρ=>
         obtain ⟨g',vs,e,hg',hg,hs2,hrel0⟩:=hi.blk 0 i _ hb0 _ hρ
         cases hg'
         obtain ⟨hsz,hrel⟩:=hcs m _ hqy
         have hr0:=run m a g o' vs e hv hqy hg (by omega)
         have hcl:(a.eval y).cells.toList.length=cs.length:=by rw [aBy];exact hsz
         have hvl:vs.toList.length=bs.length:=by rw [aBy];exact hs2
         unfold Oper.wp
         rw [hr0]
         have hset:=pY hi hb0 rfl hρ rfl (b:=.box (bs.take o'++cs++bs.drop (o'+cs.length))) rfl
          (w':=m.w.setRow g (vs.toList.take o'++(a.eval y).cells.toList++vs.toList.drop (o'+(a.eval y).cells.toList.length)).toArray) rfl rfl rfl (by simp) (fun k hk=>setRow_other _ _ _ _ hk) (fun k hk=>hk) rfl (fun hK=>by
            intro v' hv'
            rw [show (⟨_,m.ρ,m.U⟩:M).ρ 0 i=m.ρ 0 i from rfl,hρ] at hv'
            cases hv'
            refine ⟨g,_,e,rfl,setRow_heap _ _ _ _ _ _ hg,?_,fun j p u hp hu=>?_⟩
            . simp [hsz];omega
            . rw [gL hle] at hp
              simp only [aBx] at hu
              rw [gL (by rw [hcl,hvl];exact hle),hcl] at hu
              split at hp
              . rename_i hjj
                rw [if_pos hjj] at hu
                exact (hrel _ p u hp (by simpa using hu)).keep hK
              . rename_i hjj
                rw [if_neg hjj] at hu
                exact (hrel0 j p u hp (by simpa using hu)).keep (hK.up 0))
         exact hnext _ _ hset.1 (fun _ _ _=>rfl) hset.2.2 hset.2.1 (.any _)
     | dead=>exact h.elim
     | gen Y st=>exact h.elim
     | row e sz xs=>exact h.elim
     | deep _ _ _=>exact h.elim
     | sub _ _ _=>exact h.elim
 | rptr l i sz e j=>
   cases l with
   | succ l=>exact h.elim
   | zero=>
     obtain ⟨b,hb0,h⟩:=getK_spec.1 h
     cases b with
     | row t' sz' xs=>
       simp only at h
       split at h
       case h_2=>exact h.elim
       rename_i hszz
       have h9:=h
       clear h
       obtain rfl:=aBj hszz
       obtain ⟨ds,h9,hdl,hds⟩:=dR h9
       obtain ⟨x0,hx0,h9⟩:=h9
       obtain ⟨hle,h9⟩:=putK_spec.1 h9
       obtain ⟨hlt,h9⟩:=setK_spec.1 h9
       refine ⟨_,h9,by simp,GenLe.set hb0 rfl rfl,fun m a hi he hf next Q hnext=>?_⟩
       have hpx:=aO he mx hp
       have hqy:=aO he my hq
       generalize hv:a.eval x=v at hpx
       cases hpx with
       | rptr _ _ _ _ _ g N c hρ=>
         obtain ⟨hp0,hxs,flat,hown,hrel0⟩:=hi.blk 0 i _ hb0 _ hρ
         obtain ⟨hsz,hrel⟩:=hcs m _ hqy
         have hcl:(a.eval y).cells.toList.length=cs.length:=by rw [aBy];exact hsz
         have hel:e < xs.length:=(aAe.1 hx0).1
         have hxl:x0.length=sz':=hxs x0 (aAg hx0)
         obtain ⟨hfl,hform⟩:=hown
         rcases hform with ⟨h1,_⟩ | ⟨g',cap,cur,h1,hbase,hg,hcap,hmax,hcur,htake⟩
         . cases h1
         . simp only [Value.slice.injEq,Option.some.injEq,Addr.mk.injEq] at h1
           obtain ⟨⟨rfl,_⟩,rfl,rfl⟩:=h1
           have hee:e*sz'+sz'<=xs.length*sz':=by rw [<- Nat.succ_mul];exact Nat.mul_le_mul_right _ hel
           have hcc:xs.length*sz'<=c*sz':=Nat.mul_le_mul_right _ hcap
           have hcurl:cur.toList.length=c*sz':=by rw [aBy];exact hcur
           have hr0:=run m a g (e*sz'+j) cur t' hv hqy hg (by omega)
           unfold Oper.wp
           rw [hr0]
           have hset:=pY hi hb0 rfl hρ rfl (b:=.row t' sz' (xs.set e (x0.take j++ds++x0.drop (j+ds.length)))) rfl
            (w':=m.w.setRow g (cur.toList.take (e*sz'+j)++(a.eval y).cells.toList++cur.toList.drop (e*sz'+j+(a.eval y).cells.toList.length)).toArray) rfl rfl rfl (by simp) (fun k hk=>setRow_other _ _ _ _ hk) (fun k hk=>hk) rfl (fun hK=>by
              intro v' hv'
              rw [show (⟨_,m.ρ,m.U⟩:M).ρ 0 i=m.ρ 0 i from rfl,hρ] at hv'
              cases hv'
              refine ⟨hp0,fun x1 hx1=>?_,(cur.toList.take (e*sz'+j)++(a.eval y).cells.toList++cur.toList.drop (e*sz'+j+(a.eval y).cells.toList.length)).take (xs.length*sz'),⟨?_,.inr ⟨g,c,_,by rw [aAp],aBn _,setRow_heap _ _ _ _ _ _ hg,by simpa using hcap,hmax,?_,?_⟩⟩,fun i1 x1 j1 y1 u1 hx1 hy1 hu1=>?_⟩
              . rcases List.mem_or_eq_of_mem_set hx1 with h2 | h2
                . exact hxs x1 h2
                . rw [h2];simp;omega
              . rw [aAl];simp [hsz];omega
              . simp [hsz];omega
              . simp
              . have hi1:i1 < xs.length:=by simpa using (aAe.1 hx1).1
                have hx1l:x1.length=sz':=by
                 rcases List.mem_or_eq_of_mem_set (aAg hx1) with h2 | h2
                 . exact hxs x1 h2
                 . rw [h2];simp;omega
                have hj1:j1 < sz':=by rw [<- hx1l];exact (aAe.1 hy1).1
                have hpos:i1*sz'+j1 < xs.length*sz':=by
                 have:i1*sz'+sz'<=xs.length*sz':=by rw [<- Nat.succ_mul];exact Nat.mul_le_mul_right _ hi1
                 omega
                rw [List.getElem?_take_of_lt hpos,gL (by rw [hcl,hcurl];omega),hcl] at hu1
                have hfe:∀ k,k < xs.length*sz'->flat[k]? = cur[k]?:=fun k hk=>by rw [<- htake,List.getElem?_take_of_lt hk];simp
                by_cases hie:i1=e
                . subst hie
                  have hx1':x1=x0.take j++ds++x0.drop (j+ds.length):=by
                   rw [aAr hi1] at hx1;cases hx1;rfl
                  rw [hx1',gL hle] at hy1
                  by_cases hjj:j<=j1/\j1 < j+ds.length
                  . rw [if_pos hjj] at hy1
                    rw [if_pos (by omega),show i1*sz'+j1 - (i1*sz'+j)=j1 - j by omega] at hu1
                    have hu2:((a.eval y).cells[j1 - j]?).getD undef=u1:=by
                     rw [show (a.eval y).cells[j1 - j]? = some u1 by simpa using hu1];rfl
                    have:=hds m (fun k=>((a.eval y).cells[k]?).getD undef) (fun k p' hp'=>by
                     have hkl:k < cs.length:=(aAe.1 hp').1
                     have hk2:(a.eval y).cells[k]? = some ((a.eval y).cells[k]'(by omega)):=Array.getElem?_eq_getElem (by omega)
                     rw [hk2]
                     exact hrel k p' _ hp' hk2) (j1 - j) y1 hy1
                    simp only [hu2] at this
                    exact this.keep hK
                  . rw [if_neg hjj] at hy1
                    rw [if_neg (by omega)] at hu1
                    refine (hrel0 i1 x0 j1 y1 u1 hx0 hy1 ?_).keep hK
                    rw [hfe _ hpos];simpa using hu1
                . rw [aAs (Ne.symm hie)] at hx1
                  have hne:¬ (e*sz'+j<=i1*sz'+j1/\i1*sz'+j1 < e*sz'+j+cs.length):=by
                   rintro ⟨h3,h4⟩
                   rcases aBl i1 e with h5 | h5
                   . have:i1*sz'+sz'<=e*sz':=by rw [<- Nat.succ_mul];exact Nat.mul_le_mul_right _ h5
                     omega
                   . have:e*sz'+sz'<=i1*sz':=by rw [<- Nat.succ_mul];exact Nat.mul_le_mul_right _ (by omega)
                     omega
                  rw [if_neg hne] at hu1
                  refine (hrel0 i1 x1 j1 y1 u1 hx1 hy1 ?_).keep hK
                  rw [hfe _ hpos];simpa using hu1)
           exact hnext _ _ hset.1 (fun _ _ _=>rfl) hset.2.2 hset.2.1 (.any _)
     | dead=>exact h.elim
     | gen Y st=>exact h.elim
     | box cs=>exact h.elim
     | deep _ _ _=>exact h.elim
     | sub p' e' c'=>
       obtain ⟨b',hb',h⟩:=getK_spec.1 h
       cases b' with
       | deep t0 sz0 xs0=>
         obtain ⟨x00,hx00,h⟩:=h
         obtain ⟨y0,hy0,h⟩:=getK_spec.1 h
         cases y0 with
         | own e2 sz2 ys2=>
           simp only at h
           split at h
           case h_2=>exact h.elim
           rename_i hszz
           have h9:=h
           clear h
           obtain rfl:=aBj hszz
           obtain ⟨ds,h9,hdl,hds⟩:=dR h9
           obtain ⟨x1,hx1,h9⟩:=h9
           obtain ⟨hle,h9⟩:=putK_spec.1 h9
           obtain ⟨hle0,h9⟩:=putK_spec.1 h9
           obtain ⟨hlt,h9⟩:=setK_spec.1 h9
           refine ⟨_,h9,by simp,GenLe.set hb' rfl rfl,fun m a hi he hf next Q hnext=>?_⟩
           have hpx:=aO he mx hp
           have hqy:=aO he my hq
           generalize hv:a.eval x=v at hpx
           cases hpx with
           | rptr _ _ _ _ _ g N c hρ=>
             obtain ⟨V,flat0,hV,ho0,hf0,hro0,hro⟩:=hi.at hb0 hb' hx00 hy0 hρ
             obtain ⟨flat0',z0,s0,ho0',r0,hd0,sp0⟩:=hro0.parts
             obtain rfl:=ownsRow_inj ho0 ho0'
             obtain ⟨flat,z2,s2,hown,r2,hd2,sp2⟩:=hro.parts
             obtain ⟨hsz,hrel⟩:=hcs m _ hqy
             have hcl:(a.eval y).cells.toList.length=cs.length:=by rw [aBy];exact hsz
             have hel:e < ys2.length:=(aAe.1 hx1).1
             have hxl:x1.length=sz2:=s2 x1 (aAg hx1)
             have hins:Ins m.w (.own e2 sz2 ys2) (.slice (some ⟨g,0,none⟩) N c) g:=.head _ _ _ _ _ rfl
             have hgP:(Blk.deep t0 sz0 xs0).has m.w V g:=.cell _ _ _ _ _ flat0 e' x00 c' _ _ ho0 hx00 hy0 hf0 hins
             have hgV:blkOf V≠some g:=hd0 e' x00 c' _ _ g hx00 hy0 hf0 hins
             obtain ⟨hfl,hform⟩:=hown
             rcases hform with ⟨h1,_⟩ | ⟨g',cap,cur,h1,hbase,hg,hcap,hmax,hcur,htake⟩
             . cases h1
             . simp only [Value.slice.injEq,Option.some.injEq,Addr.mk.injEq] at h1
               obtain ⟨⟨rfl,_⟩,rfl,rfl⟩:=h1
               have hee:e*sz2+sz2<=ys2.length*sz2:=by rw [<- Nat.succ_mul];exact Nat.mul_le_mul_right _ hel
               have hcc:ys2.length*sz2<=c*sz2:=Nat.mul_le_mul_right _ hcap
               have hcurl:cur.toList.length=c*sz2:=by rw [aBy];exact hcur
               have hr0:=run m a g (e*sz2+j) cur e2 hv hqy hg (by omega)
               unfold Oper.wp
               rw [hr0]
               generalize hcells:cur.toList.take (e*sz2+j)++(a.eval y).cells.toList++cur.toList.drop (e*sz2+j+(a.eval y).cells.toList.length)=cells
               have hcel:∀ k,cells[k]? = if e*sz2+j<=k/\k < e*sz2+j+cs.length then (a.eval y).cells.toList[k - (e*sz2+j)]? else cur.toList[k]?:=fun k=>by
                rw [<- hcells,gL (by rw [hcl,hcurl];omega),hcl]
               have hcelen:cells.length=c*sz2:=by rw [<- hcells];simp [hsz];omega
               let w':=m.w.setRow g cells.toArray
               have hother:∀ k,k≠g->w'.heap[k]? = m.w.heap[k]?:=fun k hk=>setRow_other _ _ _ _ hk
               have hown':w'.ownsRow 0 e2 sz2 (.slice (some ⟨g,0,none⟩) ys2.length c) ys2.length (cells.take (ys2.length*sz2)):=by
                refine ⟨by rw [aAl];omega,.inr ⟨g,c,cells.toArray,rfl,aBn _,setRow_heap _ _ _ _ _ _ hg,hcap,hmax,by simp [hcelen],by simp⟩⟩
               have hrd:∀ (hK:Keep m ⟨w',m.ρ,m.U⟩) x v,RD m.w m.ok x v->RD w' (⟨w',m.ρ,m.U⟩:M).ok x v:=fun hK x v h=>h.keep hK
               have hK:Keep m ⟨w',m.ρ,m.U⟩:=⟨fun _ _ _ h=>h,by show _<=(m.w.setRow g _).heap.size;simp,fun k hk=>⟨hk.2,hother k (fun e=>hk.2 (e ▸ hi.own 0 p' _ V g hb' rfl hV hgP))⟩⟩
               have hoth2:∀ k,lB m.w sz2 ys2 flat e j ds.length k->w'.heap[k]? = m.w.heap[k]?:=fun k ⟨i1,xx,j1,yy,uu,a1,a2,a3,_,a5⟩=>hother k (fun e=>by
                have:=hd2 i1 xx j1 yy uu k a1 a2 a3 a5
                exact this (by rw [e];rfl))
               have hinner:=RO.put (ok':=(⟨w',m.ρ,m.U⟩:M).ok) (hrd hK) z2 s2 r2 hd2 sp2 hx1 hle hown' (fun k hk hkl=>by
                rw [List.getElem?_take_of_lt hkl,hcel,if_neg (fun h=>hk ⟨h.1,by rw [hdl];exact h.2⟩),<- htake,List.getElem?_take_of_lt hkl]) hoth2 (fun k yy uu h1 h2=>by
                have hkl:k < cs.length:=by rw [<- hdl];exact (aAe.1 h1).1
                have hkk:e*sz2+(j+k) < ys2.length*sz2:=by omega
                rw [List.getElem?_take_of_lt hkk,hcel,if_pos ⟨by omega,by omega⟩,show e*sz2+(j+k) - (e*sz2+j)=k by omega] at h2
                have h3:=hds m (fun k=>((a.eval y).cells[k]?).getD undef) (fun k p' hp'=>by
                 have hk2:(a.eval y).cells[k]? = some ((a.eval y).cells[k]'(by have:=(aAe.1 hp').1;omega)):=Array.getElem?_eq_getElem _
                 rw [hk2]
                 exact hrel k p' _ hp' hk2) k yy h1
                rw [show (a.eval y).cells[k]? = some uu by simpa using h2] at h3
                have h4:RD w' (⟨w',m.ρ,m.U⟩:M).ok yy uu:=RD.keep hK h3
                exact ⟨.plain _ _ h4,fun k' hk'=>absurd hk' (h4.not_own k')⟩) (fun k yy uu k' yy' uu' k2 h1 h2 _ _ h5=>by
                have hkl:k < cs.length:=by rw [<- hdl];exact (aAe.1 h1).1
                have hkk:e*sz2+(j+k) < ys2.length*sz2:=by omega
                rw [List.getElem?_take_of_lt hkk,hcel,if_pos ⟨by omega,by omega⟩,show e*sz2+(j+k) - (e*sz2+j)=k by omega] at h2
                have h3:=hds m (fun k=>((a.eval y).cells[k]?).getD undef) (fun k p' hp'=>by
                 have hk2:(a.eval y).cells[k]? = some ((a.eval y).cells[k]'(by have:=(aAe.1 hp').1;omega)):=Array.getElem?_eq_getElem _
                 rw [hk2]
                 exact hrel k p' _ hp' hk2) k yy h1
                rw [show (a.eval y).cells[k]? = some uu by simpa using h2] at h3
                have h4:RD w' (⟨w',m.ρ,m.U⟩:M).ok yy uu:=RD.keep hK h3
                exact absurd h5 (h4.not_own k2))
               have hinner2:∀ k,Ins w' (.own e2 sz2 (ys2.set e (x1.take j++ds++x1.drop (j+ds.length)))) (.slice (some ⟨g,0,none⟩) ys2.length c) k->Ins m.w (.own e2 sz2 ys2) (.slice (some ⟨g,0,none⟩) ys2.length c) k:=fun k hk=>by
                rcases hinner.2 k hk with h | ⟨i1,xx,j1,yy,uu,a1,a2,a3,_,a5⟩ | ⟨k',yy,uu,h1,h2,h5⟩
                . exact .head _ _ _ _ _ h
                . exact .cell _ _ _ _ _ flat i1 xx j1 yy uu ⟨hfl,.inr ⟨g,c,cur,rfl,hbase,hg,hcap,hmax,hcur,htake⟩⟩ a1 a2 a3 a5
                . exfalso
                  have hkl:k' < cs.length:=by rw [<- hdl];exact (aAe.1 h1).1
                  have hkk:e*sz2+(j+k') < ys2.length*sz2:=by omega
                  rw [List.getElem?_take_of_lt hkk,hcel,if_pos ⟨by omega,by omega⟩,show e*sz2+(j+k') - (e*sz2+j)=k' by omega] at h2
                  have h3:=hds m (fun k=>((a.eval y).cells[k]?).getD undef) (fun k p' hp'=>by
                   have hk2:(a.eval y).cells[k]? = some ((a.eval y).cells[k]'(by have:=(aAe.1 hp').1;omega)):=Array.getElem?_eq_getElem _
                   rw [hk2]
                   exact hrel k p' _ hp' hk2) k' yy h1
                  rw [show (a.eval y).cells[k']? = some uu by simpa using h2] at h3
                  have h4:RD w' (⟨w',m.ρ,m.U⟩:M).ok yy uu:=RD.keep hK h3
                  exact h4.not_own k h5
               have ho0w:w'.ownsRow 0 t0 sz0 V xs0.length flat0:=ownsRow_same ho0 (fun k hk=>hother k (fun e=>hgV (e ▸ hk)))
               have houter:=RO.put (ds:=[DV.own e2 sz2 (ys2.set e (x1.take j++ds++x1.drop (j+ds.length)))]) (ok':=(⟨w',m.ρ,m.U⟩:M).ok) (hrd hK) z0 s0 r0 hd0 sp0 hx00 hle0 ho0w (fun _ _ _=>rfl) (fun k ⟨i1,xx,j1,yy,uu,a1,a2,a3,a4,a5⟩=>hother k (fun h=>by
                subst h
                have:=sp0 i1 xx j1 yy uu e' x00 c' _ _ k a1 a2 a3 hx00 hy0 hf0 a5 hins
                exact a4 ⟨this.1,by omega,by show j1 < c'+1;omega⟩)) (fun k yy uu h1 h2=>by
                cases k with
                | succ k=>simp at h1
                | zero=>
                  simp only [aA9,Option.some.injEq] at h1;subst h1
                  rw [Nat.add_zero,hf0] at h2;cases h2
                  refine ⟨hinner.1,fun k' hk'=>?_⟩
                  have hk1:=hinner2 k' hk'
                  refine ⟨hd0 e' x00 c' _ _ k' hx00 hy0 hf0 hk1,fun ⟨i1,xx,j1,yy,uu,a1,a2,a3,a4,a5⟩=>?_⟩
                  have:=sp0 i1 xx j1 yy uu e' x00 c' _ _ k' a1 a2 a3 hx00 hy0 hf0 a5 hk1
                  exact a4 ⟨this.1,by omega,by show j1 < c'+1;omega⟩) (fun k yy uu k' yy' uu' k2 h1 _ h3 _ _ _=>by
                have:=(aAe.1 h1).1
                have:=(aAe.1 h3).1
                simp at *;omega)
               have hset:=rT hi hb' rfl hV hgP (b:=.deep t0 sz0 (xs0.set e' (x00.take c' ++ [DV.own e2 sz2 (ys2.set e (x1.take j++ds++x1.drop (j+ds.length)))]++x00.drop (c'+1)))) rfl
                (w':=w') rfl rfl rfl (by show (m.w.setRow g _).heap.size=_;simp) hother (fun k hk=>by
                  rcases houter.2 k hk with h | ⟨i1,xx,j1,yy,uu,a1,a2,a3,_,a5⟩ | ⟨k',yy,uu,h1,h2,h5⟩
                  . exact .head _ _ _ _ _ h
                  . exact .cell _ _ _ _ _ flat0 i1 xx j1 yy uu ho0 a1 a2 a3 a5
                  . cases k' with
                    | succ k'=>simp at h1
                    | zero=>
                      simp only [aA9,Option.some.injEq] at h1;subst h1
                      rw [Nat.add_zero,hf0] at h2;cases h2
                      exact .cell _ _ _ _ _ flat0 e' x00 c' _ _ ho0 hx00 hy0 hf0 (hinner2 k h5)) ?_ (fun _ v' hv'=>by
                  rw [show (⟨w',m.ρ,m.U⟩:M).ρ 0 p'=m.ρ 0 p' from rfl,hV] at hv'
                  cases hv'
                  exact houter.1)
               . exact hnext _ _ hset.1 (fun _ _ _=>rfl) hset.2.2 hset.2.1 (.any _)
               . have hpl:p' < top.length:=(aAe.1 hb').1
                 intro i1 p1 e1 c1 v1 d1 d2
                 have d1':top[i1]? = some (.sub p1 e1 c1):=by
                  by_cases hh:p'=i1
                  . subst hh;rw [aAr hpl] at d1;cases d1
                  . rwa [aAs hh] at d1
                 obtain ⟨q1,V1,q2,q3⟩:=hi.sub i1 p1 e1 c1 v1 d1' d2
                 refine ⟨q1,V1,q2,fun et sz xs x e3 sz3 zs fl b1 b2 b3 b4=>?_⟩
                 by_cases hh:p'=p1
                 . subst hh
                   rw [aAr hpl] at b1
                   cases b1
                   rw [hV] at q2;cases q2
                   rw [aAp] at b4
                   rw [ownsRow_inj b4 ho0w]
                   have hold:∃ e4 sz4 zs4 xo,xs0[e1]? = some xo/\xo[c1]? = some (.own e4 sz4 zs4):=by
                    by_cases hee1:e'=e1
                    . subst hee1
                      rw [aAr (aAe.1 hx00).1] at b2
                      cases b2
                      have hg2:=gL (l:=x00) (ys:=[DV.own e2 sz2 (ys2.set e (x1.take j++ds++x1.drop (j+ds.length)))]) (o:=c') hle0 c1
                      rw [show c'+([DV.own e2 sz2 (ys2.set e (x1.take j++ds++x1.drop (j+ds.length)))]:List DV).length=c'+1 from rfl] at hg2
                      rw [hg2] at b3
                      split at b3
                      . rename_i hc1
                        exact ⟨_,_,_,x00,hx00,by rw [show c1=c' by omega];exact hy0⟩
                      . exact ⟨_,_,_,x00,hx00,b3⟩
                    . rw [aAs hee1] at b2
                      exact ⟨_,_,_,x,b2,b3⟩
                   obtain ⟨e4,sz4,zs4,xo,w1,w2⟩:=hold
                   exact q3 t0 sz0 xs0 xo e4 sz4 zs4 flat0 hb' w1 w2 ho0
                 . rw [aAs hh] at b1
                   refine q3 et sz xs x e3 sz3 zs fl b1 b2 b3 (ownsRow_same b4 fun k hk=>(hother k (fun h=>?_)).symm)
                   subst h
                   exact hh (hi.inj 0 p' _ 0 p1 _ V V1 k hb' rfl b1 rfl hV q2 hgP (Blk.has_head hk)).2
         | _=>exact h.elim
       | _=>exact h.elim
 | any=>exact h.elim
 | kb b=>exact h.elim
 | ub=>exact h.elim
 | d x=>exact h.elim
 | nils=>exact h.elim
 | emp=>exact h.elim
 | row l i n=>exact h.elim
 | iptr cs=>exact h.elim
 | func fn a b=>exact h.elim
 | agg cs=>exact h.elim
 | tuple cs=>exact h.elim
 | yld Y=>exact h.elim
 | lits xs=>exact h.elim
theorem lC {i:Nat}:∀ (top:List Blk) (K:List Blk->Prop),killK i top K -> ∃ top',K top'/\top'.length=top.length /\
 ∀ (a:Nat) b,top'[a]? = some b->(b = .dead\/top[a]? = some b)/\(∀ e c,b ≠ .sub i e c) /\ ∀ b0,top[a]? = some b0->b0.isSub=false->b=b0
 | [],K,h=>⟨[],h,rfl,fun a b hb=>by simp at hb⟩
 | b0::top,K,h=>by
   rw [killK_cons] at h
   have step:∀ b1:Blk,killK i top (fun bs=>K (b1::bs))->(b1 = .dead\/b1=b0)->(∀ e c,b1 ≠ .sub i e c)->(b0.isSub=false->b1=b0) -> ∃ top',K top'/\top'.length=(b0::top).length /\
    ∀ (a:Nat) b,top'[a]? = some b->(b = .dead\/(b0::top)[a]? = some b)/\(∀ e c,b ≠ .sub i e c) /\ ∀ b',(b0::top)[a]? = some b'->b'.isSub=false->b=b':=fun b1 h h1 h2 h3=>by
    obtain ⟨top',hk,hl,hh⟩:=lC top _ h
    refine ⟨_,hk,by simp [hl],fun a b hb=>?_⟩
    cases a with
    | zero=>
      simp only [aA9,Option.some.injEq] at hb ⊢
      subst hb
      refine ⟨?_,h2,fun b' hb' hs=>?_⟩
      . rcases h1 with h1 | h1
        . exact .inl h1
        . exact .inr h1.symm
      . subst hb';exact h3 hs
    | succ a=>simpa using hh a b (by simpa using hb)
   cases b0 with
   | sub p e c=>
     simp only at h
     split at h
     . exact step _ h (.inl rfl) (fun _ _ h=>by cases h) (fun h=>by cases h)
     . rename_i hb
       exact step _ h (.inr rfl) (fun _ _ h=>by cases h;rw [Nat.beq_refl] at hb;cases hb) (fun _=>rfl)
   | dead=>exact step _ h (.inr rfl) (fun _ _ h=>by cases h) (fun _=>rfl)
   | box cs=>exact step _ h (.inr rfl) (fun _ _ h=>by cases h) (fun _=>rfl)
   | row a b xs=>exact step _ h (.inr rfl) (fun _ _ h=>by cases h) (fun _=>rfl)
   | gen Y st=>exact step _ h (.inr rfl) (fun _ _ h=>by cases h) (fun _=>rfl)
   | deep a b xs=>exact step _ h (.inr rfl) (fun _ _ h=>by cases h) (fun _=>rfl)
theorem lZ {m:M} {top:List Blk} {H:List (List Blk)} (hi:Inv m top H) {j:Nat} {e sz:Nat} {ys:List (List DV)} (hb:top[j]? = some (.row e sz ys)\/top[j]? = some (.deep e sz ys)) {v:Value} (hv:m.ρ 0 j=some v) :
 RO m.w m.ok (.own e sz ys) v /\ ∀ k,Ins m.w (.own e sz ys) v k -> ∃ b,top[j]? = some b/\b.live=true/\b.has m.w v k:=by
 rcases hb with hb | hb
 . obtain ⟨h0,hs,flat,ho,hr⟩:=hi.blk 0 j _ hb v hv
   have:=row_deep (ok:=m.ok) h0 hs ho hr
   exact ⟨this.1,fun k hk=>⟨_,hb,rfl,this.2 k hk⟩⟩
 . exact ⟨hi.blk 0 j _ hb v hv,fun k hk=>⟨_,hb,rfl,hk⟩⟩
theorem fE {top:List Blk}:∀ (cs:List PV) (js:List Nat) (K:List DV->List Nat->Prop),ownsK top cs js K -> ∃ ds l,K ds l/\ds.length=cs.length/\(∀ j ∈ l,j ∉ js /\ ∃ b,top[j]? = some b/\b.live=true) /\
 ∀ (H:List (List Blk)) (m:M),Inv m top H -> ∀ (f:Nat->Value),(∀ (k:Nat) p,cs[k]? = some p->RP m p (f k)) ->
   (∀ (k:Nat) y,ds[k]? = some y->RO m.w m.ok y (f k) /\ ∀ a,Ins m.w y (f k) a -> ∃ j ∈ l,∃ b v,top[j]? = some b/\b.live=true/\m.ρ 0 j=some v/\b.has m.w v a) /\
   ∀ (k:Nat) y (k':Nat) y' a,ds[k]? = some y->ds[k']? = some y'->Ins m.w y (f k) a->Ins m.w y' (f k') a->k=k'
 | [],js,K,h=>⟨[],[],h,rfl,fun j hj=>(by cases hj),fun H m hi f hf=>⟨fun k y hy=>by simp at hy,fun k y k' y' a hy=>by simp at hy⟩⟩
 | p::cs,js,K,h=>by
   have plain:(dvK p fun x=>ownsK top cs js fun ds l=>K (x::ds) l) -> ∃ ds l,K ds l/\ds.length=(p::cs).length/\(∀ j ∈ l,j ∉ js /\ ∃ b,top[j]? = some b/\b.live=true) /\
    ∀ (H:List (List Blk)) (m:M),Inv m top H -> ∀ (f:Nat->Value),(∀ (k:Nat) p',(p::cs)[k]? = some p'->RP m p' (f k)) ->
      (∀ (k:Nat) y,ds[k]? = some y->RO m.w m.ok y (f k) /\ ∀ a,Ins m.w y (f k) a -> ∃ j ∈ l,∃ b v,top[j]? = some b/\b.live=true/\m.ρ 0 j=some v/\b.has m.w v a) /\
      ∀ (k:Nat) y (k':Nat) y' a,ds[k]? = some y->ds[k']? = some y'->Ins m.w y (f k) a->Ins m.w y' (f k') a->k=k':=fun h=>by
    obtain ⟨x,h,hx⟩:=rM h
    obtain ⟨ds,l,hk,hlen,hjs,hh⟩:=fE cs js _ h
    refine ⟨_,_,hk,by simp [hlen],hjs,fun H m hi f hf=>?_⟩
    obtain ⟨h1,h2⟩:=hh H m hi (fun k=>f (k+1)) (fun k p' hp=>hf (k+1) p' (by simpa using hp))
    have h0:RD m.w m.ok x (f 0):=hx m _ (hf 0 p rfl)
    refine ⟨fun k y hy=>?_,fun k y k' y' a hy hy' ha ha'=>?_⟩
    . cases k with
      | zero=>simp at hy;subst hy;exact ⟨.plain _ _ h0,fun a ha=>absurd ha (h0.not_own a)⟩
      | succ k=>exact h1 k y (by simpa using hy)
    . cases k with
      | zero=>simp at hy;subst hy;exact absurd ha (h0.not_own a)
      | succ k=>
        cases k' with
        | zero=>simp at hy';subst hy';exact absurd ha' (h0.not_own a)
        | succ k'=>exact congrArg (· + 1) (h2 k y k' y' a (by simpa using hy) (by simpa using hy') ha ha')
   have own:∀ (j e sz:Nat) (ys:List (List DV)),p = .row 0 j ys.length->(top[j]? = some (.row e sz ys)\/top[j]? = some (.deep e sz ys))->js.any (Nat.beq j)=false->(ownsK top cs (j::js) fun ds l=>K (.own e sz ys::ds) (j::l)) ->
    ∃ ds l,K ds l/\ds.length=(p::cs).length/\(∀ j ∈ l,j ∉ js /\ ∃ b,top[j]? = some b/\b.live=true) /\
    ∀ (H:List (List Blk)) (m:M),Inv m top H -> ∀ (f:Nat->Value),(∀ (k:Nat) p',(p::cs)[k]? = some p'->RP m p' (f k)) ->
      (∀ (k:Nat) y,ds[k]? = some y->RO m.w m.ok y (f k) /\ ∀ a,Ins m.w y (f k) a -> ∃ j ∈ l,∃ b v,top[j]? = some b/\b.live=true/\m.ρ 0 j=some v/\b.has m.w v a) /\
      ∀ (k:Nat) y (k':Nat) y' a,ds[k]? = some y->ds[k']? = some y'->Ins m.w y (f k) a->Ins m.w y' (f k') a->k=k':=fun j e sz ys hp hb hj h=>by
    obtain ⟨ds,l,hk,hlen,hjs,hh⟩:=fE cs (j::js) _ h
    have hjn:j ∉ js:=fun hm=>by
     have:js.any (Nat.beq j)=true:=List.any_eq_true.2 ⟨j,hm,Nat.beq_refl j⟩
     rw [hj] at this;cases this
    refine ⟨_,_,hk,by simp [hlen],fun j' hj'=>?_,fun H m hi f hf=>?_⟩
    . rcases List.mem_cons.1 hj' with rfl | hj'
      . refine ⟨hjn,?_⟩
        rcases hb with hb | hb <;> exact ⟨_,hb,rfl⟩
      . exact ⟨fun hm=>(hjs j' hj').1 (aAv _ hm),(hjs j' hj').2⟩
    obtain ⟨h1,h2⟩:=hh H m hi (fun k=>f (k+1)) (fun k p' hp=>hf (k+1) p' (by simpa using hp))
    have hv:m.ρ 0 j=some (f 0):=by
     have:=hf 0 p rfl
     rw [hp] at this
     generalize f 0=v at this
     cases this with
     | row _ _ _ N c A hρ hn hc=>
       have hN:N=ys.length:=by
        obtain ⟨hro,_⟩:=lZ hi hb hρ
        obtain ⟨flat,_,_,ho,_⟩:=hro.parts
        exact (owns_hdr ho).1
       rw [hN] at hρ;exact hρ
    obtain ⟨hro,hins⟩:=lZ hi hb hv
    have tails:∀ (k:Nat) y a,ds[k]? = some y->Ins m.w y (f (k+1)) a -> ¬ Ins m.w (.own e sz ys) (f 0) a:=fun k y a hy ha ha0=>by
     obtain ⟨b0,hb0,hl0,hk0⟩:=hins a ha0
     obtain ⟨j',hj',b',v',q1,q2,q3,q4⟩:=(h1 k y hy).2 a ha
     have:=(hi.inj 0 j b0 0 j' b' (f 0) v' a hb0 hl0 q1 q2 hv q3 hk0 q4).2
     exact (hjs j' hj').1 (by rw [<- this];exact aAu)
    refine ⟨fun k y hy=>?_,fun k y k' y' a hy hy' ha ha'=>?_⟩
    . cases k with
      | zero=>
        simp at hy;subst hy
        refine ⟨hro,fun a ha=>?_⟩
        obtain ⟨b0,hb0,hl0,hk0⟩:=hins a ha
        exact ⟨j,aAu,b0,f 0,hb0,hl0,hv,hk0⟩
      | succ k=>
        obtain ⟨q1,q2⟩:=h1 k y (by simpa using hy)
        refine ⟨q1,fun a ha=>?_⟩
        obtain ⟨j',hj',r⟩:=q2 a ha
        exact ⟨j',aAv _ hj',r⟩
    . cases k with
      | zero=>
        simp at hy;subst hy
        cases k' with
        | zero=>rfl
        | succ k'=>exact absurd ha (tails k' y' a (by simpa using hy') ha')
      | succ k=>
        cases k' with
        | zero=>simp at hy';subst hy';exact absurd ha' (tails k y a (by simpa using hy) ha)
        | succ k'=>exact congrArg (· + 1) (h2 k y k' y' a (by simpa using hy) (by simpa using hy') ha ha')
   rw [ownsK_cons] at h
   split at h
   . rename_i j n
     split at h
     . exact h.elim
     . rename_i hj
       obtain ⟨b,hb,hB⟩:=getK_spec.1 h
       clear h
       cases b with
       | row e sz ys=>obtain ⟨rfl,hB⟩:=hB;exact own j e sz ys rfl (.inl hb) hj hB
       | deep e sz ys=>obtain ⟨rfl,hB⟩:=hB;exact own j e sz ys rfl (.inr hb) hj hB
       | _=>exact hB.elim
   . exact plain h
theorem qQ {m:M} {top top':List Blk} {H:List (List Blk)} (hi:Inv m top H) {i0 g:Nat} {b0:Blk} {v0:Value} (hb0:top[i0]? = some b0) (hl0:b0.live=true) (hρ:m.ρ 0 i0=some v0) (hg:b0.has m.w v0 g)
 {w':World} (hos:w'.os=m.w.os) (htape:w'.tape=m.w.tape) (hout:w'.output=m.w.output) (hsz:w'.heap.size=m.w.heap.size) (hheap:∀ k,k≠g->w'.heap[k]? = m.w.heap[k]?)
 (hget:∀ (i:Nat) b',i≠i0->top'[i]? = some b'->b' = .dead\/top[i]? = some b')
 (hnew:∀ b',top'[i0]? = some b' -> ∀ k,b'.has w' v0 k->b0.has m.w v0 k \/ ∃ (j:Nat) (b:Blk) (v:Value),j≠i0/\top[j]? = some b/\b.live=true/\m.ρ 0 j=some v/\b.has m.w v k/\top'[j]? = some .dead)
 (hviews:Views ⟨w',m.ρ,m.U⟩ top') (hb:Keep m ⟨w',m.ρ,m.U⟩ -> ∀ b',top'[i0]? = some b'->BlkOk ⟨w',m.ρ,m.U⟩ 0 i0 b'):Turn m ⟨w',m.ρ,m.U⟩ top/\Inv ⟨w',m.ρ,m.U⟩ top' H /\ ∀ k,Mine ⟨w',m.ρ,m.U⟩ top' k->m.w.heap.size<=k\/Mine m top k:=by
 have hT:Turn m ⟨w',m.ρ,m.U⟩ top:=⟨hos,htape,hout,Nat.le_of_eq hsz.symm,fun k _ hk=>hheap k (by
  rintro rfl
  exact hk ⟨i0,b0,v0,hb0,hl0,hρ,hg⟩),fun _ _ _ h=>h,fun _ _=>Iff.rfl⟩
 have hK:=hT.keep hi
 have get:∀ l i b',getB top' H l i=some b'->(l=0/\i=i0/\top'[i0]? = some b')\/(¬ (l=0/\i=i0)/\(b' = .dead\/getB top H l i=some b')):=by
  intro l i b' hb'
  cases l with
  | zero=>
    by_cases h:i=i0
    . subst h;exact .inl ⟨rfl,rfl,hb'⟩
    . exact .inr ⟨fun e=>h e.2,hget i b' h hb'⟩
  | succ l=>exact .inr ⟨fun e=>absurd e.1 (Nat.succ_ne_zero _),.inr hb'⟩
 have same:∀ l i b' v,getB top H l i=some b'->b'.live=true->m.ρ l i=some v -> ¬ (l=0/\i=i0) -> ∀ k,b'.has m.w v k->w'.heap[k]? = m.w.heap[k]?:=fun l i b' v h1 h2 h3 hn k hk=>hheap k (by
  rintro rfl
  exact hn (hi.inj l i b' 0 i0 b0 v v0 k h1 h2 hb0 hl0 h3 hρ hk hg))
 have old:∀ l i b' v k,getB top' H l i=some b'->b'.live=true->m.ρ l i=some v->b'.has w' v k -> ∃ l0 j b'' v'',getB top H l0 j=some b''/\b''.live=true/\m.ρ l0 j=some v''/\b''.has m.w v'' k/\((l0=l/\j=i)\/(l=0/\i=i0/\l0=0/\top'[j]? = some .dead)):=by
  intro l i b' v k hb' hl' hv hk
  rcases get l i b' hb' with ⟨rfl,rfl,h⟩ | ⟨hn,h | h⟩
  . rw [hρ] at hv;cases hv
    rcases hnew b' h k hk with h' | ⟨j,b,v,hj,h1,h2,h3,h4,h5⟩
    . exact ⟨0,i,b0,v0,hb0,hl0,hρ,h',.inl ⟨rfl,rfl⟩⟩
    . exact ⟨0,j,b,v,h1,h2,h3,h4,.inr ⟨rfl,rfl,rfl,h5⟩⟩
  . subst h;cases hl'
  . exact ⟨l,i,b',v,h,hl',hv,Blk.has_back hk (same l i b' v h hl' hv hn),.inl ⟨rfl,rfl⟩⟩
 refine ⟨hT,⟨fun l i b' hb'=>?_,fun l i b1 l' i' b2 v1 v2 k h1 hl1 h2 hl2 hv1 hv2 hk1 hk2=>?_,fun l i b1 v1 k h1 hl1 hv1 hk=>?_,fun k hk=>by rw [show (⟨w',m.ρ,m.U⟩:M).w.heap.size=m.w.heap.size from hsz];exact hi.lt k hk,hviews⟩,fun k ⟨j,b1,v1,h1,hl1,hv1,hk⟩=>by
  obtain ⟨l0,j',b'',v'',q1,q2,q3,q4,q5⟩:=old 0 j b1 v1 k h1 hl1 hv1 hk
  have:l0=0:=by rcases q5 with ⟨h,_⟩ | ⟨_,_,h,_⟩ <;> exact h
  subst this
  exact .inr ⟨j',b'',v'',q1,q2,q3,q4⟩⟩
 . rcases get l i b' hb' with ⟨rfl,rfl,h⟩ | ⟨hn,h | h⟩
   . exact hb hK b' h
   . subst h;trivial
   . exact (hi.blk l i b' h).keep hK rfl (fun v k hl hv hk=>same l i b' v h hl hv hn k hk)
 . obtain ⟨l0,j,c1,u1,q1,q2,q3,q4,q5⟩:=old l i b1 v1 k h1 hl1 hv1 hk1
   obtain ⟨l0',j',c2,u2,q1',q2',q3',q4',q5'⟩:=old l' i' b2 v2 k h2 hl2 hv2 hk2
   obtain ⟨e1,e2⟩:=hi.inj l0 j c1 l0' j' c2 u1 u2 k q1 q2 q1' q2' q3 q3' q4 q4'
   subst e1;subst e2
   rcases q5 with ⟨rfl,rfl⟩ | ⟨rfl,rfl,rfl,hd⟩ <;> rcases q5' with ⟨r1,r2⟩ | ⟨r1,r2,r3,hd'⟩
   . exact ⟨r1,r2⟩
   . subst r3
     rw [show getB top' H 0 j=top'[j]? from rfl,hd'] at h1
     cases h1;cases hl1
   . subst r1;subst r2
     rw [show getB top' H 0 j=top'[j]? from rfl,hd] at h2
     cases h2;cases hl2
   . exact ⟨r1.symm,r2.symm⟩
 . obtain ⟨l0,j,c1,u1,q1,q2,q3,q4,q5⟩:=old l i b1 v1 k h1 hl1 hv1 hk
   exact hi.own l0 j c1 u1 k q1 q2 q3 q4
theorem xE {C:Cx} (hC:C.Ok) {H:List (List Blk)} {o:Oper} {t:Nat} {x y:Operand} (ho:o.op = .store t x y) {tm:List PV} {top:List Blk} {i sz e c:Nat} {q:PV} (hp:ev? tm x=some (.rptr 0 i sz e c)) (hq:ev? tm y=some q) {K:List Blk->Prop}
 (h:moveK C top t i sz e c q K):∃ top',K top'/\top'.length=top.length/\GenLe top top'/\bU C H o tm top .any top':=by
 have mx:x ∈ o.op.operands.toList:=by simp [ho,Op.operands]
 have my:y ∈ o.op.operands.toList:=by simp [ho,Op.operands]
 obtain ⟨r,hr,ht_,h_⟩:=lookK_spec h
 clear h
 subst ht_
 obtain ⟨ii,z,d,hii,hs,hb,hz,hzz,hd,hty⟩:=aP hC hr
 obtain ⟨cs,h,hcell,hcs⟩:=gI h_
 obtain ⟨_,h⟩:=eQ h
 rw [lenK_spec] at h
 simp only [ifK] at h
 split at h
 case h_2=>exact h.elim
 rename_i hn
 have hn:=aBj hn
 obtain ⟨ds,l,h2,hdl,hjs,hown0⟩:=fE _ _ _ h
 clear h
 obtain ⟨b0,hb0,hB⟩:=getK_spec.1 h2
 clear h2
 have hil:i ∉ l:=fun hm=>(hjs i hm).1 (aAy.2 rfl)
 have run:∀ (m:M) (a:Act) (g o':Nat) (cur:Array Value) (e:Nat),a.eval x = .pointer (some ⟨g,o',none⟩)->RP m q (a.eval y)->m.w.heap[g]? = some (.cells cur e (0,0))->o'+r.size<=cur.size ->
  (execOp a.eval o).run C.P m.w = .ok .skip (m.w.setRow g (cur.toList.take o'++(a.eval y).cells.toList++cur.toList.drop (o'+(a.eval y).cells.toList.length)).toArray):=by
  intro m a g o' cur e hv hrq hg hle
  obtain ⟨hsz,hrel⟩:=hcs m _ hrq
  have h1:∀ u ∈ (a.eval y).cells.toList,u.oneCell'=true:=by
   intro u hu
   obtain ⟨j,hj⟩:=aB4.1 hu
   have hjl:j < cs.length:=by rw [<- hsz];simpa using (aAe.1 hj).1
   exact (hrel j _ u (aAf hjl) (by simpa using hj)).one (hcell _ (aBf _))
  have:=run_storeCells_at (P:=C.P) g o' e (a.eval y).cells.toList 0 cur m.w hg (by simp [hsz];omega) h1
  simp only [execOp,ho,Instr.storeAt,Instr.sureAddr,hv,storeVar,Sem.run_bind,Sem.run_pure,Result.andThen_ok,bS hii,hs]
  rw [if_neg (by omega)]
  simp only [this,Result.andThen_ok,Nat.add_zero]
 have main:∀ (t' sz':Nat) (xs:List (List DV)),(top[i]? = some (.row t' sz' xs)\/top[i]? = some (.deep t' sz' xs)) ->
  ifK (Nat.beq sz' sz) (∃ x,xs[e]? = some x/\putK x c ds fun x'=>killK i top fun top1=>setK top1 i (.deep t' sz' (xs.set e x')) fun top2=>hideK top2 l K) ->
  ∃ top',K top'/\top'.length=top.length/\GenLe top top'/\bU C H o tm top .any top':=by
  intro t' sz' xs hbb hM
  simp only [ifK] at hM
  split at hM
  case h_2=>exact hM.elim
  rename_i hsz
  obtain rfl:=aBj hsz
  obtain ⟨x0,hx0,h1⟩:=hM
  obtain ⟨hle,h2⟩:=putK_spec.1 h1
  obtain ⟨top1,h3,hl1,hk1⟩:=lC _ _ h2
  obtain ⟨hlt,h4⟩:=setK_spec.1 h3
  obtain ⟨top3,h5,hl3,hd3,hs3⟩:=eH l _ h4
  rw [aAp] at hl3
  have len3:top3.length=top.length:=by rw [hl3,hl1]
  have hb0l:b0.live=true:=by rcases hbb with hb | hb <;> rw [hb0] at hb <;> cases hb <;> rfl
  have at_i:top3[i]? = some (.deep t' sz' (xs.set e (x0.take c++ds++x0.drop (c+ds.length)))):=by
   rw [hs3 i hil,aAr hlt]
  have get:∀ (a:Nat) b',a≠i->top3[a]? = some b'->b' = .dead\/(top[a]? = some b' /\ ∀ e c,b' ≠ .sub i e c):=fun a b' ha hb'=>by
   have hal:a < top.length:=by rw [<- len3];exact (aAe.1 hb').1
   by_cases hal':a ∈ l
   . rw [hd3 a hal' (by rw [aAp,hl1];exact hal)] at hb'
     cases hb';exact .inl rfl
   . rw [hs3 a hal',aAs (fun e=>ha e.symm)] at hb'
     obtain ⟨q1,q2,_⟩:=hk1 a b' hb'
     rcases q1 with q1 | q1
     . exact .inl q1
     . exact .inr ⟨q1,q2⟩
  have hgen:GenLe top top3:=⟨fun a Y st hb'=>by
   by_cases ha:a=i
   . subst ha;rw [at_i] at hb';cases hb'
   . rcases get a _ ha hb' with h | h
     . cases h
     . exact h.1,Nat.le_of_eq len3.symm⟩
  refine ⟨top3,h5,len3,hgen,fun m a hi he hf next Q hnext=>?_⟩
  have hpx:=aO he mx hp
  have hqy:=aO he my hq
  generalize hv:a.eval x=v at hpx
  cases hpx with
  | rptr _ _ _ _ _ g N cc hρ=>
    obtain ⟨hro,hins⟩:=lZ hi hbb hρ
    obtain ⟨flat,z0,s0,ho0,r0,hd0,sp0⟩:=hro.parts
    have hins':∀ k,Ins m.w (.own t' sz' xs) (.slice (some ⟨g,0,none⟩) N cc) k->b0.has m.w (.slice (some ⟨g,0,none⟩) N cc) k:=fun k hk=>by
     obtain ⟨b,q1,_,q2⟩:=hins k hk
     rw [hb0] at q1;cases q1;exact q2
    have hg0:b0.has m.w (.slice (some ⟨g,0,none⟩) N cc) g:=hins' g (.head _ _ _ _ _ rfl)
    have notmine:∀ (j:Nat) b v k,j ∈ l->top[j]? = some b->b.live=true->m.ρ 0 j=some v->b.has m.w v k -> ¬ b0.has m.w (.slice (some ⟨g,0,none⟩) N cc) k:=fun j b v k hj q1 q2 q3 q4 h=>by
     have:=(hi.inj 0 i b0 0 j b _ v k hb0 hb0l q1 q2 hρ q3 h q4).2
     exact hil (this ▸ hj)
    obtain ⟨hsz,hrel⟩:=hcs m _ hqy
    have hcl:(a.eval y).cells.toList.length=cs.length:=by rw [aBy];exact hsz
    have hel:e < xs.length:=(aAe.1 hx0).1
    have hxl:x0.length=sz':=s0 x0 (aAg hx0)
    obtain ⟨hO1,hO2⟩:=hown0 H m hi (fun k=>((a.eval y).cells[k]?).getD undef) (fun k p' hp'=>by
     have hkl:k < cs.length:=(aAe.1 hp').1
     have hk2:(a.eval y).cells[k]? = some ((a.eval y).cells[k]'(by omega)):=Array.getElem?_eq_getElem (by omega)
     rw [hk2]
     exact hrel k p' _ hp' hk2)
    obtain ⟨hfl,hform⟩:=ho0
    rcases hform with ⟨h1,_⟩ | ⟨g',cap,cur,h1,hbase,hg,hcap,hmax,hcur,htake⟩
    . cases h1
    . simp only [Value.slice.injEq,Option.some.injEq,Addr.mk.injEq] at h1
      obtain ⟨⟨rfl,_⟩,rfl,rfl⟩:=h1
      have ho0:m.w.ownsRow 0 t' sz' (.slice (some ⟨g,0,none⟩) xs.length cc) xs.length flat:=⟨hfl,.inr ⟨g,cc,cur,rfl,hbase,hg,hcap,hmax,hcur,htake⟩⟩
      have hee:e*sz'+sz'<=xs.length*sz':=by rw [<- Nat.succ_mul];exact Nat.mul_le_mul_right _ hel
      have hcc:xs.length*sz'<=cc*sz':=Nat.mul_le_mul_right _ hcap
      have hcurl:cur.toList.length=cc*sz':=by rw [aBy];exact hcur
      have hr0:=run m a g (e*sz'+c) cur t' hv hqy hg (by omega)
      unfold Oper.wp
      rw [hr0]
      generalize hcells:cur.toList.take (e*sz'+c)++(a.eval y).cells.toList++cur.toList.drop (e*sz'+c+(a.eval y).cells.toList.length)=cells
      have hcel:∀ k,cells[k]? = if e*sz'+c<=k/\k < e*sz'+c+cs.length then (a.eval y).cells.toList[k - (e*sz'+c)]? else cur.toList[k]?:=fun k=>by
       rw [<- hcells,gL (by rw [hcl,hcurl];omega),hcl]
      have hcelen:cells.length=cc*sz':=by rw [<- hcells];simp [hsz];omega
      let w':=m.w.setRow g cells.toArray
      have hother:∀ k,k≠g->w'.heap[k]? = m.w.heap[k]?:=fun k hk=>setRow_other _ _ _ _ hk
      have hown':w'.ownsRow 0 t' sz' (.slice (some ⟨g,0,none⟩) xs.length cc) xs.length (cells.take (xs.length*sz')):=by
       refine ⟨by rw [aAl];omega,.inr ⟨g,cc,cells.toArray,rfl,aBn _,setRow_heap _ _ _ _ _ _ hg,hcap,hmax,by simp [hcelen],by simp⟩⟩
      have hK:Keep m ⟨w',m.ρ,m.U⟩:=⟨fun _ _ _ h=>h,by show _<=(m.w.setRow g _).heap.size;simp,fun k hk=>⟨hk.2,hother k (fun e=>hk.2 (e ▸ hi.own 0 i b0 _ g hb0 hb0l hρ hg0))⟩⟩
      have hrd:∀ x v,RD m.w m.ok x v->RD w' (⟨w',m.ρ,m.U⟩:M).ok x v:=fun x v h=>h.keep hK
      have val:∀ (k:Nat) yy uu,ds[k]? = some yy->(cells.take (xs.length*sz'))[e*sz'+(c+k)]? = some uu->uu=((a.eval y).cells[k]?).getD undef:=fun k yy uu h1 h2=>by
       have hkl:k < cs.length:=by rw [<- hdl];exact (aAe.1 h1).1
       rw [List.getElem?_take_of_lt (by omega),hcel,if_pos ⟨by omega,by omega⟩,show e*sz'+(c+k) - (e*sz'+c)=k by omega] at h2
       rw [show (a.eval y).cells[k]? = some uu by simpa using h2];rfl
      have keepk:∀ (k:Nat) yy,ds[k]? = some yy -> ∀ a',Ins m.w yy (((a.eval y).cells[k]?).getD undef) a'->w'.heap[a']? = m.w.heap[a']?:=fun k yy h1 a' ha'=>hother a' (fun e=>by
       obtain ⟨j,hj,b,v,q1,q2,q3,q4⟩:=(hO1 k yy h1).2 a' ha'
       exact notmine j b v a' hj q1 q2 q3 q4 (e ▸ hg0))
      have hput:=RO.put (ok':=(⟨w',m.ρ,m.U⟩:M).ok) hrd z0 s0 r0 hd0 sp0 hx0 hle hown' (fun k hk hkl=>by
       rw [List.getElem?_take_of_lt hkl,hcel,if_neg (fun h=>hk ⟨h.1,by rw [hdl];exact h.2⟩),<- htake,List.getElem?_take_of_lt hkl])
       (fun k ⟨i1,xx,j1,yy,uu,a1,a2,a3,_,a5⟩=>hother k (fun e=>by
         have:=hd0 i1 xx j1 yy uu k a1 a2 a3 a5
         exact this (by rw [e];rfl)))
       (fun k yy uu h1 h2=>by
         obtain rfl:=val k yy uu h1 h2
         obtain ⟨q1,q2⟩:=hO1 k yy h1
         refine ⟨q1.mono hK.ok (keepk k yy h1),fun a' ha'=>?_⟩
         obtain ⟨j,hj,b,v,p1,p2,p3,p4⟩:=q2 a' (ha'.back (keepk k yy h1))
         have hno:=notmine j b v a' hj p1 p2 p3 p4
         refine ⟨fun h=>hno (hins' a' (.head _ _ _ _ _ h)),fun ⟨i1,xx,j1,y1,u1,a1,a2,a3,_,a5⟩=>hno (hins' a' (.cell _ _ _ _ _ flat i1 xx j1 y1 u1 ho0 a1 a2 a3 a5))⟩)
       (fun k yy uu k' yy' uu' a' h1 h2 h3 h4 h5 h6=>by
         obtain rfl:=val k yy uu h1 h2
         obtain rfl:=val k' yy' uu' h3 h4
         exact hO2 k yy k' yy' a' h1 h3 (h5.back (keepk k yy h1)) (h6.back (keepk k' yy' h3)))
      have hset:=qQ (top':=top3) hi hb0 hb0l hρ hg0 (w':=w') rfl rfl rfl (by show (m.w.setRow g _).heap.size=_;simp) hother
       (fun a' b' ha' hb'=>(get a' b' ha' hb').imp id fun h=>h.1) (fun b' hb' k hk=>by
         rw [at_i] at hb';cases hb'
         rcases hput.2 k hk with h | ⟨i1,xx,j1,yy,uu,a1,a2,a3,_,a5⟩ | ⟨k',yy,uu,h1,h2,h5⟩
         . exact .inl (hins' k (.head _ _ _ _ _ h))
         . exact .inl (hins' k (.cell _ _ _ _ _ flat i1 xx j1 yy uu ho0 a1 a2 a3 a5))
         . obtain rfl:=val k' yy uu h1 h2
           obtain ⟨j,hj,b,v,p1,p2,p3,p4⟩:=(hO1 k' yy h1).2 k (h5.back (keepk k' yy h1))
           exact .inr ⟨j,b,v,fun e=>hil (e ▸ hj),p1,p2,p3,p4,hd3 j hj (by rw [aAp,hl1];exact (aAe.1 p1).1)⟩)
       (fun i1 p1 e1 c1 v1 d1 d2=>by
         have hi1:i1≠i:=fun e=>by rw [e,at_i] at d1;cases d1
         rcases get i1 _ hi1 d1 with h | ⟨h,hno⟩
         . cases h
         obtain ⟨q1,V1,q2,q3⟩:=hi.sub i1 p1 e1 c1 v1 h d2
         refine ⟨q1,V1,q2,fun et sz xs x e3 sz3 zs fl b1 b2 b3 b4=>?_⟩
         have hp1:p1≠i:=fun e=>hno e1 c1 (by rw [e])
         rcases get p1 _ hp1 b1 with h' | ⟨h',_⟩
         . cases h'
         refine q3 et sz xs x e3 sz3 zs fl h' b2 b3 (ownsRow_same b4 fun k hk=>(hother k (fun e=>?_)).symm)
         subst e
         exact hp1 (hi.inj 0 p1 _ 0 i b0 V1 _ k h' rfl hb0 hb0l q2 hρ (Blk.has_head hk) hg0).2)
       (fun _ b' hb'=>by
         rw [at_i] at hb';cases hb'
         intro v' hv'
         rw [show (⟨w',m.ρ,m.U⟩:M).ρ 0 i=m.ρ 0 i from rfl,hρ] at hv'
         cases hv'
         exact hput.1)
      exact hnext _ _ hset.1 (fun _ _ _=>rfl) hset.2.2 hset.2.1 (.any _)
 cases b0 with
 | row t' sz' xs=>exact main t' sz' xs (.inl hb0) hB
 | deep t' sz' xs=>exact main t' sz' xs (.inr hb0) hB
 | _=>exact hB.elim
structure Ghost (top top':List Blk):Prop where
 len:top'.length=top.length
 gen:GenLe top top'
 inv:∀ (m:M) (H:List (List Blk)),Inv m top H->Inv m top' H /\ ∀ k,Mine m top' k->Mine m top k
theorem Ghost.refl (top:List Blk):Ghost top top:=⟨rfl,GenLe.refl _,fun m H hi=>⟨hi,fun k h=>h⟩⟩
theorem Ghost.trans {a b c:List Blk} (h:Ghost a b) (h':Ghost b c):Ghost a c:=
 ⟨h'.len.trans h.len,h.gen.trans h'.gen,fun m H hi=>by
   obtain ⟨h1,h2⟩:=h.inv m H hi
   obtain ⟨h3,h4⟩:=h'.inv m H h1
   exact ⟨h3,fun k hk=>h2 k (h4 k hk)⟩⟩
theorem Turn.ghost {m m':M} {top top1:List Blk} (h:Turn m m' top1) (hm:∀ k,Mine m top1 k->Mine m top k):Turn m m' top:=
 ⟨h.os,h.tape,h.output,h.size,fun k hk hn=>h.heap k hk (fun h1=>hn (hm k h1)),h.ρ,h.U⟩
theorem bU.ghost {C:Cx} {H:List (List Blk)} {o:Oper} {tm:List PV} {top top1 top':List Blk} {pv:PV} (g:Ghost top top1) (h:bU C H o tm top1 pv top'):bU C H o tm top pv top':=by
 intro m a hi he hf next Q hn
 obtain ⟨h1,h2⟩:=g.inv m H hi
 refine h m a h1 he (fun j hj=>hf j (by rw [<- g.len];exact hj)) next Q fun v m' hT hρ hfr hI hr=>hn v m' (hT.ghost h2) (fun l j hj=>hρ l j (by rw [g.len];exact hj)) (fun k hk=>(hfr k hk).imp id (h2 k)) hI hr
theorem vX {j:Nat} {top:List Blk} {K:List Blk->Prop} (h:killK j top K):∃ top',K top'/\Ghost top top'/\(∀ (i e c:Nat),top'[i]? ≠ some (.sub j e c)):=by
 obtain ⟨top',hk,hl,hh⟩:=lC _ _ h
 have old:∀ (i:Nat) b,top'[i]? = some b->b ≠ .dead->top[i]? = some b:=fun i b hb hd=>((hh i b hb).1).resolve_left hd
 have hlv:∀ b:Blk,b.live=true->b ≠ .dead:=fun b h e=>by subst e;cases h
 have get:∀ (H':List (List Blk)) l i b,getB top' H' l i=some b->b ≠ .dead->getB top H' l i=some b:=fun H' l i b hb hd=>by
  cases l with
  | zero=>exact old i b hb hd
  | succ l=>exact hb
 refine ⟨top',hk,⟨hl,⟨fun i Y st hi=>old i _ hi (fun h=>by cases h),Nat.le_of_eq hl.symm⟩,fun m H hi=>⟨⟨fun l i b hb=>?_,fun l i b l' i' b' v v' k h1 h2 h3 h4=>hi.inj l i b l' i' b' v v' k (get H l i b h1 (hlv b h2)) h2 (get H l' i' b' h3 (hlv b' h4)) h4,fun l i b v k h1 h2=>hi.own l i b v k (get H l i b h1 (hlv b h2)) h2,hi.lt,?_⟩,fun k ⟨i,b,v,h1,h2,h3,h4⟩=>⟨i,b,v,old i b h1 (hlv b h2),h2,h3,h4⟩⟩⟩,fun i e c h=>?_⟩
 . by_cases hd:b = .dead
   . subst hd;trivial
   . exact hi.blk l i b (get H l i b hb hd)
 . exact hi.sub.of (fun i p e c v h1 h2=>⟨old i _ h1 (fun h=>by cases h),h2⟩) (fun p V h=>h) (fun p et sz xs V h1 h2=>⟨old p _ h1 (fun h=>by cases h),fun k _=>rfl⟩)
 . exact (hh i _ h).2.1 e c rfl
theorem nO {w:World} {ok:Nat->Prop} {y:DV} {u:Value} (hn:noOwn y=true) (h:RO w ok y u):RD w ok y u:=by
 cases h with
 | plain _ _ h=>exact h
 | own=>cases hn
theorem RO.one {w:World} {ok:Nat->Prop} {y:DV} {u:Value} (h:RO w ok y u):u.oneCell'=true:=by
 cases h with
 | plain _ _ h=>exact h.one
 | own _ _ _ _ flat _ _ ho=>
   rcases ho.2 with ⟨rfl,_⟩ | ⟨g,cap,cur,rfl,_⟩ <;> rfl
theorem oU {top:List Blk} {j p e c t0 sz0 e2 sz2:Nat} {xs0 ys:List (List DV)} {x0:List DV} (hj:top[j]? = some (.sub p e c)) (hp:top[p]? = some (.deep t0 sz0 xs0)) (he:xs0[e]? = some x0) (hc:x0[c]? = some (.own e2 sz2 ys))
 {B:Blk} (hB:B = .deep e2 sz2 ys\/(B = .row e2 sz2 ys /\ ∀ x ∈ ys,∀ y ∈ x,noOwn y=true)) (hno:∀ (i e' c':Nat),top[i]? ≠ some (.sub j e' c')):Ghost top ((top.set p (.deep t0 sz0 (xs0.set e (x0.set c .junk)))).set j B):=by
 have hpj:p≠j:=fun h=>by rw [h,hj] at hp;cases hp
 have hjl:j < top.length:=(aAe.1 hj).1
 have hpl:p < top.length:=(aAe.1 hp).1
 have hel:e < xs0.length:=(aAe.1 he).1
 have hcl:c < x0.length:=(aAe.1 hc).1
 generalize hP:Blk.deep t0 sz0 (xs0.set e (x0.set c .junk))=P
 generalize hT:(top.set p P).set j B=top'
 have hBl:B.live=true:=by rcases hB with h | ⟨h,_⟩ <;> rw [h] <;> rfl
 have hBg:B.isGen=false:=by rcases hB with h | ⟨h,_⟩ <;> rw [h] <;> rfl
 have hBs:B.isSub=false:=by rcases hB with h | ⟨h,_⟩ <;> rw [h] <;> rfl
 have atj:top'[j]? = some B:=by rw [<- hT,aAr (by rw [aAp];exact hjl)]
 have atp:top'[p]? = some P:=by rw [<- hT,aAs (fun h=>hpj h.symm),aAr hpl]
 have ato:∀ i,i≠j->i≠p->top'[i]? = top[i]?:=fun i h1 h2=>by rw [<- hT,aAs (fun h=>h1 h.symm),aAs (fun h=>h2 h.symm)]
 have cell:∀ (i':Nat) x' (j':Nat) y',(xs0.set e (x0.set c .junk))[i']? = some x'->x'[j']? = some y'->(i'=e/\j'=c/\y' = .junk)\/(¬ (i'=e/\j'=c) /\ ∃ x,xs0[i']? = some x/\x[j']? = some y'):=by
  intro i' x' j' y' h1 h2
  by_cases hi:e=i'
  . subst hi
    rw [aAr hel] at h1
    cases h1
    by_cases hj':c=j'
    . subst hj'
      rw [aAr hcl] at h2
      cases h2;exact .inl ⟨rfl,rfl,rfl⟩
    . rw [aAs hj'] at h2
      exact .inr ⟨fun h=>hj' h.2.symm,x0,he,h2⟩
  . rw [aAs hi] at h1
    exact .inr ⟨fun h=>hi h.1.symm,x',h1,h2⟩
 have rowlen:∀ (k:Nat),(∀ x ∈ xs0,x.length=k) -> ∀ x ∈ xs0.set e (x0.set c .junk),x.length=k:=fun k h x hx=>by
  rcases List.mem_or_eq_of_mem_set hx with h1 | h1
  . exact h x h1
  . rw [h1,aAp];exact h x0 (aAg he)
 refine ⟨by rw [<- hT];simp,⟨fun i Y st hi=>?_,by rw [<- hT];simp⟩,fun m H hi=>?_⟩
 . by_cases h1:i=j
   . subst h1;rw [atj] at hi;cases hi;cases hBg
   . by_cases h2:i=p
     . subst h2;rw [atp,<- hP] at hi;cases hi
     . rwa [ato i h1 h2] at hi
 have parent:∀ V,m.ρ 0 p=some V->RO m.w m.ok (.own t0 sz0 (xs0.set e (x0.set c .junk))) V/\(∀ k,Ins m.w (.own t0 sz0 (xs0.set e (x0.set c .junk))) V k->Ins m.w (.own t0 sz0 xs0) V k) /\
  ∀ (flat:List Value) u,m.w.ownsRow 0 t0 sz0 V xs0.length flat->flat[e*sz0+c]? = some u -> ∀ k,Ins m.w (.own t0 sz0 (xs0.set e (x0.set c .junk))) V k->Ins m.w (.own e2 sz2 ys) u k->False:=by
  intro V hV
  have hro:RO m.w m.ok (.own t0 sz0 xs0) V:=hi.blk 0 p _ hp V hV
  obtain ⟨flat,h0,hs,ho,hr,hd,sp⟩:=hro.parts
  have back:∀ k,Ins m.w (.own t0 sz0 (xs0.set e (x0.set c .junk))) V k->blkOf V=some k \/ ∃ i' x j' y u',¬ (i'=e/\j'=c)/\xs0[i']? = some x/\x[j']? = some y/\flat[i'*sz0+j']? = some u'/\Ins m.w y u' k:=by
   intro k hk
   cases hk with
   | head _ _ _ _ _ h=>exact .inl h
   | cell _ _ _ _ _ flat' i' x' j' y' u' ho' hx hy hu h=>
     rw [aAp] at ho'
     obtain rfl:=ownsRow_inj ho ho'
     rcases cell i' x' j' y' hx hy with ⟨_,_,rfl⟩ | ⟨h1,x,h2,h3⟩
     . cases h
     . exact .inr ⟨i',x,j',y',u',h1,h2,h3,hu,h⟩
  refine ⟨.own t0 sz0 _ V flat h0 (rowlen _ hs) (by rw [aAp];exact ho) (fun i' x' j' y' u' hx hy hu=>?_) (fun i' x' j' y' u' k hx hy hu hk=>?_) (fun i' x' j' y' u' i3 x3 j3 y3 u3 k hx hy hu hx3 hy3 hu3 hk hk3=>?_),fun k hk=>?_,fun flat' u ho' hu k hk hk2=>?_⟩
  . rcases cell i' x' j' y' hx hy with ⟨rfl,rfl,rfl⟩ | ⟨_,x,h2,h3⟩
    . exact .plain _ _ (.junk _ (hr _ _ _ _ _ he hc hu).one)
    . exact hr i' x j' y' u' h2 h3 hu
  . rcases cell i' x' j' y' hx hy with ⟨_,_,rfl⟩ | ⟨_,x,h2,h3⟩
    . cases hk
    . exact hd i' x j' y' u' k h2 h3 hu hk
  . rcases cell i' x' j' y' hx hy with ⟨_,_,rfl⟩ | ⟨_,x,h2,h3⟩
    . cases hk
    . rcases cell i3 x3 j3 y3 hx3 hy3 with ⟨_,_,rfl⟩ | ⟨_,x4,h5,h6⟩
      . cases hk3
      . exact sp i' x j' y' u' i3 x4 j3 y3 u3 k h2 h3 hu h5 h6 hu3 hk hk3
  . rcases back k hk with h | ⟨i',x,j',y,u',_,h2,h3,h4,h5⟩
    . exact .head _ _ _ _ _ h
    . exact .cell _ _ _ _ _ flat i' x j' y u' ho h2 h3 h4 h5
  . obtain rfl:=ownsRow_inj ho ho'
    rcases back k hk with h | ⟨i',x,j',y,u',h1,h2,h3,h4,h5⟩
    . exact hd e x0 c _ u k he hc hu hk2 h
    . exact h1 (sp i' x j' y u' e x0 c _ u k h2 h3 h4 he hc hu h5 hk2)
 have child:∀ v,m.ρ 0 j=some v -> ∃ V,m.ρ 0 p=some V/\RO m.w m.ok (.own e2 sz2 ys) v/\(∀ k,B.has m.w v k->Ins m.w (.own e2 sz2 ys) v k)/\(∀ k,Ins m.w (.own e2 sz2 ys) v k->Ins m.w (.own t0 sz0 xs0) V k) /\ ∀ k,Ins m.w (.own t0 sz0 (xs0.set e (x0.set c .junk))) V k -> ¬ Ins m.w (.own e2 sz2 ys) v k:=by
  intro v hv
  obtain ⟨V,flat,hV,ho,hf,hro,hro2⟩:=hi.at hj hp he hc hv
  refine ⟨V,hV,hro2,fun k hk=>?_,fun k hk=>.cell _ _ _ _ _ flat e x0 c _ v ho he hc hf hk,fun k h1 h2=>(parent V hV).2.2 flat v ho hf k h1 h2⟩
  rcases hB with h | ⟨h,_⟩ <;> subst h
  . exact hk
  . exact .head _ _ _ _ _ hk
 have old:∀ l i b v k,getB top' H l i=some b->b.live=true->m.ρ l i=some v->b.has m.w v k ->
  (∃ b0,getB top H l i=some b0/\b0.live=true/\b0.has m.w v k/\(l=0->i≠j)/\(l=0->i=p->Ins m.w (.own t0 sz0 (xs0.set e (x0.set c .junk))) v k))\/(l=0/\i=j/\Ins m.w (.own e2 sz2 ys) v k /\ ∃ V,m.ρ 0 p=some V/\Ins m.w (.own t0 sz0 xs0) V k):=by
  intro l i b v k hb hl hv hk
  cases l with
  | succ l=>exact .inl ⟨b,hb,hl,hk,(fun h=>by cases h),(fun h=>by cases h)⟩
  | zero=>
    have hb:top'[i]? = some b:=hb
    by_cases h1:i=j
    . subst h1
      rw [atj] at hb;cases hb
      obtain ⟨V,hV,_,q1,q2,_⟩:=child v hv
      exact .inr ⟨rfl,rfl,q1 k hk,V,hV,q2 k (q1 k hk)⟩
    . by_cases h2:i=p
      . subst h2
        rw [atp,<- hP] at hb;cases hb
        exact .inl ⟨_,hp,rfl,(parent v hv).2.1 k hk,fun _=>h1,fun _ _=>hk⟩
      . rw [ato i h1 h2] at hb
        exact .inl ⟨b,hb,hl,hk,fun _=>h1,fun _ h=>absurd h h2⟩
 refine ⟨⟨fun l i b hb=>?_,fun l i b l' i' b' v v' k h1 h2 h3 h4 h5 h6 h7 h8=>?_,fun l i b v k h1 h2 h3 h4=>?_,hi.lt,?_⟩,fun k ⟨i,b,v,h1,h2,h3,h4⟩=>?_⟩
 . cases l with
   | succ l=>exact hi.blk (l+1) i b hb
   | zero=>
     have hb:top'[i]? = some b:=hb
     by_cases h1:i=j
     . subst h1
       rw [atj] at hb;cases hb
       rcases hB with h | ⟨h,hpl⟩ <;> subst h
       . exact fun v hv=>by obtain ⟨_,_,q,_⟩:=child v hv;exact q
       . intro v hv
         obtain ⟨_,_,q,_⟩:=child v hv
         obtain ⟨flat,h0,hs,ho,hr,_,_⟩:=q.parts
         exact ⟨h0,hs,flat,ho,fun i x jj y u hx hy hu=>nO (hpl x (aAg hx) y (aAg hy)) (hr i x jj y u hx hy hu)⟩
     . by_cases h2:i=p
       . subst h2
         rw [atp,<- hP] at hb;cases hb
         exact fun v hv=>(parent v hv).1
       . rw [ato i h1 h2] at hb;exact hi.blk 0 i b hb
 . rcases old l i b v k h1 h2 h5 h7 with ⟨c1,q1,q2,q3,q4,q5⟩ | ⟨rfl,rfl,q1,V,q2,q3⟩ <;> rcases old l' i' b' v' k h3 h4 h6 h8 with ⟨c2,r1,r2,r3,r4,r5⟩ | ⟨rfl,rfl,r1,V',r2,r3⟩
   . exact hi.inj l i c1 l' i' c2 v v' k q1 q2 r1 r2 h5 h6 q3 r3
   . exfalso
     obtain ⟨rfl,rfl⟩:=hi.inj l i c1 0 p _ v V' k q1 q2 hp rfl h5 r2 q3 r3
     rw [h5] at r2;cases r2
     obtain ⟨V3,hV3,_,_,_,hn⟩:=child v' h6
     rw [h5] at hV3;cases hV3
     exact hn k (q5 rfl rfl) r1
   . exfalso
     obtain ⟨rfl,rfl⟩:=hi.inj l' i' c2 0 p _ v' V k r1 r2 hp rfl h6 q2 r3 q3
     rw [h6] at q2;cases q2
     obtain ⟨V3,hV3,_,_,_,hn⟩:=child v h5
     rw [h6] at hV3;cases hV3
     exact hn k (r5 rfl rfl) q1
   . exact ⟨rfl,rfl⟩
 . rcases old l i b v k h1 h2 h3 h4 with ⟨c1,q1,q2,q3,_,_⟩ | ⟨rfl,rfl,q1,V,q2,q3⟩
   . exact hi.own l i c1 v k q1 q2 h3 q3
   . exact hi.own 0 p _ V k hp rfl q2 q3
 . intro i p1 e1 c1 v h1 h2
   have hij:i≠j:=fun h=>by subst h;rw [atj] at h1;cases h1;cases hBs
   have hip:i≠p:=fun h=>by subst h;rw [atp,<- hP] at h1;cases h1
   rw [ato i hij hip] at h1
   obtain ⟨hlt,V,hV,hh⟩:=hi.sub i p1 e1 c1 v h1 h2
   refine ⟨hlt,V,hV,fun et sz xs x e3 sz3 zs flat b1 b2 b3 b4=>?_⟩
   have hp1j:p1≠j:=fun h=>by subst h;exact hno i e1 c1 h1
   by_cases hpp:p1=p
   . subst hpp
     rw [atp,<- hP] at b1;cases b1
     rcases cell e1 x c1 _ b2 b3 with ⟨_,_,h⟩ | ⟨_,x',h3,h4⟩
     . cases h
     . rw [aAp] at b4
       exact hh _ _ _ x' e3 sz3 zs flat hp h3 h4 b4
   . rw [ato p1 hp1j hpp] at b1
     exact hh et sz xs x e3 sz3 zs flat b1 b2 b3 b4
 . rcases old 0 i b v k h1 h2 h3 h4 with ⟨c1,q1,q2,q3,_,_⟩ | ⟨_,rfl,q1,V,q2,q3⟩
   . exact ⟨i,c1,v,q1,q2,h3,q3⟩
   . exact ⟨p,_,V,hp,rfl,q2,q3⟩
theorem jL {C:Cx} {top:List Blk} {j:Nat} {K:List Blk->Prop} (h:takeOneK C top j K):∃ top',K top'/\Ghost top top':=by
 unfold takeOneK at h
 obtain ⟨top0,h1,g,hno⟩:=vX h
 clear h
 obtain ⟨b,hb,h2⟩:=getK_spec.1 h1
 split at h2
 . rename_i p e c
   obtain ⟨b',hb',h3⟩:=getK_spec.1 h2
   split at h3
   . rename_i t0 sz0 xs0
     obtain ⟨x0,hx0,h4⟩:=h3
     obtain ⟨y,hy,h5⟩:=getK_spec.1 h4
     split at h5
     . rename_i e2 sz2 ys
       obtain ⟨_,h6⟩:=setK_spec.1 h5
       obtain ⟨_,h7⟩:=setK_spec.1 h6
       split at h7
       . obtain ⟨_,h8⟩:=setK_spec.1 h7
         exact ⟨_,h8,g.trans (oU hb hb' hx0 hy (.inl rfl) hno)⟩
       . obtain ⟨hn,h7'⟩:=h7
         obtain ⟨_,h8⟩:=setK_spec.1 h7'
         exact ⟨_,h8,g.trans (oU hb hb' hx0 hy (.inr ⟨rfl,hn⟩) hno)⟩
     . exact ⟨_,h5,g⟩
   . exact ⟨_,h3,g⟩
 . exact ⟨_,h2,g⟩
theorem fY {one:PV->List Blk->(List Blk->Prop)->Prop} (ho:∀ p top K,one p top K -> ∃ top',K top'/\Ghost top top'):∀ (ps:List PV) (top:List Blk) (K:List Blk->Prop),takesF one ps top K -> ∃ top',K top'/\Ghost top top'
 | [],top,K,h=>⟨top,h,Ghost.refl top⟩
 | p::ps,top,K,h=>by
   rw [takesF_cons] at h
   obtain ⟨top1,h,g1⟩:=ho p top _ h
   obtain ⟨top2,h,g2⟩:=fY ho ps top1 _ h
   exact ⟨top2,h,g1.trans g2⟩
theorem nP {one:PV->List Blk->(List Blk->Prop)->Prop} (ho:∀ p top K,one p top K -> ∃ top',K top'/\Ghost top top'):∀ (xs:List (List PV)) (top:List Blk) (K:List Blk->Prop),takesL one xs top K -> ∃ top',K top'/\Ghost top top'
 | [],top,K,h=>⟨top,h,Ghost.refl top⟩
 | x::xs,top,K,h=>by
   rw [takesL_cons] at h
   obtain ⟨top1,h,g1⟩:=fY ho x top _ h
   obtain ⟨top2,h,g2⟩:=nP ho xs top1 _ h
   exact ⟨top2,h,g1.trans g2⟩
theorem jA {C:Cx}:∀ (n:Nat) (p:PV) (top:List Blk) (K:List Blk->Prop),takeF C n p top K -> ∃ top',K top'/\Ghost top top'
 | 0,p,top,K,h=>⟨top,h,Ghost.refl top⟩
 | n+1,p,top,K,h=>by
   change takeP C (takeF C n) p top K at h
   unfold takeP at h
   split at h
   . exact jL h
   . exact fY (jA n) _ _ _ h
   . exact fY (jA n) _ _ _ h
   . exact nP (jA n) _ _ _ h
   . exact ⟨top,h,Ghost.refl top⟩
theorem fF {C:Cx} {ps:List PV} {top:List Blk} {K:List Blk->Prop} (h:takesK C ps top K):∃ top',K top'/\Ghost top top':=fY (jA 3) ps top K h
theorem vY {C:Cx} (hC:C.Ok) {H:List (List Blk)} {o:Oper} {t:Nat} {x y:Operand} (ho:o.op = .store t x y) {tm:List PV} {top:List Blk} {p q:PV} (hp:ev? tm x=some p) (hq:ev? tm y=some q) {K:List Blk->Prop}
 (h:storeK C top t p q K):∃ top',K top'/\top'.length=top.length/\GenLe top top'/\bU C H o tm top .any top':=by
 unfold storeK at h
 split at h
 . split at h
   . obtain ⟨top1,h1,g⟩:=fF h
     obtain ⟨top',h2,hl,hg,hA⟩:=xE hC (H:=H) ho hp hq h1
     exact ⟨top',h2,hl.trans g.len,g.gen.trans hg,hA.ghost g⟩
   . exact nN hC ho hp hq h
 . exact nN hC ho hp hq h
theorem oV {top:List Blk} {sz:Nat} (h0:0 < sz) {x:PV} {K:List (List DV)->Prop} (h:newsK top sz x K) :
 ∃ ys,K ys /\ ∀ (m:M) (H:List (List Blk)) v,Inv m top H->RP m x v -> ∃ (A:Option Addr) (n c:Nat) (news:List Value),v = .slice A n c/\n=ys.length/\news.length=n*sz/\(A=none->n=0)/\(∀ y ∈ ys,y.length=sz) /\
   (∀ a,A=some a -> ∀ (j:Nat) u,news[j]? = some u->m.w.cell? (a.add j)=some u)/\(∀ u ∈ news,u.oneCell'=true) /\
   ∀ (i:Nat) y (j:Nat) z u,ys[i]? = some y->y[j]? = some z->news[i*sz+j]? = some u->RD m.w m.ok z u:=by
 unfold newsK at h
 split at h
 . refine ⟨[],h,fun m H v _ hv=>?_⟩
   cases hv
   exact ⟨none,0,0,[],rfl,rfl,by simp,(fun _=>rfl),by simp,(fun a ha=>by cases ha),by simp,(fun i y j z u hy=>by simp at hy)⟩
 . refine ⟨[],h,fun m H v _ hv=>?_⟩
   cases hv with
   | emp ad=>exact ⟨some ad,0,0,[],rfl,rfl,by simp,(fun h=>by cases h),by simp,(fun a ha j u hu=>by simp at hu),by simp,(fun i y j z u hy=>by simp at hy)⟩
 . rename_i ys
   obtain ⟨hys,h⟩:=h
   refine ⟨ys,h,fun m H v _ hv=>?_⟩
   cases hv with
   | d _ _ hv=>
     cases hv with
     | sl sz' _ A n c ad u hn hc hm hA hsz hcell hr=>
       have e:0 < n->sz'=sz:=fun hp=>by
        obtain ⟨y,hy⟩:∃ y,y ∈ ys:=⟨ys[0]'(by omega),aBf _⟩
        rw [<- hsz y hy,hys y hy]
       have key:∀ j,j < n*sz -> ∃ i j' y z,j=i*sz+j'/\ys[i]? = some y/\y[j']? = some z:=by
        intro j hj
        have hi:j / sz < n:=Nat.div_lt_of_lt_mul (by rw [Nat.mul_comm];exact hj)
        have hj':j % sz < sz:=Nat.mod_lt _ h0
        have h1:ys[j / sz]? = some (ys[j / sz]'(by omega)):=aAf _
        have h2:(ys[j / sz]'(by omega)).length=sz:=hys _ (aBf _)
        exact ⟨j / sz,j % sz,_,_,by rw [Nat.mul_comm];exact (Nat.div_add_mod j sz).symm,h1,aAf (by omega)⟩
       refine ⟨A,n,c,(List.range (n*sz)).map u,rfl,hn.symm,by simp,fun hA0=>?_,hys,fun a ha j w hw=>?_,fun w hw=>?_,fun i y j z w hy hz hw=>?_⟩
       . rcases Nat.eq_zero_or_pos n with h | h
         . exact h
         . rw [hA h] at hA0;cases hA0
       . have hj:j < n*sz:=by simpa using (aAe.1 hw).1
         simp [hj] at hw
         have hp:0 < n:=by rcases Nat.eq_zero_or_pos n with h | h;(rw [h] at hj;omega);exact h
         obtain ⟨i,j',y,z,rfl,hy,hz⟩:=key j hj
         rw [hA hp] at ha
         cases ha
         have:=(hcell i y j' z hy hz).2
         rw [e hp] at this
         rw [this,hw]
       . simp only [aBc,aBe] at hw
         obtain ⟨j,hj,rfl⟩:=hw
         have hp:0 < n:=by rcases Nat.eq_zero_or_pos n with h | h;(rw [h] at hj;omega);exact h
         obtain ⟨i,j',y,z,rfl,hy,hz⟩:=key j hj
         have:=hr i y j' z hy hz
         rw [e hp] at this
         exact this.one
       . have hi:i < n:=by rw [<- hn];exact (aAe.1 hy).1
         have hjl:i*sz+j < n*sz:=by simpa using (aAe.1 hw).1
         simp [hjl] at hw
         subst hw
         have:=hr i y j z hy hz
         rw [e (by omega)] at this
         exact this
 . rename_i j n
   obtain ⟨b,hb,h⟩:=getK_spec.1 h
   split at h
   case h_2=>exact h.elim
   rename_i e0 sz' ys
   simp only [ifK] at h
   split at h
   case h_2=>exact h.elim
   rename_i hsz
   have hszz:=aBj hsz
   refine ⟨ys.take n,h,fun m H v hi hv=>?_⟩
   cases hv with
   | row _ _ _ N c A hρ hn hc=>
     obtain ⟨hp,hxs,flat,ho,hrd⟩:=hi.blk 0 j _ hb _ hρ
     subst hszz
     have hN:N=ys.length:=by
      rcases ho.2 with ⟨h1,h2⟩ | ⟨g,cap,cur,h1,_⟩
      . simp only [Value.slice.injEq] at h1;omega
      . simp only [Value.slice.injEq] at h1;exact h1.2.1
     have hfl:flat.length=ys.length*sz':=ho.1
     have hlt:n*sz'<=flat.length:=by rw [hfl];exact Nat.mul_le_mul_right _ (by omega)
     have hone:∀ u ∈ flat,u.oneCell'=true:=by
      intro u hu
      obtain ⟨k,hk⟩:=aB4.1 hu
      have hkl:k < ys.length*sz':=by rw [<- hfl];exact (aAe.1 hk).1
      have hi2:k / sz' < ys.length:=Nat.div_lt_of_lt_mul (by rw [Nat.mul_comm];exact hkl)
      obtain ⟨y0,h1⟩:∃ y0,ys[k / sz']? = some y0:=⟨_,aAf hi2⟩
      have h2:y0.length=sz':=hxs _ (aAg h1)
      exact (hrd (k / sz') _ (k % sz') _ u h1 (aAf (by rw [h2];exact Nat.mod_lt _ hp)) (by rw [Nat.mul_comm,Nat.div_add_mod];exact hk)).one
     refine ⟨A,n,c,flat.take (n*sz'),rfl,by rw [aAl];omega,by rw [aAl];omega,fun hA0=>?_,fun y hy=>hxs y (aA6 hy),fun a ha k u hu=>?_,fun u hu=>hone u (aA6 hu),fun i y j' z u hy hz hu=>?_⟩
     . subst hA0
       rcases ho.2 with ⟨h1,h2⟩ | ⟨g,cap,cur,h1,_⟩
       . omega
       . cases h1
     . subst ha
       have hk:k < n*sz':=by
        rcases aBl k (n*sz') with h1 | h1
        . exact h1
        . rw [List.getElem?_eq_none (by rw [aAl];omega)] at hu;cases hu
       rw [List.getElem?_take_of_lt hk] at hu
       have:=ho.cells (g:=a.block) rfl k u hu
       rcases ho.2 with ⟨h1,_⟩ | ⟨g,cap,cur,h1,_⟩
       . cases h1
       . simp only [Value.slice.injEq,Option.some.injEq] at h1
         obtain ⟨rfl,_⟩:=h1
         exact this
     . have hin:i < n:=by
        rcases aBl i n with h1 | h1
        . exact h1
        . rw [List.getElem?_eq_none (by rw [aAl];omega)] at hy;cases hy
       rw [List.getElem?_take_of_lt hin] at hy
       have hk:i*sz'+j' < n*sz':=by
        rcases aBl (i*sz'+j') (n*sz') with h1 | h1
        . exact h1
        . rw [List.getElem?_eq_none (by rw [aAl];omega)] at hu;cases hu
       rw [List.getElem?_take_of_lt hk] at hu
       exact hrd i y j' z u hy hz hu
 . exact h.elim
theorem fG {P:Program} {w:World} {t ty e:TypeId} {i:TypeInfo} {z:Value} {size bytes:Nat} (ht:P.underlying t=some (.slice e)) (hi:P.info? e=some i) (hz:i.zero=some z)
 (hsize:i.size=size) (hby:i.bytes=bytes) (hzs:z.cells.size=size) (hsz:0 < size) (hb0:0 < bytes) {v:Value} {n:Nat} {xs:List Value} (hown:w.ownsRow 0 e size v n xs)
 {A:Option Addr} {m c:Nat} {news:List Value} (hl:news.length=m*size) (hA:A=none->m=0) (hnews:∀ a,A=some a -> ∀ (j:Nat) u,news[j]? = some u->w.cell? (a.add j)=some u) (h1:∀ u ∈ news,u.oneCell'=true)
 (hbytes:(n+m)*bytes<=140737488355328) :
 ∃ v' w',(Builtin.append_ #[t,t] ty #[v,.slice A m c]).run P w = .ok v' w'/\w'.ownsRow 0 e size v' (n+m) (xs++news)/\w.grownBy w' v.ownBlock/\(v'.ownBlock=v.ownBlock\/v'.ownBlock=some w.heap.size):=by
 have h63:n+m<=maxLen:=by
  unfold maxLen
  have:n+m<=(n+m)*bytes:=Nat.le_mul_of_pos_right _ hb0
  omega
 cases A with
 | some a=>
   obtain ⟨v',w',h2,h3,h4,_,h5⟩:=run_append_own_at (P:=P) w 0 t ty e i z size bytes ht hi hz hsize hby hzs hsz v n xs hown a m c news hl (hnews a rfl) h1 h63 hbytes (aBn _)
   exact ⟨v',w',h2,h3,h4,h5⟩
 | none=>
   obtain rfl:=hA rfl
   obtain rfl:news = []:=List.eq_nil_of_length_eq_zero (by simpa using hl)
   refine ⟨v,w,?_,by simpa using hown,⟨rfl,rfl,rfl,aBo _,fun _ _ _=>rfl⟩,.inl rfl⟩
   rcases hown.2 with ⟨rfl,hn⟩ | ⟨g,cap,cur,rfl,_,_,hnc,_⟩
   . simp [Builtin.append_,aU ht,sizeOf,typeInfo,hi,Builtin.lenOf,Builtin.firstCells]
   . simp [Builtin.append_,aU ht,sizeOf,typeInfo,hi,Builtin.lenOf,Builtin.firstCells,hnc,storeCells]
theorem pZ {P:Program} {w:World} {t ty e:TypeId} {i:TypeInfo} (ht:P.underlying t=some (.slice e)) (hi:P.info? e=some i) (ad:Addr) {A:Option Addr} {m c:Nat} (hm:0 < m) (hb0:0 < i.bytes) (hbytes:m*i.bytes<=140737488355328) :
 (Builtin.append_ #[t,t] ty #[.slice (some ad) 0 0,.slice A m c]).run P w=(Builtin.append_ #[t,t] ty #[.slice none 0 0,.slice A m c]).run P w:=by
 have hm':¬ m=0:=by omega
 have hz:¬ i.bytes=0:=by omega
 have hn:Builtin.nextslicecap m 0=m:=by unfold Builtin.nextslicecap;simp;try omega
 have hbig:¬ 281474976710656 < m*i.bytes:=by omega
 simp [Builtin.append_,aU ht,sizeOf,typeInfo,hi,Builtin.lenOf,Builtin.firstCells,loadCells,loadCellsFrom,hm',hz,hn,hbig]
theorem oW {P:Program} {w:World} {t ty e:TypeId} {i:TypeInfo} (ht:P.underlying t=some (.slice e)) (hi:P.info? e=some i) (ad:Addr) {A:Option Addr} {c:Nat} :
 (Builtin.append_ #[t,t] ty #[.slice (some ad) 0 0,.slice A 0 c]).run P w = .ok (.slice (some ad) 0 0) w:=by
 cases A <;> simp [Builtin.append_,aU ht,sizeOf,typeInfo,hi,Builtin.lenOf,Builtin.firstCells,loadCells,loadCellsFrom,storeCells]
theorem fH (v:Value) (h:∃ A n c,v = .slice A n c):v.ownBlock=blkOf v:=by
 obtain ⟨A,n,c,rfl⟩:=h
 cases A <;> rfl
theorem jB {w:World} {base e size n:Nat} {v:Value} {xs:List Value} (h:w.ownsRow base e size v n xs):∃ A c,v = .slice A n c/\n<=c:=by
 rcases h.2 with ⟨rfl,rfl⟩ | ⟨g,cap,cur,rfl,_,_,h1,_⟩
 . exact ⟨none,0,rfl,aBo _⟩
 . exact ⟨_,cap,rfl,h1⟩
theorem uA {C:Cx} (hC:C.Ok) {H:List (List Blk)} {o:Oper} {c:Call} (ho:o.op = .call c) (hcl:c.callee = .builtin .append) {x y:Operand} {t:TypeId} (hx:c.args = #[x,y]) (ht:c.argTypes = #[t,t]) {tm:List PV} {top:List Blk} {p q:PV}
 (hp:ev? tm x=some p) (hq:ev? tm y=some q) {K:PV->List Blk->Prop} (h:appendK C top t p q K):∃ pv top',K pv top'/\top.length<=top'.length/\GenLe top top'/\bU C H o tm top pv top'/\(p = .emp->top <+: top'/\bQ C H o tm top pv top'):=by
 have mx:x ∈ o.op.operands.toList:=by rw [ho];simp [Op.operands,Call.operands,hcl,hx]
 have my:y ∈ o.op.operands.toList:=by rw [ho];simp [Op.operands,Call.operands,hcl,hx]
 obtain ⟨r,hr,ht_,h_⟩:=lookK_spec h
 clear h
 subst ht_
 obtain ⟨i1,z1,d,hi1,hs1,hb1,hz1,hzz1,hd,hty⟩:=aP hC hr
 split at h_
 case h_2=>exact h_.elim
 rename_i e hty0
 obtain ⟨r',hr',ht_,h⟩:=lookK_spec h_
 clear h_
 subst ht_
 obtain ⟨i2,z2,d2,hi2,hs2,hb2,hz2,hzz2,hd2,hty2⟩:=aP hC hr'
 rw [hty0] at hty
 obtain ⟨e,rfl⟩:∃ e,d = .slice e:=by cases d <;> simp [tyOf] at hty <;> exact ⟨_,rfl⟩
 simp only [tyOf,Ty.slice.injEq] at hty
 subst hty
 simp only [ifK] at h
 split at h
 case h_2=>exact h.elim
 rename_i hpos
 have hpos:0 < r'.size:=by simpa [Nat.blt_eq] using hpos
 split at h
 case h_2=>exact h.elim
 rename_i hbp
 have hbp:0 < r'.bytes:=by simpa [Nat.blt_eq] using hbp
 rw [lenK_spec] at h
 split at h
 case h_2=>exact h.elim
 rename_i hzl
 have hzl:=aBj hzl
 have hzs:z2.cells.size=r'.size:=by rw [<- hzl,<- hzz2];simp
 obtain ⟨ys,h,hnews⟩:=oV hpos h
 have ex:∀ (a:Act) (w w':World) (v:Value),(Builtin.append_ #[r.t,r.t] o.type #[a.eval x,a.eval y]).run C.P w = .ok v w'->(execOp a.eval o).run C.P w = .ok (.value v) w':=fun a w w' v hv=>by
  simp [execOp,ho,resolve,hcl,hx,ht,invoke,builtin,hv]
 have fin:∀ (m:M) (top1:List Blk) (xs:List (List DV)) (flat:List Value) (s:Value) (v':Value) (w':World) (news:List Value),Inv m top H->(∀ j,top.length<=j->m.ρ 0 j=none)->top1.length=top.length ->
  (∀ l i b,getB top1 H l i=some b->b.live=true->getB top H l i=some b /\ ∀ v,m.ρ l i=some v -> ∀ k,b.has m.w v k->s.ownBlock≠some k) ->
  (∀ (i p e c:Nat),top1[i]? = some (.sub p e c)->top[i]? = some (.sub p e c)) ->
  (∀ k,s.ownBlock=some k->Mine m top k)->w'.ownsRow 0 r'.t r'.size v' (xs.length+ys.length) (flat++news)->flat.length=xs.length*r'.size->m.w.grownBy w' s.ownBlock->(v'.ownBlock=s.ownBlock\/v'.ownBlock=some m.w.heap.size) ->
  (∀ x ∈ xs,x.length=r'.size)->(∀ y ∈ ys,y.length=r'.size)->(∀ (i:Nat) x (j:Nat) y u,xs[i]? = some x->x[j]? = some y->flat[i*r'.size+j]? = some u->RD m.w m.ok y u) ->
  (∀ (i:Nat) y (j:Nat) z u,ys[i]? = some y->y[j]? = some z->news[i*r'.size+j]? = some u->RD m.w m.ok z u) ->
  ∀ (next:Act->World->Prop) (Q:Exit->Act->World->Prop) (a:Act),(execOp a.eval o).run C.P m.w = .ok (.value v') w' ->
    (∀ v m',Turn m m' top->(∀ l j,¬ (l=0/\top.length<=j/\j < top.length+1)->m'.ρ l j=m.ρ l j) ->
      (∀ k,Mine m' (top1 ++ [Blk.row r'.t r'.size (xs++ys)]) k->m.w.heap.size<=k\/Mine m top k)->Inv m' (top1 ++ [.row r'.t r'.size (xs++ys)]) H->RP m' (.row 0 top.length (xs.length+ys.length)) v->next (a.put o.dst v) m'.w) ->
    o.wp C.P a m.w next Q:=by
  intro m top1 xs flat s v' w' news hinv hfree hl1 hold hsubs hmine hown hflat hgrown hat hxl hyl hrx hry next Q a hrun hnext
  have hfr:m.ρ 0 top.length=none:=hfree _ (aBo _)
  obtain ⟨A',c',rfl,hc'⟩:=jB hown
  have hob:(Value.slice A' (xs.length+ys.length) c').ownBlock=blkOf (.slice A' (xs.length+ys.length) c'):=fH _ ⟨_,_,_,rfl⟩
  let m':M:=⟨w',fun l i=>if l=0/\i=top.length then some (.slice A' (xs.length+ys.length) c') else m.ρ l i,fun k=>m.U k\/blkOf (.slice A' (xs.length+ys.length) c')=some k⟩
  have hblk:∀ k,blkOf (.slice A' (xs.length+ys.length) c')=some k->s.ownBlock=some k\/k=m.w.heap.size:=by
   intro k hk
   rcases hat with h | h
   . rw [hob,hk] at h;exact .inl h.symm
   . rw [hob,hk] at h;cases h;exact .inr rfl
  have hsU:∀ k,s.ownBlock=some k->m.U k/\k < m.w.heap.size:=by
   intro k hk
   obtain ⟨j,b,v,h1,h2,h3,h4⟩:=hmine k hk
   have:=hinv.own 0 j b v k h1 h2 h3 h4
   exact ⟨this,hinv.lt k this⟩
  have back:∀ l i b v,getB top1 H l i=some b->b.live=true->m.ρ l i=some v -> ∀ k,b.has w' v k->b.has m.w v k:=fun l i b v h1 h2 h3 k hk=>by
   obtain ⟨h4,h5⟩:=hold l i b h1 h2
   exact hinv.back h4 h2 h3 (fun k hu hk=>hgrown.block k (hinv.lt k hu) (fun e=>h5 v h3 k hk e.symm)) hk
  have hT:Turn m m' top:=by
   refine ⟨hgrown.os,hgrown.tape,hgrown.output,hgrown.size,fun k hk hn=>hgrown.block k hk (fun e=>hn (hmine k e.symm)),fun l j v hv=>?_,fun k hk=>?_⟩
   . show (if l=0/\j=top.length then _ else m.ρ l j)=some v
     rw [if_neg]
     . exact hv
     . rintro ⟨rfl,rfl⟩;rw [hfr] at hv;cases hv
   . show m.U k\/_↔m.U k
     refine ⟨fun h=>?_,.inl⟩
     rcases h with h | h
     . exact h
     . rcases hblk k h with h | h
       . exact (hsU k h).1
       . omega
  have hK:=hT.keep hinv
  have hρo:∀ l j,¬ (l=0/\j=top.length)->m'.ρ l j=m.ρ l j:=fun l j hn=>by show (if l=0/\j=top.length then _ else m.ρ l j)=_;rw [if_neg hn]
  have hρn:m'.ρ 0 top.length=some (.slice A' (xs.length+ys.length) c'):=by show (if 0=0/\top.length=top.length then _ else _)=_;rw [if_pos ⟨rfl,rfl⟩]
  have get:∀ l j b,getB (top1 ++ [.row r'.t r'.size (xs++ys)]) H l j=some b->(l=0/\j=top.length/\b = .row r'.t r'.size (xs++ys))\/(¬ (l=0/\j=top.length)/\getB top1 H l j=some b):=by
   intro l j b hb
   by_cases hn:l=0/\j=top.length
   . obtain ⟨rfl,rfl⟩:=hn
     rw [<- hl1,dP] at hb
     cases hb
     exact .inl ⟨rfl,rfl,rfl⟩
   . rw [cQ (by rw [hl1];exact hn)] at hb
     exact .inr ⟨hn,hb⟩
  unfold Oper.wp
  rw [hrun]
  refine hnext _ m' hT (fun l j hn=>hρo l j (fun e=>hn ⟨e.1,by omega,by omega⟩)) (fun k hm=>?_) ⟨fun l j b hb=>?_,fun l j b l' j' b' v1 v2 k hb hlb hb' hlb' hv1 hv2 hk1 hk2=>?_,fun l j b v k hb hlb hv hk=>?_,fun k hk=>?_,?_⟩ (.row _ _ _ _ _ _ hρn (aBo _) hc')
  . obtain ⟨j,b,v,hb,hlb,hv,hk⟩:=hm
    rcases get 0 j b hb with ⟨_,rfl,rfl⟩ | ⟨hn,hb1⟩
    . rw [hρn] at hv;cases hv
      rcases hblk k hk with h | h
      . exact .inr (hmine k h)
      . exact .inl (by omega)
    . rw [hρo 0 j hn] at hv
      exact .inr ⟨j,b,v,(hold 0 j b hb1 hlb).1,hlb,hv,back 0 j b v hb1 hlb hv k hk⟩
  . rcases get l j b hb with ⟨rfl,rfl,rfl⟩ | ⟨hn,hb1⟩
    . intro v hv
      rw [hρn] at hv
      cases hv
      refine ⟨hpos,fun x hx=>?_,flat++news,by rw [aAm];exact hown,fun i x j' y' u hx hy' hu=>?_⟩
      . rcases aA5.1 hx with h | h
        . exact hxl x h
        . exact hyl x h
      . rcases aBl i xs.length with hi | hi
        . rw [aAk hi] at hx
          have hjl:j' < r'.size:=by rw [<- hxl x (aAg hx)];exact (aAe.1 hy').1
          have:i*r'.size+r'.size<=xs.length*r'.size:=by rw [<- Nat.succ_mul];exact Nat.mul_le_mul_right _ hi
          rw [aAk (by rw [hflat];omega)] at hu
          exact (hrx i x j' y' u hx hy' hu).keep hK
        . rw [aAj hi] at hx
          have:xs.length*r'.size<=i*r'.size:=Nat.mul_le_mul_right _ hi
          rw [aAj (by rw [hflat];omega),hflat] at hu
          refine (hry (i - xs.length) x j' y' u hx hy' ?_).keep hK
          rw [Nat.sub_mul,show i*r'.size - xs.length*r'.size+j'=i*r'.size+j' - xs.length*r'.size by omega]
          exact hu
    . cases hlb:b.live with
      | false=>cases b <;> simp [Blk.live] at hlb <;> exact True.intro
      | true=>
        obtain ⟨hb2,hns⟩:=hold l j b hb1 hlb
        refine (hinv.blk l j b hb2).keep hK (hρo l j hn) (fun v k hl hv hk=>hgrown.block k (hinv.lt k (hinv.own l j b v k hb2 hl hv hk)) (fun e=>hns v hv k hk e.symm))
  . rcases get l j b hb with ⟨rfl,rfl,rfl⟩ | ⟨hn,hb1⟩ <;> rcases get l' j' b' hb' with ⟨rfl,rfl,rfl⟩ | ⟨hn',hb1'⟩
    . exact ⟨rfl,rfl⟩
    . exfalso
      rw [hρn] at hv1;cases hv1
      rw [hρo l' j' hn'] at hv2
      obtain ⟨hb2,hns⟩:=hold l' j' b' hb1' hlb'
      have hk2:=back l' j' b' v2 hb1' hlb' hv2 k hk2
      rcases hblk k hk1 with h | h
      . exact hns v2 hv2 k hk2 h
      . have:=hinv.lt k (hinv.own l' j' b' v2 k hb2 hlb' hv2 hk2);omega
    . exfalso
      rw [hρn] at hv2;cases hv2
      rw [hρo l j hn] at hv1
      obtain ⟨hb2,hns⟩:=hold l j b hb1 hlb
      have hk1:=back l j b v1 hb1 hlb hv1 k hk1
      rcases hblk k hk2 with h | h
      . exact hns v1 hv1 k hk1 h
      . have:=hinv.lt k (hinv.own l j b v1 k hb2 hlb hv1 hk1);omega
    . rw [hρo l j hn] at hv1;rw [hρo l' j' hn'] at hv2
      exact hinv.inj l j b l' j' b' v1 v2 k (hold l j b hb1 hlb).1 hlb (hold l' j' b' hb1' hlb').1 hlb' hv1 hv2 (back l j b v1 hb1 hlb hv1 k hk1) (back l' j' b' v2 hb1' hlb' hv2 k hk2)
  . rcases get l j b hb with ⟨rfl,rfl,rfl⟩ | ⟨hn,hb1⟩
    . rw [hρn] at hv;cases hv;exact .inr hk
    . rw [hρo l j hn] at hv
      exact .inl (hinv.own l j b v k (hold l j b hb1 hlb).1 hlb hv (back l j b v hb1 hlb hv k hk))
  . rcases hk with hk | hk
    . exact aBk (hinv.lt k hk) hgrown.size
    . rcases hown.2 with ⟨h1,_⟩ | ⟨g,cap,cur,h1,_,hg,_⟩
      . rw [h1] at hk;cases hk
      . rw [h1] at hk;cases hk
        exact (aBw.1 hg).1
  . refine hinv.sub.of (fun i p e c v hb hv=>?_) (fun p V hV=>hT.ρ 0 p V hV) (fun p et sz xs V hb hV=>?_)
    . rcases get 0 i _ hb with ⟨_,_,h⟩ | ⟨hn,hb1⟩
      . cases h
      . exact ⟨hsubs i p e c hb1,by rw [<- hρo 0 i hn];exact hv⟩
    . rcases get 0 p _ hb with ⟨_,_,h⟩ | ⟨hn,hb1⟩
      . cases h
      . obtain ⟨h1,h2⟩:=hold 0 p _ hb1 rfl
        exact ⟨h1,fun k hk=>hgrown.block k (hinv.lt k (hinv.own 0 p _ V k h1 rfl hV (Blk.has_head hk))) (fun e=>h2 V hV k (Blk.has_head hk) e.symm)⟩
 split at h
 ·
  obtain ⟨hby,h⟩:=h
  unfold newK at h
  rw [lenK_spec,snocK_spec] at h
  refine ⟨_,_,h,by simp,GenLe.app _ rfl,fun m a hinv he hfree next Q hnext=>?_,fun e=>by cases e⟩
  have h1:=aO he mx hp
  have h2:=aO he my hq
  generalize hv:a.eval x=v at h1
  cases h1
  obtain ⟨A,n,c0,news,hy,hn,hnl,hA,hyl,hcell,hone,hrd⟩:=hnews m H _ hinv h2
  obtain ⟨v',w',hrun,hown,hgr,hat⟩:=fG (P:=C.P) (w:=m.w) (t:=r.t) (ty:=o.type) hd hi2 hz2 hs2 hb2 hzs hpos hbp (World.ownsRow_nil m.w 0 r'.t r'.size) (A:=A) (m:=n) (c:=c0) (news:=news) hnl hA hcell hone (by rw [hn,Nat.zero_add];exact hby)
  have:=fin m top [] [] (.slice none 0 0) v' w' news hinv hfree rfl (fun l i b hb hl=>⟨hb,(fun v _ k _ e=>by cases e)⟩) (fun _ _ _ _ h=>h) (fun k hk=>(by cases hk)) (by rw [<- hn];simpa using hown) (by simp) hgr hat (by simp) hyl (fun i x j y u hx=>by simp at hx) hrd next Q a (ex a _ _ _ (by rw [hv,hy];exact hrun))
  refine this fun v m' hT hρ hfr hI hR=>?_
  simp only [aAo,Nat.zero_add,List.nil_append] at hI hR
  exact hnext v m' hT (fun l j hn=>hρ l j (by simpa using hn)) hfr hI hR
 ·
  obtain ⟨hby,h⟩:=h
  suffices hO:bQ C H o tm top _ top from ⟨_,top,h,aBo _,GenLe.refl _,hO.act (List.prefix_refl _),fun _=>⟨List.prefix_refl _,hO⟩⟩
  intro m a hinv he hfree next Q hnext
  have h1:=aO he mx hp
  have h2:=aO he my hq
  generalize hv:a.eval x=v at h1
  cases h1 with
  | emp ad=>
    obtain ⟨A,n,c0,news,hy,hn,hnl,hA,hyl,hcell,hone,hrd⟩:=hnews m H _ hinv h2
    rcases Nat.eq_zero_or_pos n with hn0 | hn0
    . subst hn0
      obtain rfl:ys = []:=List.eq_nil_of_length_eq_zero hn.symm
      unfold Oper.wp
      rw [ex a m.w m.w _ (by rw [hv,hy];exact oW hd hi2 ad)]
      exact hnext _ m (Grow.refl m) (fun _ _ _=>rfl) (fun j b u k h1 h2=>by have:=(aAe.1 h2).1;omega) hinv (.d _ _ (.sl 0 [] (some ad) 0 0 default (fun _=>undef) rfl (aBo _) (by omega) (by omega) (by simp) (fun i x j y hx=>by simp at hx) (fun i x j y hx=>by simp at hx)))
    . obtain ⟨v',w',hrun,hown,hgr,hat⟩:=fG (P:=C.P) (w:=m.w) (t:=r.t) (ty:=o.type) hd hi2 hz2 hs2 hb2 hzs hpos hbp (World.ownsRow_nil m.w 0 r'.t r'.size) (A:=A) (m:=n) (c:=c0) (news:=news) hnl hA hcell hone (by rw [hn,Nat.zero_add];exact hby)
      unfold Oper.wp
      rw [ex a m.w w' v' (by rw [hv,hy,pZ hd hi2 ad hn0 (by rw [hb2];exact hbp) (by rw [hb2,hn];exact hby)];exact hrun)]
      rw [Nat.zero_add,List.nil_append] at hown
      have hheap:∀ k,k < m.w.heap.size->w'.heap[k]? = m.w.heap[k]?:=fun k hk=>hgr.block k hk (fun e=>by cases e)
      have hT:Grow m ⟨w',m.ρ,m.U⟩:=⟨hgr.os,hgr.tape,hgr.output,hgr.size,fun k hk=>hheap k hk,fun _ _ _ h=>h,fun _ _=>Iff.rfl⟩
      have hK:=hT.keep
      have hI:Inv ⟨w',m.ρ,m.U⟩ top H:=hinv.of_grow hT rfl rfl
      obtain ⟨hfl,hcase⟩:=hown
      rcases hcase with ⟨_,e⟩ | ⟨g,cap,cur,e,_,hg,hnc,hmx,hcs,htk⟩
      . omega
      . subst e
        have hgs:g=m.w.heap.size:=by
         rcases hat with h | h
         . cases h
         . exact aBr h
        refine hnext _ ⟨w',m.ρ,m.U⟩ hT (fun _ _ _=>rfl) (fun j b u k h1 h2=>by have:=(aAe.1 h2).1;omega) hI (.d _ _ (.sl r'.size ys (some ⟨g,0,none⟩) n cap ⟨g,0,none⟩ (fun k=>news.getD k undef) hn.symm hnc (by unfold maxLen at hmx;omega) (fun _=>rfl) hyl (fun i x j y hx hy=>?_) (fun i x j y hx hy=>?_)))
        all_goals
         have hi:i < n:=by rw [hn];exact (aAe.1 hx).1
         have hj:j < r'.size:=by rw [<- hyl x (aAg hx)];exact (aAe.1 hy).1
         have hij:i*r'.size+j < news.length:=by
          have:i*r'.size+r'.size<=n*r'.size:=by rw [<- Nat.succ_mul];exact Nat.mul_le_mul_right _ hi
          omega
         have hu:news[i*r'.size+j]? = some news[i*r'.size+j]:=aAf hij
        . refine ⟨⟨(aBw.1 hg).1,fun hU=>?_⟩,?_⟩
          . have:g < m.w.heap.size:=hinv.lt _ hU
            omega
          . rw [bT,Nat.zero_add]
            have hcu:cur[i*r'.size+j]? = some news[i*r'.size+j]:=by
             rw [<- aBv,<- hu]
             conv=>rhs;rw [<- htk]
             rw [aA0,if_pos (by omega)]
            simp only [World.cell?,hg,hcu]
            simp [hu]
        . have:=(hrd i x j y _ hx hy hu).keep hK
          simpa [hu] using this
 . rename_i i0 n0 h__
   clear h__
   obtain ⟨b,hb,h⟩:=getK_spec.1 h
   split at h
   case h_2=>exact h.elim
   rename_i e' sz xs
   split at h
   case h_2=>exact h.elim
   rename_i he'
   have he':=aBj he'
   split at h
   case h_2=>exact h.elim
   rename_i hsz'
   have hsz':=aBj hsz'
   obtain ⟨hn0,hby,h⟩:=h
   obtain ⟨hlt,h⟩:=setK_spec.1 h
   unfold newK at h
   rw [lenK_spec,snocK_spec] at h
   refine ⟨_,_,h,by simp,(GenLe.set hb rfl rfl).trans (GenLe.app _ rfl),fun m a hinv he hfree next Q hnext=>?_,fun e=>by cases e⟩
   have h1:=aO he mx hp
   have h2:=aO he my hq
   generalize hv:a.eval x=v at h1
   cases h1 with
   | row _ _ _ N cN A0 hρ hn hc=>
     obtain ⟨hp0,hxs,flat,ho',hrx⟩:=hinv.blk 0 i0 _ hb _ hρ
     have hN:N=xs.length:=by
      obtain ⟨A,c,h1,_⟩:=jB ho'
      simp only [Value.slice.injEq] at h1;exact h1.2.1
     subst hN
     subst hn0
     obtain ⟨A,n,c0,news,hy,hn,hnl,hA,hyl,hcell,hone,hrd⟩:=hnews m H _ hinv h2
     rw [he',hsz'] at ho'
     obtain ⟨v',w',hrun,hown,hgr,hat⟩:=fG (P:=C.P) (w:=m.w) (t:=r.t) (ty:=o.type) hd hi2 hz2 hs2 hb2 hzs hpos hbp ho' (A:=A) (m:=n) (c:=c0) (news:=news) hnl hA hcell hone (by rw [hn];exact hby)
     have hob:(Value.slice A0 xs.length cN).ownBlock=blkOf (.slice A0 xs.length cN):=fH _ ⟨_,_,_,rfl⟩
     have hset:∀ l i b,getB (top.set i0 .dead) H l i=some b->b.live=true -> ¬ (l=0/\i=i0)/\getB top H l i=some b:=by
      intro l i b hb' hl'
      by_cases hh:l=0/\i=i0
      . obtain ⟨rfl,rfl⟩:=hh
        simp [getB,hlt] at hb'
        subst hb'
        cases hl'
      . rw [jK hh] at hb'
        exact ⟨hh,hb'⟩
     have:=fin m (top.set i0 .dead) xs flat (.slice A0 xs.length cN) v' w' news hinv hfree (by simp)
      (fun l i b hb' hl'=>by
        obtain ⟨hne,hb2⟩:=hset l i b hb' hl'
        refine ⟨hb2,fun v hv k hk e=>hne ?_⟩
        rw [hob] at e
        exact hinv.inj l i b 0 i0 _ v _ k hb2 hl' hb rfl hv hρ hk e)
      (fun i p e c hb'=>by
        by_cases hh:i0=i
        . subst hh;rw [aAr (aAe.1 hb).1] at hb';cases hb'
        . rwa [aAs hh] at hb')
      (fun k hk=>by rw [hob] at hk;exact ⟨i0,_,_,hb,rfl,hρ,hk⟩) (by rw [<- hn];exact hown) ho'.1 hgr hat (fun x hx=>by rw [<- hsz'];exact hxs x hx) hyl (fun i x j y u hx hy hu=>hrx i x j y u hx hy (by rw [hsz'];exact hu)) hrd next Q a (ex a _ _ _ (by rw [hv,hy];exact hrun))
     refine this fun v m' hT hρ' hfr hI hR=>?_
     exact hnext v m' hT (fun l j hn=>hρ' l j (by simpa using hn)) (fun k hk=>hfr k (by rw [<- hsz'];exact hk)) (by rw [hsz'];exact hI) (by simpa using hR)
 . exact h.elim
theorem rU {P:Program} {w:World} {t ty e:TypeId} {i:TypeInfo} (ht:P.underlying t=some (.slice e)) (hi:P.info? e=some i) {g:Nat} {cur:Array Value} {ct:TypeId} (hg:w.heap[g]? = some (.cells cur ct (0,0))) {n dc:Nat}
 {A:Option Addr} {c:Nat} {news:List Value} (hl:news.length=n*i.size) (hA:A=none->n=0) (hnews:∀ a,A=some a -> ∀ (j:Nat) u,news[j]? = some u->w.cell? (a.add j)=some u) (h1:∀ u ∈ news,u.oneCell'=true) (hfit:news.length<=cur.size) :
 (Builtin.copy_ #[t,t] ty #[.slice (some ⟨g,0,none⟩) n dc,.slice A n c]).run P w = .ok (goInt n) (w.setRow g (news++cur.toList.drop news.length).toArray):=by
 have hst:=run_storeCells_at P g 0 ct news 0 cur w hg (by simpa using hfit) h1
 cases A with
 | none=>
   obtain rfl:=hA rfl
   obtain rfl:news = []:=List.eq_nil_of_length_eq_zero (by simpa using hl)
   simp at hst
   simp [Builtin.copy_,run_underlying ht,Builtin.lenOf,Builtin.firstCells,sizeOf,typeInfo,hi,hst]
 | some a=>
   have hld:=run_loadCells_list (P:=P) w a news (hnews a rfl)
   rw [hl] at hld
   simp at hst
   simp [Builtin.copy_,run_underlying ht,Builtin.lenOf,Builtin.firstCells,sizeOf,typeInfo,hi,hld,hst]
theorem rI {P:Program} {w:World} {t ty e:TypeId} {i:TypeInfo} (ht:P.underlying t=some (.slice e)) (hi:P.info? e=some i) {dc:Nat} {A:Option Addr} {c:Nat} :
 (Builtin.copy_ #[t,t] ty #[.slice none 0 dc,.slice A 0 c]).run P w = .ok (goInt 0) w:=by
 cases A <;> simp [Builtin.copy_,run_underlying ht,Builtin.lenOf,Builtin.firstCells,sizeOf,typeInfo,hi,loadCells,loadCellsFrom]
theorem xF {C:Cx} (hC:C.Ok) {H:List (List Blk)} {o:Oper} {c:Call} (ho:o.op = .call c) (hcl:c.callee = .builtin .copy) {x y:Operand} {t:TypeId} (hx:c.args = #[x,y]) (ht:c.argTypes = #[t,t]) {tm:List PV} {top:List Blk} {p q:PV}
 (hp:ev? tm x=some p) (hq:ev? tm y=some q) {K:PV->List Blk->Prop} (h:copyK C top t p q K):∃ pv top',K pv top'/\top.length<=top'.length/\GenLe top top'/\bU C H o tm top pv top':=by
 have mx:x ∈ o.op.operands.toList:=by rw [ho];simp [Op.operands,Call.operands,hcl,hx]
 have my:y ∈ o.op.operands.toList:=by rw [ho];simp [Op.operands,Call.operands,hcl,hx]
 obtain ⟨r,hr,ht_,h_⟩:=lookK_spec h
 clear h
 subst ht_
 obtain ⟨i1,z1,d,hi1,hs1,hb1,hz1,hzz1,hd,hty⟩:=aP hC hr
 split at h_
 case h_2=>exact h_.elim
 rename_i e hty0
 obtain ⟨r',hr',ht_,h⟩:=lookK_spec h_
 clear h_
 subst ht_
 obtain ⟨i2,z2,d2,hi2,hs2,hb2,hz2,hzz2,hd2,hty2⟩:=aP hC hr'
 rw [hty0] at hty
 obtain ⟨e,rfl⟩:∃ e,d = .slice e:=by cases d <;> simp [tyOf] at hty <;> exact ⟨_,rfl⟩
 simp only [tyOf,Ty.slice.injEq] at hty
 subst hty
 simp only [ifK] at h
 split at h
 case h_2=>exact h.elim
 rename_i hpos
 have hpos:0 < r'.size:=by simpa [Nat.blt_eq] using hpos
 obtain ⟨ys,h1,hnews⟩:=oV hpos h
 clear h
 split at h1
 case h_2=>exact h1.elim
 rename_i i0 n
 obtain ⟨b,hb,h2⟩:=getK_spec.1 h1
 clear h1
 split at h2
 case h_2=>exact h2.elim
 rename_i e' sz xs
 split at h2
 case h_2=>exact h2.elim
 rename_i hszz
 obtain rfl:=aBj hszz
 obtain ⟨rfl,hyl0,h3⟩:=h2
 obtain ⟨hlt,h4⟩:=setK_spec.1 h3
 refine ⟨_,_,h4,by simp,GenLe.set hb rfl rfl,fun m a hinv he hfree next Q hnext=>?_⟩
 have e1:=aO he mx hp
 have e2:=aO he my hq
 obtain ⟨A,n,c0,news,hy,hn,hnl,hA,hyl,hcell,hone,hrd⟩:=hnews m H _ hinv e2
 have hnx:n=xs.length:=by rw [hn,hyl0]
 subst hnx
 generalize hv:a.eval x=v at e1
 have ex:∀ (w w':World) (u:Value),(Builtin.copy_ #[r.t,r.t] o.type #[v,a.eval y]).run C.P w = .ok u w'->(execOp a.eval o).run C.P w = .ok (.value u) w':=fun w w' u hu=>by
  rw [<- hv] at hu
  simp [execOp,ho,resolve,hcl,hx,ht,invoke,builtin,hu]
 cases e1 with
 | row _ _ _ N cN A0 hρ hnN hc=>
   obtain ⟨hp0,hxs,flat,hown,hrx⟩:=hinv.blk 0 i0 _ hb _ hρ
   have hN:N=xs.length:=by
    obtain ⟨A,c,h1,_⟩:=jB hown
    simp only [Value.slice.injEq] at h1;exact h1.2.1
   subst hN
   obtain ⟨hfl,hform⟩:=hown
   rcases hform with ⟨q1,q2⟩ | ⟨g,cap,cur,q1,hbase,hg,hcap,hmax,hcur,htake⟩
   ·
    simp only [Value.slice.injEq] at q1
    obtain ⟨rfl,q3,q4⟩:=q1
    have hx0:xs = []:=List.eq_nil_of_length_eq_zero q3
    subst hx0
    have hy0:ys = []:=List.eq_nil_of_length_eq_zero hyl0
    subst hy0
    unfold Oper.wp
    rw [ex _ _ _ (by rw [hy];exact rI hd (by rw [hi2]))]
    have htop:top.set i0 (.row e' r'.size [])=top:=by
     refine List.ext_getElem? fun j=>?_
     rw [List.getElem?_set]
     split
     . rename_i h;subst h;first | exact hb.symm | (rw [if_pos hlt];exact hb.symm)
     . rfl
    exact hnext _ m ((Grow.refl m).turn top) (fun _ _ _=>rfl) (fun k hk=>.inr (by rw [htop] at hk;exact hk)) (by rw [htop];exact hinv) (.d _ _ (.int .i64 0))
   . simp only [Value.slice.injEq] at q1
     obtain ⟨rfl,_,rfl⟩:=q1
     have hnl':news.length=xs.length*i2.size:=by rw [hnl,hs2]
     have hfit:news.length<=cur.size:=by rw [hnl,hcur];exact Nat.mul_le_mul_right _ hcap
     have hrun:=rU (P:=C.P) (w:=m.w) (t:=r.t) (ty:=o.type) hd hi2 hg (n:=xs.length) (dc:=cN) (A:=A) (c:=c0) hnl' hA hcell hone hfit
     unfold Oper.wp
     rw [ex _ _ _ (by rw [hy];exact hrun)]
     have hset:=pY hinv hb rfl hρ rfl (b:=.row e' r'.size ys) rfl
      (w':=m.w.setRow g (news++cur.toList.drop news.length).toArray) rfl rfl rfl (by simp) (fun k hk=>setRow_other _ _ _ _ hk) (fun k hk=>hk) rfl (fun hK=>by
        intro v' hv'
        rw [show (⟨_,m.ρ,m.U⟩:M).ρ 0 i0=m.ρ 0 i0 from rfl,hρ] at hv'
        cases hv'
        refine ⟨hp0,hyl,news,⟨by rw [hnl,hyl0],.inr ⟨g,cN,_,by rw [hyl0],aBn _,setRow_heap _ _ _ _ _ _ hg,by rw [hyl0];exact hcap,hmax,?_,?_⟩⟩,fun i x j y u hx hy hu=>(hrd i x j y u hx hy hu).keep hK⟩
        . simp;omega
        . rw [hyl0,<- hnl];simp)
     exact hnext _ _ hset.1 (fun _ _ _=>rfl) hset.2.2 hset.2.1 (.d _ _ (.int .i64 _))
theorem rV {C:Cx} (hC:C.Ok) {H:List (List Blk)} {o:Oper} {t n:Nat} {parts:Array (Nat × Operand)} (ho:o.op = .buildSlice t n parts) {tm:List PV} {top:List Blk} {K:PV->List Blk->Prop} (h:litDeepK C tm top t n parts.toList K) :
 ∃ pv top',K pv top'/\top.length<=top'.length/\GenLe top top'/\bU C H o tm top pv top':=by
 unfold litDeepK at h
 obtain ⟨r,hr,ht_,h_⟩:=lookK_spec h
 clear h
 subst ht_
 have h:=h_
 clear h_
 split at h
 case h_2=>exact h.elim
 rename_i e hty0
 obtain ⟨r',hr',ht_,h_⟩:=lookK_spec h
 clear h
 subst ht_
 have h:=h_
 clear h_
 simp only [ifK] at h
 split at h
 case h_2=>exact h.elim
 rename_i hpos
 have hpos:0 < r'.size:=by simpa [Nat.blt_eq] using hpos
 split at h
 case h_2=>exact h.elim
 rename_i hmax
 have hmax:n*r'.size<=16777216:=Nat.le_of_ble_eq_true hmax
 obtain ⟨es,h5,hel,hes,hfill⟩:=kF (xs:=o.op.operands.toList) parts.toList 0 _ h (fun x hx=>by rw [ho];simp only [Op.operands,List.toList_toArray];exact List.mem_map_of_mem hx)
 clear h
 rw [lenK_spec] at h5
 split at h5
 case h_2=>exact h5.elim
 rename_i hn
 have hn:=aBj hn
 obtain ⟨cs,rfl⟩:∃ cs,es = [cs]:=by
  split at h5
  . exact ⟨_,rfl⟩
  . exact h5.elim
 have h:allCellK cs (ownsK top cs [] fun ds js=>hideK top js fun top2=>newK top2 (.deep r'.t r'.size [ds]) fun i top'=>K (.row 0 i 1) top'):=h5
 clear h5
 have hn1:n=1:=hn.symm
 subst hn1
 obtain ⟨_,h⟩:=eQ h
 obtain ⟨ds,l,h,hdl,hjs,hown0⟩:=fE _ _ _ h
 obtain ⟨top2,h,hl2,hd2,hs2⟩:=eH l _ h
 unfold newK at h
 rw [lenK_spec,snocK_spec] at h
 obtain ⟨i,z,d,hi,hs,hb,hz,hzz,hd,hty⟩:=aP hC hr
 obtain ⟨i',z',d',hi',hs',hb',hz',hzz',hd',hty'⟩:=aP hC hr'
 rw [hty0] at hty
 obtain ⟨e,rfl⟩:∃ e,d = .slice e:=by cases d <;> simp [tyOf] at hty <;> exact ⟨_,rfl⟩
 simp only [tyOf,Ty.slice.injEq] at hty
 subst hty
 have hcl:cs.length=r'.size:=hes cs (aAy.2 rfl)
 have old:∀ (a:Nat) b,(top2 ++ [Blk.deep r'.t r'.size [ds]])[a]? = some b->a≠top.length->b = .dead\/top[a]? = some b:=fun a b hb ha=>by
  have hal:a < top2.length:=by
   rcases aBl a top2.length with h | h
   . exact h
   . rw [aAj h] at hb
     have:=(aAe.1 hb).1
     simp at this;omega
  rw [aAk hal] at hb
  by_cases hm:a ∈ l
  . rw [hd2 a hm (by omega)] at hb;cases hb;exact .inl rfl
  . rw [hs2 a hm] at hb;exact .inr hb
 have atn:(top2 ++ [Blk.deep r'.t r'.size [ds]])[top.length]? = some (.deep r'.t r'.size [ds]):=by
  rw [<- hl2,aAj (aBo _),aB2];rfl
 refine ⟨_,_,h,by simp;omega,⟨fun a Y st hb=>?_,by simp;omega⟩,fun m a hinv he hfree next Q hnext=>?_⟩
 . by_cases ha:a=top.length
   . subst ha;rw [atn] at hb;cases hb
   . exact (old a _ hb ha).resolve_left (fun h=>by cases h)
 obtain ⟨zc,hzc⟩:∃ zc:Array Value,zc=if 1*r'.size=0 then #[] else z'.cells:=⟨_,rfl⟩
 obtain ⟨arr,h1,h2,_,h4⟩:=hfill m a ((Array.range (1*r'.size)).map (zc[· % zc.size]!)) he (by simp [<- hel])
 have hsz:arr.size=1*r'.size:=by rw [h2];simp
 have hrun:(execOp a.eval o).run C.P m.w = .ok (.value (.slice (some ⟨m.w.heap.size,0,none⟩) 1 1)) (m.w.alloc (.cells arr r'.t (0,0))):=by
  refine cH (s:=Instr.buildSlice r.t 1 (parts.map fun x=>(x.1,a.eval x.2))) (by simp [execOp,ho]) ?_
  simp only [Instr.buildSlice,Sem.run_bind,aU hd,Result.andThen_ok,bS hi',hs']
  rw [if_neg (by omega)]
  by_cases h0:1*r'.size=0
  . omega
  . rw [if_neg h0] at hzc
    rw [if_neg h0]
    simp only [Sem.run_bind,gF hi' hz',Sem.run_pure,Result.andThen_ok,Array.toList_map]
    rw [<- hzc,h1]
    simp [newRow]
 unfold Oper.wp
 rw [hrun]
 have hfr:m.ρ 0 top.length=none:=hfree _ (aBo _)
 generalize hV:Value.slice (some ⟨m.w.heap.size,0,none⟩) 1 1=V at *
 have hVb:∀ k,blkOf V=some k->k=m.w.heap.size:=fun k hk=>by rw [<- hV] at hk;cases hk;rfl
 have hVg:blkOf V=some m.w.heap.size:=by rw [<- hV];rfl
 have hg:=gD m (.cells arr r'.t (0,0)) top.length V hfr
 have hρV:(m.new (.cells arr r'.t (0,0)) top.length V).ρ 0 top.length=some V:=by simp [M.new]
 have hown1:(m.w.alloc (.cells arr r'.t (0,0))).ownsRow 0 r'.t r'.size V 1 arr.toList:=by
  rw [<- hV]
  exact World.ownsRow_lit m.w arr 1 (aBn _) (by unfold maxLen;omega) hsz
 have hcell1:∀ (j:Nat) p u,cs[j]? = some p->arr[j]? = some u->RP m p u:=fun j p u hp hu=>h4 0 cs j p u rfl hp (by simpa using hu)
 have hlt:∀ (j:Nat),j < r'.size->arr[j]? = some (arr.getD j undef):=fun j hj=>by
  rw [Array.getElem?_eq_getElem (by omega)];simp [Array.getD,show j < arr.size by omega]
 obtain ⟨hO1,hO2⟩:=hown0 H m hinv (fun k=>arr.getD k undef) (fun k p hp=>by
  have hk:k < r'.size:=by rw [<- hcl];exact (aAe.1 hp).1
  exact hcell1 k p _ hp (hlt k hk))
 have keepk:∀ (k:Nat) y,ds[k]? = some y -> ∀ a',Ins m.w y (arr.getD k undef) a'->(m.w.alloc (.cells arr r'.t (0,0))).heap[a']? = m.w.heap[a']? /\ a' < m.w.heap.size:=fun k y hy a' ha'=>by
  obtain ⟨j,hj,b,v,q1,q2,q3,q4⟩:=(hO1 k y hy).2 a' ha'
  have:a' < m.w.heap.size:=hinv.lt a' (hinv.own 0 j b v a' q1 q2 q3 q4)
  exact ⟨cF _ _ _ this,this⟩
 have cell:∀ (i:Nat) x (j:Nat) y u,[ds][i]? = some x->x[j]? = some y->arr.toList[i*r'.size+j]? = some u->i=0/\x=ds/\ds[j]? = some y/\u=arr.getD j undef:=fun i x j y u hx hy hu=>by
  have:i=0:=by have:=(aAe.1 hx).1;simp at this;exact this
  subst this
  rw [aA9] at hx
  cases hx
  have hj:j < r'.size:=by rw [<- hcl,<- hdl];exact (aAe.1 hy).1
  rw [Nat.zero_mul,Nat.zero_add,aBv,hlt j hj] at hu
  cases hu
  exact ⟨rfl,rfl,hy,rfl⟩
 have hrow:BlkOk (m.new (.cells arr r'.t (0,0)) top.length V) 0 top.length (.row r'.t r'.size [(List.range r'.size).map fun j=>DV.val (arr.getD j undef)]):=by
  intro v hv
  rw [hρV] at hv
  cases hv
  refine ⟨hpos,fun x hx=>by rw [aAy.1 hx];simp,arr.toList,hown1,fun i x j y u hx hy hu=>?_⟩
  have:i=0:=by have:=(aAe.1 hx).1;simp at this;exact this
  subst this
  rw [aA9] at hx
  cases hx
  rw [aAi] at hy
  obtain ⟨q,hq,rfl⟩:=aBq.1 hy
  obtain ⟨hq1,hq2⟩:=aAe.1 hq
  simp at hq1 hq2
  subst hq2
  rw [Nat.zero_mul,Nat.zero_add,aBv,hlt j hq1] at hu
  cases hu
  obtain ⟨y,hy'⟩:∃ y,ds[j]? = some y:=⟨_,aAf (by omega)⟩
  exact .val _ (hO1 j y hy').1.one
 have hI1:=mY hinv hfr hVg (b:=.row r'.t r'.size [(List.range r'.size).map fun j=>DV.val (arr.getD j undef)]) rfl hrow
 generalize hm1:m.new (.cells arr r'.t (0,0)) top.length V=m1 at *
 have hw1:m1.w=m.w.alloc (.cells arr r'.t (0,0)):=by rw [<- hm1];rfl
 have hρ1:∀ l j,¬ (l=0/\j=top.length)->m1.ρ l j=m.ρ l j:=fun l j h=>by rw [<- hm1];simp only [M.new];rw [if_neg h]
 have roD:RO m1.w m1.ok (.own r'.t r'.size [ds]) V:=by
  refine .own r'.t r'.size [ds] V arr.toList hpos (fun x hx=>by rw [aAy.1 hx,hdl,hcl]) (by rw [hw1];exact hown1) (fun i x j y u hx hy hu=>?_) (fun i x j y u k hx hy hu hk hkb=>?_) (fun i x j y u i2 x2 j2 y2 u2 k hx hy hu hx2 hy2 hu2 hk hk2=>?_)
  . obtain ⟨rfl,rfl,hy,rfl⟩:=cell i x j y u hx hy hu
    exact (hO1 j y hy).1.mono hg.keep.ok (fun k hk=>by rw [hw1];exact (keepk j y hy k hk).1)
  . obtain ⟨rfl,rfl,hy,rfl⟩:=cell i x j y u hx hy hu
    have:=(keepk j y hy k (hk.back fun k hk=>by rw [hw1];exact (keepk j y hy k hk).1)).2
    have:=hVb k hkb
    omega
  . obtain ⟨rfl,rfl,hy,rfl⟩:=cell i x j y u hx hy hu
    obtain ⟨rfl,rfl,hy2,rfl⟩:=cell i2 x2 j2 y2 u2 hx2 hy2 hu2
    exact ⟨rfl,hO2 j y j2 y2 k hy hy2 (hk.back fun k hk=>by rw [hw1];exact (keepk j y hy k hk).1) (hk2.back fun k hk=>by rw [hw1];exact (keepk j2 y2 hy2 k hk).1)⟩
 have atR:(top ++ [Blk.row r'.t r'.size [(List.range r'.size).map fun j=>DV.val (arr.getD j undef)]])[top.length]? = some (.row r'.t r'.size [(List.range r'.size).map fun j=>DV.val (arr.getD j undef)]):=by
  rw [aAj (aBo _),aB2];rfl
 have oldR:∀ (a:Nat) b,top[a]? = some b->(top ++ [Blk.row r'.t r'.size [(List.range r'.size).map fun j=>DV.val (arr.getD j undef)]])[a]? = some b:=fun a b hb=>by
  rw [aAk (aAe.1 hb).1];exact hb
 have htr:=qQ (top':=top2 ++ [Blk.deep r'.t r'.size [ds]]) hI1 atR rfl hρV (g:=m.w.heap.size) hVg (w':=m1.w) rfl rfl rfl rfl (fun _ _=>rfl)
  (fun a b' ha hb'=>(old a b' hb' ha).imp id fun h=>oldR a b' h)
  (fun b' hb' k hk=>by
    rw [atn] at hb'
    cases hb'
    cases hk with
    | head _ _ _ _ _ h=>exact .inl h
    | cell _ _ _ _ _ fl i x j y u hoo hx hy hu h=>
      obtain rfl:=ownsRow_inj (by rw [hw1];exact hown1) hoo
      obtain ⟨rfl,rfl,hy,rfl⟩:=cell i x j y u hx hy hu
      rw [hw1] at h
      have h0:Ins m.w y (arr.getD j undef) k:=h.back fun k hk=>(keepk j y hy k hk).1
      obtain ⟨j',hj',b,v,q1,q2,q3,q4⟩:=(hO1 j y hy).2 k h0
      have hjl:j' < top.length:=(aAe.1 q1).1
      refine .inr ⟨j',b,v,by omega,oldR j' b q1,q2,by rw [hρ1 0 j' (by omega)];exact q3,?_,?_⟩
      . refine hinv.fwd (l:=0) q1 q2 q3 (fun k' hk' _=>?_) q4
        rw [hw1];exact cF _ _ _ (hinv.lt k' hk')
      . rw [aAk (by omega)];exact hd2 j' hj' hjl)
  (fun i1 p1 e1 c1 v1 b1 b2=>by
    have hi1:i1≠top.length:=fun e=>by rw [e,atn] at b1;cases b1
    have hil:i1 < (top2 ++ [Blk.deep r'.t r'.size [ds]]).length:=(aAe.1 b1).1
    simp only [aAm,List.length_singleton] at hil
    obtain ⟨hp,V',hV',hh⟩:=hI1.sub i1 p1 e1 c1 v1 (oldR i1 _ ((old i1 _ b1 hi1).resolve_left (fun h=>by cases h))) b2
    exact ⟨hp,V',hV',fun et sz xs x e2 sz2 ys flat d1 d2 d3 d4=>hh et sz xs x e2 sz2 ys flat (oldR p1 _ ((old p1 _ d1 (by omega)).resolve_left (fun h=>by cases h))) d2 d3 d4⟩)
  (fun _ b' hb'=>by
    rw [atn] at hb'
    cases hb'
    intro v hv
    rw [show (⟨m1.w,m1.ρ,m1.U⟩:M).ρ 0 top.length=m1.ρ 0 top.length from rfl,hρV] at hv
    cases hv
    exact roD)
 obtain ⟨t1,t2,t3⟩:=htr
 show next (a.put o.dst V) (m.w.alloc (.cells arr r'.t (0,0)))
 rw [<- hw1]
 refine hnext V m1 (hg.turn top) (fun l j hj=>hρ1 l j fun ⟨h1,h2⟩=>hj ⟨h1,by omega,by simp;omega⟩) (fun k hk=>?_) t2 ?_
 . rcases t3 k hk with h | ⟨j,b,v,q1,q2,q3,q4⟩
   . left
     have:m1.w.heap.size=m.w.heap.size+1:=by rw [hw1];simp
     omega
   . rcases aBl j top.length with hj | hj
     . rw [aAk hj] at q1
       rw [hρ1 0 j (by omega)] at q3
       exact .inr ⟨j,b,v,q1,q2,q3,hinv.back (l:=0) q1 q2 q3 (fun k' hk' _=>by rw [hw1];exact cF _ _ _ (hinv.lt k' hk')) q4⟩
     . obtain rfl:j=top.length:=by have:=(aAe.1 q1).1;simp at this;omega
       rw [hρV] at q3
       cases q3
       rw [atR] at q1
       cases q1
       left
       have:=hVb k q4
       omega
 . rw [hl2,<- hV]
   exact .row _ _ _ 1 1 _ (by rw [hV];exact hρV) (aBo _) (aBo _)
theorem rW {C:Cx} (hC:C.Ok) {H:List (List Blk)} {o:Oper} {c:Call} (ho:o.op = .call c) (hcl:c.callee = .builtin .append) {x y:Operand} {t:TypeId} (hx:c.args = #[x,y]) (ht:c.argTypes = #[t,t]) {tm:List PV} {top:List Blk} {p:PV} {xs:List (List PV)}
 (hp:ev? tm x=some p) (hq:ev? tm y=some (.lits xs)) {K:PV->List Blk->Prop} (h:appDeepK C top t p xs K):∃ pv top',K pv top'/\top.length<=top'.length/\GenLe top top'/\bU C H o tm top pv top':=by
 have mx:x ∈ o.op.operands.toList:=by rw [ho];simp [Op.operands,Call.operands,hcl,hx]
 have my:y ∈ o.op.operands.toList:=by rw [ho];simp [Op.operands,Call.operands,hcl,hx]
 obtain ⟨r,hr,ht_,h_⟩:=lookK_spec h
 clear h
 subst ht_
 obtain ⟨i1,z1,d,hi1,hs1,hb1,hz1,hzz1,hd,hty⟩:=aP hC hr
 split at h_
 case h_2=>exact h_.elim
 rename_i e hty0
 obtain ⟨r',hr',ht_,h⟩:=lookK_spec h_
 clear h_
 subst ht_
 obtain ⟨i2,z2,d2,hi2,hs2,hb2,hz2,hzz2,hd2,hty2⟩:=aP hC hr'
 rw [hty0] at hty
 obtain ⟨e,rfl⟩:∃ e,d = .slice e:=by cases d <;> simp [tyOf] at hty <;> exact ⟨_,rfl⟩
 simp only [tyOf,Ty.slice.injEq] at hty
 subst hty
 simp only [ifK] at h
 split at h
 case h_2=>exact h.elim
 rename_i hpos
 have hpos:0 < r'.size:=by simpa [Nat.blt_eq] using hpos
 split at h
 case h_2=>exact h.elim
 rename_i hbp
 have hbp:0 < r'.bytes:=by simpa [Nat.blt_eq] using hbp
 rw [lenK_spec] at h
 split at h
 case h_2=>exact h.elim
 rename_i hzl
 have hzl:=aBj hzl
 have hzs:z2.cells.size=r'.size:=by rw [<- hzl,<- hzz2];simp
 obtain ⟨cs,i,n,rfl,rfl,h⟩:∃ cs i n,xs = [cs]/\p = .row 0 i n/\(getK top i fun b=>(match b with
         | .deep e' sz ys=>ifK (Nat.beq e' r'.t) <| ifK (Nat.beq sz r'.size) <| n=ys.length/\(n+1)*r'.bytes<=140737488355328/\lenK cs fun k=>ifK (Nat.beq k sz) (allCellK cs (ownsK top cs [i] fun ds js=>hideK top js fun top1=>setK top1 i .dead fun top2=>newK top2 (.deep r'.t sz (ys ++ [ds])) fun i' top'=>K (.row 0 i' (n+1)) top'))
         | _=>False)):=by
  split at h
  . exact ⟨_,_,_,rfl,rfl,h⟩
  . exact h.elim
 obtain ⟨b,hb,h3⟩:=getK_spec.1 h
 clear h
 cases b with
 | deep e' sz ys=>
   simp only [ifK] at h3
   split at h3
   case h_2=>exact h3.elim
   rename_i he'
   obtain rfl:=aBj he'
   split at h3
   case h_2=>exact h3.elim
   rename_i hsz'
   obtain rfl:=aBj hsz'
   obtain ⟨rfl,hbytes,h4⟩:=h3
   rw [lenK_spec] at h4
   split at h4
   case h_2=>exact h4.elim
   rename_i hcl0
   have hcl0:=aBj hcl0
   obtain ⟨hcell,h5⟩:=eQ h4
   obtain ⟨ds,l,h6,hdl,hjs,hown0⟩:=fE _ _ _ h5
   obtain ⟨top1,h7,hl1,hd1,hs1'⟩:=eH l _ h6
   obtain ⟨hil,h8⟩:=setK_spec.1 h7
   unfold newK at h8
   rw [lenK_spec,snocK_spec,aAp,hl1] at h8
   have hil:i < top.length:=by omega
   have hnl:i ∉ l:=fun hm=>(hjs i hm).1 (aAy.2 rfl)
   generalize hZ:ys ++ [ds]=Z at *
   have hZl:Z.length=ys.length+1:=by rw [<- hZ];simp
   have len2:(top1.set i .dead).length=top.length:=by rw [aAp,hl1]
   have old:∀ (a:Nat) b,(top1.set i .dead ++ [Blk.deep r'.t r'.size Z])[a]? = some b->(a=top.length/\b = .deep r'.t r'.size Z)\/(a≠top.length/\(b = .dead\/(top[a]? = some b/\a≠i/\a ∉ l))):=fun a b hb'=>by
    rcases aBl a (top1.set i .dead).length with ha | ha
    . rw [aAk ha] at hb'
      refine .inr ⟨by omega,?_⟩
      by_cases hai:i=a
      . subst hai
        rw [aAr (by omega)] at hb'
        exact .inl (aBr hb').symm
      . rw [aAs hai] at hb'
        by_cases hal:a ∈ l
        . rw [hd1 a hal (by omega)] at hb'
          exact .inl (aBr hb').symm
        . rw [hs1' a hal] at hb'
          exact .inr ⟨hb',fun e=>hai e.symm,hal⟩
    . rw [aAj ha] at hb'
      have h0:a - (top1.set i .dead).length=0:=by have:=(aAe.1 hb').1;simp at this;omega
      rw [h0] at hb'
      exact .inl ⟨by omega,by simpa using hb'.symm⟩
   refine ⟨_,_,h8,by simp;omega,⟨fun a Y st hb'=>?_,by simp;omega⟩,fun m a hinv he hfree next Q hnext=>?_⟩
   . rcases old a _ hb' with ⟨_,h⟩ | ⟨_,h | h⟩
     . cases h
     . cases h
     . exact h.1
   have hpx:=aO he mx hp
   have hqy:=aO he my hq
   generalize hvx:a.eval x=vx at hpx
   generalize hvy:a.eval y=vy at hqy
   cases hpx with
   | row _ _ _ N cc A hρ hn hcc=>
   cases hqy with
   | lits szl _ ad u l0 lm ls lc lr=>
   have hszl:szl=r'.size:=by have:=ls cs (by simp);omega
   subst hszl
   have hro:RO m.w m.ok (.own r'.t r'.size ys) (.slice A N cc):=hinv.blk 0 i _ hb _ hρ
   obtain ⟨flat,h0,hs,ho0,hrr,hdd,sp⟩:=hro.parts
   have hN:=(owns_hdr ho0).1
   subst hN
   have hnews0:∀ (j:Nat),j < r'.size->m.w.cell? (ad.add j)=some (u j) /\ ∃ p,cs[j]? = some p/\RP m p (u j):=fun j hj=>by
    obtain ⟨p,hp⟩:∃ p,cs[j]? = some p:=⟨_,aAf (by omega)⟩
    have h1:=(lc 0 cs j p rfl hp).2
    have h2:=lr 0 cs j p rfl hp
    rw [Nat.zero_mul,Nat.zero_add] at h1 h2
    exact ⟨h1,p,hp,h2⟩
   generalize hnw:(List.range r'.size).map u=news
   have hnl':news.length=r'.size:=by rw [<- hnw];simp
   have hget:∀ (j:Nat) v,news[j]? = some v->j < r'.size/\v=u j:=fun j v hv=>by
    have hj:j < r'.size:=by rw [<- hnl'];exact (aAe.1 hv).1
    rw [<- hnw,aAi,List.getElem?_range hj] at hv
    exact ⟨hj,(aBr hv).symm⟩
   obtain ⟨v',w',hrun,hown,hgrown,hat⟩:=fG (P:=C.P) (ty:=o.type) (z:=z2) hd hi2 hz2 hs2 hb2 hzs hpos hbp ho0 (A:=some ad) (m:=1) (c:=1) (news:=news) (by rw [hnl',Nat.one_mul]) (fun h=>by cases h)
    (fun a' ha' j v hv=>by
      cases ha'
      obtain ⟨hj,rfl⟩:=hget j v hv
      exact (hnews0 j hj).1)
    (fun v hv=>by
      obtain ⟨j,hj⟩:=aB4.1 hv
      obtain ⟨hj',rfl⟩:=hget j v hj
      obtain ⟨_,p,hp,hr⟩:=hnews0 j hj'
      exact hr.one (hcell p (aAg hp)))
    (by simpa using hbytes)
   have hrun':(execOp a.eval o).run C.P m.w = .ok (.value v') w':=by
    have hrun:(Builtin.append_ #[r.t,r.t] o.type #[a.eval x,a.eval y]).run C.P m.w = .ok v' w':=by rw [hvx,hvy];exact hrun
    simp [execOp,ho,resolve,hcl,hx,ht,invoke,builtin,hrun]
   generalize hV:Value.slice A ys.length cc=V at *
   have hobV:V.ownBlock=blkOf V:=fH V ⟨A,ys.length,cc,hV.symm⟩
   obtain ⟨A',c',rfl,hc'⟩:=jB hown
   have hob:(Value.slice A' (ys.length+1) c').ownBlock=blkOf (.slice A' (ys.length+1) c'):=fH _ ⟨_,_,_,rfl⟩
   rw [hob,hobV] at hat
   rw [hobV] at hgrown
   generalize hV':Value.slice A' (ys.length+1) c'=V' at *
   have hfr:m.ρ 0 top.length=none:=hfree _ (aBo _)
   have hblk:∀ k,blkOf V'=some k->blkOf V=some k\/k=m.w.heap.size:=fun k hk=>by
    rcases hat with h | h
    . rw [hk] at h;exact .inl h.symm
    . rw [hk] at h;cases h;exact .inr rfl
   have hasV:∀ k,Ins m.w (.own r'.t r'.size ys) V k->Mine m top k:=fun k hk=>⟨i,_,V,hb,rfl,hρ,hk⟩
   have headV:∀ k,blkOf V=some k->Mine m top k:=fun k hk=>hasV k (.head _ _ _ _ _ hk)
   have mineU:∀ k,Mine m top k->m.U k/\k < m.w.heap.size:=fun k ⟨j,b,v,q1,q2,q3,q4⟩=>by
    have:=hinv.own 0 j b v k q1 q2 q3 q4
    exact ⟨this,hinv.lt k this⟩
   obtain ⟨hO1,hO2⟩:=hown0 H m hinv u (fun k p hp=>by
    have hk:k < r'.size:=by have:=(aAe.1 hp).1;omega
    obtain ⟨_,p',hp',hr⟩:=hnews0 k hk
    rw [hp] at hp'
    cases hp'
    exact hr)
   have apart:∀ (k:Nat) y a',ds[k]? = some y->Ins m.w y (u k) a'->Mine m top a' /\ ¬ Ins m.w (.own r'.t r'.size ys) V a':=fun k y a' hy ha'=>by
    obtain ⟨j,hj,b',v,q1,q2,q3,q4⟩:=(hO1 k y hy).2 a' ha'
    refine ⟨⟨j,b',v,q1,q2,q3,q4⟩,fun h=>?_⟩
    have:=(hinv.inj 0 i _ 0 j b' V v a' hb rfl q1 q2 hρ q3 h q4).2
    exact hnl (by rw [this];exact hj)
   let m':M:=⟨w',fun l i=>if l=0/\i=top.length then some V' else m.ρ l i,fun k=>m.U k\/blkOf V'=some k⟩
   have hheap:∀ k,k < m.w.heap.size->blkOf V≠some k->w'.heap[k]? = m.w.heap[k]?:=fun k hk hne=>hgrown.block k hk (fun e=>hne e.symm)
   have hT:Turn m m' top:=by
    refine ⟨hgrown.os,hgrown.tape,hgrown.output,hgrown.size,fun k hk hn=>hheap k hk (fun e=>hn (headV k e)),fun l j v hv=>?_,fun k hk=>?_⟩
    . show (if l=0/\j=top.length then some V' else m.ρ l j)=some v
      rw [if_neg]
      . exact hv
      . rintro ⟨rfl,rfl⟩;rw [hfr] at hv;cases hv
    . show m.U k\/blkOf V'=some k↔m.U k
      refine ⟨fun h=>?_,.inl⟩
      rcases h with h | h
      . exact h
      . rcases hblk k h with h | h
        . exact (mineU k (headV k h)).1
        . omega
   have hK:=hT.keep hinv
   have hρo:∀ l j,¬ (l=0/\j=top.length)->m'.ρ l j=m.ρ l j:=fun l j hn=>if_neg hn
   have hρn:m'.ρ 0 top.length=some V':=if_pos ⟨rfl,rfl⟩
   have keepIns:∀ (q:Nat) x (j:Nat) yy uu,ys[q]? = some x->x[j]? = some yy->flat[q*r'.size+j]? = some uu -> ∀ k,Ins m.w yy uu k->w'.heap[k]? = m.w.heap[k]?:=fun q x j yy uu h1 h2 h3 k hk=>
    hheap k (mineU k (hasV k (.cell _ _ _ _ _ flat q x j yy uu ho0 h1 h2 h3 hk))).2 (hdd q x j yy uu k h1 h2 h3 hk)
   have keepNew:∀ (k:Nat) yy,ds[k]? = some yy -> ∀ a',Ins m.w yy (u k) a'->w'.heap[a']? = m.w.heap[a']?:=fun k yy h1 a' ha'=>by
    obtain ⟨q1,q2⟩:=apart k yy a' h1 ha'
    exact hheap a' (mineU a' q1).2 (fun e=>q2 (.head _ _ _ _ _ e))
   have hflat:flat.length=ys.length*r'.size:=ho0.1
   have cell:∀ (q:Nat) x (j:Nat) yy uu,Z[q]? = some x->x[j]? = some yy->(flat++news)[q*r'.size+j]? = some uu->(q < ys.length/\ys[q]? = some x/\flat[q*r'.size+j]? = some uu)\/(q=ys.length/\ds[j]? = some yy/\uu=u j):=fun q x j yy uu hx hy hu=>by
    rw [<- hZ] at hx
    rcases aBl q ys.length with hq | hq
    . rw [aAk hq] at hx
      have hj:j < r'.size:=by rw [<- hs x (aAg hx)];exact (aAe.1 hy).1
      have:q*r'.size+r'.size<=ys.length*r'.size:=by rw [<- Nat.succ_mul];exact Nat.mul_le_mul_right _ hq
      rw [aAk (by omega)] at hu
      exact .inl ⟨hq,hx,hu⟩
    . have hq2:q=ys.length:=by have:=(aAe.1 hx).1;simp at this;omega
      subst hq2
      rw [aAj (aBo _),aB2] at hx
      obtain rfl:=aBr (show some ds=some x from hx)
      rw [aAj (by omega),hflat,Nat.add_sub_cancel_left] at hu
      exact .inr ⟨rfl,hy,(hget j uu hu).2⟩
   have backIns:∀ (q:Nat) x (j:Nat) yy uu k,Z[q]? = some x->x[j]? = some yy->(flat++news)[q*r'.size+j]? = some uu->Ins w' yy uu k->Ins m.w yy uu k:=fun q x j yy uu k hx hy hu hk=>by
    rcases cell q x j yy uu hx hy hu with ⟨_,a1,a2⟩ | ⟨_,a1,rfl⟩
    . exact hk.back (keepIns q x j yy uu a1 hy a2)
    . exact hk.back (keepNew j yy a1)
   have roZ:RO m'.w m'.ok (.own r'.t r'.size Z) V':=by
    refine .own r'.t r'.size Z V' (flat++news) hpos (fun x hx=>?_) (by rw [hZl];exact hown) (fun q x j yy uu hx hy hu=>?_) (fun q x j yy uu k hx hy hu hk h=>?_) (fun q x j yy uu q2 x2 j2 y2 u2 k hx hy hu hx2 hy2 hu2 hk hk2=>?_)
    . rw [<- hZ] at hx
      rcases aA5.1 hx with h | h
      . exact hs x h
      . rw [aAy.1 h];omega
    . rcases cell q x j yy uu hx hy hu with ⟨_,a1,a2⟩ | ⟨_,a1,rfl⟩
      . exact (hrr q x j yy uu a1 hy a2).mono hK.ok (keepIns q x j yy uu a1 hy a2)
      . exact (hO1 j yy a1).1.mono hK.ok (keepNew j yy a1)
    . have hk0:=backIns q x j yy uu k hx hy hu hk
      rcases cell q x j yy uu hx hy hu with ⟨_,a1,a2⟩ | ⟨_,a1,rfl⟩
      . rcases hblk k h with h | h
        . exact hdd q x j yy uu k a1 hy a2 hk0 h
        . have:=(mineU k (hasV k (.cell _ _ _ _ _ flat q x j yy uu ho0 a1 hy a2 hk0))).2;omega
      . obtain ⟨b1,b2⟩:=apart j yy k a1 hk0
        rcases hblk k h with h | h
        . exact b2 (.head _ _ _ _ _ h)
        . have:=(mineU k b1).2;omega
    . have hk0:=backIns q x j yy uu k hx hy hu hk
      have hk1:=backIns q2 x2 j2 y2 u2 k hx2 hy2 hu2 hk2
      rcases cell q x j yy uu hx hy hu with ⟨_,a1,a2⟩ | ⟨c1,a1,rfl⟩ <;> rcases cell q2 x2 j2 y2 u2 hx2 hy2 hu2 with ⟨_,b1,b2⟩ | ⟨d1,b1,rfl⟩
      . exact sp q x j yy uu q2 x2 j2 y2 u2 k a1 hy a2 b1 hy2 b2 hk0 hk1
      . exact ((apart j2 y2 k b1 hk1).2 (.cell _ _ _ _ _ flat q x j yy uu ho0 a1 hy a2 hk0)).elim
      . exact ((apart j yy k a1 hk0).2 (.cell _ _ _ _ _ flat q2 x2 j2 y2 u2 ho0 b1 hy2 b2 hk1)).elim
      . exact ⟨by omega,hO2 j yy j2 y2 k a1 b1 hk0 hk1⟩
   have newHas:∀ k,(Blk.deep r'.t r'.size Z).has w' V' k->k=m.w.heap.size \/ ∃ j b v,top[j]? = some b/\b.live=true/\m.ρ 0 j=some v/\b.has m.w v k/\(j=i\/j ∈ l):=fun k hk=>by
    have hk:Ins w' (.own r'.t r'.size Z) V' k:=hk
    cases hk with
    | head _ _ _ _ _ h=>
      rcases hblk k h with h | h
      . exact .inr ⟨i,_,V,hb,rfl,hρ,.head _ _ _ _ _ h,.inl rfl⟩
      . exact .inl h
    | cell _ _ _ _ _ fl q x j yy uu hoo hx hy hu h=>
      rw [hZl] at hoo
      obtain rfl:=ownsRow_inj hown hoo
      have h0:=backIns q x j yy uu k hx hy hu h
      rcases cell q x j yy uu hx hy hu with ⟨_,a1,a2⟩ | ⟨_,a1,rfl⟩
      . exact .inr ⟨i,_,V,hb,rfl,hρ,.cell _ _ _ _ _ flat q x j yy uu ho0 a1 hy a2 h0,.inl rfl⟩
      . obtain ⟨j',hj',b',v,q1,q2,q3,q4⟩:=(hO1 j yy a1).2 k h0
        exact .inr ⟨j',b',v,q1,q2,q3,q4,.inr hj'⟩
   have get:∀ ll j b,getB (top1.set i .dead ++ [Blk.deep r'.t r'.size Z]) H ll j=some b->b.live=true->(ll=0/\j=top.length/\b = .deep r'.t r'.size Z)\/(¬ (ll=0/\j=top.length)/\getB top H ll j=some b/\(ll=0->j≠i/\j ∉ l)):=fun ll j b h1 h2=>by
    cases ll with
    | succ ll=>exact .inr ⟨fun e=>absurd e.1 (Nat.succ_ne_zero _),h1,fun e=>absurd e (Nat.succ_ne_zero _)⟩
    | zero=>
      rcases old j b h1 with ⟨e1,e2⟩ | ⟨e1,h | ⟨h3,h4,h5⟩⟩
      . exact .inl ⟨rfl,e1,e2⟩
      . subst h;cases h2
      . exact .inr ⟨fun e=>e1 e.2,h3,fun _=>⟨h4,h5⟩⟩
   have notHead:∀ ll j b v k,getB top H ll j=some b->b.live=true->m.ρ ll j=some v->(ll=0->j≠i/\j ∉ l)->b.has m.w v k->blkOf V≠some k:=fun ll j b v k h1 h2 h3 h4 h5 e=>by
    obtain ⟨e1,e2⟩:=hinv.inj ll j b 0 i _ v V k h1 h2 hb rfl h3 hρ h5 (.head _ _ _ _ _ e)
    exact (h4 e1).1 e2
   have back:∀ ll j b v,getB top H ll j=some b->b.live=true->m.ρ ll j=some v->(ll=0->j≠i/\j ∉ l) -> ∀ k,b.has w' v k->b.has m.w v k:=fun ll j b v h1 h2 h3 h4 k hk=>
    hinv.back h1 h2 h3 (fun k' hu hk'=>hheap k' (hinv.lt k' hu) (notHead ll j b v k' h1 h2 h3 h4 hk')) hk
   have clash:∀ ll j b v k,getB top H ll j=some b->b.live=true->m.ρ ll j=some v->(ll=0->j≠i/\j ∉ l)->b.has m.w v k->(Blk.deep r'.t r'.size Z).has w' V' k->False:=fun ll j b v k h1 h2 h3 h4 h5 h6=>by
    rcases newHas k h6 with h | ⟨j',b',v',q1,q2,q3,q4,q5⟩
    . have:=hinv.lt k (hinv.own ll j b v k h1 h2 h3 h5);omega
    . obtain ⟨e1,e2⟩:=hinv.inj ll j b 0 j' b' v v' k h1 h2 q1 q2 h3 q3 h5 q4
      obtain ⟨e3,e4⟩:=h4 e1
      rcases q5 with rfl | q5
      . exact e3 e2
      . exact e4 (e2 ▸ q5)
   have ρold:∀ ll j,¬ (ll=0/\j=top.length) -> ∀ v,m'.ρ ll j=some v->m.ρ ll j=some v:=fun ll j h v hv=>by rw [hρo ll j h] at hv;exact hv
   unfold Oper.wp
   rw [hrun']
   refine hnext V' m' hT (fun ll j hn=>hρo ll j (fun e=>hn ⟨e.1,by omega,by simp;omega⟩)) (fun k hm=>?_) ⟨fun ll j b' hb'=>?_,fun ll j b' ll' j' b'' v1 v2 k hb' hlb hb2' hlb' hv1 hv2 hk1 hk2=>?_,fun ll j b' v k hb' hlb hv hk=>?_,fun k hk=>?_,fun a1 p1 e1 c1 v1 d1 d2=>?_⟩ ?_
   . obtain ⟨j,b',v,h1,h2,h3,h4⟩:=hm
     rcases get 0 j b' h1 h2 with ⟨_,rfl,rfl⟩ | ⟨hn',h5,h6⟩
     . rw [hρn] at h3;cases h3
       rcases newHas k h4 with h | ⟨j',b',v',q1,q2,q3,q4,_⟩
       . exact .inl (by omega)
       . exact .inr ⟨j',b',v',q1,q2,q3,q4⟩
     . have h3:=ρold 0 j hn' v h3
       exact .inr ⟨j,b',v,h5,h2,h3,back 0 j b' v h5 h2 h3 h6 k h4⟩
   . cases hlb:b'.live with
     | false=>cases b' <;> simp [Blk.live] at hlb <;> exact True.intro
     | true=>
       rcases get ll j b' hb' hlb with ⟨rfl,rfl,rfl⟩ | ⟨hn',h5,h6⟩
       . intro v hv
         rw [hρn] at hv;cases hv
         exact roZ
       . exact (hinv.blk ll j b' h5).keep hK (hρo ll j hn') (fun v k hl hv hk=>hheap k (hinv.lt k (hinv.own ll j b' v k h5 hl hv hk)) (notHead ll j b' v k h5 hl hv h6 hk))
   . rcases get ll j b' hb' hlb with ⟨rfl,rfl,rfl⟩ | ⟨hn1,h5,h6⟩ <;> rcases get ll' j' b'' hb2' hlb' with ⟨rfl,rfl,rfl⟩ | ⟨hn2,h7,h8⟩
     . exact ⟨rfl,rfl⟩
     . exfalso
       rw [hρn] at hv1;cases hv1
       have hv2:=ρold ll' j' hn2 v2 hv2
       exact clash ll' j' b'' v2 k h7 hlb' hv2 h8 (back ll' j' b'' v2 h7 hlb' hv2 h8 k hk2) hk1
     . exfalso
       rw [hρn] at hv2;cases hv2
       have hv1:=ρold ll j hn1 v1 hv1
       exact clash ll j b' v1 k h5 hlb hv1 h6 (back ll j b' v1 h5 hlb hv1 h6 k hk1) hk2
     . have hv1:=ρold ll j hn1 v1 hv1
       have hv2:=ρold ll' j' hn2 v2 hv2
       exact hinv.inj ll j b' ll' j' b'' v1 v2 k h5 hlb h7 hlb' hv1 hv2 (back ll j b' v1 h5 hlb hv1 h6 k hk1) (back ll' j' b'' v2 h7 hlb' hv2 h8 k hk2)
   . rcases get ll j b' hb' hlb with ⟨rfl,rfl,rfl⟩ | ⟨hn1,h5,h6⟩
     . rw [hρn] at hv;cases hv
       rcases newHas k hk with h | ⟨j',b',v',q1,q2,q3,q4,_⟩
       . right
         subst h
         have hk':Ins w' (.own r'.t r'.size Z) V' m.w.heap.size:=hk
         cases hk' with
         | head _ _ _ _ _ h=>exact h
         | cell _ _ _ _ _ fl q x j yy uu hoo hx hy hu h=>
           exfalso
           rw [hZl] at hoo
           obtain rfl:=ownsRow_inj hown hoo
           have h0:=backIns q x j yy uu _ hx hy hu h
           rcases cell q x j yy uu hx hy hu with ⟨_,a1,a2⟩ | ⟨_,a1,rfl⟩
           . have:=(mineU _ (hasV _ (.cell _ _ _ _ _ flat q x j yy uu ho0 a1 hy a2 h0))).2;omega
           . have:=(mineU _ (apart j yy _ a1 h0).1).2;omega
       . exact .inl (hinv.own 0 j' b' v' k q1 q2 q3 q4)
     . have hv:=ρold ll j hn1 v hv
       exact .inl (hinv.own ll j b' v k h5 hlb hv (back ll j b' v h5 hlb hv h6 k hk))
   . rcases hk with hk | hk
     . exact aBk (hinv.lt k hk) hgrown.size
     . rcases hown.2 with ⟨h1,_⟩ | ⟨g,cap,cur,h1,_,hg,_⟩
       . rw [h1] at hk;cases hk
       . rw [h1] at hk;cases hk
         exact (aBw.1 hg).1
   . rcases old a1 _ d1 with ⟨_,h⟩ | ⟨e2,h | ⟨h3,h4,h5⟩⟩
     . cases h
     . cases h
     . have d2:=ρold 0 a1 (fun e=>e2 e.2) v1 d2
       obtain ⟨q1,V1,q2,q3⟩:=hinv.sub a1 p1 e1 c1 v1 h3 d2
       refine ⟨q1,V1,hT.ρ 0 p1 V1 q2,fun et sz xs x e3 sz3 zs fl b1 b2 b3 b4=>?_⟩
       rcases old p1 _ b1 with ⟨h,_⟩ | ⟨_,h | ⟨h6,h7,h8⟩⟩
       . have:=(aAe.1 h3).1;omega
       . cases h
       . exact q3 et sz xs x e3 sz3 zs fl h6 b2 b3 (ownsRow_same b4 fun k hk=>(hheap k (mineU k ⟨p1,_,V1,h6,rfl,q2,Blk.has_head hk⟩).2 (notHead 0 p1 _ V1 k h6 rfl q2 (fun _=>⟨h7,h8⟩) (Blk.has_head hk))).symm)
   . rw [<- hV']
     exact .row _ _ _ _ _ _ (by rw [hV'];exact hρn) (aBo _) hc'
 | _=>exact h3.elim
theorem mC {C:Cx} (hC:C.Ok) {H:List (List Blk)} {o:Oper} {c:Call} (ho:o.op = .call c) (hcl:c.callee = .builtin .append) {x y:Operand} {t:TypeId} (hx:c.args = #[x,y]) (ht:c.argTypes = #[t,t]) {tm:List PV} {top:List Blk} {p q:PV}
 (hp:ev? tm x=some p) (hq:ev? tm y=some q) {K:PV->List Blk->Prop} (h:appendsK C top t p q K):∃ pv top',K pv top'/\top.length<=top'.length/\GenLe top top'/\bU C H o tm top pv top'/\(p = .emp->top <+: top'/\bQ C H o tm top pv top'):=by
 unfold appendsK at h
 split at h
 . rename_i xs
   by_cases hpe:p = .emp
   . exfalso
     subst hpe
     obtain ⟨top1,h1,g⟩:=fF h
     unfold appDeepK at h1
     obtain ⟨r,_,_,h2⟩:=lookK_spec h1
     split at h2
     . obtain ⟨r',_,_,h3⟩:=lookK_spec h2
       simp only [ifK] at h3
       split at h3
       . split at h3
         . rw [lenK_spec] at h3
           split at h3
           . exact h3.elim
           . exact h3
         . exact h3
       . exact h3
     . exact h2
   . obtain ⟨top1,h1,g⟩:=fF h
     obtain ⟨pv,top',h2,h3,h4,h5⟩:=rW hC (H:=H) ho hcl hx ht hp hq h1
     exact ⟨pv,top',h2,by rw [<- g.len];exact h3,g.gen.trans h4,h5.ghost g,fun e=>absurd e hpe⟩
 . exact uA hC ho hcl hx ht hp hq h
def bX (m:M) (bs:List Nat):M:=⟨m.w,fun l i=>match l with | 0=>(bs[i]?).bind (m.ρ 0) | l+1=>m.ρ l i,m.U⟩
theorem qA (m:M) (top:List Blk) (bs:List Nat):Keep (iM m top []) (bX m bs):=by
 refine ⟨fun l i v h=>?_,aBo _,fun k hk=>⟨fun hu=>hk.2 ⟨hu,?_⟩,rfl⟩⟩
 . cases l with
   | zero=>cases h
   | succ l=>exact h
 . rintro ⟨i,b,v,hi,_⟩;cases hi
theorem jM {e S sz:Nat} {xs:List (List DV)} (hE:S=sz+64) (hsz:Nat.beq sz 0=false):RowB.blk ⟨e,S,xs⟩ = .deep e sz xs:=by
 unfold RowB.blk
 dsimp only
 have h1:Nat.ble 64 S=true:=by rw [Nat.ble_eq];omega
 have h2:S - 64=sz:=by omega
 have h3:Nat.beq S 0=false:=by
  cases S with
  | zero=>omega
  | succ S=>rfl
 rw [h3,h1,h2]
theorem eD {e sz:Nat} {xs:List (List DV)} (he:Nat.ble 64 sz=false) (hsz:Nat.beq sz 0=false):RowB.blk ⟨e,sz,xs⟩ = .row e sz xs:=by
 unfold RowB.blk
 dsimp only
 rw [hsz,he]
theorem dI {top:List Blk}:∀ (ps:List PV) (bs0:List Nat) (K:List PV->List Nat->List RowB->Prop),bs0.Nodup->giveCellsK top ps bs0 K ->
 ∃ ps' bs G,K ps' bs G/\bs.length=G.length/\(bs0++bs).Nodup/\(∀ (g:Nat) i,bs[g]? = some i -> ∃ r,G[g]? = some r/\top[i]? = some r.blk) /\
   ∀ (m:M) (H:List (List Blk)) (ba:List Nat),(bs0++bs) <+: ba->Inv m top H->ps'.length=ps.length /\ ∀ (j:Nat) p' v,ps'[j]? = some p'->(∀ p,ps[j]? = some p->RP m p v)->RP (bX m ba) p' v
 | [],bs0,K,hnd,h=>⟨[],[],[],h,rfl,by simpa using hnd,fun g i hg=>by simp at hg,fun m H ba _ _=>⟨rfl,fun j p' v hp=>by simp at hp⟩⟩
 | p::ps,bs0,K,hnd,h=>by
   have given:∀ (i n:Nat) (r:RowB),p = .row 0 i n->top[i]? = some r.blk->bs0.any (Nat.beq i)=false->(lenK bs0 fun g=>snocK bs0 i fun bs1=>giveCellsK top ps bs1 fun ps' bs' G=>K (.row 0 g n::ps') (i::bs') (r::G)) ->
    ∃ ps' bs G,K ps' bs G/\bs.length=G.length/\(bs0++bs).Nodup/\(∀ (g:Nat) i,bs[g]? = some i -> ∃ r,G[g]? = some r/\top[i]? = some r.blk) /\
    ∀ (m:M) (H:List (List Blk)) (ba:List Nat),(bs0++bs) <+: ba->Inv m top H->ps'.length=(p::ps).length /\ ∀ (j:Nat) p' v,ps'[j]? = some p'->(∀ p0,(p::ps)[j]? = some p0->RP m p0 v)->RP (bX m ba) p' v:=by
    intro i n r hp hb hno h9
    subst hp
    rw [lenK_spec] at h9
    rw [snocK_spec] at h9
    have hni:i ∉ bs0:=fun hi=>by
     rw [List.any_eq_false] at hno
     exact hno i hi (by simp)
    obtain ⟨ps',bs,G,hk,h1,h2,h3,h4⟩:=dI ps _ _ (by
     rw [List.nodup_append]
     refine ⟨hnd,by simp,fun a ha b hb e=>?_⟩
     simp at hb;subst hb;subst e;exact hni ha) h9
    refine ⟨_,_,_,hk,by simp [h1],by simpa using h2,fun g j hg=>?_,fun m H ba hpre hinv=>?_⟩
    . cases g with
      | zero=>simp at hg;subst hg;exact ⟨_,rfl,hb⟩
      | succ g=>exact h3 g j (by simpa using hg)
    . obtain ⟨q1,q2⟩:=h4 m H ba (by simpa using hpre) hinv
      refine ⟨by simp [q1],fun j p' v hp hv=>?_⟩
      cases j with
      | zero=>
        simp at hp
        subst hp
        have:=hv _ rfl
        cases this with
        | row _ _ _ N c A hρ hn hc=>
          refine .row _ _ _ N c A ?_ hn hc
          obtain ⟨t,rfl⟩:=hpre
          simp [bX,hρ]
      | succ j=>exact q2 j p' v (by simpa using hp) (fun p0 h0=>hv p0 (by simpa using h0))
   simp only [giveCellsK,giveOneK] at h
   split at h
   . rename_i i n
     obtain ⟨b,hb,h6⟩:=getK_spec.1 h
     split at h6
     . rename_i e sz xs
       split at h6
       . exact h6.elim
       . rename_i hno
         split at h6
         . exact h6.elim
         rename_i hsz0
         split at h6
         . exact h6.elim
         rename_i he0
         exact given i n ⟨e,sz,xs⟩ rfl (by rw [hb];unfold RowB.blk;rw [hsz0,he0]) (by simpa using hno) h6
     . rename_i e sz xs
       split at h6
       . exact h6.elim
       . rename_i hno
         split at h6
         . exact h6.elim
         rename_i hsz0
         exact given i n ⟨e,sz+64,xs⟩ rfl (by rw [hb,jM rfl hsz0]) (by simpa using hno) h6
     . exact h6.elim
   . obtain ⟨ps',bs,G,hk,h1,h2,h3,h4⟩:=dI ps _ _ hnd h
     refine ⟨_,_,_,hk,h1,h2,h3,fun m H ba hpre hinv=>?_⟩
     obtain ⟨q1,q2⟩:=h4 m H ba hpre hinv
     refine ⟨by simp [q1],fun j p2 v hp hv=>?_⟩
     cases j with
     | zero=>
       simp at hp
       subst hp
       have:=hv _ rfl
       cases this
       exact .nils
     | succ j=>exact q2 j p2 v (by simpa using hp) (fun p0 h0=>hv p0 (by simpa using h0))
   . obtain ⟨p',b1,h,_,_,hr⟩:=xB p [] _ h
     split at h
     case h_2=>exact h.elim
     obtain ⟨ps',bs,G,hk,h1,h2,h3,h4⟩:=dI ps _ _ hnd h
     refine ⟨_,_,_,hk,h1,h2,h3,fun m H ba hpre hinv=>?_⟩
     obtain ⟨q1,q2⟩:=h4 m H ba hpre hinv
     refine ⟨by simp [q1],fun j p2 v hp hv=>?_⟩
     cases j with
     | zero=>
       simp at hp
       subst hp
       exact (hr m H [] v (fun i hi=>hi) hinv (hv p rfl)).keep (qA m top ba)
     | succ j=>exact q2 j p2 v (by simpa using hp) (fun p0 h0=>hv p0 (by simpa using h0))
theorem lR {top:List Blk}:∀ (xs:List (List PV)) (bs0:List Nat) (K:List (List PV)->List Nat->List RowB->Prop),bs0.Nodup->giveRowsK top xs bs0 K ->
 ∃ xs' bs G,K xs' bs G/\bs.length=G.length/\(bs0++bs).Nodup/\(∀ (g:Nat) i,bs[g]? = some i -> ∃ r,G[g]? = some r/\top[i]? = some r.blk) /\
   ∀ (m:M) (H:List (List Blk)) (ba:List Nat),(bs0++bs) <+: ba->Inv m top H->xs'.length=xs.length /\ ∀ (i:Nat) x',xs'[i]? = some x' -> ∃ x,xs[i]? = some x/\x'.length=x.length /\ ∀ (j:Nat) p' v,x'[j]? = some p'->(∀ p,x[j]? = some p->RP m p v)->RP (bX m ba) p' v
 | [],bs0,K,hnd,h=>⟨[],[],[],h,rfl,by simpa using hnd,fun g i hg=>by simp at hg,fun m H ba _ _=>⟨rfl,fun j p' hp=>by simp at hp⟩⟩
 | x::xs,bs0,K,hnd,h=>by
   rw [giveRowsK_cons] at h
   obtain ⟨x',b1,G1,h,g1,g2,g3,g4⟩:=dI _ _ _ hnd h
   rw [appK_spec] at h
   obtain ⟨xs',b2,G2,h,h1,h2,h3,h4⟩:=lR xs _ _ g2 h
   rw [appK_spec,appK_spec] at h
   rw [aBb] at h2
   refine ⟨_,_,_,h,by simp [g1,h1],h2,fun g i hg=>?_,fun m H ba hpre hinv=>?_⟩
   . rcases aBl g b1.length with hlt | hge
     . rw [aAk hlt] at hg
       obtain ⟨r,q1,q2⟩:=g3 g i hg
       exact ⟨r,by rw [aAk (by omega)];exact q1,q2⟩
     . rw [aAj hge] at hg
       obtain ⟨r,q1,q2⟩:=h3 _ i hg
       exact ⟨r,by rw [aAj (by omega),<- g1];exact q1,q2⟩
   . obtain ⟨q1,q2⟩:=h4 m H ba (by rw [aBb];exact hpre) hinv
     obtain ⟨r1,r2⟩:=g4 m H ba (List.IsPrefix.trans ⟨b2,by simp⟩ hpre) hinv
     refine ⟨by simp [q1],fun i y hy=>?_⟩
     cases i with
     | zero=>simp at hy;subst hy;exact ⟨x,rfl,r1,r2⟩
     | succ i=>obtain ⟨z,e1,e2,e3⟩:=q2 i y (by simpa using hy);exact ⟨z,by simpa using e1,e2,e3⟩
theorem rX {top:List Blk} {p:PV} {bs0:List Nat} {K:PV->List Nat->List RowB->Prop} (hnd:bs0.Nodup) (h:giveArgK top p bs0 K) :
 ∃ p' bs G,K p' bs G/\bs.length=G.length/\(bs0++bs).Nodup/\(∀ (g:Nat) i,bs[g]? = some i -> ∃ r,G[g]? = some r/\top[i]? = some r.blk) /\
   ∀ (m:M) (H:List (List Blk)) (ba:List Nat) (v:Value),(bs0++bs) <+: ba->Inv m top H->RP m p v->RP (bX m ba) p' v:=by
 unfold giveArgK at h
 split at h
 . obtain ⟨cs',bs,G,hk,h1,h2,h3,h4⟩:=dI _ _ _ hnd h
   refine ⟨_,_,_,hk,h1,h2,h3,fun m H ba v hpre hinv hv=>?_⟩
   obtain ⟨q1,q2⟩:=h4 m H ba hpre hinv
   cases hv with
   | agg cs vs e1 e2=>
     refine .agg _ _ (q1.trans e1) fun j p' v hp hv=>q2 j p' v hp fun p hp0=>e2 j p v hp0 hv
 . obtain ⟨xs',bs,G,hk,h1,h2,h3,h4⟩:=lR _ _ _ hnd h
   refine ⟨_,_,_,hk,h1,h2,h3,fun m H ba v hpre hinv hv=>?_⟩
   obtain ⟨q1,q2⟩:=h4 m H ba hpre hinv
   cases hv with
   | lits sz xs ad u e0 em es ec er=>
     rw [<- q1]
     refine .lits sz xs' ad u (by omega) (by omega) (fun x hx=>?_) (fun i x j y hx hy=>?_) (fun i x j y hx hy=>?_)
     . obtain ⟨i,hi⟩:=aB4.1 hx
       obtain ⟨z,z1,z2,_⟩:=q2 i x hi
       rw [z2];exact es z (aAg z1)
     . obtain ⟨z,z1,z2,_⟩:=q2 i x hx
       have hj:j < z.length:=by rw [<- z2];exact (aAe.1 hy).1
       exact ec i z j _ z1 (aAf hj)
     . obtain ⟨z,z1,z2,z3⟩:=q2 i x hx
       exact z3 j y _ hy (fun p hp=>er i z j p z1 hp)
 . obtain ⟨cs',bs,G,hk,h1,h2,h3,h4⟩:=dI _ _ _ hnd h
   split at hk
   . refine ⟨_,_,_,hk,h1,h2,h3,fun m H ba v hpre hinv hv=>?_⟩
     obtain ⟨q1,q2⟩:=h4 m H ba hpre hinv
     exact q2 0 _ v rfl fun p hp0=>by simp at hp0;subst hp0;exact hv
   . exact hk.elim
theorem lT {top:List Blk}:∀ (ps:List PV) (bs0:List Nat) (K:List PV->List Nat->List RowB->Prop),bs0.Nodup->giveArgsK top ps bs0 K ->
 ∃ ps' bs G,K ps' bs G/\bs.length=G.length/\(bs0++bs).Nodup/\(∀ (g:Nat) i,bs[g]? = some i -> ∃ r,G[g]? = some r/\top[i]? = some r.blk) /\
   ∀ (m:M) (H:List (List Blk)) (ba:List Nat),(bs0++bs) <+: ba->Inv m top H->ps'.length=ps.length /\ ∀ (j:Nat) p' v,ps'[j]? = some p'->(∀ p,ps[j]? = some p->RP m p v)->RP (bX m ba) p' v
 | [],bs0,K,hnd,h=>⟨[],[],[],h,rfl,by simpa using hnd,fun g i hg=>by simp at hg,fun m H ba _ _=>⟨rfl,fun j p' v hp=>by simp at hp⟩⟩
 | p::ps,bs0,K,hnd,h=>by
   rw [giveArgsK_cons] at h
   obtain ⟨p',b1,G1,h,g1,g2,g3,g4⟩:=rX hnd h
   rw [appK_spec] at h
   obtain ⟨ps',b2,G2,h,h1,h2,h3,h4⟩:=lT ps _ _ g2 h
   rw [appK_spec,appK_spec] at h
   rw [aBb] at h2
   refine ⟨_,_,_,h,by simp [g1,h1],h2,fun g i hg=>?_,fun m H ba hpre hinv=>?_⟩
   . rcases aBl g b1.length with hlt | hge
     . rw [aAk hlt] at hg
       obtain ⟨r,q1,q2⟩:=g3 g i hg
       exact ⟨r,by rw [aAk (by omega)];exact q1,q2⟩
     . rw [aAj hge] at hg
       obtain ⟨r,q1,q2⟩:=h3 _ i hg
       exact ⟨r,by rw [aAj (by omega),<- g1];exact q1,q2⟩
   . obtain ⟨q1,q2⟩:=h4 m H ba (by rw [aBb];exact hpre) hinv
     refine ⟨by simp [q1],fun j p2 v hp hv=>?_⟩
     cases j with
     | zero=>
       simp at hp
       subst hp
       exact g4 m H ba v (List.IsPrefix.trans ⟨b2,by simp⟩ hpre) hinv (hv p rfl)
     | succ j=>exact q2 j p2 v (by simpa using hp) (fun p0 h0=>hv p0 (by simpa using h0))
theorem oX:∀ (is:List Nat) (gs:List (Option RowB)) (top:List Blk) (K:List Blk->Prop),is.Nodup->backK top is gs K ->
 ∃ top2,K top2/\is.length=gs.length/\top2.length=top.length/\(∀ i,i ∉ is->top2[i]? = top[i]?) /\ ∀ (g:Nat) i,is[g]? = some i -> ∃ b,gs[g]? = some b/\top2[i]? = some (gblk b)
 | [],[],top,K,_,h=>⟨top,h,rfl,rfl,fun i _=>rfl,fun g i hg=>by simp at hg⟩
 | [],_::_,top,K,_,h=>h.elim
 | _::_,[],top,K,_,h=>h.elim
 | i::is,g::gs,top,K,hnd,h=>by
   rw [List.nodup_cons] at hnd
   obtain ⟨top2,h,h1,h2,h3,h4⟩:=oX is gs top _ hnd.2 h
   obtain ⟨hlt,h⟩:=setK_spec.1 h
   refine ⟨_,h,by simp [h1],by simp [h2],fun j hj=>?_,fun k j hk=>?_⟩
   . rw [List.mem_cons,not_or] at hj
     rw [aAs (fun e=>hj.1 e.symm)]
     exact h3 j hj.2
   . cases k with
     | zero=>simp at hk;subst hk;exact ⟨g,rfl,by simp [hlt]⟩
     | succ k=>
       have hk':is[k]? = some j:=by simpa using hk
       obtain ⟨b,hb,ht⟩:=h4 k j hk'
       refine ⟨b,by simpa using hb,?_⟩
       rw [aAs]
       . exact ht
       . rintro rfl;exact hnd.1 (aAg hk')
theorem rY (bs:List Nat) (b:Blk) (top:List Blk):noSubsB bs (b::top)=match b with | .sub p _ _=>(match bs.any (Nat.beq p) with | true=>false | false=>noSubsB bs top) | .dead=>noSubsB bs top | .box _=>noSubsB bs top | .row _ _ _=>noSubsB bs top | .gen _ _=>noSubsB bs top | .deep _ _ _=>noSubsB bs top:=rfl
theorem uB {bs:List Nat}:∀ (top:List Blk),noSubsB bs top=true -> ∀ (i p e c:Nat),top[i]? = some (.sub p e c)->p ∉ bs:=by
 intro top
 induction top with
 | nil=>intro _ i p e c h;simp at h
 | cons b top ih=>
   intro hn i p e c h
   rw [rY] at hn
   have rest:noSubsB bs top=true:=by
    cases b with
    | sub p' e' c'=>
      dsimp only at hn
      split at hn
      . cases hn
      . exact hn
    | _=>exact hn
   cases i with
   | succ i=>exact ih rest i p e c (by simpa using h)
   | zero=>
     simp at h
     subst h
     dsimp only at hn
     split at hn
     . cases hn
     . rename_i hno
       intro hm
       rw [List.any_eq_false] at hno
       exact hno p hm (by simp)
theorem xG {C:Cx} {H:List (List Blk)} {top:List Blk} {f:Nat} {args:List PV} {K:PV->List Blk->Prop} (h:giveK C H top f args K) :
 ∃ pv top',K pv top'/\top.length<=top'.length/\GenLe top top' /\ ∀ (m:M) (vs:Array Value),Inv m top H->args.length=vs.size->(∀ (j:Nat) p v,args[j]? = some p->vs[j]? = some v->RP m p v)->(∀ j,top.length<=j->m.ρ 0 j=none) ->
   Calls C.P f vs m.w fun e w'=>∃ v m',e = .returned v/\m'.w=w'/\Turn m m' top/\(∀ l j,¬ (l=0/\top.length<=j/\j < top'.length)->m'.ρ l j=m.ρ l j) /\
    (∀ k,Mine m' top' k->m.w.heap.size<=k\/Mine m top k)/\Inv m' top' H/\RP m' pv v:=by
 obtain ⟨args',bs,G,h,hbl,hnd,hbs,hargs⟩:=lT args [] _ List.nodup_nil h
 rw [List.nil_append] at hnd
 simp only [ifK] at h
 split at h
 case h_2=>exact h.elim
 rename_i hnoS
 obtain ⟨top1,h,hl1,hd1,hs1⟩:=eH bs _ h
 obtain ⟨r,G',N,hcall,h⟩:=h
 rw [lenK_spec,lenK_spec] at h
 obtain ⟨pv,h,hpv⟩:=nK r _ h
 obtain ⟨top2,h,hg1,hl2,hs2,hb2⟩:=oX bs G' top _ hnd h
 rw [appK_spec] at h
 unfold aE at hcall
 obtain ⟨hgl,hcall⟩:=hcall
 have hNl:(blksOf N).length=N.length:=by rw [cX];simp
 have hgen:GenLe top (top2++blksOf N):=by
  refine GenLe.trans ⟨fun i Y st hi=>?_,by omega⟩ (GenLe.app _ (nL N))
  . by_cases hb:i ∈ bs
    . obtain ⟨g,hg⟩:=aB4.1 hb
      obtain ⟨b,_,h2⟩:=hb2 g i hg
      rw [h2] at hi
      cases b with
      | none=>cases hi
      | some r=>
        have:=r.noGen
        rw [show gblk (some r)=r.blk from rfl] at hi
        cases hi':r.blk <;> rw [hi'] at hi this <;> first | (cases hi;done) | (cases this;done)
    . rwa [hs2 i hb] at hi
 refine ⟨pv,_,h,by simp [hl2],hgen,fun m vs hinv hlen hrel hfree=>?_⟩
 obtain ⟨hal,har⟩:=hargs m H bs (by simp) hinv
 have inBs:∀ i,i ∈ bs -> ∃ (g:Nat) (r:RowB),bs[g]? = some i/\G[g]? = some r/\top[i]? = some r.blk:=fun i hi=>by
  obtain ⟨g,hg⟩:=aB4.1 hi
  obtain ⟨r,h1,h2⟩:=hbs g i hg
  exact ⟨g,r,hg,h1,h2⟩
 have phi:∀ l i b,getB (G.map RowB.blk) (top1::H) l i=some b->b.live=true -> ∃ l' i',getB top H l' i'=some b/\(bX m bs).ρ l i=m.ρ l' i'/\((l=0/\l'=0/\bs[i]? = some i')\/(l=l'+1/\i=i'/\(l'=0->i ∉ bs))):=by
  intro l i b hb hl
  cases l with
  | zero=>
    simp only [getB,aAi] at hb
    obtain ⟨r,hr,rfl⟩:=aBq.1 hb
    have hi:i < bs.length:=by rw [hbl];exact (aAe.1 hr).1
    have hbi:=aAf hi
    obtain ⟨r',h1,h2⟩:=hbs i _ hbi
    rw [hr] at h1;cases h1
    exact ⟨0,bs[i],h2,by simp [bX,hbi],.inl ⟨rfl,rfl,hbi⟩⟩
  | succ l=>
    cases l with
    | zero=>
      have hb':top1[i]? = some b:=by simpa [getB] using hb
      have hni:i ∉ bs:=fun hi=>by obtain ⟨_,_,_,_,h9⟩:=inBs i hi;rw [hd1 i hi (aAe.1 h9).1] at hb';cases hb';cases hl
      exact ⟨0,i,by rw [getB,<- hs1 i hni];exact hb',rfl,.inr ⟨rfl,rfl,fun _=>hni⟩⟩
    | succ l=>exact ⟨l+1,i,by simpa [getB] using hb,rfl,.inr ⟨rfl,rfl,fun h=>by cases h⟩⟩
 have hinv2:Inv (bX m bs) (G.map RowB.blk) (top1::H):=by
  refine ⟨fun l i b hb=>?_,fun l i b l' i' b' v v' k h1 h2 h3 h4 h5 h6 h7 h8=>?_,fun l i b v k h1 h2 h3 h4=>?_,hinv.lt,Views.none fun i p e c h=>by
   rw [aAi] at h
   obtain ⟨r,_,hr⟩:=aBq.1 h
   have:=r.noSub
   rw [hr] at this;cases this⟩
  . cases hlv:b.live with
    | false=>cases b <;> simp [Blk.live] at hlv <;> exact True.intro
    | true=>
      obtain ⟨l',i',h1,h2,h3⟩:=phi l i b hb hlv
      have hbo:=hinv.blk l' i' b h1
      have hzero:l=0->BlkOk (bX m bs) l i b:=fun hl=>by
       subst hl
       simp only [getB,aAi] at hb
       obtain ⟨r,_,rfl⟩:=aBq.1 hb
       exact gK r h2 rfl (fun _ _ _ _ _ h=>h) (fun _ _ _ h=>h) hbo
      cases b with
      | dead=>trivial
      | gen Y st=>trivial
      | sub _ _ _=>trivial
      | row e sz xs=>exact fun v hv=>hbo v (h2 ▸ hv)
      | deep e sz xs=>exact fun v hv=>hbo v (h2 ▸ hv)
      | box cs=>
        intro v hv
        rw [h2] at hv
        obtain ⟨g,us,e,q1,q2,q3,q4⟩:=hbo v hv
        rcases h3 with ⟨rfl,_,_⟩ | ⟨rfl,rfl,_⟩
        . exact hzero rfl v (by rw [h2];exact hv)
        . exact ⟨g,us,e,q1,q2,q3,q4⟩
  . obtain ⟨a,b1,c1,c2,c3⟩:=phi l i b h1 h2
    obtain ⟨a',b1',c1',c2',c3'⟩:=phi l' i' b' h3 h4
    rw [c2] at h5;rw [c2'] at h6
    obtain ⟨rfl,rfl⟩:=hinv.inj a b1 b a' b1' b' v v' k c1 h2 c1' h4 h5 h6 h7 h8
    rcases c3 with ⟨rfl,rfl,d1⟩ | ⟨rfl,rfl,d1⟩ <;> rcases c3' with ⟨rfl,e0,e1⟩ | ⟨rfl,rfl,e1⟩
    . refine ⟨rfl,?_⟩
      have hi:=(aAe.1 d1).1
      have hi':=(aAe.1 e1).1
      exact (List.getElem?_inj hi hnd).1 (d1.trans e1.symm)
    . exact absurd (aAg d1) (e1 rfl)
    . subst e0;exact absurd (aAg e1) (d1 rfl)
    . exact ⟨rfl,rfl⟩
  . obtain ⟨a,b1,c1,c2,_⟩:=phi l i b h1 h2
    rw [c2] at h3
    exact hinv.own a b1 b v k c1 h2 h3 h4
 refine (hcall (bX m bs) vs hinv2 (fun i hi=>by simp [bX,List.getElem?_eq_none (show bs.length<=i by omega)]) (hal.trans hlen) (fun j p v hp hv=>har j p v hp (fun p0 h0=>hrel j p0 v h0 hv))).mono ?_
 rintro e w' ⟨v,m3,rfl,rfl,hs,hnames,hi3,hr⟩
 have mine:∀ k,Mine (bX m bs) (G.map RowB.blk) k->Mine m top k:=by
  rintro k ⟨i,b,u,h1,h2,h3,h4⟩
  obtain ⟨l',i',c1,c2,c3⟩:=phi 0 i b (by simpa [getB] using h1) h2
  rcases c3 with ⟨_,rfl,_⟩ | ⟨h,_⟩
  . exact ⟨i',b,u,c1,h2,by rw [<- c2];exact h3,h4⟩
  . cases h
 have hup:∀ l i,m3.ρ (l+1) i=m.ρ l i:=fun l i=>hs.up l i
 let m':M:=⟨m3.w,fun l i=>match l with | 0=>if top.length<=i then (if i < top.length+N.length then m3.ρ 0 (i - top.length) else none) else m.ρ 0 i | l+1=>m.ρ (l+1) i,m3.U⟩
 have hold:∀ l i,¬ (l=0/\top.length<=i/\i < top.length+N.length)->m'.ρ l i=m.ρ l i:=by
  intro l i hn
  cases l with
  | succ l=>rfl
  | zero=>
    show (if top.length<=i then (if i < top.length+N.length then m3.ρ 0 (i - top.length) else none) else m.ρ 0 i)=m.ρ 0 i
    split
    . rename_i h1
      rw [if_neg (fun h2=>hn ⟨rfl,h1,h2⟩),hfree i h1]
    . rfl
 have hnew:∀ i,i < N.length->m'.ρ 0 (top.length+i)=m3.ρ 0 i:=by
  intro i hi
  show (if top.length<=top.length+i then (if top.length+i < top.length+N.length then m3.ρ 0 (top.length+i - top.length) else none) else m.ρ 0 (top.length+i))=_
  rw [if_pos (by omega),if_pos (by omega),show top.length+i - top.length=i by omega]
 have hT:Turn m m' top:=by
  refine ⟨hs.os,hs.tape,hs.output,hs.size,fun k hk hnm=>hs.heap k hk (fun h=>hnm (mine k h)) (fun h=>h),fun l i u hu=>?_,fun k hk=>hs.U k hk⟩
  rw [hold l i]
  . exact hu
  . rintro ⟨rfl,h1,_⟩;rw [hfree i h1] at hu;cases hu
 have hK:=hT.keep hinv
 have psi:∀ l i b,getB (top2++blksOf N) H l i=some b->b.live=true -> ∃ L I,getB (N.map RowB.blk++G'.map gblk) (top1::H) L I=some b/\m'.ρ l i=m3.ρ L I /\
  ((l=0/\L=0/\i=top.length+I/\I < N.length)\/(l=0/\L=0 /\ ∃ g,I=N.length+g/\bs[g]? = some i)\/(L=l+1/\I=i/\(l=0->i < top.length/\i ∉ bs))):=by
  intro l i b hb hl
  cases l with
  | succ l=>exact ⟨l+2,i,by simpa [getB] using hb,(hup (l+1) i).symm,.inr (.inr ⟨rfl,rfl,fun h=>by cases h⟩)⟩
  | zero=>
    simp only [getB] at hb
    rcases aBl i top2.length with h1 | h1
    . rw [aAk h1] at hb
      have hlt:i < top.length:=by omega
      have hρ:m'.ρ 0 i=m.ρ 0 i:=hold 0 i (by omega)
      by_cases hi:i ∈ bs
      . obtain ⟨g,hg⟩:=aB4.1 hi
        obtain ⟨b',q1,q2⟩:=hb2 g i hg
        rw [q2] at hb;cases hb
        have hgl':g < G.length:=by rw [<- hbl];exact (aAe.1 hg).1
        refine ⟨0,N.length+g,?_,?_,.inr (.inl ⟨rfl,rfl,g,rfl,hg⟩)⟩
        . simp only [getB]
          rw [aAj (by simp),aAi]
          simp [q1]
        . rw [hρ,hnames g hgl'];simp [bX,hg]
      . refine ⟨1,i,?_,by rw [hρ,hup],.inr (.inr ⟨rfl,rfl,fun _=>⟨hlt,hi⟩⟩)⟩
        simp only [getB,aA9,Option.bind_some]
        rw [hs1 i hi,<- hs2 i hi];exact hb
    . rw [aAj h1,cX] at hb
      have hlt:i - top2.length < N.length:=by have:=(aAe.1 hb).1;simpa using this
      refine ⟨0,i - top2.length,?_,?_,.inl ⟨rfl,rfl,by omega,hlt⟩⟩
      . simp only [getB];rw [aAk (by simpa using hlt)];exact hb
      . have:=hnew _ hlt
        rwa [show top.length+(i - top2.length)=i by omega] at this
 refine ⟨v,m',rfl,rfl,hT,fun l j hj=>hold l j (fun h=>hj ⟨h.1,h.2.1,by simp [hl2,hNl];omega⟩),fun k hm=>?_,⟨fun l i b hb=>?_,fun l i b l' i' b' v1 v2 k h1 h2 h3 h4 h5 h6 h7 h8=>?_,fun l i b v1 k h1 h2 h3 h4=>?_,hi3.lt,?_⟩,hpv m3 m' v (fun i u hi hu=>by rw [hnew i (by rwa [hNl] at hi)];exact hu) (.inr fun x v hx=>hx) hr⟩
 . obtain ⟨j,b,u,hb,hl,hu,hk⟩:=hm
   obtain ⟨L,I,c1,c2,c3⟩:=psi 0 j b hb hl
   have near:L=0->m.w.heap.size<=k\/Mine m top k:=fun h=>by
    subst h
    exact (hs.fresh k ⟨I,b,u,c1,hl,by rw [<- c2];exact hu,hk⟩).imp id (mine k)
   rcases c3 with ⟨_,h,_⟩ | ⟨_,h,_⟩ | ⟨rfl,rfl,hh⟩
   . exact near h
   . exact near h
   . obtain ⟨h1,h2⟩:=hh rfl
     have hb1:getB (G.map RowB.blk) (top1::H) 1 I=some b:=by simpa [getB] using c1
     have hu1:(bX m bs).ρ 1 I=some u:=by rw [<- hu,hold 0 I (by omega)];rfl
     have hk1:b.has m.w u k:=hinv2.back hb1 hl hu1 (fun k' hU hk'=>hs.heap k' (hinv2.lt k' hU) (fun ⟨i2,b2,v2,d1,d2,d3,d4⟩=>by
      have:=hinv2.inj 1 I b 0 i2 b2 u v2 k' hb1 hl (show getB (G.map RowB.blk) (top1::H) 0 i2=some b2 from d1) d2 hu1 d3 hk' d4
      cases this.1) (fun h=>h)) hk
     refine .inr ⟨I,b,u,?_,hl,hu1,hk1⟩
     have:top1[I]? = some b:=by simpa [getB] using hb1
     rwa [hs1 I h2] at this
 . cases hlv:b.live with
   | false=>cases b <;> simp [Blk.live] at hlv <;> exact True.intro
   | true=>
     obtain ⟨L,I,c1,c2,c3⟩:=psi l i b hb hlv
     have hbo:=hi3.blk L I b c1
     have hzero:L=0->BlkOk m' l i b:=fun hL=>by
      subst hL
      simp only [getB] at c1
      rcases aBl I (N.map RowB.blk).length with h1 | h1
      . rw [aAk h1,aAi] at c1
        obtain ⟨r,_,rfl⟩:=aBq.1 c1
        exact gK (m:=m3) (m':=m') r c2 rfl (fun _ _ _ _ _ h=>h) (fun _ _ _ h=>h) hbo
      . rw [aAj h1,aAi] at c1
        obtain ⟨r,_,hr⟩:=aBq.1 c1
        cases r with
        | none=>rw [<- hr] at hlv;cases hlv
        | some r=>rw [<- hr] at hbo ⊢;exact gK (m:=m3) (m':=m') r c2 rfl (fun _ _ _ _ _ h=>h) (fun _ _ _ h=>h) hbo
     cases b with
     | dead=>trivial
     | gen Y st=>trivial
     | sub _ _ _=>trivial
     | row e sz xs=>exact fun u hu=>hbo u (c2 ▸ hu)
     | deep e sz xs=>exact fun u hu=>hbo u (c2 ▸ hu)
     | box cs=>
       intro u hu
       rw [c2] at hu
       obtain ⟨g,us,e,q1,q2,q3,q4⟩:=hbo u hu
       rcases c3 with ⟨_,rfl,_,hlt⟩ | ⟨_,rfl,g',rfl,_⟩ | ⟨rfl,rfl,hh⟩
       . exact hzero rfl _ (by rw [c2];exact hu)
       . exact hzero rfl _ (by rw [c2];exact hu)
       . refine ⟨g,us,e,q1,q2,q3,fun j p x hp hx=>(q4 j p x hp hx).keep ?_⟩
         refine ⟨fun a i' u' hu'=>?_,aBo _,fun k hk=>⟨hk.2,rfl⟩⟩
         have h1:m.ρ (a+l) i'=some u':=by rw [<- hup];exact hu'
         exact hT.ρ _ _ _ h1
 . obtain ⟨L,I,c1,c2,c3⟩:=psi l i b h1 h2
   obtain ⟨L',I',c1',c2',c3'⟩:=psi l' i' b' h3 h4
   rw [c2] at h5;rw [c2'] at h6
   obtain ⟨rfl,rfl⟩:=hi3.inj L I b L' I' b' v1 v2 k c1 h2 c1' h4 h5 h6 h7 h8
   rcases c3 with ⟨rfl,rfl,rfl,d⟩ | ⟨rfl,rfl,g,rfl,d⟩ | ⟨rfl,rfl,d⟩ <;> rcases c3' with ⟨rfl,e0,e1,e2⟩ | ⟨rfl,e0,g',e1,e2⟩ | ⟨e0,e1,e2⟩
   . exact ⟨rfl,by omega⟩
   . omega
   . cases e0
   . omega
   . have:g=g':=by omega
     subst this
     rw [d] at e2;cases e2;exact ⟨rfl,rfl⟩
   . cases e0
   . cases e0
   . cases e0
   . exact ⟨by omega,e1⟩
 . obtain ⟨L,I,c1,c2,_⟩:=psi l i b h1 h2
   rw [c2] at h3
   exact hi3.own L I b v1 k c1 h2 h3 h4
 . intro i p e c v1 hb hv
   have here:top[i]? = some (.sub p e c)/\i < top.length/\i ∉ bs:=by
    rcases aBl i top2.length with h1 | h1
    . rw [aAk h1] at hb
      by_cases hi:i ∈ bs
      . obtain ⟨g,hg⟩:=aB4.1 hi
        obtain ⟨b',_,q2⟩:=hb2 g i hg
        rw [q2] at hb
        cases b' with
        | none=>cases hb
        | some r=>
          have:=r.noSub
          rw [show r.blk = .sub p e c by simpa [gblk] using hb] at this;cases this
      . exact ⟨by rw [<- hs2 i hi];exact hb,by omega,hi⟩
    . rw [aAj h1,cX,aAi] at hb
      obtain ⟨r,_,hr⟩:=aBq.1 hb
      have:=r.noSub
      rw [hr] at this;cases this
   obtain ⟨h1,h2,h3⟩:=here
   obtain ⟨q1,V,hV,hh⟩:=hinv.sub i p e c v1 h1 (by rw [<- hold 0 i (by omega)];exact hv)
   have hp:p ∉ bs:=uB _ hnoS _ _ _ _ h1
   have hpl:p < top.length:=by omega
   have hVold:m'.ρ 0 p=some V:=by rw [hold 0 p (by omega)];exact hV
   refine ⟨q1,V,hVold,fun et sz xs x e2 sz2 ys flat b1 b2 b3 b4=>?_⟩
   rw [aAk (by omega),hs2 p hp] at b1
   refine hh et sz xs x e2 sz2 ys flat b1 b2 b3 (ownsRow_same b4 fun k hk=>?_)
   refine (hs.heap k (hinv.lt k (hinv.own 0 p _ V k b1 rfl hV (Blk.has_head hk))) (fun hm=>?_) (fun h=>h)).symm
   obtain ⟨i2,b2',v2,d1,d2,d3,d4⟩:=hm
   have hp1:getB (G.map RowB.blk) (top1::H) 1 p=some (.deep et sz xs):=by
    simp only [getB,aA9,Option.bind_some]
    rw [hs1 p hp];exact b1
   have:=hinv2.inj 1 p _ 0 i2 b2' V v2 k hp1 rfl (show getB (G.map RowB.blk) (top1::H) 0 i2=some b2' from d1) d2 hV d3 (Blk.has_head hk) d4
   cases this.1
theorem qR {C:Cx} (hC:C.Ok) {H:List (List Blk)} {o:Oper} {tm:List PV} {top:List Blk} {K:PV->List Blk->Prop} (h:actK C H o.op tm top K) :
 ∃ pv top',K pv top'/\top.length<=top'.length/\GenLe top top'/\bU C H o tm top pv top':=by
 have plain:opK C H o.op tm top K -> ∃ pv top',K pv top'/\top.length<=top'.length/\GenLe top top'/\bU C H o tm top pv top':=fun h=>by
  obtain ⟨pv,top',h1,h2,h3⟩:=rR hC h
  exact ⟨pv,top',h1,h2.isPre.length_le,h2.genLe,h3.act h2.isPre⟩
 cases ho:o.op with
 | store t a v=>
   rw [ho] at h
   simp only [actK] at h
   obtain ⟨p,hp,h⟩:=aT h
   obtain ⟨q,hq,h⟩:=aT h
   obtain ⟨top',h1,h2,hg,h3⟩:=vY hC ho hp hq h
   exact ⟨.any,top',h1,Nat.le_of_eq h2.symm,hg,h3⟩
 | buildSlice t n parts=>
   rw [ho] at h
   have h:(match C.give.any (Nat.beq (t+1000)) with | true=>litDeepK C tm top t n parts.toList K | false=>opK C H (.buildSlice t n parts) tm top K):=h
   split at h
   . exact rV hC ho h
   . exact plain (by rw [ho];exact h)
 | call c=>
   rw [ho] at h
   have hb:((∃ b,c.callee = .builtin b/\b = .append) \/ ∃ b,c.callee = .builtin b/\b = .copy)\/(∃ f,c.callee = .value (.func f)/\evsK tm c.args.toList fun aas=>ifK (C.plain f) (takesK C aas top fun top1=>giveK C H top1 f aas K))\/opK C H (.call c) tm top K:=by
    unfold actK at h
    dsimp only at h
    cases hcl:c.callee with
    | builtin b=>rw [hcl] at h;cases b <;> first | exact .inl (.inl ⟨_,rfl,rfl⟩) | exact .inl (.inr ⟨_,rfl,rfl⟩) | exact .inr (.inr h)
    | invoke r n=>rw [hcl] at h;exact .inr (.inr h)
    | value f=>
      rw [hcl] at h
      cases f with
      | func f=>
        dsimp only at h
        cases hg:C.give.any (Nat.beq f) with
        | true=>rw [hg] at h;exact .inr (.inl ⟨f,rfl,h⟩)
        | false=>rw [hg] at h;exact .inr (.inr h)
      | tmp t=>exact .inr (.inr h)
      | const v=>exact .inr (.inr h)
      | global g=>exact .inr (.inr h)
   rcases hb with (⟨b,hcl,rfl⟩ | ⟨b,hcl,rfl⟩) | ⟨f,hcl,h⟩ | hb
   rotate_left 2
   . obtain ⟨aas,h,hl,hr⟩:=gJ (ys:=o.op.operands.toList) h (fun x hx=>by rw [ho];simp only [Op.operands,Call.operands,hcl,Array.toList_append];exact List.mem_append_right _ hx)
     simp only [ifK] at h
     split at h
     case h_2=>exact h.elim
     rename_i hpl
     obtain ⟨top1,h1,gh⟩:=fF h
     obtain ⟨pv,top',hk,hle,hg,hh⟩:=xG h1
     refine ⟨pv,top',hk,by rw [<- gh.len];exact hle,gh.gen.trans hg,bU.ghost gh fun m a hinv he hfree next Q hnext=>?_⟩
     have hrun:(execOp a.eval o).run C.P m.w = .ok (.enter f (c.args.map a.eval)) m.w:=by
      simp only [execOp,ho,resolve,hcl,Deferred.ofValue,Act.eval,Sem.run_bind,Sem.run_pure,Result.andThen_ok,invoke]
      simpa using gS hC hpl _ _
     unfold Oper.wp
     rw [hrun]
     show Calls C.P f _ m.w _
     refine (hh m (c.args.map a.eval) hinv (by rw [hl];simp) (fun j p v hp hv=>?_) hfree).mono ?_
     . rw [Array.getElem?_map] at hv
       obtain ⟨x,hx,rfl⟩:=aBq.1 hv
       exact hr m a he _ p x hp (by simpa using hx)
     . rintro e w' ⟨v,m',rfl,rfl,hT,hρ,hfr,hi,hr⟩
       exact hnext v m' hT hρ hfr hi hr
   . exact plain (by rw [ho];exact hb)
   . simp only [actK,hcl] at h
     split at h
     case h_2=>exact h.elim
     rename_i x y t t' hx ht
     simp only [ifK] at h
     split at h
     case h_2=>exact h.elim
     rename_i hb
     obtain rfl:=aBj hb
     obtain ⟨p,hp,h⟩:=aT h
     obtain ⟨q,hq,h⟩:=aT h
     obtain ⟨pv,top',h1,h2,h3,h4,_⟩:=mC hC ho hcl (by rw [<- Array.toArray_toList (xs:=c.args),hx]) (by rw [<- Array.toArray_toList (xs:=c.argTypes),ht]) hp hq h
     exact ⟨pv,top',h1,h2,h3,h4⟩
   . simp only [actK,hcl] at h
     split at h
     case h_2=>exact h.elim
     rename_i x y t t' hx ht
     simp only [ifK] at h
     split at h
     case h_2=>exact h.elim
     rename_i hb
     obtain rfl:=aBj hb
     obtain ⟨p,hp,h⟩:=aT h
     obtain ⟨q,hq,h⟩:=aT h
     exact xF hC ho hcl (by rw [<- Array.toArray_toList (xs:=c.args),hx]) (by rw [<- Array.toArray_toList (xs:=c.argTypes),ht]) hp hq h
 | _=>rw [ho] at h;exact plain (by rw [ho];exact h)
structure St (H:List (List Blk)) (m0:M0) (m:M) (a:Act) (tm:List PV) (top:List Blk):Prop where
 inv:Inv m top H
 size:a.tmps.size=tm.length
 rel:∀ (j:Nat) p v,tm[j]? = some p->a.tmps[j]? = some v->RP m p v
 defers:a.defers=m0.ds
 free:∀ j,top.length<=j->m.ρ 0 j=none
 since:Since m0 m top
 tsz:a.tmps.size=m0.tsz
 prot:∀ j,¬ m0.W j->a.tmps[j]? = m0.A j
theorem St.evR {H:List (List Blk)} {m0:M0} {m:M} {a:Act} {tm:List PV} {top:List Blk} (h:St H m0 m a tm top) (xs:List Operand):EvR m a tm xs:=by
 intro t p _ ht
 have hlt:t < a.tmps.size:=by rw [h.size];exact (aAe.1 ht).1
 have:=h.rel t p a.tmps[t] ht (Array.getElem?_eq_getElem hlt)
 simpa [Act.eval,Array.getD,hlt] using this
theorem St.set {H:List (List Blk)} {m0:M0} {m:M} {a:Act} {tm:List PV} {top:List Blk} (h:St H m0 m a tm top) {d:Nat} {p:PV} {v:Value} (hd:m0.W d) (hr:RP m p v):St H m0 m (a.put (some d) v) (tm.set d p) top:=by
 refine ⟨h.inv,by simp [Act.put,h.size],fun j q u hq hu=>?_,h.defers,h.free,h.since,by simp [Act.put,h.tsz],fun j hj=>by
  simp only [Act.put]
  rw [Array.getElem?_setIfInBounds_ne (fun e=>hj (by rw [<- e];exact hd))]
  exact h.prot j hj⟩
 simp only [Act.put] at hu
 by_cases hj:d=j
 . subst hj
   have h1:d < tm.length:=by simpa using (aAe.1 hq).1
   simp [h1] at hq
   simp [h.size,h1] at hu
   subst hq;subst hu;exact hr
 . rw [aAs hj] at hq
   rw [Array.getElem?_setIfInBounds_ne hj] at hu
   exact h.rel j q u hq hu
theorem St.put {H:List (List Blk)} {m0:M0} {m:M} {a:Act} {tm:List PV} {top:List Blk} (h:St H m0 m a tm top) {o:Oper} {p:PV} {v:Value} (hd:∀ d,o.dst=some d->m0.W d) (hr:RP m p v) {K:List PV->Prop} (hk:putDst o tm p K) :
 ∃ tm',K tm'/\St H m0 m (a.put o.dst v) tm' top:=by
 unfold putDst at hk
 cases ho:o.dst with
 | none=>rw [ho] at hk;exact ⟨tm,hk,h⟩
 | some d=>rw [ho] at hk;exact ⟨_,(setK_spec.1 hk).2,h.set (hd d ho) hr⟩
theorem Since.step {m0:M0} {m m':M} {top top':List Blk} (s:Since m0 m top) (os:m'.w.os=m.w.os) (tape:m'.w.tape=m.w.tape) (output:m'.w.output=m.w.output) (size:m.w.heap.size<=m'.w.heap.size)
 (heap:∀ k,k < m.w.heap.size -> ¬ Mine m top k->m'.w.heap[k]? = m.w.heap[k]?) (hup:∀ l i,m'.ρ (l+1) i=m.ρ (l+1) i) (hU:∀ k,k < m.w.heap.size->(m'.U k↔m.U k)) (hn:∀ k,Mine m' top' k->m.w.heap.size<=k\/Mine m top k):Since m0 m' top':=by
 refine ⟨os.trans s.os,tape.trans s.tape,output.trans s.output,aBp s.size size,fun k hk hnm hnv=>?_,fun l i=>(hup l i).trans (s.up l i),fun k hk=>(hU k (aBk hk s.size)).trans (s.U k hk),fun k hk=>?_⟩
 . rw [heap k (aBk hk s.size) (fun hm=>(s.fresh k hm).elim (fun h=>by omega) hnm)]
   exact s.heap k hk hnm hnv
 . rcases hn k hk with h1 | h1
   . exact .inl (aBp s.size h1)
   . exact s.fresh k h1
theorem Since.turn {m0:M0} {m m':M} {top top':List Blk} (s:Since m0 m top) (hg:GenLe top top') (hT:Turn m m' top) (hρ:∀ l j,¬ (l=0/\top.length<=j/\j < top'.length)->m'.ρ l j=m.ρ l j)
 (hfr:∀ k,Mine m' top' k->m.w.heap.size<=k\/Mine m top k):Since m0 m' top':=
 s.step hT.os hT.tape hT.output hT.size hT.heap (fun l i=>hρ (l+1) i (by omega)) hT.U hfr
theorem St.turn {H:List (List Blk)} {m0:M0} {m m':M} {a:Act} {tm:List PV} {top top':List Blk} (h:St H m0 m a tm top) (hg:GenLe top top') (hT:Turn m m' top) (hl:top.length<=top'.length) (hρ:∀ l j,¬ (l=0/\top.length<=j/\j < top'.length)->m'.ρ l j=m.ρ l j)
 (hfr:∀ k,Mine m' top' k->m.w.heap.size<=k\/Mine m top k) (hI:Inv m' top' H):St H m0 m' a tm top':=by
 have hK:=hT.keep h.inv
 refine ⟨hI,h.size,fun j p v hp hv=>(h.rel j p v hp hv).keep hK,h.defers,fun j hj=>?_,h.since.turn hg hT hρ hfr,h.tsz,h.prot⟩
 rw [hρ 0 j (by omega)];exact h.free j (by omega)
structure Quiet (m:M) (top:List Blk) (V:Nat->Prop) (k:Nat) (o:Obj):Prop where
 heap:m.w.heap[k]? = some o
 mine:¬ Mine m top k
 out:¬ V k
 used:m.U k
structure Calm (H:List (List Blk)) (m0:M0) (m:M) (ds:List Deferred) (top:List Blk) (V:Nat->Prop):Prop where
 one:∀ (i j:Nat) Y st Y' st',top[i]? = some (.gen Y st)->top[j]? = some (.gen Y' st')->i=j
 used:∀ k,V k->m.U k
 more:∀ k,m0.V k->V k
 old:∀ k,V k->k < m0.w.heap.size->m0.V k
 mine:∀ k,V k -> ¬ Mine m top k
 gen:∀ (i:Nat) Y st,top[i]? = some (.gen Y st)->H = []/\Y.Stab/\Y.J st V m.w m.U
 z:∀ k o,m0.Z k=some o->Quiet m top V k o
 nd:ds.Nodup
 late:m0.rnd=false -> ∀ d ∈ ds,∀ D,d = { target:=.collected D,args:=#[] }->m0.w.heap.size<=D
 d:∀ d ∈ ds,∃ D,d = { target:=.collected D,args:=#[] }/\Quiet m top V D (.deferred (some []))
 far:∀ l i b v k,getB top H (l+1) i=some b->b.live=true->m.ρ (l+1) i=some v->b.has m.w v k -> ¬ V k
def aV (H:List (List Blk)) (m0:M0) (m:M) (a:Act) (tm:List PV) (top:List Blk):Prop:=
 St H { m0 with ds:=a.defers } m a tm top /\ ∃ V,Calm H m0 m a.defers top V
theorem Calm.step {H:List (List Blk)} {m0:M0} {m m':M} {ds:List Deferred} {top top':List Blk} {V:Nat->Prop} (h:Calm H m0 m ds top V) (hi:Inv m top H) (hi':Inv m' top' H) (hg:GenLe top top')
 (os:m'.w.os=m.w.os) (tape:m'.w.tape=m.w.tape) (output:m'.w.output=m.w.output) (size:m.w.heap.size<=m'.w.heap.size) (heap:∀ k,k < m.w.heap.size -> ¬ Mine m top k->m'.w.heap[k]? = m.w.heap[k]?) (hU:∀ k,k < m.w.heap.size->(m'.U k↔m.U k))
 (hup:∀ l i,m'.ρ (l+1) i=m.ρ (l+1) i) (hn:∀ k,Mine m' top' k->m.w.heap.size<=k\/Mine m top k):Calm H m0 m' ds top' V:=by
 have quiet:∀ k o,Quiet m top V k o->Quiet m' top' V k o:=fun k o q=>by
  have hk:=(aBw.1 q.heap).1
  exact ⟨(heap k hk q.mine).trans q.heap,fun hm=>(hn k hm).elim (fun h=>by omega) q.mine,q.out,(hU k hk).2 q.used⟩
 refine ⟨fun i j Y st Y' st' h1 h2=>h.one i j Y st Y' st' (hg.gen i Y st h1) (hg.gen j Y' st' h2),fun k hk=>(hU k (hi.lt k (h.used k hk))).2 (h.used k hk),h.more,h.old,fun k hk hm=>?_,fun i Y st hb=>?_,fun k o hz=>quiet k o (h.z k o hz),h.nd,h.late,fun d hd=>?_,fun l i b v k h1 h2 h3 h4=>?_⟩
 . have:=hi.lt k (h.used k hk)
   rcases hn k hm with h1 | h1
   . omega
   . exact h.mine k hk h1
 . obtain ⟨h1,h2,h3⟩:=h.gen i Y st (hg.gen i Y st hb)
   refine ⟨h1,h2,h2 st V m.w m.U m'.w m'.U ⟨os,tape,output,size,hU,fun k hk hu=>heap k hk (fun ⟨i,b,v,q1,q2,q3,q4⟩=>hu (hi.own 0 i b v k q1 q2 q3 q4)),fun k hk=>heap k (hi.lt k (h.used k hk)) (h.mine k hk),hi'.lt⟩ h.used hi.lt h3⟩
 . obtain ⟨D,h1,h2⟩:=h.d d hd
   exact ⟨D,h1,quiet _ _ h2⟩
 . rw [hup] at h3
   have h1:getB top H (l+1) i=some b:=h1
   exact h.far l i b v k h1 h2 h3 (hi.back h1 h2 h3 (fun k' hu hk'=>heap k' (hi.lt k' hu) (fun ⟨i',b',v',e1,e2,e3,e4⟩=>by
    have:=hi.inj (l+1) i b 0 i' b' v v' k' h1 h2 e1 e2 h3 e3 hk' e4
    cases this.1)) h4)
theorem aV.turn {H:List (List Blk)} {m0:M0} {m m':M} {a:Act} {tm:List PV} {top top':List Blk} (h:aV H m0 m a tm top) (hg:GenLe top top') (hT:Turn m m' top) (hl:top.length<=top'.length) (hρ:∀ l j,¬ (l=0/\top.length<=j/\j < top'.length)->m'.ρ l j=m.ρ l j)
 (hfr:∀ k,Mine m' top' k->m.w.heap.size<=k\/Mine m top k) (hI:Inv m' top' H):aV H m0 m' a tm top':=by
 obtain ⟨hs,V,hc⟩:=h
 exact ⟨hs.turn hg hT hl hρ hfr hI,V,hc.step hs.inv hI hg hT.os hT.tape hT.output hT.size hT.heap hT.U (fun l i=>hρ (l+1) i (by omega)) hfr⟩
theorem gT (a:Act) (d:Option Tmp) (v:Value):(a.put d v).defers=a.defers:=by cases d <;> rfl
theorem aV.put {H:List (List Blk)} {m0:M0} {m:M} {a:Act} {tm:List PV} {top:List Blk} (h:aV H m0 m a tm top) {o:Oper} {p:PV} {v:Value} (hd:∀ d,o.dst=some d->m0.W d) (hr:RP m p v) {K:List PV->Prop} (hk:putDst o tm p K) :
 ∃ tm',K tm'/\aV H m0 m (a.put o.dst v) tm' top:=by
 obtain ⟨hs,hc⟩:=h
 obtain ⟨tm',h1,h2⟩:=hs.put (m0:={ m0 with ds:=a.defers }) hd hr hk
 refine ⟨tm',h1,?_,?_⟩
 . rw [gT];exact h2
 . rw [gT];exact hc
theorem bU.wp {C:Cx} {H:List (List Blk)} {o:Oper} {tm:List PV} {top:List Blk} {pv:PV} {top':List Blk} (hA:bU C H o tm top pv top') (hg:GenLe top top') (hl:top.length<=top'.length) {m0:M0} {m:M} {a:Act} (hs:St H m0 m a tm top) (hd:∀ d,o.dst=some d->m0.W d) {K:List PV->Prop} (hk:putDst o tm pv K)
 {next:Act->World->Prop} {Q:Exit->Act->World->Prop} (hn:∀ v m' tm',K tm'->St H m0 m' (a.put o.dst v) tm' top'->next (a.put o.dst v) m'.w):o.wp C.P a m.w next Q:=
 hA m a hs.inv (hs.evR _) hs.free next Q fun v m' hT hρ hfr hI hR=>by
  obtain ⟨tm',h1,h2⟩:=(hs.turn hg hT hl hρ hfr hI).put hd hR hk
  exact hn v m' tm' h1 h2
theorem St.yielded {H:List (List Blk)} {m0:M0} {m:M} {a:Act} {tm:List PV} {top:List Blk} (h:St H m0 m a tm top) {ops:List Oper} {j d:Nat} {o':Oper} (ho:ops[j]? = some o') (hd:o'.dst=some d) {b:Bool} {p:PV} (hp:tm[d]? = some p) (hb:bool? p=some b) :
 yielded ops.toArray a.tmps j=some b:=by
 have hlt:d < a.tmps.size:=by rw [h.size];exact (aAe.1 hp).1
 have hv:=Array.getElem?_eq_getElem hlt
 have:=h.rel d p _ hp hv
 generalize a.tmps[d]=v at *
 have hvb:v = .bool b:=by
  cases p with
  | kb x=>simp [bool?] at hb;subst hb;cases this;rfl
  | d x=>
    cases x with
    | bool x=>simp [bool?] at hb;subst hb;cases this with | d _ _ hx=>cases hx;rfl
    | int k n=>simp [bool?] at hb
    | str s=>simp [bool?] at hb
    | sl xs=>simp [bool?] at hb
    | own e sz xs=>simp [bool?] at hb
    | junk=>simp [bool?] at hb
    | val v=>simp [bool?] at hb
  | _=>simp [bool?] at hb
 subst hvb
 simp [Go.yielded,ho,hd,hv]
theorem vZ {H:List (List Blk)} {m0:M0} {m:M} {a:Act} {tm:List PV} {top:List Blk} (h:St H m0 m a tm top) {ops:List Oper} {o:Oper} {K:Bool->List PV->Prop} (hk:wantK ops o tm K) :
 ∃ tm1,K (Region.wanted o (Go.yielded ops.toArray a.tmps)) tm1/\St H m0 m a tm1 top/\tm1.length=tm.length:=by
 unfold wantK at hk
 unfold Region.wanted
 cases hg:o.guard with
 | none=>rw [hg] at hk;exact ⟨tm,hk,h,rfl⟩
 | some jb=>
   obtain ⟨j,b⟩:=jb
   rw [hg] at hk
   obtain ⟨o',ho',hk⟩:=getK_spec.1 hk
   split at hk
   . exact hk.elim
   . rename_i d hd
     obtain ⟨p,hp,hk⟩:=getK_spec.1 hk
     split at hk
     . rename_i x
       refine ⟨tm,?_,h,rfl⟩
       simp only [h.yielded ho' hd hp (b:=x) rfl]
       have:(some x==some b)=(x==b):=by cases x <;> cases b <;> rfl
       rw [this];exact hk
     . have hlt:d < a.tmps.size:=by rw [h.size];exact (aAe.1 hp).1
       have hv:=Array.getElem?_eq_getElem hlt
       have hr:=h.rel d _ _ hp hv
       generalize a.tmps[d]=v at hv hr
       cases hr with
       | tuple _ vs e1 e2=>
         have hy:Go.yielded ops.toArray a.tmps j=none:=by simp [Go.yielded,ho',hd,hv]
         refine ⟨tm,?_,h,rfl⟩
         simp only [hy]
         exact hk
     . rename_i x
       simp only [h.yielded ho' hd hp (b:=x) rfl]
       have same:St H m0 m a (tm.set d (.kb x)) top:=by
        refine ⟨h.inv,by simp [h.size],fun j q u hq hu=>?_,h.defers,h.free,h.since,h.tsz,h.prot⟩
        by_cases hj:d=j
        . subst hj
          have h1:d < tm.length:=(aAe.1 hp).1
          simp [h1] at hq
          subst hq
          have:=h.rel d _ u hp hu
          cases this with | d _ _ hx=>cases hx;exact .kb _
        . rw [aAs hj] at hq
          exact h.rel j q u hq hu
       by_cases hxb:x=b
       . subst hxb
         have:=(setK_spec.1 (hk.1 rfl)).2
         exact ⟨_,by simpa using this,same,by simp⟩
       . have hx:x = !b:=by cases x <;> cases b <;> first | rfl | exact absurd rfl hxb
         subst hx
         have:=(setK_spec.1 (hk.2 rfl)).2
         have e:(some (!b)==some b)=false:=by cases b <;> rfl
         rw [e]
         exact ⟨_,this,same,by simp⟩
     . exact hk.elim
theorem aV.want {H:List (List Blk)} {m0:M0} {m:M} {a:Act} {tm:List PV} {top:List Blk} (h:aV H m0 m a tm top) {ops:List Oper} {o:Oper} {K:Bool->List PV->Prop} (hk:wantK ops o tm K) :
 ∃ tm1,K (Region.wanted o (Go.yielded ops.toArray a.tmps)) tm1/\aV H m0 m a tm1 top/\tm1.length=tm.length:=by
 obtain ⟨hs,hc⟩:=h
 obtain ⟨tm1,h1,h2,h3⟩:=vZ hs hk
 exact ⟨tm1,h1,⟨h2,hc⟩,h3⟩
def FW (r:Option Nat):Fence:={ Fence.wide with round:=r }
theorem rows_in {r:Option Nat} {P:Program} {row:String} {args:Array Value} {w:World} {R:Value->World->Prop} (h:Rows P row args w R):RowsIn (FW r) 0 P row args w R:=fun c cs _=>by
 obtain ⟨v,w',h1,h2⟩:=h c cs
 exact ⟨v,w',h1,stepsIn_wide.2 h2⟩
theorem rZ {r:Option Nat} {P:Program} {f:FuncId} {args:Array Value} {w:World} {R:Ending->World->Prop} (h:Calls P f args w R):CallsIn (FW r) 0 P f args w R:=callsIn_wide.2 h
theorem upon_in {r:Option Nat} {P:Program} {o:Oper} {a:Act} {next:Act->World->Prop} {Q:Exit->Act->World->Prop} {x:Result Next} (h:o.upon P a next Q x):o.uponIn (FW r) 0 P a next Q x:=by
 cases x with
 | ok v w'=>
   cases v <;> simp only [Oper.upon,Oper.uponIn] at h ⊢ <;> first
    | exact h
    | exact ⟨fun h=>(by cases h),rZ h⟩
    | exact ⟨fun h=>(by cases h),rows_in h⟩
    | exact h.elim
 | halt e w'=>cases e <;> simp only [Oper.upon,Oper.uponIn] at h ⊢ <;> first | exact h | exact h.elim
theorem mZ {r:Option Nat} {P:Program} {o:Oper} {a:Act} {w:World} {next:Act->World->Prop} {Q:Exit->Act->World->Prop} (hd:isDefer o.op=false) (h:o.wp P a w next Q):o.wpIn (FW r) 0 P a w next Q:=by
 refine ⟨fun _ _=>trivial,?_⟩
 rw [Oper.semAt_eq _ _ _ (fun c hc=>by rw [hc] at hd;cases hd)]
 exact upon_in h
theorem wA {C:Cx} {H:List (List Blk)} {op:Op} {tm:List PV} {top:List Blk} {K:PV->List Blk->Prop} (h:actK C H op tm top K):isDefer op=false:=by
 cases op <;> first | rfl | exact h.elim
theorem wB {p:PV} {K:YV->Prop} (h:yvOne p K):∃ y,K y /\ ∀ m v,RP m p v->RY m.w m.ok y v:=by
 have one:∀ p,dvK p (fun x=>K (.one x)) -> ∃ y,K y /\ ∀ m v,RP m p v->RY m.w m.ok y v:=fun p h=>by
  unfold dvK at h
  split at h
  . exact ⟨_,h,fun m v hv=>by cases hv with | d _ _ hx=>exact .one _ _ hx⟩
  . exact ⟨_,h,fun m v hv=>by cases hv;exact .one _ _ (.bool _)⟩
  . exact ⟨_,h,fun m v hv=>by cases hv;exact .one _ _ (.sl 0 [] none 0 0 default (fun _=>undef) rfl (aBo _) (by omega) (by omega) (by simp) (fun i x j y hx=>by simp at hx) (fun i x j y hx=>by simp at hx))⟩
  . exact ⟨_,h,fun m v hv=>by cases hv with | emp ad=>exact .one _ _ (.sl 0 [] (some ad) 0 0 default (fun _=>undef) rfl (aBo _) (by omega) (by omega) (by simp) (fun i x j y hx=>by simp at hx) (fun i x j y hx=>by simp at hx))⟩
  . exact h.elim
 unfold yvOne at h
 split at h
 . obtain ⟨ds,h,hdl,hds⟩:=dR h
   refine ⟨_,h,fun m v hv=>?_⟩
   cases hv with
   | agg cs vs e r=>
     refine .agg _ _ (hdl.trans e) (fun j x u hx hu=>?_)
     refine (show u=(fun j=>(vs[j]?).getD undef) j from by simp [hu]) ▸ hds m (fun j=>(vs[j]?).getD undef) (fun j q hq=>?_) j x hx
     have hjl:j < vs.size:=by rw [<- e];exact (aAe.1 hq).1
     rw [Array.getElem?_eq_getElem hjl]
     exact r j q _ hq (Array.getElem?_eq_getElem hjl)
 . exact one _ h
theorem qS:∀ (ps:List PV) (K:List YV->Prop),yvsK ps K -> ∃ ys,K ys/\ys.length=ps.length /\ ∀ m (j:Nat) y v,ys[j]? = some y->(∀ p,ps[j]? = some p->RP m p v)->RY m.w m.ok y v
 | [],K,h=>⟨[],h,rfl,fun m j y v hy=>by simp at hy⟩
 | p::ps,K,h=>by
   rw [yvsK_cons] at h
   obtain ⟨y,h,h1⟩:=wB h
   obtain ⟨ys,h,h2,h3⟩:=qS ps _ h
   refine ⟨_,h,by simp [h2],fun m j y' v hy hv=>?_⟩
   cases j with
   | zero=>simp at hy;subst hy;exact h1 m v (hv p rfl)
   | succ j=>exact h3 m j y' v (by simpa using hy) (fun p0 h0=>hv p0 h0)
theorem mD:∀ (top:List Blk) (n:Nat) (K:Nat->Yield->Option Nat->Prop),genK top n K -> ∃ i Y st,K (n+i) Y st/\top[i]? = some (.gen Y st)
 | [],n,K,h=>h.elim
 | b::top,n,K,h=>by
   rw [genK_cons] at h
   split at h
   . exact ⟨0,_,_,h,rfl⟩
   . obtain ⟨i,Y,st,h1,h2⟩:=mD top (n+1) K h
     exact ⟨i+1,Y,st,by rw [show n+(i+1)=n+1+i by omega];exact h1,by simpa using h2⟩
theorem aV.yield {m0:M0} {m:M} {a:Act} {tm:List PV} {top:List Blk} {H:List (List Blk)} (h:aV H m0 m a tm top) {i:Nat} {Y:Yield} {st st':Option Nat} (hb:top[i]? = some (.gen Y st)) {V:Nat->Prop} (hV:Calm H m0 m a.defers top V) {w':World} {U' V':Nat->Prop}
 (hs:YStep m.w m.U V w' U' V') (hJ:Y.J st' V' w' U'):aV H m0 ⟨w',m.ρ,U'⟩ a tm (top.set i (.gen Y st'))/\Keep m ⟨w',m.ρ,U'⟩:=by
 obtain ⟨s,_⟩:=h
 obtain ⟨hH,hst,_⟩:=hV.gen i Y st hb
 subst hH
 have hlt:i < top.length:=(aAe.1 hb).1
 have hK:Keep m ⟨w',m.ρ,U'⟩:=⟨fun _ _ _ h=>h,hs.size,fun k hk=>⟨fun hu=>hk.2 ((hs.iff k hk.1).1 hu),hs.heap k hk.1 (fun hv=>hk.2 (hV.used k hv))⟩⟩
 have get:∀ l j b,getB (top.set i (.gen Y st')) [] l j=some b->b.live=true->getB top [] l j=some b:=fun l j b hb' hlive=>by
  cases l with
  | succ l=>simp [getB] at hb'
  | zero=>
    simp only [getB] at hb' ⊢
    by_cases hij:i=j
    . subst hij;simp [hlt] at hb';subst hb';cases hlive
    . rwa [aAs hij] at hb'
 have named:∀ k,Mine m top k -> ¬ V k:=fun k hn hv=>hV.mine k hv hn
 have back:∀ l j b v,getB top [] l j=some b->b.live=true->m.ρ l j=some v -> ∀ k,b.has w' v k->b.has m.w v k:=fun l j b v h1 h2 h3 k hk=>by
  cases l with
  | succ l=>simp [getB] at h1
  | zero=>exact s.inv.back h1 h2 h3 (fun k hu hk=>hs.heap k (s.inv.lt k hu) (named k ⟨j,b,v,h1,h2,h3,hk⟩)) hk
 have mineLe:∀ (U':Nat->Prop) k,Mine ⟨w',m.ρ,U'⟩ (top.set i (.gen Y st')) k->Mine m top k:=by
  rintro U' k ⟨j,b,v,h1,h2,h3,h4⟩
  exact ⟨j,b,v,get 0 j b h1 h2,h2,h3,back 0 j b v (get 0 j b h1 h2) h2 h3 k h4⟩
 have hviews:Views ⟨w',m.ρ,U'⟩ (top.set i (.gen Y st')):=s.inv.sub.of (fun j p e c v h1 h2=>by
  by_cases hij:i=j
  . subst hij;rw [aAr hlt] at h1;cases h1
  . rw [aAs hij] at h1;exact ⟨h1,h2⟩) (fun p V h=>h) (fun p et sz xs V h1 h2=>by
  have h3:=get 0 p _ h1 rfl
  exact ⟨h3,fun k hk=>hs.heap k (s.inv.lt k (s.inv.own 0 p _ V k h3 rfl h2 (Blk.has_head hk))) (named k ⟨p,_,V,h3,rfl,h2,Blk.has_head hk⟩)⟩)
 have hinv:Inv ⟨w',m.ρ,U'⟩ (top.set i (.gen Y st')) []:=by
  refine ⟨fun l j b hb'=>?_,fun l j b l' j' b' v v' k h1 h2 h3 h4 h5 h6 h7 h8=>s.inv.inj l j b l' j' b' v v' k (get l j b h1 h2) h2 (get l' j' b' h3 h4) h4 h5 h6 (back l j b v (get l j b h1 h2) h2 h5 k h7) (back l' j' b' v' (get l' j' b' h3 h4) h4 h6 k h8),fun l j b v k h1 h2 h3 h4=>?_,hs.lt,hviews⟩
  . cases hlv:b.live with
    | false=>cases b <;> simp [Blk.live] at hlv <;> exact True.intro
    | true=>
      have h0:=get l j b hb' hlv
      refine (s.inv.blk l j b h0).keep hK rfl (fun v k _ hv hk=>?_)
      have hlk:=s.inv.lt k (s.inv.own l j b v k h0 hlv hv hk)
      cases l with
      | succ l=>simp [getB] at h0
      | zero=>exact hs.heap k hlk (named k ⟨j,b,v,h0,hlv,hv,hk⟩)
  . have h0:=get l j b h1 h2
    have hu:=s.inv.own l j b v k h0 h2 h3 (back l j b v h0 h2 h3 k h4)
    exact (hs.iff k (s.inv.lt k hu)).2 hu
 have hset:(top.set i (.gen Y st')).length=top.length:=by simp
 have sub:∀ j Y2 st2,(top.set i (.gen Y st'))[j]? = some (.gen Y2 st2)->(j=i/\Y2=Y/\st2=st'):=fun j Y2 st2 hj=>by
  by_cases hij:i=j
  . subst hij;simp [hlt] at hj;exact ⟨rfl,hj.1.symm,hj.2.symm⟩
  . rw [aAs hij] at hj
    exact absurd (hV.one i j _ _ _ _ hb hj) hij
 have notV:∀ k,k < m.w.heap.size -> ¬ V k -> ¬ V' k:=fun k hk hv hv'=>(hs.fresh k hv').elim hv (fun h=>by omega)
 have quiet:∀ k o,Quiet m top V k o->Quiet ⟨w',m.ρ,U'⟩ (top.set i (.gen Y st')) V' k o:=fun k o q=>by
  have hk:=(aBw.1 q.heap).1
  exact ⟨(hs.heap k hk q.out).trans q.heap,fun h=>q.mine (mineLe _ k h),notV k hk q.out,(hs.iff k hk).2 q.used⟩
 refine ⟨⟨⟨hinv,s.size,fun j p v hp hv=>(s.rel j p v hp hv).keep hK,s.defers,fun j hj=>s.free j (by rwa [hset] at hj),?_,s.tsz,s.prot⟩,V',?_⟩,hK⟩
 . have t:=s.since
   refine ⟨hs.os.trans t.os,hs.tape.trans t.tape,hs.output.trans t.output,aBp t.size hs.size,fun k hk hnm hnv=>(hs.heap k (aBk hk t.size) (fun hv=>hnv (hV.old k hv hk))).trans (t.heap k hk hnm hnv),t.up,fun k hk=>(hs.iff k (aBk hk t.size)).trans (t.U k hk),fun k hk=>t.fresh k (mineLe _ k hk)⟩
 . refine ⟨fun x y Y1 st1 Y2 st2 h1 h2=>by rw [(sub x Y1 st1 h1).1,(sub y Y2 st2 h2).1],hs.used,fun k hk=>hs.more k (hV.more k hk),fun k hk hlt'=>?_,fun k hk hn=>?_,fun x Y2 st2 h1=>?_,fun k o hz=>quiet k o (hV.z k o hz),hV.nd,hV.late,fun d hd=>?_,fun l i b v k h1=>by simp [getB] at h1⟩
   . rcases hs.fresh k hk with h1 | h1
     . exact hV.old k h1 hlt'
     . have:=s.since.size;exact absurd hlt' (by show ¬ k < m0.w.heap.size;have:m0.w.heap.size<=m.w.heap.size:=this;omega)
   . have hm:=mineLe _ k hn
     rcases hs.fresh k hk with h1 | h1
     . exact hV.mine k h1 hm
     . obtain ⟨j,b,v,h2,h3,h4,h5⟩:=hm
       have:=s.inv.lt k (s.inv.own 0 j b v k h2 h3 h4 h5)
       omega
   . obtain ⟨rfl,rfl,rfl⟩:=sub x Y2 st2 h1
     exact ⟨rfl,hst,hJ⟩
   . obtain ⟨D,h1,h2⟩:=hV.d d hd
     exact ⟨D,h1,quiet _ _ h2⟩
theorem wC {C:Cx} {H:List (List Blk)} {op:Op} {tm:List PV} {top:List Blk} {K:PV->List Blk->Prop} (h:actY C H op tm top K):isDefer op=false:=by
 cases op <;> first | rfl | exact wA (show actK C H _ tm top K from h)
theorem actY_wp {C:Cx} (hC:C.Ok) {r:Option Nat} {H:List (List Blk)} {o:Oper} {tm:List PV} {top:List Blk} {K:PV->List Blk->Prop} (h:actY C H o.op tm top K) {m0:M0} {m:M} {a:Act} (hs:aV H m0 m a tm top)
 {next:Act->World->Prop} {Q:Exit->Act->World->Prop} (hn:∀ pv top' v m',K pv top'->RP m' pv v->aV H m0 m' a tm top'->m.w.heap.size<=m'.w.heap.size->(∀ k,k < m.w.heap.size->(m'.U k↔m.U k))->next (a.put o.dst v) m'.w):o.wpIn (FW r) 0 C.P a m.w next Q:=by
 have hdef:=wC h
 have plain:actK C H o.op tm top K->o.wpIn (FW r) 0 C.P a m.w next Q:=fun h=>by
  obtain ⟨pv,top',hk,hl,hg,hA⟩:=qR hC h
  exact mZ hdef (hA m a hs.1.inv (hs.1.evR _) hs.1.free next Q fun v m' hT hρ hfr hI hR=>hn pv top' v m' hk hR (hs.turn hg hT hl hρ hfr hI) hT.size hT.U)
 cases ho:o.op with
 | call c=>
   rw [ho] at h plain
   unfold actY at h
   dsimp only at h
   cases hcl:c.callee with
   | builtin b=>rw [hcl] at h;exact plain h
   | invoke x n=>rw [hcl] at h;exact plain h
   | value f=>
     rw [hcl] at h
     cases f with
     | const v=>exact plain h
     | global g=>exact plain h
     | func g=>exact plain h
     | tmp t=>
       dsimp only at h
       obtain ⟨p,hp,h⟩:=getK_spec.1 h
       split at h
       case h_2=>exact plain h
       rename_i Y0
       obtain ⟨ps,h,hl,hr⟩:=gJ (ys:=o.op.operands.toList) h (fun x hx=>by rw [ho];simp only [Op.operands,Call.operands,hcl,Array.toList_append];exact List.mem_append_right _ hx)
       unfold yieldK at h
       obtain ⟨ys,h,hyl,hyr⟩:=qS ps _ h
       obtain ⟨i,Y,st,h,hb⟩:=mD top 0 _ h
       rw [Nat.zero_add] at h
       split at h
       case h_2=>exact h.elim
       rename_i k
       obtain ⟨rfl,hP,hx,ht,hf⟩:=h
       obtain ⟨hlt,ht⟩:=setK_spec.1 ht
       have hf:=(setK_spec.1 hf).2
       obtain ⟨hS,V,hV⟩:=hs
       obtain ⟨hH,hst,hJ⟩:=hV.gen i _ _ hb
       have htl:t < a.tmps.size:=by rw [hS.size];exact (aAe.1 hp).1
       have hv:=hS.rel t _ _ hp (Array.getElem?_eq_getElem htl)
       have hev:a.eval (.tmp t)=a.tmps[t]:=by simp [Act.eval,Array.getD,htl]
       generalize a.tmps[t]=v at hv hev
       cases hv with
       | yld _ _ hok=>
         obtain ⟨_,L,rfl,hround⟩:=hok
         obtain ⟨fn,tmps,assign,body,hyld,hR⟩:=hround k ys V m.U m.w (c.args.map a.eval) hx hJ hV.used hS.inv.lt (by rw [hyl,hl];simp) (fun j y u hy hu=>by
          refine hyr m j y u hy (fun p hp=>?_)
          rw [Array.getElem?_map] at hu
          obtain ⟨x,hx,rfl⟩:=aBq.1 hu
          exact hr m a (hS.evR _) _ p x hp (by simpa using hx))
         rw [hP] at hyld hR
         refine ⟨fun _ _=>trivial,?_⟩
         rw [Oper.semAt_eq _ _ _ (fun c' hc'=>by rw [ho] at hc';cases hc')]
         have hrun:(execOp a.eval o).run C.P m.w = .ok (.round L fn tmps assign body) m.w:=by
          simp only [execOp,ho,resolve,hcl,hev,Deferred.ofValue,Sem.run_bind,Sem.run_pure,Result.andThen_ok,invoke,Array.empty_append]
          exact hyld
         rw [hrun]
         refine ⟨fun h=>(by cases h),RoundIn.mono (show RoundIn (FW r) 0 C.P L fn tmps assign body m.w _ from hR) ?_⟩
         rintro e w' ⟨b,U',V',rfl,hs,hJ'⟩
         cases b with
         | true=>
           obtain ⟨hF,_⟩:=aV.yield (st':=some (k+1)) ⟨hS,V,hV⟩ hb hV hs hJ'
           exact hn (.kb true) _ (.bool true) ⟨w',m.ρ,U'⟩ ht (.kb true) hF hs.size hs.iff
         | false=>
           obtain ⟨hF,_⟩:=aV.yield (st':=none) ⟨hS,V,hV⟩ hb hV hs hJ'
           exact hn (.kb false) _ (.bool false) ⟨w',m.ρ,U'⟩ hf (.kb false) hF hs.size hs.iff
 | _=>rw [ho] at h plain;exact plain h
end Go.Proofs.Ve
