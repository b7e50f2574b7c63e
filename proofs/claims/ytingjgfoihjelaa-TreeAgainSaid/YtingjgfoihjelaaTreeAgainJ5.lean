/- TreeAgain, part 5 of 7. The engine and the contracts that the proof needs. -/
import Derived.Shelf.Spec.SlicesInsertGrow
import Derived.Shelf.SlGeneric
import Derived.Test.YtingjgfoihjelaaTreeAgainJ1
import Derived.Test.YtingjgfoihjelaaTreeAgainJ2
import Derived.Test.YtingjgfoihjelaaTreeAgainJ3
import Derived.Test.YtingjgfoihjelaaTreeAgainJ4
set_option maxRecDepth 100000
set_option maxHeartbeats 20000000
set_option linter.all false
open List renaming getElem?_eq_some_iff -> aAe, getElem?_eq_getElem -> aAf, mem_of_getElem? -> aAg, length_map -> aAh, getElem?_map -> aAi, getElem?_append_right -> aAj, getElem?_append_left -> aAk, length_take -> aAl, length_append -> aAm, length_cons -> aAn, length_nil -> aAo, length_set -> aAp, length_drop -> aAq, getElem?_set_self -> aAr, getElem?_set_ne -> aAs, take_of_length_le -> aAt, mem_cons_self -> aAu, mem_cons_of_mem -> aAv, take_length -> aAw, map_map -> aAx, mem_singleton -> aAy, drop_eq_nil_of_le -> aAz, getElem?_take -> aA0, getElem?_drop -> aA1, getD_eq_getElem?_getD -> aA2, pairwise_cons -> aA3, pairwise_append -> aA4, mem_append -> aA5, mem_of_mem_take -> aA6, mem_of_mem_drop -> aA7, mem_flatMap -> aA8, getElem?_cons_zero -> aA9, getElem?_cons_succ -> aBa, append_assoc -> aBb, mem_map -> aBc, all_eq_true -> aBd, mem_range -> aBe, getElem_mem -> aBf, drop_eq_getElem_cons -> aBg, length_replicate -> aBh, getElem?_toArray -> aBx, mem_iff_getElem? -> aB4
open Int renaming toNat_natCast -> aBi
open Nat renaming eq_of_beq_eq_true -> aBj, lt_of_lt_of_le -> aBk, lt_or_ge -> aBl, lt_succ_self -> aBm, zero_le -> aBn, le_refl -> aBo, le_trans -> aBp, le_succ -> aBu, sub_self -> aB2, add_sub_cancel -> aB3
open Option renaming map_eq_some_iff -> aBq, map_some -> aBz, getD_some -> aB0
open Option.some renaming inj -> aBr
open Bool renaming and_eq_true -> aBs, false_ne_true -> aBt, or_eq_true -> aB1
open Array renaming getElem?_toList -> aBv, getElem?_eq_some_iff -> aBw, length_toList -> aBy
namespace Go.Proofs.Ve
open Go
def fN (d:Nat) (n:Node) (k:List UInt8) (l:List Ver):Bool:=aX d n&&(decide ((k.length:Int)<=16)&&(!((l.length:Int)==0)&&vsOk l))
def bB (flat:List Value) (sz n:Nat):List (List DV):=(List.range n).map fun i=>(List.range sz).map fun j=>DV.val (flat.getD (i*sz+j) undef)
theorem cU (flat:List Value) (sz n:Nat):(bB flat sz n).length=n:=by unfold bB;simp
theorem bO (flat:List Value) (sz n:Nat):∀ x ∈ bB flat sz n,x.length=sz:=fun x hx=>by
 unfold bB at hx
 simp only [aBc] at hx
 obtain ⟨i,_,rfl⟩:=hx
 simp
theorem cM {flat:List Value} {sz n i:Nat} {x:List DV} {j:Nat} {y:DV} (hx:(bB flat sz n)[i]? = some x) (hy:x[j]? = some y):i < n/\j < sz/\y = .val (flat.getD (i*sz+j) undef):=by
 unfold bB at hx
 rw [aAi] at hx
 obtain ⟨i',hi',rfl⟩:=aBq.1 hx
 obtain ⟨h1,h2⟩:=aAe.1 hi'
 simp at h1 h2
 subst h2
 rw [aAi] at hy
 obtain ⟨j',hj',rfl⟩:=aBq.1 hy
 obtain ⟨h3,h4⟩:=aAe.1 hj'
 simp at h3 h4
 subst h4
 exact ⟨h1,h3,rfl⟩
theorem xZ {C:Cx} {H:List (List Blk)} {f e sz k:Nat} {xs Z J:List (List DV)} {rest:List PV} {σ:Nat->Nat} (he:Nat.ble 64 sz=false) (hsz:Nat.beq sz 0=false)
 (hσ:∀ i,i < k->σ i < xs.length) (hinj:∀ i j,i < k->j < k->σ i=σ j->i=j) (hZ:Z.length=k /\ ∀ i,i < k->Z[i]? = xs[σ i]?)
 (hJ:J.length=xs.length /\ ∀ (a:Nat) y,J[a]? = some y->(y=List.replicate sz .junk)\/((∀ i,i < k->σ i≠a)/\xs[a]? = some y)) (hrest:∀ p ∈ rest,∃ z,p = .d (.int .i64 z))
 (hcall:∀ (vals:List (List DV)),vals.length=xs.length->(∀ x ∈ vals,x.length=sz) -> ∃ Zv:List (List DV),Zv.length=k/\(∀ i,i < k->Zv[i]? = vals[σ i]?)/\aD C H f (.d (.sl vals)::rest) (.row 0 0 k) [⟨e,sz,Zv⟩]) :
 aE C H f [⟨e,sz+64,xs⟩] (.row 0 0 xs.length::rest) [some ⟨e,sz+64,J⟩] (.row 0 0 k) [⟨e,sz+64,Z⟩]:=by
 generalize hE:sz+64=E
 have hb:∀ ys,RowB.blk ⟨e,E,ys⟩ = .deep e sz ys:=fun ys=>jM hE.symm hsz
 have h0':0 < sz:=by
  rcases Nat.eq_zero_or_pos sz with h | h
  . subst h;cases hsz
  . exact h
 unfold aE
 simp only [List.map_cons,List.map_nil,gblk,hb]
 refine ⟨rfl,fun m vs hinv hfree hlen hargs=>?_⟩
 have hvs:0 < vs.size:=by rw [<- hlen];simp
 have a0:=hargs 0 _ vs[0] rfl (Array.getElem?_eq_getElem hvs)
 generalize hv0:vs[0]=v0 at a0
 cases a0 with
 | row _ _ _ Nn c A hρ hn hc=>
 have hro:RO m.w m.ok (.own e sz xs) (.slice A Nn c):=hinv.blk 0 0 _ rfl _ hρ
 obtain ⟨flat,h0,hs,ho,hr,hd,sp⟩:=hro.parts
 have hNn:=(owns_hdr ho).1
 subst hNn
 generalize hV:Value.slice A xs.length c=V at *
 have hfl:flat.length=xs.length*sz:=ho.1
 have hlive:Blk.live (.deep e sz xs)=true:=rfl
 have inU:∀ k',Ins m.w (.own e sz xs) V k'->m.U k':=fun k' hk=>hinv.own 0 0 _ V k' rfl rfl hρ hk
 have mineD:∀ k',Ins m.w (.own e sz xs) V k'->Mine m [.deep e sz xs] k':=fun k' hk=>⟨0,_,V,rfl,rfl,hρ,hk⟩
 have headU:∀ k',blkOf V=some k'->m.U k':=fun k' hk=>inU k' (.head _ _ _ _ _ hk)
 let mh:M:=⟨m.w,fun l i=>match l with | 0=>none | l+1=>m.ρ (l+1) i,fun k'=>m.U k'/\blkOf V≠some k'⟩
 have okh:∀ k',m.ok k'->mh.ok k':=fun k' hk=>⟨hk.1,fun hu=>hk.2 hu.1⟩
 have hinvh:Inv mh [] H:=by
  refine ⟨fun l i b hb=>?_,fun l i b l' i' b' v v' k' h1 h2 h3 h4 h5 h6 h7 h8=>?_,fun l i b v k' h1 h2 h3 h4=>?_,fun k' hk=>hinv.lt k' hk.1,Views.none fun i p e c h=>by simp at h⟩
  . cases l with
    | zero=>simp [getB] at hb
    | succ l=>
      have hbo:=hinv.blk (l+1) i b hb
      cases b with
      | dead=>trivial
      | gen Y st=>trivial
      | sub _ _ _=>trivial
      | row e sz xs=>
        intro u hu
        obtain ⟨a1,a2,flat,a3,a4⟩:=hbo u hu
        exact ⟨a1,a2,flat,a3,fun i x j y u hx hy hu=>(a4 i x j y u hx hy hu).mono fun k hk=>⟨okh k hk,rfl⟩⟩
      | deep e sz xs=>exact fun u hu=>RO.mono (fun k hk=>⟨okh k hk,rfl⟩) (hbo u hu) (fun _ _=>rfl)
      | box cs=>
        intro u hu
        obtain ⟨g,us,e,q1,q2,q3,q4⟩:=hbo u hu
        refine ⟨g,us,e,q1,q2,q3,fun j p x hp hx=>?_⟩
        have K:Keep (m.up (l+1)) (mh.up (l+1)):=⟨fun a i' u' hu'=>hu',aBo _,fun k hk=>⟨fun hu=>hk.2 hu.1,rfl⟩⟩
        exact (q4 j p x hp hx).keep K
  . cases l with
    | zero=>simp [getB] at h1
    | succ l=>
      cases l' with
      | zero=>simp [getB] at h3
      | succ l'=>exact hinv.inj (l+1) i b (l'+1) i' b' v v' k' h1 h2 h3 h4 h5 h6 h7 h8
  . cases l with
    | zero=>simp [getB] at h1
    | succ l=>
      refine ⟨hinv.own (l+1) i b v k' h1 h2 h3 h4,fun hk=>?_⟩
      have:=hinv.inj (l+1) i b 0 0 _ v V k' h1 h2 rfl rfl h3 hρ h4 (.head _ _ _ _ _ hk)
      cases this.1
 have hvl:=cU flat sz xs.length
 obtain ⟨Zv,hZv,hZv2,hcall⟩:=hcall (bB flat sz xs.length) hvl (bO flat sz xs.length)
 unfold aD at hcall
 have hone:∀ (q:Nat) u,flat[q]? = some u->u.oneCell'=true:=fun q u hu=>by
  have hq:q < xs.length*sz:=by rw [<- hfl];exact (aAe.1 hu).1
  have hi:q / sz < xs.length:=Nat.div_lt_of_lt_mul (by rw [Nat.mul_comm];exact hq)
  obtain ⟨x,hx⟩:∃ x,xs[q / sz]? = some x:=⟨_,aAf hi⟩
  have hj:q % sz < x.length:=by rw [hs x (aAg hx)];exact Nat.mod_lt _ h0
  exact (hr (q / sz) x (q % sz) _ u hx (aAf hj) (by rw [Nat.mul_comm,Nat.div_add_mod];exact hu)).one
 have hRD:RD mh.w mh.ok (.sl (bB flat sz xs.length)) V:=by
  refine rd_owns (e:=e) (sz:=sz) (flat:=flat) (bO _ _ _) (by rw [hvl];exact ho) (fun k' hk=>⟨hinv.lt k' (headU k' hk),fun hu=>hu.2 hk⟩) (fun i x j y u hx hy hu=>?_)
  obtain ⟨h1,h2,rfl⟩:=cM hx hy
  rw [aA2,hu]
  exact .val u (hone _ u hu)
 refine (hcall mh vs hinvh (fun _=>rfl) (by simpa using hlen) (fun j p v hp hv=>?_)).mono ?_
 . cases j with
   | zero=>
     simp at hp
     subst hp
     rw [Array.getElem?_eq_getElem hvs,hv0] at hv
     cases hv
     exact .d _ _ hRD
   | succ j=>
     have hp':rest[j]? = some p:=by simpa using hp
     obtain ⟨z,rfl⟩:=hrest p (aAg hp')
     have:=hargs (j+1) _ v (by simpa using hp) hv
     cases this with
     | d _ _ h=>cases h;exact .d _ _ (.int _ _)
 . rintro ex w' ⟨v,m',rfl,rfl,hG,hup,hfr,hI,hR⟩
   have hbv : [(⟨e,sz,Zv⟩:RowB)].map RowB.blk = [.row e sz Zv]:=by simp only [List.map_cons,List.map_nil];rw [eD he hsz]
   rw [hbv] at hfr hI
   cases hR with
   | row _ _ _ N1 c1 A1 hρ1 hn1 hc1=>
   obtain ⟨_,hsv,flat1,ho1,hr1⟩:=hI.blk 0 0 _ rfl _ hρ1
   have hN1:=(owns_hdr ho1).1
   generalize hV1:Value.slice A1 N1 c1=V1 at *
   have hcells:∀ (i j:Nat) u,i < k->j < sz->flat1[i*sz+j]? = some u->flat[σ i*sz+j]? = some u:=fun i j u hi hj hu=>by
    have hσi:=hσ i hi
    obtain ⟨x,hx⟩:∃ x,(bB flat sz xs.length)[σ i]? = some x:=⟨_,aAf (by rw [hvl];exact hσi)⟩
    have hxl:=bO flat sz xs.length x (aAg hx)
    obtain ⟨y,hy⟩:∃ y,x[j]? = some y:=⟨_,aAf (by omega)⟩
    obtain ⟨_,_,rfl⟩:=cM hx hy
    have hrd:=hr1 i x j _ u (by rw [hZv2 i hi];exact hx) hy hu
    have hlt:σ i*sz+j < flat.length:=by
     rw [hfl]
     have:σ i*sz+sz<=xs.length*sz:=by rw [<- Nat.succ_mul];exact Nat.mul_le_mul_right _ hσi
     omega
    rw [aA2,aAf hlt,aB0] at hrd
    rw [aAf hlt]
    generalize flat[σ i*sz+j]=q at hrd
    cases hrd;rfl
   have hsize:m.w.heap.size<=m'.w.heap.size:=hG.size
   have hheap:∀ k',k' < m.w.heap.size->m'.w.heap[k']? = m.w.heap[k']?:=hG.heap
   have hnew1:∀ k',blkOf V1=some k'->m.w.heap.size<=k':=fun k' hk=>hfr 0 _ V1 k' rfl hρ1 hk
   let m2:M:=⟨m'.w,fun l i=>match l with | 0=>(match i with | 0=>some V1 | 1=>some V | _+2=>none) | l+1=>m.ρ (l+1) i,fun k'=>m'.U k'\/blkOf V=some k'⟩
   let m3:M:=⟨m'.w,m.ρ,m2.U⟩
   have hU:∀ k',k' < m.w.heap.size->(m2.U k'↔m.U k'):=fun k' hk=>by
    have:=hG.U k' hk
    constructor
    . rintro (h | h)
      . exact (this.1 h).1
      . exact headU k' h
    . intro h
      by_cases hh:blkOf V=some k'
      . exact .inr hh
      . exact .inl (this.2 ⟨h,hh⟩)
   have hK3:Keep m m3:=⟨fun _ _ _ h=>h,hsize,fun k' hk=>⟨fun hu=>hk.2 ((hU k' hk.1).1 hu),hheap k' hk.1⟩⟩
   have hok2:∀ k',m.ok k'->m2.ok k'/\m2.w.heap[k']? = m.w.heap[k']?:=fun k' hk=>⟨⟨aBk hk.1 hsize,fun hu=>hk.2 ((hU k' hk.1).1 hu)⟩,hheap k' hk.1⟩
   have hins:∀ (i:Nat) x (j:Nat) y u,xs[i]? = some x->x[j]? = some y->flat[i*sz+j]? = some u -> ∀ k',Ins m.w y u k'->Ins m.w (.own e sz xs) V k':=fun i x j y u hx hy hu k' hk=>.cell _ _ _ _ _ flat i x j y u ho hx hy hu hk
   have hsame:∀ (i:Nat) x (j:Nat) y u,xs[i]? = some x->x[j]? = some y->flat[i*sz+j]? = some u -> ∀ k',Ins m.w y u k'->m'.w.heap[k']? = m.w.heap[k']?:=fun i x j y u hx hy hu k' hk=>hheap k' (hinv.lt k' (inU k' (hins i x j y u hx hy hu k' hk)))
   have hback:∀ (i:Nat) x (j:Nat) y u,xs[i]? = some x->x[j]? = some y->flat[i*sz+j]? = some u -> ∀ k',Ins m'.w y u k'->Ins m.w y u k':=fun i x j y u hx hy hu k' hk=>hk.back (hsame i x j y u hx hy hu)
   have hro2:∀ (i:Nat) x (j:Nat) y u,xs[i]? = some x->x[j]? = some y->flat[i*sz+j]? = some u->RO m2.w m2.ok y u:=fun i x j y u hx hy hu=>(hr i x j y u hx hy hu).mono hok2 (hsame i x j y u hx hy hu)
   have ho2:m'.w.ownsRow 0 e sz V xs.length flat:=ownsRow_same ho (fun k' hk=>hheap k' (hinv.lt k' (headU k' hk)))
   have cellZ:∀ (i:Nat) x (j:Nat) y u,Z[i]? = some x->x[j]? = some y->flat1[i*sz+j]? = some u->i < k/\xs[σ i]? = some x/\flat[σ i*sz+j]? = some u:=fun i x j y u hx hy hu=>by
    have hi:i < k:=by rw [<- hZ.1];exact (aAe.1 hx).1
    have hx':xs[σ i]? = some x:=by rw [<- hZ.2 i hi];exact hx
    have hj:j < sz:=by rw [<- hs x (aAg hx')];exact (aAe.1 hy).1
    exact ⟨hi,hx',hcells i j u hi hj hu⟩
   have cellJ:∀ (a:Nat) x (j:Nat) y,J[a]? = some x->x[j]? = some y->y = .junk\/((∀ i,i < k->σ i≠a)/\xs[a]? = some x):=fun a x j y hx hy=>by
    rcases hJ.2 a x hx with rfl | h
    . left
      have:=aAg hy
      rw [List.mem_replicate] at this
      exact this.2
    . exact .inr h
   have insZ:∀ k',Ins m'.w (.own e sz Z) V1 k'->blkOf V1=some k' \/ ∃ i x j y u,i < k/\xs[σ i]? = some x/\x[j]? = some y/\flat[σ i*sz+j]? = some u/\Ins m.w y u k':=fun k' hk=>by
    cases hk with
    | head _ _ _ _ _ h=>exact .inl h
    | cell _ _ _ _ _ fl i x j y u hoo hx hy hu h=>
      rw [hZ.1,<- hZv] at hoo
      obtain rfl:=ownsRow_inj ho1 hoo
      obtain ⟨q1,q2,q3⟩:=cellZ i x j y u hx hy hu
      exact .inr ⟨i,x,j,y,u,q1,q2,hy,q3,hback _ x j y u q2 hy q3 k' h⟩
   have insJ:∀ k',Ins m'.w (.own e sz J) V k'->blkOf V=some k' \/ ∃ a x j y u,(∀ i,i < k->σ i≠a)/\xs[a]? = some x/\x[j]? = some y/\flat[a*sz+j]? = some u/\Ins m.w y u k':=fun k' hk=>by
    cases hk with
    | head _ _ _ _ _ h=>exact .inl h
    | cell _ _ _ _ _ fl a x j y u hoo hx hy hu h=>
      rw [hJ.1] at hoo
      obtain rfl:=ownsRow_inj ho2 hoo
      rcases cellJ a x j y hx hy with rfl | ⟨q1,q2⟩
      . cases h
      . exact .inr ⟨a,x,j,y,u,q1,q2,hy,hu,hback a x j y u q2 hy hu k' h⟩
   have insZD:∀ k',Ins m'.w (.own e sz Z) V1 k'->m.w.heap.size<=k'\/Ins m.w (.own e sz xs) V k':=fun k' hk=>by
    rcases insZ k' hk with h | ⟨i,x,j,y,u,_,q2,q3,q4,q5⟩
    . exact .inl (hnew1 k' h)
    . exact .inr (hins _ x j y u q2 q3 q4 k' q5)
   have insJD:∀ k',Ins m'.w (.own e sz J) V k'->Ins m.w (.own e sz xs) V k':=fun k' hk=>by
    rcases insJ k' hk with h | ⟨a,x,j,y,u,_,q2,q3,q4,q5⟩
    . exact .head _ _ _ _ _ h
    . exact hins a x j y u q2 q3 q4 k' q5
   have roZ:RO m2.w m2.ok (.own e sz Z) V1:=by
    refine .own e sz Z V1 flat1 h0 (fun x hx=>?_) (by rw [hZ.1,<- hZv];exact ho1) (fun i x j y u hx hy hu=>?_) (fun i x j y u k' hx hy hu hk h=>?_) (fun i x j y u i' x' j' y' u' k' hx hy hu hx' hy' hu' hk hk'=>?_)
    . obtain ⟨i,hi⟩:=aB4.1 hx
      have hik:i < k:=by rw [<- hZ.1];exact (aAe.1 hi).1
      rw [hZ.2 i hik] at hi
      exact hs x (aAg hi)
    . obtain ⟨q1,q2,q3⟩:=cellZ i x j y u hx hy hu
      exact hro2 _ x j y u q2 hy q3
    . obtain ⟨q1,q2,q3⟩:=cellZ i x j y u hx hy hu
      have h1:=hnew1 k' h
      have h2:=hinv.lt k' (inU k' (hins _ x j y u q2 hy q3 k' (hback _ x j y u q2 hy q3 k' hk)))
      omega
    . obtain ⟨q1,q2,q3⟩:=cellZ i x j y u hx hy hu
      obtain ⟨r1,r2,r3⟩:=cellZ i' x' j' y' u' hx' hy' hu'
      obtain ⟨e1,e2⟩:=sp _ x j y u _ x' j' y' u' k' q2 hy q3 r2 hy' r3 (hback _ x j y u q2 hy q3 k' hk) (hback _ x' j' y' u' r2 hy' r3 k' hk')
      exact ⟨hinj i i' q1 r1 e1,e2⟩
   have roJ:RO m2.w m2.ok (.own e sz J) V:=by
    refine .own e sz J V flat h0 (fun x hx=>?_) (by rw [hJ.1];exact ho2) (fun a x j y u hx hy hu=>?_) (fun a x j y u k' hx hy hu hk h=>?_) (fun a x j y u a' x' j' y' u' k' hx hy hu hx' hy' hu' hk hk'=>?_)
    . obtain ⟨i,hi⟩:=aB4.1 hx
      rcases hJ.2 i x hi with rfl | ⟨_,h⟩
      . simp
      . exact hs x (aAg h)
    . rcases cellJ a x j y hx hy with rfl | ⟨_,q2⟩
      . exact .plain _ _ (.junk u (hone _ u hu))
      . exact hro2 a x j y u q2 hy hu
    . rcases cellJ a x j y hx hy with rfl | ⟨_,q2⟩
      . cases hk
      . exact hd a x j y u k' q2 hy hu (hback a x j y u q2 hy hu k' hk) h
    . rcases cellJ a x j y hx hy with rfl | ⟨_,q2⟩
      . cases hk
      . rcases cellJ a' x' j' y' hx' hy' with rfl | ⟨_,r2⟩
        . cases hk'
        . exact sp a x j y u a' x' j' y' u' k' q2 hy hu r2 hy' hu' (hback a x j y u q2 hy hu k' hk) (hback a' x' j' y' u' r2 hy' hu' k' hk')
   have far:∀ l i b v',getB [.deep e sz Z,.deep e sz J] H (l+1) i=some b->b.live=true->m.ρ (l+1) i=some v' -> ∀ k',b.has m'.w v' k'->b.has m.w v' k':=fun l i b v' h1 h2 h3 k' hk=>hinv.back (l:=l+1) h1 h2 h3 (fun k'' hu _=>hheap k'' (hinv.lt k'' hu)) hk
   have top2:∀ i b,[Blk.deep e sz Z,.deep e sz J][i]? = some b->(i=0/\b = .deep e sz Z)\/(i=1/\b = .deep e sz J):=fun i b h=>by
    match i with
    | 0=>exact .inl ⟨rfl,by simpa using h.symm⟩
    | 1=>exact .inr ⟨rfl,by simpa using h.symm⟩
    | i+2=>simp at h
   have notFar:∀ l i b v' k',getB [.deep e sz Z,.deep e sz J] H (l+1) i=some b->b.live=true->m.ρ (l+1) i=some v'->b.has m'.w v' k' -> ¬ Ins m.w (.own e sz xs) V k'/\k' < m.w.heap.size:=fun l i b v' k' h1 h2 h3 h4=>by
    have h5:=far l i b v' h1 h2 h3 k' h4
    refine ⟨fun h=>?_,hinv.lt k' (hinv.own (l+1) i b v' k' h1 h2 h3 h5)⟩
    have:=hinv.inj (l+1) i b 0 0 _ v' V k' h1 h2 rfl rfl h3 hρ h5 h
    cases this.1
   refine ⟨_,m2,rfl,rfl,⟨hG.os,hG.tape,hG.output,hsize,fun k' hk _ _=>hheap k' hk,fun _ _=>rfl,hU,fun k' hk=>?_⟩,fun i hi=>?_,⟨fun l i b hb=>?_,fun l i b l' i' b' v1 v2 k' h1 h2 h3 h4 h5 h6 h7 h8=>?_,fun l i b v1 k' h1 h2 h3 h4=>?_,fun k' hk=>?_,Views.none fun i p e c h=>by rcases top2 i _ h with ⟨_,h⟩ | ⟨_,h⟩ <;> cases h⟩,?_⟩
   . obtain ⟨i,b,u,h1,h2,h3,h4⟩:=hk
     rcases top2 i b h1 with ⟨rfl,rfl⟩ | ⟨rfl,rfl⟩
     . cases h3
       exact (insZD k' h4).imp id (mineD k')
     . cases h3
       exact .inr (mineD k' (insJD k' h4))
   . obtain rfl:i=0:=by simpa using hi
     exact hρ.symm
   . cases l with
     | succ l=>
       have hb:getB [.deep e sz xs] H (l+1) i=some b:=hb
       exact show BlkOk m3 (l+1) i b from (hinv.blk (l+1) i b hb).keep hK3 rfl (fun v' k' hl hv hk=>hheap k' (hinv.lt k' (hinv.own (l+1) i b v' k' hb hl hv hk)))
     | zero=>
       rcases top2 i b hb with ⟨rfl,rfl⟩ | ⟨rfl,rfl⟩
       . intro u hu;cases hu;exact roZ
       . intro u hu;cases hu;exact roJ
   . cases l with
     | succ l=>
       cases l' with
       | succ l'=>exact hinv.inj (l+1) i b (l'+1) i' b' v1 v2 k' h1 h2 h3 h4 h5 h6 (far l i b v1 h1 h2 h5 k' h7) (far l' i' b' v2 h3 h4 h6 k' h8)
       | zero=>
         exfalso
         obtain ⟨q1,q2⟩:=notFar l i b v1 k' h1 h2 h5 h7
         rcases top2 i' b' h3 with ⟨rfl,rfl⟩ | ⟨rfl,rfl⟩
         . cases h6
           rcases insZD k' h8 with h | h
           . omega
           . exact q1 h
         . cases h6;exact q1 (insJD k' h8)
     | zero=>
       cases l' with
       | succ l'=>
         exfalso
         obtain ⟨q1,q2⟩:=notFar l' i' b' v2 k' h3 h4 h6 h8
         rcases top2 i b h1 with ⟨rfl,rfl⟩ | ⟨rfl,rfl⟩
         . cases h5
           rcases insZD k' h7 with h | h
           . omega
           . exact q1 h
         . cases h5;exact q1 (insJD k' h7)
       | zero=>
         have cross:∀ k',Ins m'.w (.own e sz Z) V1 k'->Ins m'.w (.own e sz J) V k'->False:=fun k' hz hj=>by
          have hjD:=insJD k' hj
          rcases insZ k' hz with h | ⟨i,x,j,y,u,q1,q2,q3,q4,q5⟩
          . have:=hnew1 k' h
            have:=hinv.lt k' (inU k' hjD)
            omega
          . rcases insJ k' hj with h | ⟨a,x',j',y',u',r1,r2,r3,r4,r5⟩
            . exact hd _ x j y u k' q2 q3 q4 q5 h
            . exact r1 i q1 (sp _ x j y u a x' j' y' u' k' q2 q3 q4 r2 r3 r4 q5 r5).1
         rcases top2 i b h1 with ⟨rfl,rfl⟩ | ⟨rfl,rfl⟩ <;> rcases top2 i' b' h3 with ⟨rfl,rfl⟩ | ⟨rfl,rfl⟩
         . exact ⟨rfl,rfl⟩
         . cases h5;cases h6;exact (cross k' h7 h8).elim
         . cases h5;cases h6;exact (cross k' h8 h7).elim
         . exact ⟨rfl,rfl⟩
   . cases l with
     | succ l=>
       have:=hinv.own (l+1) i b v1 k' h1 h2 h3 (far l i b v1 h1 h2 h3 k' h4)
       exact (hU k' (hinv.lt k' this)).2 this
     | zero=>
       rcases top2 i b h1 with ⟨rfl,rfl⟩ | ⟨rfl,rfl⟩
       . cases h3
         rcases insZ k' h4 with h | ⟨i,x,j,y,u,q1,q2,q3,q4,q5⟩
         . exact .inl (hI.own 0 0 _ V1 k' rfl rfl hρ1 h)
         . have:=inU k' (hins _ x j y u q2 q3 q4 k' q5)
           exact (hU k' (hinv.lt k' this)).2 this
       . cases h3
         have:=inU k' (insJD k' h4)
         exact (hU k' (hinv.lt k' this)).2 this
   . rcases hk with h | h
     . exact hI.lt k' h
     . exact aBk (hinv.lt k' (headU k' h)) hsize
   . refine .row _ _ _ N1 c1 A1 ?_ hn1 hc1
     show some V1=some _
     rw [<- hV1]
inductive Srq where
 | old (a:Nat)
 | new
 | con (c:List DV)
def mN (m:M) (V:Value):M:=⟨m.w,fun l i=>match l with | 0=>(match i with | 0=>some V | _+1=>none) | l+1=>m.ρ (l+1) i,m.U⟩
theorem kQ {w:World} {ok:Nat->Prop} {e sz:Nat} {xs:List (List DV)} {V:Value} {flat:List Value} (h0:0 < sz) (hs:∀ x ∈ xs,x.length=sz) (hfl:flat.length=xs.length*sz)
 (hr:∀ (i:Nat) x (j:Nat) y u,xs[i]? = some x->x[j]? = some y->flat[i*sz+j]? = some u->RO w ok y u) (q:Nat) (u:Value) (hu:flat[q]? = some u):u.oneCell'=true:=by
 have hq:q < xs.length*sz:=by rw [<- hfl];exact (aAe.1 hu).1
 have hi:q / sz < xs.length:=Nat.div_lt_of_lt_mul (by rw [Nat.mul_comm];exact hq)
 obtain ⟨x,hx⟩:∃ x,xs[q / sz]? = some x:=⟨_,aAf hi⟩
 have hj:q % sz < x.length:=by rw [hs x (aAg hx)];exact Nat.mod_lt _ h0
 exact (hr (q / sz) x (q % sz) _ u hx (aAf hj) (by rw [Nat.mul_comm,Nat.div_add_mod];exact hu)).one
theorem vE {m:M} {T:List Blk} {H:List (List Blk)} {e sz:Nat} {xs:List (List DV)} {V:Value} (hinv:Inv m T H) (hT:T[0]? = some (.deep e sz xs)) (hρ:m.ρ 0 0=some V) {flat:List Value} (h0:0 < sz) (hs:∀ x ∈ xs,x.length=sz) (ho:m.w.ownsRow 0 e sz V xs.length flat)
 (hr:∀ (i:Nat) x (j:Nat) y u,xs[i]? = some x->x[j]? = some y->flat[i*sz+j]? = some u->RO m.w m.ok y u):Inv (mN m V) [.row e sz (bB flat sz xs.length)] H:=by
 have hvl:=cU flat sz xs.length
 have one:=kQ (V:=V) (e:=e) h0 hs ho.1 hr
 have top1:∀ i b,[Blk.row e sz (bB flat sz xs.length)][i]? = some b->i=0/\b = .row e sz (bB flat sz xs.length):=fun i b h=>by
  match i with
  | 0=>exact ⟨rfl,by simpa using h.symm⟩
  | i+1=>simp at h
 have z0:∀ v,(mN m V).ρ 0 0=some v->v=V:=fun v h=>by cases h;rfl
 have K:Keep m ⟨m.w,m.ρ,m.U⟩:=Keep.refl m
 refine ⟨fun l i b hb=>?_,fun l i b l' i' b' v v' k' h1 h2 h3 h4 h5 h6 h7 h8=>?_,fun l i b v k' h1 h2 h3 h4=>?_,hinv.lt,Views.none fun i p e' c h=>by obtain ⟨_,h⟩:=top1 i _ h;cases h⟩
 . cases l with
   | succ l=>exact show BlkOk m (l+1) i b from hinv.blk (l+1) i b hb
   | zero=>
     obtain ⟨rfl,rfl⟩:=top1 i b hb
     intro u hu
     obtain rfl:=z0 u hu
     refine ⟨h0,bO _ _ _,flat,by rw [hvl];exact ho,fun i x j y u hx hy hu=>?_⟩
     obtain ⟨h1,h2,rfl⟩:=cM hx hy
     rw [aA2,hu]
     exact .val u (one _ u hu)
 . cases l with
   | succ l=>
     cases l' with
     | succ l'=>exact hinv.inj (l+1) i b (l'+1) i' b' v v' k' h1 h2 h3 h4 h5 h6 h7 h8
     | zero=>
       obtain ⟨rfl,rfl⟩:=top1 i' b' h3
       obtain rfl:=z0 v' h6
       have:=hinv.inj (l+1) i b 0 0 _ v v' k' h1 h2 hT rfl h5 hρ h7 (.head _ _ _ _ _ h8)
       cases this.1
   | zero=>
     obtain ⟨rfl,rfl⟩:=top1 i b h1
     obtain rfl:=z0 v h5
     cases l' with
     | succ l'=>
       have:=hinv.inj (l'+1) i' b' 0 0 _ v' v k' h3 h4 hT rfl h6 hρ h8 (.head _ _ _ _ _ h7)
       cases this.1
     | zero=>obtain ⟨rfl,rfl⟩:=top1 i' b' h3;exact ⟨rfl,rfl⟩
 . cases l with
   | succ l=>exact hinv.own (l+1) i b v k' h1 h2 h3 h4
   | zero=>
     obtain ⟨rfl,rfl⟩:=top1 i b h1
     obtain rfl:=z0 v h3
     exact hinv.own 0 0 _ v k' hT rfl hρ (.head _ _ _ _ _ h4)
theorem sW {m:M} {T:List Blk} {H:List (List Blk)} {e sz k L n:Nat} {xs Z Zv:List (List DV)} {V:Value} {flat:List Value} {g:Nat->Value} {ds:List DV} {lj:List Nat} {src:Nat->Srq} (hinv:Inv m T H) (hT:T[0]? = some (.deep e sz xs)) (hTn:T.length=n+1) (hρ:m.ρ 0 0=some V)
 (h0:0 < sz) (hs:∀ x ∈ xs,x.length=sz) (ho:m.w.ownsRow 0 e sz V xs.length flat)
 (hr:∀ (i:Nat) x (j:Nat) y u,xs[i]? = some x->x[j]? = some y->flat[i*sz+j]? = some u->RO m.w m.ok y u)
 (hd:∀ (i:Nat) x (j:Nat) y u k',xs[i]? = some x->x[j]? = some y->flat[i*sz+j]? = some u->Ins m.w y u k'->blkOf V≠some k')
 (sp:∀ (i:Nat) x (j:Nat) y u (i':Nat) x' (j':Nat) y' u' k',xs[i]? = some x->x[j]? = some y->flat[i*sz+j]? = some u->xs[i']? = some x'->x'[j']? = some y'->flat[i'*sz+j']? = some u'->Ins m.w y u k'->Ins m.w y' u' k'->i=i'/\j=j')
 (hg:∀ (q:Nat) y,ds[q]? = some y->RO m.w m.ok y (g q) /\ ∀ a,Ins m.w y (g q) a -> ∃ j ∈ lj,∃ b v,T[j]? = some b/\b.live=true/\m.ρ 0 j=some v/\b.has m.w v a)
 (hgd:∀ (q:Nat) y (q':Nat) y' a,ds[q]? = some y->ds[q']? = some y'->Ins m.w y (g q) a->Ins m.w y' (g q') a->q=q') (hlj:∀ j ∈ lj,j≠0)
 (hold:∀ i a,i < L->src i = .old a->a < xs.length/\Z[i]? = xs[a]? /\ Zv[i]? = (bB flat sz xs.length)[a]?) (hnew:∀ i,i < L->src i = .new->Z[i]? = some ds/\ds.length=sz/\Zv[i]? = some ((List.range ds.length).map fun q=>DV.val (g q)))
 (hcon:∀ i c,i < L->src i = .con c->Z[i]? = some c/\c.length=sz/\(∀ y ∈ c,noOwn y=true)/\Zv[i]? = some c)
 (hinj:∀ i j,i < L->j < L->src i=src j->(∀ c,src i ≠ .con c)->i=j) (hZl:Z.length=L) (hZv:Zv.length=L)
 {w':World} {v:Value} {m':M} (hw:m'.w=w') (hS:Since (M0.of (mN m V) [.row e sz (bB flat sz xs.length)]) m' [.row e sz Zv,.dead]) (hI:Inv m' [.row e sz Zv,.dead] H) (hR:RP m' (.row 0 0 k) v) :
 ∃ m2:M,m2.w=w'/\Since (M0.of m T) m2 (.deep e sz Z::List.replicate (n+1) .dead)/\(∀ i,i < n+1->m2.ρ 0 (1+i)=m.ρ 0 i)/\Inv m2 (.deep e sz Z::List.replicate (n+1) .dead) H/\RP m2 (.row 0 0 k) v:=by
 subst hw
 have hfl:flat.length=xs.length*sz:=ho.1
 have inU:∀ k',Ins m.w (.own e sz xs) V k'->m.U k':=fun k' hk=>hinv.own 0 0 _ V k' hT rfl hρ hk
 cases hR with
 | row _ _ _ N1 c1 A1 hρ1 hn1 hc1=>
 obtain ⟨_,hsv,flat1,ho1,hr1⟩:=hI.blk 0 0 _ rfl _ hρ1
 generalize hV1:Value.slice A1 N1 c1=V1 at *
 have hsize:m.w.heap.size<=m'.w.heap.size:=hS.size
 have mineR:∀ k',Mine (mN m V) [.row e sz (bB flat sz xs.length)] k'->blkOf V=some k':=fun k' ⟨i,b,u,h1,h2,h3,h4⟩=>by
  match i with
  | 0=>simp at h1;subst h1;cases h3;exact h4
  | i+1=>simp at h1
 have hheap:∀ k',k' < m.w.heap.size->blkOf V≠some k'->m'.w.heap[k']? = m.w.heap[k']?:=fun k' hk hn=>hS.heap k' hk (fun h=>hn (mineR k' h)) (fun h=>h)
 have hU:∀ k',k' < m.w.heap.size->(m'.U k'↔m.U k'):=fun k' hk=>hS.U k' hk
 have hnew1:∀ k',blkOf V1=some k'->m.w.heap.size<=k'\/blkOf V=some k':=fun k' hk=>(hS.fresh k' ⟨0,_,V1,rfl,rfl,hρ1,hk⟩).imp id (mineR k')
 have hokU:∀ k',m.ok k'->m'.ok k'/\m'.w.heap[k']? = m.w.heap[k']?:=fun k' hk=>⟨⟨aBk hk.1 hsize,fun hu=>hk.2 ((hU k' hk.1).1 hu)⟩,hheap k' hk.1 (fun h=>hk.2 (inU k' (.head _ _ _ _ _ h)))⟩
 let Cell:DV->Value->Option (Nat × Nat)->Prop:=fun y u o=>match o with
  | some (a,j)=>∃ x,xs[a]? = some x/\x[j]? = some y/\flat[a*sz+j]? = some u
  | none=>∃ q,ds[q]? = some y/\u=g q
 have cellU:∀ y u o,Cell y u o -> ∀ k',Ins m.w y u k'->m.U k'/\blkOf V≠some k':=fun y u o hc k' hk=>by
  cases o with
  | some aj=>
    obtain ⟨x,h1,h2,h3⟩:=hc
    exact ⟨inU k' (.cell _ _ _ _ _ flat _ x _ y u ho h1 h2 h3 hk),hd _ x _ y u k' h1 h2 h3 hk⟩
  | none=>
    obtain ⟨q,h1,rfl⟩:=hc
    obtain ⟨j,hj,b,vb,p1,p2,p3,p4⟩:=(hg q y h1).2 k' hk
    refine ⟨hinv.own 0 j b vb k' p1 p2 p3 p4,fun h=>?_⟩
    have:=(hinv.inj 0 j b 0 0 _ vb V k' p1 p2 hT rfl p3 hρ p4 (.head _ _ _ _ _ h)).2
    exact hlj j hj this
 have cellSame:∀ y u o,Cell y u o -> ∀ k',Ins m.w y u k'->m'.w.heap[k']? = m.w.heap[k']?:=fun y u o hc k' hk=>hheap k' (hinv.lt k' (cellU y u o hc k' hk).1) (cellU y u o hc k' hk).2
 have cellBack:∀ y u o,Cell y u o -> ∀ k',Ins m'.w y u k'->Ins m.w y u k':=fun y u o hc k' hk=>hk.back (cellSame y u o hc)
 have cellRO:∀ y u o,Cell y u o->RO m'.w m'.ok y u:=fun y u o hc=>by
  refine RO.mono hokU ?_ (cellSame y u o hc)
  cases o with
  | some aj=>obtain ⟨x,h1,h2,h3⟩:=hc;exact hr _ x _ y u h1 h2 h3
  | none=>obtain ⟨q,h1,rfl⟩:=hc;exact (hg q y h1).1
 have cellT:∀ y u o,Cell y u o -> ∀ k',Ins m.w y u k'->Mine m T k':=fun y u o hc k' hk=>by
  cases o with
  | some aj=>
    obtain ⟨x,h1,h2,h3⟩:=hc
    exact ⟨0,_,V,hT,rfl,hρ,.cell _ _ _ _ _ flat _ x _ y u ho h1 h2 h3 hk⟩
  | none=>
    obtain ⟨q,h1,rfl⟩:=hc
    obtain ⟨j,hj,b,vb,p1,p2,p3,p4⟩:=(hg q y h1).2 k' hk
    exact ⟨j,b,vb,p1,p2,p3,p4⟩
 have cellZ:∀ (i:Nat) x (j:Nat) y u,Z[i]? = some x->x[j]? = some y->flat1[i*sz+j]? = some u->x.length=sz/\i < L/\((∃ c,src i = .con c/\RO m'.w m'.ok y u /\ ∀ k',¬ Ins m'.w y u k')\/(∃ a,src i = .old a/\Cell y u (some (a,j)))\/(src i = .new/\ds[j]? = some y/\u=g j)):=fun i x j y u hx hy hu=>by
  have hi:i < L:=by rw [<- hZl];exact (aAe.1 hx).1
  cases hsr:src i with
  | con c=>
    obtain ⟨h1,h2,h3,h4⟩:=hcon i c hi hsr
    rw [h1] at hx
    have hx:=aBr hx
    subst hx
    have hrd:=hr1 i c j y u h4 hy hu
    exact ⟨h2,hi,.inl ⟨c,rfl,.plain _ _ hrd,fun k' hk=>hrd.not_own k' hk⟩⟩
  | old a=>
    obtain ⟨h1,h2,h3⟩:=hold i a hi hsr
    rw [h2] at hx
    have hxl:=hs x (aAg hx)
    have hj:j < sz:=by rw [<- hxl];exact (aAe.1 hy).1
    refine ⟨hxl,hi,.inr (.inl ⟨a,rfl,x,hx,hy,?_⟩)⟩
    obtain ⟨xr,hxr⟩:∃ xr,(bB flat sz xs.length)[a]? = some xr:=⟨_,aAf (by rw [cU];exact h1)⟩
    have hxrl:=bO flat sz xs.length xr (aAg hxr)
    obtain ⟨yr,hyr⟩:∃ yr,xr[j]? = some yr:=⟨_,aAf (by omega)⟩
    obtain ⟨_,_,rfl⟩:=cM hxr hyr
    have hrd:=hr1 i xr j _ u (by rw [h3];exact hxr) hyr hu
    have hlt:a*sz+j < flat.length:=by
     rw [hfl]
     have:a*sz+sz<=xs.length*sz:=by rw [<- Nat.succ_mul];exact Nat.mul_le_mul_right _ h1
     omega
    rw [aA2,aAf hlt,aB0] at hrd
    rw [aAf hlt]
    generalize flat[a*sz+j]=q at hrd
    cases hrd;rfl
  | new=>
    obtain ⟨h1,h2,h3⟩:=hnew i hi hsr
    rw [h1] at hx;cases hx
    refine ⟨h2,hi,.inr (.inr ⟨rfl,hy,?_⟩)⟩
    have hj:j < ds.length:=(aAe.1 hy).1
    have hrd:=hr1 i _ j (.val (g j)) u h3 (by rw [aAi,List.getElem?_range hj];rfl) hu
    generalize g j=q at hrd
    cases hrd;rfl
 let m2:M:=⟨m'.w,fun l i=>match l with | 0=>(match i with | 0=>some V1 | i+1=>if i < n+1 then m.ρ 0 i else none) | l+1=>m.ρ (l+1) i,m'.U⟩
 let m3:M:=⟨m'.w,m.ρ,m'.U⟩
 have hK3:Keep m m3:=⟨fun _ _ _ h=>h,hsize,fun k' hk=>⟨(hokU k' hk).1.2,(hokU k' hk).2⟩⟩
 have ho1':m'.w.ownsRow 0 e sz V1 Z.length flat1:=by rw [hZl,<- hZv];exact ho1
 have insZ:∀ k',Ins m'.w (.own e sz Z) V1 k'->blkOf V1=some k' \/ ∃ y u o,Cell y u o/\Ins m.w y u k':=fun k' hk=>by
  cases hk with
  | head _ _ _ _ _ h=>exact .inl h
  | cell _ _ _ _ _ fl i x j y u hoo hx hy hu h=>
    obtain rfl:=ownsRow_inj ho1' hoo
    obtain ⟨_,_,q⟩:=cellZ i x j y u hx hy hu
    rcases q with ⟨c,_,_,q⟩ | ⟨a,_,q⟩ | ⟨_,q1,q2⟩
    . exact (q k' h).elim
    . exact .inr ⟨y,u,some (a,j),q,cellBack y u (some (a,j)) q k' h⟩
    . have q:Cell y u none:=⟨j,q1,q2⟩
      exact .inr ⟨y,u,none,q,cellBack y u none q k' h⟩
 have lenZ:∀ x ∈ Z,x.length=sz:=fun x hx=>by
  obtain ⟨i,hi⟩:=aB4.1 hx
  have hiL:i < L:=by rw [<- hZl];exact (aAe.1 hi).1
  cases hsr:src i with
  | con c=>
    obtain ⟨h1,h2,_⟩:=hcon i c hiL hsr
    rw [h1] at hi
    rw [<- aBr hi];exact h2
  | old a=>
    obtain ⟨_,h2,_⟩:=hold i a hiL hsr
    rw [h2] at hi
    exact hs x (aAg hi)
  | new=>
    obtain ⟨h1,h2,_⟩:=hnew i hiL hsr
    rw [h1] at hi
    rw [<- aBr hi];exact h2
 have notHead:∀ y u o,Cell y u o -> ∀ k',Ins m'.w y u k'->blkOf V1≠some k':=fun y u o q k' hk h=>by
  obtain ⟨p1,p2⟩:=cellU y u o q k' (cellBack y u o q k' hk)
  rcases hnew1 k' h with h' | h'
  . have:=hinv.lt k' p1;omega
  . exact p2 h'
 have cross:∀ y u a j y' q,Cell y u (some (a,j))->ds[q]? = some y' -> ∀ k',Ins m.w y u k'->Ins m.w y' (g q) k'->False:=fun y u a j y' q h1 h2 k' h3 h4=>by
  obtain ⟨x,p1,p2,p3⟩:=h1
  obtain ⟨jj,hj,b,vb,r1,r2,r3,r4⟩:=(hg q y' h2).2 k' h4
  have:=(hinv.inj 0 jj b 0 0 _ vb V k' r1 r2 hT rfl r3 hρ r4 (.cell _ _ _ _ _ flat _ x _ y u ho p1 p2 p3 h3)).2
  exact hlj jj hj this
 have roZ:RO m2.w m2.ok (.own e sz Z) V1:=by
  refine .own e sz Z V1 flat1 h0 lenZ ho1' (fun i x j y u hx hy hu=>?_) (fun i x j y u k' hx hy hu hk=>?_) (fun i x j y u i' x' j' y' u' k' hx hy hu hx' hy' hu' hk hk'=>?_)
  . obtain ⟨_,_,q⟩:=cellZ i x j y u hx hy hu
    rcases q with ⟨c,_,q,_⟩ | ⟨a,_,q⟩ | ⟨_,q1,q2⟩
    . exact q
    . exact cellRO y u (some (a,j)) q
    . exact cellRO y u none ⟨j,q1,q2⟩
  . obtain ⟨_,_,q⟩:=cellZ i x j y u hx hy hu
    rcases q with ⟨c,_,_,q⟩ | ⟨a,_,q⟩ | ⟨_,q1,q2⟩
    . exact (q k' hk).elim
    . exact notHead y u (some (a,j)) q k' hk
    . exact notHead y u none ⟨j,q1,q2⟩ k' hk
  . obtain ⟨_,hiL,q⟩:=cellZ i x j y u hx hy hu
    obtain ⟨_,hiL',q'⟩:=cellZ i' x' j' y' u' hx' hy' hu'
    rcases q with ⟨c,_,_,q⟩ | ⟨a,s1,q⟩ | ⟨s1,q1,q2⟩
    . exact (q k' hk).elim
    . rcases q' with ⟨c,_,_,q'⟩ | ⟨a',s2,q'⟩ | ⟨s2,q1',q2'⟩
      . exact (q' k' hk').elim
      . have b1:=cellBack y u (some (a,j)) q k' hk
        have b2:=cellBack y' u' (some (a',j')) q' k' hk'
        obtain ⟨x1,p1,p2,p3⟩:=q
        obtain ⟨x2,r1,r2,r3⟩:=q'
        obtain ⟨e1,e2⟩:=sp a x1 j y u a' x2 j' y' u' k' p1 p2 p3 r1 r2 r3 b1 b2
        subst e1
        exact ⟨hinj i i' hiL hiL' (s1.trans s2.symm) (fun c h=>by rw [s1] at h;cases h),e2⟩
      . exfalso
        have q':Cell y' u' none:=⟨j',q1',q2'⟩
        have b2:=cellBack y' u' none q' k' hk'
        rw [q2'] at b2
        exact cross y u a j y' j' q q1' k' (cellBack y u (some (a,j)) q k' hk) b2
    . have qn:Cell y u none:=⟨j,q1,q2⟩
      rcases q' with ⟨c,_,_,q'⟩ | ⟨a',s2,q'⟩ | ⟨s2,q1',q2'⟩
      . exact (q' k' hk').elim
      . exfalso
        have b1:=cellBack y u none qn k' hk
        rw [q2] at b1
        exact cross y' u' a' j' y j q' q1 k' (cellBack y' u' (some (a',j')) q' k' hk') b1
      . have qn':Cell y' u' none:=⟨j',q1',q2'⟩
        have b1:=cellBack y u none qn k' hk
        have b2:=cellBack y' u' none qn' k' hk'
        rw [q2] at b1
        rw [q2'] at b2
        exact ⟨hinj i i' hiL hiL' (s1.trans s2.symm) (fun c h=>by rw [s1] at h;cases h),hgd j y j' y' k' q1 q1' b1 b2⟩
 have top2:∀ i b,(Blk.deep e sz Z::List.replicate (n+1) .dead)[i]? = some b->(i=0/\b = .deep e sz Z)\/b = .dead:=fun i b h=>by
  cases i with
  | zero=>exact .inl ⟨rfl,by simpa using h.symm⟩
  | succ i=>
    rw [aBa] at h
    have:=aAg h
    rw [List.mem_replicate] at this
    exact .inr this.2
 have notV:∀ l i b v' k',getB T H (l+1) i=some b->b.live=true->m.ρ (l+1) i=some v'->b.has m.w v' k'->blkOf V≠some k':=fun l i b v' k' h1 h2 h3 h4 h=>by
  have:=hinv.inj (l+1) i b 0 0 _ v' V k' h1 h2 hT rfl h3 hρ h4 (.head _ _ _ _ _ h)
  cases this.1
 have far:∀ l i b v',getB T H (l+1) i=some b->b.live=true->m.ρ (l+1) i=some v' -> ∀ k',b.has m'.w v' k'->b.has m.w v' k':=fun l i b v' h1 h2 h3 k' hk=>hinv.back (l:=l+1) h1 h2 h3 (fun k'' hu hk''=>hheap k'' (hinv.lt k'' hu) (notV l i b v' k'' h1 h2 h3 hk'')) hk
 have apart:∀ l i b v' k',getB T H (l+1) i=some b->b.live=true->m.ρ (l+1) i=some v'->b.has m'.w v' k' -> ¬ Ins m'.w (.own e sz Z) V1 k':=fun l i b v' k' h1 h2 h3 h4 h5=>by
  have h6:=far l i b v' h1 h2 h3 k' h4
  rcases insZ k' h5 with h | ⟨y,u,o,q,q2⟩
  . rcases hnew1 k' h with h' | h'
    . have:=hinv.lt k' (hinv.own (l+1) i b v' k' h1 h2 h3 h6);omega
    . exact notV l i b v' k' h1 h2 h3 h6 h'
  . obtain ⟨i2,b2,v2,d1,d2,d3,d4⟩:=cellT y u o q k' q2
    have:=hinv.inj (l+1) i b 0 i2 b2 v' v2 k' h1 h2 d1 d2 h3 d3 h6 d4
    cases this.1
 refine ⟨m2,rfl,⟨hS.os,hS.tape,hS.output,hsize,fun k' hk hm _=>hheap k' hk (fun h=>hm ⟨0,_,V,hT,rfl,hρ,.head _ _ _ _ _ h⟩),fun _ _=>rfl,hU,fun k' hk=>?_⟩,fun i hi=>?_,⟨fun l i b hb=>?_,fun l i b l' i' b' v1 v2 k' h1 h2 h3 h4 h5 h6 h7 h8=>?_,fun l i b v1 k' h1 h2 h3 h4=>?_,hI.lt,Views.none fun i p e' c h=>by rcases top2 i _ h with ⟨_,h⟩ | h <;> cases h⟩,?_⟩
 . obtain ⟨i,b,u,h1,h2,h3,h4⟩:=hk
   rcases top2 i b h1 with ⟨rfl,rfl⟩ | rfl
   . cases h3
     rcases insZ k' h4 with h | ⟨y,u,o,q,q2⟩
     . rcases hnew1 k' h with h' | h'
       . exact .inl h'
       . exact .inr ⟨0,_,V,hT,rfl,hρ,.head _ _ _ _ _ h'⟩
     . exact .inr (cellT y u o q k' q2)
   . cases h2
 . rw [Nat.add_comm]
   show (if i < n+1 then m.ρ 0 i else none)=m.ρ 0 i
   rw [if_pos hi]
 . cases l with
   | succ l=>
     have hb:getB T H (l+1) i=some b:=hb
     exact show BlkOk m3 (l+1) i b from (hinv.blk (l+1) i b hb).keep hK3 rfl (fun v' k' hl hv hk=>hheap k' (hinv.lt k' (hinv.own (l+1) i b v' k' hb hl hv hk)) (notV l i b v' k' hb hl hv hk))
   | zero=>
     rcases top2 i b hb with ⟨rfl,rfl⟩ | rfl
     . intro u hu;cases hu;exact roZ
     . trivial
 . cases l with
   | succ l=>
     cases l' with
     | succ l'=>exact hinv.inj (l+1) i b (l'+1) i' b' v1 v2 k' h1 h2 h3 h4 h5 h6 (far l i b v1 h1 h2 h5 k' h7) (far l' i' b' v2 h3 h4 h6 k' h8)
     | zero=>
       rcases top2 i' b' h3 with ⟨rfl,rfl⟩ | rfl
       . cases h6;exact (apart l i b v1 k' h1 h2 h5 h7 h8).elim
       . cases h4
   | zero=>
     rcases top2 i b h1 with ⟨rfl,rfl⟩ | rfl
     . cases h5
       cases l' with
       | succ l'=>exact (apart l' i' b' v2 k' h3 h4 h6 h8 h7).elim
       | zero=>
         rcases top2 i' b' h3 with ⟨rfl,rfl⟩ | rfl
         . exact ⟨rfl,rfl⟩
         . cases h4
     . cases h2
 . cases l with
   | succ l=>
     have:=hinv.own (l+1) i b v1 k' h1 h2 h3 (far l i b v1 h1 h2 h3 k' h4)
     exact (hU k' (hinv.lt k' this)).2 this
   | zero=>
     rcases top2 i b h1 with ⟨rfl,rfl⟩ | rfl
     . cases h3
       rcases insZ k' h4 with h | ⟨y,u,o,q,q2⟩
       . exact hI.own 0 0 _ V1 k' rfl rfl hρ1 h
       . have:=(cellU y u o q k' q2).1
         exact (hU k' (hinv.lt k' this)).2 this
     . cases h2
 . refine .row _ _ _ N1 c1 A1 ?_ hn1 hc1
   show some V1=some _
   rw [<- hV1]
theorem zG (R:List RowB):(R.map fun _=>(none:Option RowB)).map gblk=List.replicate R.length .dead:=by
 induction R with
 | nil=>rfl
 | cons r R ih=>rw [List.map_cons,List.map_cons,ih,aAn,List.replicate_succ];rfl
theorem zH {C:Cx} {H:List (List Blk)} {f e sz i:Nat} {xs:List (List DV)} {cs:List PV} {ds:List DV} {R:List RowB} (he:Nat.ble 64 sz=false) (hsz:Nat.beq sz 0=false) (hi:i<=xs.length) (hcs:cs.length=sz)
 (hown:∀ (E:Nat),E=sz+64->ownsK ((⟨e,E,xs⟩::R).map RowB.blk) cs [0] fun ds' _=>ds'=ds)
 (hcall:∀ (vals:List (List DV)) (yv:List DV),vals.length=xs.length->(∀ x ∈ vals,x.length=sz)->yv.length=sz ->
   aE C H f [⟨e,sz,vals⟩] [.row 0 0 vals.length,.d (.int .i64 i),.d (.sl [yv])] [none] (.row 0 0 (vals.length+1)) [⟨e,sz,vals.take i ++ [yv]++vals.drop i⟩]) :
 aE C H f (⟨e,sz+64,xs⟩::R) [.row 0 0 xs.length,.d (.int .i64 i),.lits [cs]] (none::R.map fun _=>none) (.row 0 0 (xs.length+1)) [⟨e,sz+64,xs.take i ++ [ds]++xs.drop i⟩]:=by
 generalize hE:sz+64=E
 have hown:=hown E hE.symm
 have hb:∀ ys,RowB.blk ⟨e,E,ys⟩ = .deep e sz ys:=fun ys=>jM hE.symm hsz
 have hbr:∀ ys,RowB.blk ⟨e,sz,ys⟩ = .row e sz ys:=fun ys=>eD he hsz
 unfold aE
 simp only [List.map_cons,List.map_nil,hb,zG,show gblk none=Blk.dead from rfl] at hown ⊢
 refine ⟨by simp,fun m vs hinv hfree hlen hargs=>?_⟩
 obtain ⟨v0,v1,v2,rfl⟩:∃ v0 v1 v2,vs = #[v0,v1,v2]:=by
  match vs,hlen with
  | ⟨[a,b,c]⟩,_=>exact ⟨a,b,c,rfl⟩
 have a0:=hargs 0 _ v0 rfl rfl
 have a1:=hargs 1 _ v1 rfl rfl
 have a2:=hargs 2 _ v2 rfl rfl
 obtain ⟨ds',lj,hds,hdl,hjs,hO⟩:=fE _ _ _ hown
 subst hds
 cases a1 with
 | d _ _ a1=>
 cases a1
 cases a0 with
 | row _ _ _ Nn c A hρ hn hc=>
 cases a2 with
 | lits szl _ ad u l0 lm ls lc lr=>
 have hszl:szl=sz:=by have:=ls cs (by simp);omega
 subst hszl
 generalize hT:Blk.deep e szl xs::List.map RowB.blk R=T at *
 have hT0:T[0]? = some (.deep e szl xs):=by rw [<- hT];rfl
 have hTn:T.length=R.length+1:=by rw [<- hT];simp
 have hro:RO m.w m.ok (.own e szl xs) (.slice A Nn c):=hinv.blk 0 0 _ hT0 _ hρ
 obtain ⟨flat,h0,hs,ho,hr,hd,sp⟩:=hro.parts
 have hNn:=(owns_hdr ho).1
 subst hNn
 have hv0:RP (mN m (.slice A xs.length c)) (.row 0 0 xs.length) (.slice A xs.length c):=.row 0 0 _ xs.length c A rfl hn hc
 generalize hV:Value.slice A xs.length c=V at *
 have hvl:=cU flat szl xs.length
 obtain ⟨hg,hgd⟩:=hO H m hinv (fun q=>u (0*szl+q)) (fun q p hp=>lr 0 cs q p rfl hp)
 have hRI:=vE hinv hT0 hρ h0 hs ho hr
 have hyl:((List.range ds'.length).map fun q=>DV.val (u (0*szl+q))).length=szl:=by simp [hdl,hcs]
 have call:=hcall (bB flat szl xs.length) ((List.range ds'.length).map fun q=>DV.val (u (0*szl+q))) hvl (bO _ _ _) hyl
 unfold aE at call
 simp only [List.map_cons,List.map_nil,hbr,show gblk none=Blk.dead from rfl] at call
 refine (call.2 (mN m V) #[V,.int .i64 i,.slice (some ad) 1 1] hRI (fun j hj=>?_) rfl (fun j p v hp hv=>?_)).mono ?_
 . cases j with
   | zero=>simp at hj
   | succ j=>rfl
 . match j with
   | 0=>
     simp at hp hv
     subst hp;subst hv
     rw [hvl];exact hv0
   | 1=>simp at hp hv;subst hp;subst hv;exact .d _ _ (.int _ _)
   | 2=>
     obtain rfl:=aBr (show some _=some p from hp)
     obtain rfl:=aBr (show some _=some v from hv)
     refine .d _ _ (.sl szl _ (some ad) 1 1 ad u rfl (aBo _) (by omega) (fun _=>rfl) (fun x hx=>by rw [aAy.1 hx];exact hyl) (fun a x j y hx hy=>?_) (fun a x j y hx hy=>?_))
     all_goals
      obtain rfl:a=0:=by have:=(aAe.1 hx).1;simp at this;exact this
      rw [aA9] at hx
      obtain rfl:=aBr hx
      rw [aAi] at hy
      obtain ⟨q,hq,rfl⟩:=aBq.1 hy
      obtain ⟨hq1,hq2⟩:=aAe.1 hq
      simp at hq1 hq2
      subst hq2
      obtain ⟨p,hp⟩:∃ p,cs[j]? = some p:=⟨_,aAf (by omega)⟩
     . exact lc 0 cs j p rfl hp
     . obtain ⟨y,hy'⟩:∃ y,ds'[j]? = some y:=⟨_,aAf hq1⟩
       exact .val _ (hg j y hy').1.one
   | j+3=>simp at hp
 . rintro ex w' ⟨v,m',rfl,hw,hS,hnm,hI,hR⟩
   have hzl:(xs.take i ++ [ds']++xs.drop i).length=xs.length+1:=by simp;omega
   have hzv:((bB flat szl xs.length).take i ++ [(List.range ds'.length).map fun q=>DV.val (u (0*szl+q))]++(bB flat szl xs.length).drop i).length=xs.length+1:=by simp [hvl];omega
   have get:∀ {α:Type} (ys:List α) (y:α) (q:Nat),i<=ys.length->(ys.take i ++ [y]++ys.drop i)[q]? = if q < i then ys[q]? else if q=i then some y else ys[q - 1]?:=fun ys y q hy=>by
    have h1:(ys.take i).length=i:=by rw [aAl];omega
    by_cases hq:q < i
    . rw [if_pos hq,aBb,aAk (by omega),aA0,if_pos hq]
    . rw [if_neg hq]
      by_cases hq2:q=i
      . rw [if_pos hq2,aBb,aAj (by omega),h1,hq2,aB2];rfl
      . rw [if_neg hq2,aAj (by simp;omega),aA1]
        congr 1
        simp;omega
   rw [hvl] at hR
   obtain ⟨m2,e1,e2,e3,e4,e5⟩:=sW (src:=fun q=>if q < i then .old q else if q=i then .new else .old (q - 1)) (L:=xs.length+1) (n:=R.length) (Z:=xs.take i ++ [ds']++xs.drop i) (g:=fun q=>u (0*szl+q)) (lj:=lj) hinv hT0 hTn hρ h0 hs ho hr hd sp
    hg hgd (fun j hj h=>(hjs j hj).1 (by rw [h];simp))
    (fun q a hq hsr=>by
      split at hsr
      . cases hsr;exact ⟨by omega,by rw [get xs ds' q hi,if_pos (by assumption)],by rw [get _ _ q (by rw [hvl];exact hi),if_pos (by assumption)]⟩
      . split at hsr
        . cases hsr
        . cases hsr
          exact ⟨by omega,by rw [get xs ds' q hi,if_neg (by assumption),if_neg (by assumption)],by rw [get _ _ q (by rw [hvl];exact hi),if_neg (by assumption),if_neg (by assumption)]⟩)
    (fun q hq hsr=>by
      split at hsr
      . cases hsr
      . split at hsr
        . rename_i h1 h2
          exact ⟨by rw [get xs ds' q hi,if_neg h1,if_pos h2],by rw [hdl,hcs],by rw [get _ _ q (by rw [hvl];exact hi),if_neg h1,if_pos h2]⟩
        . cases hsr)
    (fun q cc hq hsr=>by
      split at hsr
      . cases hsr
      . split at hsr <;> cases hsr)
    (fun a b ha hb' hab _=>by
      have hab:(if a < i then Srq.old a else if a=i then Srq.new else Srq.old (a - 1))=(if b < i then Srq.old b else if b=i then Srq.new else Srq.old (b - 1)):=hab
      by_cases h1:a < i
      . rw [if_pos h1] at hab
        by_cases h2:b < i
        . rw [if_pos h2] at hab;exact Srq.old.inj hab
        . rw [if_neg h2] at hab
          by_cases h3:b=i
          . rw [if_pos h3] at hab;cases hab
          . rw [if_neg h3] at hab;have:=Srq.old.inj hab;omega
      . rw [if_neg h1] at hab
        by_cases h4:a=i
        . rw [if_pos h4] at hab
          by_cases h2:b < i
          . rw [if_pos h2] at hab;cases hab
          . rw [if_neg h2] at hab
            by_cases h3:b=i
            . omega
            . rw [if_neg h3] at hab;cases hab
        . rw [if_neg h4] at hab
          by_cases h2:b < i
          . rw [if_pos h2] at hab;have:=Srq.old.inj hab;omega
          . rw [if_neg h2] at hab
            by_cases h3:b=i
            . rw [if_pos h3] at hab;cases hab
            . rw [if_neg h3] at hab;have:=Srq.old.inj hab;omega)
    hzl hzv hw hS hI hR
   refine ⟨v,m2,rfl,e1,?_,fun j hj=>?_,?_,e5⟩
   . exact e2
   . have:=e3 j (by simpa using hj)
     exact this
   . exact e4
theorem zI {C:Cx} {H:List (List Blk)} {f e sz i j:Nat} {xs:List (List DV)} {c0:List DV} (he:Nat.ble 64 sz=false) (hsz:Nat.beq sz 0=false) (hij:i<=j) (hj:j<=xs.length) (hc0:c0.length=sz /\ ∀ y ∈ c0,noOwn y=true)
 (hcall:∀ (vals:List (List DV)),vals.length=xs.length->(∀ x ∈ vals,x.length=sz) ->
   aE C H f [⟨e,sz,vals⟩] [.row 0 0 vals.length,.d (.int .i64 i),.d (.int .i64 j)] [none] (.row 0 0 (vals.length - (j - i))) [⟨e,sz,vals.take i++vals.drop j++List.replicate (j - i) c0⟩]) :
 aE C H f [⟨e,sz+64,xs⟩] [.row 0 0 xs.length,.d (.int .i64 i),.d (.int .i64 j)] [none] (.row 0 0 (xs.length - (j - i))) [⟨e,sz+64,xs.take i++xs.drop j++List.replicate (j - i) c0⟩]:=by
 generalize hE:sz+64=E
 have hb:∀ ys,RowB.blk ⟨e,E,ys⟩ = .deep e sz ys:=fun ys=>jM hE.symm hsz
 have hbr:∀ ys,RowB.blk ⟨e,sz,ys⟩ = .row e sz ys:=fun ys=>eD he hsz
 unfold aE
 simp only [List.map_cons,List.map_nil,hb,show gblk none=Blk.dead from rfl]
 refine ⟨by simp,fun m vs hinv hfree hlen hargs=>?_⟩
 obtain ⟨v0,v1,v2,rfl⟩:∃ v0 v1 v2,vs = #[v0,v1,v2]:=by
  match vs,hlen with
  | ⟨[a,b,c]⟩,_=>exact ⟨a,b,c,rfl⟩
 have a0:=hargs 0 _ v0 rfl rfl
 have a1:=hargs 1 _ v1 rfl rfl
 have a2:=hargs 2 _ v2 rfl rfl
 cases a1 with
 | d _ _ a1=>
 cases a1
 cases a2 with
 | d _ _ a2=>
 cases a2
 cases a0 with
 | row _ _ _ Nn c A hρ hn hc=>
 generalize hT : [Blk.deep e sz xs]=T at *
 have hT0:T[0]? = some (.deep e sz xs):=by rw [<- hT];rfl
 have hTn:T.length=0+1:=by rw [<- hT];rfl
 have hro:RO m.w m.ok (.own e sz xs) (.slice A Nn c):=hinv.blk 0 0 _ hT0 _ hρ
 obtain ⟨flat,h0,hs,ho,hr,hd,sp⟩:=hro.parts
 have hNn:=(owns_hdr ho).1
 subst hNn
 have hv0:RP (mN m (.slice A xs.length c)) (.row 0 0 xs.length) (.slice A xs.length c):=.row 0 0 _ xs.length c A rfl hn hc
 generalize hV:Value.slice A xs.length c=V at *
 have hvl:=cU flat sz xs.length
 have hRI:=vE hinv hT0 hρ h0 hs ho hr
 have call:=hcall (bB flat sz xs.length) hvl (bO _ _ _)
 unfold aE at call
 simp only [List.map_cons,List.map_nil,hbr,show gblk none=Blk.dead from rfl] at call
 refine (call.2 (mN m V) #[V,.int .i64 i,.int .i64 j] hRI (fun j hj=>?_) rfl (fun q p v hp hv=>?_)).mono ?_
 . cases j with
   | zero=>simp at hj
   | succ j=>rfl
 . match q with
   | 0=>
     obtain rfl:=aBr (show some _=some p from hp)
     obtain rfl:=aBr (show some _=some v from hv)
     rw [hvl];exact hv0
   | 1=>
     obtain rfl:=aBr (show some _=some p from hp)
     obtain rfl:=aBr (show some _=some v from hv)
     exact .d _ _ (.int _ _)
   | 2=>
     obtain rfl:=aBr (show some _=some p from hp)
     obtain rfl:=aBr (show some _=some v from hv)
     exact .d _ _ (.int _ _)
   | q+3=>simp at hp
 . rintro ex w' ⟨v,m',rfl,hw,hS,hnm,hI,hR⟩
   have hzl:∀ (ys:List (List DV)),ys.length=xs.length->(ys.take i++ys.drop j++List.replicate (j - i) c0).length=xs.length:=fun ys hy=>by simp;omega
   have get:∀ (ys:List (List DV)) (q:Nat),ys.length=xs.length->(ys.take i++ys.drop j++List.replicate (j - i) c0)[q]? = if q < i then ys[q]? else if q < i+(xs.length - j) then ys[q - i+j]? else (if q < xs.length then some c0 else none):=fun ys q hy=>by
    have h1:(ys.take i).length=i:=by rw [aAl];omega
    have h2:(ys.drop j).length=xs.length - j:=by rw [aAq,hy]
    by_cases hq:q < i
    . rw [if_pos hq,aBb,aAk (by omega),aA0,if_pos hq]
    . rw [if_neg hq]
      by_cases hq2:q < i+(xs.length - j)
      . rw [if_pos hq2,aBb,aAj (by omega),h1,aAk (by omega),aA1]
        congr 1;omega
      . rw [if_neg hq2,aAj (by rw [aAm];omega),aAm,h1,h2,List.getElem?_replicate]
        by_cases hq3:q < xs.length
        . rw [if_pos hq3,if_pos (by omega)]
        . rw [if_neg hq3,if_neg (by omega)]
   rw [hvl] at hR
   obtain ⟨m2,e1,e2,e3,e4,e5⟩:=sW (src:=fun q=>if q < i then .old q else if q < i+(xs.length - j) then .old (q - i+j) else .con c0) (L:=xs.length) (n:=0) (Z:=xs.take i++xs.drop j++List.replicate (j - i) c0) (g:=fun _=>undef) (ds:=[]) (lj:=[]) hinv hT0 hTn hρ h0 hs ho hr hd sp
    (fun q y h=>by simp at h) (fun q y q' y' a h=>by simp at h) (fun j hj=>by cases hj)
    (fun q a hq hsr=>by
      have hsr:(if q < i then Srq.old q else if q < i+(xs.length - j) then Srq.old (q - i+j) else Srq.con c0) = .old a:=hsr
      rw [get xs q rfl,get _ q hvl]
      by_cases h1:q < i
      . rw [if_pos h1] at hsr ⊢;rw [if_pos h1];cases hsr;exact ⟨hq,rfl,rfl⟩
      . rw [if_neg h1] at hsr ⊢;rw [if_neg h1]
        by_cases h2:q < i+(xs.length - j)
        . rw [if_pos h2] at hsr ⊢;rw [if_pos h2];cases hsr;exact ⟨by omega,rfl,rfl⟩
        . rw [if_neg h2] at hsr;cases hsr)
    (fun q hq hsr=>by
      have hsr:(if q < i then Srq.old q else if q < i+(xs.length - j) then Srq.old (q - i+j) else Srq.con c0) = .new:=hsr
      split at hsr
      . cases hsr
      . split at hsr <;> cases hsr)
    (fun q cc hq hsr=>by
      have hsr:(if q < i then Srq.old q else if q < i+(xs.length - j) then Srq.old (q - i+j) else Srq.con c0) = .con cc:=hsr
      rw [get xs q rfl,get _ q hvl]
      by_cases h1:q < i
      . rw [if_pos h1] at hsr;cases hsr
      . rw [if_neg h1] at hsr ⊢;rw [if_neg h1]
        by_cases h2:q < i+(xs.length - j)
        . rw [if_pos h2] at hsr;cases hsr
        . rw [if_neg h2] at hsr ⊢;rw [if_neg h2,if_pos hq]
          have:=Srq.con.inj hsr
          subst this
          exact ⟨rfl,hc0.1,hc0.2,rfl⟩)
    (fun a b ha hb' hab hnc=>by
      have hab:(if a < i then Srq.old a else if a < i+(xs.length - j) then Srq.old (a - i+j) else Srq.con c0)=(if b < i then Srq.old b else if b < i+(xs.length - j) then Srq.old (b - i+j) else Srq.con c0):=hab
      have hnc:∀ c,(if a < i then Srq.old a else if a < i+(xs.length - j) then Srq.old (a - i+j) else Srq.con c0) ≠ .con c:=hnc
      by_cases h1:a < i
      . rw [if_pos h1] at hab
        by_cases h2:b < i
        . rw [if_pos h2] at hab;exact Srq.old.inj hab
        . rw [if_neg h2] at hab
          by_cases h3:b < i+(xs.length - j)
          . rw [if_pos h3] at hab;have:=Srq.old.inj hab;omega
          . rw [if_neg h3] at hab;cases hab
      . rw [if_neg h1] at hab hnc
        by_cases h4:a < i+(xs.length - j)
        . rw [if_pos h4] at hab
          by_cases h2:b < i
          . rw [if_pos h2] at hab;have:=Srq.old.inj hab;omega
          . rw [if_neg h2] at hab
            by_cases h3:b < i+(xs.length - j)
            . rw [if_pos h3] at hab;have:=Srq.old.inj hab;omega
            . rw [if_neg h3] at hab;cases hab
        . rw [if_neg h4] at hnc
          exact absurd rfl (hnc c0))
    (hzl xs rfl) (hzl _ hvl) hw hS hI hR
   exact ⟨v,m2,rfl,e1,e2,fun q hq=>e3 q (by simpa using hq),e4,e5⟩
theorem qZ {C:Cx} {H:List (List Blk)} {f e sz k:Nat} {xs Z:List (List DV)} {rest:List PV} {σ:Nat->Nat} (he:Nat.ble 64 sz=false) (hsz:Nat.beq sz 0=false)
 (hσ:∀ i,i < k->σ i < xs.length) (hZ:Z.length=k /\ ∀ i,i < k->Z[i]? = xs[σ i]?) (hrest:∀ p ∈ rest,∃ z,p = .d (.int .i64 z))
 (hcall:∀ (vals:List (List DV)),vals.length=xs.length->(∀ x ∈ vals,x.length=sz) -> ∃ Zv:List (List DV),Zv.length=k/\(∀ i,i < k->Zv[i]? = vals[σ i]?)/\aD C H f (.d (.sl vals)::rest) (.row 0 0 k) [⟨e,sz,Zv⟩]) :
 aE C H f [⟨e,sz,xs⟩] (.row 0 0 xs.length::rest) [some ⟨e,sz,xs⟩] (.row 0 0 k) [⟨e,sz,Z⟩]:=by
 have hb:∀ ys,RowB.blk ⟨e,sz,ys⟩ = .row e sz ys:=fun ys=>eD he hsz
 unfold aE
 simp only [List.map_cons,List.map_nil,gblk,hb]
 refine ⟨rfl,fun m vs hinv hfree hlen hargs=>?_⟩
 have hvs:0 < vs.size:=by rw [<- hlen];simp
 have a0:=hargs 0 _ vs[0] rfl (Array.getElem?_eq_getElem hvs)
 generalize hv0:vs[0]=v0 at a0
 cases a0 with
 | row _ _ _ Nn c A hρ hn hc=>
 obtain ⟨h0,hs,flat,ho,hr⟩:=hinv.blk 0 0 _ rfl _ hρ
 have hNn:=(owns_hdr ho).1
 subst hNn
 generalize hV:Value.slice A xs.length c=V at *
 have hfl:flat.length=xs.length*sz:=ho.1
 have headU:∀ k',blkOf V=some k'->m.U k':=fun k' hk=>hinv.own 0 0 _ V k' rfl rfl hρ hk
 let mh:M:=⟨m.w,fun l i=>match l with | 0=>none | l+1=>m.ρ (l+1) i,fun k'=>m.U k'/\blkOf V≠some k'⟩
 have okh:∀ k',m.ok k'->mh.ok k':=fun k' hk=>⟨hk.1,fun hu=>hk.2 hu.1⟩
 have hinvh:Inv mh [] H:=by
  refine ⟨fun l i b hb=>?_,fun l i b l' i' b' v v' k' h1 h2 h3 h4 h5 h6 h7 h8=>?_,fun l i b v k' h1 h2 h3 h4=>?_,fun k' hk=>hinv.lt k' hk.1,Views.none fun i p e c h=>by simp at h⟩
  . cases l with
    | zero=>simp [getB] at hb
    | succ l=>
      have hbo:=hinv.blk (l+1) i b hb
      cases b with
      | dead=>trivial
      | gen Y st=>trivial
      | sub _ _ _=>trivial
      | row e sz xs=>
        intro u hu
        obtain ⟨a1,a2,flat,a3,a4⟩:=hbo u hu
        exact ⟨a1,a2,flat,a3,fun i x j y u hx hy hu=>(a4 i x j y u hx hy hu).mono fun k hk=>⟨okh k hk,rfl⟩⟩
      | deep e sz xs=>exact fun u hu=>RO.mono (fun k hk=>⟨okh k hk,rfl⟩) (hbo u hu) (fun _ _=>rfl)
      | box cs=>
        intro u hu
        obtain ⟨g,us,e,q1,q2,q3,q4⟩:=hbo u hu
        refine ⟨g,us,e,q1,q2,q3,fun j p x hp hx=>?_⟩
        have K:Keep (m.up (l+1)) (mh.up (l+1)):=⟨fun a i' u' hu'=>hu',aBo _,fun k hk=>⟨fun hu=>hk.2 hu.1,rfl⟩⟩
        exact (q4 j p x hp hx).keep K
  . cases l with
    | zero=>simp [getB] at h1
    | succ l=>
      cases l' with
      | zero=>simp [getB] at h3
      | succ l'=>exact hinv.inj (l+1) i b (l'+1) i' b' v v' k' h1 h2 h3 h4 h5 h6 h7 h8
  . cases l with
    | zero=>simp [getB] at h1
    | succ l=>
      refine ⟨hinv.own (l+1) i b v k' h1 h2 h3 h4,fun hk=>?_⟩
      have:=hinv.inj (l+1) i b 0 0 _ v V k' h1 h2 rfl rfl h3 hρ h4 hk
      cases this.1
 have hvl:=cU flat sz xs.length
 obtain ⟨Zv,hZv,hZv2,hcall⟩:=hcall (bB flat sz xs.length) hvl (bO flat sz xs.length)
 unfold aD at hcall
 have hone:=kQ (w:=m.w) (ok:=m.ok) (e:=e) (V:=V) h0 hs hfl (fun i x j y u hx hy hu=>.plain _ _ (hr i x j y u hx hy hu))
 have hRD:RD mh.w mh.ok (.sl (bB flat sz xs.length)) V:=by
  refine rd_owns (e:=e) (sz:=sz) (flat:=flat) (bO _ _ _) (by rw [hvl];exact ho) (fun k' hk=>⟨hinv.lt k' (headU k' hk),fun hu=>hu.2 hk⟩) (fun i x j y u hx hy hu=>?_)
  obtain ⟨h1,h2,rfl⟩:=cM hx hy
  rw [aA2,hu]
  exact .val u (hone _ u hu)
 refine (hcall mh vs hinvh (fun _=>rfl) (by simpa using hlen) (fun j p v hp hv=>?_)).mono ?_
 . cases j with
   | zero=>
     simp at hp
     subst hp
     rw [Array.getElem?_eq_getElem hvs,hv0] at hv
     cases hv
     exact .d _ _ hRD
   | succ j=>
     have hp':rest[j]? = some p:=by simpa using hp
     obtain ⟨z,rfl⟩:=hrest p (aAg hp')
     have:=hargs (j+1) _ v (by simpa using hp) hv
     cases this with
     | d _ _ h=>cases h;exact .d _ _ (.int _ _)
 . rintro ex w' ⟨v,m',rfl,rfl,hG,hup,hfr,hI,hR⟩
   have hbv : [(⟨e,sz,Zv⟩:RowB)].map RowB.blk = [.row e sz Zv]:=by simp only [List.map_cons,List.map_nil];rw [eD he hsz]
   rw [hbv] at hfr hI
   cases hR with
   | row _ _ _ N1 c1 A1 hρ1 hn1 hc1=>
   obtain ⟨_,hsv,flat1,ho1,hr1⟩:=hI.blk 0 0 _ rfl _ hρ1
   generalize hV1:Value.slice A1 N1 c1=V1 at *
   have hcells:∀ (i j:Nat) u,i < k->j < sz->flat1[i*sz+j]? = some u->flat[σ i*sz+j]? = some u:=fun i j u hi hj hu=>by
    have hσi:=hσ i hi
    obtain ⟨x,hx⟩:∃ x,(bB flat sz xs.length)[σ i]? = some x:=⟨_,aAf (by rw [hvl];exact hσi)⟩
    have hxl:=bO flat sz xs.length x (aAg hx)
    obtain ⟨y,hy⟩:∃ y,x[j]? = some y:=⟨_,aAf (by omega)⟩
    obtain ⟨_,_,rfl⟩:=cM hx hy
    have hrd:=hr1 i x j _ u (by rw [hZv2 i hi];exact hx) hy hu
    have hlt:σ i*sz+j < flat.length:=by
     rw [hfl]
     have:σ i*sz+sz<=xs.length*sz:=by rw [<- Nat.succ_mul];exact Nat.mul_le_mul_right _ hσi
     omega
    rw [aA2,aAf hlt,aB0] at hrd
    rw [aAf hlt]
    generalize flat[σ i*sz+j]=q at hrd
    cases hrd;rfl
   have hsize:m.w.heap.size<=m'.w.heap.size:=hG.size
   have hheap:∀ k',k' < m.w.heap.size->m'.w.heap[k']? = m.w.heap[k']?:=hG.heap
   have hnew1:∀ k',blkOf V1=some k'->m.w.heap.size<=k':=fun k' hk=>hfr 0 _ V1 k' rfl hρ1 hk
   let m2:M:=⟨m'.w,fun l i=>match l with | 0=>(match i with | 0=>some V1 | 1=>some V | _+2=>none) | l+1=>m.ρ (l+1) i,fun k'=>m'.U k'\/blkOf V=some k'⟩
   let m3:M:=⟨m'.w,m.ρ,m2.U⟩
   have hU:∀ k',k' < m.w.heap.size->(m2.U k'↔m.U k'):=fun k' hk=>by
    have:=hG.U k' hk
    constructor
    . rintro (h | h)
      . exact (this.1 h).1
      . exact headU k' h
    . intro h
      by_cases hh:blkOf V=some k'
      . exact .inr hh
      . exact .inl (this.2 ⟨h,hh⟩)
   have hK3:Keep m m3:=⟨fun _ _ _ h=>h,hsize,fun k' hk=>⟨fun hu=>hk.2 ((hU k' hk.1).1 hu),hheap k' hk.1⟩⟩
   have hok2:∀ k',m.ok k'->m2.ok k'/\m2.w.heap[k']? = m.w.heap[k']?:=fun k' hk=>⟨⟨aBk hk.1 hsize,fun hu=>hk.2 ((hU k' hk.1).1 hu)⟩,hheap k' hk.1⟩
   have ho2:m'.w.ownsRow 0 e sz V xs.length flat:=ownsRow_same ho (fun k' hk=>hheap k' (hinv.lt k' (headU k' hk)))
   have rowZ:0 < sz/\(∀ x ∈ Z,x.length=sz) /\ ∃ fl,m2.w.ownsRow 0 e sz V1 Z.length fl /\ ∀ (i:Nat) x (j:Nat) y u,Z[i]? = some x->x[j]? = some y->fl[i*sz+j]? = some u->RD m2.w m2.ok y u:=by
    have inZ:∀ (i:Nat) x,Z[i]? = some x->i < k/\xs[σ i]? = some x:=fun i x hx=>by
     have hi:i < k:=by rw [<- hZ.1];exact (aAe.1 hx).1
     exact ⟨hi,by rw [<- hZ.2 i hi];exact hx⟩
    refine ⟨h0,fun x hx=>?_,flat1,by rw [hZ.1,<- hZv];exact ho1,fun i x j y u hx hy hu=>?_⟩
    . obtain ⟨i,hi⟩:=aB4.1 hx
      exact hs x (aAg (inZ i x hi).2)
    . obtain ⟨q1,q2⟩:=inZ i x hx
      have hj:j < sz:=by rw [<- hs x (aAg q2)];exact (aAe.1 hy).1
      exact (hr (σ i) x j y u q2 hy (hcells i j u q1 hj hu)).mono hok2
   have far:∀ l i b v',getB [.row e sz Z,.row e sz xs] H (l+1) i=some b->b.live=true->m.ρ (l+1) i=some v' -> ∀ k',b.has m'.w v' k'->b.has m.w v' k':=fun l i b v' h1 h2 h3 k' hk=>hinv.back (l:=l+1) h1 h2 h3 (fun k'' hu _=>hheap k'' (hinv.lt k'' hu)) hk
   have top2:∀ i b,[Blk.row e sz Z,.row e sz xs][i]? = some b->(i=0/\b = .row e sz Z)\/(i=1/\b = .row e sz xs):=fun i b h=>by
    match i with
    | 0=>exact .inl ⟨rfl,by simpa using h.symm⟩
    | 1=>exact .inr ⟨rfl,by simpa using h.symm⟩
    | i+2=>simp at h
   have notFar:∀ l i b v' k',getB [.row e sz Z,.row e sz xs] H (l+1) i=some b->b.live=true->m.ρ (l+1) i=some v'->b.has m'.w v' k'->blkOf V≠some k'/\k' < m.w.heap.size:=fun l i b v' k' h1 h2 h3 h4=>by
    have h5:=far l i b v' h1 h2 h3 k' h4
    refine ⟨fun h=>?_,hinv.lt k' (hinv.own (l+1) i b v' k' h1 h2 h3 h5)⟩
    have:=hinv.inj (l+1) i b 0 0 _ v' V k' h1 h2 rfl rfl h3 hρ h5 h
    cases this.1
   have mineD:∀ k',blkOf V=some k'->Mine m [.row e sz xs] k':=fun k' hk=>⟨0,_,V,rfl,rfl,hρ,hk⟩
   refine ⟨_,m2,rfl,rfl,⟨hG.os,hG.tape,hG.output,hsize,fun k' hk _ _=>hheap k' hk,fun _ _=>rfl,hU,fun k' hk=>?_⟩,fun i hi=>?_,⟨fun l i b hb=>?_,fun l i b l' i' b' v1 v2 k' h1 h2 h3 h4 h5 h6 h7 h8=>?_,fun l i b v1 k' h1 h2 h3 h4=>?_,fun k' hk=>?_,Views.none fun i p e c h=>by rcases top2 i _ h with ⟨_,h⟩ | ⟨_,h⟩ <;> cases h⟩,?_⟩
   . obtain ⟨i,b,u,h1,h2,h3,h4⟩:=hk
     rcases top2 i b h1 with ⟨rfl,rfl⟩ | ⟨rfl,rfl⟩
     . cases h3;exact .inl (hnew1 k' h4)
     . cases h3;exact .inr (mineD k' h4)
   . obtain rfl:i=0:=by simpa using hi
     exact hρ.symm
   . cases l with
     | succ l=>
       have hb:getB [.row e sz xs] H (l+1) i=some b:=hb
       exact show BlkOk m3 (l+1) i b from (hinv.blk (l+1) i b hb).keep hK3 rfl (fun v' k' hl hv hk=>hheap k' (hinv.lt k' (hinv.own (l+1) i b v' k' hb hl hv hk)))
     | zero=>
       rcases top2 i b hb with ⟨rfl,rfl⟩ | ⟨rfl,rfl⟩
       . intro u hu;cases hu;exact rowZ
       . intro u hu;cases hu;exact ⟨h0,hs,flat,ho2,fun i x j y u hx hy hu=>(hr i x j y u hx hy hu).mono hok2⟩
   . cases l with
     | succ l=>
       cases l' with
       | succ l'=>exact hinv.inj (l+1) i b (l'+1) i' b' v1 v2 k' h1 h2 h3 h4 h5 h6 (far l i b v1 h1 h2 h5 k' h7) (far l' i' b' v2 h3 h4 h6 k' h8)
       | zero=>
         exfalso
         obtain ⟨q1,q2⟩:=notFar l i b v1 k' h1 h2 h5 h7
         rcases top2 i' b' h3 with ⟨rfl,rfl⟩ | ⟨rfl,rfl⟩
         . cases h6
           have:=hnew1 k' h8;omega
         . cases h6;exact q1 h8
     | zero=>
       cases l' with
       | succ l'=>
         exfalso
         obtain ⟨q1,q2⟩:=notFar l' i' b' v2 k' h3 h4 h6 h8
         rcases top2 i b h1 with ⟨rfl,rfl⟩ | ⟨rfl,rfl⟩
         . cases h5
           have:=hnew1 k' h7;omega
         . cases h5;exact q1 h7
       | zero=>
         have cross:∀ k',blkOf V1=some k'->blkOf V=some k'->False:=fun k' hz hj=>by
          have:=hnew1 k' hz
          have:=hinv.lt k' (headU k' hj)
          omega
         rcases top2 i b h1 with ⟨rfl,rfl⟩ | ⟨rfl,rfl⟩ <;> rcases top2 i' b' h3 with ⟨rfl,rfl⟩ | ⟨rfl,rfl⟩
         . exact ⟨rfl,rfl⟩
         . cases h5;cases h6;exact (cross k' h7 h8).elim
         . cases h5;cases h6;exact (cross k' h8 h7).elim
         . exact ⟨rfl,rfl⟩
   . cases l with
     | succ l=>
       have:=hinv.own (l+1) i b v1 k' h1 h2 h3 (far l i b v1 h1 h2 h3 k' h4)
       exact (hU k' (hinv.lt k' this)).2 this
     | zero=>
       rcases top2 i b h1 with ⟨rfl,rfl⟩ | ⟨rfl,rfl⟩
       . cases h3;exact .inl (hI.own 0 0 _ V1 k' rfl rfl hρ1 h4)
       . cases h3;exact .inr h4
   . rcases hk with h | h
     . exact hI.lt k' h
     . exact aBk (hinv.lt k' (headU k' h)) hsize
   . refine .row _ _ _ N1 c1 A1 ?_ hn1 hc1
     show some V1=some _
     rw [<- hV1]
def aH {α:Type} (l:List α) (a b:Nat):List α:=(l.take b).drop a
theorem aR {α:Type} (l:List α) (a b:Nat):(aH l a b).length=min b l.length - a:=by unfold aH;simp
theorem gN {α:Type} (l:List α) (a b i:Nat) (h:i < (aH l a b).length):(aH l a b)[i]? = l[a+i]?:=by
 rw [aR] at h
 unfold aH
 rw [aA1,aA0,if_pos (by omega)]
theorem mO {α:Type} (l:List α) (a b:Nat):(l.take (min b l.length)).drop a=aH l a b:=by
 unfold aH
 rcases Nat.le_total b l.length with h | h
 . rw [Nat.min_eq_left h]
 . rw [Nat.min_eq_right h,aAt h,aAt (aBo _)]
theorem zJ (xs:List (List DV)) (hx:∀ x ∈ xs,x.length=3) (hl:xs.length < 1000000) (a b:Nat) (hab:a<=b) (hb:b < 1000000) (H:List (List Blk)) :
 aD X H 77 [.d (.sl xs),.d (.int .i64 a),.d (.int .i64 b)] (.row 0 0 (aH xs a b).length) [⟨26,3,aH xs a b⟩]:=by
 have hpl:=aR xs a b
 have hmin:=mO xs a b
 refine callEq_of_body aY rfl Try.func77 rfl ?_
 conv=>whnf
 refine And.intro (fun q=>?_) (fun q=>?_) <;> (conv=>whnf)
 . have hge:xs.length<=a:=by have:=of_decide_eq_true q;omega
   have h0:aH xs a b = []:=List.eq_nil_of_length_eq_zero (by omega)
   rw [h0]
   exact ⟨[100],rfl,by (repeat' (first | exact True.intro | exact rfl | refine And.intro ?_ ?_))⟩
 . have hlt:a < xs.length:=by have:=of_decide_eq_false q;omega
   intro z hz
   conv=>whnf
   have hz':z=((min b xs.length:Nat):Int):=by omega
   subst hz'
   have e1:((xs.take (((min b xs.length:Nat):Int)).toNat).drop ((a:Nat):Int).toNat)=aH xs a b:=by rw [aBi,aBi];exact hmin
   refine ⟨hx,by omega,by omega,by omega,?_⟩
   rw [e1]
   conv=>whnf
   refine ⟨_,_,sN (aH xs a b) (fun x h=>hx x (aA6 (aA7 h))) (by omega) _,True.intro,?_⟩
   conv=>whnf
   exact ⟨[0],rfl,by (repeat' (first | exact True.intro | exact rfl | refine And.intro ?_ ?_))⟩
theorem zK (xs:List (List DV)) (hx:∀ x ∈ xs,x.length=1) (hl:xs.length < 1000000) (a b:Nat) (hab:a<=b) (hb:b < 1000000) (H:List (List Blk)) :
 aD X H 75 [.d (.sl xs),.d (.int .i64 a),.d (.int .i64 b)] (.row 0 0 (aH xs a b).length) [⟨27,1,aH xs a b⟩]:=by
 have hpl:=aR xs a b
 have hmin:=mO xs a b
 refine callEq_of_body aY rfl Try.func75 rfl ?_
 conv=>whnf
 refine And.intro (fun q=>?_) (fun q=>?_) <;> (conv=>whnf)
 . have hge:xs.length<=a:=by have:=of_decide_eq_true q;omega
   have h0:aH xs a b = []:=List.eq_nil_of_length_eq_zero (by omega)
   rw [h0]
   exact ⟨[100],rfl,by (repeat' (first | exact True.intro | exact rfl | refine And.intro ?_ ?_))⟩
 . have hlt:a < xs.length:=by have:=of_decide_eq_false q;omega
   intro z hz
   conv=>whnf
   have hz':z=((min b xs.length:Nat):Int):=by omega
   subst hz'
   have e1:((xs.take (((min b xs.length:Nat):Int)).toNat).drop ((a:Nat):Int).toNat)=aH xs a b:=by rw [aBi,aBi];exact hmin
   refine ⟨hx,by omega,by omega,by omega,?_⟩
   rw [e1]
   conv=>whnf
   refine ⟨_,_,sL (aH xs a b) (fun x h=>hx x (aA6 (aA7 h))) (by omega) _,True.intro,?_⟩
   conv=>whnf
   exact ⟨[0],rfl,by (repeat' (first | exact True.intro | exact rfl | refine And.intro ?_ ?_))⟩
theorem zL (xs:List (List DV)) (hx:∀ x ∈ xs,x.length=1) (hl:xs.length < 1000000) (a b:Nat) (hab:a<=b) (hb:b < 1000000) (H:List (List Blk)) :
 aD X H 76 [.d (.sl xs),.d (.int .i64 a),.d (.int .i64 b)] (.row 0 0 (aH xs a b).length) [⟨32,1,aH xs a b⟩]:=by
 have hpl:=aR xs a b
 have hmin:=mO xs a b
 refine callEq_of_body aY rfl Try.func76 rfl ?_
 conv=>whnf
 refine And.intro (fun q=>?_) (fun q=>?_) <;> (conv=>whnf)
 . have hge:xs.length<=a:=by have:=of_decide_eq_true q;omega
   have h0:aH xs a b = []:=List.eq_nil_of_length_eq_zero (by omega)
   rw [h0]
   exact ⟨[100],rfl,by (repeat' (first | exact True.intro | exact rfl | refine And.intro ?_ ?_))⟩
 . have hlt:a < xs.length:=by have:=of_decide_eq_false q;omega
   intro z hz
   conv=>whnf
   have hz':z=((min b xs.length:Nat):Int):=by omega
   subst hz'
   have e1:((xs.take (((min b xs.length:Nat):Int)).toNat).drop ((a:Nat):Int).toNat)=aH xs a b:=by rw [aBi,aBi];exact hmin
   refine ⟨hx,by omega,by omega,by omega,?_⟩
   rw [e1]
   conv=>whnf
   refine ⟨_,_,sM (aH xs a b) (fun x h=>hx x (aA6 (aA7 h))) (by omega) _,True.intro,?_⟩
   conv=>whnf
   exact ⟨[0],rfl,by (repeat' (first | exact True.intro | exact rfl | refine And.intro ?_ ?_))⟩
theorem b_partK (xs:List (List DV)) (hl:xs.length < 1000000) (a b:Nat) (hab:a<=b) (hb:b < 1000000) (H:List (List Blk)) :
 aE X H 75 [⟨27,1,xs⟩] [.row 0 0 xs.length,.d (.int .i64 a),.d (.int .i64 b)] [some ⟨27,1,xs⟩] (.row 0 0 (aH xs a b).length) [⟨27,1,aH xs a b⟩]:=
 qZ (σ:=fun i=>a+i) rfl rfl (fun i hi=>by rw [aR] at hi;show a+i < _;omega) ⟨rfl,fun i hi=>gN xs a b i hi⟩ (fun p hp=>by
  simp only [List.mem_cons,List.not_mem_nil,or_false] at hp
  rcases hp with rfl | rfl <;> exact ⟨_,rfl⟩)
  (fun vals h1 h2=>⟨aH vals a b,by rw [aR,aR,h1],fun i hi=>gN vals a b i (by rw [aR,h1,<- aR];exact hi),by
    have e:(aH xs a b).length=(aH vals a b).length:=by rw [aR,aR,h1]
    rw [e]
    exact zK vals h2 (by omega) a b hab hb H⟩)
theorem b_partC (xs:List (List DV)) (hl:xs.length < 1000000) (a b:Nat) (hab:a<=b) (hb:b < 1000000) (H:List (List Blk)) :
 aE X H 76 [⟨32,1,xs⟩] [.row 0 0 xs.length,.d (.int .i64 a),.d (.int .i64 b)] [some ⟨32,1,xs⟩] (.row 0 0 (aH xs a b).length) [⟨32,1,aH xs a b⟩]:=
 qZ (σ:=fun i=>a+i) rfl rfl (fun i hi=>by rw [aR] at hi;show a+i < _;omega) ⟨rfl,fun i hi=>gN xs a b i hi⟩ (fun p hp=>by
  simp only [List.mem_cons,List.not_mem_nil,or_false] at hp
  rcases hp with rfl | rfl <;> exact ⟨_,rfl⟩)
  (fun vals h1 h2=>⟨aH vals a b,by rw [aR,aR,h1],fun i hi=>gN vals a b i (by rw [aR,h1,<- aR];exact hi),by
    have e:(aH xs a b).length=(aH vals a b).length:=by rw [aR,aR,h1]
    rw [e]
    exact zL vals h2 (by omega) a b hab hb H⟩)
def cL (l:List (List DV)) (a b:Nat):List (List DV):=l.take a++(List.replicate (aH l a b).length [.junk,.junk,.junk]++l.drop (a+(aH l a b).length))
theorem jY (l:List (List DV)) (a b:Nat):(cL l a b).length=l.length:=by
 have:=aR l a b
 unfold cL
 simp only [aAm,aAl,aBh,aAq]
 omega
theorem b_partD (xs:List (List DV)) (hl:xs.length < 1000000) (a b:Nat) (hab:a<=b) (hb:b < 1000000) (H:List (List Blk)) :
 aE X H 77 [⟨26,67,xs⟩] [.row 0 0 xs.length,.d (.int .i64 a),.d (.int .i64 b)] [some ⟨26,67,cL xs a b⟩] (.row 0 0 (aH xs a b).length) [⟨26,67,aH xs a b⟩]:=
 xZ (σ:=fun i=>a+i) rfl rfl (fun i hi=>by rw [aR] at hi;show a+i < _;omega) (fun i j _ _ h=>by have:a+i=a+j:=h;omega) ⟨rfl,fun i hi=>gN xs a b i hi⟩
  ⟨jY xs a b,fun q y h=>by
    have hp:=aR xs a b
    unfold cL at h
    rcases aBl q (xs.take a).length with h1 | h1
    . rw [aAk h1] at h
      rw [aAl] at h1
      rw [aA0,if_pos (by omega)] at h
      exact .inr ⟨fun i _=>by show a+i≠q;omega,h⟩
    . rw [aAj h1,aAl] at h
      rw [aAl] at h1
      rcases aBl (q - min a xs.length) (aH xs a b).length with h2 | h2
      . rw [aAk (by rw [aBh];exact h2)] at h
        have:=aAg h
        rw [List.mem_replicate] at this
        exact .inl this.2
      . rw [aAj (by rw [aBh];exact h2),aBh,aA1] at h
        have hq:q < xs.length:=by
         have:=(aAe.1 h).1
         omega
        refine .inr ⟨fun i hi=>by show a+i≠q;omega,?_⟩
        rw [<- h];congr 1;omega⟩
  (fun p hp=>by
    simp only [List.mem_cons,List.not_mem_nil,or_false] at hp
    rcases hp with rfl | rfl <;> exact ⟨_,rfl⟩)
  (fun vals h1 h2=>⟨aH vals a b,by rw [aR,aR,h1],fun i hi=>gN vals a b i (by rw [aR,h1,<- aR];exact hi),by
    have e:(aH xs a b).length=(aH vals a b).length:=by rw [aR,aR,h1]
    rw [e]
    exact zJ vals h2 (by omega) a b hab hb H⟩)
def mo62:List (Nat × Tr):=[(1,.cut (.alt 0 (.alt 2 (.alt 3 (.alt 5 (.alt 7 (.alt 8 (.alt 10 (.alt 12 (.alt 13 (.alt 14 (.alt 1 (.alt 4 (.alt 6 (.alt 9 (.alt 11 (.alt 15 (.alt 16 (.alt 17 .fin .none) .none) .none) .none) (.alt 11 (.alt 9 (.alt 15 (.alt 16 (.alt 17 .fin .none) .none) .none) .none) .none)) (.alt 11 (.alt 6 (.alt 9 (.alt 15 (.alt 16 (.alt 17 .fin .none) .none) .none) .none) .none) .none)) (.alt 6 (.alt 4 (.alt 9 (.alt 11 (.alt 15 (.alt 16 (.alt 17 .fin .none) .none) .none) .none) (.alt 11 (.alt 9 (.alt 15 (.alt 16 (.alt 17 .fin .none) .none) .none) .none) .none)) (.alt 11 (.alt 4 (.alt 9 (.alt 15 (.alt 16 (.alt 17 .fin .none) .none) .none) .none) .none) .none)) (.alt 11 (.alt 4 (.alt 6 (.alt 9 (.alt 15 (.alt 16 (.alt 17 .fin .none) .none) .none) .none) .none) (.alt 6 (.alt 4 (.alt 9 (.alt 15 (.alt 16 (.alt 17 .fin .none) .none) .none) .none) .none) .none)) .none))) (.alt 6 (.alt 1 (.alt 4 (.alt 9 (.alt 11 (.alt 15 (.alt 16 (.alt 17 .fin .none) .none) .none) .none) (.alt 11 (.alt 9 (.alt 15 (.alt 16 (.alt 17 .fin .none) .none) .none) .none) .none)) (.alt 11 (.alt 4 (.alt 9 (.alt 15 (.alt 16 (.alt 17 .fin .none) .none) .none) .none) .none) .none)) (.alt 11 (.alt 1 (.alt 4 (.alt 9 (.alt 15 (.alt 16 (.alt 17 .fin .none) .none) .none) .none) .none) .none) .none)) (.alt 11 (.alt 1 (.alt 4 (.alt 6 (.alt 9 (.alt 15 (.alt 16 (.alt 17 .fin .none) .none) .none) .none) .none) (.alt 6 (.alt 4 (.alt 9 (.alt 15 (.alt 16 (.alt 17 .fin .none) .none) .none) .none) .none) .none)) (.alt 6 (.alt 1 (.alt 4 (.alt 9 (.alt 15 (.alt 16 (.alt 17 .fin .none) .none) .none) .none) .none) .none) .none)) .none))) .none) .none) .none) .none) .none) .none) .none) .none) .none) .none))]
theorem b_cut (K C N:List (List DV)) (hK:K.length < 1000000) (hC:C.length < 1000000) (hN:N.length < 1000000) (a b:Nat) (hab:a<=b) (hb:b < 999999) (H:List (List Blk)) :
 aE X H 63 [⟨27,1,K⟩,⟨32,1,C⟩,⟨26,67,N⟩] [.agg [.row 0 0 K.length,.row 0 1 C.length,.row 0 2 N.length],.d (.int .i64 a),.d (.int .i64 b)]
  [some ⟨27,1,K⟩,some ⟨32,1,C⟩,some ⟨26,67,cL N a (b+1)⟩] (.agg [.row 0 0 (aH K a b).length,.row 0 1 (aH C a b).length,.row 0 2 (aH N a (b+1)).length])
  [⟨27,1,aH K a b⟩,⟨32,1,aH C a b⟩,⟨26,67,aH N a (b+1)⟩]:=by
 have w1:IntKind.i64.wrap (((b:Nat):Int)+1)=((b+1:Nat):Int):=by rw [aJ (by omega) (by omega)];omega
 have cK:=fun H=>b_partK K hK a b hab (by omega) H
 have cC:=fun H=>b_partC C hC a b hab (by omega) H
 have cN:=fun H=>b_partD N hN a (b+1) (by omega) (by omega) H
 refine oD aY [(0,0),(0,1),(0,2)] (mo:=mo62) (R:=[⟨27,1,K⟩,⟨32,1,C⟩,⟨26,67,cL N a (b+1)⟩]) (by kernel_rfl) Try.func63 rfl (by kernel_rfl) (And.intro rfl (And.intro rfl (And.intro rfl True.intro))) ⟨rfl,rfl⟩ ?_ ?_
 . intro g r r' h1 h2
   match g with
   | 0=>cases h1;cases h2;exact ⟨rfl,rfl,rfl⟩
   | 1=>cases h1;cases h2;exact ⟨rfl,rfl,rfl⟩
   | 2=>
     rw [<- aBr (show some (⟨26,67,N⟩:RowB)=some r from h1),<- aBr (show some (⟨26,67,cL N a (b+1)⟩:RowB)=some r' from h2)]
     exact ⟨(jY N a (b+1)).symm,rfl,rfl⟩
   | g+3=>simp at h1
 conv=>whnf
 refine cutV_of [.agg [.row 0 0 K.length,.row 0 1 C.length,.row 0 2 N.length],.d (.int .i64 a),.d (.int .i64 b),.ptr 0 3 0,.any,.any,.ptr 0 4 0,.any,.any,.any,.any,.any,.any,.any,.any,.any,.any,.any,.any,.any,.any,.any,.any,.any] [.row 27 1 K,.row 32 1 C,.deep 26 3 (cL N a (b+1)),.box [.row 0 0 K.length,.row 0 1 C.length,.row 0 2 N.length],.box [.row 0 5 (aH K a b).length,.row 0 6 (aH C a b).length,.row 0 7 (aH N a (b+1)).length],.row 27 1 (aH K a b),.row 32 1 (aH C a b),.deep 26 3 (aH N a (b+1))] ?_ ?_
 . conv=>whnf
   repeat' (first
    | (intro z hz
       conv=>whnf
       rw [w1] at hz
       subst hz)
    | (refine ⟨_,_,_,cK _,?_⟩;conv=>whnf)
    | (refine ⟨_,_,_,cC _,?_⟩;conv=>whnf)
    | (refine ⟨_,_,_,cN _,?_⟩;conv=>whnf)
    | (refine And.intro ?_ ?_ <;> (conv=>whnf))
    | fail)
   all_goals first
    | (refine ⟨[0,1,2,3,4,5,6,7],And.intro rfl (And.intro ?_ ?_)⟩
       all_goals (repeat' (first | exact True.intro | exact rfl | refine And.intro ?_ ?_))
       done)
    | skip
 . conv=>whnf
   refine ⟨[5,6,7,0,1,2],rfl,?_⟩
   (repeat' (first | exact True.intro | exact rfl | refine And.intro ?_ ?_))
theorem dU {α:Type} (L:List (List α)) {k:Nat} {A:List α} (h:L[k]? = some A):(L.take (k+1)).flatten=(L.take k).flatten++A:=by
 rw [List.take_succ,h];simp
theorem qG {α:Type} (L:List (List α)) (k:Nat):(L.take k).flatten.length<=L.flatten.length:=by
 conv=>rhs;rw [<- List.take_append_drop k L]
 rw [List.flatten_append,aAm];omega
theorem iG {α:Type} {L:List (List α)} {A:List α} {p:α->Prop} (hL:∀ B ∈ L,∀ x ∈ B,p x) {k:Nat} (h:L[k]? = some A):∀ x ∈ A,p x:=hL A (aAg h)
theorem d_catK (L:List (List (List DV))) (hL:∀ A ∈ L,∀ x ∈ A,x.length=1) (hl:L.length < 1000000) (hf:L.flatten.length < 1000000) (H:List (List Blk)) :
 aD X H 82 [.d (.sl (L.map fun A=>[.sl A]))] (.row 0 0 L.flatten.length) [⟨27,1,L.flatten⟩]:=by
 have hle:=qG L
 have hix:∀ (k:Nat),k < L.length -> ∃ A,L[k]? = some A:=fun k hk=>⟨_,aAf hk⟩
 have hfin:(L.take L.length).flatten=L.flatten:=by rw [aAw]
 refine callEq_of_body aY rfl Try.func82 rfl ?_
 conv=>whnf
 refine bI (fun k:Nat=>⟨[.d (.sl (L.map fun A=>[.sl A])),.any,.any,.d (.int .i64 (L.take k).flatten.length),.any,.any,.any,.any,.any,.d (.sl (L.map fun A=>[.sl A])),.d (.int .i64 (L.map fun A=>[DV.sl A]).length),.d (.int .i64 k),.any,.any,.any,.any,.any,.any,.any,.any,.any,.any,.any,.any,.any,.any,.any,.any,.any,.any,.any,.any,.any,.any,.any,.any],[]⟩) (fun k=>k<=L.length) (fun k=>L.length - k) 0 [] (aBn _) ?_ ?_
 . refine And.intro rfl (And.intro ?_ ?_)
   (repeat' (first | exact True.intro | exact rfl | refine And.intro ?_ ?_))
 . rintro k hk
   conv=>whnf
   refine And.intro (fun q=>?_) (fun q=>?_) <;> (conv=>whnf)
   . have hk':k < L.length:=by simpa using q
     obtain ⟨A,hA⟩:=hix k hk'
     have ht:=dU L hA
     have h1:=hle (k+1)
     rw [ht,aAm] at h1
     refine ⟨by omega,[.sl A],by rw [aBi,aAi,hA];rfl,rfl,?_⟩
     conv=>whnf
     intro z hz
     conv=>whnf
     rw [aJ (by omega) (by omega)] at hz
     have hz':z=(((L.take k).flatten.length+A.length:Nat):Int):=by omega
     subst hz'
     refine And.intro (fun q=>?_) (fun q=>?_)
     . exfalso
       have:=of_decide_eq_true q
       omega
     conv=>whnf
     intro z hz
     conv=>whnf
     rw [aJ (by omega) (by omega)] at hz
     have hz':z=((k+1:Nat):Int):=by omega
     subst hz'
     refine ⟨k+1,[],(by show k+1<=L.length;omega),by omega,And.intro rfl (And.intro ?_ True.intro)⟩
     (repeat' (first | exact True.intro | exact rfl | refine And.intro ?_ ?_))
     all_goals (show DV.int _ _=DV.int _ _;rw [ht,aAm])
   . have hk':k=L.length:=by have:=of_decide_eq_false q;rw [aAh] at this;omega
     subst hk'
     rw [hfin]
     refine ⟨by omega,by (first | omega | (dsimp only;omega) | (simp;done) | (simp;omega)),by omega,fun h0=>?_,fun h0=>?_⟩
     . conv=>whnf
       refine bI (fun k:Nat=>⟨[.d (.sl (L.map fun A=>[.sl A])),.any,.any,.any,.any,.any,.row 0 0 (L.take k).flatten.length,.any,.any,.any,.any,.any,.any,.any,.any,.any,.any,.any,.any,.any,.any,.any,.any,.any,.any,.d (.sl (L.map fun A=>[.sl A])),.d (.int .i64 (L.map fun A=>[DV.sl A]).length),.d (.int .i64 k),.any,.any,.any,.any,.any,.any,.any,.any],[.row 27 1 (L.take k).flatten]⟩) (fun k=>k<=L.length) (fun k=>L.length - k) 0 [100] (aBn _) ?_ ?_
       . refine And.intro rfl (And.intro ?_ ?_)
         all_goals (repeat' (first | exact True.intro | exact rfl | refine And.intro ?_ ?_))
       . rintro k hk
         conv=>whnf
         refine And.intro (fun q=>?_) (fun q=>?_) <;> (conv=>whnf)
         . have hk':k < L.length:=by simpa using q
           obtain ⟨A,hA⟩:=hix k hk'
           have ht:=dU L hA
           have h1:=hle (k+1)
           rw [ht,aAm] at h1
           refine ⟨by omega,[.sl A],by rw [aBi,aAi,hA];rfl,rfl,?_⟩
           conv=>whnf
           refine ⟨iG hL hA,rfl,by (first | omega | (dsimp only;omega) | (simp;done) | (simp;omega)),?_⟩
           conv=>whnf
           intro z hz
           conv=>whnf
           rw [aJ (by omega) (by omega)] at hz
           have hz':z=((k+1:Nat):Int):=by omega
           subst hz'
           refine ⟨k+1,[1],(by show k+1<=L.length;omega),by omega,And.intro rfl (And.intro ?_ ?_)⟩
           all_goals (repeat' (first | exact True.intro | exact rfl | refine And.intro ?_ ?_))
           all_goals first
            | (show DV.int _ _=DV.int _ _;rw [ht,aAm])
            | exact ht.symm
            | (rw [ht,aAm];rfl)
            | skip
         . have hk':k=L.length:=by have:=of_decide_eq_false q;rw [aAh] at this;omega
           subst hk'
           rw [hfin]
           exact ⟨[0],rfl,by (repeat' (first | exact True.intro | exact rfl | refine And.intro ?_ ?_))⟩
     . conv=>whnf
       refine bI (fun k:Nat=>⟨[.d (.sl (L.map fun A=>[.sl A])),.any,.any,.any,.any,.any,.row 0 0 (L.take k).flatten.length,.any,.any,.any,.any,.any,.any,.any,.any,.any,.any,.any,.any,.any,.any,.any,.any,.any,.any,.d (.sl (L.map fun A=>[.sl A])),.d (.int .i64 (L.map fun A=>[DV.sl A]).length),.d (.int .i64 k),.any,.any,.any,.any,.any,.any,.any,.any],[.row 27 1 (L.take k).flatten]⟩) (fun k=>k<=L.length) (fun k=>L.length - k) 0 [0] (aBn _) ?_ ?_
       . refine And.intro rfl (And.intro ?_ ?_)
         all_goals (repeat' (first | exact True.intro | exact rfl | refine And.intro ?_ ?_))
       . rintro k hk
         conv=>whnf
         refine And.intro (fun q=>?_) (fun q=>?_) <;> (conv=>whnf)
         . have hk':k < L.length:=by simpa using q
           obtain ⟨A,hA⟩:=hix k hk'
           have ht:=dU L hA
           have h1:=hle (k+1)
           rw [ht,aAm] at h1
           refine ⟨by omega,[.sl A],by rw [aBi,aAi,hA];rfl,rfl,?_⟩
           conv=>whnf
           refine ⟨iG hL hA,rfl,by (first | omega | (dsimp only;omega) | (simp;done) | (simp;omega)),?_⟩
           conv=>whnf
           intro z hz
           conv=>whnf
           rw [aJ (by omega) (by omega)] at hz
           have hz':z=((k+1:Nat):Int):=by omega
           subst hz'
           refine ⟨k+1,[1],(by show k+1<=L.length;omega),by omega,And.intro rfl (And.intro ?_ ?_)⟩
           all_goals (repeat' (first | exact True.intro | exact rfl | refine And.intro ?_ ?_))
           all_goals first
            | (show DV.int _ _=DV.int _ _;rw [ht,aAm])
            | exact ht.symm
            | (rw [ht,aAm];rfl)
            | skip
         . have hk':k=L.length:=by have:=of_decide_eq_false q;rw [aAh] at this;omega
           subst hk'
           rw [hfin]
           exact ⟨[0],rfl,by (repeat' (first | exact True.intro | exact rfl | refine And.intro ?_ ?_))⟩
theorem d_catC (L:List (List (List DV))) (hL:∀ A ∈ L,∀ x ∈ A,x.length=1) (hl:L.length < 1000000) (hf:L.flatten.length < 1000000) (H:List (List Blk)) :
 aD X H 83 [.d (.sl (L.map fun A=>[.sl A]))] (.row 0 0 L.flatten.length) [⟨32,1,L.flatten⟩]:=by
 have hle:=qG L
 have hix:∀ (k:Nat),k < L.length -> ∃ A,L[k]? = some A:=fun k hk=>⟨_,aAf hk⟩
 have hfin:(L.take L.length).flatten=L.flatten:=by rw [aAw]
 refine callEq_of_body aY rfl Try.func83 rfl ?_
 conv=>whnf
 refine bI (fun k:Nat=>⟨[.d (.sl (L.map fun A=>[.sl A])),.any,.any,.d (.int .i64 (L.take k).flatten.length),.any,.any,.any,.any,.any,.d (.sl (L.map fun A=>[.sl A])),.d (.int .i64 (L.map fun A=>[DV.sl A]).length),.d (.int .i64 k),.any,.any,.any,.any,.any,.any,.any,.any,.any,.any,.any,.any,.any,.any,.any,.any,.any,.any,.any,.any,.any,.any,.any,.any],[]⟩) (fun k=>k<=L.length) (fun k=>L.length - k) 0 [] (aBn _) ?_ ?_
 . refine And.intro rfl (And.intro ?_ ?_)
   (repeat' (first | exact True.intro | exact rfl | refine And.intro ?_ ?_))
 . rintro k hk
   conv=>whnf
   refine And.intro (fun q=>?_) (fun q=>?_) <;> (conv=>whnf)
   . have hk':k < L.length:=by simpa using q
     obtain ⟨A,hA⟩:=hix k hk'
     have ht:=dU L hA
     have h1:=hle (k+1)
     rw [ht,aAm] at h1
     refine ⟨by omega,[.sl A],by rw [aBi,aAi,hA];rfl,rfl,?_⟩
     conv=>whnf
     intro z hz
     conv=>whnf
     rw [aJ (by omega) (by omega)] at hz
     have hz':z=(((L.take k).flatten.length+A.length:Nat):Int):=by omega
     subst hz'
     refine And.intro (fun q=>?_) (fun q=>?_)
     . exfalso
       have:=of_decide_eq_true q
       omega
     conv=>whnf
     intro z hz
     conv=>whnf
     rw [aJ (by omega) (by omega)] at hz
     have hz':z=((k+1:Nat):Int):=by omega
     subst hz'
     refine ⟨k+1,[],(by show k+1<=L.length;omega),by omega,And.intro rfl (And.intro ?_ True.intro)⟩
     (repeat' (first | exact True.intro | exact rfl | refine And.intro ?_ ?_))
     all_goals (show DV.int _ _=DV.int _ _;rw [ht,aAm])
   . have hk':k=L.length:=by have:=of_decide_eq_false q;rw [aAh] at this;omega
     subst hk'
     rw [hfin]
     refine ⟨by omega,by (first | omega | (dsimp only;omega) | (simp;done) | (simp;omega)),by omega,fun h0=>?_,fun h0=>?_⟩
     . conv=>whnf
       refine bI (fun k:Nat=>⟨[.d (.sl (L.map fun A=>[.sl A])),.any,.any,.any,.any,.any,.row 0 0 (L.take k).flatten.length,.any,.any,.any,.any,.any,.any,.any,.any,.any,.any,.any,.any,.any,.any,.any,.any,.any,.any,.d (.sl (L.map fun A=>[.sl A])),.d (.int .i64 (L.map fun A=>[DV.sl A]).length),.d (.int .i64 k),.any,.any,.any,.any,.any,.any,.any,.any],[.row 32 1 (L.take k).flatten]⟩) (fun k=>k<=L.length) (fun k=>L.length - k) 0 [100] (aBn _) ?_ ?_
       . refine And.intro rfl (And.intro ?_ ?_)
         all_goals (repeat' (first | exact True.intro | exact rfl | refine And.intro ?_ ?_))
       . rintro k hk
         conv=>whnf
         refine And.intro (fun q=>?_) (fun q=>?_) <;> (conv=>whnf)
         . have hk':k < L.length:=by simpa using q
           obtain ⟨A,hA⟩:=hix k hk'
           have ht:=dU L hA
           have h1:=hle (k+1)
           rw [ht,aAm] at h1
           refine ⟨by omega,[.sl A],by rw [aBi,aAi,hA];rfl,rfl,?_⟩
           conv=>whnf
           refine ⟨iG hL hA,rfl,by (first | omega | (dsimp only;omega) | (simp;done) | (simp;omega)),?_⟩
           conv=>whnf
           intro z hz
           conv=>whnf
           rw [aJ (by omega) (by omega)] at hz
           have hz':z=((k+1:Nat):Int):=by omega
           subst hz'
           refine ⟨k+1,[1],(by show k+1<=L.length;omega),by omega,And.intro rfl (And.intro ?_ ?_)⟩
           all_goals (repeat' (first | exact True.intro | exact rfl | refine And.intro ?_ ?_))
           all_goals first
            | (show DV.int _ _=DV.int _ _;rw [ht,aAm])
            | exact ht.symm
            | (rw [ht,aAm];rfl)
            | skip
         . have hk':k=L.length:=by have:=of_decide_eq_false q;rw [aAh] at this;omega
           subst hk'
           rw [hfin]
           exact ⟨[0],rfl,by (repeat' (first | exact True.intro | exact rfl | refine And.intro ?_ ?_))⟩
     . conv=>whnf
       refine bI (fun k:Nat=>⟨[.d (.sl (L.map fun A=>[.sl A])),.any,.any,.any,.any,.any,.row 0 0 (L.take k).flatten.length,.any,.any,.any,.any,.any,.any,.any,.any,.any,.any,.any,.any,.any,.any,.any,.any,.any,.any,.d (.sl (L.map fun A=>[.sl A])),.d (.int .i64 (L.map fun A=>[DV.sl A]).length),.d (.int .i64 k),.any,.any,.any,.any,.any,.any,.any,.any],[.row 32 1 (L.take k).flatten]⟩) (fun k=>k<=L.length) (fun k=>L.length - k) 0 [0] (aBn _) ?_ ?_
       . refine And.intro rfl (And.intro ?_ ?_)
         all_goals (repeat' (first | exact True.intro | exact rfl | refine And.intro ?_ ?_))
       . rintro k hk
         conv=>whnf
         refine And.intro (fun q=>?_) (fun q=>?_) <;> (conv=>whnf)
         . have hk':k < L.length:=by simpa using q
           obtain ⟨A,hA⟩:=hix k hk'
           have ht:=dU L hA
           have h1:=hle (k+1)
           rw [ht,aAm] at h1
           refine ⟨by omega,[.sl A],by rw [aBi,aAi,hA];rfl,rfl,?_⟩
           conv=>whnf
           refine ⟨iG hL hA,rfl,by (first | omega | (dsimp only;omega) | (simp;done) | (simp;omega)),?_⟩
           conv=>whnf
           intro z hz
           conv=>whnf
           rw [aJ (by omega) (by omega)] at hz
           have hz':z=((k+1:Nat):Int):=by omega
           subst hz'
           refine ⟨k+1,[1],(by show k+1<=L.length;omega),by omega,And.intro rfl (And.intro ?_ ?_)⟩
           all_goals (repeat' (first | exact True.intro | exact rfl | refine And.intro ?_ ?_))
           all_goals first
            | (show DV.int _ _=DV.int _ _;rw [ht,aAm])
            | exact ht.symm
            | (rw [ht,aAm];rfl)
            | skip
         . have hk':k=L.length:=by have:=of_decide_eq_false q;rw [aAh] at this;omega
           subst hk'
           rw [hfin]
           exact ⟨[0],rfl,by (repeat' (first | exact True.intro | exact rfl | refine And.intro ?_ ?_))⟩
theorem d_catN (L:List (List (List DV))) (hL:∀ A ∈ L,∀ x ∈ A,x.length=3) (hl:L.length < 1000000) (hf:L.flatten.length < 1000000) (H:List (List Blk)) :
 aD X H 84 [.d (.sl (L.map fun A=>[.sl A]))] (.row 0 0 L.flatten.length) [⟨26,3,L.flatten⟩]:=by
 have hle:=qG L
 have hix:∀ (k:Nat),k < L.length -> ∃ A,L[k]? = some A:=fun k hk=>⟨_,aAf hk⟩
 have hfin:(L.take L.length).flatten=L.flatten:=by rw [aAw]
 refine callEq_of_body aY rfl Try.func84 rfl ?_
 conv=>whnf
 refine bI (fun k:Nat=>⟨[.d (.sl (L.map fun A=>[.sl A])),.any,.any,.d (.int .i64 (L.take k).flatten.length),.any,.any,.any,.any,.any,.d (.sl (L.map fun A=>[.sl A])),.d (.int .i64 (L.map fun A=>[DV.sl A]).length),.d (.int .i64 k),.any,.any,.any,.any,.any,.any,.any,.any,.any,.any,.any,.any,.any,.any,.any,.any,.any,.any,.any,.any,.any,.any,.any,.any],[]⟩) (fun k=>k<=L.length) (fun k=>L.length - k) 0 [] (aBn _) ?_ ?_
 . refine And.intro rfl (And.intro ?_ ?_)
   (repeat' (first | exact True.intro | exact rfl | refine And.intro ?_ ?_))
 . rintro k hk
   conv=>whnf
   refine And.intro (fun q=>?_) (fun q=>?_) <;> (conv=>whnf)
   . have hk':k < L.length:=by simpa using q
     obtain ⟨A,hA⟩:=hix k hk'
     have ht:=dU L hA
     have h1:=hle (k+1)
     rw [ht,aAm] at h1
     refine ⟨by omega,[.sl A],by rw [aBi,aAi,hA];rfl,rfl,?_⟩
     conv=>whnf
     intro z hz
     conv=>whnf
     rw [aJ (by omega) (by omega)] at hz
     have hz':z=(((L.take k).flatten.length+A.length:Nat):Int):=by omega
     subst hz'
     refine And.intro (fun q=>?_) (fun q=>?_)
     . exfalso
       have:=of_decide_eq_true q
       omega
     conv=>whnf
     intro z hz
     conv=>whnf
     rw [aJ (by omega) (by omega)] at hz
     have hz':z=((k+1:Nat):Int):=by omega
     subst hz'
     refine ⟨k+1,[],(by show k+1<=L.length;omega),by omega,And.intro rfl (And.intro ?_ True.intro)⟩
     (repeat' (first | exact True.intro | exact rfl | refine And.intro ?_ ?_))
     all_goals (show DV.int _ _=DV.int _ _;rw [ht,aAm])
   . have hk':k=L.length:=by have:=of_decide_eq_false q;rw [aAh] at this;omega
     subst hk'
     rw [hfin]
     refine ⟨by omega,by (first | omega | (dsimp only;omega) | (simp;done) | (simp;omega)),by omega,fun h0=>?_,fun h0=>?_⟩
     . conv=>whnf
       refine bI (fun k:Nat=>⟨[.d (.sl (L.map fun A=>[.sl A])),.any,.any,.any,.any,.any,.row 0 0 (L.take k).flatten.length,.any,.any,.any,.any,.any,.any,.any,.any,.any,.any,.any,.any,.any,.any,.any,.any,.any,.any,.d (.sl (L.map fun A=>[.sl A])),.d (.int .i64 (L.map fun A=>[DV.sl A]).length),.d (.int .i64 k),.any,.any,.any,.any,.any,.any,.any,.any],[.row 26 3 (L.take k).flatten]⟩) (fun k=>k<=L.length) (fun k=>L.length - k) 0 [100] (aBn _) ?_ ?_
       . refine And.intro rfl (And.intro ?_ ?_)
         all_goals (repeat' (first | exact True.intro | exact rfl | refine And.intro ?_ ?_))
       . rintro k hk
         conv=>whnf
         refine And.intro (fun q=>?_) (fun q=>?_) <;> (conv=>whnf)
         . have hk':k < L.length:=by simpa using q
           obtain ⟨A,hA⟩:=hix k hk'
           have ht:=dU L hA
           have h1:=hle (k+1)
           rw [ht,aAm] at h1
           refine ⟨by omega,[.sl A],by rw [aBi,aAi,hA];rfl,rfl,?_⟩
           conv=>whnf
           refine ⟨iG hL hA,rfl,by (first | omega | (dsimp only;omega) | (simp;done) | (simp;omega)),?_⟩
           conv=>whnf
           intro z hz
           conv=>whnf
           rw [aJ (by omega) (by omega)] at hz
           have hz':z=((k+1:Nat):Int):=by omega
           subst hz'
           refine ⟨k+1,[1],(by show k+1<=L.length;omega),by omega,And.intro rfl (And.intro ?_ ?_)⟩
           all_goals (repeat' (first | exact True.intro | exact rfl | refine And.intro ?_ ?_))
           all_goals first
            | (show DV.int _ _=DV.int _ _;rw [ht,aAm])
            | exact ht.symm
            | (rw [ht,aAm];rfl)
            | skip
         . have hk':k=L.length:=by have:=of_decide_eq_false q;rw [aAh] at this;omega
           subst hk'
           rw [hfin]
           exact ⟨[0],rfl,by (repeat' (first | exact True.intro | exact rfl | refine And.intro ?_ ?_))⟩
     . conv=>whnf
       refine bI (fun k:Nat=>⟨[.d (.sl (L.map fun A=>[.sl A])),.any,.any,.any,.any,.any,.row 0 0 (L.take k).flatten.length,.any,.any,.any,.any,.any,.any,.any,.any,.any,.any,.any,.any,.any,.any,.any,.any,.any,.any,.d (.sl (L.map fun A=>[.sl A])),.d (.int .i64 (L.map fun A=>[DV.sl A]).length),.d (.int .i64 k),.any,.any,.any,.any,.any,.any,.any,.any],[.row 26 3 (L.take k).flatten]⟩) (fun k=>k<=L.length) (fun k=>L.length - k) 0 [0] (aBn _) ?_ ?_
       . refine And.intro rfl (And.intro ?_ ?_)
         all_goals (repeat' (first | exact True.intro | exact rfl | refine And.intro ?_ ?_))
       . rintro k hk
         conv=>whnf
         refine And.intro (fun q=>?_) (fun q=>?_) <;> (conv=>whnf)
         . have hk':k < L.length:=by simpa using q
           obtain ⟨A,hA⟩:=hix k hk'
           have ht:=dU L hA
           have h1:=hle (k+1)
           rw [ht,aAm] at h1
           refine ⟨by omega,[.sl A],by rw [aBi,aAi,hA];rfl,rfl,?_⟩
           conv=>whnf
           refine ⟨iG hL hA,rfl,by (first | omega | (dsimp only;omega) | (simp;done) | (simp;omega)),?_⟩
           conv=>whnf
           intro z hz
           conv=>whnf
           rw [aJ (by omega) (by omega)] at hz
           have hz':z=((k+1:Nat):Int):=by omega
           subst hz'
           refine ⟨k+1,[1],(by show k+1<=L.length;omega),by omega,And.intro rfl (And.intro ?_ ?_)⟩
           all_goals (repeat' (first | exact True.intro | exact rfl | refine And.intro ?_ ?_))
           all_goals first
            | (show DV.int _ _=DV.int _ _;rw [ht,aAm])
            | exact ht.symm
            | (rw [ht,aAm];rfl)
            | skip
         . have hk':k=L.length:=by have:=of_decide_eq_false q;rw [aAh] at this;omega
           subst hk'
           rw [hfin]
           exact ⟨[0],rfl,by (repeat' (first | exact True.intro | exact rfl | refine And.intro ?_ ?_))⟩
def bl (d:Bool) (e sz:Nat) (xs:List (List DV)):Blk:=match d with | true=>.deep e sz xs | false=>.row e sz xs
def szD (d:Bool) (sz:Nat):Nat:=match d with | true=>sz+64 | false=>sz
theorem yA {d:Bool} {e sz S:Nat} {xs:List (List DV)} (hS:S=szD d sz) (he:Nat.ble 64 sz=false) (hsz:Nat.beq sz 0=false):RowB.blk ⟨e,S,xs⟩=bl d e sz xs:=by
 cases d with
 | true=>exact jM hS hsz
 | false=>subst hS;exact eD he hsz
theorem nB (d:Bool) (e sz:Nat) (xs:List (List DV)):(bl d e sz xs).live=true:=by cases d <;> rfl
theorem sX (d:Bool) (e sz:Nat) (xs:List (List DV)):(bl d e sz xs).isSub=false:=by cases d <;> rfl
theorem raw_sl {w:World} {ok:Nat->Prop} {sz:Nat} {xs:List (List DV)} {v:Value} (h:RD w ok (.sl xs) v) (hx:∀ x ∈ xs,x.length=sz):∃ rs:List (List DV),rs.length=xs.length/\(∀ x ∈ rs,x.length=sz)/\RD w ok (.sl rs) v /\
 ∀ (i:Nat) x (j:Nat) y,xs[i]? = some x->x[j]? = some y -> ∃ x' u,rs[i]? = some x'/\x'[j]? = some (.val u)/\RD w ok y u:=by
 cases h with
 | sl sz' _ A n c ad u hn hc hm hA hs hcell hr=>
   have hsz:∀ x ∈ xs,sz'=sz:=fun x h=>by rw [<- hs x h,hx x h]
   have get:∀ (i:Nat),i < xs.length->((List.range xs.length).map fun i=>(List.range sz).map fun j=>DV.val (u (i*sz+j)))[i]? = some ((List.range sz).map fun j=>DV.val (u (i*sz+j))):=fun i hi=>by
    rw [aAi,List.getElem?_range hi];rfl
   have inv:∀ (i:Nat) x (j:Nat) y,((List.range xs.length).map fun i=>(List.range sz).map fun j=>DV.val (u (i*sz+j)))[i]? = some x->x[j]? = some y->i < xs.length/\j < sz/\y = .val (u (i*sz+j)) /\ ∃ x0 y0,xs[i]? = some x0/\x0[j]? = some y0/\sz'=sz:=fun i x j y h1 h2=>by
    have hi:i < xs.length:=by have:=(aAe.1 h1).1;simpa using this
    rw [get i hi] at h1
    cases h1
    have hj:j < sz:=by have:=(aAe.1 h2).1;simpa using this
    rw [aAi,List.getElem?_range hj] at h2
    cases h2
    have hm:=aBf hi
    exact ⟨hi,hj,rfl,xs[i],xs[i][j]'(by rw [hx _ hm];exact hj),aAf hi,aAf _,hsz _ hm⟩
   refine ⟨(List.range xs.length).map fun i=>(List.range sz).map fun j=>DV.val (u (i*sz+j)),by simp,fun x h=>?_,?_,fun i x j y h1 h2=>?_⟩
   . obtain ⟨i,_,rfl⟩:=aBc.1 h
     simp
   . refine .sl sz _ A n c ad u (by simpa using hn) hc hm hA (fun x h=>?_) (fun i x j y h1 h2=>?_) (fun i x j y h1 h2=>?_)
     . obtain ⟨i,_,rfl⟩:=aBc.1 h
       simp
     . obtain ⟨_,_,_,x0,y0,h3,h4,rfl⟩:=inv i x j y h1 h2
       exact hcell i x0 j y0 h3 h4
     . obtain ⟨_,_,rfl,x0,y0,h3,h4,rfl⟩:=inv i x j y h1 h2
       exact .val _ (hr i x0 j y0 h3 h4).one
   . have hi:=(aAe.1 h1).1
     have hm:=aAg h1
     have hj:j < sz:=by rw [<- hx x hm];exact (aAe.1 h2).1
     refine ⟨_,u (i*sz+j),get i hi,by rw [aAi,List.getElem?_range hj];rfl,?_⟩
     rw [<- hsz x hm]
     exact hr i x j y h1 h2
theorem vF {w:World} {ok:Nat->Prop} {sz:Nat}:∀ (mid:List (List (List DV))) (f:Nat->Value),(∀ A ∈ mid,∀ x ∈ A,x.length=sz)->(∀ (i:Nat) c,mid[i]? = some c->RD w ok (.sl c) (f i)) ->
 ∃ rm:List (List (List DV)),rm.length=mid.length/\(∀ A ∈ rm,∀ x ∈ A,x.length=sz)/\rm.flatten.length=mid.flatten.length/\(∀ (i:Nat) r,rm[i]? = some r->RD w ok (.sl r) (f i)) /\
   ∀ (q:Nat) x (j:Nat) y,mid.flatten[q]? = some x->x[j]? = some y -> ∃ x' u,rm.flatten[q]? = some x'/\x'[j]? = some (.val u)/\RD w ok y u
 | [],f,_,_=>⟨[],rfl,fun A h=>(by cases h),rfl,fun i r h=>by simp at h,fun q x j y h=>by simp at h⟩
 | c::mid,f,hm,hf=>by
   obtain ⟨rs,r1,r2,r3,r4⟩:=raw_sl (hf 0 c rfl) (hm c aAu)
   obtain ⟨rm,m1,m2,m3,m4,m5⟩:=vF mid (fun i=>f (i+1)) (fun A h=>hm A (aAv _ h)) (fun i c h=>hf (i+1) c (by simpa using h))
   refine ⟨rs::rm,by simp [m1],fun A h=>?_,by simp [r1,m3],fun i r h=>?_,fun q x j y h1 h2=>?_⟩
   . cases h with
     | head=>exact r2
     | tail _ h=>exact m2 A h
   . cases i with
     | zero=>simp at h;subst h;exact r3
     | succ i=>exact m4 i r (by simpa using h)
   . rw [List.flatten_cons] at h1 ⊢
     rcases aBl q c.length with h | h
     . rw [aAk h] at h1
       rw [aAk (by omega)]
       exact r4 q x j y h1 h2
     . rw [aAj h] at h1
       rw [aAj (by omega),r1]
       exact m5 _ x j y h1 h2
theorem pH {m:M} {top:List Blk} {H:List (List Blk)} (hi:Inv m top H) {i:Nat} {d:Bool} {e sz:Nat} {xs:List (List DV)} (hb:top[i]? = some (bl d e sz xs)) {v:Value} (hv:m.ρ 0 i=some v) :
 RO m.w m.ok (.own e sz xs) v/\(∀ k,Ins m.w (.own e sz xs) v k->(bl d e sz xs).has m.w v k)/\(d=false -> ∀ (flat:List Value),m.w.ownsRow 0 e sz v xs.length flat -> ∀ (i:Nat) x (j:Nat) y u,xs[i]? = some x->x[j]? = some y->flat[i*sz+j]? = some u->RD m.w m.ok y u):=by
 cases d with
 | true=>
   obtain ⟨h1,h2⟩:=lZ hi (.inr hb) hv
   exact ⟨h1,fun k hk=>hk,fun h=>by cases h⟩
 | false=>
   obtain ⟨h1,h2⟩:=lZ hi (.inl hb) hv
   refine ⟨h1,fun k hk=>?_,fun _ flat ho a x j y u hx hy hu=>?_⟩
   . obtain ⟨b,q1,_,q2⟩:=h2 k hk
     rw [hb] at q1
     cases q1
     exact q2
   . obtain ⟨_,_,flat',ho',hr⟩:=hi.blk 0 i _ hb v hv
     rw [ownsRow_inj ho ho'] at hu
     exact hr a x j y u hx hy hu
theorem oI {C:Cx} {H:List (List Blk)} {f e sz S:Nat} (d:Bool) (hS:S=szD d sz) {As Bs:List (List DV)} {mid:List (List (List DV))} (he:Nat.ble 64 sz=false) (hsz:Nat.beq sz 0=false) (hmid:∀ A ∈ mid,∀ x ∈ A,x.length=sz)
 (hcall:∀ L:List (List (List DV)),L.length=mid.length+2->(∀ A ∈ L,∀ x ∈ A,x.length=sz)->L.flatten.length=As.length+mid.flatten.length+Bs.length->aD C H f [.d (.sl (L.map fun A=>[.sl A]))] (.row 0 0 L.flatten.length) [⟨e,sz,L.flatten⟩]) :
 aE C H f [⟨e,S,As⟩,⟨e,S,Bs⟩] [.lits (([.row 0 0 As.length]::mid.map fun c=>[.d (.sl c)]) ++ [[.row 0 1 Bs.length]])] [none,none] (.row 0 0 (As.length+mid.flatten.length+Bs.length)) [⟨e,S,As++mid.flatten++Bs⟩]:=by
 have hb:∀ ys,RowB.blk ⟨e,S,ys⟩=bl d e sz ys:=fun ys=>yA hS he hsz
 have h0':0 < sz:=by
  rcases Nat.eq_zero_or_pos sz with h | h
  . subst h;cases hsz
  . exact h
 unfold aE
 simp only [List.map_cons,List.map_nil,gblk,hb]
 refine ⟨rfl,fun m vs hinv hfree hlen hargs=>?_⟩
 obtain ⟨v0,rfl⟩:∃ v0,vs = #[v0]:=by
  match vs,hlen with
  | ⟨[a]⟩,_=>exact ⟨a,rfl⟩
 have a0:=hargs 0 _ v0 rfl rfl
 generalize hps:(([PV.row 0 0 As.length]::mid.map fun c=>[PV.d (.sl c)]) ++ [[PV.row 0 1 Bs.length]])=ps at *
 have hpl:ps.length=mid.length+2:=by rw [<- hps];simp
 have hp0:ps[0]? = some [PV.row 0 0 As.length]:=by rw [<- hps];rfl
 have hpm:∀ (i:Nat) c,mid[i]? = some c->ps[i+1]? = some [PV.d (.sl c)]:=fun i c hc=>by
  have:i < mid.length:=(aAe.1 hc).1
  rw [<- hps,aAk (by simp;omega),aBa,aAi,hc];rfl
 have hpn:ps[mid.length+1]? = some [PV.row 0 1 Bs.length]:=by
  rw [<- hps,aAj (by simp)];simp
 cases a0 with
 | lits szl _ ad u l0 lm ls lc lr=>
 have hszl:szl=1:=by have:=ls _ (aAg hp0);simpa using this.symm
 subst hszl
 have rpA:=lr 0 _ 0 _ hp0 rfl
 have rpB:=lr (mid.length+1) _ 0 _ hpn rfl
 simp only [Nat.mul_one,Nat.add_zero,Nat.zero_mul] at rpA rpB
 have rpM:∀ (i:Nat) c,mid[i]? = some c->RD m.w m.ok (.sl c) (u (i+1)):=fun i c hc=>by
  have:=lr (i+1) _ 0 _ (hpm i c hc) rfl
  simp only [Nat.mul_one,Nat.add_zero] at this
  cases this with | d _ _ h=>exact h
 have hTA : [bl d e sz As,bl d e sz Bs][0]? = some (bl d e sz As):=rfl
 have hTB : [bl d e sz As,bl d e sz Bs][1]? = some (bl d e sz Bs):=rfl
 have hdrA:∃ V,m.ρ 0 0=some V/\u 0=V:=by
  generalize hu0:u 0=v at rpA
  cases rpA with
  | row _ _ _ N c A hρ hn hc=>
    have:=(pH hinv hTA hρ).1
    obtain ⟨flat,_,_,ho,_⟩:=this.parts
    have hN:=(owns_hdr ho).1
    rw [hN] at hρ
    exact ⟨_,hρ,rfl⟩
 have hdrB:∃ V,m.ρ 0 1=some V/\u (mid.length+1)=V:=by
  generalize hu0:u (mid.length+1)=v at rpB
  cases rpB with
  | row _ _ _ N c A hρ hn hc=>
    have:=(pH hinv hTB hρ).1
    obtain ⟨flat,_,_,ho,_⟩:=this.parts
    have hN:=(owns_hdr ho).1
    rw [hN] at hρ
    exact ⟨_,hρ,rfl⟩
 clear rpA rpB
 obtain ⟨VA,hρA,hVA⟩:=hdrA
 obtain ⟨VB,hρB,hVB⟩:=hdrB
 obtain ⟨roA,hasA,plA⟩:=pH hinv hTA hρA
 obtain ⟨roB,hasB,plB⟩:=pH hinv hTB hρB
 obtain ⟨flA,_,hsA,hoA,hrA,hdA,spA⟩:=roA.parts
 obtain ⟨flB,_,hsB,hoB,hrB,hdB,spB⟩:=roB.parts
 have liveA:=nB d e sz As
 have liveB:=nB d e sz Bs
 have UA:∀ k,Ins m.w (.own e sz As) VA k->m.U k:=fun k hk=>hinv.own 0 0 _ VA k hTA liveA hρA (hasA k hk)
 have UB:∀ k,Ins m.w (.own e sz Bs) VB k->m.U k:=fun k hk=>hinv.own 0 1 _ VB k hTB liveB hρB (hasB k hk)
 have headA:∀ k,blkOf VA=some k->m.U k:=fun k hk=>UA k (.head _ _ _ _ _ hk)
 have headB:∀ k,blkOf VB=some k->m.U k:=fun k hk=>UB k (.head _ _ _ _ _ hk)
 have sepAB:∀ k,Ins m.w (.own e sz As) VA k->Ins m.w (.own e sz Bs) VB k->False:=fun k h1 h2=>by
  have:=(hinv.inj 0 0 _ 0 1 _ VA VB k hTA liveA hTB liveB hρA hρB (hasA k h1) (hasB k h2)).2
  cases this
 have mineA:∀ k,Ins m.w (.own e sz As) VA k->Mine m [bl d e sz As,bl d e sz Bs] k:=fun k hk=>⟨0,_,VA,hTA,liveA,hρA,hasA k hk⟩
 have mineB:∀ k,Ins m.w (.own e sz Bs) VB k->Mine m [bl d e sz As,bl d e sz Bs] k:=fun k hk=>⟨1,_,VB,hTB,liveB,hρB,hasB k hk⟩
 let mh:M:=⟨m.w,fun l i=>match l with | 0=>none | l+1=>m.ρ (l+1) i,fun k=>m.U k/\blkOf VA≠some k/\blkOf VB≠some k⟩
 have okh:∀ k,m.ok k->mh.ok k:=fun k hk=>⟨hk.1,fun hu=>hk.2 hu.1⟩
 have farInj:∀ l i b v k,getB [bl d e sz As,bl d e sz Bs] H (l+1) i=some b->b.live=true->m.ρ (l+1) i=some v->b.has m.w v k -> ¬ Ins m.w (.own e sz As) VA k /\ ¬ Ins m.w (.own e sz Bs) VB k:=fun l i b v k h1 h2 h3 h4=>by
  refine ⟨fun h=>?_,fun h=>?_⟩
  . have:=(hinv.inj (l+1) i b 0 0 _ v VA k h1 h2 hTA liveA h3 hρA h4 (hasA k h)).1
    cases this
  . have:=(hinv.inj (l+1) i b 0 1 _ v VB k h1 h2 hTB liveB h3 hρB h4 (hasB k h)).1
    cases this
 have hinvh:Inv mh [] H:=by
  refine ⟨fun l i b hb=>?_,fun l i b l' i' b' v v' k h1 h2 h3 h4 h5 h6 h7 h8=>?_,fun l i b v k h1 h2 h3 h4=>?_,fun k hk=>hinv.lt k hk.1,Views.none fun i p e c h=>by simp at h⟩
  . cases l with
    | zero=>simp [getB] at hb
    | succ l=>
      have hbo:=hinv.blk (l+1) i b hb
      cases b with
      | dead=>trivial
      | gen Y st=>trivial
      | sub _ _ _=>trivial
      | row e sz xs=>
        intro u hu
        obtain ⟨a1,a2,flat,a3,a4⟩:=hbo u hu
        exact ⟨a1,a2,flat,a3,fun i x j y u hx hy hu=>(a4 i x j y u hx hy hu).mono fun k hk=>⟨okh k hk,rfl⟩⟩
      | deep e sz xs=>exact fun u hu=>RO.mono (fun k hk=>⟨okh k hk,rfl⟩) (hbo u hu) (fun _ _=>rfl)
      | box cs=>
        intro u hu
        obtain ⟨g,us,e,q1,q2,q3,q4⟩:=hbo u hu
        refine ⟨g,us,e,q1,q2,q3,fun j p x hp hx=>?_⟩
        have K:Keep (m.up (l+1)) (mh.up (l+1)):=⟨fun a i' u' hu'=>hu',aBo _,fun k hk=>⟨fun hu=>hk.2 hu.1,rfl⟩⟩
        exact (q4 j p x hp hx).keep K
  . cases l with
    | zero=>simp [getB] at h1
    | succ l=>
      cases l' with
      | zero=>simp [getB] at h3
      | succ l'=>exact hinv.inj (l+1) i b (l'+1) i' b' v v' k h1 h2 h3 h4 h5 h6 h7 h8
  . cases l with
    | zero=>simp [getB] at h1
    | succ l=>
      obtain ⟨f1,f2⟩:=farInj l i b v k h1 h2 h3 h4
      exact ⟨hinv.own (l+1) i b v k h1 h2 h3 h4,fun h=>f1 (.head _ _ _ _ _ h),fun h=>f2 (.head _ _ _ _ _ h)⟩
 have oneA:=kQ (w:=m.w) (ok:=m.ok) (e:=e) (V:=VA) h0' hsA hoA.1 hrA
 have oneB:=kQ (w:=m.w) (ok:=m.ok) (e:=e) (V:=VB) h0' hsB hoB.1 hrB
 obtain ⟨rm,m1,m2,m3,m4,m5⟩:=vF (sz:=sz) mid (fun i=>u (i+1)) hmid rpM
 have lenA:=cU flA sz As.length
 have lenB:=cU flB sz Bs.length
 generalize hL:bB flA sz As.length::rm ++ [bB flB sz Bs.length]=L
 have hLl:L.length=mid.length+2:=by rw [<- hL];simp [m1]
 have hLs:∀ A ∈ L,∀ x ∈ A,x.length=sz:=fun A hA x hx=>by
  rw [<- hL] at hA
  rcases aA5.1 hA with hA | hA
  . rcases List.mem_cons.1 hA with rfl | hA
    . exact bO _ _ _ x hx
    . exact m2 A hA x hx
  . rw [aAy.1 hA] at hx
    exact bO _ _ _ x hx
 have hLf:L.flatten=bB flA sz As.length++rm.flatten++bB flB sz Bs.length:=by rw [<- hL];simp
 have hLn:L.flatten.length=As.length+mid.flatten.length+Bs.length:=by rw [hLf,aAm,aAm,lenA,lenB,m3]
 have call:=hcall L hLl hLs hLn
 rw [hLn] at call
 unfold aD at call
 have hRDA:RD mh.w mh.ok (.sl (bB flA sz As.length)) VA:=by
  refine rd_owns (e:=e) (sz:=sz) (flat:=flA) (bO _ _ _) (by rw [lenA];exact hoA) (fun k hk=>⟨hinv.lt k (headA k hk),fun hu=>hu.2.1 hk⟩) (fun i x j y u hx hy hu=>?_)
  obtain ⟨h1,h2,rfl⟩:=cM hx hy
  rw [aA2,hu]
  exact .val u (oneA _ u hu)
 have hRDB:RD mh.w mh.ok (.sl (bB flB sz Bs.length)) VB:=by
  refine rd_owns (e:=e) (sz:=sz) (flat:=flB) (bO _ _ _) (by rw [lenB];exact hoB) (fun k hk=>⟨hinv.lt k (headB k hk),fun hu=>hu.2.2 hk⟩) (fun i x j y u hx hy hu=>?_)
  obtain ⟨h1,h2,rfl⟩:=cM hx hy
  rw [aA2,hu]
  exact .val u (oneB _ u hu)
 have hLi:∀ (i:Nat) r,L[i]? = some r->RD mh.w mh.ok (.sl r) (u i):=fun i r hr=>by
  rw [<- hL] at hr
  rcases aBl i (rm.length+1) with hi | hi
  . rw [aAk (by simpa using hi)] at hr
    cases i with
    | zero=>simp at hr;subst hr;rw [hVA];exact hRDA
    | succ i=>exact (m4 i r (by simpa using hr)).mono fun k hk=>⟨okh k hk,rfl⟩
  . rw [aAj (by simpa using hi)] at hr
    have hi2:i=rm.length+1:=by
     have:=(aAe.1 hr).1
     simp at this;omega
    subst hi2
    simp at hr
    subst hr
    rw [m1,hVB];exact hRDB
 refine (call mh #[.slice (some ad) ps.length ps.length] hinvh (fun _=>rfl) rfl (fun j p v hp hv=>?_)).mono ?_
 . match j with
   | 0=>
     obtain rfl:=aBr (show some _=some p from hp)
     obtain rfl:=aBr (show some _=some v from hv)
     have hcell:∀ (i:Nat) x (j:Nat) y,(L.map fun A=>[DV.sl A])[i]? = some x->x[j]? = some y->j=0 /\ ∃ r q,L[i]? = some r/\y = .sl r/\ps[i]? = some [q]:=fun i x j y hx hy=>by
      rw [aAi] at hx
      obtain ⟨r,hr,rfl⟩:=aBq.1 hx
      have hj:j=0:=by have:=(aAe.1 hy).1;simp at this;exact this
      subst hj
      have hil:i < L.length:=(aAe.1 hr).1
      have hip:i < ps.length:=by omega
      obtain ⟨q,hq⟩:∃ q,ps[i] = [q]:=List.length_eq_one_iff.1 (ls ps[i] (aBf hip))
      exact ⟨rfl,r,q,hr,(aBr (show some (DV.sl r)=some y from hy)).symm,by rw [aAf hip,hq]⟩
     refine .d _ _ (.sl 1 _ (some ad) ps.length ps.length ad u (by simp;omega) (aBo _) lm (fun _=>rfl) (fun x hx=>by obtain ⟨r,_,rfl⟩:=aBc.1 hx;rfl) (fun i x j y hx hy=>?_) (fun i x j y hx hy=>?_))
     . obtain ⟨rfl,r,q,h1,h2,h3⟩:=hcell i x j y hx hy
       obtain ⟨q1,q2⟩:=lc i [q] 0 q h3 rfl
       exact ⟨okh _ q1,q2⟩
     . obtain ⟨rfl,r,q,h1,rfl,h3⟩:=hcell i x j y hx hy
       rw [Nat.mul_one,Nat.add_zero]
       exact hLi i r h1
   | j+1=>simp at hp
 . rintro ex w' ⟨v,m',rfl,rfl,hG,hup,hfr,hI,hR⟩
   have hbv : [(⟨e,sz,L.flatten⟩:RowB)].map RowB.blk = [.row e sz L.flatten]:=by simp only [List.map_cons,List.map_nil];rw [eD he hsz]
   rw [hbv] at hfr hI
   cases hR with
   | row _ _ _ N1 c1 A1 hρ1 hn1 hc1=>
   obtain ⟨_,hsv,flat1,ho1,hr1⟩:=hI.blk 0 0 _ rfl _ hρ1
   rw [hLn] at ho1
   generalize hV1:Value.slice A1 N1 c1=V1 at *
   have hsize:m.w.heap.size<=m'.w.heap.size:=hG.size
   have hheap:∀ k,k < m.w.heap.size->m'.w.heap[k]? = m.w.heap[k]?:=hG.heap
   have hnew1:∀ k,blkOf V1=some k->m.w.heap.size<=k:=fun k hk=>hfr 0 _ V1 k rfl hρ1 hk
   have hZl:(As++mid.flatten++Bs).length=As.length+mid.flatten.length+Bs.length:=by simp;omega
   have cell:∀ (q:Nat) x (j:Nat) y u',(As++mid.flatten++Bs)[q]? = some x->x[j]? = some y->flat1[q*sz+j]? = some u' ->
    (q < As.length/\As[q]? = some x/\flA[q*sz+j]? = some u')\/(As.length<=q/\RD m.w m.ok y u')\/(As.length+mid.flatten.length<=q/\Bs[q - (As.length+mid.flatten.length)]? = some x/\flB[(q - (As.length+mid.flatten.length))*sz+j]? = some u'):=fun q x j y u' hx hy hu=>by
    have side:∀ (fl:List Value) (n q':Nat) (x':List DV),fl.length=n*sz->q' < n->j < sz->(bB fl sz n)[q']? = some x'->L.flatten[q]? = some x'->fl[q'*sz+j]? = some u':=fun fl n q' x' hfl hq hj hx' hLq=>by
     have hxl:=bO fl sz n x' (aAg hx')
     obtain ⟨y',hy'⟩:∃ y',x'[j]? = some y':=⟨_,aAf (by omega)⟩
     obtain ⟨_,_,rfl⟩:=cM hx' hy'
     have hrd:=hr1 q x' j _ u' hLq hy' hu
     have hlt:q'*sz+j < fl.length:=by
      rw [hfl]
      have:q'*sz+sz<=n*sz:=by rw [<- Nat.succ_mul];exact Nat.mul_le_mul_right _ hq
      omega
     rw [aA2,aAf hlt,aB0] at hrd
     rw [aAf hlt]
     generalize fl[q'*sz+j]=z at hrd
     cases hrd;rfl
    rcases aBl q As.length with h1 | h1
    . rw [aBb,aAk h1] at hx
      have hj:j < sz:=by rw [<- hsA x (aAg hx)];exact (aAe.1 hy).1
      obtain ⟨x',hx'⟩:∃ x',(bB flA sz As.length)[q]? = some x':=⟨_,aAf (by omega)⟩
      exact .inl ⟨h1,hx,side flA As.length q x' hoA.1 h1 hj hx' (by rw [hLf,aBb,aAk (by omega)];exact hx')⟩
    . rcases aBl q (As.length+mid.flatten.length) with h2 | h2
      . rw [aBb,aAj h1,aAk (by omega)] at hx
        obtain ⟨x',u2,q1,q2,q3⟩:=m5 _ x j y hx hy
        have hLq:L.flatten[q]? = some x':=by
         have e1:(bB flA sz As.length).length<=q:=by rw [lenA];exact h1
         have e2:q - As.length < rm.flatten.length:=(aAe.1 q1).1
         rw [hLf,aBb,aAj e1,lenA,aAk e2];exact q1
        have hrd:=hr1 q x' j _ u' hLq q2 hu
        cases hrd
        exact .inr (.inl ⟨h1,q3⟩)
      . have e0:(As++mid.flatten).length=As.length+mid.flatten.length:=aAm
        rw [aAj (by rw [e0];exact h2),e0] at hx
        have hq':q - (As.length+mid.flatten.length) < Bs.length:=(aAe.1 hx).1
        have hj:j < sz:=by rw [<- hsB x (aAg hx)];exact (aAe.1 hy).1
        obtain ⟨x',hx'⟩:∃ x',(bB flB sz Bs.length)[q - (As.length+mid.flatten.length)]? = some x':=⟨_,aAf (by omega)⟩
        refine .inr (.inr ⟨h2,hx,side flB Bs.length _ x' hoB.1 hq' hj hx' ?_⟩)
        have e1:(bB flA sz As.length++rm.flatten).length=As.length+mid.flatten.length:=by rw [aAm,lenA,m3]
        rw [hLf,aAj (by rw [e1];exact h2),e1]
        exact hx'
   let m2:M:=⟨m'.w,fun l i=>match l with | 0=>(match i with | 0=>some V1 | 1=>some VA | 2=>some VB | _+3=>none) | l+1=>m.ρ (l+1) i,fun k=>m'.U k\/blkOf VA=some k\/blkOf VB=some k⟩
   let m3':M:=⟨m'.w,m.ρ,m2.U⟩
   have hU:∀ k,k < m.w.heap.size->(m2.U k↔m.U k):=fun k hk=>by
    have:=hG.U k hk
    constructor
    . rintro (h | h | h)
      . exact (this.1 h).1
      . exact headA k h
      . exact headB k h
    . intro h
      by_cases hh:blkOf VA=some k
      . exact .inr (.inl hh)
      . by_cases hh2:blkOf VB=some k
        . exact .inr (.inr hh2)
        . exact .inl (this.2 ⟨h,hh,hh2⟩)
   have hK3:Keep m m3':=⟨fun _ _ _ h=>h,hsize,fun k hk=>⟨fun hu=>hk.2 ((hU k hk.1).1 hu),hheap k hk.1⟩⟩
   have hok2:∀ k,m.ok k->m2.ok k/\m2.w.heap[k]? = m.w.heap[k]?:=fun k hk=>⟨⟨aBk hk.1 hsize,fun hu=>hk.2 ((hU k hk.1).1 hu)⟩,hheap k hk.1⟩
   have insA:∀ (i:Nat) x (j:Nat) y u,As[i]? = some x->x[j]? = some y->flA[i*sz+j]? = some u -> ∀ k,Ins m.w y u k->Ins m.w (.own e sz As) VA k:=fun i x j y u hx hy hu k hk=>.cell _ _ _ _ _ flA i x j y u hoA hx hy hu hk
   have insB:∀ (i:Nat) x (j:Nat) y u,Bs[i]? = some x->x[j]? = some y->flB[i*sz+j]? = some u -> ∀ k,Ins m.w y u k->Ins m.w (.own e sz Bs) VB k:=fun i x j y u hx hy hu k hk=>.cell _ _ _ _ _ flB i x j y u hoB hx hy hu hk
   have inZ:∀ (q:Nat) x (j:Nat) y u' k,(As++mid.flatten++Bs)[q]? = some x->x[j]? = some y->flat1[q*sz+j]? = some u'->Ins m'.w y u' k->Ins m.w y u' k/\((q < As.length/\As[q]? = some x/\flA[q*sz+j]? = some u')\/(As.length+mid.flatten.length<=q/\Bs[q - (As.length+mid.flatten.length)]? = some x/\flB[(q - (As.length+mid.flatten.length))*sz+j]? = some u')):=fun q x j y u' k hx hy hu hk=>by
    rcases cell q x j y u' hx hy hu with ⟨a1,a2,a3⟩ | ⟨_,a1⟩ | ⟨a1,a2,a3⟩
    . exact ⟨hk.back fun k' hk'=>hheap k' (hinv.lt k' (UA k' (insA q x j y u' a2 hy a3 k' hk'))),.inl ⟨a1,a2,a3⟩⟩
    . exact absurd hk ((RD.mono hok2 a1).not_own k)
    . exact ⟨hk.back fun k' hk'=>hheap k' (hinv.lt k' (UB k' (insB _ x j y u' a2 hy a3 k' hk'))),.inr ⟨a1,a2,a3⟩⟩
   have roZ:RO m2.w m2.ok (.own e sz (As++mid.flatten++Bs)) V1:=by
    have len:∀ x ∈ As++mid.flatten++Bs,x.length=sz:=fun x hx=>by
     rcases aA5.1 hx with hx | hx
     . rcases aA5.1 hx with hx | hx
       . exact hsA x hx
       . obtain ⟨A,hA,hx⟩:=List.mem_flatten.1 hx
         exact hmid A hA x hx
     . exact hsB x hx
    refine .own e sz _ V1 flat1 h0' len (by rw [hZl];exact ho1) (fun q x j y u' hx hy hu=>?_) (fun q x j y u' k hx hy hu hk h=>?_) (fun q x j y u' q2 x2 j2 y2 u2 k hx hy hu hx2 hy2 hu2 hk hk2=>?_)
    . rcases cell q x j y u' hx hy hu with ⟨a1,a2,a3⟩ | ⟨_,a1⟩ | ⟨a1,a2,a3⟩
      . exact (hrA q x j y u' a2 hy a3).mono hok2 (fun k hk=>hheap k (hinv.lt k (UA k (insA q x j y u' a2 hy a3 k hk))))
      . exact .plain _ _ (a1.mono hok2)
      . exact (hrB _ x j y u' a2 hy a3).mono hok2 (fun k hk=>hheap k (hinv.lt k (UB k (insB _ x j y u' a2 hy a3 k hk))))
    . obtain ⟨h1,h2⟩:=inZ q x j y u' k hx hy hu hk
      have h3:=hnew1 k h
      rcases h2 with ⟨_,a2,a3⟩ | ⟨_,a2,a3⟩
      . have:=hinv.lt k (UA k (insA q x j y u' a2 hy a3 k h1));omega
      . have:=hinv.lt k (UB k (insB _ x j y u' a2 hy a3 k h1));omega
    . obtain ⟨h1,h2⟩:=inZ q x j y u' k hx hy hu hk
      obtain ⟨h3,h4⟩:=inZ q2 x2 j2 y2 u2 k hx2 hy2 hu2 hk2
      rcases h2 with ⟨_,a2,a3⟩ | ⟨a1,a2,a3⟩ <;> rcases h4 with ⟨_,b2,b3⟩ | ⟨b1,b2,b3⟩
      . exact spA q x j y u' q2 x2 j2 y2 u2 k a2 hy a3 b2 hy2 b3 h1 h3
      . exact (sepAB k (insA q x j y u' a2 hy a3 k h1) (insB _ x2 j2 y2 u2 b2 hy2 b3 k h3)).elim
      . exact (sepAB k (insA q2 x2 j2 y2 u2 b2 hy2 b3 k h3) (insB _ x j y u' a2 hy a3 k h1)).elim
      . obtain ⟨e1,e2⟩:=spB _ x j y u' _ x2 j2 y2 u2 k a2 hy a3 b2 hy2 b3 h1 h3
        exact ⟨by omega,e2⟩
   have hasZ:∀ k,(bl d e sz (As++mid.flatten++Bs)).has m'.w V1 k->blkOf V1=some k\/Ins m.w (.own e sz As) VA k\/Ins m.w (.own e sz Bs) VB k:=fun k hk=>by
    cases d with
    | false=>exact .inl hk
    | true=>
      have hk:Ins m'.w (.own e sz (As++mid.flatten++Bs)) V1 k:=hk
      cases hk with
      | head _ _ _ _ _ h=>exact .inl h
      | cell _ _ _ _ _ fl q x j y u' hoo hx hy hu h=>
        rw [hZl] at hoo
        obtain rfl:=ownsRow_inj ho1 hoo
        obtain ⟨h1,h2⟩:=inZ q x j y u' k hx hy hu h
        rcases h2 with ⟨_,a2,a3⟩ | ⟨_,a2,a3⟩
        . exact .inr (.inl (insA q x j y u' a2 hy a3 k h1))
        . exact .inr (.inr (insB _ x j y u' a2 hy a3 k h1))
   have okZ:BlkOk m2 0 0 (bl d e sz (As++mid.flatten++Bs)):=by
    cases d with
    | true=>intro v hv;cases hv;exact roZ
    | false=>
      intro v hv
      cases hv
      obtain ⟨flat,_,len,ho,_⟩:=roZ.parts
      rw [hZl] at ho
      refine ⟨h0',len,flat1,by rw [hZl];exact ho1,fun q x j y u' hx hy hu=>?_⟩
      rcases cell q x j y u' hx hy hu with ⟨a1,a2,a3⟩ | ⟨_,a1⟩ | ⟨a1,a2,a3⟩
      . exact (plA rfl flA hoA q x j y u' a2 hy a3).mono hok2
      . exact a1.mono hok2
      . exact (plB rfl flB hoB _ x j y u' a2 hy a3).mono hok2
   have top2:∀ i b,[bl d e sz (As++mid.flatten++Bs),Blk.dead,Blk.dead][i]? = some b->(i=0/\b=bl d e sz (As++mid.flatten++Bs))\/b = .dead:=fun i b h=>by
    match i with
    | 0=>exact .inl ⟨rfl,by simpa using h.symm⟩
    | 1=>exact .inr (by simpa using h.symm)
    | 2=>exact .inr (by simpa using h.symm)
    | i+3=>simp at h
   have far:∀ l i b v',getB [bl d e sz (As++mid.flatten++Bs),Blk.dead,Blk.dead] H (l+1) i=some b->b.live=true->m.ρ (l+1) i=some v' -> ∀ k,b.has m'.w v' k->b.has m.w v' k:=fun l i b v' h1 h2 h3 k hk=>hinv.back (l:=l+1) h1 h2 h3 (fun k'' hu _=>hheap k'' (hinv.lt k'' hu)) hk
   have notFar:∀ l i b v' k,getB [bl d e sz (As++mid.flatten++Bs),Blk.dead,Blk.dead] H (l+1) i=some b->b.live=true->m.ρ (l+1) i=some v'->b.has m'.w v' k->(bl d e sz (As++mid.flatten++Bs)).has m'.w V1 k->False:=fun l i b v' k h1 h2 h3 h4 h5=>by
    have h6:=far l i b v' h1 h2 h3 k h4
    obtain ⟨f1,f2⟩:=farInj l i b v' k h1 h2 h3 h6
    rcases hasZ k h5 with h | h | h
    . have:=hnew1 k h
      have:=hinv.lt k (hinv.own (l+1) i b v' k h1 h2 h3 h6)
      omega
    . exact f1 h
    . exact f2 h
   have dead0:∀ {b:Blk},b = .dead->b.live=true->False:=fun h1 h2=>by subst h1;cases h2
   refine ⟨_,m2,rfl,rfl,⟨hG.os,hG.tape,hG.output,hsize,fun k hk _ _=>hheap k hk,fun _ _=>rfl,hU,fun k hk=>?_⟩,fun i hi=>?_,⟨fun l i b hb=>?_,fun l i b l' i' b' v1 v2 k h1 h2 h3 h4 h5 h6 h7 h8=>?_,fun l i b v1 k h1 h2 h3 h4=>?_,fun k hk=>?_,Views.none fun i p e' c h=>?_⟩,?_⟩
   . obtain ⟨i,b,u',h1,h2,h3,h4⟩:=hk
     rcases top2 i b h1 with ⟨rfl,rfl⟩ | rfl
     . cases h3
       rcases hasZ k h4 with h | h | h
       . exact .inl (hnew1 k h)
       . exact .inr (mineA k h)
       . exact .inr (mineB k h)
     . cases h2
   . match i,hi with
     | 0,_=>exact hρA.symm
     | 1,_=>exact hρB.symm
     | i+2,hi=>exact absurd (show i+2 < 2 from hi) (by omega)
   . cases l with
     | succ l=>
       have hb:getB [bl d e sz As,bl d e sz Bs] H (l+1) i=some b:=hb
       exact show BlkOk m3' (l+1) i b from (hinv.blk (l+1) i b hb).keep hK3 rfl (fun v' k hl hv hk=>hheap k (hinv.lt k (hinv.own (l+1) i b v' k hb hl hv hk)))
     | zero=>
       rcases top2 i b hb with ⟨rfl,rfl⟩ | rfl
       . exact okZ
       . trivial
   . cases l with
     | succ l=>
       cases l' with
       | succ l'=>exact hinv.inj (l+1) i b (l'+1) i' b' v1 v2 k h1 h2 h3 h4 h5 h6 (far l i b v1 h1 h2 h5 k h7) (far l' i' b' v2 h3 h4 h6 k h8)
       | zero=>
         exfalso
         rcases top2 i' b' h3 with ⟨rfl,rfl⟩ | h
         . cases h6;exact notFar l i b v1 k h1 h2 h5 h7 h8
         . exact dead0 h h4
     | zero=>
       cases l' with
       | succ l'=>
         exfalso
         rcases top2 i b h1 with ⟨rfl,rfl⟩ | h
         . cases h5;exact notFar l' i' b' v2 k h3 h4 h6 h8 h7
         . exact dead0 h h2
       | zero=>
         rcases top2 i b h1 with ⟨rfl,rfl⟩ | h
         . rcases top2 i' b' h3 with ⟨rfl,rfl⟩ | h'
           . exact ⟨rfl,rfl⟩
           . exact (dead0 h' h4).elim
         . exact (dead0 h h2).elim
   . cases l with
     | succ l=>
       have:=hinv.own (l+1) i b v1 k h1 h2 h3 (far l i b v1 h1 h2 h3 k h4)
       exact (hU k (hinv.lt k this)).2 this
     | zero=>
       rcases top2 i b h1 with ⟨rfl,rfl⟩ | h
       . cases h3
         rcases hasZ k h4 with h | h | h
         . exact .inl (hI.own 0 0 _ V1 k rfl rfl hρ1 h)
         . have:=UA k h
           exact (hU k (hinv.lt k this)).2 this
         . have:=UB k h
           exact (hU k (hinv.lt k this)).2 this
       . exact (dead0 h h2).elim
   . rcases hk with h | h | h
     . exact hI.lt k h
     . exact aBk (hinv.lt k (headA k h)) hsize
     . exact aBk (hinv.lt k (headB k h)) hsize
   . rcases top2 i _ h with ⟨_,h⟩ | h
     . have:=sX d e sz (As++mid.flatten++Bs)
       rw [<- h] at this;cases this
     . cases h
   . refine .row _ _ _ N1 c1 A1 ?_ hn1 hc1
     show some V1=some _
     rw [<- hV1]
theorem mP (A:Option Addr) (n N c c':Nat):blkOf (.slice A n c)=blkOf (.slice A N c'):=by cases A <;> rfl
theorem iY {w:World} {e sz n N c:Nat} {A:Option Addr} {flat:List Value} (ho:w.ownsRow 0 e sz (.slice A N c) N flat) (hn:n<=N):w.ownsRow 0 e sz (.slice A n c) n (flat.take (n*sz)):=by
 obtain ⟨h1,h2⟩:=ho
 have hle:n*sz<=N*sz:=Nat.mul_le_mul_right _ hn
 refine ⟨by rw [aAl];omega,?_⟩
 rcases h2 with ⟨h,h0⟩ | ⟨g,cap,cur,h,hb,hg,hc,hm,hs,ht⟩
 . obtain rfl:n=0:=by omega
   cases h
   exact .inl ⟨rfl,rfl⟩
 . cases h
   refine .inr ⟨g,c,cur,rfl,hb,hg,by omega,hm,hs,?_⟩
   rw [<- ht,List.take_take,Nat.min_eq_left hle]
theorem yB {w:World} {e sz n N c:Nat} {A:Option Addr} {xs:List (List DV)} {flat:List Value} (ho:w.ownsRow 0 e sz (.slice A N c) N flat) (hN:N=xs.length) (hn:n<=N) {k:Nat} (h:Ins w (.own e sz (xs.take n)) (.slice A n c) k):Ins w (.own e sz xs) (.slice A N c) k:=by
 subst hN
 cases h with
 | head _ _ _ _ _ h=>exact .head _ _ _ _ _ ((mP A _ _ c c).trans h)
 | cell _ _ _ _ _ fl i x j y u hoo hx hy hu h=>
   have hl:(xs.take n).length=n:=by rw [aAl];omega
   rw [hl] at hoo
   obtain rfl:=ownsRow_inj (iY ho hn) hoo
   have hx':xs[i]? = some x:=by
    have hi:i < n:=by rw [<- hl];exact (aAe.1 hx).1
    rwa [aA0,if_pos hi] at hx
   refine .cell _ _ _ _ _ flat i x j y u ho hx' hy ?_ h
   have:=(aAe.1 hu).1
   rw [aA0] at hu
   split at hu
   . exact hu
   . cases hu
theorem yC {m:M} {top:List Blk} {H:List (List Blk)} (hi:Inv m top H) {i e sz n N c:Nat} {d:Bool} {xs:List (List DV)} {A:Option Addr} (hb:top[i]? = some (bl d e sz xs)) (hρ:m.ρ 0 i=some (.slice A N c)) (hn:n<=N) (hno:∀ (a p e' c':Nat),top[a]? ≠ some (.sub p e' c')) (hbox:∀ (a:Nat) cs,top[a]? ≠ some (.box cs)) :
 let m2:M:=⟨m.w,fun l j=>if l=0/\j=i then some (.slice A n c) else m.ρ l j,m.U⟩
 Inv m2 (top.set i (bl d e sz (xs.take n))) H/\(∀ k,(bl d e sz (xs.take n)).has m.w (.slice A n c) k->(bl d e sz xs).has m.w (.slice A N c) k):=by
 intro m2
 obtain ⟨ro,has,pl⟩:=pH hi hb hρ
 obtain ⟨flat,h0,hs,ho,hr,hd,sp⟩:=ro.parts
 have hN:=(owns_hdr ho).1
 subst hN
 have hl:(xs.take n).length=n:=by rw [aAl];omega
 have hil:i < top.length:=(aAe.1 hb).1
 have ins:∀ k,Ins m.w (.own e sz (xs.take n)) (.slice A n c) k->Ins m.w (.own e sz xs) (.slice A xs.length c) k:=fun k hk=>yB ho rfl hn hk
 have cell:∀ (q:Nat) x (j:Nat) y u,(xs.take n)[q]? = some x->x[j]? = some y->(flat.take (n*sz))[q*sz+j]? = some u->xs[q]? = some x/\flat[q*sz+j]? = some u:=fun q x j y u hx hy hu=>by
  have hq:q < n:=by rw [<- hl];exact (aAe.1 hx).1
  rw [aA0,if_pos hq] at hx
  rw [aA0] at hu
  split at hu
  . exact ⟨hx,hu⟩
  . cases hu
 have ro2:RO m.w m.ok (.own e sz (xs.take n)) (.slice A n c):=by
  refine .own e sz _ _ (flat.take (n*sz)) h0 (fun x hx=>hs x (aA6 hx)) (by rw [hl];exact iY ho hn) (fun q x j y u hx hy hu=>?_) (fun q x j y u k hx hy hu hk h=>?_) (fun q x j y u q2 x2 j2 y2 u2 k hx hy hu hx2 hy2 hu2 hk hk2=>?_)
  . obtain ⟨a1,a2⟩:=cell q x j y u hx hy hu
    exact hr q x j y u a1 hy a2
  . obtain ⟨a1,a2⟩:=cell q x j y u hx hy hu
    exact hd q x j y u k a1 hy a2 hk ((mP A _ _ c c).trans h)
  . obtain ⟨a1,a2⟩:=cell q x j y u hx hy hu
    obtain ⟨b1,b2⟩:=cell q2 x2 j2 y2 u2 hx2 hy2 hu2
    exact sp q x j y u q2 x2 j2 y2 u2 k a1 hy a2 b1 hy2 b2 hk hk2
 have hhas:∀ k,(bl d e sz (xs.take n)).has m.w (.slice A n c) k->(bl d e sz xs).has m.w (.slice A xs.length c) k:=fun k hk=>by
  cases d with
  | true=>exact ins k hk
  | false=>exact (mP A _ _ c c).trans hk
 have get:∀ l a b,getB (top.set i (bl d e sz (xs.take n))) H l a=some b->(l=0/\a=i/\b=bl d e sz (xs.take n))\/(¬ (l=0/\a=i)/\getB top H l a=some b):=fun l a b h=>by
  by_cases hla:l=0/\a=i
  . obtain ⟨rfl,rfl⟩:=hla
    simp only [getB] at h
    rw [aAr hil] at h
    exact .inl ⟨rfl,rfl,(aBr h).symm⟩
  . rw [jK hla] at h
    exact .inr ⟨hla,h⟩
 have at2:∀ v,m2.ρ 0 i=some v->v = .slice A n c:=fun v h=>by
  simp only [m2,and_self,if_true] at h
  exact (aBr h).symm
 have ne2:∀ l a,¬ (l=0/\a=i)->m2.ρ l a=m.ρ l a:=fun l a h=>if_neg h
 have was:∀ l a b v k,getB (top.set i (bl d e sz (xs.take n))) H l a=some b->b.live=true->m2.ρ l a=some v->b.has m.w v k -> ∃ b' v',getB top H l a=some b'/\b'.live=true/\m.ρ l a=some v'/\b'.has m.w v' k:=fun l a b v k h1 h2 h3 h4=>by
  rcases get l a b h1 with ⟨rfl,rfl,rfl⟩ | ⟨hn',h⟩
  . obtain rfl:=at2 v h3
    exact ⟨_,_,hb,nB _ _ _ _,hρ,hhas k h4⟩
  . rw [ne2 l a hn'] at h3
    exact ⟨b,v,h,h2,h3,h4⟩
 refine ⟨⟨fun l a b h=>?_,fun l a b l' a' b' v v' k h1 h2 h3 h4 h5 h6 h7 h8=>?_,fun l a b v k h1 h2 h3 h4=>?_,hi.lt,Views.none fun a p e' c' h=>?_⟩,hhas⟩
 . rcases get l a b h with ⟨rfl,rfl,rfl⟩ | ⟨hn',h⟩
   . cases d with
     | true=>intro v hv;obtain rfl:=at2 v hv;exact ro2
     | false=>
       intro v hv
       obtain rfl:=at2 v hv
       refine ⟨h0,fun x hx=>hs x (aA6 hx),flat.take (n*sz),by rw [hl];exact iY ho hn,fun q x j y u hx hy hu=>?_⟩
       obtain ⟨a1,a2⟩:=cell q x j y u hx hy hu
       exact pl rfl flat ho q x j y u a1 hy a2
   . have hbo:=hi.blk l a b h
     cases b with
     | dead=>trivial
     | gen Y st=>trivial
     | sub _ _ _=>trivial
     | row e sz xs=>intro v hv;rw [ne2 l a hn'] at hv;exact hbo v hv
     | deep e sz xs=>intro v hv;rw [ne2 l a hn'] at hv;exact hbo v hv
     | box cs=>
       intro v hv
       rw [ne2 l a hn'] at hv
       obtain ⟨g,us,e',q1,q2,q3,q4⟩:=hbo v hv
       refine ⟨g,us,e',q1,q2,q3,fun j p x hp hx=>?_⟩
       cases l with
       | zero=>exact absurd h (hbox a cs)
       | succ l=>
         refine (q4 j p x hp hx).keep ⟨fun l' i' u hu=>?_,aBo _,fun k hk=>⟨hk.2,rfl⟩⟩
         show m2.ρ (l'+(l+1)) i'=some u
         rw [ne2 _ _ (by omega)]
         exact hu
 . obtain ⟨c1,u1,q1,q2,q3,q4⟩:=was l a b v k h1 h2 h5 h7
   obtain ⟨c2,u2,r1,r2,r3,r4⟩:=was l' a' b' v' k h3 h4 h6 h8
   exact hi.inj l a c1 l' a' c2 u1 u2 k q1 q2 r1 r2 q3 r3 q4 r4
 . obtain ⟨c1,u1,q1,q2,q3,q4⟩:=was l a b v k h1 h2 h3 h4
   exact hi.own l a c1 u1 k q1 q2 q3 q4
 . rcases get 0 a _ h with ⟨_,_,h⟩ | ⟨_,h⟩
   . have:=sX d e sz (xs.take n)
     rw [<- h] at this;cases this
   . exact hno a p e' c' h
theorem aE.short {C:Cx} {H:List (List Blk)} {f:Nat} {G:List RowB} {args:List PV} {k n e sz S:Nat} {Z:List (List DV)} (d:Bool) (hS:S=szD d sz) (he:Nat.ble 64 sz=false) (hsz:Nat.beq sz 0=false)
 (h:aE C H f G args (List.replicate k none) (.row 0 0 n) [⟨e,S,Z⟩]):aE C H f G args (List.replicate k none) (.row 0 0 n) [⟨e,S,Z.take n⟩]:=by
 have hb:∀ ys,RowB.blk ⟨e,S,ys⟩=bl d e sz ys:=fun ys=>yA hS he hsz
 have hd:(List.replicate k (none:Option RowB)).map gblk=List.replicate k .dead:=by rw [List.map_replicate];rfl
 unfold aE at h ⊢
 simp only [List.map_cons,List.map_nil,hb,hd] at h ⊢
 refine ⟨h.1,fun m vs hinv hfree hlen hargs=>(h.2 m vs hinv hfree hlen hargs).mono ?_⟩
 rintro ex w' ⟨v,m',rfl,rfl,hS',hnm,hI,hR⟩
 have top:∀ (ys:List (List DV)) (a:Nat) b,([bl d e sz ys]++List.replicate k Blk.dead)[a]? = some b->(a=0/\b=bl d e sz ys)\/b = .dead:=fun ys a b h=>by
  cases a with
  | zero=>exact .inl ⟨rfl,by simpa using h.symm⟩
  | succ a=>
    right
    have:b ∈ List.replicate k Blk.dead:=aAg (i:=a) (by simpa using h)
    exact (List.mem_replicate.1 this).2
 cases hR with
 | row _ _ _ N c A hρ hn hc=>
 obtain ⟨hI2,hhas⟩:=yC hI (i:=0) (d:=d) (e:=e) (sz:=sz) (xs:=Z) rfl hρ hn (fun a p e' c' h=>by
  rcases top Z a _ h with ⟨_,h⟩ | h
  . have:=sX d e sz Z
    rw [<- h] at this;cases this
  . cases h) (fun a cs h=>by
  rcases top Z a _ h with ⟨_,h⟩ | h
  . cases d <;> cases h
  . cases h)
 refine ⟨_,⟨m'.w,fun l j=>if l=0/\j=0 then some (.slice A n c) else m'.ρ l j,m'.U⟩,rfl,rfl,⟨hS'.os,hS'.tape,hS'.output,hS'.size,hS'.heap,fun l i=>?_,hS'.U,fun q hq=>?_⟩,fun i hi=>?_,hI2,?_⟩
 . show (if l+1=0/\i=0 then some (Value.slice A n c) else m'.ρ (l+1) i)=_
   rw [if_neg (by rintro ⟨h,_⟩;exact absurd h (Nat.succ_ne_zero l))]
   exact hS'.up l i
 . obtain ⟨a,b,u,h1,h2,h3,h4⟩:=hq
   rcases top (Z.take n) a b h1 with ⟨rfl,rfl⟩ | rfl
   . have h3:(some (Value.slice A n c))=some u:=h3
     cases h3
     exact hS'.fresh q ⟨0,_,_,rfl,nB _ _ _ _,hρ,hhas q h4⟩
   . cases h2
 . show (if 0=0/\1+i=0 then some (Value.slice A n c) else m'.ρ 0 (1+i))=_
   rw [if_neg (by rintro ⟨_,h⟩;omega)]
   exact hnm i hi
 . exact .row _ _ _ n c A rfl (aBo _) (by omega)
end Go.Proofs.Ve
namespace Go.Proofs.Ve
open Go Go.Proofs Go.Shelf Go.RowKit Go.Lib
variable {P:Program} {ρ:Ren} {zr:Value}
structure InsT (P:Program) (ρ:Ren) (zr:Value):Prop where
 mixed:P.follows .mixedOrders=true
 f22:Bears P (ρ.f 22) (Body2.n22 ρ)
 ov:∀ (w:World) (vb voff m vc b o lb cb:Nat) (tA tB:TypeId) (kA kB:Nat),vb≠b->w.shape? vb=some (tA,kA)->w.shape? b=some (tB,kB)->kA≠0->(∀ o,w.frozen? ⟨b,o,none⟩=false) ->
  (callFunc (ρ.f 29) #[.slice (some ⟨vb,voff,none⟩) m vc,.slice (some ⟨b,o,none⟩) lb cb]).run P w = .ok (.value (.bool false)) w
 t0:P.underlying (ρ.t 0)=some (TypeDesc.tuple #[])
 a0:∀ w,(isAgg (ρ.t 0)).run P w = .ok false w
 z0:∀ w,(Go.sizeOf (ρ.t 0)).run P w = .ok 1 w
 v0:∀ w,(zeroValue (ρ.t 0)).run P w = .ok (Value.tuple #[]) w
 t3:P.underlying (ρ.t 3)=some (TypeDesc.int IntKind.i64)
 a3:∀ w,(isAgg (ρ.t 3)).run P w = .ok false w
 z3:∀ w,(Go.sizeOf (ρ.t 3)).run P w = .ok 1 w
 v3:∀ w,(zeroValue (ρ.t 3)).run P w = .ok (Value.int IntKind.i64 0) w
 t4:P.underlying (ρ.t 4)=some (TypeDesc.bool)
 a4:∀ w,(isAgg (ρ.t 4)).run P w = .ok false w
 z4:∀ w,(Go.sizeOf (ρ.t 4)).run P w = .ok 1 w
 v4:∀ w,(zeroValue (ρ.t 4)).run P w = .ok (Value.bool false) w
 a9:∀ w,(isAgg (ρ.t 9)).run P w = .ok true w
 z9:∀ w,(Go.sizeOf (ρ.t 9)).run P w = .ok 3 w
 v9:∀ w,(zeroValue (ρ.t 9)).run P w = .ok zr w
 t24:P.underlying (ρ.t 24)=some (TypeDesc.slice (ρ.t 9))
 a24:∀ w,(isAgg (ρ.t 24)).run P w = .ok false w
 z24:∀ w,(Go.sizeOf (ρ.t 24)).run P w = .ok 1 w
 v24:∀ w,(zeroValue (ρ.t 24)).run P w = .ok (Value.slice none 0 0) w
 i9:(P.info? (ρ.t 9)).map (fun i=>(i.zero,i.size,i.bytes))=some (some zr,3,72)
 cz:zr.cells.size=3
theorem run_copy_cellsN {P:Program} (w:World) (dT sT ty elem:TypeId) (b o dLen dCap:Nat) (a:Addr) (sLen sCap:Nat) (cs:List Value) (sz k:Nat)
 (hu:P.underlying dT=some (.slice elem)) (hs:(P.info? elem).map (·.size)=some sz) (hk:k=Nat.min sLen dLen) (hn:cs.length=k*sz)
 (hsrc:∀ j v,cs[j]? = some v->w.cell? (a.add j)=some v) (hc:∀ j,j < cs.length->(w.cell? ⟨b,o+j,none⟩).isSome=true) (hf:∀ j,j < cs.length->w.frozen? ⟨b,o+j,none⟩=false) (h1:∀ v ∈ cs,v.oneCell'=true) :
 (Builtin.copy_ #[dT,sT] ty #[.slice (some ⟨b,o,none⟩) dLen dCap,.slice (some a) sLen sCap]).run P w = .ok (goInt k) (w.setCells b o cs):=by
 have hl:=run_loadCells_list (P:=P) w a cs hsrc
 have hst:=run_storeCells_cells (P:=P) b o cs 0 w (by simpa using hc) (by simpa using hf) h1
 cases hq:P.info? elem with
 | none=>simp [hq] at hs
 | some i=>
   have hi:i.size=sz:=by simpa [hq] using hs
   rw [hn] at hl
   simp [Builtin.copy_,run_underlying hu,Builtin.lenOf,Builtin.firstCells,sizeOf,typeInfo,hq,hi,<- hk,hl,hst]
theorem zeros_size3 {z:Value} (hz:z.cells.size=3) (k:Nat):(Builtin.zeroCells z.cells k).size=k*3:=by
 unfold Builtin.zeroCells
 induction k with
 | zero=>simp
 | succ k ih=>(simp_all [List.replicate_succ] <;> omega)
theorem ins_shift3 (L:InsT P ρ zr) (b off n c i vb voff m vc:Nat) (cs vs:List Value) (w:World) (hi:i < n) (hm:0 < m) (hroom:n+m<=c) (hc63:c<=9223372036854775807) (hvb:vb≠b)
 (hcl:cs.length=n*3) (hvl:vs.length=m*3)
 (hcs:∀ j v,cs[j]? = some v->w.cell? ⟨b,off+j,none⟩=some v) (hsp:∀ j,j < (n+m)*3->(w.cell? ⟨b,off+j,none⟩).isSome=true) (hfz:∀ j,j < (n+m)*3->w.frozen? ⟨b,off+j,none⟩=false)
 (hvs:∀ j v,vs[j]? = some v->w.cell? ⟨vb,voff+j,none⟩=some v) (h1c:∀ v ∈ cs,v.oneCell'=true) (h1v:∀ v ∈ vs,v.oneCell'=true)
 (tA tB:TypeId) (kA kB:Nat) (hsa:w.shape? vb=some (tA,kA)) (hsb:w.shape? b=some (tB,kB)) (hkA:kA≠0) (hfb:∀ o,w.frozen? ⟨b,o,none⟩=false) :
 Calls P (ρ.f 22) #[.slice (some ⟨b,off,none⟩) n c,.int .i64 i,.slice (some ⟨vb,voff,none⟩) m vc] w fun e w'=>
  e = .returned (.slice (some ⟨b,off,none⟩) (n+m) c)/\w'=(w.drew.setCells b (off+(i+m)*3) (cs.drop (i*3))).setCells b (off+i*3) vs:=by
 have t0:=L.t0;have a0:=L.a0;have z0:=L.z0;have v0:=L.v0;have t3:=L.t3;have a3:=L.a3;have z3:=L.z3;have v3:=L.v3;have t4:=L.t4;have a4:=L.a4;have z4:=L.z4;have v4:=L.v4;have a9:=L.a9;have z9:=L.z9;have v9:=L.v9;have t24:=L.t24;have a24:=L.a24;have z24:=L.z24;have v24:=L.v24
 have u0:=run_underlying L.t0;have u3:=run_underlying L.t3;have u4:=run_underlying L.t4;have u24:=run_underlying L.t24
 have hz1:¬ ((m:Int)=0):=by omega
 have hz2:¬ ((i:Int)=(n:Int)):=by omega
 have hsz:(P.info? (ρ.t 9)).map (·.size)=some 3:=by
  obtain ⟨i0,hi0,h0,h1,h2⟩:=info_parts L.i9
  rw [hi0];simp [h1]
 have hov:∀ lb cb,(callFunc (ρ.f 29) #[.slice (some ⟨vb,voff,none⟩) m vc,.slice (some ⟨b,off+(i+m)*3,none⟩) lb cb]).run P w = .ok (.value (.bool false)) w:=fun lb cb=>L.ov w vb voff m vc b _ lb cb tA tB kA kB hvb hsa hsb hkA hfb
 have hdl:(cs.drop (i*3)).length=(n - i)*3:=by rw [aAq,hcl];omega
 have mixed:=L.mixed
 have hw1:IntKind.i64.wrap ((i:Int)+(m:Int))=(i:Int)+(m:Int):=by rw [IntKind.wrap_i64];omega
 have hb1:(0:Int)<=(i:Int)+(m:Int):=by omega
 have hin:i<=n:=by omega
 have htn:((i:Int)+(m:Int)).toNat=i+m:=by omega
 have hb2:¬ (c=i+m):=by omega
 have hb3:(i:Int)<=(n:Int)+(m:Int):=by omega
 have hb4:¬ (c=i):=by omega
 have hcp1:∀ ty dc sc,(Builtin.copy_ #[(ρ.t 24),(ρ.t 24)] ty #[.slice (some ⟨b,off+(i+m)*3,none⟩) (n+m - (i+m)) dc,.slice (some ⟨b,off+i*3,none⟩) (n+m - i) sc]).run P w.drew = .ok (goInt (n - i:Nat)) (w.drew.setCells b (off+(i+m)*3) (cs.drop (i*3))):=fun ty dc sc=>
  run_copy_cellsN w.drew _ _ ty (ρ.t 9) b (off+(i+m)*3) (n+m - (i+m)) dc ⟨b,off+i*3,none⟩ (n+m - i) sc (cs.drop (i*3)) 3 (n - i) L.t24 hsz (by simp only [Nat.min_def];split <;> omega) hdl
   (fun j v hj=>by rw [Addr.add_lit,Nat.add_assoc];exact hcs (i*3+j) v (by rwa [aA1] at hj))
   (fun j hj=>by rw [Nat.add_assoc];exact hsp _ (by omega)) (fun j hj=>by rw [Nat.add_assoc];exact hfz _ (by omega)) (fun v hv=>h1c v (aA7 hv))
 obtain ⟨W1,hW1⟩:∃ W1,W1=w.drew.setCells b (off+(i+m)*3) (cs.drop (i*3)):=⟨_,rfl⟩
 have hsp1:∀ k,k < (n+m)*3->(W1.cell? ⟨b,off+k,none⟩).isSome=true:=fun k hk=>by
  rw [hW1]
  exact isSome_setCells b _ _ _ (fun j hj=>by rw [Nat.add_assoc];exact hsp _ (by omega)) _ (hsp k hk)
 have hcp2:∀ (W:World),(∀ x,W.cell? x=W1.cell? x)->(∀ x,W.frozen? x=W1.frozen? x) -> ∀ ty dc,(Builtin.copy_ #[(ρ.t 24),(ρ.t 24)] ty #[.slice (some ⟨b,off+i*3,none⟩) (n+m - i) dc,.slice (some ⟨vb,voff,none⟩) m vc]).run P W = .ok (goInt m) (W.setCells b (off+i*3) vs):=fun W hWc hWf ty dc=>
  run_copy_cellsN W _ _ ty (ρ.t 9) b (off+i*3) (n+m - i) dc ⟨vb,voff,none⟩ m vc vs 3 m L.t24 hsz (by simp only [Nat.min_def];split <;> omega) hvl
   (fun j v hj=>by
     rw [Addr.add_lit,hWc,hW1,World.cell?_setCells_out b _ _ _ _ (fun h _=>absurd h hvb)]
     exact hvs j v hj)
   (fun j hj=>by rw [hWc,Nat.add_assoc];exact hsp1 _ (by omega)) (fun j hj=>by rw [hWf,hW1,World.frozen?_setCells,Nat.add_assoc];exact hfz _ (by omega)) h1v
 rw [<- hW1] at hcp1
 obtain ⟨_,_,FG⟩:=L.f22
 go_enter FG,Body2.n22_ntmps ρ
 go_wp2_with (simp only [hov])
 go_region_law_o (refine step_copy_runI rfl _ _ (ρ.t 24) (ρ.t 24) rfl _ _ (by simp [Act.eval,Act.put]) (by simp [Act.eval,Act.put]) (hcp1 _ _ _) ?_)
 go_wp2_with (at_builtin;refine wpList_copy_runI _ rfl _ _ (ρ.t 24) (ρ.t 24) rfl _ _ rfl rfl (hcp2 _ (fun _=>rfl) (fun _=>rfl) _ _) ?_)
 go_ret
 first | exact ⟨rfl,rfl⟩ | exact ⟨rfl,by rw [hW1]⟩
theorem ins_end_room3 (L:InsT P ρ zr) (b off n c vb voff m vc:Nat) (vs:List Value) (w:World) (hm:0 < m) (hroom:n+m<=c) (hc63:c<=9223372036854775807)
 (hvl:vs.length=m*3) (hsp:∀ j,j < m*3->(w.cell? ⟨b,off+n*3+j,none⟩).isSome=true) (hfz:∀ j,j < m*3->w.frozen? ⟨b,off+n*3+j,none⟩=false)
 (hvs:∀ j v,vs[j]? = some v->w.cell? ⟨vb,voff+j,none⟩=some v) (h1v:∀ v ∈ vs,v.oneCell'=true) :
 Calls P (ρ.f 22) #[.slice (some ⟨b,off,none⟩) n c,.int .i64 n,.slice (some ⟨vb,voff,none⟩) m vc] w fun e w'=>
  e = .returned (.slice (some ⟨b,off,none⟩) (n+m) c)/\w'=w.setCells b (off+n*3) vs:=by
 have t0:=L.t0;have a0:=L.a0;have z0:=L.z0;have v0:=L.v0;have t3:=L.t3;have a3:=L.a3;have z3:=L.z3;have v3:=L.v3;have t4:=L.t4;have a4:=L.a4;have z4:=L.z4;have v4:=L.v4;have a9:=L.a9;have z9:=L.z9;have v9:=L.v9;have t24:=L.t24;have a24:=L.a24;have z24:=L.z24;have v24:=L.v24
 have u0:=run_underlying L.t0;have u3:=run_underlying L.t3;have u4:=run_underlying L.t4;have u24:=run_underlying L.t24
 have mixed:=L.mixed
 have hz1:¬ ((m:Int)=0):=by omega
 obtain ⟨i0,hi0,hz0,hzs,hzb⟩:=info_parts L.i9
 have hsrc:Src P i0.size (ρ.t 24) (.slice (some ⟨vb,voff,none⟩) m vc) m vs w:=by
  rw [hzs]
  exact Src.ofSlice w L.t24 ⟨vb,voff,none⟩ m vc vs (by omega) (fun j u hj=>by rw [Addr.add_lit];exact hvs j u hj) h1v
 obtain ⟨_,_,FG⟩:=L.f22
 go_enter FG,Body2.n22_ntmps ρ
 go_wp2_with (at_builtin;refine wpList_append_room_src _ rfl _ _ (ρ.t 24) (ρ.t 24) rfl (ρ.t 9) i0 L.t24 hi0 b off n c rfl _ rfl m vs hsrc hroom (by rw [hzs,hvl];exact hsp) (by rw [hzs,hvl];exact hfz) ?_)
 go_ret
 first | exact ⟨rfl,rfl⟩ | exact ⟨rfl,by rw [hzs]⟩
theorem ins_end_grow3 (L:InsT P ρ zr) (base:Option Addr) (n c vb voff m vc:Nat) (cs vs:List Value) (w:World) (hm:0 < m) (hnc:n<=c) (hroom:c < n+m) (hbig:(n+m)*72<=140737488355328)
 (hcl:cs.length=n*3) (hvl:vs.length=m*3) (hnil:base=none->n=0)
 (hcs:∀ a,base=some a -> ∀ j v,cs[j]? = some v->w.cell? (a.add j)=some v)
 (hvs:∀ j v,vs[j]? = some v->w.cell? ⟨vb,voff+j,none⟩=some v) (h1v:∀ v ∈ vs,v.oneCell'=true) :
 Calls P (ρ.f 22) #[.slice base n c,.int .i64 n,.slice (some ⟨vb,voff,none⟩) m vc] w fun e w'=>
  e = .returned (.slice (some ⟨w.heap.size,0,none⟩) (n+m) (grownCap w (n+m) c (ρ.t 9))) /\
  w'=w.drew.alloc (.cells ((cs++vs).toArray++Builtin.zeroCells zr.cells (grownCap w (n+m) c (ρ.t 9) - (n+m))) (ρ.t 9)):=by
 have t0:=L.t0;have a0:=L.a0;have z0:=L.z0;have v0:=L.v0;have t3:=L.t3;have a3:=L.a3;have z3:=L.z3;have v3:=L.v3;have t4:=L.t4;have a4:=L.a4;have z4:=L.z4;have v4:=L.v4;have a9:=L.a9;have z9:=L.z9;have v9:=L.v9;have t24:=L.t24;have a24:=L.a24;have z24:=L.z24;have v24:=L.v24
 have u0:=run_underlying L.t0;have u3:=run_underlying L.t3;have u4:=run_underlying L.t4;have u24:=run_underlying L.t24
 have mixed:=L.mixed
 obtain ⟨i0,hi0,hz0,hzs,hzb⟩:=info_parts L.i9
 have hz1:¬ ((m:Int)=0):=by omega
 have hsrc:Src P i0.size (ρ.t 24) (.slice (some ⟨vb,voff,none⟩) m vc) m vs w:=by
  rw [hzs]
  exact Src.ofSlice w L.t24 ⟨vb,voff,none⟩ m vc vs (by omega) (fun j u hj=>by rw [Addr.add_lit];exact hvs j u hj) h1v
 have hold:(Builtin.firstCells i0.size n (.slice base n c)).run P w.drew = .ok cs.toArray w.drew:=by
  rw [hzs]
  cases base with
  | none=>
    have h0:=hnil rfl
    subst h0
    rw [List.length_eq_zero_iff.1 (hcl.trans (Nat.zero_mul _))]
    exact run_firstCells_none w.drew 3 0 0 c
  | some a=>exact run_firstCells_some w.drew 3 n a n c cs (by omega) (fun j v hj=>hcs a rfl j v hj)
 have hrun:∀ ty,(Builtin.append_ #[(ρ.t 24),(ρ.t 24)] ty #[.slice base n c,.slice (some ⟨vb,voff,none⟩) m vc]).run P w =
  .ok (.slice (some ⟨w.heap.size,0,none⟩) (n+m) (grownCap w (n+m) c (ρ.t 9))) (w.drew.alloc (.cells ((cs++vs).toArray++Builtin.zeroCells zr.cells (grownCap w (n+m) c (ρ.t 9) - (n+m))) (ρ.t 9))):=fun ty=>by
  have h:=run_append_grow_src w (ρ.t 24) (ρ.t 24) ty (ρ.t 9) i0 _ L.t24 hi0 hz0 base n c cs hold _ m vs hsrc hroom (by omega) (by rw [hzb];exact growslice_fits hroom hbig)
  first | exact h | (rw [h];simp)
 generalize zr.cells=Z at hrun ⊢
 obtain ⟨_,_,FG⟩:=L.f22
 go_enter FG,Body2.n22_ntmps ρ
 cases base with
 | none=>
   have h0:=hnil rfl
   subst h0
   go_wp2_with (at_builtin;refine Lib.wpList_append_run _ rfl _ _ _ _ rfl _ _ rfl rfl _ _ (hrun _) ?_)
   go_ret
   exact ⟨rfl,rfl⟩
 | some a=>
   obtain ⟨ab,ao,asp⟩:=a
   go_wp2_with (at_builtin;refine Lib.wpList_append_run _ rfl _ _ _ _ rfl _ _ rfl rfl _ _ (hrun _) ?_)
   all_goals (go_ret;exact ⟨rfl,rfl⟩)
theorem ins_grow3 (L:InsT P ρ zr) (b off n c i vb voff m vc:Nat) (cs vs:List Value) (w:World) (hi:i < n) (hm:0 < m) (hnc:n<=c) (hroom:c < n+m) (hbig:(n+m)*72<=140737488355328)
 (hcl:cs.length=n*3) (hvl:vs.length=m*3)
 (hcs:∀ j v,cs[j]? = some v->w.cell? ⟨b,off+j,none⟩=some v)
 (hvs:∀ j v,vs[j]? = some v->w.cell? ⟨vb,voff+j,none⟩=some v) (h1c:∀ v ∈ cs,v.oneCell'=true) (h1v:∀ v ∈ vs,v.oneCell'=true) :
 Calls P (ρ.f 22) #[.slice (some ⟨b,off,none⟩) n c,.int .i64 i,.slice (some ⟨vb,voff,none⟩) m vc] w fun e w'=>
  e = .returned (.slice (some ⟨w.heap.size,0,none⟩) (n+m) (grownCap w (n+m) c (ρ.t 9))) /\
  w'=(((w.alloc (.cells ((cs.take (i*3)).toArray++Builtin.zeroCells zr.cells (n+m - i)++Builtin.zeroCells zr.cells (grownCap w (n+m) c (ρ.t 9) - (n+m))) (ρ.t 9))).drew.setCells w.heap.size (i*3) vs).drew).setCells w.heap.size ((i+m)*3) (cs.drop (i*3)):=by
 have t0:=L.t0;have a0:=L.a0;have z0:=L.z0;have v0:=L.v0;have t3:=L.t3;have a3:=L.a3;have z3:=L.z3;have v3:=L.v3;have t4:=L.t4;have a4:=L.a4;have z4:=L.z4;have v4:=L.v4;have a9:=L.a9;have z9:=L.z9;have v9:=L.v9;have t24:=L.t24;have a24:=L.a24;have z24:=L.z24;have v24:=L.v24
 have u0:=run_underlying L.t0;have u3:=run_underlying L.t3;have u4:=run_underlying L.t4;have u24:=run_underlying L.t24
 have mixed:=L.mixed
 obtain ⟨i0,hi0,hz0,hzs,hzb⟩:=info_parts L.i9
 have hz1:¬ ((m:Int)=0):=by omega
 have hz2:¬ ((i:Int)=(n:Int)):=by omega
 have hz3:(c:Int) < (n:Int)+(m:Int):=by omega
 have hsz:(P.info? (ρ.t 9)).map (·.size)=some 3:=by rw [hi0];simp [hzs]
 have hbw:b < w.heap.size:=block_lt_of_cell (hcs 0 _ (aAf (by omega)))
 have hvw:vb < w.heap.size:=block_lt_of_cell (hvs 0 _ (aAf (by omega)))
 have hkk:(n:Int)+(m:Int) - (i:Int)=((n+m - i:Nat):Int):=by omega
 have hik:i+(n+m - i)=n+m:=by omega
 have hold:(Builtin.firstCells i0.size i (.slice (some ⟨b,off,none⟩) i c)).run P w.drew = .ok (cs.take (i*3)).toArray w.drew:=by
  rw [hzs]
  exact run_firstCells_some w.drew 3 i ⟨b,off,none⟩ i c (cs.take (i*3)) (by rw [aAl];omega) (fun j v hj=>by
   rw [Addr.add_lit]
   rw [aA0] at hj
   split at hj
   . exact hcs j v hj
   . cases hj)
 have hrz:∀ ty,(Builtin.append_ #[(ρ.t 24),(ρ.t 3)] ty #[.slice (some ⟨b,off,none⟩) i c,.int .i64 ((n:Int)+(m:Int) - (i:Int))]).run P w =
  .ok (.slice (some ⟨w.heap.size,0,none⟩) (n+m) (grownCap w (n+m) c (ρ.t 9))) (w.drew.alloc (.cells ((cs.take (i*3)).toArray++Builtin.zeroCells zr.cells (n+m - i)++Builtin.zeroCells zr.cells (grownCap w (n+m) c (ρ.t 9) - (n+m))) (ρ.t 9))):=fun ty=>by
  have h:=Lib.run_append_grow_zeros w (ρ.t 24) (ρ.t 3) ty (ρ.t 9) i0 _ .i64 .i64 L.t24 L.t3 hi0 hz0 (some ⟨b,off,none⟩) i c (cs.take (i*3)) hold (n+m - i) (by omega) (by omega) (by omega) (by omega) (by rw [hzb];omega) (by rw [hzb,hik];exact growslice_fits hroom hbig)
  rw [hik] at h
  rw [hkk]
  exact h
 obtain ⟨G,hG⟩:∃ G,G=grownCap w (n+m) c (ρ.t 9):=⟨_,rfl⟩
 obtain ⟨ROW,hROW⟩:∃ ROW:Array Value,ROW=(cs.take (i*3)).toArray++Builtin.zeroCells zr.cells (n+m - i)++Builtin.zeroCells zr.cells (G - (n+m)):=⟨_,rfl⟩
 rw [<- hG] at hrz ⊢
 rw [<- hROW] at hrz ⊢
 have hRl:(n+m)*3<=ROW.size:=by
  rw [hROW]
  rw [Array.size_append,Array.size_append,zeros_size3 L.cz]
  simp
  omega
 obtain ⟨W1,hW1⟩:∃ W1,W1=w.drew.alloc (.cells ROW (ρ.t 9)):=⟨_,rfl⟩
 rw [<- hW1] at hrz
 have hN:∀ j,j < (n+m)*3->(W1.cell? ⟨w.heap.size,j,none⟩).isSome=true:=fun j hj=>by
  rw [hW1,World.cell?_alloc_at (w:=w.drew) ROW _ w.heap.size j rfl,Array.getElem?_eq_getElem (by omega)];rfl
 have hNf:∀ j,W1.frozen? ⟨w.heap.size,j,none⟩=false:=fun j=>by rw [hW1];exact World.frozen?_alloc_at (w:=w.drew) ROW _ w.heap.size j rfl
 have hOb:∀ j v,w.cell? ⟨b,j,none⟩=some v->W1.cell? ⟨b,j,none⟩=some v:=fun j v h=>by rw [hW1,World.cell?_alloc_past (w:=w.drew) _ b j hbw];exact h
 have hOv:∀ j v,w.cell? ⟨vb,j,none⟩=some v->W1.cell? ⟨vb,j,none⟩=some v:=fun j v h=>by rw [hW1,World.cell?_alloc_past (w:=w.drew) _ vb j hvw];exact h
 have hcpA:∀ (W:World),(∀ x,W.cell? x=W1.cell? x)->(∀ x,W.frozen? x=W1.frozen? x) -> ∀ ty dc,(Builtin.copy_ #[(ρ.t 24),(ρ.t 24)] ty #[.slice (some ⟨w.heap.size,i*3,none⟩) (n+m - i) dc,.slice (some ⟨vb,voff,none⟩) m vc]).run P W = .ok (goInt m) (W.setCells w.heap.size (i*3) vs):=fun W hWc hWf ty dc=>
  run_copy_cellsN W _ _ ty (ρ.t 9) w.heap.size (i*3) (n+m - i) dc ⟨vb,voff,none⟩ m vc vs 3 m L.t24 hsz (by simp only [Nat.min_def];split <;> omega) hvl
   (fun j v hj=>by rw [Addr.add_lit,hWc];exact hOv _ v (hvs j v hj))
   (fun j hj=>by rw [hWc];exact hN _ (by omega)) (fun j hj=>by rw [hWf];exact hNf _) h1v
 have hGn:n+m<=G:=by rw [hG];exact grownCap_ge w _ _ _
 have hG63:G<=9223372036854775807:=by
  have:=grownCap_le_maxLen w (n+m) c (ρ.t 9) (by unfold maxLen;omega)
  rw [<- hG] at this
  unfold maxLen at this
  omega
 have hGi:¬ (G=i):=by omega
 have hGim:¬ (G=i+m):=by omega
 have hci:¬ (c=i):=by omega
 have hbN:b≠w.heap.size:=by omega
 have hdl:(cs.drop (i*3)).length=(n - i)*3:=by rw [aAq,hcl];omega
 have hcpB:∀ (W:World),(∀ x,W.cell? x=(W1.setCells w.heap.size (i*3) vs).cell? x)->(∀ x,W.frozen? x=(W1.setCells w.heap.size (i*3) vs).frozen? x) -> ∀ ty dc sc,(Builtin.copy_ #[(ρ.t 24),(ρ.t 24)] ty #[.slice (some ⟨w.heap.size,(i+m)*3,none⟩) (n+m - (i+m)) dc,.slice (some ⟨b,off+i*3,none⟩) (n - i) sc]).run P W = .ok (goInt (n - i:Nat)) (W.setCells w.heap.size ((i+m)*3) (cs.drop (i*3))):=fun W hWc hWf ty dc sc=>
  run_copy_cellsN W _ _ ty (ρ.t 9) w.heap.size ((i+m)*3) (n+m - (i+m)) dc ⟨b,off+i*3,none⟩ (n - i) sc (cs.drop (i*3)) 3 (n - i) L.t24 hsz (by simp only [Nat.min_def];split <;> omega) hdl
   (fun j v hj=>by
     rw [Addr.add_lit,hWc,World.cell?_setCells_out _ _ _ _ _ (fun h _=>absurd h hbN),Nat.add_assoc]
     exact hOb _ v (hcs (i*3+j) v (by rwa [aA1] at hj)))
   (fun j hj=>by rw [hWc];exact isSome_setCells _ _ _ _ (fun t ht=>hN _ (by omega)) _ (hN _ (by omega)))
   (fun j hj=>by rw [hWf,World.frozen?_setCells];exact hNf _) (fun v hv=>h1c v (aA7 hv))
 subst hW1
 have hE1:∀ x,((w.alloc (.cells ROW (ρ.t 9))).drew).cell? x=(w.drew.alloc (.cells ROW (ρ.t 9))).cell? x:=fun x=>rfl
 have hE2:∀ x,((w.alloc (.cells ROW (ρ.t 9))).drew).frozen? x=(w.drew.alloc (.cells ROW (ρ.t 9))).frozen? x:=fun x=>rfl
 have hF1:∀ x,(((w.alloc (.cells ROW (ρ.t 9))).drew.setCells w.heap.size (i*3) vs).drew).cell? x=((w.drew.alloc (.cells ROW (ρ.t 9))).setCells w.heap.size (i*3) vs).cell? x:=fun x=>rfl
 have hF2:∀ x,(((w.alloc (.cells ROW (ρ.t 9))).drew.setCells w.heap.size (i*3) vs).drew).frozen? x=((w.drew.alloc (.cells ROW (ρ.t 9))).setCells w.heap.size (i*3) vs).frozen? x:=fun x=>rfl
 have hw1:IntKind.i64.wrap ((i:Int)+(m:Int))=(i:Int)+(m:Int):=by rw [IntKind.wrap_i64];omega
 have hb1:(0:Int)<=(i:Int)+(m:Int):=by omega
 have hin:i<=n:=by omega
 have htn:((i:Int)+(m:Int)).toNat=i+m:=by omega
 have hb3:(i:Int)<=(n:Int):=by omega
 clear hkk hik hold hROW hG hRl
 obtain ⟨_,_,FG⟩:=L.f22
 go_enter FG,Body2.n22_ntmps ρ
 go_wp2_with (first
  | (at_builtin;refine Lib.wpList_append_run _ rfl _ _ _ _ rfl _ _ rfl rfl _ _ (hrz _) ?_)
  | (at_builtin;refine wpList_copy_runI _ rfl _ _ (ρ.t 24) (ρ.t 24) rfl _ _ rfl rfl (hcpA _ hE1 hE2 _ _) ?_)
  | (at_builtin;refine wpList_copy_runI _ rfl _ _ (ρ.t 24) (ρ.t 24) rfl _ _ rfl rfl (hcpB _ (fun _=>rfl) (fun _=>rfl) _ _ _) ?_))
 go_region_law_o (refine step_copy_runI rfl _ _ (ρ.t 24) (ρ.t 24) rfl (.slice (some ⟨w.heap.size,(i+m)*3,none⟩) (n+m - (i+m)) (G - (i+m))) (.slice (some ⟨b,off+i*3,none⟩) (n - i) (c - i)) (by simp [Act.eval,Act.put]) (by simp [Act.eval,Act.put]) (hcpB _ hF1 hF2 (ρ.t 3) (G - (i+m)) (c - i)) ?_)
 go_wp2
 go_ret
 exact ⟨rfl,rfl⟩
end Go.Proofs.Ve
namespace Go.Proofs.Ve
open Go Go.Proofs Go.Shelf Go.RowKit Go.Lib
variable {P:Program} {ρ:Ren} {zr:Value}
theorem ins_own3 (L:InsT P ρ zr) (v:Value) (n i m:Nat) (xs news:List Value) (vb voff vc:Nat) (w:World) (hown:w.ownsRow 0 (ρ.t 9) 3 v n xs) (hi:i<=n) (hm:0 < m) (hnl:news.length=m*3) (hbig:(n+m)*72<=140737488355328)
 (hx1:∀ u ∈ xs,u.oneCell'=true) (hn1:∀ u ∈ news,u.oneCell'=true) (hvs:∀ j u,news[j]? = some u->w.cell? ⟨vb,voff+j,none⟩=some u) (hne:v.ownBlock≠some vb) :
 Calls P (ρ.f 22) #[v,.int .i64 i,.slice (some ⟨vb,voff,none⟩) m vc] w fun e w'=>∃ v',e = .returned v'/\w'.ownsRow 0 (ρ.t 9) 3 v' (n+m) (xs.take (i*3)++news++xs.drop (i*3))/\w.grownBy w' v.ownBlock/\(v'.ownBlock=v.ownBlock\/v'.ownBlock=some w.heap.size):=by
 have hxl:xs.length=n*3:=by have:=hown.1;omega
 have hmax:maxLen<=9223372036854775807:=by unfold maxLen;decide
 have hlen:(xs.take (i*3)++news++xs.drop (i*3)).length=(n+m)*3:=by simp [hxl,hnl];omega
 obtain ⟨tA,kA,hsa,hkA⟩:∃ tA kA,w.shape? vb=some (tA,kA)/\kA≠0:=by
  have h0:(w.cell? ⟨vb,voff+0,none⟩).isSome=true:=by rw [hvs 0 _ (aAf (by omega))];rfl
  unfold World.cell? at h0
  unfold World.shape?
  simp only at h0
  cases hh:w.heap[vb]? with
  | none=>rw [hh] at h0;cases h0
  | some o=>
    rw [hh] at h0
    cases o with
    | cells c t fz=>
      refine ⟨t,c.size,rfl,fun h=>?_⟩
      have:c = #[]:=Array.eq_empty_of_size_eq_zero h
      subst this
      simp at h0
    | _=>cases h0
 have new:∀ (cur:Array Value) (cap:Nat) (w':World),w'.heap=(w.alloc (.cells cur (ρ.t 9))).heap->w'.os=w.os->w'.tape=w.tape->w'.output=w.output->n+m<=cap->cap<=maxLen->cur.size=cap*3->cur.toList.take ((n+m)*3)=xs.take (i*3)++news++xs.drop (i*3) ->
  ∃ v',Ending.returned (.slice (some ⟨w.heap.size,0,none⟩) (n+m) cap) = .returned v'/\w'.ownsRow 0 (ρ.t 9) 3 v' (n+m) (xs.take (i*3)++news++xs.drop (i*3))/\w.grownBy w' v.ownBlock/\(v'.ownBlock=v.ownBlock\/v'.ownBlock=some w.heap.size):=fun cur cap w' h1 h2 h3 h4 h5 h6 h7 h8=>by
  refine ⟨_,rfl,⟨hlen,.inr ⟨w.heap.size,cap,cur,rfl,aBn _,by rw [h1];exact heap_alloc_new w _,h5,h6,by rw [h7],h8⟩⟩,⟨h2,h3,h4,?_,fun k hk _=>?_⟩,.inr rfl⟩
  . rw [h1];unfold World.alloc;simp
  . rw [h1];unfold World.alloc;simp [Array.getElem?_push,Nat.ne_of_lt hk]
 rcases hown.2 with ⟨rfl,rfl⟩ | ⟨g,cap,cur,rfl,_,hg,h1,h2,h3,h4⟩
 . obtain rfl:xs = []:=List.eq_nil_of_length_eq_zero (hxl.trans (Nat.zero_mul _))
   obtain rfl:i=0:=by omega
   refine (ins_end_grow3 L none 0 0 vb voff m vc [] news w hm (aBo _) (by omega) hbig rfl hnl (fun _=>rfl) (fun a h=>by cases h) hvs hn1).mono ?_
   rintro e w' ⟨rfl,rfl⟩
   have hge:=grownCap_ge w (0+m) 0 (ρ.t 9)
   refine new _ _ _ rfl rfl rfl rfl hge (grownCap_le_maxLen w (0+m) 0 _ (by unfold maxLen;omega)) ?_ ?_
   . rw [Array.size_append,zeros_size3 L.cz,List.size_toArray,List.nil_append,hnl];omega
   . simp [hnl]
 . have hcur:∀ j,j < n*3->cur[j]? = xs[j]?:=fun j hj=>by
    rw [<- h4,aA0,if_pos (by omega),aBv]
   have hsz:cur.size=cap*3:=by omega
   have hvb:vb≠g:=fun h=>hne (by rw [h];rfl)
   have hfz:∀ o,w.frozen? ⟨g,o,none⟩=false:=frozen_none hg
   have hcell:∀ o,w.cell? ⟨g,o,none⟩=cur[o]?:=cell_at hg
   have hsome:∀ o,o < cap*3->(w.cell? ⟨g,o,none⟩).isSome=true:=fun o ho=>by rw [hcell,Array.getElem?_eq_getElem (by omega)];rfl
   have hcs:∀ j u,xs[j]? = some u->w.cell? ⟨g,0+j,none⟩=some u:=fun j u hu=>by
    have:=(aAe.1 hu).1
    rw [Nat.zero_add,hcell,hcur j (by omega)];exact hu
   have h63:cap<=9223372036854775807:=aBp h2 hmax
   have inp:∀ (w':World) (cur':Array Value),w'.heap[g]? = some (.cells cur' (ρ.t 9) (0,0))->cur'.size=cap*3->(∀ k,k≠g->w'.heap[k]? = w.heap[k]?)->w'.heap.size=w.heap.size->w'.os=w.os->w'.tape=w.tape->w'.output=w.output->n+m<=cap ->
    (∀ j,j < (n+m)*3->cur'[j]? = (xs.take (i*3)++news++xs.drop (i*3))[j]?) ->
    ∃ v',Ending.returned (.slice (some ⟨g,0,none⟩) (n+m) cap) = .returned v'/\w'.ownsRow 0 (ρ.t 9) 3 v' (n+m) (xs.take (i*3)++news++xs.drop (i*3))/\w.grownBy w' (Value.slice (some ⟨g,0,none⟩) n cap).ownBlock/\(v'.ownBlock=(Value.slice (some ⟨g,0,none⟩) n cap).ownBlock\/v'.ownBlock=some w.heap.size):=fun w' cur' a1 a2 a3 a4 a5 a6 a7 a8 a9=>by
    refine ⟨_,rfl,⟨hlen,.inr ⟨g,cap,cur',rfl,aBn _,a1,a8,h2,by omega,?_⟩⟩,⟨a5,a6,a7,Nat.le_of_eq a4.symm,fun k hk hne=>a3 k (fun e=>hne (by rw [e];rfl))⟩,.inl rfl⟩
    apply List.ext_getElem?
    intro j
    rw [aA0]
    by_cases hj:j < (n+m)*3
    . rw [if_pos hj,aBv];exact a9 j hj
    . rw [if_neg hj,List.getElem?_eq_none (by omega)]
   have osW:∀ (W:World) (b o:Nat) (vs:List Value),(W.setCells b o vs).os=W.os/\(W.setCells b o vs).tape=W.tape/\(W.setCells b o vs).output=W.output/\(W.setCells b o vs).heap.size=W.heap.size /\ ∀ k,k≠b->(W.setCells b o vs).heap[k]? = W.heap[k]?:=fun W b o vs=>setCells_rest b vs o W
   by_cases hin:i=n
   . subst hin
     by_cases hroom:i+m<=cap
     . refine (ins_end_room3 L g 0 i cap vb voff m vc news w hm hroom h63 hnl (fun j hj=>hsome _ (by omega)) (fun j hj=>hfz _) hvs hn1).mono ?_
       rintro e w' ⟨rfl,rfl⟩
       obtain ⟨cur',c1,c2,c3⟩:=setCells_block news (0+i*3) w cur hg
       obtain ⟨o1,o2,o3,o4,o5⟩:=osW w g (0+i*3) news
       refine inp _ cur' c1 (by omega) o5 o4 o1 o2 o3 hroom fun j hj=>?_
       rw [c3 j,ins_get (by omega) hnl]
       by_cases hji:j < i*3
       . rw [if_neg (by omega),if_pos hji];exact hcur j hji
       . rw [if_pos (by omega),if_neg hji,if_pos (by omega),Nat.zero_add]
     . refine (ins_end_grow3 L (some ⟨g,0,none⟩) i cap vb voff m vc xs news w hm h1 (by omega) hbig hxl hnl (fun h=>by cases h) (fun a ha j u hu=>by cases ha;rw [Addr.add_lit];exact hcs j u hu) hvs hn1).mono ?_
       rintro e w' ⟨rfl,rfl⟩
       have hge:=grownCap_ge w (i+m) cap (ρ.t 9)
       refine new _ _ _ rfl rfl rfl rfl hge (grownCap_le_maxLen w (i+m) cap _ (by unfold maxLen;omega)) ?_ ?_
       . rw [Array.size_append,zeros_size3 L.cz];simp [hnl,hxl];omega
       . rw [aAt (Nat.le_of_eq hxl),aAz (Nat.le_of_eq hxl),List.append_nil,Array.toList_append]
         rw [List.take_append_of_le_length (by simp [hxl,hnl];omega)]
         exact aAt (by simp [hxl,hnl];omega)
   . have hlt:i < n:=by omega
     by_cases hroom:n+m<=cap
     . refine (ins_shift3 L g 0 n cap i vb voff m vc xs news w hlt hm hroom h63 hvb hxl hnl hcs (fun j hj=>by rw [Nat.zero_add];exact hsome _ (by omega)) (fun j hj=>hfz _) hvs hx1 hn1 tA (ρ.t 9) kA (cap*3) hsa (by unfold World.shape?;rw [hg];show some (ρ.t 9,cur.size)=_;rw [hsz]) hkA hfz).mono ?_
       rintro e w' ⟨rfl,rfl⟩
       obtain ⟨cur',c1,c2,c3⟩:=setCells_block (xs.drop (i*3)) (0+(i+m)*3) w.drew cur hg
       obtain ⟨cur2,d1,d2,d3⟩:=setCells_block news (0+i*3) _ cur' c1
       obtain ⟨o1,o2,o3,o4,o5⟩:=osW w.drew g (0+(i+m)*3) (xs.drop (i*3))
       obtain ⟨q1,q2,q3,q4,q5⟩:=osW (w.drew.setCells g (0+(i+m)*3) (xs.drop (i*3))) g (0+i*3) news
       refine inp _ cur2 d1 (by omega) (fun k hk=>(q5 k hk).trans (o5 k hk)) (q4.trans o4) (q1.trans o1) (q2.trans o2) (q3.trans o3) hroom fun j hj=>?_
       rw [d3 j,ins_get (by omega) hnl]
       by_cases hji:j < i*3
       . rw [if_neg (by omega),if_pos hji,c3 j,if_neg (by omega)];exact hcur j (by omega)
       . rw [if_neg hji]
         by_cases hjm:j < i*3+m*3
         . rw [if_pos (by omega),if_pos hjm,Nat.zero_add]
         . rw [if_neg (by omega),if_neg hjm,c3 j,if_pos (by rw [aAq];omega),aA1]
           congr 1;omega
     . refine (ins_grow3 L g 0 n cap i vb voff m vc xs news w hlt hm h1 (by omega) hbig hxl hnl hcs hvs hx1 hn1).mono ?_
       rintro e w' ⟨rfl,rfl⟩
       have hge:=grownCap_ge w (n+m) cap (ρ.t 9)
       have hgm:=grownCap_le_maxLen w (n+m) cap (ρ.t 9) (by unfold maxLen;omega)
       generalize grownCap w (n+m) cap (ρ.t 9)=G at hge hgm
       generalize hROW:(xs.take (i*3)).toArray++Builtin.zeroCells zr.cells (n+m - i)++Builtin.zeroCells zr.cells (G - (n+m))=ROW
       have hR:ROW.size=G*3:=by rw [<- hROW,Array.size_append,Array.size_append,zeros_size3 L.cz,zeros_size3 L.cz];simp;omega
       have hRi:∀ j,j < i*3->ROW[j]? = xs[j]?:=fun j hj=>by
        rw [<- hROW,Array.getElem?_append_left (by simp;omega),Array.getElem?_append_left (by simp;omega)]
        simp [hj]
       have hW:((w.alloc (.cells ROW (ρ.t 9))).drew).heap[w.heap.size]? = some (.cells ROW (ρ.t 9) (0,0)):=heap_alloc_new w _
       obtain ⟨cur',c1,c2,c3⟩:=setCells_block news (i*3) _ ROW hW
       obtain ⟨cur2,d1,d2,d3⟩:=setCells_block (xs.drop (i*3)) ((i+m)*3) ((((w.alloc (.cells ROW (ρ.t 9))).drew).setCells w.heap.size (i*3) news).drew) cur' c1
       obtain ⟨o1,o2,o3,o4,o5⟩:=osW ((w.alloc (.cells ROW (ρ.t 9))).drew) w.heap.size (i*3) news
       obtain ⟨q1,q2,q3,q4,q5⟩:=osW ((((w.alloc (.cells ROW (ρ.t 9))).drew).setCells w.heap.size (i*3) news).drew) w.heap.size ((i+m)*3) (xs.drop (i*3))
       refine ⟨_,rfl,⟨hlen,.inr ⟨w.heap.size,G,cur2,rfl,aBn _,d1,hge,hgm,by omega,?_⟩⟩,⟨q1.trans o1,q2.trans o2,q3.trans o3,?_,fun k hk _=>?_⟩,.inr rfl⟩
       . apply List.ext_getElem?
         intro j
         rw [aA0]
         by_cases hj:j < (n+m)*3
         . rw [if_pos hj,aBv,d3 j,ins_get (by omega) hnl]
           by_cases hji:j < i*3
           . rw [if_neg (by omega),if_pos hji,c3 j,if_neg (by omega)];exact hRi j hji
           . rw [if_neg hji]
             by_cases hjm:j < i*3+m*3
             . rw [if_neg (by omega),if_pos hjm,c3 j,if_pos (by omega)]
             . rw [if_pos (by rw [aAq];omega),if_neg hjm,aA1]
               congr 1;omega
         . rw [if_neg hj,List.getElem?_eq_none (by omega)]
       . rw [q4]
         show _<=(((w.alloc (.cells ROW (ρ.t 9))).drew).setCells w.heap.size (i*3) news).heap.size
         rw [o4];unfold World.alloc World.drew;simp
       . rw [q5 k (by omega)]
         show (((w.alloc (.cells ROW (ρ.t 9))).drew).setCells w.heap.size (i*3) news).heap[k]? = _
         rw [o5 k (by omega)];unfold World.alloc World.drew;simp [Array.getElem?_push,Nat.ne_of_lt hk]
end Go.Proofs.Ve
namespace Go.Proofs.Ve
open Go Go.Proofs Go.Shelf Go.RowKit Go.Lib
theorem ins_eq3 {ρ:Ren} {zr:Value} (L:InsT X.P ρ zr) (xs:List (List DV)) (hx:∀ x ∈ xs,x.length=3) (i:Nat) (hi:i<=xs.length) (yv:List DV) (hyv:yv.length=3) (hbig:xs.length < 1000000) (H:List (List Blk)) :
 aE X H (ρ.f 22) [⟨ρ.t 9,3,xs⟩] [.row 0 0 xs.length,.d (.int .i64 i),.d (.sl [yv])] [none] (.row 0 0 (xs.length+1)) [⟨ρ.t 9,3,xs.take i ++ [yv]++xs.drop i⟩]:=by
 have hB:∀ ys,RowB.blk ⟨ρ.t 9,3,ys⟩ = .row (ρ.t 9) 3 ys:=fun ys=>eD rfl rfl
 unfold aE
 simp only [List.map_cons,List.map_nil,hB]
 refine ⟨rfl,fun m vs hinv hfree hlen hargs=>?_⟩
 obtain ⟨v0,v1,v2,rfl⟩:∃ v0 v1 v2,vs = #[v0,v1,v2]:=by
  match vs,hlen with
  | ⟨[a,b,c]⟩,_=>exact ⟨a,b,c,rfl⟩
 have a0:=hargs 0 _ v0 rfl rfl
 have a1:=hargs 1 _ v1 rfl rfl
 have a2:=hargs 2 _ v2 rfl rfl
 cases a1 with
 | d _ _ a1=>
 cases a1
 cases a2 with
 | d _ _ a2=>
 cases a2 with
 | sl sz _ A2 n2 c2 ad u hn2 hc2 hm2 hA2 hs2 hcell2 hr2=>
 obtain rfl:n2=1:=by simpa using hn2.symm
 obtain rfl:=hA2 (by decide)
 have hsz:sz=3:=by have:=hs2 yv (by simp);omega
 subst hsz
 obtain ⟨vb,voff,sp⟩:=ad
 obtain ⟨y0,y1,y2,rfl⟩:∃ y0 y1 y2,yv = [y0,y1,y2]:=by
  match yv,hyv with
  | [a,b,c],_=>exact ⟨a,b,c,rfl⟩
 have hc0:=hcell2 0 _ 0 y0 rfl rfl
 have hc1:=hcell2 0 _ 1 y1 rfl rfl
 have hcc:=hcell2 0 _ 2 y2 rfl rfl
 have hr0:=hr2 0 _ 0 y0 rfl rfl
 have hr1:=hr2 0 _ 1 y1 rfl rfl
 have hrr:=hr2 0 _ 2 y2 rfl rfl
 have hok:=hc0.1
 have hc0:=hc0.2
 have hc1:=hc1.2
 have hcc:=hcc.2
 cases sp with
 | some s=>
   exfalso
   have:(m.w.cell? ((⟨vb,voff,some s⟩:Addr).add 0))=none:=by
    unfold World.cell? Addr.add
    simp
    split <;> rfl
   rw [Nat.zero_mul,Nat.add_zero,this] at hc0;cases hc0
 | none=>
 rw [Addr.add_lit] at hc0 hc1 hcc
 simp only [Nat.zero_mul,Nat.add_zero,Nat.zero_add] at hc0 hc1 hcc hr0 hr1 hrr
 cases a0 with
 | row _ _ _ Nn c A hρ hn hc=>
   have hb:=hinv.blk 0 0 _ rfl _ hρ
   obtain ⟨h0,_,flat,hown,hrd⟩:=hb
   change m.w.ownsRow 0 (ρ.t 9) 3 (.slice A Nn c) xs.length flat at hown
   change ∀ (i:Nat) x (j:Nat) y u,xs[i]? = some x->x[j]? = some y->flat[i*3+j]? = some u->RD m.w m.ok y u at hrd
   have hNn:Nn=xs.length:=by
    rcases hown.2 with ⟨b,b'⟩ | ⟨g,cap,cur,b1,_⟩
    . cases b;exact b'.symm
    . cases b1;rfl
   subst hNn
   have hfl:flat.length=xs.length*3:=hown.1
   have hvU:∀ k,blkOf (.slice A xs.length c)=some k->m.U k:=fun k hk=>hinv.own 0 0 _ _ k rfl rfl hρ hk
   have hone:∀ w ∈ flat,w.oneCell'=true:=fun w hw=>by
    obtain ⟨q,hq⟩:=List.getElem?_of_mem hw
    have hql:q < xs.length*3:=by have:=(aAe.1 hq).1;omega
    obtain ⟨x,hxj⟩:∃ x,xs[q / 3]? = some x:=⟨_,aAf (by omega)⟩
    have hl:=hx x (aAg hxj)
    obtain ⟨y,hy⟩:∃ y,x[q % 3]? = some y:=⟨_,aAf (by omega)⟩
    exact (hrd (q / 3) x (q % 3) y w hxj hy (by rw [show q / 3*3+q % 3=q by omega];exact hq)).one
   have hu:∀ (j:Nat) (y:DV) (w:Value),[y0,y1,y2][j]? = some y -> [u 0,u 1,u 2][j]? = some w->m.w.cell? ⟨vb,voff+j,none⟩=some w/\RD m.w m.ok y w:=fun j y w hy hw=>by
    match j,hy,hw with
    | 0,hy,hw=>cases hy;cases hw;exact ⟨hc0,hr0⟩
    | 1,hy,hw=>cases hy;cases hw;exact ⟨hc1,hr1⟩
    | 2,hy,hw=>cases hy;cases hw;exact ⟨hcc,hrr⟩
    | j+3,hy,hw=>simp at hy
   have huy:∀ (j:Nat) (w:Value),[u 0,u 1,u 2][j]? = some w -> ∃ y,[y0,y1,y2][j]? = some y:=fun j w hw=>⟨_,aAf (by have:=(aAe.1 hw).1;simpa using this)⟩
   refine (ins_own3 L (.slice A xs.length c) xs.length i 1 flat [u 0,u 1,u 2] vb voff c2 m.w hown hi (by decide) rfl (by omega) hone (fun w hw=>?_) (fun j w hw=>?_) (fun h=>?_)).mono ?_
   . obtain ⟨j,hj⟩:=List.getElem?_of_mem hw
     obtain ⟨y,hy⟩:=huy j w hj
     exact (hu j y w hy hj).2.one
   . obtain ⟨y,hy⟩:=huy j w hw
     exact (hu j y w hy hw).1
   . rw [own_slice] at h
     exact hok.2 (hvU vb h)
   . rintro e w' ⟨v',rfl,hown',hgr,hat⟩
     have hv'b:v'.ownBlock=blkOf v':=by
      rcases hown'.2 with ⟨b,_⟩ | ⟨g,cap,cur,b1,_⟩
      . rw [b];rfl
      . rw [b1];rfl
     rw [own_slice] at hgr hat
     rw [hv'b] at hat
     have hlen':(xs.take i ++ [[y0,y1,y2]]++xs.drop i).length=xs.length+1:=by simp;omega
     have hall:∀ x ∈ xs.take i ++ [[y0,y1,y2]]++xs.drop i,x.length=3:=fun x hxm=>by
      simp only [aA5,aAy] at hxm
      rcases hxm with (h | h) | h
      . exact hx x (aA6 h)
      . rw [h];rfl
      . exact hx x (aA7 h)
     obtain ⟨m',e1,e2,e3,e4,e5⟩:=give_row (xs':=xs.take i ++ [[y0,y1,y2]]++xs.drop i) (v':=v') hinv hρ hfree hall (by rw [hlen'];exact hown') hgr hat (fun k x j z u' hk hj hu'=>by
      have hxl:=hall x (aAg hk)
      have hj3:j < 3:=by have:=(aAe.1 hj).1;omega
      rw [ins_get (i:=i*3) (m:=3) (by omega) rfl] at hu'
      rw [ins_get (m:=1) hi rfl] at hk
      by_cases h1:k < i
      . rw [if_pos (by omega)] at hu'
        rw [if_pos h1] at hk
        exact hrd k x j z u' hk hj hu'
      . rw [if_neg (by omega)] at hu'
        rw [if_neg h1] at hk
        by_cases h2:k < i+1
        . obtain rfl:k=i:=by omega
          rw [if_pos (by omega),show k*3+j - k*3=j by omega] at hu'
          rw [if_pos h2,aB2] at hk
          cases hk
          exact (hu j z u' hj hu').2
        . rw [if_neg (by omega),show k*3+j - 3=(k - 1)*3+j by omega] at hu'
          rw [if_neg h2] at hk
          exact hrd (k - 1) x j z u' hk hj hu')
     refine ⟨v',m',rfl,e1,e2,fun i hi=>?_,e4,?_⟩
     . obtain rfl:i=0:=by simpa using hi
       exact e3
     . rcases hown'.2 with ⟨b,b'⟩ | ⟨g,cap,cur,b1,_,_,b2,_⟩
       . omega
       . subst b1
         exact .row 0 0 _ _ _ _ e5 (aBo _) b2
end Go.Proofs.Ve
namespace Go.Proofs.Ve
open Go Go.Proofs Go.Shelf Go.RowKit Go.Lib Go.Sort
structure DelT (P:Program) (ρ:Ren) (zr:Value):Prop where
 mixed:P.follows .mixedOrders=true
 f45:Bears P (ρ.f 45) (SlBodyN.n45 ρ)
 t0:P.underlying (ρ.t 0)=some (TypeDesc.tuple #[])
 a0:∀ w,(isAgg (ρ.t 0)).run P w = .ok false w
 z0:∀ w,(Go.sizeOf (ρ.t 0)).run P w = .ok 1 w
 v0:∀ w,(zeroValue (ρ.t 0)).run P w = .ok (Value.tuple #[]) w
 t3:P.underlying (ρ.t 3)=some (TypeDesc.int IntKind.i64)
 a3:∀ w,(isAgg (ρ.t 3)).run P w = .ok false w
 z3:∀ w,(Go.sizeOf (ρ.t 3)).run P w = .ok 1 w
 v3:∀ w,(zeroValue (ρ.t 3)).run P w = .ok (Value.int IntKind.i64 0) w
 t4:P.underlying (ρ.t 4)=some (TypeDesc.bool)
 a4:∀ w,(isAgg (ρ.t 4)).run P w = .ok false w
 z4:∀ w,(Go.sizeOf (ρ.t 4)).run P w = .ok 1 w
 v4:∀ w,(zeroValue (ρ.t 4)).run P w = .ok (Value.bool false) w
 t22:P.underlying (ρ.t 22)=some (TypeDesc.slice (ρ.t 23))
 a22:∀ w,(isAgg (ρ.t 22)).run P w = .ok false w
 z22:∀ w,(Go.sizeOf (ρ.t 22)).run P w = .ok 1 w
 v22:∀ w,(zeroValue (ρ.t 22)).run P w = .ok (Value.slice none 0 0) w
 a23:∀ w,(isAgg (ρ.t 23)).run P w = .ok true w
 z23:∀ w,(Go.sizeOf (ρ.t 23)).run P w = .ok 3 w
 v23:∀ w,(zeroValue (ρ.t 23)).run P w = .ok zr w
 i23:(P.info? (ρ.t 23)).map (fun i=>(i.zero,i.size,i.bytes))=some (some zr,3,72)
 cz:zr.cells = #[.slice none 0 0,.slice none 0 0,.slice none 0 0]
def zc3:Nat->List Value
 | 0=>[]
 | k+1=>.slice none 0 0 :: .slice none 0 0 :: .slice none 0 0::zc3 k
theorem zc3_len:∀ k,(zc3 k).length=k*3
 | 0=>rfl
 | k+1=>by unfold zc3;simp only [aAn,zc3_len k];omega
theorem zc3_mem:∀ k v,v ∈ zc3 k->v = .slice none 0 0
 | 0,v,h=>by cases h
 | k+1,v,h=>by
   unfold zc3 at h
   simp only [List.mem_cons] at h
   rcases h with h | h | h | h
   . exact h
   . exact h
   . exact h
   . exact zc3_mem k v h
theorem zeros_sizeA {A:Array Value} (hz:A.size=3) (k:Nat):(Builtin.zeroCells A k).size=k*3:=by
 unfold Builtin.zeroCells
 induction k with
 | zero=>simp
 | succ k ih=>(simp_all [List.replicate_succ] <;> omega)
theorem zc3_eq (k:Nat):(Builtin.zeroCells #[Value.slice none 0 0,.slice none 0 0,.slice none 0 0] k).toList=zc3 k:=by
 have h:∀ k (l:List Value),l.length=k*3->(∀ v ∈ l,v = .slice none 0 0)->l=zc3 k:=fun k l h1 h2=>by
  apply List.ext_getElem?
  intro j
  by_cases hj:j < k*3
  . have a1:=h2 _ (aBf (l:=l) (n:=j) (by omega))
    have a2:=zc3_mem k _ (aBf (l:=zc3 k) (n:=j) (by rw [zc3_len];omega))
    rw [aAf (by omega),aAf (by rw [zc3_len];omega),a1,a2]
  . rw [List.getElem?_eq_none (by omega),List.getElem?_eq_none (by rw [zc3_len];omega)]
 refine h k _ ?_ ?_
 . rw [aBy]
   exact zeros_sizeA rfl k
 . intro v hv
   obtain ⟨q,hq⟩:=List.getElem?_of_mem hv
   have hql:=(aAe.1 hq).1
   have e:=(aAe.1 hq).2
   rw [<- e]
   simp [Builtin.zeroCells]
   have h3:q % 3 < 3:=Nat.mod_lt _ (by decide)
   match q % 3,h3 with
   | 0,_=>rfl
   | 1,_=>rfl
   | 2,_=>rfl
theorem run_clear_three {P:Program} (w:World) (t e ty:TypeId) (z:Value) (ht:P.underlying t=some (.slice e)) (hv:∀ w,(zeroValue e).run P w = .ok z w) (hz:z.cells = #[.slice none 0 0,.slice none 0 0,.slice none 0 0]) (b o n c:Nat) (hn:0 < n)
 (hc:∀ j,j < n*3->(w.cell? ⟨b,o+j,none⟩).isSome=true) (hf:∀ j,j < n*3->w.frozen? ⟨b,o+j,none⟩=false) :
 (Builtin.clear_ #[t] ty #[.slice (some ⟨b,o,none⟩) n c]).run P w = .ok (.tuple #[]) (w.setCells b o (zc3 n)):=by
 have hst:=run_storeCells_cells (P:=P) b o (zc3 n) 0 w (by simpa [zc3_len] using hc) (by simpa [zc3_len] using hf) (by intro v hv';rw [zc3_mem n v hv'];rfl)
 simp only [Nat.add_zero] at hst
 have hzc:=zc3_eq n
 rw [<- hz] at hzc
 obtain ⟨m,rfl⟩:∃ m,n=m+1:=⟨n - 1,by omega⟩
 simp [Builtin.clear_,run_underlying ht,hv,hzc,hst]
theorem del_raw1 {P:Program} {ρ:Ren} {zr:Value} (L:DelT P ρ zr) (blk off n cap i j:Nat) (cs:List Value) (w:World) (hcl:cs.length=n*3) (h1c:∀ u ∈ cs,u.oneCell'=true)
 (hH:∀ t u,cs[t]? = some u->w.cell? ⟨blk,off+t,none⟩=some u) (hF:∀ o,w.frozen? ⟨blk,o,none⟩=false) (hcap:n<=cap) (hm:cap<=9223372036854775807) (hij:i < j) (hj:j<=n) :
 Calls P (ρ.f 45) #[.slice (some ⟨blk,off,none⟩) n cap,.int .i64 i,.int .i64 j] w fun e w'=>e = .returned (.slice (some ⟨blk,off,none⟩) (n - (j - i)) cap) /\
  w'=(w.drew.setCells blk (off+i*3) (cs.drop (j*3))).setCells blk (off+(i+(n - j))*3) (zc3 (n - (i+(n - j)))):=by
 have mixed:=L.mixed;have t0:=L.t0;have a0:=L.a0;have z0:=L.z0;have v0:=L.v0;have t3:=L.t3;have a3:=L.a3;have z3:=L.z3;have v3:=L.v3;have t4:=L.t4;have a4:=L.a4;have z4:=L.z4;have v4:=L.v4;have t22:=L.t22;have a22:=L.a22;have z22:=L.z22;have v22:=L.v22;have a23:=L.a23;have z23:=L.z23
 obtain ⟨i0,hi0,_,hz1,_⟩:=info_parts L.i23
 obtain ⟨news,hnews⟩:∃ news,news=cs.drop (j*3):=⟨_,rfl⟩
 have hlen:news.length=(n - j)*3:=by rw [hnews,aAq,hcl];omega
 have hsome:∀ t,t < n*3->(w.cell? ⟨blk,off+t,none⟩).isSome=true:=fun t ht=>by rw [hH t _ (aAf (by omega))];rfl
 obtain ⟨A,hA,hsrc⟩:∃ A:Addr,(if cap=j then some (⟨blk,off,none⟩:Addr) else some ⟨blk,off+j*3,none⟩)=some A/\Hid (∀ t u,news[t]? = some u->w.drew.cell? (A.add t)=some u):=by
  by_cases h:cap=j
  . refine ⟨⟨blk,off,none⟩,by simp [h],fun t u hu=>?_⟩
    have h0:news.length=0:=by rw [hlen];omega
    rw [List.length_eq_zero_iff.1 h0] at hu
    simp at hu
  . refine ⟨⟨blk,off+j*3,none⟩,by simp [h],fun t u hu=>?_⟩
    rw [hnews,aA1] at hu
    rw [Addr.add_lit,show off+j*3+t=off+(j*3+t) by omega]
    exact hH _ u hu
 have s1:Hid (news.length=(n - j)*3):=hlen
 have s2:Hid (∀ u ∈ news,u.oneCell'=true):=by
  intro u hu
  rw [hnews] at hu
  exact h1c u (aA7 hu)
 have s3:Hid (∀ t,t < news.length->(w.drew.cell? ⟨blk,off+i*3+t,none⟩).isSome=true/\w.drew.frozen? ⟨blk,off+i*3+t,none⟩=false):=by
  intro t ht
  rw [hlen] at ht
  rw [Nat.add_assoc]
  exact ⟨hsome _ (by omega),hF _⟩
 obtain ⟨W1,hW1⟩:∃ W1,W1=w.drew.setCells blk (off+i*3) news:=⟨_,rfl⟩
 have hcl:∀ ty,(Builtin.clear_ #[ρ.t 22] ty #[.slice (some ⟨blk,off+(i+(n - j))*3,none⟩) (n - (i+(n - j))) (cap - (i+(n - j)))]).run P W1 = .ok (.tuple #[]) (W1.setCells blk (off+(i+(n - j))*3) (zc3 (n - (i+(n - j))))):=
  fun ty=>run_clear_three W1 _ _ ty _ t22 L.v23 L.cz blk (off+(i+(n - j))*3) _ _ (by omega) (fun t ht=>by
   rw [hW1]
   refine isSome_setCells _ _ _ _ (fun t ht=>?_) _ ?_
   . rw [hlen] at ht
     rw [Nat.add_assoc]
     exact hsome _ (by omega)
   . rw [Nat.add_assoc]
     exact hsome _ (by omega)) (fun t ht=>by rw [hW1,World.frozen?_setCells];exact hF _)
 have hW:Hid (W1=w.drew.setCells blk (off+i*3) news):=hW1
 rw [<- hnews,<- hW1]
 have hic:i<=cap:=by omega
 have hjc:j<=cap:=by omega
 clear hW1 hH hnews hlen hsome
 obtain ⟨_,_,FG⟩:=L.f45
 go_enter FG,SlBodyN.n45_ntmps ρ
 go_wp2_with fail
 go_region_law_o (refine step_append_room rfl (.tmp 22) (.tmp 25) (ρ.t 22) rfl (ρ.t 23) i0 3 t22 hi0 hz1 blk off i cap (by simp [Act.eval,Act.put]) A (n - j) (cap - j) news (by simp [Act.eval,Act.put]) s1.out hsrc.out s2.out (by omega) s3.out ?_;rw [<- hW.out])
 go_wp2
 go_ret
 exact ⟨by rw [show n - (j - i)=i+(n - j) by omega];rfl,rfl⟩
end Go.Proofs.Ve
namespace Go.Proofs.Ve
open Go Go.Proofs Go.Shelf Go.RowKit Go.Lib Go.Sort
theorem del_own3 {P:Program} {ρ:Ren} {zr:Value} (L:DelT P ρ zr) (g n cap i j:Nat) (cur:Array Value) (cs:List Value) (w:World) (h1c:∀ u ∈ cs,u.oneCell'=true)
 (hg:w.heap[g]? = some (.cells cur (ρ.t 23) (0,0))) (hn:cs.length=n*3) (h1:n<=cap) (h2:cap<=maxLen) (h3:cur.size=cap*3) (h4:cur.toList.take (n*3)=cs) (hij:i < j) (hj:j<=n) :
 Calls P (ρ.f 45) #[.slice (some ⟨g,0,none⟩) n cap,.int .i64 i,.int .i64 j] w fun e w'=>e = .returned (.slice (some ⟨g,0,none⟩) (n - (j - i)) cap) /\
  w'.ownsRow 0 (ρ.t 23) 3 (.slice (some ⟨g,0,none⟩) n cap) n (cs.take (i*3)++cs.drop (j*3)++zc3 (j - i))/\w.grownBy w' (some g):=by
 have hcur:∀ k,k < n*3->cur[k]? = cs[k]?:=fun k hk=>by
  rw [<- h4,aA0,if_pos (by omega),aBv]
 refine (del_raw1 L g 0 n cap i j cs w hn h1c (fun t u hu=>?_) (frozen_none hg) h1 (aBp h2 (by unfold maxLen;decide)) hij hj).mono ?_
 . have:=(aAe.1 hu).1
   rw [Nat.zero_add,cell_at hg,hcur t (by omega)];exact hu
 rintro e w' ⟨rfl,rfl⟩
 obtain ⟨cur',c1,c2,c3⟩:=setCells_block (cs.drop (j*3)) (0+i*3) w.drew cur hg
 obtain ⟨cur2,d1,d2,d3⟩:=setCells_block (zc3 (n - (i+(n - j)))) (0+(i+(n - j))*3) _ cur' c1
 obtain ⟨o1,o2,o3,o4,o5⟩:=setCells_rest g (cs.drop (j*3)) (0+i*3) w.drew
 obtain ⟨q1,q2,q3,q4,q5⟩:=setCells_rest g (zc3 (n - (i+(n - j)))) (0+(i+(n - j))*3) (w.drew.setCells g (0+i*3) (cs.drop (j*3)))
 have ez:n - (i+(n - j))=j - i:=by omega
 have hdl:(cs.drop (j*3)).length=(n - j)*3:=by rw [aAq,hn];omega
 have hzl:=zc3_len (n - (i+(n - j)))
 have htl:(cs.take (i*3)).length=i*3:=by rw [aAl];omega
 have hzl2:=zc3_len (j - i)
 have hlen:(cs.take (i*3)++cs.drop (j*3)++zc3 (j - i)).length=n*3:=by simp only [aAm];omega
 refine ⟨rfl,⟨hlen,.inr ⟨g,cap,cur2,rfl,aBn _,d1,h1,h2,by omega,?_⟩⟩,⟨q1.trans o1,q2.trans o2,q3.trans o3,Nat.le_of_eq (q4.trans o4).symm,fun k hk hne=>(q5 k (fun e=>hne (by rw [e]))).trans (o5 k (fun e=>hne (by rw [e])))⟩⟩
 apply List.ext_getElem?
 intro k
 rw [aA0]
 by_cases hk:k < n*3
 . rw [if_pos hk,aBv,d3 k]
   by_cases hk1:k < i*3
   . rw [if_neg (by omega),c3 k,if_neg (by omega),hcur k hk,aBb,aAk (by omega),aA0,if_pos hk1]
   . by_cases hk2:k < i*3+(n - j)*3
     . rw [if_neg (by omega),c3 k,if_pos (by omega),aBb,aAj (by omega),aAk (by omega),htl]
       congr 1;omega
     . rw [if_pos (by omega),aAj (by simp only [aAm];omega),ez]
       congr 1
       simp only [aAm];omega
 . rw [if_neg hk,List.getElem?_eq_none (by omega)]
theorem del_eq3 {ρ:Ren} {zr:Value} (L:DelT X.P ρ zr) (xs:List (List DV)) (hx:∀ x ∈ xs,x.length=3) (i j:Nat) (hij:i < j) (hj:j<=xs.length) (H:List (List Blk)) :
 aE X H (ρ.f 45) [⟨ρ.t 23,3,xs⟩] [.row 0 0 xs.length,.d (.int .i64 i),.d (.int .i64 j)] [none] (.row 0 0 (xs.length - (j - i))) [⟨ρ.t 23,3,xs.take i++xs.drop j++List.replicate (j - i) [.sl [],.sl [],.sl []]⟩]:=by
 have hB:∀ ys,RowB.blk ⟨ρ.t 23,3,ys⟩ = .row (ρ.t 23) 3 ys:=fun ys=>eD rfl rfl
 unfold aE
 simp only [List.map_cons,List.map_nil,hB]
 refine ⟨rfl,fun m vs hinv hfree hlen hargs=>?_⟩
 obtain ⟨v0,v1,v2,rfl⟩:∃ v0 v1 v2,vs = #[v0,v1,v2]:=by
  match vs,hlen with
  | ⟨[a,b,c]⟩,_=>exact ⟨a,b,c,rfl⟩
 have a0:=hargs 0 _ v0 rfl rfl
 have a1:=hargs 1 _ v1 rfl rfl
 have a2:=hargs 2 _ v2 rfl rfl
 cases a1 with
 | d _ _ a1=>
 cases a1
 cases a2 with
 | d _ _ a2=>
 cases a2
 cases a0 with
 | row _ _ _ Nn c A hρ hn hc=>
   have hb:=hinv.blk 0 0 _ rfl _ hρ
   obtain ⟨_,_,flat,hown,hrd⟩:=hb
   change m.w.ownsRow 0 (ρ.t 23) 3 (.slice A Nn c) xs.length flat at hown
   change ∀ (i:Nat) x (j:Nat) y u,xs[i]? = some x->x[j]? = some y->flat[i*3+j]? = some u->RD m.w m.ok y u at hrd
   rcases hown.2 with ⟨b,b'⟩ | ⟨g,cap,cur,b1,_,hg,b2,b3,b4,b5⟩
   . omega
   cases b1
   have hfl:flat.length=xs.length*3:=hown.1
   have hone:∀ w ∈ flat,w.oneCell'=true:=fun w hw=>by
    obtain ⟨q,hq⟩:=List.getElem?_of_mem hw
    have hql:q < xs.length*3:=by have:=(aAe.1 hq).1;omega
    obtain ⟨x,hxj⟩:∃ x,xs[q / 3]? = some x:=⟨_,aAf (by omega)⟩
    have hl:=hx x (aAg hxj)
    obtain ⟨y,hy⟩:∃ y,x[q % 3]? = some y:=⟨_,aAf (by omega)⟩
    exact (hrd (q / 3) x (q % 3) y w hxj hy (by rw [show q / 3*3+q % 3=q by omega];exact hq)).one
   refine (del_own3 L g xs.length c i j cur flat m.w hone hg hfl b2 b3 b4 b5 hij hj).mono ?_
   rintro e w' ⟨rfl,hown',hgr⟩
   have hall:∀ x ∈ xs.take i++xs.drop j++List.replicate (j - i) [DV.sl [],.sl [],.sl []],x.length=3:=fun x hxm=>by
    simp only [aA5,List.mem_replicate] at hxm
    rcases hxm with (h | h) | ⟨_,h⟩
    . exact hx x (aA6 h)
    . exact hx x (aA7 h)
    . rw [h];rfl
   have hl':(xs.take i++xs.drop j++List.replicate (j - i) [DV.sl [],.sl [],.sl []]).length=xs.length:=by simp;omega
   have hti:(xs.take i).length=i:=by rw [aAl];omega
   have hfi:(flat.take (i*3)).length=i*3:=by rw [aAl];omega
   have hxd:(xs.drop j).length=xs.length - j:=aAq ..
   have hfd:(flat.drop (j*3)).length=(xs.length - j)*3:=by rw [aAq];omega
   obtain ⟨m',e1,e2,e3,e4,e5⟩:=give_row (xs':=xs.take i++xs.drop j++List.replicate (j - i) [.sl [],.sl [],.sl []]) (v':=.slice (some ⟨g,0,none⟩) xs.length c) hinv hρ hfree hall (by rw [hl'];exact hown') hgr (.inl rfl) (fun k x t z u' hk ht hu=>by
    have hxl:=hall x (aAg hk)
    have ht3:t < 3:=by have:=(aAe.1 ht).1;omega
    by_cases h1:k < i
    . rw [aBb,aAk (by omega),aA0,if_pos (by omega)] at hu hk
      exact hrd k x t z u' hk ht hu
    . by_cases h2:k < i+(xs.length - j)
      . rw [aBb,aAj (by omega),aAk (by omega),aA1] at hu hk
        rw [hfi,show j*3+(k*3+t - i*3)=(j+(k - i))*3+t by omega] at hu
        rw [hti] at hk
        exact hrd _ x t z u' hk ht hu
      . rw [aAj (by simp only [aAm];omega)] at hu hk
        have h3:=zc3_mem _ _ (aAg hu)
        have h4:=aAg hk
        rw [List.mem_replicate] at h4
        have h5:z = .sl []:=by
         have:=h4.2
         subst this
         have:=aAg ht
         simp only [List.mem_cons,List.not_mem_nil,or_false] at this
         rcases this with h | h | h <;> exact h
        subst h5
        rw [h3]
        exact .sl 1 [] none 0 0 ⟨0,0,none⟩ (fun _=>.bool true) rfl (aBo _) (by decide) (fun h=>absurd h (by decide)) (fun x h=>by cases h) (fun i x j y h=>by simp at h) (fun i x j y h=>by simp at h))
   refine ⟨_,m',rfl,e1,e2,fun t ht=>?_,e4,.row 0 0 _ _ _ _ e5 (by omega) b2⟩
   obtain rfl:t=0:=by simpa using ht
   exact e3
end Go.Proofs.Ve
namespace Go.Proofs.Ve
open Go Go.Proofs Go.Shelf Go.RowKit Go.Lib
def zrN:Value:=.agg #[.slice none 0 0,.slice none 0 0,.slice none 0 0]
theorem cellsN:zrN.cells = #[.slice none 0 0,.slice none 0 0,.slice none 0 0]:=by simp [zrN,Value.cells]
def renIN:Ren:=⟨fun | 22=>64 | 29=>78 | 30=>79 | n=>n,fun | 9=>26 | 24=>24 | n=>n,fun n=>n⟩
theorem laysIN:InsT Try.prog renIN zrN:={
 mixed:=by kernel_rfl
 f22:=⟨Try.f64.name,by decide,Try.func64.trans (congrArg some (by kernel_rfl))⟩
 ov:=fun w vb voff m vc b o lb cb tA tB kA kB h1 h2 h3 h4 h5=>by
  show (callFunc 78 _).run _ w=_
  rw [run_callFunc_extern Try.func78 (by kernel_rfl) (by kernel_rfl) (by kernel_rfl) (e:=Extern.SlicesOverlaps.overlaps #[24,24] #[4]) (by kernel_rfl),
   overlaps_own w 24 4 26 Try.underlying24 3 Try.sizeOf26 ⟨vb,voff,none⟩ ⟨b,o,none⟩ m vc lb cb h1 tA tB kA kB h2 h3 h4 (h5 _) (h5 _)]
  rfl
 t0:=Try.underlying0
 a0:=Try.isAgg0
 z0:=Try.sizeOf0
 v0:=Try.zeroValue0
 t3:=Try.underlying3
 a3:=Try.isAgg3
 z3:=Try.sizeOf3
 v3:=Try.zeroValue3
 t4:=Try.underlying4
 a4:=Try.isAgg4
 z4:=Try.sizeOf4
 v4:=Try.zeroValue4
 a9:=Try.isAgg26
 z9:=Try.sizeOf26
 v9:=Try.zeroValue26
 t24:=Try.underlying24
 a24:=Try.isAgg24
 z24:=Try.sizeOf24
 v24:=Try.zeroValue24
 i9:=by kernel_rfl
 cz:=cellsN ▸ rfl }
def renDN:Ren:=⟨fun | 45=>81 | n=>n,fun | 22=>24 | 23=>26 | n=>n,fun n=>n⟩
theorem laysDN:DelT Try.prog renDN zrN:={
 mixed:=by kernel_rfl
 f45:=⟨Try.f81.name,by decide,Try.func81.trans (congrArg some (by kernel_rfl))⟩
 t0:=Try.underlying0
 a0:=Try.isAgg0
 z0:=Try.sizeOf0
 v0:=Try.zeroValue0
 t3:=Try.underlying3
 a3:=Try.isAgg3
 z3:=Try.sizeOf3
 v3:=Try.zeroValue3
 t4:=Try.underlying4
 a4:=Try.isAgg4
 z4:=Try.sizeOf4
 v4:=Try.zeroValue4
 t22:=Try.underlying24
 a22:=Try.isAgg24
 z22:=Try.sizeOf24
 v22:=Try.zeroValue24
 a23:=Try.isAgg26
 z23:=Try.sizeOf26
 v23:=Try.zeroValue26
 i23:=by kernel_rfl
 cz:=cellsN }
theorem d_insN (xs:List (List DV)) (hb:xs.length < 1000000) (i:Nat) (hi:i<=xs.length) (cs:List PV) (hcs:cs.length=3) (ds:List DV) (R:List RowB)
 (hown:∀ (E:Nat),E=67->ownsK ((⟨26,E,xs⟩::R).map RowB.blk) cs [0] fun ds' _=>ds'=ds) (H:List (List Blk)) :
 aE X H 64 (⟨26,67,xs⟩::R) [.row 0 0 xs.length,.d (.int .i64 i),.lits [cs]] (none::R.map fun _=>none) (.row 0 0 (xs.length+1)) [⟨26,67,xs.take i ++ [ds]++xs.drop i⟩]:=
 zH (sz:=3) rfl rfl hi hcs hown (fun vals yv h1 h2 h3=>ins_eq3 (ρ:=renIN) laysIN vals h2 i (by omega) yv h3 (by omega) H)
theorem d_delN (xs:List (List DV)) (i j:Nat) (hij:i < j) (hj:j<=xs.length) (H:List (List Blk)) :
 aE X H 81 [⟨26,67,xs⟩] [.row 0 0 xs.length,.d (.int .i64 i),.d (.int .i64 j)] [none] (.row 0 0 (xs.length - (j - i))) [⟨26,67,xs.take i++xs.drop j++List.replicate (j - i) [.sl [],.sl [],.sl []]⟩]:=
 zI (sz:=3) rfl rfl (Nat.le_of_lt hij) hj ⟨rfl,fun y hy=>by
  simp only [List.mem_cons,List.not_mem_nil,or_false] at hy
  rcases hy with rfl | rfl | rfl <;> rfl⟩ (fun vals h1 h2=>del_eq3 (ρ:=renDN) laysDN vals h2 i j hij (by omega) H)
mutual
def ownN:Node->List DV
 | .mk ks cs ns=>[.own 27 1 (aF ks),.own 32 1 (aG cs),.own 26 3 (ownNs ns)]
def ownNs:List Node->List (List DV)
 | []=>[]
 | n::ns=>ownN n::ownNs ns
end
theorem ownNs_eq:∀ ns,ownNs ns=ns.map ownN
 | []=>by unfold ownNs;rfl
 | n::ns=>by unfold ownNs;rw [ownNs_eq ns];rfl
theorem ownN_eq (n:Node):ownN n = [.own 27 1 (aF n.keys),.own 32 1 (aG n.chains),.own 26 3 (n.kids.map ownN)]:=by
 cases n with
 | mk k c ns=>unfold ownN;rw [ownNs_eq];rfl
def kidO (ns:List Node) (i:Nat):List (List DV):=(ns.take i).map ownN++(ns.drop i).map cNode
theorem kidO_zero (ns:List Node):ns.map cNode=kidO ns 0:=by unfold kidO;simp
theorem kidO_all (ns:List Node):kidO ns ns.length=ns.map ownN:=by unfold kidO;simp
theorem kidO_len (ns:List Node) (i:Nat):(kidO ns i).length=ns.length:=by unfold kidO;simp;omega
theorem kidO_get {ns:List Node} {i:Nat} {n:Node} (h:ns[i]? = some n):(kidO ns i)[i]? = some (cNode n):=by
 have hi:=(aAe.1 h).1
 unfold kidO
 rw [aAj (by simp;omega)]
 simp only [aAh,aAl,aAi,aA1]
 rw [show i+(i - min i ns.length)=i by omega,h];rfl
theorem kidO_set {ns:List Node} {i:Nat} {n:Node} (h:ns[i]? = some n):(kidO ns i).set i (ownN n)=kidO ns (i+1):=by
 have hi:=(aAe.1 h).1
 have hn:ns[i]=n:=(aAe.1 h).2
 unfold kidO
 rw [List.set_append_right _ _ (by simp;omega)]
 simp only [aAh,aAl]
 rw [show i - min i ns.length=0 by omega,aBg hi,List.take_succ_eq_append_getElem hi,hn]
 simp
def nodeR (n:Node):List RowB:=[⟨27,1,aF n.keys⟩,⟨32,1,aG n.chains⟩,⟨26,67,n.kids.map ownN⟩]
def nodeV (n:Node):PV:=.agg [.row 0 0 n.keys.length,.row 0 1 n.chains.length,.row 0 2 n.kids.length]
theorem d_ownD_step (d:Nat) (ih:∀ (n:Node),nOk d n -> ∀ (H:List (List Blk)),aD X H 48 [pNode n] (.agg [.row 0 0 n.keys.length,.row 0 1 n.chains.length,.row 0 2 n.kids.length]) [⟨27,1,aF n.keys⟩,⟨32,1,aG n.chains⟩,⟨26,67,n.kids.map ownN⟩])
 (ks:List (List UInt8)) (cs:List (List Ver)) (ns:List Node) (ht:nOk (d+1) (.mk ks cs ns)) (H:List (List Blk)) :
 aD X H 48 [pNode (.mk ks cs ns)] (.agg [.row 0 0 ks.length,.row 0 1 cs.length,.row 0 2 ns.length]) [⟨27,1,aF ks⟩,⟨32,1,aG cs⟩,⟨26,67,ns.map ownN⟩]:=by
 have l1:(aF ks).length=ks.length:=aAh ..
 have l2:(aG cs).length=cs.length:=aAh ..
 have l3:(ns.map cNode).length=ns.length:=aAh ..
 have hk1:ks.length < 100000:=nOk_keys ht
 have hk2:cs.length < 100000:=nOk_chains ht
 have hk3:ns.length < 100000:=nOk_kids ht
 have h3:∀ x ∈ ks,x.length<=1000000:=nOk_key ht
 have h4:∀ y ∈ cs,y.length < 100000 /\ ∀ v ∈ y,v.val.length<=1000000:=nOk_chain ht
 have hn3:∀ x ∈ ns.map cNode,x.length=3:=fun x hx=>by
  obtain ⟨n,_,rfl⟩:=aBc.1 hx
  rw [cNode_eq];rfl
 refine callEq_of_bodyD aY false false [26] [] (mo:=[]) (by kernel_rfl) Try.func48 rfl ?_
 conv=>whnf
 refine ⟨_,_,(sL (aF ks) (bY ks) (by omega) _).mdd _ _ _ _,True.intro,?_⟩
 conv=>whnf
 refine ⟨_,_,(sM (aG cs) (bZ cs) (by omega) _).mdd _ _ _ _,True.intro,?_⟩
 conv=>whnf
 refine ⟨_,_,(sN (ns.map cNode) hn3 (by omega) _).mdd _ _ _ _,True.intro,?_⟩
 conv=>whnf
 refine bI (fun i:Nat=>⟨[.any,.ptr 0 0 0,.ptr 0 1 0,.any,.any,.any,.any,.any,.any,.any,.any,.any,.any,.any,.any,.any,.any,.any,.any,.any,.any,.any,.row 0 2 (aF ks).length,.d (.int .i64 (aF ks).length),.d (.int .i64 i),.any,.any,.any,.any,.any,.any,.any,.any,.any,.any,.any,.any,.any,.any,.any,.any,.any,.any,.any,.any,.any,.any,.any,.any,.any,.any,.any,.any,.any,.any,.any,.any,.any,.any,.any,.any,.any,.any,.any,.any,.any,.any],[.box [.row 0 2 (aF ks).length,.row 0 3 (aG cs).length,.row 0 4 (ns.map cNode).length],.box [.any,.any,.any],.row 27 1 (aF ks),.row 32 1 (aG cs),.row 26 3 (ns.map cNode)]⟩)
  (fun i=>i<=ks.length) (fun i=>ks.length - i) 0 [0,1,2,3,4] (aBn _) ?_ ?_
 . refine And.intro rfl (And.intro ?_ ?_)
   all_goals (repeat' (first | exact True.intro | exact rfl | refine And.intro ?_ ?_))
 . intro i hi
   conv=>whnf
   refine And.intro (fun q=>?_) (fun q=>?_)
   . conv=>whnf
     have hi':i < ks.length:=by rw [l1] at q;simpa using q
     obtain ⟨k,hk⟩:∃ x,ks[i]? = some x:=⟨_,aAf hi'⟩
     have hkl:=h3 k (aAg hk)
     have hg:(aF ks)[((i:Nat):Int).toNat]? = some [aL k]:=by unfold aF;rw [aBi,aAi,hk];rfl
     have hset:(aF ks).set ((i:Nat):Int).toNat [aL k]=aF ks:=by rw [aBi];exact sV (f:=fun k=>[aL k]) hk
     refine ⟨by omega,by rw [l1];omega,?_⟩
     conv=>whnf
     refine ⟨[aL k],hg,?_⟩
     conv=>whnf
     refine ⟨_,_,(c103 k (by omega) _).mdd _ _ _ _,True.intro,?_⟩
     conv=>whnf
     refine ⟨by omega,by rw [l1];omega,?_⟩
     conv=>whnf
     refine ⟨[aL k],hg,?_⟩
     conv=>whnf
     intro z hz
     conv=>whnf
     rw [aJ (by omega) (by omega)] at hz
     subst hz
     refine ⟨i+1,[0,1,2,3,4],by omega,by omega,And.intro rfl (And.intro ?_ ?_)⟩
     all_goals (repeat' (first | exact True.intro | exact rfl | refine And.intro ?_ ?_))
     exact hset
   . conv=>whnf
     refine bI (fun i:Nat=>⟨[.any,.ptr 0 0 0,.ptr 0 1 0,.any,.any,.any,.any,.any,.any,.any,.any,.any,.any,.any,.any,.any,.any,.any,.any,.any,.any,.any,.any,.any,.any,.any,.any,.any,.any,.any,.any,.any,.any,.any,.any,.any,.any,.row 0 3 (aG cs).length,.d (.int .i64 (aG cs).length),.d (.int .i64 i),.any,.any,.any,.any,.any,.any,.any,.any,.any,.any,.any,.any,.any,.any,.any,.any,.any,.any,.any,.any,.any,.any,.any,.any,.any,.any,.any],[.box [.row 0 2 (aF ks).length,.row 0 3 (aG cs).length,.row 0 4 (ns.map cNode).length],.box [.any,.any,.any],.row 27 1 (aF ks),.row 32 1 (aG cs),.row 26 3 (ns.map cNode)]⟩)
      (fun i=>i<=cs.length) (fun i=>cs.length - i) 0 [0,1,2,3,4] (aBn _) ?_ ?_
     . refine And.intro rfl (And.intro ?_ ?_)
       all_goals (repeat' (first | exact True.intro | exact rfl | refine And.intro ?_ ?_))
     . clear q hi
       clear i
       intro i hi
       conv=>whnf
       refine And.intro (fun q=>?_) (fun q=>?_)
       . conv=>whnf
         have hi':i < cs.length:=by rw [l2] at q;simpa using q
         obtain ⟨c,hc⟩:∃ x,cs[i]? = some x:=⟨_,aAf hi'⟩
         have hcl:=h4 c (aAg hc)
         have hg:(aG cs)[((i:Nat):Int).toNat]? = some [encVs c]:=by unfold aG;rw [aBi,aAi,hc];rfl
         have hset:(aG cs).set ((i:Nat):Int).toNat [encVs c]=aG cs:=by rw [aBi];exact sV (f:=fun c=>[encVs c]) hc
         refine ⟨by omega,by rw [l2];omega,?_⟩
         conv=>whnf
         refine ⟨[encVs c],hg,?_⟩
         conv=>whnf
         refine ⟨_,_,(pD c (by omega) hcl.2 _).mdd _ _ _ _,True.intro,?_⟩
         conv=>whnf
         refine ⟨by omega,by rw [l2];omega,?_⟩
         conv=>whnf
         refine ⟨[encVs c],hg,?_⟩
         conv=>whnf
         intro z hz
         conv=>whnf
         rw [aJ (by omega) (by omega)] at hz
         subst hz
         refine ⟨i+1,[0,1,2,3,4],by omega,by omega,And.intro rfl (And.intro ?_ ?_)⟩
         all_goals (repeat' (first | exact True.intro | exact rfl | refine And.intro ?_ ?_))
         exact hset
       . conv=>whnf
         refine bI (fun i:Nat=>⟨[.any,.ptr 0 0 0,.ptr 0 1 0,.any,.any,.any,.any,.any,.any,.any,.any,.any,.any,.any,.any,.any,.any,.any,.any,.any,.any,.any,.any,.any,.any,.any,.any,.any,.any,.any,.any,.any,.any,.any,.any,.any,.any,.any,.any,.any,.any,.any,.any,.any,.any,.any,.any,.any,.any,.any,.any,.any,.row 0 4 (ns.map cNode).length,.d (.int .i64 (ns.map cNode).length),.d (.int .i64 i),.any,.any,.any,.any,.any,.any,.any,.any,.any,.any,.any,.any],[.box [.row 0 2 (aF ks).length,.row 0 3 (aG cs).length,.row 0 4 (ns.map cNode).length],.box [.any,.any,.any],.row 27 1 (aF ks),.row 32 1 (aG cs),.deep 26 3 (kidO ns i)]⟩)
          (fun i=>i<=ns.length) (fun i=>ns.length - i) 0 [0,1,2,3,4] (aBn _) ?_ ?_
         . refine And.intro rfl (And.intro ?_ ?_)
           all_goals (repeat' (first | exact True.intro | exact rfl | refine And.intro ?_ ?_))
           all_goals exact kidO_zero ns
         . clear q hi
           clear i
           intro i hi
           conv=>whnf
           refine And.intro (fun q=>?_) (fun q=>?_)
           . conv=>whnf
             have hi':i < ns.length:=by rw [l3] at q;simpa using q
             obtain ⟨n,hn⟩:∃ x,ns[i]? = some x:=⟨_,aAf hi'⟩
             have hnk:=nOk_kid ht n (aAg hn)
             have hlen:=kidO_len ns i
             have hg:(kidO ns i)[((i:Nat):Int).toNat]? = some [encKs n.keys,encCs n.chains,encNs n.kids]:=by rw [aBi,kidO_get hn,cNode_eq]
             have hset:(kidO ns i).set ((i:Nat):Int).toNat [DV.own 27 1 (aF n.keys),.own 32 1 (aG n.chains),.own 26 3 (n.kids.map ownN)]=kidO ns (i+1):=by rw [aBi,<- ownN_eq];exact kidO_set hn
             have e1:n.keys.length=(aF n.keys).length:=(aAh ..).symm
             have e2:n.chains.length=(aG n.chains).length:=(aAh ..).symm
             have e3:n.kids.length=(n.kids.map ownN).length:=(aAh ..).symm
             refine ⟨by omega,by omega,?_⟩
             conv=>whnf
             refine ⟨_,hg,?_⟩
             conv=>whnf
             refine ⟨_,_,(ih n hnk _).mdd _ _ _ _,True.intro,?_⟩
             conv=>whnf
             refine ⟨by omega,by omega,?_⟩
             conv=>whnf
             refine ⟨e1,?_⟩
             conv=>whnf
             refine ⟨e2,?_⟩
             conv=>whnf
             refine ⟨e3,?_⟩
             conv=>whnf
             refine ⟨_,hg,?_⟩
             conv=>whnf
             intro z hz
             conv=>whnf
             rw [aJ (by omega) (by omega)] at hz
             subst hz
             refine ⟨i+1,[0,1,2,3,4],by omega,by omega,And.intro rfl (And.intro ?_ ?_)⟩
             all_goals (repeat' (first | exact True.intro | exact rfl | refine And.intro ?_ ?_))
             exact hset
           . conv=>whnf
             have hi':i=ns.length:=by rw [l3] at q;simp at q;omega
             subst hi'
             refine ⟨[2,3,4],rfl,?_⟩
             (repeat' (first | exact True.intro | exact rfl | refine And.intro ?_ ?_))
             . show PV.row 0 2 _=PV.row 0 2 _
               rw [l1]
             . show PV.row 0 3 _=PV.row 0 3 _
               rw [l2]
             . show PV.row 0 4 _=PV.row 0 4 _
               rw [l3]
             . exact kidO_all ns
theorem d_ownD:∀ (d:Nat) (n:Node),nOk d n -> ∀ (H:List (List Blk)),aD X H 48 [pNode n] (.agg [.row 0 0 n.keys.length,.row 0 1 n.chains.length,.row 0 2 n.kids.length]) [⟨27,1,aF n.keys⟩,⟨32,1,aG n.chains⟩,⟨26,67,n.kids.map ownN⟩]
 | 0,_,h,_=>h.elim
 | d+1,.mk ks cs ns,ht,H=>d_ownD_step d (d_ownD d) ks cs ns ht H
theorem aE.ofmdd {C:Cx} {H:List (List Blk)} {f:Nat} {G:List RowB} {args:List PV} {G':List (Option RowB)} {r:PV} {N:List RowB} {fz fc:Bool} {mv fld:List Nat} (h:aE (C.mdd fz fc mv fld) H f G args G' r N):aE C H f G args G' r N:=by
 unfold aE at h ⊢;exact h
theorem aQ {C:Cx} (hC:C.Ok) {H:List (List Blk)} {f:Nat} {fn:Func} {c:Code} {G:List RowB} {args:List PV} {r:PV} {N:List RowB} (fz:Bool) (mv fld:List Nat)
 {mo:List (Nat × Tr)} (hg:bM C.give fz false mo false c=true) (hf:C.P.funcs[f]? = some fn) (hb:fn.body=some c)
 (h:padK args fn.ntmps fun tm=>wpM (C.mdd fz false mv fld) H mo c (retK (C.mdd fz false mv fld) H fn.results.toList r N) tm (blksOf G)):aE C H f G args (G.map fun _=>none) r N:=
 (callEqG_of_bodyM (hC.mdd fz false mv fld) (mo:=mo) hg hf hb h rfl).ofmdd
def mo45:List (Nat × Tr):=[(2,.cut (.alt 0 (.alt 2 (.alt 3 (.alt 5 (.alt 1 (.alt 4 (.alt 6 (.alt 7 (.alt 8 (.alt 9 (.alt 10 (.alt 11 .fin .none) .none) .none) .none) .none) .none) .none) (.alt 4 (.alt 1 (.alt 6 (.alt 7 (.alt 8 (.alt 9 (.alt 10 (.alt 11 .fin .none) .none) .none) .none) .none) .none) (.alt 6 (.alt 1 (.alt 7 (.alt 8 (.alt 9 (.alt 10 (.alt 11 .fin .none) .none) .none) .none) .none) (.alt 7 (.alt 1 (.alt 8 (.alt 9 (.alt 10 (.alt 11 .fin .none) .none) .none) .none) (.alt 8 (.alt 1 (.alt 9 (.alt 10 (.alt 11 .fin .none) .none) .none) .none) .none)) .none)) .none)) .none)) .none) .none) .none) .none)),(3,.cut (.alt 0 (.alt 2 (.alt 3 (.alt 5 (.alt 1 (.alt 4 (.alt 6 (.alt 7 (.alt 8 (.alt 9 (.alt 10 (.alt 11 .fin .none) .none) .none) .none) .none) .none) .none) (.alt 4 (.alt 1 (.alt 6 (.alt 7 (.alt 8 (.alt 9 (.alt 10 (.alt 11 .fin .none) .none) .none) .none) .none) .none) (.alt 6 (.alt 1 (.alt 7 (.alt 8 (.alt 9 (.alt 10 (.alt 11 .fin .none) .none) .none) .none) .none) (.alt 7 (.alt 1 (.alt 8 (.alt 9 (.alt 10 (.alt 11 .fin .none) .none) .none) .none) (.alt 8 (.alt 1 (.alt 9 (.alt 10 (.alt 11 .fin .none) .none) .none) .none) .none)) .none)) .none)) .none)) .none) .none) .none) .none)),(4,.cut (.alt 0 (.alt 2 (.alt 4 (.alt 1 (.alt 3 (.alt 5 (.alt 6 (.alt 7 .fin .none) .none) .none) .none) (.alt 3 (.alt 1 (.alt 5 (.alt 6 (.alt 7 .fin .none) .none) .none) (.alt 5 (.alt 1 (.alt 6 (.alt 7 .fin .none) .none) .none) .none)) .none)) .none) .none) .none)),(5,.cut (.alt 0 (.alt 2 (.alt 3 (.alt 5 (.alt 6 (.alt 7 (.alt 1 (.alt 4 (.alt 8 (.alt 9 (.alt 10 (.alt 11 (.alt 12 (.alt 13 (.alt 14 .fin .none) .none) .none) .none) .none) .none) .none) (.alt 8 (.alt 4 (.alt 9 (.alt 10 (.alt 11 (.alt 12 (.alt 13 (.alt 14 .fin .none) .none) .none) .none) .none) .none) (.alt 9 (.alt 4 (.alt 10 (.alt 11 (.alt 12 (.alt 13 (.alt 14 .fin .none) .none) .none) .none) .none) .none) .none)) .none)) (.alt 4 (.alt 1 (.alt 8 (.alt 9 (.alt 10 (.alt 11 (.alt 12 (.alt 13 (.alt 14 .fin .none) .none) .none) .none) .none) .none) .none) (.alt 8 (.alt 1 (.alt 9 (.alt 10 (.alt 11 (.alt 12 (.alt 13 (.alt 14 .fin .none) .none) .none) .none) .none) .none) (.alt 9 (.alt 1 (.alt 10 (.alt 11 (.alt 12 (.alt 13 (.alt 14 .fin .none) .none) .none) .none) .none) (.alt 10 (.alt 1 (.alt 11 (.alt 12 (.alt 13 (.alt 14 .fin .none) .none) .none) .none) (.alt 11 (.alt 1 (.alt 12 (.alt 13 (.alt 14 .fin .none) .none) .none) .none) .none)) .none)) .none)) .none)) (.alt 8 (.alt 1 (.alt 4 (.alt 9 (.alt 10 (.alt 11 (.alt 12 (.alt 13 (.alt 14 .fin .none) .none) .none) .none) .none) .none) (.alt 9 (.alt 4 (.alt 10 (.alt 11 (.alt 12 (.alt 13 (.alt 14 .fin .none) .none) .none) .none) .none) .none) .none)) (.alt 4 (.alt 1 (.alt 9 (.alt 10 (.alt 11 (.alt 12 (.alt 13 (.alt 14 .fin .none) .none) .none) .none) .none) .none) (.alt 9 (.alt 1 (.alt 10 (.alt 11 (.alt 12 (.alt 13 (.alt 14 .fin .none) .none) .none) .none) .none) (.alt 10 (.alt 1 (.alt 11 (.alt 12 (.alt 13 (.alt 14 .fin .none) .none) .none) .none) (.alt 11 (.alt 1 (.alt 12 (.alt 13 (.alt 14 .fin .none) .none) .none) .none) .none)) .none)) .none)) (.alt 9 (.alt 1 (.alt 4 (.alt 10 (.alt 11 (.alt 12 (.alt 13 (.alt 14 .fin .none) .none) .none) .none) .none) .none) (.alt 4 (.alt 1 (.alt 10 (.alt 11 (.alt 12 (.alt 13 (.alt 14 .fin .none) .none) .none) .none) .none) (.alt 10 (.alt 1 (.alt 11 (.alt 12 (.alt 13 (.alt 14 .fin .none) .none) .none) .none) (.alt 11 (.alt 1 (.alt 12 (.alt 13 (.alt 14 .fin .none) .none) .none) .none) .none)) .none)) .none)) .none))) .none))) .none) .none) .none) .none) .none) .none))]
theorem own3 (N A B D:List (List DV)) (E:Nat) (hE:E=67):ownsK (List.map RowB.blk [⟨26,E,N⟩,⟨27,1,A⟩,⟨32,1,B⟩,⟨26,67,D⟩]) [.row 0 1 A.length,.row 0 2 B.length,.row 0 3 D.length] [0] fun ds' _=>ds' = [.own 27 1 A,.own 32 1 B,.own 26 3 D]:=by
 subst hE
 conv=>whnf
 refine ⟨rfl,?_⟩
 conv=>whnf
 refine ⟨rfl,?_⟩
 conv=>whnf
 refine ⟨rfl,?_⟩
 conv=>whnf
 rfl
theorem b_split (K C N:List (List DV)) (hK:K.length < 1000000) (hC:C.length < 1000000) (hN:N.length < 900000) (hK1:∀ x ∈ K,x.length=1) (hC1:∀ x ∈ C,x.length=1) (i:Nat) (hiK:i<=K.length) (hiC:i<=C.length) (kk kc kn:List (List DV)) (yk:List UInt8) (yc:List Ver)
 (hk:kk.length=3) (hc:kc.length=3) (hn:kn.length < 1000000) (hkk:kk[1]? = some [aL yk]) (hkc:kc[1]? = some [encVs yc]) (hN0:N[i]? = some [.own 27 1 kk,.own 32 1 kc,.own 26 3 kn])
 (hkn:∀ x ∈ kk,∀ y ∈ x,noOwn y=true) (hcn:∀ x ∈ kc,∀ y ∈ x,noOwn y=true) (H:List (List Blk)) :
 aE X H 49 [⟨27,1,K⟩,⟨32,1,C⟩,⟨26,67,N⟩] [.agg [.row 0 0 K.length,.row 0 1 C.length,.row 0 2 N.length],.d (.int .i64 i)] [none,none,none]
  (.agg [.row 0 0 (K.length+1),.row 0 1 (C.length+1),.row 0 2 (N.length+1)])
  [⟨27,1,K.take i ++ [[aL yk]]++K.drop i⟩,⟨32,1,C.take i ++ [[encVs yc]]++C.drop i⟩,
    ⟨26,67,(N.set i [.own 27 1 (aH kk 0 1),.own 32 1 (aH kc 0 1),.own 26 3 (aH kn 0 2)]).take (i+1) ++ [[.own 27 1 (aH kk 2 3),.own 32 1 (aH kc 2 3),.own 26 3 (aH (cL kn 0 2) 2 4)]]++(N.set i [.own 27 1 (aH kk 0 1),.own 32 1 (aH kc 0 1),.own 26 3 (aH kn 0 2)]).drop (i+1)⟩]:=by
 have hik:=fun H=>d_insK K hK1 i hiK (aL yk) hK H
 have hic:=fun H=>d_insC C hC1 i hiC (encVs yc) hC H
 have hi:i < N.length:=(aAe.1 hN0).1
 have e1:IntKind.i64.wrap (((i:Nat):Int)+1)=((i+1:Nat):Int):=by rw [aJ (by omega) (by omega)];omega
 have c1:=fun H=>b_cut kk kc kn (by omega) (by omega) hn 0 1 (by omega) (by omega) H
 have c2:=fun H=>b_cut kk kc (cL kn 0 2) (by omega) (by omega) (by rw [jY];exact hn) 2 kk.length (by omega) (by omega) H
 rw [show aH kk 2 kk.length=aH kk 2 3 by rw [hk],show aH kc 2 kk.length=aH kc 2 3 by rw [hk],show aH (cL kn 0 2) 2 (kk.length+1)=aH (cL kn 0 2) 2 4 by rw [hk],show cL (cL kn 0 2) 2 (kk.length+1)=cL (cL kn 0 2) 2 4 by rw [hk],jY kn 0 2] at c2
 have e2:IntKind.i64.wrap ((1:Int)+1)=((2:Nat):Int):=by decide
 have hset4:∀ x y z A,((((N.set ((i:Nat):Int).toNat x).set ((i:Nat):Int).toNat y).set ((i:Nat):Int).toNat z).set ((i:Nat):Int).toNat A)=N.set i A:=fun x y z A=>by simp
 have cN:=fun H=>d_insN (N.set i [.own 27 1 (aH kk 0 1),.own 32 1 (aH kc 0 1),.own 26 3 (aH kn 0 2)]) (by rw [aAp];omega) (i+1) (by rw [aAp];omega) [.row 0 1 (aH kk 2 3).length,.row 0 2 (aH kc 2 3).length,.row 0 3 (aH (cL kn 0 2) 2 4).length] rfl [.own 27 1 (aH kk 2 3),.own 32 1 (aH kc 2 3),.own 26 3 (aH (cL kn 0 2) 2 4)]
  [⟨27,1,aH kk 2 3⟩,⟨32,1,aH kc 2 3⟩,⟨26,67,aH (cL kn 0 2) 2 4⟩] (fun E hE=>own3 _ _ _ _ E hE) H
 rw [aAp] at cN
 have hgs:∀ (M:List (List DV)) A,M.length=N.length->(M.set ((i:Nat):Int).toNat A)[((i:Nat):Int).toNat]? = some A:=fun M A h=>by rw [aBi,aAr (by omega)]
 have hg0:N[((i:Nat):Int).toNat]? = some [.own 27 1 kk,.own 32 1 kc,.own 26 3 kn]:=by rw [aBi];exact hN0
 refine aQ aY false [26] [] (mo:=mo45) (by kernel_rfl) Try.func49 rfl ?_
 conv=>whnf
 refine ⟨by omega,by omega,?_⟩
 conv=>whnf
 refine ⟨_,hg0,?_⟩
 conv=>whnf
 refine cutV_of [.any,.d (.int .i64 i),.ptr 0 3 0,.any,.ptr 0 4 0,.ptr 0 8 0,.d (.int .i64 1),.any,.any,.any,.any,.any,.any,.any,.any,.any,.any,.any,.any,.any,.any,.any,.any,.any,.any,.any,.any,.any,.any,.any,.any,.any,.any,.any,.any,.any,.any,.any,.any,.any,.any,.any,.any,.any,.any,.any,.any,.any,.any,.any,.any,.any,.any,.any,.any,.any] [.row 27 1 (K.take i ++ [[aL yk]]++K.drop i),.row 32 1 C,.deep 26 3 N,.box [.row 0 0 (K.length+1),.row 0 1 C.length,.row 0 2 N.length],.box [.any,.any,.any],.sub 2 ((i:Nat):Int).toNat 0,.sub 2 ((i:Nat):Int).toNat 1,.sub 2 ((i:Nat):Int).toNat 2,.box [.row 0 5 kk.length,.row 0 6 kc.length,.row 0 7 kn.length]] ?_ ?_
 . conv=>whnf
   repeat' (first
    | (refine ⟨by omega,by omega,?_⟩;conv=>whnf)
    | (refine ⟨_,hg0,?_⟩;conv=>whnf)
    | (refine ⟨_,hkk,?_⟩;conv=>whnf)
    | (refine ⟨_,_,_,(hik _).mdd _ _ _ _,?_⟩;conv=>whnf)
    | (refine And.intro ?_ ?_ <;> (conv=>whnf))
    | fail)
   all_goals first
    | (refine ⟨[9,1,2,3,4,5,6,7,8],And.intro rfl (And.intro ?_ ?_)⟩
       all_goals (repeat' (first | exact True.intro | exact rfl | refine And.intro ?_ ?_))
       done)
    | skip
 . conv=>whnf
   refine cutV_of [.any,.d (.int .i64 i),.ptr 0 3 0,.any,.ptr 0 4 0,.ptr 0 8 0,.d (.int .i64 1),.any,.any,.any,.any,.any,.any,.any,.any,.any,.any,.any,.any,.any,.any,.any,.any,.any,.any,.any,.any,.any,.any,.any,.any,.any,.any,.any,.any,.any,.any,.any,.any,.any,.any,.any,.any,.any,.any,.any,.any,.any,.any,.any,.any,.any,.any,.any,.any,.any] [.row 27 1 (K.take i ++ [[aL yk]]++K.drop i),.row 32 1 (C.take i ++ [[encVs yc]]++C.drop i),.deep 26 3 N,.box [.row 0 0 (K.length+1),.row 0 1 (C.length+1),.row 0 2 N.length],.box [.any,.any,.any],.sub 2 ((i:Nat):Int).toNat 0,.sub 2 ((i:Nat):Int).toNat 1,.sub 2 ((i:Nat):Int).toNat 2,.box [.row 0 5 kk.length,.row 0 6 kc.length,.row 0 7 kn.length]] ?_ ?_
   . conv=>whnf
     repeat' (first
      | (refine ⟨by omega,by omega,?_⟩;conv=>whnf)
      | (refine ⟨_,hg0,?_⟩;conv=>whnf)
      | (refine ⟨_,hkc,?_⟩;conv=>whnf)
      | (refine ⟨_,_,_,(hic _).mdd _ _ _ _,?_⟩;conv=>whnf)
      | (refine And.intro ?_ ?_ <;> (conv=>whnf))
      | fail)
     all_goals first
      | (refine ⟨[0,9,2,3,4,5,6,7,8],And.intro rfl (And.intro ?_ ?_)⟩
         all_goals (repeat' (first | exact True.intro | exact rfl | refine And.intro ?_ ?_))
         done)
      | skip
   . conv=>whnf
     refine cutV_of [.any,.d (.int .i64 i),.ptr 0 3 0,.any,.ptr 0 4 0,.ptr 0 8 0,.d (.int .i64 1),.any,.any,.any,.any,.any,.any,.any,.any,.any,.any,.any,.any,.any,.any,.any,.any,.any,.any,.any,.any,.any,.any,.any,.any,.any,.any,.any,.any,.any,.any,.any,.any,.any,.any,.any,.any,.any,.any,.any,.any,.any,.any,.any,.any,.any,.any,.any,.any,.any] [.row 27 1 (K.take i ++ [[aL yk]]++K.drop i),.row 32 1 (C.take i ++ [[encVs yc]]++C.drop i),.deep 26 3 (N.set i [.own 27 1 (aH kk 0 1),.own 32 1 (aH kc 0 1),.own 26 3 (aH kn 0 2)]),.box [.row 0 0 (K.length+1),.row 0 1 (C.length+1),.row 0 2 N.length],.box [.any,.any,.any],.row 27 1 kk,.row 32 1 kc,.deep 26 3 (cL kn 0 2),.box [.row 0 5 kk.length,.row 0 6 kc.length,.row 0 7 kn.length]] ?_ ?_
     . conv=>whnf
       repeat' (first
        | (refine ⟨by omega,by omega,?_⟩;conv=>whnf)
        | (refine ⟨_,hg0,?_⟩;conv=>whnf)
        | (refine ⟨_,hgs _ _ (by simp),?_⟩;conv=>whnf)
        | (refine ⟨hkn,?_⟩;conv=>whnf)
        | (refine ⟨hcn,?_⟩;conv=>whnf)
        | (refine ⟨_,_,_,(c1 _).mdd _ _ _ _,?_⟩;conv=>whnf)
        | (refine And.intro ?_ ?_ <;> (conv=>whnf))
        | fail)
       all_goals
        refine ⟨[0,1,2,3,4,5,6,7,8],And.intro rfl (And.intro ?_ ?_)⟩
        all_goals (repeat' (first | exact True.intro | exact rfl | refine And.intro ?_ ?_))
        all_goals exact hset4 _ _ _ _
     . conv=>whnf
       refine cutV_of [.any,.any,.ptr 0 3 0,.any,.ptr 0 4 0,.any,.any,.any,.any,.any,.any,.any,.any,.any,.any,.any,.any,.any,.any,.any,.any,.any,.any,.any,.any,.any,.any,.any,.any,.any,.any,.any,.any,.any,.any,.any,.any,.any,.any,.any,.any,.any,.any,.any,.any,.any,.any,.any,.any,.any,.any,.any,.any,.any,.any,.any] [.row 27 1 (K.take i ++ [[aL yk]]++K.drop i),.row 32 1 (C.take i ++ [[encVs yc]]++C.drop i),.deep 26 3 ((N.set i [.own 27 1 (aH kk 0 1),.own 32 1 (aH kc 0 1),.own 26 3 (aH kn 0 2)]).take (i+1) ++ [[.own 27 1 (aH kk 2 3),.own 32 1 (aH kc 2 3),.own 26 3 (aH (cL kn 0 2) 2 4)]]++(N.set i [.own 27 1 (aH kk 0 1),.own 32 1 (aH kc 0 1),.own 26 3 (aH kn 0 2)]).drop (i+1)),.box [.row 0 0 (K.length+1),.row 0 1 (C.length+1),.row 0 2 (N.length+1)],.box [.any,.any,.any]] ?_ ?_
       . conv=>whnf
         repeat' (first
          | (intro z hz
             conv=>whnf
             first | rw [e1] at hz | rw [e2] at hz
             subst hz)
          | (refine ⟨_,_,_,(c2 _).mdd _ _ _ _,?_⟩;conv=>whnf)
          | (refine ⟨_,_,_,(cN _).mdd _ _ _ _,?_⟩;conv=>whnf)
          | (refine And.intro ?_ ?_ <;> (conv=>whnf))
          | fail)
         all_goals
          refine ⟨[0,1,12,3,4],And.intro rfl (And.intro ?_ ?_)⟩
          all_goals (repeat' (first | exact True.intro | exact rfl | refine And.intro ?_ ?_))
       . conv=>whnf
         refine ⟨[0,1,2],rfl,?_⟩
         (repeat' (first | exact True.intro | exact rfl | refine And.intro ?_ ?_))
theorem partL_map {α β:Type} (f:α->β) (l:List α) (a b:Nat):aH (l.map f) a b=(aH l a b).map f:=by unfold aH;rw [List.map_drop,List.map_take]
theorem partJ (l:List (List DV)):aH (cL l 0 2) 2 4=aH l 2 4:=by
 unfold aH cL
 match l with
 | []=>rfl
 | [_]=>rfl
 | [_,_]=>rfl
 | a::b::c=>simp [aH]
def cutN (n:Node) (a b:Nat):Node:=.mk (aH n.keys a b) (aH n.chains a b) (aH n.kids a (b+1))
def splitK (n c:Node) (i:Nat):List Node:=(n.kids.set i (cutN c 0 1)).take (i+1) ++ [cutN c 2 3]++(n.kids.set i (cutN c 0 1)).drop (i+1)
def splitN (n:Node) (i:Nat):Node:=
 match n.kids[i]? with
 | some c=>.mk (n.keys.take i ++ [c.keys.getD 1 []]++n.keys.drop i) (n.chains.take i ++ [c.chains.getD 1 []]++n.chains.drop i) (splitK n c i)
 | none=>n
theorem ownN_cut (n:Node) (a b:Nat):ownN (cutN n a b) = [.own 27 1 (aH (aF n.keys) a b),.own 32 1 (aH (aG n.chains) a b),.own 26 3 (aH (n.kids.map ownN) a (b+1))]:=by
 rw [ownN_eq]
 unfold cutN aF aG
 rw [partL_map,partL_map,partL_map]
 rfl
theorem noOwn_K (l:List (List UInt8)):∀ x ∈ aF l,∀ y ∈ x,noOwn y=true:=fun x hx y hy=>by
 unfold aF at hx
 obtain ⟨k,_,rfl⟩:=aBc.1 hx
 simp only [aAy] at hy
 subst hy;rfl
theorem noOwn_C (l:List (List Ver)):∀ x ∈ aG l,∀ y ∈ x,noOwn y=true:=fun x hx y hy=>by
 unfold aG at hx
 obtain ⟨k,_,rfl⟩:=aBc.1 hx
 simp only [aAy] at hy
 subst hy;rfl
theorem getD_of {α:Type} {l:List α} {i:Nat} {d:α} (h:i < l.length):l[i]? = some (l.getD i d):=by
 rw [aA2,aAf h];rfl
theorem d_splitD (n:Node) (i:Nat) (c:Node) (hc:n.kids[i]? = some c) (h3:c.keys.length=3) (h4:c.chains.length=3) (h5:c.kids.length < 1000000) (hK:n.keys.length < 900000) (hC:n.chains.length < 900000) (hN:n.kids.length < 900000) (hiK:i<=n.keys.length) (hiC:i<=n.chains.length) (H:List (List Blk)) :
 aE X H 49 (nodeR n) [nodeV n,.d (.int .i64 i)] [none,none,none] (nodeV (splitN n i)) (nodeR (splitN n i)):=by
 have l1:(aF n.keys).length=n.keys.length:=aAh ..
 have l2:(aG n.chains).length=n.chains.length:=aAh ..
 have l3:(n.kids.map ownN).length=n.kids.length:=aAh ..
 have m1:(aF c.keys).length=3:=(aAh ..).trans h3
 have m2:(aG c.chains).length=3:=(aAh ..).trans h4
 have m3:(c.kids.map ownN).length=c.kids.length:=aAh ..
 have g1:(aF c.keys)[1]? = some [aL (c.keys.getD 1 [])]:=by unfold aF;rw [aAi,getD_of (d:=[]) (by omega)];rfl
 have g2:(aG c.chains)[1]? = some [encVs (c.chains.getD 1 [])]:=by unfold aG;rw [aAi,getD_of (d:=[]) (by omega)];rfl
 have g3:(n.kids.map ownN)[i]? = some [.own 27 1 (aF c.keys),.own 32 1 (aG c.chains),.own 26 3 (c.kids.map ownN)]:=by rw [aAi,hc,<- ownN_eq];rfl
 have hs:=b_split (aF n.keys) (aG n.chains) (n.kids.map ownN) (by omega) (by omega) (by omega) (bY _) (bZ _) i (by omega) (by omega) (aF c.keys) (aG c.chains) (c.kids.map ownN) (c.keys.getD 1 []) (c.chains.getD 1 []) m1 m2 (by omega) g1 g2 g3 (noOwn_K _) (noOwn_C _) H
 have hi:i < n.kids.length:=(aAe.1 hc).1
 have e1:aF (splitN n i).keys=(aF n.keys).take i ++ [[aL (c.keys.getD 1 [])]]++(aF n.keys).drop i:=by unfold splitN aF;rw [hc];simp [Node.keys,List.map_take,List.map_drop]
 have e2:aG (splitN n i).chains=(aG n.chains).take i ++ [[encVs (c.chains.getD 1 [])]]++(aG n.chains).drop i:=by unfold splitN aG;rw [hc];simp [Node.chains,List.map_take,List.map_drop]
 have e3:(splitN n i).kids.map ownN=((n.kids.map ownN).set i [.own 27 1 (aH (aF c.keys) 0 1),.own 32 1 (aH (aG c.chains) 0 1),.own 26 3 (aH (c.kids.map ownN) 0 2)]).take (i+1) ++ [[.own 27 1 (aH (aF c.keys) 2 3),.own 32 1 (aH (aG c.chains) 2 3),.own 26 3 (aH (cL (c.kids.map ownN) 0 2) 2 4)]]++((n.kids.map ownN).set i [.own 27 1 (aH (aF c.keys) 0 1),.own 32 1 (aH (aG c.chains) 0 1),.own 26 3 (aH (c.kids.map ownN) 0 2)]).drop (i+1):=by
  rw [partJ]
  have q0:=ownN_cut c 0 1
  have q2:=ownN_cut c 2 3
  rw [<- q0,<- q2]
  unfold splitN
  rw [hc]
  show (splitK n c i).map ownN=_
  unfold splitK
  simp only [List.map_append,List.map_take,List.map_drop,List.map_cons,List.map_nil,List.map_set]
 have f1:(splitN n i).keys.length=n.keys.length+1:=by unfold splitN;rw [hc];simp [Node.keys];omega
 have f2:(splitN n i).chains.length=n.chains.length+1:=by unfold splitN;rw [hc];simp [Node.chains];omega
 have f3:(splitN n i).kids.length=n.kids.length+1:=by
  unfold splitN;rw [hc]
  show (splitK n c i).length=_
  unfold splitK;simp;omega
 unfold nodeR nodeV
 rw [e1,e2,e3,f1,f2,f3]
 rw [l1,l2,l3] at hs
 exact hs
def putN:Nat->Node->List UInt8->List Ver->Node
 | 0,n,_,_=>n
 | f+1,n,k,l=>
   if bsIs n.keys k then .mk n.keys (n.chains.set (bs n.keys k) l) n.kids
   else if leafN n then .mk (n.keys.take (bs n.keys k) ++ [k]++n.keys.drop (bs n.keys k)) (n.chains.take (bs n.keys k) ++ [l]++n.chains.drop (bs n.keys k)) n.kids
   else match n.kids[bs n.keys k]? with
    | none=>n
    | some c=>if c.keys.length=3 then putN f (splitN n (bs n.keys k)) k l else .mk n.keys n.chains (n.kids.set (bs n.keys k) (putN f c k l))
def putGo:Nat->Node->List UInt8->Prop
 | 0,_,_=>False
 | f+1,n,k=>n.keys.length < 100000/\n.chains.length=n.keys.length/\n.kids.length < 100000 /\
   (bsIs n.keys k=false->leafN n=false -> ∃ c,n.kids[bs n.keys k]? = some c/\(if c.keys.length=3 then c.chains.length=3/\c.kids.length < 100000/\putGo f (splitN n (bs n.keys k)) k else putGo f c k))
theorem pl_rowK (ks:List (List UInt8)):plRows (aF ks)=aF ks:=by
 rw [plRows_eq];unfold aF;rw [aAx]
 exact List.map_congr_left fun k _=>by simp [aL,DV.pl]
theorem pl_rowC (cs:List (List Ver)):plRows (aG cs)=aG cs:=by
 rw [plRows_eq];unfold aG;rw [aAx]
 exact List.map_congr_left fun k _=>by simp [encVs,DV.pl]
mutual
theorem pl_ownN:∀ n:Node,plRow (ownN n)=cNode n
 | .mk ks cs ns=>by
   unfold ownN cNode
   simp only [plRow,DV.pl,pl_rowK,pl_rowC,pl_ownNs ns]
   rfl
theorem pl_ownNs:∀ ns:List Node,plRows (ownNs ns)=cNodes ns
 | []=>by unfold ownNs cNodes;simp [plRows]
 | n::ns=>by
   unfold ownNs cNodes
   simp only [plRows,pl_ownN n,pl_ownNs ns]
end
theorem pl_kids (ns:List Node):plRows (ns.map ownN)=ns.map cNode:=by rw [<- ownNs_eq,pl_ownNs,cNodes_eq]
theorem uF (k:List UInt8) (l:List Ver) (f:Nat) (ih:∀ n,putGo f n k -> ∀ H,aE X H 50 (nodeR n) [nodeV n,.d (aL k),.d (encVs l)] [none,none,none] (nodeV (putN f n k l)) (nodeR (putN f n k l)))
 (ks:List (List UInt8)) (cs:List (List Ver)) (ns:List Node) (hgo:putGo (f+1) (.mk ks cs ns) k) (H:List (List Blk)) :
 aE X H 50 (nodeR (.mk ks cs ns)) [nodeV (.mk ks cs ns),.d (aL k),.d (encVs l)] [none,none,none] (nodeV (putN (f+1) (.mk ks cs ns) k l)) (nodeR (putN (f+1) (.mk ks cs ns) k l)):=by
 have h1:ks.length < 100000:=hgo.1
 have h2:cs.length=ks.length:=hgo.2.1
 have h3:ns.length < 100000:=hgo.2.2.1
 have hkid:bsIs ks k=false->leafN (.mk ks cs ns)=false -> ∃ c,ns[bs ks k]? = some c/\(if c.keys.length=3 then c.chains.length=3/\c.kids.length < 100000/\putGo f (splitN (.mk ks cs ns) (bs ks k)) k else putGo f c k):=hgo.2.2.2
 have l1:ks.length=(aF ks).length:=(aAh ..).symm
 have l2:cs.length=(aG cs).length:=(aAh ..).symm
 have l3:ns.length=(ns.map ownN).length:=(aAh ..).symm
 have hp:∀ H,aD X H 38 [.agg [.d (.sl ((aF ks).take (aF ks).length)),.d (.sl ((aG cs).take (aG cs).length)),.d (.sl (plRows (ns.map ownN)))],.d (aL k)] (.tuple [.d (.int .i64 (bs ks k)),.d (.bool (bsIs ks k))]) []:=fun H=>by
  rw [aAw,aAw,pl_kids];exact d_place (.mk ks cs ns) k (by show ks.length < 1000000;omega) H
 have hlf:∀ H,aD X H 40 [.agg [.d (.sl ((aF ks).take (aF ks).length)),.d (.sl ((aG cs).take (aG cs).length)),.d (.sl (plRows (ns.map ownN)))]] (.d (.bool (leafN (.mk ks cs ns)))) []:=fun H=>by
  rw [aAw,aAw,pl_kids];exact d_leaf (.mk ks cs ns) H
 have hle:bs ks k<=ks.length:=cO ks k
 have hik:=fun H=>d_insK (aF ks) (bY ks) (bs ks k) (by omega) (aL k) (by omega) H
 have hic:=fun H=>d_insC (aG cs) (bZ cs) (bs ks k) (by omega) (encVs l) (by omega) H
 obtain ⟨R,hR⟩:∃ R,putN (f+1) (.mk ks cs ns) k l=R:=⟨_,rfl⟩
 rw [hR]
 unfold putN at hR
 change (if bsIs ks k then Node.mk ks (cs.set (bs ks k) l) ns else if leafN (.mk ks cs ns) then _ else _)=R at hR
 unfold nodeV nodeR
 change aE X H 50 [⟨27,1,aF ks⟩,⟨32,1,aG cs⟩,⟨26,67,ns.map ownN⟩] [.agg [.row 0 0 ks.length,.row 0 1 cs.length,.row 0 2 ns.length],.d (aL k),.d (encVs l)] [none,none,none] _ _
 rw [l1,l2,l3]
 refine aQ aY false [26] [] (mo:=mo50) (by kernel_rfl) Try.func50 rfl ?_
 conv=>whnf
 refine ⟨rfl,?_⟩
 conv=>whnf
 refine ⟨_,_,(hp _).mdd _ _ _ _,And.intro rfl aZ,?_⟩
 conv=>whnf
 refine And.intro (fun q=>?_) (fun q=>?_)
 . conv=>whnf
   rw [if_pos q] at hR
   subst hR
   have hlt:=eV q
   obtain ⟨c,hc⟩:∃ c,(aG cs)[((bs ks k:Nat):Int).toNat]? = some [encVs c]:=by
    obtain ⟨c,hc⟩:∃ c,cs[bs ks k]? = some c:=⟨_,aAf (by omega)⟩
    exact ⟨c,by unfold aG;rw [aBi,aAi,hc];rfl⟩
   have hset:(aG cs).set ((bs ks k:Nat):Int).toNat [encVs l]=aG (cs.set (bs ks k) l):=by unfold aG;rw [aBi,List.map_set]
   refine ⟨by omega,by omega,?_⟩
   conv=>whnf
   refine ⟨_,hc,?_⟩
   conv=>whnf
   refine ⟨[0,1,2],rfl,?_⟩
   (repeat' (first | exact True.intro | exact rfl | refine And.intro ?_ ?_))
   all_goals first
    | exact hset
    | exact congrArg (PV.row 0 _) l1.symm
    | exact congrArg (PV.row 0 _) (l2.symm.trans aAp.symm)
    | exact congrArg (PV.row 0 _) l3.symm
 . rw [q] at hR
   conv=>whnf
   refine ⟨rfl,?_⟩
   conv=>whnf
   refine ⟨_,_,(hlf _).mdd _ _ _ _,And.intro rfl aZ,?_⟩
   conv=>whnf
   refine And.intro (fun q2=>?_) (fun q2=>?_)
   . conv=>whnf
     rw [q2] at hR
     simp only [Bool.false_eq_true,if_false,if_true] at hR
     subst hR
     have k1:(aF ks).length+1=(ks.take (bs ks k) ++ [k]++ks.drop (bs ks k)).length:=by simp;omega
     have k2:(aG cs).length+1=(cs.take (bs ks k) ++ [l]++cs.drop (bs ks k)).length:=by simp;omega
     have k3:(aF ks).take (bs ks k) ++ [[aL k]]++(aF ks).drop (bs ks k)=aF (ks.take (bs ks k) ++ [k]++ks.drop (bs ks k)):=by unfold aF;simp [List.map_take,List.map_drop]
     have k4:(aG cs).take (bs ks k) ++ [[encVs l]]++(aG cs).drop (bs ks k)=aG (cs.take (bs ks k) ++ [l]++cs.drop (bs ks k)):=by unfold aG;simp [List.map_take,List.map_drop]
     repeat' (first
      | (refine ⟨_,_,_,(hik _).mdd _ _ _ _,?_⟩;conv=>whnf)
      | (refine ⟨_,_,_,(hic _).mdd _ _ _ _,?_⟩;conv=>whnf)
      | (refine And.intro ?_ ?_ <;> (conv=>whnf))
      | fail)
     all_goals
      refine ⟨[5,6,2],rfl,?_⟩
      (repeat' (first | exact True.intro | exact rfl | refine And.intro ?_ ?_))
      all_goals first
       | exact k3
       | exact k4
       | exact congrArg (PV.row 0 _) k1
       | exact congrArg (PV.row 0 _) k2
       | exact congrArg (PV.row 0 _) l3.symm
   . rw [q2] at hR
     simp only [Bool.false_eq_true,if_false] at hR
     obtain ⟨c,hc,hgo2⟩:=hkid q q2
     change (match ns[bs ks k]? with | none=>_ | some c=>_)=R at hR
     rw [hc] at hR
     change (if c.keys.length=3 then putN f (splitN (.mk ks cs ns) (bs ks k)) k l else Node.mk ks cs (ns.set (bs ks k) (putN f c k l)))=R at hR
     have hi:bs ks k < ns.length:=(aAe.1 hc).1
     have hg0:(ns.map ownN)[((bs ks k:Nat):Int).toNat]? = some [.own 27 1 (aF c.keys),.own 32 1 (aG c.chains),.own 26 3 (c.kids.map ownN)]:=by rw [aBi,aAi,hc,<- ownN_eq];rfl
     conv=>whnf
     refine ⟨by omega,by omega,?_⟩
     conv=>whnf
     refine ⟨_,hg0,?_⟩
     conv=>whnf
     refine And.intro (fun q3=>?_) (fun q3=>?_)
     . have hc3:c.keys.length=3:=by
        have:=eq_of_beq q3
        rw [show (aF c.keys).length=c.keys.length from aAh ..] at this
        omega
       rw [if_pos hc3] at hR hgo2
       obtain ⟨h4,h5,hgo3⟩:=hgo2
       have hsp:∀ H,aE X H 49 [⟨27,1,aF ks⟩,⟨32,1,aG cs⟩,⟨26,67,ns.map ownN⟩] [.agg [.row 0 0 (aF ks).length,.row 0 1 (aG cs).length,.row 0 2 (ns.map ownN).length],.d (.int .i64 (bs ks k))] [none,none,none] (nodeV (splitN (.mk ks cs ns) (bs ks k))) (nodeR (splitN (.mk ks cs ns) (bs ks k))):=fun H=>by
        rw [<- l1,<- l2,<- l3]
        exact d_splitD (.mk ks cs ns) (bs ks k) c hc hc3 h4 (by omega) (by show ks.length < 900000;omega) (by show cs.length < 900000;omega) (by show ns.length < 900000;omega) (by show bs ks k<=ks.length;omega) (by show bs ks k<=cs.length;omega) H
       generalize splitN (.mk ks cs ns) (bs ks k)=S at hsp hgo3 hR
       conv=>whnf
       refine ⟨_,_,_,(hsp _).mdd _ _ _ _,?_⟩
       conv=>whnf
       refine ⟨_,_,_,(ih S hgo3 _).mdd _ _ _ _,?_⟩
       conv=>whnf
       rw [hR]
       refine ⟨[9,10,11],rfl,?_⟩
       (repeat' (first | exact True.intro | exact rfl | refine And.intro ?_ ?_))
     . have hc3:¬ c.keys.length=3:=fun h=>by
        have:((aF c.keys).length:Int)=3:=by rw [show (aF c.keys).length=c.keys.length from aAh ..,h];rfl
        rw [this] at q3
        exact absurd q3 (by decide)
       rw [if_neg hc3] at hR hgo2
       have r1:c.keys.length=(aF c.keys).length:=(aAh ..).symm
       have r2:c.chains.length=(aG c.chains).length:=(aAh ..).symm
       have r3:c.kids.length=(c.kids.map ownN).length:=(aAh ..).symm
       have hih:∀ H,aE X H 50 [⟨27,1,aF c.keys⟩,⟨32,1,aG c.chains⟩,⟨26,67,c.kids.map ownN⟩] [.agg [.row 0 0 (aF c.keys).length,.row 0 1 (aG c.chains).length,.row 0 2 (c.kids.map ownN).length],.d (aL k),.d (encVs l)] [none,none,none] (nodeV (putN f c k l)) (nodeR (putN f c k l)):=fun H=>by
        rw [<- r1,<- r2,<- r3];exact ih c hgo2 H
       have hgs:∀ (M:List (List DV)) A,M.length=(ns.map ownN).length->(M.set ((bs ks k:Nat):Int).toNat A)[((bs ks k:Nat):Int).toNat]? = some A:=fun M A h=>by rw [aBi,aAr (by omega)]
       generalize putN f c k l=D at hih hR
       have t1:D.keys.length=(aF D.keys).length:=(aAh ..).symm
       have t2:D.chains.length=(aG D.chains).length:=(aAh ..).symm
       have t3:D.kids.length=(D.kids.map ownN).length:=(aAh ..).symm
       have n1:=noOwn_K c.keys
       have n2:=noOwn_C c.chains
       have e3:∀ x y z A:List DV,(((((ns.map ownN).set ((bs ks k:Nat):Int).toNat x).set ((bs ks k:Nat):Int).toNat y).set ((bs ks k:Nat):Int).toNat z).set ((bs ks k:Nat):Int).toNat A)=(ns.map ownN).set (bs ks k) A:=fun x y z A=>by
        rw [aBi];simp only [List.set_set]
       have e4:(ns.map ownN).set (bs ks k) [.own 27 1 (aF D.keys),.own 32 1 (aG D.chains),.own 26 3 (D.kids.map ownN)]=(ns.set (bs ks k) D).map ownN:=by rw [<- ownN_eq,List.map_set]
       subst hR
       conv=>whnf
       repeat' (first
        | (refine ⟨by omega,by omega,?_⟩;conv=>whnf)
        | (refine ⟨_,hg0,?_⟩;conv=>whnf)
        | (refine ⟨_,hgs _ _ (by simp),?_⟩;conv=>whnf)
        | (refine ⟨n1,?_⟩;conv=>whnf)
        | (refine ⟨n2,?_⟩;conv=>whnf)
        | (refine ⟨t1,?_⟩;conv=>whnf)
        | (refine ⟨t2,?_⟩;conv=>whnf)
        | (refine ⟨t3,?_⟩;conv=>whnf)
        | (refine ⟨_,_,_,(hih _).mdd _ _ _ _,?_⟩;conv=>whnf)
        | (refine And.intro ?_ ?_ <;> (conv=>whnf))
        | fail)
       all_goals
        refine ⟨[0,1,2],rfl,?_⟩
        (repeat' (first | exact True.intro | exact rfl | refine And.intro ?_ ?_))
        all_goals try exact congrArg (PV.row 0 _) l1.symm
        all_goals try exact congrArg (PV.row 0 _) l2.symm
        all_goals try exact congrArg (PV.row 0 _) (l3.symm.trans aAp.symm)
        all_goals refine Eq.trans (e3 _ _ _ _) ?_
        all_goals exact e4
theorem sY (k:List UInt8) (l:List Ver):∀ (f:Nat) (n:Node),putGo f n k -> ∀ H,aE X H 50 (nodeR n) [nodeV n,.d (aL k),.d (encVs l)] [none,none,none] (nodeV (putN f n k l)) (nodeR (putN f n k l))
 | 0,_,h,_=>h.elim
 | f+1,.mk ks cs ns,h,H=>uF k l f (sY k l f) ks cs ns h H
theorem d_PutD (d f:Nat) (n:Node) (k:List UInt8) (l:List Ver) (hd:d < 1000000) (hn:nOk d n) (h3:n.keys.length < 3) (hk:k.length<=1000000) (hl:l.length < 1000000) (hlv:∀ x ∈ l,x.val.length<=1000000)
 (hok:fN d n k l=true) (hgo:putGo f n k) (H:List (List Blk)) :
 aD X H 28 [pNode n,.d (aL k),.d (encVs l)] (.tuple [nodeV (putN f n k l),.d (.int .i64 0)]) (nodeR (putN f n k l)):=by
 have hchk:=fun H=>eU d n hd hn H
 have hown:=fun H=>d_ownD d n hn H
 have hput:=fun H=>sY k l f n hgo H
 unfold nodeR nodeV at hput
 have hv:=fun H=>d_vscheck l hl H
 have hvs:=fun H=>pD l hl hlv H
 simp only [fN,aBs,decide_eq_true_eq,Bool.not_eq_true'] at hok
 obtain ⟨o1,o2,o3,o4⟩:=hok
 rw [o1] at hchk
 rw [o4] at hv
 have e1:((k.map fun x=>[DV.int .u8 (x.toNat:Int)]).length:Int)=k.length:=by rw [aAh]
 have e2:((l.map cVer).length:Int)=l.length:=by rw [aAh]
 unfold nodeR nodeV
 generalize putN f n k l=R at hput ⊢
 refine callEq_of_bodyD aY false false [26] [] (mo:=[]) (by kernel_rfl) Try.func28 rfl ?_
 conv=>whnf
 refine ⟨_,_,(hchk _).mdd _ _ _ _,True.intro,?_⟩
 conv=>whnf
 refine And.intro (fun q=>?_) (fun q=>?_)
 rotate_left
 . exact absurd q (by decide)
 conv=>whnf
 refine And.intro (fun q=>?_) (fun q=>?_)
 rotate_left
 . exfalso
   have q:=of_decide_eq_true q
   rw [e1] at q;omega
 conv=>whnf
 refine And.intro (fun q=>?_) (fun q=>?_)
 rotate_left
 . exfalso
   rw [e2,o3] at q;cases q
 conv=>whnf
 refine ⟨_,_,(hv _).mdd _ _ _ _,True.intro,?_⟩
 conv=>whnf
 refine And.intro (fun q=>?_) (fun q=>?_)
 . exact absurd q (by decide)
 conv=>whnf
 refine ⟨_,_,(hown _).mdd _ _ _ _,True.intro,?_⟩
 conv=>whnf
 refine And.intro (fun q=>?_) (fun q=>?_)
 . exfalso
   have:(n.keys.length:Int)=3:=by simpa using q
   omega
 conv=>whnf
 refine ⟨_,_,(c103 k (by omega) _).mdd _ _ _ _,True.intro,?_⟩
 conv=>whnf
 refine ⟨_,_,(hvs _).mdd _ _ _ _,True.intro,?_⟩
 conv=>whnf
 refine ⟨_,_,_,(hput _).mdd _ _ _ _,?_⟩
 conv=>whnf
 refine ⟨[6,7,8],rfl,?_⟩
 (repeat' (first | exact True.intro | exact rfl | refine And.intro ?_ ?_))
theorem d_PutED (d:Nat) (n:Node) (k:List UInt8) (l:List Ver) (hd:d < 1000000) (hn:nOk d n) (hl:l.length < 1000000) (hok:fN d n k l=false) (H:List (List Blk)) :
 aD X H 28 [pNode n,.d (aL k),.d (encVs l)] (.tuple [nodeV n,.d (.int .i64 1)]) (nodeR n):=by
 have hchk:=fun H=>eU d n hd hn H
 have hown:=fun H=>d_ownD d n hn H
 have hv:=fun H=>d_vscheck l hl H
 have e1:((k.map fun x=>[DV.int .u8 (x.toNat:Int)]).length:Int)=k.length:=by rw [aAh]
 have e2:((l.map cVer).length:Int)=l.length:=by rw [aAh]
 unfold fN at hok
 generalize aX d n=R at hchk hok
 generalize vsOk l=V at hv hok
 unfold nodeR nodeV
 refine callEq_of_bodyD aY false false [26] [] (mo:=[]) (by kernel_rfl) Try.func28 rfl ?_
 conv=>whnf
 refine ⟨_,_,(hchk _).mdd _ _ _ _,True.intro,?_⟩
 conv=>whnf
 refine And.intro (fun q1=>?_) (fun q1=>?_) <;> (conv=>whnf)
 rotate_left
 . refine ⟨_,_,(hown _).mdd _ _ _ _,True.intro,?_⟩
   conv=>whnf
   refine ⟨[2,3,4],rfl,?_⟩
   (repeat' (first | exact True.intro | exact rfl | refine And.intro ?_ ?_))
 refine And.intro (fun q2=>?_) (fun q2=>?_) <;> (conv=>whnf)
 rotate_left
 . refine ⟨_,_,(hown _).mdd _ _ _ _,True.intro,?_⟩
   conv=>whnf
   refine ⟨[2,3,4],rfl,?_⟩
   (repeat' (first | exact True.intro | exact rfl | refine And.intro ?_ ?_))
 refine And.intro (fun q3=>?_) (fun q3=>?_) <;> (conv=>whnf)
 rotate_left
 . refine ⟨_,_,(hown _).mdd _ _ _ _,True.intro,?_⟩
   conv=>whnf
   refine ⟨[2,3,4],rfl,?_⟩
   (repeat' (first | exact True.intro | exact rfl | refine And.intro ?_ ?_))
 refine ⟨_,_,(hv _).mdd _ _ _ _,True.intro,?_⟩
 conv=>whnf
 refine And.intro (fun q4=>?_) (fun q4=>?_) <;> (conv=>whnf)
 . refine ⟨_,_,(hown _).mdd _ _ _ _,True.intro,?_⟩
   conv=>whnf
   refine ⟨[2,3,4],rfl,?_⟩
   (repeat' (first | exact True.intro | exact rfl | refine And.intro ?_ ?_))
 . exfalso
   have q2:=of_decide_eq_false q2
   rw [e1] at q2
   rw [e2] at q3
   have q1:R=true:=by simpa using q1
   have q4:V=true:=by simpa using q4
   rw [q1,q4,q3,decide_eq_true (by omega:(k.length:Int)<=16)] at hok
   cases hok
theorem eW {a b c:List UInt8} (h1:cm a b < 0) (h2:cm b c < 0):cm a c < 0:=by
 have h:=sU a b c (by omega) (by omega)
 rcases Int.lt_or_eq_of_le h with h | h
 . exact h
 . exfalso
   have:=(fM a c).1 h
   subst this
   have:=dB a b
   omega
def bF (l:List KV):Prop:=l.Pairwise fun p q=>cm p.1 q.1 < 0
theorem dZ:∀ (l:List KV) (o:Option (List UInt8)),dO o l=true->bF l /\ ∀ a,o=some a -> ∀ p ∈ l,cm a p.1 < 0
 | [],o,_=>⟨List.Pairwise.nil,fun a _ p hp=>by cases hp⟩
 | p::ps,o,h=>by
   unfold dO at h
   split at h
   . cases h
   . rename_i hb
     obtain ⟨h1,h2⟩:=dZ ps _ h
     have h3:=h2 p.1 rfl
     refine ⟨List.Pairwise.cons h3 h1,fun a ha q hq=>?_⟩
     have hap:cm a p.1 < 0:=by
      subst ha
      unfold gA at hb
      simp only [kP] at hb
      simp at hb
      omega
     rcases List.mem_cons.1 hq with rfl | hq
     . exact hap
     . exact eW hap (h3 q hq)
def fO (l:List (List UInt8)):Prop:=l.Pairwise fun a b=>cm a b < 0
theorem fP {l:List (List UInt8)} (h:fO l) {i j:Nat} {a b:List UInt8} (hij:i < j) (ha:l[i]? = some a) (hb:l[j]? = some b):cm a b < 0:=by
 obtain ⟨h1,rfl⟩:=aAe.1 ha
 obtain ⟨h2,rfl⟩:=aAe.1 hb
 exact (List.pairwise_iff_getElem.1 h) i j h1 h2 hij
theorem oJ {l:List (List UInt8)} (hs:fO l) (k:List UInt8):∀ (n i j:Nat),j - i<=n->i<=j->j<=l.length->(∀ t a,t < i->l[t]? = some a->cm a k < 0)->(∀ t a,j<=t->l[t]? = some a->0<=cm a k) ->
 (∀ t a,t < bsF (fun x=>iF x k) l n i j->l[t]? = some a->cm a k < 0)/\(∀ t a,bsF (fun x=>iF x k) l n i j<=t->l[t]? = some a->0<=cm a k)
 | 0,i,j,h,hij,hj,h1,h2=>by
   have:i=j:=by omega
   subst this
   exact ⟨h1,h2⟩
 | n+1,i,j,h,hij,hj,h1,h2=>by
   unfold bsF
   split
   . rename_i hlt
     obtain ⟨y,hy⟩:∃ y,l[half i j]? = some y:=⟨_,aAf (by unfold half;omega)⟩
     have hg:l.getD (half i j) []=y:=by simp [List.getD,hy]
     rw [hg,kP]
     split
     . rename_i hc
       refine oJ hs k n _ j (by unfold half;omega) (by unfold half;omega) hj (fun t a ht ha=>?_) h2
       rcases aBl t (half i j) with h | h
       . exact eW (fP hs h ha hy) hc
       . obtain rfl:t=half i j:=by omega
         rw [hy] at ha;cases ha;exact hc
     . rename_i hc
       refine oJ hs k n i _ (by unfold half;omega) (by unfold half;omega) (by unfold half;omega) h1 (fun t a ht ha=>?_)
       rcases aBl (half i j) t with h | h
       . have:=fP hs h hy ha
         have hf:=dB y k
         rcases Int.lt_or_le (cm a k) 0 with h' | h'
         . exfalso
           have:=eW this h'
           omega
         . exact h'
       . obtain rfl:t=half i j:=by omega
         rw [hy] at ha;cases ha;omega
   . have:i=j:=by omega
     subst this
     exact ⟨h1,h2⟩
theorem fQ {l:List (List UInt8)} (hs:fO l) (k:List UInt8):(∀ t a,t < bs l k->l[t]? = some a->cm a k < 0)/\(∀ t a,bs l k<=t->l[t]? = some a->0<=cm a k):=
 oJ hs k _ 0 _ (by omega) (aBn _) (aBo _) (fun t a h _=>by omega) (fun t a h ha=>by have:=(aAe.1 ha).1;omega)
theorem eG {l:List (List UInt8)} {k:List UInt8}:bsIs l k=true↔l[bs l k]? = some k:=by
 unfold bsIs
 rw [kP]
 constructor
 . intro h
   simp only [aBs,decide_eq_true_eq,beq_iff_eq,aAh] at h
   obtain ⟨h1,h2⟩:=h
   obtain ⟨y,hy⟩:∃ y,l[bs l k]? = some y:=⟨_,aAf (by omega)⟩
   have hg:l.getD (bs l k) []=y:=by simp [List.getD,hy]
   rw [hg] at h2
   rw [hy,(fM y k).1 h2]
 . intro h
   have hlt:=(aAe.1 h).1
   have hg:l.getD (bs l k) []=k:=by simp [List.getD,h]
   rw [hg,cG]
   simp only [aAh,aBs,decide_eq_true_eq]
   exact ⟨by omega,rfl⟩
def fU (d:Nat) (n:Node) (i:Nat):List KV:=(List.range' (i+1) (n.keys.length - i)).flatMap (cB d n)
theorem dD (d:Nat) (n:Node) (i:Nat) (hi:i<=n.keys.length):aB (d+1) n=gG d n i++(cA d n i++(bJ n i++fU d n i)):=by
 show (List.range (n.keys.length+1)).flatMap (cB d n)=_
 have e:List.range (n.keys.length+1)=List.range i++([i]++List.range' (i+1) (n.keys.length - i)):=by
  rw [List.range_eq_range',List.range_eq_range',show n.keys.length+1=i+(1+(n.keys.length - i)) by omega,<- List.range'_append_1,<- List.range'_append_1]
  simp
 rw [e,List.flatMap_append,List.flatMap_append]
 simp [gG,fU,cB]
theorem jC {n:Node} {i:Nat} {k:List UInt8} {c:List Ver} (h1:n.keys[i]? = some k) (h2:n.chains[i]? = some c):bJ n i = [(k,c)]:=by unfold bJ;rw [h1,h2]
theorem jZ {n:Node} {i:Nat} (h:n.keys.length<=i):bJ n i = []:=by unfold bJ;rw [List.getElem?_eq_none h]
theorem rA {n:Node} {i:Nat} {p:KV} (h:p ∈ bJ n i):n.keys[i]? = some p.1/\n.chains[i]? = some p.2:=by
 unfold bJ at h
 split at h
 . rename_i h1 h2
   rcases aAy.1 h with rfl
   exact ⟨h1,h2⟩
 . cases h
theorem eL {n:Node} (hc:n.chains.length=n.keys.length) {i:Nat} {k:List UInt8} (h:n.keys[i]? = some k):∃ c,n.chains[i]? = some c/\bJ n i = [(k,c)]:=by
 have hi:=(aAe.1 h).1
 have h2:n.chains[i]? = some (n.chains[i]'(by omega)):=aAf (by omega)
 exact ⟨_,h2,jC h h2⟩
theorem jD {d:Nat} {n:Node} (hs:bF (aB (d+1) n)) {i:Nat} {k:List UInt8} {c:List Ver} (h:n.keys[i]? = some k) (h2:n.chains[i]? = some c) :
 (∀ p ∈ gG d n i,cm p.1 k < 0)/\(∀ p ∈ cA d n i,cm p.1 k < 0)/\(∀ p ∈ fU d n i,cm k p.1 < 0):=by
 have hi:=(aAe.1 h).1
 unfold bF at hs
 rw [dD d n i (by omega),jC h h2,aA4,aA4,aA4] at hs
 obtain ⟨_,⟨_,⟨_,_,h3⟩,h4⟩,h5⟩:=hs
 exact ⟨fun p hp=>h5 p hp (k,c) (by simp),fun p hp=>h4 p hp (k,c) (by simp),fun p hp=>h3 (k,c) (by simp) p hp⟩
theorem eM {d:Nat} {n:Node} (hs:bF (aB (d+1) n)) {i:Nat} (hi:i<=n.keys.length):bF (cA d n i):=by
 unfold bF at hs
 rw [dD d n i hi,aA4,aA4] at hs
 exact hs.2.1.1
theorem vG {d:Nat} {n:Node} {i j:Nat} (hij:i < j) {p:KV} (h:p ∈ cB d n i):p ∈ gG d n j:=by
 unfold gG
 rw [aA8]
 exact ⟨i,aBe.2 hij,h⟩
theorem bW {d:Nat} {n:Node} (hc:n.chains.length=n.keys.length) (hs:bF (aB (d+1) n)):fO n.keys:=by
 unfold fO
 rw [List.pairwise_iff_getElem]
 intro i j hi hj hij
 have hgi:n.keys[i]? = some n.keys[i]:=aAf hi
 have hgj:n.keys[j]? = some n.keys[j]:=aAf hj
 obtain ⟨c,h1,h2⟩:=eL hc hgi
 obtain ⟨c',h1',h2'⟩:=eL hc hgj
 exact (jD hs hgj h1').1 (n.keys[i],c) (vG hij (by unfold cB;rw [h2];simp))
theorem about {d:Nat} {n:Node} (hc:n.chains.length=n.keys.length) (hs:bF (aB (d+1) n)) (k:List UInt8) :
 (∀ p ∈ gG d n (bs n.keys k),cm p.1 k < 0)/\(bsIs n.keys k=true->(∀ p ∈ cA d n (bs n.keys k),cm p.1 k < 0) /\ ∃ c,n.chains[bs n.keys k]? = some c/\bJ n (bs n.keys k) = [(k,c)]) /\
 (bsIs n.keys k=false -> ∀ p ∈ bJ n (bs n.keys k)++fU d n (bs n.keys k),0 < cm p.1 k):=by
 have hk:=bW hc hs
 obtain ⟨b1,b2⟩:=fQ hk k
 have ble:=cO n.keys k
 have bis:=@eG n.keys k
 generalize bs n.keys k=i at b1 b2 ble bis ⊢
 refine ⟨fun p hp=>?_,fun h=>?_,fun h p hp=>?_⟩
 . unfold gG at hp
   obtain ⟨t,ht,hp⟩:=aA8.1 hp
   have ht:=aBe.1 ht
   have hg:n.keys[t]? = some (n.keys[t]'(by omega)):=aAf (by omega)
   have hlt:=b1 t _ ht hg
   obtain ⟨c,h1,h2⟩:=eL hc hg
   unfold cB at hp
   rcases aA5.1 hp with hp | hp
   . exact eW ((jD hs hg h1).2.1 p hp) hlt
   . obtain ⟨h3,_⟩:=rA hp
     rw [hg] at h3;rw [<- aBr h3];exact hlt
 . have hg:=bis.1 h
   obtain ⟨c,h1,h2⟩:=eL hc hg
   exact ⟨(jD hs hg h1).2.1,c,h1,h2⟩
 . have hlt:i < n.keys.length:=by
    rcases aBl i n.keys.length with h' | h'
    . exact h'
    . exfalso
      rw [jZ h'] at hp
      unfold fU at hp
      rw [show n.keys.length - i=0 by omega] at hp
      cases hp
   have hg:n.keys[i]? = some n.keys[i]:=aAf hlt
   have hge:=b2 i _ (aBo _) hg
   have hne:cm n.keys[i] k≠0:=by
    intro h0
    rw [(fM _ _).1 h0] at hg
    rw [bis.2 hg] at h;cases h
   obtain ⟨c,h1,h2⟩:=eL hc hg
   rcases aA5.1 hp with hp | hp
   . obtain ⟨h3,_⟩:=rA hp
     rw [hg] at h3;rw [<- aBr h3];omega
   . have h3:=(jD hs hg h1).2.2 p hp
     have f1:=dB n.keys[i] k
     have f2:=dB p.1 k
     have:=eW (a:=k) (b:=n.keys[i]) (c:=p.1) (by omega) h3
     omega
theorem iV {l:List KV} {P:KV->Bool} (h:∀ p ∈ l,P p=false):l.find? P=none:=by
 rw [List.find?_eq_none];intro p hp;rw [h p hp];exact fun h=>nomatch h
def eqP (k:List UInt8) (p:KV):Bool:=decide (cm p.1 k=0)
def geP (k:List UInt8) (p:KV):Bool:=decide (0<=cm p.1 k)
theorem yD {k:List UInt8} {p:KV} (h:cm p.1 k < 0):eqP k p=false:=by unfold eqP;simp;omega
theorem eqP_gt {k:List UInt8} {p:KV} (h:0 < cm p.1 k):eqP k p=false:=by unfold eqP;simp;omega
theorem yE {k:List UInt8} {p:KV} (h:cm p.1 k < 0):geP k p=false:=by unfold geP;simp;omega
theorem vH:∀ (d:Nat) (n:Node) (least:Int) (k:List UInt8),nOk d n->deepN n least≠0->bF (aB d n)->jX d n k=((aB d n).find? (eqP k)).map (·.2)
 | 0,n,_,k,h,_,_=>h.elim
 | d+1,n,least,k,hn,hd,hs=>by
   obtain ⟨hc,h2,h3,h4⟩:=cI hd
   obtain ⟨a1,a2,a3⟩:=about hc hs k
   have ble:=cO n.keys k
   rw [dD d n _ ble,List.find?_append,List.find?_append,iV fun p hp=>yD (a1 p hp)]
   show (if bsIs n.keys k then n.chains[bs n.keys k]? else match n.kids[bs n.keys k]? with | some x=>jX d x k | none=>none)=_
   cases hb:bsIs n.keys k with
   | true=>
     obtain ⟨c1,c,c2,c3⟩:=a2 hb
     rw [iV fun p hp=>yD (c1 p hp),c2,c3,if_pos rfl]
     simp [eqP,cG]
   | false=>
     rw [iV (l:=bJ n _++fU d n _) fun p hp=>eqP_gt (a3 hb p hp),if_neg (by simp)]
     have hks:=eM hs ble
     simp only [Option.none_or,Option.or_none]
     unfold cA cY at hks ⊢
     cases hx:n.kids[bs n.keys k]? with
     | some x=>
       rw [hx] at hks
       have hm:=aAg hx
       rcases h4 with ⟨h4,_⟩ | ⟨_,_,h4⟩
       . rw [h4] at hm;cases hm
       . exact vH d x 1 k (nOk_kid hn x hm) (h4 x hm).2 hks
     | none=>rfl
def orK (o:Option KV) (r:Option (List UInt8)):Option (List UInt8):=match o with | some p=>some p.1 | none=>r
theorem vI:∀ (d:Nat) (n:Node) (least:Int) (k:List UInt8) (o:Option (List UInt8)),nOk d n->deepN n least≠0->bF (aB d n)->iP d n k o=orK ((aB d n).find? (geP k)) o
 | 0,n,_,k,_,h,_,_=>h.elim
 | d+1,n,least,k,o,hn,hd,hs=>by
   obtain ⟨hc,h2,h3,h4⟩:=cI hd
   obtain ⟨a1,a2,a3⟩:=about hc hs k
   have ble:=cO n.keys k
   rw [dD d n _ ble,List.find?_append,List.find?_append,iV fun p hp=>yE (a1 p hp)]
   show (if bsIs n.keys k||leafN n then gX n k o else match n.kids[bs n.keys k]? with | some x=>iP d x k (gX n k o) | none=>o)=_
   cases hb:bsIs n.keys k with
   | true=>
     obtain ⟨c1,c,c2,c3⟩:=a2 hb
     rw [iV fun p hp=>yE (c1 p hp),c3,if_pos (by simp)]
     have hg:=eG.1 hb
     unfold gX
     rw [hg]
     simp [geP,cG,orK]
   | false=>
     have hstep:gX n k o=orK ((bJ n (bs n.keys k)++fU d n (bs n.keys k)).find? (geP k)) o:=by
      have a3:=a3 hb
      unfold gX
      split
      . rename_i x hx
        obtain ⟨c,h1,h2⟩:=eL hc hx
        rw [h2] at a3 ⊢
        have:=a3 (x,c) (by simp)
        have hge:geP k (x,c)=true:=by unfold geP;exact decide_eq_true (by omega)
        simp [hge,orK]
      . rename_i hx
        have hle:=List.getElem?_eq_none_iff.1 hx
        rw [jZ hle]
        unfold fU
        rw [show n.keys.length - bs n.keys k=0 by omega]
        rfl
     have hks:=eM hs ble
     simp only [Option.none_or,Bool.false_or]
     rcases h4 with ⟨h4,_⟩ | ⟨h4,_,h5⟩
     . have hl:leafN n=true:=by unfold leafN;rw [h4];rfl
       have hkid:cA d n (bs n.keys k) = []:=by unfold cA cY;rw [h4];rfl
       rw [if_pos hl,hstep,hkid];simp
     . have hl:leafN n=false:=by unfold leafN;rw [aAh,h4];simp;omega
       obtain ⟨x,hx⟩:∃ x,n.kids[bs n.keys k]? = some x:=⟨_,aAf (by omega)⟩
       have hkid:cA d n (bs n.keys k)=aB d x:=by unfold cA cY;rw [hx]
       have hm:=aAg hx
       rw [hl,hx,if_neg (by simp),hkid]
       rw [hkid] at hks
       show iP d x k (gX n k o)=_
       rw [vI d x 1 k _ (nOk_kid hn x hm) (h5 x hm).2 hks,hstep]
       cases (aB d x).find? (geP k) <;> rfl
theorem jR (d:Nat) (n:Node):bF (dJ d n):=by
 unfold dJ
 split
 . rename_i h
   unfold aX at h
   split at h
   . cases h
   . exact (dZ _ _ h).1
 . exact List.Pairwise.nil
theorem yF {d:Nat} {n:Node} (h:aX d n=true):dJ d n=aB d n:=by unfold dJ;rw [if_pos h]
theorem sZ (d:Nat) (n:Node):eB d n=(dJ d n).map (·.1):=by unfold eB dJ;split <;> rfl
theorem tC {d:Nat} {n:Node} (hn:nOk d n) (k:List UInt8):eY d n k=((dJ d n).find? (eqP k)).map (·.2):=by
 have hs:=jR d n
 unfold eY
 unfold dJ at hs ⊢
 split
 . rename_i h
   rw [if_pos h] at hs
   exact vH d n 0 k hn (gY h) hs
 . rfl
theorem tD {d:Nat} {n:Node} (hn:nOk d n) (k:List UInt8):pF d n k=((dJ d n).find? (geP k)).map (·.1):=by
 have hs:=jR d n
 unfold pF
 unfold dJ at hs ⊢
 split
 . rename_i h
   rw [if_pos h] at hs
   rw [vI d n 0 k none hn (gY h) hs]
   cases (aB d n).find? (geP k) <;> rfl
 . rfl
theorem yG {d:Nat} {n:Node} (hd:d<=16) (hn:nOk d n):(dJ d n).length < 4294967296:=by
 unfold dJ
 split
 . rename_i h
   exact mM hd hn h
 . decide
theorem pI {l:List KV} (hs:bF l) {p q:KV} (hp:p ∈ l) (hq:q ∈ l) (h:p.1=q.1):p=q:=by
 obtain ⟨i,hi⟩:=aB4.1 hp
 obtain ⟨j,hj⟩:=aB4.1 hq
 obtain ⟨hi',rfl⟩:=aAe.1 hi
 obtain ⟨hj',rfl⟩:=aAe.1 hj
 have hg:=List.pairwise_iff_getElem.1 hs
 rcases Nat.lt_trichotomy i j with h1 | h1 | h1
 . have:=hg i j hi' hj' h1
   rw [h,cG] at this;omega
 . subst h1;rfl
 . have:=hg j i hj' hi' h1
   rw [h,cG] at this;omega
theorem mQ {l:List KV} (hs:bF l) {p:KV} (hp:p ∈ l):l.find? (eqP p.1)=some p:=by
 cases h:l.find? (eqP p.1) with
 | none=>
   rw [List.find?_eq_none] at h
   exact absurd (by unfold eqP;rw [cG];rfl) (h p hp)
 | some q=>
   have h1:=List.find?_some h
   have h2:=List.mem_of_find?_eq_some h
   unfold eqP at h1
   rw [pI hs hp h2 ((fM _ _).1 (of_decide_eq_true h1)).symm]
theorem yH (x:Ver):kH x x=false:=by unfold kH;rw [xX,cG];simp
theorem lL {α:Type} {bad:α->α->Bool} (h:∀ x,bad x x=false):∀ l:List α,fL bad l l=true
 | []=>rfl
 | x::xs=>by unfold fL;rw [h x];exact lL h xs
theorem uG (l:List Ver):jQ l l=true:=by unfold jQ;rw [lL yH];simp
theorem yI (p:KV):lJ p p=false:=by unfold lJ;rw [xX,cG,uG];rfl
theorem uH (l:List KV):pG l l=true:=by unfold pG;rw [lL yI];simp
theorem uI {d:Nat} {n:Node} (hn:nOk d n):cJ d n=dJ d n:=by
 unfold cJ
 rw [sZ,aAx]
 have:∀ p ∈ dJ d n,((fun k=>(k,(eY d n k).getD [])) ∘ (·.1)) p=p:=fun p hp=>by
  show (p.1,(eY d n p.1).getD [])=p
  rw [tC hn,mQ (jR d n) hp];rfl
 rw [List.map_congr_left this]
 exact List.map_id' _
theorem vJ {α:Type} {f:Nat->List α} {c:Nat}:∀ (m:Nat),(∀ i,i < m->c<=(f i).length)->m*c<=((List.range m).flatMap f).length
 | 0,_=>by simp
 | m+1,h=>by
   rw [List.range_succ,List.flatMap_append,aAm,Nat.succ_mul]
   have h1:=vJ m (fun i hi=>h i (by omega))
   have h2:=h m (by omega)
   simpa using Nat.add_le_add h1 h2
theorem pJ:∀ (d:Nat) (n:Node) (least:Int),nOk d n->deepN n least≠0 -> ∃ e:Nat,deepN n least=((e+1:Nat):Int)/\(aB d n).length+1<=4 ^ (e+1)/\(1<=n.keys.length->2 ^ (e+1)<=(aB d n).length+1)/\(n.keys.length=0->e=0/\(aB d n).length=0)
 | 0,n,_,h,_=>h.elim
 | d+1,n,least,hn,hd=>by
   obtain ⟨hc,h2,h3,h4⟩:=cI hd
   have hkid:∃ e:Nat,deepN n least=((e+1:Nat):Int)/\(n.keys.length=0->e=0) /\ ∀ i,i<=n.keys.length->(cA d n i).length+1<=4 ^ e/\2 ^ e<=(cA d n i).length+1:=by
    rcases h4 with ⟨h4,h5⟩ | ⟨h4,h5,h6⟩
    . refine ⟨0,h5,fun _=>rfl,fun i _=>?_⟩
      have:cA d n i = []:=by unfold cA cY;rw [h4];rfl
      rw [this];decide
    . obtain ⟨x,hx⟩:∃ x,n.kids[0]? = some x:=⟨_,aAf (by omega)⟩
      have hm:=aAg hx
      obtain ⟨e,he,_⟩:=pJ d x 1 (nOk_kid hn x hm) (h6 x hm).2
      refine ⟨e+1,?_,fun h=>absurd h h5,fun i hi=>?_⟩
      . have:=(h6 x hm).1;omega
      . obtain ⟨y,hy⟩:∃ y,n.kids[i]? = some y:=⟨_,aAf (by omega)⟩
        have hm':=aAg hy
        obtain ⟨e',he',b1,b2,_⟩:=pJ d y 1 (nOk_kid hn y hm') (h6 y hm').2
        have hee:e'=e:=by have:=(h6 x hm).1;have:=(h6 y hm').1;omega
        subst hee
        have:cA d n i=aB d y:=by unfold cA cY;rw [hy]
        rw [this]
        refine ⟨b1,b2 ?_⟩
        have:=(cI (h6 y hm').2).2.2.1
        omega
   obtain ⟨e,he,h0,hk⟩:=hkid
   have hpair:∀ i,i < n.keys.length->(bJ n i).length=1:=fun i hi=>by
    obtain ⟨c,_,h⟩:=eL hc (aAf hi)
    rw [h];rfl
   have hlast:bJ n n.keys.length = []:=jZ (aBo _)
   have hlen:(aB (d+1) n).length=((List.range n.keys.length).flatMap (cB d n)).length+(cA d n n.keys.length).length:=by
    show ((List.range (n.keys.length+1)).flatMap (cB d n)).length=_
    rw [List.range_succ,List.flatMap_append,aAm]
    simp [cB,hlast]
   have hA:=oH (f:=cB d n) (c:=4 ^ e) n.keys.length (fun i hi=>by
    have:=(hk i (by omega)).1;have:=hpair i hi;unfold cB;rw [aAm];omega)
   have hB:=vJ (f:=cB d n) (c:=2 ^ e) n.keys.length (fun i hi=>by
    have:=(hk i (by omega)).2;have:=hpair i hi;unfold cB;rw [aAm];omega)
   obtain ⟨hl1,hl2⟩:=hk n.keys.length (aBo _)
   refine ⟨e,he,?_,fun h=>?_,fun h=>?_⟩
   . have:n.keys.length*4 ^ e<=3*4 ^ e:=Nat.mul_le_mul_right _ h2
     rw [Nat.pow_succ];omega
   . have:1*2 ^ e<=n.keys.length*2 ^ e:=Nat.mul_le_mul_right _ h
     rw [Nat.pow_succ];omega
   . have h0:=h0 h
     subst h0
     rw [h] at hlen hl1 hA
     refine ⟨rfl,?_⟩
     rw [hlen]
     simp at hl1 hA ⊢
     omega
end Go.Proofs.Ve
