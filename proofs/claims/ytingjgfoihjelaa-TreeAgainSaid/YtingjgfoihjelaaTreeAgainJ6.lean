/- TreeAgain, part 6 of 7. The engine and the contracts that the proof needs. -/
import Derived.Test.YtingjgfoihjelaaTreeAgainJ1
import Derived.Test.YtingjgfoihjelaaTreeAgainJ2
import Derived.Test.YtingjgfoihjelaaTreeAgainJ3
import Derived.Test.YtingjgfoihjelaaTreeAgainJ4
import Derived.Test.YtingjgfoihjelaaTreeAgainJ5
set_option maxRecDepth 100000
set_option maxHeartbeats 20000000
set_option linter.all false
open List renaming getElem?_eq_some_iff -> aAe, getElem?_eq_getElem -> aAf, mem_of_getElem? -> aAg, length_map -> aAh, getElem?_map -> aAi, getElem?_append_right -> aAj, getElem?_append_left -> aAk, length_take -> aAl, length_append -> aAm, length_cons -> aAn, length_nil -> aAo, length_set -> aAp, length_drop -> aAq, getElem?_set_self -> aAr, getElem?_set_ne -> aAs, take_of_length_le -> aAt, mem_cons_self -> aAu, mem_cons_of_mem -> aAv, take_length -> aAw, map_map -> aAx, mem_singleton -> aAy, drop_eq_nil_of_le -> aAz, getElem?_take -> aA0, getElem?_drop -> aA1, getD_eq_getElem?_getD -> aA2, pairwise_cons -> aA3, pairwise_append -> aA4, mem_append -> aA5, mem_of_mem_take -> aA6, mem_of_mem_drop -> aA7, mem_flatMap -> aA8, getElem?_cons_zero -> aA9, getElem?_cons_succ -> aBa, append_assoc -> aBb, mem_map -> aBc, all_eq_true -> aBd, mem_range -> aBe, getElem_mem -> aBf, drop_eq_getElem_cons -> aBg, length_replicate -> aBh, getElem?_toArray -> aBx, mem_iff_getElem? -> aB4
open Int renaming toNat_natCast -> aBi
open Nat renaming eq_of_beq_eq_true -> aBj, lt_of_lt_of_le -> aBk, lt_or_ge -> aBl, lt_succ_self -> aBm, zero_le -> aBn, le_refl -> aBo, le_trans -> aBp, le_succ -> aBu, sub_self -> aB2, add_sub_cancel -> aB3
open Option renaming map_eq_some_iff -> aBq, map_some -> aBz, getD_some -> aB0
open Option.some renaming inj -> aBr
open Bool renaming and_eq_true -> aBs, false_ne_true -> aBt, or_eq_true -> aB1
open Array renaming getElem?_toList -> aBv, getElem?_eq_some_iff -> aBw, length_toList -> aBy
namespace Go.Proofs.Ve
open Go
def aS {α:Type}:List (List α)->List α->List α
 | [],ps=>ps
 | a::xs,[]=>a++xs.flatten
 | a::xs,p::ps=>a++p::aS xs ps
theorem cP {α:Type} (B:List (List α)) (Q:List α):∀ (A:List (List α)) (P:List α),A.length=P.length->aS (A++B) (P++Q)=aS A P++aS B Q
 | [],[],_=>by simp [aS]
 | a::A,p::P,h=>by
   have:=cP B Q A P (by simpa using h)
   simp [aS,this]
theorem dV {α:Type} (ps:List α):aS [] ps=ps:=by unfold aS;rfl
theorem kC {α:Type} (a:List α):aS [a] []=a:=by simp [aS]
theorem eO {α:Type} (a:List α) (p:α) (A:List (List α)) (P:List α):aS (a::A) (p::P)=a++p::aS A P:=rfl
def prs (n:Node):List KV:=n.keys.zip n.chains
theorem fR {n:Node} (hc:n.chains.length=n.keys.length):(prs n).length=n.keys.length:=by unfold prs;rw [List.length_zip];omega
theorem rB {n:Node} (hc:n.chains.length=n.keys.length) (i:Nat):bJ n i=((prs n)[i]?).toList:=by
 rcases aBl i n.keys.length with h | h
 . have h':i < n.chains.length:=by omega
   rw [jC (aAf h) (aAf h')]
   have:(prs n)[i]? = some (n.keys[i],n.chains[i]):=by
    unfold prs
    rw [List.getElem?_zip_eq_some]
    exact ⟨aAf h,aAf h'⟩
   rw [this];rfl
 . rw [jZ h,List.getElem?_eq_none (by rw [fR hc];omega)];rfl
theorem vK (g:Node->List KV) (n:Node) (i:Nat):cY g n i=((n.kids.map g)[i]?).getD []:=by
 unfold cY
 rw [aAi]
 cases n.kids[i]? <;> rfl
theorem rC {α:Type} (A:List (List α)) (P:List α) (h:A.length=P.length+1\/A = []):∀ (m i:Nat),i+m=P.length+1 ->
 (List.range' i m).flatMap (fun j=>(A[j]?).getD []++(P[j]?).toList)=aS (A.drop i) (P.drop i)
 | 0,i,hi=>by
   rw [aAz (by omega:P.length<=i)]
   have:A.drop i = []:=by
    rcases h with h | h
    . exact aAz (by omega)
    . rw [h];simp
   rw [this];simp [aS]
 | m+1,i,hi=>by
   rw [List.range'_succ,List.flatMap_cons,rC A P h m (i+1) (by omega)]
   rcases h with h | h
   . have hA:i < A.length:=by omega
     rw [aBg hA,aAf hA]
     rcases aBl i P.length with hp | hp
     . rw [aBg hp,aAf hp,eO]
       simp
     . rw [List.getElem?_eq_none hp,aAz hp,aAz (by omega:P.length<=i+1),aAz (by omega:A.length<=i+1)]
       simp [aS]
   . subst h
     rcases aBl i P.length with hp | hp
     . rw [aBg hp,aAf hp]
       simp [aS]
     . rw [List.getElem?_eq_none hp,aAz hp,aAz (by omega:P.length<=i+1)]
       simp [aS]
theorem aM (d:Nat) (n:Node) (hc:n.chains.length=n.keys.length) (hk:n.kids.length=n.keys.length+1\/n.kids = []):aB (d+1) n=aS (n.kids.map (aB d)) (prs n):=by
 have h:=rC (n.kids.map (aB d)) (prs n) (by
  rw [aAh,fR hc]
  rcases hk with h | h
  . exact .inl h
  . exact .inr (by rw [h];rfl)) (n.keys.length+1) 0 (by rw [fR hc];omega)
 rw [List.drop_zero,List.drop_zero] at h
 rw [<- h]
 show (List.range (n.keys.length+1)).flatMap (fun i=>cY (aB d) n i++bJ n i)=_
 rw [List.range_eq_range']
 congr 1
 funext j
 rw [vK,rB hc]
theorem fS {α:Type} (u v:List α) (B:List (List α)) (Q:List α):aS ((u++v)::B) Q=u++aS (v::B) Q:=by
 cases Q <;> simp [aS]
theorem iQ {α:Type} (p:α) (v:List α) (B:List (List α)) (Q:List α):aS ((p::v)::B) Q=p::aS (v::B) Q:=by
 cases Q <;> simp [aS]
theorem yJ (d:Nat) (c:Node) (h3:c.keys.length=3) (h4:c.chains.length=3) (hk:c.kids.length=4\/c.kids = []) :
 aB (d+1) c=aB (d+1) (cutN c 0 1)++(c.keys.getD 1 [],c.chains.getD 1 [])::aB (d+1) (cutN c 2 3):=by
 cases c with
 | mk ks cs ns=>
 change ks.length=3 at h3
 change cs.length=3 at h4
 change ns.length=4\/ns = [] at hk
 match ks,h3,cs,h4 with
 | [a0,a1,a2],_,[x0,x1,x2],_=>
 rcases hk with hk | rfl
 . match ns,hk with
   | [n0,n1,n2,n3],_=>
   rw [aM d _ rfl (.inl rfl),aM d _ rfl (.inl rfl),aM d _ rfl (.inl rfl)]
   simp [prs,cutN,aH,aS,Node.keys,Node.chains,Node.kids]
 . rw [aM d _ rfl (.inr rfl),aM d _ rfl (.inr rfl),aM d _ rfl (.inr rfl)]
   simp [prs,cutN,aH,aS,Node.keys,Node.chains,Node.kids]
theorem dW {α:Type} {l:List α} {i:Nat} {x:α} (h:l[i]? = some x):l=l.take i++x::l.drop (i+1):=by
 have hi:=(aAe.1 h).1
 have hx:l[i]=x:=(aAe.1 h).2
 rw [<- hx,<- aBg hi,List.take_append_drop]
theorem yK (n c:Node) (i:Nat) (hi:i < n.kids.length):splitK n c i=n.kids.take i++cutN c 0 1::cutN c 2 3::n.kids.drop (i+1):=by
 unfold splitK
 have hT:(n.kids.take i).length=i:=by rw [aAl];omega
 rw [List.set_eq_take_append_cons_drop,if_pos hi]
 generalize n.kids.take i=T at hT
 subst hT
 rw [List.take_append,List.drop_append,aAt (aBu _),aAz (aBu _)]
 simp
theorem fB {n c:Node} {i:Nat} (hc:n.kids[i]? = some c):splitN n i = .mk (n.keys.take i ++ [c.keys.getD 1 []]++n.keys.drop i) (n.chains.take i ++ [c.chains.getD 1 []]++n.chains.drop i) (n.kids.take i++cutN c 0 1::cutN c 2 3::n.kids.drop (i+1)):=by
 unfold splitN
 rw [hc,<- yK n c i (aAe.1 hc).1]
theorem prs_mk (ks:List (List UInt8)) (cs:List (List Ver)) (ns:List Node):prs (.mk ks cs ns)=ks.zip cs:=rfl
theorem gZ (d:Nat) (n c:Node) (i:Nat) (hc:n.kids[i]? = some c) (h1:n.chains.length=n.keys.length) (h2:n.kids.length=n.keys.length+1) (h3:c.keys.length=3) (h4:c.chains.length=3) (hk:c.kids.length=4\/c.kids = []) :
 aB (d+2) (splitN n i)=aB (d+2) n:=by
 have hi:=(aAe.1 hc).1
 have hiK:i<=n.keys.length:=by omega
 have a1:(n.keys.take i).length=i:=by rw [aAl];omega
 have a2:(n.chains.take i).length=i:=by rw [aAl];omega
 have a3:(n.kids.take i).length=i:=by rw [aAl];omega
 have q1:(n.chains.take i ++ [c.chains.getD 1 []]++n.chains.drop i).length=(n.keys.take i ++ [c.keys.getD 1 []]++n.keys.drop i).length:=by
  simp only [aAm,aAn,aAo,aAq,a1,a2];omega
 have q2:(n.kids.take i++cutN c 0 1::cutN c 2 3::n.kids.drop (i+1)).length=(n.keys.take i ++ [c.keys.getD 1 []]++n.keys.drop i).length+1:=by
  simp only [aAm,aAn,aAo,aAq,a1,a3];omega
 rw [fB hc,aM (d+1) (.mk (n.keys.take i ++ [c.keys.getD 1 []]++n.keys.drop i) (n.chains.take i ++ [c.chains.getD 1 []]++n.chains.drop i) (n.kids.take i++cutN c 0 1::cutN c 2 3::n.kids.drop (i+1))) q1 (.inl q2),aM (d+1) n h1 (.inl h2),prs_mk]
 have e1:prs n=(n.keys.take i).zip (n.chains.take i)++(n.keys.drop i).zip (n.chains.drop i):=by
  rw [<- List.zip_append (by omega),List.take_append_drop,List.take_append_drop];rfl
 have e2:(n.keys.take i ++ [c.keys.getD 1 []]++n.keys.drop i).zip (n.chains.take i ++ [c.chains.getD 1 []]++n.chains.drop i)=(n.keys.take i).zip (n.chains.take i)++(c.keys.getD 1 [],c.chains.getD 1 [])::(n.keys.drop i).zip (n.chains.drop i):=by
  rw [aBb,aBb,List.zip_append (by omega)];rfl
 have e3:n.kids.map (aB (d+1))=(n.kids.take i).map (aB (d+1))++aB (d+1) c::(n.kids.drop (i+1)).map (aB (d+1)):=by
  conv=>lhs;rw [dW hc]
  rw [List.map_append,List.map_cons]
 have l1:((n.kids.take i).map (aB (d+1))).length=((n.keys.take i).zip (n.chains.take i)).length:=by rw [aAh,List.length_zip];omega
 show aS ((n.kids.take i++cutN c 0 1::cutN c 2 3::n.kids.drop (i+1)).map (aB (d+1))) _=_
 rw [e1,e2,e3,List.map_append,List.map_cons,List.map_cons,cP _ _ _ _ l1,cP _ _ _ _ l1,yJ d c h3 h4 hk,eO,fS,iQ]
def shN:Nat->Node->Prop
 | 0,_=>False
 | d+1,n=>n.chains.length=n.keys.length/\n.keys.length<=3/\(d=0/\n.kids = []\/n.kids.length=n.keys.length+1 /\ ∀ c ∈ n.kids,shN d c)
theorem jS {d:Nat} {c:Node} (h:shN d c) (h3:c.keys.length=3):c.chains.length=3/\(c.kids.length=4\/c.kids = []):=by
 cases d with
 | zero=>exact h.elim
 | succ d=>
   obtain ⟨h1,_,h⟩:=h
   refine ⟨by omega,?_⟩
   rcases h with ⟨_,h⟩ | ⟨h,_⟩
   . exact .inr h
   . exact .inl (by omega)
theorem tE {d:Nat} {c:Node} (h:shN d c) (h3:c.keys.length=3):shN d (cutN c 0 1)/\shN d (cutN c 2 3)/\(cutN c 0 1).keys.length=1/\(cutN c 2 3).keys.length=1:=by
 cases d with
 | zero=>exact h.elim
 | succ d=>
   obtain ⟨h1,_,h⟩:=h
   have a1:(aH c.keys 0 1).length=1:=by rw [aR];omega
   have a2:(aH c.keys 2 3).length=1:=by rw [aR];omega
   have b1:(aH c.chains 0 1).length=1:=by rw [aR];omega
   have b2:(aH c.chains 2 3).length=1:=by rw [aR];omega
   have mem:∀ a b,∀ x ∈ aH c.kids a b,x ∈ c.kids:=fun a b x hx=>aA6 (aA7 hx)
   refine ⟨⟨b1.trans a1.symm,by show (aH c.keys 0 1).length<=3;omega,?_⟩,⟨b2.trans a2.symm,by show (aH c.keys 2 3).length<=3;omega,?_⟩,a1,a2⟩
   . rcases h with ⟨hd,h⟩ | ⟨h,hk⟩
     . refine .inl ⟨hd,?_⟩
       show aH c.kids 0 2 = []
       rw [h];rfl
     . refine .inr ⟨?_,fun x hx=>hk x (mem 0 2 x hx)⟩
       show (aH c.kids 0 2).length=(aH c.keys 0 1).length+1
       rw [aR,a1];omega
   . rcases h with ⟨hd,h⟩ | ⟨h,hk⟩
     . refine .inl ⟨hd,?_⟩
       show aH c.kids 2 4 = []
       rw [h];rfl
     . refine .inr ⟨?_,fun x hx=>hk x (mem 2 4 x hx)⟩
       show (aH c.kids 2 4).length=(aH c.keys 2 3).length+1
       rw [aR,a2];omega
theorem jT {d:Nat} {n c:Node} {i:Nat} (h:shN (d+1) n) (hl:n.keys.length < 3) (hc:n.kids[i]? = some c) (h3:c.keys.length=3):shN (d+1) (splitN n i):=by
 obtain ⟨h1,h2,h⟩:=h
 have hi:=(aAe.1 hc).1
 rcases h with ⟨_,h⟩ | ⟨h,hk⟩
 . rw [h] at hi;cases hi
 obtain ⟨s1,s2,_⟩:=tE (hk c (aAg hc)) h3
 rw [fB hc]
 have a1:(n.keys.take i).length=i:=by rw [aAl];omega
 have a2:(n.chains.take i).length=i:=by rw [aAl];omega
 have a3:(n.kids.take i).length=i:=by rw [aAl];omega
 refine ⟨?_,?_,.inr ⟨?_,fun x hx=>?_⟩⟩
 . show (n.chains.take i ++ [c.chains.getD 1 []]++n.chains.drop i).length=(n.keys.take i ++ [c.keys.getD 1 []]++n.keys.drop i).length
   simp only [aAm,aAn,aAo,aAq,a1,a2];omega
 . show (n.keys.take i ++ [c.keys.getD 1 []]++n.keys.drop i).length<=3
   simp only [aAm,aAn,aAo,aAq,a1];omega
 . show (n.kids.take i++cutN c 0 1::cutN c 2 3::n.kids.drop (i+1)).length=(n.keys.take i ++ [c.keys.getD 1 []]++n.keys.drop i).length+1
   simp only [aAm,aAn,aAo,aAq,a1,a3];omega
 . have hx:x ∈ n.kids.take i++cutN c 0 1::cutN c 2 3::n.kids.drop (i+1):=hx
   simp only [aA5,List.mem_cons] at hx
   rcases hx with h | h | h | h
   . exact hk x (aA6 h)
   . rw [h];exact s1
   . rw [h];exact s2
   . exact hk x (aA7 h)
theorem tF {ks:List (List UInt8)} {k m:List UInt8} (hs:fO ks) (hs2:fO (ks.take (bs ks k) ++ [m]++ks.drop (bs ks k))) :
 bs (ks.take (bs ks k) ++ [m]++ks.drop (bs ks k)) k=bs ks k\/bs (ks.take (bs ks k) ++ [m]++ks.drop (bs ks k)) k=bs ks k+1:=by
 obtain ⟨p1,p2⟩:=fQ hs k
 obtain ⟨q1,q2⟩:=fQ hs2 k
 have hle:=cO ks k
 have hle2:=cO (ks.take (bs ks k) ++ [m]++ks.drop (bs ks k)) k
 generalize hj:bs (ks.take (bs ks k) ++ [m]++ks.drop (bs ks k)) k=j at q1 q2 hle2 ⊢
 generalize bs ks k=i at p1 p2 q1 q2 hle hle2 ⊢
 have hl:(ks.take i ++ [m]++ks.drop i).length=ks.length+1:=by simp;omega
 have get:∀ t,(ks.take i ++ [m]++ks.drop i)[t]? = if t < i then ks[t]? else if t < i+1 then [m][t - i]? else ks[t - 1]?:=fun t=>ins_get (m:=1) hle rfl t
 rcases aBl j i with h | h
 . exfalso
   obtain ⟨a,ha⟩:∃ a,ks[j]? = some a:=⟨_,aAf (by omega)⟩
   have:=p1 j a h ha
   have:=q2 j a (aBo _) (by rw [get,if_pos h];exact ha)
   omega
 . rcases aBl (i+1) j with h2 | h2
   . exfalso
     obtain ⟨a,ha⟩:∃ a,ks[i]? = some a:=⟨_,aAf (by omega)⟩
     have:=p2 i a (aBo _) ha
     have:=q1 (i+1) a h2 (by rw [get,if_neg (by omega),if_neg (by omega)];exact ha)
     omega
   . omega
theorem dQ {d:Nat} {n c:Node} {i:Nat} (hc:n.kids[i]? = some c):cA d n i=aB d c:=by unfold cA cY;rw [hc]
theorem iA {d:Nat} {n:Node} (h:shN d n):∃ e,d=e+1:=by
 cases d with
 | zero=>exact h.elim
 | succ e=>exact ⟨e,rfl⟩
theorem lM:∀ (f:Nat) (n:Node) (k:List UInt8),putGo f n k->putGo (f+1) n k
 | 0,_,_,h=>h.elim
 | f+1,n,k,h=>by
   obtain ⟨h1,h2,h3,h4⟩:=h
   refine ⟨h1,h2,h3,fun q1 q2=>?_⟩
   obtain ⟨c,hc,h⟩:=h4 q1 q2
   refine ⟨c,hc,?_⟩
   split at h
   . rename_i h5
     rw [if_pos h5]
     exact ⟨h.1,h.2.1,lM f _ k h.2.2⟩
   . rename_i h5
     rw [if_neg h5]
     exact lM f c k h
theorem lN:∀ (d:Nat) (n:Node) (k:List UInt8),shN d n->bF (aB d n)->n.keys.length < 3->putGo (2*d) n k
 | 0,_,_,h,_,_=>h.elim
 | d+1,n,k,h,hs,hl=>by
   have h0:=h
   obtain ⟨h1,h2,hk⟩:=h
   have hkl:n.kids.length<=4:=by
    rcases hk with ⟨_,hk⟩ | ⟨hk,_⟩
    . rw [hk];decide
    . omega
   have hsk:=bW h1 hs
   refine ⟨by omega,h1,by omega,fun q1 q2=>?_⟩
   rcases hk with ⟨_,hk⟩ | ⟨hk,hsh⟩
   . exfalso
     unfold leafN at q2
     rw [hk] at q2
     exact absurd q2 (by decide)
   have hle:=cO n.keys k
   obtain ⟨c,hc⟩:∃ c,n.kids[bs n.keys k]? = some c:=⟨_,aAf (by omega)⟩
   have hcs:=hsh c (aAg hc)
   obtain ⟨e,rfl⟩:=iA hcs
   refine ⟨c,hc,?_⟩
   by_cases h3:c.keys.length=3
   . rw [if_pos h3]
     obtain ⟨c1,c2⟩:=jS hcs h3
     refine ⟨c1,by rcases c2 with c2 | c2 <;> rw [c2] <;> decide,?_⟩
     have hS:=jT h0 hl hc h3
     have hA:=gZ e n c (bs n.keys k) hc h1 hk h3 c1 c2
     have hsS:bF (aB (e+2) (splitN n (bs n.keys k))):=by rw [hA];exact hs
     obtain ⟨x1,x2,x3,x4⟩:=tE hcs h3
     have hskS:=bW hS.1 hsS
     have hS0:=hS
     obtain ⟨g1,g2,g3⟩:=hS
     have eS:=fB hc
     have hkS:(splitN n (bs n.keys k)).kids.length<=4:=by
      rcases g3 with ⟨_,g⟩ | ⟨g,_⟩
      . rw [g];decide
      . omega
     have dA:bs (splitN n (bs n.keys k)).keys k=bs n.keys k\/bs (splitN n (bs n.keys k)).keys k=bs n.keys k+1:=by
      rw [eS] at hskS ⊢
      exact tF hsk hskS
     have hi:=(aAe.1 hc).1
     have a3:(n.kids.take (bs n.keys k)).length=bs n.keys k:=by rw [aAl];omega
     have kS:(splitN n (bs n.keys k)).kids=n.kids.take (bs n.keys k)++cutN c 0 1::cutN c 2 3::n.kids.drop (bs n.keys k+1):=by rw [eS];rfl
     have two:∃ c',(splitN n (bs n.keys k)).kids[bs (splitN n (bs n.keys k)).keys k]? = some c'/\shN (e+1) c'/\c'.keys.length=1:=by
      rcases dA with p | p
      . refine ⟨cutN c 0 1,?_,x1,x3⟩
        rw [p,kS,aAj (by omega),a3,aB2];rfl
      . refine ⟨cutN c 2 3,?_,x2,x4⟩
        rw [p,kS,aAj (by omega),a3,show bs n.keys k+1 - bs n.keys k=1 by omega];rfl
     obtain ⟨c',hc',hsh',hl'⟩:=two
     refine ⟨by omega,g1,by omega,fun q3 q4=>⟨c',hc',?_⟩⟩
     rw [if_neg (by omega)]
     have hsk':=eM hsS (i:=bs (splitN n (bs n.keys k)).keys k) (cO _ _)
     rw [dQ hc'] at hsk'
     exact lN (e+1) c' k hsh' hsk' (by omega)
   . rw [if_neg h3]
     have hsk':=eM hs (i:=bs n.keys k) hle
     rw [dQ hc] at hsk'
     have h4:c.keys.length<=3:=hcs.2.1
     exact lM _ _ _ (lN (e+1) c k hcs hsk' (by omega))
theorem gO:∀ (e:Nat) (n:Node),shN e n -> ∀ d,e<=d->aB d n=aB e n
 | 0,_,h,_,_=>h.elim
 | e+1,n,h,d,hd=>by
   obtain ⟨d,rfl⟩:∃ d',d=d'+1:=⟨d - 1,by omega⟩
   obtain ⟨h1,h2,hk⟩:=h
   have hk':n.kids.length=n.keys.length+1\/n.kids = []:=by
    rcases hk with ⟨_,hk⟩ | ⟨hk,_⟩
    . exact .inr hk
    . exact .inl hk
   rw [aM d n h1 hk',aM e n h1 hk']
   congr 1
   apply List.map_congr_left
   intro c hc
   rcases hk with ⟨_,hk⟩ | ⟨_,hk⟩
   . rw [hk] at hc;cases hc
   . exact gO e c (hk c hc) d (by omega)
theorem eP:∀ (d:Nat) (n:Node) (least:Int),nOk d n->deepN n least≠0 -> ∃ e,e+1<=d/\deepN n least=((e+1:Nat):Int)/\shN (e+1) n
 | 0,_,_,h,_=>h.elim
 | d+1,n,least,hn,hd=>by
   obtain ⟨hc,h2,_,h4⟩:=cI hd
   rcases h4 with ⟨h4,h5⟩ | ⟨h4,h5,h6⟩
   . exact ⟨0,by omega,h5,hc,h2,.inl ⟨rfl,h4⟩⟩
   . obtain ⟨x,hx⟩:∃ x,n.kids[0]? = some x:=⟨_,aAf (by omega)⟩
     have hm:=aAg hx
     obtain ⟨e,he,he2,_⟩:=eP d x 1 (nOk_kid hn x hm) (h6 x hm).2
     refine ⟨e+1,by omega,by have:=(h6 x hm).1;omega,hc,h2,.inr ⟨h4,fun c hcm=>?_⟩⟩
     obtain ⟨e',he',he2',hs⟩:=eP d c 1 (nOk_kid hn c hcm) (h6 c hcm).2
     have:e'=e:=by have:=(h6 x hm).1;have:=(h6 c hcm).1;omega
     subst this
     exact hs
def bR (k:List UInt8) (l:List Ver):List KV->List KV
 | []=>[(k,l)]
 | p::ps=>if cm p.1 k < 0 then p::bR k l ps else if cm p.1 k=0 then (k,l)::ps else (k,l)::p::ps
theorem iW {k:List UInt8} {l:List Ver} (Y:List KV):∀ X:List KV,(∀ p ∈ X,cm p.1 k < 0)->bR k l (X++Y)=X++bR k l Y
 | [],_=>rfl
 | p::X,h=>by
   show (if cm p.1 k < 0 then p::bR k l (X++Y) else if cm p.1 k=0 then (k,l)::(X++Y) else (k,l)::p::(X++Y))=p::(X++bR k l Y)
   rw [if_pos (h p (aAu ..)),iW Y X (fun q hq=>h q (aAv _ hq))]
theorem tG {k:List UInt8} {l:List Ver} {Y:List KV} (h:∀ p ∈ Y,0 < cm p.1 k):bR k l Y=(k,l)::Y:=by
 cases Y with
 | nil=>rfl
 | cons p ps=>
   have:=h p (aAu ..)
   unfold bR
   rw [if_neg (by omega),if_neg (by omega)]
theorem rD {k:List UInt8} {l:List Ver} {Y:List KV} (h:∀ p ∈ Y,0 < cm p.1 k):∀ c:List KV,bR k l (c++Y)=bR k l c++Y
 | []=>by rw [List.nil_append,tG h];rfl
 | p::c=>by
   show bR k l (p::(c++Y))=_
   unfold bR
   split
   . rw [rD h c];rfl
   . split <;> rfl
theorem zM {k:List UInt8} {l c:List Ver} {Y:List KV}:bR k l ((k,c)::Y)=(k,l)::Y:=by
 unfold bR
 rw [if_neg (by rw [cG];omega),if_pos (cG k)]
theorem tH {α:Type} (A:List (List α)) (P:List α) (h:A.length=P.length+1\/A = []):∀ i,i<=P.length->(List.range i).flatMap (fun j=>(A[j]?).getD []++(P[j]?).toList)=aS (A.take i) (P.take i)
 | 0,_=>by simp [aS]
 | i+1,hi=>by
   rw [List.range_succ,List.flatMap_append,tH A P h i (by omega)]
   have hp:i < P.length:=by omega
   rcases h with h | h
   . have hA:i < A.length:=by omega
     rw [List.take_succ_eq_append_getElem hA,List.take_succ_eq_append_getElem hp,cP _ _ _ _ (by rw [aAl,aAl];omega)]
     simp [aS,aAf hA,aAf hp]
   . subst h
     rw [List.take_succ_eq_append_getElem hp]
     simp [aS,aAf hp]
theorem pK (d:Nat) (n:Node) (i:Nat) (hi:i<=n.keys.length) (hc:n.chains.length=n.keys.length) (hk:n.kids.length=n.keys.length+1\/n.kids = []):gG d n i=aS ((n.kids.map (aB d)).take i) ((prs n).take i):=by
 have h:=tH (n.kids.map (aB d)) (prs n) (by
  rw [aAh,fR hc]
  rcases hk with h | h
  . exact .inl h
  . exact .inr (by rw [h];rfl)) i (by rw [fR hc];exact hi)
 rw [<- h]
 show (List.range i).flatMap (fun i=>cY (aB d) n i++bJ n i)=_
 congr 1
 funext j
 rw [vK,rB hc]
theorem tI (d:Nat) (n:Node) (i:Nat) (c c':Node) (hc:n.kids[i]? = some c) (h1:n.chains.length=n.keys.length) (h2:n.kids.length=n.keys.length+1) :
 aB (d+1) (.mk n.keys n.chains (n.kids.set i c'))=gG d n i++(aB d c'++(bJ n i++fU d n i)):=by
 have hi:=(aAe.1 hc).1
 have key:∀ x:Node,aB (d+1) (.mk n.keys n.chains (n.kids.set i x))=gG d n i++(aB d x++aS ([]::(n.kids.drop (i+1)).map (aB d)) ((prs n).drop i)):=fun x=>by
  rw [aM d (.mk n.keys n.chains (n.kids.set i x)) h1 (.inl (by show (n.kids.set i x).length=_;rw [aAp];exact h2)),pK d n i (by omega) h1 (.inl h2)]
  show aS ((n.kids.set i x).map (aB d)) (prs n)=_
  rw [List.set_eq_take_append_cons_drop,if_pos hi,List.map_append,List.map_cons]
  conv=>lhs;rw [<- List.take_append_drop i (prs n)]
  rw [cP _ _ _ _ (by rw [aAh,aAl,aAl,fR h1];omega),List.map_take]
  have:=fS (aB d x) [] ((n.kids.drop (i+1)).map (aB d)) ((prs n).drop i)
  rw [List.append_nil] at this
  rw [this]
 have e:=dD d n i (by omega)
 have k0:=key c
 rw [show n.kids.set i c=n.kids by
  have:=(aAe.1 hc).2
  rw [<- this];exact List.set_getElem_self _,show (Node.mk n.keys n.chains n.kids)=n by cases n;rfl,e,dQ hc] at k0
 have k1:=List.append_cancel_left (List.append_cancel_left k0)
 rw [key c',<- k1]
theorem pL {α β:Type} {f g:α->List β} {l:List α} (h:∀ x ∈ l,f x=g x):l.flatMap f=l.flatMap g:=by
 rw [List.flatMap_def,List.flatMap_def,List.map_congr_left h]
theorem wM (d:Nat) (n:Node) (i:Nat) (k:List UInt8) (l:List Ver) (hk:n.keys[i]? = some k) (h1:n.chains.length=n.keys.length) :
 aB (d+1) (.mk n.keys (n.chains.set i l) n.kids)=gG d n i++(cA d n i++((k,l)::fU d n i)):=by
 have hi:=(aAe.1 hk).1
 have e:=dD d (.mk n.keys (n.chains.set i l) n.kids) i (by show i<=n.keys.length;omega)
 have seg:∀ j,j≠i->cB d (.mk n.keys (n.chains.set i l) n.kids) j=cB d n j:=fun j hj=>by
  show cY (aB d) n j++bJ (.mk n.keys (n.chains.set i l) n.kids) j=cY (aB d) n j++bJ n j
  congr 1
  show (match n.keys[j]?,(n.chains.set i l)[j]? with | some k,some c=>[(k,c)] | _,_=>[])=bJ n j
  rw [aAs (fun e=>hj e.symm)];rfl
 have p1:bJ (.mk n.keys (n.chains.set i l) n.kids) i = [(k,l)]:=jC hk (by show (n.chains.set i l)[i]? = some l;rw [aAr (by omega)])
 rw [e,p1]
 have a1:gG d (.mk n.keys (n.chains.set i l) n.kids) i=gG d n i:=pL fun j hj=>seg j (by have:=aBe.1 hj;omega)
 have a2:fU d (.mk n.keys (n.chains.set i l) n.kids) i=fU d n i:=pL fun j hj=>seg j (by have:=(List.mem_range'_1.1 hj).1;omega)
 rw [a1,a2];rfl
theorem iH {n:Node} (h:leafN n=true):n.kids = []:=by
 unfold leafN at h
 have:=eq_of_beq h
 rw [aAh] at this
 exact List.eq_nil_of_length_eq_zero (by omega)
theorem iR {n:Node} (h:leafN n=false):n.kids ≠ []:=fun e=>by
 unfold leafN at h
 rw [e] at h
 exact absurd h (by decide)
theorem yL (d:Nat) (n:Node) (i:Nat) (k:List UInt8) (l:List Ver) (hi:i<=n.keys.length) (h1:n.chains.length=n.keys.length) (h2:n.kids = []) :
 aB (d+1) (.mk (n.keys.take i ++ [k]++n.keys.drop i) (n.chains.take i ++ [l]++n.chains.drop i) n.kids)=gG d n i++((k,l)::(bJ n i++fU d n i)):=by
 have e:=dD d n i hi
 have p:=pK d n i hi h1 (.inr h2)
 have a:=aM d n h1 (.inr h2)
 rw [h2] at p a
 simp only [List.map_nil,List.take_nil,dV] at p a
 have hk0:cA d n i = []:=by unfold cA cY;rw [h2];rfl
 rw [hk0,a,p] at e
 conv at e=>lhs;rw [<- List.take_append_drop i (prs n)]
 have e2:=List.append_cancel_left e
 rw [List.nil_append] at e2
 have t1:(n.keys.take i).length=i:=by rw [aAl];omega
 have t2:(n.chains.take i).length=i:=by rw [aAl];omega
 rw [aM d (.mk (n.keys.take i ++ [k]++n.keys.drop i) (n.chains.take i ++ [l]++n.chains.drop i) n.kids) (by
  show (n.chains.take i ++ [l]++n.chains.drop i).length=(n.keys.take i ++ [k]++n.keys.drop i).length
  simp only [aAm,aAn,aAo,aAq,t1,t2];omega) (.inr h2),p]
 show aS (n.kids.map (aB d)) ((n.keys.take i ++ [k]++n.keys.drop i).zip (n.chains.take i ++ [l]++n.chains.drop i))=_
 rw [h2,List.map_nil,dV,aBb,aBb,List.zip_append (by omega),<- e2]
 have z:prs n=(n.keys.take i).zip (n.chains.take i)++(n.keys.drop i).zip (n.chains.drop i):=by
  rw [<- List.zip_append (by omega),List.take_append_drop,List.take_append_drop];rfl
 have zl:((n.keys.take i).zip (n.chains.take i)).length=i:=by rw [List.length_zip];omega
 rw [z,List.take_left' zl,List.drop_left' zl];rfl
theorem nS {e:Nat} {n c:Node} {k:List UInt8} (h:shN (e+2) n) (hs:bF (aB (e+2) n)) (hl:n.keys.length < 3) (hc:n.kids[bs n.keys k]? = some c) (hcs:shN (e+1) c) (h3:c.keys.length=3) (hk:n.kids.length=n.keys.length+1) :
 ∃ c',(splitN n (bs n.keys k)).kids[bs (splitN n (bs n.keys k)).keys k]? = some c'/\shN (e+1) c'/\c'.keys.length=1:=by
 obtain ⟨c1,c2⟩:=jS hcs h3
 have h1:=h.1
 have hS:=jT h hl hc h3
 have hA:=gZ e n c (bs n.keys k) hc h1 hk h3 c1 c2
 have hsS:bF (aB (e+2) (splitN n (bs n.keys k))):=by rw [hA];exact hs
 obtain ⟨x1,x2,x3,x4⟩:=tE hcs h3
 have hskS:=bW hS.1 hsS
 have hsk:=bW h1 hs
 have eS:=fB hc
 have dA:bs (splitN n (bs n.keys k)).keys k=bs n.keys k\/bs (splitN n (bs n.keys k)).keys k=bs n.keys k+1:=by
  rw [eS] at hskS ⊢
  exact tF hsk hskS
 have hi:=(aAe.1 hc).1
 have a3:(n.kids.take (bs n.keys k)).length=bs n.keys k:=by rw [aAl];omega
 have kS:(splitN n (bs n.keys k)).kids=n.kids.take (bs n.keys k)++cutN c 0 1::cutN c 2 3::n.kids.drop (bs n.keys k+1):=by rw [eS];rfl
 rcases dA with p | p
 . refine ⟨cutN c 0 1,?_,x1,x3⟩
   rw [p,kS,aAj (by omega),a3,aB2];rfl
 . refine ⟨cutN c 2 3,?_,x2,x4⟩
   rw [p,kS,aAj (by omega),a3,show bs n.keys k+1 - bs n.keys k=1 by omega];rfl
theorem lO (k:List UInt8) (l:List Ver):∀ (f d:Nat) (n:Node),shN d n->bF (aB d n)->putGo f n k->n.keys.length < 3\/bsIs n.keys k=true\/(∃ c,n.kids[bs n.keys k]? = some c/\c.keys.length < 3)->aB d (putN f n k l)=bR k l (aB d n)
 | 0,_,_,_,_,h,_=>h.elim
 | f+1,0,_,h,_,_,_=>h.elim
 | f+1,d+1,n,h,hs,hgo,hl=>by
   have h0:=h
   obtain ⟨h1,h2,hk⟩:=h
   obtain ⟨ab1,ab2,ab3⟩:=about h1 hs k
   have hle:=cO n.keys k
   have e:=dD d n (bs n.keys k) hle
   unfold putN
   by_cases q:bsIs n.keys k=true
   . rw [if_pos q]
     obtain ⟨b1,c,b2,b3⟩:=ab2 q
     rw [wM d n (bs n.keys k) k l (eG.1 q) h1,e,b3,iW _ _ ab1,iW _ _ b1]
     show _=_++(_++bR k l ((k,c)::fU d n (bs n.keys k)))
     rw [zM]
   . have q:bsIs n.keys k=false:=by simpa using q
     have b:=ab3 q
     rw [if_neg (by rw [q];decide)]
     by_cases q2:leafN n=true
     . rw [if_pos q2]
       have hnil:=iH q2
       have hk0:cA d n (bs n.keys k) = []:=by unfold cA cY;rw [hnil];rfl
       rw [yL d n (bs n.keys k) k l hle h1 hnil,e,hk0,List.nil_append,iW _ _ ab1,tG b]
     . have q2:leafN n=false:=by simpa using q2
       rw [if_neg (by rw [q2];decide)]
       rcases hk with ⟨_,hk⟩ | ⟨hk,hsh⟩
       . exact absurd hk (iR q2)
       obtain ⟨c,hc,hgo2⟩:=hgo.2.2.2 q q2
       rw [hc]
       have hcs:=hsh c (aAg hc)
       have hsk:=eM hs (i:=bs n.keys k) hle
       rw [dQ hc] at hsk
       show aB (d+1) (if c.keys.length=3 then putN f (splitN n (bs n.keys k)) k l else Node.mk n.keys n.chains (n.kids.set (bs n.keys k) (putN f c k l)))=_
       by_cases h3:c.keys.length=3
       . rw [if_pos h3] at hgo2 ⊢
         obtain ⟨d,rfl⟩:=iA hcs
         obtain ⟨c1,c2⟩:=jS hcs h3
         have hlt:n.keys.length < 3:=by
          rcases hl with hl | hl | ⟨c',hc',hl⟩
          . exact hl
          . rw [q] at hl;cases hl
          . rw [hc] at hc';cases hc';omega
         have hA:=gZ d n c (bs n.keys k) hc h1 hk h3 c1 c2
         rw [<- hA]
         refine lO k l f (d+2) (splitN n (bs n.keys k)) (jT h0 hlt hc h3) (by rw [hA];exact hs) hgo2.2.2 (.inr (.inr ?_))
         obtain ⟨c',x1,x2,x3⟩:=nS h0 hs hlt hc hcs h3 hk
         exact ⟨c',x1,by omega⟩
       . rw [if_neg h3] at hgo2 ⊢
         have h4:c.keys.length < 3:=by
          obtain ⟨x,rfl⟩:=iA hcs
          have:=hcs.2.1
          omega
         rw [tI d n (bs n.keys k) c _ hc h1 hk,lO k l f d c hcs hsk hgo2 (.inl h4),e,dQ hc,iW _ _ ab1,rD b]
def mnN:Nat->Node->Prop
 | 0,_=>True
 | d+1,n=>∀ c ∈ n.kids,1<=c.keys.length/\mnN d c
theorem yM {d:Nat} {c:Node} (h:mnN d c) (a b:Nat):mnN d (cutN c a b):=by
 cases d with
 | zero=>exact True.intro
 | succ d=>exact fun x hx=>h x (aA6 (aA7 hx))
theorem tJ {d:Nat} {n c:Node} {i:Nat} (h:mnN (d+1) n) (hc:n.kids[i]? = some c) (h3:c.keys.length=3):mnN (d+1) (splitN n i):=by
 have hcm:=h c (aAg hc)
 rw [fB hc]
 intro x hx
 have hx:x ∈ n.kids.take i++cutN c 0 1::cutN c 2 3::n.kids.drop (i+1):=hx
 have a1:(aH c.keys 0 1).length=1:=by rw [aR];omega
 have a2:(aH c.keys 2 3).length=1:=by rw [aR];omega
 simp only [aA5,List.mem_cons] at hx
 rcases hx with h' | h' | h' | h'
 . exact h x (aA6 h')
 . rw [h'];exact ⟨Nat.le_of_eq a1.symm,yM hcm.2 0 1⟩
 . rw [h'];exact ⟨Nat.le_of_eq a2.symm,yM hcm.2 2 3⟩
 . exact h x (aA7 h')
theorem wN {n c:Node} {i:Nat} (hc:n.kids[i]? = some c):n.keys.length<=(splitN n i).keys.length:=by
 rw [fB hc]
 show n.keys.length<=(n.keys.take i ++ [c.keys.getD 1 []]++n.keys.drop i).length
 simp only [aAm,aAn,aAo,aAq,aAl];omega
theorem mR (k:List UInt8) (l:List Ver):∀ (f d:Nat) (n:Node),shN d n->bF (aB d n)->putGo f n k->n.keys.length < 3\/bsIs n.keys k=true\/(∃ c,n.kids[bs n.keys k]? = some c/\c.keys.length < 3) ->
 shN d (putN f n k l)/\(mnN d n->mnN d (putN f n k l))/\n.keys.length<=(putN f n k l).keys.length
 | 0,_,_,_,_,h,_=>h.elim
 | f+1,0,_,h,_,_,_=>h.elim
 | f+1,d+1,n,h,hs,hgo,hl=>by
   have h0:=h
   obtain ⟨h1,h2,hk⟩:=h
   have hle:=cO n.keys k
   unfold putN
   by_cases q:bsIs n.keys k=true
   . rw [if_pos q]
     exact ⟨⟨(by show (n.chains.set _ l).length=n.keys.length;rw [aAp];exact h1),h2,hk⟩,fun h=>h,aBo _⟩
   . have q:bsIs n.keys k=false:=by simpa using q
     rw [if_neg (by rw [q];decide)]
     by_cases q2:leafN n=true
     . rw [if_pos q2]
       have hnil:=iH q2
       have hlt:n.keys.length < 3:=by
        rcases hl with hl | hl | ⟨c',hc',hl⟩
        . exact hl
        . rw [q] at hl;cases hl
        . rw [hnil] at hc';simp at hc'
       have t1:(n.keys.take (bs n.keys k)).length=bs n.keys k:=by rw [aAl];omega
       have t2:(n.chains.take (bs n.keys k)).length=bs n.keys k:=by rw [aAl];omega
       have hd:d=0:=by
        rcases hk with ⟨hd,_⟩ | ⟨hk,_⟩
        . exact hd
        . rw [hnil] at hk;simp at hk
       refine ⟨⟨?_,?_,.inl ⟨hd,hnil⟩⟩,fun h=>h,?_⟩
       . show (n.chains.take (bs n.keys k) ++ [l]++n.chains.drop (bs n.keys k)).length=(n.keys.take (bs n.keys k) ++ [k]++n.keys.drop (bs n.keys k)).length
         simp only [aAm,aAn,aAo,aAq,t1,t2];omega
       . show (n.keys.take (bs n.keys k) ++ [k]++n.keys.drop (bs n.keys k)).length<=3
         simp only [aAm,aAn,aAo,aAq,t1];omega
       . show n.keys.length<=(n.keys.take (bs n.keys k) ++ [k]++n.keys.drop (bs n.keys k)).length
         simp only [aAm,aAn,aAo,aAq,t1];omega
     . have q2:leafN n=false:=by simpa using q2
       rw [if_neg (by rw [q2];decide)]
       rcases hk with ⟨_,hk⟩ | ⟨hk,hsh⟩
       . exact absurd hk (iR q2)
       obtain ⟨c,hc,hgo2⟩:=hgo.2.2.2 q q2
       rw [hc]
       have hm:=aAg hc
       have hcs:=hsh c hm
       have hsk:=eM hs (i:=bs n.keys k) hle
       rw [dQ hc] at hsk
       change shN (d+1) (if c.keys.length=3 then putN f (splitN n (bs n.keys k)) k l else Node.mk n.keys n.chains (n.kids.set (bs n.keys k) (putN f c k l)))/\(mnN (d+1) n->mnN (d+1) (if c.keys.length=3 then putN f (splitN n (bs n.keys k)) k l else Node.mk n.keys n.chains (n.kids.set (bs n.keys k) (putN f c k l))))/\n.keys.length<=(if c.keys.length=3 then putN f (splitN n (bs n.keys k)) k l else Node.mk n.keys n.chains (n.kids.set (bs n.keys k) (putN f c k l))).keys.length
       by_cases h3:c.keys.length=3
       . rw [if_pos h3] at hgo2 ⊢
         obtain ⟨d,rfl⟩:=iA hcs
         obtain ⟨c1,c2⟩:=jS hcs h3
         have hlt:n.keys.length < 3:=by
          rcases hl with hl | hl | ⟨c',hc',hl⟩
          . exact hl
          . rw [q] at hl;cases hl
          . rw [hc] at hc';cases hc';omega
         have hA:=gZ d n c (bs n.keys k) hc h1 hk h3 c1 c2
         obtain ⟨c',x1,x2,x3⟩:=nS h0 hs hlt hc hcs h3 hk
         obtain ⟨r1,r2,r3⟩:=mR k l f (d+2) (splitN n (bs n.keys k)) (jT h0 hlt hc h3) (by rw [hA];exact hs) hgo2.2.2 (.inr (.inr ⟨c',x1,by omega⟩))
         exact ⟨r1,fun h=>r2 (tJ h hc h3),aBp (wN hc) r3⟩
       . rw [if_neg h3] at hgo2 ⊢
         have h4:c.keys.length < 3:=by
          obtain ⟨x,rfl⟩:=iA hcs
          have:=hcs.2.1
          omega
         obtain ⟨r1,r2,r3⟩:=mR k l f d c hcs hsk hgo2 (.inl h4)
         refine ⟨⟨h1,h2,.inr ⟨?_,fun x hx=>?_⟩⟩,fun h x hx=>?_,aBo _⟩
         . show (n.kids.set (bs n.keys k) (putN f c k l)).length=n.keys.length+1
           rw [aAp];exact hk
         . rcases List.mem_or_eq_of_mem_set (show x ∈ n.kids.set (bs n.keys k) (putN f c k l) from hx) with hx | hx
           . exact hsh x hx
           . rw [hx];exact r1
         . rcases List.mem_or_eq_of_mem_set (show x ∈ n.kids.set (bs n.keys k) (putN f c k l) from hx) with hx | hx
           . exact h x hx
           . rw [hx];exact ⟨aBp (h c hm).1 r3,r2 (h c hm).2⟩
theorem cZ {o:Option (List UInt8)} {p:KV}:gA o p=false↔(p.1.length<=16/\p.2.length≠0/\vsOk p.2=true) /\ ∀ a,o=some a->cm a p.1 < 0:=by
 unfold gA
 cases o with
 | none=>
   simp only [kP,Bool.or_eq_false_iff,Bool.not_eq_false',decide_eq_false_iff_not,beq_eq_false_iff_ne]
   constructor
   . rintro ⟨⟨⟨h1,h2⟩,h3⟩,_⟩
     exact ⟨⟨by omega,by omega,h3⟩,fun a h=>by cases h⟩
   . rintro ⟨⟨h1,h2,h3⟩,_⟩
     exact ⟨⟨⟨by omega,by omega⟩,h3⟩,True.intro⟩
 | some a=>
   simp only [kP,Bool.or_eq_false_iff,Bool.not_eq_false',decide_eq_false_iff_not,beq_eq_false_iff_ne]
   constructor
   . rintro ⟨⟨⟨h1,h2⟩,h3⟩,h4⟩
     exact ⟨⟨by omega,by omega,h3⟩,fun b h=>by cases h;omega⟩
   . rintro ⟨⟨h1,h2,h3⟩,h4⟩
     exact ⟨⟨⟨by omega,by omega⟩,h3⟩,by have:=h4 a rfl;omega⟩
theorem dG {o:Option (List UInt8)} {p:KV} {ps:List KV}:dO o (p::ps)=true↔gA o p=false/\dO (some p.1) ps=true:=by
 show (if gA o p then false else dO (some p.1) ps)=true↔_
 cases gA o p <;> simp
theorem oK {k:List UInt8} {l:List Ver} (hk:k.length<=16) (hl:l.length≠0) (hv:vsOk l=true):∀ (L:List KV) (o:Option (List UInt8)),dO o L=true->(∀ a,o=some a->cm a k < 0)->dO o (bR k l L)=true
 | [],o,_,ho=>dG.2 ⟨cZ.2 ⟨⟨hk,hl,hv⟩,ho⟩,rfl⟩
 | p::ps,o,h,ho=>by
   obtain ⟨h1,h2⟩:=dG.1 h
   show dO o (if cm p.1 k < 0 then p::bR k l ps else if cm p.1 k=0 then (k,l)::ps else (k,l)::p::ps)=true
   split
   . rename_i h3
     exact dG.2 ⟨h1,oK hk hl hv ps _ h2 (fun a ha=>by cases ha;exact h3)⟩
   . split
     . rename_i h4
       have e:=(fM _ _).1 h4
       exact dG.2 ⟨cZ.2 ⟨⟨hk,hl,hv⟩,ho⟩,by rw [<- e];exact h2⟩
     . refine dG.2 ⟨cZ.2 ⟨⟨hk,hl,hv⟩,ho⟩,dG.2 ⟨cZ.2 ⟨(cZ.1 h1).1,fun a ha=>?_⟩,h2⟩⟩
       cases ha
       have:=dB p.1 k
       show cm k p.1 < 0
       omega
theorem jE:∀ (d:Nat) (n:Node) (least:Int),nOk d n->deepN n least≠0->mnN d n
 | 0,_,_,h,_=>h.elim
 | d+1,n,least,hn,hd=>fun c hc=>by
   obtain ⟨_,_,_,h4⟩:=cI hd
   rcases h4 with ⟨h4,_⟩ | ⟨_,_,h6⟩
   . rw [h4] at hc;cases hc
   . have h7:=(h6 c hc).2
     have:=(cI h7).2.2.1
     exact ⟨by omega,jE d c 1 (nOk_kid hn c hc) h7⟩
theorem nC:∀ (e d:Nat) (n:Node),e<=d->mnN d n->mnN e n
 | 0,_,_,_,_=>True.intro
 | e+1,0,_,h,_=>by omega
 | e+1,d+1,n,h,hm=>fun c hc=>⟨(hm c hc).1,nC e d c (by omega) (hm c hc).2⟩
theorem iB:∀ (e:Nat) (n:Node) (least:Int),shN (e+1) n->mnN (e+1) n->(n.kids = []\/n.keys.length≠0)->least<=n.keys.length->deepN n least=((e+1:Nat):Int)
 | e,n,least,h,hm,h0,hl=>by
   obtain ⟨h1,h2,hk⟩:=h
   rw [deepN_eq,if_neg (by
    simp only [aB1,bne_iff_ne,decide_eq_true_eq]
    omega)]
   rcases hk with ⟨rfl,hk⟩ | ⟨hk,hsh⟩
   . rw [hk];rfl
   . obtain ⟨x,hx⟩:∃ x,n.kids[0]? = some x:=⟨_,aAf (by omega)⟩
     obtain ⟨e,rfl⟩:=iA (hsh x (aAg hx))
     have all:∀ c ∈ n.kids,deepN c 1=((e+1:Nat):Int):=fun c hc=>iB e c 1 (hsh c hc) (hm c hc).2 (.inr (by have:=(hm c hc).1;omega)) (by have:=(hm c hc).1;omega)
     have hne:n.keys.length≠0:=by
      rcases h0 with h0 | h0
      . rw [h0] at hk;simp at hk
      . exact h0
     have hmap:n.kids.map (deepN · 1)=List.replicate n.kids.length ((e+1:Nat):Int):=by
      rw [List.eq_replicate_iff]
      refine ⟨aAh ..,fun b hb=>?_⟩
      obtain ⟨c,hc,rfl⟩:=aBc.1 hb
      exact all c hc
     rw [hmap,hk,List.replicate_succ]
     show (if _ then _ else _)=_
     rw [if_neg (by
      simp only [aB1,bne_iff_ne,beq_iff_eq]
      omega),if_neg (by
      rw [Bool.not_eq_true,List.any_eq_false]
      intro b hb
      rw [List.eq_of_mem_replicate hb]
      simp),if_neg (by
      simp only [beq_iff_eq];omega)]
     omega
theorem yN {d:Nat} {n:Node} {k:List UInt8} {l:List Ver} (hn:nOk d n) (hok:aX d n=true) (hlt:n.keys.length < 3) (hk:k.length<=16) (hl:l.length≠0) (hv:vsOk l=true) :
 ∃ e,e+1<=d/\putGo (2*(e+1)) n k/\aB (e+1) (putN (2*(e+1)) n k l)=bR k l (aB d n)/\shN (e+1) (putN (2*(e+1)) n k l)/\deepN (putN (2*(e+1)) n k l) 0=((e+1:Nat):Int)/\aX (e+1) (putN (2*(e+1)) n k l)=true:=by
 unfold aX at hok
 split at hok
 . cases hok
 rename_i h0
 have h0:deepN n 0≠0:=by simpa using h0
 obtain ⟨e,he,he2,hsh⟩:=eP d n 0 hn h0
 have hmn:=nC (e+1) d n he (jE d n 0 hn h0)
 have hA:=gO (e+1) n hsh d he
 have hs:=(dZ _ _ hok).1
 rw [hA] at hs hok
 have hgo:=lN (e+1) n k hsh hs hlt
 have hput:=lO k l (2*(e+1)) (e+1) n hsh hs hgo (.inl hlt)
 obtain ⟨r1,r2,r3⟩:=mR k l (2*(e+1)) (e+1) n hsh hs hgo (.inl hlt)
 have hroot:(putN (2*(e+1)) n k l).kids = []\/(putN (2*(e+1)) n k l).keys.length≠0:=by
  by_cases hz:(putN (2*(e+1)) n k l).keys.length=0
  . left
    have hz':n.keys.length=0:=by omega
    obtain ⟨_,_,_,h4⟩:=cI h0
    rcases h4 with ⟨h4,h5⟩ | ⟨_,h5,_⟩
    . have:e=0:=by omega
      subst this
      rcases r1.2.2 with ⟨_,h⟩ | ⟨h,h6⟩
      . exact h
      . obtain ⟨x,hx⟩:∃ x,(putN (2*(0+1)) n k l).kids[0]? = some x:=⟨_,aAf (by omega)⟩
        exact (h6 x (aAg hx)).elim
    . exact absurd hz' h5
  . exact .inr hz
 have hd:=iB e (putN (2*(e+1)) n k l) 0 r1 (r2 hmn) hroot (by omega)
 refine ⟨e,he,hgo,by rw [hA];exact hput,r1,hd,?_⟩
 unfold aX
 rw [hd,if_neg (by simp only [beq_iff_eq];omega),hput]
 exact oK hk hl hv _ _ hok (fun a h=>by cases h)
theorem zN {e:Nat} {n:Node} {k:List UInt8} {l:List Ver} (hsh:shN (e+1) n) (hmn:mnN (e+1) n) (hch:dO none (aB (e+1) n)=true) (hr:n.kids = []\/n.keys.length≠0) (hlt:n.keys.length < 3) (hk:k.length<=16) (hl:l.length≠0) (hv:vsOk l=true) :
 putGo (2*(e+1)) n k/\aB (e+1) (putN (2*(e+1)) n k l)=bR k l (aB (e+1) n)/\deepN (putN (2*(e+1)) n k l) 0=((e+1:Nat):Int)/\aX (e+1) (putN (2*(e+1)) n k l)=true:=by
 have hs:=(dZ _ _ hch).1
 have hgo:=lN (e+1) n k hsh hs hlt
 have hput:=lO k l (2*(e+1)) (e+1) n hsh hs hgo (.inl hlt)
 obtain ⟨r1,r2,r3⟩:=mR k l (2*(e+1)) (e+1) n hsh hs hgo (.inl hlt)
 have hroot:(putN (2*(e+1)) n k l).kids = []\/(putN (2*(e+1)) n k l).keys.length≠0:=by
  rcases hr with hr | hr
  . left
    have hd0:e=0:=by
     rcases hsh.2.2 with ⟨h,_⟩ | ⟨h,_⟩
     . exact h
     . rw [hr] at h;simp at h
    subst hd0
    rcases r1.2.2 with ⟨_,h⟩ | ⟨h,h6⟩
    . exact h
    . obtain ⟨x,hx⟩:∃ x,(putN (2*(0+1)) n k l).kids[0]? = some x:=⟨_,aAf (by omega)⟩
      exact (h6 x (aAg hx)).elim
  . exact .inr (by omega)
 have hd:=iB e (putN (2*(e+1)) n k l) 0 r1 (r2 hmn) hroot (by omega)
 refine ⟨hgo,hput,hd,?_⟩
 unfold aX
 rw [hd,if_neg (by simp only [beq_iff_eq];omega),hput]
 exact oK hk hl hv _ _ hch (fun a h=>by cases h)
def cV (n:Node):Node:=.mk [] [] [n]
def cT:Nat->Node->KV
 | 0,_=>([],[])
 | d+1,n=>match n.kids[0]? with | some c=>cT d c | none=>(n.keys.getD 0 [],n.chains.getD 0 [])
theorem uJ {α:Type} (a:List α) (A:List (List α)) (P:List α):∃ Y,aS (a::A) P=a++Y:=by
 cases P with
 | nil=>exact ⟨A.flatten,rfl⟩
 | cons p P=>exact ⟨p::aS A P,rfl⟩
theorem rE:∀ (d:Nat) (n:Node),shN d n->mnN d n->1<=n.keys.length -> ∃ Y,aB d n=cT d n::Y
 | 0,_,h,_,_=>h.elim
 | d+1,n,hs,hm,h1=>by
   obtain ⟨p1,p2,p3⟩:=hs
   unfold cT
   rcases p3 with ⟨_,p3⟩ | ⟨p3,p4⟩
   . rw [aM d n p1 (.inr p3),p3]
     rw [List.map_nil,dV]
     have hk:n.keys=n.keys.getD 0 []::n.keys.drop 1:=by
      have:=aBg (l:=n.keys) (i:=0) (by omega)
      rw [List.drop_zero] at this
      rw [aA2,aAf (by omega:0 < n.keys.length)]
      exact this
     have hc:n.chains=n.chains.getD 0 []::n.chains.drop 1:=by
      have:=aBg (l:=n.chains) (i:=0) (by omega)
      rw [List.drop_zero] at this
      rw [aA2,aAf (by omega:0 < n.chains.length)]
      exact this
     refine ⟨(n.keys.drop 1).zip (n.chains.drop 1),?_⟩
     unfold prs
     conv=>lhs;rw [hk,hc]
     rfl
   . rw [aM d n p1 (.inl p3)]
     obtain ⟨c,hc⟩:∃ y,n.kids[0]? = some y:=⟨_,aAf (by omega)⟩
     have hmc:=aAg hc
     obtain ⟨Y,hY⟩:=rE d c (p4 c hmc) (hm c hmc).2 (hm c hmc).1
     have hk:=dW hc
     rw [hc]
     have e:n.kids=c::n.kids.drop 1:=by simpa using hk
     have e2:n.kids.map (aB d)=aB d c::(n.kids.drop 1).map (aB d):=by conv=>lhs;rw [e,List.map_cons]
     rw [e2]
     obtain ⟨Z,hZ⟩:=uJ (aB d c) ((n.kids.drop 1).map (aB d)) (prs n)
     rw [hZ,hY]
     exact ⟨Y++Z,rfl⟩
def aI {α:Type} (l:List α) (i:Nat):List α:=l.take i++l.drop (i+1)
def cS (a:Node) (p:KV) (b:Node):Node:=.mk (a.keys ++ [p.1]++b.keys) (a.chains ++ [p.2]++b.chains) (a.kids++b.kids)
def bG (n:Node) (i:Nat):Node:=
 match n.kids[i]?,n.kids[i+1]? with
 | some a,some b=>.mk (aI n.keys i) (aI n.chains i) (aI (n.kids.set i (cS a (n.keys.getD i [],n.chains.getD i []) b)) (i+1))
 | _,_=>n
theorem jF {α:Type} (B:List (List α)) (p:α) (Q:List α):∀ (A:List (List α)) (P:List α),A.length=P.length+1->aS (A++B) (P++p::Q)=aS A P++p::aS B Q
 | [],_,h=>by simp at h
 | [a],[],_=>by simp [aS]
 | a::b::A,[],h=>by simp at h
 | a::A,q::P,h=>by
   have:=jF B p Q A P (by simpa using h)
   simp [aS,this]
theorem tK {a b:Node} {p:KV} (h:a.chains.length=a.keys.length):prs (cS a p b)=prs a++p::prs b:=by
 show (a.keys ++ [p.1]++b.keys).zip (a.chains ++ [p.2]++b.chains)=_
 rw [aBb,aBb,List.zip_append h.symm];rfl
theorem yO (d:Nat) (a b:Node) (p:KV) (ha:shN (d+1) a) (hb:shN (d+1) b):aB (d+1) (cS a p b)=aB (d+1) a++p::aB (d+1) b:=by
 obtain ⟨a1,a2,a3⟩:=ha
 obtain ⟨b1,b2,b3⟩:=hb
 have hc:(cS a p b).chains.length=(cS a p b).keys.length:=by
  show (a.chains ++ [p.2]++b.chains).length=(a.keys ++ [p.1]++b.keys).length
  simp only [aAm,aAn,aAo];omega
 rcases a3 with ⟨hd,a3⟩ | ⟨a3,a4⟩ <;> rcases b3 with ⟨hd',b3⟩ | ⟨b3,b4⟩
 . rw [aM d _ hc (.inr (by show a.kids++b.kids = [];rw [a3,b3];rfl)),aM d a a1 (.inr a3),aM d b b1 (.inr b3),tK a1]
   show aS ((a.kids++b.kids).map (aB d)) _=_
   rw [a3,b3]
   simp only [List.append_nil,List.map_nil,dV]
 . exfalso
   obtain ⟨x,hx⟩:∃ x,b.kids[0]? = some x:=⟨_,aAf (by omega)⟩
   have:=b4 x (aAg hx)
   subst hd
   exact this
 . exfalso
   obtain ⟨x,hx⟩:∃ x,a.kids[0]? = some x:=⟨_,aAf (by omega)⟩
   have:=a4 x (aAg hx)
   subst hd'
   exact this
 . rw [aM d _ hc (.inl (by
    show (a.kids++b.kids).length=(a.keys ++ [p.1]++b.keys).length+1
    simp only [aAm,aAn,aAo];omega)),aM d a a1 (.inl a3),aM d b b1 (.inl b3),tK a1]
   show aS ((a.kids++b.kids).map (aB d)) _=_
   rw [List.map_append,jF _ _ _ _ _ (by rw [aAh,fR a1];exact a3)]
theorem fT {n a b:Node} {i:Nat} (ha:n.kids[i]? = some a) (hb:n.kids[i+1]? = some b) :
 bG n i = .mk (aI n.keys i) (aI n.chains i) (n.kids.take i++cS a (n.keys.getD i [],n.chains.getD i []) b::n.kids.drop (i+2)):=by
 have hi:=(aAe.1 hb).1
 unfold bG
 rw [ha,hb]
 show Node.mk _ _ _=_
 congr 1
 unfold aI
 have hT:(n.kids.take i).length=i:=by rw [aAl];omega
 rw [List.set_eq_take_append_cons_drop,if_pos (by omega),show i+2=i+1+1 from rfl]
 generalize hD:n.kids.drop (i+1)=D
 have hD2:n.kids.drop (i+1+1)=D.drop 1:=by rw [<- hD,List.drop_drop]
 rw [hD2]
 generalize n.kids.take i=T at hT
 subst hT
 rw [List.take_append,List.drop_append,aAt (aBu _),aAz (by omega)]
 simp [show T.length+1+1 - T.length=2 by omega]
theorem jH (n:Node) (i:Nat) (h1:n.chains.length=n.keys.length) (hi:i < n.keys.length):prs n=(n.keys.take i).zip (n.chains.take i)++(n.keys.getD i [],n.chains.getD i [])::(n.keys.drop (i+1)).zip (n.chains.drop (i+1)):=by
 have k1:=dW (getD_of (d:=[]) hi)
 have k2:=dW (getD_of (l:=n.chains) (d:=[]) (by omega:i < n.chains.length))
 unfold prs
 conv=>lhs;rw [k1,k2]
 rw [List.zip_append (by rw [aAl,aAl];omega)];rfl
theorem uK (d:Nat) (n a b:Node) (i:Nat) (ha:n.kids[i]? = some a) (hb:n.kids[i+1]? = some b) (h1:n.chains.length=n.keys.length) (h2:n.kids.length=n.keys.length+1) (sa:shN (d+1) a) (sb:shN (d+1) b) :
 aB (d+2) (bG n i)=aB (d+2) n:=by
 have hi:=(aAe.1 hb).1
 have a1:(n.keys.take i).length=i:=by rw [aAl];omega
 have a2:(n.chains.take i).length=i:=by rw [aAl];omega
 have a3:(n.kids.take i).length=i:=by rw [aAl];omega
 have q1:(aI n.chains i).length=(aI n.keys i).length:=by
  unfold aI
  simp only [aAm,aAq,a1,a2];omega
 have q2:(n.kids.take i++cS a (n.keys.getD i [],n.chains.getD i []) b::n.kids.drop (i+2)).length=(aI n.keys i).length+1:=by
  unfold aI
  simp only [aAm,aAn,aAq,a1,a3];omega
 rw [fT ha hb,aM (d+1) (.mk (aI n.keys i) (aI n.chains i) (n.kids.take i++cS a (n.keys.getD i [],n.chains.getD i []) b::n.kids.drop (i+2))) q1 (.inl q2),aM (d+1) n h1 (.inl h2)]
 show aS ((n.kids.take i++cS a (n.keys.getD i [],n.chains.getD i []) b::n.kids.drop (i+2)).map (aB (d+1))) ((aI n.keys i).zip (aI n.chains i))=_
 have e2:(aI n.keys i).zip (aI n.chains i)=(n.keys.take i).zip (n.chains.take i)++(n.keys.drop (i+1)).zip (n.chains.drop (i+1)):=by
  unfold aI;rw [List.zip_append (by omega)]
 have e3:n.kids.map (aB (d+1))=(n.kids.take i).map (aB (d+1))++aB (d+1) a::aB (d+1) b::(n.kids.drop (i+2)).map (aB (d+1)):=by
  have k1:=dW ha
  have k2:n.kids.drop (i+1)=b::n.kids.drop (i+2):=by
   rw [aBg hi,(aAe.1 hb).2]
  conv=>lhs;rw [k1,k2]
  rw [List.map_append,List.map_cons,List.map_cons]
 have l1:((n.kids.take i).map (aB (d+1))).length=((n.keys.take i).zip (n.chains.take i)).length:=by rw [aAh,List.length_zip];omega
 rw [e2,e3,jH n i h1 (by omega),List.map_append,List.map_cons,cP _ _ _ _ l1,cP _ _ _ _ l1,yO d a b _ sa sb,eO,fS,iQ]
def bP (n:Node) (i:Nat) (p:KV) (a b:Node):Node:=.mk (n.keys.set i p.1) (n.chains.set i p.2) ((n.kids.set i a).set (i+1) b)
theorem jG {n a b a' b':Node} {i:Nat} (ha:n.kids[i]? = some a) (hb:n.kids[i+1]? = some b):(n.kids.set i a').set (i+1) b'=n.kids.take i++a'::b'::n.kids.drop (i+2):=by
 have hi:=(aAe.1 hb).1
 apply List.ext_getElem?
 intro j
 have hT:(n.kids.take i).length=i:=by rw [aAl];omega
 rcases aBl j i with h | h
 . rw [aAs (by omega),aAs (by omega),aAk (by omega),aA0,if_pos h]
 . rw [aAj (by omega),hT]
   rcases aBl j (i+1) with h2 | h2
   . obtain rfl:j=i:=by omega
     rw [aAs (by omega),aAr (by omega),aB2];rfl
   . rcases aBl j (i+2) with h3 | h3
     . obtain rfl:j=i+1:=by omega
       rw [aAr (by rw [aAp];omega),show i+1 - i=1 by omega];rfl
     . obtain ⟨t,rfl⟩:∃ t,j=i+2+t:=⟨j - (i+2),by omega⟩
       rw [aAs (by omega),aAs (by omega),show i+2+t - i=t+1+1 by omega,aBa,aBa,aA1]
theorem rF (d:Nat) (n a b a' b':Node) (i:Nat) (p:KV) (ha:n.kids[i]? = some a) (hb:n.kids[i+1]? = some b) (h1:n.chains.length=n.keys.length) (h2:n.kids.length=n.keys.length+1)
 (he:aB d a'++p::aB d b'=aB d a++(n.keys.getD i [],n.chains.getD i [])::aB d b):aB (d+1) (bP n i p a' b')=aB (d+1) n:=by
 have hi:=(aAe.1 hb).1
 have key:∀ (m:Node) (q:KV) (x y:Node),m.chains.length=m.keys.length->m.kids.length=m.keys.length+1->i < m.keys.length->m.kids=n.kids.take i++x::y::n.kids.drop (i+2)->m.keys.take i=n.keys.take i->m.chains.take i=n.chains.take i->m.keys.drop (i+1)=n.keys.drop (i+1)->m.chains.drop (i+1)=n.chains.drop (i+1)->m.keys.getD i []=q.1->m.chains.getD i []=q.2 ->
  aB (d+1) m=aS ((n.kids.take i).map (aB d)) ((n.keys.take i).zip (n.chains.take i))++aS ((aB d x++q::aB d y)::(n.kids.drop (i+2)).map (aB d)) ((n.keys.drop (i+1)).zip (n.chains.drop (i+1))):=fun m q x y e1 e2 e3 e4 e5 e6 e7 e8 e9 e10=>by
  rw [aM d m e1 (.inl e2),jH m i e1 e3,e4,e5,e6,e7,e8,e9,e10,List.map_append,List.map_cons,List.map_cons,cP _ _ _ _ (by rw [aAh,List.length_zip,aAl,aAl,aAl];omega),eO,fS,iQ]
 have hk:i < n.keys.length:=by omega
 have hkc:i < n.chains.length:=by omega
 rw [key (bP n i p a' b') p a' b' (by show (n.chains.set i p.2).length=(n.keys.set i p.1).length;rw [aAp,aAp];exact h1)
     (by show ((n.kids.set i a').set (i+1) b').length=(n.keys.set i p.1).length+1;rw [aAp,aAp,aAp];exact h2)
     (by show i < (n.keys.set i p.1).length;rw [aAp];exact hk) (jG ha hb)
     (by show (n.keys.set i p.1).take i=_;rw [List.take_set_of_le (aBo i)]) (by show (n.chains.set i p.2).take i=_;rw [List.take_set_of_le (aBo i)])
     (by show (n.keys.set i p.1).drop (i+1)=_;rw [List.drop_set_of_lt (aBm i)]) (by show (n.chains.set i p.2).drop (i+1)=_;rw [List.drop_set_of_lt (aBm i)])
     (by show (n.keys.set i p.1).getD i []=_;rw [aA2,aAr hk];rfl) (by show (n.chains.set i p.2).getD i []=_;rw [aA2,aAr hkc];rfl),
  key n (n.keys.getD i [],n.chains.getD i []) a b h1 h2 hk (by
   have:=jG (a':=a) (b':=b) ha hb
   rw [<- this]
   rw [show n.kids.set i a=n.kids by rw [<- (aAe.1 ha).2];exact List.set_getElem_self _,<- (aAe.1 hb).2]
   exact (List.set_getElem_self _).symm) rfl rfl rfl rfl rfl rfl,he]
def fC (a b:Node) (p:KV):Node:=.mk (a.keys ++ [p.1]) (a.chains ++ [p.2]) (a.kids++b.kids.take 1)
def fD (b:Node):Node:=.mk (b.keys.drop 1) (b.chains.drop 1) (b.kids.drop 1)
theorem tL {b:Node} (h:b.chains.length=b.keys.length) (hb:0 < b.keys.length):prs b=(b.keys.getD 0 [],b.chains.getD 0 [])::(b.keys.drop 1).zip (b.chains.drop 1):=by
 have:=jH b 0 h hb
 simpa using this
theorem wO (d:Nat) (a b:Node) (p:KV) (sa:shN (d+1) a) (sb:shN (d+1) b) (hb:0 < b.keys.length) :
 aB (d+1) (fC a b p)++(b.keys.getD 0 [],b.chains.getD 0 [])::aB (d+1) (fD b)=aB (d+1) a++p::aB (d+1) b:=by
 obtain ⟨a1,a2,a3⟩:=sa
 obtain ⟨b1,b2,b3⟩:=sb
 have hc:(a.chains ++ [p.2]).length=(a.keys ++ [p.1]).length:=by simp only [aAm,aAn,aAo];omega
 have hc2:(b.chains.drop 1).length=(b.keys.drop 1).length:=by rw [aAq,aAq,b1]
 have hz:(a.keys ++ [p.1]).zip (a.chains ++ [p.2])=prs a ++ [p]:=by rw [List.zip_append a1.symm];rfl
 rcases a3 with ⟨hd,a3⟩ | ⟨a3,a4⟩ <;> rcases b3 with ⟨hd',b3⟩ | ⟨b3,b4⟩
 . rw [aM d (fC a b p) hc (.inr (by show a.kids++b.kids.take 1 = [];rw [a3,b3];rfl)),aM d (fD b) hc2 (.inr (by show b.kids.drop 1 = [];rw [b3];rfl)),aM d a a1 (.inr a3),aM d b b1 (.inr b3)]
   show aS ((a.kids++b.kids.take 1).map (aB d)) ((a.keys ++ [p.1]).zip (a.chains ++ [p.2]))++_::aS ((b.kids.drop 1).map (aB d)) ((b.keys.drop 1).zip (b.chains.drop 1))=_
   rw [hz,a3,b3,tL b1 hb]
   simp [dV]
 . exfalso
   obtain ⟨x,hx⟩:∃ x,b.kids[0]? = some x:=⟨_,aAf (by omega)⟩
   have:=b4 x (aAg hx)
   subst hd
   exact this
 . exfalso
   obtain ⟨x,hx⟩:∃ x,a.kids[0]? = some x:=⟨_,aAf (by omega)⟩
   have:=a4 x (aAg hx)
   subst hd'
   exact this
 . obtain ⟨x,hx⟩:∃ x,b.kids[0]? = some x:=⟨_,aAf (by omega)⟩
   have hk:=dW hx
   have e1:b.kids.take 1 = [x]:=by rw [hk];simp
   have e2:b.kids=x::b.kids.drop 1:=by simpa using hk
   rw [aM d (fC a b p) hc (.inl (by
       show (a.kids++b.kids.take 1).length=(a.keys ++ [p.1]).length+1
       rw [e1];simp only [aAm,aAn,aAo];omega)),aM d (fD b) hc2 (.inl (by
       show (b.kids.drop 1).length=(b.keys.drop 1).length+1
       rw [aAq,aAq];omega)),aM d a a1 (.inl a3),aM d b b1 (.inl b3)]
   show aS ((a.kids++b.kids.take 1).map (aB d)) ((a.keys ++ [p.1]).zip (a.chains ++ [p.2]))++_::aS ((b.kids.drop 1).map (aB d)) ((b.keys.drop 1).zip (b.chains.drop 1))=_
   have e3:b.kids.map (aB d)=aB d x::(b.kids.drop 1).map (aB d):=by conv=>lhs;rw [e2,List.map_cons]
   rw [hz,e1,e3,tL b1 hb,List.map_append,jF _ _ _ _ _ (by rw [aAh,fR a1];exact a3),eO]
   simp [kC]
def eE (a b:Node) (p:KV):Node:=.mk (p.1::a.keys) (p.2::a.chains) (b.kids.drop (b.kids.length - 1)++a.kids)
def eF (b:Node):Node:=.mk (b.keys.take (b.keys.length - 1)) (b.chains.take (b.keys.length - 1)) (b.kids.take (b.kids.length - 1))
theorem tM {b:Node} (h:b.chains.length=b.keys.length) (hb:0 < b.keys.length):prs b=(b.keys.take (b.keys.length - 1)).zip (b.chains.take (b.keys.length - 1)) ++ [(b.keys.getD (b.keys.length - 1) [],b.chains.getD (b.keys.length - 1) [])]:=by
 have:=jH b (b.keys.length - 1) h (by omega)
 rw [aAz (by omega:b.keys.length<=b.keys.length - 1+1)] at this
 simpa using this
theorem wP (d:Nat) (a b:Node) (p:KV) (sa:shN (d+1) a) (sb:shN (d+1) b) (hb:0 < b.keys.length) :
 aB (d+1) (eF b)++(b.keys.getD (b.keys.length - 1) [],b.chains.getD (b.keys.length - 1) [])::aB (d+1) (eE a b p)=aB (d+1) b++p::aB (d+1) a:=by
 obtain ⟨a1,a2,a3⟩:=sa
 obtain ⟨b1,b2,b3⟩:=sb
 have hc:(p.2::a.chains).length=(p.1::a.keys).length:=by simp only [aAn];omega
 have hc2:(b.chains.take (b.keys.length - 1)).length=(b.keys.take (b.keys.length - 1)).length:=by rw [aAl,aAl,b1]
 rcases a3 with ⟨hd,a3⟩ | ⟨a3,a4⟩ <;> rcases b3 with ⟨hd',b3⟩ | ⟨b3,b4⟩
 . rw [aM d (eE a b p) hc (.inr (by show b.kids.drop (b.kids.length - 1)++a.kids = [];rw [a3,b3];rfl)),aM d (eF b) hc2 (.inr (by show b.kids.take (b.kids.length - 1) = [];rw [b3];rfl)),aM d a a1 (.inr a3),aM d b b1 (.inr b3)]
   show aS ((b.kids.take (b.kids.length - 1)).map (aB d)) ((b.keys.take (b.keys.length - 1)).zip (b.chains.take (b.keys.length - 1)))++_::aS ((b.kids.drop (b.kids.length - 1)++a.kids).map (aB d)) ((p.1::a.keys).zip (p.2::a.chains))=_
   rw [a3,b3,tM b1 hb]
   simp [dV,prs]
 . exfalso
   obtain ⟨x,hx⟩:∃ x,b.kids[0]? = some x:=⟨_,aAf (by omega)⟩
   have:=b4 x (aAg hx)
   subst hd
   exact this
 . exfalso
   obtain ⟨x,hx⟩:∃ x,a.kids[0]? = some x:=⟨_,aAf (by omega)⟩
   have:=a4 x (aAg hx)
   subst hd'
   exact this
 . obtain ⟨x,hx⟩:∃ x,b.kids[b.kids.length - 1]? = some x:=⟨_,aAf (by omega)⟩
   have hk:=dW hx
   rw [aAz (by omega:b.kids.length<=b.kids.length - 1+1)] at hk
   have e1:b.kids.drop (b.kids.length - 1) = [x]:=by
    have:=aBg (l:=b.kids) (i:=b.kids.length - 1) (by omega)
    rw [this,(aAe.1 hx).2,aAz (by omega)]
   rw [aM d (eE a b p) hc (.inl (by
       show (b.kids.drop (b.kids.length - 1)++a.kids).length=(p.1::a.keys).length+1
       rw [e1];simp only [aAm,aAn,aAo];omega)),aM d (eF b) hc2 (.inl (by
       show (b.kids.take (b.kids.length - 1)).length=(b.keys.take (b.keys.length - 1)).length+1
       rw [aAl,aAl];omega)),aM d a a1 (.inl a3),aM d b b1 (.inl b3)]
   show aS ((b.kids.take (b.kids.length - 1)).map (aB d)) ((b.keys.take (b.keys.length - 1)).zip (b.chains.take (b.keys.length - 1)))++_::aS ((b.kids.drop (b.kids.length - 1)++a.kids).map (aB d)) ((p.1::a.keys).zip (p.2::a.chains))=_
   have e3:b.kids.map (aB d)=(b.kids.take (b.kids.length - 1)).map (aB d) ++ [aB d x]:=by conv=>lhs;rw [hk,List.map_append,List.map_cons,List.map_nil]
   rw [e1,e3,tM b1 hb,jF _ _ _ _ _ (by rw [aAh,List.length_zip,aAl,aAl,aAl];omega)]
   show _++_::aS (aB d x::a.kids.map (aB d)) (p::prs a)=_
   rw [eO]
   simp [kC]
def cD (k:List UInt8) (L:List KV):List KV:=L.filter fun p=>!decide (cm p.1 k=0)
theorem mS (k:List UInt8) (X Y:List KV):cD k (X++Y)=cD k X++cD k Y:=List.filter_append ..
theorem lP (k:List UInt8) (p:KV) (X:List KV):cD k (p::X)=if cm p.1 k=0 then cD k X else p::cD k X:=by
 unfold cD
 rw [List.filter_cons]
 by_cases h:cm p.1 k=0 <;> simp [h]
theorem iD {k:List UInt8} {X:List KV} (h:∀ p ∈ X,cm p.1 k≠0):cD k X=X:=by
 unfold cD
 rw [List.filter_eq_self]
 intro p hp
 simp [h p hp]
theorem rG {k:List UInt8} {X Y C:List KV} (hx:∀ p ∈ X,cm p.1 k < 0) (hy:∀ p ∈ Y,0 < cm p.1 k):cD k (X++(C++Y))=X++(cD k C++Y):=by
 rw [mS,mS,iD (fun p hp=>by have:=hx p hp;omega),iD (X:=Y) (fun p hp=>by have:=hy p hp;omega)]
theorem oL {k:List UInt8} {X Y:List KV} {c:List Ver} (hx:∀ p ∈ X,cm p.1 k < 0) (hy:∀ p ∈ Y,0 < cm p.1 k):cD k (X++(k,c)::Y)=X++Y:=by
 rw [mS,lP,if_pos (cG k),iD (fun p hp=>by have:=hx p hp;omega),iD (X:=Y) (fun p hp=>by have:=hy p hp;omega)]
theorem uL {o:Option (List UInt8)} {b:List UInt8}:∀ {L:List KV},dO (some b) L=true->(∀ a,o=some a->cm a b < 0)->dO o L=true
 | [],_,_=>rfl
 | p::ps,h,ho=>by
   obtain ⟨h1,h2⟩:=dG.1 h
   obtain ⟨q1,q2⟩:=cZ.1 h1
   exact dG.2 ⟨cZ.2 ⟨q1,fun a ha=>eW (ho a ha) (q2 b rfl)⟩,h2⟩
theorem tN (k:List UInt8):∀ (L:List KV) (o:Option (List UInt8)),dO o L=true->dO o (cD k L)=true
 | [],_,_=>rfl
 | p::ps,o,h=>by
   obtain ⟨h1,h2⟩:=dG.1 h
   have ih:=tN k ps _ h2
   rw [lP]
   split
   . exact uL ih (cZ.1 h1).2
   . exact dG.2 ⟨h1,ih⟩
def aA (n:Node) (i:Nat):Node:=n.kids.getD i (.mk [] [] [])
def bA (n:Node) (i:Nat):KV:=(n.keys.getD i [],n.chains.getD i [])
def bH (n:Node) (i from_:Nat):Node:=
 if from_ < i then bP n from_ (bA (aA n from_) ((aA n from_).keys.length - 1)) (eF (aA n from_)) (eE (aA n i) (aA n from_) (bA n from_))
 else bP n i (bA (aA n from_) 0) (fC (aA n i) (aA n from_) (bA n i)) (fD (aA n from_))
def cE (n:Node) (i:Nat):Node × Nat:=
 if 1 < (aA n i).keys.length then (n,i)
 else if 0 < i/\1 < (aA n (i - 1)).keys.length then (bH n i (i - 1),i)
 else if i+1 < n.kids.length/\1 < (aA n (i+1)).keys.length then (bH n i (i+1),i)
 else if 0 < i then (bG n (i - 1),i - 1)
 else (bG n i,i)
def bL:Nat->Node->List UInt8->Node
 | 0,n,_=>n
 | f+1,n,k=>
   if leafN n then (if bsIs n.keys k then .mk (aI n.keys (bs n.keys k)) (aI n.chains (bs n.keys k)) n.kids else n)
   else if bsIs n.keys k then
    (if 1 < (aA n (bs n.keys k+1)).keys.length then
      .mk (n.keys.set (bs n.keys k) (cT f (aA n (bs n.keys k+1))).1) (n.chains.set (bs n.keys k) (cT f (aA n (bs n.keys k+1))).2)
       (n.kids.set (bs n.keys k+1) (bL f (aA n (bs n.keys k+1)) (cT f (aA n (bs n.keys k+1))).1))
    else if 1 < (aA n (bs n.keys k)).keys.length then bL f (bH n (bs n.keys k+1) (bs n.keys k)) k
    else .mk (bG n (bs n.keys k)).keys (bG n (bs n.keys k)).chains ((bG n (bs n.keys k)).kids.set (bs n.keys k) (bL f (aA (bG n (bs n.keys k)) (bs n.keys k)) k)))
   else if bsIs (cE n (bs n.keys k)).1.keys k then bL f (cE n (bs n.keys k)).1 k
   else .mk (cE n (bs n.keys k)).1.keys (cE n (bs n.keys k)).1.chains ((cE n (bs n.keys k)).1.kids.set (cE n (bs n.keys k)).2 (bL f (aA (cE n (bs n.keys k)).1 (cE n (bs n.keys k)).2) k))
theorem aW {n:Node} {i:Nat} (h:i < n.kids.length):n.kids[i]? = some (aA n i):=getD_of h
theorem yP (d:Nat) (n:Node) (i from_:Nat) (h1:n.chains.length=n.keys.length) (h2:n.kids.length=n.keys.length+1) (hs:∀ c ∈ n.kids,shN (d+1) c) (hb:0 < (aA n from_).keys.length)
 (hd:from_+1=i/\i < n.kids.length\/i+1=from_/\from_ < n.kids.length):aB (d+2) (bH n i from_)=aB (d+2) n:=by
 rcases hd with ⟨rfl,hi⟩ | ⟨rfl,hi⟩
 . have ka:=aW hi
   have kb:=aW (n:=n) (i:=from_) (by omega)
   unfold bH
   rw [if_pos (aBm _)]
   exact rF (d+1) n _ _ _ _ from_ _ kb ka h1 h2 (wP d (aA n (from_+1)) (aA n from_) (bA n from_) (hs _ (aAg ka)) (hs _ (aAg kb)) hb)
 . have kb:=aW hi
   have ka:=aW (n:=n) (i:=i) (by omega)
   unfold bH
   rw [if_neg (by omega)]
   exact rF (d+1) n _ _ _ _ i _ ka kb h1 h2 (wO d (aA n i) (aA n (i+1)) (bA n i) (hs _ (aAg ka)) (hs _ (aAg kb)) hb)
theorem oM {d:Nat} {a b:Node} (sa:shN (d+1) a) (sb:shN (d+1) b):(d=0/\a.kids = []/\b.kids = [])\/(a.kids.length=a.keys.length+1/\b.kids.length=b.keys.length+1/\(∀ c ∈ a.kids,shN d c) /\ ∀ c ∈ b.kids,shN d c):=by
 obtain ⟨a1,a2,a3⟩:=sa
 obtain ⟨b1,b2,b3⟩:=sb
 rcases a3 with ⟨hd,a3⟩ | ⟨a3,a4⟩ <;> rcases b3 with ⟨hd',b3⟩ | ⟨b3,b4⟩
 . exact .inl ⟨hd,a3,b3⟩
 . exfalso
   obtain ⟨x,hx⟩:∃ x,b.kids[0]? = some x:=⟨_,aAf (by omega)⟩
   have:=b4 x (aAg hx)
   subst hd
   exact this
 . exfalso
   obtain ⟨x,hx⟩:∃ x,a.kids[0]? = some x:=⟨_,aAf (by omega)⟩
   have:=a4 x (aAg hx)
   subst hd'
   exact this
 . exact .inr ⟨a3,b3,a4,b4⟩
theorem sh_glue {d:Nat} {a b:Node} {p:KV} (sa:shN (d+1) a) (sb:shN (d+1) b) (h:a.keys.length+b.keys.length < 3):shN (d+1) (cS a p b):=by
 have hl:=oM sa sb
 have a1:=sa.1
 have b1:=sb.1
 refine ⟨?_,?_,?_⟩
 . show (a.chains ++ [p.2]++b.chains).length=(a.keys ++ [p.1]++b.keys).length
   simp only [aAm,aAn,aAo];omega
 . show (a.keys ++ [p.1]++b.keys).length<=3
   simp only [aAm,aAn,aAo];omega
 . rcases hl with ⟨h0,h1,h2⟩ | ⟨h1,h2,h3,h4⟩
   . exact .inl ⟨h0,by show a.kids++b.kids = [];rw [h1,h2];rfl⟩
   . refine .inr ⟨?_,fun c hc=>?_⟩
     . show (a.kids++b.kids).length=(a.keys ++ [p.1]++b.keys).length+1
       simp only [aAm,aAn,aAo];omega
     . rcases aA5.1 (show c ∈ a.kids++b.kids from hc) with hc | hc
       . exact h3 c hc
       . exact h4 c hc
theorem zO {d:Nat} {a b:Node} {p:KV} (sa:shN (d+1) a) (sb:shN (d+1) b) (h:a.keys.length < 3) (hb:0 < b.keys.length):shN (d+1) (fC a b p)/\shN (d+1) (fD b):=by
 have hl:=oM sa sb
 obtain ⟨a1,a2,_⟩:=sa
 obtain ⟨b1,b2,_⟩:=sb
 refine ⟨⟨?_,?_,?_⟩,⟨?_,?_,?_⟩⟩
 . show (a.chains ++ [p.2]).length=(a.keys ++ [p.1]).length
   simp only [aAm,aAn,aAo];omega
 . show (a.keys ++ [p.1]).length<=3
   simp only [aAm,aAn,aAo];omega
 . rcases hl with ⟨h0,h1,h2⟩ | ⟨h1,h2,h3,h4⟩
   . exact .inl ⟨h0,by show a.kids++b.kids.take 1 = [];rw [h1,h2];rfl⟩
   . refine .inr ⟨?_,fun c hc=>?_⟩
     . show (a.kids++b.kids.take 1).length=(a.keys ++ [p.1]).length+1
       simp only [aAm,aAn,aAo,aAl];omega
     . rcases aA5.1 (show c ∈ a.kids++b.kids.take 1 from hc) with hc | hc
       . exact h3 c hc
       . exact h4 c (aA6 hc)
 . show (b.chains.drop 1).length=(b.keys.drop 1).length
   rw [aAq,aAq,b1]
 . show (b.keys.drop 1).length<=3
   rw [aAq];omega
 . rcases hl with ⟨h0,h1,h2⟩ | ⟨h1,h2,h3,h4⟩
   . exact .inl ⟨h0,by show b.kids.drop 1 = [];rw [h2];rfl⟩
   . refine .inr ⟨?_,fun c hc=>h4 c (aA7 hc)⟩
     show (b.kids.drop 1).length=(b.keys.drop 1).length+1
     rw [aAq,aAq];omega
theorem zP {d:Nat} {a b:Node} {p:KV} (sa:shN (d+1) a) (sb:shN (d+1) b) (h:a.keys.length < 3) (hb:0 < b.keys.length):shN (d+1) (eE a b p)/\shN (d+1) (eF b):=by
 have hl:=oM sa sb
 obtain ⟨a1,a2,_⟩:=sa
 obtain ⟨b1,b2,_⟩:=sb
 refine ⟨⟨?_,?_,?_⟩,⟨?_,?_,?_⟩⟩
 . show (p.2::a.chains).length=(p.1::a.keys).length
   simp only [aAn];omega
 . show (p.1::a.keys).length<=3
   simp only [aAn];omega
 . rcases hl with ⟨h0,h1,h2⟩ | ⟨h1,h2,h3,h4⟩
   . exact .inl ⟨h0,by show b.kids.drop (b.kids.length - 1)++a.kids = [];rw [h1,h2];rfl⟩
   . refine .inr ⟨?_,fun c hc=>?_⟩
     . show (b.kids.drop (b.kids.length - 1)++a.kids).length=(p.1::a.keys).length+1
       simp only [aAm,aAn,aAq];omega
     . rcases aA5.1 (show c ∈ b.kids.drop (b.kids.length - 1)++a.kids from hc) with hc | hc
       . exact h4 c (aA7 hc)
       . exact h3 c hc
 . show (b.chains.take (b.keys.length - 1)).length=(b.keys.take (b.keys.length - 1)).length
   rw [aAl,aAl,b1]
 . show (b.keys.take (b.keys.length - 1)).length<=3
   rw [aAl];omega
 . rcases hl with ⟨h0,h1,h2⟩ | ⟨h1,h2,h3,h4⟩
   . exact .inl ⟨h0,by show b.kids.take (b.kids.length - 1) = [];rw [h2];rfl⟩
   . refine .inr ⟨?_,fun c hc=>h4 c (aA6 hc)⟩
     show (b.kids.take (b.kids.length - 1)).length=(b.keys.take (b.keys.length - 1)).length+1
     rw [aAl,aAl];omega
theorem qH {d:Nat} {n a b:Node} {i:Nat} {p:KV} (h:shN (d+1) n) (hi:i+1 < n.kids.length) (sa:shN d a) (sb:shN d b):shN (d+1) (bP n i p a b):=by
 obtain ⟨h1,h2,h3⟩:=h
 rcases h3 with ⟨_,h3⟩ | ⟨h3,h4⟩
 . rw [h3] at hi;simp at hi
 refine ⟨?_,?_,.inr ⟨?_,fun c hc=>?_⟩⟩
 . show (n.chains.set i p.2).length=(n.keys.set i p.1).length
   rw [aAp,aAp];exact h1
 . show (n.keys.set i p.1).length<=3
   rw [aAp];exact h2
 . show ((n.kids.set i a).set (i+1) b).length=(n.keys.set i p.1).length+1
   rw [aAp,aAp,aAp];exact h3
 . rcases List.mem_or_eq_of_mem_set (show c ∈ (n.kids.set i a).set (i+1) b from hc) with hc | hc
   . rcases List.mem_or_eq_of_mem_set hc with hc | hc
     . exact h4 c hc
     . rw [hc];exact sa
   . rw [hc];exact sb
theorem yQ {d:Nat} {n a b:Node} {i:Nat} (h:shN (d+2) n) (ha:n.kids[i]? = some a) (hb:n.kids[i+1]? = some b) (hk:a.keys.length+b.keys.length < 3):shN (d+2) (bG n i)/\(bG n i).keys.length+1=n.keys.length:=by
 obtain ⟨h1,h2,h3⟩:=h
 have hi:=(aAe.1 hb).1
 rcases h3 with ⟨h0,_⟩ | ⟨h3,h4⟩
 . cases h0
 have a1:(n.keys.take i).length=i:=by rw [aAl];omega
 have a2:(n.chains.take i).length=i:=by rw [aAl];omega
 have a3:(n.kids.take i).length=i:=by rw [aAl];omega
 have l1:(aI n.keys i).length+1=n.keys.length:=by
  unfold aI;simp only [aAm,aAq,a1];omega
 have l2:(aI n.chains i).length=(aI n.keys i).length:=by
  unfold aI;simp only [aAm,aAq,a1,a2];omega
 rw [fT ha hb]
 refine ⟨⟨l2,?_,.inr ⟨?_,fun c hc=>?_⟩⟩,l1⟩
 . show (aI n.keys i).length<=3
   omega
 . show (n.kids.take i++cS a (n.keys.getD i [],n.chains.getD i []) b::n.kids.drop (i+2)).length=(aI n.keys i).length+1
   simp only [aAm,aAn,aAq,a3];omega
 . have hc:c ∈ n.kids.take i++cS a (n.keys.getD i [],n.chains.getD i []) b::n.kids.drop (i+2):=hc
   simp only [aA5,List.mem_cons] at hc
   rcases hc with hc | hc | hc
   . exact h4 c (aA6 hc)
   . rw [hc];exact sh_glue (h4 a (aAg ha)) (h4 b (aAg hb)) hk
   . exact h4 c (aA7 hc)
theorem uM {α:Type} (u:List α) (B:List (List α)) (Q:List α):aS (u::B) Q=u++aS ([]::B) Q:=by
 have:=fS u [] B Q
 rwa [List.append_nil] at this
theorem wQ (d:Nat) (n a b:Node) (i:Nat) (ha:n.kids[i]? = some a) (hb:n.kids[i+1]? = some b) (h1:n.chains.length=n.keys.length) (h2:n.kids.length=n.keys.length+1) :
 ∃ X Y,aB (d+1) n=X++((aB d a++bA n i::aB d b)++Y) /\ ∀ p a' b',aB (d+1) (bP n i p a' b')=X++((aB d a'++p::aB d b')++Y):=by
 have hi:=(aAe.1 hb).1
 have hk:i < n.keys.length:=by omega
 have hkc:i < n.chains.length:=by omega
 refine ⟨aS ((n.kids.take i).map (aB d)) ((n.keys.take i).zip (n.chains.take i)),aS ([]::(n.kids.drop (i+2)).map (aB d)) ((n.keys.drop (i+1)).zip (n.chains.drop (i+1))),?_⟩
 have key:∀ (m:Node) (q:KV) (x y:Node),m.chains.length=m.keys.length->m.kids.length=m.keys.length+1->i < m.keys.length->m.kids=n.kids.take i++x::y::n.kids.drop (i+2)->m.keys.take i=n.keys.take i->m.chains.take i=n.chains.take i->m.keys.drop (i+1)=n.keys.drop (i+1)->m.chains.drop (i+1)=n.chains.drop (i+1)->m.keys.getD i []=q.1->m.chains.getD i []=q.2 ->
  aB (d+1) m=aS ((n.kids.take i).map (aB d)) ((n.keys.take i).zip (n.chains.take i))++((aB d x++q::aB d y)++aS ([]::(n.kids.drop (i+2)).map (aB d)) ((n.keys.drop (i+1)).zip (n.chains.drop (i+1)))):=fun m q x y e1 e2 e3 e4 e5 e6 e7 e8 e9 e10=>by
  rw [<- uM,aM d m e1 (.inl e2),jH m i e1 e3,e4,e5,e6,e7,e8,e9,e10,List.map_append,List.map_cons,List.map_cons,cP _ _ _ _ (by rw [aAh,List.length_zip,aAl,aAl,aAl];omega),eO,fS,iQ]
 refine ⟨?_,fun p a' b'=>?_⟩
 . exact key n (bA n i) a b h1 h2 hk (by
    have:=jG (a':=a) (b':=b) ha hb
    rw [<- this]
    rw [show n.kids.set i a=n.kids by rw [<- (aAe.1 ha).2];exact List.set_getElem_self _,<- (aAe.1 hb).2]
    exact (List.set_getElem_self _).symm) rfl rfl rfl rfl rfl rfl
 . exact key (bP n i p a' b') p a' b' (by show (n.chains.set i p.2).length=(n.keys.set i p.1).length;rw [aAp,aAp];exact h1)
    (by show ((n.kids.set i a').set (i+1) b').length=(n.keys.set i p.1).length+1;rw [aAp,aAp,aAp];exact h2)
    (by show i < (n.keys.set i p.1).length;rw [aAp];exact hk) (jG ha hb)
    (by show (n.keys.set i p.1).take i=_;rw [List.take_set_of_le (aBo i)]) (by show (n.chains.set i p.2).take i=_;rw [List.take_set_of_le (aBo i)])
    (by show (n.keys.set i p.1).drop (i+1)=_;rw [List.drop_set_of_lt (aBm i)]) (by show (n.chains.set i p.2).drop (i+1)=_;rw [List.drop_set_of_lt (aBm i)])
    (by show (n.keys.set i p.1).getD i []=_;rw [aA2,aAr hk];rfl) (by show (n.chains.set i p.2).getD i []=_;rw [aA2,aAr hkc];rfl)
theorem tO (d:Nat) (n:Node) (i:Nat) (hi:i < n.keys.length) (h1:n.chains.length=n.keys.length) (h2:n.kids = []) :
 ∃ X Y,aB (d+1) n=X++bA n i::Y/\aB (d+1) (.mk (aI n.keys i) (aI n.chains i) n.kids)=X++Y:=by
 refine ⟨(n.keys.take i).zip (n.chains.take i),(n.keys.drop (i+1)).zip (n.chains.drop (i+1)),?_,?_⟩
 . rw [aM d n h1 (.inr h2),h2,List.map_nil,dV,jH n i h1 hi];rfl
 . have q1:(aI n.chains i).length=(aI n.keys i).length:=by
    unfold aI
    simp only [aAm,aAq,aAl];omega
   rw [aM d (.mk (aI n.keys i) (aI n.chains i) n.kids) q1 (.inr h2)]
   show aS (n.kids.map (aB d)) ((aI n.keys i).zip (aI n.chains i))=_
   rw [h2,List.map_nil,dV]
   unfold aI
   rw [List.zip_append (by rw [aAl,aAl];omega)]
theorem mn_glue {d:Nat} {a b:Node} {p:KV} (ha:mnN d a) (hb:mnN d b):mnN d (cS a p b):=by
 cases d with
 | zero=>exact True.intro
 | succ d=>
   intro c hc
   rcases aA5.1 (show c ∈ a.kids++b.kids from hc) with hc | hc
   . exact ha c hc
   . exact hb c hc
theorem zQ {d:Nat} {a b:Node} {p:KV} (ha:mnN d a) (hb:mnN d b):mnN d (fC a b p)/\mnN d (fD b):=by
 cases d with
 | zero=>exact ⟨True.intro,True.intro⟩
 | succ d=>
   refine ⟨fun c hc=>?_,fun c hc=>hb c (aA7 (show c ∈ b.kids.drop 1 from hc))⟩
   rcases aA5.1 (show c ∈ a.kids++b.kids.take 1 from hc) with hc | hc
   . exact ha c hc
   . exact hb c (aA6 hc)
theorem zS {d:Nat} {a b:Node} {p:KV} (ha:mnN d a) (hb:mnN d b):mnN d (eE a b p)/\mnN d (eF b):=by
 cases d with
 | zero=>exact ⟨True.intro,True.intro⟩
 | succ d=>
   refine ⟨fun c hc=>?_,fun c hc=>hb c (aA6 (show c ∈ b.kids.take (b.kids.length - 1) from hc))⟩
   rcases aA5.1 (show c ∈ b.kids.drop (b.kids.length - 1)++a.kids from hc) with hc | hc
   . exact hb c (aA7 hc)
   . exact ha c hc
theorem qI {d:Nat} {n a b:Node} {i:Nat} {p:KV} (h:mnN (d+1) n) (ha:1<=a.keys.length/\mnN d a) (hb:1<=b.keys.length/\mnN d b):mnN (d+1) (bP n i p a b):=by
 intro c hc
 rcases List.mem_or_eq_of_mem_set (show c ∈ (n.kids.set i a).set (i+1) b from hc) with hc | hc
 . rcases List.mem_or_eq_of_mem_set hc with hc | hc
   . exact h c hc
   . rw [hc];exact ha
 . rw [hc];exact hb
theorem yR {d:Nat} {n a b:Node} {i:Nat} (h:mnN (d+1) n) (ha:n.kids[i]? = some a) (hb:n.kids[i+1]? = some b):mnN (d+1) (bG n i):=by
 rw [fT ha hb]
 intro c hc
 have hc:c ∈ n.kids.take i++cS a (n.keys.getD i [],n.chains.getD i []) b::n.kids.drop (i+2):=hc
 simp only [aA5,List.mem_cons] at hc
 rcases hc with hc | hc | hc
 . exact h c (aA6 hc)
 . rw [hc]
   refine ⟨?_,mn_glue (h a (aAg ha)).2 (h b (aAg hb)).2⟩
   show 1<=(a.keys ++ [n.keys.getD i []]++b.keys).length
   simp only [aAm,aAn,aAo];omega
 . exact h c (aA7 hc)
structure RmOk (d:Nat) (n:Node):Prop where
 sh:shN d n
 mn:mnN d n
 so:bF (aB d n)
theorem RmOk.kid {d:Nat} {n c:Node} {i:Nat} (h:RmOk (d+1) n) (hc:n.kids[i]? = some c) (hi:i<=n.keys.length):RmOk d c/\1<=c.keys.length:=by
 obtain ⟨h1,h2,h3⟩:=h.sh
 have hm:=aAg hc
 rcases h3 with ⟨_,h3⟩ | ⟨h3,h4⟩
 . rw [h3] at hc;simp at hc
 have:=eM h.so hi
 rw [dQ hc] at this
 exact ⟨⟨h4 c hm,(h.mn c hm).2,this⟩,(h.mn c hm).1⟩
theorem RmOk.lend {d:Nat} {n:Node} {i j:Nat} (h:RmOk (d+2) n) (h2:n.kids.length=n.keys.length+1) (hd:j+1=i/\i < n.kids.length\/i+1=j/\j < n.kids.length) (hi:(aA n i).keys.length < 3) (hj:1 < (aA n j).keys.length) :
 RmOk (d+2) (bH n i j)/\aB (d+2) (bH n i j)=aB (d+2) n/\(bH n i j).keys.length=n.keys.length:=by
 obtain ⟨h1,h3,h4⟩:=h.sh
 have hs:∀ c ∈ n.kids,shN (d+1) c:=by
  rcases h4 with ⟨h0,_⟩ | ⟨_,h4⟩
  . cases h0
  . exact h4
 have hA:=yP d n i j h1 h2 hs (by omega) hd
 have hso:bF (aB (d+2) (bH n i j)):=by rw [hA];exact h.so
 rcases hd with ⟨rfl,hd⟩ | ⟨rfl,hd⟩
 . have ka:=aW hd
   have kb:=aW (n:=n) (i:=j) (by omega)
   have ma:=aAg ka
   have mb:=aAg kb
   obtain ⟨s1,s2⟩:=zP (p:=bA n j) (hs _ ma) (hs _ mb) hi (by omega)
   obtain ⟨m1,m2⟩:=zS (p:=bA n j) (h.mn _ ma).2 (h.mn _ mb).2
   have e:bH n (j+1) j=bP n j (bA (aA n j) ((aA n j).keys.length - 1)) (eF (aA n j)) (eE (aA n (j+1)) (aA n j) (bA n j)):=by
    unfold bH;rw [if_pos (aBm _)]
   rw [e] at hso hA ⊢
   refine ⟨⟨qH h.sh hd s2 s1,qI h.mn ⟨?_,m2⟩ ⟨?_,m1⟩,hso⟩,hA,aAp⟩
   . show 1<=((aA n j).keys.take ((aA n j).keys.length - 1)).length
     rw [aAl];omega
   . show 1<=(_::(aA n (j+1)).keys).length
     simp
 . have kb:=aW hd
   have ka:=aW (n:=n) (i:=i) (by omega)
   have ma:=aAg ka
   have mb:=aAg kb
   obtain ⟨s1,s2⟩:=zO (p:=bA n i) (hs _ ma) (hs _ mb) hi (by omega)
   obtain ⟨m1,m2⟩:=zQ (p:=bA n i) (h.mn _ ma).2 (h.mn _ mb).2
   have e:bH n i (i+1)=bP n i (bA (aA n (i+1)) 0) (fC (aA n i) (aA n (i+1)) (bA n i)) (fD (aA n (i+1))):=by
    unfold bH;rw [if_neg (by omega)]
   rw [e] at hso hA ⊢
   refine ⟨⟨qH h.sh hd s1 s2,qI h.mn ⟨?_,m1⟩ ⟨?_,m2⟩,hso⟩,hA,aAp⟩
   . show 1<=((aA n i).keys ++ [_]).length
     simp
   . show 1<=((aA n (i+1)).keys.drop 1).length
     rw [aAq];omega
theorem RmOk.join {d:Nat} {n:Node} {i:Nat} (h:RmOk (d+2) n) (h2:n.kids.length=n.keys.length+1) (hi:i+1 < n.kids.length) (hk:(aA n i).keys.length+(aA n (i+1)).keys.length < 3) :
 RmOk (d+2) (bG n i)/\aB (d+2) (bG n i)=aB (d+2) n/\(bG n i).keys.length+1=n.keys.length:=by
 have ka:=aW (n:=n) (i:=i) (by omega)
 have kb:=aW hi
 have h1:=h.sh.1
 have hs:∀ c ∈ n.kids,shN (d+1) c:=by
  rcases h.sh.2.2 with ⟨h0,_⟩ | ⟨_,h4⟩
  . cases h0
  . exact h4
 have hA:=uK d n _ _ i ka kb h1 h2 (hs _ (aAg ka)) (hs _ (aAg kb))
 obtain ⟨s1,s2⟩:=yQ h.sh ka kb hk
 exact ⟨⟨s1,yR h.mn ka kb,by rw [hA];exact h.so⟩,hA,s2⟩
structure RmRes (d:Nat) (n:Node) (k:List UInt8) (R:Node):Prop where
 sh:shN d R
 mn:mnN d R
 li:aB d R=cD k (aB d n)
 le:n.keys.length<=R.keys.length+1
theorem RmRes.of {d:Nat} {n m:Node} {k:List UInt8} {R:Node} (h:RmRes d m k R) (e:aB d m=aB d n) (hl:n.keys.length<=m.keys.length):RmRes d n k R:=⟨h.sh,h.mn,by rw [h.li,e],aBp hl h.le⟩
theorem vL {d:Nat} {n c R:Node} {k:List UInt8} (h:RmOk (d+1) n) (hno:bsIs n.keys k=false) (hc:n.kids[bs n.keys k]? = some c) (hl:2<=c.keys.length) (r:RmRes d c k R) :
 RmRes (d+1) n k (.mk n.keys n.chains (n.kids.set (bs n.keys k) R)):=by
 obtain ⟨h1,h2,h3⟩:=h.sh
 rcases h3 with ⟨_,h3⟩ | ⟨h3,h4⟩
 . rw [h3] at hc;simp at hc
 obtain ⟨ab1,_,ab3⟩:=about h1 h.so k
 have b:=ab3 hno
 have e:=dD d n (bs n.keys k) (cO _ _)
 have hR:1<=R.keys.length:=by have:=r.le;omega
 refine ⟨⟨h1,h2,.inr ⟨?_,fun x hx=>?_⟩⟩,fun x hx=>?_,?_,aBu _⟩
 . show (n.kids.set (bs n.keys k) R).length=n.keys.length+1
   rw [aAp];exact h3
 . rcases List.mem_or_eq_of_mem_set (show x ∈ n.kids.set (bs n.keys k) R from hx) with hx | hx
   . exact h4 x hx
   . rw [hx];exact r.sh
 . rcases List.mem_or_eq_of_mem_set (show x ∈ n.kids.set (bs n.keys k) R from hx) with hx | hx
   . exact h.mn x hx
   . rw [hx];exact ⟨hR,r.mn⟩
 . rw [tI d n (bs n.keys k) c R hc h1 h3,r.li,e,dQ hc,rG ab1 b]
theorem zT {d:Nat} {n:Node} {k:List UInt8} (h:RmOk (d+1) n) (hno:bsIs n.keys k=false) (hk:n.kids = []):cD k (aB (d+1) n)=aB (d+1) n:=by
 obtain ⟨ab1,_,ab3⟩:=about h.sh.1 h.so k
 have b:=ab3 hno
 have hk0:cA d n (bs n.keys k) = []:=by unfold cA cY;rw [hk];rfl
 rw [dD d n (bs n.keys k) (cO _ _),hk0]
 exact rG (C:=[]) ab1 b
theorem rm_leaf {d:Nat} {n:Node} {k:List UInt8} (h:RmOk (d+1) n) (hk:n.kids = []) (f:Nat):RmRes (d+1) n k (bL (f+1) n k):=by
 have hlf:leafN n=true:=by unfold leafN;rw [hk];rfl
 obtain ⟨h1,h2,h3⟩:=h.sh
 have hd:d=0:=by
  rcases h3 with ⟨h0,_⟩ | ⟨h3,_⟩
  . exact h0
  . rw [hk] at h3;simp at h3
 unfold bL
 rw [if_pos hlf]
 by_cases q:bsIs n.keys k=true
 . rw [if_pos q]
   have hlt:=eV q
   obtain ⟨X,Y,e1,e2⟩:=tO d n (bs n.keys k) hlt h1 hk
   have kk:n.keys.getD (bs n.keys k) []=k:=by
    rw [aA2,eG.1 q];rfl
   have l1:(aI n.keys (bs n.keys k)).length+1=n.keys.length:=by
    unfold aI;simp only [aAm,aAq,aAl];omega
   have l2:(aI n.chains (bs n.keys k)).length=(aI n.keys (bs n.keys k)).length:=by
    unfold aI;simp only [aAm,aAq,aAl];omega
   refine ⟨⟨l2,by show (aI n.keys (bs n.keys k)).length<=3;omega,.inl ⟨hd,hk⟩⟩,fun c hc=>?_,?_,Nat.le_of_eq l1.symm⟩
   . rw [show (Node.mk (aI n.keys (bs n.keys k)) (aI n.chains (bs n.keys k)) n.kids).kids = [] from hk] at hc;cases hc
   . rw [e2,e1]
     have hs:=h.so
     rw [e1] at hs
     unfold bA at hs ⊢
     rw [kk] at hs ⊢
     obtain ⟨s1,s2,s3⟩:=aA4.1 hs
     obtain ⟨s4,_⟩:=aA3.1 s2
     exact (oL (fun p hp=>s3 p hp _ (aAu ..)) (fun p hp=>by
      have:=s4 p hp
      have f:=dB k p.1
      show 0 < cm p.1 k
      have:cm k p.1 < 0:=this
      omega)).symm
 . rw [if_neg q]
   have q:bsIs n.keys k=false:=by simpa using q
   exact ⟨h.sh,h.mn,(zT h q hk).symm,aBu _⟩
theorem iI {ks:List (List UInt8)} {k:List UInt8} {i:Nat} (hs:fO ks) (hi:i<=ks.length) (h1:∀ t a,t < i->ks[t]? = some a->cm a k < 0) (h2:∀ t a,i<=t->ks[t]? = some a->0 < cm a k):bs ks k=i/\bsIs ks k=false:=by
 obtain ⟨p1,p2⟩:=fQ hs k
 have hle:=cO ks k
 have hb:bs ks k=i:=by
  rcases aBl (bs ks k) i with h | h
  . exfalso
    obtain ⟨a,ha⟩:∃ a,ks[bs ks k]? = some a:=⟨_,aAf (by omega)⟩
    have:=h1 _ a h ha
    have:=p2 _ a (aBo _) ha
    omega
  . rcases aBl i (bs ks k) with h' | h'
    . exfalso
      obtain ⟨a,ha⟩:∃ a,ks[i]? = some a:=⟨_,aAf (by omega)⟩
      have:=p1 i a h' ha
      have:=h2 i a (aBo _) ha
      omega
    . omega
 refine ⟨hb,?_⟩
 cases hq:bsIs ks k with
 | false=>rfl
 | true=>
   exfalso
   have:=eG.1 hq
   rw [hb] at this
   have:=h2 i k (aBo _) this
   rw [cG] at this
   omega
theorem zU {ks:List (List UInt8)} {k:List UInt8} (hs:fO ks) (hno:bsIs ks k=false):∀ t a,bs ks k<=t->ks[t]? = some a->0 < cm a k:=fun t a ht ha=>by
 have h0:=(fQ hs k).2 t a ht ha
 rcases aBl (bs ks k) t with h | h
 . obtain ⟨b,hb⟩:∃ b,ks[bs ks k]? = some b:=⟨_,aAf (by have:=(aAe.1 ha).1;omega)⟩
   have h1:=(fQ hs k).2 _ b (aBo _) hb
   have h2:=fP hs h hb ha
   by_cases hz:cm a k=0
   . have:=(fM _ _).1 hz
     subst this
     omega
   . omega
 . have:t=bs ks k:=by omega
   subst this
   by_cases hz:cm a k=0
   . have:=(fM _ _).1 hz
     subst this
     have:=eG.2 ha
     rw [hno] at this;cases this
   . omega
theorem mT {d:Nat} {n:Node} {j:Nat} {a:List UInt8} (h1:n.chains.length=n.keys.length) (h:n.keys[j]? = some a):∃ c,(a,c) ∈ aB (d+1) n:=by
 obtain ⟨c,_,hp⟩:=eL h1 h
 refine ⟨c,?_⟩
 rw [dD d n j (Nat.le_of_lt (aAe.1 h).1),hp]
 simp
theorem kid_pre {d:Nat} {n b:Node} {i j:Nat} (hb:n.kids[j]? = some b) (hj:j < i) {p:KV} (hp:p ∈ aB d b):p ∈ gG d n i:=
 vG hj (by unfold cB;rw [dQ hb];exact List.mem_append_left _ hp)
theorem kid_suf {d:Nat} {n b:Node} {i j:Nat} (hb:n.kids[j]? = some b) (hj:i < j) (hl:j<=n.keys.length) {p:KV} (hp:p ∈ aB d b):p ∈ fU d n i:=by
 unfold fU
 rw [aA8]
 exact ⟨j,List.mem_range'_1.2 ⟨by omega,by omega⟩,by unfold cB;rw [dQ hb];exact List.mem_append_left _ hp⟩
theorem pM {n a' b':Node} {i:Nat} {p:KV} (hi:i+1 < n.kids.length):aA (bP n i p a' b') i=a'/\aA (bP n i p a' b') (i+1)=b':=by
 unfold aA bP
 constructor
 . show ((n.kids.set i a').set (i+1) b').getD i _=a'
   rw [aA2,aAs (by omega),aAr (by omega)];rfl
 . show ((n.kids.set i a').set (i+1) b').getD (i+1) _=b'
   rw [aA2,aAr (by rw [aAp];omega)];rfl
theorem rH {α:Type} (l:List α) (i t:Nat) (hi:i < l.length):(aI l i)[t]? = if t < i then l[t]? else l[t+1]?:=by
 unfold aI
 have hT:(l.take i).length=i:=by rw [aAl];omega
 by_cases h:t < i
 . rw [if_pos h,aAk (by omega),aA0,if_pos h]
 . rw [if_neg h,aAj (by omega),hT,aA1]
   congr 1;omega
structure FillOk (d:Nat) (n:Node) (k:List UInt8) (m:Node) (i:Nat):Prop where
 ok:RmOk (d+2) m
 li:aB (d+2) m=aB (d+2) n
 le:n.keys.length<=m.keys.length+1
 at_:bs m.keys k=i
 no:bsIs m.keys k=false
 two:2<=(aA m i).keys.length
 lt:i < m.kids.length
theorem vM {d:Nat} {n:Node} {k:List UInt8} (h:RmOk (d+2) n) (hno:bsIs n.keys k=false) (h2:n.kids.length=n.keys.length+1) (h0:0 < n.keys.length):FillOk d n k (cE n (bs n.keys k)).1 (cE n (bs n.keys k)).2:=by
 have hle:=cO n.keys k
 have h1:=h.sh.1
 have hsk:=bW h1 h.so
 have below:=(fQ hsk k).1
 have above:=zU hsk hno
 obtain ⟨ab1,_,ab3⟩:=about h1 h.so k
 have ab3:=ab3 hno
 have one:∀ j,j < n.kids.length->1<=(aA n j).keys.length:=fun j hj=>(h.mn _ (aAg (aW hj))).1
 have hks:∀ j,j < n.kids.length->(aA n j).chains.length=(aA n j).keys.length:=fun j hj=>by
  have hm:=aAg (aW hj)
  rcases h.sh.2.2 with ⟨hz,_⟩ | ⟨_,h4⟩
  . cases hz
  . exact (h4 _ hm).1
 have hmk:∀ m:Node,shN (d+2) m->m.kids.length=m.keys.length+1:=fun m hm=>by
  rcases hm.2.2 with ⟨hz,_⟩ | ⟨hm,_⟩
  . cases hz
  . exact hm
 generalize hi:bs n.keys k=i at hle below above ab1 ab3 ⊢
 unfold cE
 by_cases c1:1 < (aA n i).keys.length
 . rw [if_pos c1]
   exact ⟨h,rfl,aBu _,hi,hno,c1,by show i < n.kids.length;omega⟩
 rw [if_neg c1]
 by_cases c2:0 < i/\1 < (aA n (i - 1)).keys.length
 . rw [if_pos c2]
   obtain ⟨c2,c3⟩:=c2
   obtain ⟨j,rfl⟩:∃ j,i=j+1:=⟨i - 1,by omega⟩
   rw [aB3] at c3 ⊢
   obtain ⟨r1,r2,r3⟩:=h.lend h2 (i:=j+1) (j:=j) (.inl ⟨rfl,by omega⟩) (by omega) c3
   have e:bH n (j+1) j=bP n j (bA (aA n j) ((aA n j).keys.length - 1)) (eF (aA n j)) (eE (aA n (j+1)) (aA n j) (bA n j)):=by
    unfold bH;rw [if_pos (aBm _)]
   have hr1:=r1
   have kb:=aW (n:=n) (i:=j) (by omega)
   obtain ⟨v,hv⟩:=mT (d:=d) (n:=aA n j) (hks j (by omega)) (getD_of (l:=(aA n j).keys) (i:=(aA n j).keys.length - 1) (d:=[]) (by omega))
   have hlow:=ab1 _ (kid_pre (d:=d+1) kb (aBm j) hv)
   have hkeys:(bH n (j+1) j).keys=n.keys.set j ((aA n j).keys.getD ((aA n j).keys.length - 1) []):=by rw [e];rfl
   obtain ⟨p1,p2⟩:=iI (k:=k) (i:=j+1) (bW r1.sh.1 r1.so) (by rw [r3];exact hle) (fun t a ht ha=>by
    rw [hkeys] at ha
    by_cases hj:t=j
    . subst hj
      rw [aAr (by omega)] at ha
      cases ha
      exact hlow
    . rw [aAs (fun e=>hj e.symm)] at ha
      exact below t a ht ha) (fun t a ht ha=>by
    rw [hkeys,aAs (by omega)] at ha
    exact above t a ht ha)
   refine ⟨r1,r2,aBp (Nat.le_of_eq r3.symm) (aBu _),p1,p2,?_,by show j+1 < (bH n (j+1) j).kids.length;rw [hmk _ r1.sh,r3];omega⟩
   show 2<=(aA (bH n (j+1) j) (j+1)).keys.length
   rw [e,(pM (by omega)).2]
   show 2<=(_::(aA n (j+1)).keys).length
   have:=one (j+1) (by omega)
   simp only [aAn];omega
 rw [if_neg c2]
 by_cases c4:i+1 < n.kids.length/\1 < (aA n (i+1)).keys.length
 . rw [if_pos c4]
   obtain ⟨c4,c5⟩:=c4
   obtain ⟨r1,r2,r3⟩:=h.lend h2 (i:=i) (j:=i+1) (.inr ⟨rfl,c4⟩) (by omega) c5
   have e:bH n i (i+1)=bP n i (bA (aA n (i+1)) 0) (fC (aA n i) (aA n (i+1)) (bA n i)) (fD (aA n (i+1))):=by
    unfold bH;rw [if_neg (by omega)]
   have kb:=aW (n:=n) (i:=i+1) c4
   obtain ⟨v,hv⟩:=mT (d:=d) (n:=aA n (i+1)) (hks (i+1) c4) (getD_of (l:=(aA n (i+1)).keys) (i:=0) (d:=[]) (by omega))
   have hhigh:=ab3 _ (List.mem_append_right _ (kid_suf (d:=d+1) kb (aBm i) (by omega) hv))
   have hkeys:(bH n i (i+1)).keys=n.keys.set i ((aA n (i+1)).keys.getD 0 []):=by rw [e];rfl
   obtain ⟨p1,p2⟩:=iI (k:=k) (i:=i) (bW r1.sh.1 r1.so) (by rw [r3];exact hle) (fun t a ht ha=>by
    rw [hkeys,aAs (by omega)] at ha
    exact below t a ht ha) (fun t a ht ha=>by
    rw [hkeys] at ha
    by_cases hj:t=i
    . subst hj
      rw [aAr (by omega)] at ha
      cases ha
      exact hhigh
    . rw [aAs (fun e=>hj e.symm)] at ha
      exact above t a ht ha)
   refine ⟨r1,r2,aBp (Nat.le_of_eq r3.symm) (aBu _),p1,p2,?_,by show i < (bH n i (i+1)).kids.length;rw [hmk _ r1.sh,r3];omega⟩
   show 2<=(aA (bH n i (i+1)) i).keys.length
   rw [e,(pM c4).1]
   show 2<=((aA n i).keys ++ [_]).length
   have:=one i (by omega)
   simp only [aAm,aAn,aAo];omega
 rw [if_neg c4]
 have jn:∀ j,j+1 < n.kids.length->(i=j+1\/i=j)->(aA n j).keys.length+(aA n (j+1)).keys.length < 3->FillOk d n k (bG n j) j:=fun j hj hij hk=>by
  obtain ⟨r1,r2,r3⟩:=h.join h2 hj hk
  have ka:=aW (n:=n) (i:=j) (by omega)
  have kb:=aW hj
  have e:=fT ka kb
  have hkeys:(bG n j).keys=aI n.keys j:=by rw [e];rfl
  have get:=fun t=>rH n.keys j t (by omega)
  obtain ⟨p1,p2⟩:=iI (k:=k) (i:=j) (bW r1.sh.1 r1.so) (by omega) (fun t a ht ha=>by
   rw [hkeys,get t,if_pos ht] at ha
   exact below t a (by omega) ha) (fun t a ht ha=>by
   rw [hkeys,get t,if_neg (by omega)] at ha
   exact above (t+1) a (by omega) ha)
  refine ⟨r1,r2,Nat.le_of_eq r3.symm,p1,p2,?_,by rw [hmk _ r1.sh];omega⟩
  have hT:(n.kids.take j).length=j:=by rw [aAl];omega
  have e2:aA (bG n j) j=cS (aA n j) (n.keys.getD j [],n.chains.getD j []) (aA n (j+1)):=by
   rw [e]
   unfold aA
   show (n.kids.take j++_::n.kids.drop (j+2)).getD j _=_
   rw [aA2,aAj (by omega),hT,aB2];rfl
  rw [e2]
  show 2<=((aA n j).keys ++ [_]++(aA n (j+1)).keys).length
  have:=one j (by omega)
  simp only [aAm,aAn,aAo];omega
 by_cases c6:0 < i
 . rw [if_pos c6]
   obtain ⟨j,rfl⟩:∃ j,i=j+1:=⟨i - 1,by omega⟩
   rw [aB3] at c2 ⊢
   exact jn j (by omega) (.inl rfl) (by omega)
 . rw [if_neg c6]
   obtain rfl:i=0:=by omega
   exact jn 0 (by omega) (.inr rfl) (by omega)
theorem kI:∀ (d:Nat) (n:Node),shN d n -> ∀ f,d<=f->cT f n=cT d n
 | 0,_,h,_,_=>h.elim
 | d+1,n,h,f,hf=>by
   obtain ⟨f,rfl⟩:∃ f',f=f'+1:=⟨f - 1,by omega⟩
   unfold cT
   cases hc:n.kids[0]? with
   | none=>rfl
   | some c=>
     rcases h.2.2 with ⟨_,h3⟩ | ⟨_,h4⟩
     . rw [h3] at hc;simp at hc
     . exact kI d c (h4 c (aAg hc)) f (by omega)
theorem rm_no {d f:Nat} {n:Node} {k:List UInt8} (ih:∀ c:Node,RmOk (d+1) c->0 < c.keys.length->RmRes (d+1) c k (bL f c k)) (h:RmOk (d+2) n) (hno:bsIs n.keys k=false) (h2:n.kids.length=n.keys.length+1) (h0:0 < n.keys.length) :
 RmRes (d+2) n k (bL (f+1) n k):=by
 have hf:=vM h hno h2 h0
 have hlf:leafN n=false:=by
  cases hq:leafN n with
  | false=>rfl
  | true=>have:=iH hq;rw [this] at h2;simp at h2
 unfold bL
 rw [if_neg (by rw [hlf];decide),if_neg (by rw [hno];decide),if_neg (by rw [hf.no];decide)]
 generalize (cE n (bs n.keys k)).1=m at hf ⊢
 generalize (cE n (bs n.keys k)).2=i at hf ⊢
 have hat:=hf.at_
 subst hat
 have hc:=aW hf.lt
 obtain ⟨hk,_⟩:=hf.ok.kid hc (cO _ _)
 have r:=vL hf.ok hf.no hc hf.two (ih _ hk (by have:=hf.two;omega))
 exact ⟨r.sh,r.mn,by rw [r.li,hf.li],hf.le⟩
theorem uN {p:KV} {Z:List KV} (h:bF (p::Z)):cD p.1 (p::Z)=Z:=by
 obtain ⟨s4,_⟩:=aA3.1 h
 exact oL (X:=[]) (c:=p.2) (fun q hq=>by cases hq) (fun q hq=>by
  have:=s4 q hq
  have f:=dB p.1 q.1
  have:cm p.1 q.1 < 0:=this
  show 0 < cm q.1 p.1
  omega)
theorem rm (d:Nat):∀ (f:Nat) (n:Node) (k:List UInt8),RmOk d n->2*d<=f->(n.kids = []\/0 < n.keys.length)->RmRes d n k (bL f n k):=by
 induction d with
 | zero=>exact fun f n k h=>h.sh.elim
 | succ d ih=>
 intro f n k h hf hn
 obtain ⟨f,rfl⟩:∃ f',f=f'+1:=⟨f - 1,by omega⟩
 obtain ⟨h1,h3,h4⟩:=h.sh
 rcases h4 with ⟨_,h4⟩ | ⟨h4,h5⟩
 . exact rm_leaf h h4 f
 have h0:0 < n.keys.length:=by
  rcases hn with hn | hn
  . rw [hn] at h4;simp at h4
  . exact hn
 obtain ⟨c0,hc0⟩:∃ c,n.kids[0]? = some c:=⟨_,aAf (by omega)⟩
 obtain ⟨d,rfl⟩:=iA (h5 c0 (aAg hc0))
 have hno':∀ (f:Nat) (m:Node),2*(d+1)<=f->RmOk (d+2) m->bsIs m.keys k=false->m.kids.length=m.keys.length+1->0 < m.keys.length->RmRes (d+2) m k (bL (f+1) m k):=fun f m hf hm hno hm2 hm0=>
  rm_no (fun c hc hcl=>ih f c k hc hf (.inr hcl)) hm hno hm2 hm0
 by_cases q:bsIs n.keys k=false
 . exact hno' f n (by omega) h q h4 h0
 have q:bsIs n.keys k=true:=by simpa using q
 have hlt:=eV q
 have hkey:=eG.1 q
 have hsk:=bW h1 h.so
 have below:=(fQ hsk k).1
 obtain ⟨ab1,ab2,_⟩:=about h1 h.so k
 obtain ⟨ab2,_⟩:=ab2 q
 have hlf:leafN n=false:=by
  cases hq:leafN n with
  | false=>rfl
  | true=>have:=iH hq;rw [this] at h4;simp at h4
 have hmk:∀ m:Node,shN (d+2) m->m.kids.length=m.keys.length+1:=fun m hm=>by
  rcases hm.2.2 with ⟨hz,_⟩ | ⟨hm,_⟩
  . cases hz
  . exact hm
 unfold bL
 rw [if_neg (by rw [hlf];decide),if_pos q]
 generalize hi:bs n.keys k=i at *
 have ka:=aW (n:=n) (i:=i) (by omega)
 have kb:=aW (n:=n) (i:=i+1) (by omega)
 obtain ⟨oa,la⟩:=h.kid ka (by omega)
 obtain ⟨ob,lb⟩:=h.kid kb (by omega)
 have hkk:n.keys.getD i []=k:=by rw [aA2,hkey];rfl
 by_cases c1:1 < (aA n (i+1)).keys.length
 . rw [if_pos c1,kI _ _ ob.sh f (by omega)]
   obtain ⟨Z,hZ⟩:=rE _ _ ob.sh ob.mn lb
   generalize cT (d+1) (aA n (i+1))=s at hZ ⊢
   have r:=ih f (aA n (i+1)) s.1 ob (by omega) (.inr (by omega))
   generalize bL f (aA n (i+1)) s.1=R at r ⊢
   obtain ⟨X,Y,e1,e2⟩:=wQ (d+1) n _ _ i ka kb h1 h4
   have eR:(Node.mk (n.keys.set i s.1) (n.chains.set i s.2) (n.kids.set (i+1) R))=bP n i s (aA n i) R:=by
    unfold bP
    rw [show n.kids.set i (aA n i)=n.kids by
     have:=(aAe.1 ka).2
     rw [<- this];exact List.set_getElem_self _]
   rw [eR]
   have hso:=ob.so
   rw [hZ] at hso
   have hR:=r.li
   rw [hZ,uN hso] at hR
   refine ⟨qH h.sh (by omega) oa.sh r.sh,qI h.mn ⟨la,oa.mn⟩ ⟨by have:=r.le;omega,r.mn⟩,?_,by show n.keys.length<=(n.keys.set i s.1).length+1;rw [aAp];exact aBu _⟩
   have hs:=h.so
   rw [e1] at hs
   rw [e2,e1,hR,hZ]
   have e3:X++((aB (d+1) (aA n i)++bA n i::(s::Z))++Y)=(X++aB (d+1) (aA n i))++(k,(bA n i).2)::(s::Z++Y):=by
    have:bA n i=(k,(bA n i).2):=by unfold bA;rw [hkk]
    rw [<- this];simp
   rw [hZ,e3] at hs
   rw [e3]
   obtain ⟨s1,s2,s3⟩:=aA4.1 hs
   obtain ⟨s4,_⟩:=aA3.1 s2
   rw [oL (fun p hp=>s3 p hp _ (aAu ..)) (fun p hp=>by
    have:=s4 p hp
    have f:=dB k p.1
    show 0 < cm p.1 k
    have:cm k p.1 < 0:=this
    omega)]
   simp
 rw [if_neg c1]
 by_cases c2:1 < (aA n i).keys.length
 . rw [if_pos c2]
   obtain ⟨r1,r2,r3⟩:=h.lend h4 (i:=i+1) (j:=i) (.inl ⟨rfl,by omega⟩) (by omega) c2
   have e:bH n (i+1) i=bP n i (bA (aA n i) ((aA n i).keys.length - 1)) (eF (aA n i)) (eE (aA n (i+1)) (aA n i) (bA n i)):=by
    unfold bH;rw [if_pos (aBm _)]
   obtain ⟨v,hv⟩:=mT (d:=d) (n:=aA n i) oa.sh.1 (getD_of (l:=(aA n i).keys) (i:=(aA n i).keys.length - 1) (d:=[]) (by omega))
   have hlow:=ab2 _ (by rw [dQ ka];exact hv)
   have hkeys:(bH n (i+1) i).keys=n.keys.set i ((aA n i).keys.getD ((aA n i).keys.length - 1) []):=by rw [e];rfl
   obtain ⟨p1,p2⟩:=iI (k:=k) (i:=i+1) (bW r1.sh.1 r1.so) (by rw [r3];omega) (fun t a ht ha=>by
    rw [hkeys] at ha
    by_cases hj:t=i
    . subst hj
      rw [aAr (by omega)] at ha
      cases ha
      exact hlow
    . rw [aAs (fun e=>hj e.symm)] at ha
      exact below t a (by omega) ha) (fun t a ht ha=>by
    rw [hkeys,aAs (by omega)] at ha
    have:=fP hsk (by omega:i < t) hkey ha
    have f:=dB k a
    omega)
   obtain ⟨f,rfl⟩:∃ f',f=f'+1:=⟨f - 1,by omega⟩
   exact (hno' f _ (by omega) r1 p2 (hmk _ r1.sh) (by omega)).of r2 (by omega)
 rw [if_neg c2]
 obtain ⟨r1,r2,r3⟩:=h.join h4 (by omega) (by omega:(aA n i).keys.length+(aA n (i+1)).keys.length < 3)
 have e:=fT ka kb
 have hkeys:(bG n i).keys=aI n.keys i:=by rw [e];rfl
 have get:=fun t=>rH n.keys i t (by omega)
 obtain ⟨p1,p2⟩:=iI (k:=k) (i:=i) (bW r1.sh.1 r1.so) (by omega) (fun t a ht ha=>by
  rw [hkeys,get t,if_pos ht] at ha
  exact below t a (by omega) ha) (fun t a ht ha=>by
  rw [hkeys,get t,if_neg (by omega)] at ha
  have:=fP hsk (by omega:i < t+1) hkey ha
  have f:=dB k a
  omega)
 have hT:(n.kids.take i).length=i:=by rw [aAl];omega
 have e2:aA (bG n i) i=cS (aA n i) (n.keys.getD i [],n.chains.getD i []) (aA n (i+1)):=by
  rw [e]
  unfold aA
  show (n.kids.take i++_::n.kids.drop (i+2)).getD i _=_
  rw [aA2,aAj (by omega),hT,aB2];rfl
 have htwo:2<=(aA (bG n i) i).keys.length:=by
  rw [e2]
  show 2<=((aA n i).keys ++ [_]++(aA n (i+1)).keys).length
  simp only [aAm,aAn,aAo];omega
 have hil:i < (bG n i).kids.length:=by rw [hmk _ r1.sh];omega
 have kc:=aW hil
 obtain ⟨oc,_⟩:=r1.kid kc (by omega)
 have r:=vL r1 p2 (by rw [p1];exact kc) htwo (ih f _ k oc (by omega) (.inr (by omega)))
 rw [p1] at r
 exact ⟨r.sh,r.mn,by rw [r.li,r2],Nat.le_of_eq r3.symm⟩
def iJ (n:Node):Node:=if n.keys.length=0/\leafN n=false then aA n 0 else n
theorem b_catK (A B M:List (List DV)) (hA:∀ x ∈ A,x.length=1) (hB:∀ x ∈ B,x.length=1) (hM:∀ x ∈ M,x.length=1) (hl:A.length+M.length+B.length < 1000000) (H:List (List Blk)) :
 aE X H 82 [⟨27,1,A⟩,⟨27,1,B⟩] [.lits [[.row 0 0 A.length],[.d (.sl M)],[.row 0 1 B.length]]] [none,none] (.row 0 0 (A.length+M.length+B.length)) [⟨27,1,A++M++B⟩]:=by
 have h:=oI (C:=X) (H:=H) (f:=82) (e:=27) (sz:=1) (S:=1) false rfl (As:=A) (Bs:=B) (mid:=[M]) rfl rfl (fun C hC x hx=>by rw [aAy.1 hC] at hx;exact hM x hx)
  (fun L h1 h2 h3=>d_catK L h2 (by rw [h1];simp) (by rw [h3];simp;omega) H)
 simpa using h
theorem b_catC (A B M:List (List DV)) (hA:∀ x ∈ A,x.length=1) (hB:∀ x ∈ B,x.length=1) (hM:∀ x ∈ M,x.length=1) (hl:A.length+M.length+B.length < 1000000) (H:List (List Blk)) :
 aE X H 83 [⟨32,1,A⟩,⟨32,1,B⟩] [.lits [[.row 0 0 A.length],[.d (.sl M)],[.row 0 1 B.length]]] [none,none] (.row 0 0 (A.length+M.length+B.length)) [⟨32,1,A++M++B⟩]:=by
 have h:=oI (C:=X) (H:=H) (f:=83) (e:=32) (sz:=1) (S:=1) false rfl (As:=A) (Bs:=B) (mid:=[M]) rfl rfl (fun C hC x hx=>by rw [aAy.1 hC] at hx;exact hM x hx)
  (fun L h1 h2 h3=>d_catC L h2 (by rw [h1];simp) (by rw [h3];simp;omega) H)
 simpa using h
theorem b_catN (A B:List (List DV)) (hl:A.length+B.length < 1000000) (H:List (List Blk)) :
 aE X H 84 [⟨26,67,A⟩,⟨26,67,B⟩] [.lits [[.row 0 0 A.length],[.row 0 1 B.length]]] [none,none] (.row 0 0 (A.length+B.length)) [⟨26,67,A++B⟩]:=by
 have h:=oI (C:=X) (H:=H) (f:=84) (e:=26) (sz:=3) (S:=67) true rfl (As:=A) (Bs:=B) (mid:=[]) rfl rfl (fun C hC=>by cases hC)
  (fun L h1 h2 h3=>d_catN L h2 (by rw [h1];simp) (by rw [h3];simp;omega) H)
 simpa using h
theorem oN {α:Type} (xs:List α) (i j:Nat) (hij:i<=j) (hj:j<=xs.length) (ys:List α):(xs.take i++xs.drop j++ys).take (xs.length - (j - i))=xs.take i++xs.drop j:=by
 rw [List.take_left' (by simp;omega)]
theorem kR (xs:List (List DV)) (hx:∀ x ∈ xs,x.length=1) (i:Nat) (hi:i < xs.length) (H:List (List Blk)) :
 aE X H 65 [⟨27,1,xs⟩] [.row 0 0 xs.length,.d (.int .i64 i),.d (.int .i64 ((i+1:Nat):Int))] [none] (.row 0 0 (aI xs i).length) [⟨27,1,aI xs i⟩]:=by
 have h:=aE.short (k:=1) (S:=1) false rfl rfl rfl (d_delK xs hx i (i+1) (by omega) (by omega) (by omega) H)
 rw [oN xs i (i+1) (by omega) (by omega)] at h
 have e:(aI xs i).length=xs.length - (i+1 - i):=by unfold aI;simp;omega
 rw [e]
 exact h
theorem kT (xs:List (List DV)) (hx:∀ x ∈ xs,x.length=1) (i:Nat) (hi:i < xs.length) (H:List (List Blk)) :
 aE X H 66 [⟨32,1,xs⟩] [.row 0 0 xs.length,.d (.int .i64 i),.d (.int .i64 ((i+1:Nat):Int))] [none] (.row 0 0 (aI xs i).length) [⟨32,1,aI xs i⟩]:=by
 have h:=aE.short (k:=1) (S:=1) false rfl rfl rfl (d_delC xs hx i (i+1) (by omega) (by omega) (by omega) H)
 rw [oN xs i (i+1) (by omega) (by omega)] at h
 have e:(aI xs i).length=xs.length - (i+1 - i):=by unfold aI;simp;omega
 rw [e]
 exact h
theorem tP (xs:List (List DV)) (i:Nat) (hi:i < xs.length) (H:List (List Blk)) :
 aE X H 81 [⟨26,67,xs⟩] [.row 0 0 xs.length,.d (.int .i64 i),.d (.int .i64 ((i+1:Nat):Int))] [none] (.row 0 0 (aI xs i).length) [⟨26,67,aI xs i⟩]:=by
 have h:=aE.short (k:=1) (e:=26) (sz:=3) (S:=67) true rfl rfl rfl (d_delN xs i (i+1) (by omega) (by omega) H)
 rw [oN xs i (i+1) (by omega) (by omega)] at h
 have e:(aI xs i).length=xs.length - (i+1 - i):=by unfold aI;simp;omega
 rw [e]
 exact h
def moJ:List (Nat × Tr):=[(1,.quiet [.pure,.make,.pure,.make,.make,.pure,.make,.pure,.pure,.make,.make,.make,.make,.act [6,9,10],.act []]),
 (2,.quiet [.pure,.make,.pure,.pure,.make,.pure,.make,.pure,.make,.make,.make,.pure,.make,.make,.act [1],.pure,.quiet [14],.pure,.quiet [14],.pure,.quiet [14],.quiet [14],.quiet [14],.pure,.quiet [14],.quiet [14],.act [1],.pure,.quiet [14,26],.pure,.quiet [14,26],.quiet [14,26],.act [1],.quiet [],.quiet [],.act []]),
 (3,.quiet [.pure,.make,.pure,.pure,.pure,.act [],.pure,.quiet [5],.pure,.pure,.pure,.act [],.pure,.act [],.pure,.act []])]
theorem gB {α:Type} {l:List α} {i:Nat} {a:α} (h:i < l.length):(l.set i a)[i]? = some a:=aAr h
theorem kJ {α:Type} {l:List α} {i j:Nat} {a x:α} (h:i≠j) (h2:l[j]? = some x):(l.set i a)[j]? = some x:=by rw [aAs h];exact h2
theorem mU {α:Type} (l:List α) (i:Nat) (y:α):aI (l.set i y) i=aI l i:=by
 unfold aI
 rw [List.take_set_of_le (aBo i),List.drop_set_of_lt (aBm i)]
theorem set7 {α:Type} (l:List α) (i:Nat) (a1 b1 a2 b2 a3 b3 x:α):(((((((l.set i a1).set (i+1) b1).set i a2).set (i+1) b2).set i a3).set (i+1) b3).set i x)=(l.set i x).set (i+1) b3:=by
 have c:∀ (m:List α) (p q:α),(m.set (i+1) p).set i q=(m.set i q).set (i+1) p:=fun m p q=>List.set_comm _ _ (by omega)
 simp only [c,List.set_set]
theorem zV (K C N:List (List DV)) (hK:K.length < 100000) (hC:C.length < 100000) (hN:N.length < 100000) (hK1:∀ x ∈ K,x.length=1) (hC1:∀ x ∈ C,x.length=1) (i:Nat) (hiK:i < K.length) (hiC:i < C.length) (hiN:i+1 < N.length)
 (aK aC aN bK bC bN:List (List DV)) (haK:aK.length+bK.length < 100000) (haC:aC.length+bC.length < 100000) (haN:aN.length+bN.length < 100000) (yk:List UInt8) (yc:List Ver)
 (haK1:∀ x ∈ aK,x.length=1) (haC1:∀ x ∈ aC,x.length=1) (hbK1:∀ x ∈ bK,x.length=1) (hbC1:∀ x ∈ bC,x.length=1)
 (hk0:K[i]? = some [aL yk]) (hc0:C[i]? = some [encVs yc]) (hN0:N[i]? = some [.own 27 1 aK,.own 32 1 aC,.own 26 3 aN]) (hN1:N[i+1]? = some [.own 27 1 bK,.own 32 1 bC,.own 26 3 bN])
 (naK:∀ x ∈ aK,∀ y ∈ x,noOwn y=true) (naC:∀ x ∈ aC,∀ y ∈ x,noOwn y=true) (nbK:∀ x ∈ bK,∀ y ∈ x,noOwn y=true) (nbC:∀ x ∈ bC,∀ y ∈ x,noOwn y=true) (H:List (List Blk)) :
 aE X H 69 [⟨27,1,K⟩,⟨32,1,C⟩,⟨26,67,N⟩] [.agg [.row 0 0 K.length,.row 0 1 C.length,.row 0 2 N.length],.d (.int .i64 i)] [none,none,none]
  (.agg [.row 0 0 (aI K i).length,.row 0 1 (aI C i).length,.row 0 2 (aI (N.set i [.own 27 1 (aK ++ [[aL yk]]++bK),.own 32 1 (aC ++ [[encVs yc]]++bC),.own 26 3 (aN++bN)]) (i+1)).length])
  [⟨27,1,aI K i⟩,⟨32,1,aI C i⟩,⟨26,67,aI (N.set i [.own 27 1 (aK ++ [[aL yk]]++bK),.own 32 1 (aC ++ [[encVs yc]]++bC),.own 26 3 (aN++bN)]) (i+1)⟩]:=by
 have w1:IntKind.i64.wrap (((i:Nat):Int)+1)=((i+1:Nat):Int):=by rw [aJ (by omega) (by omega)];omega
 have w2:IntKind.i64.wrap (((i:Nat):Int)+2)=((i+1+1:Nat):Int):=by rw [aJ (by omega) (by omega)];omega
 have cK:=fun H=>b_catK aK bK [[aL yk]] haK1 hbK1 (fun x hx=>by rw [aAy.1 hx];rfl) (by simp;omega) H
 have cC:=fun H=>b_catC aC bC [[encVs yc]] haC1 hbC1 (fun x hx=>by rw [aAy.1 hx];rfl) (by simp;omega) H
 have cN:=fun H=>b_catN aN bN (by omega) H
 have dK:=fun H=>kR K hK1 i hiK H
 have dC:=fun H=>kT C hC1 i hiC H
 have dN:∀ (a1 b1 a2 b2 a3 b3 x:List DV) (H:List (List Blk)),aE X H 81 [⟨26,67,(((((((N.set ((i:Nat):Int).toNat a1).set ((i+1:Nat):Int).toNat b1).set ((i:Nat):Int).toNat a2).set ((i+1:Nat):Int).toNat b2).set ((i:Nat):Int).toNat a3).set ((i+1:Nat):Int).toNat b3).set ((i:Nat):Int).toNat x)⟩]
  [.row 0 0 N.length,.d (.int .i64 ((i+1:Nat):Int)),.d (.int .i64 ((i+1+1:Nat):Int))] [none] (.row 0 0 (aI (N.set i x) (i+1)).length) [⟨26,67,aI (N.set i x) (i+1)⟩]:=fun a1 b1 a2 b2 a3 b3 x H=>by
  simp only [aBi]
  rw [set7]
  have h:=tP ((N.set i x).set (i+1) b3) (i+1) (by simp only [aAp];omega) H
  rw [mU] at h
  simp only [aAp] at h
  exact h
 have hN0':N[((i:Nat):Int).toNat]? = some [.own 27 1 aK,.own 32 1 aC,.own 26 3 aN]:=by rw [aBi];exact hN0
 have hN1':N[((i+1:Nat):Int).toNat]? = some [.own 27 1 bK,.own 32 1 bC,.own 26 3 bN]:=by rw [aBi];exact hN1
 have hk0':K[((i:Nat):Int).toNat]? = some [aL yk]:=by rw [aBi];exact hk0
 have hc0':C[((i:Nat):Int).toNat]? = some [encVs yc]:=by rw [aBi];exact hc0
 refine aQ aY false [26] [] (mo:=moJ) (by kernel_rfl) Try.func69 rfl ?_
 conv=>whnf
 repeat' (first
  | (refine ⟨by omega,by omega,?_⟩;conv=>whnf)
  | (refine ⟨_,hN0',?_⟩;conv=>whnf)
  | (refine ⟨_,hN1',?_⟩;conv=>whnf)
  | (refine ⟨_,hk0',?_⟩;conv=>whnf)
  | (refine ⟨_,hc0',?_⟩;conv=>whnf)
  | (intro z hz
     conv=>whnf
     first | rw [w1] at hz | rw [w2] at hz
     subst hz)
  | (refine ⟨naK,?_⟩;conv=>whnf)
  | (refine ⟨nbK,?_⟩;conv=>whnf)
  | (refine ⟨naC,?_⟩;conv=>whnf)
  | (refine ⟨nbC,?_⟩;conv=>whnf)
  | (refine ⟨_,_,_,(cK _).mdd _ _ _ _,?_⟩;conv=>whnf)
  | (refine ⟨_,_,_,(cC _).mdd _ _ _ _,?_⟩;conv=>whnf)
  | (refine ⟨_,_,_,(cN _).mdd _ _ _ _,?_⟩;conv=>whnf)
  | (refine ⟨_,_,_,(dK _).mdd _ _ _ _,?_⟩;conv=>whnf)
  | (refine ⟨_,_,_,(dN _ _ _ _ _ _ _ _).mdd _ _ _ _,?_⟩;conv=>whnf)
  | (refine ⟨_,_,_,(dC _).mdd _ _ _ _,?_⟩;conv=>whnf)
  | (apply Exists.intro
     apply And.intro
     focus ((repeat' (first | exact hN0' | exact hN1' | exact gB (by first | omega | (simp only [aAp];omega)) | (apply kJ;focus omega)));done)
     conv=>whnf)
  | (refine And.intro rfl ?_;conv=>whnf)
  | (refine And.intro ?_ ?_ <;> (conv=>whnf))
  | fail)
 all_goals first
  | (show _=List.length _;simp;done)
  | (show _=List.length _;simp;omega)
  | skip
 refine ⟨[16,17,18],rfl,?_⟩
 (repeat' (first | exact True.intro | exact rfl | refine And.intro ?_ ?_))
theorem kU (A B D:List (List DV)) (H:List (List Blk)):aD X H 40 [.agg [.d (.sl A),.d (.sl B),.d (.sl D)]] (.d (.bool ((D.length:Int)==0))) []:=by
 refine callEq_of_body aY rfl Try.func40 rfl ?_
 conv=>whnf
 repeat' (first
  | (refine And.intro (fun h_=>?_) (fun h_=>?_) <;> (conv=>whnf))
  | (intro z_ hz_;conv=>whnf)
  | (refine ⟨[],rfl,?_,True.intro⟩;(conv=>whnf);(first | done | (simp_all only [refP,Bool.not_true,Bool.not_false,Bool.true_and,Bool.false_and,Bool.and_true,Bool.and_false,Bool.true_or,Bool.false_or,Bool.or_true,Bool.or_false,Bool.not_not,Bool.not_eq_true',Bool.not_eq_false',if_true,if_false,Bool.false_eq_true,Bool.true_eq_false,aAh];done)))
  | fail)
theorem iX (b:Bool) (A B D:List (List DV)) (hA:0 < A.length) (hA2:A.length < 1000000) (H:List (List Blk)):aD X H 80 [.agg [.d (.bool b)],.agg [.d (.sl A),.d (.sl B),.d (.sl D)]] (.d (.int .i64 (bif b then ((A.length - 1:Nat):Int) else 0))) []:=by
 refine callEq_of_body aY rfl Try.func80 rfl ?_
 conv=>whnf
 refine And.intro (fun q=>?_) (fun q=>?_) <;> (conv=>whnf)
 . subst q
   intro z hz
   conv=>whnf
   rw [aJ (by omega) (by omega)] at hz
   have hz':z=((A.length - 1:Nat):Int):=by omega
   subst hz'
   exact ⟨[],rfl,rfl,True.intro⟩
 . subst q
   exact ⟨[],rfl,rfl,True.intro⟩
def moL (j15 j18:Nat):List (Nat × Tr):=[(3,.quiet [.pure,.make,.pure,.make,.make,.pure,.make,.pure,.make,.make,.pure,.pure,.make,.make,.make,.act [6,8,9,12],.act [12],.pure]),
 (8,.quiet [.pure,.make,.pure,.pure,.make,.pure,.make,.make,.make,.act [],.pure,.quiet [9],.pure,.pure,.quiet [9],.pure,.quiet [9],.quiet [9],.quiet [9],.act [],.pure,.act [],.pure,.act []]),
 (9,.quiet [.pure,.make,.pure,.pure,.make,.pure,.pure,.make,.pure,.make,.make,.pure,.make,.pure,.make,.make,.make,.act [4],.quiet [],.act []]),
 (10,.quiet [.pure,.make,.pure,.pure,.pure,.act [],.pure,.quiet [5],.pure,.pure,.pure,.act [],.pure,.act [],.pure,.act []]),
 (15,.take j15 (.quiet [.pure,.make,.pure,.make,.pure,.make,.make,.make,.act [],.pure,.act []])),
 (16,.take j15 (.quiet [.pure,.make,.pure,.make,.pure,.make,.make,.make,.act [],.pure,.act []])),
 (18,.take j18 (.quiet [.pure,.make,.pure,.pure,.make,.pure,.make,.make,.make,.act [4,7],.quiet [],.act []]))]
theorem zW (K C N:List (List DV)) (hK:K.length < 100000) (hC:C.length < 100000) (hN:N.length < 100000) (hK1:∀ x ∈ K,x.length=1) (hC1:∀ x ∈ C,x.length=1) (i:Nat) (hiK:i < K.length) (hiC:i < C.length) (hiN:i+1 < N.length)
 (aK aC aN bK bC bN:List (List DV)) (L:Nat) (haK:aK.length < 99999) (haC:aC.length=aK.length) (haN:aN.length < 99999) (ha1:0 < aK.length) (hbK:bK.length=L+1) (hbC:bC.length=L+1) (hbN:bN.length < 99999) (hL:L < 99999) (yk zk:List UInt8) (yc zc:List Ver)
 (haK1:∀ x ∈ aK,x.length=1) (haC1:∀ x ∈ aC,x.length=1) (hbK1:∀ x ∈ bK,x.length=1) (hbC1:∀ x ∈ bC,x.length=1)
 (hk0:K[i]? = some [aL yk]) (hc0:C[i]? = some [encVs yc]) (hkz:bK[L]? = some [aL zk]) (hcz:bC[L]? = some [encVs zc])
 (hNa:N[(i+1)]? = some [.own 27 1 aK,.own 32 1 aC,.own 26 3 aN]) (hNb:N[i]? = some [.own 27 1 bK,.own 32 1 bC,.own 26 3 bN])
 (naK:∀ x ∈ aK,∀ y ∈ x,noOwn y=true) (naC:∀ x ∈ aC,∀ y ∈ x,noOwn y=true) (nbK:∀ x ∈ bK,∀ y ∈ x,noOwn y=true) (nbC:∀ x ∈ bC,∀ y ∈ x,noOwn y=true)
 (hbe:bN = [])
 (H:List (List Blk)) :
 aE X H 68 [⟨27,1,K⟩,⟨32,1,C⟩,⟨26,67,N⟩] [.agg [.row 0 0 K.length,.row 0 1 C.length,.row 0 2 N.length],.d (.int .i64 (((i+1):Nat):Int)),.d (.int .i64 ((i:Nat):Int))] [none,none,none]
  (.agg [.row 0 0 K.length,.row 0 1 C.length,.row 0 2 N.length]) [⟨27,1,K.set i [aL zk]⟩,⟨32,1,C.set i [encVs zc]⟩,⟨26,67,(N.set (i+1) [.own 27 1 (aK.take 0 ++ [[aL yk]]++aK.drop 0),.own 32 1 (aC.take 0 ++ [[encVs yc]]++aC.drop 0),.own 26 3 aN]).set i [.own 27 1 (aI bK L),.own 32 1 (aI bC L),.own 26 3 bN]⟩]:=by
 have w1:IntKind.i64.wrap (((i:Nat):Int)+1)=((i+1:Nat):Int):=by rw [aJ (by omega) (by omega)];omega
 have d1:decide (((i:Nat):Int) < (((i+1):Nat):Int))=true:=decide_eq_true (by omega)
 have hNa':N[(((i+1):Nat):Int).toNat]? = some [.own 27 1 aK,.own 32 1 aC,.own 26 3 aN]:=by rw [aBi];exact hNa
 have hNb':N[((i:Nat):Int).toNat]? = some [.own 27 1 bK,.own 32 1 bC,.own 26 3 bN]:=by rw [aBi];exact hNb
 have hk0':K[((i:Nat):Int).toNat]? = some [aL yk]:=by rw [aBi];exact hk0
 have hc0':C[((i:Nat):Int).toNat]? = some [encVs yc]:=by rw [aBi];exact hc0
 have m1:min (((i+1):Nat):Int) ((i:Nat):Int)=((i:Nat):Int):=by omega
 have lA:∀ A B:List (List DV),A.length=B.length->(plRows A).length=B.length:=fun A B h=>by rw [plRows_eq,aAh];exact h
 have hkz':bK[((L:Nat):Int).toNat]? = some [aL zk]:=by rw [aBi];exact hkz
 have hcz':bC[((L:Nat):Int).toNat]? = some [encVs zc]:=by rw [aBi];exact hcz
 have w3:IntKind.i64.wrap (((L:Nat):Int)+1)=((L+1:Nat):Int):=by rw [aJ (by omega) (by omega)];omega
 have w4:IntKind.i64.wrap ((0:Int)+1)=((1:Nat):Int):=by decide
 have sb:∀ (A B D:List (List DV)) (H:List (List Blk)),A.length=bK.length->aD X H 80 [.agg [.d (.bool true)],.agg [.d (.sl A),.d (.sl B),.d (.sl D)]] (.d (.int .i64 ((L:Nat):Int))) []:=fun A B D H h=>by
  have:=iX true A B D (by omega) (by omega) H
  rw [show A.length - 1=L by omega] at this
  exact this
 have sa:∀ (A B D:List (List DV)) (H:List (List Blk)),A.length=aK.length->aD X H 80 [.agg [.d (.bool false)],.agg [.d (.sl A),.d (.sl B),.d (.sl D)]] (.d (.int .i64 0)) []:=fun A B D H h=>iX false A B D (by omega) (by omega) H
 have iK:=fun H=>d_insK aK haK1 0 (by omega) (aL yk) (by omega) H
 have iC:=fun H=>d_insC aC haC1 0 (by omega) (encVs yc) (by omega) H
 have dK:=fun H=>kR bK hbK1 L (by omega) H
 have dC:=fun H=>kT bC hbC1 L (by omega) H
 subst hbe
 have lf:∀ (A B D:List (List DV)) (H:List (List Blk)),D.length=0->aD X H 40 [.agg [.d (.sl A),.d (.sl B),.d (.sl D)]] (.d (.bool true)) []:=fun A B D H h=>by
  have:=kU A B D H
  rw [show ((D.length:Int)==0)=true by rw [h];rfl] at this
  exact this
 refine aQ aY false [26] [] (mo:=moL 11 11) (by kernel_rfl) Try.func68 rfl ?_
 conv=>whnf
 rw [d1]
 conv=>whnf
 repeat' (first
  | (refine ⟨by omega,by omega,?_⟩;conv=>whnf)
  | (refine ⟨_,hNa',?_⟩;conv=>whnf)
  | (refine ⟨_,hNb',?_⟩;conv=>whnf)
  | (refine ⟨_,hk0',?_⟩;conv=>whnf)
  | (refine ⟨_,hc0',?_⟩;conv=>whnf)
  | (refine ⟨_,hkz',?_⟩;conv=>whnf)
  | (refine ⟨_,hcz',?_⟩;conv=>whnf)
  | (intro z hz
     conv=>whnf
     first | rw [w1] at hz | rw [w3] at hz | rw [w4] at hz | rw [m1] at hz
     subst hz)
  | (refine ⟨naK,?_⟩;conv=>whnf)
  | (refine ⟨nbK,?_⟩;conv=>whnf)
  | (refine ⟨naC,?_⟩;conv=>whnf)
  | (refine ⟨nbC,?_⟩;conv=>whnf)
  | (refine ⟨rfl,?_⟩;conv=>whnf)
  | (refine ⟨_,_,(sb _ _ _ _ (by first | rfl | exact lA _ _ rfl | (simp only [plRows_eq,aAh,aAl];omega))).mdd _ _ _ _,And.intro rfl aZ,?_⟩;conv=>whnf)
  | (refine ⟨_,_,(sa _ _ _ _ (by first | rfl | exact lA _ _ rfl | (simp only [plRows_eq,aAh,aAl];omega))).mdd _ _ _ _,And.intro rfl aZ,?_⟩;conv=>whnf)
  | (refine ⟨_,_,(lf _ _ _ _ (by first | rfl | exact lA _ _ rfl | (simp only [plRows_eq,aAh,aAl];omega))).mdd _ _ _ _,And.intro rfl aZ,?_⟩;conv=>whnf)
  | (refine ⟨_,_,_,(iK _).mdd _ _ _ _,?_⟩;conv=>whnf)
  | (refine ⟨_,_,_,(iC _).mdd _ _ _ _,?_⟩;conv=>whnf)
  | (refine ⟨_,_,_,(dK _).mdd _ _ _ _,?_⟩;conv=>whnf)
  | (refine ⟨_,_,_,(dC _).mdd _ _ _ _,?_⟩;conv=>whnf)
  | (apply Exists.intro
     apply And.intro
     focus ((repeat' (first | exact hNa' | exact hNb' | exact gB (by first | omega | (simp only [aAp];omega)) | (apply kJ;focus omega)));done)
     conv=>whnf)
  | (refine And.intro rfl ?_;conv=>whnf)
  | (first | (refine And.intro (fun q=>absurd q (by decide)) (fun _=>?_);conv=>whnf) | (refine And.intro (fun _=>?_) (fun q=>absurd q (by decide));conv=>whnf))
  | (refine And.intro ?_ ?_ <;> (conv=>whnf))
  | fail)
 all_goals first
  | (show _=List.length _;simp;done)
  | (show _=List.length _;simp;omega)
  | (show _*(72:Nat)<=_;omega)
  | skip
 all_goals
  refine ⟨[0,1,2],rfl,?_⟩
  (repeat' (first | exact True.intro | exact rfl | refine And.intro ?_ ?_))
  have c:∀ (m:List (List DV)) (p q:List DV),(m.set (i+1) p).set i q=(m.set i q).set (i+1) p:=fun m p q=>List.set_comm _ _ (by omega)
  simp only [aBi,c,List.set_set]
theorem zX (K C N:List (List DV)) (hK:K.length < 100000) (hC:C.length < 100000) (hN:N.length < 100000) (hK1:∀ x ∈ K,x.length=1) (hC1:∀ x ∈ C,x.length=1) (i:Nat) (hiK:i < K.length) (hiC:i < C.length) (hiN:i+1 < N.length)
 (aK aC aN bK bC bN:List (List DV)) (L:Nat) (haK:aK.length < 99999) (haC:aC.length=aK.length) (haN:aN.length < 99999) (ha1:0 < aK.length) (hbK:bK.length=L+1) (hbC:bC.length=L+1) (hbN:bN.length < 99999) (hL:L < 99999) (yk zk:List UInt8) (yc zc:List Ver)
 (haK1:∀ x ∈ aK,x.length=1) (haC1:∀ x ∈ aC,x.length=1) (hbK1:∀ x ∈ bK,x.length=1) (hbC1:∀ x ∈ bC,x.length=1)
 (hk0:K[i]? = some [aL yk]) (hc0:C[i]? = some [encVs yc]) (hkz:bK[L]? = some [aL zk]) (hcz:bC[L]? = some [encVs zc])
 (hNa:N[(i+1)]? = some [.own 27 1 aK,.own 32 1 aC,.own 26 3 aN]) (hNb:N[i]? = some [.own 27 1 bK,.own 32 1 bC,.own 26 3 bN])
 (naK:∀ x ∈ aK,∀ y ∈ x,noOwn y=true) (naC:∀ x ∈ aC,∀ y ∈ x,noOwn y=true) (nbK:∀ x ∈ bK,∀ y ∈ x,noOwn y=true) (nbC:∀ x ∈ bC,∀ y ∈ x,noOwn y=true)
 (k:Nat) (hk:bN.length=k+1) (cK cC cN:List (List DV)) (hbc:bN[k]? = some [.own 27 1 cK,.own 32 1 cC,.own 26 3 cN]) (ncK:∀ x ∈ cK,∀ y ∈ x,noOwn y=true) (ncC:∀ x ∈ cC,∀ y ∈ x,noOwn y=true)
 (H:List (List Blk)) :
 aE X H 68 [⟨27,1,K⟩,⟨32,1,C⟩,⟨26,67,N⟩] [.agg [.row 0 0 K.length,.row 0 1 C.length,.row 0 2 N.length],.d (.int .i64 (((i+1):Nat):Int)),.d (.int .i64 ((i:Nat):Int))] [none,none,none]
  (.agg [.row 0 0 K.length,.row 0 1 C.length,.row 0 2 N.length]) [⟨27,1,K.set i [aL zk]⟩,⟨32,1,C.set i [encVs zc]⟩,⟨26,67,(N.set (i+1) [.own 27 1 (aK.take 0 ++ [[aL yk]]++aK.drop 0),.own 32 1 (aC.take 0 ++ [[encVs yc]]++aC.drop 0),.own 26 3 (aN.take 0 ++ [[.own 27 1 cK,.own 32 1 cC,.own 26 3 cN]]++aN.drop 0)]).set i [.own 27 1 (aI bK L),.own 32 1 (aI bC L),.own 26 3 (aI bN k)]⟩]:=by
 have w1:IntKind.i64.wrap (((i:Nat):Int)+1)=((i+1:Nat):Int):=by rw [aJ (by omega) (by omega)];omega
 have d1:decide (((i:Nat):Int) < (((i+1):Nat):Int))=true:=decide_eq_true (by omega)
 have hNa':N[(((i+1):Nat):Int).toNat]? = some [.own 27 1 aK,.own 32 1 aC,.own 26 3 aN]:=by rw [aBi];exact hNa
 have hNb':N[((i:Nat):Int).toNat]? = some [.own 27 1 bK,.own 32 1 bC,.own 26 3 bN]:=by rw [aBi];exact hNb
 have hk0':K[((i:Nat):Int).toNat]? = some [aL yk]:=by rw [aBi];exact hk0
 have hc0':C[((i:Nat):Int).toNat]? = some [encVs yc]:=by rw [aBi];exact hc0
 have m1:min (((i+1):Nat):Int) ((i:Nat):Int)=((i:Nat):Int):=by omega
 have lA:∀ A B:List (List DV),A.length=B.length->(plRows A).length=B.length:=fun A B h=>by rw [plRows_eq,aAh];exact h
 have hkz':bK[((L:Nat):Int).toNat]? = some [aL zk]:=by rw [aBi];exact hkz
 have hcz':bC[((L:Nat):Int).toNat]? = some [encVs zc]:=by rw [aBi];exact hcz
 have w3:IntKind.i64.wrap (((L:Nat):Int)+1)=((L+1:Nat):Int):=by rw [aJ (by omega) (by omega)];omega
 have w4:IntKind.i64.wrap ((0:Int)+1)=((1:Nat):Int):=by decide
 have sb:∀ (A B D:List (List DV)) (H:List (List Blk)),A.length=bK.length->aD X H 80 [.agg [.d (.bool true)],.agg [.d (.sl A),.d (.sl B),.d (.sl D)]] (.d (.int .i64 ((L:Nat):Int))) []:=fun A B D H h=>by
  have:=iX true A B D (by omega) (by omega) H
  rw [show A.length - 1=L by omega] at this
  exact this
 have sa:∀ (A B D:List (List DV)) (H:List (List Blk)),A.length=aK.length->aD X H 80 [.agg [.d (.bool false)],.agg [.d (.sl A),.d (.sl B),.d (.sl D)]] (.d (.int .i64 0)) []:=fun A B D H h=>iX false A B D (by omega) (by omega) H
 have iK:=fun H=>d_insK aK haK1 0 (by omega) (aL yk) (by omega) H
 have iC:=fun H=>d_insC aC haC1 0 (by omega) (encVs yc) (by omega) H
 have dK:=fun H=>kR bK hbK1 L (by omega) H
 have dC:=fun H=>kT bC hbC1 L (by omega) H
 have lf:∀ (A B D:List (List DV)) (H:List (List Blk)),D.length=bN.length->aD X H 40 [.agg [.d (.sl A),.d (.sl B),.d (.sl D)]] (.d (.bool false)) []:=fun A B D H h=>by
  have:=kU A B D H
  rw [show ((D.length:Int)==0)=false by simp only [beq_eq_false_iff_ne];omega] at this
  exact this
 have hbc':bN[((k:Nat):Int).toNat]? = some [.own 27 1 cK,.own 32 1 cC,.own 26 3 cN]:=by rw [aBi];exact hbc
 have w5:IntKind.i64.wrap (((bN.length:Nat):Int) - 1)=((k:Nat):Int):=by rw [aJ (by omega) (by omega)];omega
 have w6:IntKind.i64.wrap (((k:Nat):Int)+1)=((k+1:Nat):Int):=by rw [aJ (by omega) (by omega)];omega
 have iN:=fun H=>d_insN aN (by omega) 0 (aBn _) [.row 0 1 cK.length,.row 0 2 cC.length,.row 0 3 cN.length] rfl [.own 27 1 cK,.own 32 1 cC,.own 26 3 cN] [⟨27,1,cK⟩,⟨32,1,cC⟩,⟨26,67,cN⟩] (fun E hE=>own3 _ _ _ _ E hE) H
 have dN:∀ (x y z:List DV) (H:List (List Blk)),aE X H 81 [⟨26,67,((bN.set ((k:Nat):Int).toNat x).set ((k:Nat):Int).toNat y).set ((k:Nat):Int).toNat z⟩] [.row 0 0 bN.length,.d (.int .i64 ((k:Nat):Int)),.d (.int .i64 ((k+1:Nat):Int))] [none] (.row 0 0 (aI bN k).length) [⟨26,67,aI bN k⟩]:=fun x y z H=>by
  have h:=tP (bN.set k z) k (by rw [aAp];omega) H
  rw [mU,aAp] at h
  rw [List.set_set,List.set_set]
  exact h
 refine aQ aY false [26] [] (mo:=moL 11 11) (by kernel_rfl) Try.func68 rfl ?_
 conv=>whnf
 rw [d1]
 conv=>whnf
 repeat' (first
  | (refine ⟨by omega,by omega,?_⟩;conv=>whnf)
  | (refine ⟨_,hNa',?_⟩;conv=>whnf)
  | (refine ⟨_,hNb',?_⟩;conv=>whnf)
  | (refine ⟨_,hk0',?_⟩;conv=>whnf)
  | (refine ⟨_,hc0',?_⟩;conv=>whnf)
  | (refine ⟨_,hkz',?_⟩;conv=>whnf)
  | (refine ⟨_,hcz',?_⟩;conv=>whnf)
  | (refine ⟨_,hbc',?_⟩;conv=>whnf)
  | (intro z hz
     conv=>whnf
     first | rw [w1] at hz | rw [w3] at hz | rw [w4] at hz | rw [m1] at hz | rw [w5] at hz | rw [w6] at hz
     subst hz)
  | (refine ⟨naK,?_⟩;conv=>whnf)
  | (refine ⟨nbK,?_⟩;conv=>whnf)
  | (refine ⟨naC,?_⟩;conv=>whnf)
  | (refine ⟨nbC,?_⟩;conv=>whnf)
  | (refine ⟨ncK,?_⟩;conv=>whnf)
  | (refine ⟨ncC,?_⟩;conv=>whnf)
  | (refine ⟨rfl,?_⟩;conv=>whnf)
  | (refine ⟨_,_,(sb _ _ _ _ (by first | rfl | exact lA _ _ rfl | (simp only [plRows_eq,aAh,aAl];omega))).mdd _ _ _ _,And.intro rfl aZ,?_⟩;conv=>whnf)
  | (refine ⟨_,_,(sa _ _ _ _ (by first | rfl | exact lA _ _ rfl | (simp only [plRows_eq,aAh,aAl];omega))).mdd _ _ _ _,And.intro rfl aZ,?_⟩;conv=>whnf)
  | (refine ⟨_,_,(lf _ _ _ _ (by first | rfl | exact lA _ _ rfl | (simp only [plRows_eq,aAh,aAl];omega))).mdd _ _ _ _,And.intro rfl aZ,?_⟩;conv=>whnf)
  | (refine ⟨_,_,_,(iK _).mdd _ _ _ _,?_⟩;conv=>whnf)
  | (refine ⟨_,_,_,(iC _).mdd _ _ _ _,?_⟩;conv=>whnf)
  | (refine ⟨_,_,_,(dK _).mdd _ _ _ _,?_⟩;conv=>whnf)
  | (refine ⟨_,_,_,(dC _).mdd _ _ _ _,?_⟩;conv=>whnf)
  | (refine ⟨_,_,_,(iN _).mdd _ _ _ _,?_⟩;conv=>whnf)
  | (refine ⟨_,_,_,(dN _ _ _ _).mdd _ _ _ _,?_⟩;conv=>whnf)
  | (apply Exists.intro
     apply And.intro
     focus ((repeat' (first | exact hNa' | exact hNb' | exact hbc' | exact gB (by first | omega | (simp only [aAp];omega)) | (apply kJ;focus omega)));done)
     conv=>whnf)
  | (refine And.intro rfl ?_;conv=>whnf)
  | (first | (refine And.intro (fun q=>absurd q (by decide)) (fun _=>?_);conv=>whnf) | (refine And.intro (fun _=>?_) (fun q=>absurd q (by decide));conv=>whnf))
  | (refine And.intro ?_ ?_ <;> (conv=>whnf))
  | fail)
 all_goals first
  | (show _=List.length _;simp;done)
  | (show _=List.length _;simp;omega)
  | (show _*(72:Nat)<=_;omega)
  | skip
 all_goals
  refine ⟨[0,1,2],rfl,?_⟩
  (repeat' (first | exact True.intro | exact rfl | refine And.intro ?_ ?_))
  have c:∀ (m:List (List DV)) (p q:List DV),(m.set (i+1) p).set i q=(m.set i q).set (i+1) p:=fun m p q=>List.set_comm _ _ (by omega)
  simp only [aBi,c,List.set_set]
theorem zY (K C N:List (List DV)) (hK:K.length < 100000) (hC:C.length < 100000) (hN:N.length < 100000) (hK1:∀ x ∈ K,x.length=1) (hC1:∀ x ∈ C,x.length=1) (i:Nat) (hiK:i < K.length) (hiC:i < C.length) (hiN:i+1 < N.length)
 (aK aC aN bK bC bN:List (List DV)) (L:Nat) (haK:aK.length < 99999) (haC:aC.length=aK.length) (haN:aN.length < 99999) (ha1:0 < aK.length) (hbK:bK.length=L+1) (hbC:bC.length=L+1) (hbN:bN.length < 99999) (hL:L < 99999) (yk zk:List UInt8) (yc zc:List Ver)
 (haK1:∀ x ∈ aK,x.length=1) (haC1:∀ x ∈ aC,x.length=1) (hbK1:∀ x ∈ bK,x.length=1) (hbC1:∀ x ∈ bC,x.length=1)
 (hk0:K[i]? = some [aL yk]) (hc0:C[i]? = some [encVs yc]) (hkz:bK[0]? = some [aL zk]) (hcz:bC[0]? = some [encVs zc])
 (hNa:N[i]? = some [.own 27 1 aK,.own 32 1 aC,.own 26 3 aN]) (hNb:N[(i+1)]? = some [.own 27 1 bK,.own 32 1 bC,.own 26 3 bN])
 (naK:∀ x ∈ aK,∀ y ∈ x,noOwn y=true) (naC:∀ x ∈ aC,∀ y ∈ x,noOwn y=true) (nbK:∀ x ∈ bK,∀ y ∈ x,noOwn y=true) (nbC:∀ x ∈ bC,∀ y ∈ x,noOwn y=true)
 (hbe:bN = [])
 (H:List (List Blk)) :
 aE X H 68 [⟨27,1,K⟩,⟨32,1,C⟩,⟨26,67,N⟩] [.agg [.row 0 0 K.length,.row 0 1 C.length,.row 0 2 N.length],.d (.int .i64 ((i:Nat):Int)),.d (.int .i64 (((i+1):Nat):Int))] [none,none,none]
  (.agg [.row 0 0 K.length,.row 0 1 C.length,.row 0 2 N.length]) [⟨27,1,K.set i [aL zk]⟩,⟨32,1,C.set i [encVs zc]⟩,⟨26,67,(N.set i [.own 27 1 (aK.take aK.length ++ [[aL yk]]++aK.drop aK.length),.own 32 1 (aC.take aK.length ++ [[encVs yc]]++aC.drop aK.length),.own 26 3 aN]).set (i+1) [.own 27 1 (aI bK 0),.own 32 1 (aI bC 0),.own 26 3 bN]⟩]:=by
 have w1:IntKind.i64.wrap (((i:Nat):Int)+1)=((i+1:Nat):Int):=by rw [aJ (by omega) (by omega)];omega
 have d1:decide ((((i+1):Nat):Int) < ((i:Nat):Int))=false:=decide_eq_false (by omega)
 have hNa':N[((i:Nat):Int).toNat]? = some [.own 27 1 aK,.own 32 1 aC,.own 26 3 aN]:=by rw [aBi];exact hNa
 have hNb':N[(((i+1):Nat):Int).toNat]? = some [.own 27 1 bK,.own 32 1 bC,.own 26 3 bN]:=by rw [aBi];exact hNb
 have hk0':K[((i:Nat):Int).toNat]? = some [aL yk]:=by rw [aBi];exact hk0
 have hc0':C[((i:Nat):Int).toNat]? = some [encVs yc]:=by rw [aBi];exact hc0
 have m1:min ((i:Nat):Int) (((i+1):Nat):Int)=((i:Nat):Int):=by omega
 have lA:∀ A B:List (List DV),A.length=B.length->(plRows A).length=B.length:=fun A B h=>by rw [plRows_eq,aAh];exact h
 have hkz':bK[(0:Int).toNat]? = some [aL zk]:=hkz
 have hcz':bC[(0:Int).toNat]? = some [encVs zc]:=hcz
 have w3:IntKind.i64.wrap ((((aK.length - 1:Nat):Int))+1)=((aK.length:Nat):Int):=by rw [aJ (by omega) (by omega)];omega
 have w4:IntKind.i64.wrap ((0:Int)+1)=((0+1:Nat):Int):=by decide
 have sb:∀ (A B D:List (List DV)) (H:List (List Blk)),A.length=bK.length->aD X H 80 [.agg [.d (.bool false)],.agg [.d (.sl A),.d (.sl B),.d (.sl D)]] (.d (.int .i64 0)) []:=fun A B D H h=>iX false A B D (by omega) (by omega) H
 have sa:∀ (A B D:List (List DV)) (H:List (List Blk)),A.length=aK.length->aD X H 80 [.agg [.d (.bool true)],.agg [.d (.sl A),.d (.sl B),.d (.sl D)]] (.d (.int .i64 ((aK.length - 1:Nat):Int))) []:=fun A B D H h=>by
  have:=iX true A B D (by omega) (by omega) H
  rw [h] at this
  exact this
 have iK:=fun H=>d_insK aK haK1 aK.length (aBo _) (aL yk) (by omega) H
 have iC:=fun H=>d_insC aC haC1 aK.length (by omega) (encVs yc) (by omega) H
 have dK:=fun H=>kR bK hbK1 0 (by omega) H
 have dC:=fun H=>kT bC hbC1 0 (by omega) H
 subst hbe
 have lf:∀ (A B D:List (List DV)) (H:List (List Blk)),D.length=0->aD X H 40 [.agg [.d (.sl A),.d (.sl B),.d (.sl D)]] (.d (.bool true)) []:=fun A B D H h=>by
  have:=kU A B D H
  rw [show ((D.length:Int)==0)=true by rw [h];rfl] at this
  exact this
 refine aQ aY false [26] [] (mo:=moL 11 11) (by kernel_rfl) Try.func68 rfl ?_
 conv=>whnf
 rw [d1]
 conv=>whnf
 repeat' (first
  | (refine ⟨by omega,by omega,?_⟩;conv=>whnf)
  | (refine ⟨_,hNa',?_⟩;conv=>whnf)
  | (refine ⟨_,hNb',?_⟩;conv=>whnf)
  | (refine ⟨_,hk0',?_⟩;conv=>whnf)
  | (refine ⟨_,hc0',?_⟩;conv=>whnf)
  | (refine ⟨_,hkz',?_⟩;conv=>whnf)
  | (refine ⟨_,hcz',?_⟩;conv=>whnf)
  | (intro z hz
     conv=>whnf
     first | rw [w1] at hz | rw [w3] at hz | rw [w4] at hz | rw [m1] at hz
     subst hz)
  | (refine ⟨naK,?_⟩;conv=>whnf)
  | (refine ⟨nbK,?_⟩;conv=>whnf)
  | (refine ⟨naC,?_⟩;conv=>whnf)
  | (refine ⟨nbC,?_⟩;conv=>whnf)
  | (refine ⟨rfl,?_⟩;conv=>whnf)
  | (refine ⟨_,_,(sb _ _ _ _ (by first | rfl | exact lA _ _ rfl | (simp only [plRows_eq,aAh,aAl];omega))).mdd _ _ _ _,And.intro rfl aZ,?_⟩;conv=>whnf)
  | (refine ⟨_,_,(sa _ _ _ _ (by first | rfl | exact lA _ _ rfl | (simp only [plRows_eq,aAh,aAl];omega))).mdd _ _ _ _,And.intro rfl aZ,?_⟩;conv=>whnf)
  | (refine ⟨_,_,(lf _ _ _ _ (by first | rfl | exact lA _ _ rfl | (simp only [plRows_eq,aAh,aAl];omega))).mdd _ _ _ _,And.intro rfl aZ,?_⟩;conv=>whnf)
  | (refine ⟨_,_,_,(iK _).mdd _ _ _ _,?_⟩;conv=>whnf)
  | (refine ⟨_,_,_,(iC _).mdd _ _ _ _,?_⟩;conv=>whnf)
  | (refine ⟨_,_,_,(dK _).mdd _ _ _ _,?_⟩;conv=>whnf)
  | (refine ⟨_,_,_,(dC _).mdd _ _ _ _,?_⟩;conv=>whnf)
  | (apply Exists.intro
     apply And.intro
     focus ((repeat' (first | exact hNa' | exact hNb' | exact gB (by first | omega | (simp only [aAp];omega)) | (apply kJ;focus omega)));done)
     conv=>whnf)
  | (refine And.intro rfl ?_;conv=>whnf)
  | (first | (refine And.intro (fun q=>absurd q (by decide)) (fun _=>?_);conv=>whnf) | (refine And.intro (fun _=>?_) (fun q=>absurd q (by decide));conv=>whnf))
  | (refine And.intro ?_ ?_ <;> (conv=>whnf))
  | fail)
 all_goals first
  | (show _=List.length _;simp;done)
  | (show _=List.length _;simp;omega)
  | (show _*(72:Nat)<=_;omega)
  | skip
 all_goals
  refine ⟨[0,1,2],rfl,?_⟩
  (repeat' (first | exact True.intro | exact rfl | refine And.intro ?_ ?_))
  have c:∀ (m:List (List DV)) (p q:List DV),(m.set (i+1) p).set i q=(m.set i q).set (i+1) p:=fun m p q=>List.set_comm _ _ (by omega)
  simp only [aBi,c,List.set_set]
theorem zZ (K C N:List (List DV)) (hK:K.length < 100000) (hC:C.length < 100000) (hN:N.length < 100000) (hK1:∀ x ∈ K,x.length=1) (hC1:∀ x ∈ C,x.length=1) (i:Nat) (hiK:i < K.length) (hiC:i < C.length) (hiN:i+1 < N.length)
 (aK aC aN bK bC bN:List (List DV)) (L:Nat) (haK:aK.length < 99999) (haC:aC.length=aK.length) (haN:aN.length < 99999) (ha1:0 < aK.length) (hbK:bK.length=L+1) (hbC:bC.length=L+1) (hbN:bN.length < 99999) (hL:L < 99999) (yk zk:List UInt8) (yc zc:List Ver)
 (haK1:∀ x ∈ aK,x.length=1) (haC1:∀ x ∈ aC,x.length=1) (hbK1:∀ x ∈ bK,x.length=1) (hbC1:∀ x ∈ bC,x.length=1)
 (hk0:K[i]? = some [aL yk]) (hc0:C[i]? = some [encVs yc]) (hkz:bK[0]? = some [aL zk]) (hcz:bC[0]? = some [encVs zc])
 (hNa:N[i]? = some [.own 27 1 aK,.own 32 1 aC,.own 26 3 aN]) (hNb:N[(i+1)]? = some [.own 27 1 bK,.own 32 1 bC,.own 26 3 bN])
 (naK:∀ x ∈ aK,∀ y ∈ x,noOwn y=true) (naC:∀ x ∈ aC,∀ y ∈ x,noOwn y=true) (nbK:∀ x ∈ bK,∀ y ∈ x,noOwn y=true) (nbC:∀ x ∈ bC,∀ y ∈ x,noOwn y=true)
 (k:Nat) (hk:bN.length=k+1) (cK cC cN:List (List DV)) (hbc:bN[0]? = some [.own 27 1 cK,.own 32 1 cC,.own 26 3 cN]) (ncK:∀ x ∈ cK,∀ y ∈ x,noOwn y=true) (ncC:∀ x ∈ cC,∀ y ∈ x,noOwn y=true)
 (H:List (List Blk)) :
 aE X H 68 [⟨27,1,K⟩,⟨32,1,C⟩,⟨26,67,N⟩] [.agg [.row 0 0 K.length,.row 0 1 C.length,.row 0 2 N.length],.d (.int .i64 ((i:Nat):Int)),.d (.int .i64 (((i+1):Nat):Int))] [none,none,none]
  (.agg [.row 0 0 K.length,.row 0 1 C.length,.row 0 2 N.length]) [⟨27,1,K.set i [aL zk]⟩,⟨32,1,C.set i [encVs zc]⟩,⟨26,67,(N.set i [.own 27 1 (aK.take aK.length ++ [[aL yk]]++aK.drop aK.length),.own 32 1 (aC.take aK.length ++ [[encVs yc]]++aC.drop aK.length),.own 26 3 (aN ++ [[.own 27 1 cK,.own 32 1 cC,.own 26 3 cN]])]).set (i+1) [.own 27 1 (aI bK 0),.own 32 1 (aI bC 0),.own 26 3 (aI bN 0)]⟩]:=by
 have w1:IntKind.i64.wrap (((i:Nat):Int)+1)=((i+1:Nat):Int):=by rw [aJ (by omega) (by omega)];omega
 have d1:decide ((((i+1):Nat):Int) < ((i:Nat):Int))=false:=decide_eq_false (by omega)
 have hNa':N[((i:Nat):Int).toNat]? = some [.own 27 1 aK,.own 32 1 aC,.own 26 3 aN]:=by rw [aBi];exact hNa
 have hNb':N[(((i+1):Nat):Int).toNat]? = some [.own 27 1 bK,.own 32 1 bC,.own 26 3 bN]:=by rw [aBi];exact hNb
 have hk0':K[((i:Nat):Int).toNat]? = some [aL yk]:=by rw [aBi];exact hk0
 have hc0':C[((i:Nat):Int).toNat]? = some [encVs yc]:=by rw [aBi];exact hc0
 have m1:min ((i:Nat):Int) (((i+1):Nat):Int)=((i:Nat):Int):=by omega
 have lA:∀ A B:List (List DV),A.length=B.length->(plRows A).length=B.length:=fun A B h=>by rw [plRows_eq,aAh];exact h
 have hkz':bK[(0:Int).toNat]? = some [aL zk]:=hkz
 have hcz':bC[(0:Int).toNat]? = some [encVs zc]:=hcz
 have w3:IntKind.i64.wrap ((((aK.length - 1:Nat):Int))+1)=((aK.length:Nat):Int):=by rw [aJ (by omega) (by omega)];omega
 have w4:IntKind.i64.wrap ((0:Int)+1)=((0+1:Nat):Int):=by decide
 have sb:∀ (A B D:List (List DV)) (H:List (List Blk)),A.length=bK.length->aD X H 80 [.agg [.d (.bool false)],.agg [.d (.sl A),.d (.sl B),.d (.sl D)]] (.d (.int .i64 0)) []:=fun A B D H h=>iX false A B D (by omega) (by omega) H
 have sa:∀ (A B D:List (List DV)) (H:List (List Blk)),A.length=aK.length->aD X H 80 [.agg [.d (.bool true)],.agg [.d (.sl A),.d (.sl B),.d (.sl D)]] (.d (.int .i64 ((aK.length - 1:Nat):Int))) []:=fun A B D H h=>by
  have:=iX true A B D (by omega) (by omega) H
  rw [h] at this
  exact this
 have iK:=fun H=>d_insK aK haK1 aK.length (aBo _) (aL yk) (by omega) H
 have iC:=fun H=>d_insC aC haC1 aK.length (by omega) (encVs yc) (by omega) H
 have dK:=fun H=>kR bK hbK1 0 (by omega) H
 have dC:=fun H=>kT bC hbC1 0 (by omega) H
 have lf:∀ (A B D:List (List DV)) (H:List (List Blk)),D.length=bN.length->aD X H 40 [.agg [.d (.sl A),.d (.sl B),.d (.sl D)]] (.d (.bool false)) []:=fun A B D H h=>by
  have:=kU A B D H
  rw [show ((D.length:Int)==0)=false by simp only [beq_eq_false_iff_ne];omega] at this
  exact this
 have hbc':bN[(0:Int).toNat]? = some [.own 27 1 cK,.own 32 1 cC,.own 26 3 cN]:=hbc
 have dN:∀ (x y z:List DV) (H:List (List Blk)),aE X H 81 [⟨26,67,((bN.set (0:Int).toNat x).set (0:Int).toNat y).set (0:Int).toNat z⟩] [.row 0 0 bN.length,.d (.int .i64 ((0:Nat):Int)),.d (.int .i64 ((0+1:Nat):Int))] [none] (.row 0 0 (aI bN 0).length) [⟨26,67,aI bN 0⟩]:=fun x y z H=>by
  have h:=tP (bN.set 0 z) 0 (by rw [aAp];omega) H
  rw [mU,aAp] at h
  rw [List.set_set,List.set_set]
  exact h
 refine aQ aY false [26] [] (mo:=moL 11 11) (by kernel_rfl) Try.func68 rfl ?_
 conv=>whnf
 rw [d1]
 conv=>whnf
 repeat' (first
  | (refine ⟨by omega,by omega,?_⟩;conv=>whnf)
  | (refine ⟨_,hNa',?_⟩;conv=>whnf)
  | (refine ⟨_,hNb',?_⟩;conv=>whnf)
  | (refine ⟨_,hk0',?_⟩;conv=>whnf)
  | (refine ⟨_,hc0',?_⟩;conv=>whnf)
  | (refine ⟨_,hkz',?_⟩;conv=>whnf)
  | (refine ⟨_,hcz',?_⟩;conv=>whnf)
  | (refine ⟨_,hbc',?_⟩;conv=>whnf)
  | (intro z hz
     conv=>whnf
     first | rw [w1] at hz | rw [w3] at hz | rw [w4] at hz | rw [m1] at hz
     subst hz)
  | (refine ⟨naK,?_⟩;conv=>whnf)
  | (refine ⟨nbK,?_⟩;conv=>whnf)
  | (refine ⟨naC,?_⟩;conv=>whnf)
  | (refine ⟨nbC,?_⟩;conv=>whnf)
  | (refine ⟨ncK,?_⟩;conv=>whnf)
  | (refine ⟨ncC,?_⟩;conv=>whnf)
  | (refine ⟨rfl,?_⟩;conv=>whnf)
  | (refine ⟨_,_,(sb _ _ _ _ (by first | rfl | exact lA _ _ rfl | (simp only [plRows_eq,aAh,aAl];omega))).mdd _ _ _ _,And.intro rfl aZ,?_⟩;conv=>whnf)
  | (refine ⟨_,_,(sa _ _ _ _ (by first | rfl | exact lA _ _ rfl | (simp only [plRows_eq,aAh,aAl];omega))).mdd _ _ _ _,And.intro rfl aZ,?_⟩;conv=>whnf)
  | (refine ⟨_,_,(lf _ _ _ _ (by first | rfl | exact lA _ _ rfl | (simp only [plRows_eq,aAh,aAl];omega))).mdd _ _ _ _,And.intro rfl aZ,?_⟩;conv=>whnf)
  | (refine ⟨_,_,_,(iK _).mdd _ _ _ _,?_⟩;conv=>whnf)
  | (refine ⟨_,_,_,(iC _).mdd _ _ _ _,?_⟩;conv=>whnf)
  | (refine ⟨_,_,_,(dK _).mdd _ _ _ _,?_⟩;conv=>whnf)
  | (refine ⟨_,_,_,(dC _).mdd _ _ _ _,?_⟩;conv=>whnf)
  | (refine ⟨_,_,_,(dN _ _ _ _).mdd _ _ _ _,?_⟩;conv=>whnf)
  | (apply Exists.intro
     apply And.intro
     focus ((repeat' (first | exact hNa' | exact hNb' | exact hbc' | exact gB (by first | omega | (simp only [aAp];omega)) | (apply kJ;focus omega)));done)
     conv=>whnf)
  | (refine And.intro rfl ?_;conv=>whnf)
  | (first | (refine And.intro (fun q=>absurd q (by decide)) (fun _=>?_);conv=>whnf) | (refine And.intro (fun _=>?_) (fun q=>absurd q (by decide));conv=>whnf))
  | (refine And.intro ?_ ?_ <;> (conv=>whnf))
  | fail)
 all_goals first
  | (show _=List.length _;simp;done)
  | (show _=List.length _;simp;omega)
  | (show _*(72:Nat)<=_;omega)
  | skip
 all_goals
  refine ⟨[0,1,2],rfl,?_⟩
  (repeat' (first | exact True.intro | exact rfl | refine And.intro ?_ ?_))
  have c:∀ (m:List (List DV)) (p q:List DV),(m.set (i+1) p).set i q=(m.set i q).set (i+1) p:=fun m p q=>List.set_comm _ _ (by omega)
  simp only [aBi,c,List.set_set]
theorem kV {d:Nat} {n c:Node} {i:Nat} (h:shN (d+2) n) (hc:n.kids[i]? = some c):shN (d+1) c:=by
 rcases h.2.2 with ⟨h0,_⟩ | ⟨_,h0⟩
 . omega
 . exact h0 c (aAg hc)
theorem dE {d:Nat} {c:Node} (h:shN (d+1) c):c.keys.length<=3/\c.chains.length=c.keys.length/\(c.kids = []\/c.kids.length=c.keys.length+1):=by
 obtain ⟨h1,h2,h3⟩:=h
 refine ⟨h2,h1,?_⟩
 rcases h3 with ⟨_,h3⟩ | ⟨h3,_⟩
 . exact .inl h3
 . exact .inr h3
theorem kW {c:Node} (h1:c.keys.length<=3) (h:c.kids = []\/c.kids.length=c.keys.length+1):c.kids.length<=4:=by
 rcases h with h | h
 . rw [h];exact aBn _
 . omega
theorem qJ {d:Nat} {n c:Node} {i:Nat} (h:shN (d+1) n) (hc:n.kids[i]? = some c):n.kids.length=n.keys.length+1:=by
 rcases (dE h).2.2 with h0 | h0
 . rw [h0] at hc;simp at hc
 . exact h0
theorem bV {n c:Node} {i:Nat} (hc:n.kids[i]? = some c):(n.kids.map ownN)[i]? = some [.own 27 1 (aF c.keys),.own 32 1 (aG c.chains),.own 26 3 (c.kids.map ownN)]:=by
 rw [aAi,hc,<- ownN_eq];rfl
theorem gC {ks:List (List UInt8)} {i:Nat} (h:i < ks.length):(aF ks)[i]? = some [aL (ks.getD i [])]:=by
 unfold aF;rw [aAi,getD_of (d:=[]) h];rfl
theorem eX {cs:List (List Ver)} {i:Nat} (h:i < cs.length):(aG cs)[i]? = some [encVs (cs.getD i [])]:=by
 unfold aG;rw [aAi,getD_of (d:=[]) h];rfl
theorem dX {α β:Type} (f:α->β) (l:List α) (i:Nat):aI (l.map f) i=(aI l i).map f:=by
 unfold aI;rw [List.map_append,List.map_take,List.map_drop]
theorem mV {d:Nat} (n:Node) (i:Nat) (a b:Node) (h:shN (d+2) n) (ha:n.kids[i]? = some a) (hb:n.kids[i+1]? = some b) (H:List (List Blk)) :
 aE X H 69 (nodeR n) [nodeV n,.d (.int .i64 i)] [none,none,none] (nodeV (bG n i)) (nodeR (bG n i)):=by
 obtain ⟨n1,n2,_⟩:=dE h
 have n3:=qJ h ha
 obtain ⟨a1,a2,a3⟩:=dE (kV h ha)
 obtain ⟨b1,b2,b3⟩:=dE (kV h hb)
 have hi:i+1 < n.kids.length:=(aAe.1 hb).1
 have l1:(aF n.keys).length=n.keys.length:=aAh ..
 have l2:(aG n.chains).length=n.chains.length:=aAh ..
 have l3:(n.kids.map ownN).length=n.kids.length:=aAh ..
 have k1:(aF a.keys).length=a.keys.length:=aAh ..
 have k2:(aG a.chains).length=a.chains.length:=aAh ..
 have k3:(a.kids.map ownN).length=a.kids.length:=aAh ..
 have q1:(aF b.keys).length=b.keys.length:=aAh ..
 have q2:(aG b.chains).length=b.chains.length:=aAh ..
 have q3:(b.kids.map ownN).length=b.kids.length:=aAh ..
 have z3:a.kids.length<=4:=kW a1 a3
 have z4:b.kids.length<=4:=kW b1 b3
 have hj:=zV (aF n.keys) (aG n.chains) (n.kids.map ownN) (by omega) (by omega) (by omega) (bY _) (bZ _) i (by omega) (by omega) (by omega) (aF a.keys) (aG a.chains) (a.kids.map ownN) (aF b.keys) (aG b.chains) (b.kids.map ownN) (by omega) (by omega) (by omega)
  (n.keys.getD i []) (n.chains.getD i []) (bY _) (bZ _) (bY _) (bZ _) (gC (by omega)) (eX (by omega)) (bV ha) (bV hb) (noOwn_K _) (noOwn_C _) (noOwn_K _) (noOwn_C _) H
 have e:bG n i = .mk (aI n.keys i) (aI n.chains i) (aI (n.kids.set i (cS a (n.keys.getD i [],n.chains.getD i []) b)) (i+1)):=by unfold bG;rw [ha,hb]
 have e0:ownN (cS a (n.keys.getD i [],n.chains.getD i []) b) = [.own 27 1 (aF a.keys ++ [[aL (n.keys.getD i [])]]++aF b.keys),.own 32 1 (aG a.chains ++ [[encVs (n.chains.getD i [])]]++aG b.chains),.own 26 3 (a.kids.map ownN++b.kids.map ownN)]:=by
  rw [ownN_eq]
  unfold cS aF aG
  simp [Node.keys,Node.chains,Node.kids]
 rw [<- e0] at hj
 have f1:aI (aF n.keys) i=aF (aI n.keys i):=dX _ _ _
 have f2:aI (aG n.chains) i=aG (aI n.chains i):=dX _ _ _
 have f3:aI ((n.kids.map ownN).set i (ownN (cS a (n.keys.getD i [],n.chains.getD i []) b))) (i+1)=(aI (n.kids.set i (cS a (n.keys.getD i [],n.chains.getD i []) b)) (i+1)).map ownN:=by
  rw [<- List.map_set,dX]
 rw [f1,f2,f3,l1,l2,l3] at hj
 rw [e]
 unfold nodeR nodeV
 have g1:(aF (aI n.keys i)).length=(aI n.keys i).length:=aAh ..
 have g2:(aG (aI n.chains i)).length=(aI n.chains i).length:=aAh ..
 have g3:∀ l:List Node,(l.map ownN).length=l.length:=fun l=>aAh ..
 rw [g1,g2,g3] at hj
 exact hj
theorem pN {a b:Node} {p:KV} {x:List (List DV)} (hx:x=(b.kids.drop (b.kids.length - 1)).map ownN++a.kids.map ownN):ownN (eE a b p) = [.own 27 1 ((aF a.keys).take 0 ++ [[aL p.1]]++(aF a.keys).drop 0),.own 32 1 ((aG a.chains).take 0 ++ [[encVs p.2]]++(aG a.chains).drop 0),.own 26 3 x]:=by
 rw [ownN_eq,hx]
 unfold eE aF aG
 simp [Node.keys,Node.chains,Node.kids]
theorem pO {b:Node} {L:Nat} {x:List (List DV)} (h1:b.keys.length=L+1) (h2:b.chains.length=L+1) (hx:x=(b.kids.take (b.kids.length - 1)).map ownN):ownN (eF b) = [.own 27 1 (aI (aF b.keys) L),.own 32 1 (aI (aG b.chains) L),.own 26 3 x]:=by
 rw [ownN_eq,hx]
 unfold eF aF aG
 rw [dX,dX]
 have d1:aI b.keys L=b.keys.take (b.keys.length - 1):=by
  unfold aI;rw [h1,aAz (by omega)];simp
 have d2:aI b.chains L=b.chains.take (b.keys.length - 1):=by
  unfold aI;rw [h1,aAz (by omega)];simp
 rw [d1,d2]
 rfl
theorem pP {a b:Node} {p:KV} {x:List (List DV)} (h2:a.chains.length=a.keys.length) (hx:x=a.kids.map ownN++(b.kids.take 1).map ownN):ownN (fC a b p) = [.own 27 1 ((aF a.keys).take (aF a.keys).length ++ [[aL p.1]]++(aF a.keys).drop (aF a.keys).length),.own 32 1 ((aG a.chains).take (aF a.keys).length ++ [[encVs p.2]]++(aG a.chains).drop (aF a.keys).length),.own 26 3 x]:=by
 have e:(aF a.keys).length=(aG a.chains).length:=by unfold aF aG;rw [aAh,aAh,h2]
 have t1:(aG a.chains).take (aF a.keys).length=aG a.chains:=by rw [e,aAw]
 have t2:(aG a.chains).drop (aF a.keys).length = []:=by rw [e,List.drop_length]
 rw [t1,t2,aAw,List.drop_length,ownN_eq,hx]
 unfold fC aF aG
 simp [Node.keys,Node.chains,Node.kids]
theorem pQ {b:Node} {x:List (List DV)} (hx:x=(b.kids.drop 1).map ownN):ownN (fD b) = [.own 27 1 (aI (aF b.keys) 0),.own 32 1 (aI (aG b.chains) 0),.own 26 3 x]:=by
 rw [ownN_eq,hx]
 unfold fD aF aG aI
 simp [Node.keys,Node.chains,Node.kids,List.map_drop]
theorem kD {n:Node} {i:Nat} {K C N:List (List DV)} {A B:Node} {p:KV} (hK:K=(aF n.keys).set i [aL p.1]) (hC:C=(aG n.chains).set i [encVs p.2]) (hN:N=((n.kids.map ownN).set i (ownN A)).set (i+1) (ownN B)) {args:List PV} {f:Nat} {G:List RowB} {H:List (List Blk)}
 (h:aE X H f G args [none,none,none] (.agg [.row 0 0 n.keys.length,.row 0 1 n.chains.length,.row 0 2 n.kids.length]) [⟨27,1,K⟩,⟨32,1,C⟩,⟨26,67,N⟩]) :
 aE X H f G args [none,none,none] (nodeV (bP n i p A B)) (nodeR (bP n i p A B)):=by
 have f1:K=aF (bP n i p A B).keys:=by rw [hK];unfold bP aF;rw [<- List.map_set];rfl
 have f2:C=aG (bP n i p A B).chains:=by rw [hC];unfold bP aG;rw [<- List.map_set];rfl
 have f3:N=(bP n i p A B).kids.map ownN:=by rw [hN];unfold bP;simp only [Node.kids,List.map_set]
 have l1:n.keys.length=(bP n i p A B).keys.length:=by unfold bP;simp [Node.keys]
 have l2:n.chains.length=(bP n i p A B).chains.length:=by unfold bP;simp [Node.chains]
 have l3:n.kids.length=(bP n i p A B).kids.length:=by unfold bP;simp [Node.kids]
 rw [f1,f2,f3,l1,l2,l3] at h
 exact h
theorem tQ {d:Nat} (n:Node) (i:Nat) (h:shN (d+2) n) (hi:i+1 < n.kids.length) (ha1:0 < (aA n (i+1)).keys.length) (hb1:0 < (aA n i).keys.length) (H:List (List Blk)) :
 aE X H 68 (nodeR n) [nodeV n,.d (.int .i64 ((i+1:Nat):Int)),.d (.int .i64 i)] [none,none,none] (nodeV (bH n (i+1) i)) (nodeR (bH n (i+1) i)):=by
 have hb:n.kids[i]? = some (aA n i):=aW (by omega)
 have ha:n.kids[i+1]? = some (aA n (i+1)):=aW hi
 have e:bH n (i+1) i=bP n i (bA (aA n i) ((aA n i).keys.length - 1)) (eF (aA n i)) (eE (aA n (i+1)) (aA n i) (bA n i)):=by unfold bH;rw [if_pos (by omega)]
 rw [e]
 generalize aA n i=b at *
 generalize aA n (i+1)=a at *
 obtain ⟨n1,n2,_⟩:=dE h
 have n3:=qJ h ha
 obtain ⟨a1,a2,a3⟩:=dE (kV h ha)
 obtain ⟨b1,b2,b3⟩:=dE (kV h hb)
 have l1:(aF n.keys).length=n.keys.length:=aAh ..
 have l2:(aG n.chains).length=n.chains.length:=aAh ..
 have l3:(n.kids.map ownN).length=n.kids.length:=aAh ..
 have k1:(aF a.keys).length=a.keys.length:=aAh ..
 have k2:(aG a.chains).length=a.chains.length:=aAh ..
 have k3:(a.kids.map ownN).length=a.kids.length:=aAh ..
 have q1:(aF b.keys).length=b.keys.length:=aAh ..
 have q2:(aG b.chains).length=b.chains.length:=aAh ..
 have q3:(b.kids.map ownN).length=b.kids.length:=aAh ..
 have z3:a.kids.length<=4:=kW a1 a3
 obtain ⟨L,hL⟩:∃ L,b.keys.length=L+1:=⟨b.keys.length - 1,by omega⟩
 have hcomm:∀ (x y:List DV),((n.kids.map ownN).set (i+1) x).set i y=((n.kids.map ownN).set i y).set (i+1) x:=fun x y=>List.set_comm _ _ (by omega)
 rw [hL,aB3]
 rcases b3 with b3 | b3
 . have hw:=zW (aF n.keys) (aG n.chains) (n.kids.map ownN) (by omega) (by omega) (by omega) (bY _) (bZ _) i (by omega) (by omega) (by omega) (aF a.keys) (aG a.chains) (a.kids.map ownN) (aF b.keys) (aG b.chains) (b.kids.map ownN) L (by omega) (by omega) (by omega) (by omega) (by omega) (by omega) (by rw [q3,b3];simp) (by omega)
    (n.keys.getD i []) (b.keys.getD L []) (n.chains.getD i []) (b.chains.getD L []) (bY _) (bZ _) (bY _) (bZ _) (gC (by omega)) (eX (by omega)) (gC (by omega)) (eX (by omega)) (bV ha) (bV hb) (noOwn_K _) (noOwn_C _) (noOwn_K _) (noOwn_C _) (by rw [b3];rfl) H
   rw [l1,l2,l3] at hw
   refine kD (p:=bA b L) rfl rfl ?_ hw
   have ea:=pN (a:=a) (b:=b) (p:=bA n i) (x:=a.kids.map ownN) (by rw [b3];rfl)
   have eb:=pO (b:=b) (L:=L) (x:=b.kids.map ownN) hL (by omega) (by rw [b3];rfl)
   rw [hcomm,ea,eb]
   rfl
 . obtain ⟨k,hk⟩:∃ k,b.kids.length=k+1:=⟨b.keys.length,b3⟩
   obtain ⟨c,hc⟩:∃ c,b.kids[k]? = some c:=⟨_,aAf (by omega)⟩
   have hw:=zX (aF n.keys) (aG n.chains) (n.kids.map ownN) (by omega) (by omega) (by omega) (bY _) (bZ _) i (by omega) (by omega) (by omega) (aF a.keys) (aG a.chains) (a.kids.map ownN) (aF b.keys) (aG b.chains) (b.kids.map ownN) L (by omega) (by omega) (by omega) (by omega) (by omega) (by omega) (by omega) (by omega)
    (n.keys.getD i []) (b.keys.getD L []) (n.chains.getD i []) (b.chains.getD L []) (bY _) (bZ _) (bY _) (bZ _) (gC (by omega)) (eX (by omega)) (gC (by omega)) (eX (by omega)) (bV ha) (bV hb) (noOwn_K _) (noOwn_C _) (noOwn_K _) (noOwn_C _)
    k (by omega) (aF c.keys) (aG c.chains) (c.kids.map ownN) (bV hc) (noOwn_K _) (noOwn_C _) H
   rw [l1,l2,l3] at hw
   refine kD (p:=bA b L) rfl rfl ?_ hw
   have hd:b.kids.drop k = [c]:=by
    have:=aBg (l:=b.kids) (i:=k) (by omega)
    rw [this,(aAe.1 hc).2,aAz (by omega)]
   have ec : [DV.own 27 1 (aF c.keys),.own 32 1 (aG c.chains),.own 26 3 (c.kids.map ownN)]=ownN c:=(ownN_eq c).symm
   have ea:=pN (a:=a) (b:=b) (p:=bA n i) (x:=(a.kids.map ownN).take 0 ++ [[.own 27 1 (aF c.keys),.own 32 1 (aG c.chains),.own 26 3 (c.kids.map ownN)]]++(a.kids.map ownN).drop 0) (by rw [hk,aB3,hd,ec];rfl)
   have eb:=pO (b:=b) (L:=L) (x:=aI (b.kids.map ownN) k) hL (by omega) (by
    rw [dX,hk,aB3]
    unfold aI
    rw [aAz (by omega),List.append_nil])
   rw [hcomm,ea,eb]
   rfl
theorem aAa {d:Nat} (n:Node) (i:Nat) (h:shN (d+2) n) (hi:i+1 < n.kids.length) (ha1:0 < (aA n i).keys.length) (hb1:0 < (aA n (i+1)).keys.length) (H:List (List Blk)) :
 aE X H 68 (nodeR n) [nodeV n,.d (.int .i64 i),.d (.int .i64 ((i+1:Nat):Int))] [none,none,none] (nodeV (bH n i (i+1))) (nodeR (bH n i (i+1))):=by
 have ha:n.kids[i]? = some (aA n i):=aW (by omega)
 have hb:n.kids[i+1]? = some (aA n (i+1)):=aW hi
 have e:bH n i (i+1)=bP n i (bA (aA n (i+1)) 0) (fC (aA n i) (aA n (i+1)) (bA n i)) (fD (aA n (i+1))):=by unfold bH;rw [if_neg (by omega)]
 rw [e]
 generalize aA n i=a at *
 generalize aA n (i+1)=b at *
 obtain ⟨n1,n2,_⟩:=dE h
 have n3:=qJ h ha
 obtain ⟨a1,a2,a3⟩:=dE (kV h ha)
 obtain ⟨b1,b2,b3⟩:=dE (kV h hb)
 have l1:(aF n.keys).length=n.keys.length:=aAh ..
 have l2:(aG n.chains).length=n.chains.length:=aAh ..
 have l3:(n.kids.map ownN).length=n.kids.length:=aAh ..
 have k1:(aF a.keys).length=a.keys.length:=aAh ..
 have k2:(aG a.chains).length=a.chains.length:=aAh ..
 have k3:(a.kids.map ownN).length=a.kids.length:=aAh ..
 have q1:(aF b.keys).length=b.keys.length:=aAh ..
 have q2:(aG b.chains).length=b.chains.length:=aAh ..
 have q3:(b.kids.map ownN).length=b.kids.length:=aAh ..
 have z3:a.kids.length<=4:=kW a1 a3
 obtain ⟨L,hL⟩:∃ L,b.keys.length=L+1:=⟨b.keys.length - 1,by omega⟩
 rcases b3 with b3 | b3
 . have hw:=zY (aF n.keys) (aG n.chains) (n.kids.map ownN) (by omega) (by omega) (by omega) (bY _) (bZ _) i (by omega) (by omega) (by omega) (aF a.keys) (aG a.chains) (a.kids.map ownN) (aF b.keys) (aG b.chains) (b.kids.map ownN) L (by omega) (by omega) (by omega) (by omega) (by omega) (by omega) (by rw [q3,b3];simp) (by omega)
    (n.keys.getD i []) (b.keys.getD 0 []) (n.chains.getD i []) (b.chains.getD 0 []) (bY _) (bZ _) (bY _) (bZ _) (gC (by omega)) (eX (by omega)) (gC (by omega)) (eX (by omega)) (bV ha) (bV hb) (noOwn_K _) (noOwn_C _) (noOwn_K _) (noOwn_C _) (by rw [b3];rfl) H
   rw [l1,l2,l3] at hw
   refine kD (p:=bA b 0) rfl rfl ?_ hw
   have ea:=pP (a:=a) (b:=b) (p:=bA n i) (x:=a.kids.map ownN) a2 (by rw [b3];simp)
   have eb:=pQ (b:=b) (x:=b.kids.map ownN) (by rw [b3];rfl)
   rw [ea,eb]
   rfl
 . obtain ⟨k,hk⟩:∃ k,b.kids.length=k+1:=⟨b.keys.length,b3⟩
   obtain ⟨c,hc⟩:∃ c,b.kids[0]? = some c:=⟨_,aAf (by omega)⟩
   have hw:=zZ (aF n.keys) (aG n.chains) (n.kids.map ownN) (by omega) (by omega) (by omega) (bY _) (bZ _) i (by omega) (by omega) (by omega) (aF a.keys) (aG a.chains) (a.kids.map ownN) (aF b.keys) (aG b.chains) (b.kids.map ownN) L (by omega) (by omega) (by omega) (by omega) (by omega) (by omega) (by omega) (by omega)
    (n.keys.getD i []) (b.keys.getD 0 []) (n.chains.getD i []) (b.chains.getD 0 []) (bY _) (bZ _) (bY _) (bZ _) (gC (by omega)) (eX (by omega)) (gC (by omega)) (eX (by omega)) (bV ha) (bV hb) (noOwn_K _) (noOwn_C _) (noOwn_K _) (noOwn_C _)
    k (by omega) (aF c.keys) (aG c.chains) (c.kids.map ownN) (bV hc) (noOwn_K _) (noOwn_C _) H
   rw [l1,l2,l3] at hw
   refine kD (p:=bA b 0) rfl rfl ?_ hw
   have hd:b.kids.take 1 = [c]:=by
    have:=aBg (l:=b.kids) (i:=0) (by omega)
    rw [List.drop_zero,(aAe.1 hc).2] at this
    rw [this];rfl
   have ec : [DV.own 27 1 (aF c.keys),.own 32 1 (aG c.chains),.own 26 3 (c.kids.map ownN)]=ownN c:=(ownN_eq c).symm
   have ea:=pP (a:=a) (b:=b) (p:=bA n i) (x:=a.kids.map ownN ++ [[.own 27 1 (aF c.keys),.own 32 1 (aG c.chains),.own 26 3 (c.kids.map ownN)]]) a2 (by rw [hd,ec];rfl)
   have eb:=pQ (b:=b) (x:=aI (b.kids.map ownN) 0) (by
    rw [dX]
    unfold aI
    simp)
   rw [ea,eb]
   rfl
theorem d_fillD {d:Nat} (n:Node) (i:Nat) (h:shN (d+2) n) (hm:mnN (d+2) n) (hi:i < n.kids.length) (h2:2<=n.kids.length) (H:List (List Blk)) :
 aE X H 70 (nodeR n) [nodeV n,.d (.int .i64 i)] [none,none,none] (.tuple [nodeV (cE n i).1,.d (.int .i64 ((cE n i).2:Nat))]) (nodeR (cE n i).1):=by
 have hk:∀ j,j < n.kids.length->n.kids[j]? = some (aA n j):=fun j hj=>aW hj
 have h1:∀ j,j < n.kids.length->1<=(aA n j).keys.length:=fun j hj=>(hm _ (aAg (hk j hj))).1
 have h4:n.kids.length<=4:=kW (dE h).1 (dE h).2.2
 have ho:∀ j,j < n.kids.length->(n.kids.map ownN)[((j:Nat):Int).toNat]? = some [.own 27 1 (aF (aA n j).keys),.own 32 1 (aG (aA n j).chains),.own 26 3 ((aA n j).kids.map ownN)]:=fun j hj=>by rw [aBi];exact bV (hk j hj)
 have hl:∀ j,(aF (aA n j).keys).length=(aA n j).keys.length:=fun j=>aAh ..
 have e1:∀ (j:Nat) (b:Bool),decide (1 < (aA n j).keys.length)=b->decide (((aF (aA n j).keys).length:Int) > 1)=b:=fun j b hb=>by
  rw [<- hb,hl j]
  exact decide_eq_decide.2 ⟨fun h=>by omega,fun h=>by omega⟩
 have wm:0 < i->IntKind.i64.wrap (((i:Nat):Int) - 1)=((i - 1:Nat):Int):=fun h0=>by rw [aJ (by omega) (by omega)];omega
 have wp:IntKind.i64.wrap (((i:Nat):Int)+1)=((i+1:Nat):Int):=by rw [aJ (by omega) (by omega)];omega
 have hoi:=ho i hi
 unfold nodeR nodeV
 by_cases c1:1 < (aA n i).keys.length
 . have e:cE n i=(n,i):=by unfold cE;rw [if_pos c1]
   rw [e]
   have f1:=e1 i true (decide_eq_true c1)
   refine aQ aY false [26] [] (mo:=[]) (by kernel_rfl) Try.func70 rfl ?_
   conv=>whnf
   repeat' (first
   | (refine ⟨by omega,by omega,?_⟩;conv=>whnf)
   | (refine ⟨_,hoi,?_⟩;conv=>whnf)
   | (refine ⟨_,hoj,?_⟩;conv=>whnf)
   | (refine ⟨_,hop,?_⟩;conv=>whnf)
   | (intro z hz
      conv=>whnf
      first | rw [wp] at hz | rw [w] at hz
      subst hz)
   | (refine ⟨_,_,_,(hc _).mdd _ _ _ _,?_⟩;conv=>whnf)
   | (refine And.intro (fun _=>?_) (fun q=>absurd (f1.symm.trans q) (by decide));conv=>whnf)
   | (refine And.intro (fun q=>absurd (f1.symm.trans q) (by decide)) (fun _=>?_);conv=>whnf)
   | (refine And.intro (fun _=>?_) (fun q=>absurd (f2.symm.trans q) (by decide));conv=>whnf)
   | (refine And.intro (fun q=>absurd (f2.symm.trans q) (by decide)) (fun _=>?_);conv=>whnf)
   | (refine And.intro (fun _=>?_) (fun q=>absurd (f3.symm.trans q) (by decide));conv=>whnf)
   | (refine And.intro (fun q=>absurd (f3.symm.trans q) (by decide)) (fun _=>?_);conv=>whnf)
   | (refine And.intro (fun _=>?_) (fun q=>absurd (f4.symm.trans q) (by decide));conv=>whnf)
   | (refine And.intro (fun q=>absurd (f4.symm.trans q) (by decide)) (fun _=>?_);conv=>whnf)
   | (refine And.intro (fun _=>?_) (fun q=>absurd (f5.symm.trans q) (by decide));conv=>whnf)
   | (refine And.intro (fun q=>absurd (f5.symm.trans q) (by decide)) (fun _=>?_);conv=>whnf)
   | fail)
   refine ⟨[0,1,2],rfl,?_⟩
   (repeat' (first | exact True.intro | exact rfl | refine And.intro ?_ ?_))
 have f1:=e1 i false (decide_eq_false c1)
 by_cases c2:0 < i/\1 < (aA n (i - 1)).keys.length
 . have e:cE n i=(bH n i (i - 1),i):=by unfold cE;rw [if_neg c1,if_pos c2]
   rw [e]
   have f2:decide (((i:Nat):Int) > 0)=true:=decide_eq_true (by omega)
   have f3:=e1 (i - 1) true (decide_eq_true c2.2)
   have hoj:=ho (i - 1) (by omega)
   have w:=wm c2.1
   have hc:=fun H=>tQ n (i - 1) h (by omega) (h1 _ (by omega)) (h1 _ (by omega)) H
   rw [show i - 1+1=i by omega] at hc
   unfold nodeR nodeV at hc
   refine aQ aY false [26] [] (mo:=[]) (by kernel_rfl) Try.func70 rfl ?_
   conv=>whnf
   repeat' (first
   | (refine ⟨by omega,by omega,?_⟩;conv=>whnf)
   | (refine ⟨_,hoi,?_⟩;conv=>whnf)
   | (refine ⟨_,hoj,?_⟩;conv=>whnf)
   | (refine ⟨_,hop,?_⟩;conv=>whnf)
   | (intro z hz
      conv=>whnf
      first | rw [wp] at hz | rw [w] at hz
      subst hz)
   | (refine ⟨_,_,_,(hc _).mdd _ _ _ _,?_⟩;conv=>whnf)
   | (refine And.intro (fun _=>?_) (fun q=>absurd (f1.symm.trans q) (by decide));conv=>whnf)
   | (refine And.intro (fun q=>absurd (f1.symm.trans q) (by decide)) (fun _=>?_);conv=>whnf)
   | (refine And.intro (fun _=>?_) (fun q=>absurd (f2.symm.trans q) (by decide));conv=>whnf)
   | (refine And.intro (fun q=>absurd (f2.symm.trans q) (by decide)) (fun _=>?_);conv=>whnf)
   | (refine And.intro (fun _=>?_) (fun q=>absurd (f3.symm.trans q) (by decide));conv=>whnf)
   | (refine And.intro (fun q=>absurd (f3.symm.trans q) (by decide)) (fun _=>?_);conv=>whnf)
   | (refine And.intro (fun _=>?_) (fun q=>absurd (f4.symm.trans q) (by decide));conv=>whnf)
   | (refine And.intro (fun q=>absurd (f4.symm.trans q) (by decide)) (fun _=>?_);conv=>whnf)
   | (refine And.intro (fun _=>?_) (fun q=>absurd (f5.symm.trans q) (by decide));conv=>whnf)
   | (refine And.intro (fun q=>absurd (f5.symm.trans q) (by decide)) (fun _=>?_);conv=>whnf)
   | fail)
   first
    | (refine ⟨[6,7,8],rfl,?_⟩;(repeat' (first | exact True.intro | exact rfl | refine And.intro ?_ ?_));done)
    | (refine ⟨[7,8,9],rfl,?_⟩;(repeat' (first | exact True.intro | exact rfl | refine And.intro ?_ ?_));done)
    | (refine ⟨[8,9,10],rfl,?_⟩;(repeat' (first | exact True.intro | exact rfl | refine And.intro ?_ ?_));done)
    | (refine ⟨[9,10,11],rfl,?_⟩;(repeat' (first | exact True.intro | exact rfl | refine And.intro ?_ ?_));done)
 by_cases c3:i+1 < n.kids.length/\1 < (aA n (i+1)).keys.length
 . have e:cE n i=(bH n i (i+1),i):=by unfold cE;rw [if_neg c1,if_neg c2,if_pos c3]
   rw [e]
   have f4:decide (((i+1:Nat):Int) < (n.kids.length:Int))=true:=decide_eq_true (by omega)
   have f5:=e1 (i+1) true (decide_eq_true c3.2)
   have hop:=ho (i+1) c3.1
   have hc:=fun H=>aAa n i h (by omega) (h1 _ (by omega)) (h1 _ (by omega)) H
   unfold nodeR nodeV at hc
   by_cases c2':0 < i
   . have f2:decide (((i:Nat):Int) > 0)=true:=decide_eq_true (by omega)
     have f3:=e1 (i - 1) false (decide_eq_false fun h=>c2 ⟨c2',h⟩)
     have hoj:=ho (i - 1) (by omega)
     have w:=wm c2'
     refine aQ aY false [26] [] (mo:=[]) (by kernel_rfl) Try.func70 rfl ?_
     conv=>whnf
     repeat' (first
     | (refine ⟨by omega,by omega,?_⟩;conv=>whnf)
     | (refine ⟨_,hoi,?_⟩;conv=>whnf)
     | (refine ⟨_,hoj,?_⟩;conv=>whnf)
     | (refine ⟨_,hop,?_⟩;conv=>whnf)
     | (intro z hz
        conv=>whnf
        first | rw [wp] at hz | rw [w] at hz
        subst hz)
     | (refine ⟨_,_,_,(hc _).mdd _ _ _ _,?_⟩;conv=>whnf)
     | (refine And.intro (fun _=>?_) (fun q=>absurd (f1.symm.trans q) (by decide));conv=>whnf)
     | (refine And.intro (fun q=>absurd (f1.symm.trans q) (by decide)) (fun _=>?_);conv=>whnf)
     | (refine And.intro (fun _=>?_) (fun q=>absurd (f2.symm.trans q) (by decide));conv=>whnf)
     | (refine And.intro (fun q=>absurd (f2.symm.trans q) (by decide)) (fun _=>?_);conv=>whnf)
     | (refine And.intro (fun _=>?_) (fun q=>absurd (f3.symm.trans q) (by decide));conv=>whnf)
     | (refine And.intro (fun q=>absurd (f3.symm.trans q) (by decide)) (fun _=>?_);conv=>whnf)
     | (refine And.intro (fun _=>?_) (fun q=>absurd (f4.symm.trans q) (by decide));conv=>whnf)
     | (refine And.intro (fun q=>absurd (f4.symm.trans q) (by decide)) (fun _=>?_);conv=>whnf)
     | (refine And.intro (fun _=>?_) (fun q=>absurd (f5.symm.trans q) (by decide));conv=>whnf)
     | (refine And.intro (fun q=>absurd (f5.symm.trans q) (by decide)) (fun _=>?_);conv=>whnf)
     | fail)
     first
      | (refine ⟨[6,7,8],rfl,?_⟩;(repeat' (first | exact True.intro | exact rfl | refine And.intro ?_ ?_));done)
      | (refine ⟨[7,8,9],rfl,?_⟩;(repeat' (first | exact True.intro | exact rfl | refine And.intro ?_ ?_));done)
      | (refine ⟨[8,9,10],rfl,?_⟩;(repeat' (first | exact True.intro | exact rfl | refine And.intro ?_ ?_));done)
      | (refine ⟨[9,10,11],rfl,?_⟩;(repeat' (first | exact True.intro | exact rfl | refine And.intro ?_ ?_));done)
   . have f2:decide (((i:Nat):Int) > 0)=false:=decide_eq_false (by omega)
     refine aQ aY false [26] [] (mo:=[]) (by kernel_rfl) Try.func70 rfl ?_
     conv=>whnf
     repeat' (first
     | (refine ⟨by omega,by omega,?_⟩;conv=>whnf)
     | (refine ⟨_,hoi,?_⟩;conv=>whnf)
     | (refine ⟨_,hoj,?_⟩;conv=>whnf)
     | (refine ⟨_,hop,?_⟩;conv=>whnf)
     | (intro z hz
        conv=>whnf
        first | rw [wp] at hz | rw [w] at hz
        subst hz)
     | (refine ⟨_,_,_,(hc _).mdd _ _ _ _,?_⟩;conv=>whnf)
     | (refine And.intro (fun _=>?_) (fun q=>absurd (f1.symm.trans q) (by decide));conv=>whnf)
     | (refine And.intro (fun q=>absurd (f1.symm.trans q) (by decide)) (fun _=>?_);conv=>whnf)
     | (refine And.intro (fun _=>?_) (fun q=>absurd (f2.symm.trans q) (by decide));conv=>whnf)
     | (refine And.intro (fun q=>absurd (f2.symm.trans q) (by decide)) (fun _=>?_);conv=>whnf)
     | (refine And.intro (fun _=>?_) (fun q=>absurd (f3.symm.trans q) (by decide));conv=>whnf)
     | (refine And.intro (fun q=>absurd (f3.symm.trans q) (by decide)) (fun _=>?_);conv=>whnf)
     | (refine And.intro (fun _=>?_) (fun q=>absurd (f4.symm.trans q) (by decide));conv=>whnf)
     | (refine And.intro (fun q=>absurd (f4.symm.trans q) (by decide)) (fun _=>?_);conv=>whnf)
     | (refine And.intro (fun _=>?_) (fun q=>absurd (f5.symm.trans q) (by decide));conv=>whnf)
     | (refine And.intro (fun q=>absurd (f5.symm.trans q) (by decide)) (fun _=>?_);conv=>whnf)
     | fail)
     first
      | (refine ⟨[6,7,8],rfl,?_⟩;(repeat' (first | exact True.intro | exact rfl | refine And.intro ?_ ?_));done)
      | (refine ⟨[7,8,9],rfl,?_⟩;(repeat' (first | exact True.intro | exact rfl | refine And.intro ?_ ?_));done)
      | (refine ⟨[8,9,10],rfl,?_⟩;(repeat' (first | exact True.intro | exact rfl | refine And.intro ?_ ?_));done)
      | (refine ⟨[9,10,11],rfl,?_⟩;(repeat' (first | exact True.intro | exact rfl | refine And.intro ?_ ?_));done)
 by_cases c4:0 < i
 . have e:cE n i=(bG n (i - 1),i - 1):=by unfold cE;rw [if_neg c1,if_neg c2,if_neg c3,if_pos c4]
   rw [e]
   have f2:decide (((i:Nat):Int) > 0)=true:=decide_eq_true (by omega)
   have f3:=e1 (i - 1) false (decide_eq_false fun h=>c2 ⟨c4,h⟩)
   have hoj:=ho (i - 1) (by omega)
   have w:=wm c4
   have hc:=fun H=>mV n (i - 1) _ _ h (hk _ (by omega)) (hk _ (by omega)) H
   unfold nodeR nodeV at hc
   by_cases c3':i+1 < n.kids.length
   . have f4:decide (((i+1:Nat):Int) < (n.kids.length:Int))=true:=decide_eq_true (by omega)
     have f5:=e1 (i+1) false (decide_eq_false fun h=>c3 ⟨c3',h⟩)
     have hop:=ho (i+1) c3'
     refine aQ aY false [26] [] (mo:=[]) (by kernel_rfl) Try.func70 rfl ?_
     conv=>whnf
     repeat' (first
     | (refine ⟨by omega,by omega,?_⟩;conv=>whnf)
     | (refine ⟨_,hoi,?_⟩;conv=>whnf)
     | (refine ⟨_,hoj,?_⟩;conv=>whnf)
     | (refine ⟨_,hop,?_⟩;conv=>whnf)
     | (intro z hz
        conv=>whnf
        first | rw [wp] at hz | rw [w] at hz
        subst hz)
     | (refine ⟨_,_,_,(hc _).mdd _ _ _ _,?_⟩;conv=>whnf)
     | (refine And.intro (fun _=>?_) (fun q=>absurd (f1.symm.trans q) (by decide));conv=>whnf)
     | (refine And.intro (fun q=>absurd (f1.symm.trans q) (by decide)) (fun _=>?_);conv=>whnf)
     | (refine And.intro (fun _=>?_) (fun q=>absurd (f2.symm.trans q) (by decide));conv=>whnf)
     | (refine And.intro (fun q=>absurd (f2.symm.trans q) (by decide)) (fun _=>?_);conv=>whnf)
     | (refine And.intro (fun _=>?_) (fun q=>absurd (f3.symm.trans q) (by decide));conv=>whnf)
     | (refine And.intro (fun q=>absurd (f3.symm.trans q) (by decide)) (fun _=>?_);conv=>whnf)
     | (refine And.intro (fun _=>?_) (fun q=>absurd (f4.symm.trans q) (by decide));conv=>whnf)
     | (refine And.intro (fun q=>absurd (f4.symm.trans q) (by decide)) (fun _=>?_);conv=>whnf)
     | (refine And.intro (fun _=>?_) (fun q=>absurd (f5.symm.trans q) (by decide));conv=>whnf)
     | (refine And.intro (fun q=>absurd (f5.symm.trans q) (by decide)) (fun _=>?_);conv=>whnf)
     | fail)
     first
      | (refine ⟨[6,7,8],rfl,?_⟩;(repeat' (first | exact True.intro | exact rfl | refine And.intro ?_ ?_));done)
      | (refine ⟨[7,8,9],rfl,?_⟩;(repeat' (first | exact True.intro | exact rfl | refine And.intro ?_ ?_));done)
      | (refine ⟨[8,9,10],rfl,?_⟩;(repeat' (first | exact True.intro | exact rfl | refine And.intro ?_ ?_));done)
      | (refine ⟨[9,10,11],rfl,?_⟩;(repeat' (first | exact True.intro | exact rfl | refine And.intro ?_ ?_));done)
   . have f4:decide (((i+1:Nat):Int) < (n.kids.length:Int))=false:=decide_eq_false (by omega)
     refine aQ aY false [26] [] (mo:=[]) (by kernel_rfl) Try.func70 rfl ?_
     conv=>whnf
     repeat' (first
     | (refine ⟨by omega,by omega,?_⟩;conv=>whnf)
     | (refine ⟨_,hoi,?_⟩;conv=>whnf)
     | (refine ⟨_,hoj,?_⟩;conv=>whnf)
     | (refine ⟨_,hop,?_⟩;conv=>whnf)
     | (intro z hz
        conv=>whnf
        first | rw [wp] at hz | rw [w] at hz
        subst hz)
     | (refine ⟨_,_,_,(hc _).mdd _ _ _ _,?_⟩;conv=>whnf)
     | (refine And.intro (fun _=>?_) (fun q=>absurd (f1.symm.trans q) (by decide));conv=>whnf)
     | (refine And.intro (fun q=>absurd (f1.symm.trans q) (by decide)) (fun _=>?_);conv=>whnf)
     | (refine And.intro (fun _=>?_) (fun q=>absurd (f2.symm.trans q) (by decide));conv=>whnf)
     | (refine And.intro (fun q=>absurd (f2.symm.trans q) (by decide)) (fun _=>?_);conv=>whnf)
     | (refine And.intro (fun _=>?_) (fun q=>absurd (f3.symm.trans q) (by decide));conv=>whnf)
     | (refine And.intro (fun q=>absurd (f3.symm.trans q) (by decide)) (fun _=>?_);conv=>whnf)
     | (refine And.intro (fun _=>?_) (fun q=>absurd (f4.symm.trans q) (by decide));conv=>whnf)
     | (refine And.intro (fun q=>absurd (f4.symm.trans q) (by decide)) (fun _=>?_);conv=>whnf)
     | (refine And.intro (fun _=>?_) (fun q=>absurd (f5.symm.trans q) (by decide));conv=>whnf)
     | (refine And.intro (fun q=>absurd (f5.symm.trans q) (by decide)) (fun _=>?_);conv=>whnf)
     | fail)
     first
      | (refine ⟨[6,7,8],rfl,?_⟩;(repeat' (first | exact True.intro | exact rfl | refine And.intro ?_ ?_));done)
      | (refine ⟨[7,8,9],rfl,?_⟩;(repeat' (first | exact True.intro | exact rfl | refine And.intro ?_ ?_));done)
      | (refine ⟨[8,9,10],rfl,?_⟩;(repeat' (first | exact True.intro | exact rfl | refine And.intro ?_ ?_));done)
      | (refine ⟨[9,10,11],rfl,?_⟩;(repeat' (first | exact True.intro | exact rfl | refine And.intro ?_ ?_));done)
 . have e:cE n i=(bG n i,i):=by unfold cE;rw [if_neg c1,if_neg c2,if_neg c3,if_neg c4]
   rw [e]
   have f2:decide (((i:Nat):Int) > 0)=false:=decide_eq_false (by omega)
   have f4:decide (((i+1:Nat):Int) < (n.kids.length:Int))=true:=decide_eq_true (by omega)
   have f5:=e1 (i+1) false (decide_eq_false fun h=>c3 ⟨by omega,h⟩)
   have hop:=ho (i+1) (by omega)
   have hc:=fun H=>mV n i _ _ h (hk _ (by omega)) (hk _ (by omega)) H
   unfold nodeR nodeV at hc
   refine aQ aY false [26] [] (mo:=[]) (by kernel_rfl) Try.func70 rfl ?_
   conv=>whnf
   repeat' (first
   | (refine ⟨by omega,by omega,?_⟩;conv=>whnf)
   | (refine ⟨_,hoi,?_⟩;conv=>whnf)
   | (refine ⟨_,hoj,?_⟩;conv=>whnf)
   | (refine ⟨_,hop,?_⟩;conv=>whnf)
   | (intro z hz
      conv=>whnf
      first | rw [wp] at hz | rw [w] at hz
      subst hz)
   | (refine ⟨_,_,_,(hc _).mdd _ _ _ _,?_⟩;conv=>whnf)
   | (refine And.intro (fun _=>?_) (fun q=>absurd (f1.symm.trans q) (by decide));conv=>whnf)
   | (refine And.intro (fun q=>absurd (f1.symm.trans q) (by decide)) (fun _=>?_);conv=>whnf)
   | (refine And.intro (fun _=>?_) (fun q=>absurd (f2.symm.trans q) (by decide));conv=>whnf)
   | (refine And.intro (fun q=>absurd (f2.symm.trans q) (by decide)) (fun _=>?_);conv=>whnf)
   | (refine And.intro (fun _=>?_) (fun q=>absurd (f3.symm.trans q) (by decide));conv=>whnf)
   | (refine And.intro (fun q=>absurd (f3.symm.trans q) (by decide)) (fun _=>?_);conv=>whnf)
   | (refine And.intro (fun _=>?_) (fun q=>absurd (f4.symm.trans q) (by decide));conv=>whnf)
   | (refine And.intro (fun q=>absurd (f4.symm.trans q) (by decide)) (fun _=>?_);conv=>whnf)
   | (refine And.intro (fun _=>?_) (fun q=>absurd (f5.symm.trans q) (by decide));conv=>whnf)
   | (refine And.intro (fun q=>absurd (f5.symm.trans q) (by decide)) (fun _=>?_);conv=>whnf)
   | fail)
   first
    | (refine ⟨[6,7,8],rfl,?_⟩;(repeat' (first | exact True.intro | exact rfl | refine And.intro ?_ ?_));done)
    | (refine ⟨[7,8,9],rfl,?_⟩;(repeat' (first | exact True.intro | exact rfl | refine And.intro ?_ ?_));done)
    | (refine ⟨[8,9,10],rfl,?_⟩;(repeat' (first | exact True.intro | exact rfl | refine And.intro ?_ ?_));done)
    | (refine ⟨[9,10,11],rfl,?_⟩;(repeat' (first | exact True.intro | exact rfl | refine And.intro ?_ ?_));done)
inductive GNode where
 | mk (ks cs:List DV) (ns:List GNode)
def GNode.ks:GNode->List DV | .mk a _ _=>a
def GNode.cs:GNode->List DV | .mk _ b _=>b
def GNode.ns:GNode->List GNode | .mk _ _ c=>c
def ones (l:List DV):List (List DV):=l.map fun y=>[y]
mutual
def gCell:GNode->List DV
 | .mk a b c=>[.sl (ones a),.sl (ones b),.sl (gCells c)]
def gCells:List GNode->List (List DV)
 | []=>[]
 | n::ns=>gCell n::gCells ns
end
theorem gCells_eq:∀ ns,gCells ns=ns.map gCell
 | []=>by simp [gCells]
 | n::ns=>by simp [gCells,gCells_eq ns]
theorem gCell_eq (n:GNode):gCell n = [.sl (ones n.ks),.sl (ones n.cs),.sl (n.ns.map gCell)]:=by
 cases n with
 | mk a b c=>unfold gCell;rw [gCells_eq];rfl
def firstG:Nat->GNode->DV × DV
 | 0,_=>(.junk,.junk)
 | d+1,n=>match n.ns[0]? with | some c=>firstG d c | none=>(n.ks.getD 0 .junk,n.cs.getD 0 .junk)
def okG:Nat->GNode->Prop
 | 0,_=>False
 | d+1,n=>n.ns.length < 1000000/\((n.ns = []/\1<=n.ks.length/\1<=n.cs.length) \/ ∃ c,n.ns[0]? = some c/\okG d c)
theorem d_firstG (d:Nat) (n:GNode) (hs:okG d n) (H:List (List Blk)):aD X H 67 [.agg [.d (.sl (ones n.ks)),.d (.sl (ones n.cs)),.d (.sl (n.ns.map gCell))]] (.tuple [.d (firstG d n).1,.d (firstG d n).2]) []:=by
 obtain ⟨R,hR⟩:∃ R,firstG d n=R:=⟨_,rfl⟩
 rw [hR]
 refine callEq_of_body aY rfl Try.func67 rfl ?_
 conv=>whnf
 refine bI (fun i:Nat × GNode=>⟨[.any,.ptr 0 0 0,.nils,.nils,.any,.any,.any,.any,.any,.any,.any,.any,.any,.any,.any,.any,.any,.any,.any],[.box [.d (.sl (ones i.2.ks)),.d (.sl (ones i.2.cs)),.d (.sl (i.2.ns.map gCell))]]⟩)
  (fun i=>okG i.1 i.2/\firstG i.1 i.2=R) (fun i=>i.1) (d,n) [0] ⟨hs,hR⟩ ?_ ?_
 . refine And.intro rfl (And.intro ?_ ?_)
   all_goals (repeat' (first | exact True.intro | exact rfl | refine And.intro ?_ ?_))
 . rintro ⟨e,m⟩ ⟨hs,hR⟩
   dsimp only at hs hR
   obtain ⟨e,rfl⟩:∃ e',e=e'+1:=by cases e with | zero=>exact hs.elim | succ e=>exact ⟨e,rfl⟩
   obtain ⟨hlt,hs⟩:=hs
   have hlf:=fun H=>kU (ones m.ks) (ones m.cs) (m.ns.map gCell) H
   unfold firstG at hR
   conv=>whnf
   refine ⟨_,_,hlf _,True.intro,?_⟩
   conv=>whnf
   refine And.intro (fun q=>?_) (fun q=>?_) <;> (conv=>whnf)
   . rcases hs with ⟨h0,_⟩ | ⟨c,hc,hs⟩
     . rw [h0] at q;cases q
     rw [hc] at hR
     refine ⟨by omega,gCell c,by show (m.ns.map gCell)[0]? = _;rw [aAi,hc];rfl,by rw [gCell_eq];rfl,?_⟩
     rw [gCell_eq]
     conv=>whnf
     refine ⟨(e,c),[0],⟨hs,hR⟩,aBm _,And.intro rfl (And.intro ?_ ?_)⟩
     all_goals (repeat' (first | exact True.intro | exact rfl | refine And.intro ?_ ?_))
   . rcases hs with ⟨h0,h1,h2⟩ | ⟨c,hc,_⟩
     . rw [h0] at hR
       have hR:(m.ks.getD 0 .junk,m.cs.getD 0 .junk)=R:=hR
       subst hR
       have g1:(ones m.ks)[0]? = some [m.ks.getD 0 .junk]:=by unfold ones;rw [aAi,getD_of (d:=.junk) (by omega)];rfl
       have g2:(ones m.cs)[0]? = some [m.cs.getD 0 .junk]:=by unfold ones;rw [aAi,getD_of (d:=.junk) (by omega)];rfl
       refine ⟨by omega,_,g1,rfl,?_⟩
       conv=>whnf
       refine ⟨by omega,_,g2,rfl,?_⟩
       conv=>whnf
       refine ⟨[],rfl,?_⟩
       (repeat' (first | exact True.intro | exact rfl | refine And.intro ?_ ?_))
     . exfalso
       have h0:0 < m.ns.length:=(aAe.1 hc).1
       have q:((m.ns.map gCell).length:Int)=0:=by simpa using q
       rw [aAh] at q
       omega
theorem raw_ones (flat:List Value) (n:Nat):bB flat 1 n=ones ((List.range n).map fun i=>DV.val (flat.getD (i*1+0) undef)):=by
 unfold bB ones
 rw [aAx]
 exact List.map_congr_left fun i _=>rfl
def ReadN (w:World) (ok:Nat->Prop) (d:Nat) (n:Node) (u:Nat->Value) (g:GNode):Prop:=
 okG d g/\RD w (fun k=>k < w.heap.size) (.sl (ones g.ks)) (u 0)/\RD w (fun k=>k < w.heap.size) (.sl (ones g.cs)) (u 1)/\RD w (fun k=>k < w.heap.size) (.sl (g.ns.map gCell)) (u 2) /\
  ∃ v1 v2,firstG d g=(.val v1,.val v2)/\RD w ok (aL (cT d n).1) v1/\RD w ok (encVs (cT d n).2) v2
theorem read_row {w:World} {ok:Nat->Prop} {e:Nat} {ys:List DV} {u:Value} (hy:∀ y ∈ ys,noOwn y=true) (h:RO w ok (.own e 1 (ones ys)) u) (hlt:∀ k,Ins w (.own e 1 (ones ys)) u k->k < w.heap.size) :
 ∃ ks:List DV,ks.length=ys.length/\RD w (fun k=>k < w.heap.size) (.sl (ones ks)) u /\ ∀ (i:Nat) y,ys[i]? = some y -> ∃ v,ks[i]? = some (.val v)/\RD w ok y v:=by
 obtain ⟨flat,h0,hs,ho,hr,_,_⟩:=h.parts
 have hl:(ones ys).length=ys.length:=aAh ..
 have hfl:flat.length=ys.length:=by have:=ho.1;rw [hl] at this;omega
 refine ⟨(List.range ys.length).map fun i=>DV.val (flat.getD (i*1+0) undef),by simp,?_,fun i y hi=>?_⟩
 . rw [<- raw_ones]
   have one:=kQ (w:=w) (ok:=ok) (e:=e) (V:=u) h0 hs ho.1 hr
   refine rd_owns (e:=e) (sz:=1) (flat:=flat) (bO _ _ _) (by rw [cU,<- hl];exact ho) (fun k hk=>hlt k (.head _ _ _ _ _ hk)) (fun i x j y v hx hy hv=>?_)
   obtain ⟨_,_,rfl⟩:=cM hx hy
   rw [aA2,hv]
   exact .val v (one _ v hv)
 . have hil:i < ys.length:=(aAe.1 hi).1
   refine ⟨flat.getD (i*1+0) undef,by rw [aAi,List.getElem?_range hil];rfl,?_⟩
   have hv:flat[i*1+0]? = some (flat.getD (i*1+0) undef):=by
    rw [aA2,aAf (by omega)];rfl
   exact nO (hy y (aAg hi)) (hr i [y] 0 y _ (by unfold ones;rw [aAi,hi];rfl) rfl hv)
theorem read_node {w:World} {ok:Nat->Prop}:∀ (d:Nat) (n:Node) (u:Nat->Value),shN d n->mnN d n->1<=n.keys.length ->
 (∀ (j:Nat) y,(ownN n)[j]? = some y->RO w ok y (u j) /\ ∀ k,Ins w y (u j) k->k < w.heap.size) -> ∃ g,ReadN w ok d n u g
 | 0,n,u,h,_,_,_=>h.elim
 | d+1,n,u,h,hm,h1,hu=>by
   rw [ownN_eq] at hu
   obtain ⟨r0,i0⟩:=hu 0 _ rfl
   obtain ⟨r1,i1⟩:=hu 1 _ rfl
   obtain ⟨r2,i2⟩:=hu 2 _ rfl
   have eK:aF n.keys=ones (n.keys.map aL):=by unfold aF ones;rw [aAx];rfl
   have eC:aG n.chains=ones (n.chains.map encVs):=by unfold aG ones;rw [aAx];rfl
   rw [eK] at r0 i0
   rw [eC] at r1 i1
   obtain ⟨ks,k1,k2,k3⟩:=read_row (fun y hy=>by obtain ⟨x,_,rfl⟩:=aBc.1 hy;rfl) r0 i0
   obtain ⟨cs,c1,c2,c3⟩:=read_row (fun y hy=>by obtain ⟨x,_,rfl⟩:=aBc.1 hy;rfl) r1 i1
   obtain ⟨flat,h0,hs,ho,hr,_,_⟩:=r2.parts
   obtain ⟨s1,s2,s3⟩:=h
   have hkids:∀ (c:Node),c ∈ n.kids->shN d c/\mnN d c/\1<=c.keys.length:=fun c hc=>by
    rcases s3 with ⟨_,s3⟩ | ⟨_,s3⟩
    . rw [s3] at hc;cases hc
    . exact ⟨s3 c hc,(hm c hc).2,(hm c hc).1⟩
   have hf:∀ (i:Nat) c,n.kids[i]? = some c -> ∃ g,ReadN w ok d c (fun j=>flat.getD (i*3+j) undef) g:=fun i c hc=>by
    obtain ⟨q1,q2,q3⟩:=hkids c (aAg hc)
    refine read_node d c _ q1 q2 q3 fun j y hy=>?_
    have hx:(n.kids.map ownN)[i]? = some (ownN c):=by rw [aAi,hc];rfl
    have hil:i < n.kids.length:=(aAe.1 hc).1
    have hj:j < 3:=by have:=(aAe.1 hy).1;rw [ownN_eq] at this;simpa using this
    have hfl:flat.length=n.kids.length*3:=by have:=ho.1;rw [aAh] at this;exact this
    have hlt:i*3+j < flat.length:=by omega
    have hv:flat[i*3+j]? = some (flat.getD (i*3+j) undef):=by rw [aA2,aAf hlt];rfl
    exact ⟨hr i _ j y _ hx hy hv,fun k hk=>i2 k (.cell _ _ _ _ _ flat i _ j y _ ho hx hy hv hk)⟩
   obtain ⟨gs,g1,g2⟩:∃ gs:List GNode,gs.length=n.kids.length /\ ∀ (i:Nat) c g,n.kids[i]? = some c->gs[i]? = some g->ReadN w ok d c (fun j=>flat.getD (i*3+j) undef) g:=by
    have:∀ m,m<=n.kids.length -> ∃ gs:List GNode,gs.length=m /\ ∀ (i:Nat) c g,n.kids[i]? = some c->gs[i]? = some g->ReadN w ok d c (fun j=>flat.getD (i*3+j) undef) g:=by
     intro m
     induction m with
     | zero=>exact fun _=>⟨[],rfl,fun i c g _ hg=>by simp at hg⟩
     | succ m ih=>
       intro hm'
       obtain ⟨gs,a1,a2⟩:=ih (by omega)
       obtain ⟨c,hc⟩:∃ c,n.kids[m]? = some c:=⟨_,aAf (by omega)⟩
       obtain ⟨g,hg⟩:=hf m c hc
       refine ⟨gs ++ [g],by simp [a1],fun i c' g' hc' hg'=>?_⟩
       rcases aBl i m with hi | hi
       . rw [aAk (by omega)] at hg'
         exact a2 i c' g' hc' hg'
       . rw [aAj (by omega)] at hg'
         have hi2:i=m:=by have:=(aAe.1 hg').1;simp at this;omega
         subst hi2
         rw [a1,aB2] at hg'
         rw [hc] at hc'
         cases hc'
         obtain rfl:=aBr (show some g=some g' from hg')
         exact hg
    exact this _ (aBo _)
   have hrd:RD w (fun k=>k < w.heap.size) (.sl (gs.map gCell)) (u 2):=by
    refine rd_owns (e:=26) (sz:=3) (flat:=flat) (fun x hx=>?_) (by rw [aAh,g1];rw [aAh] at ho;exact ho) (fun k hk=>i2 k (.head _ _ _ _ _ hk)) (fun i x j y v hx hy hv=>?_)
    . obtain ⟨g,_,rfl⟩:=aBc.1 hx
      rw [gCell_eq];rfl
    . rw [aAi] at hx
      obtain ⟨g,hg,rfl⟩:=aBq.1 hx
      obtain ⟨c,hc⟩:∃ c,n.kids[i]? = some c:=⟨_,aAf (by have:=(aAe.1 hg).1;omega)⟩
      obtain ⟨_,p0,p1,p2,_⟩:=g2 i c g hc hg
      have hv':v=flat.getD (i*3+j) undef:=by rw [aA2,hv];rfl
      rw [gCell_eq] at hy
      match j,hy with
      | 0,hy=>cases hy;rw [hv'];exact p0
      | 1,hy=>cases hy;rw [hv'];exact p1
      | 2,hy=>cases hy;rw [hv'];exact p2
   have hk4:n.kids.length < 1000000:=by
    rcases s3 with ⟨_,s3⟩ | ⟨s3,_⟩
    . rw [s3];decide
    . omega
   cases hc:n.kids[0]? with
   | none=>
     have hz:n.kids = []:=by
      cases hq:n.kids with
      | nil=>rfl
      | cons a b=>rw [hq] at hc;cases hc
     have hgz:gs = []:=List.eq_nil_of_length_eq_zero (by rw [g1,hz];rfl)
     have hchk:1<=n.chains.length:=by omega
     obtain ⟨v1,e1,q1⟩:=k3 0 (aL (n.keys.getD 0 [])) (by rw [aAi,getD_of (d:=[]) (by omega)];rfl)
     obtain ⟨v2,e2,q2⟩:=c3 0 (encVs (n.chains.getD 0 [])) (by rw [aAi,getD_of (d:=[]) (by omega)];rfl)
     refine ⟨.mk ks cs gs,⟨by show gs.length < _;omega,.inl ⟨hgz,by show 1<=ks.length;rw [k1,aAh];exact h1,by show 1<=cs.length;rw [c1,aAh];exact hchk⟩⟩,k2,c2,hrd,v1,v2,?_,?_,?_⟩
     . show (match gs[0]? with | some c=>firstG d c | none=>(ks.getD 0 .junk,cs.getD 0 .junk))=_
       rw [hgz]
       show (ks.getD 0 .junk,cs.getD 0 .junk)=_
       rw [aA2,aA2,e1,e2];rfl
     . show RD w ok (aL (match n.kids[0]? with | some c=>cT d c | none=>(n.keys.getD 0 [],n.chains.getD 0 [])).1) v1
       rw [hc];exact q1
     . show RD w ok (encVs (match n.kids[0]? with | some c=>cT d c | none=>(n.keys.getD 0 [],n.chains.getD 0 [])).2) v2
       rw [hc];exact q2
   | some c=>
     have h0:0 < n.kids.length:=(aAe.1 hc).1
     obtain ⟨g,hg⟩:∃ g,gs[0]? = some g:=⟨_,aAf (by omega)⟩
     obtain ⟨o1,_,_,_,v1,v2,f1,f2,f3⟩:=g2 0 c g hc hg
     refine ⟨.mk ks cs gs,⟨by show gs.length < _;omega,.inr ⟨g,hg,o1⟩⟩,k2,c2,hrd,v1,v2,?_,?_,?_⟩
     . show (match gs[0]? with | some c=>firstG d c | none=>(ks.getD 0 .junk,cs.getD 0 .junk))=_
       rw [hg];exact f1
     . show RD w ok (aL (match n.kids[0]? with | some c=>cT d c | none=>(n.keys.getD 0 [],n.chains.getD 0 [])).1) v1
       rw [hc];exact f2
     . show RD w ok (encVs (match n.kids[0]? with | some c=>cT d c | none=>(n.keys.getD 0 [],n.chains.getD 0 [])).2) v2
       rw [hc];exact f3
theorem thru_first (d:Nat) (n:Node) (hs:shN d n) (hm:mnN d n) (h1:1<=n.keys.length) :
 gP X 67 [(27,1,aF n.keys),(32,1,aG n.chains),(26,3,n.kids.map ownN)] [aL (cT d n).1,encVs (cT d n).2]:=by
 unfold gP
 intro w ok us hok hsz hus
 obtain ⟨u0,u1,u2,rfl⟩:∃ u0 u1 u2,us = #[u0,u1,u2]:=by
  match us,hsz with
  | ⟨[a,b,c]⟩,_=>exact ⟨a,b,c,rfl⟩
 obtain ⟨g,o1,p0,p1,p2,v1,v2,f1,f2,f3⟩:=read_node (w:=w) (ok:=ok) d n (fun j=>match j with | 0=>u0 | 1=>u1 | _=>u2) hs hm h1 (fun j y hy=>by
  rw [ownN_eq] at hy
  match j,hy with
  | 0,hy=>cases hy;exact hus 0 _ u0 rfl rfl
  | 1,hy=>cases hy;exact hus 1 _ u1 rfl rfl
  | 2,hy=>cases hy;exact hus 2 _ u2 rfl rfl)
 have call:=d_firstG d g o1 []
 rw [f1] at call
 unfold aD at call
 let m:M:=⟨w,fun _ _=>none,fun _=>False⟩
 have hk:∀ k,k < w.heap.size->m.ok k:=fun k hk=>⟨hk,fun h=>h⟩
 have hinv:Inv m [] []:=by
  have no:∀ l i b,getB [] [] l i=some b->False:=fun l i b h=>by
   cases l with
   | zero=>simp [getB] at h
   | succ l=>simp [getB] at h
  exact ⟨fun l i b h=>(no l i b h).elim,fun l i b l' i' b' v v' k h=>(no l i b h).elim,fun l i b v k h=>(no l i b h).elim,fun k h=>h.elim,Views.none fun i p e c h=>by simp at h⟩
 have keep:∀ y v,RD w (fun k=>k < w.heap.size) y v->RD m.w m.ok y v:=fun y v h=>h.mono fun k hk'=>⟨hk k hk',rfl⟩
 refine (call m #[.agg #[u0,u1,u2]] hinv (fun _=>rfl) rfl (fun j p v hp hv=>?_)).mono ?_
 . match j with
   | 0=>
     obtain rfl:=aBr (show some _=some p from hp)
     obtain rfl:=aBr (show some _=some v from hv)
     refine .agg _ _ rfl fun j p u hp hu=>?_
     match j with
     | 0=>
       obtain rfl:=aBr (show some _=some p from hp)
       obtain rfl:=aBr (show some _=some u from hu)
       exact .d _ _ (keep _ _ p0)
     | 1=>
       obtain rfl:=aBr (show some _=some p from hp)
       obtain rfl:=aBr (show some _=some u from hu)
       exact .d _ _ (keep _ _ p1)
     | 2=>
       obtain rfl:=aBr (show some _=some p from hp)
       obtain rfl:=aBr (show some _=some u from hu)
       exact .d _ _ (keep _ _ p2)
     | j+3=>simp at hp
   | j+1=>simp at hp
 . rintro e w' ⟨v,m',rfl,rfl,hG,_,_,_,hR⟩
   cases hR with
   | tuple _ vs h1 h2=>
     obtain ⟨x1,x2,rfl⟩:∃ x1 x2,vs = #[x1,x2]:=by
      match vs,h1 with
      | ⟨[a,b]⟩,_=>exact ⟨a,b,rfl⟩
     have e1:x1=v1:=by have:=h2 0 _ x1 rfl rfl;cases this with | d _ _ h=>cases h;rfl
     have e2:x2=v2:=by have:=h2 1 _ x2 rfl rfl;cases this with | d _ _ h=>cases h;rfl
     subst e1;subst e2
     refine ⟨#[x1,x2],rfl,rfl,fun j y v hy hv=>?_,hG.os,hG.tape,hG.output,hG.size,hG.heap⟩
     match j,hy,hv with
     | 0,hy,hv=>cases hy;cases hv;exact f2
     | 1,hy,hv=>cases hy;cases hv;exact f3
theorem aD.at {C D:Cx} {H:List (List Blk)} {f:Nat} {args:List PV} {r:PV} {N:List RowB} (hP:D.P=C.P) (h:aD C H f args r N):aD D H f args r N:=by
 unfold aD at h ⊢;rw [hP];exact h
theorem aE.at {C D:Cx} {H:List (List Blk)} {f:Nat} {G:List RowB} {args:List PV} {G':List (Option RowB)} {r:PV} {N:List RowB} (hP:D.P=C.P) (h:aE C H f G args G' r N):aE D H f G args G' r N:=by
 unfold aE at h ⊢;rw [hP];exact h
theorem yS {m m':M} {n:Nat} (hw:m'.w=m.w) (hU:m'.U=m.U) (h0:∀ i,i < n->m'.ρ 0 i=m.ρ 0 i) (h1:∀ l i,m'.ρ (l+1) i=m.ρ (l+1) i) {p:PV} {v:Value} (h:RP m p v):inN n p=true->RP m' p v:=by
 have hρ:∀ l i,(l=0->i < n)->m'.ρ l i=m.ρ l i:=fun l i h=>by
  cases l with
  | zero=>exact h0 i (h rfl)
  | succ l=>exact h1 l i
 have hok:∀ k,m.ok k->m'.ok k/\m'.w.heap[k]? = m.w.heap[k]?:=fun k hk=>⟨⟨by rw [hw];exact hk.1,by rw [hU];exact hk.2⟩,by rw [hw]⟩
 have inv:∀ p v,PV.inv p=true->RP m p v->RP m' p v:=fun p v hp h=>RP.other hw (fun k hk=>by rw [<- hU];exact hk) hp h
 induction h with
 | any v=>exact fun _=>.any v
 | kb b=>exact fun _=>.kb b
 | ub b=>exact fun _=>.ub b
 | d x v hx=>exact fun _=>.d x v (hx.mono hok)
 | nils=>exact fun _=>.nils
 | emp ad=>exact fun _=>.emp ad
 | row l i k N c A hl hn hc=>
   intro hin
   refine .row l i k N c A ((hρ l i fun e=>?_).trans hl) hn hc
   subst e
   simpa [inN,Nat.blt_eq] using hin
 | ptr l i o g hl=>
   intro hin
   refine .ptr l i o g ((hρ l i fun e=>?_).trans hl)
   subst e
   simpa [inN,Nat.blt_eq] using hin
 | rptr l i sz e j g N c hl=>
   intro hin
   refine .rptr l i sz e j g N c ((hρ l i fun e=>?_).trans hl)
   subst e
   simpa [inN,Nat.blt_eq] using hin
 | iptr cs ad u hc hr=>exact fun _=>inv _ _ rfl (.iptr cs ad u hc hr)
 | func fn fs cs fv cv a1 a2 a3 a4 ih1 ih2=>
   intro hin
   simp only [inN,aBs] at hin
   exact .func fn fs cs fv cv a1 a2 (fun j p v hp hv=>ih1 j p v hp hv (eI hin.1 hp)) (fun j p v hp hv=>ih2 j p v hp hv (eI hin.2 hp))
 | agg cs vs a1 a2 ih=>exact fun hin=>.agg cs vs a1 (fun j p v hp hv=>ih j p v hp hv (eI (by simpa only [inN] using hin) hp))
 | tuple cs vs a1 a2 ih=>exact fun hin=>.tuple cs vs a1 (fun j p v hp hv=>ih j p v hp hv (eI (by simpa only [inN] using hin) hp))
 | yld Y v h=>exact fun _=>.yld Y v h
 | lits sz xs ad u a0 am as_ ac ar ih=>exact fun hin=>(by cases hin)
theorem aAb {C:Cx} {H:List (List Blk)} {f e1 e2 n:Nat} {R:RowB} {z:Int} {r:PV} {N:List RowB} (hin:inN N.length r=true) (h:aE C H f [⟨e1,1,[]⟩,⟨e2,1,[]⟩,R] [.agg [.row 0 0 0,.row 0 1 0,.row 0 2 n],.d (.int .i64 z)] [none,none,none] r N) :
 aE C H f [R] [.agg [.nils,.nils,.row 0 0 n],.d (.int .i64 z)] [none] r N:=by
 have b1:RowB.blk ⟨e1,1,[]⟩ = .row e1 1 []:=rfl
 have b2:RowB.blk ⟨e2,1,[]⟩ = .row e2 1 []:=rfl
 unfold aE at h ⊢
 simp only [List.map_cons,List.map_nil,b1,b2,show gblk none=Blk.dead from rfl] at h ⊢
 refine ⟨rfl,fun m vs hinv hfree hlen hargs=>?_⟩
 obtain ⟨v0,v1,rfl⟩:∃ v0 v1,vs = #[v0,v1]:=by
  match vs,hlen with
  | ⟨[a,b]⟩,_=>exact ⟨a,b,rfl⟩
 have a0:=hargs 0 _ v0 rfl rfl
 have a1:=hargs 1 _ v1 rfl rfl
 let m1:M:=⟨m.w,fun l j=>match l with | 0=>(match j with | 0=>some (.slice none 0 0) | 1=>some (.slice none 0 0) | 2=>m.ρ 0 0 | _+3=>none) | l+1=>m.ρ (l+1) j,m.U⟩
 have top1:∀ (i:Nat) b,[Blk.row e1 1 [],Blk.row e2 1 [],R.blk][i]? = some b->(i < 2/\(b = .row e1 1 []\/b = .row e2 1 []))\/(i=2/\b=R.blk):=fun i b h=>by
  match i with
  | 0=>exact .inl ⟨by omega,.inl (by simpa using h.symm)⟩
  | 1=>exact .inl ⟨by omega,.inr (by simpa using h.symm)⟩
  | 2=>exact .inr ⟨rfl,by simpa using h.symm⟩
  | i+3=>simp at h
 have z01:∀ i v,i < 2->m1.ρ 0 i=some v->v = .slice none 0 0:=fun i v hi hv=>by
  match i,hi with
  | 0,_=>cases hv;rfl
  | 1,_=>cases hv;rfl
 have no:∀ i b v k,[Blk.row e1 1 [],Blk.row e2 1 [],R.blk][i]? = some b->m1.ρ 0 i=some v->b.has m.w v k->i=2/\b=R.blk/\m.ρ 0 0=some v:=fun i b v k h1 h2 h3=>by
  rcases top1 i b h1 with ⟨hi,hb⟩ | ⟨rfl,rfl⟩
  . rw [z01 i v hi h2] at h3
    rcases hb with rfl | rfl <;> cases h3
  . exact ⟨rfl,rfl,h2⟩
 have Kup:∀ l,Keep (m.up (l+1)) (m1.up (l+1)):=fun l=>⟨fun a i u hu=>hu,aBo _,fun k hk=>⟨hk.2,rfl⟩⟩
 have hinv1:Inv m1 [Blk.row e1 1 [],Blk.row e2 1 [],R.blk] H:=by
  refine ⟨fun l i b hb=>?_,fun l i b l' i' b' v v' k h1 h2 h3 h4 h5 h6 h7 h8=>?_,fun l i b v k h1 h2 h3 h4=>?_,hinv.lt,Views.none fun i p e c h=>?_⟩
  . cases l with
    | zero=>
      rcases top1 i b hb with ⟨hi,hb⟩ | ⟨rfl,rfl⟩
      . have row:∀ e,BlkOk m1 0 i (.row e 1 []):=fun e v hv=>by
         rw [z01 i v hi hv]
         exact ⟨Nat.one_pos,fun x hx=>(by cases hx),[],World.ownsRow_nil _ _ _ _,fun a x j y u hx=>by simp at hx⟩
        rcases hb with rfl | rfl
        . exact row e1
        . exact row e2
      . exact gK (m:=m) (l:=0) (i:=0) R rfl rfl (fun x hx y hy v hv=>hv) (fun _ y v hv=>hv) (hinv.blk 0 0 _ rfl)
    | succ l=>
      have hbo:=hinv.blk (l+1) i b hb
      cases b with
      | box cs=>
        intro u hu
        obtain ⟨g,us,e,q1,q2,q3,q4⟩:=hbo u hu
        exact ⟨g,us,e,q1,q2,q3,fun j p x hp hx=>(q4 j p x hp hx).keep (Kup l)⟩
      | dead=>trivial
      | gen Y st=>trivial
      | sub _ _ _=>trivial
      | row e sz xs=>exact hbo
      | deep e sz xs=>exact hbo
  . cases l with
    | zero=>
      obtain ⟨rfl,rfl,h5⟩:=no i b v k h1 h5 h7
      cases l' with
      | zero=>
        obtain ⟨rfl,rfl,h6⟩:=no i' b' v' k h3 h6 h8
        exact ⟨rfl,rfl⟩
      | succ l'=>
        have:=(hinv.inj 0 0 _ (l'+1) i' b' v v' k rfl h2 h3 h4 h5 h6 h7 h8).1
        cases this
    | succ l=>
      cases l' with
      | zero=>
        obtain ⟨rfl,rfl,h6⟩:=no i' b' v' k h3 h6 h8
        have:=(hinv.inj (l+1) i b 0 0 _ v v' k h1 h2 rfl h4 h5 h6 h7 h8).1
        cases this
      | succ l'=>exact hinv.inj (l+1) i b (l'+1) i' b' v v' k h1 h2 h3 h4 h5 h6 h7 h8
  . cases l with
    | zero=>
      obtain ⟨rfl,rfl,h5⟩:=no i b v k h1 h3 h4
      exact hinv.own 0 0 _ v k rfl h2 h5 h4
    | succ l=>exact hinv.own (l+1) i b v k h1 h2 h3 h4
  . rcases top1 i _ h with ⟨_,h | h⟩ | ⟨_,h⟩
    . cases h
    . cases h
    . have:=R.noSub
      rw [<- h] at this;cases this
 have mine1:∀ k,Mine m1 [Blk.row e1 1 [],Blk.row e2 1 [],R.blk] k->Mine m [R.blk] k:=fun k ⟨i,b,v,h1,h2,h3,h4⟩=>by
  obtain ⟨rfl,rfl,h5⟩:=no i b v k h1 h3 h4
  exact ⟨0,_,v,rfl,h2,h5,h4⟩
 have mine2:∀ k,Mine m [R.blk] k->Mine m1 [Blk.row e1 1 [],Blk.row e2 1 [],R.blk] k:=fun k ⟨i,b,v,h1,h2,h3,h4⟩=>by
  match i with
  | 0=>exact ⟨2,b,v,h1,h2,h3,h4⟩
  | i+1=>simp at h1
 refine (h.2 m1 #[v0,v1] hinv1 (fun i hi=>?_) rfl (fun j p v hp hv=>?_)).mono ?_
 . match i,hi with
   | i+3,_=>rfl
 . match j with
   | 0=>
     obtain rfl:=aBr (show some _=some p from hp)
     obtain rfl:=aBr (show some _=some v from hv)
     cases a0 with
     | agg _ us h1 h2=>
       refine .agg _ us h1 fun j p u hp hu=>?_
       match j with
       | 0=>
         obtain rfl:=aBr (show some _=some p from hp)
         have:=h2 0 _ u rfl hu
         cases this
         exact .row 0 0 0 0 0 none rfl (aBo _) (aBo _)
       | 1=>
         obtain rfl:=aBr (show some _=some p from hp)
         have:=h2 1 _ u rfl hu
         cases this
         exact .row 0 1 0 0 0 none rfl (aBo _) (aBo _)
       | 2=>
         obtain rfl:=aBr (show some _=some p from hp)
         have:=h2 2 _ u rfl hu
         cases this with
         | row _ _ _ N c A hρ hn hc=>exact .row 0 2 n N c A hρ hn hc
       | j+3=>simp at hp
   | 1=>
     obtain rfl:=aBr (show some _=some p from hp)
     obtain rfl:=aBr (show some _=some v from hv)
     cases a1 with
     | d _ _ hx=>cases hx;exact .d _ _ (.int _ _)
   | j+2=>simp at hp
 . rintro ex w' ⟨v,m',rfl,rfl,hS,hnm,hI,hR⟩
   let m2:M:=⟨m'.w,fun l j=>if l=0/\N.length<=j then (if j=N.length then m.ρ 0 0 else none) else m'.ρ l j,m'.U⟩
   have hρo:∀ l j,¬ (l=0/\N.length<=j)->m2.ρ l j=m'.ρ l j:=fun l j h=>if_neg h
   have get:∀ l i b,getB (N.map RowB.blk ++ [Blk.dead]) H l i=some b->b.live=true -> ¬ (l=0/\N.length<=i)/\getB (N.map RowB.blk ++ [.dead,.dead,.dead]) H l i=some b:=fun l i b hb hl=>by
    cases l with
    | succ l=>exact ⟨fun e=>absurd e.1 (Nat.succ_ne_zero l),hb⟩
    | zero=>
      have hb:(N.map RowB.blk ++ [Blk.dead])[i]? = some b:=hb
      rcases aBl i N.length with hi | hi
      . rw [aAk (by simpa using hi)] at hb
        exact ⟨fun e=>by omega,by show (N.map RowB.blk ++ [.dead,.dead,.dead])[i]? = some b;rw [aAk (by simpa using hi)];exact hb⟩
      . rw [aAj (by simpa using hi)] at hb
        have:=aAg hb
        rw [aAy] at this
        subst this
        cases hl
   have noBox:∀ i b,(N.map RowB.blk)[i]? = some b -> ∃ r:RowB,r ∈ N/\b=r.blk:=fun i b hb=>by
    rw [aAi] at hb
    obtain ⟨r,hr,rfl⟩:=aBq.1 hb
    exact ⟨r,aAg hr,rfl⟩
   refine ⟨v,m2,rfl,rfl,⟨hS.os,hS.tape,hS.output,hS.size,fun k hk h1 h2=>hS.heap k hk (fun h=>h1 (mine1 k h)) h2,fun l i=>?_,hS.U,fun k hk=>?_⟩,fun i hi=>?_,⟨fun l i b hb=>?_,fun l i b l' i' b' v1 v2 k h1 h2 h3 h4 h5 h6=>?_,fun l i b v1 k h1 h2 h3 h4=>?_,hI.lt,Views.none fun i p e c h=>?_⟩,?_⟩
   . rw [hρo (l+1) i (fun e=>absurd e.1 (Nat.succ_ne_zero l))];exact hS.up l i
   . obtain ⟨i,b,u,h1,h2,h3,h4⟩:=hk
     obtain ⟨g1,g2⟩:=get 0 i b h1 h2
     rw [hρo 0 i g1] at h3
     exact (hS.fresh k ⟨i,b,u,g2,h2,h3,h4⟩).imp id (mine1 k)
   . match i,hi with
     | 0,_=>
       show (if 0=0/\N.length<=N.length+0 then (if N.length+0=N.length then m.ρ 0 0 else none) else m'.ρ 0 (N.length+0))=m.ρ 0 0
       rw [if_pos ⟨rfl,Nat.le_add_right _ _⟩,if_pos (Nat.add_zero _)]
     | i+1,hi=>exact absurd (show i+1 < 1 from hi) (by omega)
   . cases hlv:b.live with
     | false=>cases b <;> simp [Blk.live] at hlv <;> exact True.intro
     | true=>
       obtain ⟨g1,g2⟩:=get l i b hb hlv
       have hbo:=hI.blk l i b g2
       cases l with
       | zero=>
         have hi:i < N.length:=by
          rcases aBl i N.length with h | h
          . exact h
          . exact absurd ⟨rfl,h⟩ g1
         have hb':(N.map RowB.blk)[i]? = some b:=by
          have:(N.map RowB.blk ++ [Blk.dead])[i]? = some b:=hb
          rwa [aAk (by simpa using hi)] at this
         obtain ⟨R',_,rfl⟩:=noBox i b hb'
         exact gK (m:=m') (l:=0) (i:=i) R' (hρo 0 i g1) rfl (fun x hx y hy v hv=>hv) (fun _ y v hv=>hv) hbo
       | succ l=>
         cases b with
         | box cs=>
           intro u hu
           rw [hρo (l+1) i g1] at hu
           obtain ⟨g,us,e,q1,q2,q3,q4⟩:=hbo u hu
           refine ⟨g,us,e,q1,q2,q3,fun j p x hp hx=>(q4 j p x hp hx).keep ⟨fun a i' u' hu'=>?_,aBo _,fun k hk=>⟨hk.2,rfl⟩⟩⟩
           show m2.ρ (a+(l+1)) i'=some u'
           rw [hρo _ _ (fun e=>absurd e.1 (by omega))]
           exact hu'
         | dead=>trivial
         | gen Y st=>trivial
         | sub _ _ _=>trivial
         | row e sz xs=>intro u hu;rw [hρo (l+1) i g1] at hu;exact hbo u hu
         | deep e sz xs=>intro u hu;rw [hρo (l+1) i g1] at hu;exact hbo u hu
   . obtain ⟨g1,g2⟩:=get l i b h1 h2
     obtain ⟨g3,g4⟩:=get l' i' b' h3 h4
     rw [hρo l i g1] at h5
     rw [hρo l' i' g3] at h6
     exact hI.inj l i b l' i' b' v1 v2 k g2 h2 g4 h4 h5 h6
   . obtain ⟨g1,g2⟩:=get l i b h1 h2
     rw [hρo l i g1] at h3
     exact hI.own l i b v1 k g2 h2 h3 h4
   . rcases aBl i N.length with hi | hi
     . rw [aAk (by simpa using hi)] at h
       obtain ⟨R',_,h⟩:=noBox i _ h
       have:=R'.noSub
       rw [<- h] at this;cases this
     . rw [aAj (by simpa using hi)] at h
       have:=aAg h
       rw [aAy] at this
       cases this
   . exact yS (m:=m') (m':=m2) rfl rfl (fun i hi=>hρo 0 i (fun e=>by omega)) (fun l i=>hρo (l+1) i (fun e=>absurd e.1 (Nat.succ_ne_zero l))) hR hin
noncomputable def XT:Cx:={ X with give:=(67+2000)::X.give }
theorem nD:XT.Ok:=⟨aY.rows,aY.closed,aY.funs,aY.mix,by kernel_rfl,aY.cmps,aY.grows⟩
theorem aD.xt {H:List (List Blk)} {f:Nat} {args:List PV} {r:PV} {N:List RowB} (h:aD X H f args r N):aD XT H f args r N:=aD.at (C:=X) (D:=XT) rfl h
theorem aE.xt {H:List (List Blk)} {f:Nat} {G:List RowB} {args:List PV} {G':List (Option RowB)} {r:PV} {N:List RowB} (h:aE X H f G args G' r N):aE XT H f G args G' r N:=aE.at (C:=X) (D:=XT) rfl h
theorem aE.tx {H:List (List Blk)} {f:Nat} {G:List RowB} {args:List PV} {G':List (Option RowB)} {r:PV} {N:List RowB} (h:aE XT H f G args G' r N):aE X H f G args G' r N:=aE.at (C:=XT) (D:=X) rfl h
theorem gP.xt {f:Nat} {cs:List (Nat × Nat × List (List DV))} {ys:List DV} {fz fc:Bool} {mv fld:List Nat} (h:gP X f cs ys):gP (XT.mdd fz fc mv fld) f cs ys:=by
 unfold gP at h ⊢;exact h
def moR:List (Nat × Tr):=[(4,.quiet [.pure,.make,.pure,.pure,.pure,.act [],.pure,.quiet [5],.pure,.pure,.pure,.act [],.pure,.act [],.pure,.act []]),
 (8,.quiet [.pure,.make,.pure,.pure,.make,.pure,.pure,.make,.pure,.pure,.make,.make,.make,.pure,.pure,.pure,.make,.act [4],.quiet [],.act []]),
 (9,.quiet [.pure,.make,.pure,.pure,.pure,.make,.pure,.pure,.make,.make,.pure,.make,.pure,.make,.make,.act [1],.quiet [],.act []]),
 (15,.quiet [.pure,.make,.pure,.pure,.make,.pure,.make,.make,.pure,.act [1],.quiet [],.act []]),
 (21,.quiet [.pure,.make,.pure,.pure,.make,.pure,.make,.make,.pure,.act [1],.quiet [],.act []])]
def RmC (n:Node) (k:List UInt8) (R:Node):Prop:=∀ H,aE X H 51 (nodeR n) [nodeV n,.d (aL k)] [none,none,none] (nodeV R) (nodeR R)
theorem jI (n:Node) (k:List UInt8) (h:n.keys.length < 1000000) (a b:Nat) (ha:a=n.keys.length) (hb:b=n.chains.length) (H:List (List Blk)):aD X H 38 [.agg [.d (.sl ((aF n.keys).take a)),.d (.sl ((aG n.chains).take b)),.d (.sl (plRows (n.kids.map ownN)))],.d (aL k)] (.tuple [.d (.int .i64 (bs n.keys k)),.d (.bool (bsIs n.keys k))]) []:=by
 have l1:(aF n.keys).length=n.keys.length:=aAh ..
 have l2:(aG n.chains).length=n.chains.length:=aAh ..
 rw [ha,hb,<- l1,<- l2,aAw,aAw,pl_kids];exact d_place n k h H
theorem kX (n:Node) (a b:Nat) (H:List (List Blk)):aD X H 40 [.agg [.d (.sl ((aF n.keys).take a)),.d (.sl ((aG n.chains).take b)),.d (.sl (plRows (n.kids.map ownN)))]] (.d (.bool (leafN n))) []:=by
 have:=kU ((aF n.keys).take a) ((aG n.chains).take b) (plRows (n.kids.map ownN)) H
 rw [show ((plRows (n.kids.map ownN)).length:Int)=((n.kids.map cNode).length:Int) by rw [plRows_eq];simp] at this
 exact this
theorem rm_w0 (n:Node) (k:List UInt8) (h1:n.keys.length<=3) (h2:n.chains.length=n.keys.length) (h3:leafN n=true) :
 RmC n k (if bsIs n.keys k then .mk (aI n.keys (bs n.keys k)) (aI n.chains (bs n.keys k)) n.kids else n):=by
 intro H
 have l1:(aF n.keys).length=n.keys.length:=aAh ..
 have l2:(aG n.chains).length=n.chains.length:=aAh ..
 have l3:(n.kids.map ownN).length=n.kids.length:=aAh ..
 have hp:=fun H=>(jI n k (by omega) _ _ rfl rfl H).xt
 have hlf:=fun H=>(kX n n.keys.length n.chains.length H).xt
 rw [h3] at hlf
 have hle:=cO n.keys k
 have w:IntKind.i64.wrap (((bs n.keys k:Nat):Int)+1)=((bs n.keys k+1:Nat):Int):=by rw [aJ (by omega) (by omega)];omega
 refine aE.tx ?_
 cases q:bsIs n.keys k with
 | true=>
   rw [q] at hp
   have hlt:=eV q
   have dK:=fun H=>(kR (aF n.keys) (bY _) (bs n.keys k) (by omega) H).xt
   have dC:=fun H=>(kT (aG n.chains) (bZ _) (bs n.keys k) (by omega) H).xt
   rw [l1] at dK
   rw [l2] at dC
   simp only [if_true]
   unfold nodeR nodeV
   refine aQ nD false [26] [] (mo:=moR) (by kernel_rfl) Try.func51 rfl ?_
   conv=>whnf
   repeat' (first
    | (refine ⟨l3.symm,?_⟩;conv=>whnf)
    | (refine ⟨_,_,(hp _).mdd _ _ _ _,And.intro rfl aZ,?_⟩;conv=>whnf)
    | (refine ⟨_,_,(hlf _).mdd _ _ _ _,And.intro rfl aZ,?_⟩;conv=>whnf)
    | (refine ⟨_,_,_,(dK _).mdd _ _ _ _,?_⟩;conv=>whnf)
    | (refine ⟨_,_,_,(dC _).mdd _ _ _ _,?_⟩;conv=>whnf)
    | (intro z hz
       conv=>whnf
       rw [w] at hz
       subst hz)
    | (first | (refine And.intro (fun q=>absurd q (by decide)) (fun _=>?_);conv=>whnf) | (refine And.intro (fun _=>?_) (fun q=>absurd q (by decide));conv=>whnf))
    | (refine And.intro rfl ?_;conv=>whnf)
    | (refine And.intro ?_ ?_ <;> (conv=>whnf))
    | fail)
   have eK:aI (aF n.keys) (bs n.keys k)=aF (aI n.keys (bs n.keys k)):=dX ..
   have eC:aI (aG n.chains) (bs n.keys k)=aG (aI n.chains (bs n.keys k)):=dX ..
   have e1:(aF (aI n.keys (bs n.keys k))).length=(aI n.keys (bs n.keys k)).length:=aAh ..
   have e2:(aG (aI n.chains (bs n.keys k))).length=(aI n.chains (bs n.keys k)).length:=aAh ..
   rw [eK,eC,e1,e2]
   refine ⟨[5,6,2],rfl,?_⟩
   (repeat' (first | exact True.intro | exact rfl | refine And.intro ?_ ?_))
 | false=>
   rw [q] at hp
   simp only [Bool.false_eq_true,if_false]
   unfold nodeR nodeV
   refine aQ nD false [26] [] (mo:=moR) (by kernel_rfl) Try.func51 rfl ?_
   conv=>whnf
   repeat' (first
    | (refine ⟨l3.symm,?_⟩;conv=>whnf)
    | (refine ⟨_,_,(hp _).mdd _ _ _ _,And.intro rfl aZ,?_⟩;conv=>whnf)
    | (refine ⟨_,_,(hlf _).mdd _ _ _ _,And.intro rfl aZ,?_⟩;conv=>whnf)
    | (first | (refine And.intro (fun q=>absurd q (by decide)) (fun _=>?_);conv=>whnf) | (refine And.intro (fun _=>?_) (fun q=>absurd q (by decide));conv=>whnf))
    | fail)
   refine ⟨[0,1,2],rfl,?_⟩
   (repeat' (first | exact True.intro | exact rfl | refine And.intro ?_ ?_))
theorem gH (l:List (List Ver)):(aG l).length=l.length:=aAh ..
theorem dL (l:List (List UInt8)):(aF l).length=l.length:=aAh ..
theorem qK (a:List (List UInt8)) (b:List (List Ver)) (c:List Node):(Node.mk a b c).keys=a:=rfl
theorem mW (a:List (List UInt8)) (b:List (List Ver)) (c:List Node):(Node.mk a b c).chains=b:=rfl
theorem qL (a:List (List UInt8)) (b:List (List Ver)) (c:List Node):(Node.mk a b c).kids=c:=rfl
theorem eA (l:List Node):(l.map ownN).length=l.length:=aAh ..
theorem rm_w1 (n:Node) (k:List UInt8) (h1:n.keys.length<=3) (h2:n.chains.length=n.keys.length) (h3:leafN n=false) (h4:n.kids.length=n.keys.length+1) (q:bsIs n.keys k=true) (c1:1 < (aA n (bs n.keys k+1)).keys.length) (s:KV) (R:Node)
 (hth:gP X 67 [(27,1,aF (aA n (bs n.keys k+1)).keys),(32,1,aG (aA n (bs n.keys k+1)).chains),(26,3,(aA n (bs n.keys k+1)).kids.map ownN)] [aL s.1,encVs s.2])
 (hc:RmC (aA n (bs n.keys k+1)) s.1 R):RmC n k (.mk (n.keys.set (bs n.keys k) s.1) (n.chains.set (bs n.keys k) s.2) (n.kids.set (bs n.keys k+1) R)):=by
 have hlt:=eV q
 intro H
 have l1:(aF n.keys).length=n.keys.length:=aAh ..
 have l2:(aG n.chains).length=n.chains.length:=aAh ..
 have l3:(n.kids.map ownN).length=n.kids.length:=aAh ..
 have l3':=l3.symm
 have hp:=fun H=>(jI n k (by omega) _ _ rfl rfl H).xt
 have hlf:=fun H=>(kX n n.keys.length n.chains.length H).xt
 rw [h3] at hlf
 have hle:=cO n.keys k
 rw [q] at hp
 generalize hbs:bs n.keys k=i at *
 have w:IntKind.i64.wrap (((i:Nat):Int)+1)=((i+1:Nat):Int):=by rw [aJ (by omega) (by omega)];omega
 have hk:∀ j,j < n.kids.length->n.kids[j]? = some (aA n j):=fun j hj=>aW hj
 have ho:∀ j,j < n.kids.length->(n.kids.map ownN)[((j:Nat):Int).toNat]? = some [.own 27 1 (aF (aA n j).keys),.own 32 1 (aG (aA n j).chains),.own 26 3 ((aA n j).kids.map ownN)]:=fun j hj=>by rw [aBi];exact bV (hk j hj)
 have e1:∀ (j:Nat) (b:Bool),decide (1 < (aA n j).keys.length)=b->decide (((aF (aA n j).keys).length:Int) > 1)=b:=fun j b hb=>by
  rw [<- hb,dL]
  exact decide_eq_decide.2 ⟨fun h=>by omega,fun h=>by omega⟩
 have f1:=e1 (i+1) true (decide_eq_true c1)
 have hN:=ho (i+1) (by omega)
 have hK:(aF n.keys)[((i:Nat):Int).toNat]? = some [aL (n.keys.getD i [])]:=by rw [aBi];exact gC (by omega)
 have hC:(aG n.chains)[((i:Nat):Int).toNat]? = some [encVs (n.chains.getD i [])]:=by rw [aBi];exact eX (by omega)
 have hrm:=fun H=>(hc H).xt
 unfold nodeR nodeV at hrm
 rw [<- dL,<- gH,<- eA] at hrm
 generalize hD:aA n (i+1)=c at *
 have n1:=noOwn_K c.keys
 have n2:=noOwn_C c.chains
 have t1:R.keys.length=(aF R.keys).length:=(dL _).symm
 have t2:R.chains.length=(aG R.chains).length:=(gH _).symm
 have t3:R.kids.length=(R.kids.map ownN).length:=(eA _).symm
 refine aE.tx ?_
 unfold nodeR nodeV
 refine aQ nD false [26] [] (mo:=moR) (by kernel_rfl) Try.func51 rfl ?_
 conv=>whnf
 repeat' (first
  | (refine ⟨l3',?_⟩;conv=>whnf)
  | (refine ⟨by omega,by omega,?_⟩;conv=>whnf)
  | (refine ⟨_,_,(hp _).mdd _ _ _ _,And.intro rfl aZ,?_⟩;conv=>whnf)
  | (refine ⟨_,_,(hlf _).mdd _ _ _ _,And.intro rfl aZ,?_⟩;conv=>whnf)
  | (refine ⟨_,hN,?_⟩;conv=>whnf)
  | (refine ⟨_,hK,?_⟩;conv=>whnf)
  | (refine ⟨_,hC,?_⟩;conv=>whnf)
  | (refine ⟨_,_,_,(hrm _).mdd _ _ _ _,?_⟩;conv=>whnf)
  | (intro z hz
     conv=>whnf
     rw [w] at hz
     subst hz)
  | (refine ⟨n1,?_⟩;conv=>whnf)
  | (refine ⟨n2,?_⟩;conv=>whnf)
  | (refine ⟨t1,?_⟩;conv=>whnf)
  | (refine ⟨t2,?_⟩;conv=>whnf)
  | (refine ⟨t3,?_⟩;conv=>whnf)
  | (refine ⟨_,hth.xt,?_⟩;conv=>whnf)
  | (first | (refine And.intro (fun q=>absurd q (by decide)) (fun _=>?_);conv=>whnf) | (refine And.intro (fun _=>?_) (fun q=>absurd q (by decide));conv=>whnf))
  | (refine And.intro (fun _=>?_) (fun q=>absurd (f1.symm.trans q) (by decide));conv=>whnf)
  | (refine And.intro (fun q=>absurd (f1.symm.trans q) (by decide)) (fun _=>?_);conv=>whnf)
  | (refine And.intro (fun _=>?_) (fun q=>absurd (f2.symm.trans q) (by decide));conv=>whnf)
  | (refine And.intro (fun q=>absurd (f2.symm.trans q) (by decide)) (fun _=>?_);conv=>whnf)
  | (apply Exists.intro
     apply And.intro
     focus ((repeat' (first | exact hN | exact hK | exact hC | exact gB (by first | omega | (simp only [aAp];omega)) | (apply kJ;focus omega)));done)
     conv=>whnf)
  | (refine And.intro rfl ?_;conv=>whnf)
  | (refine And.intro ?_ ?_ <;> (conv=>whnf))
  | fail)
 simp only [qK,mW,qL,aBi,List.set_set,aAp]
 have eK:(aF n.keys).set i [aL s.1]=aF (n.keys.set i s.1):=(List.map_set ..).symm
 have eC:(aG n.chains).set i [encVs s.2]=aG (n.chains.set i s.2):=(List.map_set ..).symm
 have eN:(n.kids.map ownN).set (i+1) (ownN R)=(n.kids.set (i+1) R).map ownN:=(List.map_set ..).symm
 rw [<- eK,<- eC,<- eN,ownN_eq]
 refine ⟨[0,1,2],rfl,?_⟩
 (repeat' (first | exact True.intro | exact rfl | refine And.intro ?_ ?_))
theorem rm_w2 (n:Node) (k:List UInt8) (h1:n.keys.length<=3) (h2:n.chains.length=n.keys.length) (h3:leafN n=false) (h4:n.kids.length=n.keys.length+1) (q:bsIs n.keys k=true) (c1:¬ 1 < (aA n (bs n.keys k+1)).keys.length) (c2:1 < (aA n (bs n.keys k)).keys.length) (S R:Node)
 (hl:∀ H,aE X H 68 (nodeR n) [nodeV n,.d (.int .i64 ((bs n.keys k+1:Nat):Int)),.d (.int .i64 (bs n.keys k))] [none,none,none] (nodeV S) (nodeR S))
 (hc:RmC S k R):RmC n k R:=by
 have hlt:=eV q
 intro H
 have l1:(aF n.keys).length=n.keys.length:=aAh ..
 have l2:(aG n.chains).length=n.chains.length:=aAh ..
 have l3:(n.kids.map ownN).length=n.kids.length:=aAh ..
 have l3':=l3.symm
 have hp:=fun H=>(jI n k (by omega) _ _ rfl rfl H).xt
 have hlf:=fun H=>(kX n n.keys.length n.chains.length H).xt
 rw [h3] at hlf
 have hle:=cO n.keys k
 rw [q] at hp
 generalize hbs:bs n.keys k=i at *
 have w:IntKind.i64.wrap (((i:Nat):Int)+1)=((i+1:Nat):Int):=by rw [aJ (by omega) (by omega)];omega
 have hk:∀ j,j < n.kids.length->n.kids[j]? = some (aA n j):=fun j hj=>aW hj
 have ho:∀ j,j < n.kids.length->(n.kids.map ownN)[((j:Nat):Int).toNat]? = some [.own 27 1 (aF (aA n j).keys),.own 32 1 (aG (aA n j).chains),.own 26 3 ((aA n j).kids.map ownN)]:=fun j hj=>by rw [aBi];exact bV (hk j hj)
 have e1:∀ (j:Nat) (b:Bool),decide (1 < (aA n j).keys.length)=b->decide (((aF (aA n j).keys).length:Int) > 1)=b:=fun j b hb=>by
  rw [<- hb,dL]
  exact decide_eq_decide.2 ⟨fun h=>by omega,fun h=>by omega⟩
 have f1:=e1 (i+1) false (decide_eq_false c1)
 have f2:=e1 i true (decide_eq_true c2)
 have hN:=ho (i+1) (by omega)
 have hM:=ho i (by omega)
 have hrm:=fun H=>(hc H).xt
 have hlend:=fun H=>(hl H).xt
 unfold nodeR nodeV at hrm hlend
 refine aE.tx ?_
 unfold nodeR nodeV
 refine aQ nD false [26] [] (mo:=moR) (by kernel_rfl) Try.func51 rfl ?_
 conv=>whnf
 repeat' (first
  | (refine ⟨l3',?_⟩;conv=>whnf)
  | (refine ⟨by omega,by omega,?_⟩;conv=>whnf)
  | (refine ⟨_,_,(hp _).mdd _ _ _ _,And.intro rfl aZ,?_⟩;conv=>whnf)
  | (refine ⟨_,_,(hlf _).mdd _ _ _ _,And.intro rfl aZ,?_⟩;conv=>whnf)
  | (refine ⟨_,hN,?_⟩;conv=>whnf)
  | (refine ⟨_,hM,?_⟩;conv=>whnf)
  | (refine ⟨_,_,_,(hlend _).mdd _ _ _ _,?_⟩;conv=>whnf)
  | (refine ⟨_,_,_,(hrm _).mdd _ _ _ _,?_⟩;conv=>whnf)
  | (intro z hz
     conv=>whnf
     rw [w] at hz
     subst hz)
  | (first | (refine And.intro (fun q=>absurd q (by decide)) (fun _=>?_);conv=>whnf) | (refine And.intro (fun _=>?_) (fun q=>absurd q (by decide));conv=>whnf))
  | (refine And.intro (fun _=>?_) (fun q=>absurd (f1.symm.trans q) (by decide));conv=>whnf)
  | (refine And.intro (fun q=>absurd (f1.symm.trans q) (by decide)) (fun _=>?_);conv=>whnf)
  | (refine And.intro (fun _=>?_) (fun q=>absurd (f2.symm.trans q) (by decide));conv=>whnf)
  | (refine And.intro (fun q=>absurd (f2.symm.trans q) (by decide)) (fun _=>?_);conv=>whnf)
  | (apply Exists.intro
     apply And.intro
     focus ((repeat' (first | exact hN | exact hM | exact gB (by first | omega | (simp only [aAp];omega)) | (apply kJ;focus omega)));done)
     conv=>whnf)
  | (refine And.intro rfl ?_;conv=>whnf)
  | (refine And.intro ?_ ?_ <;> (conv=>whnf))
  | fail)
 refine ⟨[10,11,12],rfl,?_⟩
 (repeat' (first | exact True.intro | exact rfl | refine And.intro ?_ ?_))
theorem rm_w3 (n:Node) (k:List UInt8) (h1:n.keys.length<=3) (h2:n.chains.length=n.keys.length) (h3:leafN n=false) (h4:n.kids.length=n.keys.length+1) (q:bsIs n.keys k=true) (c1:¬ 1 < (aA n (bs n.keys k+1)).keys.length) (c2:¬ 1 < (aA n (bs n.keys k)).keys.length) (S R:Node) (hS:bs n.keys k < S.kids.length) (hSk:S.kids.length < 1000000)
 (hl:∀ H,aE X H 69 (nodeR n) [nodeV n,.d (.int .i64 (bs n.keys k))] [none,none,none] (nodeV S) (nodeR S))
 (hc:RmC (aA S (bs n.keys k)) k R):RmC n k (.mk S.keys S.chains (S.kids.set (bs n.keys k) R)):=by
 have hlt:=eV q
 intro H
 have l1:(aF n.keys).length=n.keys.length:=aAh ..
 have l2:(aG n.chains).length=n.chains.length:=aAh ..
 have l3:(n.kids.map ownN).length=n.kids.length:=aAh ..
 have l3':=l3.symm
 have hp:=fun H=>(jI n k (by omega) _ _ rfl rfl H).xt
 have hlf:=fun H=>(kX n n.keys.length n.chains.length H).xt
 rw [h3] at hlf
 have hle:=cO n.keys k
 rw [q] at hp
 generalize hbs:bs n.keys k=i at *
 have w:IntKind.i64.wrap (((i:Nat):Int)+1)=((i+1:Nat):Int):=by rw [aJ (by omega) (by omega)];omega
 have hk:∀ j,j < n.kids.length->n.kids[j]? = some (aA n j):=fun j hj=>aW hj
 have ho:∀ j,j < n.kids.length->(n.kids.map ownN)[((j:Nat):Int).toNat]? = some [.own 27 1 (aF (aA n j).keys),.own 32 1 (aG (aA n j).chains),.own 26 3 ((aA n j).kids.map ownN)]:=fun j hj=>by rw [aBi];exact bV (hk j hj)
 have e1:∀ (j:Nat) (b:Bool),decide (1 < (aA n j).keys.length)=b->decide (((aF (aA n j).keys).length:Int) > 1)=b:=fun j b hb=>by
  rw [<- hb,dL]
  exact decide_eq_decide.2 ⟨fun h=>by omega,fun h=>by omega⟩
 have f1:=e1 (i+1) false (decide_eq_false c1)
 have f2:=e1 i false (decide_eq_false c2)
 have hN:=ho (i+1) (by omega)
 have hM:=ho i (by omega)
 have lS0:(S.kids.map ownN).length=S.kids.length:=eA S.kids
 have hoS:(S.kids.map ownN)[((i:Nat):Int).toNat]? = some [.own 27 1 (aF (aA S i).keys),.own 32 1 (aG (aA S i).chains),.own 26 3 ((aA S i).kids.map ownN)]:=by rw [aBi];exact bV (aW hS)
 have hrm:=fun H=>(hc H).xt
 have hlend:=fun H=>(hl H).xt
 unfold nodeR nodeV at hrm hlend
 rw [<- dL (aA S i).keys,<- gH (aA S i).chains,<- eA (aA S i).kids] at hrm
 generalize hD:aA S i=c at *
 have n1:=noOwn_K c.keys
 have n2:=noOwn_C c.chains
 have t1:R.keys.length=(aF R.keys).length:=(dL _).symm
 have t2:R.chains.length=(aG R.chains).length:=(gH _).symm
 have t3:R.kids.length=(R.kids.map ownN).length:=(eA _).symm
 refine aE.tx ?_
 unfold nodeR nodeV
 refine aQ nD false [26] [] (mo:=moR) (by kernel_rfl) Try.func51 rfl ?_
 conv=>whnf
 repeat' (first
  | (refine ⟨l3',?_⟩;conv=>whnf)
  | (refine ⟨by omega,by omega,?_⟩;conv=>whnf)
  | (refine ⟨_,_,(hp _).mdd _ _ _ _,And.intro rfl aZ,?_⟩;conv=>whnf)
  | (refine ⟨_,_,(hlf _).mdd _ _ _ _,And.intro rfl aZ,?_⟩;conv=>whnf)
  | (refine ⟨_,hN,?_⟩;conv=>whnf)
  | (refine ⟨_,hM,?_⟩;conv=>whnf)
  | (refine ⟨_,hoS,?_⟩;conv=>whnf)
  | (refine ⟨_,_,_,(hlend _).mdd _ _ _ _,?_⟩;conv=>whnf)
  | (refine ⟨_,_,_,(hrm _).mdd _ _ _ _,?_⟩;conv=>whnf)
  | (intro z hz
     conv=>whnf
     rw [w] at hz
     subst hz)
  | (refine ⟨n1,?_⟩;conv=>whnf)
  | (refine ⟨n2,?_⟩;conv=>whnf)
  | (refine ⟨t1,?_⟩;conv=>whnf)
  | (refine ⟨t2,?_⟩;conv=>whnf)
  | (refine ⟨t3,?_⟩;conv=>whnf)
  | (first | (refine And.intro (fun q=>absurd q (by decide)) (fun _=>?_);conv=>whnf) | (refine And.intro (fun _=>?_) (fun q=>absurd q (by decide));conv=>whnf))
  | (refine And.intro (fun _=>?_) (fun q=>absurd (f1.symm.trans q) (by decide));conv=>whnf)
  | (refine And.intro (fun q=>absurd (f1.symm.trans q) (by decide)) (fun _=>?_);conv=>whnf)
  | (refine And.intro (fun _=>?_) (fun q=>absurd (f2.symm.trans q) (by decide));conv=>whnf)
  | (refine And.intro (fun q=>absurd (f2.symm.trans q) (by decide)) (fun _=>?_);conv=>whnf)
  | (apply Exists.intro
     apply And.intro
     focus ((repeat' (first | exact hN | exact hM | exact hoS | exact gB (by first | omega | (simp only [aAp];omega)) | (apply kJ;focus omega)));done)
     conv=>whnf)
  | (refine And.intro rfl ?_;conv=>whnf)
  | (refine And.intro ?_ ?_ <;> (conv=>whnf))
  | fail)
 simp only [qK,mW,qL,aBi,List.set_set,aAp]
 have eN:(S.kids.map ownN).set i (ownN R)=(S.kids.set i R).map ownN:=(List.map_set ..).symm
 rw [<- eN,ownN_eq]
 refine ⟨[7,8,9],rfl,?_⟩
 (repeat' (first | exact True.intro | exact rfl | refine And.intro ?_ ?_))
theorem rm_w4 (n:Node) (k:List UInt8) (h1:n.keys.length<=3) (h2:n.chains.length=n.keys.length) (h3:leafN n=false) (h4:n.kids.length=n.keys.length+1) (q:bsIs n.keys k=false) (S R:Node) (j:Nat) (hS:j < S.kids.length) (hSk:S.kids.length < 1000000) (hSn:S.keys.length < 1000000) (hno:bsIs S.keys k=false)
 (hl:∀ H,aE X H 70 (nodeR n) [nodeV n,.d (.int .i64 (bs n.keys k))] [none,none,none] (.tuple [nodeV S,.d (.int .i64 j)]) (nodeR S))
 (hc:RmC (aA S j) k R):RmC n k (.mk S.keys S.chains (S.kids.set j R)):=by
 intro H
 have l1:(aF n.keys).length=n.keys.length:=aAh ..
 have l2:(aG n.chains).length=n.chains.length:=aAh ..
 have l3:(n.kids.map ownN).length=n.kids.length:=aAh ..
 have l3':=l3.symm
 have hp:=fun H=>(jI n k (by omega) _ _ rfl rfl H).xt
 have hlf:=fun H=>(kX n n.keys.length n.chains.length H).xt
 rw [h3] at hlf
 have hle:=cO n.keys k
 rw [q] at hp
 generalize hbs:bs n.keys k=i at *
 have w:IntKind.i64.wrap (((i:Nat):Int)+1)=((i+1:Nat):Int):=by rw [aJ (by omega) (by omega)];omega
 have hk:∀ j,j < n.kids.length->n.kids[j]? = some (aA n j):=fun j hj=>aW hj
 have ho:∀ j,j < n.kids.length->(n.kids.map ownN)[((j:Nat):Int).toNat]? = some [.own 27 1 (aF (aA n j).keys),.own 32 1 (aG (aA n j).chains),.own 26 3 ((aA n j).kids.map ownN)]:=fun j hj=>by rw [aBi];exact bV (hk j hj)
 have e1:∀ (j:Nat) (b:Bool),decide (1 < (aA n j).keys.length)=b->decide (((aF (aA n j).keys).length:Int) > 1)=b:=fun j b hb=>by
  rw [<- hb,dL]
  exact decide_eq_decide.2 ⟨fun h=>by omega,fun h=>by omega⟩
 have hpS:=fun H=>(jI S k hSn _ _ rfl rfl H).xt
 rw [hno] at hpS
 have lS:S.kids.length=(S.kids.map ownN).length:=(eA _).symm
 have lS0:(S.kids.map ownN).length=S.kids.length:=eA S.kids
 have hoS:(S.kids.map ownN)[((j:Nat):Int).toNat]? = some [.own 27 1 (aF (aA S j).keys),.own 32 1 (aG (aA S j).chains),.own 26 3 ((aA S j).kids.map ownN)]:=by rw [aBi];exact bV (aW hS)
 have hrm:=fun H=>(hc H).xt
 have hlend:=fun H=>(hl H).xt
 unfold nodeR nodeV at hrm hlend
 rw [<- dL (aA S j).keys,<- gH (aA S j).chains,<- eA (aA S j).kids] at hrm
 generalize hD:aA S j=c at *
 have n1:=noOwn_K c.keys
 have n2:=noOwn_C c.chains
 have t1:R.keys.length=(aF R.keys).length:=(dL _).symm
 have t2:R.chains.length=(aG R.chains).length:=(gH _).symm
 have t3:R.kids.length=(R.kids.map ownN).length:=(eA _).symm
 refine aE.tx ?_
 unfold nodeR nodeV
 refine aQ nD false [26] [] (mo:=moR) (by kernel_rfl) Try.func51 rfl ?_
 conv=>whnf
 repeat' (first
  | (refine ⟨l3',?_⟩;conv=>whnf)
  | (refine ⟨by omega,by omega,?_⟩;conv=>whnf)
  | (refine ⟨_,_,(hp _).mdd _ _ _ _,And.intro rfl aZ,?_⟩;conv=>whnf)
  | (refine ⟨_,_,(hlf _).mdd _ _ _ _,And.intro rfl aZ,?_⟩;conv=>whnf)
  | (refine ⟨_,hoS,?_⟩;conv=>whnf)
  | (refine ⟨_,_,_,(hlend _).mdd _ _ _ _,?_⟩;conv=>whnf)
  | (refine ⟨_,_,_,(hrm _).mdd _ _ _ _,?_⟩;conv=>whnf)
  | (intro z hz
     conv=>whnf
     rw [w] at hz
     subst hz)
  | (refine ⟨lS,?_⟩;conv=>whnf)
  | (refine ⟨_,_,(hpS _).mdd _ _ _ _,And.intro rfl aZ,?_⟩;conv=>whnf)
  | (refine ⟨n1,?_⟩;conv=>whnf)
  | (refine ⟨n2,?_⟩;conv=>whnf)
  | (refine ⟨t1,?_⟩;conv=>whnf)
  | (refine ⟨t2,?_⟩;conv=>whnf)
  | (refine ⟨t3,?_⟩;conv=>whnf)
  | (first | (refine And.intro (fun q=>absurd q (by decide)) (fun _=>?_);conv=>whnf) | (refine And.intro (fun _=>?_) (fun q=>absurd q (by decide));conv=>whnf))
  | (refine And.intro (fun _=>?_) (fun q=>absurd (f1.symm.trans q) (by decide));conv=>whnf)
  | (refine And.intro (fun q=>absurd (f1.symm.trans q) (by decide)) (fun _=>?_);conv=>whnf)
  | (refine And.intro (fun _=>?_) (fun q=>absurd (f2.symm.trans q) (by decide));conv=>whnf)
  | (refine And.intro (fun q=>absurd (f2.symm.trans q) (by decide)) (fun _=>?_);conv=>whnf)
  | (apply Exists.intro
     apply And.intro
     focus ((repeat' (first | exact hoS | exact gB (by first | omega | (simp only [aAp];omega)) | (apply kJ;focus omega)));done)
     conv=>whnf)
  | (refine And.intro rfl ?_;conv=>whnf)
  | (refine And.intro ?_ ?_ <;> (conv=>whnf))
  | fail)
 simp only [qK,mW,qL,aBi,List.set_set,aAp]
 have eN:(S.kids.map ownN).set j (ownN R)=(S.kids.set j R).map ownN:=(List.map_set ..).symm
 rw [<- eN,ownN_eq]
 refine ⟨[5,6,7],rfl,?_⟩
 (repeat' (first | exact True.intro | exact rfl | refine And.intro ?_ ?_))
theorem pR {n:Node} (h:n.kids.length=n.keys.length+1):leafN n=false:=by
 cases hq:leafN n with
 | false=>rfl
 | true=>have:=iH hq;rw [this] at h;simp at h
theorem tT {d:Nat} {n:Node} (h:shN (d+2) n):n.kids.length=n.keys.length+1:=by
 rcases h.2.2 with ⟨hz,_⟩ | ⟨hm,_⟩
 . cases hz
 . exact hm
theorem rm_noC {d f:Nat} {n:Node} {k:List UInt8} (ih:∀ c:Node,RmOk (d+1) c->0 < c.keys.length->RmC c k (bL f c k)) (h:RmOk (d+2) n) (hno:bsIs n.keys k=false) (h0:0 < n.keys.length) :
 RmC n k (bL (f+1) n k):=by
 have h2:=tT h.sh
 have hf:=vM h hno h2 h0
 have hlf:=pR h2
 have hle:=cO n.keys k
 have hl:=fun H=>d_fillD n (bs n.keys k) h.sh h.mn (by omega) (by omega) H
 unfold bL
 rw [if_neg (by rw [hlf];decide),if_neg (by rw [hno];decide),if_neg (by rw [hf.no];decide)]
 generalize (cE n (bs n.keys k)).1=m at hf hl ⊢
 generalize (cE n (bs n.keys k)).2=i at hf hl ⊢
 have hc:=aW hf.lt
 have hm3:=hf.ok.sh.2.1
 have hmk:=tT hf.ok.sh
 obtain ⟨hk,_⟩:=hf.ok.kid hc (by have:=hf.lt;omega)
 exact rm_w4 n k h.sh.2.1 h.sh.1 hlf h2 hno m _ i hf.lt (by omega) (by omega) hf.no hl (ih _ hk (by have:=hf.two;omega))
theorem rmC (d:Nat):∀ (f:Nat) (n:Node) (k:List UInt8),RmOk d n->2*d<=f->(n.kids = []\/0 < n.keys.length)->RmC n k (bL f n k):=by
 induction d with
 | zero=>exact fun f n k h=>h.sh.elim
 | succ d ih=>
 intro f n k h hf hn
 obtain ⟨f,rfl⟩:∃ f',f=f'+1:=⟨f - 1,by omega⟩
 obtain ⟨h1,h3,h4⟩:=h.sh
 rcases h4 with ⟨_,h4⟩ | ⟨h4,h5⟩
 . have hlf:leafN n=true:=by unfold leafN;rw [h4];rfl
   unfold bL
   rw [if_pos hlf]
   exact rm_w0 n k h3 h1 hlf
 have h0:0 < n.keys.length:=by
  rcases hn with hn | hn
  . rw [hn] at h4;simp at h4
  . exact hn
 obtain ⟨c0,hc0⟩:∃ c,n.kids[0]? = some c:=⟨_,aAf (by omega)⟩
 obtain ⟨d,rfl⟩:=iA (h5 c0 (aAg hc0))
 have hno':∀ (f:Nat) (m:Node),2*(d+1)<=f->RmOk (d+2) m->bsIs m.keys k=false->0 < m.keys.length->RmC m k (bL (f+1) m k):=fun f m hf hm hno hm0=>
  rm_noC (fun c hc hcl=>ih f c k hc hf (.inr hcl)) hm hno hm0
 by_cases q:bsIs n.keys k=false
 . exact hno' f n (by omega) h q h0
 have q:bsIs n.keys k=true:=by simpa using q
 have hlt:=eV q
 have hkey:=eG.1 q
 have hsk:=bW h1 h.so
 have below:=(fQ hsk k).1
 obtain ⟨ab1,ab2,_⟩:=about h1 h.so k
 obtain ⟨ab2,_⟩:=ab2 q
 have hlf:=pR h4
 have hw1:=rm_w1 n k h3 h1 hlf h4 q
 have hw2:=rm_w2 n k h3 h1 hlf h4 q
 have hw3:=rm_w3 n k h3 h1 hlf h4 q
 unfold bL
 rw [if_neg (by rw [hlf];decide),if_pos q]
 generalize hi:bs n.keys k=i at *
 have ka:=aW (n:=n) (i:=i) (by omega)
 have kb:=aW (n:=n) (i:=i+1) (by omega)
 obtain ⟨oa,la⟩:=h.kid ka (by omega)
 obtain ⟨ob,lb⟩:=h.kid kb (by omega)
 by_cases c1:1 < (aA n (i+1)).keys.length
 . rw [if_pos c1,kI _ _ ob.sh f (by omega)]
   exact hw1 c1 _ _ (thru_first (d+1) (aA n (i+1)) ob.sh ob.mn lb) (ih f (aA n (i+1)) _ ob (by omega) (.inr (by omega)))
 rw [if_neg c1]
 by_cases c2:1 < (aA n i).keys.length
 . rw [if_pos c2]
   obtain ⟨r1,r2,r3⟩:=h.lend h4 (i:=i+1) (j:=i) (.inl ⟨rfl,by omega⟩) (by omega) c2
   have e:bH n (i+1) i=bP n i (bA (aA n i) ((aA n i).keys.length - 1)) (eF (aA n i)) (eE (aA n (i+1)) (aA n i) (bA n i)):=by
    unfold bH;rw [if_pos (aBm _)]
   obtain ⟨v,hv⟩:=mT (d:=d) (n:=aA n i) oa.sh.1 (getD_of (l:=(aA n i).keys) (i:=(aA n i).keys.length - 1) (d:=[]) (by omega))
   have hlow:=ab2 _ (by rw [dQ ka];exact hv)
   have hkeys:(bH n (i+1) i).keys=n.keys.set i ((aA n i).keys.getD ((aA n i).keys.length - 1) []):=by rw [e];rfl
   obtain ⟨p1,p2⟩:=iI (k:=k) (i:=i+1) (bW r1.sh.1 r1.so) (by rw [r3];omega) (fun t a ht ha=>by
    rw [hkeys] at ha
    by_cases hj:t=i
    . subst hj
      rw [aAr (by omega)] at ha
      cases ha
      exact hlow
    . rw [aAs (fun e=>hj e.symm)] at ha
      exact below t a (by omega) ha) (fun t a ht ha=>by
    rw [hkeys,aAs (by omega)] at ha
    have:=fP hsk (by omega:i < t) hkey ha
    have f:=dB k a
    omega)
   obtain ⟨f,rfl⟩:∃ f',f=f'+1:=⟨f - 1,by omega⟩
   exact hw2 c1 c2 _ _ (fun H=>tQ n i h.sh (by omega) (by omega) (by omega) H) (hno' f _ (by omega) r1 p2 (by omega))
 rw [if_neg c2]
 obtain ⟨r1,r2,r3⟩:=h.join h4 (by omega) (by omega:(aA n i).keys.length+(aA n (i+1)).keys.length < 3)
 have hmk:=tT r1.sh
 have e:=fT ka kb
 have hT:(n.kids.take i).length=i:=by rw [aAl];omega
 have e2:aA (bG n i) i=cS (aA n i) (n.keys.getD i [],n.chains.getD i []) (aA n (i+1)):=by
  rw [e]
  unfold aA
  show (n.kids.take i++_::n.kids.drop (i+2)).getD i _=_
  rw [aA2,aAj (by omega),hT,aB2];rfl
 have htwo:2<=(aA (bG n i) i).keys.length:=by
  rw [e2]
  show 2<=((aA n i).keys ++ [_]++(aA n (i+1)).keys).length
  simp only [aAm,aAn,aAo];omega
 have hil:i < (bG n i).kids.length:=by omega
 have kc:=aW hil
 obtain ⟨oc,_⟩:=r1.kid kc (by omega)
 have hm3:=r1.sh.2.1
 exact hw3 c1 c2 _ _ hil (by omega) (fun H=>mV n i _ _ h.sh ka kb H) (ih f _ k oc (by omega) (.inr (by omega)))
theorem d_DelD (d:Nat) (n:Node) (k:List UInt8) (c:List Ver) (R:Node) (hd:d<=16) (hn:nOk d n) (hk:k.length<=1000000) (hok:aX d n=true) (hc:eY d n k=some c)
 (hR:RmC n k R) (h0:leafN R=false->0 < R.kids.length) (hRk:R.kids.length < 1000000) (H:List (List Blk)) :
 aD X H 29 [pNode n,.d (aL k)] (.tuple [nodeV (iJ R),.d (.int .i64 0)]) (nodeR (iJ R)):=by
 have hchk:=fun H=>eU d n (by omega) hn H
 have hown:=fun H=>d_ownD d n hn H
 have hfind:=fun H=>pE d n k hd hn H
 have hrm:=fun H=>hR H
 have hlf:=fun H=>kX R R.keys.length R.chains.length H
 unfold nodeR nodeV at hrm
 rw [hok] at hchk
 rw [hc] at hfind
 unfold sQ at hfind
 have l3:R.kids.length=(R.kids.map ownN).length:=(aAh ..).symm
 unfold nodeR nodeV iJ
 by_cases hr:R.keys.length=0/\leafN R=false
 . rw [if_pos hr]
   obtain ⟨r1,r2⟩:=hr
   have h0:=h0 r2
   rw [r2] at hlf
   have hN:(R.kids.map ownN)[((0:Nat):Int).toNat]? = some [.own 27 1 (aF (aA R 0).keys),.own 32 1 (aG (aA R 0).chains),.own 26 3 ((aA R 0).kids.map ownN)]:=by rw [aBi];exact bV (aW h0)
   generalize hD:aA R 0=c0 at *
   have n1:=noOwn_K c0.keys
   have n2:=noOwn_C c0.chains
   have t1:c0.keys.length=(aF c0.keys).length:=(dL _).symm
   have t2:c0.chains.length=(aG c0.chains).length:=(gH _).symm
   have t3:c0.kids.length=(c0.kids.map ownN).length:=(eA _).symm
   rw [t1,t2,t3]
   have f1:((R.keys.length:Int)==0)=true:=by rw [r1];rfl
   refine callEq_of_bodyD aY false false [26] [] (mo:=[]) (by kernel_rfl) Try.func29 rfl ?_
   conv=>whnf
   repeat' (first
    | (refine ⟨l3,?_⟩;conv=>whnf)
    | (refine ⟨by omega,by omega,?_⟩;conv=>whnf)
    | (refine ⟨_,_,(hchk _).mdd _ _ _ _,True.intro,?_⟩;conv=>whnf)
    | (refine ⟨_,_,(hfind _).mdd _ _ _ _,True.intro,?_⟩;conv=>whnf)
    | (refine ⟨_,_,(hown _).mdd _ _ _ _,True.intro,?_⟩;conv=>whnf)
    | (refine ⟨_,_,(c103 k (by omega) _).mdd _ _ _ _,True.intro,?_⟩;conv=>whnf)
    | (refine ⟨_,_,_,(hrm _).mdd _ _ _ _,?_⟩;conv=>whnf)
    | (refine ⟨_,_,(hlf _).mdd _ _ _ _,And.intro rfl aZ,?_⟩;conv=>whnf)
    | (refine ⟨_,hN,?_⟩;conv=>whnf)
    | (refine ⟨n1,?_⟩;conv=>whnf)
    | (refine ⟨n2,?_⟩;conv=>whnf)
    | (apply Exists.intro
       apply And.intro
       focus ((repeat' (first | exact hN | exact gB (by first | omega | (simp only [aAp];omega)) | (apply kJ;focus omega)));done)
       conv=>whnf)
    | (refine And.intro (fun q=>absurd q aBt) (fun _=>?_);conv=>whnf)
    | (refine And.intro (fun q=>absurd q (by decide)) (fun _=>?_);conv=>whnf)
    | (refine And.intro (fun _=>?_) (fun q=>absurd q (by decide));conv=>whnf)
    | (refine And.intro (fun _=>?_) (fun q=>absurd (f1.symm.trans q) (by decide));conv=>whnf)
    | (refine And.intro (fun q=>absurd (f1.symm.trans q) (by decide)) (fun _=>?_);conv=>whnf)
    | fail)
   refine ⟨[9,10,11],rfl,?_⟩
   (repeat' (first | exact True.intro | exact rfl | refine And.intro ?_ ?_))
 . rw [if_neg hr]
   have key:(∃ b,leafN R=b/\((R.keys.length:Int)==0)=false)\/(leafN R=true/\((R.keys.length:Int)==0)=true):=by
    by_cases hz:R.keys.length=0
    . right
      refine ⟨?_,by rw [hz];rfl⟩
      cases hl:leafN R with
      | true=>rfl
      | false=>exact absurd ⟨hz,hl⟩ hr
    . left;exact ⟨_,rfl,by simpa using hz⟩
   rcases key with ⟨b,hb,f1⟩ | ⟨hb,f1⟩ <;> rw [hb] at hlf
   . skip
     refine callEq_of_bodyD aY false false [26] [] (mo:=[]) (by kernel_rfl) Try.func29 rfl ?_
     conv=>whnf
     repeat' (first
      | (refine ⟨l3,?_⟩;conv=>whnf)
      | (refine ⟨by omega,by omega,?_⟩;conv=>whnf)
      | (refine ⟨_,_,(hchk _).mdd _ _ _ _,True.intro,?_⟩;conv=>whnf)
      | (refine ⟨_,_,(hfind _).mdd _ _ _ _,True.intro,?_⟩;conv=>whnf)
      | (refine ⟨_,_,(hown _).mdd _ _ _ _,True.intro,?_⟩;conv=>whnf)
      | (refine ⟨_,_,(c103 k (by omega) _).mdd _ _ _ _,True.intro,?_⟩;conv=>whnf)
      | (refine ⟨_,_,_,(hrm _).mdd _ _ _ _,?_⟩;conv=>whnf)
      | (refine ⟨_,_,(hlf _).mdd _ _ _ _,And.intro rfl aZ,?_⟩;conv=>whnf)
      | (refine And.intro (fun q=>absurd q aBt) (fun _=>?_);conv=>whnf)
      | (refine And.intro (fun q=>absurd q (by decide)) (fun _=>?_);conv=>whnf)
      | (refine And.intro (fun _=>?_) (fun q=>absurd q (by decide));conv=>whnf)
      | (refine And.intro (fun _=>?_) (fun q=>absurd (f1.symm.trans q) (by decide));conv=>whnf)
      | (refine And.intro (fun q=>absurd (f1.symm.trans q) (by decide)) (fun _=>?_);conv=>whnf)
      | fail)
     refine ⟨[5,6,7],rfl,?_⟩
     (repeat' (first | exact True.intro | exact rfl | refine And.intro ?_ ?_))
   . skip
     refine callEq_of_bodyD aY false false [26] [] (mo:=[]) (by kernel_rfl) Try.func29 rfl ?_
     conv=>whnf
     repeat' (first
      | (refine ⟨l3,?_⟩;conv=>whnf)
      | (refine ⟨by omega,by omega,?_⟩;conv=>whnf)
      | (refine ⟨_,_,(hchk _).mdd _ _ _ _,True.intro,?_⟩;conv=>whnf)
      | (refine ⟨_,_,(hfind _).mdd _ _ _ _,True.intro,?_⟩;conv=>whnf)
      | (refine ⟨_,_,(hown _).mdd _ _ _ _,True.intro,?_⟩;conv=>whnf)
      | (refine ⟨_,_,(c103 k (by omega) _).mdd _ _ _ _,True.intro,?_⟩;conv=>whnf)
      | (refine ⟨_,_,_,(hrm _).mdd _ _ _ _,?_⟩;conv=>whnf)
      | (refine ⟨_,_,(hlf _).mdd _ _ _ _,And.intro rfl aZ,?_⟩;conv=>whnf)
      | (refine And.intro (fun q=>absurd q aBt) (fun _=>?_);conv=>whnf)
      | (refine And.intro (fun q=>absurd q (by decide)) (fun _=>?_);conv=>whnf)
      | (refine And.intro (fun _=>?_) (fun q=>absurd q (by decide));conv=>whnf)
      | (refine And.intro (fun _=>?_) (fun q=>absurd (f1.symm.trans q) (by decide));conv=>whnf)
      | (refine And.intro (fun q=>absurd (f1.symm.trans q) (by decide)) (fun _=>?_);conv=>whnf)
      | fail)
     refine ⟨[5,6,7],rfl,?_⟩
     (repeat' (first | exact True.intro | exact rfl | refine And.intro ?_ ?_))
theorem d_DelM (d:Nat) (n:Node) (k:List UInt8) (hd:d<=16) (hn:nOk d n) (hok:aX d n=true) (hc:eY d n k=none) (H:List (List Blk)) :
 aD X H 29 [pNode n,.d (aL k)] (.tuple [nodeV n,.d (.int .i64 61)]) (nodeR n):=by
 have hchk:=fun H=>eU d n (by omega) hn H
 have hown:=fun H=>d_ownD d n hn H
 have hfind:=fun H=>pE d n k hd hn H
 rw [hok] at hchk
 rw [hc] at hfind
 unfold sQ at hfind
 unfold nodeR nodeV
 refine callEq_of_bodyD aY false false [26] [] (mo:=[]) (by kernel_rfl) Try.func29 rfl ?_
 conv=>whnf
 refine ⟨_,_,(hchk _).mdd _ _ _ _,True.intro,?_⟩
 conv=>whnf
 refine And.intro (fun q=>absurd q (by decide)) (fun _=>?_)
 conv=>whnf
 refine ⟨_,_,(hfind _).mdd _ _ _ _,True.intro,?_⟩
 conv=>whnf
 refine And.intro (fun _=>?_) (fun q=>absurd q (by decide))
 conv=>whnf
 refine ⟨_,_,(hown _).mdd _ _ _ _,True.intro,?_⟩
 conv=>whnf
 refine ⟨[2,3,4],rfl,?_⟩
 (repeat' (first | exact True.intro | exact rfl | refine And.intro ?_ ?_))
noncomputable def XL:Cx:={ X with give:=(24+1000)::X.give }
theorem XL_ok:XL.Ok:=⟨aY.rows,aY.closed,aY.funs,aY.mix,by kernel_rfl,aY.cmps,aY.grows⟩
theorem aD.xl {H:List (List Blk)} {f:Nat} {args:List PV} {r:PV} {N:List RowB} (h:aD X H f args r N):aD XL H f args r N:=aD.at (C:=X) (D:=XL) rfl h
theorem aD.lx {H:List (List Blk)} {f:Nat} {args:List PV} {r:PV} {N:List RowB} (h:aD XL H f args r N):aD X H f args r N:=aD.at (C:=XL) (D:=X) rfl h
theorem aE.xl {H:List (List Blk)} {f:Nat} {G:List RowB} {args:List PV} {G':List (Option RowB)} {r:PV} {N:List RowB} (h:aE X H f G args G' r N):aE XL H f G args G' r N:=aE.at (C:=X) (D:=XL) rfl h
theorem uO (n:Node) (h3:n.keys.length=3) (h4:n.chains.length=3) (h5:n.kids.length < 1000000) (H:List (List Blk)) :
 aE X H 49 [⟨26,67,[[.own 27 1 (aF n.keys),.own 32 1 (aG n.chains),.own 26 3 (n.kids.map ownN)]]⟩] [.agg [.nils,.nils,.row 0 0 1],.d (.int .i64 0)] [none] (nodeV (splitN (cV n) 0)) (nodeR (splitN (cV n) 0)):=by
 have h:=d_splitD (cV n) 0 n rfl h3 h4 h5 (by show (0:Nat) < 900000;decide) (by show (0:Nat) < 900000;decide) (by show (1:Nat) < 900000;decide) (aBn _) (aBn _) H
 have e:nodeR (cV n) = [⟨27,1,[]⟩,⟨32,1,[]⟩,⟨26,67,[[.own 27 1 (aF n.keys),.own 32 1 (aG n.chains),.own 26 3 (n.kids.map ownN)]]⟩]:=by
  rw [<- ownN_eq];rfl
 rw [e] at h
 exact aAb (by unfold nodeV;simp [inN,insN,nodeR]) h
theorem d_PutF (d f:Nat) (n:Node) (k:List UInt8) (l:List Ver) (hd:d < 1000000) (hn:nOk d n) (h3:n.keys.length=3) (h4:n.chains.length=3) (hk:k.length<=1000000) (hl:l.length < 1000000) (hlv:∀ x ∈ l,x.val.length<=1000000)
 (hok:fN d n k l=true) (hgo:putGo f (splitN (cV n) 0) k) (H:List (List Blk)) :
 aD X H 28 [pNode n,.d (aL k),.d (encVs l)] (.tuple [nodeV (putN f (splitN (cV n) 0) k l),.d (.int .i64 0)]) (nodeR (putN f (splitN (cV n) 0) k l)):=by
 have hchk:=fun H=>(eU d n hd hn H).xl
 have hown:=fun H=>(d_ownD d n hn H).xl
 have hput:=fun H=>(sY k l f (splitN (cV n) 0) hgo H).xl
 have hkids:n.kids.length < 1000000:=by
  cases d with
  | zero=>exact hn.elim
  | succ d=>cases n with | mk a b c=>have h:c.length < 100000:=nOk_kids hn;show c.length < 1000000;omega
 have hsp:=fun H=>(uO n h3 h4 hkids H).xl
 have h103:=fun H=>(c103 k (by omega) H).xl
 unfold nodeR nodeV at hput hsp
 have hv:=fun H=>(d_vscheck l hl H).xl
 have hvs:=fun H=>(pD l hl hlv H).xl
 simp only [fN,aBs,decide_eq_true_eq,Bool.not_eq_true'] at hok
 obtain ⟨o1,o2,o3,o4⟩:=hok
 rw [o1] at hchk
 rw [o4] at hv
 have e1:((k.map fun x=>[DV.int .u8 (x.toNat:Int)]).length:Int)=k.length:=by rw [aAh]
 have e2:((l.map cVer).length:Int)=l.length:=by rw [aAh]
 have l1:n.keys.length=(aF n.keys).length:=(aAh ..).symm
 have l2:n.chains.length=(aG n.chains).length:=(aAh ..).symm
 have l3:n.kids.length=(n.kids.map ownN).length:=(aAh ..).symm
 unfold nodeR nodeV
 generalize hS:splitN (cV n) 0=S at hput hsp ⊢
 generalize putN f S k l=R at hput ⊢
 refine aD.lx ?_
 refine callEq_of_bodyD XL_ok false false [26] [] (mo:=[]) (by kernel_rfl) Try.func28 rfl ?_
 conv=>whnf
 refine ⟨_,_,(hchk _).mdd _ _ _ _,True.intro,?_⟩
 conv=>whnf
 refine And.intro (fun q=>?_) (fun q=>?_)
 rotate_left
 . exact absurd q (by decide)
 conv=>whnf
 refine And.intro (fun q=>?_) (fun q=>?_)
 rotate_left
 . exfalso
   have q:=of_decide_eq_true q
   rw [e1] at q;omega
 conv=>whnf
 refine And.intro (fun q=>?_) (fun q=>?_)
 rotate_left
 . exfalso
   rw [e2,o3] at q;cases q
 conv=>whnf
 refine ⟨_,_,(hv _).mdd _ _ _ _,True.intro,?_⟩
 conv=>whnf
 refine And.intro (fun q=>?_) (fun q=>?_)
 . exact absurd q (by decide)
 conv=>whnf
 refine ⟨_,_,(hown _).mdd _ _ _ _,True.intro,?_⟩
 conv=>whnf
 refine And.intro (fun q=>?_) (fun q=>?_)
 rotate_left
 . exfalso
   rw [h3] at q
   exact absurd q (by decide)
 conv=>whnf
 refine ⟨l1,?_⟩
 conv=>whnf
 refine ⟨l2,?_⟩
 conv=>whnf
 refine ⟨l3,?_⟩
 conv=>whnf
 refine ⟨_,_,_,(hsp _).mdd _ _ _ _,?_⟩
 conv=>whnf
 refine ⟨_,_,(h103 _).mdd _ _ _ _,True.intro,?_⟩
 conv=>whnf
 refine ⟨_,_,(hvs _).mdd _ _ _ _,True.intro,?_⟩
 conv=>whnf
 refine ⟨_,_,_,(hput _).mdd _ _ _ _,?_⟩
 conv=>whnf
 refine ⟨[10,11,12],rfl,?_⟩
 (repeat' (first | exact True.intro | exact rfl | refine And.intro ?_ ?_))
def kvOk (p:KV):Prop:=p.1.length<=1000000/\p.2.length < 100000 /\ ∀ v ∈ p.2,v.val.length<=1000000
theorem mX:∀ (d:Nat) (n:Node),shN d n->(∀ p ∈ aB d n,kvOk p)->nOk d n
 | 0,n,h,_=>h.elim
 | d+1,n,⟨h1,h2,h3⟩,hp=>by
   have kids4:n.kids.length<=4:=by
    rcases h3 with ⟨_,h3⟩ | ⟨h3,_⟩
    . rw [h3];exact aBn _
    . omega
   refine ⟨by omega,by omega,by omega,fun x hx=>?_,fun y hy=>?_,fun x hx=>?_⟩
   . obtain ⟨j,hj⟩:=aB4.1 hx
     obtain ⟨c,hc⟩:=mT (d:=d) h1 hj
     exact (hp _ hc).1
   . obtain ⟨j,hj⟩:=aB4.1 hy
     have hlt:j < n.keys.length:=by have:=(aAe.1 hj).1;omega
     obtain ⟨c,hc,hpd⟩:=eL h1 (aAf hlt)
     obtain rfl:c=y:=aBr (hc.symm.trans hj)
     exact (hp (n.keys[j],c) (by rw [dD d n j (Nat.le_of_lt hlt),hpd];simp)).2
   . rcases h3 with ⟨_,h3⟩ | ⟨h3,h4⟩
     . rw [h3] at hx;cases hx
     . obtain ⟨j,hj⟩:=aB4.1 hx
       have hlt:=(aAe.1 hj).1
       refine mX d x (h4 x hx) (fun p hpx=>hp p ?_)
       show p ∈ (List.range (n.keys.length+1)).flatMap fun i=>cY (aB d) n i++bJ n i
       rw [aA8]
       exact ⟨j,aBe.2 (by omega),List.mem_append_left _ (by unfold cY;rw [hj];exact hpx)⟩
structure Is (d:Nat) (n:Node) (L:List KV):Prop where
 ok:nOk d n
 ch:aX d n=true
 li:aB d n=L
theorem Is.kv {d:Nat} {n:Node} {L:List KV} (h:Is d n L):∀ p ∈ L,kvOk p:=fun p hp=>by rw [<- h.li] at hp;exact lI d n h.ok p hp
theorem Is.chl {d:Nat} {n:Node} {L:List KV} (h:Is d n L):dO none L=true:=by
 have:=h.ch
 unfold aX at this
 split at this
 . cases this
 . rw [h.li] at this;exact this
theorem Is.so {d:Nat} {n:Node} {L:List KV} (h:Is d n L):bF L:=(dZ _ _ h.chl).1
theorem Is.pr {d:Nat} {n:Node} {L:List KV} (h:Is d n L):dJ d n=L:=by rw [yF h.ch,h.li]
theorem Is.ks {d:Nat} {n:Node} {L:List KV} (h:Is d n L):eB d n=L.map (·.1):=by rw [sZ,h.pr]
theorem Is.fi {d:Nat} {n:Node} {L:List KV} (h:Is d n L) (k:List UInt8):eY d n k=(L.find? (eqP k)).map (·.2):=by rw [tC h.ok,h.pr]
theorem Is.len {d:Nat} {n:Node} {L:List KV} (h:Is d n L) (hd:d<=16):L.length < 4294967296:=by rw [<- h.pr];exact yG hd h.ok
theorem vN {k:List UInt8} {l:List Ver}:∀ {L:List KV} {p:KV},p ∈ bR k l L->p=(k,l)\/p ∈ L
 | [],p,h=>.inl (aAy.1 h)
 | q::L,p,h=>by
   unfold bR at h
   split at h
   . rcases List.mem_cons.1 h with rfl | h
     . exact .inr (aAu ..)
     . rcases vN h with h | h
       . exact .inl h
       . exact .inr (aAv _ h)
   . split at h
     . rcases List.mem_cons.1 h with h | h
       . exact .inl h
       . exact .inr (aAv _ h)
     . rcases List.mem_cons.1 h with h | h
       . exact .inl h
       . exact .inr h
theorem yT {d:Nat} {n:Node} {k:List UInt8} {l:List Ver} (hn:nOk d n) (hok:aX d n=true) (h3:n.keys.length=3) (hk:k.length<=16) (hl:l.length≠0) (hv:vsOk l=true) :
 ∃ e,e+1<=d/\n.chains.length=3/\putGo (2*(e+2)) (splitN (cV n) 0) k/\shN (e+2) (putN (2*(e+2)) (splitN (cV n) 0) k l)/\aB (e+2) (putN (2*(e+2)) (splitN (cV n) 0) k l)=bR k l (aB d n)/\aX (e+2) (putN (2*(e+2)) (splitN (cV n) 0) k l)=true:=by
 unfold aX at hok
 split at hok
 . cases hok
 rename_i h0
 have h0:deepN n 0≠0:=by simpa using h0
 obtain ⟨e,he,he2,hsh⟩:=eP d n 0 hn h0
 have hmn:=nC (e+1) d n he (jE d n 0 hn h0)
 have hA:=gO (e+1) n hsh d he
 rw [hA] at hok ⊢
 have hc:(cV n).kids[0]? = some n:=rfl
 have hR:shN (e+2) (cV n):=⟨rfl,aBn _,.inr ⟨rfl,fun c hcm=>by
  rw [aAy.1 (show c ∈ [n] from hcm)];exact hsh⟩⟩
 have hM:mnN (e+2) (cV n):=fun c hcm=>by
  rw [aAy.1 (show c ∈ [n] from hcm)];exact ⟨by omega,hmn⟩
 obtain ⟨c1,c2⟩:=jS hsh h3
 have hS:=gZ e (cV n) n 0 hc rfl rfl h3 c1 c2
 have hT:aB (e+2) (cV n)=aB (e+1) n:=by
  rw [aM (e+1) (cV n) rfl (.inl rfl)]
  exact kC _
 rw [hT] at hS
 have hkeys:(splitN (cV n) 0).keys.length=1:=by rw [fB hc];rfl
 have hsh2:=jT hR (by show (0:Nat) < 3;decide) hc h3
 obtain ⟨p1,p2,p3,p4⟩:=zN (k:=k) (l:=l) hsh2 (tJ hM hc h3) (by rw [hS];exact hok) (.inr (by omega)) (by omega) hk hl hv
 have hs:bF (aB (e+2) (splitN (cV n) 0)):=by rw [hS];exact (dZ _ _ hok).1
 rw [hS] at p2
 exact ⟨e,he,c1,p1,(mR k l (2*(e+2)) (e+2) _ hsh2 hs p1 (.inl (by omega))).1,p2,p4⟩
theorem kY (n:Node) (z:Int):fz (nodeR n) 3 (.tuple [nodeV n,.d (.int .i64 z)]) = .tuple [pNode n,.d (.int .i64 z)]:=by
 have l1:(aF n.keys).length=n.keys.length:=aAh ..
 have l2:(aG n.chains).length=n.chains.length:=aAh ..
 have l3:(n.kids.map cNode).length=n.kids.length:=aAh ..
 show PV.tuple [.agg [.d (.sl ((aF n.keys).take n.keys.length)),.d (.sl ((aG n.chains).take n.chains.length)),.d (.sl ((plRows (n.kids.map ownN)).take n.kids.length))],.d (.int .i64 z)]=_
 rw [pl_kids,aAt (by omega),aAt (by omega),aAt (by omega)]
 rfl
theorem pS {d:Nat} {n:Node} {L:List KV} (h:Is d n L) (hd:d < 1000000) {k:List UInt8} {l:List Ver} (hk:k.length<=16) (hl:l.length≠0) (hl2:l.length < 100000) (hv:vsOk l=true) (hlv:∀ v ∈ l,v.val.length<=1000000) :
 ∃ d' R,d'<=d+1/\Is d' R (bR k l L) /\ ∀ H,aD X H 28 [pNode n,.d (aL k),.d (encVs l)] (.tuple [pNode R,.d (.int .i64 0)]) []:=by
 have hpo:fN d n k l=true:=by
  unfold fN
  rw [h.ch,hv,decide_eq_true (by omega:(k.length:Int)<=16)]
  have:((l.length:Int)==0)=false:=by simpa using hl
  rw [this];rfl
 have kv:∀ p ∈ bR k l L,kvOk p:=fun p hp=>by
  rcases vN hp with rfl | hp
  . exact ⟨by show k.length<=1000000;omega,hl2,hlv⟩
  . exact h.kv p hp
 rcases aBl n.keys.length 3 with h3 | h3
 . obtain ⟨e,he,hgo,hli,hsh,_,hch⟩:=yN (k:=k) (l:=l) h.ok h.ch h3 hk hl hv
   rw [h.li] at hli
   exact ⟨e+1,_,by omega,⟨mX _ _ hsh (by rw [hli];exact kv),hch,hli⟩,fun H=>
    (d_PutD d _ n k l hd h.ok h3 (by omega) (by omega) hlv hpo hgo H).freeze 3 (kY _ _)⟩
 . have h3:n.keys.length=3:=by
    have hc:=h.ch
    unfold aX at hc
    split at hc
    . cases hc
    . rename_i h0
      obtain ⟨e,_,_,hsh⟩:=eP d n 0 h.ok (by simpa using h0)
      have:=hsh.2.1
      omega
   obtain ⟨e,he,h4,hgo,hsh,hli,hch⟩:=yT (k:=k) (l:=l) h.ok h.ch h3 hk hl hv
   rw [h.li] at hli
   exact ⟨e+2,_,by omega,⟨mX _ _ hsh (by rw [hli];exact kv),hch,hli⟩,fun H=>
    (d_PutF d _ n k l hd h.ok h3 h4 (by omega) (by omega) hlv hpo hgo H).freeze 3 (kY _ _)⟩
theorem vO {d:Nat} {n:Node} (hn:nOk d n) (hd:d < 1000000) {k:List UInt8} {l:List Ver} (hl2:l.length < 1000000) (hp:fN d n k l=false) (H:List (List Blk)) :
 aD X H 28 [pNode n,.d (aL k),.d (encVs l)] (.tuple [pNode n,.d (.int .i64 1)]) []:=(d_PutED d n k l hd hn hl2 hp H).freeze 3 (kY _ _)
theorem is_delM {d:Nat} {n:Node} {L:List KV} (h:Is d n L) (hd:d<=16) {k:List UInt8} (hf:L.find? (eqP k)=none) (H:List (List Blk)) :
 aD X H 29 [pNode n,.d (aL k)] (.tuple [pNode n,.d (.int .i64 61)]) []:=(d_DelM d n k hd h.ok h.ch (by rw [h.fi,hf];rfl) H).freeze 3 (kY _ _)
theorem wR {d:Nat} {n:Node} {k:List UInt8} (hn:nOk d n) (hok:aX d n=true) :
 ∃ e e':Nat,e+1<=d/\e'<=e/\RmC n k (bL (2*(e+1)) n k)/\shN (e+1) (bL (2*(e+1)) n k)/\shN (e'+1) (iJ (bL (2*(e+1)) n k))/\aB (e'+1) (iJ (bL (2*(e+1)) n k))=cD k (aB d n)/\aX (e'+1) (iJ (bL (2*(e+1)) n k))=true:=by
 unfold aX at hok
 split at hok
 . cases hok
 rename_i h0
 have h0:deepN n 0≠0:=by simpa using h0
 obtain ⟨e,he,he2,hsh⟩:=eP d n 0 hn h0
 have hmn:=nC (e+1) d n he (jE d n 0 hn h0)
 have hA:=gO (e+1) n hsh d he
 rw [hA] at hok ⊢
 have hs:=(dZ _ _ hok).1
 have hroot:n.kids = []\/0 < n.keys.length:=by
  obtain ⟨_,_,_,h4⟩:=cI h0
  rcases h4 with ⟨h4,_⟩ | ⟨_,h5,_⟩
  . exact .inl h4
  . exact .inr (by omega)
 have r:=rm (e+1) (2*(e+1)) n k ⟨hsh,hmn,hs⟩ (aBo _) hroot
 have rc:=rmC (e+1) (2*(e+1)) n k ⟨hsh,hmn,hs⟩ (aBo _) hroot
 refine ⟨e,?_⟩
 generalize bL (2*(e+1)) n k=R at r rc ⊢
 have hch:dO none (aB (e+1) R)=true:=by rw [r.li];exact tN k _ _ hok
 unfold iJ
 by_cases hq:R.keys.length=0/\leafN R=false
 . rw [if_pos hq]
   obtain ⟨hq1,hq2⟩:=hq
   obtain ⟨q1,q2,q3⟩:=r.sh
   rcases q3 with ⟨_,q3⟩ | ⟨q3,q4⟩
   . exact absurd q3 (iR hq2)
   have hc:=aW (n:=R) (i:=0) (by omega)
   have hm:=aAg hc
   obtain ⟨e',rfl⟩:=iA (q4 _ hm)
   have hl:aB (e'+2) R=aB (e'+1) (aA R 0):=by
    rw [aM (e'+1) R q1 (.inl q3)]
    have e1:R.kids = [aA R 0]:=by
     have:=dW hc
     rw [List.take_zero,aAz (by omega)] at this
     simpa using this
    have e2:prs R = []:=List.eq_nil_of_length_eq_zero (by rw [fR q1];exact hq1)
    rw [e2,e1]
    exact kC _
   have hd:=iB e' (aA R 0) 0 (q4 _ hm) (r.mn _ hm).2 (.inr (by have:=(r.mn _ hm).1;omega)) (by omega)
   refine ⟨e',he,aBu _,rc,r.sh,q4 _ hm,by rw [<- hl,r.li],?_⟩
   unfold aX
   rw [hd,if_neg (by simp only [beq_iff_eq];omega),<- hl]
   exact hch
 . rw [if_neg hq]
   have hr:R.kids = []\/R.keys.length≠0:=by
    by_cases hz:R.keys.length=0
    . left
      cases hl:leafN R with
      | true=>exact iH hl
      | false=>exact absurd ⟨hz,hl⟩ hq
    . exact .inr hz
   have hd:=iB e R 0 r.sh r.mn hr (by omega)
   refine ⟨e,he,aBo _,rc,r.sh,r.sh,r.li,?_⟩
   unfold aX
   rw [hd,if_neg (by simp only [beq_iff_eq];omega)]
   exact hch
theorem yU {d:Nat} {n:Node} {L:List KV} (h:Is d n L) (hd:d<=16) {k:List UInt8} (hk:k.length<=1000000) {p:KV} (hf:L.find? (eqP k)=some p) :
 ∃ d' R,d'<=d/\Is d' R (cD k L) /\ ∀ H,aD X H 29 [pNode n,.d (aL k)] (.tuple [pNode R,.d (.int .i64 0)]) []:=by
 obtain ⟨e,e',he,he',hc,hsh0,hsh,hli,hch⟩:=wR (k:=k) h.ok h.ch
 rw [h.li] at hli
 refine ⟨e'+1,_,by omega,⟨mX _ _ hsh (by rw [hli];exact fun p hp=>h.kv p (List.mem_filter.1 hp).1),hch,hli⟩,fun H=>
  (d_DelD d n k p.2 _ hd h.ok hk h.ch (by rw [h.fi,hf];rfl) hc (fun hl=>?_) ?_ H).freeze 3 (kY _ _)⟩
 . rcases hsh0.2.2 with ⟨_,h0⟩ | ⟨h0,_⟩
   . exact absurd h0 (iR hl)
   . omega
 . have:=hsh0.2.1
   rcases hsh0.2.2 with ⟨_,h0⟩ | ⟨h0,_⟩
   . rw [h0];decide
   . omega
def vA:Ver:=⟨1,false,[]⟩
def vB:Ver:=⟨2,false,[]⟩
theorem ok0:nOk 1 (.mk [] [] []):=qY 1 _ (by decide)
theorem chk0:aX 1 (.mk [] [] [])=true:=by decide
theorem nE (z:Int) (H:List (List Blk)):aD X H 34 [.d (.int .i64 z)] (.d (encVs [⟨z,false,[]⟩])) []:=by
 refine callEq_of_body aY rfl Try.func34 rfl ?_
 conv=>whnf
 repeat' (first
  | (refine And.intro (fun h_=>?_) (fun h_=>?_) <;> (conv=>whnf))
  | (intro z_ hz_;conv=>whnf)
  | (refine ⟨[],rfl,?_,True.intro⟩;(conv=>whnf);(first | done | ((repeat' (first | exact True.intro | exact rfl | refine And.intro ?_ ?_));done)))
  | fail)
end Go.Proofs.Ve
