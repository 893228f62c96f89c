/- Laws that the claim's text stands on: part M8 of them. -/
import Derived.Test.YtaojepfldokjdaaGreatDoorM1
import Derived.Test.YtaojepfldokjdaaGreatDoorM2
import Derived.Test.YtaojepfldokjdaaGreatDoorM3
import Derived.Test.YtaojepfldokjdaaGreatDoorM4
import Derived.Test.YtaojepfldokjdaaGreatDoorDShelf
import Derived.Test.YtaojepfldokjdaaGreatDoorM5
import Derived.Test.YtaojepfldokjdaaGreatDoorM6
import Derived.Test.YtaojepfldokjdaaGreatDoorM7
set_option linter.unusedVariables false
set_option linter.unusedSimpArgs false
section
open Go Go.Gv
attribute [local irreducible] Go.Gv.WJ Go.Gv.OpJ Go.Gv.QJ Go.Gv.Spl Go.Gv.Req Go.Gv.IdxP Go.Gv.RegP Go.Gv.FinP Go.Gv.CellP Go.Gv.CellsP Go.Gv.ArrP Go.Gv.ArrsP Go.Gv.DropP Go.Gv.ByteP Go.Gv.StoreP
set_option maxRecDepth 100000
namespace Go.Proofs.E
attribute [local irreducible] elems
def nl (v:VS):List UInt8:=byt (dz (aj v.l))
def NT.text (n:NT)(i:Int):List UInt8:=if n.has i=true then nl (n.at i).v else[]
def NT.wait (n:NT)(i:Int):Nat:=if n.has i=true then(n.at i).v.R.length else 0
def uT (t u:TL):Bool:=decide (t.n=u.n)&&(decide (t.a=u.a)&&decide (t.b=u.b))&&(decide (t.c=u.c)&&decide (t.d=u.d))
def gr (r q:RP):Bool:=decide (nl r.v=nl q.v)&&uT (bo r.v.l) (bo q.v.l)
def NT.same (n:NT):Bool:=n.l.all fun r=>gr r (n.at 0)
theorem hZ {n:NT}(h:okN n)(i:Int):Cv 48 [ntv n,iv i] (sv (n.text i)):=by
 have hh:=o7 n i
 unfold NT.text
 cases hi:n.has i with
 |false=>
  rw[hi]at hh
  refine ab Tryz.f48 Tryz.func48 rfl rfl fun w H B g0=>?_
  refine aa hh (fun _ _=>rfl) rfl rfl rfl ?_
  (repeat (first|refine Spl.t rfl ?_|refine Spl.f rfl ?_))
  exact FinP.open rfl rfl
 |true=>
  rw[hi]at hh
  have hm:=cC hi
  have hr:=h.at hi
  obtain⟨i0,i1⟩:=cq.1 hi
  generalize n.at i=r at hm hr ⊢
  refine ab Tryz.f48 Tryz.func48 rfl rfl fun w H B g0=>?_
  refine aa hh (fun _ _=>rfl) rfl rfl rfl ?_
  (repeat (first|refine Spl.t rfl ?_|refine Spl.f rfl ?_))
  refine IdxP.of (rpE r) i0 (du hm) ?_
  refine aa (gg r.site r.v.s r.v.l r.v.R r.cl) (fun _ _=>rfl) rfl rfl rfl ?_
  refine aa (oW hr.is r.v.R) (fun _ _=>rfl) rfl rfl rfl ?_
  exact FinP.open rfl rfl
theorem r7 {n:NT}(h:okN n)(i:Int):Cv 47 [ntv n,iv i] (iv (n.wait i)):=by
 have hh:=o7 n i
 unfold NT.wait
 cases hi:n.has i with
 |false=>
  rw[hi]at hh
  refine ab Tryz.f47 Tryz.func47 rfl rfl fun w H B g0=>?_
  refine aa hh (fun _ _=>rfl) rfl rfl rfl ?_
  (repeat (first|refine Spl.t rfl ?_|refine Spl.f rfl ?_))
  exact FinP.open rfl rfl
 |true=>
  rw[hi]at hh
  have hm:=cC hi
  have hr:=h.at hi
  have hR:(n.at i).v.R.length≤16:=hr.len
  obtain⟨i0,i1⟩:=cq.1 hi
  generalize n.at i=r at hm hr hR ⊢
  refine ab Tryz.f47 Tryz.func47 rfl rfl fun w H B g0=>?_
  refine aa hh (fun _ _=>rfl) rfl rfl rfl ?_
  (repeat (first|refine Spl.t rfl ?_|refine Spl.f rfl ?_))
  refine IdxP.of (rpE r) i0 (du hm) ?_
  refine aa (gg r.site r.v.s r.v.l r.v.R r.cl) (fun _ _=>rfl) rfl rfl rfl ?_
  refine aa (rT r.v.s r.v.l r.v.R (by omega)) (fun _ _=>rfl) rfl rfl rfl ?_
  exact FinP.open rfl (congrArg iv (by simp))
theorem AE {l:List RP}{f:RP→Bool}{i:Nat}{r:RP}(h:l[i]?=some r)(hf:f r=false):l.all f=false:=by
 rw[List.all_eq_false]
 exact⟨r,List.mem_of_getElem? h,by simp[hf]⟩
theorem yJ {l:List RP}{f:RP→Bool}(h:∀(j:Nat)(r:RP),j<l.length→l[j]?=some r→f r=true):l.all f=true:=by
 rw[List.all_eq_true]
 intro r hr
 obtain⟨j,hj,rfl⟩:=List.getElem_of_mem hr
 exact h j _ hj (List.getElem?_eq_getElem hj)
set_option maxHeartbeats 4000000 in
theorem o6 {n:NT}(h:okN n):Cv 49 [ntv n] (bv n.same):=by
 unfold NT.same
 have hln:=h.ln
 refine ab Tryz.f49 Tryz.func49 rfl rfl fun w H B g0=>?_
 refine ba (V:=Nat) (fun i=>[(7,iv i)]) (fun _=>[]) [] (fun i=>n.l.length-i) (fun i=>i≤n.l.length∧∀(j:Nat)(r:RP),j<i→n.l[j]?=some r→gr r (n.at 0)=true) 0 ⟨Nat.zero_le _,fun _ _ h=>by omega⟩ (by repeat' (first|exact trivial|exact rfl|refine And.intro ?_ ?_)) (by repeat' (first|exact trivial|exact rfl|refine And.intro ?_ ?_)) ?_
 rintro i ⟨hi,hall⟩
 refine Spl.of (fun h1=>?_) (fun h1=>?_)
 ·have hlt:i<n.l.length:=by have:=of_decide_eq_true h1;simp at this;omega
  have hh:n.has i=true:=cq.2 ⟨by omega,by omega⟩
  have hh0:n.has 0=true:=cq.2 ⟨by omega,by omega⟩
  have hm:=cC hh
  have hm0:=cC hh0
  have hr:=h.at hh
  have hr0:=h.at hh0
  have ht:=hZ h i
  have ht0:=hZ h 0
  unfold NT.text at ht ht0
  rw[if_pos hh]at ht
  rw[if_pos hh0]at ht0
  rw[Int.toNat_natCast]at hm
  generalize n.at (i:Int)=r at hm hr ht
  have hno:gr r (n.at 0)=false→(n.l.all fun r=>gr r (n.at 0))=false:=fun e=>AE hm e
  generalize n.at 0=r0 at hm0 hr0 ht0 hno hall ⊢
  have hsm:=yL (bo r.v.l) (bo r0.v.l) (sum_ok hr.is.dn) (sum_ok hr0.is.dn)
  have hv:=gg r.site r.v.s r.v.l r.v.R r.cl
  have hv0:=gg r0.site r0.v.s r0.v.l r0.v.R r0.cl
  have htl:=mY r.v.s r.v.l r.v.R
  have htl0:=mY r0.v.s r0.v.l r0.v.R
  (repeat (first|refine Spl.t rfl ?_|refine Spl.f rfl ?_))
  refine RegP.of rfl (by decide+kernel) ?_
  refine QuietP.of (QJ.call ht (fun _ _=>rfl) rfl rfl) ?_
  refine QuietP.of (QJ.call ht0 (fun _ _=>rfl) rfl rfl) ?_
  (repeat (first|refine Spl.t rfl ?_|refine Spl.f rfl ?_))
  refine Spl.of (fun h2=>?_) (fun h2=>?_)
  ·have h2:nl r.v≠nl r0.v:=by simpa using h2
   (repeat (first|refine Spl.t rfl ?_|refine Spl.f rfl ?_))
   refine FinP.open rfl (congrArg bv ?_)
   rw[hno (by unfold gr;rw[decide_eq_false h2];rfl)]
  ·have h2:nl r.v=nl r0.v:=by simpa using h2
   (repeat (first|refine Spl.t rfl ?_|refine Spl.f rfl ?_))
   refine IdxP.of (rpE r) (by omega) (by rw[Int.toNat_natCast];exact du hm) ?_
   (repeat (first|refine Spl.t rfl ?_|refine Spl.f rfl ?_))
   refine QuietP.of (QJ.call hv (fun _ _=>rfl) rfl rfl) ?_
   (repeat (first|refine Spl.t rfl ?_|refine Spl.f rfl ?_))
   refine QuietP.of (QJ.call htl (fun _ _=>rfl) rfl rfl) ?_
   (repeat (first|refine Spl.t rfl ?_|refine Spl.f rfl ?_))
   refine IdxP.of (rpE r0) (by omega) (du hm0) ?_
   (repeat (first|refine Spl.t rfl ?_|refine Spl.f rfl ?_))
   refine QuietP.of (QJ.call hv0 (fun _ _=>rfl) rfl rfl) ?_
   (repeat (first|refine Spl.t rfl ?_|refine Spl.f rfl ?_))
   refine QuietP.of (QJ.call htl0 (fun _ _=>rfl) rfl rfl) ?_
   (repeat (first|refine Spl.t rfl ?_|refine Spl.f rfl ?_))
   refine QuietP.of (QJ.call hsm (fun _ _=>rfl) rfl rfl) ?_
   (repeat (first|refine Spl.t rfl ?_|refine Spl.f rfl ?_))
   refine Spl.of (fun h3=>?_) (fun h3=>?_)
   ·(repeat (first|refine Spl.t rfl ?_|refine Spl.f rfl ?_))
    refine FinP.open rfl (congrArg bv ?_)
    rw[hno (by unfold gr uT;rw[decide_eq_true h2,Bool.true_and];rw[Bool.not_eq_true']at h3;exact h3)]
   ·(repeat (first|refine Spl.t rfl ?_|refine Spl.f rfl ?_))
    refine⟨i+1,⟨by omega,fun j q hj hq=>?_⟩,by omega,⟨aE (am _ (by omega) (by omega)),trivial⟩,(by repeat' (first|exact trivial|exact rfl|refine And.intro ?_ ?_)),(by repeat' (first|exact trivial|exact rfl|refine And.intro ?_ ?_)),(by repeat' (first|exact trivial|exact rfl|refine And.intro ?_ ?_))⟩
    by_cases e:j=i
    ·subst e
     rw[hm]at hq;cases hq
     unfold gr uT
     rw[decide_eq_true h2,Bool.true_and]
     rw[Bool.not_eq_false']at h3;exact h3
    ·exact hall j q (by omega) hq
 ·have h1:=of_decide_eq_false h1
  simp at h1
  (repeat (first|refine Spl.t rfl ?_|refine Spl.f rfl ?_))
  exact FinP.open rfl (congrArg bv (yJ fun j r hj hr=>hall j r (by omega) hr).symm)
end Go.Proofs.E
end
section
open Go Go.Gv
set_option maxRecDepth 100000
namespace Go.Proofs.E
theorem sV:∀{a b:List OP},nq a→nq b→(∀x,x∈a↔x∈b)→a=b
 |[],[],_,_,_=>rfl
 |[],y::s,_,_,h=>absurd ((h y).2 (by simp)) (by simp)
 |x::r,[],_,_,h=>absurd ((h x).1 (by simp)) (by simp)
 |x::r,y::s,ha,hb,h=>by
  obtain⟨a1,a2⟩:=List.pairwise_cons.1 ha
  obtain⟨b1,b2⟩:=List.pairwise_cons.1 hb
  have irr:∀u:OP,aX u.i u.i=true→False:=fun u h=>bV _ h
  have e:x=y:=by
   rcases List.mem_cons.1 ((h x).1 (by simp))with e|e
   ·exact e
   ·rcases List.mem_cons.1 ((h y).2 (by simp))with e'|e'
    ·exact e'.symm
    ·exact(irr x (cp (b1 x e) (a1 y e'))).elim
  subst e
  refine congrArg (x::·) (sV a2 b2 fun z=>⟨fun hz=>?_,fun hz=>?_⟩)
  ·rcases List.mem_cons.1 ((h z).1 (List.mem_cons_of_mem _ hz))with e|e
   ·subst e;exact(irr _ (a1 _ hz)).elim
   ·exact e
  ·rcases List.mem_cons.1 ((h z).2 (List.mem_cons_of_mem _ hz))with e|e
   ·subst e;exact(irr _ (b1 _ hz)).elim
   ·exact e
theorem ye {I J:List OP}(hI:okI I)(hJ:okI J)(h:∀x,x∈I↔x∈J)(a:ID):kids I a=kids J a:=
 sV (kg hI a) (kg hJ a) fun x=>by rw[bU,bU,h x]
theorem wh {I J:List OP}(hI:okI I)(hJ:okI J)(h:∀x,x∈I↔x∈J):∀n a,fol n I a=fol n J a
 |0,_=>rfl
 |n+1,a=>by
  rw[fol,fol,ye hI hJ h a]
  exact congrArg (fun f=>List.flatMap f (kids J a)) (funext fun k=>by rw[wh hI hJ h n k.i])
theorem eb {k:Int}{a:ID}{l:List OP}:(au k a l).isSome=true↔∃x,x∈l∧x.k=k∧x.i=a:=by
 constructor
 ·intro h
  obtain⟨x,hx⟩:=Option.isSome_iff_exists.1 h
  exact⟨x,be hx⟩
 ·rintro⟨x,h1,h2,h3⟩
  cases hf:au k a l with
  |some y=>rfl
  |none=>exact absurd h3 (cI hf x h1 h2)
theorem yB {l m:List OP}(h:∀x,x∈l↔x∈m)(a:ID):b8 l a=b8 m a:=by
 unfold b8
 rw[Bool.eq_iff_iff,eb,eb]
 simp only[h]
theorem sI {l m:List OP}(h:∀x,x∈l↔x∈m)(x:OP):x∈bc l↔x∈bc m:=by rw[aW,aW,h x]
theorem vd {l m:List OP}(hl:Dn l)(hm:Dn m)(h:∀x,x∈l↔x∈m):aj l=aj m:=by
 unfold aj cc
 rw[wh hl.is.tk.is.ok hm.is.tk.is.ok (sI h)]
 exact congrArg (fun f=>List.map f _) (funext fun o=>by unfold elO;rw[yB h])
theorem ud {l m:List OP}(hl:Dn l)(hm:Dn m)(h:∀x,x∈l↔x∈m):(bc l).Perm (bc m):=
 (List.perm_ext_iff_of_nodup (hl.is.tk.is.ok.nd.imp fun h e=>h (by rw[e])) (hm.is.tk.is.ok.nd.imp fun h e=>h (by rw[e]))).2 (sI h)
theorem uX {a b:List ID}(h:a.Perm b):TL.sum a=TL.sum b:=by
 induction h with
 |nil=>rfl
 |cons x _ ih=>rw[TL.sum,TL.sum,ih]
 |swap x y l=>
  rw[TL.sum,TL.sum,TL.sum,TL.sum,TL.add_assoc,TL.add_assoc,TL.add_comm (TL.one x)]
 |trans _ _ h1 h2=>exact h1.trans h2
theorem zA {l m:List OP}(hl:Dn l)(hm:Dn m)(h:∀x,x∈l↔x∈m):bo l=bo m:=uX ((ud hl hm h).map _)
end Go.Proofs.E
end
section
open Go Go.Gv
attribute [local irreducible] Go.Gv.WJ Go.Gv.OpJ Go.Gv.QJ Go.Gv.Spl Go.Gv.Req Go.Gv.IdxP Go.Gv.RegP Go.Gv.FinP Go.Gv.CellP Go.Gv.CellsP Go.Gv.ArrP Go.Gv.ArrsP Go.Gv.DropP Go.Gv.ByteP Go.Gv.StoreP
set_option maxRecDepth 100000
namespace Go.Proofs.E
def sat (v:VS):Prop:=∀x,x∈v.R→aq v.l x=6
theorem lR {l:List OP}:∀{R:List OP},bl l R<0→∀x,x∈R→aq l x=6
 |[],_,x,hx=>by simp at hx
 |o::r,h,x,hx=>by
  rw[bl]at h
  split at h
  ·omega
  ·next h1=>
   have h1:aq l o=6:=Classical.byContradiction h1
   split at h
   ·next h2=>
    rcases List.mem_cons.1 hx with rfl|hx
    ·exact h1
    ·exact lR h2 x hx
   ·omega
theorem u9 {v:VS}(h:sat v):bl v.l v.R<0:=by rw[gz v.l v.R h];decide
theorem sR:∀(n:Nat)(v:VS),v.R.length≤n→sat (drn n v)
 |0,v,h=>by
  have:v.R=[]:=List.length_eq_zero_iff.1 (by omega)
  intro x hx
  rw[drn,this]at hx;simp at hx
 |n+1,v,h=>by
  rw[drn]
  split
  ·next h1=>exact lR h1
  ·next h1=>
   refine sR n v.next ?_
   have:=pK h1
   have e:v.next.R=dT v.l v.R:=rfl
   rw[e];omega
theorem wx (n:Nat){v:VS}(h:sat v):drn n v=v:=by
 cases n with
 |zero=>rfl
 |succ n=>rw[drn,if_pos (u9 h)]
theorem sk {v:VS}(h:sat v)(o:OP):sat (bI v o):=by
 unfold bI
 split
 ·exact sR _ _ (Nat.le_refl _)
 ·split
  ·next h6=>
   intro x hx
   simp only at hx ⊢
   unfold ik at hx
   split at hx
   ·rcases List.mem_append.1 hx with hx|hx
    ·exact h x hx
    ·rw[List.mem_singleton.1 hx];exact h6
   ·exact h x hx
  ·exact h
theorem u4 {l l':List OP}{x:OP}(f1:au 0 x.i l'=au 0 x.i l)(f2:au 0 x.a l'=au 0 x.a l)(h:aq l x=6):aq l' x=6:=by
 unfold aq at h ⊢
 by_cases hc:aC x≠0
 ·rw[if_pos hc]at h ⊢;exact h
 ·rw[if_neg hc]at h ⊢
  rw[f1,f2]
  by_cases hk:x.k=1
  ·rw[if_pos hk]at h ⊢
   by_cases hs:(au 0 x.i l).isSome=true
   ·rw[if_pos hs]at h;split at h<;>cases h
   ·rw[if_neg hs]
  ·rw[if_neg hk]at h ⊢
   by_cases a1:au 0 x.i l=some x
   ·rw[if_pos a1]at h;cases h
   ·rw[if_neg a1]at h ⊢
    by_cases a2:(au 0 x.i l).isSome=true
    ·rw[if_pos a2]at h;cases h
    ·rw[if_neg a2]at h ⊢
     by_cases a3:x.a≠⟨0,0⟩∧(au 0 x.a l).isSome=false
     ·rw[if_pos a3]
     ·rw[if_neg a3]at h;split at h<;>cases h
theorem g7 {l:List OP}{o:OP}{a:ID}(h:o.k≠0∨o.i≠a):au 0 a (l++[o])=au 0 a l:=by
 have:au 0 a [o]=none:=by
  rw[au,if_neg (fun e=>by rcases h with h|h;exact h e.1;exact h e.2)];rfl
 rw[cP,this,Option.or_none]
theorem jd:∀(L:List EL)(k:Nat),k<aT L→bO L (cu k L:Nat)=k
 |[],k,h=>by simp[aT]at h
 |x::L,k,h=>by
  have h1:∀p:Nat,bO (x::L) ((p+1:Nat):Int)=TR.one x+bO L (p:Nat):=fun p=>by
   unfold bO TR.one
   rw[Int.toNat_natCast,Int.toNat_natCast,List.take_succ_cons,List.filter_cons]
   cases x.dead<;>simp;omega
  rw[ea]at h
  rw[cu]
  cases hx:x.dead with
  |true=>
   have h2:TR.one x=0:=by unfold TR.one;rw[hx]
   simp only[if_true]
   rw[h1,h2,jd L k (by omega)];omega
  |false=>
   have h2:TR.one x=1:=by unfold TR.one;rw[hx]
   simp only[Bool.false_eq_true,if_false]
   by_cases h0:k=0
   ·rw[if_pos h0,h0];rfl
   ·rw[if_neg h0,h1,h2,jd L (k-1) (by omega)];omega
theorem tV {e:EL}(h:e.dead=false):TR.one e=1:=by unfold TR.one;rw[h]
end Go.Proofs.E
namespace Go.Proofs.E
theorem lT {l:List OP}(h:Dn l){q:Nat}{e:EL}(he:(aj l)[q]?=some e):∃o,o∈bc l∧o.i=e.id∧e=elO l o:=by
 obtain⟨o,ho,h1⟩:=(gO h).1 (List.mem_of_getElem? he)
 exact⟨o,ho,by rw[h1];rfl,h1⟩
theorem vz {o:OP}{L:List OP}(h:∀x,x∈L→aX o.i x.i=false):fR o L=0:=by
 cases L with
 |nil=>rfl
 |cons x r=>rw[fR,if_neg (by rw[h x (by simp)];decide)]
theorem sp {o:OP}:∀{L:List OP}{q:Nat}{y:OP},L[q]?=some y→y.i=o.a→(∀j x,j<q→L[j]?=some x→x.i≠o.a)→(∀x,x∈L→aX o.i x.i=false)→gi o L=q+1
 |[],q,y,h,_,_,_=>by simp at h
 |x::r,0,y,h,hy,_,hl=>by
  cases h
  rw[gi,if_pos hy,vz fun z hz=>hl z (by simp[hz])]
 |x::r,q+1,y,h,hy,hn,hl=>by
  rw[gi,if_neg (hn 0 x (by omega) rfl),sp (q:=q) (by simpa using h) hy (fun j z hj hz=>hn (j+1) z (by omega) (by simpa using hz)) fun z hz=>hl z (by simp[hz])]
theorem wD {l R:List OP}:(∀x,x∈bc l→x.i.c<fG l R)∧(∀x,x∈R→x.i.c<fG l R)∧1≤fG l R:=by
 have h0:=ow (bc l)
 have h1:=ow R
 unfold fG
 refine⟨fun x hx=>?_,fun x hx=>?_,?_⟩
 ·have:=oz hx;split<;>omega
 ·have:=oz hx;split<;>omega
 ·split<;>omega
structure InsT (v:VS)(at_:Int)(o:OP)(p:Nat):Prop where
 w:aq v.l o=0
 k:o.k=0
 le:p≤(aj v.l).length
 row:aj (v.l++[o])=(aj v.l).take p++⟨o.i,o.ch,false⟩::(aj v.l).drop p
 rk:(bO (aj v.l) (p:Nat):Int)=at_
theorem z9 {v:VS}(hv:okV v)(hs:sat v){site at_ ch:Int}(g1:1≤site∧site≤1000)(g2:0≤at_∧at_≤aT (aj v.l))(g3:32≤ch∧ch≤1114111∧¬(55296≤ch∧ch≤57343))(g4:(aj v.l).length<4096∧fG v.l v.R≤1048576):
 (∃p,InsT v at_ (opI v site at_ ch) p)∧bM v site at_ ch=(⟨dJ v.s v.l (opI v site at_ ch),v.l++[opI v site at_ ch],v.R,[chO v.l (opI v site at_ ch)]⟩,opI v site at_ ch,0):=by
 obtain⟨c1,c2,c3⟩:=wD (l:=v.l) (R:=v.R)
 have hd:=hv.is.dn
 have hanc:(at_=0∧cY (aj v.l) (at_-1)=⟨0,0⟩)∨(0<at_∧∃q e o',(aj v.l)[q]?=some e∧e.dead=false∧o'∈bc v.l∧o'.i=e.id∧cY (aj v.l) (at_-1)=e.id∧(bO (aj v.l) (q:Nat):Int)=at_-1):=by
  by_cases h0:at_=0
  ·exact .inl ⟨h0,t5 (by omega)⟩
  ·right
   obtain⟨k,hk⟩:∃k:Nat,at_-1=k:=⟨(at_-1).toNat,by omega⟩
   obtain⟨e,e1,e2,e3⟩:=pL (L:=aj v.l) (k:=k) (by omega)
   obtain⟨o',o1,o2,_⟩:=lT hd e1
   have hr:=jd (aj v.l) k (by omega)
   exact⟨by omega,cu k (aj v.l),e,o',e1,e2,o1,o2,by rw[hk];exact e3,by rw[hr,hk]⟩
 have ho:opI v site at_ ch=⟨0,⟨fG v.l v.R,site⟩,cY (aj v.l) (at_-1),ch⟩:=rfl
 generalize cY (aj v.l) (at_-1)=a at hanc ho
 have hck:aC (opI v site at_ ch)=0:=by
  rw[ho]
  have hm:bg (⟨fG v.l v.R,site⟩:ID)=true:=decide_eq_true ⟨c3,g4.2,g1.1,g1.2⟩
  have hna:bu a=true∨(bg a=true∧a.c<fG v.l v.R):=by
   rcases hanc with⟨_,h⟩|⟨_,q,e,o',_,_,h3,h4,h5,_⟩
   ·left;rw[h];decide
   ·right
    rw[h5,←h4]
    exact⟨cK (ji hd o' h3),c1 o' h3⟩
  unfold aC
  rw[if_neg (by simp),if_neg (by simp),if_neg ?_,if_neg ?_,if_neg (by simp only;omega)]
  ·simp only
   rintro⟨h1,h2⟩
   rcases hna with h|⟨_,h⟩
   ·rw[h]at h1;cases h1
   ·omega
  ·simp only
   rintro(h|⟨h1,h2⟩)
   ·rw[hm]at h;cases h
   ·rcases hna with h|⟨h,_⟩
    ·rw[h]at h1;cases h1
    ·rw[h]at h2;cases h2
 have hnew:au 0 (⟨fG v.l v.R,site⟩:ID) v.l=none:=by
  cases hf:au 0 (⟨fG v.l v.R,site⟩:ID) v.l with
  |none=>rfl
  |some y=>
   obtain⟨y1,y2,y3⟩:=be hf
   have:=c1 y (aW.2 ⟨y1,y2⟩)
   rw[y3]at this;simp at this
 have hanf:¬(a≠⟨0,0⟩∧(au 0 a v.l).isSome=false):=by
  rintro⟨h1,h2⟩
  rcases hanc with⟨_,h⟩|⟨_,q,e,o',_,_,h3,h4,h5,_⟩
  ·exact h1 h
  ·rw[h5,←h4,eY hd h3]at h2;cases h2
 have hw:aq v.l (opI v site at_ ch)=0:=by
  unfold aq
  rw[if_neg (fun h=>h hck),ho]
  simp only
  rw[if_neg (by decide),hnew,if_neg (by simp),if_neg (by simp),if_neg hanf,if_neg (by rw[←fP hd];omega)]
 have hless:∀x,x∈cc (bc v.l)→aX (opI v site at_ ch).i x.i=false:=fun x hx=>by
  have:=c1 x ((hd.is.tk.is.mem x).1 hx)
  rw[ho]
  refine decide_eq_false ?_
  simp only;omega
 have hk0:(opI v site at_ ch).k=0:=rfl
 refine⟨⟨cn v.l (opI v site at_ ch),hw,hk0,gS hd hw hk0,kY hd hw hk0,?_⟩,?_⟩
 ·
  unfold cn tS
  rcases hanc with⟨h0,h1⟩|⟨h0,q,e,o',e1,e2,o1,o2,e3,e4⟩
  ·rw[if_pos (by rw[ho];exact h1),vz hless,h0];rfl
  ·have hae:(opI v site at_ ch).a=e.id:=by rw[ho];exact e3
   have hm:=cK (ji hd o' o1)
   rw[if_neg (fun h=>by rw[hae,←o2]at h;rw[h]at hm;exact absurd hm (by decide))]
   have hrow:aj v.l=(cc (bc v.l)).map (elO v.l):=rfl
   have hq:∃y,(cc (bc v.l))[q]?=some y∧elO v.l y=e:=by
    rw[hrow,List.getElem?_map,Option.map_eq_some_iff]at e1
    exact e1
   obtain⟨y,y1,y2⟩:=hq
   have hyi:y.i=e.id:=by rw[←y2];rfl
   rw[sp y1 (by rw[hyi,hae]) (fun j x hj hx he=>?_) hless]
   ·have:=tN e1
    rw[this,tV e2]
    omega
   ·have hxr:(aj v.l)[j]?=some (elO v.l x):=by rw[hrow,List.getElem?_map,hx];rfl
    have:=q9 (jX hd) hxr e1 (by show x.i=e.id;rw[he,hae])
    omega
 ·
  have n:bM v site at_ ch=doT v (opI v site at_ ch):=by
   unfold bM
   rw[if_neg (by omega),if_neg (by omega),if_neg (by omega)]
  rw[n]
  have hE:b9 v (opI v site at_ ch)=0:=by unfold b9;rw[hw];rfl
  unfold doT
  rw[if_neg (fun h=>h hE)]
  have hR:bI v (opI v site at_ ch)=⟨dJ v.s v.l (opI v site at_ ch),v.l++[opI v site at_ ch],v.R,[chO v.l (opI v site at_ ch)]⟩:=by
   unfold bI
   rw[if_pos hw]
   have hT:VS.take ⟨v.s,v.l,v.R,[]⟩ (opI v site at_ ch)=⟨dJ v.s v.l (opI v site at_ ch),v.l++[opI v site at_ ch],v.R,[chO v.l (opI v site at_ ch)]⟩:=by
    unfold VS.take
    simp only
    rw[show ga v.l (opI v site at_ ch)=v.l++[opI v site at_ ch]from if_pos hw,show kV [] v.l (opI v site at_ ch)=[chO v.l (opI v site at_ ch)]from if_pos hw]
   rw[hT]
   refine wx _ fun x hx=>?_
   simp only at hx ⊢
   have hxc:=c2 x hx
   have hxk:=hv.ck x hx
   refine u4 (g7 (.inr fun e=>?_)) (g7 (.inr fun e=>?_)) (hs x hx)
   ·rw[ho]at e;rw[←e]at hxc;simp at hxc
   ·rw[ho]at e
    simp only at e
    rcases(bC hxk).2 with⟨_,h2,_⟩|⟨h1,_⟩
    ·rw[jj h2]at e
     have:(fG v.l v.R)=0:=congrArg ID.c e
     omega
    ·rcases eF hxk h1 with h2|⟨_,h2⟩
     ·rw[h2]at e
      have:(fG v.l v.R)=0:=congrArg ID.c e
      omega
     ·rw[←e]at h2;simp only at h2;omega
  rw[hR]
structure DelT (v:VS)(at_:Int)(o:OP)(n:Nat)(e:EL):Prop where
 w:aq v.l o=0
 op:o=⟨1,e.id,⟨0,0⟩,0⟩
 get:(aj v.l)[n]?=some e
 alive:e.dead=false
 row:aj (v.l++[o])=(aj v.l).set n ⟨e.id,e.ch,true⟩
 rk:(bO (aj v.l) (n:Nat):Int)=at_
theorem Ak {v:VS}(hv:okV v)(hs:sat v){at_:Int}(g:0≤at_∧at_<aT (aj v.l)):
 (∃n e,DelT v at_ (opX v at_) n e)∧ct v at_=(⟨dJ v.s v.l (opX v at_),v.l++[opX v at_],v.R,[chO v.l (opX v at_)]⟩,opX v at_,0):=by
 have hd:=hv.is.dn
 obtain⟨k,hk⟩:∃k:Nat,at_=k:=⟨at_.toNat,by omega⟩
 obtain⟨e,e1,e2,e3⟩:=pL (L:=aj v.l) (k:=k) (by omega)
 obtain⟨o',o1,o2,o3⟩:=lT hd e1
 have hr:=jd (aj v.l) k (by omega)
 generalize cu k (aj v.l)=n at e1 hr
 have ho:opX v at_=⟨1,e.id,⟨0,0⟩,0⟩:=by unfold opX;rw[hk,e3]
 have hm:=cK (ji hd o' o1)
 have hck:aC (⟨1,e.id,⟨0,0⟩,0⟩:OP)=0:=by
  rw[←o2]
  unfold aC
  have h2:bu (⟨0,0⟩:ID)=true:=by decide
  rw[if_neg (by simp),if_neg (by simp[h2]),if_neg (by simp[h2,hm]),if_neg (by simp[h2]),if_neg (by simp)]
 have hdead:b8 v.l e.id=false:=by rw[←o2];rw[o3]at e2;exact e2
 have hw:aq v.l (opX v at_)=0:=by
  rw[ho]
  unfold aq
  rw[if_neg (fun h=>h hck)]
  simp only
  rw[if_pos trivial,if_pos (by rw[←o2,eY hd o1];rfl),hdead];rfl
 have hk1:(opX v at_).k=1:=rfl
 refine⟨⟨n,e,hw,ho,e1,e2,?_,by rw[hr,hk]⟩,?_⟩
 ·obtain⟨n',ch,p1,p2,_,p3,_⟩:=iY hd hw hk1
  have hid:(opX v at_).i=e.id:=by rw[ho]
  rw[hid]at p1 p2 p3
  have hpn:=fT (jX hd) e1
  rw[hpn]at p1
  have:n'=n:=by omega
  subst this
  rw[e1]at p2
  have p2:=Option.some.inj p2
  have hch:e.ch=ch:=by rw[p2]
  rw[hch];exact p3
 ·have hE:b9 v (opX v at_)=0:=by unfold b9;rw[hw];rfl
  unfold ct
  rw[if_pos g]
  unfold doT
  rw[if_neg (fun h=>h hE)]
  have hR:bI v (opX v at_)=⟨dJ v.s v.l (opX v at_),v.l++[opX v at_],v.R,[chO v.l (opX v at_)]⟩:=by
   unfold bI
   rw[if_pos hw]
   have hT:VS.take ⟨v.s,v.l,v.R,[]⟩ (opX v at_)=⟨dJ v.s v.l (opX v at_),v.l++[opX v at_],v.R,[chO v.l (opX v at_)]⟩:=by
    unfold VS.take
    simp only
    rw[show ga v.l (opX v at_)=v.l++[opX v at_]from if_pos hw,show kV [] v.l (opX v at_)=[chO v.l (opX v at_)]from if_pos hw]
   rw[hT]
   refine wx _ fun x hx=>?_
   simp only at hx ⊢
   exact u4 (g7 (.inl (by rw[hk1];decide))) (g7 (.inl (by rw[hk1];decide))) (hs x hx)
  rw[hR]
end Go.Proofs.E
namespace Go.Proofs.E
theorem z8 (v:VS)(hv:okV v)(hs:sat v)(site at_ ch:Int)(g1:1≤site∧site≤1000)(g3:32≤ch∧ch≤1114111∧¬(55296≤ch∧ch≤57343)):
 (∃o p,InsT v at_ o p∧bM v site at_ ch=(⟨dJ v.s v.l o,v.l++[o],v.R,[chO v.l o]⟩,o,0)∧o=opI v site at_ ch∧0≤at_∧at_≤aT (aj v.l))∨(∃e,e≠0∧bM v site at_ ch=(v.same,OP0,e)):=by
 by_cases g2:0≤at_∧at_≤aT (aj v.l)
 ·by_cases g4:(aj v.l).length<4096∧fG v.l v.R≤1048576
  ·obtain⟨⟨p,h1⟩,h2⟩:=z9 hv hs g1 g2 g3 g4
   exact .inl ⟨_,p,h1,h2,rfl,g2⟩
  ·right
   refine⟨7,by decide,?_⟩
   unfold bM
   rw[if_neg (by omega),if_neg (by omega),if_pos (by omega)]
 ·exact .inr ⟨2,by decide,sG (by omega)⟩
theorem Aj (v:VS)(hv:okV v)(hs:sat v)(at_:Int):
 (∃o n e,DelT v at_ o n e∧ct v at_=(⟨dJ v.s v.l o,v.l++[o],v.R,[chO v.l o]⟩,o,0))∨(ct v at_=(v.same,OP0,2)):=by
 by_cases g:0≤at_∧at_<aT (aj v.l)
 ·obtain⟨⟨n,e,h1⟩,h2⟩:=Ak hv hs g
  exact .inl ⟨_,n,e,h1,h2⟩
 ·exact .inr (if_neg g)
end Go.Proofs.E
namespace Go.Proofs.E
attribute [local irreducible] elems
def needs (o:OP)(L:List OP):Prop:=(o.k=1∧(au 0 o.i L).isSome=true)∨(o.k=0∧(o.a=⟨0,0⟩∨(au 0 o.a L).isSome=true))
theorem fX {k:Int}{a:ID}{l m:List OP}(h:∀x,x∈l→x∈m)(hf:(au k a l).isSome=true):(au k a m).isSome=true:=by
 obtain⟨x,h1,h2⟩:=eb.1 hf
 exact eb.2 ⟨x,h x h1,h2⟩
theorem needs.mono {o:OP}{l m:List OP}(h:∀x,x∈l→x∈m)(hn:needs o l):needs o m:=
 hn.imp (fun h1=>⟨h1.1,fX h h1.2⟩) fun h1=>⟨h1.1,h1.2.imp id (fX h)⟩
structure SentI (S:List OP):Prop where
 ck:∀o,o∈S→aC o=0
 ln:S.length≤1000
 uid:∀x y,x∈S→y∈S→x.k=0→y.k=0→x.i=y.i→x=y
 dep:∀(j:Nat)(o:OP),S[j]?=some o→needs o (S.take j)
structure RepI (S:List OP)(i:Nat)(r:RP):Prop where
 ok:okV r.v
 out:r.v.out=[]
 sub:∀o,o∈r.v.l∨o∈r.v.R→o∈S
 st:sat r.v
 cl:r.cl=false
 site:r.site=i+1
 own:∀o,o∈S→o.k=0→o.i.s=i+1→o∈r.v.l
structure MI (n:NT):Prop where
 ln:n.l.length≤8
 s:SentI n.sent
 r:∀(i:Nat)(r:RP),n.l[i]?=some r→RepI n.sent i r
theorem MI.ok {n:NT}(h:MI n):okN n:=⟨h.ln,fun r hr=>by
 obtain⟨i,hi,rfl⟩:=List.getElem_of_mem hr
 exact(h.r i _ (List.getElem?_eq_getElem hi)).ok.out,h.s.ck⟩
def vi (v:VS)(o:OP):VS:=⟨(bI v o).s,(bI v o).l,(bI v o).R,[]⟩
theorem jR {v:VS}(h:v.out=[]):(⟨v.s,v.l,v.R,[]⟩:VS)=v:=by rw[←h]
theorem tK {v:VS}(h:v.out=[]){o:OP}(he:b9 v o≠0):vi v o=v:=by
 unfold b9 at he
 unfold vi bI
 by_cases h0:aq v.l o=0
 ·rw[if_neg (by omega)]at he;exact absurd h0 he
 rw[if_neg h0]
 by_cases h6:aq v.l o=6
 ·rw[if_pos h6]at he ⊢
  have:ik v.R o=v.R:=if_neg he
  simp only[this]
  exact jR h
 ·rw[if_neg h6]
  exact jR h
theorem An {r:RP}(hc:r.cl=false)(hs:r.site≠0)(ho:r.v.out=[])(o:OP):(r.chg (apC o)).2.e=b9 r.v o∧(b9 r.v o=0→(r.chg (apC o)).1=⟨r.site,vi r.v o,r.cl⟩):=by
 have e:cJ r.site r.v r.cl (apC o)=((wrR r.site r.v (apC o)).1,r.cl,(wrR r.site r.v (apC o)).2):=by
  unfold cJ
  rw[if_neg (by show¬((2:Int)<0∨(2:Int)>8);omega),if_neg (by rw[hc];simpa using hs),if_neg (by show¬(2:Int)=8;omega),if_pos (by show(2:Int)≤2;omega)]
 have w:wrR r.site r.v (apC o)=if b9 r.v o≠0 then(r.v.same,⟨b9 r.v o,0,[]⟩)else(bI r.v o,⟨0,(bI r.v o).out.length,[]⟩):=by
  unfold wrR
  rw[if_neg (by show¬(2:Int)=0;omega),if_neg (by show¬(2:Int)=1;omega)]
  rfl
 unfold RP.chg
 rw[jR ho,e,w]
 by_cases h0:b9 r.v o=0
 ·rw[if_neg (fun h=>h h0)]
  exact⟨h0.symm,fun _=>rfl⟩
 ·rw[if_pos h0]
  exact⟨rfl,fun h=>absurd h h0⟩
theorem u6 {n:NT}{i:Int}(h:n.has i=true):n.set i (n.at i)=n:=by
 have h1:=cC h
 obtain⟨h2,h3⟩:=List.getElem?_eq_some_iff.1 h1
 show(⟨n.l.set i.toNat (n.at i),n.sent⟩:NT)=n
 rw[←h3,List.set_getElem_self]
theorem wz {n:NT}(hn:MI n){i k:Nat}(hi:i<n.l.length)(hk:k<n.sent.length):(ij n i k).1=n.set i ⟨(n.at i).site,vi (n.at i).v (n.sent.getD k OP0),(n.at i).cl⟩:=by
 have hh:n.has i=true:=cq.2 ⟨by omega,by omega⟩
 have hm:=cC hh
 have hr:=hn.r i _ (by rw[Int.toNat_natCast]at hm;exact hm)
 obtain⟨h1,h2⟩:=An hr.cl (by rw[hr.site];omega) hr.out (n.sent.getD k OP0)
 unfold ij
 rw[if_neg (by rw[hh];simp),if_neg (by omega),Int.toNat_natCast,h1]
 by_cases h0:b9 (n.at i).v (n.sent.getD k OP0)=0
 ·rw[if_neg (fun h=>h h0)]
  exact congrArg (n.set i) (h2 h0)
 ·rw[if_pos h0,tK hr.out h0]
  exact(u6 hh).symm
theorem s9 {l:List OP}{o x:OP}:x∈ga l o→x∈l∨x=o:=by
 unfold ga
 split
 ·intro h;simpa using h
 ·exact .inl
theorem s8 {l:List OP}{o x:OP}(h:x∈l):x∈ga l o:=by
 unfold ga
 split
 ·exact List.mem_append.2 (.inl h)
 ·exact h
theorem tY {l R:List OP}(h:¬bl l R<0):eO l R∈R:=by
 have:=j9 l R
 unfold eO
 rw[if_neg h,List.getD_eq_getElem?_getD,List.getElem?_eq_getElem (by omega)]
 exact List.getElem_mem _
theorem oR:∀(n:Nat)(v:VS),(∀x,x∈(drn n v).l∨x∈(drn n v).R→x∈v.l∨x∈v.R)∧(∀x,x∈v.l→x∈(drn n v).l)
 |0,v=>⟨fun _ h=>h,fun _ h=>h⟩
 |n+1,v=>by
  rw[drn]
  split
  ·exact⟨fun _ h=>h,fun _ h=>h⟩
  ·next hx=>
   obtain⟨h1,h2⟩:=oR n v.next
   have hl:∀x,x∈v.next.l→x∈v.l∨x∈v.R:=fun x hx'=>by
    rcases s9 (l:=v.l) (o:=eO v.l v.R) hx' with h|h
    ·exact .inl h
    ·rw[h];exact .inr (tY hx)
   exact⟨fun x hx'=>(h1 x hx').elim (hl x) fun h=>.inr (pJ x h),fun x hx'=>h2 x (s8 hx')⟩
theorem gR (v:VS)(o:OP):(∀x,x∈(bI v o).l∨x∈(bI v o).R→x∈v.l∨x∈v.R∨x=o)∧(∀x,x∈v.l→x∈(bI v o).l):=by
 unfold bI
 split
 ·obtain⟨h1,h2⟩:=oR v.R.length (VS.take ⟨v.s,v.l,v.R,[]⟩ o)
  refine⟨fun x hx=>?_,fun x hx=>h2 x (s8 hx)⟩
  rcases h1 x hx with h|h
  ·rcases s9 (l:=v.l) (o:=o) h with h|h
   ·exact .inl h
   ·exact .inr (.inr h)
  ·exact .inr (.inl h)
 ·split
  ·refine⟨fun x hx=>?_,fun _ h=>h⟩
   rcases hx with h|h
   ·exact .inl h
   ·unfold ik at h
    split at h
    ·rcases List.mem_append.1 h with h|h
     ·exact .inr (.inl h)
     ·exact .inr (.inr (List.mem_singleton.1 h))
    ·exact .inr (.inl h)
  ·exact⟨fun x hx=>hx.elim .inl fun h=>.inr (.inl h),fun _ h=>h⟩
theorem lG {v:VS}{o:OP}(h:aq v.l o=0):o∈(bI v o).l:=by
 unfold bI
 rw[if_pos h]
 refine(oR _ _).2 o ?_
 show o∈ga v.l o
 unfold ga
 rw[if_pos h];simp
theorem nF:∀{a b:List OP},a.Nodup→(∀x,x∈a→x∈b)→a.length≤b.length
 |[],_,_,_=>Nat.zero_le _
 |x::r,b,hn,h=>by
  obtain⟨h1,h2⟩:=List.nodup_cons.1 hn
  have hx:=h x (by simp)
  have ih:=nF (a:=r) (b:=b.erase x) h2 fun y hy=>(List.mem_erase_of_ne (fun(e:y=x)=>h1 (e▸hy))).2 (h y (List.mem_cons_of_mem _ hy))
  have:=List.length_erase_of_mem hx
  have:=List.length_pos_of_mem hx
  rw[List.length_cons];omega
theorem uU {S:List OP}(hS:SentI S){v:VS}(hv:okV v)(hsub:∀o,o∈v.l∨o∈v.R→o∈S){k:Nat}{o:OP}(ho:S[k]?=some o)(hk:∀x,x∈S.take k→x∈v.l):o∈(bI v o).l:=by
 have hmem:=List.mem_of_getElem? ho
 have hc:=hS.ck o hmem
 have hnd:=(hS.dep k o ho).mono hk
 have hlen:(bc v.l).length≤1000:=Nat.le_trans (nF (hv.is.dn.is.tk.is.ok.nd.imp fun h e=>h (by rw[e])) fun x hx=>hsub x (.inl (aW.1 hx).1)) hS.ln
 have hold:o∈v.l→o∈(bI v o).l:=(gR v o).2 o
 rcases hnd with⟨h1,h2⟩|⟨h1,h2⟩
 ·cases hd:b8 v.l o.i with
  |false=>
   refine lG ?_
   unfold aq
   rw[if_neg (fun h=>h hc),if_pos h1,if_pos h2,hd,if_neg (by simp)]
  |true=>
   obtain⟨x,x1,x2,x3⟩:=eb.1 hd
   have hx:=(bC (hS.ck x (hsub x (.inl x1)))).2
   have ho2:=(bC hc).2
   have e:x=o:=by
    rcases hx with⟨_,a1,a2⟩|⟨a0,_⟩
    ·rcases ho2 with⟨_,b1,b2⟩|⟨b0,_⟩
     ·obtain⟨xk,xi,xa,xc⟩:=x
      obtain⟨ok,oi,oa,oc⟩:=o
      simp only at*
      rw[x2,h1,x3,jj a1,jj b1,a2,b2]
     ·omega
    ·omega
   exact hold (e▸x1)
 ·cases hf:au 0 o.i v.l with
  |some y=>
   obtain⟨y1,y2,y3⟩:=be hf
   have e:=hS.uid y o (hsub y (.inl y1)) hmem y2 h1 y3
   exact hold (e▸y1)
  |none=>
   refine lG ?_
   have hanc:¬(o.a≠⟨0,0⟩∧(au 0 o.a v.l).isSome=false):=fun⟨a1,a2⟩=>by
    rcases h2 with h|h
    ·exact a1 h
    ·rw[h]at a2;cases a2
   unfold aq
   rw[if_neg (fun h=>h hc),if_neg (by omega),if_neg (by rw[hf];simp),if_neg (by rw[hf];simp),if_neg hanc,if_neg (by omega)]
theorem RepI.tell {S:List OP}{i:Nat}{r:RP}(h:RepI S i r){o:OP}(ho:o∈S):RepI S i ⟨r.site,vi r.v o,r.cl⟩:=
 ⟨(h.ok.rem o).out,rfl,fun x hx=>by
  rcases(gR r.v o).1 x hx with h1|h1|h1
  ·exact h.sub x (.inl h1)
  ·exact h.sub x (.inr h1)
  ·rw[h1];exact ho,sk h.st o,h.cl,h.site,fun x h1 h2 h3=>(gR r.v o).2 x (h.own x h1 h2 h3)⟩
theorem pY {l:List OP}{k:Nat}(h:k<l.length):l[k]?=some (l.getD k OP0):=by rw[List.getD_eq_getElem?_getD,List.getElem?_eq_getElem h];rfl
theorem MI.set {n:NT}(h:MI n){i:Nat}{r:RP}(hr:i<n.l.length→RepI n.sent i r):MI (n.set i r):=
 ⟨by show(n.l.set _ _).length≤8;rw[List.length_set];exact h.ln,h.s,fun j x hx=>by
  have hy:(n.l.set i r)[j]?=some x:=by rw[←hx];show _=(n.l.set ((i:Int).toNat) r)[j]?;rw[Int.toNat_natCast]
  clear hx
  rw[List.getElem?_set]at hy
  by_cases e:i=j
  ·subst e
   rw[if_pos rfl]at hy
   split at hy
   ·next hl=>cases hy;exact hr hl
   ·cases hy
  ·rw[if_neg e]at hy
   exact h.r j x hy⟩
theorem lp {n:NT}{i:Nat}(hi:i<n.l.length):n.l[i]?=some (n.at i):=by
 have:=cC (n:=n) (i:=i) (cq.2 ⟨by omega,by omega⟩)
 rw[Int.toNat_natCast]at this;exact this
theorem MI.dlv {n:NT}(h:MI n)(i k:Int):MI (ij n i k).1:=by
 by_cases hi:0≤i∧i<(n.l.length:Nat)
 ·by_cases hk:0≤k∧k<(n.sent.length:Nat)
  ·obtain⟨a,rfl⟩:∃a:Nat,i=(a:Int):=⟨i.toNat,by omega⟩
   obtain⟨b,rfl⟩:∃b:Nat,k=(b:Int):=⟨k.toNat,by omega⟩
   rw[wz h (by omega) (by omega)]
   exact h.set fun hl=>(h.r a _ (lp hl)).tell (List.mem_of_getElem? (pY (by omega)))
  ·unfold ij
   split
   ·exact h
   ·rw[if_pos (by omega)];exact h
 ·unfold ij
  rw[if_pos (by
   cases e:n.has i with
   |false=>rfl
   |true=>exact absurd (cq.1 e) hi)]
  exact h
theorem MI.tell {n:NT}(h:MI n)(i:Nat):∀k,MI (dR n i k)
 |0=>h
 |k+1=>(MI.tell h i k).dlv i k
theorem MI.setl {n:NT}(h:MI n):∀i,MI (cS n i)
 |0=>h
 |i+1=>(MI.setl h i).tell i _
theorem wM {n:NT}{i j:Nat}{r:RP}(hi:i<n.l.length):(n.set i r).at j=if j=i then r else n.at j:=by
 unfold NT.at NT.set
 simp only[Int.toNat_natCast,List.getD_eq_getElem?_getD,List.getElem?_set]
 by_cases e:i=j
 ·subst e;simp[hi]
 ·rw[if_neg e,if_neg fun h=>e h.symm]
theorem sc {n:NT}(h:MI n){i:Nat}(hi:i<n.l.length):∀k,k≤n.sent.length→(∀x,x∈n.sent.take k→x∈((dR n i k).at i).v.l)∧∀j,j≠i→(dR n i k).at (j:Nat)=n.at (j:Nat)
 |0,_=>⟨fun x hx=>by simp at hx,fun _ _=>rfl⟩
 |k+1,hk=>by
  obtain⟨h1,h2⟩:=sc h hi k (by omega)
  have hm:=h.tell i k
  obtain⟨hs,hl⟩:=jT n i k
  have hk':k<(dR n i k).sent.length:=by rw[hs];omega
  have hi':i<(dR n i k).l.length:=by rw[hl];omega
  have e:dR n i (k+1)=(ij (dR n i k) i k).1:=rfl
  rw[e,wz hm hi' hk']
  have hri:=hm.r i _ (lp hi')
  have hget:=pY hk'
  have hone:=uU hm.s hri.ok hri.sub hget (by rw[hs];exact h1)
  refine⟨fun x hx=>?_,fun j hj=>?_⟩
  ·rw[wM hi',if_pos rfl]
   rw[hs]at hget
   rw[fk hget]at hx
   rcases List.mem_append.1 hx with hx|hx
   ·exact(gR _ _).2 x (h1 x hx)
   ·rw[List.mem_singleton.1 hx,←hs];exact hone
  ·rw[wM hi',if_neg hj];exact h2 j hj
theorem sj {n:NT}(h:MI n):∀i,i≤n.l.length→∀j,j<i→∀x,x∈n.sent→x∈((cS n i).at (j:Nat)).v.l
 |0,_,j,hj,_,_=>by omega
 |i+1,hi,j,hj,x,hx=>by
  obtain⟨hs,hl⟩:=fp n i
  have ht:=sc (h.setl i) (i:=i) (by rw[hl];omega) n.sent.length (by rw[hs];exact Nat.le_refl _)
  show x∈((dR (cS n i) i n.sent.length).at (j:Nat)).v.l
  by_cases e:j=i
  ·subst e
   refine ht.1 x ?_
   rw[hs,List.take_length];exact hx
  ·rw[ht.2 j e]
   exact sj h i (by omega) j (by omega) x hx
end Go.Proofs.E
namespace Go.Proofs.E
attribute [local irreducible] elems
theorem ze {r:RP}{c:CALL}(ho:r.v.out=[])(he:(r.chg c).2.e=0):(c.k=0→(bM r.v r.site c.at_ c.ch).2.2=0)∧(c.k=1→(ct r.v c.at_).2.2=0):=by
 have hw:∀(p:VS×OP×Int),(wrI r.v p).2.e=0→p.2.2=0:=fun p h=>by
  unfold wrI at h
  by_cases e:p.2.2=0
  ·exact e
  ·rw[if_pos e]at h;exact h
 unfold RP.chg at he
 rw[jR ho]at he
 unfold cJ at he
 refine⟨fun k=>?_,fun k=>?_⟩
 ·rw[if_neg (by omega)]at he
  split at he
  ·simp at he
  rw[if_neg (by omega),if_pos (by omega)]at he
  simp only at he
  unfold wrR at he
  rw[if_pos k]at he
  exact hw _ he
 ·rw[if_neg (by omega)]at he
  split at he
  ·simp at he
  rw[if_neg (by omega),if_pos (by omega)]at he
  simp only at he
  unfold wrR at he
  rw[if_neg (by omega),if_pos k]at he
  exact hw _ he
theorem zS {S:List OP}{i:Nat}{r:RP}(h:RepI S i r)(hi:i<8){c:CALL}(hk:c.k=0∨c.k=1)(he:(r.chg c).2.e=0):aq r.v.l (opL r c)=0∧((opL r c).k=0→(opL r c).i=⟨fG r.v.l r.v.R,i+1⟩):=by
 have hs:=h.site
 unfold opL
 rw[jR h.out]
 by_cases k0:c.k=0
 ·rw[if_pos k0]
  have h0:=(ze h.out he).1 k0
  by_cases g3:32≤c.ch∧c.ch≤1114111∧¬(55296≤c.ch∧c.ch≤57343)
  ·rcases z8 r.v h.ok h.st r.site c.at_ c.ch (by omega) g3 with⟨o,p,h1,_,h2,_⟩|⟨e,h1,h2⟩
   ·rw[←h2]
    exact⟨h1.w,fun _=>by rw[h2,←hs];rfl⟩
   ·rw[h2]at h0;exact absurd h0 h1
  ·exfalso
   unfold bM at h0
   split at h0
   ·simp at h0
   ·rw[if_pos (by omega)]at h0;simp at h0
 ·rw[if_neg k0]
  have h0:=(ze h.out he).2 (by omega)
  rcases Aj r.v h.ok h.st c.at_ with⟨o,n,e,h1,h2⟩|h2
  ·have h3:opX r.v c.at_=o:=by
    have h4:ct r.v c.at_=doT r.v (opX r.v c.at_):=by
     unfold ct
     by_cases g:0≤c.at_∧c.at_<aT (aj r.v.l)
     ·rw[if_pos g]
     ·rw[ct,if_neg g]at h0;simp at h0
    rw[h4]at h2 h0
    unfold doT at h2 h0
    split at h2
    ·next g=>rw[if_pos g]at h0;exact absurd h0 g
    ·exact(congrArg (fun p=>p.2.1) h2)
   rw[h3]
   exact⟨h1.w,fun hk=>by rw[h1.op]at hk;simp at hk⟩
  ·rw[h2]at h0;simp at h0
theorem SentI.snoc {S:List OP}(h:SentI S){o:OP}(hc:aC o=0)(hl:S.length<1000)(hu:o.k=0→∀x,x∈S→x.k=0→x.i≠o.i)(hd:needs o S):SentI (S++[o]):=by
 refine⟨fun x hx=>?_,by simp;omega,fun x y hx hy kx ky e=>?_,fun j x hx=>?_⟩
 ·rcases List.mem_append.1 hx with h1|h1
  ·exact h.ck x h1
  ·rw[List.mem_singleton.1 h1];exact hc
 ·rcases List.mem_append.1 hx with h1|h1
  ·rcases List.mem_append.1 hy with h2|h2
   ·exact h.uid x y h1 h2 kx ky e
   ·rw[List.mem_singleton.1 h2]at e ky;exact absurd e (hu ky x h1 kx)
  ·rcases List.mem_append.1 hy with h2|h2
   ·rw[List.mem_singleton.1 h1]at e kx;exact absurd e.symm (hu kx y h2 ky)
   ·rw[List.mem_singleton.1 h1,List.mem_singleton.1 h2]
 ·have hj:=(List.getElem?_eq_some_iff.1 hx).1
  simp only[List.length_append,List.length_cons,List.length_nil]at hj
  by_cases e:j=S.length
  ·subst e
   rw[List.getElem?_append_right (Nat.le_refl _),Nat.sub_self]at hx
   cases hx
   rw[List.take_left']
   ·exact hd
   ·rfl
  ·rw[List.getElem?_append_left (by omega)]at hx
   rw[List.take_append_of_le_length (by omega)]
   exact h.dep j x hx
theorem MI.loc {n:NT}(h:MI n)(hl:n.sent.length<1000)(i:Int)(c:CALL):MI (gl n i c).1:=by
 unfold gl
 split
 ·exact h
 next hh=>
 have hi:n.has i=true:=by simpa using hh
 split
 ·exact h
 next hk=>
 split
 ·exact h
 next he=>
 have he:=Classical.not_not.1 he
 have hk:c.k=0∨c.k=1:=by omega
 obtain⟨i0,i1⟩:=cq.1 hi
 obtain⟨a,rfl⟩:∃a:Nat,i=(a:Int):=⟨i.toNat,by omega⟩
 have hget:=cC hi
 rw[Int.toNat_natCast]at hget ⊢
 have hr:=h.r a _ hget
 have hln:=h.ln
 generalize n.at (a:Int)=r at hget hr he ⊢
 obtain⟨_,hc,hq,_⟩:=rP (r:=r) (c:=c) hk he
 obtain⟨hw,hid⟩:=zS hr (by omega) hk he
 rw[jR hr.out]at hq
 generalize opL r c=o at hc hq hw hid ⊢
 rw[hq]
 have hold:∀x,x∈n.sent→x∈n.sent++[o]:=fun x hx=>List.mem_append.2 (.inl hx)
 have hnew:o∈n.sent++[o]:=by simp
 have hs:SentI (n.sent++[o]):=h.s.snoc hc hl (fun ko x hx kx e=>by
  have e2:=hid ko
  rw[e2]at e
  have hx2:=hr.own x hx kx (by rw[e])
  have:=wD (l:=r.v.l) (R:=r.v.R) |>.1 x (aW.2 ⟨hx2,kx⟩)
  rw[e]at this;simp at this) (by
  have hm:∀x,x∈r.v.l→x∈n.sent:=fun x hx=>hr.sub x (.inl hx)
  rcases(bQ hw).2 with⟨k1,h1,_⟩|⟨k0,_,h1,_⟩
  ·exact .inl ⟨k1,fX hm h1⟩
  ·exact .inr ⟨k0,h1.imp id (fX hm)⟩)
 refine⟨by show(n.l.set _ _).length≤8;rw[List.length_set];exact h.ln,hs,fun j x hx=>?_⟩
 have hx:(n.l.set a _)[j]?=some x:=hx
 rw[List.getElem?_set]at hx
 by_cases e:a=j
 ·subst e
  rw[if_pos rfl,if_pos (by omega)]at hx
  cases hx
  refine⟨(hr.ok.rem o).out,rfl,fun x hx=>?_,sk hr.st o,hr.cl,hr.site,fun x h1 h2 h3=>?_⟩
  ·rcases(gR r.v o).1 x hx with h1|h1|h1
   ·exact hold x (hr.sub x (.inl h1))
   ·exact hold x (hr.sub x (.inr h1))
   ·rw[h1];exact hnew
  ·rcases List.mem_append.1 h1 with h1|h1
   ·exact(gR r.v o).2 x (hr.own x h1 h2 h3)
   ·rw[List.mem_singleton.1 h1];exact lG hw
 ·rw[if_neg e]at hx
  have hj:=h.r j x hx
  refine⟨hj.ok,hj.out,fun y hy=>hold y (hj.sub y hy),hj.st,hj.cl,hj.site,fun y h1 h2 h3=>?_⟩
  rcases List.mem_append.1 h1 with h1|h1
  ·exact hj.own y h1 h2 h3
  ·rw[List.mem_singleton.1 h1]at h2 h3
   rw[hid h2]at h3
   simp at h3;omega
theorem yb (n:NT)(i:Int)(c:CALL):(gl n i c).1.sent.length≤n.sent.length+1∧(gl n i c).1.l.length=n.l.length:=by
 unfold gl
 split
 ·exact⟨by simp,rfl⟩
 split
 ·exact⟨by simp,rfl⟩
 split
 ·exact⟨by simp,rfl⟩
 ·exact⟨by simp,by simp⟩
theorem iW {n:NT}(h:MI n){i:Nat}(hi:i<n.l.length):(∀x,x∈((cS n n.l.length).at (i:Nat)).v.l↔x∈n.sent)∧((cS n n.l.length).at (i:Nat)).v.R=[]∧Dn ((cS n n.l.length).at (i:Nat)).v.l:=by
 have h1:=sj h n.l.length (Nat.le_refl _) i hi
 obtain⟨hs,hl⟩:=fp n n.l.length
 have hm:=h.setl n.l.length
 have hr:=hm.r i _ (lp (by rw[hl];exact hi))
 rw[hs]at hr
 generalize(cS n n.l.length).at (i:Nat)=r at h1 hr ⊢
 refine⟨fun x=>⟨fun hx=>hr.sub x (.inl hx),h1 x⟩,?_,hr.ok.is.dn⟩
 cases e:r.v.R with
 |nil=>rfl
 |cons o t=>
  have ho:o∈r.v.R:=by rw[e];simp
  have h6:=hr.st o ho
  have ho2:=h1 o (hr.sub o (.inr ho))
  have hck:=hr.ok.ck o ho
  unfold aq at h6
  rw[if_neg (fun h=>h hck)]at h6
  rcases(bC hck).2 with hh|hh
  ·rw[if_pos hh.1]at h6
   have:=(hr.ok.is.dn.is.dels o ho2 hh.1)
   rw[if_pos this]at h6
   split at h6<;>simp at h6
  ·rw[if_neg (by omega)]at h6
   have hf:(au 0 o.i r.v.l).isSome=true:=eb.2 ⟨o,ho2,hh.1,rfl⟩
   split at h6
   ·simp at h6
   ·simp at h6
theorem MI.new {k:Nat}(h:k≤8):MI ⟨(List.range k).map fun(i:Nat)=>⟨(i:Int)+1,vA0,false⟩,[]⟩:=by
 refine⟨by simp;exact h,⟨fun _ h=>by simp at h,by simp,fun _ _ h=>by simp at h,fun j o h=>by simp at h⟩,fun i r hr=>?_⟩
 rw[List.getElem?_map]at hr
 obtain⟨j,hj,rfl⟩:=Option.map_eq_some_iff.1 hr
 have e:=List.getElem?_eq_some_iff.1 hj
 obtain⟨_,e⟩:=e
 rw[List.getElem_range]at e
 subst e
 exact⟨rm,rfl,fun o ho=>by simp[vA0]at ho,fun x hx=>by simp[vA0]at hx,rfl,rfl,fun o ho=>by simp at ho⟩
end Go.Proofs.E
namespace Go.Proofs.E
attribute [local irreducible] elems
def f6 (ch:Int):CALL:=⟨0,0,ch,OP0,⟨0,0⟩⟩
def aN1:NT:=(gl (dP 2) 0 (f6 97)).1
def aN2:NT:=(gl aN1 1 (f6 98)).1
def aN3:NT:=cS aN2 2
theorem Ba:okN aN1:=((sB (by decide)).loc 0 _).1
theorem A9:okN aN2:=(Ba.loc 1 _).1
theorem zU:okN aN3:=A9.setl 2
theorem At:(gl aN1 1 (f6 98)).2=0:=by decide+kernel
theorem As:aN2.l.length=2:=by decide+kernel
theorem wL:aN1.sent.length≤1000∧aN2.sent.length≤1000:=by decide+kernel
theorem Av:aN3.text 0=[98,97]:=by decide+kernel
theorem Au:aN3.text 1=[98,97]:=by decide+kernel
theorem Ar:aN3.same=true:=by decide+kernel
theorem oo:Cv 42 [] (bv true):=by
 have h1:=ng (sB (by decide:2≤8)) (by decide) 0 (f6 97)
 have h2:=ng Ba wL.1 1 (f6 98)
 rw[At]at h2
 have h3:=ie A9 wL.2
 rw[As]at h3
 have h4:=hZ zU 0
 rw[Av]at h4
 have h5:=hZ zU 1
 rw[Au]at h5
 have h6:=o6 zU
 rw[Ar]at h6
 have hn:Cv 43 [iv 2] (.tup [ntv (dP 2),iv 0]):=xv 2 (by decide) (by decide)
 have h1:Cv 44 [ntv (dP 2),iv 0,jG (f6 97)] (.tup [ntv aN1,iv (gl (dP 2) 0 (f6 97)).2]):=h1
 have h2:Cv 44 [ntv aN1,iv 1,jG (f6 98)] (.tup [ntv aN2,iv 0]):=h2
 have h3:Cv 46 [ntv aN2] (ntv aN3):=h3
 generalize aN3=m3 at h3 h4 h5 h6
 generalize aN2=m2 at h2 h3
 generalize(gl (dP 2) 0 (f6 97)).2=e1 at h1
 generalize aN1=m1 at h1 h2
 generalize dP 2=m0 at hn h1
 refine ab Tryz.f42 Tryz.func42 rfl rfl fun w H B g0=>?_
 refine aa hn (fun _ _=>rfl) rfl rfl rfl ?_
 (repeat (first|refine Spl.t rfl ?_|refine Spl.f rfl ?_))
 refine aa h1 (fun _ _=>rfl) rfl rfl rfl ?_
 (repeat (first|refine Spl.t rfl ?_|refine Spl.f rfl ?_))
 refine aa h2 (fun _ _=>rfl) rfl rfl rfl ?_
 (repeat (first|refine Spl.t rfl ?_|refine Spl.f rfl ?_))
 refine aa h3 (fun _ _=>rfl) rfl rfl rfl ?_
 (repeat (first|refine Spl.t rfl ?_|refine Spl.f rfl ?_))
 refine aa uI (fun _ _=>rfl) rfl rfl rfl ?_
 (repeat (first|refine Spl.t rfl ?_|refine Spl.f rfl ?_))
 refine aa h4 (fun _ _=>rfl) rfl rfl rfl ?_
 (repeat (first|refine Spl.t rfl ?_|refine Spl.f rfl ?_))
 refine aa h5 (fun _ _=>rfl) rfl rfl rfl ?_
 (repeat (first|refine Spl.t rfl ?_|refine Spl.f rfl ?_))
 refine aa h6 (fun _ _=>rfl) rfl rfl rfl ?_
 (repeat (first|refine Spl.t rfl ?_|refine Spl.f rfl ?_))
 exact FinP.open rfl rfl
structure PA where
 k:Int
 i:Int
 n:Int
 c:CALL
abbrev paD (a:PA):List D:=[.v (.int .u8 a.k),.v (.int .i64 a.i),.v (.int .i64 a.n),.v (.int .i64 a.c.k),.v (.int .i64 a.c.at_),.v (.int .i32 a.c.ch),.v (.int .i64 a.c.o.k),.v (.int .i64 a.c.o.i.c),.v (.int .i64 a.c.o.i.s),.v (.int .i64 a.c.o.a.c),.v (.int .i64 a.c.o.a.s),.v (.int .i32 a.c.o.ch),.v (.int .i64 a.c.a.c),.v (.int .i64 a.c.a.s)]
def NT.settle (n:NT):NT:=cS n n.l.length
theorem MI.settle {n:NT}(h:MI n):MI n.settle:=h.setl _
theorem dc (n:NT):n.settle.sent=n.sent∧n.settle.l.length=n.l.length:=fp n _
theorem met {n:NT}(h:MI n){i j:Nat}(hi:i<n.l.length)(hj:j<n.l.length):aj (n.settle.at i).v.l=aj (n.settle.at j).v.l∧bo (n.settle.at i).v.l=bo (n.settle.at j).v.l∧(n.settle.at i).v.R=[]:=by
 obtain⟨a1,a2,a3⟩:=iW h hi
 obtain⟨b1,b2,b3⟩:=iW h hj
 have e:∀x,x∈(n.settle.at i).v.l↔x∈(n.settle.at j).v.l:=fun x=>(a1 x).trans (b1 x).symm
 exact⟨vd a3 b3 e,zA a3 b3 e,a2⟩
theorem tq (t:TL):uT t t=true:=by unfold uT;simp
theorem AB {n:NT}{r:RP}(h:r∈n.l):∃i:Nat,i<n.l.length∧r=n.at i:=by
 obtain⟨i,hi,rfl⟩:=List.getElem_of_mem h
 refine⟨i,hi,?_⟩
 have:=lp hi
 rw[List.getElem?_eq_getElem hi]at this
 exact Option.some.inj this
theorem kC {n:NT}(h:MI n):n.settle.same=true:=by
 unfold NT.same
 rw[List.all_eq_true]
 intro r hr
 obtain⟨i,hi,rfl⟩:=AB hr
 rw[(dc n).2]at hi
 obtain⟨h1,h2,_⟩:=met h (i:=i) (j:=0) hi (by omega)
 have h1:aj (n.settle.at i).v.l=aj (n.settle.at 0).v.l:=h1
 have h2:bo (n.settle.at i).v.l=bo (n.settle.at 0).v.l:=h2
 unfold gr nl
 rw[h1,h2,tq];simp
theorem jw {n:NT}{i:Nat}(h:i<n.l.length):n.has i=true:=cq.2 ⟨by omega,by omega⟩
theorem pq {n:NT}(h:MI n){i:Nat}(hi:i<n.l.length):n.settle.text i=n.settle.text 0∧n.settle.wait i=0:=by
 have hl:=(dc n).2
 obtain⟨h1,_,h3⟩:=met h (i:=i) (j:=0) hi (by omega)
 have h1:aj (n.settle.at i).v.l=aj (n.settle.at 0).v.l:=h1
 have a0:n.settle.has 0=true:=jw (i:=0) (by omega)
 unfold NT.text NT.wait
 rw[if_pos (jw (by omega)),if_pos a0,if_pos (jw (by omega)),h3]
 unfold nl
 rw[h1]
 exact⟨rfl,rfl⟩
theorem rS {n:NT}(h:MI n)(h0:0<n.l.length):n.settle.settle.text 0=n.settle.text 0:=by
 have hl:=(dc n).2
 have hs:=(dc n).1
 have hl2:=(dc n.settle).2
 obtain⟨a1,_,a3⟩:=iW h h0
 obtain⟨b1,_,b3⟩:=iW h.settle (i:=0) (by omega)
 have e:=vd b3 a3 fun x=>(b1 x).trans (by rw[hs];exact(a1 x).symm)
 have c0:n.settle.settle.has 0=true:=jw (i:=0) (by omega)
 have d0:n.settle.has 0=true:=jw (i:=0) (by omega)
 unfold NT.text
 rw[if_pos c0,if_pos d0]
 unfold nl
 exact congrArg (fun r=>byt (dz r)) e
set_option maxHeartbeats 8000000 in
theorem qz (k:Nat)(hk:k≤255)(acts:List PA)(hacts:∀a,a∈acts→0≤a.k):Cv 7 [u8v k,.d (.sl 14 (acts.map paD))] (bv true):=by
 refine ab Tryz.f7 Tryz.func7 rfl rfl fun w H B g0=>?_
 refine Spl.of (fun g1=>?_) (fun g1=>?_)
 ·(repeat (first|refine Spl.t rfl ?_|refine Spl.f rfl ?_))
  refine aa oo (fun _ _=>rfl) rfl rfl rfl ?_
  (repeat (first|refine Spl.t rfl ?_|refine Spl.f rfl ?_))
  exact FinP.open rfl rfl
 have g1:=of_decide_eq_false g1
 simp at g1
 have hnew:=xv (k % 8+1) (by omega) (by omega)
 have hraw:IntKind.i64.wrap (IntKind.i64.wrap ((k:Int).tmod 8)+1)=((k % 8+1:Nat):Int):=by
  have e:(k:Int).tmod 8=((k % 8:Nat):Int):=rfl
  rw[e,am ((k % 8:Nat):Int) (by omega) (by omega),am _ (by omega) (by omega)];omega
 have hnl:(dP (k % 8+1)).l.length=k % 8+1:=by simp[dP]
 have hmi:MI (dP (k % 8+1)):=MI.new (by omega)
 have hns:(dP (k % 8+1)).sent.length≤0:=Nat.le_refl 0
 have hK:1≤k % 8+1∧k % 8+1≤8:=by omega
 generalize dP (k % 8+1)=n0 at hnew hnl hmi hns
 generalize k % 8+1=K at hnew hraw hnl hK
 rw[←hraw]at hnew
 (repeat (first|refine Spl.t rfl ?_|refine Spl.f rfl ?_))
 refine Req.of (by decide) ?_
 refine aa hnew (fun _ _=>rfl) rfl rfl rfl ?_
 (repeat (first|refine Spl.t rfl ?_|refine Spl.f rfl ?_))
 refine ba (V:=Nat×NT) (fun v=>[(27,iv v.1)]) (fun v=>[(5,.cells (ntC v.2))]) [5] (fun v=>acts.length-v.1) (fun v=>v.1≤acts.length∧MI v.2∧v.2.sent.length≤v.1∧v.2.l.length=K) (0,n0) ⟨Nat.zero_le _,hmi,hns,hnl⟩ (by repeat' (first|exact trivial|exact rfl|refine And.intro ?_ ?_)) (by repeat' (first|exact trivial|exact rfl|refine And.intro ?_ ?_)) ?_
 rintro⟨i,n⟩ ⟨hi,hm,hse,hln⟩
 simp only at hi hm hse hln
 refine Spl.of (fun h2=>?_) (fun h2=>?_)
 ·have hlt:i<acts.length:=by have:=of_decide_eq_true h2;simp at this;omega
  obtain⟨a,ha⟩:∃a,acts[i]?=some a:=⟨_,List.getElem?_eq_getElem hlt⟩
  have hrow:(acts.map paD)[i]?=some (paD a):=by rw[List.getElem?_map,ha];rfl
  obtain⟨ak,ai,an,c⟩:=a
  (repeat (first|refine Spl.t rfl ?_|refine Spl.f rfl ?_))
  refine IdxP.of _ (by omega) (by rw[Int.toNat_natCast];exact hrow) ?_
  (repeat (first|refine Spl.t rfl ?_|refine Spl.f rfl ?_))
  by_cases k0:ak=0
  ·subst k0
   (repeat (first|refine Spl.t rfl ?_|refine Spl.f rfl ?_))
   refine aa (ng hm.ok (by omega) ai c) (fun _ _=>rfl) rfl rfl rfl ?_
   (repeat (first|refine Spl.t rfl ?_|refine Spl.f rfl ?_))
   have hl:=yb n ai c
   exact⟨(i+1,(gl n ai c).1),⟨by simp only;omega,hm.loc (by omega) ai c,by simp only;omega,hl.2.trans hln⟩,by simp only;omega,⟨aE (am _ (by omega) (by omega)),trivial⟩,(by repeat' (first|exact trivial|exact rfl|refine And.intro ?_ ?_)),(by repeat' (first|exact trivial|exact rfl|refine And.intro ?_ ?_)),(by repeat' (first|exact trivial|exact rfl|refine And.intro ?_ ?_))⟩
  by_cases k1:ak=1
  ·subst k1
   (repeat (first|refine Spl.t rfl ?_|refine Spl.f rfl ?_))
   refine aa (nh hm.ok ai an) (fun _ _=>rfl) rfl rfl rfl ?_
   (repeat (first|refine Spl.t rfl ?_|refine Spl.f rfl ?_))
   have hl:=qc n ai an
   exact⟨(i+1,(ij n ai an).1),⟨by simp only;omega,hm.dlv ai an,by simp only;rw[hl.1];omega,hl.2.trans hln⟩,by simp only;omega,⟨aE (am _ (by omega) (by omega)),trivial⟩,(by repeat' (first|exact trivial|exact rfl|refine And.intro ?_ ?_)),(by repeat' (first|exact trivial|exact rfl|refine And.intro ?_ ?_)),(by repeat' (first|exact trivial|exact rfl|refine And.intro ?_ ?_))⟩
  by_cases k2:ak=2
  ·subst k2
   (repeat (first|refine Spl.t rfl ?_|refine Spl.f rfl ?_))
   refine aa (ie hm.ok (by omega)) (fun _ _=>rfl) rfl rfl rfl ?_
   (repeat (first|refine Spl.t rfl ?_|refine Spl.f rfl ?_))
   have hl:=dc n
   exact⟨(i+1,n.settle),⟨by simp only;omega,hm.settle,by simp only;rw[hl.1];omega,hl.2.trans hln⟩,by simp only;omega,⟨aE (am _ (by omega) (by omega)),trivial⟩,(by repeat' (first|exact trivial|exact rfl|refine And.intro ?_ ?_)),(by repeat' (first|exact trivial|exact rfl|refine And.intro ?_ ?_)),(by repeat' (first|exact trivial|exact rfl|refine And.intro ?_ ?_))⟩
  ·refine Spl.f (decide_eq_false k0) ?_
   (repeat (first|refine Spl.t rfl ?_|refine Spl.f rfl ?_))
   refine Spl.f (decide_eq_false k1) ?_
   (repeat (first|refine Spl.t rfl ?_|refine Spl.f rfl ?_))
   refine Spl.f (decide_eq_false k2) ?_
   (repeat (first|refine Spl.t rfl ?_|refine Spl.f rfl ?_))
   exact⟨(i+1,n),⟨by simp only;omega,hm,by simp only;omega,hln⟩,by simp only;omega,⟨aE (am _ (by omega) (by omega)),trivial⟩,(by repeat' (first|exact trivial|exact rfl|refine And.intro ?_ ?_)),(by repeat' (first|exact trivial|exact rfl|refine And.intro ?_ ?_)),(by repeat' (first|exact trivial|exact rfl|refine And.intro ?_ ?_))⟩
 ·have hs0:n.sent.length≤1000:=by omega
  have hset:=ie hm.ok hs0
  have ht:=fun(i:Nat)(hi:i<K)=>pq hm (i:=i) (by omega)
  have hl2:=dc n
  have hsam:=kC hm
  have hsam2:=kC hm.settle
  have hag:=rS hm (by omega)
  have hm2:=hm.settle
  have hm3:=hm.settle.settle
  have hset:Cv 46 [ntv n] (ntv n.settle):=hset
  have hset2:Cv 46 [ntv n.settle] (ntv n.settle.settle):=ie hm2.ok (by rw[hl2.1];exact hs0)
  have hs1:=o6 hm2.ok
  have hs2:=o6 hm3.ok
  rw[hsam]at hs1
  rw[hsam2]at hs2
  have htx:=fun i=>hZ hm2.ok i
  have hwa:=fun i=>r7 hm2.ok i
  have htx2:=hZ hm3.ok 0
  rw[hag]at htx2
  generalize n.settle.settle=n3 at hset2 hs2 htx2
  generalize n.settle=n2 at hset hset2 hs1 htx hwa ht htx2
  (repeat (first|refine Spl.t rfl ?_|refine Spl.f rfl ?_))
  refine aa hset (fun _ _=>rfl) rfl rfl rfl ?_
  (repeat (first|refine Spl.t rfl ?_|refine Spl.f rfl ?_))
  refine Req.of (by decide) ?_
  (repeat (first|refine Spl.t rfl ?_|refine Spl.f rfl ?_))
  refine ba (V:=Nat) (fun i=>[(66,iv i)]) (fun _=>[]) [] (fun i=>K-i) (fun i=>i≤K) 0 (Nat.zero_le _) (by repeat' (first|exact trivial|exact rfl|refine And.intro ?_ ?_)) (by repeat' (first|exact trivial|exact rfl|refine And.intro ?_ ?_)) ?_
  intro j hj
  refine Spl.of (fun h3=>?_) (fun h3=>?_)
  ·have hlt:j<K:=by have:=of_decide_eq_true h3;rw[hraw]at this;omega
   obtain⟨t1,t2⟩:=ht j hlt
   have hw:=hwa j
   rw[t2]at hw
   have hx:=htx j
   rw[t1]at hx
   have hx0:=htx 0
   (repeat (first|refine Spl.t rfl ?_|refine Spl.f rfl ?_))
   refine RegP.of rfl (by decide+kernel) ?_
   refine QuietP.of (QJ.call hw (fun _ _=>rfl) rfl rfl) ?_
   (repeat (first|refine Spl.t rfl ?_|refine Spl.f rfl ?_))
   refine QuietP.of (QJ.call hx (fun _ _=>rfl) rfl rfl) ?_
   (repeat (first|refine Spl.t rfl ?_|refine Spl.f rfl ?_))
   refine QuietP.of (QJ.call hx0 (fun _ _=>rfl) rfl rfl) ?_
   (repeat (first|refine Spl.t rfl ?_|refine Spl.f rfl ?_))
   refine Spl.f (by simp) ?_
   (repeat (first|refine Spl.t rfl ?_|refine Spl.f rfl ?_))
   exact⟨j+1,by omega,by omega,⟨aE (am _ (by omega) (by omega)),trivial⟩,(by repeat' (first|exact trivial|exact rfl|refine And.intro ?_ ?_)),(by repeat' (first|exact trivial|exact rfl|refine And.intro ?_ ?_)),(by repeat' (first|exact trivial|exact rfl|refine And.intro ?_ ?_))⟩
  ·have hx0:=htx 0
   (repeat (first|refine Spl.t rfl ?_|refine Spl.f rfl ?_))
   refine aa hset2 (fun _ _=>rfl) rfl rfl rfl ?_
   (repeat (first|refine Spl.t rfl ?_|refine Spl.f rfl ?_))
   refine RegP.of rfl (by decide+kernel) ?_
   refine QuietP.of (QJ.call oo (fun _ _=>rfl) rfl rfl) ?_
   (repeat (first|refine Spl.t rfl ?_|refine Spl.f rfl ?_))
   refine QuietP.of (QJ.call hs1 (fun _ _=>rfl) rfl rfl) ?_
   (repeat (first|refine Spl.t rfl ?_|refine Spl.f rfl ?_))
   refine QuietP.of (QJ.call hs2 (fun _ _=>rfl) rfl rfl) ?_
   (repeat (first|refine Spl.t rfl ?_|refine Spl.f rfl ?_))
   refine QuietP.of (QJ.call htx2 (fun _ _=>rfl) rfl rfl) ?_
   (repeat (first|refine Spl.t rfl ?_|refine Spl.f rfl ?_))
   refine QuietP.of (QJ.call hx0 (fun _ _=>rfl) rfl rfl) ?_
   (repeat (first|refine Spl.t rfl ?_|refine Spl.f rfl ?_))
   exact FinP.open rfl (congrArg bv (by simp))
end Go.Proofs.E
end
section
open Go Go.Gv
attribute [local irreducible] Go.Gv.WJ Go.Gv.OpJ Go.Gv.QJ Go.Gv.Spl Go.Gv.Req Go.Gv.IdxP Go.Gv.RegP Go.Gv.FinP Go.Gv.CellP Go.Gv.CellsP Go.Gv.ArrP Go.Gv.ArrsP Go.Gv.DropP Go.Gv.ByteP Go.Gv.StoreP
namespace Go.Proofs.E
theorem A1 (cs:List D)(h:(Ty.st [.int .u8,.int .i64,.int .i64,.st [.int .i64,.int .i64,.int .i32,.st [.int .i64,.st [.int .i64,.int .i64],.st [.int .i64,.int .i64],.int .i32],.st [.int .i64,.int .i64]]]).ok cs):∃x:PA,cs=paD x∧(0≤x.k∧vJ x.c):=by
 obtain⟨_,_,rfl,⟨k,rfl,wk⟩,⟨_,_,rfl,⟨t,rfl,_⟩,⟨_,_,rfl,⟨s,rfl,_⟩,⟨_,_,rfl,⟨_,_,rfl,⟨c0,rfl,_⟩,⟨_,_,rfl,⟨c1,rfl,w⟩,⟨_,_,rfl,⟨c2,rfl,_⟩,⟨_,_,rfl,⟨_,_,rfl,⟨c3,rfl,_⟩,⟨_,_,rfl,⟨_,_,rfl,⟨c4,rfl,_⟩,⟨_,_,rfl,⟨c5,rfl,_⟩,rfl⟩⟩,⟨_,_,rfl,⟨_,_,rfl,⟨c6,rfl,_⟩,⟨_,_,rfl,⟨c7,rfl,_⟩,rfl⟩⟩,⟨_,_,rfl,⟨c8,rfl,_⟩,rfl⟩⟩⟩⟩,⟨_,_,rfl,⟨_,_,rfl,⟨c9,rfl,_⟩,⟨_,_,rfl,⟨c10,rfl,_⟩,rfl⟩⟩,rfl⟩⟩⟩⟩⟩,rfl⟩⟩⟩⟩:=h
 exact⟨⟨k,t,s,⟨c0,c1,c2,⟨c3,⟨c4,c5⟩,⟨c6,c7⟩,c8⟩,⟨c9,c10⟩⟩⟩,rfl,(uO wk).1,yi w⟩
theorem oZ (n:Int)(h:0≤n∧n≤255)(acts:List PA)(ha:∀a,a∈acts→0≤a.k∧vJ a.c):Cv 7 [u8v n,.d (.sl 14 (acts.map paD))] (bv true):=by
 obtain⟨m,rfl⟩:∃m:Nat,n=(m:Int):=⟨n.toNat,by omega⟩
 exact qz m (by omega) acts fun a h=>(ha a h).1
end Go.Proofs.E
end
