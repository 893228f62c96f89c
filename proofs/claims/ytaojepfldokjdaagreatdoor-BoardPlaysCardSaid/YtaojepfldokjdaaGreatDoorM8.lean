/- Laws that the claim's text stands on: part M8 of them. -/
import Derived.Test.YtaojepfldokjdaaGreatDoorM1
import Derived.Test.YtaojepfldokjdaaGreatDoorM2
import Derived.Test.YtaojepfldokjdaaGreatDoorM3
import Derived.Test.YtaojepfldokjdaaGreatDoorM4
import Derived.Test.YtaojepfldokjdaaGreatDoorDShelf
import Derived.Test.YtaojepfldokjdaaGreatDoorM5
import Derived.Test.YtaojepfldokjdaaGreatDoorM6
import Derived.Test.YtaojepfldokjdaaGreatDoorM7
import Derived.Laws.MakeOwn
set_option linter.unusedVariables false
set_option linter.unusedSimpArgs false
section
open Go Go.Gv
attribute [local irreducible] Go.Gv.WJ Go.Gv.OpJ Go.Gv.QJ Go.Gv.Spl Go.Gv.Req Go.Gv.IdxP Go.Gv.RegP Go.Gv.FinP Go.Gv.CellP Go.Gv.CellsP Go.Gv.ArrP Go.Gv.ArrsP Go.Gv.DropP Go.Gv.ByteP Go.Gv.StoreP
set_option maxRecDepth 100000
namespace Go.Proofs.E
attribute [local irreducible] elems
structure okV (v:VS):Prop where
 is:isS v.s v.l
 ck:∀o,o∈v.R→aL o=0
 len:v.R.length≤16
theorem okV.same {v:VS}(h:okV v):okV v.same:=⟨h.is,h.ck,h.len⟩
theorem okV.take {v:VS}(h:okV v)(o:OP):okV (v.take o):=⟨fa h.is o,h.ck,h.len⟩
theorem y4 {l R:List OP}:∀x,x∈eU l R→x∈R:=fun x hx=>by
 unfold eU at hx
 split at hx
 ·exact hx
 ·rcases List.mem_append.1 hx with h|h
  ·exact List.mem_of_mem_take h
  ·exact List.mem_of_mem_drop h
theorem y5 (l R:List OP):(eU l R).length≤R.length:=by
 unfold eU;split
 ·exact Nat.le_refl _
 ·simp;omega
theorem okV.next {v:VS}(h:okV v):okV v.next:=okV.take (v:=⟨v.s,v.l,eU v.l v.R,v.out⟩) ⟨h.is,fun o ho=>h.ck o (y4 o ho),Nat.le_trans (y5 _ _) h.len⟩ _
theorem okV.drn:∀(n:Nat){v:VS},okV v→okV (drn n v)
 |0,_,h=>h
 |n+1,v,h=>by
  rw[E.drn]
  split
  ·exact h
  ·exact okV.drn n h.next
theorem vS:∀(n:Nat)(v:VS),(drn n v).out.length≤v.out.length+n
 |0,_=>Nat.le_refl _
 |n+1,v=>by
  rw[drn]
  split
  ·omega
  ·have h1:=vS n v.next
   have h2:=kG v.out v.l (gJ v.l v.R)
   have h3:v.next.out=lG v.out v.l (gJ v.l v.R):=rfl
   rw[h3]at h1;omega
theorem z7 {R:List OP}{o:OP}(h:fQ R o=0):aL o=0∧R.length<16:=by
 unfold fQ at h
 split at h
 ·next h1=>exact absurd h h1
 ·next h1=>
  split at h
  ·cases h
  ·split at h
   ·cases h
   ·split at h
    ·cases h
    ·exact⟨by simpa using h1,by omega⟩
theorem okV.rem {v:VS}(h:okV v)(o:OP):okV (cG v o):=by
 unfold cG
 split
 ·exact okV.drn _ (okV.take h.same o)
 ·split
  ·refine⟨h.is,fun x hx=>?_,?_⟩
   ·simp only at hx
    unfold gx at hx
    split at hx
    ·next h0=>
     rcases List.mem_append.1 hx with hx|hx
     ·exact h.ck x hx
     ·rw[List.mem_singleton.1 hx];exact(z7 h0).1
    ·exact h.ck x hx
   ·simp only
    unfold gx
    split
    ·next h0=>have:=(z7 h0).2;simp;omega
    ·exact h.len
  ·exact h.same
theorem vd {v:VS}(h:okV v)(o:OP):(cG v o).out.length≤17:=by
 have hl:=h.len
 unfold cG
 split
 ·have h1:=vS v.R.length (VS.take ⟨v.s,v.l,v.R,[]⟩ o)
  have h2:=kG [] v.l o
  have h3:(VS.take ⟨v.s,v.l,v.R,[]⟩ o).out=lG [] v.l o:=rfl
  rw[h3]at h1
  simp at h2;omega
 ·split<;>simp
theorem okV.doT {v:VS}(h:okV v)(o:OP):okV (doT v o).1∧(doT v o).1.out.length≤17:=by
 unfold E.doT
 split
 ·exact⟨h.same,by simp[VS.same]⟩
 ·exact⟨h.rem o,vd h o⟩
theorem okV.ins {v:VS}(h:okV v)(site at_ ch:Int):okV (ca v site at_ ch).1∧(ca v site at_ ch).1.out.length≤17:=by
 have h0:okV v.same∧v.same.out.length≤17:=⟨h.same,by simp[VS.same]⟩
 unfold ca
 split
 ·exact h0
 ·split
  ·exact h0
  ·split
   ·exact h0
   ·exact h.doT _
theorem okV.del {v:VS}(h:okV v)(at_:Int):okV (dE v at_).1∧(dE v at_).1.out.length≤17:=by
 unfold dE
 split
 ·exact h.doT _
 ·exact⟨h.same,by simp[VS.same]⟩
structure ACT where
 k:Int
 o:OP
 site:Int
 at_:Int
 ch:Int
def doV (v:VS)(x:ACT):VS:=if x.k=0 then cG v x.o else if x.k=1 then(ca v x.site x.at_ x.ch).1 else if x.k=2 then(dE v x.at_).1 else v
theorem okV.act {v:VS}(h:okV v)(x:ACT):okV (doV v x):=by
 unfold doV
 split
 ·exact h.rem _
 ·split
  ·exact(h.ins _ _ _).1
  ·split
   ·exact(h.del _).1
   ·exact h
end Go.Proofs.E
namespace Go.Proofs.E
attribute [local irreducible] elems
theorem BJ {γ:Ids}{H:HF}{u:Value}(r:Rep γ H (.agg [.d (.v (.slice none 0 0))]) u):Rep γ H (rmv []) u:=iM (j:=0) r rfl fun _ h=>ar 6 h
theorem Fz (o:OP):Cv 243 [.agg [.d (.v (.slice none 0 0))],opv o] (.tup [rmv (gx [] o),iv (fQ [] o)]):=by
 refine Ct.view (DE [] o (by decide)) rfl fun j a b ha hb γ H u r=>?_
 match j,ha,hb with
 |0,ha,hb=>cases ha;cases hb;exact BJ r
 |1,ha,hb=>cases ha;cases hb;exact r
def aw7:OP:=⟨0,⟨2,1⟩,⟨1,1⟩,98⟩
theorem A8:Cv 205 [] (bv true):=by
 have hadd:=Fz aw7
 rw[show gx [] aw7=[aw7]by decide+kernel,show fQ [] aw7=0 by decide+kernel]at hadd
 have hnx:=AQ mT [aw7] (by decide)
 rw[show eU [] [aw7]=[aw7]by decide+kernel,show gJ [] [aw7]=OP0 by decide+kernel,show decide (0≤bA [] [aw7])=false by decide+kernel]at hnx
 have hln:=Fb [aw7]
 have htp:=Dw [aw7] (by decide)
 rw[show ei [aw7]=2 by decide+kernel]at htp
 refine aD Tryz.f205 Tryz.func205 rfl rfl fun w H B g0=>?_
 (try refine WJ.cut ?_)
 (first|refine Sq.go ?_|refine af (Sq.go ?_)|skip)
 (try refine WJ.cut ?_)
 refine aa hadd (fun _ _=>rfl) rfl rfl rfl ?_
 (first|refine Sq.go ?_|refine af (Sq.go ?_)|skip)
 (try refine WJ.cut ?_)
 refine aa hnx (fun _ _=>rfl) rfl rfl rfl ?_
 (first|refine Sq.go ?_|refine af (Sq.go ?_)|skip)
 (try refine WJ.cut ?_)
 refine aa A9 (fun _ _=>rfl) rfl rfl rfl ?_
 (repeat (first|refine Spl.t rfl ?_|refine Spl.f rfl ?_))
 refine aa hln (fun _ _=>rfl) rfl rfl rfl ?_
 (repeat (first|refine Spl.t rfl ?_|refine Spl.f rfl ?_))
 refine aa htp (fun _ _=>rfl) rfl rfl rfl ?_
 (repeat (first|refine Spl.t rfl ?_|refine Spl.f rfl ?_))
 (first|refine Sq.go ?_|refine af (Sq.go ?_)|skip)
 (try refine aq _ _ _ _ ?_)
 exact FinP.open rfl rfl
end Go.Proofs.E
namespace Go.Proofs.E
attribute [local irreducible] elems
theorem Gy {γ:Ids}{H:HF}{u:Value}{t p:D}{n m k:Int}{z1 z2:AV}(r:Rep γ H (.agg [.d t,.d p,iv n,.d (.v (.slice none 0 0)),iv m,iv k,z1,z2]) u):Rep γ H (.agg [.d t,.d p,iv n,.d (.sl 6 []),iv m,iv k,z1,z2]) u:=iM (j:=3) r rfl fun _ h=>ar 6 h
abbrev vvN:AV:=.agg [.d TR.nil.d,.d PT.nil.d,iv 0,.d (.v (.slice none 0 0)),iv 0,iv 0,cx 0 0,cx 0 0]
def vA0:VS:=⟨⟨.nil,.nil,0⟩,[],[],[]⟩
theorem wZ:okV vA0:=⟨mT,fun _ h=>by simp[vA0]at h,by simp[vA0]⟩
def pA1:VS×OP×Int:=ca vA0 1 0 97
def vA1:VS:=⟨pA1.1.s,pA1.1.l,pA1.1.R,[]⟩
def pA2:VS×OP×Int:=ca vA1 1 1 98
def vA2:VS:=⟨pA2.1.s,pA2.1.l,pA2.1.R,[]⟩
def pA3:VS×OP×Int:=dE vA2 0
theorem okV.out {v:VS}(h:okV v):okV ⟨v.s,v.l,v.R,[]⟩:=⟨h.is,h.ck,h.len⟩
theorem sc:okV vA1:=(wZ.ins 1 0 97).1.out
theorem yY:okV vA2:=(sc.ins 1 1 98).1.out
theorem FS:okV pA3.1:=(yY.del 0).1
theorem AX (site at_ ch:Int):Cv 159 [vvN,iv site,iv at_,cv' ch] (tV (ca vA0 site at_ ch)):=by
 refine Ct.view (jJ (s:=vA0.s) (l:=vA0.l) wZ.is vA0.R (by decide) wZ.ck site at_ ch) rfl fun j a b ha hb γ H u r=>?_
 match j,ha,hb with
 |0,ha,hb=>cases ha;cases hb;exact Gy r
 |1,ha,hb=>cases ha;cases hb;exact r
 |2,ha,hb=>cases ha;cases hb;exact r
 |3,ha,hb=>cases ha;cases hb;exact r
theorem GE:byt (cO (aj pA3.1.l))=[98]:=by decide+kernel
theorem GD:pA3.1.l.length=3:=by decide+kernel
theorem GF:pA3.2.2=0:=by decide+kernel
theorem EE:pA3.1.out=[⟨3,0,⟨1,1⟩,97,true⟩]:=by decide+kernel
theorem A7:Cv 163 [] (bv true):=by
 have h1:=AX 1 0 97
 have h2:=jJ sc.is vA1.R (by have:=sc.len;omega) sc.ck 1 1 98
 have h3:=lZ yY.is vA2.R (by have:=yY.len;omega) 0
 have tx:=v7 FS.is pA3.1.R
 have sq:=q9 pA3.1.s pA3.1.l pA3.1.R
 rw[GE]at tx
 rw[GD]at sq
 have e1:ca vA0 1 0 97=pA1:=rfl
 have e2:ca ⟨vA1.s,vA1.l,vA1.R,[]⟩ 1 1 98=pA2:=rfl
 have e3:dE ⟨vA2.s,vA2.l,vA2.R,[]⟩ 0=pA3:=rfl
 rw[e1]at h1
 rw[e2]at h2
 rw[e3]at h3
 have d1:vA1=⟨pA1.1.s,pA1.1.l,pA1.1.R,[]⟩:=rfl
 have d2:vA2=⟨pA2.1.s,pA2.1.l,pA2.1.R,[]⟩:=rfl
 rw[d1]at h2
 rw[d2]at h3
 have ho:=EE
 have he:=GF
 generalize pA3=p3 at h3 tx sq ho he
 generalize pA2=p2 at h2 h3
 generalize pA1=p1 at h1 h2
 obtain⟨v3,o3,e3'⟩:=p3
 obtain⟨v2,o2,e2'⟩:=p2
 obtain⟨v1,o1,e1'⟩:=p1
 unfold tV at h1 h2 h3
 simp only at h1 h2 h3 tx sq ho he
 rw[ho,he]at h3
 refine aD Tryz.f163 Tryz.func163 rfl rfl fun w H B g0=>?_
 (try refine WJ.cut ?_)
 (first|refine Sq.go ?_|refine af (Sq.go ?_)|skip)
 (try refine WJ.cut ?_)
 refine aa h1 (fun _ _=>rfl) rfl rfl rfl ?_
 (repeat (first|refine Spl.t rfl ?_|refine Spl.f rfl ?_))
 (first|refine Sq.go ?_|refine af (Sq.go ?_)|skip)
 (try refine WJ.cut ?_)
 refine aa h2 (fun _ _=>rfl) rfl rfl rfl ?_
 (repeat (first|refine Spl.t rfl ?_|refine Spl.f rfl ?_))
 (first|refine Sq.go ?_|refine af (Sq.go ?_)|skip)
 (try refine WJ.cut ?_)
 refine aa h3 (fun _ _=>rfl) rfl rfl rfl ?_
 (repeat (first|refine Spl.t rfl ?_|refine Spl.f rfl ?_))
 (first|refine Sq.go ?_|refine af (Sq.go ?_)|skip)
 (try refine aq _ _ _ _ ?_)
 refine aa Bd (fun _ _=>rfl) rfl rfl rfl ?_
 (repeat (first|refine Spl.t rfl ?_|refine Spl.f rfl ?_))
 refine aa A8 (fun _ _=>rfl) rfl rfl rfl ?_
 (repeat (first|refine Spl.t rfl ?_|refine Spl.f rfl ?_))
 refine aa tx (fun _ _=>rfl) rfl rfl rfl ?_
 (repeat (first|refine Spl.t rfl ?_|refine Spl.f rfl ?_))
 (try refine Spl.t (by decide) ?_)
 (repeat (first|refine Spl.t rfl ?_|refine Spl.f rfl ?_))
 refine aa sq (fun _ _=>rfl) rfl rfl rfl ?_
 (repeat (first|refine Spl.t rfl ?_|refine Spl.f rfl ?_))
 (try refine Spl.t (by decide) ?_)
 (repeat (first|refine Spl.t rfl ?_|refine Spl.f rfl ?_))
 refine IdxP.of (chD ⟨3,0,⟨1,1⟩,97,true⟩) (by decide) rfl ?_
 (repeat (first|refine Spl.t rfl ?_|refine Spl.f rfl ?_))
 refine IdxP.of (chD ⟨3,0,⟨1,1⟩,97,true⟩) (by decide) rfl ?_
 (repeat (first|refine Spl.t rfl ?_|refine Spl.f rfl ?_))
 exact FinP.open rfl rfl
end Go.Proofs.E
namespace Go.Proofs.E
attribute [local irreducible] elems
end Go.Proofs.E
namespace Go.Proofs.E
attribute [local irreducible] elems
def bZ (L:List EL)(k:Int):ID×Int:=if k=aW L then(⟨0,0⟩,0)else if 0≤k∧k<aW L then(cH L k,0)else(⟨0,0⟩,2)
def gm (L:List EL)(a:ID):Int×Int:=if bO a=true then(aW L,0)else if 0≤ay a L then(bx L (ay a L),0)else(0,6)
theorem DD {s:SS}{l:List OP}(h:isS s l)(R:List OP)(k:Int):Cv 160 [vv s l R,iv k] (.tup [idv (bZ (aj l) k).1,iv (bZ (aj l) k).2]):=by
 have hlen:=rb h R
 have hn:=oX h R k
 refine ab Tryz.f160 Tryz.func160 rfl rfl fun w H B g0=>?_
 refine aa hlen (fun _ _=>rfl) rfl rfl rfl ?_
 refine Spl.of (fun h1=>?_) (fun h1=>?_)
 ·have h1:=of_decide_eq_true h1
  have e:bZ (aj l) k=(⟨0,0⟩,0):=if_pos h1
  rw[e]
  (repeat (first|refine Spl.t rfl ?_|refine Spl.f rfl ?_))
  exact FinP.open rfl rfl
 ·have h1:=of_decide_eq_false h1
  by_cases h2:0≤k∧k<aW (aj l)
  ·have e:bZ (aj l) k=(cH (aj l) k,0):=(if_neg h1).trans (if_pos h2)
   rw[decide_eq_true h2]at hn
   rw[e]
   (repeat (first|refine Spl.t rfl ?_|refine Spl.f rfl ?_))
   refine aa hn (fun _ _=>rfl) rfl rfl rfl ?_
   (repeat (first|refine Spl.t rfl ?_|refine Spl.f rfl ?_))
   exact FinP.open rfl rfl
  ·have e:bZ (aj l) k=(⟨0,0⟩,2):=(if_neg h1).trans (if_neg h2)
   rw[decide_eq_false h2]at hn
   rw[e]
   (repeat (first|refine Spl.t rfl ?_|refine Spl.f rfl ?_))
   refine aa hn (fun _ _=>rfl) rfl rfl rfl ?_
   (repeat (first|refine Spl.t rfl ?_|refine Spl.f rfl ?_))
   exact FinP.open rfl rfl
theorem pf {s:SS}{l:List OP}(h:isS s l)(R:List OP)(a:ID):Cv 162 [idv a,vv s l R] (.tup [iv (gm (aj l) a).1,iv (gm (aj l) a).2]):=by
 have hlen:=rb h R
 have hb:=xM h R a
 refine ab Tryz.f162 Tryz.func162 rfl rfl fun w H B g0=>?_
 refine aa (pb a) (fun _ _=>rfl) rfl rfl rfl ?_
 refine Spl.of (fun h1=>?_) (fun h1=>?_)
 ·have e:gm (aj l) a=(((aW (aj l):Nat):Int),0):=if_pos h1
  rw[e]
  (repeat (first|refine Spl.t rfl ?_|refine Spl.f rfl ?_))
  refine aa hlen (fun _ _=>rfl) rfl rfl rfl ?_
  exact FinP.open rfl rfl
 ·by_cases h2:0≤ay a (aj l)
  ·have e:gm (aj l) a=(((bx (aj l) (ay a (aj l)):Nat):Int),0):=(if_neg (by rw[h1];exact Bool.false_ne_true)).trans (if_pos h2)
   rw[decide_eq_true h2,show jE (aj l) a=bx (aj l) (ay a (aj l))from if_pos h2]at hb
   rw[e]
   (repeat (first|refine Spl.t rfl ?_|refine Spl.f rfl ?_))
   refine aa hb (fun _ _=>rfl) rfl rfl rfl ?_
   (repeat (first|refine Spl.t rfl ?_|refine Spl.f rfl ?_))
   exact FinP.open rfl rfl
  ·have e:gm (aj l) a=(0,6):=(if_neg (by rw[h1];exact Bool.false_ne_true)).trans (if_neg h2)
   rw[decide_eq_false h2]at hb
   rw[e]
   (repeat (first|refine Spl.t rfl ?_|refine Spl.f rfl ?_))
   refine aa hb (fun _ _=>rfl) rfl rfl rfl ?_
   (repeat (first|refine Spl.t rfl ?_|refine Spl.f rfl ?_))
   exact FinP.open rfl rfl
end Go.Proofs.E
namespace Go.Proofs.E
attribute [local irreducible] elems
theorem sd (a:ID):decide (a=⟨0,0⟩)=bO a:=by
 cases h:bO a with
 |true=>rw[vm h];rfl
 |false=>
  refine decide_eq_false fun e=>?_
  rw[e]at h;exact absurd h (by decide)
theorem s9 (L:List EL):bx L (((L.map elD).length:Nat):Int)=aW L:=by rw[List.length_map];exact ny _
theorem Fc {l:List OP}(h:Dn l)(R:List OP)(k:Int)(hk:k≤9223372036854775807):Cv 140 [rvv l R,iv k] (.tup [idv (bZ (aj l) k).1,iv (bZ (aj l) k).2]):=by
 have hli:=dO h R
 have hlr:=hU h
 have hrk:=jK (aj l) ((aj l).map elD).length (by omega)
 have hsl:=qj (aj l) k (by omega)
 rw[s9]at hrk
 refine ab Tryz.f140 Tryz.func140 rfl rfl fun w H B g0=>?_
 refine aa hli (fun _ _=>rfl) rfl rfl rfl ?_
 refine aa hrk (fun _ _=>rfl) rfl rfl rfl ?_
 (repeat (first|refine Spl.t rfl ?_|refine Spl.f rfl ?_))
 by_cases h1:k<0
 ·have e:bZ (aj l) k=(⟨0,0⟩,2):=(if_neg (by omega)).trans (if_neg (by omega))
  rw[e]
  refine Spl.t (decide_eq_true h1) ?_
  (repeat (first|refine Spl.t rfl ?_|refine Spl.f rfl ?_))
  exact FinP.open rfl rfl
 ·refine Spl.f (decide_eq_false h1) ?_
  (repeat (first|refine Spl.t rfl ?_|refine Spl.f rfl ?_))
  by_cases h2:k>aW (aj l)
  ·have e:bZ (aj l) k=(⟨0,0⟩,2):=(if_neg (by omega)).trans (if_neg (by omega))
   rw[e]
   refine Spl.t (decide_eq_true h2) ?_
   (repeat (first|refine Spl.t rfl ?_|refine Spl.f rfl ?_))
   exact FinP.open rfl rfl
  ·refine Spl.f (decide_eq_false h2) ?_
   (repeat (first|refine Spl.t rfl ?_|refine Spl.f rfl ?_))
   by_cases h3:k=aW (aj l)
   ·have e:bZ (aj l) k=(⟨0,0⟩,0):=if_pos h3
    rw[e]
    refine Spl.t (decide_eq_true h3) ?_
    (repeat (first|refine Spl.t rfl ?_|refine Spl.f rfl ?_))
    exact FinP.open rfl rfl
   ·have hk3:0≤k∧k<aW (aj l):=by omega
    have e:bZ (aj l) k=(cH (aj l) k,0):=(if_neg h3).trans (if_pos hk3)
    have e2:=mM (aj l) k.toNat (by omega)
    rw[Int.toNat_of_nonneg hk3.1,if_pos (by omega)]at e2
    have hlt:=ly (aj l) k.toNat (by omega)
    have hx:(aj l)[cw k.toNat (aj l)]?=some (aj l)[cw k.toNat (aj l)]:=by simp
    have e3:cH (aj l) k=(aj l)[cw k.toNat (aj l)].id:=by unfold cH;rw[if_pos hk3,hx];rfl
    rw[e2]at hsl
    rw[e,e3]
    generalize(aj l)[cw k.toNat (aj l)]=x at hx ⊢
    generalize cw k.toNat (aj l)=n at hx hlt hsl
    refine Spl.f (decide_eq_false h3) ?_
    (repeat (first|refine Spl.t rfl ?_|refine Spl.f rfl ?_))
    refine aa hsl (fun _ _=>rfl) rfl rfl rfl ?_
    refine IdxP.of (elD x) (by omega) (by simp[hx]) ?_
    (repeat (first|refine Spl.t rfl ?_|refine Spl.f rfl ?_))
    exact FinP.open rfl rfl
theorem tu {l:List OP}(h:Dn l)(R:List OP)(a:ID):Cv 142 [rvv l R,idv a] (.tup [iv (gm (aj l) a).1,iv (gm (aj l) a).2]):=by
 have hli:=dO h R
 have hlr:=hU h
 have hrk:=jK (aj l) ((aj l).map elD).length (by omega)
 have hpl:=tq (aj l) a (by omega)
 have hrp:=jK (aj l) (ay a (aj l)) (by omega)
 rw[s9]at hrk
 refine ab Tryz.f142 Tryz.func142 rfl rfl fun w H B g0=>?_
 refine aa hli (fun _ _=>rfl) rfl rfl rfl ?_
 (repeat (first|refine Spl.t rfl ?_|refine Spl.f rfl ?_))
 refine aR (O.eqT 3 rfl rfl rfl rfl rfl jb mv (eqR a ⟨0,0⟩)) rfl ?_
 cases h1:bO a with
 |true=>
  have e:gm (aj l) a=(((aW (aj l):Nat):Int),0):=if_pos h1
  rw[e]
  refine Spl.t ((sd a).trans h1) ?_
  (repeat (first|refine Spl.t rfl ?_|refine Spl.f rfl ?_))
  refine aa hrk (fun _ _=>rfl) rfl rfl rfl ?_
  exact FinP.open rfl rfl
 |false=>
  refine Spl.f ((sd a).trans h1) ?_
  (repeat (first|refine Spl.t rfl ?_|refine Spl.f rfl ?_))
  refine aa hpl (fun _ _=>rfl) rfl rfl rfl ?_
  (repeat (first|refine Spl.t rfl ?_|refine Spl.f rfl ?_))
  by_cases h2:0≤ay a (aj l)
  ·have e:gm (aj l) a=(((bx (aj l) (ay a (aj l)):Nat):Int),0):=(if_neg (by rw[h1];exact Bool.false_ne_true)).trans (if_pos h2)
   rw[e]
   refine Spl.f (decide_eq_false (by omega)) ?_
   (repeat (first|refine Spl.t rfl ?_|refine Spl.f rfl ?_))
   refine aa hrp (fun _ _=>rfl) rfl rfl rfl ?_
   exact FinP.open rfl rfl
  ·have e:gm (aj l) a=(0,6):=(if_neg (by rw[h1];exact Bool.false_ne_true)).trans (if_neg h2)
   rw[e]
   refine Spl.t (decide_eq_true (by omega)) ?_
   (repeat (first|refine Spl.t rfl ?_|refine Spl.f rfl ?_))
   exact FinP.open rfl rfl
end Go.Proofs.E
namespace Go.Proofs.E
attribute [local irreducible] elems
theorem EO:bZ (aj pA2.1.l) 1=(⟨2,1⟩,0):=by decide+kernel
theorem EM:pA2.2.1.i=⟨2,1⟩:=by decide+kernel
theorem EK:gm (aj pA3.1.l) ⟨2,1⟩=(0,0):=by decide+kernel
theorem Gx:okV pA2.1:=(sc.ins 1 1 98).1
theorem ye:Cv 124 [] (bv true):=by
 have h1:=AX 1 0 97
 have h2:=jJ sc.is vA1.R (by have:=sc.len;omega) sc.ck 1 1 98
 have h3:=lZ yY.is vA2.R (by have:=yY.len;omega) 0
 have ha:=DD Gx.is pA2.1.R 1
 have hr:=pf FS.is pA3.1.R ⟨2,1⟩
 rw[EO]at ha
 rw[EK]at hr
 have e1:ca vA0 1 0 97=pA1:=rfl
 have e2:ca ⟨vA1.s,vA1.l,vA1.R,[]⟩ 1 1 98=pA2:=rfl
 have e3:dE ⟨vA2.s,vA2.l,vA2.R,[]⟩ 0=pA3:=rfl
 rw[e1]at h1
 rw[e2]at h2
 rw[e3]at h3
 have d1:vA1=⟨pA1.1.s,pA1.1.l,pA1.1.R,[]⟩:=rfl
 have d2:vA2=⟨pA2.1.s,pA2.1.l,pA2.1.R,[]⟩:=rfl
 rw[d1]at h2
 rw[d2]at h3
 have ho:=EM
 generalize pA3=p3 at h3 hr
 generalize pA2=p2 at h2 h3 ha ho
 generalize pA1=p1 at h1 h2
 obtain⟨v3,o3,e3'⟩:=p3
 obtain⟨v2,⟨ok,oi,oa,och⟩,e2'⟩:=p2
 obtain⟨v1,o1,e1'⟩:=p1
 unfold tV at h1 h2 h3
 simp only at h1 h2 h3 ha hr ho
 subst ho
 refine aD Tryz.f124 Tryz.func124 rfl rfl fun w H B g0=>?_
 (try refine WJ.cut ?_)
 (first|refine Sq.go ?_|refine af (Sq.go ?_)|skip)
 (try refine WJ.cut ?_)
 refine aa h1 (fun _ _=>rfl) rfl rfl rfl ?_
 (repeat (first|refine Spl.t rfl ?_|refine Spl.f rfl ?_))
 (first|refine Sq.go ?_|refine af (Sq.go ?_)|skip)
 (try refine WJ.cut ?_)
 refine aa h2 (fun _ _=>rfl) rfl rfl rfl ?_
 (repeat (first|refine Spl.t rfl ?_|refine Spl.f rfl ?_))
 (first|refine Sq.go ?_|refine af (Sq.go ?_)|skip)
 (try refine WJ.cut ?_)
 refine aa ha (fun _ _=>rfl) rfl rfl rfl ?_
 (repeat (first|refine Spl.t rfl ?_|refine Spl.f rfl ?_))
 (first|refine Sq.go ?_|refine af (Sq.go ?_)|skip)
 (try refine WJ.cut ?_)
 refine aa h3 (fun _ _=>rfl) rfl rfl rfl ?_
 (repeat (first|refine Spl.t rfl ?_|refine Spl.f rfl ?_))
 (first|refine Sq.go ?_|refine af (Sq.go ?_)|skip)
 (try refine WJ.cut ?_)
 refine aa hr (fun _ _=>rfl) rfl rfl rfl ?_
 (repeat (first|refine Spl.t rfl ?_|refine Spl.f rfl ?_))
 (first|refine Sq.go ?_|refine af (Sq.go ?_)|skip)
 (try refine aq _ _ _ _ ?_)
 refine aa A7 (fun _ _=>rfl) rfl rfl rfl ?_
 (repeat (first|refine Spl.t rfl ?_|refine Spl.f rfl ?_))
 refine aR (O.eqT 3 rfl rfl rfl rfl rfl oE sK (eqI ⟨2,1⟩ ⟨2,1⟩)) rfl ?_
 exact FinP.open rfl (congrArg bv (by simp))
end Go.Proofs.E
end
section
namespace Go.Gv
open Go.RowKit
end Go.Gv
end
section
namespace Go.Gv
open Go.RowKit
theorem QJ.callT {X:Cx}{d:Option Nat}{ty:TypeId}{pos:String}{aft:Array Edge}{g:Option (Nat×Bool)}{t:T}{σ:Sg}{f:FuncId}{x:Operand}{av:AV}{args:Array Operand}{tys:Array TypeId}{avs caps:List AV}{r:AV}
 (hx:ge t x=some av)(hf:FnIs av f caps)(hc:Ct X.Λ X.P f (avs++caps) [] (fun q _=>q=r))(hok:fI X.P f)
 (ha:iE t args.toList=some avs)(ho:r.open=true):QJ X ⟨d,.call {callee:=.value x,args:=args,argTypes:=tys},ty,pos,aft,g⟩ t σ r:=by
 intro γ H a w hl so sm next Q' hk
 have hso:∀y,y∈args.toList→∀v,ge t y=some v→Rep γ H v (a.eval y):=fun y hy=>so y (by simp[Op.operands,Call.operands]at hy ⊢;exact .inr hy)
 have hsx:Rep γ H av (a.eval x):=so x (by simp[Op.operands,Call.operands]) _ hx
 obtain⟨us,hu,hul,hur⟩:=hf.rep hsx
 rw[aG (by simp),lV hu hok,Oper.uponIn_enter]
 refine⟨fun h=>by simp[Fr]at h,?_⟩
 have he:blks γ []=fun _=>False:=by
  funext b;simp[blks,look]
 have hal:(args.map a.eval).toList.length=avs.length:=by have:=congrArg List.length (bE ha);simpa using this
 have:=hc X.ro γ H w ((args.map a.eval).toList++us) (hl.keep sm.keep (by rw[he];exact fun b h=>h.elim)) (by rw[he];exact sm.refl γ) (by simp only[List.length_append,hal,hul]) (rU hal (by
  have:=ga hso (bE ha)
  simpa using this) hur)
 rw[show((args.map a.eval).toList++us).toArray=args.map a.eval++us.toArray from Array.toList_inj.1 (by simp)]at this
 refine this.mono ?_
 rintro e w' ⟨v,r',σ',γ',H',rfl,rfl,hr,_,_,hm⟩
 rw[he]at hm
 exact hk v γ' σ' H' w' hm (hr.free ho)
end Go.Gv
end
section
open Go Go.Gv
attribute [local irreducible] Go.Gv.WJ Go.Gv.OpJ Go.Gv.QJ Go.Gv.Spl Go.Gv.Req Go.Gv.IdxP Go.Gv.RegP Go.Gv.FinP Go.Gv.CellP Go.Gv.CellsP Go.Gv.ArrP Go.Gv.ArrsP Go.Gv.DropP Go.Gv.ByteP Go.Gv.StoreP
set_option maxRecDepth 100000
namespace Go.Proofs.E
attribute [local irreducible] elems
structure CALL where
 k:Int
 at_:Int
 ch:Int
 o:OP
 a:ID
structure RS where
 e:Int
 n:Int
 t:List UInt8
 deriving DecidableEq
abbrev callD (c:CALL):List D:=[.v (.int .i64 c.k),.v (.int .i64 c.at_),.v (.int .i32 c.ch),.v (.int .i64 c.o.k),.v (.int .i64 c.o.i.c),.v (.int .i64 c.o.i.s),.v (.int .i64 c.o.a.c),.v (.int .i64 c.o.a.s),.v (.int .i32 c.o.ch),.v (.int .i64 c.a.c),.v (.int .i64 c.a.s)]
abbrev iG (c:CALL):AV:=.agg [iv c.k,iv c.at_,cv' c.ch,iv c.o.k,iv c.o.i.c,iv c.o.i.s,iv c.o.a.c,iv c.o.a.s,cv' c.o.ch,iv c.a.c,iv c.a.s]
abbrev rsv (x:RS):AV:=.agg [iv x.e,iv x.n,sv x.t]
abbrev rcs (site:Int)(s:SS)(l R:List OP)(cl:Bool):List AV:=[iv site,.d s.t.d,.d s.p.d,iv s.n,.d (.sl 6 (R.map opD)),iv (l.length:Nat),iv (bh l).n,cx (bh l).a (bh l).b,cx (bh l).c (bh l).d,bv cl]
abbrev rpv (site:Int)(s:SS)(l R:List OP)(cl:Bool):AV:=.agg (rcs site s l R cl)
def cxD (a b:Int):D:=match cx a b with
 |.d x=>x
 |_=>.v undef
abbrev rpD (site:Int)(s:SS)(l R:List OP)(cl:Bool):List D:=[.v (.int .i64 site),s.t.d,s.p.d,.v (.int .i64 s.n),.sl 6 (R.map opD),.v (.int .i64 (l.length:Nat)),.v (.int .i64 (bh l).n),cxD (bh l).a (bh l).b,cxD (bh l).c (bh l).d,.v (.bool cl)]
def ep (l:List OP)(c:CALL):RS:=
 if c.k=3 then⟨0,0,byt (cO (aj l))⟩
 else if c.k=4 then⟨0,aW (aj l),[]⟩
 else if c.k=5 then(if (bZ (aj l) c.at_).2≠0 then⟨(bZ (aj l) c.at_).2,0,[]⟩else⟨0,0,cf (bZ (aj l) c.at_).1⟩)
 else if c.k=6 then⟨(gm (aj l) c.a).2,(gm (aj l) c.a).1,[]⟩
 else⟨0,l.length,jM (bh l)⟩
theorem GP {s:SS}{l:List OP}(h:isS s l)(site:Int)(R:List OP)(cl:Bool):Cv 209 [.d (.ptr (rpD site s l R cl))] (rsv ⟨0,0,byt (cO (aj l))⟩):=by
 have ht:=v7 h R
 refine ab Tryz.f209 Tryz.func209 rfl rfl fun w H B g0=>?_
 refine aa ht (fun _ _=>rfl) rfl rfl rfl ?_
 (repeat (first|refine Spl.t rfl ?_|refine Spl.f rfl ?_))
 exact FinP.open rfl rfl
theorem GO {s:SS}{l:List OP}(h:isS s l)(site:Int)(R:List OP)(cl:Bool):Cv 210 [.d (.ptr (rpD site s l R cl))] (rsv ⟨0,aW (aj l),[]⟩):=by
 have ht:=rb h R
 refine ab Tryz.f210 Tryz.func210 rfl rfl fun w H B g0=>?_
 refine aa ht (fun _ _=>rfl) rfl rfl rfl ?_
 (repeat (first|refine Spl.t rfl ?_|refine Spl.f rfl ?_))
 exact FinP.open rfl rfl
theorem GN {s:SS}{l:List OP}(h:isS s l)(site:Int)(R:List OP)(cl:Bool)(c:CALL):Cv 211 [.d (.ptr (rpD site s l R cl)),.d (.ptr (callD c))] (rsv (if (bZ (aj l) c.at_).2≠0 then⟨(bZ (aj l) c.at_).2,0,[]⟩else⟨0,0,cf (bZ (aj l) c.at_).1⟩)):=by
 have ht:=DD h R c.at_
 generalize bZ (aj l) c.at_=p at ht ⊢
 obtain⟨a,e⟩:=p
 simp only at ht ⊢
 have hs:=gZ a
 refine ab Tryz.f211 Tryz.func211 rfl rfl fun w H B g0=>?_
 refine aa ht (fun _ _=>rfl) rfl rfl rfl ?_
 (repeat (first|refine Spl.t rfl ?_|refine Spl.f rfl ?_))
 refine Spl.of (fun h1=>?_) (fun h1=>?_)
 ·have h1:e≠0:=by simpa using h1
  rw[if_pos h1]
  (repeat (first|refine Spl.t rfl ?_|refine Spl.f rfl ?_))
  exact FinP.open rfl rfl
 ·have h1:¬e≠0:=by simpa using h1
  rw[if_neg h1]
  (repeat (first|refine Spl.t rfl ?_|refine Spl.f rfl ?_))
  refine aa hs (fun _ _=>rfl) rfl rfl rfl ?_
  (repeat (first|refine Spl.t rfl ?_|refine Spl.f rfl ?_))
  exact FinP.open rfl rfl
theorem GM {s:SS}{l:List OP}(h:isS s l)(site:Int)(R:List OP)(cl:Bool)(c:CALL):Cv 213 [.d (.ptr (callD c)),.d (.ptr (rpD site s l R cl))] (rsv ⟨(gm (aj l) c.a).2,(gm (aj l) c.a).1,[]⟩):=by
 have ht:=pf h R c.a
 refine ab Tryz.f213 Tryz.func213 rfl rfl fun w H B g0=>?_
 refine aa ht (fun _ _=>rfl) rfl rfl rfl ?_
 (repeat (first|refine Spl.t rfl ?_|refine Spl.f rfl ?_))
 exact FinP.open rfl rfl
theorem GL {s:SS}{l:List OP}(h:isS s l)(site:Int)(R:List OP)(cl:Bool):Cv 214 [.d (.ptr (rpD site s l R cl))] (rsv ⟨0,l.length,jM (bh l)⟩):=by
 have hq:=q9 s l R
 have ht:=Ae s l R
 have hs:=qf (bh l) (sum_ok h.dn)
 refine ab Tryz.f214 Tryz.func214 rfl rfl fun w H B g0=>?_
 refine RegP.mixE 0 8 [] rfl (by decide+kernel) ?_
 refine QuietP.of (QJ.call hq (fun _ _=>rfl) rfl rfl) ?_
 refine QuietP.of (QJ.call ht (fun _ _=>rfl) rfl rfl) ?_
 refine QuietP.of (QJ.call hs (fun _ _=>rfl) rfl rfl) ?_
 (repeat (first|refine Spl.t rfl ?_|refine Spl.f rfl ?_))
 exact FinP.open rfl rfl
def Ef (r c:List D):D:=.mp false [.int .i64 3,.int .i64 4,.int .i64 5,.int .i64 6,.int .i64 7] [[.fn 209 [.ptr r]],[.fn 210 [.ptr r]],[.fn 211 [.ptr r,.ptr c]],[.fn 213 [.ptr c,.ptr r]],[.fn 214 [.ptr r]]]
theorem keyNo_of {key:Value}{ks:List Value}(h:ks.all (fun x=>match gV key x with|some false=>true|_=>false)=true):lj key ks:=fun i x hx=>by
 have:=List.all_eq_true.1 h x (List.mem_of_getElem? hx)
 split at this
 ·assumption
 ·cases this
theorem PutP.new {key:Value}{ks:List Value}{vs:List (List D)}{ds:List D}{K:List Value→List (List D)→Prop}(h:ks.all (fun x=>match gV key x with|some false=>true|_=>false)=true)(k:K (ks++[key]) (vs++[ds])):PutP key ks vs ds K:=.inr ⟨keyNo_of h,k⟩
attribute [local irreducible] PutP LookP
theorem kJ (site:Int)(s:SS)(l R:List OP)(cl:Bool)(c:CALL):Cv 169 [rpv site s l R cl,iG c] (.d (Ef (rpD site s l R cl) (callD c))):=by
 refine aD Tryz.f169 Tryz.func169 rfl rfl fun w H B g0=>?_
 (try refine WJ.cut ?_)
 (first|refine Sq.go ?_|refine af (Sq.go ?_)|skip)
 refine WJ.shift (SJ.pub 2 rfl rfl) ?_
 refine WJ.shift (SJ.pub 3 rfl rfl) ?_
 (try refine aq _ _ _ _ ?_)
 (repeat (first|refine Spl.t rfl ?_|refine Spl.f rfl ?_))
 refine PutP.new ?_ ?_
 ·rfl
 (repeat (first|refine Spl.t rfl ?_|refine Spl.f rfl ?_))
 refine PutP.new ?_ ?_
 ·rfl
 (repeat (first|refine Spl.t rfl ?_|refine Spl.f rfl ?_))
 refine PutP.new ?_ ?_
 ·rfl
 (repeat (first|refine Spl.t rfl ?_|refine Spl.f rfl ?_))
 refine PutP.new ?_ ?_
 ·rfl
 (repeat (first|refine Spl.t rfl ?_|refine Spl.f rfl ?_))
 refine PutP.new ?_ ?_
 ·rfl
 (repeat (first|refine Spl.t rfl ?_|refine Spl.f rfl ?_))
 exact FinP.pub 5 rfl rfl (FinP.open rfl rfl)
end Go.Proofs.E
namespace Go.Proofs.E
attribute [local irreducible] elems
def wrI (v0:VS)(p:VS×OP×Int):VS×RS:=if p.2.2≠0 then(v0.same,⟨p.2.2,0,[]⟩)else(p.1,⟨0,p.1.l.length,ko p.2.1⟩)
def wrR (site:Int)(v:VS)(c:CALL):VS×RS:=
 if c.k=0 then wrI v (ca v site c.at_ c.ch)
 else if c.k=1 then wrI v (dE v c.at_)
 else if cS v c.o≠0 then(v.same,⟨cS v c.o,0,[]⟩)else(cG v c.o,⟨0,(cG v c.o).out.length,[]⟩)
abbrev F3 (site:Int)(v:VS)(cl:Bool)(x:RS):AV:=.tup [rpv site v.s v.l v.R cl,rsv x,.d (chs v.out)]
theorem Bh {s:SS}{l R:List OP}(h:okV ⟨s,l,R,[]⟩)(site:Int)(cl:Bool)(c:CALL)(hk:0≤c.k∧c.k≤2):
 Cv 168 [rpv site s l R cl,iG c] (F3 site (wrR site ⟨s,l,R,[]⟩ c).1 cl (wrR site ⟨s,l,R,[]⟩ c).2):=by
 have hR:=h.len
 simp only at hR
 have his:=h.is
 simp only at his
 refine aD Tryz.f168 Tryz.func168 rfl rfl fun w H B g0=>?_
 (try refine WJ.cut ?_)
 (first|refine Sq.go ?_|refine af (Sq.go ?_)|skip)
 (try refine WJ.cut ?_)
 (first|refine Sq.go ?_|refine af (Sq.go ?_)|skip)
 (try refine WJ.cut ?_)
 (first|refine Sq.go ?_|refine af (Sq.go ?_)|skip)
 (try refine WJ.cut ?_)
 (first|refine Sq.go ?_|refine af (Sq.go ?_)|skip)
 (try refine WJ.cut ?_)
 (first|refine Sq.go ?_|refine af (Sq.go ?_)|skip)
 (try refine WJ.cut ?_)
 (first|refine Sq.go ?_|refine af (Sq.go ?_)|skip)
 (try refine WJ.cut ?_)
 by_cases c0:c.k=0
 ·have eD:wrR site ⟨s,l,R,[]⟩ c=wrI ⟨s,l,R,[]⟩ (ca ⟨s,l,R,[]⟩ site c.at_ c.ch):=if_pos c0
  have hp:=jJ his R (by omega) h.ck site c.at_ c.ch
  rw[eD]
  generalize ca ⟨s,l,R,[]⟩ site c.at_ c.ch=p at hp ⊢
  obtain⟨v,o,e⟩:=p
  unfold tV at hp
  unfold wrI
  simp only at hp ⊢
  have hq:=q9 v.s v.l v.R
  have hs:=l6 o
  refine Spl.t (decide_eq_true c0) ?_
  (repeat (first|refine Spl.t rfl ?_|refine Spl.f rfl ?_))
  refine aa hp (fun _ _=>rfl) rfl rfl rfl ?_
  (repeat (first|refine Spl.t rfl ?_|refine Spl.f rfl ?_))
  (first|refine Sq.go ?_|refine af (Sq.go ?_)|skip)
  (try refine WJ.cut ?_)
  refine Spl.of (fun h1=>?_) (fun h1=>?_)
  ·have h1:e≠0:=by simpa using h1
   rw[if_pos h1]
   (repeat (first|refine Spl.t rfl ?_|refine Spl.f rfl ?_))
   refine .out (by simp) ?_
   refine ai 2 rfl (fun _ _ _ h=>ar 6 h) ?_
   exact FinP.open rfl rfl
  ·have h1:¬e≠0:=by simpa using h1
   rw[if_neg h1]
   (repeat (first|refine Spl.t rfl ?_|refine Spl.f rfl ?_))
   (first|refine Sq.go ?_|refine af (Sq.go ?_)|skip)
   (try refine WJ.cut ?_)
   (first|refine Sq.go ?_|refine af (Sq.go ?_)|skip)
   (try refine WJ.cut ?_)
   refine Spl.f (decide_eq_false (by omega)) ?_
   (repeat (first|refine Spl.t rfl ?_|refine Spl.f rfl ?_))
   (first|refine Sq.go ?_|refine af (Sq.go ?_)|skip)
   (try refine aq _ _ _ _ ?_)
   refine RegP.mixE 0 10 [4,5] rfl (by decide+kernel) ?_
   refine QuietP.of (QJ.call hq (fun _ _=>rfl) rfl rfl) ?_
   refine QuietP.of (QJ.call hs (fun _ _=>rfl) rfl rfl) ?_
   (repeat (first|refine Spl.t rfl ?_|refine Spl.f rfl ?_))
   exact FinP.open rfl rfl
 ·refine Spl.f (decide_eq_false c0) ?_
  (repeat (first|refine Spl.t rfl ?_|refine Spl.f rfl ?_))
  by_cases c1:c.k=1
  ·have eD:wrR site ⟨s,l,R,[]⟩ c=wrI ⟨s,l,R,[]⟩ (dE ⟨s,l,R,[]⟩ c.at_):=(if_neg c0).trans (if_pos c1)
   have hp:=lZ his R (by omega) c.at_
   rw[eD]
   generalize dE ⟨s,l,R,[]⟩ c.at_=p at hp ⊢
   obtain⟨v,o,e⟩:=p
   unfold tV at hp
   unfold wrI
   simp only at hp ⊢
   have hq:=q9 v.s v.l v.R
   have hs:=l6 o
   refine Spl.t (decide_eq_true c1) ?_
   (repeat (first|refine Spl.t rfl ?_|refine Spl.f rfl ?_))
   refine aa hp (fun _ _=>rfl) rfl rfl rfl ?_
   (repeat (first|refine Spl.t rfl ?_|refine Spl.f rfl ?_))
   (first|refine Sq.go ?_|refine af (Sq.go ?_)|skip)
   (try refine WJ.cut ?_)
   refine Spl.of (fun h1=>?_) (fun h1=>?_)
   ·have h1:e≠0:=by simpa using h1
    rw[if_pos h1]
    (repeat (first|refine Spl.t rfl ?_|refine Spl.f rfl ?_))
    refine .out (by simp) ?_
    refine ai 2 rfl (fun _ _ _ h=>ar 6 h) ?_
    exact FinP.open rfl rfl
   ·have h1:¬e≠0:=by simpa using h1
    rw[if_neg h1]
    (repeat (first|refine Spl.t rfl ?_|refine Spl.f rfl ?_))
    (first|refine Sq.go ?_|refine af (Sq.go ?_)|skip)
    (try refine WJ.cut ?_)
    (first|refine Sq.go ?_|refine af (Sq.go ?_)|skip)
    (try refine WJ.cut ?_)
    refine Spl.f (decide_eq_false (by omega)) ?_
    (repeat (first|refine Spl.t rfl ?_|refine Spl.f rfl ?_))
    (first|refine Sq.go ?_|refine af (Sq.go ?_)|skip)
    (try refine aq _ _ _ _ ?_)
    refine RegP.mixE 0 10 [4,5] rfl (by decide+kernel) ?_
    refine QuietP.of (QJ.call hq (fun _ _=>rfl) rfl rfl) ?_
    refine QuietP.of (QJ.call hs (fun _ _=>rfl) rfl rfl) ?_
    (repeat (first|refine Spl.t rfl ?_|refine Spl.f rfl ?_))
    exact FinP.open rfl rfl
  ·refine Spl.f (decide_eq_false c1) ?_
   (repeat (first|refine Spl.t rfl ?_|refine Spl.f rfl ?_))
   have eD:wrR site ⟨s,l,R,[]⟩ c=if cS ⟨s,l,R,[]⟩ c.o≠0 then(⟨s,l,R,[]⟩,⟨cS ⟨s,l,R,[]⟩ c.o,0,[]⟩)else(cG ⟨s,l,R,[]⟩ c.o,⟨0,(cG ⟨s,l,R,[]⟩ c.o).out.length,[]⟩):=(if_neg c0).trans (if_neg c1)
   have hp:=o6 his R [] c.o (by omega)
   rw[eD]
   generalize cS ⟨s,l,R,[]⟩ c.o=e at hp ⊢
   generalize cG ⟨s,l,R,[]⟩ c.o=v at hp ⊢
   obtain⟨vs1,vl,vR,vo⟩:=v
   simp only at hp ⊢
   have hlo:(vo.map chD).length=vo.length:=List.length_map ..
   refine aa hp (fun _ _=>rfl) rfl rfl rfl ?_
   (repeat (first|refine Spl.t rfl ?_|refine Spl.f rfl ?_))
   (first|refine Sq.go ?_|refine af (Sq.go ?_)|skip)
   (try refine WJ.cut ?_)
   refine Spl.of (fun h1=>?_) (fun h1=>?_)
   ·have h1:e≠0:=by simpa using h1
    rw[if_pos h1]
    (repeat (first|refine Spl.t rfl ?_|refine Spl.f rfl ?_))
    refine .out (by simp) ?_
    refine ai 2 rfl (fun _ _ _ h=>ar 6 h) ?_
    exact FinP.open rfl rfl
   ·have h1:¬e≠0:=by simpa using h1
    rw[if_neg h1]
    (repeat (first|refine Spl.t rfl ?_|refine Spl.f rfl ?_))
    (first|refine Sq.go ?_|refine af (Sq.go ?_)|skip)
    (try refine WJ.cut ?_)
    (first|refine Sq.go ?_|refine af (Sq.go ?_)|skip)
    (try refine WJ.cut ?_)
    refine Spl.t (decide_eq_true (by omega)) ?_
    (repeat (first|refine Spl.t rfl ?_|refine Spl.f rfl ?_))
    refine .out (by simp) ?_
    rw[hlo]
    exact FinP.open rfl rfl
theorem Ab (k:Int):Cv 32 [iv k] (bv (decide (0≤k∧k≤2))):=by
 refine ab Tryz.f32 Tryz.func32 rfl rfl fun w H B g0=>?_
 (repeat' (first|refine Spl.t rfl ?_|refine Spl.f rfl ?_|refine Spl.of (fun h=>?_) (fun h=>?_)))
 all_goals refine FinP.open rfl (congrArg bv ?_)
 all_goals simp_all
 all_goals omega
theorem xU (site:Int)(s:SS)(l R:List OP)(cl:Bool):Cv 167 [rpv site s l R cl] (bv (cl||decide (site=0))):=by
 cases cl
 all_goals refine ab Tryz.f167 Tryz.func167 rfl rfl fun w H B g0=>?_
 all_goals (repeat' (first|refine Spl.t rfl ?_|refine Spl.f rfl ?_|refine Spl.of (fun h=>?_) (fun h=>?_)))
 all_goals refine FinP.open rfl (congrArg bv ?_)
 all_goals simp_all
end Go.Proofs.E
namespace Go.Proofs.E
attribute [local irreducible] elems
def bS (site:Int)(v:VS)(cl:Bool)(c:CALL):VS×Bool×RS:=
 if c.k<0∨c.k>8 then(v.same,cl,⟨1,0,[]⟩)
 else if (cl||decide (site=0))=true then(v.same,cl,⟨9,0,[]⟩)
 else if c.k=8 then(v.same,true,⟨0,0,[]⟩)
 else if c.k≤2 then((wrR site v c).1,cl,(wrR site v c).2)
 else(v.same,cl,ep v.l c)
theorem LookP.at_ {key:Value}{ks:List Value}{vs:List (List D)}{A:List D→Prop}{B:Prop}(j:Nat){cs:List D}(h:((match ks[j]? with|some x=>(match gV key x with|some true=>true|_=>false)|none=>false)&&(ks.take j).all (fun x=>match gV key x with|some false=>true|_=>false))=true)(hv:vs[j]?=some cs)(k:A cs):LookP key ks vs A B:=by
 obtain⟨h1,h2⟩:=Bool.and_eq_true_iff.1 h
 refine .inl ⟨j,cs,⟨?_,fun i x hi hx=>keyNo_of h2 i x (by rw[List.getElem?_take,if_pos hi];exact hx)⟩,hv,k⟩
 split at h1
 ·next x hx=>
  split at h1
  ·exact⟨x,hx,by assumption⟩
  ·cases h1
 ·cases h1
attribute [local irreducible] PutP LookP
theorem tI {s:SS}{l R:List OP}(h:okV ⟨s,l,R,[]⟩)(site:Int)(cl:Bool)(c:CALL):
 Cv 133 [rpv site s l R cl,iG c] (F3 site (bS site ⟨s,l,R,[]⟩ cl c).1 (bS site ⟨s,l,R,[]⟩ cl c).2.1 (bS site ⟨s,l,R,[]⟩ cl c).2.2):=by
 have his:=h.is
 simp only at his
 have hcl:=xU site s l R cl
 have hwr:=Ab c.k
 by_cases c1:c.k<0∨c.k>8
 ·have eD:bS site ⟨s,l,R,[]⟩ cl c=(⟨s,l,R,[]⟩,cl,⟨1,0,[]⟩):=if_pos c1
  rw[eD]
  refine ab Tryz.f133 Tryz.func133 rfl rfl fun w H B g0=>?_
  refine Spl.of (fun h1=>?_) (fun h1=>?_)
  ·(repeat (first|refine Spl.t rfl ?_|refine Spl.f rfl ?_))
   refine ai 2 rfl (fun _ _ _ h=>ar 6 h) ?_
   exact FinP.open rfl rfl
  ·(repeat (first|refine Spl.t rfl ?_|refine Spl.f rfl ?_))
   refine Spl.t (decide_eq_true (by have:=of_decide_eq_false h1;omega)) ?_
   (repeat (first|refine Spl.t rfl ?_|refine Spl.f rfl ?_))
   refine ai 2 rfl (fun _ _ _ h=>ar 6 h) ?_
   exact FinP.open rfl rfl
 by_cases c2:(cl||decide (site=0))=true
 ·have eD:bS site ⟨s,l,R,[]⟩ cl c=(⟨s,l,R,[]⟩,cl,⟨9,0,[]⟩):=(if_neg c1).trans (if_pos c2)
  rw[eD]
  rw[c2]at hcl
  refine ab Tryz.f133 Tryz.func133 rfl rfl fun w H B g0=>?_
  refine Spl.f (decide_eq_false (by omega)) ?_
  (repeat (first|refine Spl.t rfl ?_|refine Spl.f rfl ?_))
  refine Spl.f (decide_eq_false (by omega)) ?_
  (repeat (first|refine Spl.t rfl ?_|refine Spl.f rfl ?_))
  refine aa hcl (fun _ _=>rfl) rfl rfl rfl ?_
  (repeat (first|refine Spl.t rfl ?_|refine Spl.f rfl ?_))
  refine ai 2 rfl (fun _ _ _ h=>ar 6 h) ?_
  exact FinP.open rfl rfl
 have c2':(cl||decide (site=0))=false:=by cases hh:(cl||decide (site=0))with|true=>exact absurd hh c2|false=>rfl
 rw[c2']at hcl
 by_cases c3:c.k=8
 ·have eD:bS site ⟨s,l,R,[]⟩ cl c=(⟨s,l,R,[]⟩,true,⟨0,0,[]⟩):=(if_neg c1).trans ((if_neg c2).trans (if_pos c3))
  rw[eD]
  refine ab Tryz.f133 Tryz.func133 rfl rfl fun w H B g0=>?_
  refine Spl.f (decide_eq_false (by omega)) ?_
  (repeat (first|refine Spl.t rfl ?_|refine Spl.f rfl ?_))
  refine Spl.f (decide_eq_false (by omega)) ?_
  (repeat (first|refine Spl.t rfl ?_|refine Spl.f rfl ?_))
  refine aa hcl (fun _ _=>rfl) rfl rfl rfl ?_
  (repeat (first|refine Spl.t rfl ?_|refine Spl.f rfl ?_))
  refine Spl.t (decide_eq_true c3) ?_
  (repeat (first|refine Spl.t rfl ?_|refine Spl.f rfl ?_))
  refine ai 2 rfl (fun _ _ _ h=>ar 6 h) ?_
  exact FinP.open rfl rfl
 by_cases c4:c.k≤2
 ·have eD:bS site ⟨s,l,R,[]⟩ cl c=((wrR site ⟨s,l,R,[]⟩ c).1,cl,(wrR site ⟨s,l,R,[]⟩ c).2):=(if_neg c1).trans ((if_neg c2).trans ((if_neg c3).trans (if_pos c4)))
  rw[eD]
  have hw:=Bh h site cl c (by omega)
  generalize wrR site ⟨s,l,R,[]⟩ c=p at hw ⊢
  obtain⟨⟨v1,v2,v3,v4⟩,x⟩:=p
  simp only at hw ⊢
  rw[decide_eq_true (show 0≤c.k∧c.k≤2 by omega)]at hwr
  refine ab Tryz.f133 Tryz.func133 rfl rfl fun w H B g0=>?_
  refine Spl.f (decide_eq_false (by omega)) ?_
  (repeat (first|refine Spl.t rfl ?_|refine Spl.f rfl ?_))
  refine Spl.f (decide_eq_false (by omega)) ?_
  (repeat (first|refine Spl.t rfl ?_|refine Spl.f rfl ?_))
  refine aa hcl (fun _ _=>rfl) rfl rfl rfl ?_
  (repeat (first|refine Spl.t rfl ?_|refine Spl.f rfl ?_))
  refine Spl.f (decide_eq_false c3) ?_
  (repeat (first|refine Spl.t rfl ?_|refine Spl.f rfl ?_))
  refine aa hwr (fun _ _=>rfl) rfl rfl rfl ?_
  (repeat (first|refine Spl.t rfl ?_|refine Spl.f rfl ?_))
  refine aa hw (fun _ _=>rfl) rfl rfl rfl ?_
  (repeat (first|refine Spl.t rfl ?_|refine Spl.f rfl ?_))
  exact FinP.open rfl rfl
 ·have eD:bS site ⟨s,l,R,[]⟩ cl c=(⟨s,l,R,[]⟩,cl,ep l c):=(if_neg c1).trans ((if_neg c2).trans ((if_neg c3).trans (if_neg c4)))
  rw[eD]
  rw[decide_eq_false (show¬(0≤c.k∧c.k≤2)by omega)]at hwr
  have hk:c.k=3∨c.k=4∨c.k=5∨c.k=6∨c.k=7:=by omega
  clear eD
  obtain⟨k,at_,ch,o,a⟩:=c
  simp only at hk hwr
  clear c1 c2 c3 c4
  rcases hk with hk|hk|hk|hk|hk
  ·subst hk
   have hlk:=kJ site s l R cl ⟨3,at_,ch,o,a⟩
   have kj:=GP his site R cl
   have eL:ep l ⟨3,at_,ch,o,a⟩=(⟨0,0,byt (cO (aj l))⟩:RS):=rfl
   rw[eL]
   generalize hg:(⟨0,0,byt (cO (aj l))⟩:RS)=x at kj ⊢
   refine ab Tryz.f133 Tryz.func133 rfl rfl fun w H B g0=>?_
   (repeat (first|refine Spl.t rfl ?_|refine Spl.f rfl ?_))
   refine aa hcl (fun _ _=>rfl) rfl rfl rfl ?_
   (repeat (first|refine Spl.t rfl ?_|refine Spl.f rfl ?_))
   refine aa hwr (fun _ _=>rfl) rfl rfl rfl ?_
   (repeat (first|refine Spl.t rfl ?_|refine Spl.f rfl ?_))
   refine RegP.mixE 0 11 [4,5] rfl (by decide+kernel) ?_
   refine QuietP.of (QJ.call hlk (fun _ _=>rfl) rfl rfl) ?_
   (repeat (first|refine Spl.t rfl ?_|refine Spl.f rfl ?_))
   refine LookP.at_ 0 rfl rfl ?_
   (repeat (first|refine Spl.t rfl ?_|refine Spl.f rfl ?_))
   refine QuietP.of (QJ.callT rfl (.fn _ _) kj (fun _ _=>rfl) rfl rfl) ?_
   (repeat (first|refine Spl.t rfl ?_|refine Spl.f rfl ?_))
   refine ai 2 rfl (fun _ _ _ h=>ar 6 h) ?_
   exact FinP.open rfl rfl
  ·subst hk
   have hlk:=kJ site s l R cl ⟨4,at_,ch,o,a⟩
   have kj:=GO his site R cl
   have eL:ep l ⟨4,at_,ch,o,a⟩=(⟨0,aW (aj l),[]⟩:RS):=rfl
   rw[eL]
   generalize hg:(⟨0,aW (aj l),[]⟩:RS)=x at kj ⊢
   refine ab Tryz.f133 Tryz.func133 rfl rfl fun w H B g0=>?_
   (repeat (first|refine Spl.t rfl ?_|refine Spl.f rfl ?_))
   refine aa hcl (fun _ _=>rfl) rfl rfl rfl ?_
   (repeat (first|refine Spl.t rfl ?_|refine Spl.f rfl ?_))
   refine aa hwr (fun _ _=>rfl) rfl rfl rfl ?_
   (repeat (first|refine Spl.t rfl ?_|refine Spl.f rfl ?_))
   refine RegP.mixE 0 11 [4,5] rfl (by decide+kernel) ?_
   refine QuietP.of (QJ.call hlk (fun _ _=>rfl) rfl rfl) ?_
   (repeat (first|refine Spl.t rfl ?_|refine Spl.f rfl ?_))
   refine LookP.at_ 1 rfl rfl ?_
   (repeat (first|refine Spl.t rfl ?_|refine Spl.f rfl ?_))
   refine QuietP.of (QJ.callT rfl (.fn _ _) kj (fun _ _=>rfl) rfl rfl) ?_
   (repeat (first|refine Spl.t rfl ?_|refine Spl.f rfl ?_))
   refine ai 2 rfl (fun _ _ _ h=>ar 6 h) ?_
   exact FinP.open rfl rfl
  ·subst hk
   have hlk:=kJ site s l R cl ⟨5,at_,ch,o,a⟩
   have kj:=GN his site R cl ⟨5,at_,ch,o,a⟩
   have eL:ep l ⟨5,at_,ch,o,a⟩=(if (bZ (aj l) at_).2≠0 then⟨(bZ (aj l) at_).2,0,[]⟩else⟨0,0,cf (bZ (aj l) at_).1⟩:RS):=rfl
   rw[eL]
   generalize hg:(if (bZ (aj l) at_).2≠0 then⟨(bZ (aj l) at_).2,0,[]⟩else⟨0,0,cf (bZ (aj l) at_).1⟩:RS)=x at kj ⊢
   refine ab Tryz.f133 Tryz.func133 rfl rfl fun w H B g0=>?_
   (repeat (first|refine Spl.t rfl ?_|refine Spl.f rfl ?_))
   refine aa hcl (fun _ _=>rfl) rfl rfl rfl ?_
   (repeat (first|refine Spl.t rfl ?_|refine Spl.f rfl ?_))
   refine aa hwr (fun _ _=>rfl) rfl rfl rfl ?_
   (repeat (first|refine Spl.t rfl ?_|refine Spl.f rfl ?_))
   refine RegP.mixE 0 11 [4,5] rfl (by decide+kernel) ?_
   refine QuietP.of (QJ.call hlk (fun _ _=>rfl) rfl rfl) ?_
   (repeat (first|refine Spl.t rfl ?_|refine Spl.f rfl ?_))
   refine LookP.at_ 2 rfl rfl ?_
   (repeat (first|refine Spl.t rfl ?_|refine Spl.f rfl ?_))
   refine QuietP.of (QJ.callT rfl (.fn _ _) kj (fun _ _=>rfl) rfl rfl) ?_
   (repeat (first|refine Spl.t rfl ?_|refine Spl.f rfl ?_))
   refine ai 2 rfl (fun _ _ _ h=>ar 6 h) ?_
   exact FinP.open rfl rfl
  ·subst hk
   have hlk:=kJ site s l R cl ⟨6,at_,ch,o,a⟩
   have kj:=GM his site R cl ⟨6,at_,ch,o,a⟩
   have eL:ep l ⟨6,at_,ch,o,a⟩=(⟨(gm (aj l) a).2,(gm (aj l) a).1,[]⟩:RS):=rfl
   rw[eL]
   generalize hg:(⟨(gm (aj l) a).2,(gm (aj l) a).1,[]⟩:RS)=x at kj ⊢
   refine ab Tryz.f133 Tryz.func133 rfl rfl fun w H B g0=>?_
   (repeat (first|refine Spl.t rfl ?_|refine Spl.f rfl ?_))
   refine aa hcl (fun _ _=>rfl) rfl rfl rfl ?_
   (repeat (first|refine Spl.t rfl ?_|refine Spl.f rfl ?_))
   refine aa hwr (fun _ _=>rfl) rfl rfl rfl ?_
   (repeat (first|refine Spl.t rfl ?_|refine Spl.f rfl ?_))
   refine RegP.mixE 0 11 [4,5] rfl (by decide+kernel) ?_
   refine QuietP.of (QJ.call hlk (fun _ _=>rfl) rfl rfl) ?_
   (repeat (first|refine Spl.t rfl ?_|refine Spl.f rfl ?_))
   refine LookP.at_ 3 rfl rfl ?_
   (repeat (first|refine Spl.t rfl ?_|refine Spl.f rfl ?_))
   refine QuietP.of (QJ.callT rfl (.fn _ _) kj (fun _ _=>rfl) rfl rfl) ?_
   (repeat (first|refine Spl.t rfl ?_|refine Spl.f rfl ?_))
   refine ai 2 rfl (fun _ _ _ h=>ar 6 h) ?_
   exact FinP.open rfl rfl
  ·subst hk
   have hlk:=kJ site s l R cl ⟨7,at_,ch,o,a⟩
   have kj:=GL his site R cl
   have eL:ep l ⟨7,at_,ch,o,a⟩=(⟨0,l.length,jM (bh l)⟩:RS):=rfl
   rw[eL]
   generalize hg:(⟨0,l.length,jM (bh l)⟩:RS)=x at kj ⊢
   refine ab Tryz.f133 Tryz.func133 rfl rfl fun w H B g0=>?_
   (repeat (first|refine Spl.t rfl ?_|refine Spl.f rfl ?_))
   refine aa hcl (fun _ _=>rfl) rfl rfl rfl ?_
   (repeat (first|refine Spl.t rfl ?_|refine Spl.f rfl ?_))
   refine aa hwr (fun _ _=>rfl) rfl rfl rfl ?_
   (repeat (first|refine Spl.t rfl ?_|refine Spl.f rfl ?_))
   refine RegP.mixE 0 11 [4,5] rfl (by decide+kernel) ?_
   refine QuietP.of (QJ.call hlk (fun _ _=>rfl) rfl rfl) ?_
   (repeat (first|refine Spl.t rfl ?_|refine Spl.f rfl ?_))
   refine LookP.at_ 4 rfl rfl ?_
   (repeat (first|refine Spl.t rfl ?_|refine Spl.f rfl ?_))
   refine QuietP.of (QJ.callT rfl (.fn _ _) kj (fun _ _=>rfl) rfl rfl) ?_
   (repeat (first|refine Spl.t rfl ?_|refine Spl.f rfl ?_))
   refine ai 2 rfl (fun _ _ _ h=>ar 6 h) ?_
   exact FinP.open rfl rfl
end Go.Proofs.E
namespace Go.Proofs.E
attribute [local irreducible] elems
theorem Au {s:SS}{l R:List OP}(h:okV ⟨s,l,R,[]⟩)(site:Int)(cl:Bool)(c:CALL):
 Cv 80 [rpv site s l R cl,iG c] (.tup [rpv site (bS site ⟨s,l,R,[]⟩ cl c).1.s (bS site ⟨s,l,R,[]⟩ cl c).1.l (bS site ⟨s,l,R,[]⟩ cl c).1.R (bS site ⟨s,l,R,[]⟩ cl c).2.1,rsv (bS site ⟨s,l,R,[]⟩ cl c).2.2]):=by
 have hw:=tI h site cl c
 generalize bS site ⟨s,l,R,[]⟩ cl c=p at hw ⊢
 obtain⟨⟨v1,v2,v3,v4⟩,cl',x⟩:=p
 simp only at hw ⊢
 refine ab Tryz.f80 Tryz.func80 rfl rfl fun w H B g0=>?_
 refine aa hw (fun _ _=>rfl) rfl rfl rfl ?_
 (repeat (first|refine Spl.t rfl ?_|refine Spl.f rfl ?_))
 refine RegP.mixE 0 4 [4,5] rfl (by decide+kernel) ?_
 exact FinP.open rfl rfl
theorem wc {s:SS}{l R:List OP}(h:okV ⟨s,l,R,[]⟩)(site:Int)(cl:Bool)(c:CALL):
 Cv 85 [rpv site s l R cl,iG c] (rsv (bS site ⟨s,l,R,[]⟩ cl c).2.2):=by
 have hw:=Au h site cl c
 generalize bS site ⟨s,l,R,[]⟩ cl c=p at hw ⊢
 obtain⟨⟨v1,v2,v3,v4⟩,cl',x⟩:=p
 simp only at hw ⊢
 refine ab Tryz.f85 Tryz.func85 rfl rfl fun w H B g0=>?_
 refine aa hw (fun _ _=>rfl) rfl rfl rfl ?_
 (repeat (first|refine Spl.t rfl ?_|refine Spl.f rfl ?_))
 exact FinP.open rfl rfl
theorem D9 {γ:Ids}{H:HF}{u:Value}{t p:D}{k0 n m k:Int}{z1 z2 z3:AV}(r:Rep γ H (.agg [iv k0,.d t,.d p,iv n,.d (.v (.slice none 0 0)),iv m,iv k,z1,z2,z3]) u):Rep γ H (.agg [iv k0,.d t,.d p,iv n,.d (.sl 6 []),iv m,iv k,z1,z2,z3]) u:=iM (j:=4) r rfl fun _ h=>ar 6 h
theorem AR (site:Int):Cv 55 [iv site] (.tup [rpv (if site<1∨site>1000 then 0 else site) vA0.s vA0.l vA0.R false,iv (if site<1∨site>1000 then 2 else 0)]):=by
 by_cases c1:site<1∨site>1000
 ·rw[if_pos c1,if_pos c1]
  refine ab Tryz.f55 Tryz.func55 rfl rfl fun w H B g0=>?_
  refine Spl.of (fun h1=>?_) (fun h1=>?_)
  ·(repeat (first|refine Spl.t rfl ?_|refine Spl.f rfl ?_))
   refine ai 0 rfl (fun _ _ _ h=>D9 h) ?_
   exact FinP.open rfl rfl
  ·(repeat (first|refine Spl.t rfl ?_|refine Spl.f rfl ?_))
   refine Spl.t (decide_eq_true (by have:=of_decide_eq_false h1;omega)) ?_
   (repeat (first|refine Spl.t rfl ?_|refine Spl.f rfl ?_))
   refine ai 0 rfl (fun _ _ _ h=>D9 h) ?_
   exact FinP.open rfl rfl
 ·rw[if_neg c1,if_neg c1]
  refine ab Tryz.f55 Tryz.func55 rfl rfl fun w H B g0=>?_
  refine Spl.f (decide_eq_false (by omega)) ?_
  (repeat (first|refine Spl.t rfl ?_|refine Spl.f rfl ?_))
  refine Spl.f (decide_eq_false (by omega)) ?_
  (repeat (first|refine Spl.t rfl ?_|refine Spl.f rfl ?_))
  refine ai 0 rfl (fun _ _ _ h=>D9 h) ?_
  exact FinP.open rfl rfl
set_option maxHeartbeats 1000000 in
theorem rh (c:CALL):Cv 36 [iG c] (iG c):=by
 refine ab Tryz.f36 Tryz.func36 rfl rfl fun w H B g0=>?_
 refine RegP.of rfl (by decide+kernel) ?_
 refine QuietP.of (QJ.call (Gk c.o) (fun _ _=>rfl) rfl rfl) ?_
 refine QuietP.of (QJ.call (Fj c.a) (fun _ _=>rfl) rfl rfl) ?_
 exact FinP.open rfl rfl
theorem o4 (x:RS):Cv 84 [rsv x] (rsv x):=by
 refine ab Tryz.f84 Tryz.func84 rfl rfl fun w H B g0=>?_
 exact FinP.open rfl rfl
theorem Gb {l:List OP}(h:Dn l)(R:List OP):Cv 143 [rvv l R] (sv (jM (bh l))):=by
 have hrs:=Ao (bh l) (sum_ok h)
 have hl2:=h.len2
 have hall:l.take l.length=l:=List.take_length
 refine aD Tryz.f143 Tryz.func143 rfl rfl fun w H B g0=>?_
 (try refine WJ.cut ?_)
 (first|refine Sq.go ?_|refine af (Sq.go ?_)|skip)
 (try refine WJ.cut ?_)
 (first|refine Sq.go ?_|refine af (Sq.go ?_)|skip)
 (try refine WJ.cut ?_)
 (first|refine Sq.go ?_|refine af (Sq.go ?_)|skip)
 (try refine WJ.cut ?_)
 refine ax (V:=Nat) (fun i=>[(4,iv i)]) (fun i=>[(3,.cells [iv (bh (l.take i)).n,iv (bh (l.take i)).a,iv (bh (l.take i)).b,iv (bh (l.take i)).c,iv (bh (l.take i)).d])]) [3] (fun i=>l.length-i) (fun i=>i≤l.length) 0 (by omega) (by repeat' (first|exact trivial|exact rfl|refine And.intro ?_ ?_)) (by repeat' (first|exact trivial|exact rfl|refine And.intro ?_ ?_)) ?_
 intro i hi
 refine Spl.of (fun h1=>?_) (fun h1=>?_)
 ·have hlt:i<l.length:=by have:=of_decide_eq_true h1;simp at this;omega
  have hx:l[i]?=some l[i]:=by simp
  obtain⟨t1,t2⟩:=wA h hx
  have hok:=sum_ok (wm h i)
  generalize l[i]=x at hx t1 t2
  (repeat (first|refine Spl.t rfl ?_|refine Spl.f rfl ?_))
  refine IdxP.of (opD x) (by omega) (by simp[hx]) ?_
  (repeat (first|refine Spl.t rfl ?_|refine Spl.f rfl ?_))
  refine Spl.of (fun h2=>?_) (fun h2=>?_)
  ·obtain⟨t3,t4,t5⟩:=t1 (of_decide_eq_true h2)
   have hput:=CE (bh (l.take i)) x.i hok t5 t4
   rw[←t3]at hput
   (repeat (first|refine Spl.t rfl ?_|refine Spl.f rfl ?_))
   refine qi 9 rfl (by decide+kernel) ?_
   refine IdxP.of (opD x) (by omega) (by simp[hx]) ?_
   (repeat (first|refine Spl.t rfl ?_|refine Spl.f rfl ?_))
   refine QuietP.of (QJ.call hput (fun _ _=>rfl) rfl rfl) ?_
   (repeat' (first|exact trivial|refine And.intro ?_ ?_))
   all_goals exact⟨i+1,by omega,by omega,⟨ao (ah _ (by omega) (by omega)),trivial⟩,(by repeat' (first|exact trivial|exact rfl|refine And.intro ?_ ?_)),(by repeat' (first|exact trivial|exact rfl|refine And.intro ?_ ?_)),(by repeat' (first|exact trivial|exact rfl|refine And.intro ?_ ?_))⟩
  ·have t3:=t2 (of_decide_eq_false h2)
   (repeat (first|refine Spl.t rfl ?_|refine Spl.f rfl ?_))
   exact⟨i+1,by omega,by omega,⟨ao (ah _ (by omega) (by omega)),trivial⟩,(by repeat' (first|exact trivial|exact rfl|refine And.intro ?_ ?_)),⟨by rw[t3];rfl,trivial⟩,(by repeat' (first|exact trivial|exact rfl|refine And.intro ?_ ?_))⟩
 have hi2:i=l.length:=by have:=of_decide_eq_false h1;simp at this;omega
 subst hi2
 rw[hall]
 (repeat (first|refine Spl.t rfl ?_|refine Spl.f rfl ?_))
 (first|refine Sq.go ?_|refine af (Sq.go ?_)|skip)
 (try refine aq _ _ _ _ ?_)
 refine aa hrs (fun _ _=>rfl) rfl rfl rfl ?_
 (repeat (first|refine Spl.t rfl ?_|refine Spl.f rfl ?_))
 exact FinP.open rfl rfl
end Go.Proofs.E
namespace Go.Proofs.E
attribute [local irreducible] elems
abbrev rmw (site:Int)(l R:List OP)(cl:Bool):AV:=.agg [iv site,.d (.sl 6 (l.map opD)),.d (.sl 6 (R.map opD)),bv cl]
abbrev Gu (site:Int)(v:VS)(cl:Bool)(x:RS):AV:=.tup [rmw site v.l v.R cl,rsv x,.d (chs v.out)]
set_option maxHeartbeats 2000000 in
theorem wa {s:SS}{l R:List OP}(h:okV ⟨s,l,R,[]⟩)(site:Int)(cl:Bool)(c:CALL)(hat:c.at_≤9223372036854775807):
 Cv 81 [rmw site l R cl,iG c] (Gu site (bS site ⟨s,l,R,[]⟩ cl c).1 (bS site ⟨s,l,R,[]⟩ cl c).2.1 (bS site ⟨s,l,R,[]⟩ cl c).2.2):=by
 have his:=h.is
 simp only at his
 have hR:=h.len
 simp only at hR
 refine aD Tryz.f81 Tryz.func81 rfl rfl fun w H B g0=>?_
 (try refine WJ.cut ?_)
 (first|refine Sq.go ?_|refine af (Sq.go ?_)|skip)
 (try refine WJ.cut ?_)
 by_cases c1:c.k<0∨c.k>8
 ·have eD:bS site ⟨s,l,R,[]⟩ cl c=(⟨s,l,R,[]⟩,cl,⟨1,0,[]⟩):=if_pos c1
  rw[eD]
  refine Spl.of (fun h1=>?_) (fun h1=>?_)
  ·(repeat (first|refine Spl.t rfl ?_|refine Spl.f rfl ?_))
   refine .out (by simp) ?_
   refine ai 2 rfl (fun _ _ _ h=>ar 6 h) ?_
   exact FinP.open rfl rfl
  ·(repeat (first|refine Spl.t rfl ?_|refine Spl.f rfl ?_))
   refine Spl.t (decide_eq_true (by have:=of_decide_eq_false h1;omega)) ?_
   (repeat (first|refine Spl.t rfl ?_|refine Spl.f rfl ?_))
   refine .out (by simp) ?_
   refine ai 2 rfl (fun _ _ _ h=>ar 6 h) ?_
   exact FinP.open rfl rfl
 refine Spl.f (decide_eq_false (by omega)) ?_
 (repeat (first|refine Spl.t rfl ?_|refine Spl.f rfl ?_))
 refine Spl.f (decide_eq_false (by omega)) ?_
 (repeat (first|refine Spl.t rfl ?_|refine Spl.f rfl ?_))
 (first|refine Sq.go ?_|refine af (Sq.go ?_)|skip)
 (try refine WJ.cut ?_)
 by_cases c2:(cl||decide (site=0))=true
 ·have eD:bS site ⟨s,l,R,[]⟩ cl c=(⟨s,l,R,[]⟩,cl,⟨9,0,[]⟩):=(if_neg c1).trans (if_pos c2)
  rw[eD]
  cases cl with
  |true=>
   (repeat (first|refine Spl.t rfl ?_|refine Spl.f rfl ?_))
   refine .out (by simp) ?_
   refine ai 2 rfl (fun _ _ _ h=>ar 6 h) ?_
   exact FinP.open rfl rfl
  |false=>
   (repeat (first|refine Spl.t rfl ?_|refine Spl.f rfl ?_))
   refine Spl.t (decide_eq_true (by simpa using c2)) ?_
   (repeat (first|refine Spl.t rfl ?_|refine Spl.f rfl ?_))
   refine .out (by simp) ?_
   refine ai 2 rfl (fun _ _ _ h=>ar 6 h) ?_
   exact FinP.open rfl rfl
 obtain rfl:cl=false:=by cases cl with|true=>simp at c2|false=>rfl
 have hs0:site≠0:=by simpa using c2
 (repeat (first|refine Spl.t rfl ?_|refine Spl.f rfl ?_))
 refine Spl.f (decide_eq_false hs0) ?_
 (repeat (first|refine Spl.t rfl ?_|refine Spl.f rfl ?_))
 (first|refine Sq.go ?_|refine af (Sq.go ?_)|skip)
 (try refine WJ.cut ?_)
 (first|refine Sq.go ?_|refine af (Sq.go ?_)|skip)
 (try refine WJ.cut ?_)
 by_cases k0:c.k=0
 ·refine Spl.t (decide_eq_true k0) ?_
  have eD:bS site ⟨s,l,R,[]⟩ false c=((wrI ⟨s,l,R,[]⟩ (ca ⟨s,l,R,[]⟩ site c.at_ c.ch)).1,false,(wrI ⟨s,l,R,[]⟩ (ca ⟨s,l,R,[]⟩ site c.at_ c.ch)).2):=by rw[show bS site ⟨s,l,R,[]⟩ false c=((wrR site ⟨s,l,R,[]⟩ c).1,false,(wrR site ⟨s,l,R,[]⟩ c).2)from(if_neg c1).trans ((if_neg c2).trans ((if_neg (by omega)).trans ((if_pos (by omega))))),show wrR site ⟨s,l,R,[]⟩ c=wrI ⟨s,l,R,[]⟩ (ca ⟨s,l,R,[]⟩ site c.at_ c.ch)from if_pos k0]
  have hp:=xR his R (by omega) h.ck site c.at_ c.ch
  rw[eD]
  generalize ca ⟨s,l,R,[]⟩ site c.at_ c.ch=p at hp ⊢
  obtain⟨v,o,e⟩:=p
  unfold Bt at hp
  unfold wrI
  simp only at hp ⊢
  have hs:=v8 o
  have hlo:(v.l.map opD).length=v.l.length:=List.length_map ..
  (repeat (first|refine Spl.t rfl ?_|refine Spl.f rfl ?_))
  refine aa hp (fun _ _=>rfl) rfl rfl rfl ?_
  (repeat (first|refine Spl.t rfl ?_|refine Spl.f rfl ?_))
  refine Spl.of (fun h1=>?_) (fun h1=>?_)
  ·have h1:e≠0:=by simpa using h1
   rw[if_pos h1]
   (repeat (first|refine Spl.t rfl ?_|refine Spl.f rfl ?_))
   refine .out (by simp) ?_
   refine ai 2 rfl (fun _ _ _ h=>ar 6 h) ?_
   exact FinP.open rfl rfl
  ·have h1:¬e≠0:=by simpa using h1
   rw[if_neg h1]
   (repeat (first|refine Spl.t rfl ?_|refine Spl.f rfl ?_))
   refine RegP.mixE 0 11 [4,5] rfl (by decide+kernel) ?_
   refine QuietP.of (QJ.call hs (fun _ _=>rfl) rfl rfl) ?_
   (repeat (first|refine Spl.t rfl ?_|refine Spl.f rfl ?_))
   refine .out (by simp) ?_
   rw[hlo]
   exact FinP.open rfl rfl
 refine Spl.f (decide_eq_false k0) ?_
 (repeat (first|refine Spl.t rfl ?_|refine Spl.f rfl ?_))
 by_cases k1:c.k=1
 ·refine Spl.t (decide_eq_true k1) ?_
  have eD:bS site ⟨s,l,R,[]⟩ false c=((wrI ⟨s,l,R,[]⟩ (dE ⟨s,l,R,[]⟩ c.at_)).1,false,(wrI ⟨s,l,R,[]⟩ (dE ⟨s,l,R,[]⟩ c.at_)).2):=by rw[show bS site ⟨s,l,R,[]⟩ false c=((wrR site ⟨s,l,R,[]⟩ c).1,false,(wrR site ⟨s,l,R,[]⟩ c).2)from(if_neg c1).trans ((if_neg c2).trans ((if_neg (by omega)).trans ((if_pos (by omega))))),show wrR site ⟨s,l,R,[]⟩ c=wrI ⟨s,l,R,[]⟩ (dE ⟨s,l,R,[]⟩ c.at_)from(if_neg k0).trans (if_pos k1)]
  have hp:=xT his R (by omega) c.at_ hat
  rw[eD]
  generalize dE ⟨s,l,R,[]⟩ c.at_=p at hp ⊢
  obtain⟨v,o,e⟩:=p
  unfold Bt at hp
  unfold wrI
  simp only at hp ⊢
  have hs:=v8 o
  have hlo:(v.l.map opD).length=v.l.length:=List.length_map ..
  (repeat (first|refine Spl.t rfl ?_|refine Spl.f rfl ?_))
  refine aa hp (fun _ _=>rfl) rfl rfl rfl ?_
  (repeat (first|refine Spl.t rfl ?_|refine Spl.f rfl ?_))
  refine Spl.of (fun h1=>?_) (fun h1=>?_)
  ·have h1:e≠0:=by simpa using h1
   rw[if_pos h1]
   (repeat (first|refine Spl.t rfl ?_|refine Spl.f rfl ?_))
   refine .out (by simp) ?_
   refine ai 2 rfl (fun _ _ _ h=>ar 6 h) ?_
   exact FinP.open rfl rfl
  ·have h1:¬e≠0:=by simpa using h1
   rw[if_neg h1]
   (repeat (first|refine Spl.t rfl ?_|refine Spl.f rfl ?_))
   refine RegP.mixE 0 11 [4,5] rfl (by decide+kernel) ?_
   refine QuietP.of (QJ.call hs (fun _ _=>rfl) rfl rfl) ?_
   (repeat (first|refine Spl.t rfl ?_|refine Spl.f rfl ?_))
   refine .out (by simp) ?_
   rw[hlo]
   exact FinP.open rfl rfl
 refine Spl.f (decide_eq_false k1) ?_
 (repeat (first|refine Spl.t rfl ?_|refine Spl.f rfl ?_))
 by_cases k2:c.k=2
 ·refine Spl.t (decide_eq_true k2) ?_
  have eD:bS site ⟨s,l,R,[]⟩ false c=((wrR site ⟨s,l,R,[]⟩ c).1,false,(wrR site ⟨s,l,R,[]⟩ c).2):=(if_neg c1).trans ((if_neg c2).trans ((if_neg (by omega)).trans ((if_pos (by omega)))))
  have eW:wrR site ⟨s,l,R,[]⟩ c=if cS ⟨s,l,R,[]⟩ c.o≠0 then(⟨s,l,R,[]⟩,⟨cS ⟨s,l,R,[]⟩ c.o,0,[]⟩)else(cG ⟨s,l,R,[]⟩ c.o,⟨0,(cG ⟨s,l,R,[]⟩ c.o).out.length,[]⟩):=(if_neg k0).trans (if_neg k1)
  have hp:=l8 his R [] c.o (by omega)
  rw[eD,eW]
  generalize cS ⟨s,l,R,[]⟩ c.o=e at hp ⊢
  generalize cG ⟨s,l,R,[]⟩ c.o=v at hp ⊢
  obtain⟨vs1,vl,vR,vo⟩:=v
  simp only at hp ⊢
  have hlo:(vo.map chD).length=vo.length:=List.length_map ..
  (repeat (first|refine Spl.t rfl ?_|refine Spl.f rfl ?_))
  refine aa hp (fun _ _=>rfl) rfl rfl rfl ?_
  (repeat (first|refine Spl.t rfl ?_|refine Spl.f rfl ?_))
  refine Spl.of (fun h1=>?_) (fun h1=>?_)
  ·have h1:e≠0:=by simpa using h1
   rw[if_pos h1]
   (repeat (first|refine Spl.t rfl ?_|refine Spl.f rfl ?_))
   refine .out (by simp) ?_
   refine ai 2 rfl (fun _ _ _ h=>ar 6 h) ?_
   exact FinP.open rfl rfl
  ·have h1:¬e≠0:=by simpa using h1
   rw[if_neg h1]
   (repeat (first|refine Spl.t rfl ?_|refine Spl.f rfl ?_))
   refine .out (by simp) ?_
   rw[hlo]
   exact FinP.open rfl rfl
 refine Spl.f (decide_eq_false k2) ?_
 (repeat (first|refine Spl.t rfl ?_|refine Spl.f rfl ?_))
 by_cases k3:c.k=3
 ·refine Spl.t (decide_eq_true k3) ?_
  have eD:bS site ⟨s,l,R,[]⟩ false c=(⟨s,l,R,[]⟩,false,ep l c):=(if_neg c1).trans ((if_neg c2).trans ((if_neg (by omega)).trans ((if_neg (by omega)))))
  have eL:ep l c=⟨0,0,byt (cO (aj l))⟩:=(if_pos k3)
  rw[eD,eL]
  have hrt:=Am his.dn R
  (repeat (first|refine Spl.t rfl ?_|refine Spl.f rfl ?_))
  refine RegP.mixE 0 8 [4,5] rfl (by decide+kernel) ?_
  refine QuietP.of (QJ.call hrt (fun _ _=>rfl) rfl rfl) ?_
  (repeat (first|refine Spl.t rfl ?_|refine Spl.f rfl ?_))
  refine .out (by simp) ?_
  refine ai 2 rfl (fun _ _ _ h=>ar 6 h) ?_
  exact FinP.open rfl rfl
 refine Spl.f (decide_eq_false k3) ?_
 (repeat (first|refine Spl.t rfl ?_|refine Spl.f rfl ?_))
 by_cases k4:c.k=4
 ·refine Spl.t (decide_eq_true k4) ?_
  have eD:bS site ⟨s,l,R,[]⟩ false c=(⟨s,l,R,[]⟩,false,ep l c):=(if_neg c1).trans ((if_neg c2).trans ((if_neg (by omega)).trans ((if_neg (by omega)))))
  have eL:ep l c=⟨0,aW (aj l),[]⟩:=(if_neg k3).trans ((if_pos k4))
  rw[eD,eL]
  have hlr:=hU his.dn
  have hli:=dO his.dn R
  have hrk:=jK (aj l) ((aj l).map elD).length (by omega)
  have hra:bx (aj l) (((aj l).map elD).length:Nat)=aW (aj l):=by rw[List.length_map];exact ny _
  rw[hra]at hrk
  (repeat (first|refine Spl.t rfl ?_|refine Spl.f rfl ?_))
  refine aa hli (fun _ _=>rfl) rfl rfl rfl ?_
  (repeat (first|refine Spl.t rfl ?_|refine Spl.f rfl ?_))
  refine RegP.mixE 0 9 [4,5] rfl (by decide+kernel) ?_
  refine QuietP.of (QJ.call hrk (fun _ _=>rfl) rfl rfl) ?_
  (repeat (first|refine Spl.t rfl ?_|refine Spl.f rfl ?_))
  refine .out (by simp) ?_
  refine ai 2 rfl (fun _ _ _ h=>ar 6 h) ?_
  exact FinP.open rfl rfl
 refine Spl.f (decide_eq_false k4) ?_
 (repeat (first|refine Spl.t rfl ?_|refine Spl.f rfl ?_))
 by_cases k5:c.k=5
 ·refine Spl.t (decide_eq_true k5) ?_
  have eD:bS site ⟨s,l,R,[]⟩ false c=(⟨s,l,R,[]⟩,false,ep l c):=(if_neg c1).trans ((if_neg c2).trans ((if_neg (by omega)).trans ((if_neg (by omega)))))
  have eL:ep l c=if (bZ (aj l) c.at_).2≠0 then⟨(bZ (aj l) c.at_).2,0,[]⟩else⟨0,0,cf (bZ (aj l) c.at_).1⟩:=(if_neg k3).trans ((if_neg k4).trans ((if_pos k5)))
  rw[eD,eL]
  have hp:=Fc his.dn R c.at_ hat
  generalize bZ (aj l) c.at_=p at hp ⊢
  obtain⟨a,e⟩:=p
  simp only at hp ⊢
  have hs:=m8 a
  (repeat (first|refine Spl.t rfl ?_|refine Spl.f rfl ?_))
  refine aa hp (fun _ _=>rfl) rfl rfl rfl ?_
  (repeat (first|refine Spl.t rfl ?_|refine Spl.f rfl ?_))
  refine Spl.of (fun h1=>?_) (fun h1=>?_)
  ·have h1:e≠0:=by simpa using h1
   rw[if_pos h1]
   (repeat (first|refine Spl.t rfl ?_|refine Spl.f rfl ?_))
   refine .out (by simp) ?_
   refine ai 2 rfl (fun _ _ _ h=>ar 6 h) ?_
   exact FinP.open rfl rfl
  ·have h1:¬e≠0:=by simpa using h1
   rw[if_neg h1]
   (repeat (first|refine Spl.t rfl ?_|refine Spl.f rfl ?_))
   refine RegP.mixE 0 7 [4,5] rfl (by decide+kernel) ?_
   refine QuietP.of (QJ.call hs (fun _ _=>rfl) rfl rfl) ?_
   (repeat (first|refine Spl.t rfl ?_|refine Spl.f rfl ?_))
   refine .out (by simp) ?_
   refine ai 2 rfl (fun _ _ _ h=>ar 6 h) ?_
   exact FinP.open rfl rfl
 refine Spl.f (decide_eq_false k5) ?_
 (repeat (first|refine Spl.t rfl ?_|refine Spl.f rfl ?_))
 by_cases k6:c.k=6
 ·refine Spl.t (decide_eq_true k6) ?_
  have eD:bS site ⟨s,l,R,[]⟩ false c=(⟨s,l,R,[]⟩,false,ep l c):=(if_neg c1).trans ((if_neg c2).trans ((if_neg (by omega)).trans ((if_neg (by omega)))))
  have eL:ep l c=⟨(gm (aj l) c.a).2,(gm (aj l) c.a).1,[]⟩:=(if_neg k3).trans ((if_neg k4).trans ((if_neg k5).trans ((if_pos k6))))
  rw[eD,eL]
  have hp:=tu his.dn R c.a
  (repeat (first|refine Spl.t rfl ?_|refine Spl.f rfl ?_))
  refine aa hp (fun _ _=>rfl) rfl rfl rfl ?_
  (repeat (first|refine Spl.t rfl ?_|refine Spl.f rfl ?_))
  refine .out (by simp) ?_
  refine ai 2 rfl (fun _ _ _ h=>ar 6 h) ?_
  exact FinP.open rfl rfl
 refine Spl.f (decide_eq_false k6) ?_
 (repeat (first|refine Spl.t rfl ?_|refine Spl.f rfl ?_))
 by_cases k7:c.k=7
 ·refine Spl.t (decide_eq_true k7) ?_
  have eD:bS site ⟨s,l,R,[]⟩ false c=(⟨s,l,R,[]⟩,false,ep l c):=(if_neg c1).trans ((if_neg c2).trans ((if_neg (by omega)).trans ((if_neg (by omega)))))
  have eL:ep l c=⟨0,l.length,jM (bh l)⟩:=(if_neg k3).trans ((if_neg k4).trans ((if_neg k5).trans ((if_neg k6))))
  rw[eD,eL]
  have hs:=Gb his.dn R
  have hlo:(l.map opD).length=l.length:=List.length_map ..
  (repeat (first|refine Spl.t rfl ?_|refine Spl.f rfl ?_))
  refine RegP.mixE 0 12 [4,5] rfl (by decide+kernel) ?_
  refine QuietP.of (QJ.call hs (fun _ _=>rfl) rfl rfl) ?_
  (repeat (first|refine Spl.t rfl ?_|refine Spl.f rfl ?_))
  refine .out (by simp) ?_
  rw[hlo]
  refine ai 2 rfl (fun _ _ _ h=>ar 6 h) ?_
  exact FinP.open rfl rfl
 refine Spl.f (decide_eq_false k7) ?_
 (repeat (first|refine Spl.t rfl ?_|refine Spl.f rfl ?_))
 have eD:bS site ⟨s,l,R,[]⟩ false c=(⟨s,l,R,[]⟩,true,⟨0,0,[]⟩):=(if_neg c1).trans ((if_neg c2).trans (if_pos (by omega)))
 rw[eD]
 (first|refine Sq.go ?_|refine af (Sq.go ?_)|skip)
 (try refine WJ.cut ?_)
 (first|refine Sq.go ?_|refine af (Sq.go ?_)|skip)
 (try refine aq _ _ _ _ ?_)
 refine ai 2 rfl (fun _ _ _ h=>ar 6 h) ?_
 exact FinP.open rfl rfl
end Go.Proofs.E
namespace Go.Proofs.E
attribute [local irreducible] elems
theorem okV.wr {v:VS}(h:okV v)(site:Int)(c:CALL):okV (wrR site v c).1∧(wrR site v c).1.out.length≤17:=by
 have hs:okV v.same∧v.same.out.length≤17:=⟨h.same,by simp[VS.same]⟩
 unfold wrR
 split
 ·unfold wrI
  split
  ·exact hs
  ·exact h.ins site c.at_ c.ch
 ·split
  ·unfold wrI
   split
   ·exact hs
   ·exact h.del c.at_
  ·split
   ·exact hs
   ·exact⟨h.rem c.o,vd h c.o⟩
theorem okV.chg {v:VS}(h:okV v)(site:Int)(cl:Bool)(c:CALL):okV (bS site v cl c).1∧(bS site v cl c).1.out.length≤17:=by
 have hs:okV v.same∧v.same.out.length≤17:=⟨h.same,by simp[VS.same]⟩
 unfold bS
 split
 ·exact hs
 ·split
  ·exact hs
  ·split
   ·exact hs
   ·split
    ·exact h.wr site c
    ·exact hs
theorem GA (a b:RS):eqT Tryz.prog 3 73 [.int .i64 a.e,.int .i64 a.n,.string ⟨⟨a.t⟩⟩] [.int .i64 b.e,.int .i64 b.n,.string ⟨⟨b.t⟩⟩]=some (decide (a=b)):=by
 show some (decide (a.e=b.e)&&(decide (a.n=b.n)&&(((⟨⟨a.t⟩⟩:ByteArray).toList==(⟨⟨b.t⟩⟩:ByteArray).toList)&&true)))=_
 rw[ByteArray.toList_eq,ByteArray.toList_eq]
 obtain⟨a1,a2,a3⟩:=a
 obtain⟨b1,b2,b3⟩:=b
 by_cases h3:a3=b3<;>simp[h3]
theorem Ca:j7 Tryz.prog 3 73=true:=by kernel_rfl
theorem Ev:Tryz.prog.eqGuardType Tryz.prog.depth 73=false:=by kernel_rfl
theorem Ew (a b:RS):eqT Tryz.prog 3 114 [.int .i64 a.e,.int .i64 a.n,.string ⟨⟨a.t⟩⟩] [.int .i64 b.e,.int .i64 b.n,.string ⟨⟨b.t⟩⟩]=some (decide (a=b)):=by
 show some (decide (a.e=b.e)&&(decide (a.n=b.n)&&(((⟨⟨a.t⟩⟩:ByteArray).toList==(⟨⟨b.t⟩⟩:ByteArray).toList)&&true)))=_
 rw[ByteArray.toList_eq,ByteArray.toList_eq]
 obtain⟨a1,a2,a3⟩:=a
 obtain⟨b1,b2,b3⟩:=b
 by_cases h3:a3=b3<;>simp[h3]
theorem qT:j7 Tryz.prog 3 114=true:=by kernel_rfl
theorem uD:Tryz.prog.eqGuardType Tryz.prog.depth 114=false:=by kernel_rfl
def vY:CALL:=⟨0,0,97,OP0,⟨0,0⟩⟩
def Dm (k:Int):CALL:=⟨k,0,0,OP0,⟨0,0⟩⟩
def rA:VS×Bool×RS:=bS 1 vA0 false vY
theorem Gw:okV rA.1:=(wZ.chg 1 false vY).1
theorem EI:rA.2.2=⟨0,1,[43,49,46,49,32,45,32,54,49]⟩:=by decide+kernel
theorem Cn:rA.2.1=false:=by decide+kernel
theorem EJ:(bS 1 ⟨rA.1.s,rA.1.l,rA.1.R,[]⟩ false (Dm 3)).2.2=⟨0,0,[97]⟩:=by decide+kernel
theorem yd:Cv 56 [] (bv true):=by
 have hn:Cv 55 [iv 1] (.tup [rpv 1 vA0.s vA0.l vA0.R false,iv 0]):=AR 1
 have hd:=Au (s:=vA0.s) (l:=vA0.l) (R:=vA0.R) wZ 1 false vY
 have hl:=wc Gw.out 1 false (Dm 3)
 rw[EJ]at hl
 have e1:bS 1 ⟨vA0.s,vA0.l,vA0.R,[]⟩ false vY=rA:=rfl
 rw[e1]at hd
 rw[EI,Cn]at hd
 generalize rA=p at hd hl
 obtain⟨⟨v1,v2,v3,v4⟩,cl,x⟩:=p
 simp only at hd hl
 refine aD Tryz.f56 Tryz.func56 rfl rfl fun w H B g0=>?_
 (try refine WJ.cut ?_)
 (first|refine Sq.go ?_|refine af (Sq.go ?_)|skip)
 (try refine WJ.cut ?_)
 refine aa hn (fun _ _=>rfl) rfl rfl rfl ?_
 (repeat (first|refine Spl.t rfl ?_|refine Spl.f rfl ?_))
 (first|refine Sq.go ?_|refine af (Sq.go ?_)|skip)
 (try refine WJ.cut ?_)
 refine aa hd (fun _ _=>rfl) rfl rfl rfl ?_
 (repeat (first|refine Spl.t rfl ?_|refine Spl.f rfl ?_))
 (first|refine Sq.go ?_|refine af (Sq.go ?_)|skip)
 (try refine aq _ _ _ _ ?_)
 refine aa ye (fun _ _=>rfl) rfl rfl rfl ?_
 (repeat (first|refine Spl.t rfl ?_|refine Spl.f rfl ?_))
 refine aR (O.eqT 3 rfl rfl rfl rfl rfl Ca Ev (GA ⟨0,1,[43,49,46,49,32,45,32,54,49]⟩ ⟨0,1,[43,49,46,49,32,45,32,54,49]⟩)) rfl ?_
 refine Spl.t (by simp) ?_
 (repeat (first|refine Spl.t rfl ?_|refine Spl.f rfl ?_))
 refine aa hl (fun _ _=>rfl) rfl rfl rfl ?_
 (repeat (first|refine Spl.t rfl ?_|refine Spl.f rfl ?_))
 exact FinP.open rfl (congrArg bv (by simp))
end Go.Proofs.E
namespace Go.Proofs.E
attribute [local irreducible] elems
def D7 (c:CALL):Prop:=-9223372036854775808≤c.at_∧c.at_≤9223372036854775807
end Go.Proofs.E
namespace Go.Proofs.E
attribute [local irreducible] elems
end Go.Proofs.E
end
section
open Go Go.Gv
namespace Go.Proofs.E
structure TA where
 t:Int
 k:Int
 loc:Int
 deriving DecidableEq
def Cd (a b:TA):Prop:=a.t=b.t∨(a.k=3∧b.k=2∧a.loc=b.loc)
inductive HB (l:List TA):Nat→Nat→Prop
 |dir {i k:Nat} {a b:TA}:i<k→l[i]?=some a→l[k]?=some b→Cd a b→HB l i k
 |trans {i d k:Nat} {a b:TA}:HB l i d→d<k→l[d]?=some a→l[k]?=some b→Cd a b→HB l i k
theorem HB.lt {l:List TA}{i k:Nat}(h:HB l i k):i<k∧k<l.length:=by
 induction h with
 |dir h1 _ h3 _=>exact⟨h1,(List.getElem?_eq_some_iff.1 h3).1⟩
 |trans _ h1 _ h3 _ ih=>exact⟨by omega,(List.getElem?_eq_some_iff.1 h3).1⟩
theorem HB.tr {l:List TA}{i d k:Nat}(h:HB l i d)(h2:HB l d k):HB l i k:=by
 induction h2 with
 |dir h1 h3 h4 h5=>exact .trans h h1 h3 h4 h5
 |trans _ h1 h3 h4 h5 ih=>exact .trans ih h1 h3 h4 h5
theorem HB.app {l:List TA}{i k:Nat}(h:HB l i k)(r:List TA):HB (l++r) i k:=by
 induction h with
 |dir h1 h2 h3 h4=>exact .dir h1 (by rw[List.getElem?_append_left (List.getElem?_eq_some_iff.1 h2).1];exact h2) (by rw[List.getElem?_append_left (List.getElem?_eq_some_iff.1 h3).1];exact h3) h4
 |trans _ h1 h2 h3 h4 ih=>exact .trans ih h1 (by rw[List.getElem?_append_left (List.getElem?_eq_some_iff.1 h2).1];exact h2) (by rw[List.getElem?_append_left (List.getElem?_eq_some_iff.1 h3).1];exact h3) h4
theorem HB.pre {l r:List TA}{i k:Nat}(h:HB (l++r) i k):k<l.length→HB l i k:=by
 induction h with
 |dir h1 h2 h3 h4=>intro hk;exact .dir h1 (by rw[List.getElem?_append_left (by omega)]at h2;exact h2) (by rw[List.getElem?_append_left hk]at h3;exact h3) h4
 |trans _ h1 h2 h3 h4 ih=>intro hk;exact .trans (ih (by omega)) h1 (by rw[List.getElem?_append_left (by omega)]at h2;exact h2) (by rw[List.getElem?_append_left hk]at h3;exact h3) h4
theorem cu {α:Type}(l:List α)(a:α):(l++[a])[l.length]?=some a:=by simp
theorem ek {α:Type}{l:List α}{a:α}{i:Nat}{b:α}(h:l[i]?=some b):(l++[a])[i]?=some b:=by
 rw[List.getElem?_append_left (List.getElem?_eq_some_iff.1 h).1];exact h
theorem aX {α:Type}{l:List α}{a:α}{i:Nat}{b:α}(h:(l++[a])[i]?=some b):(i<l.length∧l[i]?=some b)∨(i=l.length∧b=a):=by
 have hi:=(List.getElem?_eq_some_iff.1 h).1
 rw[List.length_append]at hi
 simp only[List.length_cons,List.length_nil]at hi
 by_cases e:i<l.length
 ·rw[List.getElem?_append_left e]at h;exact .inl ⟨e,h⟩
 ·have e2:i=l.length:=by omega
  subst e2
  rw[cu]at h;exact .inr ⟨rfl,(Option.some.inj h).symm⟩
theorem lP {α:Type}{l:List α}{i:Nat}{b:α}(h:l[i]?=some b):i<l.length:=(List.getElem?_eq_some_iff.1 h).1
theorem HB.old {l:List TA}{a:TA}{i k:Nat}(hk:k<l.length):HB (l++[a]) i k↔HB l i k:=⟨fun h=>h.pre hk,fun h=>h.app _⟩
theorem HB.last {l:List TA}{a:TA}{i:Nat}:HB (l++[a]) i l.length↔∃(d:Nat)(b:TA),l[d]?=some b∧Cd b a∧(i=d∨HB l i d):=by
 constructor
 ·intro h
  generalize hn:l.length=n at h
  cases h with
  |dir h1 h2 h3 h4=>
   subst hn
   rw[cu]at h3;cases h3
   rw[List.getElem?_append_left h1]at h2
   exact⟨i,_,h2,h4,.inl rfl⟩
  |trans h0 h1 h2 h3 h4=>
   subst hn
   rw[cu]at h3;cases h3
   rw[List.getElem?_append_left h1]at h2
   exact⟨_,_,h2,h4,.inr (h0.pre h1)⟩
 ·rintro⟨d,b,h1,h2,rfl|h3⟩
  ·exact .dir (lP h1) (ek h1) (cu l a) h2
  ·exact .trans (h3.app _) (lP h1) (ek h1) (cu l a) h2
def iH (l:List TA)(t:Int):Int:=((l.filter fun a=>decide (a.t=t)).length:Nat)
theorem jh (l:List TA)(a:TA)(t:Int):iH (l++[a]) t=iH l t+(if a.t=t then 1 else 0):=by
 unfold iH
 rw[List.filter_append,List.length_append]
 by_cases h:a.t=t<;>simp[h]
def num (l:List TA)(i:Nat):Int:=match l[i]? with
 |some a=>iH (l.take (i+1)) a.t
 |none=>0
theorem ig {l:List TA}{a b:TA}{i:Nat}(h:l[i]?=some b):num (l++[a]) i=num l i:=by
 unfold num
 rw[ek h,h]
 simp only
 rw[List.take_append_of_le_length (by have:=lP h;omega)]
theorem yZ (l:List TA)(a:TA):num (l++[a]) l.length=iH l a.t+1:=by
 unfold num
 rw[cu]
 simp only
 rw[List.take_of_length_le (by simp),jh,if_pos rfl]
theorem xv (l:List TA)(t:Int)(i:Nat):iH (l.take i) t≤iH l t:=by
 unfold iH
 have:=List.Sublist.length_le ((List.take_sublist i l).filter fun a=>decide (a.t=t))
 omega
theorem D8 {l:List TA}{i:Nat}{a:TA}(h:l[i]?=some a):num l i≤iH l a.t:=by
 unfold num;rw[h];exact xv l _ _
def mx (a b:Int):Int:=if b>a then b else a
theorem vq (a b c:Int):c≤mx a b↔c≤a∨c≤b:=by unfold mx;split<;>omega
theorem FT (a b c:Int):mx a b≤c↔a≤c∧b≤c:=by unfold mx;split<;>omega
def eq (th sg:Int→Int→Int)(a:TA):Int→Int:=fun x=>(if a.k=2 then mx (th a.t x) (sg a.loc x)else th a.t x)+(if x=a.t then 1 else 0)
def thS (th sg:Int→Int→Int)(a:TA):Int→Int→Int:=fun t=>if t=a.t then eq th sg a else th t
def sgS (th sg:Int→Int→Int)(a:TA):Int→Int→Int:=fun loc=>if a.k=3∧loc=a.loc then fun x=>mx (sg loc x) (eq th sg a x)else sg loc
structure InvC (l:List TA)(th sg:Int→Int→Int)(cs:List (Int→Int)):Prop where
 len:cs.length=l.length
 kn:∀(t:Int)(i:Nat)(a:TA),l[i]?=some a→((∃(p:Nat)(b:TA),l[p]?=some b∧b.t=t∧(i=p∨HB l i p))↔num l i≤th t a.t)
 ks:∀(loc:Int)(i:Nat)(a:TA),l[i]?=some a→((∃(p:Nat)(b:TA),l[p]?=some b∧(b.k=3∧b.loc=loc)∧(i=p∨HB l i p))↔num l i≤sg loc a.t)
 bt:∀t x,th t x≤iH l x
 bs:∀loc x,sg loc x≤iH l x
 own:∀t,th t t=iH l t
 cl:∀(i:Nat)(c:Int→Int),cs[i]?=some c→∀(j:Nat)(b:TA),l[j]?=some b→j≤i→((j=i∨HB l j i)↔num l j≤c b.t)
 clo:∀(i:Nat)(a:TA)(c:Int→Int),l[i]?=some a→cs[i]?=some c→c a.t=num l i
theorem InvC.nil:InvC [] (fun _ _=>0) (fun _ _=>0) []:=
 ⟨rfl,fun _ _ _ h=>by simp at h,fun _ _ _ h=>by simp at h,fun _ _=>Int.le_refl _,fun _ _=>Int.le_refl _,fun _=>rfl,fun _ _ h=>by simp at h,fun _ _ _ h=>by simp at h⟩
theorem pK {l:List TA}{th sg:Int→Int→Int}{cs:List (Int→Int)}(h:InvC l th sg cs)(a:TA):eq th sg a a.t=iH l a.t+1:=by
 unfold eq
 rw[if_pos rfl]
 have h1:=h.own a.t
 have h2:=h.bs a.loc a.t
 split
 ·unfold mx;split<;>omega
 ·omega
theorem ze {l:List TA}{th sg:Int→Int→Int}{cs:List (Int→Int)}(h:InvC l th sg cs)(a:TA)(x:Int):eq th sg a x≤iH (l++[a]) x:=by
 rw[jh]
 unfold eq
 have h1:=h.bt a.t x
 have h2:=h.bs a.loc x
 have e:(if x=a.t then(1:Int)else 0)=if a.t=x then 1 else 0:=by
  by_cases q:x=a.t
  ·rw[if_pos q,if_pos q.symm]
  ·rw[if_neg q,if_neg fun e=>q e.symm]
 rw[e]
 split
 ·unfold mx;split<;>omega
 ·omega
theorem zf {l:List TA}{th sg:Int→Int→Int}{cs:List (Int→Int)}(h:InvC l th sg cs)(a:TA){j:Nat}{b:TA}(hj:l[j]?=some b):HB (l++[a]) j l.length↔num l j≤eq th sg a b.t:=by
 rw[HB.last]
 by_cases ht:b.t=a.t
 ·have h1:=pK h a
  rw[ht,h1]
  have h2:=D8 hj
  rw[ht]at h2
  exact⟨fun _=>by omega,fun _=>⟨j,b,hj,.inl ht,.inl rfl⟩⟩
 ·have e:eq th sg a b.t=if a.k=2 then mx (th a.t b.t) (sg a.loc b.t)else th a.t b.t:=by
   unfold eq;rw[if_neg ht,Int.add_zero]
  rw[e]
  have k1:=h.kn a.t j b hj
  have k2:=h.ks a.loc j b hj
  constructor
  ·rintro⟨d,c,h1,h2,h3⟩
   rcases h2 with h2|⟨h2,h4,h5⟩
   ·have:=k1.1 ⟨d,c,h1,h2,h3⟩
    split
    ·exact(vq _ _ _).2 (.inl this)
    ·exact this
   ·rw[if_pos h4]
    exact(vq _ _ _).2 (.inr (k2.1 ⟨d,c,h1,⟨h2,h5⟩,h3⟩))
  ·intro h0
   have h0:num l j≤th a.t b.t∨(a.k=2∧num l j≤sg a.loc b.t):=by
    split at h0
    ·next q=>exact((vq _ _ _).1 h0).elim .inl fun x=>.inr ⟨q,x⟩
    ·exact .inl h0
   rcases h0 with h0|⟨q,h0⟩
   ·obtain⟨p,c,h1,h2,h3⟩:=k1.2 h0
    exact⟨p,c,h1,.inl h2,h3⟩
   ·obtain⟨p,c,h1,⟨h2,h4⟩,h3⟩:=k2.2 h0
    exact⟨p,c,h1,.inr ⟨h2,q,h4⟩,h3⟩
theorem InvC.snoc {l:List TA}{th sg:Int→Int→Int}{cs:List (Int→Int)}(h:InvC l th sg cs)(a:TA):InvC (l++[a]) (thS th sg a) (sgS th sg a) (cs++[eq th sg a]):=by
 have hown:=pK h a
 have hle:=ze h a
 have hnum:=yZ l a
 have old:∀{i:Nat}{b:TA},l[i]?=some b→∀p:Nat,p<l.length→((i=p∨HB (l++[a]) i p)↔(i=p∨HB l i p)):=fun hi p hp=>or_congr_right (HB.old hp)
 have new:∀(i:Nat)(b:TA),(l++[a])[i]?=some b→((i=l.length∨HB (l++[a]) i l.length)↔num (l++[a]) i≤eq th sg a b.t):=fun i b hi=>by
  rcases aX hi with⟨hlt,hi⟩|⟨rfl,rfl⟩
  ·rw[ig hi,←zf h a hi]
   exact⟨fun x=>x.resolve_left (by omega),.inr⟩
  ·rw[hnum,hown]
   exact⟨fun _=>Int.le_refl _,fun _=>.inl rfl⟩
 have cmono:∀x,iH l x≤iH (l++[a]) x:=fun x=>by rw[jh];split<;>omega
 refine⟨by simp[h.len],fun t i b hi=>?_,fun loc i b hi=>?_,fun t x=>?_,fun loc x=>?_,fun t=>?_,fun i c hc j b hj hji=>?_,fun i b c hi hc=>?_⟩
 ·by_cases ht:t=a.t
  ·have e:thS th sg a t=eq th sg a:=if_pos ht
   rw[e,←new i b hi]
   constructor
   ·rintro⟨p,c,h1,h2,h3⟩
    rcases aX h1 with⟨hp,h1⟩|⟨rfl,rfl⟩
    ·right
     have hd:Cd c a:=.inl (h2.trans ht)
     rcases h3 with rfl|h3
     ·exact HB.last.2 ⟨_,c,h1,hd,.inl rfl⟩
     ·exact HB.last.2 ⟨p,c,h1,hd,.inr (h3.pre hp)⟩
    ·exact h3
   ·intro h3
    exact⟨l.length,a,cu l a,ht.symm,h3⟩
  ·have e:thS th sg a t=th t:=if_neg ht
   rw[e]
   rcases aX hi with⟨hlt,hi'⟩|⟨rfl,rfl⟩
   ·rw[ig hi',←h.kn t i b hi']
    constructor
    ·rintro⟨p,c,h1,h2,h3⟩
     rcases aX h1 with⟨hp,h1⟩|⟨rfl,rfl⟩
     ·exact⟨p,c,h1,h2,(old hi' p hp).1 h3⟩
     ·exact absurd h2.symm ht
    ·rintro⟨p,c,h1,h2,h3⟩
     exact⟨p,c,ek h1,h2,(old hi' p (lP h1)).2 h3⟩
   ·rw[hnum]
    have:=h.bt t b.t
    constructor
    ·rintro⟨p,c,h1,h2,h3⟩
     rcases aX h1 with⟨hp,h1⟩|⟨rfl,rfl⟩
     ·rcases h3 with h3|h3
      ·omega
      ·have:=h3.lt;omega
     ·exact absurd h2.symm ht
    ·intro;omega
 ·by_cases hl:a.k=3∧loc=a.loc
  ·have e:sgS th sg a loc=fun x=>mx (sg loc x) (eq th sg a x):=if_pos hl
   rw[e]
   simp only
   rw[vq]
   constructor
   ·rintro⟨p,c,h1,h2,h3⟩
    rcases aX h1 with⟨hp,h1⟩|⟨rfl,rfl⟩
    ·left
     rcases aX hi with⟨hlt,hi'⟩|⟨rfl,rfl⟩
     ·rw[ig hi']
      exact(h.ks loc i b hi').1 ⟨p,c,h1,h2,(old hi' p hp).1 h3⟩
     ·rcases h3 with h3|h3
      ·omega
      ·have:=h3.lt;omega
    ·exact .inr ((new i b hi).1 h3)
   ·rintro(h3|h3)
    ·rcases aX hi with⟨hlt,hi'⟩|⟨rfl,rfl⟩
     ·rw[ig hi']at h3
      obtain⟨p,c,h1,h2,h4⟩:=(h.ks loc i b hi').2 h3
      exact⟨p,c,ek h1,h2,(old hi' p (lP h1)).2 h4⟩
     ·rw[hnum]at h3
      have:=h.bs loc b.t
      omega
    ·exact⟨l.length,a,cu l a,⟨hl.1,hl.2.symm⟩,(new i b hi).2 h3⟩
  ·have e:sgS th sg a loc=sg loc:=if_neg hl
   rw[e]
   rcases aX hi with⟨hlt,hi'⟩|⟨rfl,rfl⟩
   ·rw[ig hi',←h.ks loc i b hi']
    constructor
    ·rintro⟨p,c,h1,h2,h3⟩
     rcases aX h1 with⟨hp,h1⟩|⟨rfl,rfl⟩
     ·exact⟨p,c,h1,h2,(old hi' p hp).1 h3⟩
     ·exact absurd ⟨h2.1,h2.2.symm⟩ hl
    ·rintro⟨p,c,h1,h2,h3⟩
     exact⟨p,c,ek h1,h2,(old hi' p (lP h1)).2 h3⟩
   ·rw[hnum]
    have:=h.bs loc b.t
    constructor
    ·rintro⟨p,c,h1,h2,h3⟩
     rcases aX h1 with⟨hp,h1⟩|⟨rfl,rfl⟩
     ·rcases h3 with h3|h3
      ·omega
      ·have:=h3.lt;omega
     ·exact absurd ⟨h2.1,h2.2.symm⟩ hl
    ·intro;omega
 ·unfold thS
  split
  ·exact hle x
  ·have:=h.bt t x;have:=cmono x;omega
 ·unfold sgS
  split
  ·have:=h.bs loc x;have:=cmono x
   exact(FT _ _ _).2 ⟨by omega,hle x⟩
  ·have:=h.bs loc x;have:=cmono x;omega
 ·unfold thS
  by_cases ht:t=a.t
  ·rw[if_pos ht,ht,hown,jh,if_pos rfl]
  ·rw[if_neg ht,h.own,jh,if_neg fun e=>ht e.symm,Int.add_zero]
 ·rcases aX hc with⟨hlt,hc'⟩|⟨rfl,rfl⟩
  ·rw[h.len]at hlt
   rcases aX hj with⟨_,hj'⟩|⟨rfl,rfl⟩
   ·rw[ig hj',←h.cl i c hc' j b hj' hji,HB.old hlt]
   ·omega
  ·rw[h.len]
   exact new j b hj
 ·rcases aX hc with⟨hlt,hc'⟩|⟨rfl,rfl⟩
  ·rw[h.len]at hlt
   rcases aX hi with⟨_,hi'⟩|⟨rfl,rfl⟩
   ·rw[ig hi'];exact h.clo i b c hi' hc'
   ·omega
  ·rw[h.len]at hi ⊢
   rw[cu]at hi;cases hi
   rw[hown,hnum]
theorem Ft {l:List TA}{th sg:Int→Int→Int}{cs:List (Int→Int)}(h:InvC l th sg cs){i k:Nat}{a:TA}{ci ck:Int→Int}(hi:l[i]?=some a)(hci:cs[i]?=some ci)(hck:cs[k]?=some ck):HB l i k↔i<k∧ci a.t≤ck a.t:=by
 rw[h.clo i a ci hi hci]
 constructor
 ·intro h1
  have hlt:=h1.lt.1
  exact⟨hlt,(h.cl k ck hck i a hi (by omega)).1 (.inr h1)⟩
 ·rintro⟨h1,h2⟩
  exact((h.cl k ck hck i a hi (by omega)).2 h2).resolve_left (by omega)
end Go.Proofs.E
end
section
open Go Go.Gv
attribute [local irreducible] Go.Gv.WJ Go.Gv.OpJ Go.Gv.QJ Go.Gv.Spl Go.Gv.Req Go.Gv.IdxP Go.Gv.RegP Go.Gv.FinP Go.Gv.CellP Go.Gv.CellsP Go.Gv.ArrP Go.Gv.ArrsP Go.Gv.DropP Go.Gv.ByteP Go.Gv.StoreP
set_option maxRecDepth 100000
namespace Go.Proofs.E
def di (x:Int):List D:=[.v (.int .i64 x)]
abbrev clv (c:List Int):AV:=.d (.sl 1 (c.map di))
def bP (c:List Int)(i:Int):Int:=if 0≤i then c.getD i.toNat 0 else 0
theorem ut {c:List Int}{i:Nat}(h:i<c.length):(c.map di)[i]?=some (di (c.getD i 0)):=by simp[List.getD_eq_getElem?_getD,h]
theorem zQ (c:List Int)(i:Nat):bP c i=c.getD i 0:=by simp[bP]
theorem rz (c:List Int)(i:Int):Cv 131 [clv c,iv i] (iv (bP c i)):=by
 refine ab Tryz.f131 Tryz.func131 rfl rfl fun w H B g0=>?_
 refine Spl.of (fun h=>?_) (fun h=>?_)
 ·have h:=of_decide_eq_true h
  (repeat (first|refine Spl.t rfl ?_|refine Spl.f rfl ?_))
  exact FinP.open rfl (congrArg iv (by simp[bP,show¬0≤i from by omega]))
 ·have h:=of_decide_eq_false h
  (repeat (first|refine Spl.t rfl ?_|refine Spl.f rfl ?_))
  refine Spl.of (fun h1=>?_) (fun h1=>?_)
  ·have h1:=of_decide_eq_true h1
   simp at h1
   (repeat (first|refine Spl.t rfl ?_|refine Spl.f rfl ?_))
   refine FinP.open rfl (congrArg iv ?_)
   rw[bP,if_pos (by omega),List.getD_eq_getElem?_getD,List.getElem?_eq_none (by omega)];rfl
  ·have h1:=of_decide_eq_false h1
   simp at h1
   (repeat (first|refine Spl.t rfl ?_|refine Spl.f rfl ?_))
   refine IdxP.of (di (c.getD i.toNat 0)) (by omega) (ut (by omega)) ?_
   exact FinP.open rfl (congrArg iv (by rw[bP,if_pos (by omega)]))
theorem ya (c:List Int)(hc:c.length≤1000000):Ct tab Tryz.prog 207 [clv c] [] (fun q σ'=>(q=.arr 7 1 c.length∧σ'=[(7,.arr 1 (c.map di))])∨(c=[]∧q=.d (.v (.slice none 0 0))∧σ'=[])):=by
 refine ab Tryz.f207 Tryz.func207 rfl rfl fun w H B g0=>?_
 refine na rfl rfl rfl rfl fun b hb=>?_
 cases b with
 |true=>
  have h1:=hb rfl
  have h2:c=[]:=by simpa using h1
  (repeat (first|refine Spl.t rfl ?_|refine Spl.f rfl ?_))
  exact FinP.open rfl (.inr ⟨h2,rfl,rfl⟩)
 |false=>
  (repeat (first|refine Spl.t rfl ?_|refine Spl.f rfl ?_))
  refine O.appF rfl rfl (.full _ _) rfl rfl rfl rfl (by show 0+_≤_;rw[List.length_map];omega) (.inr rfl) ?_
  (repeat (first|refine Spl.t rfl ?_|refine Spl.f rfl ?_))
  refine bg [(7,.arr 1 (c.map di))] (Wk.cons rfl (Wk.nil _)) rfl (.inl ⟨?_,rfl⟩)
  show AV.arr 7 1 (0+_)=_
  rw[List.length_map,Nat.zero_add]
def ce (c:List Int)(n:Int):List Int:=c++List.replicate (n.toNat-c.length) 0
theorem fd (c:List Int)(n:Int):(ce c n).length=max c.length n.toNat:=by simp[ce];omega
theorem jP (c:List Int)(n:Int)(i:Nat):(ce c n).getD i 0=c.getD i 0:=by
 simp only[ce,List.getD_eq_getElem?_getD]
 by_cases h:i<c.length
 ·rw[List.getElem?_append_left h]
 ·rw[List.getElem?_append_right (by omega),List.getElem?_eq_none (l:=c) (by omega),List.getElem?_replicate]
  split<;>rfl
theorem te (c:List Int)(n:Int)(hc:c.length≤1000000)(hn:n≤1000000):Ct tab Tryz.prog 166 [clv c,iv n] [] (fun q σ'=>q=.arr 7 1 (ce c n).length∧σ'=[(7,.arr 1 ((ce c n).map di))]):=by
 refine ab Tryz.f166 Tryz.func166 rfl rfl fun w H B g0=>?_
 refine OpJ.call (ya c hc) (fun _ _=>rfl) rfl rfl (Wk.nil _) ?_
 rintro q σ' (⟨rfl,rfl⟩|⟨h0,rfl,rfl⟩)
 ·refine⟨rfl,?_⟩
  refine WJ.shift (SJ.wk (t':=[(1,iv n),(5,.arr 7 1 c.length)]) (σ':=[(7,.arr 1 (c.map di))]) (Wk.cons rfl (Wk.cons rfl (Wk.nil _))) (Wk.cons rfl (Wk.nil _))) ?_
  refine ax (V:=Nat) (fun k=>[(5,.arr 7 1 (c.length+k))]) (fun k=>[(7,.arr 1 ((c++List.replicate k 0).map di))]) [7] (fun k=>n.toNat-c.length-k) (fun k=>k≤n.toNat-c.length) 0 (Nat.zero_le _) (by repeat' (first|exact trivial|exact rfl|refine And.intro ?_ ?_)) ⟨by show some (Ent.arr 1 _)=_;simp,trivial⟩ ?_
  intro k hk
  refine Spl.of (fun h=>?_) (fun h=>?_)
  ·have h:=of_decide_eq_true h
   (repeat (first|refine Spl.t rfl ?_|refine Spl.f rfl ?_))
   refine Req.of ⟨by simp,?_⟩ ?_
   ·show c.length+k+1≤1000000000;omega
   refine⟨k+1,by omega,by omega,(by repeat' (first|exact trivial|exact rfl|refine And.intro ?_ ?_)),(by repeat' (first|exact trivial|exact rfl|refine And.intro ?_ ?_)),⟨?_,trivial⟩,(by repeat' (first|exact trivial|exact rfl|refine And.intro ?_ ?_))⟩
   show some (Ent.arr 1 (_++[di 0]))=_
   rw[List.replicate_succ',←List.append_assoc,List.map_append (l₂:=[(0:Int)])];rfl
  ·have h:=of_decide_eq_false h
   obtain rfl:k=n.toNat-c.length:=by omega
   (repeat (first|refine Spl.t rfl ?_|refine Spl.f rfl ?_))
   refine bg [(7,.arr 1 ((ce c n).map di))] (Wk.cons rfl (Wk.nil _)) rfl ⟨?_,rfl⟩
   show AV.arr 7 1 _=_
   simp[ce]
 ·refine⟨rfl,?_⟩
  refine WJ.shift (fm 7 5 1 rfl rfl) ?_
  refine ax (V:=Nat) (fun k=>[(5,.arr 7 1 (c.length+k))]) (fun k=>[(7,.arr 1 ((c++List.replicate k 0).map di))]) [7] (fun k=>n.toNat-c.length-k) (fun k=>k≤n.toNat-c.length) 0 (Nat.zero_le _) ⟨by rw[h0];rfl,trivial⟩ ⟨by rw[h0];rfl,trivial⟩ ?_
  intro k hk
  refine Spl.of (fun h=>?_) (fun h=>?_)
  ·have h:=of_decide_eq_true h
   (repeat (first|refine Spl.t rfl ?_|refine Spl.f rfl ?_))
   refine Req.of ⟨by simp,?_⟩ ?_
   ·show c.length+k+1≤1000000000;omega
   refine⟨k+1,by omega,by omega,(by repeat' (first|exact trivial|exact rfl|refine And.intro ?_ ?_)),(by repeat' (first|exact trivial|exact rfl|refine And.intro ?_ ?_)),⟨?_,trivial⟩,(by repeat' (first|exact trivial|exact rfl|refine And.intro ?_ ?_))⟩
   show some (Ent.arr 1 (_++[di 0]))=_
   rw[List.replicate_succ',←List.append_assoc,List.map_append (l₂:=[(0:Int)])];rfl
  ·have h:=of_decide_eq_false h
   obtain rfl:k=n.toNat-c.length:=by omega
   (repeat (first|refine Spl.t rfl ?_|refine Spl.f rfl ?_))
   refine bg [(7,.arr 1 ((ce c n).map di))] (Wk.cons rfl (Wk.nil _)) rfl ⟨?_,rfl⟩
   show AV.arr 7 1 _=_
   simp[ce]
end Go.Proofs.E
namespace Go.Proofs.E
def w64 (x:Int):Int:=IntKind.i64.wrap x
def nk (c:List Int)(i:Int):List Int:=if 0≤i∧i<16 then(ce c (i+1)).set i.toNat (w64 ((ce c (i+1)).getD i.toNat 0+1))else ce c 0
def jn (w d:List Int)(k:Nat):List Int:=w.mapIdx fun i x=>if i<k then mx x (bP d i)else x
def da (c d:List Int):List Int:=jn (ce c d.length) d (ce c d.length).length
theorem BS (w d:List Int):jn w d 0=w:=by
 apply List.ext_getElem?
 intro i
 simp[jn]
theorem qO (w d:List Int)(k:Nat):(jn w d k).length=w.length:=by simp[jn]
theorem Ek (w d:List Int)(k:Nat)(h:k<w.length):(jn w d k)[k]?=some (w.getD k 0):=by
 simp[jn,List.getD_eq_getElem?_getD,h]
theorem Ej (w d:List Int)(k:Nat)(h:k<w.length):(jn w d k).set k (mx (w.getD k 0) (bP d k))=jn w d (k+1):=by
 apply List.ext_getElem?
 intro i
 rw[List.getElem?_set]
 simp only[jn,List.length_mapIdx,List.getElem?_mapIdx]
 by_cases e:k=i
 ·subst e
  simp[h,List.getD_eq_getElem?_getD]
 ·rw[if_neg e]
  by_cases h1:i<k
  ·simp[h1,show i<k+1 from by omega]
  ·simp[h1,show¬i<k+1 from by omega]
theorem lN (c d:List Int):(da c d).length=max c.length d.length:=by rw[da,qO,fd];omega
theorem ww (c:List Int){i:Int}(h0:0≤i)(h1:i<16):(nk c i).length=max c.length (i.toNat+1):=by
 rw[nk,if_pos ⟨h0,h1⟩,List.length_set,fd];omega
theorem lQ {c:List Int}{i:Nat}(h:c.length≤i):c.getD i 0=0:=by rw[List.getD_eq_getElem?_getD,List.getElem?_eq_none h];rfl
theorem sz (c d:List Int)(x:Int):bP (da c d) x=mx (bP c x) (bP d x):=by
 by_cases h0:0≤x
 ·rw[bP,bP,bP,if_pos h0,if_pos h0,if_pos h0]
  generalize x.toNat=i
  by_cases h:i<(ce c d.length).length
  ·have:(da c d)[i]?=some (mx ((ce c d.length).getD i 0) (bP d i)):=by
    simp[da,jn,h,List.getD_eq_getElem?_getD]
   rw[List.getD_eq_getElem?_getD,this,Option.getD_some,jP,zQ]
  ·have h':=h
   rw[fd]at h'
   rw[lQ (by rw[lN];omega),lQ (by omega),lQ (by omega)]
   rfl
 ·rw[bP,bP,bP,if_neg h0,if_neg h0,if_neg h0];rfl
theorem yn {c:List Int}{i:Int}(h0:0≤i)(h1:i<16)(x:Int)(hb:-1000000≤bP c i∧bP c i≤1000000):bP (nk c i) x=bP c x+(if x=i then 1 else 0):=by
 have hl:=fd c (i+1)
 rw[nk,if_pos ⟨h0,h1⟩,jP]
 by_cases hx:x=i
 ·subst hx
  rw[if_pos rfl,bP,if_pos h0,List.getD_eq_getElem?_getD,List.getElem?_set,if_pos rfl,if_pos (by omega),Option.getD_some,bP,if_pos h0]
  rw[bP,if_pos h0]at hb
  exact ah _ (by omega) (by omega)
 ·rw[if_neg hx,Int.add_zero]
  by_cases h2:0≤x
  ·rw[bP,bP,if_pos h2,if_pos h2,List.getD_eq_getElem?_getD,List.getElem?_set,if_neg (by omega),←List.getD_eq_getElem?_getD,jP]
  ·rw[bP,bP,if_neg h2,if_neg h2]
theorem yy (W:List Int)(i:Nat)(v:Int):(W.map di).set i (di v)=(W.set i v).map di:=by rw[List.map_set]
theorem Ag (c:List Int)(i:Int)(hc:c.length≤1000000)(h0:0≤i)(h1:i<16):Cv 130 [clv c,iv i] (clv (nk c i)):=by
 have hw:IntKind.i64.wrap (i+1)=i+1:=ah _ (by omega) (by omega)
 have hwd:=te c (i+1) hc (by omega)
 have hl:=fd c (i+1)
 have e:nk c i=(ce c (i+1)).set i.toNat (w64 ((ce c (i+1)).getD i.toNat 0+1)):=if_pos ⟨h0,h1⟩
 have hg:(ce c (i+1))[i.toNat]?=some ((ce c (i+1)).getD i.toNat 0):=by
  rw[List.getD_eq_getElem?_getD,List.getElem?_eq_getElem (by omega)];rfl
 rw[e]
 rw[←hw]at hwd
 refine ab Tryz.f130 Tryz.func130 rfl rfl fun w H B g0=>?_
 refine Spl.f (decide_eq_false (by omega)) ?_
 (repeat (first|refine Spl.t rfl ?_|refine Spl.f rfl ?_))
 refine Spl.f (decide_eq_false (by omega)) ?_
 (repeat (first|refine Spl.t rfl ?_|refine Spl.f rfl ?_))
 refine OpJ.call hwd (fun _ _=>rfl) rfl rfl (Wk.nil _) ?_
 rw[hw]
 generalize ce c (i+1)=W at hl hg ⊢
 rintro q σ' ⟨rfl,rfl⟩
 refine⟨rfl,?_⟩
 (repeat (first|refine Spl.t rfl ?_|refine Spl.f rfl ?_))
 have hg2:(W.map di)[i.toNat]?=some (di (W.getD i.toNat 0)):=ut (by omega)
 refine Req.of ⟨h0,by omega⟩ ?_
 refine ArrP.of i.toNat 0 _ (.v (.int .i64 (W.getD i.toNat 0))) (by show i.toNat*1=_;omega) hg2 rfl ?_
 (repeat (first|refine Spl.t rfl ?_|refine Spl.f rfl ?_))
 refine Req.of ⟨h0,by omega⟩ ?_
 refine StoreP.of i.toNat 0 _ (by show i.toNat*1=_;omega) hg2 (Nat.le_refl 1) rfl ?_
 (repeat (first|refine Spl.t rfl ?_|refine Spl.f rfl ?_))
 refine FinP.pubA 7 rfl (by simp) (by omega) ?_
 refine FinP.open rfl ?_
 rw[List.take_of_length_le (by simp)]
 exact congrArg (fun x=>AV.d (D.sl 1 x)) (yy W i.toNat _)
theorem lm (c d:List Int)(hc:c.length≤1000000)(hd:d.length≤1000000):Cv 129 [clv c,clv d] (clv (da c d)):=by
 have hl:=fd c d.length
 have hld:((d.map di).length:Int)=(d.length:Int):=by rw[List.length_map]
 have hwd:=te c ((d.map di).length:Nat) hc (by omega)
 have hw:ce c ((d.map di).length:Nat)=ce c d.length:=by rw[hld]
 rw[hw]at hwd
 refine ab Tryz.f129 Tryz.func129 rfl rfl fun w H B g0=>?_
 refine OpJ.call hwd (fun _ _=>rfl) rfl rfl (Wk.nil _) ?_
 have hj:da c d=jn (ce c d.length) d (ce c d.length).length:=rfl
 rw[hj]
 generalize ce c d.length=W at hl ⊢
 rintro q σ' ⟨rfl,rfl⟩
 refine⟨rfl,?_⟩
 refine ax (V:=Nat) (fun k=>[(12,iv W.length),(13,iv k)]) (fun k=>[(7,.arr 1 ((jn W d k).map di))]) [7] (fun k=>W.length-k) (fun k=>k≤W.length) 0 (Nat.zero_le _) (by repeat' (first|exact trivial|exact rfl|refine And.intro ?_ ?_)) ⟨by rw[BS];rfl,trivial⟩ ?_
 intro k hk
 refine Spl.of (fun h=>?_) (fun h=>?_)
 ·have h:=of_decide_eq_true h
  have hlt:k<W.length:=by omega
  have hjl:=qO W d k
  have hg:=Ek W d k hlt
  have hg2:((jn W d k).map di)[k]?=some (di (W.getD k 0)):=by rw[List.getElem?_map,hg];rfl
  (repeat (first|refine Spl.t rfl ?_|refine Spl.f rfl ?_))
  refine RegP.mixE 0 10 [] rfl (by decide+kernel) ?_
  refine Req.of ⟨by omega,by omega⟩ ?_
  refine ArrP.of k 0 _ (.v (.int .i64 (W.getD k 0))) (by show(k:Int).toNat*1=_;omega) hg2 rfl ?_
  refine QuietP.of (QJ.call (rz d k) (fun _ _=>rfl) rfl rfl) ?_
  refine Req.of ⟨by omega,by omega⟩ ?_
  refine StoreP.of k 0 _ (by show(k:Int).toNat*1=_;omega) hg2 (Nat.le_refl 1) rfl ?_
  (repeat' (refine And.intro ?_ ?_))
  (repeat (first|refine Spl.t rfl ?_|refine Spl.f rfl ?_))
  all_goals first|exact trivial|skip
  refine⟨k+1,by omega,by omega,⟨rfl,ao (ah _ (by omega) (by omega)),trivial⟩,(by repeat' (first|exact trivial|exact rfl|refine And.intro ?_ ?_)),⟨?_,trivial⟩,(by repeat' (first|exact trivial|exact rfl|refine And.intro ?_ ?_))⟩
  show some (Ent.arr 1 (List.set _ _ (di _)))=_
  rw[yy]
  exact congrArg (fun x=>some (Ent.arr 1 (x.map di))) (Ej W d k hlt)
 ·have h:=of_decide_eq_false h
  obtain rfl:k=W.length:=by omega
  (repeat (first|refine Spl.t rfl ?_|refine Spl.f rfl ?_))
  refine FinP.pubA 7 rfl (by rw[List.length_map,qO];exact Nat.le_refl _) (by omega) ?_
  refine FinP.open rfl ?_
  rw[List.take_of_length_le (by rw[List.length_map,qO];exact Nat.le_refl _)]
end Go.Proofs.E
namespace Go.Proofs.E
def dt (a:TA):Bool:=decide (0≤a.t)&&decide (a.t<16)&&decide (0≤a.k)&&decide (a.k≤3)
theorem gK (a:TA):dt a=true↔0≤a.t∧a.t<16∧0≤a.k∧a.k≤3:=by
 unfold dt
 rw[Bool.and_eq_true,Bool.and_eq_true,Bool.and_eq_true,decide_eq_true_iff,decide_eq_true_iff,decide_eq_true_iff,decide_eq_true_iff]
 exact⟨fun⟨⟨⟨h1,h2⟩,h3⟩,h4⟩=>⟨h1,h2,h3,h4⟩,fun⟨h1,h2,h3,h4⟩=>⟨⟨⟨h1,h2⟩,h3⟩,h4⟩⟩
structure CS where
 th:List (List Int)
 sg:List (Int×List Int)
 cs:List (List Int)
def CS.c0 (s:CS)(a:TA):List Int:=s.th.getD a.t.toNat []
def CS.g (s:CS)(loc:Int):List Int:=(aO loc s.sg).getD []
def CS.c1 (s:CS)(a:TA):List Int:=if a.k=2 then da (s.c0 a) (s.g a.loc)else s.c0 a
def CS.c (s:CS)(a:TA):List Int:=nk (s.c1 a) a.t
def CS.step (s:CS)(a:TA):CS:=⟨s.th.set a.t.toNat (s.c a),if a.k=3 then ea a.loc (da (s.g a.loc) (s.c a)) s.sg else s.sg,s.cs++[s.c a]⟩
def iL (l:List TA):CS:=l.foldl CS.step ⟨List.replicate 16 [],[],[]⟩
theorem pB (l:List TA)(a:TA):iL (l++[a])=(iL l).step a:=by unfold iL;rw[List.foldl_append];rfl
structure CInv (l:List TA)(s:CS)(th sg:Int→Int→Int):Prop where
 inv:InvC l th sg (s.cs.map bP)
 ht:∀t:Int,0≤t→t<16→∀x,bP (s.th.getD t.toNat []) x=th t x
 hs:∀loc x,bP (s.g loc) x=sg loc x
 nt:∀t x,0≤th t x
 ns:∀t x,0≤sg t x
 n16:s.th.length=16
 lt:∀i:Nat,(s.th.getD i []).length≤16
 ls:∀loc,(s.g loc).length≤16
theorem CInv.nil:CInv [] ⟨List.replicate 16 [],[],[]⟩ (fun _ _=>0) (fun _ _=>0):=by
 have e:∀i:Nat,(List.replicate 16 ([]:List Int)).getD i []=[]:=fun i=>by
  rw[List.getD_eq_getElem?_getD,List.getElem?_replicate]
  split<;>rfl
 have e2:∀x,bP [] x=0:=fun x=>by unfold bP;split<;>rfl
 exact⟨InvC.nil,fun t _ _ x=>by rw[e];exact e2 x,fun loc x=>e2 x,fun _ _=>Int.le_refl _,fun _ _=>Int.le_refl _,rfl,fun i=>by rw[e];decide,fun loc=>by show([]:List Int).length≤16;decide⟩
theorem Ck (l:List TA)(t:Int):iH l t≤l.length:=by
 unfold iH
 have:=List.length_filter_le (fun a:TA=>decide (a.t=t)) l
 omega
theorem Dh {a b:Int}(ha:0≤a)(hb:0≤b):0≤mx a b:=by unfold mx;split<;>omega
theorem CInv.c1 {l:List TA}{s:CS}{th sg:Int→Int→Int}(h:CInv l s th sg){a:TA}(ha:dt a=true)(x:Int):bP (s.c1 a) x=if a.k=2 then mx (th a.t x) (sg a.loc x)else th a.t x:=by
 obtain⟨h1,h2,_,_⟩:=(gK a).1 ha
 unfold CS.c1
 split
 ·rw[sz,h.hs]
  unfold CS.c0
  rw[h.ht a.t h1 h2]
 ·exact h.ht a.t h1 h2 x
theorem CInv.c1_len {l:List TA}{s:CS}{th sg:Int→Int→Int}(h:CInv l s th sg)(a:TA):(s.c1 a).length≤16:=by
 have h1:=h.lt a.t.toNat
 have h2:=h.ls a.loc
 unfold CS.c1
 split
 ·rw[lN];unfold CS.c0;omega
 ·exact h1
theorem CInv.c_len {l:List TA}{s:CS}{th sg:Int→Int→Int}(h:CInv l s th sg){a:TA}(ha:dt a=true):(s.c a).length≤16:=by
 obtain⟨h1,h2,_,_⟩:=(gK a).1 ha
 have:=h.c1_len a
 unfold CS.c
 rw[ww _ h1 h2];omega
theorem CInv.c {l:List TA}{s:CS}{th sg:Int→Int→Int}(h:CInv l s th sg){a:TA}(ha:dt a=true)(hl:l.length≤1000)(x:Int):bP (s.c a) x=eq th sg a x:=by
 obtain⟨h1,h2,_,_⟩:=(gK a).1 ha
 have hb:0≤bP (s.c1 a) a.t∧bP (s.c1 a) a.t≤1000:=by
  have b1:=h.inv.bt a.t a.t
  have b2:=h.inv.bs a.loc a.t
  have b3:=Ck l a.t
  have b4:=h.nt a.t a.t
  have b5:=h.ns a.loc a.t
  rw[h.c1 ha]
  split
  ·unfold mx;split<;>omega
  ·omega
 unfold CS.c
 rw[yn h1 h2 x (by omega),h.c1 ha]
 rfl
theorem CInv.snoc {l:List TA}{s:CS}{th sg:Int→Int→Int}(h:CInv l s th sg){a:TA}(ha:dt a=true)(hl:l.length≤1000):CInv (l++[a]) (s.step a) (thS th sg a) (sgS th sg a):=by
 obtain⟨h1,h2,_,_⟩:=(gK a).1 ha
 have hc:=h.c ha hl
 have hcl:=h.c_len ha
 have hcf:bP (s.c a)=eq th sg a:=funext hc
 have hg:∀loc,(s.step a).g loc=if a.k=3∧loc=a.loc then da (s.g a.loc) (s.c a)else s.g loc:=fun loc=>by
  unfold CS.g CS.step
  simp only
  by_cases h3:a.k=3
  ·rw[if_pos h3,fM]
   by_cases h4:loc=a.loc
   ·rw[if_pos h4,if_pos ⟨h3,h4⟩];rfl
   ·rw[if_neg h4,if_neg fun e=>h4 e.2]
  ·rw[if_neg h3,if_neg fun e=>h3 e.1]
 have hth:∀i:Nat,(s.step a).th.getD i []=if a.t.toNat=i then s.c a else s.th.getD i []:=fun i=>by
  show(s.th.set a.t.toNat (s.c a)).getD i []=_
  rw[List.getD_eq_getElem?_getD,List.getElem?_set]
  by_cases h3:a.t.toNat=i
  ·have:=h.n16
   rw[if_pos h3,if_pos h3,if_pos (by omega)];rfl
  ·rw[if_neg h3,if_neg h3,List.getD_eq_getElem?_getD]
 have hk:∀x,0≤eq th sg a x:=fun x=>by
  unfold eq
  have b4:=h.nt a.t x
  have b5:=Dh b4 (h.ns a.loc x)
  split<;>split<;>omega
 refine⟨?_,fun t t0 t1 x=>?_,fun loc x=>?_,fun t x=>?_,fun t x=>?_,?_,fun i=>?_,fun loc=>?_⟩
 ·show InvC _ _ _ ((s.cs++[s.c a]).map bP)
  rw[List.map_append,List.map_singleton,hcf]
  exact h.inv.snoc a
 ·rw[hth]
  unfold thS
  by_cases e:t=a.t
  ·rw[if_pos (by rw[e]),if_pos e];exact hc x
  ·rw[if_neg (by omega),if_neg e];exact h.ht t t0 t1 x
 ·rw[hg]
  unfold sgS
  split
  ·next q=>rw[sz,h.hs,hc,q.2]
  ·exact h.hs loc x
 ·unfold thS
  split
  ·exact hk x
  ·exact h.nt t x
 ·unfold sgS
  split
  ·exact Dh (h.ns _ _) (hk x)
  ·exact h.ns t x
 ·show(s.th.set _ _).length=16
  rw[List.length_set];exact h.n16
 ·rw[hth]
  split
  ·exact hcl
  ·exact h.lt i
 ·rw[hg]
  split
  ·rw[lN]
   have:=h.ls a.loc
   omega
  ·exact h.ls loc
theorem jR {l:List TA}{i:Nat}{a:TA}(h:l[i]?=some a):l.take (i+1)=l.take i++[a]:=by rw[List.take_add_one,h];rfl
theorem Ds {l:List TA}(hl:l.length≤1000):∀n:Nat,n≤l.length→(∀a,a∈l.take n→dt a=true)→∃th sg,CInv (l.take n) (iL (l.take n)) th sg
 |0,_,_=>⟨_,_,CInv.nil⟩
 |n+1,hn,hm=>by
  have hx:l[n]?=some l[n]:=List.getElem?_eq_getElem (by omega)
  have e:=jR hx
  rw[e]at hm ⊢
  obtain⟨th,sg,h⟩:=Ds hl n (by omega) fun a ha=>hm a (List.mem_append_left _ ha)
  rw[pB]
  exact⟨_,_,h.snoc (hm _ (List.mem_append_right _ (List.mem_singleton.2 rfl))) (by rw[List.length_take];omega)⟩
theorem rT (l:List TA):(iL l).cs.length=l.length:=by
 have:∀(l:List TA)(s:CS),(l.foldl CS.step s).cs.length=s.cs.length+l.length:=fun l=>by
  induction l with
  |nil=>intro s;rfl
  |cons a l ih=>
   intro s
   rw[List.foldl_cons,ih]
   show(s.cs++[_]).length+_=_
   rw[List.length_append,List.length_cons,List.length_cons,List.length_nil];omega
 rw[iL,this];simp
def AC0:TA:=⟨0,0,0⟩
def uM (l:List TA)(i k:Nat):Bool:=decide (i<k)&&decide (bP ((iL l).cs.getD i []) (l.getD i AC0).t≤bP ((iL l).cs.getD k []) (l.getD i AC0).t)
end Go.Proofs.E
namespace Go.Proofs.E
def dN (a:TA):Bool:=decide (a.k=0)||decide (a.k=1)
def wrA (a:TA):Bool:=decide (a.k=1)
def iq (a b:TA):Bool:=dN a&&dN b&&decide (a.loc=b.loc)&&(wrA a||wrA b)
def dR (l:List TA)(i k:Nat):Bool:=iq (l.getD i AC0) (l.getD k AC0)&&!uM l i k
def eO (l:List TA)(k:Nat):Nat→Option Nat
 |0=>none
 |m+1=>match eO l k m with
  |some i=>some i
  |none=>if dR l m k=true then some m else none
def dL (l:List TA):Nat→Option (Nat×Nat)
 |0=>none
 |n+1=>match dL l n with
  |some p=>some p
  |none=>match eO l n n with
   |some i=>some (i,n)
   |none=>none
theorem gc (l:List TA)(k:Nat):∀m,eO l k m=none↔∀i,i<m→dR l i k=false
 |0=>⟨fun _ i h=>absurd h (Nat.not_lt_zero i),fun _=>rfl⟩
 |m+1=>by
  have ih:=gc l k m
  unfold eO
  constructor
  ·intro h i hi
   split at h
   ·cases h
   ·next h0=>
    by_cases e:i=m
    ·subst e
     split at h
     ·cases h
     ·next h1=>simpa using h1
    ·exact ih.1 h0 i (by omega)
  ·intro h
   rw[ih.2 fun i hi=>h i (by omega)]
   simp only
   rw[h m (by omega)];rfl
theorem mo {l:List TA}{k j:Nat}(h:∀i,i<j→dR l i k=false)(hj:dR l j k=true):∀m,j<m→eO l k m=some j
 |m+1,hm=>by
  unfold eO
  by_cases e:j<m
  ·rw[mo h hj m e]
  ·have e:j=m:=by omega
   subst e
   rw[(gc l k j).2 h]
   simp only
   rw[if_pos hj]
theorem kV {l:List TA}{i k:Nat}(h:dL l k=none)(hi:eO l k k=some i):∀n,k<n→dL l n=some (i,k)
 |n+1,hn=>by
  unfold dL
  by_cases e:k<n
  ·rw[kV h hi n e]
  ·have e:k=n:=by omega
   subst e
   rw[h]
   simp only
   rw[hi]
def RF (l:List TA):Prop:=∀(i k:Nat)(a b:TA),i<k→l[i]?=some a→l[k]?=some b→iq a b=true→HB l i k
theorem Er {l:List TA}{i:Nat}(h:i<l.length):l[i]?=some (l.getD i AC0):=by rw[List.getD_eq_getElem?_getD,List.getElem?_eq_getElem h];rfl
def kc (l:List TA):Bool:=l.all dt
theorem uL (l:List TA):kc l=true↔∀a,a∈l→dt a=true:=List.all_eq_true
def io (l:List TA):AV:=if kc l=true then(match dL l l.length with
 |none=>.tup [iv (-1),iv (-1),iv 0]
 |some (i,k)=>.tup [iv (i:Nat),iv (k:Nat),iv 13])else .tup [iv (-1),iv (-1),iv 1]
def KN (l:List TA)(t:Int)(φ:TA→Bool):Prop:=∀(j:Nat)(a:TA),l[j]?=some a→φ a=true→∃(d:Nat)(b:TA),l[d]?=some b∧b.t=t∧(j=d∨HB l j d)
def KS (l:List TA)(loc:Int)(φ:TA→Bool):Prop:=∀(j:Nat)(a:TA),l[j]?=some a→φ a=true→∃(d:Nat)(b:TA),l[d]?=some b∧(b.k=3∧b.loc=loc)∧(j=d∨HB l j d)
theorem KN.none {l:List TA}{t:Int}{φ:TA→Bool}(h:∀a,a∈l→φ a=false):KN l t φ:=fun j a ha hφ=>by rw[h a (List.mem_of_getElem? ha)]at hφ;cases hφ
theorem KS.none {l:List TA}{t:Int}{φ:TA→Bool}(h:∀a,a∈l→φ a=false):KS l t φ:=fun j a ha hφ=>by rw[h a (List.mem_of_getElem? ha)]at hφ;cases hφ
theorem KN.snoc {l:List TA}{t:Int}{φ:TA→Bool}(h:KN l t φ)(a:TA)(h2:φ a=true→a.t=t):KN (l++[a]) t φ:=fun j b hb hφ=>by
 rcases aX hb with⟨_,hb⟩|⟨rfl,rfl⟩
 ·obtain⟨d,c,h3,h4,h5⟩:=h j b hb hφ
  exact⟨d,c,ek h3,h4,h5.imp_right fun x=>x.app _⟩
 ·exact⟨l.length,b,cu l b,h2 hφ,.inl rfl⟩
theorem KS.snoc {l:List TA}{t:Int}{φ:TA→Bool}(h:KS l t φ)(a:TA)(h2:φ a=false):KS (l++[a]) t φ:=fun j b hb hφ=>by
 rcases aX hb with⟨_,hb⟩|⟨rfl,rfl⟩
 ·obtain⟨d,c,h3,h4,h5⟩:=h j b hb hφ
  exact⟨d,c,ek h3,h4,h5.imp_right fun x=>x.app _⟩
 ·rw[h2]at hφ;cases hφ
theorem KN.last {l:List TA}{φ:TA→Bool}{a:TA}(h:KN l a.t φ){j:Nat}{b:TA}(hb:l[j]?=some b)(hφ:φ b=true):HB (l++[a]) j l.length:=by
 obtain⟨d,c,h3,h4,h5⟩:=h j b hb hφ
 exact HB.last.2 ⟨d,c,h3,.inl h4,h5⟩
theorem Fp {l:List TA}{φ:TA→Bool}{a:TA}(h:KS l a.loc φ)(hk:a.k=2):KN (l++[a]) a.t φ:=fun j b hb hφ=>by
 refine⟨l.length,a,cu l a,rfl,?_⟩
 rcases aX hb with⟨_,hb⟩|⟨rfl,rfl⟩
 ·obtain⟨d,c,h3,h4,h5⟩:=h j b hb hφ
  exact .inr (HB.last.2 ⟨d,c,h3,.inr ⟨h4.1,hk,h4.2⟩,h5⟩)
 ·exact .inl rfl
theorem AT {l:List TA}{φ:TA→Bool}{a:TA}(h:KN l a.t φ)(hk:a.k=3):KS (l++[a]) a.loc φ:=fun j b hb hφ=>by
 refine⟨l.length,a,cu l a,⟨hk,rfl⟩,?_⟩
 rcases aX hb with⟨_,hb⟩|⟨rfl,rfl⟩
 ·exact .inr (h.last hb hφ)
 ·exact .inl rfl
theorem RF.nil:RF []:=fun i k a b _ h=>by simp at h
theorem RF.snoc {l:List TA}(h:RF l)(a:TA)(hc:∀(i:Nat)(b:TA),l[i]?=some b→iq b a=true→HB (l++[a]) i l.length):RF (l++[a]):=fun i k b c hik hb hc' hcl=>by
 rcases aX hc' with⟨hk,h1⟩|⟨rfl,rfl⟩
 ·rw[List.getElem?_append_left (by omega)]at hb
  exact(h i k b c hik hb h1 hcl).app _
 ·rw[List.getElem?_append_left hik]at hb
  exact hc i b hb hcl
theorem RF.no {l:List TA}(h:RF l){a:TA}(ha:dN a=false):RF (l++[a]):=h.snoc a fun i b _ hc=>by
 unfold iq at hc
 rw[ha]at hc;simp at hc
theorem RF.acc {l:List TA}(h:RF l){a:TA}{φ:TA→Bool}(hk:KN l a.t φ)(hφ:∀b,iq b a=true→φ b=true):RF (l++[a]):=h.snoc a fun i b hb hc=>hk.last hb (hφ b hc)
end Go.Proofs.E
namespace Go.Proofs.E
abbrev taD (a:TA):List D:=[.v (.int .i64 a.t),.v (.int .i64 a.k),.v (.int .i64 a.loc)]
abbrev acv (a:TA):AV:=.agg [iv a.t,iv a.k,iv a.loc]
abbrev clD (c:List Int):List D:=[.sl 1 (c.map di)]
theorem jz {l:List TA}{i:Nat}(h:i<l.length):(l.map taD)[i]?=some (taD (l.getD i AC0)):=by rw[List.getElem?_map,Er h];rfl
theorem C0 (a:TA):Cv 128 [acv a] (bv (dt a)):=by
 refine ab Tryz.f128 Tryz.func128 rfl rfl fun w H B g0=>?_
 refine Spl.of (fun h1=>?_) (fun h1=>?_)
 ·(repeat (first|refine Spl.t rfl ?_|refine Spl.f rfl ?_))
  refine Spl.of (fun h2=>?_) (fun h2=>?_)
  ·(repeat (first|refine Spl.t rfl ?_|refine Spl.f rfl ?_))
   refine Spl.of (fun h3=>?_) (fun h3=>?_)
   ·(repeat (first|refine Spl.t rfl ?_|refine Spl.f rfl ?_))
    exact FinP.open rfl (congrArg bv (by unfold dt;rw[h1,h2,h3];rfl))
   ·(repeat (first|refine Spl.t rfl ?_|refine Spl.f rfl ?_))
    exact FinP.open rfl (congrArg bv (by unfold dt;rw[h1,h2,h3];rfl))
  ·(repeat (first|refine Spl.t rfl ?_|refine Spl.f rfl ?_))
   exact FinP.open rfl (congrArg bv (by unfold dt;rw[h1,h2];rfl))
 ·(repeat (first|refine Spl.t rfl ?_|refine Spl.f rfl ?_))
  exact FinP.open rfl (congrArg bv (by unfold dt;rw[h1];rfl))
theorem Aa (a:TA):Cv 63 [acv a] (bv (dN a)):=by
 refine ab Tryz.f63 Tryz.func63 rfl rfl fun w H B g0=>?_
 refine Spl.of (fun h1=>?_) (fun h1=>?_)
 ·(repeat (first|refine Spl.t rfl ?_|refine Spl.f rfl ?_))
  exact FinP.open rfl (congrArg bv (by unfold dN;rw[h1];rfl))
 ·(repeat (first|refine Spl.t rfl ?_|refine Spl.f rfl ?_))
  exact FinP.open rfl (congrArg bv (by unfold dN;rw[h1];rfl))
theorem EQ {l:List TA}{i:Nat}{a:TA}(h:l[i]?=some a)(hm:dt a=false):kc l=false:=by
 unfold kc
 rw[List.all_eq_false]
 exact⟨a,List.mem_of_getElem? h,by rw[hm];simp⟩
theorem xJ (l:List TA)(a:TA):l.map taD++[taD a]=(l++[a]).map taD:=by simp
theorem Gj (l:List TA)(hl:l.length≤1000000):Cv 66 [.d (.sl 3 (l.map taD))] (.d (.sl 3 (l.map taD))):=by
 refine ab Tryz.f66 Tryz.func66 rfl rfl fun w H B g0=>?_
 refine WJ.shift (fm 3 3 3 rfl rfl) ?_
 refine ax (V:=Nat) (fun i=>[(8,iv i),(3,.arr 3 3 i)]) (fun i=>[(3,.arr 3 ((l.take i).map taD))]) [3] (fun i=>l.length-i) (fun i=>i≤l.length) 0 (Nat.zero_le _) (by repeat' (first|exact trivial|exact rfl|refine And.intro ?_ ?_)) (by repeat' (first|exact trivial|exact rfl|refine And.intro ?_ ?_)) ?_
 intro i hi
 refine Spl.of (fun h1=>?_) (fun h1=>?_)
 ·have hlt:i<l.length:=by have:=of_decide_eq_true h1;simp at this;omega
  have hx:=jz hlt
  have hsn:=jR (Er hlt)
  generalize l.getD i AC0=a at hx hsn
  have hrow:=xJ (l.take i) a
  rw[←hsn]at hrow
  (repeat (first|refine Spl.t rfl ?_|refine Spl.f rfl ?_))
  refine IdxP.of (taD a) (by omega) (by rw[Int.toNat_natCast];exact hx) ?_
  refine Req.of ⟨by simp;omega,?_⟩ ?_
  ·show i+1≤1000000000;omega
  exact⟨i+1,by omega,by omega,⟨ao (ah _ (by omega) (by omega)),rfl,trivial⟩,(by repeat' (first|exact trivial|exact rfl|refine And.intro ?_ ?_)),⟨congrArg (fun x=>some (Ent.arr 3 x)) hrow,trivial⟩,(by repeat' (first|exact trivial|exact rfl|refine And.intro ?_ ?_))⟩
 ·have h1:=of_decide_eq_false h1
  simp at h1
  obtain rfl:i=l.length:=by omega
  (repeat (first|refine Spl.t rfl ?_|refine Spl.f rfl ?_))
  refine FinP.pubA 3 rfl ?_ ?_ ?_
  ·rw[List.length_map,List.take_length];exact Nat.le_refl _
  ·omega
  refine FinP.open rfl ?_
  rw[List.take_length,List.take_of_length_le (by rw[List.length_map];exact Nat.le_refl _)]
theorem xH (l:List TA)(cs:List (List Int))(i k:Nat)(hi:i<l.length)(hl:l.length≤1000000)(hk:k<l.length)(hn:cs.length=l.length):
 Cv 64 [.d (.sl 3 (l.map taD)),.d (.sl 1 (cs.map clD)),iv i,iv k] (bv (decide (i<k)&&decide (bP (cs.getD i []) (l.getD i AC0).t≤bP (cs.getD k []) (l.getD i AC0).t))):=by
 have hx:=jz hi
 have hc:∀j,j<cs.length→(cs.map clD)[j]?=some (clD (cs.getD j [])):=fun j hj=>by
  rw[List.getElem?_map,List.getElem?_eq_getElem hj,List.getD_eq_getElem?_getD,List.getElem?_eq_getElem hj];rfl
 have hci:=hc i (by omega)
 have hck:=hc k (by omega)
 generalize cs.getD i []=c at hci ⊢
 generalize cs.getD k []=d at hck ⊢
 generalize l.getD i AC0=a at hx ⊢
 have h1:=rz c a.t
 have h2:=rz d a.t
 have he:decide (i<k)=decide ((i:Int)<(k:Int)):=decide_eq_decide.2 (by omega)
 rw[he]
 refine ab Tryz.f64 Tryz.func64 rfl rfl fun w H B g0=>?_
 refine IdxP.of (taD a) (by omega) (by rw[Int.toNat_natCast];exact hx) ?_
 (repeat (first|refine Spl.t rfl ?_|refine Spl.f rfl ?_))
 refine RegP.of rfl (by decide+kernel) ?_
 refine Spl.of (fun h=>?_) (fun h=>?_)
 ·(repeat (first|refine Spl.t rfl ?_|refine Spl.f rfl ?_))
  refine IdxP.of (clD c) (by omega) (by rw[Int.toNat_natCast];exact hci) ?_
  (repeat (first|refine Spl.t rfl ?_|refine Spl.f rfl ?_))
  refine QuietP.of (QJ.call h1 (fun _ _=>rfl) rfl rfl) ?_
  (repeat (first|refine Spl.t rfl ?_|refine Spl.f rfl ?_))
  refine IdxP.of (clD d) (by omega) (by rw[Int.toNat_natCast];exact hck) ?_
  (repeat (first|refine Spl.t rfl ?_|refine Spl.f rfl ?_))
  refine QuietP.of (QJ.call h2 (fun _ _=>rfl) rfl rfl) ?_
  (repeat (first|refine Spl.t rfl ?_|refine Spl.f rfl ?_))
  exact FinP.open rfl (congrArg bv (by rw[h];rfl))
 ·(repeat (first|refine Spl.t rfl ?_|refine Spl.f rfl ?_))
  exact FinP.open rfl (congrArg bv (by rw[h];rfl))
end Go.Proofs.E
namespace Go.Proofs.E
def sx (c d:List Int):Bool:=(List.range c.length).all fun i=>decide (c.getD i 0≤bP d i)
theorem rn (c d:List Int)(hc:c.length≤1000000):Cv 165 [clv c,clv d] (bv (sx c d)):=by
 refine ab Tryz.f165 Tryz.func165 rfl rfl fun w H B g0=>?_
 refine ax (V:=Nat) (fun k=>[(8,iv k)]) (fun _=>[]) [] (fun k=>c.length-k) (fun k=>k≤c.length∧∀j,j<k→c.getD j 0≤bP d j) 0 ⟨Nat.zero_le _,fun _ h=>by omega⟩ (by repeat' (first|exact trivial|exact rfl|refine And.intro ?_ ?_)) (by repeat' (first|exact trivial|exact rfl|refine And.intro ?_ ?_)) ?_
 rintro k ⟨hk,hall⟩
 refine Spl.of (fun h=>?_) (fun h=>?_)
 ·have hlt:k<c.length:=by have:=of_decide_eq_true h;simp at this;omega
  have hg:=ut hlt
  (repeat (first|refine Spl.t rfl ?_|refine Spl.f rfl ?_))
  refine RegP.of rfl (by decide+kernel) ?_
  refine IdxP.of (di (c.getD k 0)) (by omega) (by rw[Int.toNat_natCast];exact hg) ?_
  refine QuietP.of (QJ.call (rz d k) (fun _ _=>rfl) rfl rfl) ?_
  (repeat (first|refine Spl.t rfl ?_|refine Spl.f rfl ?_))
  refine Spl.of (fun h1=>?_) (fun h1=>?_)
  ·(repeat (first|refine Spl.t rfl ?_|refine Spl.f rfl ?_))
   have h2:bP d k<c.getD k 0:=of_decide_eq_true h1
   refine FinP.open rfl (congrArg bv ?_)
   symm
   unfold sx
   rw[List.all_eq_false]
   exact⟨k,List.mem_range.2 hlt,by simp only[decide_eq_true_eq];omega⟩
  ·(repeat (first|refine Spl.t rfl ?_|refine Spl.f rfl ?_))
   have h2:¬bP d k<c.getD k 0:=of_decide_eq_false h1
   refine⟨k+1,⟨by omega,fun j hj=>?_⟩,by omega,⟨ao (ah _ (by omega) (by omega)),trivial⟩,(by repeat' (first|exact trivial|exact rfl|refine And.intro ?_ ?_)),(by repeat' (first|exact trivial|exact rfl|refine And.intro ?_ ?_)),(by repeat' (first|exact trivial|exact rfl|refine And.intro ?_ ?_))⟩
   by_cases e:j=k
   ·subst e;omega
   ·exact hall j (by omega)
 ·have h:=of_decide_eq_false h
  simp at h
  (repeat (first|refine Spl.t rfl ?_|refine Spl.f rfl ?_))
  refine FinP.open rfl (congrArg bv ?_)
  symm
  unfold sx
  rw[List.all_eq_true]
  exact fun j hj=>decide_eq_true (hall j (by have:=List.mem_range.1 hj;omega))
theorem Aj (c d:List Int)(hc:c.length≤1000000)(hd:d.length≤1000000):Cv 164 [clv c,clv d] (bv (sx c d&&sx d c)):=by
 have h1:=rn c d hc
 have h2:=rn d c hd
 refine ab Tryz.f164 Tryz.func164 rfl rfl fun w H B g0=>?_
 refine aa h1 (fun _ _=>rfl) rfl rfl rfl ?_
 (repeat (first|refine Spl.t rfl ?_|refine Spl.f rfl ?_))
 refine Spl.of (fun h=>?_) (fun h=>?_)
 ·(repeat (first|refine Spl.t rfl ?_|refine Spl.f rfl ?_))
  refine aa h2 (fun _ _=>rfl) rfl rfl rfl ?_
  (repeat (first|refine Spl.t rfl ?_|refine Spl.f rfl ?_))
  exact FinP.open rfl (congrArg bv (by rw[h];rfl))
 ·(repeat (first|refine Spl.t rfl ?_|refine Spl.f rfl ?_))
  exact FinP.open rfl (congrArg bv (by rw[h];rfl))
theorem EH:da [1,0,2] [0,3]=[1,3,2]:=by decide
theorem EF:(sx [1,3,2] [1,3,2]&&sx [1,3,2] [1,3,2])=true:=by decide
theorem EG:sx [1] [0,9]=false:=by decide
theorem yc:Cv 125 [] (bv true):=by
 have hj:=lm [1,0,2] [0,3] (by decide) (by decide)
 rw[EH]at hj
 have hs:=Aj [1,3,2] [1,3,2] (by decide) (by decide)
 rw[EF]at hs
 have hl:=rn [1] [0,9] (by decide)
 rw[EG]at hl
 refine ab Tryz.f125 Tryz.func125 rfl rfl fun w H B g0=>?_
 refine OpJ.shift (fN 1 rfl) ?_
 refine OpJ.shift (fN 2 rfl) ?_
 refine aa hj (fun _ _=>rfl) rfl rfl rfl ?_
 (repeat (first|refine Spl.t rfl ?_|refine Spl.f rfl ?_))
 refine OpJ.shift (fN 4 rfl) ?_
 refine aa hs (fun _ _=>rfl) rfl rfl rfl ?_
 (repeat (first|refine Spl.t rfl ?_|refine Spl.f rfl ?_))
 refine OpJ.shift (fN 7 rfl) ?_
 refine OpJ.shift (fN 8 rfl) ?_
 refine aa hl (fun _ _=>rfl) rfl rfl rfl ?_
 (repeat (first|refine Spl.t rfl ?_|refine Spl.f rfl ?_))
 exact FinP.open rfl rfl
end Go.Proofs.E
end
section
namespace Go.Gv
open Go.RowKit
structure RW where
 b:Nat
 c:Nat
 xs:List (List D)
abbrev RW.sl (r:RW):Value:=.slice (some ⟨r.b,0,none⟩) r.xs.length r.c
def RW.ok (k:Nat)(r:RW)(H:HF)(w:World):Prop:=
 0<r.c∧r.xs.length≤r.c∧(∀cs,cs∈r.xs→cs.length=k)∧∃(t:TypeId)(us:List Value),w.heap[r.b]?=some (.cells us.toArray t (0,0))∧us.length=r.c*k∧
  ∀(j l:Nat)(cs:List D)(a:D)(u:Value),r.xs[j]?=some cs→cs[l]?=some a→us[j*k+l]?=some u→RepD H a u
def jU (k:Nat)(s:List RW)(O:Nat→Prop)(H:HF)(w:World):Prop:=
 (∀b,O b↔∃r,r∈s∧r.b=b)∧s.Pairwise (fun r r'=>r.b≠r'.b)∧∀r,r∈s→r.ok k H w
def bi (P:Program)(Λ:Amb)(k:Nat):Res where
 S:=List RW
 P:=P
 Λ:=Λ
 fv:=undef
 ok:=jU k
 lt:=fun h b hb=>by
  obtain⟨r,hj,rfl⟩:=(h.1 b).1 hb
  obtain⟨_,_,_,t,us,h1,_⟩:=h.2.2 r hj
  exact aF h1
 later:=fun h hle _ hw=>⟨h.1,h.2.1,fun r hj=>by
  obtain⟨a1,a2,a3,t,us,h1,h2,h3⟩:=h.2.2 r hj
  exact⟨a1,a2,a3,t,us,by rw[hw r.b ((h.1 _).2 ⟨r,hj,rfl⟩)];exact h1,h2,fun j l cs a u x y z=>(h3 j l cs a u x y z).mono hle⟩⟩
 pre:=fun _ _=>False
 step:=fun _ _ _ _=>False
 run:=fun hp=>hp.elim
theorem w5 {P:Program}{Λ:Amb}{k:Nat}{w:World}{H:HF}(hok:HOk H w)(γ:Ids)(i:Nat):Mem w H (fun _=>False) (upd γ i ⟨w.heap.size,0,fun _=>False⟩) H [(i,.res (bi P Λ k) [])] w:=by
 have one:∀j f,look j ([(i,Ent.res (bi P Λ k) [])]:Sg)=some f→j=i∧f=.res (bi P Λ k) []:=fun j f hj=>by
  rw[ae]at hj
  split at hj
  ·next e'=>exact⟨e',by simpa using hj.symm⟩
  ·simp[look]at hj
 refine⟨Keeps.refl _ _,HLe.refl _,HNew.refl _ _ _,hok,fun j f hj=>?_,fun j f hj b hb=>?_,fun j f hj b hb=>?_,fun j f l f' b hj hl hb hb'=>?_⟩
 ·obtain⟨rfl,rfl⟩:=one j f hj
  show jU k [] (upd γ j _ j).o H w
  rw[ap]
  exact⟨fun b=>⟨fun h=>h.elim,fun⟨r,h,_⟩=>by simp at h⟩,List.Pairwise.nil,fun r h=>by simp at h⟩
 ·obtain⟨rfl,rfl⟩:=one j f hj
  have:(upd γ j ⟨w.heap.size,0,fun _=>False⟩ j).o b:=hb
  rw[ap]at this;exact this.elim
 ·obtain⟨rfl,rfl⟩:=one j f hj
  have:(upd γ j ⟨w.heap.size,0,fun _=>False⟩ j).o b:=hb
  rw[ap]at this;exact this.elim
 ·obtain⟨rfl,rfl⟩:=one j f hj
  have:(upd γ j ⟨w.heap.size,0,fun _=>False⟩ j).o b:=hb
  rw[ap]at this;exact this.elim
section rows
variable {X:Cx} {ty:TypeId} {pos:String} {aft:Array Edge} {g:Option (Nat×Bool)} {t:T} {σ:Sg} {K:T→Sg→Prop}
theorem uR (i k:Nat)(hf:am i t σ X.pin=true):SJ X t σ t ((i,.res (bi X.P X.Λ k) [])::σ):=fun γ H a w s=>by
 have key:=s.new (d:=none) (V:=.junk) (v:=undef) (n:=0) (w5 (P:=X.P) (Λ:=X.Λ) (k:=k) s.mem.hok γ i) hf rfl (.junk _)
 exact⟨_,H,key⟩
theorem xP (i id x:Nat){k:Nat}{l1 l2:List RW}{r:RW}(hi:look i σ=some (.res (bi X.P X.Λ k) (l1++r::l2)))(hx:look x t=some (.d (.v r.sl)))(hf:am id t σ X.pin=true)(hfi:am i t (al [(i,.gone)] σ) X.pin=true):
 SJ X t σ ((x,.arr id k r.xs.length)::t) ((id,.arr k r.xs)::(i,.res (bi X.P X.Λ k) (l1++l2))::al [(i,.gone)] σ):=fun γ H a w s=>by
 have hok:jU k (l1++r::l2) (γ i).o H w:=s.mem.ent i _ hi
 obtain⟨ho,hp,hr⟩:=hok
 have hne:i≠id:=(aS hf hi).1
 have hmem:∀q,q∈l1++l2→q∈l1++r::l2:=fun q hq=>by
  rcases List.mem_append.1 hq with h|h
  ·exact List.mem_append_left _ h
  ·exact List.mem_append_right _ (List.mem_cons_of_mem _ h)
 have hsep:∀q,q∈l1++l2→q.b≠r.b:=fun q hq=>by
  rw[List.pairwise_append]at hp
  obtain⟨_,p2,p3⟩:=hp
  rw[List.pairwise_cons]at p2
  rcases List.mem_append.1 hq with h|h
  ·exact p3 q h r (by simp)
  ·exact fun e=>p2.1 q h e.symm
 have hpw:(l1++l2).Pairwise (fun r r'=>r.b≠r'.b):=by
  rw[List.pairwise_append]at hp ⊢
  obtain⟨p1,p2,p3⟩:=hp
  rw[List.pairwise_cons]at p2
  exact⟨p1,p2.2,fun a ha b hb=>p3 a ha b (by simp[hb])⟩
 have hrm:r∈l1++r::l2:=by simp
 obtain⟨c1,c2,c3,tt,us,c4,c5,c6⟩:=hr r hrm
 generalize hO:(fun b=>∃q,q∈l1++l2∧q.b=b)=O'
 generalize hg:upd (upd γ i ⟨(γ i).b,(γ i).n,O'⟩) id ⟨r.b,r.c,fun _=>False⟩=γ'
 have gid:γ' id=⟨r.b,r.c,fun _=>False⟩:=by rw[←hg,ap]
 have gi:γ' i=⟨(γ i).b,(γ i).n,O'⟩:=by rw[←hg,cN _ _ hne,ap]
 have go:∀j,j≠i→j≠id→γ j=γ' j:=fun j h1 h2=>by rw[←hg,cN _ _ h2,cN _ _ h1]
 have two:∀j f,look j ([(id,Ent.arr k r.xs),(i,.res (bi X.P X.Λ k) (l1++l2))]:Sg)=some f→(j=id∧f=.arr k r.xs)∨(j=i∧f=.res (bi X.P X.Λ k) (l1++l2)):=fun j f hj=>by
  rw[ae]at hj
  split at hj
  ·next e=>exact .inl ⟨e,by simpa using hj.symm⟩
  ·rw[ae]at hj
   split at hj
   ·next e=>exact .inr ⟨e,by simpa using hj.symm⟩
   ·simp[look]at hj
 have hblk:∀j f,look j ([(id,Ent.arr k r.xs),(i,.res (bi X.P X.Λ k) (l1++l2))]:Sg)=some f→∀b,blk γ' j f b→(j=id∧b=r.b)∨(j=i∧∃q,q∈l1++l2∧q.b=b):=fun j f hj b hb=>by
  rcases two j f hj with⟨rfl,rfl⟩|⟨rfl,rfl⟩
  ·left
   have:=hb.1
   rw[gid]at this
   exact⟨rfl,this⟩
  ·right
   have:(γ' j).o b:=hb
   rw[gi]at this
   refine⟨rfl,?_⟩
   rw[←hO]at this
   exact this
 have hin:∀j f,look j ([(id,Ent.arr k r.xs),(i,.res (bi X.P X.Λ k) (l1++l2))]:Sg)=some f→∀b,blk γ' j f b→(γ i).o b:=fun j f hj b hb=>by
  rcases hblk j f hj b hb with⟨_,rfl⟩|⟨_,q,hq,rfl⟩
  ·exact(ho _).2 ⟨r,hrm,rfl⟩
  ·exact(ho _).2 ⟨q,hmem q hq,rfl⟩
 have hm:Mem w H (γ i).o γ' H [(id,.arr k r.xs),(i,.res (bi X.P X.Λ k) (l1++l2))] w:=by
  refine⟨Keeps.refl _ _,HLe.refl _,HNew.refl _ _ _,s.mem.hok,fun j f hj=>?_,fun j f hj b hb=>?_,fun j f hj b hb=>?_,fun j f l f' b hj hl hb hb'=>?_⟩
  ·rcases two j f hj with⟨rfl,rfl⟩|⟨rfl,rfl⟩
   ·show _∧_∧_
    rw[gid]
    exact⟨c2,c3,fun _=>⟨tt,us,c4,c5,c6⟩⟩
   ·show jU k (l1++l2) (γ' j).o H w
    rw[gi]
    refine⟨fun b=>?_,hpw,fun q hq=>hr q (hmem q hq)⟩
    rw[←hO]
  ·exact s.mem.free i _ hi b (hin j f hj b hb)
  ·exact .inr (hin j f hj b hb)
  ·rcases hblk j f hj b hb with⟨e1,h1⟩|⟨e1,q1,h1,h2⟩<;>rcases hblk l f' hl b hb' with⟨e2,h3⟩|⟨e2,q2,h3,h4⟩
   ·rw[e1,e2]
   ·exact absurd (h4.trans h1) (hsep q2 h3)
   ·exact absurd (h2.trans h3) (hsep q1 h1)
   ·rw[e1,e2]
 have key:=s.step (σ':=[(id,.arr k r.xs),(i,.res (bi X.P X.Λ k) (l1++l2))]) (σr:=al [(i,.gone)] σ) (d:=none) (V:=.junk) (v:=undef) hm (fun b hb=>⟨i,_,hi,by rw[be,ae,if_pos rfl];rfl,hb⟩) fR (fun j e hj=>?_) (fun j e hj=>?_) (fun j hj=>?_) (fun j y hj l hl=>?_) rfl (.junk _)
 ·refine⟨γ',H,key.tmps fun l b hl=>?_⟩
  rw[ae]at hl
  split at hl
  ·next e=>
   subst e
   cases hl
   obtain⟨u,hu,hr1⟩:=s.tmp l _ hx
   obtain rfl:=aV hr1
   refine⟨_,hu,?_⟩
   have:=Rep.arr (γ:=γ') (H:=H) id k r.xs.length (some ⟨r.b,0,none⟩)
   rw[gid]at this
   exact this c2 fun _=>rfl
  ·exact key.tmp l b hl
 ·have h1:=aS hfi hj
  have h2:=aS hf (fR j e hj)
  rw[ae,if_neg h2.1,ae,if_neg h1.1];rfl
 ·have h1:=aS hfi hj
  have h2:=aS hf (fR j e hj)
  refine⟨go j h1.1 h2.1,fun l hl=>go l (fun e=>?_) (fun e=>?_)⟩
  ·subst e;rw[h1.2]at hl;cases hl
  ·subst e;rw[h2.2]at hl;cases hl
 ·exact go j (gb hfi hj) (gb hf hj)
 ·refine go l (fun e=>?_) (fun e=>?_)
  ·subst e;rw[dK hfi hj]at hl;cases hl
  ·subst e;rw[dK hf hj]at hl;cases hl
theorem St.rowIn (i id x:Nat){γ:Ids}{H:HF}{a:Act}{w:World}(s:St X γ H t σ a w){k n:Nat}{xs:List (List D)}{l1 l2:List RW}(hi:look i σ=some (.res (bi X.P X.Λ k) (l1++l2)))(hid:look id σ=some (.arr k xs))(hx:look x t=some (.arr id k n))(hn:xs.length=n)(h0:0<n)
 (hf:am id [] (al [(id,.gone)] σ) X.pin=true)(hfi:am i (bY id t) (al [(i,.gone)] σ) X.pin=true):
 ∃γ' b c,St X γ' H ((x,.d (.v (RW.sl ⟨b,c,xs⟩)))::bY id t) ((i,.res (bi X.P X.Λ k) (l1++⟨b,c,xs⟩::l2))::al [(i,.gone),(id,.gone)] σ) a w:=by
 have hok:jU k (l1++l2) (γ i).o H w:=s.mem.ent i _ hi
 obtain⟨ho,hp,hr⟩:=hok
 obtain⟨e1,e2,e3⟩:=s.mem.ent id _ hid
 obtain⟨ux,hux,hrx⟩:=s.tmp x _ hx
 have hc0:0<(γ id).n:=by omega
 obtain⟨tt,us,e4,e5,e6⟩:=e3 hc0
 have hne:i≠id:=fun e=>by
  subst e
  rw[hi]at hid;cases hid
 have hsep:∀q,q∈l1++l2→q.b≠(γ id).b:=fun q hq e=>hne (s.mem.apart i _ id _ q.b hi hid ((ho _).2 ⟨q,hq,rfl⟩) ⟨e,hc0⟩)
 generalize hB:(γ id).b=B at e4 hsep
 generalize hC:(γ id).n=C at e1 e5 hc0
 have hpw:(l1++(⟨B,C,xs⟩:RW)::l2).Pairwise (fun r r'=>r.b≠r'.b):=by
  rw[List.pairwise_append]at hp ⊢
  obtain⟨p1,p2,p3⟩:=hp
  refine⟨p1,List.pairwise_cons.2 ⟨fun q hq e=>hsep q (List.mem_append_right _ hq) e.symm,p2⟩,fun a ha b hb=>?_⟩
  rcases List.mem_cons.1 hb with rfl|hb
  ·exact hsep a (List.mem_append_left _ ha)
  ·exact p3 a ha b hb
 have hmem:∀q,q∈l1++(⟨B,C,xs⟩:RW)::l2→q=⟨B,C,xs⟩∨q∈l1++l2:=fun q hq=>by
  rcases List.mem_append.1 hq with h|h
  ·exact .inr (List.mem_append_left _ h)
  ·rcases List.mem_cons.1 h with h|h
   ·exact .inl h
   ·exact .inr (List.mem_append_right _ h)
 generalize hO:(fun b=>∃q,q∈l1++(⟨B,C,xs⟩:RW)::l2∧q.b=b)=O'
 generalize hg:upd γ i ⟨(γ i).b,(γ i).n,O'⟩=γ'
 have gi:γ' i=⟨(γ i).b,(γ i).n,O'⟩:=by rw[←hg,ap]
 have go:∀j,j≠i→γ j=γ' j:=fun j h1=>by rw[←hg,cN _ _ h1]
 have one:∀j f,look j ([(i,Ent.res (bi X.P X.Λ k) (l1++⟨B,C,xs⟩::l2))]:Sg)=some f→j=i∧f=.res (bi X.P X.Λ k) (l1++⟨B,C,xs⟩::l2):=fun j f hj=>by
  rw[ae]at hj
  split at hj
  ·next e'=>exact⟨e',by simpa using hj.symm⟩
  ·simp[look]at hj
 have hin:∀j f,look j ([(i,Ent.res (bi X.P X.Λ k) (l1++⟨B,C,xs⟩::l2))]:Sg)=some f→∀b,blk γ' j f b→b=B∨(γ i).o b:=fun j f hj b hb=>by
  obtain⟨rfl,rfl⟩:=one j f hj
  have:(γ' j).o b:=hb
  rw[gi,←hO]at this
  obtain⟨q,hq,rfl⟩:=this
  rcases hmem q hq with rfl|hq
  ·exact .inl rfl
  ·exact .inr ((ho _).2 ⟨q,hq,rfl⟩)
 have s1:=s.drop id
 have hi1:look i (bF id σ)=some (.res (bi X.P X.Λ k) (l1++l2)):=by rw[bF,cA,hi];rfl
 have hid1:look id (bF id σ)=some (.arr k xs):=by rw[bF,cA,hid];rfl
 have hm:Mem w H (fun b=>b=B∨(γ i).o b) γ' H [(i,.res (bi X.P X.Λ k) (l1++⟨B,C,xs⟩::l2))] w:=by
  refine⟨Keeps.refl _ _,HLe.refl _,HNew.refl _ _ _,s.mem.hok,fun j f hj=>?_,fun j f hj b hb=>?_,fun j f hj b hb=>.inr (hin j f hj b hb),fun j f l f' b hj hl hb hb'=>?_⟩
  ·obtain⟨rfl,rfl⟩:=one j f hj
   show jU k (l1++⟨B,C,xs⟩::l2) (γ' j).o H w
   rw[gi]
   refine⟨fun b=>by rw[←hO],hpw,fun q hq=>?_⟩
   rcases hmem q hq with rfl|hq
   ·exact⟨hc0,e1,e2,tt,us,e4,e5,e6⟩
   ·exact hr q hq
  ·rcases hin j f hj b hb with rfl|h
   ·exact s.mem.free id _ hid _ ⟨hB.symm,by rw[hC];exact hc0⟩
   ·exact s.mem.free i _ hi b h
  ·rw[(one j f hj).1,(one l f' hl).1]
 have lr:∀j e,look j (al [(i,.gone),(id,.gone)] (bF id σ))=some e→j≠i∧j≠id∧∃e0,look j σ=some e0∧e=je id e0:=fun j e hj=>by
  rw[be]at hj
  split at hj
  ·cases hj
  ·next h9=>
   have h1:j≠i:=fun e=>h9 (by rw[ae,if_pos e];rfl)
   have h2:j≠id:=fun e=>h9 (by rw[ae,if_neg h1,ae,if_pos e];rfl)
   exact⟨h1,h2,dA hj⟩
 have key:=s1.step (σ':=[(i,.res (bi X.P X.Λ k) (l1++⟨B,C,xs⟩::l2))]) (σr:=al [(i,.gone),(id,.gone)] (bF id σ)) (d:=none) (V:=.junk) (v:=undef) hm (fun b hb=>?_) fR (fun j e hj=>?_) (fun j e hj=>?_) (fun j hj=>go j (gb hfi hj)) (fun j y hj l hl=>go l fun e=>?_) rfl (.junk _)
 ·refine⟨γ',B,C,(key.wk (t':=bY id t) (σ':=(i,.res (bi X.P X.Λ k) (l1++⟨B,C,xs⟩::l2))::al [(i,.gone),(id,.gone)] σ) (Wk.refl _) fun j e hj=>?_).tmps fun l b hl=>?_⟩
  ·rw[ae]at hj
   rw[List.singleton_append,ae]
   split at hj
   ·next e1=>rw[if_pos e1];exact hj
   ·next e1=>
    rw[if_neg e1]
    rw[be]at hj ⊢
    split at hj
    ·cases hj
    ·next h9=>
     rw[if_neg h9,bF,cA,hj]
     have h2:j≠id:=fun e=>h9 (by rw[ae];split;rfl;rw[ae,if_pos e];rfl)
     have h3:look j (al [(id,.gone)] σ)=some e:=by
      rw[be,ae,if_neg h2];exact hj
     have h4:=(aS hf h3).2
     show some (je id e)=some e
     congr 1
     have hcs:∀cs:List AV,cs.any (aP id)=false→cs.map (Go.Gv.drop id)=cs:=fun cs h=>by
      have:∀a,a∈cs→Go.Gv.drop id a=a:=fun a ha=>by
       have:=List.any_eq_false.1 h a ha
       unfold Go.Gv.drop
       split
       ·next h5=>exact absurd h5 this
       ·rfl
      exact(List.map_congr_left this).trans (List.map_id _)
     cases e with
     |cells cs=>exact congrArg Ent.cells (hcs cs h4)
     |cellsT t cs=>exact congrArg (Ent.cellsT t) (hcs cs h4)
     |_=>rfl
  ·rw[ae]at hl
   split at hl
   ·next e=>
    subst e
    cases hl
    refine⟨ux,hux,?_⟩
    cases hrx with
    |arr _ _ _ A hn2 hA=>
     rw[hA (by omega),hB,hC,←hn]
     exact .d _ _ (.v _ rfl)
   ·exact key.tmp l b hl
 ·rcases hb with rfl|hb
  ·exact⟨id,_,hid1,by rw[be,ae,ae];simp[ij,hne.symm],hB.symm,by rw[hC];exact hc0⟩
  ·exact⟨i,_,hi1,by rw[be,ae,if_pos rfl];rfl,hb⟩
 ·rw[ae,if_neg (lr j e hj).1];rfl
 ·obtain⟨h1,h2,e0,h3,rfl⟩:=lr j e hj
  refine⟨go j h1,fun l hl=>go l fun e=>?_⟩
  subst e
  have h4:look j (al [(l,.gone)] σ)=some e0:=by
   rw[be,ae,if_neg h1];exact h3
  have h5:=(aS hfi h4).2
  have h6:aJ l (je id e0)=true→aJ l e0=true:=fun h=>by
   have hcs:∀cs:List AV,(cs.map (Go.Gv.drop id)).any (aP l)=true→cs.any (aP l)=true:=fun cs h=>by
    rw[List.any_eq_true]at h ⊢
    obtain⟨y,hy,hy2⟩:=h
    obtain⟨z,hz,rfl⟩:=List.mem_map.1 hy
    refine⟨z,hz,?_⟩
    unfold Go.Gv.drop at hy2
    split at hy2
    ·cases hy2
    ·exact hy2
   cases e0 with
   |cells cs=>exact hcs cs h
   |cellsT t cs=>exact hcs cs h
   |_=>exact h
  rw[h6 hl]at h5;cases h5
 ·subst e;rw[dK hfi hj]at hl;cases hl
end rows
section ops
variable {X:Cx} {ty:TypeId} {pos:String} {aft:Array Edge} {g:Option (Nat×Bool)} {t:T} {σ:Sg} {K:T→Sg→Prop}
theorem OpJ.rowApp (i id:Nat){p d0:Nat}{y:Operand}{st xt:TypeId}{k:Nat}{r:RW}{l1 l2:List RW}{av:AV}{ys:List (List D)}(hx:look p t=some (.d (.v r.sl)))(hi:look i σ=some (.res (bi X.P X.Λ k) (l1++r::l2)))
 (hy:ge ((p,.arr id k r.xs.length)::t) y=some av)(hel:elems av=some (k,ys))(hI:eP X.P st xt=some k)(hb:r.xs.length+ys.length≤1000000000)(h0:0<r.xs.length+ys.length)
 (hf:am id t σ X.pin=true)(hfi:am i t (al [(i,.gone)] σ) X.pin=true)(hN:dOk (some d0) X.N=true)
 (h1:am id [] (al [(id,.gone)] ((id,.arr k (r.xs++ys))::bF id ((id,.arr k r.xs)::(i,.res (bi X.P X.Λ k) (l1++l2))::al [(i,.gone)] σ))) X.pin=true)
 (h2:am i (bY id (putT (some d0) (.arr id k (r.xs.length+ys.length)) (bY id ((p,.arr id k r.xs.length)::t)))) (al [(i,.gone)] ((id,.arr k (r.xs++ys))::bF id ((id,.arr k r.xs)::(i,.res (bi X.P X.Λ k) (l1++l2))::al [(i,.gone)] σ))) X.pin=true)
 (kk:∀b c,K ((d0,.d (.v (RW.sl ⟨b,c,r.xs++ys⟩)))::bY id (putT (some d0) (.arr id k (r.xs.length+ys.length)) (bY id ((p,.arr id k r.xs.length)::t))))
  ((i,.res (bi X.P X.Λ k) (l1++⟨b,c,r.xs++ys⟩::l2))::al [(i,.gone),(id,.gone)] ((id,.arr k (r.xs++ys))::bF id ((id,.arr k r.xs)::(i,.res (bi X.P X.Λ k) (l1++l2))::al [(i,.gone)] σ)))):
 OpJ X ⟨some d0,.call {callee:=.builtin .append,args:=#[.tmp p,y],argTypes:=#[st,xt]},ty,pos,aft,g⟩ t σ K:=by
 intro γ H a w s next Q' hn
 have hne:i≠id:=(aS hf hi).1
 obtain⟨γ1,H1,s1⟩:=xP i id p hi hx hf hfi γ H a w s
 refine uZ (K:=fun t' σ'=>t'=_∧σ'=_) (x:=.tmp p) (i:=id) (k:=k) (n:=r.xs.length) (xs:=r.xs) hN (by show look p _=_;rw[ae,if_pos rfl]) hy (by rw[ae,if_pos rfl]) hel hI (by simp only[am,Bool.and_eq_true]at hf;exact hf.2) rfl hb ⟨rfl,rfl⟩ γ1 H1 a w s1 next Q' ?_
 rintro γ2 H2 t2 σ2 a2 w2 s2 ⟨rfl,rfl⟩
 obtain⟨γ3,b,c,s3⟩:=s2.rowIn i id d0 (k:=k) (n:=r.xs.length+ys.length) (xs:=r.xs++ys) (l1:=l1) (l2:=l2) (by
  rw[ae,if_neg hne,bF,cA,ae,if_neg hne,ae,if_pos rfl];rfl) (by rw[ae,if_pos rfl]) (by show look d0 (_::_)=_;rw[ae,if_pos rfl]) (by rw[List.length_append]) h0 h1 h2
 exact hn γ3 H2 _ _ a2 w2 s3 (kk b c)
theorem OpJ.rowNew (i id:Nat){p d0:Nat}{y:Operand}{st xt:TypeId}{k:Nat}{l1:List RW}{av:AV}{ys:List (List D)}(hx:look p t=some (.d (.v (.slice none 0 0))))(hi:look i σ=some (.res (bi X.P X.Λ k) l1))
 (hy:ge ((p,.arr id k 0)::t) y=some av)(hel:elems av=some (k,ys))(hI:eP X.P st xt=some k)(hb:0+ys.length≤1000000000)(h0:0<0+ys.length)
 (hf:am id t σ X.pin=true)(hN:dOk (some d0) X.N=true)
 (h1:am id [] (al [(id,.gone)] ((id,.arr k ([]++ys))::bF id ((id,.arr k [])::σ))) X.pin=true)
 (h2:am i (bY id (putT (some d0) (.arr id k (0+ys.length)) (bY id ((p,.arr id k 0)::t)))) (al [(i,.gone)] ((id,.arr k ([]++ys))::bF id ((id,.arr k [])::σ))) X.pin=true)
 (kk:∀b c,K ((d0,.d (.v (RW.sl ⟨b,c,[]++ys⟩)))::bY id (putT (some d0) (.arr id k (0+ys.length)) (bY id ((p,.arr id k 0)::t))))
  ((i,.res (bi X.P X.Λ k) (l1++[⟨b,c,[]++ys⟩]))::al [(i,.gone),(id,.gone)] ((id,.arr k ([]++ys))::bF id ((id,.arr k [])::σ)))):
 OpJ X ⟨some d0,.call {callee:=.builtin .append,args:=#[.tmp p,y],argTypes:=#[st,xt]},ty,pos,aft,g⟩ t σ K:=by
 intro γ H a w s next Q' hn
 have hne:i≠id:=(aS hf hi).1
 obtain⟨γ1,H1,s1⟩:=fm id p k hx hf γ H a w s
 refine uZ (K:=fun t' σ'=>t'=_∧σ'=_) (x:=.tmp p) (i:=id) (k:=k) (n:=0) (xs:=[]) hN (by show look p _=_;rw[ae,if_pos rfl]) hy (by rw[ae,if_pos rfl]) hel hI (by simp only[am,Bool.and_eq_true]at hf;exact hf.2) rfl hb ⟨rfl,rfl⟩ γ1 H1 a w s1 next Q' ?_
 rintro γ2 H2 t2 σ2 a2 w2 s2 ⟨rfl,rfl⟩
 obtain⟨γ3,b,c,s3⟩:=s2.rowIn i id d0 (k:=k) (n:=0+ys.length) (xs:=[]++ys) (l1:=l1) (l2:=[]) (by
  rw[List.append_nil,ae,if_neg hne,bF,cA,ae,if_neg hne,hi];rfl) (by rw[ae,if_pos rfl]) (by show look d0 (_::_)=_;rw[ae,if_pos rfl]) (by rw[List.length_append];rfl) h0 h1 h2
 exact hn γ3 H2 _ _ a2 w2 s3 (kk b c)
variable {d:Option Nat}
theorem Fk {s e:TypeId}{x y:Operand}{k b n c:Nat}{kk:IntKind}{m:Int}(hx:ge t x=some (.d (.v (.slice (some ⟨b,0,none⟩) n c))))(hy:ge t y=some (.d (.v (.int kk m))))(hu:und X.P s=some (.slice e))(hz:fu X.P e=some k)(hm:0≤m)(hc:m<(n:Int)):
 QJ X ⟨d,.indexAddr s x y,ty,pos,aft,g⟩ t σ (.d (.v (.pointer (some ⟨b,m.toNat*k,none⟩)))):=
 QJ.value (by simp) (fun γ H a w so sm=>by
  have h1:=aV (so _ (by simp[Op.operands,Call.operands]) _ hx)
  have h2:=aV (so _ (by simp[Op.operands,Call.operands]) _ hy)
  have hb:0≤m∧m<(n:Int):=⟨hm,hc⟩
  rw[bT]at hu
  have hz':=fun w=>aK (w:=w) hz
  refine⟨.pointer (some ⟨b,m.toNat*k,none⟩),?_,.d _ _ (.v _ rfl)⟩
  simp[execOp,h1,h2,Instr.indexAt,asIntOf,underlying,hu,hz',hb,gk])
theorem CY {x:Operand}{e:TypeId}{b off i:Nat}{rs:List RW}{r:RW}{v:D}(hx:ge t x=some (.d (.v (.pointer (some ⟨b,off,none⟩)))))(hi:look i σ=some (.res (bi X.P X.Λ 1) rs))(hr:r∈rs)(hb:r.b=b)(hv:r.xs[off]?=some [v])(ha:jk X.P e=some false):
 QJ X ⟨d,.load e x,ty,pos,aft,g⟩ t σ (.d v):=
 QJ.value (by simp) (fun γ H a w so sm=>by
  have h1:=aV (so _ (by simp[Op.operands,Call.operands]) _ hx)
  have hok:jU 1 rs (γ i).o H w:=sm.ent i _ hi
  obtain⟨_,c2,_,tt,us,h2,h3,h4⟩:=hok.2.2 r hr
  rw[Nat.mul_one]at h3
  have hlt:off<us.length:=by have:=(List.getElem?_eq_some_iff.1 hv).1;omega
  refine⟨us[off],?_,.d _ _ (h4 off 0 _ v _ hv rfl (by simp[hlt]))⟩
  have hc:w.cell? ⟨b,off,none⟩=some us[off]:=by rw[←hb,aU h2];simp[hlt]
  simp[execOp,Instr.loadAt,Instr.sureAddr,h1,dC (bK ha) hc])
end ops
section more
variable {X:Cx} {ty:TypeId} {pos:String} {aft:Array Edge} {g:Option (Nat×Bool)} {t:T} {σ:Sg} {K:T→Sg→Prop}
end more
end Go.Gv
end
