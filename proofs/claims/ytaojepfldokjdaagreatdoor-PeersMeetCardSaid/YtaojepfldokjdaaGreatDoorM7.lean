/- Laws that the claim's text stands on: part M7 of them. -/
import Derived.Test.YtaojepfldokjdaaGreatDoorM1
import Derived.Test.YtaojepfldokjdaaGreatDoorM2
import Derived.Test.YtaojepfldokjdaaGreatDoorM3
import Derived.Test.YtaojepfldokjdaaGreatDoorM4
import Derived.Test.YtaojepfldokjdaaGreatDoorDShelf
import Derived.Test.YtaojepfldokjdaaGreatDoorM5
import Derived.Test.YtaojepfldokjdaaGreatDoorM6
import Derived.CallsIn
set_option linter.unusedVariables false
set_option linter.unusedSimpArgs false
section
open Go Go.Gv
attribute [local irreducible] Go.Gv.WJ Go.Gv.OpJ Go.Gv.QJ Go.Gv.Spl Go.Gv.Req Go.Gv.IdxP Go.Gv.RegP Go.Gv.FinP Go.Gv.CellP Go.Gv.CellsP Go.Gv.ArrP Go.Gv.ArrsP Go.Gv.DropP Go.Gv.ByteP Go.Gv.StoreP
set_option maxRecDepth 100000
namespace Go.Proofs.E
attribute [local irreducible] elems
theorem gz (l:List OP):∀(R:List OP),(∀x,x∈R→aq l x=6)→bl l R=-1
 |[],_=>rfl
 |o::r,h=>by
  have h1:=h o (List.mem_cons_self ..)
  have h2:=gz l r fun x hx=>h x (List.mem_cons_of_mem _ hx)
  rw[bl,if_neg (fun e=>e h1),h2];rfl
theorem nG (l:List OP):∀(R:List OP)(i:Nat)(x:OP),R[i]?=some x→(∀y,y∈R.take i→aq l y=6)→aq l x≠6→bl l R=i
 |[],i,x,h,_,_=>by simp at h
 |o::r,0,x,h,_,hw=>by
  cases(Option.some.inj h)
  rw[bl,if_pos hw];rfl
 |o::r,i+1,x,h,hb,hw=>by
  have h1:=hb o (by simp)
  have h2:=nG l r i x (by simpa using h) (fun y hy=>hb y (by simp[hy])) hw
  rw[bl,if_neg (fun e=>e h1),h2,if_neg (by omega)];omega
theorem j9 (l:List OP):∀R:List OP,bl l R<R.length∧-1≤bl l R
 |[]=>by simp[bl]
 |o::r=>by
  have h:=j9 l r
  rw[bl,List.length_cons]
  split
  ·omega
  ·split<;>omega
theorem vP {l R:List OP}{i:Nat}(h:bl l R=i):dT l R=R.take i++R.drop (i+1):=by unfold dT;rw[h,if_neg (by omega),Int.toNat_natCast]
theorem vQ {l R:List OP}{i:Nat}{x:OP}(h:bl l R=i)(hx:R[i]?=some x):eO l R=x:=by unfold eO;rw[h,if_neg (by omega),Int.toNat_natCast,List.getD_eq_getElem?_getD,hx];rfl
theorem u3 {l R:List OP}{i:Nat}{x:OP}(hx:R[i]?=some x)(h:∀y,y∈R.take i→aq l y=6)(hw:aq l x=6):∀y,y∈R.take (i+1)→aq l y=6:=fun y hy=>by
 rw[fk hx]at hy
 rcases List.mem_append.1 hy with h1|h1
 ·exact h y h1
 ·cases List.mem_singleton.1 h1;exact hw
theorem zq (R:List OP)(i:Nat)(k:Int)(hk:k=i+1):([]:List (List D))++List.drop (Int.toNat 0) (List.take ((i:Int)).toNat (R.map opD))++List.drop k.toNat (List.take ((R.map opD).length:Int).toNat (R.map opD))=(R.take i++R.drop (i+1)).map opD:=by
 subst hk
 rw[Int.toNat_natCast,Int.toNat_natCast,List.take_length,show((i:Int)+1).toNat=i+1 from by omega,List.nil_append,List.map_append,List.map_take,List.map_drop];rfl
theorem zr (R:List OP)(hR:R.length≤1000000)(i k:Int):0+(List.drop (Int.toNat 0) (List.take i.toNat (R.map opD))).length+(List.drop k.toNat (List.take ((R.map opD).length:Int).toNat (R.map opD))).length≤2000000:=by
 rw[List.length_drop,List.length_drop,List.length_take,List.length_take,List.length_map];omega
theorem xu {s:SS}{l:List OP}(h:isS s l)(R:List OP)(hR:R.length≤1000000):Cv 244 [rmv R,stv s] (.tup [rmv (dT l R),opv (eO l R),bv (decide (0≤bl l R))]):=by
 refine aU Tryz.f244 Tryz.func244 rfl rfl fun w H B g0=>?_
 (try refine WJ.cut ?_)
 (first|refine Sq.go ?_|refine ah (Sq.go ?_)|skip)
 (try refine WJ.cut ?_)
 refine ba (V:=Nat) (fun i=>[(15,iv i)]) (fun _=>[]) [] (fun i=>R.length-i) (fun i=>i≤R.length∧∀x,x∈R.take i→aq l x=6) 0 ⟨by omega,fun x hx=>by simp at hx⟩ (by repeat' (first|exact trivial|exact rfl|refine And.intro ?_ ?_)) (by repeat' (first|exact trivial|exact rfl|refine And.intro ?_ ?_)) ?_
 rintro i ⟨hi,hb⟩
 refine Spl.of (fun h1=>?_) (fun h1=>?_)
 ·have hlt:i<R.length:=by have:=of_decide_eq_true h1;simp at this;omega
  have hx:R[i]?=some R[i]:=by simp
  generalize R[i]=x at hx
  have hap:=jP h x
  (repeat (first|refine Spl.t rfl ?_|refine Spl.f rfl ?_))
  refine IdxP.of (opD x) (by omega) (by simp[hx]) ?_
  (first|refine Sq.go ?_|refine ah (Sq.go ?_)|skip)
  (try refine WJ.cut ?_)
  refine aa hap (fun _ _=>rfl) rfl rfl rfl ?_
  (first|refine Sq.go ?_|refine ah (Sq.go ?_)|skip)
  (try refine WJ.cut ?_)
  refine Spl.of (fun h2=>?_) (fun h2=>?_)
  ·have h2:aq l x≠6:=by simpa using h2
   have hix:=nG l R i x hx hb h2
   (repeat (first|refine Spl.t rfl ?_|refine Spl.f rfl ?_))
   refine uE 12 rfl (by decide+kernel) ?_
   refine Req.of ⟨by omega,by omega,by rw[List.length_map];omega,rfl⟩ ?_
   have hwr:IntKind.i64.wrap ((i:Int)+1)=i+1:=am _ (by omega) (by omega)
   refine Req.of ⟨by rw[hwr];omega,by rw[hwr,List.length_map];omega,by rw[List.length_map];omega⟩ ?_
   refine QuietP.of (jK rfl (.full _ _) (FlatQ.data rfl rfl) rfl (Nat.le_trans (Nat.le_trans (Nat.add_le_add_right (Nat.le_add_left _ 0) _) (zr R hR i _)) (by decide))) ?_
   (repeat' (first|exact trivial|refine And.intro ?_ ?_))
   all_goals (refine .out (by simp) ?_;refine FinP.open rfl ?_;rw[vP hix,vQ hix hx,hix,decide_eq_true (Int.natCast_nonneg i)])
   all_goals exact congrArg (fun r=>AV.tup [.agg [.d (.sl 6 r)],opv x,bv true]) (zq R i _ hwr)
  ·have h2:aq l x=6:=by simpa using h2
   (repeat (first|refine Spl.t rfl ?_|refine Spl.f rfl ?_))
   (first|refine Sq.go ?_|refine ah (Sq.go ?_)|skip)
   (try refine WJ.cut ?_)
   exact⟨i+1,⟨by omega,u3 hx hb h2⟩,by omega,⟨aE (am _ (by omega) (by omega)),trivial⟩,(by repeat' (first|exact trivial|exact rfl|refine And.intro ?_ ?_)),(by repeat' (first|exact trivial|exact rfl|refine And.intro ?_ ?_)),(by repeat' (first|exact trivial|exact rfl|refine And.intro ?_ ?_))⟩
 ·have h1:=of_decide_eq_false h1
  simp at h1
  rw[List.take_of_length_le (by omega)]at hb
  have hix:=gz l R hb
  (repeat (first|refine Spl.t rfl ?_|refine Spl.f rfl ?_))
  (first|refine Sq.go ?_|refine ah (Sq.go ?_)|skip)
  (try refine ay _ _ _ _ ?_)
  refine FinP.open rfl ?_
  unfold dT eO
  rw[hix];rfl
end Go.Proofs.E
namespace Go.Proofs.E
attribute [local irreducible] elems
end Go.Proofs.E
end
section
namespace Go.Gv.Fl
open Ieee
set_option exponentiation.threshold 2000
def fl (z:Int):Nat:=double.write (.number (decide (z<0)) z.natAbs 0)
theorem log2_lt {n k:Nat}(h0:n≠0)(h:n<2^k):n.log2<k:=(Nat.log2_lt h0).2 h
theorem jl (n k:Nat)(h:n≠0):(n*2^k).log2=n.log2+k:=by
 induction k with
 |zero=>simp
 |succ k ih=>
  rw[Nat.pow_succ,←Nat.mul_assoc,Nat.mul_comm (n*2^k) 2,Nat.log2_two_mul (Nat.mul_ne_zero h (Nat.ne_of_gt (Nat.two_pow_pos k))),ih];omega
theorem y6:double.leastPlace=-1074:=by decide
theorem binade:double.binade=2^52:=rfl
theorem sw:double.signWeight=2^63:=rfl
theorem inf:double.infRung=2047*2^52:=by decide
theorem gA (neg:Bool)(mag z:Nat)(place:Int)(hp:-1074≤place)(hz:0<z)(hz':z<2^53)(h:mag*2^(place+1074).toNat=z*2^1074):
 double.nearest neg mag place=double.word neg ((1022+z.log2)*2^52+z*2^(52-z.log2)):=by
 have hz0:z≠0:=by omega
 have hm0:mag≠0:=fun e=>by
  subst e;rw[Nat.zero_mul]at h
  have:=Nat.mul_pos hz (Nat.two_pow_pos 1074);omega
 have hl:z.log2≤52:=by have:=log2_lt hz0 hz';omega
 have hlog:mag.log2+(place+1074).toNat=z.log2+1074:=by
  rw[←jl mag _ hm0,h,jl z _ hz0]
 unfold Format.nearest
 rw[if_neg hm0]
 simp only[y6]
 have hlast:max (place+(mag.log2:Int)-(double.fractionBits:Nat)) (-1074)=((z.log2:Nat):Int)-52:=by
  have:(double.fractionBits:Int)=52:=rfl
  omega
 rw[hlast]
 have hkept:Toward.even.cut neg (mag <<< (place-(((z.log2:Nat):Int)-52)).toNat) ((((z.log2:Nat):Int)-52)-place).toNat=z*2^(52-z.log2):=by
  by_cases hc:((z.log2:Nat):Int)-52≤place
  ·have e1:(((z.log2:Nat):Int)-52-place).toNat=0:=by omega
   rw[e1]
   have e2:mag <<< (place-(((z.log2:Nat):Int)-52)).toNat=z*2^(52-z.log2):=by
    rw[Nat.shiftLeft_eq]
    have:mag*2^(place-(((z.log2:Nat):Int)-52)).toNat*2^(1022+z.log2)=z*2^(52-z.log2)*2^(1022+z.log2):=by
     rw[Nat.mul_assoc,←Nat.pow_add,Nat.mul_assoc,←Nat.pow_add,show(place-(((z.log2:Nat):Int)-52)).toNat+(1022+z.log2)=(place+1074).toNat by omega,show 52-z.log2+(1022+z.log2)=1074 by omega]
     exact h
    exact Nat.eq_of_mul_eq_mul_right (Nat.two_pow_pos _) this
   rw[e2]
   unfold Toward.cut
   simp[Nat.mod_one]
  ·have e1:(place-(((z.log2:Nat):Int)-52)).toNat=0:=by omega
   rw[e1,Nat.shiftLeft_zero]
   generalize hd:(((z.log2:Nat):Int)-52-place).toNat=d
   have hmag:mag=z*2^(52-z.log2)*2^d:=by
    have:mag*2^(place+1074).toNat=z*2^(52-z.log2)*2^d*2^(place+1074).toNat:=by
     rw[Nat.mul_assoc,Nat.mul_assoc,←Nat.pow_add,←Nat.pow_add,show 52-z.log2+(d+(place+1074).toNat)=1074 by omega]
     exact h
    exact Nat.eq_of_mul_eq_mul_right (Nat.two_pow_pos _) this
   have hk:d≤mag.log2:=by
    rw[hmag,jl _ _ (Nat.mul_ne_zero hz0 (Nat.ne_of_gt (Nat.two_pow_pos _)))];omega
   unfold Toward.cut
   rw[Nat.min_eq_left (by omega),Nat.one_shiftLeft]
   have hr:mag % 2^d=0:=by rw[hmag];exact Nat.mul_mod_left _ _
   have hq:mag/2^d=z*2^(52-z.log2):=by rw[hmag];exact Nat.mul_div_cancel _ (Nat.two_pow_pos _)
   simp only[hr,hq]
   have:¬(2^d<2*0):=by omega
   have h2:(2^d==2*0)=false:=beq_eq_false_iff_ne.2 (Nat.ne_of_gt (Nat.two_pow_pos d))
   simp[h2]
 rw[hkept]
 have hb:z*2^(52-z.log2)<2^53:=by
  have:z<2^(z.log2+1):=Nat.lt_log2_self
  calc z*2^(52-z.log2)<2^(z.log2+1)*2^(52-z.log2):=(Nat.mul_lt_mul_right (Nat.two_pow_pos _)).2 this
   _=2^53:=by rw[←Nat.pow_add];congr 1;omega
 have e3:((((z.log2:Nat):Int)-52)- -1074).toNat=1022+z.log2:=by omega
 have hmin:min ((1022+z.log2)*2^52+z*2^(52-z.log2)) (2047*2^52)=(1022+z.log2)*2^52+z*2^(52-z.log2):=by
  have:(1022+z.log2)*2^52≤1074*2^52:=Nat.mul_le_mul_right _ (by omega)
  have hle:(1022+z.log2)*2^52+z*2^(52-z.log2)≤2047*2^52:=Nat.le_trans (Nat.add_le_add this (Nat.le_of_lt hb)) (by decide)
  exact Nat.min_eq_left hle
 rw[e3,inf,binade]
 exact congrArg (double.word neg) hmin
def Is (d:Datum)(z:Int):Prop:=∃s m i,d=.number s m i∧-104≤i∧i≤64∧(m:Int)*2^(i+1074).toNat*(if s then-1 else 1)=z*2^1074
theorem tM (neg:Bool)(L k:Nat)(hL:L≤1074)(hk:2^52≤k)(hk':k<2^53):double.read (double.word neg (L*2^52+k))=.number neg k (L-1074):=by
 have hr:L*2^52+k<2047*2^52:=by
  have:L*2^52≤1074*2^52:=Nat.mul_le_mul_right _ hL
  omega
 have hw:double.word neg (L*2^52+k)/2^63 % 2=neg.toNat∧double.word neg (L*2^52+k) % 2^63=L*2^52+k:=by
  unfold Format.word
  rw[sw]
  cases neg with
  |true=>simp only[if_true,Bool.toNat_true];omega
  |false=>simp only[Bool.false_eq_true,if_false,Bool.toNat_false];omega
 have e1:(L*2^52+k) % 2^52=k-2^52:=by omega
 have e2:(L*2^52+k)/2^52=L+1:=by omega
 have hneg:(neg.toNat==1)=neg:=by cases neg<;>rfl
 have n1:¬(L*2^52+k<2^52):=by omega
 have n2:2^52+(k-2^52)=k:=by omega
 have n3:(-1074:Int)+((L+1-1:Nat):Int)=(L:Int)-1074:=by omega
 simp only[Format.read,sw,hw.1,hw.2,y6,binade,inf,n1,if_false,hr,if_true,e1,e2,hneg,n2,n3]
theorem Ae (z:Nat)(h:0<z)(h':z<2^53)(neg:Bool):double.write (.number neg z 0)=double.word neg ((1022+z.log2)*2^52+z*2^(52-z.log2)):=
 gA neg z z 0 (by decide) h h' rfl
theorem mb (z:Nat)(h:0<z)(h':z<2^53):z.log2≤52∧2^52≤z*2^(52-z.log2)∧z*2^(52-z.log2)<2^53:=by
 have hz0:z≠0:=by omega
 have hl:z.log2≤52:=by have:=log2_lt hz0 h';omega
 have h1:z<2^(z.log2+1):=Nat.lt_log2_self
 have h2:2^z.log2≤z:=Nat.log2_self_le hz0
 refine⟨hl,?_,?_⟩
 ·calc 2^52=2^z.log2*2^(52-z.log2):=by rw[←Nat.pow_add];congr 1;omega
   _≤_:=Nat.mul_le_mul_right _ h2
 ·calc z*2^(52-z.log2)<2^(z.log2+1)*2^(52-z.log2):=(Nat.mul_lt_mul_right (Nat.two_pow_pos _)).2 h1
   _=2^53:=by rw[←Nat.pow_add];congr 1;omega
theorem nv:fl 0=0:=by decide
theorem tL:double.read 0=.number false 0 (-1074):=by decide
theorem wj {z:Int}(h:z≠0)(h':z.natAbs<2^53):fl z=double.word (decide (z<0)) ((1022+z.natAbs.log2)*2^52+z.natAbs*2^(52-z.natAbs.log2)):=Ae z.natAbs (by omega) h' _
theorem x4 {z:Int}(h:z≠0)(h':z.natAbs<2^53):double.read (fl z)=.number (decide (z<0)) (z.natAbs*2^(52-z.natAbs.log2)) ((z.natAbs.log2:Int)-52):=by
 obtain⟨k1,k2,k3⟩:=mb z.natAbs (by omega) h'
 rw[wj h h',tM _ _ _ (by omega) k2 k3]
 congr 1
 omega
def un (s:Bool)(m:Nat)(i:Int):Int:=Ieee.signed s m (i+1074).toNat
theorem cL (s:Bool)(m k:Nat):Ieee.signed s m k=(if s then-1 else 1)*((m:Int)*2^k):=by
 unfold Ieee.signed
 cases s<;>simp[Nat.shiftLeft_eq]
theorem dW {a:Int}(h':a.natAbs<2^53):∃s m i,double.read (fl a)=.number s m i∧-1074≤i∧i≤0∧un s m i=a*2^1074∧s=decide (a<0)∧(a≠0→m=a.natAbs*2^(-i).toNat∧-52≤i)∧(a=0→m=0):=by
 by_cases h:a=0
 ·subst h
  refine⟨false,0,-1074,?_,by decide,by decide,?_,rfl,fun h=>absurd rfl h,fun _=>rfl⟩
  ·rw[nv,tL]
  ·rw[un,cL];simp
 ·obtain⟨k1,k2,k3⟩:=mb a.natAbs (by omega) h'
  refine⟨_,_,_,x4 h h',by omega,by omega,?_,rfl,fun _=>⟨?_,by omega⟩,fun e=>absurd e h⟩
  ·rw[un,cL]
   have e1:(((a.natAbs.log2:Nat):Int)-52+1074).toNat=1022+a.natAbs.log2:=by omega
   rw[e1]
   have e2:(((a.natAbs*2^(52-a.natAbs.log2):Nat):Int))*2^(1022+a.natAbs.log2)=(a.natAbs:Int)*2^1074:=by
    rw[Int.natCast_mul,Int.mul_assoc,Int.natCast_pow,show((2:Nat):Int)=2 from rfl,←Int.pow_add,show 52-a.natAbs.log2+(1022+a.natAbs.log2)=1074 by omega]
   rw[e2]
   by_cases hn:a<0
   ·rw[decide_eq_true hn,if_pos rfl,←Int.mul_assoc];congr 1;omega
   ·rw[decide_eq_false hn,if_neg (by decide),←Int.mul_assoc];congr 1;omega
  ·congr 2;omega
theorem iR (s:Bool)(m:Nat)(i base:Int)(h:base≤i)(hb:-1074≤base):Ieee.signed s m (i-base).toNat*2^(base+1074).toNat=un s m i:=by
 rw[un,cL,cL,Int.mul_assoc,Int.mul_assoc,←Int.pow_add,show(i-base).toNat+(base+1074).toNat=(i+1074).toNat by omega]
theorem jh (k:Nat):(0:Int)<2^k:=Int.pow_pos (by decide)
theorem AZ {t z:Int}{k:Nat}(hk:k≤1074)(h:t*2^k=z*2^1074):(t=0↔z=0)∧(t<0↔z<0)∧t.natAbs*2^k=z.natAbs*2^1074:=by
 have e:t=z*2^(1074-k):=by
  have:t*2^k=z*2^(1074-k)*2^k:=by rw[Int.mul_assoc,←Int.pow_add,show 1074-k+k=1074 by omega];exact h
  exact Int.eq_of_mul_eq_mul_right (Int.ne_of_gt (jh k)) this
 have hp:=jh (1074-k)
 refine⟨⟨fun h0=>?_,fun h0=>by rw[e,h0,Int.zero_mul]⟩,⟨fun h0=>?_,fun h0=>?_⟩,?_⟩
 ·rw[e]at h0
  rcases Int.mul_eq_zero.1 h0 with h1|h1
  ·exact h1
  ·omega
 ·refine Classical.byContradiction fun hn=>?_
  have:=Int.mul_nonneg (show(0:Int)≤z by omega) (Int.le_of_lt hp)
  omega
 ·rw[e];exact Int.mul_neg_of_neg_of_pos h0 hp
 ·rw[e,Int.natAbs_mul,Int.natAbs_pow,Nat.mul_assoc]
  rw[show(2:Int).natAbs=2 from rfl,←Nat.pow_add,show 1074-k+k=1074 by omega]
theorem sh {s t:Bool}{m n:Nat}{i j a b:Int}(hi:-1074≤i)(hi':i≤0)(hj:-1074≤j)(hj':j≤0)(ha:un s m i=a*2^1074)(hb:un t n j=b*2^1074)(h:(a+b).natAbs<2^53)(h0:a+b=0→(s&&t)=false):
 ((Datum.number s m i).sum (.number t n j)).map double.write=some (fl (a+b)):=by
 simp only[Datum.sum,Option.map_some,Option.some.injEq]
 generalize hbase:min i j=base
 have hb1:-1074≤base:=by omega
 have hb2:base≤0:=by omega
 generalize htot:Ieee.signed s m (i-base).toNat+Ieee.signed t n (j-base).toNat=tot
 have e1:tot*2^(base+1074).toNat=(a+b)*2^1074:=by
  rw[←htot,Int.add_mul,iR s m i base (by omega) hb1,iR t n j base (by omega) hb1,ha,hb,Int.add_mul]
 obtain⟨z1,z2,z3⟩:=AZ (by omega) e1
 by_cases hz:a+b=0
 ·rw[if_pos (z1.2 hz),z1.2 hz,h0 hz,hz,nv]
  show double.nearest false 0 base=0
  rw[Format.nearest,if_pos rfl];rfl
 ·rw[if_neg fun e=>hz (z1.1 e),wj hz h]
  have:decide (tot<0)=decide (a+b<0):=by simp[z2]
  rw[this]
  exact gA _ _ _ base hb1 (by omega) h z3
theorem AI {a b:Int}(ha:a.natAbs<2^53)(hb:b.natAbs<2^53)(h:(a+b).natAbs<2^53):double.add (fl a) (fl b)=some (fl (a+b)):=by
 obtain⟨s,m,i,h1,h2,h3,h4,h5,_,_⟩:=dW ha
 obtain⟨t,n,j,k1,k2,k3,k4,k5,_,_⟩:=dW hb
 unfold Format.add
 rw[h1,k1]
 refine sh h2 h3 k2 k3 h4 k4 h fun e=>?_
 subst h5;subst k5
 by_cases x:a<0
 ·rw[decide_eq_false (show¬b<0 by omega),Bool.and_false]
 ·rw[decide_eq_false x,Bool.false_and]
theorem zv (s:Bool)(m:Nat)(i:Int):un (!s) m i=-un s m i:=by
 rw[un,un,cL,cL];cases s<;>simp
theorem zC {a b:Int}(ha:a.natAbs<2^53)(hb:b.natAbs<2^53)(h:(a-b).natAbs<2^53):double.sub (fl a) (fl b)=some (fl (a-b)):=by
 obtain⟨s,m,i,h1,h2,h3,h4,h5,_,_⟩:=dW ha
 obtain⟨t,n,j,k1,k2,k3,k4,k5,_,_⟩:=dW hb
 unfold Format.sub
 rw[h1,k1]
 have:=sh (t:=!t) (n:=n) (j:=j) (b:=-b) h2 h3 k2 k3 h4 (by rw[zv,k4,Int.neg_mul]) (by rw[←Int.sub_eq_add_neg];exact h) fun e=>by
  subst h5;subst k5
  have:a=b:=by omega
  subst this
  cases decide (a<0)<;>rfl
 rw[←Int.sub_eq_add_neg]at this
 exact this
theorem zX {a b:Int}(ha:a.natAbs<2^53)(hb:b.natAbs<2^53)(ha0:a≠0)(hb0:b≠0)(h:(a*b).natAbs<2^53):double.mul (fl a) (fl b)=some (fl (a*b)):=by
 obtain⟨s,m,i,h1,h2,h3,h4,h5,h6,_⟩:=dW ha
 obtain⟨t,n,j,k1,k2,k3,k4,k5,k6,_⟩:=dW hb
 obtain⟨m1,m2⟩:=h6 ha0
 obtain⟨n1,n2⟩:=k6 hb0
 unfold Format.mul
 rw[h1,k1]
 simp only[Datum.product,Option.map_some,Option.some.injEq]
 have hab:a*b≠0:=Int.mul_ne_zero ha0 hb0
 rw[wj hab h]
 have hs:(s^^t)=decide (a*b<0):=by
  subst h5;subst k5
  by_cases x:a<0<;>by_cases y:b<0
  ·have:=Int.mul_pos_of_neg_of_neg x y
   rw[decide_eq_true x,decide_eq_true y,decide_eq_false (by omega)];rfl
  ·have:=Int.mul_neg_of_neg_of_pos x (show 0<b by omega)
   rw[decide_eq_true x,decide_eq_false y,decide_eq_true this];rfl
  ·have:=Int.mul_neg_of_pos_of_neg (show 0<a by omega) y
   rw[decide_eq_false x,decide_eq_true y,decide_eq_true this];rfl
  ·have:=Int.mul_pos (show 0<a by omega) (show 0<b by omega)
   rw[decide_eq_false x,decide_eq_false y,decide_eq_false (by omega)];rfl
 rw[←hs]
 refine gA _ _ _ (i+j) (by omega) (Int.natAbs_pos.2 hab) h ?_
 rw[m1,n1,Int.natAbs_mul]
 rw[show a.natAbs*2^(-i).toNat*(b.natAbs*2^(-j).toNat)*2^(i+j+1074).toNat=a.natAbs*b.natAbs*(2^(-i).toNat*2^(-j).toNat*2^(i+j+1074).toNat)by ac_rfl,←Nat.pow_add,←Nat.pow_add,show(-i).toNat+(-j).toNat+(i+j+1074).toNat=1074 by omega]
theorem vA {a b:Int}(ha:a.natAbs<2^53)(hb:b.natAbs<2^53):(double.order (fl a) (fl b)==some .eq)=decide (a=b):=by
 obtain⟨s,m,i,h1,h2,h3,h4,_,_,_⟩:=dW ha
 obtain⟨t,n,j,k1,k2,k3,k4,_,_,_⟩:=dW hb
 unfold Format.order
 rw[h1,k1]
 simp only[Datum.order]
 generalize hbase:min i j=base
 have u1:=iR s m i base (by omega) (by omega)
 have u2:=iR t n j base (by omega) (by omega)
 generalize Ieee.signed s m (i-base).toNat=x at*
 generalize Ieee.signed t n (j-base).toNat=y at*
 have hp:=jh (base+1074).toNat
 have hq:=jh 1074
 have hxy:x=y↔a=b:=by
  constructor
  ·intro e
   subst e
   rw[u1,h4,k4]at u2
   exact Int.eq_of_mul_eq_mul_right (Int.ne_of_gt hq) u2
  ·intro e
   subst e
   rw[←k4,←u2]at h4
   rw[h4]at u1
   exact Int.eq_of_mul_eq_mul_right (Int.ne_of_gt hp) u1
 by_cases e:a=b
 ·rw[decide_eq_true e,hxy.2 e];simp
 ·rw[decide_eq_false e]
  have hne:x≠y:=fun x=>e (hxy.1 x)
  have:compare x y≠ .eq:=fun h=>hne (Std.LawfulEqOrd.eq_of_compare h)
  cases hc:compare x y<;>first|rfl|exact absurd hc this
theorem uS {a:Int}(ha:a.natAbs<2^53):(double.read (fl a)).toInt .zero=some a:=by
 obtain⟨s,m,i,h1,h2,h3,h4,h5,h6,h7⟩:=dW ha
 rw[h1]
 unfold Datum.toInt Datum.integral
 simp only
 rw[show i.toNat=0 by omega,Nat.shiftLeft_zero]
 by_cases h:a=0
 ·rw[h7 h]
  subst h
  have:Toward.zero.cut s 0 (-i).toNat=0:=by unfold Toward.cut;simp
  rw[this,cL];simp
 ·obtain⟨m1,m2⟩:=h6 h
  have hz:a.natAbs≠0:=by omega
  have hc:Toward.zero.cut s m (-i).toNat=a.natAbs:=by
   unfold Toward.cut
   have hl:m.log2=a.natAbs.log2+(-i).toNat:=by rw[m1,jl _ _ hz]
   rw[Nat.min_eq_left (by omega),Nat.one_shiftLeft,m1]
   show a.natAbs*2^(-i).toNat/2^(-i).toNat+0=a.natAbs
   rw[Nat.mul_div_cancel _ (Nat.two_pow_pos _)];rfl
  rw[hc,cL,h5]
  congr 1
  by_cases hn:a<0
  ·rw[decide_eq_true hn,if_pos rfl];omega
  ·rw[decide_eq_false hn,if_neg (by decide)];omega
end Go.Gv.Fl
end
section
namespace Go.Gv
open Go.RowKit Fl
abbrev vf (a:Int):Value:=.float .f64 (fl a)
abbrev vc2 (a b:Int):Value:=.complex .f64 (fl a) (fl b)
abbrev fv (a:Int):AV:=.d (.v (vf a))
abbrev cx (a b:Int):AV:=.d (.v (vc2 a b))
def sm (z:Int):Prop:=z.natAbs<2^53
section
variable {P:Program}
theorem ke {op:BinOp}{tt:TypeId}{ox oy:Operand}{k k':FloatKind}{a b c d:Nat}{w:World}:(eqGuard op tt ox oy (.complex k a b) (.complex k' c d)).run P w=.ok () w:=by
 cases op<;>simp[eqGuard]
theorem wm {a b:Int}(ha:sm a)(hb:sm b)(h:sm (a+b)):FloatKind.f64.format.add (fl a) (fl b)=some (fl (a+b)):=AI ha hb h
theorem Bg {a b:Int}(ha:sm a)(hb:sm b)(h:sm (a-b)):FloatKind.f64.format.sub (fl a) (fl b)=some (fl (a-b)):=zC ha hb h
theorem sN {a b:Int}(ha:sm a)(hb:sm b)(ha0:a≠0)(hb0:b≠0)(h:sm (a*b)):FloatKind.f64.format.mul (fl a) (fl b)=some (fl (a*b)):=zX ha hb ha0 hb0 h
theorem zc {a b:Int}(ha:sm a)(hb:sm b):(FloatKind.f64.format.order (fl a) (fl b)==some .eq)=decide (a=b):=vA ha hb
theorem B.cadd {tt:TypeId}{a b c d:Int}(h1:sm a)(h2:sm b)(h3:sm c)(h4:sm d)(h5:sm (a+c))(h6:sm (b+d)):gL P .add tt (vc2 a b) (vc2 c d) (vc2 (a+c) (b+d)):=
 ⟨rfl,fun ox oy w=>by simp[ke,binOp,Op.complexOp,Op.Complex.arith,Op.floatArith,wm h1 h3 h5,wm h2 h4 h6]⟩
theorem B.cmul {tt:TypeId}{a b c d:Int}(h1:sm a)(h2:sm b)(h3:sm c)(h4:sm d)(a0:a≠0)(b0:b≠0)(c0:c≠0)(d0:d≠0)(m1:sm (a*c))(m2:sm (b*d))(m3:sm (a*d))(m4:sm (b*c))(h5:sm (a*c-b*d))(h6:sm (a*d+b*c)):
 gL P .mul tt (vc2 a b) (vc2 c d) (vc2 (a*c-b*d) (a*d+b*c)):=
 ⟨rfl,fun ox oy w=>by
  simp[ke,binOp,Op.complexOp,Op.Complex.arith,Op.Complex.conv,Op.Complex.product,Op.Complex.add,Op.Complex.sub,Op.Complex.mul,Op.floatArith,sN h1 h3 a0 c0 m1,sN h2 h4 b0 d0 m2,sN h1 h4 a0 d0 m3,sN h2 h3 b0 c0 m4,Bg m1 m2 h5,wm m3 m4 h6]⟩
theorem B.ceq {tt:TypeId}{a b c d:Int}(h1:sm a)(h2:sm b)(h3:sm c)(h4:sm d):gL P .eql tt (vc2 a b) (vc2 c d) (.bool (decide (a=c)&&decide (b=d))):=
 ⟨rfl,fun ox oy w=>by simp[ke,binOp,Op.complexOp,Op.Complex.cmp,Op.floatCmp,asBool,zc h1 h3,zc h2 h4]⟩
theorem yE {src dst:TypeId}{z:Int}{d:TypeDesc}(hs:P.underlying src=some d)(hd:P.underlying dst=some (.int .i64))(h:sm z)(w:World):(convert src dst (vf z)).run P w=.ok (.int .i64 z) w:=by
 have hz:-9223372036854775808≤z∧z≤9223372036854775807:=by unfold sm at h;omega
 have e:(FloatKind.f64.decode (fl z)).toInt .zero=some z:=uS h
 have hr:IntKind.i64.min≤z∧z≤IntKind.i64.max:=hz
 simp[convert,underlying,hs,hd,Conv.floatToInt,e,hr]
 intro hlt;omega
end
section
variable {X:Cx} {d:Option Nat} {ty:TypeId} {pos:String} {aft:Array Edge} {g:Option (Nat×Bool)} {t:T} {σ:Sg}
theorem O.complex {x y:Operand}{tys:Array TypeId}{a b:Int}(hx:ge t x=some (fv a))(hy:ge t y=some (fv b)):QJ X ⟨d,.call {callee:=.builtin .complex,args:=#[x,y],argTypes:=tys},ty,pos,aft,g⟩ t σ (cx a b):=
 xo hx hy (fun cs w=>rfl) rfl
theorem jM {src dst:TypeId}{x:Operand}{z:Int}{de:TypeDesc}(hx:ge t x=some (fv z))(hs:X.P.underlying src=some de)(hd:X.P.underlying dst=some (.int .i64))(h:sm z):QJ X ⟨d,.convert src dst x,ty,pos,aft,g⟩ t σ (.d (.v (.int .i64 z))):=
 O.conv hx (yE hs hd h) rfl
end
end Go.Gv
end
section
open Go Go.Gv Go.Gv.Fl
attribute [local irreducible] Go.Gv.WJ Go.Gv.OpJ Go.Gv.QJ Go.Gv.Spl Go.Gv.Req Go.Gv.IdxP Go.Gv.RegP Go.Gv.FinP Go.Gv.CellP Go.Gv.CellsP Go.Gv.ArrP Go.Gv.ArrsP Go.Gv.DropP Go.Gv.ByteP Go.Gv.StoreP
set_option maxRecDepth 100000
namespace Go.Proofs.E
structure TL where
 n:Int
 a:Int
 b:Int
 c:Int
 d:Int
abbrev tlv (t:TL):AV:=.agg [iv t.n,cx t.a t.b,cx t.c t.d]
def TL.ok (t:TL):Prop:=0≤t.n∧t.n≤4096∧t.a.natAbs≤t.n.toNat*1048576∧t.b.natAbs≤t.n.toNat*1000∧t.c.natAbs≤t.n.toNat*1099511627776∧t.d.natAbs≤t.n.toNat*2147483648
def TL.add (t u:TL):TL:=⟨t.n+u.n,t.a+u.a,t.b+u.b,t.c+u.c,t.d+u.d⟩
def TL.sub (t u:TL):TL:=⟨t.n-u.n,t.a-u.a,t.b-u.b,t.c-u.c,t.d-u.d⟩
def TL.one (x:ID):TL:=⟨1,x.c,x.s,x.c*x.c-x.s*x.s,x.c*x.s+x.s*x.c⟩
def TL.zero:TL:=⟨0,0,0,0,0⟩
theorem fK {t:TL}(h:t.ok):sm t.a∧sm t.b∧sm t.c∧sm t.d:=by
 obtain⟨h1,h2,h3,h4,h5,h6⟩:=h
 unfold sm
 refine⟨?_,?_,?_,?_⟩<;>omega
theorem oh {t u:TL}(h:t.ok)(k:u.ok)(hn:t.n+u.n≤4096):(t.add u).ok:=by
 obtain⟨h1,h2,h3,h4,h5,h6⟩:=h
 obtain⟨k1,k2,k3,k4,k5,k6⟩:=k
 unfold TL.ok TL.add
 simp only
 refine⟨?_,?_,?_,?_,?_,?_⟩<;>omega
theorem Bt (x:ID):Cv 270 [idv x] (cx x.c x.s):=by
 refine ab Tryz.f270 Tryz.func270 rfl rfl fun w H B g0=>?_
 refine bq (O.complex (a:=x.c) (b:=x.s) rfl rfl) rfl ?_
 exact FinP.open rfl rfl
theorem BA (t u:TL)(h:t.ok)(k:u.ok):Cv 271 [tlv t,tlv u] (if t.n+u.n≤4096 then .tup [tlv (t.add u),iv 0]else .tup [tlv TL.zero,iv 7]):=by
 have hw:IntKind.i64.wrap (t.n+u.n)=t.n+u.n:=by obtain⟨_,_,_⟩:=h;obtain⟨_,_,_⟩:=k;exact am _ (by omega) (by omega)
 obtain⟨a1,a2,a3,a4⟩:=fK h
 obtain⟨b1,b2,b3,b4⟩:=fK k
 refine ab Tryz.f271 Tryz.func271 rfl rfl fun w H B g0=>?_
 refine Spl.of (fun e=>?_) (fun e=>?_)
 ·have:¬t.n+u.n≤4096:=by have:=of_decide_eq_true e;rw[hw]at this;omega
  rw[if_neg this]
  exact FinP.open rfl rfl
 ·have hle:t.n+u.n≤4096:=by have:=of_decide_eq_false e;rw[hw]at this;omega
  obtain⟨c1,c2,c3,c4⟩:=fK (oh h k hle)
  rw[if_pos hle]
  (repeat (first|refine Spl.t rfl ?_|refine Spl.f rfl ?_))
  refine bq (om rfl rfl (Gv.B.cadd a1 a2 b1 b2 c1 c2)) rfl ?_
  refine bq (om rfl rfl (Gv.B.cadd a3 a4 b3 b4 c3 c4)) rfl ?_
  refine FinP.open rfl ?_
  show AV.tup [.agg [iv (IntKind.i64.wrap (t.n+u.n)),_,_],_]=_
  rw[hw];rfl
theorem yL (t u:TL)(h:t.ok)(k:u.ok):Cv 118 [tlv t,tlv u] (bv (decide (t.n=u.n)&&(decide (t.a=u.a)&&decide (t.b=u.b))&&(decide (t.c=u.c)&&decide (t.d=u.d)))):=by
 obtain⟨a1,a2,a3,a4⟩:=fK h
 obtain⟨b1,b2,b3,b4⟩:=fK k
 refine ab Tryz.f118 Tryz.func118 rfl rfl fun w H B g0=>?_
 refine Spl.of (fun e=>?_) (fun e=>?_)
 ·(repeat (first|refine Spl.t rfl ?_|refine Spl.f rfl ?_))
  refine bq (om rfl rfl (Gv.B.ceq a1 a2 b1 b2)) rfl ?_
  (repeat (first|refine Spl.t rfl ?_|refine Spl.f rfl ?_))
  refine Spl.of (fun e2=>?_) (fun e2=>?_)
  ·(repeat (first|refine Spl.t rfl ?_|refine Spl.f rfl ?_))
   refine bq (om rfl rfl (Gv.B.ceq a3 a4 b3 b4)) rfl ?_
   (repeat (first|refine Spl.t rfl ?_|refine Spl.f rfl ?_))
   exact FinP.open rfl (congrArg bv (by rw[e,e2];rfl))
  ·(repeat (first|refine Spl.t rfl ?_|refine Spl.f rfl ?_))
   exact FinP.open rfl (congrArg bv (by rw[e,e2];rfl))
 ·(repeat (first|refine Spl.t rfl ?_|refine Spl.f rfl ?_))
  exact FinP.open rfl (congrArg bv (by rw[e];rfl))
end Go.Proofs.E
namespace Go.Proofs.E
theorem k8 {a b m n:Int}(h1:1≤a)(h2:a≤m)(h3:1≤b)(h4:b≤n):1≤a*b∧a*b≤m*n:=
 ⟨by have:=Int.mul_le_mul h1 h3 (by omega) (by omega);simpa using this,Int.mul_le_mul h2 h4 (by omega) (by omega)⟩
theorem sx {x:ID}(h:bg x=true):(1≤x.c*x.c∧x.c*x.c≤1099511627776)∧(1≤x.s*x.s∧x.s*x.s≤1000000)∧(1≤x.c*x.s∧x.c*x.s≤1048576000)∧(1≤x.s*x.c∧x.s*x.c≤1048576000):=by
 obtain⟨a1,a2,a3,a4⟩:=bf h
 exact⟨k8 a1 a2 a1 a2,k8 a3 a4 a3 a4,k8 a1 a2 a3 a4,k8 a3 a4 a1 a2⟩
theorem vE {x:ID}(h:bg x=true):(TL.one x).ok:=by
 obtain⟨a1,a2,a3,a4⟩:=bf h
 obtain⟨h1,h2,h3,h4⟩:=sx h
 unfold TL.ok TL.one
 simp only
 refine⟨by omega,by omega,?_,?_,?_,?_⟩
 ·show x.c.natAbs≤1*1048576;omega
 ·show x.s.natAbs≤1*1000;omega
 ·show(x.c*x.c-x.s*x.s).natAbs≤1*1099511627776;omega
 ·show(x.c*x.s+x.s*x.c).natAbs≤1*2147483648;omega
theorem w2 (t:TL)(x:ID)(h:t.ok):Cv 247 [tlv t,idv x] (if bg x=true then(if t.n+(TL.one x).n≤4096 then .tup [tlv (t.add (TL.one x)),iv 0]else .tup [tlv TL.zero,iv 7])else .tup [tlv TL.zero,iv 2]):=by
 refine ab Tryz.f247 Tryz.func247 rfl rfl fun w H B g0=>?_
 refine aa (dx x) (fun _ _=>rfl) rfl rfl rfl ?_
 (repeat (first|refine Spl.t rfl ?_|refine Spl.f rfl ?_))
 refine Spl.of (fun e=>?_) (fun e=>?_)
 ·have hm:¬bg x=true:=fun y=>by simp[bm,y]at e
  rw[if_neg hm]
  refine FinP.open rfl ?_
  show AV.tup [_,iv (bm x)]=_
  rw[bm,if_neg hm];rfl
 ·have hm:bg x=true:=by
   cases y:bg x with
   |true=>rfl
   |false=>simp[bm,y]at e
  obtain⟨a1,a2,a3,a4⟩:=bf hm
  obtain⟨h1,h2,h3,h4⟩:=sx hm
  rw[if_pos hm]
  (repeat (first|refine Spl.t rfl ?_|refine Spl.f rfl ?_))
  refine aa (Bt x) (fun _ _=>rfl) rfl rfl rfl ?_
  (repeat (first|refine Spl.t rfl ?_|refine Spl.f rfl ?_))
  refine bq (om rfl rfl (Gv.B.cmul (by unfold sm;omega) (by unfold sm;omega) (by unfold sm;omega) (by unfold sm;omega) (by omega) (by omega) (by omega) (by omega) (by unfold sm;omega) (by unfold sm;omega) (by unfold sm;omega) (by unfold sm;omega) (by unfold sm;omega) (by unfold sm;omega))) rfl ?_
  have hc:=BA t (TL.one x) h (vE hm)
  by_cases hn:t.n+(TL.one x).n≤4096
  ·rw[if_pos hn]at hc ⊢
   refine aa hc (fun _ _=>rfl) rfl rfl rfl ?_
   exact FinP.open rfl rfl
  ·rw[if_neg hn]at hc ⊢
   refine aa hc (fun _ _=>rfl) rfl rfl rfl ?_
   exact FinP.open rfl rfl
end Go.Proofs.E
namespace Go.Proofs.E
abbrev qQ (x:List UInt8):List D:=[.v (.string ⟨⟨x⟩⟩)]
theorem zL {H:HF}{x u:Value}(r:RepD H (.v x) u):u=x:=by cases r;rfl
theorem AS (xs:List (List UInt8))(sep:List UInt8)(h0:xs≠[])(h1:xs.length≤1000000)(h2:(Lib.join xs sep).length≤100000000):
 Cv 253 [.d (.sl 1 (xs.map qQ)),sv sep] (sv (Lib.join xs sep)):=
 dM fun γ H w vs hΛ hok hl hr=>by
  obtain⟨v0,v1,rfl⟩:∃a b,vs=[a,b]:=by
   match vs,hl with
   |[a,b],_=>exact⟨a,b,rfl⟩
  have r0:=fu (hr 0 _ v0 rfl rfl)
  obtain rfl:=aR (hr 1 _ v1 rfl rfl)
  have hm:=Mem.start hok γ
  cases r0 with
  |sl _ _ A c b o us hk hn hc hA hH hrep=>
   have hlen:0<(xs.map qQ).length:=by simp;exact List.length_pos_iff.2 h0
   obtain rfl:=hA hlen
   have hcell:∀(j:Nat)(x:ByteArray),(xs.map fun x=>(⟨⟨x⟩⟩:ByteArray))[j]?=some x→w.cell? ⟨b,o+j,none⟩=some (.string x):=fun j x hx=>by
    simp only[List.getElem?_map,Option.map_eq_some_iff]at hx
    obtain⟨l,hl,rfl⟩:=hx
    have hj:j<(xs.map qQ).length:=by simp;exact(List.getElem?_eq_some_iff.1 hl).1
    have e1:=hok.c _ _ _ (hH j 0 hj (by decide))
    have e2:=zL (hrep j 0 (qQ l) (.v (.string ⟨⟨l⟩⟩)) (by simp[hl]) rfl)
    rw[Nat.mul_one,Nat.add_zero,e2]at e1
    exact e1
   have hlt:b<w.heap.size:=bG (hok.c _ _ _ (hH 0 0 hlen (by decide)))
   have e0:(xs.map fun x=>(⟨⟨x⟩⟩:ByteArray)).length=(xs.map qQ).length:=by simp
   have e3:(xs.map fun x=>(⟨⟨x⟩⟩:ByteArray)).map (fun x=>x.data.toList)=xs:=by simp[List.map_map,Function.comp_def]
   have key:=Tryz.strings_Join b o c (xs.map fun x=>⟨⟨x⟩⟩) ⟨⟨sep⟩⟩ w hcell hlt (by simp;omega) (by rw[e0];exact hn) (by rw[e3];exact Nat.le_trans h2 (by decide))
   rw[e3,e0]at key
   refine key.mono fun e w' ⟨he,hb⟩=>⟨_,H,he,.d _ _ (.v _ rfl),hm.quiet (gD hb)⟩
theorem js (n:Int)(h:n.natAbs<10^18):(Lib.itoa n).length≤19:=by
 unfold Lib.itoa
 split
 ·simp only[List.length_cons]
  have:=fg n.natAbs 18 h (by decide)
  omega
 ·have:=fg n.toNat 18 (by omega) (by decide)
  omega
def pi (t:TL):List UInt8:=Lib.join [Lib.itoa t.n,Lib.itoa t.a,Lib.itoa t.b,Lib.itoa t.c,Lib.itoa t.d] [32]
def pl (t:TL):List (List UInt8):=[Lib.itoa t.n,Lib.itoa t.a,Lib.itoa t.b,Lib.itoa t.c,Lib.itoa t.d]
def T0T (t:TL)(i:Nat):T:=[(24,iv i),(3,match i with|0=>.full 1 [qQ (Lib.itoa t.n)]|i+1=>.arr 33 1 (i+2))]
def S0T (t:TL)(i:Nat):Sg:=match i with|0=>[]|i+1=>[(33,.arr 1 (((pl t).take (i+2)).map qQ))]
set_option profiler true in
set_option maxHeartbeats 2000000 in
theorem oj (t:TL)(h:t.ok):Cv 215 [tlv t] (sv (pi t)):=by
 obtain⟨a1,a2,a3,a4⟩:=fK h
 have hn:=h.1
 have hn':=h.2.1
 have itoa:∀z,sm z→Cv 251 [iv z,iv 10] (sv (Lib.itoa z)):=fun z hz=>kU z (by unfold sm at hz;omega) (by unfold sm at hz;omega)
 refine ab Tryz.f215 Tryz.func215 rfl rfl fun w H B g0=>?_
 refine aa (xx t.n (by omega) (by omega)) (fun _ _=>rfl) rfl rfl rfl ?_
 refine dK (V:=Nat) (T0T t) (S0T t) (fun i=>4-i) (fun i=>i≤4) 0 (by omega) (by repeat' (first|exact trivial|exact rfl|refine And.intro ?_ ?_)) (by repeat' (first|exact trivial|exact rfl|refine And.intro ?_ ?_)) ?_
 intro i hi
 refine Spl.of (fun h=>?_) (fun h=>?_)
 ·have hlt:i<4:=by have:=of_decide_eq_true h;change (i:Int)<4 at this;omega
  match i,hlt with
  |0,_=>
   (repeat (first|refine Spl.t rfl ?_|refine Spl.f rfl ?_))
   refine IdxP.of [.v (vf t.a)] (by decide) rfl ?_
   refine bq (jM rfl rfl rfl a1) rfl ?_
   refine aa (itoa _ a1) (fun _ _=>rfl) rfl rfl rfl ?_
   refine O.appF (k:=1) rfl rfl (.full 1 _) rfl rfl rfl rfl (by show 1+1≤1000000000;decide) (.inl (List.cons_ne_nil _ _)) ?_
   exact⟨1,by decide,by decide,(by repeat' (first|exact trivial|exact rfl|refine And.intro ?_ ?_)),(by repeat' (first|exact trivial|exact rfl|refine And.intro ?_ ?_))⟩
  |1,_=>
   (repeat (first|refine Spl.t rfl ?_|refine Spl.f rfl ?_))
   refine IdxP.of [.v (vf t.b)] (by decide) rfl ?_
   refine bq (jM rfl rfl rfl a2) rfl ?_
   refine aa (itoa _ a2) (fun _ _=>rfl) rfl rfl rfl ?_
   refine Req.of ⟨rfl,Nat.le_of_ble_eq_true rfl⟩ ?_
   exact⟨2,by decide,by decide,(by repeat' (first|exact trivial|exact rfl|refine And.intro ?_ ?_)),(by repeat' (first|exact trivial|exact rfl|refine And.intro ?_ ?_))⟩
  |2,_=>
   (repeat (first|refine Spl.t rfl ?_|refine Spl.f rfl ?_))
   refine IdxP.of [.v (vf t.c)] (by decide) rfl ?_
   refine bq (jM rfl rfl rfl a3) rfl ?_
   refine aa (itoa _ a3) (fun _ _=>rfl) rfl rfl rfl ?_
   refine Req.of ⟨rfl,Nat.le_of_ble_eq_true rfl⟩ ?_
   exact⟨3,by decide,by decide,(by repeat' (first|exact trivial|exact rfl|refine And.intro ?_ ?_)),(by repeat' (first|exact trivial|exact rfl|refine And.intro ?_ ?_))⟩
  |3,_=>
   (repeat (first|refine Spl.t rfl ?_|refine Spl.f rfl ?_))
   refine IdxP.of [.v (vf t.d)] (by decide) rfl ?_
   refine bq (jM rfl rfl rfl a4) rfl ?_
   refine aa (itoa _ a4) (fun _ _=>rfl) rfl rfl rfl ?_
   refine Req.of ⟨rfl,Nat.le_of_ble_eq_true rfl⟩ ?_
   exact⟨4,by decide,by decide,(by repeat' (first|exact trivial|exact rfl|refine And.intro ?_ ?_)),(by repeat' (first|exact trivial|exact rfl|refine And.intro ?_ ?_))⟩
 ·have he:i=4:=by have:=of_decide_eq_false h;change ¬(i:Int)<4 at this;omega
  subst he
  (repeat (first|refine Spl.t rfl ?_|refine Spl.f rfl ?_))
  refine OpJ.shift (SJ.pubA 33 35 rfl rfl (Nat.le_of_ble_eq_true rfl) (by decide)) ?_
  refine aa (AS (pl t) [32] (by simp[pl]) (by simp[pl]) ?_) (fun _ _=>rfl) rfl rfl rfl ?_
  ·have b1:=js t.n (by omega)
   have b2:=js t.a (by unfold sm at a1;omega)
   have b3:=js t.b (by unfold sm at a2;omega)
   have b4:=js t.c (by unfold sm at a3;omega)
   have b5:=js t.d (by unfold sm at a4;omega)
   simp[pl,Lib.join,List.intercalate,List.intersperse]
   omega
  exact FinP.open rfl rfl
end Go.Proofs.E
namespace Go.Proofs.E
theorem xJ:Cv 204 [] (bv true):=by
 have h0:TL.zero.ok:=by unfold TL.ok;decide
 have hp:=w2 TL.zero ⟨3,2⟩ h0
 rw[if_pos (by decide),if_pos (by decide)]at hp
 refine ab Tryz.f204 Tryz.func204 rfl rfl fun w H B g0=>?_
 refine aa hp (fun _ _=>rfl) rfl rfl rfl ?_
 refine aa lu (fun _ _=>rfl) rfl rfl rfl ?_
 (repeat (first|refine Spl.t rfl ?_|refine Spl.f rfl ?_))
 refine aa (oj _ (by unfold TL.ok;decide)) (fun _ _=>rfl) rfl rfl rfl ?_
 (repeat (first|refine Spl.t rfl ?_|refine Spl.f rfl ?_))
 refine FinP.open rfl (congrArg bv ?_)
 decide+kernel
def TL.mul (k:Int)(x:ID):TL:=⟨k,k*x.c,k*x.s,k*(x.c*x.c-x.s*x.s),k*(x.c*x.s+x.s*x.c)⟩
theorem TL.mul_one (x:ID):TL.mul 1 x=TL.one x:=by simp[TL.mul,TL.one]
theorem TL.back (t:TL)(x:ID):(t.sub (TL.one x)).add (TL.one x)=t:=by
 simp only[TL.sub,TL.add,TL.one]
 cases t
 simp
end Go.Proofs.E
namespace Go.Proofs.E
def TL.sum:List ID→TL
 |[]=>TL.zero
 |x::l=>(TL.sum l).add (TL.one x)
theorem TL.add_comm (t u:TL):t.add u=u.add t:=by
 simp only[TL.add,TL.mk.injEq];omega
theorem TL.add_assoc (t u v:TL):(t.add u).add v=t.add (u.add v):=by
 simp only[TL.add,TL.mk.injEq];omega
theorem TL.zero_add (t:TL):TL.zero.add t=t:=by cases t;simp[TL.zero,TL.add]
theorem m6:∀(l m:List ID),TL.sum (l++m)=(TL.sum l).add (TL.sum m)
 |[],m=>by rw[List.nil_append,TL.sum,TL.zero_add]
 |x::l,m=>by
  rw[List.cons_append,TL.sum,TL.sum,m6 l m,TL.add_assoc,TL.add_comm (TL.sum m),←TL.add_assoc]
theorem rW (x:ID):TL.sum [x]=TL.one x:=by rw[TL.sum,TL.sum,TL.zero_add]
theorem qq (l:List ID)(x:ID):TL.sum (l++[x])=(TL.sum l).add (TL.one x):=by rw[m6,rW]
theorem m5:∀(l:List ID),(TL.sum l).n=l.length
 |[]=>rfl
 |x::l=>by rw[TL.sum];show(TL.sum l).n+1=_;rw[m5 l];simp
theorem TL.sum_ok:∀(l:List ID),(∀x,x∈l→bg x=true)→l.length≤4096→(TL.sum l).ok
 |[],_,_=>by unfold TL.ok;decide
 |x::l,h,hl=>by
  have h1:=TL.sum_ok l (fun y hy=>h y (List.mem_cons_of_mem _ hy)) (by simp at hl;omega)
  refine oh h1 (vE (h x (by simp))) ?_
  rw[m5];simp at hl;show(l.length:Int)+1≤4096;omega
theorem yN (t:TL)(x:ID)(h:t.ok)(hm:bg x=true)(hn:t.n+1≤4096):Cv 247 [tlv t,idv x] (.tup [tlv (t.add (TL.one x)),iv 0]):=by
 have:=w2 t x h
 rw[if_pos hm,if_pos (by show t.n+1≤4096;exact hn)]at this
 exact this
end Go.Proofs.E
end
section
open Go Go.Gv
attribute [local irreducible] Go.Gv.WJ Go.Gv.OpJ Go.Gv.QJ Go.Gv.Spl Go.Gv.Req Go.Gv.IdxP Go.Gv.RegP Go.Gv.FinP Go.Gv.CellP Go.Gv.CellsP Go.Gv.ArrP Go.Gv.ArrsP Go.Gv.DropP Go.Gv.ByteP Go.Gv.StoreP
set_option maxRecDepth 100000
namespace Go.Proofs.E
end Go.Proofs.E
namespace Go.Proofs.E
attribute [local irreducible] elems
def da (L:List EL):Nat:=(L.filter fun e=>e.dead).length
theorem Dn.rowlen:∀{l:List OP},Dn l→l.length=(aj l).length+da (aj l):=by
 intro l h
 induction h with
 |nil=>rfl
 |@snoc l o h hw ih=>
  obtain⟨_,h1⟩:=bQ hw
  rcases h1 with⟨hk,_⟩|⟨hk,_⟩
  ·obtain⟨n,ch,_,hg,_,hr,_⟩:=iY h hw hk
   have hn:=(List.getElem?_eq_some_iff.1 hg).1
   have e1:=(List.take_append_drop n (aj l)).symm
   have e2:(aj l).drop n=⟨o.i,ch,false⟩::(aj l).drop (n+1):=by
    rw[List.drop_eq_getElem_cons hn]
    rw[(List.getElem?_eq_some_iff.1 hg).2]
   have e3:(aj l).set n ⟨o.i,ch,true⟩=(aj l).take n++⟨o.i,ch,true⟩::(aj l).drop (n+1):=List.set_eq_take_append_cons_drop .. |>.trans (if_pos hn)
   have h2:da (aj l)=da ((aj l).take n)+da ((aj l).drop (n+1)):=by
    conv=>lhs;rw[e1,e2]
    unfold da
    rw[List.filter_append,List.length_append,List.filter_cons];simp
   have h3:da ((aj l).set n ⟨o.i,ch,true⟩)=da ((aj l).take n)+(da ((aj l).drop (n+1))+1):=by
    rw[e3]
    unfold da
    rw[List.filter_append,List.length_append,List.filter_cons];simp
   rw[hr,h3,List.length_set,List.length_append,ih,h2];simp;omega
  ·rw[kY h hw hk]
   have h2:da (aj l)=da ((aj l).take (cn l o))+da ((aj l).drop (cn l o)):=by
    unfold da
    rw[←List.length_append,←List.filter_append,List.take_append_drop]
   have h3:da ((aj l).take (cn l o)++⟨o.i,o.ch,false⟩::(aj l).drop (cn l o))=da ((aj l).take (cn l o))+da ((aj l).drop (cn l o)):=by
    unfold da
    rw[List.filter_append,List.length_append,List.filter_cons];simp
   have hp:=gS h hw hk
   rw[h3,←h2,List.length_append,ih];simp;omega
theorem Dn.len2 {l:List OP}(h:Dn l):l.length≤8192:=by
 have h1:=h.rowlen
 have h2:da (aj l)≤(aj l).length:=List.length_filter_le _ _
 have h3:=fP h
 have h4:=h.is.len
 omega
theorem xR:∀(X:List OP)(n:Int),let m:=X.foldl (fun n o=>if o.i.c>n then o.i.c else n) n
 n≤m∧(∀x,x∈X→x.i.c≤m)∧(m=n∨∃x,x∈X∧m=x.i.c)
 |[],n=>⟨by simp,by simp,.inl rfl⟩
 |o::r,n=>by
  have h:=xR r (if o.i.c>n then o.i.c else n)
  simp only[List.foldl_cons]at h ⊢
  generalize List.foldl (fun n o=>if o.i.c>n then o.i.c else n) (if o.i.c>n then o.i.c else n) r=m at h ⊢
  obtain⟨h1,h2,h3⟩:=h
  refine⟨by split at h1<;>omega,fun x hx=>?_,?_⟩
  ·rcases List.mem_cons.1 hx with rfl|hx
   ·split at h1<;>omega
   ·exact h2 x hx
  ·rcases h3 with h3|⟨x,hx,h3⟩
   ·split at h3
    ·exact .inr ⟨o,by simp,h3⟩
    ·exact .inl h3
   ·exact .inr ⟨x,by simp[hx],h3⟩
theorem ow (X:List OP):0≤fM X:=(xR X 0).1
theorem oz {X:List OP}{x:OP}(h:x∈X):x.i.c≤fM X:=(xR X 0).2.1 x h
theorem uR (X:List OP):fM X=0∨∃x,x∈X∧fM X=x.i.c:=(xR X 0).2.2
theorem cK {o:OP}(h:aC o=0):bg o.i=true:=by
 unfold aC at h
 split at h
 ·cases h
 ·split at h
  ·cases h
  ·split at h
   ·cases h
   ·next h3=>
    cases e:bg o.i with
    |true=>rfl
    |false=>exact absurd (.inl e) h3
theorem uQ {X:List OP}(h:∀o,o∈X→aC o=0):fM X≤1048576:=by
 rcases uR X with h1|⟨x,hx,h1⟩
 ·omega
 ·have:=(bf (cK (h x hx))).2.1
  omega
theorem ji {l:List OP}(h:Dn l):∀o,o∈bc l→aC o=0:=fun o ho=>h.is.ok o (aW.1 ho).1
theorem yd:∀{M:List IE},upM M→∀x,x∈M→x.1=eQ M∨aX x.1 (eQ M)=true:=by
 intro M h x hx
 unfold eQ
 cases hl:M.getLast? with
 |none=>rw[List.getLast?_eq_none_iff.1 hl]at hx;simp at hx
 |some y=>
  simp only
  obtain⟨r,hr⟩:=List.getLast?_eq_some_iff.1 hl
  subst hr
  rcases List.mem_append.1 hx with hx|hx
  ·exact .inr ((List.pairwise_append.1 h).2.2 x hx y (by simp))
  ·left;rw[List.mem_singleton.1 hx]
theorem vW {l:List OP}(h:Dn l){M:List IE}(hu:upM M)(ha:∀a,aZ a M=cR l a):(eQ M).c=fM (bc l):=by
 have up:∀x,x∈M→x.1.c≤fM (bc l):=fun x hx=>by
  have h1:=ob hu hx
  rw[ha]at h1
  unfold cR at h1
  cases hf:au 0 x.1 l with
  |none=>rw[hf]at h1;cases h1
  |some o=>
   obtain⟨h2,h3,h4⟩:=be hf
   rw[←h4]
   exact oz (aW.2 ⟨h2,h3⟩)
 have dn:∀o,o∈bc l→o.i.c≤(eQ M).c:=fun o ho=>by
  have hf:=eY h ho
  have h1:=ha o.i
  unfold cR at h1
  rw[hf]at h1
  obtain⟨j,h2,_⟩:=jJ h1
  have h3:=yd hu _ (List.mem_of_getElem? h2)
  rcases h3 with h3|h3
  ·rw[←h3];exact Int.le_refl _
  ·unfold aX at h3
   simp only[Bool.or_eq_true,Bool.and_eq_true,decide_eq_true_eq]at h3
   omega
 have h0:=uR (bc l)
 cases hl:M.getLast? with
 |none=>
  have e:eQ M=⟨0,0⟩:=by unfold eQ;rw[hl]
  have hM:M=[]:=List.getLast?_eq_none_iff.1 hl
  rw[e]
  rcases h0 with h0|⟨o,ho,h0⟩
  ·exact h0.symm
  ·have:=ha o.i
   rw[hM]at this
   unfold cR at this
   rw[eY h ho]at this;cases this
 |some y=>
  have e:eQ M=y.1:=by unfold eQ;rw[hl]
  have hy:y∈M:=List.mem_of_getLast? hl
  have h1:=up y hy
  rcases h0 with h0|⟨o,ho,h0⟩
  ·have h2:aZ y.1 M=some y.2:=ob hu hy
   rw[ha]at h2
   unfold cR at h2
   cases hf:au 0 y.1 l with
   |none=>rw[hf]at h2;cases h2
   |some o=>
    obtain⟨h3,h4,h5⟩:=be hf
    have h6:=(bf (cK (h.is.ok o h3))).1
    have h7:=oz (aW.2 ⟨h3,h4⟩)
    rw[h0]at h7;omega
  ·have:=dn o ho
   rw[e]at this ⊢;omega
def bo (l:List OP):TL:=TL.sum ((bc l).map fun o=>o.i)
abbrev vcs (s:SS)(l R:List OP):List AV:=[.d s.t.d,.d s.p.d,iv s.n,.d (.sl 6 (R.map opD)),iv (l.length:Nat),iv (bo l).n,cx (bo l).a (bo l).b,cx (bo l).c (bo l).d]
abbrev vv (s:SS)(l R:List OP):AV:=.agg (vcs s l R)
theorem sum_ok {l:List OP}(h:Dn l):(bo l).ok:=TL.sum_ok _ (fun x hx=>by
 obtain⟨o,ho,rfl⟩:=List.mem_map.1 hx
 exact cK (ji h o ho)) (by rw[List.length_map];exact h.is.len)
theorem oW {s:SS}{l:List OP}(h:isS s l)(R:List OP):Cv 116 [vv s l R] (sv (byt (dz (aj l)))):=by
 have ht:=rV s.t (by have:=h.small;omega) (by rw[h.els];exact vI h.dn)
 rw[h.els]at ht
 refine ab Tryz.f116 Tryz.func116 rfl rfl fun w H B g0=>?_
 refine aa ht (fun _ _=>rfl) rfl rfl rfl ?_
 exact FinP.open rfl rfl
theorem oY {s:SS}{l:List OP}(h:isS s l)(R:List OP):Cv 197 [vv s l R] (iv (aT (aj l))):=by
 have ht:=qr s.t
 rw[l5,h.els]at ht
 refine ab Tryz.f197 Tryz.func197 rfl rfl fun w H B g0=>?_
 refine aa ht (fun _ _=>rfl) rfl rfl rfl ?_
 exact FinP.open rfl rfl
theorem oX (s:SS)(l R:List OP):Cv 206 [vv s l R] (iv (l.length:Nat)):=by
 refine ab Tryz.f206 Tryz.func206 rfl rfl fun w H B g0=>?_
 exact FinP.open rfl rfl
theorem rT (s:SS)(l R:List OP)(hR:R.length≤1000000):Cv 115 [vv s l R] (.d (.sl 6 (R.map opD))):=by
 refine ab Tryz.f115 Tryz.func115 rfl rfl fun w H B g0=>?_
 refine aa (AM R hR) (fun _ _=>rfl) rfl rfl rfl ?_
 exact FinP.open rfl rfl
theorem mY (s:SS)(l R:List OP):Cv 117 [vv s l R] (tlv (bo l)):=by
 refine ab Tryz.f117 Tryz.func117 rfl rfl fun w H B g0=>?_
 exact FinP.open rfl rfl
def cY (L:List EL)(k:Int):ID:=if 0≤k∧k<aT L then((L[cu k.toNat L]?).getD EL0).id else⟨0,0⟩
theorem mZ {s:SS}{l:List OP}(h:isS s l)(R:List OP)(k:Int):Cv 200 [vv s l R,iv k] (.tup [idv (cY (aj l) k),bv (decide (0≤k∧k<aT (aj l)))]):=by
 have hs:=h.small
 have ht:=qs s.t k (by omega)
 unfold nC at ht
 have hlv:s.t.live=aT (aj l):=by rw[l5,h.els]
 rw[hlv]at ht
 by_cases hk:0≤k∧k<aT (aj l)
 ·have hlt:=qR (aj l) k.toNat (by omega)
  have e1:qS s.t k=cu k.toNat (aj l):=by unfold qS;rw[hlv,if_pos hk,h.els]
  rw[e1]at ht
  have hat:=yT s.t (cu k.toNat (aj l):Nat) (by omega)
  have hx:(aj l)[cu k.toNat (aj l)]?=some (aj l)[cu k.toNat (aj l)]:=by simp
  rw[lm h,hx]at hat
  have e2:cY (aj l) k=(aj l)[cu k.toNat (aj l)].id:=by unfold cY;rw[if_pos hk,hx];rfl
  rw[e2]
  rw[decide_eq_true hk]at ht ⊢
  generalize(aj l)[cu k.toNat (aj l)]=e at hat ⊢
  generalize cu k.toNat (aj l)=n at ht hat
  refine ab Tryz.f200 Tryz.func200 rfl rfl fun w H B g0=>?_
  refine aa ht (fun _ _=>rfl) rfl rfl rfl ?_
  (repeat (first|refine Spl.t rfl ?_|refine Spl.f rfl ?_))
  refine aa hat (fun _ _=>rfl) rfl rfl rfl ?_
  exact FinP.open rfl rfl
 ·rw[decide_eq_false hk]at ht ⊢
  have e2:cY (aj l) k=⟨0,0⟩:=by unfold cY;rw[if_neg hk]
  rw[e2]
  refine ab Tryz.f200 Tryz.func200 rfl rfl fun w H B g0=>?_
  refine aa ht (fun _ _=>rfl) rfl rfl rfl ?_
  (repeat (first|refine Spl.t rfl ?_|refine Spl.f rfl ?_))
  exact FinP.open rfl rfl
def g9 (L:List EL)(a:ID):Int:=if 0≤ax a L then bO L (ax a L)else 0
theorem uC {s:SS}{l:List OP}(h:isS s l)(R:List OP)(a:ID):Cv 203 [vv s l R,idv a] (.tup [iv (g9 (aj l) a),bv (decide (0≤ax a (aj l)))]):=by
 have hs:=h.small
 have hf:=r8 h a
 have hlt:=j4 a (aj l)
 have hlen:(aj l).length≤4096:=by rw[fP h.dn];exact h.dn.is.len
 by_cases hp:0≤ax a (aj l)
 ·have hr:=rY s.t (ax a (aj l)) (by omega) (by omega) (by omega)
  rw[h.els]at hr
  have e:g9 (aj l) a=bO (aj l) (ax a (aj l)):=by unfold g9;rw[if_pos hp]
  rw[decide_eq_true hp]at hf ⊢
  rw[e]
  refine ab Tryz.f203 Tryz.func203 rfl rfl fun w H B g0=>?_
  refine aa hf (fun _ _=>rfl) rfl rfl rfl ?_
  (repeat (first|refine Spl.t rfl ?_|refine Spl.f rfl ?_))
  refine aa hr (fun _ _=>rfl) rfl rfl rfl ?_
  exact FinP.open rfl rfl
 ·have e:g9 (aj l) a=0:=by unfold g9;rw[if_neg hp]
  rw[decide_eq_false hp]at hf ⊢
  rw[e]
  refine ab Tryz.f203 Tryz.func203 rfl rfl fun w H B g0=>?_
  refine aa hf (fun _ _=>rfl) rfl rfl rfl ?_
  (repeat (first|refine Spl.t rfl ?_|refine Spl.f rfl ?_))
  exact FinP.open rfl rfl
end Go.Proofs.E
end
section
namespace Go.Gv
open Go.RowKit
section
variable {X:Cx} {ty:TypeId} {pos:String} {aft:Array Edge} {g:Option (Nat×Bool)} {t:T} {σ:Sg} {K:T→Sg→Prop}
theorem xr (i:Nat){d:Nat}{e:TypeId}{z:Value}(hz:db X.P e=some z)(h1:b7 (bb z)=true)(hf:ao i t σ X.pin=true)
 (hc:(az (bb z)).any (aP i)=false)(hN:dOk (some d) X.N=true)(k:K ((d,.box i 0)::t) ((i,.cells (az (bb z)))::σ)):OpJ X ⟨some d,.alloc e,ty,pos,aft,g⟩ t σ K:=by
 intro γ H a w s next Q' hk
 obtain⟨us,hu,hl,hr⟩:=ci (bJ γ H z) h1
 have hz:=fun w=>bx hz (w:=w)
 have hrun:(execOp a.eval ⟨some d,.alloc e,ty,pos,aft,g⟩).run X.P w=.ok (.value (.pointer (some ⟨w.heap.size,0,none⟩))) (w.alloc (.cells us.toArray e)):=by
  simp[execOp,Instr.alloc,newVar,newRow,hu,hz]
 rw[aD (by simp),hrun,Oper.uponIn_value]
 exact hk _ H _ _ _ _ (lS s hf hN hl hr hc) k
end
end Go.Gv
end
section
open Go Go.Gv
attribute [local irreducible] Go.Gv.WJ Go.Gv.OpJ Go.Gv.QJ Go.Gv.Spl Go.Gv.Req Go.Gv.IdxP Go.Gv.RegP Go.Gv.FinP Go.Gv.CellP Go.Gv.CellsP Go.Gv.ArrP Go.Gv.ArrsP Go.Gv.DropP Go.Gv.ByteP Go.Gv.StoreP
set_option maxRecDepth 100000
namespace Go.Proofs.E
attribute [local irreducible] elems
theorem vb {l:List OP}(h:Dn l):(aj l).length≤4096:=by rw[fP h];exact h.is.len
def fG (l R:List OP):Int:=(if fM R>fM (bc l)then fM R else fM (bc l))+1
theorem rU {s:SS}{l:List OP}(h:isS s l){R:List OP}(hR:R.length≤1000000)(hok:∀o,o∈R→aC o=0):Cv 199 [vv s l R] (iv (fG l R)):=by
 obtain⟨M,h1,h2,_⟩:=h.mp
 have hlast:=qF h1
 have hc:=vW h.dn h1.up h2
 have ht:=uQ (ji h.dn)
 have htr:=uQ hok
 have h0:=ow (bc l)
 have h00:=ow R
 unfold fG
 rw[←hc]at ht h0 ⊢
 have htop:=zh R hR
 generalize eQ M=la at hlast ht h0 ⊢
 generalize fM R=tr at htop htr h00 ⊢
 refine ab Tryz.f199 Tryz.func199 rfl rfl fun w H B g0=>?_
 refine RegP.of rfl (by decide+kernel) ?_
 refine QuietP.of (QJ.call hlast (fun _ _=>rfl) rfl rfl) ?_
 refine QuietP.of (QJ.call htop (fun _ _=>rfl) rfl rfl) ?_
 exact FinP.open rfl (congrArg iv (am _ (by split<;>omega) (by split<;>omega)))
structure CH where
 seq:Int
 at_:Int
 id:ID
 ch:Int
 del:Bool
 deriving DecidableEq
abbrev chD (c:CH):List D:=[.v (.int .i64 c.seq),.v (.int .i64 c.at_),.v (.int .i64 c.id.c),.v (.int .i64 c.id.s),.v (.int .i32 c.ch),.v (.bool c.del)]
abbrev chv (c:CH):AV:=.agg [iv c.seq,iv c.at_,iv c.id.c,iv c.id.s,cv' c.ch,bv c.del]
def chO (l:List OP)(o:OP):CH:=⟨((l++[o]).length:Nat),bO (aj (l++[o])) (atO l o),o.i,((aj (l++[o]))[(atO l o).toNat]?.getD EL0).ch,decide (o.k=1)⟩
theorem AC {l:List OP}(h:Dn l){o:OP}(hw:aq l o=0):∃(n:Nat)(e:EL),atO l o=n∧ax o.i (aj (l++[o]))=n∧(aj (l++[o]))[n]?=some e∧e.id=o.i:=by
 have hd:Dn (l++[o]):=.snoc h hw
 have hp:0≤ax o.i (aj (l++[o])):=by
  have:=gT hd o.i
  have h2:(au 0 o.i (l++[o])).isSome=true:=by
   obtain⟨_,h1⟩:=bQ hw
   rw[cP]
   rcases h1 with⟨hk,h3,_⟩|⟨hk,_⟩
   ·obtain⟨x,hx⟩:=Option.isSome_iff_exists.1 h3
    rw[hx];rfl
   ·cases hf:au 0 o.i l with
    |some x=>rfl
    |none=>simp[au,hk]
  rw[h2]at this
  exact of_decide_eq_true this
 obtain⟨e,h1,h2,_⟩:=iD hp
 have ha:atO l o=ax o.i (aj (l++[o])):=by unfold atO;rw[if_pos hw]
 exact⟨_,e,by rw[ha,Int.toNat_of_nonneg hp],by rw[Int.toNat_of_nonneg hp],h1,h2⟩
theorem qN {l:List OP}{o:OP}(h:o.k=0):bo (l++[o])=(bo l).add (TL.one o.i):=by unfold bo;rw[dk h,List.map_append];exact qq _ _
theorem qM {l:List OP}{o:OP}(h:o.k≠0):bo (l++[o])=bo l:=by unfold bo;rw[eu h]
theorem zB (l:List OP):(bo l).n=(bc l).length:=by unfold bo;rw[m5,List.length_map]
end Go.Proofs.E
namespace Go.Proofs.E
attribute [local irreducible] elems
theorem AK {s:SS}{l:List OP}(h:isS s l)(R:List OP){o:OP}(hw:aq l o=0):Cv 242 [vv s l R,opv o,stv (dJ s l o),iv (atO l o)] (.tup [vv (dJ s l o) (l++[o]) R,chv (chO l o)]):=by
 have hd:Dn (l++[o]):=.snoc h.dn hw
 have hs:=f9 h o
 rw[show ga l o=l++[o]from if_pos hw]at hs
 have hsm:=hs.small
 obtain⟨n,e,hat,_,hget,hid⟩:=AC h.dn hw
 have hlen:=h.dn.len2
 have hoc:=(bQ hw).1
 have hch:chO l o=⟨((l++[o]).length:Nat),bO (aj (l++[o])) (n:Nat),e.id,e.ch,decide (o.k=1)⟩:=by
  unfold chO
  rw[hat,Int.toNat_natCast,hget,hid];rfl
 have hatc:=yT (dJ s l o).t (n:Nat) (by omega)
 rw[lm hs,hget]at hatc
 have hrk:=rY (dJ s l o).t (n:Nat) (by omega) (by omega) (by have:=(List.getElem?_eq_some_iff.1 hget).1;have:=vb hd;omega)
 rw[hs.els]at hrk
 rw[hat,hch]
 have hwr:IntKind.i64.wrap ((l.length:Nat)+1)=((l++[o]).length:Nat):=by rw[am _ (by omega) (by omega)];simp
 have hput:o.k=0→Cv 247 [tlv (bo l),idv o.i] (.tup [tlv (bo (l++[o])),iv 0]):=fun hk=>by
  rw[qN hk]
  refine yN (bo l) o.i (sum_ok h.dn) (cK hoc) ?_
  have h1:=hd.is.len
  rw[dk hk,List.length_append]at h1
  rw[zB];simp at h1;omega
 have hsame:o.k≠0→bo (l++[o])=bo l:=qM
 generalize dJ s l o=s' at*
 generalize bO (aj (l++[o])) (n:Nat)=rk at*
 refine ab Tryz.f242 Tryz.func242 rfl rfl fun w H B g0=>?_
 refine aa hatc (fun _ _=>rfl) rfl rfl rfl ?_
 (repeat (first|refine Spl.t rfl ?_|refine Spl.f rfl ?_))
 refine Spl.of (fun h1=>?_) (fun h1=>?_)
 ·have h1:o.k=0:=of_decide_eq_true h1
  have hput:=hput h1
  rw[show vv s' (l++[o]) R=.agg [.d s'.t.d,.d s'.p.d,iv s'.n,.d (.sl 6 (R.map opD)),iv (IntKind.i64.wrap ((l.length:Nat)+1)),iv (bo (l++[o])).n,cx (bo (l++[o])).a (bo (l++[o])).b,cx (bo (l++[o])).c (bo (l++[o])).d]by rw[hwr],←hwr]
  generalize bo (l++[o])=T at hput
  (repeat (first|refine Spl.t rfl ?_|refine Spl.f rfl ?_))
  refine aa hput (fun _ _=>rfl) rfl rfl rfl ?_
  (repeat (first|refine Spl.t rfl ?_|refine Spl.f rfl ?_))
  refine aB 0 17 [8,9] rfl (by decide+kernel) ?_
  refine QuietP.of (QJ.call hrk (fun _ _=>rfl) rfl rfl) ?_
  exact FinP.open rfl rfl
 ·have h1:=hsame (of_decide_eq_false h1)
  rw[show vv s' (l++[o]) R=.agg [.d s'.t.d,.d s'.p.d,iv s'.n,.d (.sl 6 (R.map opD)),iv (IntKind.i64.wrap ((l.length:Nat)+1)),iv (bo l).n,cx (bo l).a (bo l).b,cx (bo l).c (bo l).d]by rw[hwr,←h1],←hwr]
  (repeat (first|refine Spl.t rfl ?_|refine Spl.f rfl ?_))
  refine aB 0 17 [8,9] rfl (by decide+kernel) ?_
  refine QuietP.of (QJ.call hrk (fun _ _=>rfl) rfl rfl) ?_
  exact FinP.open rfl rfl
end Go.Proofs.E
namespace Go.Proofs.E
attribute [local irreducible] elems
def kV (out:List CH)(l:List OP)(o:OP):List CH:=if aq l o=0 then out++[chO l o]else out
theorem x6 (out:List CH)(c:CH):out.map chD++[chD c]=(out++[c]).map chD:=by simp
theorem Bw {s:SS}{l:List OP}(h:isS s l)(R:List OP)(o:OP)(out:List CH)(hn:out.length≤900000):
 Ct tab Tryz.prog 240 [opv o,.box 2 0,.box 8 0] [(2,.cells (vcs s l R)),(8,.cells [.arr 1000 6 out.length]),(1000,.arr 6 (out.map chD))]
  (fun q σ'=>q=iv (aq l o)∧σ'=[(2,.cells (vcs (dJ s l o) (ga l o) R)),(8,.cells [.arr 1000 6 (kV out l o).length]),(1000,.arr 6 ((kV out l o).map chD))]):=by
 have hap:=jP h o
 refine aU Tryz.f240 Tryz.func240 rfl rfl fun w H B g0=>?_
 (try refine WJ.cut ?_)
 (first|refine Sq.go ?_|refine ah (Sq.go ?_)|skip)
 (try refine WJ.cut ?_)
 refine aa hap (fun _ _=>rfl) rfl rfl rfl ?_
 (first|refine Sq.go ?_|refine ah (Sq.go ?_)|skip)
 (try refine WJ.cut ?_)
 refine Spl.of (fun h1=>?_) (fun h1=>?_)
 ·have h1:aq l o=0:=of_decide_eq_true h1
  have htk:=AK h R h1
  have e1:ga l o=l++[o]:=if_pos h1
  have e2:kV out l o=out++[chO l o]:=if_pos h1
  rw[e1,e2]
  generalize dJ s l o=s' at htk ⊢
  generalize chO l o=c at htk ⊢
  generalize l++[o]=l' at htk ⊢
  have hrow:=x6 out c
  have hlc:(out++[c]).length=out.length+1:=by simp
  rw[hlc,←hrow]
  (repeat (first|refine Spl.t rfl ?_|refine Spl.f rfl ?_))
  refine aa htk (fun _ _=>rfl) rfl rfl rfl ?_
  refine xr 1008 rfl rfl rfl rfl rfl ?_
  (first|refine Sq.go ?_|refine ah (Sq.go ?_)|skip)
  (try refine WJ.cut ?_)
  refine kQ rfl ?_;(repeat' (refine And.intro ?_ ?_))
  all_goals refine Req.of ⟨by rw[List.length_map],by show _+1≤_;omega⟩ ?_
  all_goals (repeat' (first|exact trivial|refine And.intro ?_ ?_))
  all_goals ((first|refine Sq.go ?_|refine ah (Sq.go ?_)|skip))
  all_goals ((try refine ay _ _ _ _ ?_))
  all_goals exact br [(2,.cells (vcs s' l' R)),(8,.cells [.arr 1000 6 (out.length+1)]),(1000,.arr 6 (out.map chD++[chD c]))] (Wk.cons rfl (Wk.cons rfl (Wk.cons rfl (Wk.nil _)))) rfl ⟨rfl,rfl⟩
 ·have h1:¬aq l o=0:=of_decide_eq_false h1
  have e1:ga l o=l:=if_neg h1
  have e2:kV out l o=out:=if_neg h1
  have e3:dJ s l o=s:=if_neg h1
  rw[e1,e2,e3]
  (repeat (first|refine Spl.t rfl ?_|refine Spl.f rfl ?_))
  (first|refine Sq.go ?_|refine ah (Sq.go ?_)|skip)
  (try refine ay _ _ _ _ ?_)
  exact br [(2,.cells (vcs s l R)),(8,.cells [.arr 1000 6 out.length]),(1000,.arr 6 (out.map chD))] (Wk.cons rfl (Wk.cons rfl (Wk.cons rfl (Wk.nil _)))) rfl ⟨rfl,rfl⟩
end Go.Proofs.E
namespace Go.Proofs.E
attribute [local irreducible] elems
structure VS where
 s:SS
 l:List OP
 R:List OP
 out:List CH
def VS.take (v:VS)(o:OP):VS:=⟨dJ v.s v.l o,ga v.l o,v.R,kV v.out v.l o⟩
def VS.next (v:VS):VS:=VS.take ⟨v.s,v.l,dT v.l v.R,v.out⟩ (eO v.l v.R)
def drn:Nat→VS→VS
 |0,v=>v
 |n+1,v=>if bl v.l v.R<0 then v else drn n v.next
def bI (v:VS)(o:OP):VS:=if aq v.l o=0 then drn v.R.length (VS.take ⟨v.s,v.l,v.R,[]⟩ o)else if aq v.l o=6 then⟨v.s,v.l,ik v.R o,[]⟩else⟨v.s,v.l,v.R,[]⟩
def b9 (v:VS)(o:OP):Int:=if aq v.l o=6 then iM v.R o else aq v.l o
theorem k7 (out:List CH)(l:List OP)(o:OP):(kV out l o).length≤out.length+1:=by unfold kV;split<;>simp
theorem pK {l R:List OP}(h:¬bl l R<0):(dT l R).length+1=R.length:=by
 have:=j9 l R
 unfold dT
 rw[if_neg h];simp;omega
abbrev chs (out:List CH):D:=.sl 6 (out.map chD)
abbrev Ao (v:VS):List AV:=vcs v.s v.l v.R
theorem m9 {s:SS}{l:List OP}(h:isS s l)(R:List OP)(out0:List CH)(o:OP)(hR:R.length≤100000):
 Cv 201 [vv s l R,opv o] (.tup [vv (bI ⟨s,l,R,out0⟩ o).s (bI ⟨s,l,R,out0⟩ o).l (bI ⟨s,l,R,out0⟩ o).R,.d (chs (bI ⟨s,l,R,out0⟩ o).out),iv (b9 ⟨s,l,R,out0⟩ o)]):=by
 have hin:=Bw h R o [] (by simp)
 have hadd:=zp R o (by omega)
 refine aU Tryz.f201 Tryz.func201 rfl rfl fun w H B g0=>?_
 (try refine WJ.cut ?_)
 (first|refine Sq.go ?_|refine ah (Sq.go ?_)|skip)
 (try refine WJ.cut ?_)
 (first|refine Sq.go ?_|refine ah (Sq.go ?_)|skip)
 (try refine WJ.cut ?_)
 (first|refine Sq.go ?_|refine ah (Sq.go ?_)|skip)
 refine WJ.shift (m8 1000 8 0 6 rfl rfl rfl) ?_
 (try refine WJ.cut ?_)
 (first|refine Sq.go ?_|refine ah (Sq.go ?_)|skip)
 (try refine WJ.cut ?_)
 refine OpJ.callT rfl (FnIs.fnp _ _) hin (fun _ _=>rfl) rfl rfl (Wk.cons rfl (Wk.cons rfl (Wk.cons rfl (Wk.nil _)))) ?_
 rintro q σ' ⟨rfl,rfl⟩
 refine⟨rfl,?_⟩
 (first|refine Sq.go ?_|refine ah (Sq.go ?_)|skip)
 (try refine WJ.cut ?_)
 refine Spl.of (fun h1=>?_) (fun h1=>?_)
 ·have h1:aq l o=0:=of_decide_eq_true h1
  have eR:bI ⟨s,l,R,out0⟩ o=drn R.length (VS.take ⟨s,l,R,[]⟩ o):=if_pos h1
  have eE:b9 ⟨s,l,R,out0⟩ o=0:=by unfold b9;rw[h1];rfl
  have hs:=f9 h o
  have ho:=k7 [] l o
  rw[eR,eE]
  (repeat (first|refine Spl.t rfl ?_|refine Spl.f rfl ?_))
  (first|refine Sq.go ?_|refine ah (Sq.go ?_)|skip)
  (try refine ay _ _ _ _ ?_)
  refine ba (V:=VS) (fun v=>[]) (fun v=>[(2,.cells (Ao v)),(8,.cells [.arr 1000 6 v.out.length]),(1000,.arr 6 (v.out.map chD))]) [2,8,1000] (fun v=>v.R.length) (fun v=>isS v.s v.l∧v.out.length+v.R.length≤100001∧drn v.R.length v=drn R.length (VS.take ⟨s,l,R,[]⟩ o)) (VS.take ⟨s,l,R,[]⟩ o) ⟨hs,by simp only[VS.take];simp at ho;omega,rfl⟩ (by repeat' (first|exact trivial|exact rfl|refine And.intro ?_ ?_)) (by repeat' (first|exact trivial|exact rfl|refine And.intro ?_ ?_)) ?_
  rintro⟨s1,l1,R1,out1⟩ ⟨h2,h3,h4⟩
  simp only at h2 h3 h4
  have hnx:=xu h2 R1 (by omega)
  have hin1:=Bw h2 (dT l1 R1) (eO l1 R1) out1 (by omega)
  (repeat (first|refine Spl.t rfl ?_|refine Spl.f rfl ?_))
  refine aa hnx (fun _ _=>rfl) rfl rfl rfl ?_
  (repeat (first|refine Spl.t rfl ?_|refine Spl.f rfl ?_))
  refine Spl.of (fun h5=>?_) (fun h5=>?_)
  ·have h5:bl l1 R1<0:=by simpa using h5
   have e5:drn R1.length ⟨s1,l1,R1,out1⟩=⟨s1,l1,R1,out1⟩:=by
    cases R1.length with
    |zero=>rfl
    |succ n=>rw[drn,if_pos h5]
   rw[←h4,e5]
   have hpl:out1.length≤(out1.map chD).length:=by rw[List.length_map];exact Nat.le_refl _
   (repeat (first|refine Spl.t rfl ?_|refine Spl.f rfl ?_))
   refine aB 0 5 [4] rfl (by decide+kernel) ?_
   refine qG 1000 1 rfl rfl hpl (by show out1.length≤_;omega) (FinP.open rfl ?_)
   exact congrArg (fun r=>AV.tup [vv s1 l1 R1,.d (.sl 6 r),iv 0]) (List.take_of_length_le (Nat.le_of_eq (List.length_map ..)))
  ·have h5:¬bl l1 R1<0:=by simpa using h5
   have hlt:=pK h5
   have ho1:=k7 out1 l1 (eO l1 R1)
   have e5:drn (dT l1 R1).length (VS.next ⟨s1,l1,R1,out1⟩)=drn R.length (VS.take ⟨s,l,R,[]⟩ o):=by
    rw[←h4,←hlt,drn,if_neg h5]
   have hs1:=f9 h2 (eO l1 R1)
   (repeat (first|refine Spl.t rfl ?_|refine Spl.f rfl ?_))
   refine OpJ.callT rfl (FnIs.fnp _ _) hin1 (fun _ _=>rfl) rfl rfl (Wk.cons rfl (Wk.cons rfl (Wk.cons rfl (Wk.nil _)))) ?_
   rintro q σ' ⟨rfl,rfl⟩
   refine⟨rfl,?_⟩
   (repeat (first|refine Spl.t rfl ?_|refine Spl.f rfl ?_))
   exact⟨VS.next ⟨s1,l1,R1,out1⟩,⟨hs1,by simp only[VS.next,VS.take];omega,e5⟩,by simp only[VS.next,VS.take];omega,(by repeat' (first|exact trivial|exact rfl|refine And.intro ?_ ?_)),(by repeat' (first|exact trivial|exact rfl|refine And.intro ?_ ?_)),(by repeat' (first|exact trivial|exact rfl|refine And.intro ?_ ?_)),(by repeat' (first|exact trivial|exact rfl|refine And.intro ?_ ?_))⟩
 ·have h1:¬aq l o=0:=of_decide_eq_false h1
  have e1:ga l o=l:=if_neg h1
  have e2:kV [] l o=[]:=if_neg h1
  have e3:dJ s l o=s:=if_neg h1
  rw[e1,e2,e3]
  (repeat (first|refine Spl.t rfl ?_|refine Spl.f rfl ?_))
  refine Spl.of (fun h2=>?_) (fun h2=>?_)
  ·have h2:aq l o=6:=of_decide_eq_true h2
   have eR:bI ⟨s,l,R,out0⟩ o=⟨s,l,ik R o,[]⟩:=(if_neg h1).trans (if_pos h2)
   have eE:b9 ⟨s,l,R,out0⟩ o=iM R o:=if_pos h2
   rw[eR,eE]
   (repeat (first|refine Spl.t rfl ?_|refine Spl.f rfl ?_))
   refine aa hadd (fun _ _=>rfl) rfl rfl rfl ?_
   (repeat (first|refine Spl.t rfl ?_|refine Spl.f rfl ?_))
   refine Spl.of (fun h3=>?_) (fun h3=>?_)
   ·have h3:¬iM R o=0:=by simpa using h3
    have e4:ik R o=R:=if_neg h3
    rw[e4]
    (repeat (first|refine Spl.t rfl ?_|refine Spl.f rfl ?_))
    refine .out (by simp) ?_
    refine aw 1 rfl (fun _ _ _ h=>bi 6 h) ?_
    exact FinP.open rfl rfl
   ·have h3:iM R o=0:=by simpa using h3
    rw[h3]
    (repeat (first|refine Spl.t rfl ?_|refine Spl.f rfl ?_))
    refine .out (by simp) ?_
    refine aw 1 rfl (fun _ _ _ h=>bi 6 h) ?_
    exact FinP.open rfl rfl
  ·have h2:¬aq l o=6:=of_decide_eq_false h2
   have eR:bI ⟨s,l,R,out0⟩ o=⟨s,l,R,[]⟩:=(if_neg h1).trans (if_neg h2)
   have eE:b9 ⟨s,l,R,out0⟩ o=aq l o:=if_neg h2
   rw[eR,eE]
   (repeat (first|refine Spl.t rfl ?_|refine Spl.f rfl ?_))
   refine .out (by simp) ?_
   refine aw 1 rfl (fun _ _ _ h=>bi 6 h) ?_
   exact FinP.open rfl rfl
end Go.Proofs.E
namespace Go.Proofs.E
attribute [local irreducible] elems
end Go.Proofs.E
namespace Go.Proofs.E
attribute [local irreducible] elems
def VS.same (v:VS):VS:=⟨v.s,v.l,v.R,[]⟩
def opI (v:VS)(site at_ ch:Int):OP:=⟨0,⟨fG v.l v.R,site⟩,cY (aj v.l) (at_-1),ch⟩
def opX (v:VS)(at_:Int):OP:=⟨1,cY (aj v.l) at_,⟨0,0⟩,0⟩
def doT (v:VS)(o:OP):VS×OP×Int:=if b9 v o≠0 then(v.same,OP0,b9 v o)else(bI v o,o,0)
def bM (v:VS)(site at_ ch:Int):VS×OP×Int:=
 if site<1∨site>1000∨at_<0∨at_>aT (aj v.l)then(v.same,OP0,2)
 else if ch<32∨ch>1114111∨55296≤ch∧ch≤57343 then(v.same,OP0,1)
 else if 4096≤(aj v.l).length∨fG v.l v.R>1048576 then(v.same,OP0,7)
 else doT v (opI v site at_ ch)
def ct (v:VS)(at_:Int):VS×OP×Int:=if 0≤at_∧at_<aT (aj v.l)then doT v (opX v at_)else(v.same,OP0,2)
def qU (p:VS×OP×Int):AV:=.tup [vv p.1.s p.1.l p.1.R,opv p.2.1,.d (chs p.1.out),iv p.2.2]
def prb (ch:Int):OP:=⟨0,⟨1,1⟩,⟨0,0⟩,ch⟩
theorem tR (ch:Int):aC (prb ch)=if ch<32∨ch>1114111∨55296≤ch∧ch≤57343 then 1 else 0:=by
 have h1:bg ⟨1,1⟩=true:=by decide
 have h2:bu ⟨0,0⟩=true:=by decide
 unfold aC prb
 simp only[h1,h2]
 simp
theorem kr {s:SS}{l:List OP}(h:isS s l)(R:List OP)(hR:R.length≤100000)(at_:Int):
 Cv 161 [vv s l R,iv at_] (qU (ct ⟨s,l,R,[]⟩ at_)):=by
 have hn:=mZ h R at_
 have hr:=m9 h R [] (opX ⟨s,l,R,[]⟩ at_) hR
 by_cases hk:0≤at_∧at_<aT (aj l)
 ·have eD:ct ⟨s,l,R,[]⟩ at_=doT ⟨s,l,R,[]⟩ (opX ⟨s,l,R,[]⟩ at_):=if_pos hk
  rw[eD]
  rw[decide_eq_true hk]at hn
  unfold opX at hr ⊢
  simp only at hr ⊢
  generalize cY (aj l) at_=a at hn hr ⊢
  have e1:b9 ⟨s,l,R,[]⟩ ⟨1,a,⟨0,0⟩,0⟩≠0→doT ⟨s,l,R,[]⟩ ⟨1,a,⟨0,0⟩,0⟩=(⟨s,l,R,[]⟩,OP0,b9 ⟨s,l,R,[]⟩ ⟨1,a,⟨0,0⟩,0⟩):=fun h=>if_pos h
  have e2:b9 ⟨s,l,R,[]⟩ ⟨1,a,⟨0,0⟩,0⟩=0→doT ⟨s,l,R,[]⟩ ⟨1,a,⟨0,0⟩,0⟩=(bI ⟨s,l,R,[]⟩ ⟨1,a,⟨0,0⟩,0⟩,⟨1,a,⟨0,0⟩,0⟩,0):=fun h=>if_neg (fun e=>e h)
  generalize b9 ⟨s,l,R,[]⟩ ⟨1,a,⟨0,0⟩,0⟩=e at hr e1 e2
  generalize bI ⟨s,l,R,[]⟩ ⟨1,a,⟨0,0⟩,0⟩=v' at hr e2
  generalize doT ⟨s,l,R,[]⟩ ⟨1,a,⟨0,0⟩,0⟩=p at e1 e2 ⊢
  refine ab Tryz.f161 Tryz.func161 rfl rfl fun w H B g0=>?_
  refine aa hn (fun _ _=>rfl) rfl rfl rfl ?_
  (repeat (first|refine Spl.t rfl ?_|refine Spl.f rfl ?_))
  refine aa hr (fun _ _=>rfl) rfl rfl rfl ?_
  (repeat (first|refine Spl.t rfl ?_|refine Spl.f rfl ?_))
  refine Spl.of (fun h1=>?_) (fun h1=>?_)
  ·have h1:e≠0:=by simpa using h1
   rw[e1 h1]
   (repeat (first|refine Spl.t rfl ?_|refine Spl.f rfl ?_))
   refine aw 2 rfl (fun _ _ _ h=>bi 6 h) ?_
   exact FinP.open rfl rfl
  ·have h1:e=0:=by simpa using h1
   rw[e2 h1]
   (repeat (first|refine Spl.t rfl ?_|refine Spl.f rfl ?_))
   refine aB 0 7 [4,5] rfl (by decide+kernel) ?_
   exact FinP.open rfl rfl
 ·have eD:ct ⟨s,l,R,[]⟩ at_=(⟨s,l,R,[]⟩,OP0,2):=if_neg hk
  rw[eD]
  rw[decide_eq_false hk]at hn
  refine ab Tryz.f161 Tryz.func161 rfl rfl fun w H B g0=>?_
  refine aa hn (fun _ _=>rfl) rfl rfl rfl ?_
  (repeat (first|refine Spl.t rfl ?_|refine Spl.f rfl ?_))
  refine aw 2 rfl (fun _ _ _ h=>bi 6 h) ?_
  exact FinP.open rfl rfl
theorem sG {v:VS}{site at_ ch:Int}(h:site<1∨site>1000∨at_<0∨at_>aT (aj v.l)):bM v site at_ ch=(v.same,OP0,2):=if_pos h
theorem live_le (L:List EL):aT L≤L.length:=List.length_filter_le _ _
set_option maxHeartbeats 1000000 in
theorem hX {s:SS}{l:List OP}(h:isS s l)(R:List OP)(hR:R.length≤100000)(hok:∀o,o∈R→aC o=0)(site at_ ch:Int):
 Cv 159 [vv s l R,iv site,iv at_,cv' ch] (qU (bM ⟨s,l,R,[]⟩ site at_ ch)):=by
 have hlen:=oY h R
 have hck:=eM (prb ch)
 rw[tR]at hck
 have hct:=rU h (by omega) hok
 have hts:=iN s.t
 rw[h.size,←fP h.dn]at hts
 have hlr:=vb h.dn
 have hlv:=live_le (aj l)
 have n1:=fun h=>sG (v:=⟨s,l,R,[]⟩) (site:=site) (at_:=at_) (ch:=ch) h
 refine aU Tryz.f159 Tryz.func159 rfl rfl fun w H B g0=>?_
 (try refine WJ.cut ?_)
 (first|refine Sq.go ?_|refine ah (Sq.go ?_)|skip)
 (try refine WJ.cut ?_)
 refine Spl.of (fun a1=>?_) (fun a1=>?_)
 ·rw[n1 (.inl (of_decide_eq_true a1))]
  ((repeat (first|refine Spl.t rfl ?_|refine Spl.f rfl ?_));refine .out (by simp) ?_;refine aw 2 rfl (fun _ _ _ h=>bi 6 h) ?_;exact FinP.open rfl rfl)
 have a1:=of_decide_eq_false a1
 (repeat (first|refine Spl.t rfl ?_|refine Spl.f rfl ?_))
 refine Spl.of (fun a2=>?_) (fun a2=>?_)
 ·rw[n1 (.inr (.inl (of_decide_eq_true a2)))]
  ((repeat (first|refine Spl.t rfl ?_|refine Spl.f rfl ?_));refine .out (by simp) ?_;refine aw 2 rfl (fun _ _ _ h=>bi 6 h) ?_;exact FinP.open rfl rfl)
 have a2:=of_decide_eq_false a2
 (repeat (first|refine Spl.t rfl ?_|refine Spl.f rfl ?_))
 refine Spl.of (fun a3=>?_) (fun a3=>?_)
 ·rw[n1 (.inr (.inr (.inl (of_decide_eq_true a3))))]
  ((repeat (first|refine Spl.t rfl ?_|refine Spl.f rfl ?_));refine .out (by simp) ?_;refine aw 2 rfl (fun _ _ _ h=>bi 6 h) ?_;exact FinP.open rfl rfl)
 have a3:=of_decide_eq_false a3
 (repeat (first|refine Spl.t rfl ?_|refine Spl.f rfl ?_))
 refine aa hlen (fun _ _=>rfl) rfl rfl rfl ?_
 (repeat (first|refine Spl.t rfl ?_|refine Spl.f rfl ?_))
 refine Spl.of (fun a4=>?_) (fun a4=>?_)
 ·rw[n1 (.inr (.inr (.inr (of_decide_eq_true a4))))]
  ((repeat (first|refine Spl.t rfl ?_|refine Spl.f rfl ?_));refine .out (by simp) ?_;refine aw 2 rfl (fun _ _ _ h=>bi 6 h) ?_;exact FinP.open rfl rfl)
 have a4:=of_decide_eq_false a4
 have g1:¬(site<1∨site>1000∨at_<0∨at_>aT (aj l)):=by omega
 (repeat (first|refine Spl.t rfl ?_|refine Spl.f rfl ?_))
 (first|refine Sq.go ?_|refine ah (Sq.go ?_)|skip)
 (try refine WJ.cut ?_)
 (first|refine Sq.go ?_|refine ah (Sq.go ?_)|skip)
 (try refine WJ.cut ?_)
 refine aa hck (fun _ _=>rfl) rfl rfl rfl ?_
 (repeat (first|refine Spl.t rfl ?_|refine Spl.f rfl ?_))
 by_cases c1:ch<32∨ch>1114111∨55296≤ch∧ch≤57343
 ·have e:bM ⟨s,l,R,[]⟩ site at_ ch=(⟨s,l,R,[]⟩,OP0,1):=(if_neg g1).trans (if_pos c1)
  rw[e]
  refine Spl.t (by rw[if_pos c1];rfl) ?_
  ((repeat (first|refine Spl.t rfl ?_|refine Spl.f rfl ?_));refine .out (by simp) ?_;refine aw 2 rfl (fun _ _ _ h=>bi 6 h) ?_;exact FinP.open rfl rfl)
 refine Spl.f (by rw[if_neg c1];rfl) ?_
 (repeat (first|refine Spl.t rfl ?_|refine Spl.f rfl ?_))
 refine aa hts (fun _ _=>rfl) rfl rfl rfl ?_
 (repeat (first|refine Spl.t rfl ?_|refine Spl.f rfl ?_))
 by_cases c2:4096≤(aj l).length
 ·have e:bM ⟨s,l,R,[]⟩ site at_ ch=(⟨s,l,R,[]⟩,OP0,7):=(if_neg g1).trans ((if_neg c1).trans (if_pos (.inl c2)))
  rw[e]
  refine Spl.t (decide_eq_true (by omega)) ?_
  ((repeat (first|refine Spl.t rfl ?_|refine Spl.f rfl ?_));refine .out (by simp) ?_;refine aw 2 rfl (fun _ _ _ h=>bi 6 h) ?_;exact FinP.open rfl rfl)
 refine Spl.f (decide_eq_false (by omega)) ?_
 (repeat (first|refine Spl.t rfl ?_|refine Spl.f rfl ?_))
 refine aa hct (fun _ _=>rfl) rfl rfl rfl ?_
 (repeat (first|refine Spl.t rfl ?_|refine Spl.f rfl ?_))
 refine Spl.of (fun c3=>?_) (fun c3=>?_)
 ·have e:bM ⟨s,l,R,[]⟩ site at_ ch=(⟨s,l,R,[]⟩,OP0,7):=(if_neg g1).trans ((if_neg c1).trans (if_pos (.inr (of_decide_eq_true c3))))
  rw[e]
  ((repeat (first|refine Spl.t rfl ?_|refine Spl.f rfl ?_));refine .out (by simp) ?_;refine aw 2 rfl (fun _ _ _ h=>bi 6 h) ?_;exact FinP.open rfl rfl)
 have c3:=of_decide_eq_false c3
 have e:bM ⟨s,l,R,[]⟩ site at_ ch=doT ⟨s,l,R,[]⟩ (opI ⟨s,l,R,[]⟩ site at_ ch):=(if_neg g1).trans ((if_neg c1).trans (if_neg (fun h=>by rcases h with h|h;exact c2 h;exact c3 h)))
 rw[e]
 have hw:IntKind.i64.wrap (at_-1)=at_-1:=am _ (by omega) (by omega)
 have hn:=mZ h R (IntKind.i64.wrap (at_-1))
 have hr:=m9 h R [] (opI ⟨s,l,R,[]⟩ site at_ ch) hR
 unfold opI at hr ⊢
 simp only at hr ⊢
 rw[←hw]at hr ⊢
 generalize cY (aj l) (IntKind.i64.wrap (at_-1))=a at hn hr ⊢
 generalize fG l R=c at hct hr ⊢
 have e1:b9 ⟨s,l,R,[]⟩ ⟨0,⟨c,site⟩,a,ch⟩≠0→doT ⟨s,l,R,[]⟩ ⟨0,⟨c,site⟩,a,ch⟩=(⟨s,l,R,[]⟩,OP0,b9 ⟨s,l,R,[]⟩ ⟨0,⟨c,site⟩,a,ch⟩):=fun h=>if_pos h
 have e2:b9 ⟨s,l,R,[]⟩ ⟨0,⟨c,site⟩,a,ch⟩=0→doT ⟨s,l,R,[]⟩ ⟨0,⟨c,site⟩,a,ch⟩=(bI ⟨s,l,R,[]⟩ ⟨0,⟨c,site⟩,a,ch⟩,⟨0,⟨c,site⟩,a,ch⟩,0):=fun h=>if_neg (fun e=>e h)
 generalize b9 ⟨s,l,R,[]⟩ ⟨0,⟨c,site⟩,a,ch⟩=er at hr e1 e2
 generalize bI ⟨s,l,R,[]⟩ ⟨0,⟨c,site⟩,a,ch⟩=v' at hr e2
 generalize doT ⟨s,l,R,[]⟩ ⟨0,⟨c,site⟩,a,ch⟩=p at e1 e2 ⊢
 (repeat (first|refine Spl.t rfl ?_|refine Spl.f rfl ?_))
 (first|refine Sq.go ?_|refine ah (Sq.go ?_)|skip)
 (try refine WJ.cut ?_)
 refine aa hct (fun _ _=>rfl) rfl rfl rfl ?_
 (repeat (first|refine Spl.t rfl ?_|refine Spl.f rfl ?_))
 (first|refine Sq.go ?_|refine ah (Sq.go ?_)|skip)
 (try refine WJ.cut ?_)
 refine aa hn (fun _ _=>rfl) rfl rfl rfl ?_
 (repeat (first|refine Spl.t rfl ?_|refine Spl.f rfl ?_))
 (first|refine Sq.go ?_|refine ah (Sq.go ?_)|skip)
 (try refine WJ.cut ?_)
 refine aa hr (fun _ _=>rfl) rfl rfl rfl ?_
 (repeat (first|refine Spl.t rfl ?_|refine Spl.f rfl ?_))
 (first|refine Sq.go ?_|refine ah (Sq.go ?_)|skip)
 (try refine WJ.cut ?_)
 refine Spl.of (fun h1=>?_) (fun h1=>?_)
 ·have h1:er≠0:=by simpa using h1
  rw[e1 h1]
  ((repeat (first|refine Spl.t rfl ?_|refine Spl.f rfl ?_));refine .out (by simp) ?_;refine aw 2 rfl (fun _ _ _ h=>bi 6 h) ?_;exact FinP.open rfl rfl)
 ·have h1:er=0:=by simpa using h1
  rw[e2 h1]
  (repeat (first|refine Spl.t rfl ?_|refine Spl.f rfl ?_))
  (first|refine Sq.go ?_|refine ah (Sq.go ?_)|skip)
  (try refine ay _ _ _ _ ?_)
  refine aB 0 7 [8,9] rfl (by decide+kernel) ?_
  exact FinP.open rfl rfl
end Go.Proofs.E
namespace Go.Proofs.E
attribute [local irreducible] elems
theorem t5 {L:List EL}{k:Int}(h:¬(0≤k∧k<aT L)):cY L k=⟨0,0⟩:=if_neg h
end Go.Proofs.E
namespace Go.Proofs.E
attribute [local irreducible] elems
end Go.Proofs.E
namespace Go.Proofs.E
attribute [local irreducible] elems
structure okV (v:VS):Prop where
 is:isS v.s v.l
 ck:∀o,o∈v.R→aC o=0
 len:v.R.length≤16
theorem okV.same {v:VS}(h:okV v):okV v.same:=⟨h.is,h.ck,h.len⟩
theorem okV.take {v:VS}(h:okV v)(o:OP):okV (v.take o):=⟨f9 h.is o,h.ck,h.len⟩
theorem pJ {l R:List OP}:∀x,x∈dT l R→x∈R:=fun x hx=>by
 unfold dT at hx
 split at hx
 ·exact hx
 ·rcases List.mem_append.1 hx with h|h
  ·exact List.mem_of_mem_take h
  ·exact List.mem_of_mem_drop h
theorem vN (l R:List OP):(dT l R).length≤R.length:=by
 unfold dT;split
 ·exact Nat.le_refl _
 ·simp;omega
theorem okV.next {v:VS}(h:okV v):okV v.next:=okV.take (v:=⟨v.s,v.l,dT v.l v.R,v.out⟩) ⟨h.is,fun o ho=>h.ck o (pJ o ho),Nat.le_trans (vN _ _) h.len⟩ _
theorem okV.drn:∀(n:Nat){v:VS},okV v→okV (drn n v)
 |0,_,h=>h
 |n+1,v,h=>by
  rw[E.drn]
  split
  ·exact h
  ·exact okV.drn n h.next
theorem sS:∀(n:Nat)(v:VS),(drn n v).out.length≤v.out.length+n
 |0,_=>Nat.le_refl _
 |n+1,v=>by
  rw[drn]
  split
  ·omega
  ·have h1:=sS n v.next
   have h2:=k7 v.out v.l (eO v.l v.R)
   have h3:v.next.out=kV v.out v.l (eO v.l v.R):=rfl
   rw[h3]at h1;omega
theorem wP {R:List OP}{o:OP}(h:iM R o=0):aC o=0∧R.length<16:=by
 unfold iM at h
 split at h
 ·next h1=>exact absurd h h1
 ·next h1=>
  split at h
  ·cases h
  ·split at h
   ·cases h
   ·split at h
    ·cases h
    ·exact⟨by simpa using h1,by omega⟩
theorem okV.rem {v:VS}(h:okV v)(o:OP):okV (bI v o):=by
 unfold bI
 split
 ·exact okV.drn _ (okV.take h.same o)
 ·split
  ·refine⟨h.is,fun x hx=>?_,?_⟩
   ·simp only at hx
    unfold ik at hx
    split at hx
    ·next h0=>
     rcases List.mem_append.1 hx with hx|hx
     ·exact h.ck x hx
     ·rw[List.mem_singleton.1 hx];exact(wP h0).1
    ·exact h.ck x hx
   ·simp only
    unfold ik
    split
    ·next h0=>have:=(wP h0).2;simp;omega
    ·exact h.len
  ·exact h.same
theorem sn {v:VS}(h:okV v)(o:OP):(bI v o).out.length≤17:=by
 have hl:=h.len
 unfold bI
 split
 ·have h1:=sS v.R.length (VS.take ⟨v.s,v.l,v.R,[]⟩ o)
  have h2:=k7 [] v.l o
  have h3:(VS.take ⟨v.s,v.l,v.R,[]⟩ o).out=kV [] v.l o:=rfl
  rw[h3]at h1
  simp at h2;omega
 ·split<;>simp
theorem okV.doT {v:VS}(h:okV v)(o:OP):okV (doT v o).1∧(doT v o).1.out.length≤17:=by
 unfold E.doT
 split
 ·exact⟨h.same,by simp[VS.same]⟩
 ·exact⟨h.rem o,sn h o⟩
theorem okV.ins {v:VS}(h:okV v)(site at_ ch:Int):okV (bM v site at_ ch).1∧(bM v site at_ ch).1.out.length≤17:=by
 have h0:okV v.same∧v.same.out.length≤17:=⟨h.same,by simp[VS.same]⟩
 unfold bM
 split
 ·exact h0
 ·split
  ·exact h0
  ·split
   ·exact h0
   ·exact h.doT _
theorem okV.del {v:VS}(h:okV v)(at_:Int):okV (ct v at_).1∧(ct v at_).1.out.length≤17:=by
 unfold ct
 split
 ·exact h.doT _
 ·exact⟨h.same,by simp[VS.same]⟩
end Go.Proofs.E
namespace Go.Proofs.E
attribute [local irreducible] elems
theorem x7 {γ:Ids}{H:HF}{u:Value}(r:Rep γ H (.agg [.d (.v (.slice none 0 0))]) u):Rep γ H (rmv []) u:=gv (j:=0) r rfl fun _ h=>bi 6 h
theorem AU (o:OP):Cv 243 [.agg [.d (.v (.slice none 0 0))],opv o] (.tup [rmv (ik [] o),iv (iM [] o)]):=by
 refine Ct.view (zp [] o (by decide)) rfl fun j a b ha hb γ H u r=>?_
 match j,ha,hb with
 |0,ha,hb=>cases ha;cases hb;exact x7 r
 |1,ha,hb=>cases ha;cases hb;exact r
def aw7:OP:=⟨0,⟨2,1⟩,⟨1,1⟩,98⟩
theorem xE:Cv 205 [] (bv true):=by
 have hadd:=AU aw7
 rw[show ik [] aw7=[aw7]by decide+kernel,show iM [] aw7=0 by decide+kernel]at hadd
 have hnx:=xu lc [aw7] (by decide)
 rw[show dT [] [aw7]=[aw7]by decide+kernel,show eO [] [aw7]=OP0 by decide+kernel,show decide (0≤bl [] [aw7])=false by decide+kernel]at hnx
 have hln:=AL [aw7]
 have htp:=zh [aw7] (by decide)
 rw[show fM [aw7]=2 by decide+kernel]at htp
 refine aU Tryz.f205 Tryz.func205 rfl rfl fun w H B g0=>?_
 (try refine WJ.cut ?_)
 (first|refine Sq.go ?_|refine ah (Sq.go ?_)|skip)
 (try refine WJ.cut ?_)
 refine aa hadd (fun _ _=>rfl) rfl rfl rfl ?_
 (first|refine Sq.go ?_|refine ah (Sq.go ?_)|skip)
 (try refine WJ.cut ?_)
 refine aa hnx (fun _ _=>rfl) rfl rfl rfl ?_
 (first|refine Sq.go ?_|refine ah (Sq.go ?_)|skip)
 (try refine WJ.cut ?_)
 refine aa xF (fun _ _=>rfl) rfl rfl rfl ?_
 (repeat (first|refine Spl.t rfl ?_|refine Spl.f rfl ?_))
 refine aa hln (fun _ _=>rfl) rfl rfl rfl ?_
 (repeat (first|refine Spl.t rfl ?_|refine Spl.f rfl ?_))
 refine aa htp (fun _ _=>rfl) rfl rfl rfl ?_
 (repeat (first|refine Spl.t rfl ?_|refine Spl.f rfl ?_))
 (first|refine Sq.go ?_|refine ah (Sq.go ?_)|skip)
 (try refine ay _ _ _ _ ?_)
 exact FinP.open rfl rfl
end Go.Proofs.E
namespace Go.Proofs.E
attribute [local irreducible] elems
theorem BF {γ:Ids}{H:HF}{u:Value}{t p:D}{n m k:Int}{z1 z2:AV}(r:Rep γ H (.agg [.d t,.d p,iv n,.d (.v (.slice none 0 0)),iv m,iv k,z1,z2]) u):Rep γ H (.agg [.d t,.d p,iv n,.d (.sl 6 []),iv m,iv k,z1,z2]) u:=gv (j:=3) r rfl fun _ h=>bi 6 h
abbrev vvN:AV:=.agg [.d TR.nil.d,.d PT.nil.d,iv 0,.d (.v (.slice none 0 0)),iv 0,iv 0,cx 0 0,cx 0 0]
def vA0:VS:=⟨⟨.nil,.nil,0⟩,[],[],[]⟩
theorem rm:okV vA0:=⟨lc,fun _ h=>by simp[vA0]at h,by simp[vA0]⟩
def pA1:VS×OP×Int:=bM vA0 1 0 97
def vA1:VS:=⟨pA1.1.s,pA1.1.l,pA1.1.R,[]⟩
def pA2:VS×OP×Int:=bM vA1 1 1 98
def vA2:VS:=⟨pA2.1.s,pA2.1.l,pA2.1.R,[]⟩
def pA3:VS×OP×Int:=ct vA2 0
theorem okV.out {v:VS}(h:okV v):okV ⟨v.s,v.l,v.R,[]⟩:=⟨h.is,h.ck,h.len⟩
theorem pH:okV vA1:=(rm.ins 1 0 97).1.out
theorem vK:okV vA2:=(pH.ins 1 1 98).1.out
theorem Bb:okV pA3.1:=(vK.del 0).1
theorem xz (site at_ ch:Int):Cv 159 [vvN,iv site,iv at_,cv' ch] (qU (bM vA0 site at_ ch)):=by
 refine Ct.view (hX (s:=vA0.s) (l:=vA0.l) rm.is vA0.R (by decide) rm.ck site at_ ch) rfl fun j a b ha hb γ H u r=>?_
 match j,ha,hb with
 |0,ha,hb=>cases ha;cases hb;exact BF r
 |1,ha,hb=>cases ha;cases hb;exact r
 |2,ha,hb=>cases ha;cases hb;exact r
 |3,ha,hb=>cases ha;cases hb;exact r
theorem BK:byt (dz (aj pA3.1.l))=[98]:=by decide+kernel
theorem BJ:pA3.1.l.length=3:=by decide+kernel
theorem BL:pA3.2.2=0:=by decide+kernel
theorem Aq:pA3.1.out=[⟨3,0,⟨1,1⟩,97,true⟩]:=by decide+kernel
theorem xD:Cv 163 [] (bv true):=by
 have h1:=xz 1 0 97
 have h2:=hX pH.is vA1.R (by have:=pH.len;omega) pH.ck 1 1 98
 have h3:=kr vK.is vA2.R (by have:=vK.len;omega) 0
 have tx:=oW Bb.is pA3.1.R
 have sq:=oX pA3.1.s pA3.1.l pA3.1.R
 rw[BK]at tx
 rw[BJ]at sq
 have e1:bM vA0 1 0 97=pA1:=rfl
 have e2:bM ⟨vA1.s,vA1.l,vA1.R,[]⟩ 1 1 98=pA2:=rfl
 have e3:ct ⟨vA2.s,vA2.l,vA2.R,[]⟩ 0=pA3:=rfl
 rw[e1]at h1
 rw[e2]at h2
 rw[e3]at h3
 have d1:vA1=⟨pA1.1.s,pA1.1.l,pA1.1.R,[]⟩:=rfl
 have d2:vA2=⟨pA2.1.s,pA2.1.l,pA2.1.R,[]⟩:=rfl
 rw[d1]at h2
 rw[d2]at h3
 have ho:=Aq
 have he:=BL
 generalize pA3=p3 at h3 tx sq ho he
 generalize pA2=p2 at h2 h3
 generalize pA1=p1 at h1 h2
 obtain⟨v3,o3,e3'⟩:=p3
 obtain⟨v2,o2,e2'⟩:=p2
 obtain⟨v1,o1,e1'⟩:=p1
 unfold qU at h1 h2 h3
 simp only at h1 h2 h3 tx sq ho he
 rw[ho,he]at h3
 refine aU Tryz.f163 Tryz.func163 rfl rfl fun w H B g0=>?_
 (try refine WJ.cut ?_)
 (first|refine Sq.go ?_|refine ah (Sq.go ?_)|skip)
 (try refine WJ.cut ?_)
 refine aa h1 (fun _ _=>rfl) rfl rfl rfl ?_
 (repeat (first|refine Spl.t rfl ?_|refine Spl.f rfl ?_))
 (first|refine Sq.go ?_|refine ah (Sq.go ?_)|skip)
 (try refine WJ.cut ?_)
 refine aa h2 (fun _ _=>rfl) rfl rfl rfl ?_
 (repeat (first|refine Spl.t rfl ?_|refine Spl.f rfl ?_))
 (first|refine Sq.go ?_|refine ah (Sq.go ?_)|skip)
 (try refine WJ.cut ?_)
 refine aa h3 (fun _ _=>rfl) rfl rfl rfl ?_
 (repeat (first|refine Spl.t rfl ?_|refine Spl.f rfl ?_))
 (first|refine Sq.go ?_|refine ah (Sq.go ?_)|skip)
 (try refine ay _ _ _ _ ?_)
 refine aa xJ (fun _ _=>rfl) rfl rfl rfl ?_
 (repeat (first|refine Spl.t rfl ?_|refine Spl.f rfl ?_))
 refine aa xE (fun _ _=>rfl) rfl rfl rfl ?_
 (repeat (first|refine Spl.t rfl ?_|refine Spl.f rfl ?_))
 refine aa tx (fun _ _=>rfl) rfl rfl rfl ?_
 (repeat (first|refine Spl.t rfl ?_|refine Spl.f rfl ?_))
 (try refine Spl.t (by decide) ?_)
 (repeat (first|refine Spl.t rfl ?_|refine Spl.f rfl ?_))
 refine aa sq (fun _ _=>rfl) rfl rfl rfl ?_
 (repeat (first|refine Spl.t rfl ?_|refine Spl.f rfl ?_))
 (try refine Spl.t (by decide) ?_)
 (repeat (first|refine Spl.t rfl ?_|refine Spl.f rfl ?_))
 refine IdxP.of (chD ⟨3,0,⟨1,1⟩,97,true⟩) (by decide) rfl ?_
 (repeat (first|refine Spl.t rfl ?_|refine Spl.f rfl ?_))
 refine IdxP.of (chD ⟨3,0,⟨1,1⟩,97,true⟩) (by decide) rfl ?_
 (repeat (first|refine Spl.t rfl ?_|refine Spl.f rfl ?_))
 exact FinP.open rfl rfl
end Go.Proofs.E
namespace Go.Proofs.E
attribute [local irreducible] elems
end Go.Proofs.E
namespace Go.Proofs.E
attribute [local irreducible] elems
def cV (L:List EL)(k:Int):ID×Int:=if k=aT L then(⟨0,0⟩,0)else if 0≤k∧k<aT L then(cY L k,0)else(⟨0,0⟩,2)
def iZ (L:List EL)(a:ID):Int×Int:=if bu a=true then(aT L,0)else if 0≤ax a L then(bO L (ax a L),0)else(0,6)
theorem jW:∀(L:List EL)(k:Nat),k<aT L→∃e,L[cu k L]?=some e∧e.dead=false
 |[],k,h=>by simp[aT]at h
 |e::L,k,h=>by
  rw[ea]at h
  rw[cu]
  cases hd:e.dead with
  |true=>
   have h1:TR.one e=0:=by unfold TR.one;rw[hd]
   obtain⟨x,h2,h3⟩:=jW L k (by omega)
   simp only[if_true]
   exact⟨x,by simpa using h2,h3⟩
  |false=>
   have h1:TR.one e=1:=by unfold TR.one;rw[hd]
   simp only[Bool.false_eq_true,if_false]
   by_cases h0:k=0
   ·rw[if_pos h0];exact⟨e,rfl,hd⟩
   ·rw[if_neg h0]
    obtain⟨x,h2,h3⟩:=jW L (k-1) (by omega)
    exact⟨x,by simpa using h2,h3⟩
theorem pL {L:List EL}{k:Nat}(h:k<aT L):∃e,L[cu k L]?=some e∧e.dead=false∧cY L k=e.id:=by
 obtain⟨e,h1,h2⟩:=jW L k h
 refine⟨e,h1,h2,?_⟩
 unfold cY
 rw[if_pos (by omega),Int.toNat_natCast,h1];rfl
theorem zo {s:SS}{l:List OP}(h:isS s l)(R:List OP)(k:Int):Cv 160 [vv s l R,iv k] (.tup [idv (cV (aj l) k).1,iv (cV (aj l) k).2]):=by
 have hlen:=oY h R
 have hn:=mZ h R k
 refine ab Tryz.f160 Tryz.func160 rfl rfl fun w H B g0=>?_
 refine aa hlen (fun _ _=>rfl) rfl rfl rfl ?_
 refine Spl.of (fun h1=>?_) (fun h1=>?_)
 ·have h1:=of_decide_eq_true h1
  have e:cV (aj l) k=(⟨0,0⟩,0):=if_pos h1
  rw[e]
  (repeat (first|refine Spl.t rfl ?_|refine Spl.f rfl ?_))
  exact FinP.open rfl rfl
 ·have h1:=of_decide_eq_false h1
  by_cases h2:0≤k∧k<aT (aj l)
  ·have e:cV (aj l) k=(cY (aj l) k,0):=(if_neg h1).trans (if_pos h2)
   rw[decide_eq_true h2]at hn
   rw[e]
   (repeat (first|refine Spl.t rfl ?_|refine Spl.f rfl ?_))
   refine aa hn (fun _ _=>rfl) rfl rfl rfl ?_
   (repeat (first|refine Spl.t rfl ?_|refine Spl.f rfl ?_))
   exact FinP.open rfl rfl
  ·have e:cV (aj l) k=(⟨0,0⟩,2):=(if_neg h1).trans (if_neg h2)
   rw[decide_eq_false h2]at hn
   rw[e]
   (repeat (first|refine Spl.t rfl ?_|refine Spl.f rfl ?_))
   refine aa hn (fun _ _=>rfl) rfl rfl rfl ?_
   (repeat (first|refine Spl.t rfl ?_|refine Spl.f rfl ?_))
   exact FinP.open rfl rfl
theorem nk {s:SS}{l:List OP}(h:isS s l)(R:List OP)(a:ID):Cv 162 [idv a,vv s l R] (.tup [iv (iZ (aj l) a).1,iv (iZ (aj l) a).2]):=by
 have hlen:=oY h R
 have hb:=uC h R a
 refine ab Tryz.f162 Tryz.func162 rfl rfl fun w H B g0=>?_
 refine aa (nf a) (fun _ _=>rfl) rfl rfl rfl ?_
 refine Spl.of (fun h1=>?_) (fun h1=>?_)
 ·have e:iZ (aj l) a=(((aT (aj l):Nat):Int),0):=if_pos h1
  rw[e]
  (repeat (first|refine Spl.t rfl ?_|refine Spl.f rfl ?_))
  refine aa hlen (fun _ _=>rfl) rfl rfl rfl ?_
  exact FinP.open rfl rfl
 ·by_cases h2:0≤ax a (aj l)
  ·have e:iZ (aj l) a=(((bO (aj l) (ax a (aj l)):Nat):Int),0):=(if_neg (by rw[h1];exact Bool.false_ne_true)).trans (if_pos h2)
   rw[decide_eq_true h2,show g9 (aj l) a=bO (aj l) (ax a (aj l))from if_pos h2]at hb
   rw[e]
   (repeat (first|refine Spl.t rfl ?_|refine Spl.f rfl ?_))
   refine aa hb (fun _ _=>rfl) rfl rfl rfl ?_
   (repeat (first|refine Spl.t rfl ?_|refine Spl.f rfl ?_))
   exact FinP.open rfl rfl
  ·have e:iZ (aj l) a=(0,6):=(if_neg (by rw[h1];exact Bool.false_ne_true)).trans (if_neg h2)
   rw[decide_eq_false h2]at hb
   rw[e]
   (repeat (first|refine Spl.t rfl ?_|refine Spl.f rfl ?_))
   refine aa hb (fun _ _=>rfl) rfl rfl rfl ?_
   (repeat (first|refine Spl.t rfl ?_|refine Spl.f rfl ?_))
   exact FinP.open rfl rfl
end Go.Proofs.E
namespace Go.Proofs.E
attribute [local irreducible] elems
end Go.Proofs.E
namespace Go.Proofs.E
attribute [local irreducible] elems
theorem AA:cV (aj pA2.1.l) 1=(⟨2,1⟩,0):=by decide+kernel
theorem Az:pA2.2.1.i=⟨2,1⟩:=by decide+kernel
theorem Ay:iZ (aj pA3.1.l) ⟨2,1⟩=(0,0):=by decide+kernel
theorem BE:okV pA2.1:=(pH.ins 1 1 98).1
theorem uJ:Cv 124 [] (bv true):=by
 have h1:=xz 1 0 97
 have h2:=hX pH.is vA1.R (by have:=pH.len;omega) pH.ck 1 1 98
 have h3:=kr vK.is vA2.R (by have:=vK.len;omega) 0
 have ha:=zo BE.is pA2.1.R 1
 have hr:=nk Bb.is pA3.1.R ⟨2,1⟩
 rw[AA]at ha
 rw[Ay]at hr
 have e1:bM vA0 1 0 97=pA1:=rfl
 have e2:bM ⟨vA1.s,vA1.l,vA1.R,[]⟩ 1 1 98=pA2:=rfl
 have e3:ct ⟨vA2.s,vA2.l,vA2.R,[]⟩ 0=pA3:=rfl
 rw[e1]at h1
 rw[e2]at h2
 rw[e3]at h3
 have d1:vA1=⟨pA1.1.s,pA1.1.l,pA1.1.R,[]⟩:=rfl
 have d2:vA2=⟨pA2.1.s,pA2.1.l,pA2.1.R,[]⟩:=rfl
 rw[d1]at h2
 rw[d2]at h3
 have ho:=Az
 generalize pA3=p3 at h3 hr
 generalize pA2=p2 at h2 h3 ha ho
 generalize pA1=p1 at h1 h2
 obtain⟨v3,o3,e3'⟩:=p3
 obtain⟨v2,⟨ok,oi,oa,och⟩,e2'⟩:=p2
 obtain⟨v1,o1,e1'⟩:=p1
 unfold qU at h1 h2 h3
 simp only at h1 h2 h3 ha hr ho
 subst ho
 refine aU Tryz.f124 Tryz.func124 rfl rfl fun w H B g0=>?_
 (try refine WJ.cut ?_)
 (first|refine Sq.go ?_|refine ah (Sq.go ?_)|skip)
 (try refine WJ.cut ?_)
 refine aa h1 (fun _ _=>rfl) rfl rfl rfl ?_
 (repeat (first|refine Spl.t rfl ?_|refine Spl.f rfl ?_))
 (first|refine Sq.go ?_|refine ah (Sq.go ?_)|skip)
 (try refine WJ.cut ?_)
 refine aa h2 (fun _ _=>rfl) rfl rfl rfl ?_
 (repeat (first|refine Spl.t rfl ?_|refine Spl.f rfl ?_))
 (first|refine Sq.go ?_|refine ah (Sq.go ?_)|skip)
 (try refine WJ.cut ?_)
 refine aa ha (fun _ _=>rfl) rfl rfl rfl ?_
 (repeat (first|refine Spl.t rfl ?_|refine Spl.f rfl ?_))
 (first|refine Sq.go ?_|refine ah (Sq.go ?_)|skip)
 (try refine WJ.cut ?_)
 refine aa h3 (fun _ _=>rfl) rfl rfl rfl ?_
 (repeat (first|refine Spl.t rfl ?_|refine Spl.f rfl ?_))
 (first|refine Sq.go ?_|refine ah (Sq.go ?_)|skip)
 (try refine WJ.cut ?_)
 refine aa hr (fun _ _=>rfl) rfl rfl rfl ?_
 (repeat (first|refine Spl.t rfl ?_|refine Spl.f rfl ?_))
 (first|refine Sq.go ?_|refine ah (Sq.go ?_)|skip)
 (try refine ay _ _ _ _ ?_)
 refine aa xD (fun _ _=>rfl) rfl rfl rfl ?_
 (repeat (first|refine Spl.t rfl ?_|refine Spl.f rfl ?_))
 refine bq (O.eqT 3 rfl rfl rfl rfl rfl mE p6 (eqI ⟨2,1⟩ ⟨2,1⟩)) rfl ?_
 exact FinP.open rfl (congrArg bv (by simp))
end Go.Proofs.E
end
section
namespace Go.Gv
open Go.RowKit
end Go.Gv
end
section
namespace Go.Gv
open Go.RowKit
theorem QJ.callT {X:Cx}{d:Option Nat}{ty:TypeId}{pos:String}{aft:Array Edge}{g:Option (Nat×Bool)}{t:T}{σ:Sg}{f:FuncId}{x:Operand}{av:AV}{args:Array Operand}{tys:Array TypeId}{avs caps:List AV}{r:AV}
 (hx:ge t x=some av)(hf:FnIs av f caps)(hc:Ct X.Λ X.P f (avs++caps) [] (fun q _=>q=r))(hok:eI X.P f)
 (ha:gj t args.toList=some avs)(ho:r.open=true):QJ X ⟨d,.call {callee:=.value x,args:=args,argTypes:=tys},ty,pos,aft,g⟩ t σ r:=by
 intro γ H a w hl so sm next Q' hk
 have hso:∀y,y∈args.toList→∀v,ge t y=some v→Rep γ H v (a.eval y):=fun y hy=>so y (by simp[Op.operands,Call.operands]at hy ⊢;exact .inr hy)
 have hsx:Rep γ H av (a.eval x):=so x (by simp[Op.operands,Call.operands]) _ hx
 obtain⟨us,hu,hul,hur⟩:=hf.rep hsx
 rw[aD (by simp),kn hu hok,Oper.uponIn_enter]
 refine⟨fun h=>by simp[Fr]at h,?_⟩
 have he:blks γ []=fun _=>False:=by
  funext b;simp[blks,af]
 have hal:(args.map a.eval).toList.length=avs.length:=by have:=congrArg List.length (bp ha);simpa using this
 have:=hc X.ro γ H w ((args.map a.eval).toList++us) (hl.keep sm.keep (by rw[he];exact fun b h=>h.elim)) (by rw[he];exact sm.refl γ) (by simp only[List.length_append,hal,hul]) (pu hal (by
  have:=eV hso (bp ha)
  simpa using this) hur)
 rw[show((args.map a.eval).toList++us).toArray=args.map a.eval++us.toArray from Array.toList_inj.1 (by simp)]at this
 refine this.mono ?_
 rintro e w' ⟨v,r',σ',γ',H',rfl,rfl,hr,_,_,hm⟩
 rw[he]at hm
 exact hk v γ' σ' H' w' hm (hr.free ho)
end Go.Gv
end
section
open Go Go.Gv
attribute [local irreducible] Go.Gv.WJ Go.Gv.OpJ Go.Gv.QJ Go.Gv.Spl Go.Gv.Req Go.Gv.IdxP Go.Gv.RegP Go.Gv.FinP Go.Gv.CellP Go.Gv.CellsP Go.Gv.ArrP Go.Gv.ArrsP Go.Gv.DropP Go.Gv.ByteP Go.Gv.StoreP
set_option maxRecDepth 100000
namespace Go.Proofs.E
attribute [local irreducible] elems
structure CALL where
 k:Int
 at_:Int
 ch:Int
 o:OP
 a:ID
structure RS where
 e:Int
 n:Int
 t:List UInt8
 deriving DecidableEq
abbrev callD (c:CALL):List D:=[.v (.int .i64 c.k),.v (.int .i64 c.at_),.v (.int .i32 c.ch),.v (.int .i64 c.o.k),.v (.int .i64 c.o.i.c),.v (.int .i64 c.o.i.s),.v (.int .i64 c.o.a.c),.v (.int .i64 c.o.a.s),.v (.int .i32 c.o.ch),.v (.int .i64 c.a.c),.v (.int .i64 c.a.s)]
abbrev jG (c:CALL):AV:=.agg [iv c.k,iv c.at_,cv' c.ch,iv c.o.k,iv c.o.i.c,iv c.o.i.s,iv c.o.a.c,iv c.o.a.s,cv' c.o.ch,iv c.a.c,iv c.a.s]
abbrev rsv (x:RS):AV:=.agg [iv x.e,iv x.n,sv x.t]
abbrev rcs (site:Int)(s:SS)(l R:List OP)(cl:Bool):List AV:=[iv site,.d s.t.d,.d s.p.d,iv s.n,.d (.sl 6 (R.map opD)),iv (l.length:Nat),iv (bo l).n,cx (bo l).a (bo l).b,cx (bo l).c (bo l).d,bv cl]
abbrev rpv (site:Int)(s:SS)(l R:List OP)(cl:Bool):AV:=.agg (rcs site s l R cl)
def cxD (a b:Int):D:=match cx a b with
 |.d x=>x
 |_=>.v undef
abbrev rpD (site:Int)(s:SS)(l R:List OP)(cl:Bool):List D:=[.v (.int .i64 site),s.t.d,s.p.d,.v (.int .i64 s.n),.sl 6 (R.map opD),.v (.int .i64 (l.length:Nat)),.v (.int .i64 (bo l).n),cxD (bo l).a (bo l).b,cxD (bo l).c (bo l).d,.v (.bool cl)]
def lY (l:List OP)(c:CALL):RS:=
 if c.k=3 then⟨0,0,byt (dz (aj l))⟩
 else if c.k=4 then⟨0,aT (aj l),[]⟩
 else if c.k=5 then(if (cV (aj l) c.at_).2≠0 then⟨(cV (aj l) c.at_).2,0,[]⟩else⟨0,0,aQ (cV (aj l) c.at_).1⟩)
 else if c.k=6 then⟨(iZ (aj l) c.a).2,(iZ (aj l) c.a).1,[]⟩
 else⟨0,l.length,pi (bo l)⟩
theorem BU {s:SS}{l:List OP}(h:isS s l)(site:Int)(R:List OP)(cl:Bool):Cv 209 [.d (.ptr (rpD site s l R cl))] (rsv ⟨0,0,byt (dz (aj l))⟩):=by
 have ht:=oW h R
 refine ab Tryz.f209 Tryz.func209 rfl rfl fun w H B g0=>?_
 refine aa ht (fun _ _=>rfl) rfl rfl rfl ?_
 (repeat (first|refine Spl.t rfl ?_|refine Spl.f rfl ?_))
 exact FinP.open rfl rfl
theorem BT {s:SS}{l:List OP}(h:isS s l)(site:Int)(R:List OP)(cl:Bool):Cv 210 [.d (.ptr (rpD site s l R cl))] (rsv ⟨0,aT (aj l),[]⟩):=by
 have ht:=oY h R
 refine ab Tryz.f210 Tryz.func210 rfl rfl fun w H B g0=>?_
 refine aa ht (fun _ _=>rfl) rfl rfl rfl ?_
 (repeat (first|refine Spl.t rfl ?_|refine Spl.f rfl ?_))
 exact FinP.open rfl rfl
theorem BS {s:SS}{l:List OP}(h:isS s l)(site:Int)(R:List OP)(cl:Bool)(c:CALL):Cv 211 [.d (.ptr (rpD site s l R cl)),.d (.ptr (callD c))] (rsv (if (cV (aj l) c.at_).2≠0 then⟨(cV (aj l) c.at_).2,0,[]⟩else⟨0,0,aQ (cV (aj l) c.at_).1⟩)):=by
 have ht:=zo h R c.at_
 generalize cV (aj l) c.at_=p at ht ⊢
 obtain⟨a,e⟩:=p
 simp only at ht ⊢
 have hs:=fL a
 refine ab Tryz.f211 Tryz.func211 rfl rfl fun w H B g0=>?_
 refine aa ht (fun _ _=>rfl) rfl rfl rfl ?_
 (repeat (first|refine Spl.t rfl ?_|refine Spl.f rfl ?_))
 refine Spl.of (fun h1=>?_) (fun h1=>?_)
 ·have h1:e≠0:=by simpa using h1
  rw[if_pos h1]
  (repeat (first|refine Spl.t rfl ?_|refine Spl.f rfl ?_))
  exact FinP.open rfl rfl
 ·have h1:¬e≠0:=by simpa using h1
  rw[if_neg h1]
  (repeat (first|refine Spl.t rfl ?_|refine Spl.f rfl ?_))
  refine aa hs (fun _ _=>rfl) rfl rfl rfl ?_
  (repeat (first|refine Spl.t rfl ?_|refine Spl.f rfl ?_))
  exact FinP.open rfl rfl
theorem BR {s:SS}{l:List OP}(h:isS s l)(site:Int)(R:List OP)(cl:Bool)(c:CALL):Cv 213 [.d (.ptr (callD c)),.d (.ptr (rpD site s l R cl))] (rsv ⟨(iZ (aj l) c.a).2,(iZ (aj l) c.a).1,[]⟩):=by
 have ht:=nk h R c.a
 refine ab Tryz.f213 Tryz.func213 rfl rfl fun w H B g0=>?_
 refine aa ht (fun _ _=>rfl) rfl rfl rfl ?_
 (repeat (first|refine Spl.t rfl ?_|refine Spl.f rfl ?_))
 exact FinP.open rfl rfl
theorem BQ {s:SS}{l:List OP}(h:isS s l)(site:Int)(R:List OP)(cl:Bool):Cv 214 [.d (.ptr (rpD site s l R cl))] (rsv ⟨0,l.length,pi (bo l)⟩):=by
 have hq:=oX s l R
 have ht:=mY s l R
 have hs:=oj (bo l) (sum_ok h.dn)
 refine ab Tryz.f214 Tryz.func214 rfl rfl fun w H B g0=>?_
 refine aB 0 8 [] rfl (by decide+kernel) ?_
 refine QuietP.of (QJ.call hq (fun _ _=>rfl) rfl rfl) ?_
 refine QuietP.of (QJ.call ht (fun _ _=>rfl) rfl rfl) ?_
 refine QuietP.of (QJ.call hs (fun _ _=>rfl) rfl rfl) ?_
 (repeat (first|refine Spl.t rfl ?_|refine Spl.f rfl ?_))
 exact FinP.open rfl rfl
def z0 (r c:List D):D:=.mp false [.int .i64 3,.int .i64 4,.int .i64 5,.int .i64 6,.int .i64 7] [[.fn 209 [.ptr r]],[.fn 210 [.ptr r]],[.fn 211 [.ptr r,.ptr c]],[.fn 213 [.ptr c,.ptr r]],[.fn 214 [.ptr r]]]
theorem keyNo_of {key:Value}{ks:List Value}(h:ks.all (fun x=>match fH key x with|some false=>true|_=>false)=true):jN key ks:=fun i x hx=>by
 have:=List.all_eq_true.1 h x (List.mem_of_getElem? hx)
 split at this
 ·assumption
 ·cases this
theorem PutP.new {key:Value}{ks:List Value}{vs:List (List D)}{ds:List D}{K:List Value→List (List D)→Prop}(h:ks.all (fun x=>match fH key x with|some false=>true|_=>false)=true)(k:K (ks++[key]) (vs++[ds])):PutP key ks vs ds K:=.inr ⟨keyNo_of h,k⟩
attribute [local irreducible] PutP LookP
theorem jk (site:Int)(s:SS)(l R:List OP)(cl:Bool)(c:CALL):Cv 169 [rpv site s l R cl,jG c] (.d (z0 (rpD site s l R cl) (callD c))):=by
 refine aU Tryz.f169 Tryz.func169 rfl rfl fun w H B g0=>?_
 (try refine WJ.cut ?_)
 (first|refine Sq.go ?_|refine ah (Sq.go ?_)|skip)
 refine WJ.shift (SJ.pub 2 rfl rfl) ?_
 refine WJ.shift (SJ.pub 3 rfl rfl) ?_
 (try refine ay _ _ _ _ ?_)
 (repeat (first|refine Spl.t rfl ?_|refine Spl.f rfl ?_))
 refine PutP.new ?_ ?_
 ·rfl
 (repeat (first|refine Spl.t rfl ?_|refine Spl.f rfl ?_))
 refine PutP.new ?_ ?_
 ·rfl
 (repeat (first|refine Spl.t rfl ?_|refine Spl.f rfl ?_))
 refine PutP.new ?_ ?_
 ·rfl
 (repeat (first|refine Spl.t rfl ?_|refine Spl.f rfl ?_))
 refine PutP.new ?_ ?_
 ·rfl
 (repeat (first|refine Spl.t rfl ?_|refine Spl.f rfl ?_))
 refine PutP.new ?_ ?_
 ·rfl
 (repeat (first|refine Spl.t rfl ?_|refine Spl.f rfl ?_))
 exact FinP.pub 5 rfl rfl (FinP.open rfl rfl)
end Go.Proofs.E
namespace Go.Proofs.E
attribute [local irreducible] elems
def wrI (v0:VS)(p:VS×OP×Int):VS×RS:=if p.2.2≠0 then(v0.same,⟨p.2.2,0,[]⟩)else(p.1,⟨0,p.1.l.length,gh p.2.1⟩)
def wrR (site:Int)(v:VS)(c:CALL):VS×RS:=
 if c.k=0 then wrI v (bM v site c.at_ c.ch)
 else if c.k=1 then wrI v (ct v c.at_)
 else if b9 v c.o≠0 then(v.same,⟨b9 v c.o,0,[]⟩)else(bI v c.o,⟨0,(bI v c.o).out.length,[]⟩)
abbrev Bj (site:Int)(v:VS)(cl:Bool)(x:RS):AV:=.tup [rpv site v.s v.l v.R cl,rsv x,.d (chs v.out)]
theorem xM {s:SS}{l R:List OP}(h:okV ⟨s,l,R,[]⟩)(site:Int)(cl:Bool)(c:CALL)(hk:0≤c.k∧c.k≤2):
 Cv 168 [rpv site s l R cl,jG c] (Bj site (wrR site ⟨s,l,R,[]⟩ c).1 cl (wrR site ⟨s,l,R,[]⟩ c).2):=by
 have hR:=h.len
 simp only at hR
 have his:=h.is
 simp only at his
 refine aU Tryz.f168 Tryz.func168 rfl rfl fun w H B g0=>?_
 (try refine WJ.cut ?_)
 (first|refine Sq.go ?_|refine ah (Sq.go ?_)|skip)
 (try refine WJ.cut ?_)
 (first|refine Sq.go ?_|refine ah (Sq.go ?_)|skip)
 (try refine WJ.cut ?_)
 (first|refine Sq.go ?_|refine ah (Sq.go ?_)|skip)
 (try refine WJ.cut ?_)
 (first|refine Sq.go ?_|refine ah (Sq.go ?_)|skip)
 (try refine WJ.cut ?_)
 (first|refine Sq.go ?_|refine ah (Sq.go ?_)|skip)
 (try refine WJ.cut ?_)
 (first|refine Sq.go ?_|refine ah (Sq.go ?_)|skip)
 (try refine WJ.cut ?_)
 by_cases c0:c.k=0
 ·have eD:wrR site ⟨s,l,R,[]⟩ c=wrI ⟨s,l,R,[]⟩ (bM ⟨s,l,R,[]⟩ site c.at_ c.ch):=if_pos c0
  have hp:=hX his R (by omega) h.ck site c.at_ c.ch
  rw[eD]
  generalize bM ⟨s,l,R,[]⟩ site c.at_ c.ch=p at hp ⊢
  obtain⟨v,o,e⟩:=p
  unfold qU at hp
  unfold wrI
  simp only at hp ⊢
  have hq:=oX v.s v.l v.R
  have hs:=kw o
  refine Spl.t (decide_eq_true c0) ?_
  (repeat (first|refine Spl.t rfl ?_|refine Spl.f rfl ?_))
  refine aa hp (fun _ _=>rfl) rfl rfl rfl ?_
  (repeat (first|refine Spl.t rfl ?_|refine Spl.f rfl ?_))
  (first|refine Sq.go ?_|refine ah (Sq.go ?_)|skip)
  (try refine WJ.cut ?_)
  refine Spl.of (fun h1=>?_) (fun h1=>?_)
  ·have h1:e≠0:=by simpa using h1
   rw[if_pos h1]
   (repeat (first|refine Spl.t rfl ?_|refine Spl.f rfl ?_))
   refine .out (by simp) ?_
   refine aw 2 rfl (fun _ _ _ h=>bi 6 h) ?_
   exact FinP.open rfl rfl
  ·have h1:¬e≠0:=by simpa using h1
   rw[if_neg h1]
   (repeat (first|refine Spl.t rfl ?_|refine Spl.f rfl ?_))
   (first|refine Sq.go ?_|refine ah (Sq.go ?_)|skip)
   (try refine WJ.cut ?_)
   (first|refine Sq.go ?_|refine ah (Sq.go ?_)|skip)
   (try refine WJ.cut ?_)
   refine Spl.f (decide_eq_false (by omega)) ?_
   (repeat (first|refine Spl.t rfl ?_|refine Spl.f rfl ?_))
   (first|refine Sq.go ?_|refine ah (Sq.go ?_)|skip)
   (try refine ay _ _ _ _ ?_)
   refine aB 0 10 [4,5] rfl (by decide+kernel) ?_
   refine QuietP.of (QJ.call hq (fun _ _=>rfl) rfl rfl) ?_
   refine QuietP.of (QJ.call hs (fun _ _=>rfl) rfl rfl) ?_
   (repeat (first|refine Spl.t rfl ?_|refine Spl.f rfl ?_))
   exact FinP.open rfl rfl
 ·refine Spl.f (decide_eq_false c0) ?_
  (repeat (first|refine Spl.t rfl ?_|refine Spl.f rfl ?_))
  by_cases c1:c.k=1
  ·have eD:wrR site ⟨s,l,R,[]⟩ c=wrI ⟨s,l,R,[]⟩ (ct ⟨s,l,R,[]⟩ c.at_):=(if_neg c0).trans (if_pos c1)
   have hp:=kr his R (by omega) c.at_
   rw[eD]
   generalize ct ⟨s,l,R,[]⟩ c.at_=p at hp ⊢
   obtain⟨v,o,e⟩:=p
   unfold qU at hp
   unfold wrI
   simp only at hp ⊢
   have hq:=oX v.s v.l v.R
   have hs:=kw o
   refine Spl.t (decide_eq_true c1) ?_
   (repeat (first|refine Spl.t rfl ?_|refine Spl.f rfl ?_))
   refine aa hp (fun _ _=>rfl) rfl rfl rfl ?_
   (repeat (first|refine Spl.t rfl ?_|refine Spl.f rfl ?_))
   (first|refine Sq.go ?_|refine ah (Sq.go ?_)|skip)
   (try refine WJ.cut ?_)
   refine Spl.of (fun h1=>?_) (fun h1=>?_)
   ·have h1:e≠0:=by simpa using h1
    rw[if_pos h1]
    (repeat (first|refine Spl.t rfl ?_|refine Spl.f rfl ?_))
    refine .out (by simp) ?_
    refine aw 2 rfl (fun _ _ _ h=>bi 6 h) ?_
    exact FinP.open rfl rfl
   ·have h1:¬e≠0:=by simpa using h1
    rw[if_neg h1]
    (repeat (first|refine Spl.t rfl ?_|refine Spl.f rfl ?_))
    (first|refine Sq.go ?_|refine ah (Sq.go ?_)|skip)
    (try refine WJ.cut ?_)
    (first|refine Sq.go ?_|refine ah (Sq.go ?_)|skip)
    (try refine WJ.cut ?_)
    refine Spl.f (decide_eq_false (by omega)) ?_
    (repeat (first|refine Spl.t rfl ?_|refine Spl.f rfl ?_))
    (first|refine Sq.go ?_|refine ah (Sq.go ?_)|skip)
    (try refine ay _ _ _ _ ?_)
    refine aB 0 10 [4,5] rfl (by decide+kernel) ?_
    refine QuietP.of (QJ.call hq (fun _ _=>rfl) rfl rfl) ?_
    refine QuietP.of (QJ.call hs (fun _ _=>rfl) rfl rfl) ?_
    (repeat (first|refine Spl.t rfl ?_|refine Spl.f rfl ?_))
    exact FinP.open rfl rfl
  ·refine Spl.f (decide_eq_false c1) ?_
   (repeat (first|refine Spl.t rfl ?_|refine Spl.f rfl ?_))
   have eD:wrR site ⟨s,l,R,[]⟩ c=if b9 ⟨s,l,R,[]⟩ c.o≠0 then(⟨s,l,R,[]⟩,⟨b9 ⟨s,l,R,[]⟩ c.o,0,[]⟩)else(bI ⟨s,l,R,[]⟩ c.o,⟨0,(bI ⟨s,l,R,[]⟩ c.o).out.length,[]⟩):=(if_neg c0).trans (if_neg c1)
   have hp:=m9 his R [] c.o (by omega)
   rw[eD]
   generalize b9 ⟨s,l,R,[]⟩ c.o=e at hp ⊢
   generalize bI ⟨s,l,R,[]⟩ c.o=v at hp ⊢
   obtain⟨vs1,vl,vR,vo⟩:=v
   simp only at hp ⊢
   have hlo:(vo.map chD).length=vo.length:=List.length_map ..
   refine aa hp (fun _ _=>rfl) rfl rfl rfl ?_
   (repeat (first|refine Spl.t rfl ?_|refine Spl.f rfl ?_))
   (first|refine Sq.go ?_|refine ah (Sq.go ?_)|skip)
   (try refine WJ.cut ?_)
   refine Spl.of (fun h1=>?_) (fun h1=>?_)
   ·have h1:e≠0:=by simpa using h1
    rw[if_pos h1]
    (repeat (first|refine Spl.t rfl ?_|refine Spl.f rfl ?_))
    refine .out (by simp) ?_
    refine aw 2 rfl (fun _ _ _ h=>bi 6 h) ?_
    exact FinP.open rfl rfl
   ·have h1:¬e≠0:=by simpa using h1
    rw[if_neg h1]
    (repeat (first|refine Spl.t rfl ?_|refine Spl.f rfl ?_))
    (first|refine Sq.go ?_|refine ah (Sq.go ?_)|skip)
    (try refine WJ.cut ?_)
    (first|refine Sq.go ?_|refine ah (Sq.go ?_)|skip)
    (try refine WJ.cut ?_)
    refine Spl.t (decide_eq_true (by omega)) ?_
    (repeat (first|refine Spl.t rfl ?_|refine Spl.f rfl ?_))
    refine .out (by simp) ?_
    rw[hlo]
    exact FinP.open rfl rfl
theorem wQ (k:Int):Cv 32 [iv k] (bv (decide (0≤k∧k≤2))):=by
 refine ab Tryz.f32 Tryz.func32 rfl rfl fun w H B g0=>?_
 (repeat' (first|refine Spl.t rfl ?_|refine Spl.f rfl ?_|refine Spl.of (fun h=>?_) (fun h=>?_)))
 all_goals refine FinP.open rfl (congrArg bv ?_)
 all_goals simp_all
 all_goals omega
theorem uF (site:Int)(s:SS)(l R:List OP)(cl:Bool):Cv 167 [rpv site s l R cl] (bv (cl||decide (site=0))):=by
 cases cl
 all_goals refine ab Tryz.f167 Tryz.func167 rfl rfl fun w H B g0=>?_
 all_goals (repeat' (first|refine Spl.t rfl ?_|refine Spl.f rfl ?_|refine Spl.of (fun h=>?_) (fun h=>?_)))
 all_goals refine FinP.open rfl (congrArg bv ?_)
 all_goals simp_all
end Go.Proofs.E
namespace Go.Proofs.E
attribute [local irreducible] elems
def cJ (site:Int)(v:VS)(cl:Bool)(c:CALL):VS×Bool×RS:=
 if c.k<0∨c.k>8 then(v.same,cl,⟨1,0,[]⟩)
 else if (cl||decide (site=0))=true then(v.same,cl,⟨9,0,[]⟩)
 else if c.k=8 then(v.same,true,⟨0,0,[]⟩)
 else if c.k≤2 then((wrR site v c).1,cl,(wrR site v c).2)
 else(v.same,cl,lY v.l c)
theorem LookP.at_ {key:Value}{ks:List Value}{vs:List (List D)}{A:List D→Prop}{B:Prop}(j:Nat){cs:List D}(h:((match ks[j]? with|some x=>(match fH key x with|some true=>true|_=>false)|none=>false)&&(ks.take j).all (fun x=>match fH key x with|some false=>true|_=>false))=true)(hv:vs[j]?=some cs)(k:A cs):LookP key ks vs A B:=by
 obtain⟨h1,h2⟩:=Bool.and_eq_true_iff.1 h
 refine .inl ⟨j,cs,⟨?_,fun i x hi hx=>keyNo_of h2 i x (by rw[List.getElem?_take,if_pos hi];exact hx)⟩,hv,k⟩
 split at h1
 ·next x hx=>
  split at h1
  ·exact⟨x,hx,by assumption⟩
  ·cases h1
 ·cases h1
attribute [local irreducible] PutP LookP
theorem qJ {s:SS}{l R:List OP}(h:okV ⟨s,l,R,[]⟩)(site:Int)(cl:Bool)(c:CALL):
 Cv 133 [rpv site s l R cl,jG c] (Bj site (cJ site ⟨s,l,R,[]⟩ cl c).1 (cJ site ⟨s,l,R,[]⟩ cl c).2.1 (cJ site ⟨s,l,R,[]⟩ cl c).2.2):=by
 have his:=h.is
 simp only at his
 have hcl:=uF site s l R cl
 have hwr:=wQ c.k
 by_cases c1:c.k<0∨c.k>8
 ·have eD:cJ site ⟨s,l,R,[]⟩ cl c=(⟨s,l,R,[]⟩,cl,⟨1,0,[]⟩):=if_pos c1
  rw[eD]
  refine ab Tryz.f133 Tryz.func133 rfl rfl fun w H B g0=>?_
  refine Spl.of (fun h1=>?_) (fun h1=>?_)
  ·(repeat (first|refine Spl.t rfl ?_|refine Spl.f rfl ?_))
   refine aw 2 rfl (fun _ _ _ h=>bi 6 h) ?_
   exact FinP.open rfl rfl
  ·(repeat (first|refine Spl.t rfl ?_|refine Spl.f rfl ?_))
   refine Spl.t (decide_eq_true (by have:=of_decide_eq_false h1;omega)) ?_
   (repeat (first|refine Spl.t rfl ?_|refine Spl.f rfl ?_))
   refine aw 2 rfl (fun _ _ _ h=>bi 6 h) ?_
   exact FinP.open rfl rfl
 by_cases c2:(cl||decide (site=0))=true
 ·have eD:cJ site ⟨s,l,R,[]⟩ cl c=(⟨s,l,R,[]⟩,cl,⟨9,0,[]⟩):=(if_neg c1).trans (if_pos c2)
  rw[eD]
  rw[c2]at hcl
  refine ab Tryz.f133 Tryz.func133 rfl rfl fun w H B g0=>?_
  refine Spl.f (decide_eq_false (by omega)) ?_
  (repeat (first|refine Spl.t rfl ?_|refine Spl.f rfl ?_))
  refine Spl.f (decide_eq_false (by omega)) ?_
  (repeat (first|refine Spl.t rfl ?_|refine Spl.f rfl ?_))
  refine aa hcl (fun _ _=>rfl) rfl rfl rfl ?_
  (repeat (first|refine Spl.t rfl ?_|refine Spl.f rfl ?_))
  refine aw 2 rfl (fun _ _ _ h=>bi 6 h) ?_
  exact FinP.open rfl rfl
 have c2':(cl||decide (site=0))=false:=by cases hh:(cl||decide (site=0))with|true=>exact absurd hh c2|false=>rfl
 rw[c2']at hcl
 by_cases c3:c.k=8
 ·have eD:cJ site ⟨s,l,R,[]⟩ cl c=(⟨s,l,R,[]⟩,true,⟨0,0,[]⟩):=(if_neg c1).trans ((if_neg c2).trans (if_pos c3))
  rw[eD]
  refine ab Tryz.f133 Tryz.func133 rfl rfl fun w H B g0=>?_
  refine Spl.f (decide_eq_false (by omega)) ?_
  (repeat (first|refine Spl.t rfl ?_|refine Spl.f rfl ?_))
  refine Spl.f (decide_eq_false (by omega)) ?_
  (repeat (first|refine Spl.t rfl ?_|refine Spl.f rfl ?_))
  refine aa hcl (fun _ _=>rfl) rfl rfl rfl ?_
  (repeat (first|refine Spl.t rfl ?_|refine Spl.f rfl ?_))
  refine Spl.t (decide_eq_true c3) ?_
  (repeat (first|refine Spl.t rfl ?_|refine Spl.f rfl ?_))
  refine aw 2 rfl (fun _ _ _ h=>bi 6 h) ?_
  exact FinP.open rfl rfl
 by_cases c4:c.k≤2
 ·have eD:cJ site ⟨s,l,R,[]⟩ cl c=((wrR site ⟨s,l,R,[]⟩ c).1,cl,(wrR site ⟨s,l,R,[]⟩ c).2):=(if_neg c1).trans ((if_neg c2).trans ((if_neg c3).trans (if_pos c4)))
  rw[eD]
  have hw:=xM h site cl c (by omega)
  generalize wrR site ⟨s,l,R,[]⟩ c=p at hw ⊢
  obtain⟨⟨v1,v2,v3,v4⟩,x⟩:=p
  simp only at hw ⊢
  rw[decide_eq_true (show 0≤c.k∧c.k≤2 by omega)]at hwr
  refine ab Tryz.f133 Tryz.func133 rfl rfl fun w H B g0=>?_
  refine Spl.f (decide_eq_false (by omega)) ?_
  (repeat (first|refine Spl.t rfl ?_|refine Spl.f rfl ?_))
  refine Spl.f (decide_eq_false (by omega)) ?_
  (repeat (first|refine Spl.t rfl ?_|refine Spl.f rfl ?_))
  refine aa hcl (fun _ _=>rfl) rfl rfl rfl ?_
  (repeat (first|refine Spl.t rfl ?_|refine Spl.f rfl ?_))
  refine Spl.f (decide_eq_false c3) ?_
  (repeat (first|refine Spl.t rfl ?_|refine Spl.f rfl ?_))
  refine aa hwr (fun _ _=>rfl) rfl rfl rfl ?_
  (repeat (first|refine Spl.t rfl ?_|refine Spl.f rfl ?_))
  refine aa hw (fun _ _=>rfl) rfl rfl rfl ?_
  (repeat (first|refine Spl.t rfl ?_|refine Spl.f rfl ?_))
  exact FinP.open rfl rfl
 ·have eD:cJ site ⟨s,l,R,[]⟩ cl c=(⟨s,l,R,[]⟩,cl,lY l c):=(if_neg c1).trans ((if_neg c2).trans ((if_neg c3).trans (if_neg c4)))
  rw[eD]
  rw[decide_eq_false (show¬(0≤c.k∧c.k≤2)by omega)]at hwr
  have hk:c.k=3∨c.k=4∨c.k=5∨c.k=6∨c.k=7:=by omega
  clear eD
  obtain⟨k,at_,ch,o,a⟩:=c
  simp only at hk hwr
  clear c1 c2 c3 c4
  rcases hk with hk|hk|hk|hk|hk
  ·subst hk
   have hlk:=jk site s l R cl ⟨3,at_,ch,o,a⟩
   have kj:=BU his site R cl
   have eL:lY l ⟨3,at_,ch,o,a⟩=(⟨0,0,byt (dz (aj l))⟩:RS):=rfl
   rw[eL]
   generalize hg:(⟨0,0,byt (dz (aj l))⟩:RS)=x at kj ⊢
   refine ab Tryz.f133 Tryz.func133 rfl rfl fun w H B g0=>?_
   (repeat (first|refine Spl.t rfl ?_|refine Spl.f rfl ?_))
   refine aa hcl (fun _ _=>rfl) rfl rfl rfl ?_
   (repeat (first|refine Spl.t rfl ?_|refine Spl.f rfl ?_))
   refine aa hwr (fun _ _=>rfl) rfl rfl rfl ?_
   (repeat (first|refine Spl.t rfl ?_|refine Spl.f rfl ?_))
   refine aB 0 11 [4,5] rfl (by decide+kernel) ?_
   refine QuietP.of (QJ.call hlk (fun _ _=>rfl) rfl rfl) ?_
   (repeat (first|refine Spl.t rfl ?_|refine Spl.f rfl ?_))
   refine LookP.at_ 0 rfl rfl ?_
   (repeat (first|refine Spl.t rfl ?_|refine Spl.f rfl ?_))
   refine QuietP.of (QJ.callT rfl (.fn _ _) kj (fun _ _=>rfl) rfl rfl) ?_
   (repeat (first|refine Spl.t rfl ?_|refine Spl.f rfl ?_))
   refine aw 2 rfl (fun _ _ _ h=>bi 6 h) ?_
   exact FinP.open rfl rfl
  ·subst hk
   have hlk:=jk site s l R cl ⟨4,at_,ch,o,a⟩
   have kj:=BT his site R cl
   have eL:lY l ⟨4,at_,ch,o,a⟩=(⟨0,aT (aj l),[]⟩:RS):=rfl
   rw[eL]
   generalize hg:(⟨0,aT (aj l),[]⟩:RS)=x at kj ⊢
   refine ab Tryz.f133 Tryz.func133 rfl rfl fun w H B g0=>?_
   (repeat (first|refine Spl.t rfl ?_|refine Spl.f rfl ?_))
   refine aa hcl (fun _ _=>rfl) rfl rfl rfl ?_
   (repeat (first|refine Spl.t rfl ?_|refine Spl.f rfl ?_))
   refine aa hwr (fun _ _=>rfl) rfl rfl rfl ?_
   (repeat (first|refine Spl.t rfl ?_|refine Spl.f rfl ?_))
   refine aB 0 11 [4,5] rfl (by decide+kernel) ?_
   refine QuietP.of (QJ.call hlk (fun _ _=>rfl) rfl rfl) ?_
   (repeat (first|refine Spl.t rfl ?_|refine Spl.f rfl ?_))
   refine LookP.at_ 1 rfl rfl ?_
   (repeat (first|refine Spl.t rfl ?_|refine Spl.f rfl ?_))
   refine QuietP.of (QJ.callT rfl (.fn _ _) kj (fun _ _=>rfl) rfl rfl) ?_
   (repeat (first|refine Spl.t rfl ?_|refine Spl.f rfl ?_))
   refine aw 2 rfl (fun _ _ _ h=>bi 6 h) ?_
   exact FinP.open rfl rfl
  ·subst hk
   have hlk:=jk site s l R cl ⟨5,at_,ch,o,a⟩
   have kj:=BS his site R cl ⟨5,at_,ch,o,a⟩
   have eL:lY l ⟨5,at_,ch,o,a⟩=(if (cV (aj l) at_).2≠0 then⟨(cV (aj l) at_).2,0,[]⟩else⟨0,0,aQ (cV (aj l) at_).1⟩:RS):=rfl
   rw[eL]
   generalize hg:(if (cV (aj l) at_).2≠0 then⟨(cV (aj l) at_).2,0,[]⟩else⟨0,0,aQ (cV (aj l) at_).1⟩:RS)=x at kj ⊢
   refine ab Tryz.f133 Tryz.func133 rfl rfl fun w H B g0=>?_
   (repeat (first|refine Spl.t rfl ?_|refine Spl.f rfl ?_))
   refine aa hcl (fun _ _=>rfl) rfl rfl rfl ?_
   (repeat (first|refine Spl.t rfl ?_|refine Spl.f rfl ?_))
   refine aa hwr (fun _ _=>rfl) rfl rfl rfl ?_
   (repeat (first|refine Spl.t rfl ?_|refine Spl.f rfl ?_))
   refine aB 0 11 [4,5] rfl (by decide+kernel) ?_
   refine QuietP.of (QJ.call hlk (fun _ _=>rfl) rfl rfl) ?_
   (repeat (first|refine Spl.t rfl ?_|refine Spl.f rfl ?_))
   refine LookP.at_ 2 rfl rfl ?_
   (repeat (first|refine Spl.t rfl ?_|refine Spl.f rfl ?_))
   refine QuietP.of (QJ.callT rfl (.fn _ _) kj (fun _ _=>rfl) rfl rfl) ?_
   (repeat (first|refine Spl.t rfl ?_|refine Spl.f rfl ?_))
   refine aw 2 rfl (fun _ _ _ h=>bi 6 h) ?_
   exact FinP.open rfl rfl
  ·subst hk
   have hlk:=jk site s l R cl ⟨6,at_,ch,o,a⟩
   have kj:=BR his site R cl ⟨6,at_,ch,o,a⟩
   have eL:lY l ⟨6,at_,ch,o,a⟩=(⟨(iZ (aj l) a).2,(iZ (aj l) a).1,[]⟩:RS):=rfl
   rw[eL]
   generalize hg:(⟨(iZ (aj l) a).2,(iZ (aj l) a).1,[]⟩:RS)=x at kj ⊢
   refine ab Tryz.f133 Tryz.func133 rfl rfl fun w H B g0=>?_
   (repeat (first|refine Spl.t rfl ?_|refine Spl.f rfl ?_))
   refine aa hcl (fun _ _=>rfl) rfl rfl rfl ?_
   (repeat (first|refine Spl.t rfl ?_|refine Spl.f rfl ?_))
   refine aa hwr (fun _ _=>rfl) rfl rfl rfl ?_
   (repeat (first|refine Spl.t rfl ?_|refine Spl.f rfl ?_))
   refine aB 0 11 [4,5] rfl (by decide+kernel) ?_
   refine QuietP.of (QJ.call hlk (fun _ _=>rfl) rfl rfl) ?_
   (repeat (first|refine Spl.t rfl ?_|refine Spl.f rfl ?_))
   refine LookP.at_ 3 rfl rfl ?_
   (repeat (first|refine Spl.t rfl ?_|refine Spl.f rfl ?_))
   refine QuietP.of (QJ.callT rfl (.fn _ _) kj (fun _ _=>rfl) rfl rfl) ?_
   (repeat (first|refine Spl.t rfl ?_|refine Spl.f rfl ?_))
   refine aw 2 rfl (fun _ _ _ h=>bi 6 h) ?_
   exact FinP.open rfl rfl
  ·subst hk
   have hlk:=jk site s l R cl ⟨7,at_,ch,o,a⟩
   have kj:=BQ his site R cl
   have eL:lY l ⟨7,at_,ch,o,a⟩=(⟨0,l.length,pi (bo l)⟩:RS):=rfl
   rw[eL]
   generalize hg:(⟨0,l.length,pi (bo l)⟩:RS)=x at kj ⊢
   refine ab Tryz.f133 Tryz.func133 rfl rfl fun w H B g0=>?_
   (repeat (first|refine Spl.t rfl ?_|refine Spl.f rfl ?_))
   refine aa hcl (fun _ _=>rfl) rfl rfl rfl ?_
   (repeat (first|refine Spl.t rfl ?_|refine Spl.f rfl ?_))
   refine aa hwr (fun _ _=>rfl) rfl rfl rfl ?_
   (repeat (first|refine Spl.t rfl ?_|refine Spl.f rfl ?_))
   refine aB 0 11 [4,5] rfl (by decide+kernel) ?_
   refine QuietP.of (QJ.call hlk (fun _ _=>rfl) rfl rfl) ?_
   (repeat (first|refine Spl.t rfl ?_|refine Spl.f rfl ?_))
   refine LookP.at_ 4 rfl rfl ?_
   (repeat (first|refine Spl.t rfl ?_|refine Spl.f rfl ?_))
   refine QuietP.of (QJ.callT rfl (.fn _ _) kj (fun _ _=>rfl) rfl rfl) ?_
   (repeat (first|refine Spl.t rfl ?_|refine Spl.f rfl ?_))
   refine aw 2 rfl (fun _ _ _ h=>bi 6 h) ?_
   exact FinP.open rfl rfl
end Go.Proofs.E
namespace Go.Proofs.E
attribute [local irreducible] elems
theorem wZ {s:SS}{l R:List OP}(h:okV ⟨s,l,R,[]⟩)(site:Int)(cl:Bool)(c:CALL):
 Cv 80 [rpv site s l R cl,jG c] (.tup [rpv site (cJ site ⟨s,l,R,[]⟩ cl c).1.s (cJ site ⟨s,l,R,[]⟩ cl c).1.l (cJ site ⟨s,l,R,[]⟩ cl c).1.R (cJ site ⟨s,l,R,[]⟩ cl c).2.1,rsv (cJ site ⟨s,l,R,[]⟩ cl c).2.2]):=by
 have hw:=qJ h site cl c
 generalize cJ site ⟨s,l,R,[]⟩ cl c=p at hw ⊢
 obtain⟨⟨v1,v2,v3,v4⟩,cl',x⟩:=p
 simp only at hw ⊢
 refine ab Tryz.f80 Tryz.func80 rfl rfl fun w H B g0=>?_
 refine aa hw (fun _ _=>rfl) rfl rfl rfl ?_
 (repeat (first|refine Spl.t rfl ?_|refine Spl.f rfl ?_))
 refine aB 0 4 [4,5] rfl (by decide+kernel) ?_
 exact FinP.open rfl rfl
theorem yM {s:SS}{l R:List OP}(h:okV ⟨s,l,R,[]⟩)(site:Int)(cl:Bool)(c:CALL):
 Cv 85 [rpv site s l R cl,jG c] (rsv (cJ site ⟨s,l,R,[]⟩ cl c).2.2):=by
 have hw:=wZ h site cl c
 generalize cJ site ⟨s,l,R,[]⟩ cl c=p at hw ⊢
 obtain⟨⟨v1,v2,v3,v4⟩,cl',x⟩:=p
 simp only at hw ⊢
 refine ab Tryz.f85 Tryz.func85 rfl rfl fun w H B g0=>?_
 refine aa hw (fun _ _=>rfl) rfl rfl rfl ?_
 (repeat (first|refine Spl.t rfl ?_|refine Spl.f rfl ?_))
 exact FinP.open rfl rfl
theorem gg (site:Int)(s:SS)(l R:List OP)(cl:Bool):Cv 114 [rpv site s l R cl] (vv s l R):=by
 refine ab Tryz.f114 Tryz.func114 rfl rfl fun w H B g0=>?_
 exact FinP.open rfl rfl
theorem zV {γ:Ids}{H:HF}{u:Value}{t p:D}{k0 n m k:Int}{z1 z2 z3:AV}(r:Rep γ H (.agg [iv k0,.d t,.d p,iv n,.d (.v (.slice none 0 0)),iv m,iv k,z1,z2,z3]) u):Rep γ H (.agg [iv k0,.d t,.d p,iv n,.d (.sl 6 []),iv m,iv k,z1,z2,z3]) u:=gv (j:=4) r rfl fun _ h=>bi 6 h
theorem zk (site:Int):Cv 55 [iv site] (.tup [rpv (if site<1∨site>1000 then 0 else site) vA0.s vA0.l vA0.R false,iv (if site<1∨site>1000 then 2 else 0)]):=by
 by_cases c1:site<1∨site>1000
 ·rw[if_pos c1,if_pos c1]
  refine ab Tryz.f55 Tryz.func55 rfl rfl fun w H B g0=>?_
  refine Spl.of (fun h1=>?_) (fun h1=>?_)
  ·(repeat (first|refine Spl.t rfl ?_|refine Spl.f rfl ?_))
   refine aw 0 rfl (fun _ _ _ h=>zV h) ?_
   exact FinP.open rfl rfl
  ·(repeat (first|refine Spl.t rfl ?_|refine Spl.f rfl ?_))
   refine Spl.t (decide_eq_true (by have:=of_decide_eq_false h1;omega)) ?_
   (repeat (first|refine Spl.t rfl ?_|refine Spl.f rfl ?_))
   refine aw 0 rfl (fun _ _ _ h=>zV h) ?_
   exact FinP.open rfl rfl
 ·rw[if_neg c1,if_neg c1]
  refine ab Tryz.f55 Tryz.func55 rfl rfl fun w H B g0=>?_
  refine Spl.f (decide_eq_false (by omega)) ?_
  (repeat (first|refine Spl.t rfl ?_|refine Spl.f rfl ?_))
  refine Spl.f (decide_eq_false (by omega)) ?_
  (repeat (first|refine Spl.t rfl ?_|refine Spl.f rfl ?_))
  refine aw 0 rfl (fun _ _ _ h=>zV h) ?_
  exact FinP.open rfl rfl
end Go.Proofs.E
namespace Go.Proofs.E
attribute [local irreducible] elems
end Go.Proofs.E
namespace Go.Proofs.E
attribute [local irreducible] elems
theorem okV.wr {v:VS}(h:okV v)(site:Int)(c:CALL):okV (wrR site v c).1∧(wrR site v c).1.out.length≤17:=by
 have hs:okV v.same∧v.same.out.length≤17:=⟨h.same,by simp[VS.same]⟩
 unfold wrR
 split
 ·unfold wrI
  split
  ·exact hs
  ·exact h.ins site c.at_ c.ch
 ·split
  ·unfold wrI
   split
   ·exact hs
   ·exact h.del c.at_
  ·split
   ·exact hs
   ·exact⟨h.rem c.o,sn h c.o⟩
theorem okV.chg {v:VS}(h:okV v)(site:Int)(cl:Bool)(c:CALL):okV (cJ site v cl c).1∧(cJ site v cl c).1.out.length≤17:=by
 have hs:okV v.same∧v.same.out.length≤17:=⟨h.same,by simp[VS.same]⟩
 unfold cJ
 split
 ·exact hs
 ·split
  ·exact hs
  ·split
   ·exact hs
   ·split
    ·exact h.wr site c
    ·exact hs
theorem BG (a b:RS):eqT Tryz.prog 3 73 [.int .i64 a.e,.int .i64 a.n,.string ⟨⟨a.t⟩⟩] [.int .i64 b.e,.int .i64 b.n,.string ⟨⟨b.t⟩⟩]=some (decide (a=b)):=by
 show some (decide (a.e=b.e)&&(decide (a.n=b.n)&&(((⟨⟨a.t⟩⟩:ByteArray).toList==(⟨⟨b.t⟩⟩:ByteArray).toList)&&true)))=_
 rw[ByteArray.toList_eq,ByteArray.toList_eq]
 obtain⟨a1,a2,a3⟩:=a
 obtain⟨b1,b2,b3⟩:=b
 by_cases h3:a3=b3<;>simp[h3]
theorem yw:oP Tryz.prog 3 73=true:=by kernel_rfl
theorem Af:Tryz.prog.eqGuardType Tryz.prog.depth 73=false:=by kernel_rfl
def sY:CALL:=⟨0,0,97,OP0,⟨0,0⟩⟩
def y7 (k:Int):CALL:=⟨k,0,0,OP0,⟨0,0⟩⟩
def rA:VS×Bool×RS:=cJ 1 vA0 false sY
theorem BD:okV rA.1:=(rm.chg 1 false sY).1
theorem Aw:rA.2.2=⟨0,1,[43,49,46,49,32,45,32,54,49]⟩:=by decide+kernel
theorem yI:rA.2.1=false:=by decide+kernel
theorem Ax:(cJ 1 ⟨rA.1.s,rA.1.l,rA.1.R,[]⟩ false (y7 3)).2.2=⟨0,0,[97]⟩:=by decide+kernel
theorem uI:Cv 56 [] (bv true):=by
 have hn:Cv 55 [iv 1] (.tup [rpv 1 vA0.s vA0.l vA0.R false,iv 0]):=zk 1
 have hd:=wZ (s:=vA0.s) (l:=vA0.l) (R:=vA0.R) rm 1 false sY
 have hl:=yM BD.out 1 false (y7 3)
 rw[Ax]at hl
 have e1:cJ 1 ⟨vA0.s,vA0.l,vA0.R,[]⟩ false sY=rA:=rfl
 rw[e1]at hd
 rw[Aw,yI]at hd
 generalize rA=p at hd hl
 obtain⟨⟨v1,v2,v3,v4⟩,cl,x⟩:=p
 simp only at hd hl
 refine aU Tryz.f56 Tryz.func56 rfl rfl fun w H B g0=>?_
 (try refine WJ.cut ?_)
 (first|refine Sq.go ?_|refine ah (Sq.go ?_)|skip)
 (try refine WJ.cut ?_)
 refine aa hn (fun _ _=>rfl) rfl rfl rfl ?_
 (repeat (first|refine Spl.t rfl ?_|refine Spl.f rfl ?_))
 (first|refine Sq.go ?_|refine ah (Sq.go ?_)|skip)
 (try refine WJ.cut ?_)
 refine aa hd (fun _ _=>rfl) rfl rfl rfl ?_
 (repeat (first|refine Spl.t rfl ?_|refine Spl.f rfl ?_))
 (first|refine Sq.go ?_|refine ah (Sq.go ?_)|skip)
 (try refine ay _ _ _ _ ?_)
 refine aa uJ (fun _ _=>rfl) rfl rfl rfl ?_
 (repeat (first|refine Spl.t rfl ?_|refine Spl.f rfl ?_))
 refine bq (O.eqT 3 rfl rfl rfl rfl rfl yw Af (BG ⟨0,1,[43,49,46,49,32,45,32,54,49]⟩ ⟨0,1,[43,49,46,49,32,45,32,54,49]⟩)) rfl ?_
 refine Spl.t (by simp) ?_
 (repeat (first|refine Spl.t rfl ?_|refine Spl.f rfl ?_))
 refine aa hl (fun _ _=>rfl) rfl rfl rfl ?_
 (repeat (first|refine Spl.t rfl ?_|refine Spl.f rfl ?_))
 exact FinP.open rfl (congrArg bv (by simp))
end Go.Proofs.E
namespace Go.Proofs.E
attribute [local irreducible] elems
def vJ (c:CALL):Prop:=-9223372036854775808≤c.at_∧c.at_≤9223372036854775807
end Go.Proofs.E
namespace Go.Proofs.E
attribute [local irreducible] elems
structure RP where
 site:Int
 v:VS
 cl:Bool
structure NT where
 l:List RP
 sent:List OP
abbrev nlS:AV:=.d (.v (.slice none 0 0))
def RP0:RP:=⟨0,vA0,false⟩
abbrev rpE (r:RP):List D:=rpD r.site r.v.s r.v.l r.v.R r.cl
abbrev rpV (r:RP):AV:=rpv r.site r.v.s r.v.l r.v.R r.cl
abbrev ntC (n:NT):List AV:=[.d (.sl 10 (n.l.map rpE)),.d (.sl 6 (n.sent.map opD))]
abbrev ntv (n:NT):AV:=.agg (ntC n)
def RP.chg (r:RP)(c:CALL):RP×RS:=(⟨r.site,⟨(cJ r.site ⟨r.v.s,r.v.l,r.v.R,[]⟩ r.cl c).1.s,(cJ r.site ⟨r.v.s,r.v.l,r.v.R,[]⟩ r.cl c).1.l,(cJ r.site ⟨r.v.s,r.v.l,r.v.R,[]⟩ r.cl c).1.R,[]⟩,(cJ r.site ⟨r.v.s,r.v.l,r.v.R,[]⟩ r.cl c).2.1⟩,(cJ r.site ⟨r.v.s,r.v.l,r.v.R,[]⟩ r.cl c).2.2)
def okR (r:RP):Prop:=okV ⟨r.v.s,r.v.l,r.v.R,[]⟩
theorem okR.chg {r:RP}(h:okR r)(c:CALL):okR (r.chg c).1:=(okV.chg h r.site r.cl c).1.out
def opL (r:RP)(c:CALL):OP:=if c.k=0 then opI ⟨r.v.s,r.v.l,r.v.R,[]⟩ r.site c.at_ c.ch else opX ⟨r.v.s,r.v.l,r.v.R,[]⟩ c.at_
def NT.has (n:NT)(i:Int):Bool:=decide (0≤i)&&decide (i<(n.l.length:Nat))
def NT.at (n:NT)(i:Int):RP:=n.l.getD i.toNat RP0
def NT.set (n:NT)(i:Int)(r:RP):NT:=⟨n.l.set i.toNat r,n.sent⟩
def gl (n:NT)(i:Int)(c:CALL):NT×Int:=
 if n.has i=false then(n,11)
 else if c.k≠0∧c.k≠1 then(n,1)
 else if ((n.at i).chg c).2.e≠0 then(n,((n.at i).chg c).2.e)
 else(⟨n.l.set i.toNat ((n.at i).chg c).1,n.sent++[opL (n.at i) c]⟩,0)
def apC (o:OP):CALL:=⟨2,0,0,o,⟨0,0⟩⟩
def ij (n:NT)(i k:Int):NT×Int:=
 if n.has i=false then(n,11)
 else if k<0∨(n.sent.length:Nat)≤k then(n,2)
 else if ((n.at i).chg (apC (n.sent.getD k.toNat OP0))).2.e≠0 then(n,((n.at i).chg (apC (n.sent.getD k.toNat OP0))).2.e)
 else(n.set i ((n.at i).chg (apC (n.sent.getD k.toNat OP0))).1,0)
def dR (n:NT)(i:Int):Nat→NT
 |0=>n
 |k+1=>(ij (dR n i k) i k).1
def cS (n:NT):Nat→NT
 |0=>n
 |i+1=>dR (cS n i) i n.sent.length
structure okN (n:NT):Prop where
 ln:n.l.length≤8
 r:∀r,r∈n.l→okR r
 s:∀o,o∈n.sent→aC o=0
theorem qc (n:NT)(i k:Int):(ij n i k).1.sent=n.sent∧(ij n i k).1.l.length=n.l.length:=by
 unfold ij
 split
 ·exact⟨rfl,rfl⟩
 split
 ·exact⟨rfl,rfl⟩
 split
 ·exact⟨rfl,rfl⟩
 ·exact⟨rfl,by show(n.l.set _ _).length=_;rw[List.length_set]⟩
theorem jT (n:NT)(i:Int):∀k,(dR n i k).sent=n.sent∧(dR n i k).l.length=n.l.length
 |0=>⟨rfl,rfl⟩
 |k+1=>by
  have h:=qc (dR n i k) i k
  have ih:=jT n i k
  exact⟨h.1.trans ih.1,h.2.trans ih.2⟩
theorem fp (n:NT):∀i,(cS n i).sent=n.sent∧(cS n i).l.length=n.l.length
 |0=>⟨rfl,rfl⟩
 |i+1=>by
  have h:=jT (cS n i) i n.sent.length
  have ih:=fp n i
  exact⟨h.1.trans ih.1,h.2.trans ih.2⟩
theorem cq {n:NT}{i:Int}:n.has i=true↔0≤i∧i<(n.l.length:Nat):=by unfold NT.has;simp
theorem cC {n:NT}{i:Int}(h:n.has i=true):n.l[i.toNat]?=some (n.at i):=by
 have:=cq.1 h
 unfold NT.at
 rw[List.getD_eq_getElem?_getD,List.getElem?_eq_getElem (by omega)];rfl
theorem okN.at {n:NT}(h:okN n){i:Int}(hi:n.has i=true):okR (n.at i):=h.r _ (List.mem_of_getElem? (cC hi))
theorem okN.set {n:NT}(h:okN n){r:RP}(hr:okR r)(i:Nat)(sent:List OP)(hs:∀o,o∈sent→aC o=0):okN ⟨n.l.set i r,sent⟩:=
 ⟨by show(n.l.set i r).length≤8;rw[List.length_set];exact h.ln,fun x hx=>(List.mem_or_eq_of_mem_set hx).elim (h.r x) fun e=>e▸hr,hs⟩
theorem okN.dlv {n:NT}(h:okN n)(i k:Int):okN (ij n i k).1:=by
 unfold ij
 split
 ·exact h
 ·next hh=>
  have hi:n.has i=true:=by simpa using hh
  split
  ·exact h
  split
  ·exact h
  ·exact h.set (okR.chg (h.at hi) _) _ _ h.s
theorem okN.tell {n:NT}(h:okN n)(i:Int):∀k,okN (dR n i k)
 |0=>h
 |k+1=>(okN.tell h i k).dlv i k
theorem okN.setl {n:NT}(h:okN n):∀i,okN (cS n i)
 |0=>h
 |i+1=>(okN.setl h i).tell i _
theorem rP {r:RP}{c:CALL}(hk:c.k=0∨c.k=1)(he:(r.chg c).2.e=0):(r.chg c).2.t=gh (opL r c)∧aC (opL r c)=0∧(r.chg c).1=⟨r.site,⟨(bI ⟨r.v.s,r.v.l,r.v.R,[]⟩ (opL r c)).s,(bI ⟨r.v.s,r.v.l,r.v.R,[]⟩ (opL r c)).l,(bI ⟨r.v.s,r.v.l,r.v.R,[]⟩ (opL r c)).R,[]⟩,r.cl⟩∧b9 ⟨r.v.s,r.v.l,r.v.R,[]⟩ (opL r c)=0:=by
 have key:∀(o:OP)(v:VS),b9 v o=0→aC o=0:=fun o v h=>by
  unfold b9 at h
  split at h
  ·unfold iM at h
   split at h
   ·next q=>exact absurd h q
   ·next q=>exact Classical.not_not.1 q
  ·exact(bQ h).1
 have ht:∀(v:VS)(o:OP),(wrI v (doT v o)).2.e=0→(wrI v (doT v o)).2.t=gh o∧(wrI v (doT v o)).1=bI v o∧b9 v o=0:=fun v o h=>by
  unfold wrI doT at h ⊢
  by_cases e:b9 v o≠0
  ·rw[if_pos e]at h;simp only at h;rw[if_pos e]at h;exact absurd h e
  ·rw[if_neg e]at h ⊢
   simp only at h ⊢
   exact⟨rfl,rfl,Classical.not_not.1 e⟩
 unfold RP.chg at he ⊢
 generalize hv:(⟨r.v.s,r.v.l,r.v.R,[]⟩:VS)=v at he ⊢
 simp only at he ⊢
 have e1:¬(c.k<0∨c.k>8):=by omega
 unfold cJ at he ⊢
 rw[if_neg e1]at he ⊢
 by_cases e2:(r.cl||decide (r.site=0))=true
 ·rw[if_pos e2]at he;simp at he
 rw[if_neg e2,if_neg (by omega:¬c.k=8),if_pos (by omega:c.k≤2)]at he ⊢
 simp only at he ⊢
 unfold wrR at he ⊢
 unfold opL
 rw[hv]
 by_cases k0:c.k=0
 ·rw[if_pos k0]at he ⊢
  rw[if_pos k0]
  have hi:bM v r.site c.at_ c.ch=doT v (opI v r.site c.at_ c.ch):=by
   unfold bM at he ⊢
   by_cases a1:r.site<1∨r.site>1000∨c.at_<0∨c.at_>aT (aj v.l)
   ·rw[if_pos a1]at he;simp[wrI]at he
   rw[if_neg a1]at he ⊢
   by_cases a2:c.ch<32∨c.ch>1114111∨55296≤c.ch∧c.ch≤57343
   ·rw[if_pos a2]at he;simp[wrI]at he
   rw[if_neg a2]at he ⊢
   by_cases a3:4096≤(aj v.l).length∨fG v.l v.R>1048576
   ·rw[if_pos a3]at he;simp[wrI]at he
   rw[if_neg a3]
  rw[hi]at he ⊢
  obtain⟨h1,h2,h3⟩:=ht v _ he
  rw[h2]
  exact⟨h1,key _ _ h3,rfl,h3⟩
 ·rw[if_neg k0,if_pos (by omega:c.k=1)]at he ⊢
  rw[if_neg k0]
  have hi:ct v c.at_=doT v (opX v c.at_):=by
   unfold ct at he ⊢
   by_cases a1:0≤c.at_∧c.at_<aT (aj v.l)
   ·rw[if_pos a1]
   ·rw[if_neg a1]at he;simp[wrI]at he
  rw[hi]at he ⊢
  obtain⟨h1,h2,h3⟩:=ht v _ he
  rw[h2]
  exact⟨h1,key _ _ h3,rfl,h3⟩
theorem okN.loc {n:NT}(h:okN n)(i:Int)(c:CALL):okN (gl n i c).1∧(gl n i c).1.sent.length≤n.sent.length+1∧(gl n i c).1.l.length=n.l.length:=by
 unfold gl
 split
 ·exact⟨h,by simp,rfl⟩
 ·next hh=>
  have hi:n.has i=true:=by simpa using hh
  split
  ·exact⟨h,by simp,rfl⟩
  ·next hk=>
   split
   ·exact⟨h,by simp,rfl⟩
   ·next he=>
    refine⟨h.set (okR.chg (h.at hi) _) _ _ fun o ho=>?_,by simp,by simp⟩
    rcases List.mem_append.1 ho with h1|h1
    ·exact h.s o h1
    ·rw[List.mem_singleton.1 h1]
     exact(rP (by omega) (Classical.not_not.1 he)).2.1
end Go.Proofs.E
namespace Go.Proofs.E
attribute [local irreducible] elems
theorem du {l:List RP}{i:Nat}{r:RP}(h:l[i]?=some r):(l.map rpE)[i]?=some (rpE r):=by rw[List.getElem?_map,h];rfl
theorem o7 (n:NT)(i:Int):Cv 111 [ntv n,iv i] (bv (n.has i)):=by
 have hln:((n.l.map rpE).length:Int)=(n.l.length:Nat):=by rw[List.length_map]
 unfold NT.has
 rw[←hln]
 refine ab Tryz.f111 Tryz.func111 rfl rfl fun w H B g0=>?_
 refine Spl.of (fun h1=>?_) (fun h1=>?_)
 ·(repeat (first|refine Spl.t rfl ?_|refine Spl.f rfl ?_))
  exact FinP.open rfl (congrArg bv (by rw[h1];rfl))
 ·(repeat (first|refine Spl.t rfl ?_|refine Spl.f rfl ?_))
  exact FinP.open rfl (congrArg bv (by rw[h1];rfl))
theorem xB (l:List RP)(hl:l.length≤1000000)(h0:0<l.length):Ct tab Tryz.prog 150 [.d (.sl 10 (l.map rpE))] [] (fun q σ'=>q=.arr 7 10 l.length∧σ'=[(7,.arr 10 (l.map rpE))]):=by
 refine ab Tryz.f150 Tryz.func150 rfl rfl fun w H B g0=>?_
 refine tg rfl rfl rfl rfl fun b hb=>?_
 cases b with
 |true=>
  have h1:=congrArg List.length (hb rfl)
  rw[List.length_map]at h1;rw[h1]at h0;exact absurd h0 (by decide)
 |false=>
  (repeat (first|refine Spl.t rfl ?_|refine Spl.f rfl ?_))
  refine O.appF rfl rfl (.full _ _) rfl rfl rfl rfl (by show 0+_≤_;rw[List.length_map];omega) (.inr rfl) ?_
  (repeat (first|refine Spl.t rfl ?_|refine Spl.f rfl ?_))
  refine br [(7,.arr 10 (l.map rpE))] (Wk.cons rfl (Wk.nil _)) rfl ⟨?_,rfl⟩
  show AV.arr 7 10 (0+_)=_
  rw[List.length_map,Nat.zero_add]
theorem th (n:NT){i:Int}(h:n.has i=true)(hl:n.l.length≤8)(r:RP):Cv 113 [ntv n,iv i,rpV r] (ntv (n.set i r)):=by
 obtain⟨i0,i1⟩:=cq.1 h
 obtain⟨s,rfl⟩:∃s:Nat,i=(s:Int):=⟨i.toNat,by omega⟩
 have hy:=cC h
 rw[Int.toNat_natCast]at hy
 generalize n.at (s:Int)=y at hy
 refine aU Tryz.f113 Tryz.func113 rfl rfl fun w H B g0=>?_
 (try refine WJ.cut ?_)
 (first|refine Sq.go ?_|refine ah (Sq.go ?_)|skip)
 (try refine WJ.cut ?_)
 refine OpJ.call (xB n.l (by omega) (by omega)) (fun _ _=>rfl) rfl rfl (Wk.nil _) ?_
 rintro q σ' ⟨rfl,rfl⟩
 refine⟨rfl,?_⟩
 (repeat (first|refine Spl.t rfl ?_|refine Spl.f rfl ?_))
 (first|refine Sq.go ?_|refine ah (Sq.go ?_)|skip)
 (try refine WJ.cut ?_)
 refine Req.of ⟨by omega,by omega⟩ ?_
 refine StoreP.of s 0 (rpE y) (by show(s:Int).toNat*10=_;omega) (du hy) (Nat.le_of_ble_eq_true rfl) rfl ?_
 (first|refine Sq.go ?_|refine ah (Sq.go ?_)|skip)
 refine WJ.shift (m7 7 3 0 (k:=10) (n:=n.l.length) (xs:=(n.l.map rpE).set s (bF (rpE y) 0 (rpE r))) rfl rfl rfl (by simp) (by omega)) ?_
 have e:((n.l.map rpE).set s (bF (rpE y) 0 (rpE r))).take n.l.length=(n.l.set s r).map rpE:=by
  rw[List.take_of_length_le (by simp),List.map_set];rfl
 rw[e]
 (try refine ay _ _ _ _ ?_)
 (repeat (first|refine Spl.t rfl ?_|refine Spl.f rfl ?_))
 exact FinP.open rfl rfl
theorem vD (l:List OP)(o:OP):List.drop (Int.toNat 0) (List.take ((l.map opD).length:Int).toNat (l.map opD))++[opD o]=(l++[o]).map opD:=by
 rw[Int.toNat_natCast,List.take_length,List.map_append];rfl
theorem wY {r:RP}(h:okR r)(c:CALL):Cv 80 [rpV r,jG c] (.tup [rpV (r.chg c).1,rsv (r.chg c).2]):=wZ h r.site r.cl c
set_option maxHeartbeats 4000000 in
theorem ng {n:NT}(h:okN n)(hs:n.sent.length≤1000)(i:Int)(c:CALL):Cv 44 [ntv n,iv i,jG c] (.tup [ntv (gl n i c).1,iv (gl n i c).2]):=by
 have hh:=o7 n i
 unfold gl
 cases hi:n.has i with
 |false=>
  rw[hi]at hh
  rw[if_pos rfl]
  refine ab Tryz.f44 Tryz.func44 rfl rfl fun w H B g0=>?_
  refine aa hh (fun _ _=>rfl) rfl rfl rfl ?_
  (repeat (first|refine Spl.t rfl ?_|refine Spl.f rfl ?_))
  exact FinP.open rfl rfl
 |true=>
  rw[hi]at hh
  rw[if_neg (by simp)]
  obtain⟨i0,i1⟩:=cq.1 hi
  by_cases hk:c.k≠0∧c.k≠1
  ·rw[if_pos hk]
   refine ab Tryz.f44 Tryz.func44 rfl rfl fun w H B g0=>?_
   refine aa hh (fun _ _=>rfl) rfl rfl rfl ?_
   (repeat (first|refine Spl.t rfl ?_|refine Spl.f rfl ?_))
   refine Spl.t (by simp[hk.1]) ?_
   (repeat (first|refine Spl.t rfl ?_|refine Spl.f rfl ?_))
   refine Spl.t (by simp[hk.2]) ?_
   (repeat (first|refine Spl.t rfl ?_|refine Spl.f rfl ?_))
   exact FinP.open rfl rfl
  rw[if_neg hk]
  have hm:=cC hi
  have hdo:=wY (h.at hi) c
  have hop:=rP (r:=n.at i) (c:=c) (by omega)
  have hw:=fun r=>th n hi h.ln r
  generalize n.at i=r at hm hdo hop ⊢
  generalize hq:r.chg c=q at hdo hop ⊢
  obtain⟨q,x⟩:=q
  obtain⟨xe,xn,xt⟩:=x
  simp only at hop hdo ⊢
  by_cases he:xe≠0
  ·rw[if_pos he]
   refine ab Tryz.f44 Tryz.func44 rfl rfl fun w H B g0=>?_
   refine aa hh (fun _ _=>rfl) rfl rfl rfl ?_
   (repeat (first|refine Spl.t rfl ?_|refine Spl.f rfl ?_))
   by_cases k0:c.k=0
   ·refine Spl.f (by simp[k0]) ?_
    (repeat (first|refine Spl.t rfl ?_|refine Spl.f rfl ?_))
    refine aB 0 14 [] rfl (by decide+kernel) ?_
    refine IdxP.of (rpE r) i0 (du hm) ?_
    refine QuietP.of (QJ.call hdo (fun _ _=>rfl) rfl rfl) ?_
    (repeat (first|refine Spl.t rfl ?_|refine Spl.f rfl ?_))
    refine Spl.t (by simp[he]) ?_
    (repeat (first|refine Spl.t rfl ?_|refine Spl.f rfl ?_))
    refine aB 0 5 [6] rfl (by decide+kernel) ?_
    (repeat (first|refine Spl.t rfl ?_|refine Spl.f rfl ?_))
    exact FinP.open rfl rfl
   ·refine Spl.t (by simp[k0]) ?_
    (repeat (first|refine Spl.t rfl ?_|refine Spl.f rfl ?_))
    refine Spl.f (by simp;omega) ?_
    (repeat (first|refine Spl.t rfl ?_|refine Spl.f rfl ?_))
    refine aB 0 14 [] rfl (by decide+kernel) ?_
    refine IdxP.of (rpE r) i0 (du hm) ?_
    refine QuietP.of (QJ.call hdo (fun _ _=>rfl) rfl rfl) ?_
    (repeat (first|refine Spl.t rfl ?_|refine Spl.f rfl ?_))
    refine Spl.t (by simp[he]) ?_
    (repeat (first|refine Spl.t rfl ?_|refine Spl.f rfl ?_))
    refine aB 0 5 [6] rfl (by decide+kernel) ?_
    (repeat (first|refine Spl.t rfl ?_|refine Spl.f rfl ?_))
    exact FinP.open rfl rfl
  rw[if_neg he]
  have he:=Classical.not_not.1 he
  obtain⟨ht,hc,_,_⟩:=hop he
  generalize opL r c=o at ht hc ⊢
  subst ht
  have hpa:=w4 o hc
  have hw:=hw q
  have hsq:(n.set i q).sent.length=n.sent.length:=rfl
  by_cases k0:c.k=0
  ·refine ab Tryz.f44 Tryz.func44 rfl rfl fun w H B g0=>?_
   refine aa hh (fun _ _=>rfl) rfl rfl rfl ?_
   (repeat (first|refine Spl.t rfl ?_|refine Spl.f rfl ?_))
   refine Spl.f (by simp[k0]) ?_
   (repeat (first|refine Spl.t rfl ?_|refine Spl.f rfl ?_))
   refine aB 0 14 [] rfl (by decide+kernel) ?_
   refine IdxP.of (rpE r) i0 (du hm) ?_
   refine QuietP.of (QJ.call hdo (fun _ _=>rfl) rfl rfl) ?_
   (repeat (first|refine Spl.t rfl ?_|refine Spl.f rfl ?_))
   refine Spl.f (by simp[he]) ?_
   (repeat (first|refine Spl.t rfl ?_|refine Spl.f rfl ?_))
   refine aa hpa (fun _ _=>rfl) rfl rfl rfl ?_
   (repeat (first|refine Spl.t rfl ?_|refine Spl.f rfl ?_))
   refine aa hw (fun _ _=>rfl) rfl rfl rfl ?_
   (repeat (first|refine Spl.t rfl ?_|refine Spl.f rfl ?_))
   refine aB 0 9 [] rfl (by decide+kernel) ?_
   refine Req.of ⟨Int.le_refl _,by omega,Int.le_refl _,rfl⟩ ?_
   refine QuietP.of (jK rfl (.full _ _) (FlatQ.data rfl rfl) rfl (by show _+1≤_;rw[List.length_drop,List.length_take,List.length_map];omega)) ?_
   (repeat (first|refine Spl.t rfl ?_|refine Spl.f rfl ?_))
   refine FinP.open rfl ?_
   exact congrArg (fun z=>AV.tup [.agg [.d (.sl 10 ((n.l.set i.toNat q).map rpE)),.d (.sl 6 z)],iv 0]) (vD n.sent o)
  ·refine ab Tryz.f44 Tryz.func44 rfl rfl fun w H B g0=>?_
   refine aa hh (fun _ _=>rfl) rfl rfl rfl ?_
   (repeat (first|refine Spl.t rfl ?_|refine Spl.f rfl ?_))
   refine Spl.t (by simp[k0]) ?_
   (repeat (first|refine Spl.t rfl ?_|refine Spl.f rfl ?_))
   refine Spl.f (by simp;omega) ?_
   (repeat (first|refine Spl.t rfl ?_|refine Spl.f rfl ?_))
   refine aB 0 14 [] rfl (by decide+kernel) ?_
   refine IdxP.of (rpE r) i0 (du hm) ?_
   refine QuietP.of (QJ.call hdo (fun _ _=>rfl) rfl rfl) ?_
   (repeat (first|refine Spl.t rfl ?_|refine Spl.f rfl ?_))
   refine Spl.f (by simp[he]) ?_
   (repeat (first|refine Spl.t rfl ?_|refine Spl.f rfl ?_))
   refine aa hpa (fun _ _=>rfl) rfl rfl rfl ?_
   (repeat (first|refine Spl.t rfl ?_|refine Spl.f rfl ?_))
   refine aa hw (fun _ _=>rfl) rfl rfl rfl ?_
   (repeat (first|refine Spl.t rfl ?_|refine Spl.f rfl ?_))
   refine aB 0 9 [] rfl (by decide+kernel) ?_
   refine Req.of ⟨Int.le_refl _,by omega,Int.le_refl _,rfl⟩ ?_
   refine QuietP.of (jK rfl (.full _ _) (FlatQ.data rfl rfl) rfl (by show _+1≤_;rw[List.length_drop,List.length_take,List.length_map];omega)) ?_
   (repeat (first|refine Spl.t rfl ?_|refine Spl.f rfl ?_))
   refine FinP.open rfl ?_
   exact congrArg (fun z=>AV.tup [.agg [.d (.sl 10 ((n.l.set i.toNat q).map rpE)),.d (.sl 6 z)],iv 0]) (vD n.sent o)
end Go.Proofs.E
namespace Go.Proofs.E
attribute [local irreducible] elems
theorem yp {l:List OP}{k:Nat}(h:k<l.length):(l.map opD)[k]?=some (opD (l.getD k OP0)):=by
 rw[List.getElem?_map,List.getD_eq_getElem?_getD,List.getElem?_eq_getElem h];rfl
set_option maxHeartbeats 4000000 in
theorem nh {n:NT}(h:okN n)(i k:Int):Cv 45 [ntv n,iv i,iv k] (.tup [ntv (ij n i k).1,iv (ij n i k).2]):=by
 have hh:=o7 n i
 have hsl:((n.sent.map opD).length:Int)=(n.sent.length:Nat):=by rw[List.length_map]
 unfold ij
 cases hi:n.has i with
 |false=>
  rw[hi]at hh
  rw[if_pos rfl]
  refine ab Tryz.f45 Tryz.func45 rfl rfl fun w H B g0=>?_
  refine aa hh (fun _ _=>rfl) rfl rfl rfl ?_
  (repeat (first|refine Spl.t rfl ?_|refine Spl.f rfl ?_))
  exact FinP.open rfl rfl
 |true=>
  rw[hi]at hh
  rw[if_neg (by simp)]
  obtain⟨i0,i1⟩:=cq.1 hi
  by_cases hk:k<0∨(n.sent.length:Nat)≤k
  ·rw[if_pos hk]
   refine ab Tryz.f45 Tryz.func45 rfl rfl fun w H B g0=>?_
   refine aa hh (fun _ _=>rfl) rfl rfl rfl ?_
   (repeat (first|refine Spl.t rfl ?_|refine Spl.f rfl ?_))
   by_cases k0:k<0
   ·refine Spl.t (decide_eq_true k0) ?_
    (repeat (first|refine Spl.t rfl ?_|refine Spl.f rfl ?_))
    exact FinP.open rfl rfl
   ·refine Spl.f (decide_eq_false k0) ?_
    (repeat (first|refine Spl.t rfl ?_|refine Spl.f rfl ?_))
    refine Spl.t (decide_eq_true (by omega)) ?_
    (repeat (first|refine Spl.t rfl ?_|refine Spl.f rfl ?_))
    exact FinP.open rfl rfl
  rw[if_neg hk]
  have hm:=cC hi
  have hdo:=wY (h.at hi) (apC (n.sent.getD k.toNat OP0))
  have hw:=fun r=>th n hi h.ln r
  have hgo:=yp (l:=n.sent) (k:=k.toNat) (by omega)
  generalize n.sent.getD k.toNat OP0=o at hdo hgo ⊢
  generalize n.at i=r at hm hdo ⊢
  generalize hq:r.chg (apC o)=q at hdo ⊢
  obtain⟨q,x⟩:=q
  obtain⟨xe,xn,xt⟩:=x
  simp only at hdo ⊢
  have hw:=hw q
  refine ab Tryz.f45 Tryz.func45 rfl rfl fun w H B g0=>?_
  refine aa hh (fun _ _=>rfl) rfl rfl rfl ?_
  (repeat (first|refine Spl.t rfl ?_|refine Spl.f rfl ?_))
  refine Spl.f (decide_eq_false (by omega)) ?_
  (repeat (first|refine Spl.t rfl ?_|refine Spl.f rfl ?_))
  refine Spl.f (decide_eq_false (by omega)) ?_
  (repeat (first|refine Spl.t rfl ?_|refine Spl.f rfl ?_))
  refine aB 0 19 [] rfl (by decide+kernel) ?_
  refine IdxP.of (rpE r) i0 (du hm) ?_
  refine IdxP.of (opD o) (by omega) hgo ?_
  refine QuietP.of (QJ.call hdo (fun _ _=>rfl) rfl rfl) ?_
  (repeat (first|refine Spl.t rfl ?_|refine Spl.f rfl ?_))
  by_cases he:xe≠0
  ·rw[if_pos he]
   refine Spl.t (by simp[he]) ?_
   (repeat (first|refine Spl.t rfl ?_|refine Spl.f rfl ?_))
   refine aB 0 5 [6] rfl (by decide+kernel) ?_
   (repeat (first|refine Spl.t rfl ?_|refine Spl.f rfl ?_))
   exact FinP.open rfl rfl
  ·rw[if_neg he]
   refine Spl.f (by simp;omega) ?_
   (repeat (first|refine Spl.t rfl ?_|refine Spl.f rfl ?_))
   refine aa hw (fun _ _=>rfl) rfl rfl rfl ?_
   (repeat (first|refine Spl.t rfl ?_|refine Spl.f rfl ?_))
   exact FinP.open rfl rfl
theorem ie {n:NT}(h:okN n)(hs:n.sent.length≤1000):Cv 46 [ntv n] (ntv (cS n n.l.length)):=by
 refine ab Tryz.f46 Tryz.func46 rfl rfl fun w H B g0=>?_
 refine ba (V:=Nat) (fun i=>[(8,iv i)]) (fun i=>[(1,.cells (ntC (cS n i)))]) [1] (fun i=>n.l.length-i) (fun i=>i≤n.l.length) 0 (Nat.zero_le _) (by repeat' (first|exact trivial|exact rfl|refine And.intro ?_ ?_)) (by repeat' (first|exact trivial|exact rfl|refine And.intro ?_ ?_)) ?_
 intro i hi
 have hln:=h.ln
 refine Spl.of (fun h1=>?_) (fun h1=>?_)
 ·have hlt:i<n.l.length:=by have:=of_decide_eq_true h1;simp at this;omega
  have hse:=fp n i
  have hok:=h.setl i
  have e1:cS n (i+1)=dR (cS n i) i n.sent.length:=rfl
  generalize cS n i=m at hse hok e1
  (repeat (first|refine Spl.t rfl ?_|refine Spl.f rfl ?_))
  refine ba (V:=Nat) (fun k=>[(14,iv k)]) (fun k=>[(1,.cells (ntC (dR m i k)))]) [1] (fun k=>n.sent.length-k) (fun k=>k≤n.sent.length) 0 (Nat.zero_le _) (by repeat' (first|exact trivial|exact rfl|refine And.intro ?_ ?_)) (by repeat' (first|exact trivial|exact rfl|refine And.intro ?_ ?_)) ?_
  intro k hk
  have hml:((m.sent.map opD).length:Int)=(n.sent.length:Nat):=by rw[List.length_map,hse.1]
  refine Spl.of (fun h2=>?_) (fun h2=>?_)
  ·have h2:=of_decide_eq_true h2
   (repeat (first|refine Spl.t rfl ?_|refine Spl.f rfl ?_))
   refine aa (nh (hok.tell i k) i k) (fun _ _=>rfl) rfl rfl rfl ?_
   (repeat (first|refine Spl.t rfl ?_|refine Spl.f rfl ?_))
   exact⟨k+1,by omega,by omega,⟨aE (am _ (by omega) (by omega)),trivial⟩,(by repeat' (first|exact trivial|exact rfl|refine And.intro ?_ ?_)),(by repeat' (first|exact trivial|exact rfl|refine And.intro ?_ ?_)),(by repeat' (first|exact trivial|exact rfl|refine And.intro ?_ ?_))⟩
  ·have h2:=of_decide_eq_false h2
   obtain rfl:k=n.sent.length:=by omega
   (repeat (first|refine Spl.t rfl ?_|refine Spl.f rfl ?_))
   exact⟨i+1,by omega,by omega,⟨aE (am _ (by omega) (by omega)),trivial⟩,(by repeat' (first|exact trivial|exact rfl|refine And.intro ?_ ?_)),⟨congrArg (fun z=>some (Ent.cells (ntC z))) e1.symm,trivial⟩,(by repeat' (first|exact trivial|exact rfl|refine And.intro ?_ ?_))⟩
 ·have h1:=of_decide_eq_false h1
  simp at h1
  obtain rfl:i=n.l.length:=by omega
  (repeat (first|refine Spl.t rfl ?_|refine Spl.f rfl ?_))
  exact FinP.open rfl rfl
def dP (k:Nat):NT:=⟨(List.range k).map fun(i:Nat)=>⟨(i:Int)+1,vA0,false⟩,[]⟩
theorem sB {k:Nat}(h:k≤8):okN (dP k):=⟨by simp[dP];exact h,fun r hr=>by
 obtain⟨i,_,rfl⟩:=List.mem_map.1 hr;exact rm,fun o ho=>by simp[dP]at ho⟩
theorem tZ (k:Nat):(dP (k+1)).l=(dP k).l++[⟨(k:Int)+1,vA0,false⟩]:=by
 simp[dP,List.range_succ]
theorem xv (k:Nat)(h0:1≤k)(h1:k≤8):Cv 43 [iv k] (.tup [ntv (dP k),iv 0]):=by
 refine aU Tryz.f43 Tryz.func43 rfl rfl fun w H B g0=>?_
 (try refine WJ.cut ?_)
 (first|refine Sq.go ?_|refine ah (Sq.go ?_)|skip)
 (try refine WJ.cut ?_)
 refine Spl.f (decide_eq_false (by omega)) ?_
 (repeat (first|refine Spl.t rfl ?_|refine Spl.f rfl ?_))
 refine Spl.f (decide_eq_false (by omega)) ?_
 (repeat (first|refine Spl.t rfl ?_|refine Spl.f rfl ?_))
 (first|refine Sq.go ?_|refine ah (Sq.go ?_)|skip)
 (try refine WJ.cut ?_)
 (first|refine Sq.go ?_|refine ah (Sq.go ?_)|skip)
 (try refine WJ.cut ?_)
 (first|refine Sq.go ?_|refine ah (Sq.go ?_)|skip)
 (try refine WJ.cut ?_)
 refine WJ.shift (m8 945 4 0 10 rfl rfl rfl) ?_
 refine ba (V:=Nat) (fun i=>[(16,iv i)]) (fun i=>[(4,.cells [.arr 945 10 i,nlS]),(945,.arr 10 ((dP i).l.map rpE))]) [4,945] (fun i=>k-i) (fun i=>i≤k) 0 (Nat.zero_le _) (by repeat' (first|exact trivial|exact rfl|refine And.intro ?_ ?_)) (by repeat' (first|exact trivial|exact rfl|refine And.intro ?_ ?_)) ?_
 intro i hi
 refine Spl.of (fun g1=>?_) (fun g1=>?_)
 ·have hlt:i<k:=by have:=of_decide_eq_true g1;omega
  have hw:IntKind.i64.wrap ((i:Int)+1)=i+1:=am _ (by omega) (by omega)
  have hn:=zk (IntKind.i64.wrap ((i:Int)+1))
  rw[hw,if_neg (by omega),if_neg (by omega)]at hn
  rw[←hw]at hn
  (repeat (first|refine Spl.t rfl ?_|refine Spl.f rfl ?_))
  refine aa hn (fun _ _=>rfl) rfl rfl rfl ?_
  (repeat (first|refine Spl.t rfl ?_|refine Spl.f rfl ?_))
  refine Req.of ⟨by simp[dP],by show i+1≤1000000000;omega⟩ ?_
  refine⟨i+1,by omega,by omega,⟨aE hw,trivial⟩,(by repeat' (first|exact trivial|exact rfl|refine And.intro ?_ ?_)),⟨rfl,?_,trivial⟩,(by repeat' (first|exact trivial|exact rfl|refine And.intro ?_ ?_))⟩
  refine congrArg (fun x=>some (Ent.arr 10 x)) ?_
  rw[tZ,List.map_append,hw];rfl
 ·have g1:=of_decide_eq_false g1
  obtain rfl:i=k:=by omega
  (repeat (first|refine Spl.t rfl ?_|refine Spl.f rfl ?_))
  (first|refine Sq.go ?_|refine ah (Sq.go ?_)|skip)
  refine WJ.shift (m7 945 4 0 (k:=10) (n:=i) (xs:=(dP i).l.map rpE) rfl rfl rfl (by simp[dP]) (by omega)) ?_
  have e:((dP i).l.map rpE).take i=(dP i).l.map rpE:=List.take_of_length_le (by simp[dP])
  rw[e]
  refine WJ.shift (qt 4 1 rfl rfl fun _ _ _ h=>bi 6 h) ?_
  (try refine ay _ _ _ _ ?_)
  (repeat (first|refine Spl.t rfl ?_|refine Spl.f rfl ?_))
  exact FinP.open rfl rfl
end Go.Proofs.E
end
