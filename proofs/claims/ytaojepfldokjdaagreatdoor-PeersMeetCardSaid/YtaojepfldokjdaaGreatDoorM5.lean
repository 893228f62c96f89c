/- Laws that the claim's text stands on: part M5 of them. -/
import Derived.Test.YtaojepfldokjdaaGreatDoorM1
import Derived.Test.YtaojepfldokjdaaGreatDoorM2
import Derived.Test.YtaojepfldokjdaaGreatDoorM3
import Derived.Test.YtaojepfldokjdaaGreatDoorM4
import Derived.Test.YtaojepfldokjdaaGreatDoorDShelf
import Derived.KernelRfl
import Derived.Test.YtaojepfldokjdaaGreatDoorChecked
import Derived.WalkKit
import Derived.Laws.Bits64b
import Derived.Lib.Index
import Derived.Lib.IndexMore
import Derived.Lib.Split
import Derived.Lib.Strings
set_option linter.unusedVariables false
set_option linter.unusedSimpArgs false
section
open Go Go.Gv
attribute [local irreducible] Go.Gv.WJ Go.Gv.OpJ Go.Gv.QJ Go.Gv.Spl Go.Gv.Req Go.Gv.IdxP Go.Gv.RegP Go.Gv.FinP Go.Gv.CellP Go.Gv.CellsP Go.Gv.ArrP Go.Gv.ArrsP Go.Gv.DropP Go.Gv.ByteP Go.Gv.StoreP
set_option maxRecDepth 100000
namespace Go.Proofs.E
abbrev iv (n:Int):AV:=.d (.v (.int .i64 n))
abbrev bv (b:Bool):AV:=.d (.v (.bool b))
abbrev sv (l:List UInt8):AV:=.d (.v (.string ⟨⟨l⟩⟩))
structure ID where
 c:Int
 s:Int
 deriving DecidableEq
abbrev idv (a:ID):AV:=.agg [iv a.c,iv a.s]
def sg:List Int:=[0,1,56,2,57,49,28,3,61,58,42,50,38,29,17,4,62,47,59,36,45,43,51,22,53,39,33,30,24,18,12,5,63,55,48,27,60,41,37,16,46,35,44,21,52,32,23,11,54,26,40,15,34,20,31,10,25,14,19,9,13,8,7,6]
theorem Ad:Tryz.prog.globalNamed "internal/strconv.uint64pow10"=some 3:=by kernel_rfl
theorem gTz:Tryz.prog.globalNamed "math/bits.deBruijn64tab"=some 5:=by kernel_rfl
def tw:List (String×IntKind×List Int):=[("internal/strconv.uint64pow10",.u64,Lib.pow10Tab),("math/bits.deBruijn64tab",.u8,sg)]
def AX:Amb:=zz Tryz.prog (Nat.max 3 5+1) tw (fun n hn i hi=>by
 simp only[tw,List.mem_cons,List.not_mem_nil,or_false]at hn
 rcases hn with rfl|rfl
 ·have:=Ad.symm.trans hi
  cases this;decide
 ·have:=gTz.symm.trans hi
  cases this;decide)
def tab:Amb:=⟨fun w=>AX.p w∧∃m,w.cell? ⟨0,0,none⟩=some (.int .i64 m),Nat.max (Nat.max 3 5+1) (0+1),fun{w w'} h hk=>⟨AX.st h.1 (fun k hk'=>hk k (Nat.lt_of_lt_of_le hk' (Nat.le_max_left _ _))),by
 obtain⟨m,hm⟩:=h.2
 refine⟨m,?_⟩
 have:=hk 0 (Nat.lt_of_lt_of_le (Nat.lt_succ_self _) (Nat.le_max_right _ _))
 simp only[World.cell?]at hm ⊢
 rw[this];exact hm⟩⟩
theorem sf {w:World}(h:tab.p w):Lib.TabIs Tryz.prog w "internal/strconv.uint64pow10" .u64 Lib.pow10Tab:=h.1 _ (.head _)
theorem zx {w:World}(h:tab.p w):Lib.TabIs Tryz.prog w "math/bits.deBruijn64tab" .u8 sg:=h.1 _ (.tail _ (.head _))
theorem pk {P:Program}{w:World}{n:String}{k:IntKind}{zs:List Int}{g:Nat}(hg:P.globalNamed n=some g)(h:Lib.TabIs P w n k zs):g<w.heap.size:=by
 obtain⟨i,hi,hm⟩:=Option.bind_eq_some_iff.1 (show World.var? P w n=some _ from h)
 obtain rfl:=Option.some.inj (hg.symm.trans hi)
 split at hm
 ·next h1=>exact(Array.getElem?_eq_some_iff.1 h1).1
 ·cases hm
theorem zy {w:World}(h1:Lib.TabIs Tryz.prog w "internal/strconv.uint64pow10" .u64 Lib.pow10Tab)(h2:Lib.TabIs Tryz.prog w "math/bits.deBruijn64tab" .u8 sg)(h3:∃m,w.cell? ⟨0,0,none⟩=some (.int .i64 m)):tab.p w∧tab.g≤w.heap.size:=by
 have a1:=pk Ad h1
 have a2:=pk gTz h2
 have a3:=bG h3.choose_spec
 refine⟨⟨fun n hn=>?_,h3⟩,?_⟩
 ·simp only[tw,List.mem_cons,List.not_mem_nil,or_false]at hn
  rcases hn with rfl|rfl
  ·exact h1
  ·exact h2
 ·exact Nat.max_le.2 ⟨Nat.succ_le_of_lt (Nat.max_lt.2 ⟨a1,a2⟩),a3⟩
abbrev Cv (f:FuncId)(avs:List AV)(r:AV):Prop:=Ct tab Tryz.prog f avs [] (fun q _=>q=r)
theorem aE {a b:Int}(h:a=b):some (iv a)=some (iv b):=by rw[h]
theorem kX {a b:Bool}(h:a=b):some (bv a)=some (bv b):=by rw[h]
theorem am (x:Int)(h:-9223372036854775808≤x)(h':x≤9223372036854775807):IntKind.i64.wrap x=x:=by
 simp only[IntKind.wrap,IntKind.signed,IntKind.bits];simp;omega
def bg (a:ID):Bool:=decide (1≤a.c∧a.c≤1048576∧1≤a.s∧a.s≤1000)
def aX (a b:ID):Bool:=decide (a.c<b.c∨a.c=b.c∧a.s<b.s)
def bu (a:ID):Bool:=decide (a.c=0∧a.s=0)
def bm (a:ID):Int:=if bg a=true then 0 else 2
theorem dx (a:ID):Cv 224 [idv a] (iv (bm a)):=by
 refine ab Tryz.f224 Tryz.func224 rfl rfl fun w H B g0=>?_
 (repeat' (first|refine Spl.t rfl ?_|refine Spl.f rfl ?_|refine Spl.of (fun h=>?_) (fun h=>?_)))
 all_goals refine FinP.open rfl (congrArg iv ?_)
 all_goals unfold bm bg
 all_goals simp_all
 all_goals omega
theorem o8 (a b:ID):Cv 272 [idv a,idv b] (bv (aX a b)):=by
 refine ab Tryz.f272 Tryz.func272 rfl rfl fun w H B g0=>?_
 (repeat' (first|refine Spl.t rfl ?_|refine Spl.f rfl ?_|refine Spl.of (fun h=>?_) (fun h=>?_)))
 all_goals refine FinP.open rfl (congrArg bv ?_)
 all_goals unfold aX
 all_goals simp_all
 all_goals omega
theorem nf (a:ID):Cv 202 [idv a] (bv (bu a)):=by
 refine ab Tryz.f202 Tryz.func202 rfl rfl fun w H B g0=>?_
 refine bq (Bv (r:=bu a) rfl rfl rfl rfl rfl (by show Tryz.prog.stoodInHeld 54=false;kernel_rfl) (by show Tryz.prog.eqGuardType Tryz.prog.depth 54=false;kernel_rfl) rfl (by simp[nX,veq,bu];rfl)) rfl ?_
 exact FinP.open rfl rfl
theorem kU (n:Int)(h0:-9223372036854775808≤n)(h1:n≤9223372036854775807):Cv 251 [iv n,iv 10] (sv (Lib.itoa n)):=
 bS [.int .i64 n,.int .i64 10] rfl fun w hw=>(Tryz.strconv_FormatInt_10 n h0 h1 w (sf hw)).mono fun _ _ ⟨he,_,_,hg⟩=>⟨he,by rw[hg];exact gD (Lib.below_grow _ _ (Nat.le_refl _) _ _)⟩
theorem xx (n:Int)(h0:-9223372036854775808≤n)(h1:n≤9223372036854775807):Cv 252 [iv n] (sv (Lib.itoa n)):=
 bS [.int .i64 n] rfl fun w hw=>(Tryz.strconv_Itoa n h0 h1 w (sf hw)).mono fun _ _ ⟨he,_,_,hg⟩=>⟨he,by rw[hg];exact gD (Lib.below_grow _ _ (Nat.le_refl _) _ _)⟩
def aQ (a:ID):List UInt8:=if bu a=true then[45]else if bg a=true then Lib.itoa a.c++[46]++Lib.itoa a.s else[63]
theorem fg (n k:Nat)(h:n<10^k)(hk:0<k):(Lib.decDigits n).length≤k:=by
 induction k generalizing n with
 |zero=>omega
 |succ k ih=>
  rw[Lib.decDigits]
  split
  ·simp
  ·by_cases h0:k=0
   ·subst h0;simp at h;omega
   ·have:=ih (n/10) (by rw[Nat.pow_succ]at h;omega) (by omega)
    simp;omega
theorem fA (n:Int)(h0:0≤n)(h1:n≤1048576):(Lib.itoa n).length≤10:=by
 unfold Lib.itoa
 rw[if_neg (by omega)]
 exact fg _ 10 (by omega) (by omega)
theorem bf {a:ID}(h:bg a=true):1≤a.c∧a.c≤1048576∧1≤a.s∧a.s≤1000:=of_decide_eq_true h
theorem d7 (a:ID):(aQ a).length≤21:=by
 unfold aQ
 split
 ·simp
 ·split
  ·next h=>
   obtain⟨h1,h2,h3,h4⟩:=bf h
   have:=fA a.c (by omega) (by omega)
   have:=fA a.s (by omega) (by omega)
   simp;omega
  ·simp
theorem fL (a:ID):Cv 212 [idv a] (sv (aQ a)):=by
 refine ab Tryz.f212 Tryz.func212 rfl rfl fun w H B g0=>?_
 refine aa (nf a) (fun _ _=>rfl) rfl rfl rfl ?_
 refine Spl.of (fun h1=>?_) (fun h1=>?_)
 ·exact FinP.open rfl (by rw[aQ,if_pos h1];rfl)
 refine aa (dx a) (fun _ _=>rfl) rfl rfl rfl ?_
 refine Spl.of (fun h2=>?_) (fun h2=>?_)
 ·refine FinP.open rfl ?_
  have:¬bg a=true:=fun e=>by simp[bm,e]at h2
  rw[aQ,if_neg (by rw[h1];decide),if_neg this];rfl
 have hm:bg a=true:=by
  cases e:bg a with
  |true=>rfl
  |false=>simp[bm,e]at h2
 obtain⟨a1,a2,a3,a4⟩:=bf hm
 have l1:=fA a.c (by omega) (by omega)
 have l2:=fA a.s (by omega) (by omega)
 refine RegP.of rfl (by decide+kernel) ?_
 refine QuietP.of (QJ.call (kU a.c (by omega) (by omega)) (fun _ _=>rfl) rfl rfl) ?_
 refine Req.of (by simp;omega) ?_
 refine QuietP.of (QJ.call (xx a.s (by omega) (by omega)) (fun _ _=>rfl) rfl rfl) ?_
 refine Req.of (by simp;omega) ?_
 exact FinP.open rfl (by rw[aQ,if_neg (by rw[h1];decide),if_pos hm];rfl)
end Go.Proofs.E
namespace Go.Proofs.E
theorem xN (x:Int)(h:0≤x)(h':x<256):IntKind.u8.wrap x=x:=by
 simp only[IntKind.wrap,IntKind.signed,IntKind.bits];simp;omega
theorem lu:Cv 248 [] (bv true):=by
 refine ab Tryz.f248 Tryz.func248 rfl rfl fun w H B g0=>?_
 refine aa (o8 ⟨3,2⟩ ⟨4,1⟩) (fun _ _=>rfl) rfl rfl rfl ?_
 (repeat (first|refine Spl.t rfl ?_|refine Spl.f rfl ?_))
 refine aa (o8 ⟨3,2⟩ ⟨3,1⟩) (fun _ _=>rfl) rfl rfl rfl ?_
 (repeat (first|refine Spl.t rfl ?_|refine Spl.f rfl ?_))
 refine aa (fL ⟨3,2⟩) (fun _ _=>rfl) rfl rfl rfl ?_
 (repeat (first|refine Spl.t rfl ?_|refine Spl.f rfl ?_))
 refine FinP.open rfl (congrArg bv ?_)
 decide+kernel
end Go.Proofs.E
namespace Go.Proofs.E
abbrev cv (n:Int):AV:=.d (.v (.int .i32 n))
structure OP where
 k:Int
 i:ID
 a:ID
 ch:Int
 deriving DecidableEq
abbrev opv (o:OP):AV:=.agg [iv o.k,iv o.i.c,iv o.i.s,iv o.a.c,iv o.a.s,cv o.ch]
abbrev Di (n:Int):List D:=[.v (.int .i64 n)]
def dm:List Int→Int
 |[]=>0
 |e::r=>if e=0 then dm r else e
theorem eX (es:List Int)(hl:es.length≤1000000000000000000):Cv 186 [.full 1 (es.map Di)] (iv (dm es)):=by
 refine ab Tryz.f186 Tryz.func186 rfl rfl fun w H B g0=>?_
 refine dK (V:=Nat) (fun v=>[(7,iv v)]) (fun _=>[]) (fun v=>es.length-v) (fun v=>v≤es.length∧dm es=dm (es.drop v)) 0 ⟨by omega,rfl⟩ (by repeat' (first|exact trivial|exact rfl|refine And.intro ?_ ?_)) (by repeat' (first|exact trivial|exact rfl|refine And.intro ?_ ?_)) ?_
 rintro i ⟨hi,hI⟩
 refine Spl.of (fun h=>?_) (fun h=>?_)
 ·have hlt:i<es.length:=by have:=of_decide_eq_true h;simp at this;omega
  (repeat (first|refine Spl.t rfl ?_|refine Spl.f rfl ?_))
  refine IdxP.of (Di es[i]) (by omega) (by simp[hlt]) ?_
  have hd:dm (es.drop i)=if es[i]=0 then dm (es.drop (i+1))else es[i]:=by rw[List.drop_eq_getElem_cons hlt];rfl
  refine Spl.of (fun h=>?_) (fun h=>?_)
  ·refine FinP.open rfl (congrArg iv ?_)
   rw[hI,hd,if_neg (by simpa using h)]
  ·(repeat (first|refine Spl.t rfl ?_|refine Spl.f rfl ?_))
   refine⟨i+1,⟨by omega,by rw[hI,hd,if_pos (by simpa using h)]⟩,by omega,⟨aE ?_,trivial⟩,(by repeat' (first|exact trivial|exact rfl|refine And.intro ?_ ?_)),(by repeat' (first|exact trivial|exact rfl|refine And.intro ?_ ?_))⟩
   exact am _ (by omega) (by omega)
 ·have hge:i=es.length:=by have:=of_decide_eq_false h;simp at this;omega
  (repeat (first|refine Spl.t rfl ?_|refine Spl.f rfl ?_))
  refine FinP.open rfl (congrArg iv ?_)
  rw[hI,hge,List.drop_length];rfl
theorem gm (b:Bool)(e:Int):Cv 187 [bv b,iv e] (iv (if b=true then e else 0)):=by
 refine ab Tryz.f187 Tryz.func187 rfl rfl fun w H B g0=>?_
 refine Spl.of (fun h=>?_) (fun h=>?_)
 ·exact FinP.open rfl (congrArg iv (by rw[if_pos h]))
 ·exact FinP.open rfl (congrArg iv (by rw[if_neg (by rw[h];decide)]))
def gn (n:Int):Bool:=decide (0≤n∧n<55296∨57343<n∧n≤1114111)
theorem ta (n:Int):Cv 225 [cv n] (bv (gn n)):=by
 refine ab Tryz.f225 Tryz.func225 rfl rfl fun w H B g0=>?_
 (repeat' (first|refine Spl.t rfl ?_|refine Spl.f rfl ?_|refine Spl.of (fun h=>?_) (fun h=>?_)))
 all_goals refine FinP.open rfl (congrArg bv ?_)
 all_goals unfold gn
 all_goals simp_all
 all_goals omega
def aC (o:OP):Int:=
 if o.k≠0∧o.k≠1 then 1
 else if o.k=1∧(bu o.a=false∨o.ch≠0)then 1
 else if bg o.i=false∨bu o.a=false∧bg o.a=false then 2
 else if bu o.a=false∧o.i.c≤o.a.c then 3
 else if o.k=0∧(o.ch<32∨o.ch>1114111∨55296≤o.ch∧o.ch≤57343)then 1
 else 0
def hU (o:OP):Int:=if bu o.a=true then 0 else dm [bm o.a,if decide (o.i.c≤o.a.c)=true then 3 else 0]
def qk (o:OP):Prop:=o.ch<32∨o.ch>1114111∨55296≤o.ch∧o.ch≤57343
instance (o:OP):Decidable (qk o):=by unfold qk;infer_instance
theorem yf {o:OP}(k0:o.k=0){A:Int}(hA:hU o=A)(v:Int)(hv:v=if qk o then 1 else 0):dm [bm o.i,A,v]=aC o:=by
 subst hA
 unfold aC
 rw[if_neg (by omega),if_neg (by omega)]
 unfold hU bm
 have hb:(o.k=0∧(o.ch<32∨o.ch>1114111∨55296≤o.ch∧o.ch≤57343))=qk o:=by unfold qk;simp[k0]
 simp only[hb]
 subst hv
 by_cases e1:bg o.i=true<;>by_cases e2:bg o.a=true<;>cases e3:bu o.a<;>by_cases e4:o.i.c≤o.a.c<;>by_cases e5:qk o<;>simp[dm,e1,e2,e3,e4,e5]
theorem Bc {o:OP}(h:¬o.ch<32):(if (!gn o.ch)=true then(1:Int)else 0)=if qk o then 1 else 0:=by
 unfold gn qk
 by_cases e:0≤o.ch∧o.ch<55296∨57343<o.ch∧o.ch≤1114111
 ·rw[decide_eq_true e];exact(if_neg (by decide)).trans (if_neg (by omega)).symm
 ·rw[decide_eq_false e];exact(if_pos (by decide)).trans (if_pos (by omega)).symm
set_option maxHeartbeats 2000000 in
theorem eM (o:OP):Cv 188 [opv o] (iv (aC o)):=by
 refine ab Tryz.f188 Tryz.func188 rfl rfl fun w H B g0=>?_
 refine Spl.of (fun h1=>?_) (fun h1=>?_)
 ·have k1:o.k=1:=of_decide_eq_true h1
  refine RegP.of rfl (by decide+kernel) ?_
  refine QuietP.of (QJ.call (nf o.a) (fun _ _=>rfl) rfl rfl) ?_
  refine Spl.of (fun h2=>?_) (fun h2=>?_)
  ·have n1:bu o.a=false:=by simpa using h2
   (repeat (first|refine Spl.t rfl ?_|refine Spl.f rfl ?_))
   refine QuietP.of (QJ.call (gm true 1) (fun _ _=>rfl) rfl rfl) ?_
   refine QuietP.of (QJ.call (dx o.i) (fun _ _=>rfl) rfl rfl) ?_
   refine QuietP.of (QJ.call (eX [if true=true then 1 else 0,bm o.i] (by simp)) (fun _ _=>rfl) rfl rfl) ?_
   refine FinP.open rfl (congrArg iv ?_)
   unfold aC
   simp[dm,k1,n1]
  ·have n1:bu o.a=true:=by simpa using h2
   (repeat (first|refine Spl.t rfl ?_|refine Spl.f rfl ?_))
   refine QuietP.of (QJ.call (gm (!decide (o.ch=0)) 1) (fun _ _=>rfl) rfl rfl) ?_
   refine QuietP.of (QJ.call (dx o.i) (fun _ _=>rfl) rfl rfl) ?_
   refine QuietP.of (QJ.call (eX [if (!decide (o.ch=0))=true then 1 else 0,bm o.i] (by simp)) (fun _ _=>rfl) rfl rfl) ?_
   refine FinP.open rfl (congrArg iv ?_)
   unfold aC bm
   simp only[dm,k1,n1]
   by_cases e1:o.ch=0<;>by_cases e2:bg o.i=true<;>simp[e1,e2]
 have k1:o.k≠1:=of_decide_eq_false h1
 (repeat (first|refine Spl.t rfl ?_|refine Spl.f rfl ?_))
 refine Spl.of (fun h2=>?_) (fun h2=>?_)
 ·have k0:o.k=0:=of_decide_eq_true h2
  (repeat (first|refine Spl.t rfl ?_|refine Spl.f rfl ?_))
  refine aa (nf o.a) (fun _ _=>rfl) rfl rfl rfl ?_
  refine Spl.of (fun h3=>?_) (fun h3=>?_)
  ·have n1:bu o.a=false:=by simpa using h3
   refine RegP.of rfl (by decide+kernel) ?_
   refine QuietP.of (QJ.call (dx o.a) (fun _ _=>rfl) rfl rfl) ?_
   refine QuietP.of (QJ.call (gm (decide (o.i.c≤o.a.c)) 3) (fun _ _=>rfl) rfl rfl) ?_
   refine QuietP.of (QJ.call (eX [bm o.a,if decide (o.i.c≤o.a.c)=true then 3 else 0] (by simp)) (fun _ _=>rfl) rfl rfl) ?_
   have hA:hU o=dm [bm o.a,if decide (o.i.c≤o.a.c)=true then 3 else 0]:=by unfold hU;rw[if_neg (by rw[n1];decide)]
   generalize dm [bm o.a,if decide (o.i.c≤o.a.c)=true then 3 else 0]=A at hA ⊢
   (refine RegP.of rfl (by decide+kernel) ?_;refine QuietP.of (QJ.call (dx o.i) (fun _ _=>rfl) rfl rfl) ?_;refine Spl.of (fun h4=>?_) (fun h4=>?_))
   ·((repeat (first|refine Spl.t rfl ?_|refine Spl.f rfl ?_));refine QuietP.of (QJ.call (gm true 1) (fun _ _=>rfl) rfl rfl) ?_;refine QuietP.of (QJ.call (eX [bm o.i,A,if true=true then 1 else 0] (by simp)) (fun _ _=>rfl) rfl rfl) ?_;refine FinP.open rfl (congrArg iv ?_))
    exact yf k0 hA _ (by rw[if_pos rfl];exact(if_pos (.inl (of_decide_eq_true h4))).symm)
   ·((repeat (first|refine Spl.t rfl ?_|refine Spl.f rfl ?_));refine QuietP.of (QJ.call (ta o.ch) (fun _ _=>rfl) rfl rfl) ?_;(repeat (first|refine Spl.t rfl ?_|refine Spl.f rfl ?_));refine QuietP.of (QJ.call (gm (!gn o.ch) 1) (fun _ _=>rfl) rfl rfl) ?_;refine QuietP.of (QJ.call (eX [bm o.i,A,if (!gn o.ch)=true then 1 else 0] (by simp)) (fun _ _=>rfl) rfl rfl) ?_;refine FinP.open rfl (congrArg iv ?_))
    exact yf k0 hA _ (Bc (of_decide_eq_false h4))
  ·have n1:bu o.a=true:=by simpa using h3
   (repeat (first|refine Spl.t rfl ?_|refine Spl.f rfl ?_))
   have hA:hU o=0:=by unfold hU;rw[if_pos n1]
   (refine RegP.of rfl (by decide+kernel) ?_;refine QuietP.of (QJ.call (dx o.i) (fun _ _=>rfl) rfl rfl) ?_;refine Spl.of (fun h4=>?_) (fun h4=>?_))
   ·((repeat (first|refine Spl.t rfl ?_|refine Spl.f rfl ?_));refine QuietP.of (QJ.call (gm true 1) (fun _ _=>rfl) rfl rfl) ?_;refine QuietP.of (QJ.call (eX [bm o.i,0,if true=true then 1 else 0] (by simp)) (fun _ _=>rfl) rfl rfl) ?_;refine FinP.open rfl (congrArg iv ?_))
    exact yf k0 hA _ (by rw[if_pos rfl];exact(if_pos (.inl (of_decide_eq_true h4))).symm)
   ·((repeat (first|refine Spl.t rfl ?_|refine Spl.f rfl ?_));refine QuietP.of (QJ.call (ta o.ch) (fun _ _=>rfl) rfl rfl) ?_;(repeat (first|refine Spl.t rfl ?_|refine Spl.f rfl ?_));refine QuietP.of (QJ.call (gm (!gn o.ch) 1) (fun _ _=>rfl) rfl rfl) ?_;refine QuietP.of (QJ.call (eX [bm o.i,0,if (!gn o.ch)=true then 1 else 0] (by simp)) (fun _ _=>rfl) rfl rfl) ?_;refine FinP.open rfl (congrArg iv ?_))
    exact yf k0 hA _ (Bc (of_decide_eq_false h4))
 ·(repeat (first|refine Spl.t rfl ?_|refine Spl.f rfl ?_))
  refine FinP.open rfl (congrArg iv ?_)
  unfold aC
  rw[if_pos ⟨by simpa using h2,k1⟩]
end Go.Proofs.E
end
section
open Go Go.Gv Go.RowKit
attribute [local irreducible] Go.Gv.WJ Go.Gv.OpJ Go.Gv.QJ Go.Gv.Spl Go.Gv.Req Go.Gv.IdxP Go.Gv.RegP Go.Gv.FinP Go.Gv.CellP Go.Gv.CellsP Go.Gv.ArrP Go.Gv.ArrsP Go.Gv.DropP Go.Gv.ByteP Go.Gv.StoreP
set_option maxRecDepth 100000
namespace Go.Proofs.E
theorem zw:IntKind.u64.wrap (bits BinOp.and IntKind.u64 16 (IntKind.u64.wrap (-16))*285870213051353865)/288230376151711744=15:=by decide+kernel
theorem qL (w:World)(h:w.cell? ⟨5,15,none⟩=some (.int .u8 4)):Calls Tryz.prog 313 #[.int .u64 16] w fun e w'=>e=.returned (.int .i64 4)∧w'=w:=by
 go_enter Tryz.func313,Tryz.ntmps313
 go_wp2_with (simp only[zw])
 go_ret
 exact⟨rfl,rfl⟩
abbrev qK (n:Int):AV:=.d (.v (.int .u64 n))
abbrev u8v (n:Int):AV:=.d (.v (.int .u8 n))
theorem uW {w:World}(h:tab.p w):w.cell? ⟨5,15,none⟩=some (.int .u8 4):=by
 have:=zx h
 unfold Lib.TabIs World.var? at this
 rw[gTz]at this
 simp only[Option.bind_some]at this
 unfold World.cell?
 split at this
 ·next cs t z hh=>
  simp only[Option.some.injEq]at this
  subst this
  rw[hh]
  rfl
 ·cases this
theorem AJ:Cv 313 [qK 16] (iv 4):=
 bS [.int .u64 16] rfl fun w hw=>(qL w (uW hw)).mono fun _ _ ⟨he,hw⟩=>⟨he,by rw[hw];exact Keeps.refl _ _⟩
theorem BP:Cv 308 [qK 16] (iv 4):=by
 refine ab Tryz.f308 Tryz.func308 rfl rfl fun w H B g0=>?_
 (repeat (first|refine Spl.t rfl ?_|refine Spl.f rfl ?_))
 refine aa AJ (fun _ _=>rfl) rfl rfl rfl ?_
 exact FinP.open rfl rfl
theorem AO:Cv 307 [iv 16] (bv true):=by
 refine ab Tryz.f307 Tryz.func307 rfl rfl fun w H B g0=>?_
 exact FinP.open rfl (congrArg bv (by decide+kernel))
def hx (n:Nat):UInt8:=if n<10 then UInt8.ofNat (48+n)else UInt8.ofNat (87+n)
def dl (n:Nat):List UInt8:=if n<16 then[hx n]else dl (n/16)++[hx (n % 16)]
def eG (acc:List UInt8):List AV:=(List.replicate (65-acc.length) (0:UInt8)++acc).map fun b=>u8v b.toNat
theorem uZ {a b:Int}(h:a=b):some (qK a)=some (qK b):=by rw[h]
theorem Bm (m:Nat)(h:m<16^16):IntKind.u64.wrap ((BitVec.ofInt 64 (m:Int) &&& BitVec.ofInt 64 (IntKind.u64.wrap (IntKind.u64.wrap 16-1))).toNat:Int)=((m % 16:Nat):Int):=by
 have e1:IntKind.u64.wrap (IntKind.u64.wrap 16-1)=((15:Nat):Int):=by decide
 rw[e1]
 have e2:(BitVec.ofInt 64 (m:Int)).toNat=m:=by simp;omega
 have e3:(BitVec.ofInt 64 ((15:Nat):Int)).toNat=15:=by decide
 rw[BitVec.toNat_and,e2,e3,show(15:Nat)=2^4-1 from rfl,Nat.and_two_pow_sub_one_eq_mod,IntKind.wrap_u64]
 omega
def Bi:List UInt8:=[48,49,50,51,52,53,54,55,56,57,97,98,99,100,101,102,103,104,105,106,107,108,109,110,111,112,113,114,115,116,117,118,119,120,121,122]
theorem sT:∀i:Fin 16,Bi[i.val]?=some (hx i.val):=by decide
theorem mP (acc:List UInt8)(h:acc.length≤65):(eG acc).length=65:=by simp[eG];omega
theorem kD (acc:List UInt8)(d:UInt8)(h:acc.length<65):bF (eG acc) (65-acc.length-1) [u8v d.toNat]=eG (d::acc):=by
 unfold eG
 simp only[bF,List.length_cons]
 rw[show 65-acc.length=(65-(acc.length+1))+1 by omega,List.replicate_succ']
 simp only[Nat.add_sub_cancel]
 rw[List.map_append,List.map_append,List.map_append,List.append_assoc,List.set_append_right _ _ (by simp)]
 simp
theorem pa (N:Nat)(hN:N<16^16):Cv 294 [.d (.v (.slice none 0 0)),qK N,iv 16,bv false,bv false] (.tup [.d (.v (.slice none 0 0)),sv (dl N)]):=by
 refine ab Tryz.f294 Tryz.func294 rfl rfl fun w H B g0=>?_
 (repeat (first|refine Spl.t rfl ?_|refine Spl.f rfl ?_))
 refine aa AO (fun _ _=>rfl) rfl rfl rfl ?_
 (repeat (first|refine Spl.t rfl ?_|refine Spl.f rfl ?_))
 refine aa BP (fun _ _=>rfl) rfl rfl rfl ?_
 refine dK (V:=Nat×List UInt8) (fun v=>[(1,qK v.1),(13,iv ((65-v.2.length:Nat):Int))]) (fun v=>[(12,.cells (eG v.2))]) (fun v=>v.1)
  (fun v=>∃k,v.1<16^k∧0<k∧k+v.2.length=16∧dl v.1++v.2=dl N) (N,[]) ⟨16,hN,by omega,rfl,by simp⟩ (by repeat' (first|exact trivial|exact rfl|refine And.intro ?_ ?_)) (by repeat' (first|exact trivial|exact rfl|refine And.intro ?_ ?_)) ?_
 rintro⟨m,acc⟩ ⟨k,hm,hk,hl,hI⟩
 have hmm:m<16^16:=Nat.lt_of_lt_of_le hm (Nat.pow_le_pow_right (by omega) (by simp only at hl;omega))
 have hi:IntKind.i64.wrap (((65-acc.length:Nat):Int)-1)=((65-acc.length-1:Nat):Int):=by simp only at hl;rw[am _ (by omega) (by omega)];omega
 have h16:=Bm m hmm
 simp only at hm hl hI
 have hD:dl m=if m<16 then[hx m]else dl (m/16)++[hx (m % 16)]:=by rw[dl]
 refine Spl.of (fun h=>?_) (fun h=>?_)
 ·have hge:16≤m:=by have:=of_decide_eq_true h;rw[show IntKind.u64.wrap 16=16 by decide]at this;simp only at this;omega
  have hk2:2≤k:=by
   rcases Nat.lt_or_ge k 2 with h2|h2
   ·obtain rfl:k=1:=by omega
    simp at hm;omega
   ·exact h2
  (repeat (first|refine Spl.t rfl ?_|refine Spl.f rfl ?_))
  refine ByteP.of (hx (m % 16)) (Int.le_trans (show(0:Int)≤((m % 16:Nat):Int)by omega) (Int.le_of_eq h16.symm)) ((congrArg (fun z:Int=>Bi[z.toNat]?) h16).trans (sT ⟨m % 16,by omega⟩)) ?_
  refine Req.of (by rw[hi];omega) ?_
  refine Req.of (by
   rw[mP acc (by omega),hi]
   show 0+_*1+1≤65;omega) ?_
  refine Req.of (by decide) ?_
  refine⟨(m/16,hx (m % 16)::acc),⟨k-1,?_,by omega,by simp;omega,?_⟩,by simp only;omega,⟨uZ ?_,aE ?_,trivial⟩,(by repeat' (first|exact trivial|exact rfl|refine And.intro ?_ ?_)),⟨?_,trivial⟩⟩
  ·simp only
   rw[Nat.div_lt_iff_lt_mul (by decide)]
   have:16^k=16^(k-1)*16:=by rw[←Nat.pow_succ];congr 1;omega
   omega
  ·rw[hD,if_neg (by omega)]at hI
   simpa using hI
  ·show Int.fdiv (m:Int) (2^min (IntKind.u64.wrap 4).toNat IntKind.u64.bits)=_
   rw[show(2:Int)^min (IntKind.u64.wrap 4).toNat IntKind.u64.bits=16 by decide,Int.fdiv_eq_ediv_of_nonneg _ (by decide)]
   simp
  ·exact hi.trans (by simp;omega)
  ·show some (Ent.cells (bF (eG acc) (0+(IntKind.i64.wrap (((65-acc.length:Nat):Int)-1)).toNat*1) [u8v (hx (m % 16)).toNat]))=some (Ent.cells (eG (hx (m % 16)::acc)))
   rw[hi,show 0+((65-acc.length-1:Nat):Int).toNat*1=65-acc.length-1 by omega,kD acc _ (by omega)]
 ·have hlt:m<16:=by have:=of_decide_eq_false h;rw[show IntKind.u64.wrap 16=16 by decide]at this;simp only at this;omega
  rw[hD,if_pos hlt]at hI
  (repeat (first|refine Spl.t rfl ?_|refine Spl.f rfl ?_))
  refine ByteP.of (hx m) (by simp only;omega) (sT ⟨m,hlt⟩) ?_
  refine Req.of (by simp only;rw[hi];omega) ?_
  refine Req.of (by
   simp only
   rw[mP acc (by omega),hi]
   show 0+_*1+1≤65;omega) ?_
  (repeat (first|refine Spl.t rfl ?_|refine Spl.f rfl ?_))
  refine OpJ.shift (SJ.pub 12 (e:=.cells (eG (hx m::acc))) (p:=.c ((List.replicate (65-(acc.length+1)) (0:UInt8)++(hx m::acc)).map bD)) ?_ ?_) ?_
  ·show some (Ent.cells (bF (eG acc) (0+(IntKind.i64.wrap (((65-acc.length:Nat):Int)-1)).toNat*1) [u8v (hx m).toNat]))=_
   rw[hi,show 0+((65-acc.length-1:Nat):Int).toNat*1=65-acc.length-1 by omega,kD acc _ (by omega)]
  ·unfold jg eG
   simp only
   rw[show(fun b:UInt8=>u8v (b.toNat:Int))=fun b=>AV.d (bD b)from rfl,qe]
   rfl
  refine bq (w6 (xs:=(hx m::acc).map fun b=>[bD b]) rfl rfl rfl rfl rfl (by rw[hi];omega) (by rw[hi];omega) (by decide) (by show List.length _=65*1;simp;omega) (by decide) ?_) rfl ?_
  ·show List.drop (IntKind.i64.wrap (((65-acc.length:Nat):Int)-1)).toNat (List.take (65:Int).toNat (fZ 1 65 (List.map bD (List.replicate (65-(acc.length+1)) 0++hx m::acc))))=_
   have hlen:(List.map bD (List.replicate (65-(acc.length+1)) 0++hx m::acc)).length=65:=by simp;omega
   have:=mO (List.map bD (List.replicate (65-(acc.length+1)) 0++hx m::acc))
   rw[hlen]at this
   rw[this,hi,List.take_of_length_le (by rw[List.length_map,hlen];decide),List.map_map,List.map_append,show((65-acc.length-1:Nat):Int).toNat=65-(acc.length+1)by omega,List.drop_append_of_le_length (by simp),List.drop_of_length_le (by simp)]
   rfl
  refine bq (r6 (ns:=(hx m::acc).map fun b=>(b.toNat:Int)) rfl rfl (kO _) rfl rfl rfl) rfl ?_
  refine FinP.open rfl ?_
  show AV.tup [_,AV.d (D.v (Value.string (il _)))]=_
  rw[tB,←hI]
  rfl
theorem ni (N:Nat)(hN:N<16^15):Cv 276 [iv N,iv 16] (sv (dl N)):=by
 refine ab Tryz.f276 Tryz.func276 rfl rfl fun w H B g0=>?_
 (repeat (first|refine Spl.t rfl ?_|refine Spl.f rfl ?_))
 have hb:Cv 294 [.d (.v (.slice none 0 0)),qK (IntKind.u64.wrap (N:Int)),iv 16,bv (decide ((N:Int)<0)),bv false] (.tup [.d (.v (.slice none 0 0)),sv (dl N)]):=by
  rw[show IntKind.u64.wrap (N:Int)=N by rw[IntKind.wrap_u64];omega,show decide ((N:Int)<0)=false from decide_eq_false (by omega)]
  exact pa N (by omega)
 refine aa hb (fun _ _=>rfl) rfl rfl rfl ?_
 exact FinP.open rfl rfl
theorem nu (N:Nat)(hN:N<16^15):Cv 251 [iv N,iv 16] (sv (dl N)):=by
 refine ab Tryz.f251 Tryz.func251 rfl rfl fun w H B g0=>?_
 refine aa (ni N hN) (fun _ _=>rfl) rfl rfl rfl ?_
 exact FinP.open rfl rfl
end Go.Proofs.E
end
section
open Go Go.Gv
attribute [local irreducible] Go.Gv.WJ Go.Gv.OpJ Go.Gv.QJ Go.Gv.Spl Go.Gv.Req Go.Gv.IdxP Go.Gv.RegP Go.Gv.FinP Go.Gv.CellP Go.Gv.CellsP Go.Gv.ArrP Go.Gv.ArrsP Go.Gv.DropP Go.Gv.ByteP Go.Gv.StoreP
set_option maxRecDepth 100000
namespace Go.Proofs.E
end Go.Proofs.E
namespace Go.Proofs.E
def gh (o:OP):List UInt8:=if aC o≠0 then[63]else if o.k=1 then 45::aQ o.i else 43::(aQ o.i++32::(aQ o.a++32::dl o.ch.toNat))
theorem uq {o:OP}(h:aC o=0)(h1:o.k≠1):32≤o.ch∧o.ch≤1114111:=by
 unfold aC at h
 split at h
 ·cases h
 ·split at h
  ·cases h
  ·split at h
   ·cases h
   ·split at h
    ·cases h
    ·split at h
     ·cases h
     ·omega
theorem mo (n k:Nat)(h:n<16^k)(hk:0<k):(dl n).length≤k:=by
 induction k generalizing n with
 |zero=>omega
 |succ k ih=>
  rw[dl]
  split
  ·simp
  ·by_cases h0:k=0
   ·subst h0;simp at h;omega
   ·have:=ih (n/16) (by rw[Nat.pow_succ]at h;omega) (by omega)
    simp;omega
theorem tn (x:Int)(h:0≤x)(h':x≤1114111):IntKind.i64.wrap x=(x.toNat:Int):=by rw[am x (by omega) (by omega)];omega
theorem kw (o:OP):Cv 208 [opv o] (sv (gh o)):=by
 refine ab Tryz.f208 Tryz.func208 rfl rfl fun w H B g0=>?_
 refine aa (eM o) (fun _ _=>rfl) rfl rfl rfl ?_
 refine Spl.of (fun h1=>?_) (fun h1=>?_)
 ·exact FinP.open rfl (congrArg sv (by rw[gh,if_pos (by simpa using h1)]))
 have c0:aC o=0:=by simpa using h1
 (repeat (first|refine Spl.t rfl ?_|refine Spl.f rfl ?_))
 refine Spl.of (fun h2=>?_) (fun h2=>?_)
 ·have k1:o.k=1:=by simpa using h2
  (repeat (first|refine Spl.t rfl ?_|refine Spl.f rfl ?_))
  refine aa (fL o.i) (fun _ _=>rfl) rfl rfl rfl ?_
  have l1:=d7 o.i
  refine Req.of (by simp;omega) ?_
  exact FinP.open rfl (congrArg sv (by rw[gh,if_neg (by omega),if_pos k1];rfl))
 have k1:o.k≠1:=by simpa using h2
 obtain⟨b1,b2⟩:=uq c0 k1
 have l1:=d7 o.i
 have l2:=d7 o.a
 have l3:=mo o.ch.toNat 15 (by omega) (by omega)
 refine RegP.of rfl (by decide+kernel) ?_
 refine QuietP.of (QJ.call (fL o.i) (fun _ _=>rfl) rfl rfl) ?_
 refine Req.of (by simp;omega) ?_
 refine Req.of (by simp;omega) ?_
 refine QuietP.of (QJ.call (fL o.a) (fun _ _=>rfl) rfl rfl) ?_
 refine Req.of (by simp;omega) ?_
 refine Req.of (by simp;omega) ?_
 have hf:=nu o.ch.toNat (by omega)
 rw[←tn o.ch (by omega) b2]at hf
 refine QuietP.of (QJ.call hf (fun _ _=>rfl) rfl rfl) ?_
 refine Req.of (by simp;omega) ?_
 exact FinP.open rfl (congrArg sv (by rw[gh,if_neg (by omega),if_neg k1];simp))
theorem xG:Cv 275 [] (bv true):=by
 refine ab Tryz.f275 Tryz.func275 rfl rfl fun w H B g0=>?_
 refine aa lu (fun _ _=>rfl) rfl rfl rfl ?_
 (repeat (first|refine Spl.t rfl ?_|refine Spl.f rfl ?_))
 refine aa (eM ⟨0,⟨2,1⟩,⟨1,3⟩,97⟩) (fun _ _=>rfl) rfl rfl rfl ?_
 (repeat (first|refine Spl.t rfl ?_|refine Spl.f rfl ?_))
 refine aa (kw ⟨0,⟨2,1⟩,⟨1,3⟩,97⟩) (fun _ _=>rfl) rfl rfl rfl ?_
 (repeat (first|refine Spl.t rfl ?_|refine Spl.f rfl ?_))
 refine FinP.open rfl (congrArg bv ?_)
 decide+kernel
end Go.Proofs.E
namespace Go.Proofs.E
theorem lj (n:Nat):∀b,b∈Lib.decDigits n→48≤b.toNat∧b.toNat≤57:=by
 induction n using Nat.strongRecOn with
 |_ n ih=>
  intro b hb
  rw[Lib.decDigits]at hb
  split at hb
  ·simp at hb;subst hb;simp;omega
  ·rcases List.mem_append.1 hb with h|h
   ·exact ih (n/10) (by omega) b h
   ·simp at h;subst h;simp;omega
theorem mM (n:Nat):Lib.decDigits n≠[]:=by
 rw[Lib.decDigits];split<;>simp
theorem sW (n:Nat):(Lib.decDigits n).length=1∨∃b r,Lib.decDigits n=b::r∧b.toNat≠48:=by
 induction n using Nat.strongRecOn with
 |_ n ih=>
  rw[Lib.decDigits]
  split
  ·left;rfl
  ·right
   rcases ih (n/10) (by omega)with h|⟨b,r,h,hb⟩
   ·have:n/10<10:=by
     rcases Nat.lt_or_ge (n/10) 10 with h'|h'
     ·exact h'
     ·rw[Lib.decDigits,dif_neg (by omega)]at h
      exact absurd (by simpa using h) (mM (n/10/10))
    rw[Lib.decDigits,dif_pos this]
    refine⟨_,_,rfl,?_⟩
    simp;omega
   ·rw[h];exact⟨b,_,rfl,hb⟩
def val (l:List UInt8):Nat:=l.foldl (fun a b=>10*a+(b.toNat-48)) 0
theorem pf (l:List UInt8)(b:UInt8):val (l++[b])=10*val l+(b.toNat-48):=by simp[val]
theorem wC (n:Nat):val (Lib.decDigits n)=n:=by
 induction n using Nat.strongRecOn with
 |_ n ih=>
  rw[Lib.decDigits]
  split
  ·simp[val];omega
  ·rw[pf,ih (n/10) (by omega)];simp;omega
theorem sL:∀(l:List UInt8)(a:Nat),(∀b,b∈l→b.toNat≤57)→l.foldl (fun a b=>10*a+(b.toNat-48)) a<(a+1)*10^l.length
 |[],a,_=>by simp
 |b::r,a,h=>by
  have h1:=sL r (10*a+(b.toNat-48)) fun c hc=>h c (by simp[hc])
  have h2:=h b (by simp)
  rw[List.foldl_cons,List.length_cons,Nat.pow_succ]
  refine Nat.lt_of_lt_of_le h1 ?_
  rw[Nat.mul_comm (10^r.length) 10,←Nat.mul_assoc]
  exact Nat.mul_le_mul_right _ (by omega)
theorem zt (l:List UInt8)(h:∀b,b∈l→b.toNat≤57):val l<10^l.length:=by simpa[val]using sL l 0 h
theorem nA {l:List UInt8}{i:Nat}(h:i<l.length):l.take (i+1)=l.take i++[l[i]]:=by simp
theorem r9 (l:List UInt8)(hl:l.length≤1000000)(hb:∀b,b∈l→48≤b.toNat∧b.toNat≤57)(hh:l.length=1∨∃b r,l=b::r∧b.toNat≠48):Cv 222 [sv l] (bv true):=by
 refine ab Tryz.f222 Tryz.func222 rfl rfl fun w H B g0=>?_
 refine dK (V:=Nat) (fun v=>[(6,iv v)]) (fun _=>[]) (fun v=>l.length-v) (fun v=>v≤l.length) 0 (by omega) (by repeat' (first|exact trivial|exact rfl|refine And.intro ?_ ?_)) (by repeat' (first|exact trivial|exact rfl|refine And.intro ?_ ?_)) ?_
 intro i hi
 refine Spl.of (fun h=>?_) (fun h=>?_)
 ·have hlt:i<l.length:=by have:=of_decide_eq_true h;simp at this;omega
  have hbi:=hb l[i] (by simp)
  (repeat (first|refine Spl.t rfl ?_|refine Spl.f rfl ?_))
  refine ByteP.of l[i] (by omega) (by simp[hlt]) ?_
  refine Spl.f (decide_eq_false (by omega)) ?_
  (repeat (first|refine Spl.t rfl ?_|refine Spl.f rfl ?_))
  refine ByteP.of l[i] (by omega) (by simp[hlt]) ?_
  (repeat (first|refine Spl.t rfl ?_|refine Spl.f rfl ?_))
  refine Spl.f (decide_eq_false (by omega)) ?_
  (repeat (first|refine Spl.t rfl ?_|refine Spl.f rfl ?_))
  exact⟨i+1,by omega,by omega,⟨aE (am _ (by omega) (by omega)),trivial⟩,(by repeat' (first|exact trivial|exact rfl|refine And.intro ?_ ?_)),(by repeat' (first|exact trivial|exact rfl|refine And.intro ?_ ?_))⟩
 ·(repeat (first|refine Spl.t rfl ?_|refine Spl.f rfl ?_))
  have hne:l≠[]:=by
   rcases hh with h1|⟨b,r,rfl,_⟩
   ·intro e;subst e;simp at h1
   ·simp
  refine Spl.t (by simp[hne]) ?_
  (repeat (first|refine Spl.t rfl ?_|refine Spl.f rfl ?_))
  refine Spl.of (fun h1=>?_) (fun h1=>?_)
  ·(repeat (first|refine Spl.t rfl ?_|refine Spl.f rfl ?_))
   exact FinP.open rfl rfl
  ·have h1':l.length≠1:=by have:=of_decide_eq_false h1;omega
   rcases hh with h2|⟨b,r,rfl,h2⟩
   ·exact absurd h2 h1'
   ·(repeat (first|refine Spl.t rfl ?_|refine Spl.f rfl ?_))
    refine ByteP.of b (by decide) rfl ?_
    (repeat (first|refine Spl.t rfl ?_|refine Spl.f rfl ?_))
    exact FinP.open rfl (congrArg bv (by simp;omega))
theorem pI {v b w:Nat}(h1:48≤b)(h2:b≤57)(h:w=10*v+(b-48))(hw:w<10^18):IntKind.i64.wrap (IntKind.i64.wrap (10*(v:Int))+IntKind.i64.wrap (IntKind.u8.wrap ((b:Int)-48)))=(w:Int):=by
 rw[xN _ (by omega) (by omega),am (10*(v:Int)) (by omega) (by omega),am ((b:Int)-48) (by omega) (by omega),am _ (by omega) (by omega)]
 omega
theorem qE (l:List UInt8)(most:Int)(hl:l.length≤18)(h0:l≠[])(hb:∀b,b∈l→48≤b.toNat∧b.toNat≤57)(hh:l.length=1∨∃b r,l=b::r∧b.toNat≠48)(hm:(val l:Int)≤most):Cv 223 [sv l,iv most] (.tup [iv (val l),bv true]):=by
 refine ab Tryz.f223 Tryz.func223 rfl rfl fun w H B g0=>?_
 have hstep:∀i,(h:i<l.length)→val (l.take (i+1))=10*val (l.take i)+(l[i].toNat-48):=fun i h=>by rw[nA h,pf]
 have hsmall:∀i,val (l.take i)<10^18:=fun i=>by
  have h1:=zt (l.take i) fun b h=>(hb b (List.mem_of_mem_take h)).2
  exact Nat.lt_of_lt_of_le h1 (Nat.pow_le_pow_right (by decide) (by simp;omega))
 refine Spl.f (by simp[h0]) ?_
 (repeat (first|refine Spl.t rfl ?_|refine Spl.f rfl ?_))
 refine Spl.of (fun h1=>?_) (fun h1=>?_)
 ·rcases hh with h2|⟨b,r,hl2,h2⟩
  ·have:=of_decide_eq_true h1;omega
  ·(repeat (first|refine Spl.t rfl ?_|refine Spl.f rfl ?_))
   refine ByteP.of b (by decide) (by rw[hl2];rfl) ?_
   (repeat (first|refine Spl.t rfl ?_|refine Spl.f rfl ?_))
   refine Spl.f (decide_eq_false (by omega)) ?_
   (repeat (first|refine Spl.t rfl ?_|refine Spl.f rfl ?_))
   (refine Spl.f (decide_eq_false (by omega)) ?_;(repeat (first|refine Spl.t rfl ?_|refine Spl.f rfl ?_));refine dK (V:=Nat) (fun v=>[(27,iv v),(6,iv (val (l.take v)))]) (fun _=>[]) (fun v=>l.length-v) (fun v=>v≤l.length) 0 (by omega) (by repeat' (first|exact trivial|exact rfl|refine And.intro ?_ ?_)) (by repeat' (first|exact trivial|exact rfl|refine And.intro ?_ ?_)) ?_;intro i hi;refine Spl.of (fun h=>?_) (fun h=>?_))
   ·(have hlt:i<l.length:=(by have:=of_decide_eq_true h;simp at this;omega);have hbi:=hb l[i] (by simp);have hs:=hstep i hlt;have h18:=hsmall (i+1);(repeat (first|refine Spl.t rfl ?_|refine Spl.f rfl ?_));refine ByteP.of l[i] (by omega) (by simp[hlt]) ?_;refine Spl.f (decide_eq_false (by omega)) ?_;(repeat (first|refine Spl.t rfl ?_|refine Spl.f rfl ?_));refine ByteP.of l[i] (by omega) (by simp[hlt]) ?_;(repeat (first|refine Spl.t rfl ?_|refine Spl.f rfl ?_));refine Spl.f (decide_eq_false (by omega)) ?_;(repeat (first|refine Spl.t rfl ?_|refine Spl.f rfl ?_));refine ByteP.of l[i] (by omega) (by simp[hlt]) ?_;exact⟨i+1,by omega,by omega,⟨aE (am _ (by omega) (by omega)),aE (pI (by omega) (by omega) hs h18),trivial⟩,(by repeat' (first|exact trivial|exact rfl|refine And.intro ?_ ?_)),(by repeat' (first|exact trivial|exact rfl|refine And.intro ?_ ?_))⟩)
   ·(have he:i=l.length:=(by have:=of_decide_eq_false h;simp at this;omega);(repeat (first|refine Spl.t rfl ?_|refine Spl.f rfl ?_));refine Spl.f (decide_eq_false (by rw[he,List.take_length];omega)) ?_;(repeat (first|refine Spl.t rfl ?_|refine Spl.f rfl ?_));refine FinP.open rfl ?_;show AV.tup [iv (val (l.take i)),_]=_;rw[he,List.take_length];rfl)
 ·(repeat (first|refine Spl.t rfl ?_|refine Spl.f rfl ?_))
  (refine Spl.f (decide_eq_false (by omega)) ?_;(repeat (first|refine Spl.t rfl ?_|refine Spl.f rfl ?_));refine dK (V:=Nat) (fun v=>[(27,iv v),(6,iv (val (l.take v)))]) (fun _=>[]) (fun v=>l.length-v) (fun v=>v≤l.length) 0 (by omega) (by repeat' (first|exact trivial|exact rfl|refine And.intro ?_ ?_)) (by repeat' (first|exact trivial|exact rfl|refine And.intro ?_ ?_)) ?_;intro i hi;refine Spl.of (fun h=>?_) (fun h=>?_))
  ·(have hlt:i<l.length:=(by have:=of_decide_eq_true h;simp at this;omega);have hbi:=hb l[i] (by simp);have hs:=hstep i hlt;have h18:=hsmall (i+1);(repeat (first|refine Spl.t rfl ?_|refine Spl.f rfl ?_));refine ByteP.of l[i] (by omega) (by simp[hlt]) ?_;refine Spl.f (decide_eq_false (by omega)) ?_;(repeat (first|refine Spl.t rfl ?_|refine Spl.f rfl ?_));refine ByteP.of l[i] (by omega) (by simp[hlt]) ?_;(repeat (first|refine Spl.t rfl ?_|refine Spl.f rfl ?_));refine Spl.f (decide_eq_false (by omega)) ?_;(repeat (first|refine Spl.t rfl ?_|refine Spl.f rfl ?_));refine ByteP.of l[i] (by omega) (by simp[hlt]) ?_;exact⟨i+1,by omega,by omega,⟨aE (am _ (by omega) (by omega)),aE (pI (by omega) (by omega) hs h18),trivial⟩,(by repeat' (first|exact trivial|exact rfl|refine And.intro ?_ ?_)),(by repeat' (first|exact trivial|exact rfl|refine And.intro ?_ ?_))⟩)
  ·(have he:i=l.length:=(by have:=of_decide_eq_false h;simp at this;omega);(repeat (first|refine Spl.t rfl ?_|refine Spl.f rfl ?_));refine Spl.f (decide_eq_false (by rw[he,List.take_length];omega)) ?_;(repeat (first|refine Spl.t rfl ?_|refine Spl.f rfl ?_));refine FinP.open rfl ?_;show AV.tup [iv (val (l.take i)),_]=_;rw[he,List.take_length];rfl)
end Go.Proofs.E
namespace Go.Proofs.E
theorem jv (c:UInt8)(r:List UInt8):∀(l:List UInt8),c∉l→Lib.index (l++c::r) [c]=l.length
 |[],_=>by simp[Lib.index,List.isPrefixOf]
 |b::l,h=>by
  have h1:c≠b:=fun e=>h (by simp[e])
  have h2:=jv c r l fun hc=>h (by simp[hc])
  have h3:([c].isPrefixOf (b::(l++c::r)))=false:=by simp[List.isPrefixOf,h1]
  rw[List.cons_append,Lib.index,h3,h2,List.length_cons]
  have h4:((l.length:Int)==-1)=false:=beq_eq_false_iff_ne.2 (by omega)
  rw[h4];simp
theorem Am (c:UInt8)(l r:List UInt8)(h:c∉l):Lib.cut (l++c::r) [c]=(l,r,true):=by
 unfold Lib.cut
 rw[jv c r l h,if_pos (by omega)]
 simp
theorem qb (w:World)(n:Nat):Keeps w (fun _=>False) (w.drewN n):=⟨rfl,rfl,rfl,Nat.le_refl _,fun _ _ _=>rfl⟩
theorem By (s p:List UInt8)(hs:s.length<4294967281):Cv 221 [sv s,sv p] (.tup [sv (Lib.cut s p).1,sv (Lib.cut s p).2.1,bv (Lib.cut s p).2.2]):=
 dM fun γ H w vs hΛ hok hl hr=>by
  have e:=fO (xs:=[.string ⟨⟨s⟩⟩,.string ⟨⟨p⟩⟩]) hl hr
  subst e
  have hm:=Mem.start hok γ
  obtain⟨m,hmm⟩:=hΛ.2
  refine(Tryz.strings_Cut ⟨⟨s⟩⟩ ⟨⟨p⟩⟩ m w hs hmm).mono fun e w' ⟨he,n,hw⟩=>⟨_,H,he,?_,hm.quiet (by rw[hw];exact qb w n)⟩
  exact .tup _ [_,_,_] rfl (dr (.d _ _ (.v _ rfl)) (dr (.d _ _ (.v _ rfl)) (dr (.d _ _ (.v _ rfl)) mU)))
theorem cb (n:Int)(h:0≤n):Lib.itoa n=Lib.decDigits n.toNat:=by rw[Lib.itoa,if_neg (by omega)]
theorem yO (a:ID)(h:bg a=true):Cv 185 [sv (aQ a)] (.tup [idv a,iv 0]):=by
 obtain⟨a1,a2,a3,a4⟩:=bf h
 have hn:¬bu a=true:=by unfold bu;simp;omega
 have l1:=fA a.c (by omega) (by omega)
 have l2:=fA a.s (by omega) (by omega)
 have ht:aQ a=Lib.itoa a.c++46::Lib.itoa a.s:=by rw[aQ,if_neg hn,if_pos h];simp
 have hb1:∀b,b∈Lib.itoa a.c→48≤b.toNat∧b.toNat≤57:=by rw[cb _ (by omega)];exact lj _
 have hb2:∀b,b∈Lib.itoa a.s→48≤b.toNat∧b.toNat≤57:=by rw[cb _ (by omega)];exact lj _
 have hh1:(Lib.itoa a.c).length=1∨∃b r,Lib.itoa a.c=b::r∧b.toNat≠48:=by rw[cb _ (by omega)];exact sW _
 have hh2:(Lib.itoa a.s).length=1∨∃b r,Lib.itoa a.s=b::r∧b.toNat≠48:=by rw[cb _ (by omega)];exact sW _
 have hv1:(val (Lib.itoa a.c):Int)=a.c:=by rw[cb _ (by omega),wC];omega
 have hv2:(val (Lib.itoa a.s):Int)=a.s:=by rw[cb _ (by omega),wC];omega
 have hcut:Lib.cut (aQ a) [46]=(Lib.itoa a.c,Lib.itoa a.s,true):=by rw[ht];exact Am 46 _ _ fun hc=>by have:=hb1 46 hc;simp at this
 have hc:=By (aQ a) [46] (by have:=d7 a;omega)
 rw[hcut]at hc
 have hw1:=r9 (Lib.itoa a.c) (by omega) hb1 hh1
 have hw2:=r9 (Lib.itoa a.s) (by omega) hb2 hh2
 have hn1:=qE (Lib.itoa a.c) 1048576 (by omega) (by rw[cb _ (by omega)];exact mM _) hb1 hh1 (by omega)
 have hn2:=qE (Lib.itoa a.s) 1000 (by omega) (by rw[cb _ (by omega)];exact mM _) hb2 hh2 (by omega)
 rw[hv1]at hn1
 rw[hv2]at hn2
 have hne:aQ a≠[45]:=by
  rw[ht]
  intro e
  have:=congrArg List.length e
  simp at this
  rw[cb _ (by omega),cb _ (by omega)]at this
  have:=List.length_pos_iff.2 (mM a.c.toNat)
  have:=List.length_pos_iff.2 (mM a.s.toNat)
  omega
 refine ab Tryz.f185 Tryz.func185 rfl rfl fun w H B g0=>?_
 refine Spl.f (decide_eq_false hne) ?_
 (repeat (first|refine Spl.t rfl ?_|refine Spl.f rfl ?_))
 refine aa hc (fun _ _=>rfl) rfl rfl rfl ?_
 (repeat (first|refine Spl.t rfl ?_|refine Spl.f rfl ?_))
 refine aa hw1 (fun _ _=>rfl) rfl rfl rfl ?_
 (repeat (first|refine Spl.t rfl ?_|refine Spl.f rfl ?_))
 refine aa hw2 (fun _ _=>rfl) rfl rfl rfl ?_
 (repeat (first|refine Spl.t rfl ?_|refine Spl.f rfl ?_))
 refine aa hn1 (fun _ _=>rfl) rfl rfl rfl ?_
 (repeat (first|refine Spl.t rfl ?_|refine Spl.f rfl ?_))
 refine aa hn2 (fun _ _=>rfl) rfl rfl rfl ?_
 (repeat (first|refine Spl.t rfl ?_|refine Spl.f rfl ?_))
 refine aa (dx a) (fun _ _=>rfl) rfl rfl rfl ?_
 (repeat (first|refine Spl.t rfl ?_|refine Spl.f rfl ?_))
 have hk:bm a=0:=by unfold bm;rw[if_pos h]
 have hk':(!decide (bm a=0))=false:=by rw[hk];rfl
 refine Spl.f hk' ?_
 (repeat (first|refine Spl.t rfl ?_|refine Spl.f rfl ?_))
 exact FinP.open rfl rfl
theorem eqI (a b:ID):eqT Tryz.prog 3 54 [.int .i64 a.c,.int .i64 a.s] [.int .i64 b.c,.int .i64 b.s]=some (decide (a=b)):=by
 show some (decide (a.c=b.c)&&(decide (a.s=b.s)&&true))=_
 cases a;cases b;simp
theorem mE:oP Tryz.prog 3 54=true:=by kernel_rfl
theorem p6:Tryz.prog.eqGuardType Tryz.prog.depth 54=false:=by kernel_rfl
end Go.Proofs.E
namespace Go.Proofs.E
theorem pU (c:UInt8):∀(l:List UInt8),c∉l→Lib.index l [c]=-1
 |[],_=>by simp[Lib.index]
 |b::l,h=>by
  have h1:c≠b:=fun e=>h (by simp[e])
  have h3:([c].isPrefixOf (b::l))=false:=by simp[List.isPrefixOf,h1]
  rw[Lib.index,h3,pU c l fun hc=>h (by simp[hc])]
  rfl
theorem zI (a b c:List UInt8)(h1:(32:UInt8)∉a)(h2:(32:UInt8)∉b)(h3:(32:UInt8)∉c):
 Lib.count (a++32::(b++32::c)) [32]=2∧Lib.splitK [32] 0 2 (a++32::(b++32::c))=[a,b,c]:=by
 have i1:=jv 32 (b++32::c) a h1
 have i2:=jv 32 c b h2
 have i3:=pU 32 c h3
 have d1:(a++32::(b++32::c)).drop (a.length+[(32:UInt8)].length)=b++32::c:=by simp
 have d2:(b++32::c).drop (b.length+[(32:UInt8)].length)=c:=by simp
 constructor
 ·rw[Lib.count_hit (by simp) i1,d1,Lib.count_hit (by simp) i2,d2,Lib.count_miss i3]
 ·simp only[Lib.splitK]
  rw[i1,if_neg (by simp),show((a.length:Int).toNat)=a.length by omega,d1,i2,if_neg (by simp),show((b.length:Int).toNat)=b.length by omega,d2]
  simp
theorem wW (a b c:List UInt8)(h1:(32:UInt8)∉a)(h2:(32:UInt8)∉b)(h3:(32:UInt8)∉c)(hl:a.length+b.length+c.length≤1000000):
 Cv 148 [sv (a++32::(b++32::c)),sv [32]] (.full 1 ([a,b,c].map fun s=>[.v (.string ⟨⟨s⟩⟩)])):=by
 obtain⟨s1,s2⟩:=zI a b c h1 h2 h3
 have hc:Lib.countB ⟨⟨a++32::(b++32::c)⟩⟩ ⟨⟨[32]⟩⟩=2:=s1
 have hs:=Lib.splitB_data ⟨⟨[32]⟩⟩ 0 2 ⟨⟨a++32::(b++32::c)⟩⟩
 rw[show(⟨⟨[32]⟩⟩:ByteArray).data.toList=[32]from rfl,show(⟨⟨a++32::(b++32::c)⟩⟩:ByteArray).data.toList=a++32::(b++32::c)from rfl,s2]at hs
 have hp:Lib.splitB ⟨⟨[32]⟩⟩ 0 2 ⟨⟨a++32::(b++32::c)⟩⟩=[⟨⟨a⟩⟩,⟨⟨b⟩⟩,⟨⟨c⟩⟩]:=by
  have inj:∀(x:ByteArray)(l:List UInt8),x.data.toList=l→x=⟨⟨l⟩⟩:=fun x l h=>by cases x;rename_i d;cases d;simp at h;subst h;rfl
  match hq:Lib.splitB ⟨⟨[32]⟩⟩ 0 2 ⟨⟨a++32::(b++32::c)⟩⟩,hs with
  |[x,y,z],hs=>
   simp only[List.map_cons,List.map_nil,List.cons.injEq,and_true]at hs
   rw[inj x a hs.1,inj y b hs.2.1,inj z c hs.2.2]
  |[],hs=>simp at hs
  |[_],hs=>simp at hs
  |[_,_],hs=>simp at hs
  |_::_::_::_::_,hs=>simp at hs
 refine qI [.string ⟨⟨a++32::(b++32::c)⟩⟩,.string ⟨⟨[32]⟩⟩] [.string ⟨⟨a⟩⟩,.string ⟨⟨b⟩⟩,.string ⟨⟨c⟩⟩] 9 (fun u hu=>by simp at hu;rcases hu with rfl|rfl|rfl<;>rfl) (by simp) fun w hΛ=>?_
 obtain⟨m,hm⟩:=hΛ.2
 refine(Tryz.strings_Split ⟨⟨a++32::(b++32::c)⟩⟩ ⟨⟨[32]⟩⟩ m w (by show List.length _<_;simp;omega) hm (by decide)).mono fun e w' ⟨he,hw⟩=>?_
 rw[hc,hp]at hw
 rw[hc]at he
 exact⟨he,hw⟩
theorem gK (s p:List UInt8):Cv 146 [sv s,sv p] (.tup [sv (Lib.trimPrefix s p),bv (Lib.hasPrefix s p)]):=
 dM fun γ H w vs hΛ hok hl hr=>by
  have e:=fO (xs:=[.string ⟨⟨s⟩⟩,.string ⟨⟨p⟩⟩]) hl hr
  subst e
  refine(Tryz.strings_CutPrefix ⟨⟨s⟩⟩ ⟨⟨p⟩⟩ w).mono fun e w' ⟨he,hw⟩=>⟨_,H,he,?_,by rw[hw];exact Mem.start hok γ⟩
  exact .tup _ [_,_] rfl (dr (.d _ _ (.v _ rfl)) (dr (.d _ _ (.v _ rfl)) mU))
theorem kT (s:List UInt8)(c:UInt8):Cv 190 [sv s,u8v c.toNat] (iv (Lib.indexByte s c)):=
 bS [.string ⟨⟨s⟩⟩,.int .u8 c.toNat] rfl fun w hw=>(Tryz.strings_IndexByte ⟨⟨s⟩⟩ c.toNat w).mono fun _ _ ⟨he,hw⟩=>⟨by rw[he];simp,by rw[hw];exact Keeps.refl _ _⟩
end Go.Proofs.E
namespace Go.Proofs.E
def mL:List UInt8:=[48,49,50,51,52,53,54,55,56,57,97,98,99,100,101,102]
theorem y9:∀k:Fin 16,Lib.indexByte mL (hx k.val)=(k.val:Int):=by decide
theorem y8:∀k:Fin 16,hx k.val≠32∧(0<k.val→hx k.val≠48):=by decide
theorem pV (n:Nat):∀b,b∈dl n→∃k,k<16∧b=hx k:=by
 induction n using Nat.strongRecOn with
 |_ n ih=>
  intro b hb
  rw[dl]at hb
  split at hb
  ·simp at hb;exact⟨n,by assumption,hb⟩
  ·rcases List.mem_append.1 hb with h|h
   ·exact ih (n/16) (by omega) b h
   ·simp at h;exact⟨n % 16,by omega,h⟩
theorem uf (n:Nat)(h:0<n):∃b r,dl n=b::r∧b≠48:=by
 induction n using Nat.strongRecOn with
 |_ n ih=>
  rw[dl]
  split
  ·exact⟨_,_,rfl,(y8 ⟨n,by assumption⟩).2 h⟩
  ·obtain⟨b,r,hb,hn⟩:=ih (n/16) (by omega) (by omega)
   rw[hb];exact⟨b,_,rfl,hn⟩
def dgx (b:UInt8):Nat:=(Lib.indexByte mL b).toNat
theorem rN (k:Nat)(h:k<16):dgx (hx k)=k:=by unfold dgx;rw[y9 ⟨k,h⟩];simp
def ig (l:List UInt8):Nat:=l.foldl (fun a b=>16*a+dgx b) 0
theorem nx (l:List UInt8)(b:UInt8):ig (l++[b])=16*ig l+dgx b:=by simp[ig]
theorem v8 (n:Nat):ig (dl n)=n:=by
 induction n using Nat.strongRecOn with
 |_ n ih=>
  rw[dl]
  split
  ·next h=>simp[ig,rN n h]
  ·rw[nx,ih (n/16) (by omega),rN _ (by omega)];omega
theorem p4:∀(l:List UInt8)(a:Nat),(∀b,b∈l→dgx b<16)→l.foldl (fun a b=>16*a+dgx b) a<(a+1)*16^l.length
 |[],a,_=>by simp
 |b::r,a,h=>by
  have h1:=p4 r (16*a+dgx b) fun c hc=>h c (by simp[hc])
  have h2:=h b (by simp)
  rw[List.foldl_cons,List.length_cons,Nat.pow_succ]
  refine Nat.lt_of_lt_of_le h1 ?_
  rw[Nat.mul_comm (16^r.length) 16,←Nat.mul_assoc]
  exact Nat.mul_le_mul_right _ (by omega)
theorem xO (l:List UInt8)(h:∀b,b∈l→dgx b<16):ig l<16^l.length:=by simpa[ig]using p4 l 0 h
theorem pc (x:Int)(h:0≤x)(h':x≤2147483647):IntKind.i32.wrap x=x:=by
 simp only[IntKind.wrap,IntKind.signed,IntKind.bits];simp;omega
theorem Bf (n:Nat)(h0:0<n)(hn:n≤1114111):Cv 149 [sv (dl n)] (.tup [cv n,bv true]):=by
 obtain⟨b0,r0,hb0,hb1⟩:=uf n h0
 have hlen:=mo n 6 (by omega) (by omega)
 have hmem:=pV n
 have hv:=v8 n
 generalize dl n=l at*
 have hdg:∀b,b∈l→Lib.indexByte mL b=(dgx b:Int)∧dgx b<16:=fun b hb=>by
  obtain⟨k,hk,rfl⟩:=hmem b hb
  rw[rN k hk];exact⟨y9 ⟨k,hk⟩,hk⟩
 have hne:l≠[]:=by rw[hb0];simp
 have hstep:∀i,(h:i<l.length)→ig (l.take (i+1))=16*ig (l.take i)+dgx l[i]:=fun i h=>by rw[nA h,nx]
 have hsmall:∀i,ig (l.take i)<16^6:=fun i=>by
  have h1:=xO (l.take i) fun b h=>(hdg b (List.mem_of_mem_take h)).2
  exact Nat.lt_of_lt_of_le h1 (Nat.pow_le_pow_right (by decide) (by simp;omega))
 refine ab Tryz.f149 Tryz.func149 rfl rfl fun w H B g0=>?_
 refine Spl.f (by simp[hne]) ?_
 (repeat (first|refine Spl.t rfl ?_|refine Spl.f rfl ?_))
 refine Spl.of (fun h1=>?_) (fun h1=>?_)
 ·(repeat (first|refine Spl.t rfl ?_|refine Spl.f rfl ?_))
  refine ByteP.of b0 (by decide) (by rw[hb0];rfl) ?_
  (repeat (first|refine Spl.t rfl ?_|refine Spl.f rfl ?_))
  refine Spl.f (decide_eq_false fun e=>hb1 (by apply UInt8.toNat_inj.1;simp;omega)) ?_
  (repeat (first|refine Spl.t rfl ?_|refine Spl.f rfl ?_))
  (refine Spl.f (decide_eq_false (by omega)) ?_;(repeat (first|refine Spl.t rfl ?_|refine Spl.f rfl ?_));refine dK (V:=Nat) (fun v=>[(26,iv v),(4,iv (ig (l.take v)))]) (fun _=>[]) (fun v=>l.length-v) (fun v=>v≤l.length) 0 (by omega) (by repeat' (first|exact trivial|exact rfl|refine And.intro ?_ ?_)) (by repeat' (first|exact trivial|exact rfl|refine And.intro ?_ ?_)) ?_;intro i hi;refine Spl.of (fun h=>?_) (fun h=>?_))
  ·(have hlt:i<l.length:=(by have:=of_decide_eq_true h;simp at this;omega);have hbi:=hdg l[i] (by simp);have hs:=hstep i hlt;have h6:=hsmall (i+1);have h7:=hsmall i;(repeat (first|refine Spl.t rfl ?_|refine Spl.f rfl ?_));refine ByteP.of l[i] (by omega) (by simp[hlt]) ?_;refine aa (kT mL l[i]) (fun _ _=>rfl) rfl rfl rfl ?_;refine Spl.f (decide_eq_false (by omega)) ?_;(repeat (first|refine Spl.t rfl ?_|refine Spl.f rfl ?_));exact⟨i+1,by omega,by omega,⟨aE (am _ (by omega) (by omega)),aE (by rw[hbi.1,am (16*((ig (l.take i):Nat):Int)) (by omega) (by omega),am _ (by omega) (by omega)];omega),trivial⟩,(by repeat' (first|exact trivial|exact rfl|refine And.intro ?_ ?_)),(by repeat' (first|exact trivial|exact rfl|refine And.intro ?_ ?_))⟩)
  ·(have he:i=l.length:=(by have:=of_decide_eq_false h;simp at this;omega);(repeat (first|refine Spl.t rfl ?_|refine Spl.f rfl ?_));refine FinP.open rfl ?_;show AV.tup [cv (IntKind.i32.wrap (ig (l.take i))),_]=_;rw[he,List.take_length,hv,pc _ (by omega) (by omega)];rfl)
 ·(repeat (first|refine Spl.t rfl ?_|refine Spl.f rfl ?_))
  (refine Spl.f (decide_eq_false (by omega)) ?_;(repeat (first|refine Spl.t rfl ?_|refine Spl.f rfl ?_));refine dK (V:=Nat) (fun v=>[(26,iv v),(4,iv (ig (l.take v)))]) (fun _=>[]) (fun v=>l.length-v) (fun v=>v≤l.length) 0 (by omega) (by repeat' (first|exact trivial|exact rfl|refine And.intro ?_ ?_)) (by repeat' (first|exact trivial|exact rfl|refine And.intro ?_ ?_)) ?_;intro i hi;refine Spl.of (fun h=>?_) (fun h=>?_))
  ·(have hlt:i<l.length:=(by have:=of_decide_eq_true h;simp at this;omega);have hbi:=hdg l[i] (by simp);have hs:=hstep i hlt;have h6:=hsmall (i+1);have h7:=hsmall i;(repeat (first|refine Spl.t rfl ?_|refine Spl.f rfl ?_));refine ByteP.of l[i] (by omega) (by simp[hlt]) ?_;refine aa (kT mL l[i]) (fun _ _=>rfl) rfl rfl rfl ?_;refine Spl.f (decide_eq_false (by omega)) ?_;(repeat (first|refine Spl.t rfl ?_|refine Spl.f rfl ?_));exact⟨i+1,by omega,by omega,⟨aE (am _ (by omega) (by omega)),aE (by rw[hbi.1,am (16*((ig (l.take i):Nat):Int)) (by omega) (by omega),am _ (by omega) (by omega)];omega),trivial⟩,(by repeat' (first|exact trivial|exact rfl|refine And.intro ?_ ?_)),(by repeat' (first|exact trivial|exact rfl|refine And.intro ?_ ?_))⟩)
  ·(have he:i=l.length:=(by have:=of_decide_eq_false h;simp at this;omega);(repeat (first|refine Spl.t rfl ?_|refine Spl.f rfl ?_));refine FinP.open rfl ?_;show AV.tup [cv (IntKind.i32.wrap (ig (l.take i))),_]=_;rw[he,List.take_length,hv,pc _ (by omega) (by omega)];rfl)
end Go.Proofs.E
namespace Go.Proofs.E
theorem bC {o:OP}(h:aC o=0):bg o.i=true∧((o.k=1∧bu o.a=true∧o.ch=0)∨(o.k=0∧(bu o.a=true∨bg o.a=true)∧32≤o.ch∧o.ch≤1114111)):=by
 unfold aC at h
 split at h
 ·cases h
 ·next h1=>
  split at h
  ·cases h
  ·next h2=>
   split at h
   ·cases h
   ·next h3=>
    split at h
    ·cases h
    ·next h4=>
     split at h
     ·cases h
     ·next h5=>
      have m1:bg o.i=true:=by
       cases e:bg o.i with
       |true=>rfl
       |false=>exact absurd (.inl e) h3
      have m2:bu o.a=true∨bg o.a=true:=by
       cases e:bu o.a with
       |true=>exact .inl rfl
       |false=>
        cases e':bg o.a with
        |true=>exact .inr rfl
        |false=>exact absurd (.inr ⟨e,e'⟩) h3
      refine⟨m1,?_⟩
      by_cases k1:o.k=1
      ·left
       refine⟨k1,?_,?_⟩
       ·cases e:bu o.a with
        |true=>rfl
        |false=>exact absurd ⟨k1,.inl e⟩ h2
       ·by_cases e:o.ch=0
        ·exact e
        ·exact absurd ⟨k1,.inr e⟩ h2
      ·right
       have k0:o.k=0:=by omega
       exact⟨k0,m2,by omega,by omega⟩
theorem jj {a:ID}(h:bu a=true):a=⟨0,0⟩:=by
 have:=of_decide_eq_true h
 cases a;simp_all
theorem j7 {a:ID}(h:bu a=true):aQ a=[45]:=if_pos h
theorem ts {a:ID}(h:bg a=true):aQ a=Lib.itoa a.c++46::Lib.itoa a.s∧(46:UInt8)∉Lib.itoa a.c∧(32:UInt8)∉aQ a∧aQ a≠[45]:=by
 obtain⟨a1,a2,a3,a4⟩:=bf h
 have hn:¬bu a=true:=by unfold bu;simp;omega
 have ht:aQ a=Lib.itoa a.c++46::Lib.itoa a.s:=by rw[aQ,if_neg hn,if_pos h];simp
 have hb1:∀b,b∈Lib.itoa a.c→48≤b.toNat∧b.toNat≤57:=by rw[cb _ (by omega)];exact lj _
 have hb2:∀b,b∈Lib.itoa a.s→48≤b.toNat∧b.toNat≤57:=by rw[cb _ (by omega)];exact lj _
 refine⟨ht,fun hc=>by have:=hb1 46 hc;simp at this,fun hc=>?_,fun e=>?_⟩
 ·rw[ht]at hc
  simp only[List.mem_append,List.mem_cons]at hc
  rcases hc with h|h|h
  ·have:=hb1 32 h;simp at this
  ·revert h;decide
  ·have:=hb2 32 h;simp at this
 ·rw[ht]at e
  have:=congrArg List.length e
  simp at this
  rw[cb _ (by omega),cb _ (by omega)]at this
  have:=List.length_pos_iff.2 (mM a.c.toNat)
  have:=List.length_pos_iff.2 (mM a.s.toNat)
  omega
theorem sb {a:ID}(h:bu a=true∨bg a=true):(32:UInt8)∉aQ a:=by
 rcases h with h|h
 ·rw[j7 h];decide
 ·exact(ts h).2.2.1
theorem yl (n:Nat):(32:UInt8)∉dl n:=fun h=>by
 obtain⟨k,hk,e⟩:=pV n 32 h
 exact(y8 ⟨k,hk⟩).1 e.symm
theorem na (a:ID)(h:bu a=true∨bg a=true):Cv 185 [sv (aQ a)] (.tup [idv a,iv 0]):=by
 rcases h with h|h
 ·rw[j7 h,jj h]
  refine ab Tryz.f185 Tryz.func185 rfl rfl fun w H B g0=>?_
  (repeat (first|refine Spl.t rfl ?_|refine Spl.f rfl ?_))
  exact FinP.open rfl rfl
 ·exact yO a h
set_option maxHeartbeats 4000000 in
theorem zM (o:OP)(hc:aC o=0):Cv 147 [.agg [iv o.k,iv 0,iv 0,iv 0,iv 0,cv o.ch],sv (aQ o.i),sv (aQ o.a)] (.tup [opv o,iv 0]):=by
 obtain⟨m,h1⟩:=bC hc
 have ha:bu o.a=true∨bg o.a=true:=by
  rcases h1 with⟨_,n1,_⟩|⟨_,n0,_⟩
  ·exact .inl n1
  ·exact n0
 refine ab Tryz.f147 Tryz.func147 rfl rfl fun w H B g0=>?_
 refine aa (na o.i (.inr m)) (fun _ _=>rfl) rfl rfl rfl ?_
 (repeat (first|refine Spl.t rfl ?_|refine Spl.f rfl ?_))
 refine aa (na o.a ha) (fun _ _=>rfl) rfl rfl rfl ?_
 (repeat (first|refine Spl.t rfl ?_|refine Spl.f rfl ?_))
 refine aa (gm _ 1) (fun _ _=>rfl) rfl rfl rfl ?_
 (repeat (first|refine Spl.t rfl ?_|refine Spl.f rfl ?_))
 refine aa (eX [if decide ((0:Int)=1)=true then 1 else 0,0,0] (by simp)) (fun _ _=>rfl) rfl rfl rfl ?_
 (repeat (first|refine Spl.t rfl ?_|refine Spl.f rfl ?_))
 refine kQ rfl ?_;(repeat' (refine And.intro ?_ ?_))
 all_goals refine aa (eM o) (fun _ _=>rfl) rfl rfl rfl ?_
 all_goals (repeat (first|refine Spl.t rfl ?_|refine Spl.f rfl ?_))
 all_goals refine Spl.f (by rw[hc];rfl) ?_
 all_goals (repeat (first|refine Spl.t rfl ?_|refine Spl.f rfl ?_))
 all_goals exact FinP.open rfl rfl
theorem eqO (o p:OP):eqT Tryz.prog 4 56 [.int .i64 o.k,.int .i64 o.i.c,.int .i64 o.i.s,.int .i64 o.a.c,.int .i64 o.a.s,.int .i32 o.ch] [.int .i64 p.k,.int .i64 p.i.c,.int .i64 p.i.s,.int .i64 p.a.c,.int .i64 p.a.s,.int .i32 p.ch]=some (decide (o=p)):=by
 show some (decide (o.k=p.k)&&((decide (o.i.c=p.i.c)&&(decide (o.i.s=p.i.s)&&true))&&((decide (o.a.c=p.a.c)&&(decide (o.a.s=p.a.s)&&true))&&(decide (o.ch=p.ch)&&true))))=_
 obtain⟨a,⟨b,c⟩,⟨d,e⟩,f⟩:=o
 obtain⟨a',⟨b',c'⟩,⟨d',e'⟩,f'⟩:=p
 simp[Bool.and_assoc,and_assoc]
theorem Ag:oP Tryz.prog 4 56=true:=by kernel_rfl
theorem Bh:Tryz.prog.eqGuardType Tryz.prog.depth 56=false:=by kernel_rfl
theorem w4 (o:OP)(hc:aC o=0):Cv 112 [sv (gh o)] (.tup [opv o,iv 0]):=by
 obtain⟨m,h1⟩:=bC hc
 have hk:¬aC o≠0:=fun e=>e hc
 have hr:=zM o hc
 rcases h1 with⟨k1,n1,c1⟩|⟨k0,n0,c0,c1⟩
 ·have ht:gh o=45::aQ o.i:=by rw[gh,if_neg hk,if_pos k1]
  have hp:=gK (45::aQ o.i) [45]
  rw[show Lib.trimPrefix (45::aQ o.i) [45]=aQ o.i from rfl,show Lib.hasPrefix (45::aQ o.i) [45]=true from rfl]at hp
  rw[j7 n1,k1,c1]at hr
  rw[ht]
  refine ab Tryz.f112 Tryz.func112 rfl rfl fun w H B g0=>?_
  refine aa hp (fun _ _=>rfl) rfl rfl rfl ?_
  (repeat (first|refine Spl.t rfl ?_|refine Spl.f rfl ?_))
  refine aa hr (fun _ _=>rfl) rfl rfl rfl ?_
  (repeat (first|refine Spl.t rfl ?_|refine Spl.f rfl ?_))
  exact FinP.open rfl rfl
 ·have ht:gh o=43::(aQ o.i++32::(aQ o.a++32::dl o.ch.toNat)):=by rw[gh,if_neg hk,if_neg (by omega)]
  have hp:=gK (43::(aQ o.i++32::(aQ o.a++32::dl o.ch.toNat))) [45]
  have hq:=gK (43::(aQ o.i++32::(aQ o.a++32::dl o.ch.toNat))) [43]
  rw[show ∀r,Lib.trimPrefix (43::r) [45]=43::r from fun _=>rfl,show ∀r,Lib.hasPrefix (43::r) [45]=false from fun _=>rfl]at hp
  rw[show ∀r,Lib.trimPrefix (43::r) [43]=r from fun _=>rfl,show ∀r,Lib.hasPrefix (43::r) [43]=true from fun _=>rfl]at hq
  have l1:=d7 o.i
  have l2:=d7 o.a
  have l3:=mo o.ch.toNat 15 (by omega) (by omega)
  have hs:=wW (aQ o.i) (aQ o.a) (dl o.ch.toNat) (sb (.inr m)) (sb n0) (yl _) (by omega)
  have hh:=Bf o.ch.toNat (by omega) (by omega)
  rw[show((o.ch.toNat:Nat):Int)=o.ch by omega]at hh
  rw[k0]at hr
  rw[ht]
  refine ab Tryz.f112 Tryz.func112 rfl rfl fun w H B g0=>?_
  refine aa hp (fun _ _=>rfl) rfl rfl rfl ?_
  (repeat (first|refine Spl.t rfl ?_|refine Spl.f rfl ?_))
  refine aa hq (fun _ _=>rfl) rfl rfl rfl ?_
  (repeat (first|refine Spl.t rfl ?_|refine Spl.f rfl ?_))
  refine aa hs (fun _ _=>rfl) rfl rfl rfl ?_
  (repeat (first|refine Spl.t rfl ?_|refine Spl.f rfl ?_))
  refine IdxP.of [.v (.string ⟨⟨dl o.ch.toNat⟩⟩)] (by decide) rfl ?_
  (repeat (first|refine Spl.t rfl ?_|refine Spl.f rfl ?_))
  refine aa hh (fun _ _=>rfl) rfl rfl rfl ?_
  (repeat (first|refine Spl.t rfl ?_|refine Spl.f rfl ?_))
  refine RegP.of rfl (by decide+kernel) ?_
  refine IdxP.of [.v (.string ⟨⟨aQ o.i⟩⟩)] (by decide) rfl ?_
  refine IdxP.of [.v (.string ⟨⟨aQ o.a⟩⟩)] (by decide) rfl ?_
  refine QuietP.of (QJ.call hr (fun _ _=>rfl) rfl rfl) ?_
  exact FinP.open rfl rfl
end Go.Proofs.E
namespace Go.Proofs.E
abbrev uv (n:Nat):AV:=.d (.v (.int .u64 n))
abbrev cv' (n:Int):AV:=.d (.v (.int .i32 n))
structure EN where
 a:ID
 ch:Int
 dead:Bool
 deriving DecidableEq
abbrev enD (e:EN):List D:=[.v (.int .i64 e.a.c),.v (.int .i64 e.a.s),.v (.int .i32 e.ch),.v (.bool e.dead)]
abbrev env (e:EN):AV:=.agg [iv e.a.c,iv e.a.s,cv' e.ch,bv e.dead]
def bL (a:ID):Nat:=a.c.toNat*1024+a.s.toNat
def rM (k n:Nat):Nat:=k/16^(7-n) % 16
def pN (k:Nat):ID:=⟨(k/1024:Nat),(k % 1024:Nat)⟩
theorem wrap_u64 (x:Int)(h:0≤x)(h':x<18446744073709551616):IntKind.u64.wrap x=x:=by
 simp only[IntKind.wrap,IntKind.signed,IntKind.bits];simp;omega
theorem oS (n:Nat)(h:n<2^64):BitVec.ofInt 64 (n:Int)=BitVec.ofNat 64 n:=by
 apply BitVec.eq_of_toNat_eq
 simp[BitVec.toNat_ofInt]
theorem A3 (a b i:Nat)(h:b<2^i)(h2:a*2^i+b<2^64):(BitVec.ofInt 64 ((a*2^i:Nat):Int) ||| BitVec.ofInt 64 (b:Int)).toNat=a*2^i+b:=by
 rw[oS _ (by omega),oS _ (by omega)]
 rw[BitVec.toNat_or,BitVec.toNat_ofNat,BitVec.toNat_ofNat,Nat.mod_eq_of_lt (by omega),Nat.mod_eq_of_lt (by omega),Nat.mul_comm,←Nat.two_pow_add_eq_or_of_lt h]
theorem AD (a i:Nat)(h:a<2^64)(hi:2^i≤2^64):(BitVec.ofInt 64 (a:Int) &&& BitVec.ofInt 64 ((2^i-1:Nat):Int)).toNat=a % 2^i:=by
 rw[oS _ h,oS _ (by have:=Nat.two_pow_pos i;omega)]
 rw[BitVec.toNat_and,BitVec.toNat_ofNat,BitVec.toNat_ofNat,Nat.mod_eq_of_lt h,Nat.mod_eq_of_lt (by have:=Nat.two_pow_pos i;omega),Nat.and_two_pow_sub_one_eq_mod]
theorem lb {a:ID}(h:bg a=true):bL a<2^31:=by
 obtain⟨a1,a2,a3,a4⟩:=bf h
 unfold bL;omega
theorem yY (a m:Nat)(hm:m<64)(h:a*2^m<2^64):po .u64 (a:Int) (m:Int)=((a*2^m:Nat):Int):=by
 unfold po
 have e:min ((m:Nat):Int).toNat IntKind.u64.bits=m:=by
  show min ((m:Nat):Int).toNat 64=m
  simp;omega
 rw[e]
 have e2:(a:Int)*2^m=((a*2^m:Nat):Int):=by simp
 rw[e2,wrap_u64 _ (by omega) (by omega)]
theorem A2 (a b i:Nat)(h:b<2^i)(h2:a*2^i+b<2^64):orI .u64 ((a*2^i:Nat):Int) (b:Int)=((a*2^i+b:Nat):Int):=by
 unfold orI
 have:=A3 a b i h h2
 rw[show(BitVec.ofInt IntKind.u64.bits ((a*2^i:Nat):Int) ||| BitVec.ofInt IntKind.u64.bits (b:Int)).toNat=a*2^i+b from this,wrap_u64 _ (by omega) (by omega)]
theorem zg (a i:Nat)(h:a<2^64)(hi:2^i≤2^64):mW .u64 (a:Int) ((2^i-1:Nat):Int)=((a % 2^i:Nat):Int):=by
 unfold mW
 have:=AD a i h hi
 have hl:a % 2^i<2^i:=Nat.mod_lt _ (Nat.two_pow_pos i)
 rw[show(BitVec.ofInt IntKind.u64.bits (a:Int) &&& BitVec.ofInt IntKind.u64.bits ((2^i-1:Nat):Int)).toNat=a % 2^i from this,wrap_u64 _ (by omega) (by omega)]
theorem yX (k m:Nat)(hm:m<64):ii .u64 (k:Int) (m:Int)=((k/2^m:Nat):Int):=by
 unfold ii
 have e:min ((m:Nat):Int).toNat IntKind.u64.bits=m:=by
  show min ((m:Nat):Int).toNat 64=m
  simp;omega
 rw[e,Int.fdiv_eq_ediv_of_nonneg _ (Int.pow_nonneg (by decide))]
 simp
theorem z5 {c s:Int}(h1:0≤c)(h2:c≤1048576)(h3:0≤s)(h4:s≤1000):orI .u64 (po .u64 (IntKind.u64.wrap c) ((10:Nat):Int)) (IntKind.u64.wrap s)=((c.toNat*1024+s.toNat:Nat):Int):=by
 have e1:IntKind.u64.wrap c=((c.toNat:Nat):Int):=by rw[wrap_u64 c h1 (by omega)];omega
 have e2:IntKind.u64.wrap s=((s.toNat:Nat):Int):=by rw[wrap_u64 s h3 (by omega)];omega
 rw[e1,e2,yY _ _ (by decide) (by omega),A2 _ _ _ (by omega) (by omega)]
theorem v5 (a:ID)(h:bg a=true):Cv 298 [idv a] (uv (bL a)):=by
 obtain⟨a1,a2,a3,a4⟩:=bf h
 refine ab Tryz.f298 Tryz.func298 rfl rfl fun w H B g0=>?_
 refine Req.of (by decide) ?_
 exact FinP.open rfl (congrArg (fun z:Int=>AV.d (.v (.int .u64 z))) (z5 (by omega) a2 (by omega) a4))
theorem zR (m:Nat):2^(4*m)=16^m:=by rw[Nat.pow_mul]
theorem wA (k n:Nat)(hk:k<2^63)(hn:n<8):IntKind.i64.wrap (mW .u64 (ii .u64 (k:Int) (IntKind.i64.wrap (4*IntKind.i64.wrap (7-(n:Int))))) ((2^4-1:Nat):Int))=((rM k n:Nat):Int):=by
 have e:IntKind.i64.wrap (4*IntKind.i64.wrap (7-(n:Int)))=((4*(7-n):Nat):Int):=by
  rw[am (7-(n:Int)) (by omega) (by omega),am _ (by omega) (by omega)];omega
 have h1:=Nat.div_le_self k (2^(4*(7-n)))
 rw[e,yX k _ (by omega),zg _ 4 (by omega) (by decide),zR]
 unfold rM
 rw[am _ (by omega) (by omega)]
theorem sU (k n:Nat)(hk:k<2^63)(hn:n<8):Cv 297 [uv k,iv n] (iv (rM k n)):=by
 refine ab Tryz.f297 Tryz.func297 rfl rfl fun w H B g0=>?_
 refine Req.of (by rw[am (7-(n:Int)) (by omega) (by omega),am _ (by omega) (by omega)];omega) ?_
 exact FinP.open rfl (congrArg iv (wA k n hk hn))
theorem BN {a b c d:Int}(h:a=c)(k:b=d):AV.agg [iv a,iv b]=AV.agg [iv c,iv d]:=by rw[h,k]
theorem sC (k:Nat)(hk:k<2^63):Cv 264 [uv k] (idv (pN k)):=by
 have e1:IntKind.i64.wrap (ii .u64 (k:Int) ((10:Nat):Int))=((k/1024:Nat):Int):=by
  rw[yX k 10 (by decide)];exact am _ (by omega) (by omega)
 have e2:IntKind.i64.wrap (mW .u64 (k:Int) ((2^10-1:Nat):Int))=((k % 1024:Nat):Int):=by
  rw[zg k 10 (by omega) (by decide)];exact am _ (by omega) (by omega)
 refine ab Tryz.f264 Tryz.func264 rfl rfl fun w H B g0=>?_
 refine Req.of (by decide) ?_
 exact FinP.open rfl (BN e1 e2)
end Go.Proofs.E
namespace Go.Proofs.E
inductive PT where
 |nil
 |node (ks:List PT) (e:Option EN)
abbrev nilD:D:=.v (.pointer none)
abbrev eD:Option EN→D
 |none=>nilD
 |some e=>.ptr (enD e)
mutual
def PT.d:PT→D
 |.nil=>nilD
 |.node ks e=>.ptr (PT.ds ks++[eD e])
def PT.ds:List PT→List D
 |[]=>[]
 |k::ks=>k.d::PT.ds ks
end
theorem rL:∀(ks:List PT),PT.ds ks=ks.map PT.d
 |[]=>rfl
 |k::ks=>by rw[PT.ds,List.map_cons,rL ks]
theorem rn (ks:List PT)(e:Option EN):(PT.node ks e).d=.ptr (ks.map PT.d++[eD e]):=by rw[PT.d,rL]
def gy:List PT:=[.nil,.nil,.nil,.nil,.nil,.nil,.nil,.nil,.nil,.nil,.nil,.nil,.nil,.nil,.nil,.nil]
def PT.kids:PT→List PT
 |.nil=>gy
 |.node ks _=>ks
def PT.ent:PT→Option EN
 |.nil=>none
 |.node _ e=>e
def PT.isNil:PT→Bool
 |.nil=>true
 |_=>false
def dg (k r:Nat):Nat:=k/16^r % 16
def PT.put:Nat→Nat→EN→PT→PT
 |0,_,e,p=>.node p.kids (some e)
 |r+1,k,e,p=>.node (p.kids.set (dg k r) (PT.put r k e (p.kids.getD (dg k r) .nil))) p.ent
def PT.get:Nat→Nat→PT→Option EN
 |_,_,.nil=>none
 |0,_,.node _ e=>e
 |r+1,k,.node ks _=>PT.get r k (ks.getD (dg k r) .nil)
def PT.wf:Nat→PT→Prop
 |0,p=>p=.nil∨∃e,p=.node gy (some e)
 |r+1,p=>p=.nil∨∃ks,p=.node ks none∧ks.length=16∧(∀q,q∈ks→PT.wf r q)∧∃q,q∈ks∧q.isNil=false
theorem jQ:∀r,PT.wf r .nil
 |0=>.inl rfl
 |_+1=>.inl rfl
theorem ma {r:Nat}{p:PT}(h:PT.wf r p):p.kids.length=16:=by
 cases r with
 |zero=>rcases h with rfl|⟨e,rfl⟩<;>rfl
 |succ r=>
  rcases h with rfl|⟨ks,rfl,h1,_⟩
  ·rfl
  ·exact h1
theorem oM {r:Nat}{p:PT}(h:PT.wf (r+1) p):∀q,q∈p.kids→PT.wf r q:=by
 rcases h with rfl|⟨ks,rfl,_,h2,_⟩
 ·intro q hq
  have:q=.nil:=by simp[PT.kids,gy]at hq;exact hq
  rw[this];exact jQ r
 ·exact h2
theorem zP (r k:Nat)(e:EN)(p:PT):(PT.put r k e p).isNil=false:=by cases r<;>rfl
theorem qd (k r:Nat):dg k r<16:=Nat.mod_lt _ (by decide)
theorem vu:∀(r k:Nat)(e:EN)(p:PT),PT.wf r p→PT.wf r (PT.put r k e p)
 |0,k,e,p,h=>.inr ⟨e,by rcases h with rfl|⟨e',rfl⟩<;>rfl⟩
 |r+1,k,e,p,h=>by
  have hl:=ma h
  have hw:=oM h
  refine .inr ⟨p.kids.set (dg k r) (PT.put r k e (p.kids.getD (dg k r) .nil)),?_,by rw[List.length_set];exact hl,fun q hq=>?_,?_⟩
  ·rw[PT.put]
   congr 1
   rcases h with rfl|⟨ks,rfl,_⟩<;>rfl
  ·rcases List.mem_or_eq_of_mem_set hq with h1|h1
   ·exact hw q h1
   ·rw[h1]
    refine vu r k e _ ?_
    rw[List.getD_eq_getElem?_getD]
    cases hx:p.kids[dg k r]? with
    |none=>exact jQ r
    |some q=>exact hw q (List.mem_of_getElem? hx)
  ·have hx:(p.kids.set (dg k r) (PT.put r k e (p.kids.getD (dg k r) .nil)))[dg k r]?=some (PT.put r k e (p.kids.getD (dg k r) .nil)):=by
    rw[List.getElem?_set,if_pos rfl,if_pos (by rw[hl];exact qd k r)]
   exact⟨PT.put r k e (p.kids.getD (dg k r) .nil),List.mem_of_getElem? hx,zP r k e _⟩
theorem y5 {α:Type}{l:List α}(h:l.length=16):∃a0 a1 a2 a3 a4 a5 a6 a7 a8 a9 a10 a11 a12 a13 a14 a15,l=[a0,a1,a2,a3,a4,a5,a6,a7,a8,a9,a10,a11,a12,a13,a14,a15]:=by
 match l,h with
 |[a0,a1,a2,a3,a4,a5,a6,a7,a8,a9,a10,a11,a12,a13,a14,a15],_=>exact⟨_,_,_,_,_,_,_,_,_,_,_,_,_,_,_,_,rfl⟩
theorem sX:∀(l:List D),eN (l.map AV.d)=some l
 |[]=>rfl
 |x::l=>by simp[eN,sX l,dOf]
theorem yz {k r:Nat}(hr:r+1≤8):rM k (8-(r+1))=dg k r:=by
 unfold rM dg
 rw[show 7-(8-(r+1))=r by omega]
abbrev cellsP (ks:List PT)(e:Option EN):List AV:=ks.map (fun q=>AV.d q.d)++[.d (eD e)]
theorem cells_get {ks:List PT}{e:Option EN}{m:Nat}{q:PT}(h:ks[m]?=some q):(cellsP ks e)[0+0+(m:Int).toNat*1]?=some (.d q.d):=by
 have hm:=(List.getElem?_eq_some_iff.1 h).1
 have e1:0+0+(m:Int).toNat*1=m:=by simp
 rw[e1,List.getElem?_append_left (by simpa using hm)];simp[h]
theorem n7 {ks:List PT}{e:Option EN}{m:Nat}(q:PT)(h:m<ks.length):jg (.cells (bF (cellsP ks e) (0+0+(m:Int).toNat*1) [.d q.d]))=some (.c ((ks.set m q).map PT.d++[eD e])):=by
 have e1:0+0+(m:Int).toNat*1=m:=by simp
 have e2:bF (cellsP ks e) m [.d q.d]=((ks.set m q).map PT.d++[eD e]).map AV.d:=by
  show(cellsP ks e).set m (.d q.d)=_
  rw[List.set_append_left _ _ (by simpa using h),List.map_append,List.map_map,List.map_set]
  rfl
 rw[e1,e2]
 simp only[jg,sX]
theorem j8 (m:Nat):gy.getD m .nil=.nil:=by
 rw[List.getD_eq_getElem?_getD]
 cases h:gy[m]? with
 |none=>rfl
 |some q=>have:=List.mem_of_getElem? h;simp[gy]at this;exact this
theorem vM {m:Nat}(h:m<16):gy[m]?=some .nil:=by
 cases h2:gy[m]? with
 |none=>rw[List.getElem?_eq_none_iff]at h2;simp[gy]at h2;omega
 |some q=>have:=List.mem_of_getElem? h2;simp[gy]at this;rw[this]
set_option maxHeartbeats 4000000 in
theorem y0:∀(r k:Nat)(e:EN)(p:PT),r≤8→k<2^63→PT.wf r p→Cv 300 [.d p.d,uv k,iv ((8-r:Nat):Int),env e] (.d (PT.put r k e p).d)
 |0,k,e,p,hr,hk,hw=>by
  rcases hw with rfl|⟨e',rfl⟩
  ·refine ab Tryz.f300 Tryz.func300 rfl rfl fun w H B g0=>?_
   (repeat (first|refine Spl.t rfl ?_|refine Spl.f rfl ?_))
   exact FinP.pub 7 rfl rfl (FinP.pub 12 rfl rfl (FinP.open rfl rfl))
  ·refine ab Tryz.f300 Tryz.func300 rfl rfl fun w H B g0=>?_
   (repeat (first|refine Spl.t rfl ?_|refine Spl.f rfl ?_))
   exact FinP.pub 7 rfl rfl (FinP.pub 12 rfl rfl (FinP.open rfl rfl))
 |r+1,k,e,p,hr,hk,hw=>by
  have hd:=sU k (8-(r+1)) hk (by omega)
  rw[yz hr]at hd
  have ih:=fun q (hq:PT.wf r q)=>y0 r k e q (by omega) hk hq
  have hlt:=qd k r
  have e8:¬((8-(r+1):Nat):Int)=8:=by omega
  have e9:IntKind.i64.wrap (((8-(r+1):Nat):Int)+1)=((8-r:Nat):Int):=by rw[am _ (by omega) (by omega)];omega
  rcases hw with rfl|⟨ks,rfl,hl,hws,_⟩
  ·refine ab Tryz.f300 Tryz.func300 rfl rfl fun w H B g0=>?_
   (repeat (first|refine Spl.t rfl ?_|refine Spl.f rfl ?_))
   refine Spl.f (decide_eq_false e8) ?_
   refine aa hd (fun _ _=>rfl) rfl rfl rfl ?_
   refine aB 0 16 [] rfl (by decide+kernel) ?_
   refine Req.of ⟨by omega,by omega⟩ ?_
   refine CellP.of (.d PT.nil.d) (cells_get (ks:=gy) (e:=none) (vM hlt)) ?_
   refine QuietP.of (QJ.call (ih .nil (jQ r)) (fun _ _=>rfl) (by rw[←e9];rfl) rfl) ?_
   refine Req.of ⟨by omega,by omega⟩ ?_
   refine Req.of (show 0+0+((dg k r:Nat):Int).toNat*1+1≤17 by simp;omega) ?_
   refine FinP.pub 12 rfl (n7 (ks:=gy) (e:=none) (PT.put r k e .nil) hlt) (FinP.open rfl ?_)
   rw[PT.put,show PT.nil.kids=gy from rfl,j8,rn];rfl
  ·have hlk:dg k r<ks.length:=by omega
   obtain⟨q,hq⟩:∃q,ks[dg k r]?=some q:=⟨ks[dg k r],by simp[hlk]⟩
   have hqw:=hws q (List.mem_of_getElem? hq)
   have hput:PT.put (r+1) k e (.node ks none)=.node (ks.set (dg k r) (PT.put r k e q)) none:=by
    rw[PT.put,show(PT.node ks none).kids=ks from rfl,List.getD_eq_getElem?_getD,hq];rfl
   rw[hput,rn,rn]
   obtain⟨a0,a1,a2,a3,a4,a5,a6,a7,a8,a9,a10,a11,a12,a13,a14,a15,rfl⟩:=y5 hl
   refine ab Tryz.f300 Tryz.func300 rfl rfl fun w H B g0=>?_
   (repeat (first|refine Spl.t rfl ?_|refine Spl.f rfl ?_))
   refine Spl.f (decide_eq_false e8) ?_
   refine aa hd (fun _ _=>rfl) rfl rfl rfl ?_
   refine aB 0 16 [] rfl (by decide+kernel) ?_
   refine Req.of ⟨by omega,by omega⟩ ?_
   refine CellP.of (.d q.d) (cells_get (ks:=[a0,a1,a2,a3,a4,a5,a6,a7,a8,a9,a10,a11,a12,a13,a14,a15]) (e:=none) hq) ?_
   refine QuietP.of (QJ.call (ih q hqw) (fun _ _=>rfl) (by rw[←e9];rfl) rfl) ?_
   refine Req.of ⟨by omega,by omega⟩ ?_
   refine Req.of (show 0+0+((dg k r:Nat):Int).toNat*1+1≤17 by simp;omega) ?_
   refine FinP.pub 12 rfl (n7 (ks:=[a0,a1,a2,a3,a4,a5,a6,a7,a8,a9,a10,a11,a12,a13,a14,a15]) (e:=none) (PT.put r k e q) hlt) (FinP.open rfl ?_)
   rfl
end Go.Proofs.E
namespace Go.Proofs.E
abbrev lX (p:PT)(n:Int):AV:=.agg [.d p.d,iv n]
def EN.zero:EN:=⟨⟨0,0⟩,0,false⟩
def oO (p:PT)(a:ID):Option EN:=if bg a=true then PT.get 8 (bL a) p else none
abbrev Ab:Option EN→AV
 |some e=>.tup [env e,bv true]
 |none=>.tup [env EN.zero,bv false]
def BH (k:Nat)(p:PT):Nat→PT
 |0=>p
 |i+1=>(BH k p i).kids.getD (dg k (7-i)) .nil
theorem lQ {ks:List PT}{e:Option EN}{m:Nat}{q:PT}(h:ks[m]?=some q):(PT.ds ks++[eD e]).drop (m*1)=q.d::(ks.map PT.d++[eD e]).drop (m+1):=by
 have hm:=(List.getElem?_eq_some_iff.1 h).1
 rw[rL,Nat.mul_one,List.drop_eq_getElem_cons (by simp;omega)]
 congr 1
 rw[List.getElem_append_left (by simpa using hm),List.getElem_map]
 congr 1
 exact(List.getElem?_eq_some_iff.1 h).2
theorem xA (p:PT)(n:Int)(a:ID)(hw:PT.wf 8 p):Cv 284 [lX p n,idv a] (Ab (oO p a)):=by
 refine ab Tryz.f284 Tryz.func284 rfl rfl fun w H B g0=>?_
 refine aa (dx a) (fun _ _=>rfl) rfl rfl rfl ?_
 refine Spl.of (fun h=>?_) (fun h=>?_)
 ·have hm:¬bg a=true:=fun y=>by simp[bm,y]at h
  rw[oO,if_neg hm]
  exact FinP.open rfl rfl
 ·have hm:bg a=true:=by
   cases y:bg a with
   |true=>rfl
   |false=>simp[bm,y]at h
  rw[oO,if_pos hm]
  (repeat (first|refine Spl.t rfl ?_|refine Spl.f rfl ?_))
  refine ba (V:=Nat×PT) (fun v=>[(7,iv v.1),(6,.d v.2.d)]) (fun _=>[]) [] (fun v=>8-v.1) (fun v=>v.1≤8∧PT.wf (8-v.1) v.2∧PT.get (8-v.1) (bL a) v.2=PT.get 8 (bL a) p) (0,p) ⟨by omega,hw,rfl⟩ (by repeat' (first|exact trivial|exact rfl|refine And.intro ?_ ?_)) (by repeat' (first|exact trivial|exact rfl|refine And.intro ?_ ?_)) ?_
  rintro⟨i,q⟩ ⟨hi,hq,hg⟩
  simp only at hi hq hg
  refine Spl.of (fun h1=>?_) (fun h1=>?_)
  ·have hlt:i<8:=by have:=of_decide_eq_true h1;simp only at this;omega
   obtain⟨r,hr⟩:∃r,8-i=r+1:=⟨7-i,by omega⟩
   rw[hr]at hq hg
   rcases hq with rfl|⟨ks,rfl,hl,hws,_⟩
   ·have hn:PT.get 8 (bL a) p=none:=by rw[←hg];cases r<;>rfl
    rw[hn]
    (repeat (first|refine Spl.t rfl ?_|refine Spl.f rfl ?_))
    exact FinP.open rfl rfl
   ·have hd:=sU (bL a) i (by have:=lb hm;omega) hlt
    have e1:rM (bL a) i=dg (bL a) r:=by unfold rM dg;rw[show 7-i=r by omega]
    rw[e1]at hd
    have hlt2:=qd (bL a) r
    obtain⟨q',hq'⟩:∃q',ks[dg (bL a) r]?=some q':=⟨ks[dg (bL a) r]'(by omega),by simp⟩
    have e2:8-(i+1)=r:=by omega
    have hg':PT.get r (bL a) q'=PT.get 8 (bL a) p:=by
     rw[←hg,PT.get,List.getD_eq_getElem?_getD,hq'];rfl
    (repeat (first|refine Spl.t rfl ?_|refine Spl.f rfl ?_))
    refine RegP.of rfl (by decide+kernel) ?_
    refine QuietP.of (QJ.call (v5 a hm) (fun _ _=>rfl) rfl rfl) ?_
    refine QuietP.of (QJ.call hd (fun _ _=>rfl) rfl rfl) ?_
    refine Req.of ⟨by omega,by omega⟩ ?_
    refine DropP.of _ (lQ hq') (Nat.succ_le_succ (Nat.zero_le _)) ?_
    (repeat (first|refine Spl.t rfl ?_|refine Spl.f rfl ?_))
    exact⟨(i+1,q'),⟨by simp only;omega,by simp only[e2];exact hws q' (List.mem_of_getElem? hq'),by simp only[e2];exact hg'⟩,by simp only;omega,⟨aE (am _ (by omega) (by omega)),rfl,trivial⟩,(by repeat' (first|exact trivial|exact rfl|refine And.intro ?_ ?_)),(by repeat' (first|exact trivial|exact rfl|refine And.intro ?_ ?_)),(by repeat' (first|exact trivial|exact rfl|refine And.intro ?_ ?_))⟩
  ·have he:i=8:=by have:=of_decide_eq_false h1;simp only at this;omega
   subst he
   rcases hq with rfl|⟨e,rfl⟩
   ·have hn:PT.get 8 (bL a) p=none:=by rw[←hg];rfl
    rw[hn]
    (repeat (first|refine Spl.t rfl ?_|refine Spl.f rfl ?_))
    exact FinP.open rfl rfl
   ·have hn:PT.get 8 (bL a) p=some e:=by rw[←hg];rfl
    rw[hn]
    (repeat (first|refine Spl.t rfl ?_|refine Spl.f rfl ?_))
    exact FinP.open rfl rfl
theorem AN (p:PT)(n:Int)(a:ID)(e:EN)(hw:PT.wf 8 p)(h0:0≤n)(h1:n≤1000000):Cv 286 [lX p n,idv a,env e]
 (if bg a=true then .tup [lX (PT.put 8 (bL a) e p) (if (oO p a).isSome=true then n else n+1),bv true]else .tup [lX p n,bv false]):=by
 have hg:=xA p n a hw
 refine ab Tryz.f286 Tryz.func286 rfl rfl fun w H B g0=>?_
 refine aa (dx a) (fun _ _=>rfl) rfl rfl rfl ?_
 refine Spl.of (fun h=>?_) (fun h=>?_)
 ·have hm:¬bg a=true:=fun y=>by simp[bm,y]at h
  rw[if_neg hm]
  (repeat (first|refine Spl.t rfl ?_|refine Spl.f rfl ?_))
  exact FinP.open rfl rfl
 ·have hm:bg a=true:=by
   cases y:bg a with
   |true=>rfl
   |false=>simp[bm,y]at h
  have hp:=y0 8 (bL a) e p (Nat.le_refl _) (by have:=lb hm;omega) hw
  rw[if_pos hm]
  (repeat (first|refine Spl.t rfl ?_|refine Spl.f rfl ?_))
  cases hgm:oO p a with
  |some e'=>
   rw[hgm]at hg
   refine aa hg (fun _ _=>rfl) rfl rfl rfl ?_
   (repeat (first|refine Spl.t rfl ?_|refine Spl.f rfl ?_))
   refine RegP.of rfl (by decide+kernel) ?_
   refine QuietP.of (QJ.call (v5 a hm) (fun _ _=>rfl) rfl rfl) ?_
   refine QuietP.of (QJ.call hp (fun _ _=>rfl) rfl rfl) ?_
   (repeat (first|refine Spl.t rfl ?_|refine Spl.f rfl ?_))
   exact FinP.open rfl rfl
  |none=>
   rw[hgm]at hg
   refine aa hg (fun _ _=>rfl) rfl rfl rfl ?_
   (repeat (first|refine Spl.t rfl ?_|refine Spl.f rfl ?_))
   refine RegP.of rfl (by decide+kernel) ?_
   refine QuietP.of (QJ.call (v5 a hm) (fun _ _=>rfl) rfl rfl) ?_
   refine QuietP.of (QJ.call hp (fun _ _=>rfl) rfl rfl) ?_
   (repeat (first|refine Spl.t rfl ?_|refine Spl.f rfl ?_))
   refine FinP.open rfl ?_
   show AV.tup [.agg [_,iv (IntKind.i64.wrap (n+1))],_]=_
   rw[am _ (by omega) (by omega)];rfl
end Go.Proofs.E
end
section
open Go Go.Gv
namespace Go.Proofs.E
abbrev KE:=Nat×EN
def elems:Nat→Nat→PT→List KE
 |0,k,p=>match p.ent with|some e=>[(k,e)]|none=>[]
 |r+1,k,p=>(List.range 16).flatMap fun d=>elems r (16*k+d) (p.kids.getD d .nil)
def ju (x:Nat)(e:EN):List KE→List KE
 |[]=>[(x,e)]
 |y::l=>if x<y.1 then(x,e)::y::l else if x=y.1 then(x,e)::l else y::ju x e l
theorem ec:∀(r k:Nat),elems r k .nil=[]
 |0,k=>rfl
 |r+1,k=>by
  rw[elems]
  refine List.flatMap_eq_nil_iff.2 fun d _=>?_
  rw[show PT.nil.kids=gy from rfl,j8,ec r]
theorem fE:∀(r k:Nat)(p:PT)(x:KE),x∈elems r k p→k*16^r≤x.1∧x.1<(k+1)*16^r
 |0,k,p,x,h=>by
  rw[elems]at h
  split at h
  ·simp at h;subst h;simp
  ·simp at h
 |r+1,k,p,x,h=>by
  rw[elems,List.mem_flatMap]at h
  obtain⟨d,hd,hx⟩:=h
  have hd:=List.mem_range.1 hd
  obtain⟨h1,h2⟩:=fE r _ _ x hx
  have e1:k*16^(r+1)=(16*k)*16^r:=by rw[Nat.pow_succ];rw[Nat.mul_comm (16^r),←Nat.mul_assoc,Nat.mul_comm k]
  have e2:(k+1)*16^(r+1)=(16*k+16)*16^r:=by rw[Nat.pow_succ,Nat.mul_comm (16^r),←Nat.mul_assoc];congr 1;omega
  rw[e1,e2]
  refine⟨Nat.le_trans (Nat.mul_le_mul_right _ (by omega)) h1,Nat.lt_of_lt_of_le h2 (Nat.mul_le_mul_right _ (by omega))⟩
theorem mf {x:Nat}{e:EN}:∀{A B:List KE},(∀y,y∈A→y.1<x)→ju x e (A++B)=A++ju x e B
 |[],B,_=>rfl
 |a::A,B,h=>by
  have h1:=h a (by simp)
  rw[List.cons_append,ju,if_neg (by omega),if_neg (by omega),mf fun y hy=>h y (List.mem_cons_of_mem _ hy)];rfl
theorem nO {x:Nat}{e:EN}:∀{A B:List KE},(∀y,y∈B→x<y.1)→ju x e (A++B)=ju x e A++B
 |[],[],_=>rfl
 |[],b::B,h=>by
  have h1:=h b (by simp)
  show ju x e (b::B)=[(x,e)]++(b::B)
  rw[ju,if_pos h1];rfl
 |a::A,B,h=>by
  rw[List.cons_append,ju,ju]
  split
  ·rfl
  ·split
   ·rfl
   ·rw[nO h];rfl
theorem pw {d:Nat}(h:d<16):List.range 16=List.range d++d::List.range' (d+1) (15-d):=by
 rw[List.range_eq_range',List.range_eq_range',show(16:Nat)=d+(16-d)by omega,←List.range'_append_1 (s:=0) (m:=d) (n:=16-d),Nat.zero_add,show 16-d=(15-d)+1 by omega,List.range'_succ]
theorem pX {α:Type}(l:List α)(i j:Nat)(x y:α):(l.set i x).getD j y=if i=j∧i<l.length then x else l.getD j y:=by
 rw[List.getD_eq_getElem?_getD,List.getElem?_set,List.getD_eq_getElem?_getD]
 by_cases h:i=j
 ·subst h
  by_cases h2:i<l.length
  ·simp[h2]
  ·rw[if_pos rfl,if_neg h2,if_neg (fun x=>h2 x.2),List.getElem?_eq_none (by omega)]
 ·rw[if_neg h,if_neg (fun x=>h x.1)]
theorem nY:∀(r k x:Nat)(e:EN)(p:PT),PT.wf r p→k*16^r≤x→x<(k+1)*16^r→elems r k (PT.put r x e p)=ju x e (elems r k p)
 |0,k,x,e,p,hw,h1,h2=>by
  have hx:x=k:=by simp at h1 h2;omega
  subst hx
  rcases hw with rfl|⟨e',rfl⟩
  ·rfl
  ·simp[elems,PT.put,PT.ent,ju]
 |r+1,k,x,e,p,hw,h1,h2=>by
  have hl:=ma hw
  have hws:=oM hw
  have hd:=qd x r
  have e1:k*16^(r+1)=(16*k)*16^r:=by rw[Nat.pow_succ,Nat.mul_comm (16^r),←Nat.mul_assoc,Nat.mul_comm k]
  have e2:(k+1)*16^(r+1)=(16*k+16)*16^r:=by rw[Nat.pow_succ,Nat.mul_comm (16^r),←Nat.mul_assoc];congr 1;omega
  rw[e1]at h1
  rw[e2]at h2
  have hp:0<16^r:=Nat.pow_pos (by decide)
  have hq:x/16^r=16*k+dg x r:=by
   have a1:16*k≤x/16^r:=(Nat.le_div_iff_mul_le hp).2 h1
   have a2:x/16^r<16*k+16:=(Nat.div_lt_iff_lt_mul hp).2 h2
   unfold dg;omega
  have hlo:(16*k+dg x r)*16^r≤x:=by rw[←hq];exact Nat.div_mul_le_self _ _
  have hhi:x<(16*k+dg x r+1)*16^r:=by rw[←hq];exact Nat.lt_mul_of_div_lt (by omega) hp
  have hkid:PT.wf r (p.kids.getD (dg x r) .nil):=by
   rw[List.getD_eq_getElem?_getD]
   cases hx:p.kids[dg x r]? with
   |none=>exact jQ r
   |some q=>exact hws q (List.mem_of_getElem? hx)
  have ih:=nY r (16*k+dg x r) x e _ hkid hlo hhi
  rw[PT.put,elems,elems,pw hd]
  simp only[List.flatMap_append,List.flatMap_cons]
  rw[show(PT.node (p.kids.set (dg x r) (PT.put r x e (p.kids.getD (dg x r) PT.nil))) p.ent).kids=p.kids.set (dg x r) (PT.put r x e (p.kids.getD (dg x r) PT.nil))from rfl]
  have same:∀l:List Nat,(∀d,d∈l→d≠dg x r)→(l.flatMap fun d=>elems r (16*k+d) ((p.kids.set (dg x r) (PT.put r x e (p.kids.getD (dg x r) PT.nil))).getD d .nil))=l.flatMap fun d=>elems r (16*k+d) (p.kids.getD d .nil):=fun l hl'=>by
   induction l with
   |nil=>rfl
   |cons a l ih2=>
    rw[List.flatMap_cons,List.flatMap_cons,ih2 fun d hd=>hl' d (List.mem_cons_of_mem _ hd),pX,if_neg (fun h=>hl' a (by simp) h.1.symm)]
  rw[same _ fun d hd=>by have:=List.mem_range.1 hd;omega,same _ fun d hd=>by have:=List.mem_range'_1.1 hd;omega,pX,if_pos ⟨rfl,by omega⟩,ih]
  rw[mf fun y hy=>?_,nO fun y hy=>?_]
  ·rw[List.mem_flatMap]at hy
   obtain⟨d,hd',hy⟩:=hy
   have hd':=List.mem_range'_1.1 hd'
   have:=(fE r _ _ y hy).1
   exact Nat.lt_of_lt_of_le hhi (Nat.le_trans (Nat.mul_le_mul_right _ (by omega)) this)
  ·rw[List.mem_flatMap]at hy
   obtain⟨d,hd',hy⟩:=hy
   have hd':=List.mem_range.1 hd'
   have:=(fE r _ _ y hy).2
   exact Nat.lt_of_lt_of_le this (Nat.le_trans (Nat.mul_le_mul_right _ (by omega)) hlo)
end Go.Proofs.E
end
section
open Go Go.Gv
attribute [local irreducible] Go.Gv.WJ Go.Gv.OpJ Go.Gv.QJ Go.Gv.Spl Go.Gv.Req Go.Gv.IdxP Go.Gv.RegP Go.Gv.FinP Go.Gv.CellP Go.Gv.CellsP Go.Gv.ArrP Go.Gv.ArrsP Go.Gv.DropP Go.Gv.ByteP Go.Gv.StoreP
set_option maxRecDepth 100000
namespace Go.Proofs.E
theorem kp {κ α:Type}[DecidableEq κ](n:κ):∀(A B:List (κ×α)),aZ n (A++B)=(aZ n A).or (aZ n B)
 |[],B=>by simp[aZ]
 |p::A,B=>by
  simp only[List.cons_append,aZ]
  split
  ·simp
  ·exact kp n A B
theorem gb {κ α:Type}[DecidableEq κ]{n:κ}:∀{m:List (κ×α)},(∀p,p∈m→n≠p.1)→aZ n m=none
 |[],_=>rfl
 |p::m,h=>by rw[aZ,if_neg (h p (by simp)),gb fun q hq=>h q (List.mem_cons_of_mem _ hq)]
theorem nZ:∀(r k x:Nat)(p:PT),PT.wf r p→k*16^r≤x→x<(k+1)*16^r→PT.get r x p=aZ x (elems r k p)
 |0,k,x,p,hw,h1,h2=>by
  have hx:x=k:=by simp at h1 h2;omega
  subst hx
  rcases hw with rfl|⟨e',rfl⟩
  ·rfl
  ·simp[elems,PT.get,PT.ent,aZ]
 |r+1,k,x,p,hw,h1,h2=>by
  have hl:=ma hw
  have hws:=oM hw
  have hd:=qd x r
  have e1:k*16^(r+1)=(16*k)*16^r:=by rw[Nat.pow_succ,Nat.mul_comm (16^r),←Nat.mul_assoc,Nat.mul_comm k]
  have e2:(k+1)*16^(r+1)=(16*k+16)*16^r:=by rw[Nat.pow_succ,Nat.mul_comm (16^r),←Nat.mul_assoc];congr 1;omega
  rw[e1]at h1
  rw[e2]at h2
  have hp:0<16^r:=Nat.pow_pos (by decide)
  have hq:x/16^r=16*k+dg x r:=by
   have a1:16*k≤x/16^r:=(Nat.le_div_iff_mul_le hp).2 h1
   have a2:x/16^r<16*k+16:=(Nat.div_lt_iff_lt_mul hp).2 h2
   unfold dg;omega
  have hlo:(16*k+dg x r)*16^r≤x:=by rw[←hq];exact Nat.div_mul_le_self _ _
  have hhi:x<(16*k+dg x r+1)*16^r:=by rw[←hq];exact Nat.lt_mul_of_div_lt (by omega) hp
  have hkid:PT.wf r (p.kids.getD (dg x r) .nil):=by
   rw[List.getD_eq_getElem?_getD]
   cases hx:p.kids[dg x r]? with
   |none=>exact jQ r
   |some q=>exact hws q (List.mem_of_getElem? hx)
  have ih:=nZ r (16*k+dg x r) x _ hkid hlo hhi
  have hget:PT.get (r+1) x p=PT.get r x (p.kids.getD (dg x r) .nil):=by
   cases p with
   |nil=>rw[show PT.nil.kids=gy from rfl,j8];cases r<;>rfl
   |node ks e=>rfl
  have hA:aZ x ((List.range (dg x r)).flatMap fun d=>elems r (16*k+d) (p.kids.getD d .nil))=none:=gb fun y hy=>by
   rw[List.mem_flatMap]at hy
   obtain⟨d,hd',hy⟩:=hy
   have hd':=List.mem_range.1 hd'
   have h3:=(fE r _ _ y hy).2
   have h4:=Nat.mul_le_mul_right (16^r) (show 16*k+d+1≤16*k+dg x r by omega)
   omega
  have hC:aZ x ((List.range' (dg x r+1) (15-dg x r)).flatMap fun d=>elems r (16*k+d) (p.kids.getD d .nil))=none:=gb fun y hy=>by
   rw[List.mem_flatMap]at hy
   obtain⟨d,hd',hy⟩:=hy
   have hd':=List.mem_range'_1.1 hd'
   have h3:=(fE r _ _ y hy).1
   have h4:=Nat.le_trans (Nat.mul_le_mul_right (16^r) (show 16*k+dg x r+1≤16*k+d by omega)) h3
   omega
  rw[hget,ih,elems,pw hd]
  simp only[List.flatMap_append,List.flatMap_cons]
  rw[kp,kp,hA,hC,Option.none_or,Option.or_none]
def cX (r k:Nat)(ks:List PT)(d:Nat):List KE:=(List.range' d (16-d)).flatMap fun d=>elems r (16*k+d) (ks.getD d .nil)
theorem nD (r k:Nat)(ks:List PT)(e:Option EN):elems (r+1) k (.node ks e)=cX r k ks 0:=by
 rw[elems,cX,List.range_eq_range'];rfl
theorem iz (r k:Nat)(ks:List PT){d:Nat}(h:d<16):cX r k ks d=elems r (16*k+d) (ks.getD d .nil)++cX r k ks (d+1):=by
 rw[cX,cX,show 16-d=(16-(d+1))+1 by omega,List.range'_succ,List.flatMap_cons]
theorem tH (r k:Nat)(ks:List PT):cX r k ks 16=[]:=rfl
abbrev keA (x:KE):List AV:=[idv (pN x.1),env x.2]
theorem AY {k:Nat}(h:k<2^58){d:Nat}(hd:d<16):orI .u64 (po .u64 (k:Int) ((4:Nat):Int)) (IntKind.u64.wrap (d:Int))=((16*k+d:Nat):Int):=by
 rw[wrap_u64 _ (by omega) (by omega),yY _ _ (by decide) (by omega),A2 _ _ _ (by omega) (by omega)]
 congr 1;omega
theorem iH {pin:List Nat}{ρ:Res}{s:ρ.S}{b:Bool}:dZ pin (bv b) [(0,.res ρ s)]:=by
 refine⟨fun j hj=>(by cases hj),fun i e hi j hj=>?_⟩
 rw[ae]at hi
 by_cases h:i=0
 ·rw[if_pos h]at hi;cases hi;cases hj
 ·rw[if_neg h]at hi;cases hi
set_option maxHeartbeats 2000000 in
theorem uM:∀(r k:Nat)(p:PT),r≤8→PT.wf r p→p.isNil=false→(k+1)*16^r≤2^58→∀(ρ:Res),ρ.P=Tryz.prog→ρ.Λ=tab→∀s,Gv.Can ρ s ((elems r k p).map keA)→
 Ct tab Tryz.prog 303 [.d p.d,uv k,.d (.v ρ.fv)] [(0,.res ρ s)] (fun q σ'=>∃b s',Feeds ρ s ((elems r k p).map keA) b s'∧q=bv b∧σ'=[(0,.res ρ s')])
 |0,k,p,hr8,hw,hn,hk,ρ,hP,hΛ,s,hc=>by
  rcases hw with rfl|⟨e,rfl⟩
  ·cases hn
  ·have hc0:Gv.Can ρ s [keA (k,e)]:=hc
   show Ct tab _ _ _ _ (fun q σ'=>∃b s',Feeds ρ s [keA (k,e)] b s'∧q=bv b∧σ'=[(0,.res ρ s')])
   refine ab Tryz.f303 Tryz.func303 rfl rfl fun w H B g0=>?_
   (repeat (first|refine Spl.t rfl ?_|refine Spl.f rfl ?_))
   refine aB 0 9 [] rfl (by decide+kernel) ?_
   refine QuietP.of (QJ.call (sC k (by omega)) (fun _ _=>rfl) rfl rfl) ?_
   refine kR (j:=0) (ρ:=ρ) (st:=s) (avs:=keA (k,e)) hP hΛ rfl rfl rfl rfl rfl rfl hc0.1 fun b s' hs=>?_
   refine FinP.of [(0,.res ρ s')] (Wk.cons rfl (Wk.nil _)) ?_ ⟨b,s',?_,rfl,rfl⟩
   ·exact iH
   ·cases b with
    |true=>exact .go hs (.nil _)
    |false=>exact .stop hs
 |r+1,k,p,hr8,hw,hn,hk,ρ,hP,hΛ,s,hc=>by
  have hk58:k<2^58:=Nat.lt_of_lt_of_le (Nat.lt_succ_self k) (Nat.le_trans (Nat.le_mul_of_pos_right (k+1) (Nat.pow_pos (by decide))) hk)
  rcases hw with rfl|⟨ks,rfl,hl,hws,_⟩
  ·cases hn
  ·rw[nD]at hc ⊢
   obtain⟨a0,a1,a2,a3,a4,a5,a6,a7,a8,a9,a10,a11,a12,a13,a14,a15,hks⟩:=y5 hl
   have hd:(PT.node ks none).d=.ptr [a0.d,a1.d,a2.d,a3.d,a4.d,a5.d,a6.d,a7.d,a8.d,a9.d,a10.d,a11.d,a12.d,a13.d,a14.d,a15.d,nilD]:=by rw[hks];rfl
   have hget:∀(d:Nat)(q:PT),ks[d]?=some q→[AV.d a0.d,AV.d a1.d,AV.d a2.d,AV.d a3.d,AV.d a4.d,AV.d a5.d,AV.d a6.d,AV.d a7.d,AV.d a8.d,AV.d a9.d,AV.d a10.d,AV.d a11.d,AV.d a12.d,AV.d a13.d,AV.d a14.d,AV.d a15.d][d]?=some (AV.d q.d):=fun d q h=>by
    have:[AV.d a0.d,AV.d a1.d,AV.d a2.d,AV.d a3.d,AV.d a4.d,AV.d a5.d,AV.d a6.d,AV.d a7.d,AV.d a8.d,AV.d a9.d,AV.d a10.d,AV.d a11.d,AV.d a12.d,AV.d a13.d,AV.d a14.d,AV.d a15.d]=ks.map fun q=>AV.d q.d:=by rw[hks];rfl
    rw[this,List.getElem?_map,h];rfl
   rw[hd]
   refine ab Tryz.f303 Tryz.func303 rfl rfl fun w H B g0=>?_
   (repeat (first|refine Spl.t rfl ?_|refine Spl.f rfl ?_))
   refine ba (V:=Nat×ρ.S) (fun v=>[(28,iv v.1)]) (fun v=>[(0,.res ρ v.2)]) [0] (fun v=>16-v.1) (fun v=>v.1≤16∧Gv.Can ρ v.2 ((cX r k ks v.1).map keA)∧∀b s',Feeds ρ v.2 ((cX r k ks v.1).map keA) b s'→Feeds ρ s ((cX r k ks 0).map keA) b s') (0,s) ⟨by simp,hc,fun _ _ h=>h⟩ (by repeat' (first|exact trivial|exact rfl|refine And.intro ?_ ?_)) (by repeat' (first|exact trivial|exact rfl|refine And.intro ?_ ?_)) ?_
   rintro⟨d,s1⟩ ⟨hd16,hcan,hfe⟩
   simp only at hd16 hcan hfe
   refine Spl.of (fun h1=>?_) (fun h1=>?_)
   ·have hlt:d<16:=by have:=of_decide_eq_true h1;simp only at this;omega
    obtain⟨q,hq⟩:∃q,ks[d]?=some q:=⟨ks[d]'(by omega),by simp⟩
    have hgd:ks.getD d .nil=q:=by rw[List.getD_eq_getElem?_getD,hq];rfl
    rw[iz r k ks hlt,hgd,List.map_append]at hcan hfe
    have hcan:=Can.app hcan
    (repeat (first|refine Spl.t rfl ?_|refine Spl.f rfl ?_))
    refine Req.of ⟨by omega,by omega⟩ ?_
    refine CellP.of (.d q.d) (show([AV.d a0.d,AV.d a1.d,AV.d a2.d,AV.d a3.d,AV.d a4.d,AV.d a5.d,AV.d a6.d,AV.d a7.d,AV.d a8.d,AV.d a9.d,AV.d a10.d,AV.d a11.d,AV.d a12.d,AV.d a13.d,AV.d a14.d,AV.d a15.d])[d*1]?=some (AV.d q.d)from(by rw[Nat.mul_one];exact hget d q hq)) ?_
    have hstep:∀b s',Feeds ρ s1 ((elems r (16*k+d) q).map keA) b s'→(b=true→Gv.Can ρ s' ((cX r k ks (d+1)).map keA)∧∀b' s'',Feeds ρ s' ((cX r k ks (d+1)).map keA) b' s''→Feeds ρ s ((cX r k ks 0).map keA) b' s'')∧(b=false→Feeds ρ s ((cX r k ks 0).map keA) false s'):=fun b s' hf=>
     ⟨fun hb=>by subst hb;exact⟨hcan.2 s' hf,fun b' s'' h=>hfe b' s'' (hf.app h)⟩,fun hb=>by subst hb;exact hfe false s' (hf.cut _)⟩
    cases q with
    |nil=>
     have h2:=(hstep true s1 (by rw[ec];exact .nil _)).1 rfl
     (repeat (first|refine Spl.t rfl ?_|refine Spl.f rfl ?_))
     exact⟨(d+1,s1),⟨by simp only;omega,h2.1,h2.2⟩,by simp only;omega,⟨aE (am _ (by omega) (by omega)),trivial⟩,(by repeat' (first|exact trivial|exact rfl|refine And.intro ?_ ?_)),⟨rfl,trivial⟩,(by repeat' (first|exact trivial|exact rfl|refine And.intro ?_ ?_))⟩
    |node ks' e'=>
     have hb2:(16*k+d+1)*16^r≤2^58:=by
      refine Nat.le_trans (Nat.mul_le_mul_right (16^r) (show 16*k+d+1≤(k+1)*16 by omega)) ?_
      rw[Nat.mul_assoc,Nat.mul_comm 16,←Nat.pow_succ];exact hk
     have hwk:=uM r (16*k+d) (.node ks' e') (by omega) (hws _ (List.mem_of_getElem? hq)) rfl hb2 ρ hP hΛ s1 hcan.1
     rw[show uv (16*k+d)=AV.d (.v (.int .u64 (orI .u64 (po .u64 (k:Int) ((4:Nat):Int)) (IntKind.u64.wrap (d:Int)))))from by rw[AY hk58 hlt]]at hwk
     (repeat (first|refine Spl.t rfl ?_|refine Spl.f rfl ?_))
     refine Req.of (by decide) ?_
     (repeat (first|refine Spl.t rfl ?_|refine Spl.f rfl ?_))
     refine OpJ.call hwk (fun _ _=>rfl) rfl rfl (Wk.cons rfl (Wk.nil _)) ?_
     rintro qv σ' ⟨b,s',hf,rfl,rfl⟩
     refine⟨rfl,?_⟩
     have h2:=hstep b s' hf
     cases b with
     |true=>
      have h3:=h2.1 rfl
      (repeat (first|refine Spl.t rfl ?_|refine Spl.f rfl ?_))
      exact⟨(d+1,s'),⟨by simp only;omega,h3.1,h3.2⟩,by simp only;omega,⟨aE (am _ (by omega) (by omega)),trivial⟩,(by repeat' (first|exact trivial|exact rfl|refine And.intro ?_ ?_)),⟨rfl,trivial⟩,(by repeat' (first|exact trivial|exact rfl|refine And.intro ?_ ?_))⟩
     |false=>
      (repeat (first|refine Spl.t rfl ?_|refine Spl.f rfl ?_))
      exact FinP.of [(0,.res ρ s')] (Wk.cons rfl (Wk.nil _)) iH ⟨false,s',h2.2 rfl,rfl,rfl⟩
   ·have he:d=16:=by have:=of_decide_eq_false h1;simp only at this;omega
    subst he
    (repeat (first|refine Spl.t rfl ?_|refine Spl.f rfl ?_))
    exact FinP.of [(0,.res ρ s1)] (Wk.cons rfl (Wk.nil _)) iH ⟨true,s1,hfe true s1 (by rw[tH];exact .nil _),rfl,rfl⟩
theorem kN {pin:List Nat}{ρ:Res}{s:ρ.S}{r:AV}(h:r.open=true):dZ pin r [(0,.res ρ s)]:=by
 refine⟨fun j hj=>(by rw[fC h]at hj;cases hj),fun i e hi j hj=>?_⟩
 rw[ae]at hi
 by_cases h:i=0
 ·rw[if_pos h]at hi;cases hi;cases hj
 ·rw[if_neg h]at hi;cases hi
attribute [local irreducible] elems
abbrev zY (p:PT)(n:Int):D:=.ptr [p.d,.v (.int .i64 n)]
abbrev BM (p:PT)(n:Int):AV:=.d (.fn 302 [zY p n])
theorem xZ {γ:Ids}{H:HF}{f:FuncId}{cs:List AV}{ds:List D}{u:Value}(h:eN cs=some ds)(r:Rep γ H (.fnp f cs) u):Rep γ H (.d (.fn f ds)) u:=by
 cases r with
 |fnp _ _ us hl hr=>
  obtain⟨h1,h2⟩:=eB h
  refine .d _ _ (.fn f ds us (by rw[hl,h1]) fun j x v hx hv=>?_)
  obtain⟨a,ha,hd⟩:=h2 j x hx
  exact ed hd (hr j a v ha hv)
theorem xK (p:PT)(n:Int):Cv 290 [lX p n] (BM p n):=by
 refine ab Tryz.f290 Tryz.func290 rfl rfl fun w H B g0=>?_
 exact FinP.pub 1 rfl rfl (FinP.view (fun _ _ _=>xZ rfl) (FinP.open rfl rfl))
theorem uA (p:PT)(n:Int)(hw:PT.wf 8 p):xy tab Tryz.prog 302 [.d (zY p n)] ((elems 8 0 p).map keA):=by
 intro ρ hP hΛ s hc
 cases p with
 |nil=>
  have he:elems 8 0 PT.nil=[]:=ec 8 0
  rw[he]at hc ⊢
  refine ab Tryz.f302 Tryz.func302 rfl rfl fun w H B g0=>?_
  (repeat (first|refine Spl.t rfl ?_|refine Spl.f rfl ?_))
  exact FinP.of [(0,.res ρ s)] (Wk.cons rfl (Wk.nil _)) (kN rfl) ⟨true,s,.nil _,rfl⟩
 |node ks e=>
  have hwk:=uM 8 0 (.node ks e) (Nat.le_refl _) hw rfl (by decide) ρ hP hΛ s hc
  refine ab Tryz.f302 Tryz.func302 rfl rfl fun w H B g0=>?_
  (repeat (first|refine Spl.t rfl ?_|refine Spl.f rfl ?_))
  refine OpJ.call hwk (fun _ _=>rfl) rfl rfl (Wk.cons rfl (Wk.nil _)) ?_
  rintro qv σ' ⟨b,s',hf,rfl,rfl⟩
  refine⟨rfl,?_⟩
  exact FinP.of [(0,.res ρ s')] (Wk.cons rfl (Wk.nil _)) (kN rfl) ⟨b,s',hf,rfl⟩
end Go.Proofs.E
namespace Go.Proofs.E
theorem p8:∀(r k:Nat)(p:PT),PT.wf r p→p.isNil=false→elems r k p≠[]
 |0,k,p,hw,hn=>by
  rcases hw with rfl|⟨e,rfl⟩
  ·cases hn
  ·simp[elems,PT.ent]
 |r+1,k,p,hw,hn=>by
  rcases hw with rfl|⟨ks,rfl,hl,hws,q,hq,hqn⟩
  ·cases hn
  ·intro h
   rw[elems,List.flatMap_eq_nil_iff]at h
   obtain⟨d,hd⟩:=List.getElem?_of_mem hq
   have hlt:d<16:=by rw[←hl];exact(List.getElem?_eq_some_iff.1 hd).1
   have:=h d (List.mem_range.2 hlt)
   rw[show(PT.node ks none).kids=ks from rfl,List.getD_eq_getElem?_getD,hd]at this
   exact p8 r _ q (hws q hq) hqn this
theorem tG {r k:Nat}{ks:List PT}{d:Nat}(h:∀j,d≤j→j<16→ks.getD j .nil=.nil):cX r k ks d=[]:=by
 rw[cX,List.flatMap_eq_nil_iff]
 intro j hj
 have hj:=List.mem_range'_1.1 hj
 rw[h j hj.1 (by omega),ec]
theorem lF (r k:Nat)(ks:List PT):∀d,d≤16→∃A,cX r k ks 0=A++cX r k ks d
 |0,_=>⟨[],rfl⟩
 |d+1,h=>by
  obtain⟨A,hA⟩:=lF r k ks d (by omega)
  exact⟨A++elems r (16*k+d) (ks.getD d .nil),by rw[hA,iz r k ks (by omega),List.append_assoc]⟩
theorem vX {r k:Nat}{ks:List PT}{d:Nat}{q:PT}(hq:ks[d]?=some q)(hd:d<16)(hw:PT.wf r q)(hn:q.isNil=false)(h:∀j,d<j→j<16→ks.getD j .nil=.nil):
 (elems (r+1) k (.node ks none)).getLast?=(elems r (16*k+d) q).getLast?:=by
 obtain⟨A,hA⟩:=lF r k ks d (by omega)
 rw[nD,hA,iz r k ks hd,tG (d:=d+1) (fun j h1 h2=>h j (by omega) h2),List.append_nil,List.getD_eq_getElem?_getD,hq,Option.getD_some]
 rw[List.getLast?_append]
 have:=p8 r (16*k+d) q hw hn
 cases hx:(elems r (16*k+d) q).getLast? with
 |none=>exact absurd (List.getLast?_eq_none_iff.1 hx) this
 |some x=>rfl
def kH (p:PT):ID:=match(elems 8 0 p).getLast? with
 |some x=>pN x.1
 |none=>⟨0,0⟩
theorem l8 {p:PT}{x:KE}(h:(elems 8 0 p).getLast?=some x):kH p=pN x.1:=by unfold kH;rw[h]
theorem l9 {p:PT}(h:elems 8 0 p=[]):kH p=⟨0,0⟩:=by unfold kH;rw[h];rfl
theorem rI (k:Nat)(e:EN):elems 0 k (.node gy (some e))=[(k,e)]:=rfl
attribute [local irreducible] elems
set_option maxHeartbeats 2000000 in
theorem yR (p:PT)(n:Int)(hw:PT.wf 8 p):Cv 236 [lX p n] (idv (kH p)):=by
 cases p with
 |nil=>
  have:kH .nil=⟨0,0⟩:=l9 (ec 8 0)
  rw[this]
  refine ab Tryz.f236 Tryz.func236 rfl rfl fun w H B g0=>?_
  (repeat (first|refine Spl.t rfl ?_|refine Spl.f rfl ?_))
  exact FinP.open rfl rfl
 |node ks0 e0=>
  refine ab Tryz.f236 Tryz.func236 rfl rfl fun w H B g0=>?_
  (repeat (first|refine Spl.t rfl ?_|refine Spl.f rfl ?_))
  refine ba (V:=Nat×PT×Nat) (fun v=>[(12,iv v.1),(3,.d v.2.1.d),(4,uv v.2.2)]) (fun _=>[]) [] (fun v=>8-v.1) (fun v=>v.1≤8∧PT.wf (8-v.1) v.2.1∧v.2.1.isNil=false∧v.2.2<16^v.1∧(elems (8-v.1) v.2.2 v.2.1).getLast?=(elems 8 0 (.node ks0 e0)).getLast?) (0,.node ks0 e0,0) ⟨Nat.zero_le _,hw,rfl,(show(0:Nat)<16^0 by decide),rfl⟩ (by repeat' (first|exact trivial|exact rfl|refine And.intro ?_ ?_)) (by repeat' (first|exact trivial|exact rfl|refine And.intro ?_ ?_)) ?_
  rintro⟨i,q,k⟩ ⟨hi,hq,hqn,hk,hla⟩
  simp only at hi hq hqn hk hla
  refine Spl.of (fun h1=>?_) (fun h1=>?_)
  ·have hlt:i<8:=by have:=of_decide_eq_true h1;simp only at this;omega
   obtain⟨r,hr⟩:∃r,8-i=r+1:=⟨7-i,by omega⟩
   have e2:8-(i+1)=r:=by omega
   rw[hr]at hq hla
   rcases hq with rfl|⟨ks,rfl,hl,hws,hex⟩
   ·cases hqn
   ·have hk58:k<2^58:=Nat.lt_of_lt_of_le hk (Nat.le_trans (Nat.pow_le_pow_right (by decide) (show i≤8 by omega)) (by decide))
    (repeat (first|refine Spl.t rfl ?_|refine Spl.f rfl ?_))
    refine ba (V:=Nat) (fun d=>[(5,iv d)]) (fun _=>[]) [] (fun d=>d) (fun d=>d<16∧∀j,d<j→j<16→ks.getD j .nil=.nil) 15 ⟨by decide,fun j h1 h2=>by omega⟩ (by repeat' (first|exact trivial|exact rfl|refine And.intro ?_ ?_)) (by repeat' (first|exact trivial|exact rfl|refine And.intro ?_ ?_)) ?_
    intro d ⟨hd,hnil⟩
    obtain⟨q',hq'⟩:∃q',ks[d]?=some q':=⟨ks[d]'(by omega),by simp⟩
    have hgd:ks.getD d .nil=q':=by rw[List.getD_eq_getElem?_getD,hq'];rfl
    refine Req.of ⟨by omega,by omega⟩ ?_
    refine DropP.of _ (lQ hq') (Nat.succ_le_succ (Nat.zero_le _)) ?_
    cases q' with
    |nil=>
     have hd0:d≠0:=fun e=>by
      subst e
      obtain⟨q,hq,hqn⟩:=hex
      obtain⟨j,hj⟩:=List.getElem?_of_mem hq
      have hj16:j<16:=by rw[←hl];exact(List.getElem?_eq_some_iff.1 hj).1
      have:ks.getD j .nil=.nil:=by
       by_cases h0:j=0
       ·subst h0;exact hgd
       ·exact hnil j (by omega) hj16
      rw[List.getD_eq_getElem?_getD,hj]at this
      simp only[Option.getD_some]at this
      subst this;cases hqn
     (repeat (first|refine Spl.t rfl ?_|refine Spl.f rfl ?_))
     exact⟨d-1,⟨by omega,fun j h1 h2=>by
      by_cases h:j=d
      ·subst h;exact hgd
      ·exact hnil j (by omega) h2⟩,by omega,⟨aE (by rw[am _ (by omega) (by omega)];omega),trivial⟩,(by repeat' (first|exact trivial|exact rfl|refine And.intro ?_ ?_)),(by repeat' (first|exact trivial|exact rfl|refine And.intro ?_ ?_)),(by repeat' (first|exact trivial|exact rfl|refine And.intro ?_ ?_))⟩
    |node ks' e'=>
     have hwq:=hws _ (List.mem_of_getElem? hq')
     have hs:=AY hk58 hd
     (repeat (first|refine Spl.t rfl ?_|refine Spl.f rfl ?_))
     refine Req.of ⟨by omega,by omega⟩ ?_
     refine DropP.of _ (lQ hq') (Nat.succ_le_succ (Nat.zero_le _)) ?_
     refine Req.of (by decide) ?_
     refine⟨(i+1,.node ks' e',16*k+d),⟨by simp only;omega,by simp only[e2];exact hwq,rfl,?_,?_⟩,by simp only;omega,⟨aE (am _ (by omega) (by omega)),rfl,congrArg (fun z:Int=>some (AV.d (.v (.int .u64 z)))) hs,trivial⟩,(by repeat' (first|exact trivial|exact rfl|refine And.intro ?_ ?_)),(by repeat' (first|exact trivial|exact rfl|refine And.intro ?_ ?_)),(by repeat' (first|exact trivial|exact rfl|refine And.intro ?_ ?_))⟩
     ·simp only;rw[Nat.pow_succ];omega
     ·simp only[e2];rw[←hla];exact(vX hq' hd hwq rfl hnil).symm
  ·have he:i=8:=by have:=of_decide_eq_false h1;simp only at this;omega
   subst he
   rcases hq with rfl|⟨e,rfl⟩
   ·cases hqn
   ·have hl:kH (.node ks0 e0)=pN k:=by
     have h0:elems (8-8) k (.node gy (some e))=[(k,e)]:=rI k e
     rw[h0]at hla
     exact l8 hla.symm
    rw[hl]
    (repeat (first|refine Spl.t rfl ?_|refine Spl.f rfl ?_))
    refine aa (sC k (Nat.lt_of_lt_of_le hk (by decide))) (fun _ _=>rfl) rfl rfl rfl ?_
    exact FinP.open rfl rfl
end Go.Proofs.E
end
section
open Go Go.Gv
set_option maxRecDepth 100000
namespace Go.Proofs.E
abbrev IE:=ID×EN
def fB (a:ID)(e:EN):List IE→List IE
 |[]=>[(a,e)]
 |y::l=>if aX a y.1=true then(a,e)::y::l else if a=y.1 then(a,e)::l else y::fB a e l
def upM (M:List IE):Prop:=M.Pairwise fun x y=>aX x.1 y.1=true
structure isM (p:PT)(n:Int)(M:List IE):Prop where
 wf:PT.wf 8 p
 el:elems 8 0 p=M.map fun x=>(bL x.1,x.2)
 len:n=M.length
 may:∀x,x∈M→bg x.1=true
 up:upM M
theorem vZ {a b:ID}(ha:bg a=true)(hb:bg b=true):bL a<bL b↔aX a b=true:=by
 obtain⟨a1,a2,a3,a4⟩:=bf ha
 obtain⟨b1,b2,b3,b4⟩:=bf hb
 unfold bL aX
 simp only[decide_eq_true_eq]
 omega
theorem sE {a b:ID}(ha:bg a=true)(hb:bg b=true)(h:bL a=bL b):a=b:=by
 obtain⟨a1,a2,a3,a4⟩:=bf ha
 obtain⟨b1,b2,b3,b4⟩:=bf hb
 unfold bL at h
 cases a;cases b
 simp only[ID.mk.injEq]at*
 omega
theorem pM {a:ID}(ha:bg a=true):pN (bL a)=a:=by
 obtain⟨a1,a2,a3,a4⟩:=bf ha
 unfold pN bL
 cases a
 simp only[ID.mk.injEq]at*
 omega
theorem oN:isM .nil 0 []:=⟨jQ 8,ec 8 0,rfl,fun _ h=>by simp at h,List.Pairwise.nil⟩
theorem pT {a:ID}{e:EN}(ha:bg a=true):∀(M:List IE),(∀x,x∈M→bg x.1=true)→ju (bL a) e (M.map fun x=>(bL x.1,x.2))=(fB a e M).map fun x=>(bL x.1,x.2)
 |[],_=>rfl
 |y::l,h=>by
  have hy:=h y (by simp)
  rw[List.map_cons,ju,fB]
  by_cases h1:aX a y.1=true
  ·rw[if_pos h1,if_pos ((vZ ha hy).2 h1)];rfl
  ·rw[if_neg h1,if_neg (fun x=>h1 ((vZ ha hy).1 x))]
   by_cases h2:a=y.1
   ·rw[if_pos h2,if_pos (by rw[h2])];rfl
   ·rw[if_neg h2,if_neg (fun x=>h2 (sE ha hy x)),pT ha l fun x hx=>h x (List.mem_cons_of_mem _ hx)];rfl
theorem lU {a:ID}{e:EN}{x:IE}:∀{M:List IE},x∈fB a e M→x=(a,e)∨x∈M
 |[],h=>by simp[fB]at h;exact .inl h
 |y::l,h=>by
  rw[fB]at h
  split at h
  ·rcases List.mem_cons.1 h with h|h
   ·exact .inl h
   ·exact .inr h
  ·split at h
   ·rcases List.mem_cons.1 h with h|h
    ·exact .inl h
    ·exact .inr (List.mem_cons_of_mem _ h)
   ·rcases List.mem_cons.1 h with h|h
    ·exact .inr (by rw[h];simp)
    ·rcases lU h with h|h
     ·exact .inl h
     ·exact .inr (List.mem_cons_of_mem _ h)
theorem jm {a b:ID}(h1:¬aX a b=true)(h2:a≠b):aX b a=true:=by
 unfold aX at*
 simp only[decide_eq_true_eq]at*
 have:¬(a.c=b.c∧a.s=b.s):=fun⟨x,y⟩=>h2 (by cases a;cases b;simp_all)
 omega
theorem cp {a b c:ID}(h1:aX a b=true)(h2:aX b c=true):aX a c=true:=by
 unfold aX at*
 simp only[decide_eq_true_eq]at*
 omega
theorem bV (a:ID):¬aX a a=true:=by unfold aX;simp
theorem sa {a:ID}{e:EN}:∀{M:List IE},upM M→upM (fB a e M)
 |[],_=>List.pairwise_singleton _ _
 |y::l,h=>by
  obtain⟨h1,h2⟩:=List.pairwise_cons.1 h
  rw[fB]
  split
  ·next hl=>
   refine List.pairwise_cons.2 ⟨fun x hx=>?_,h⟩
   rcases List.mem_cons.1 hx with rfl|hx
   ·exact hl
   ·exact cp hl (h1 x hx)
  ·next hl=>
   split
   ·next he=>exact List.pairwise_cons.2 ⟨fun x hx=>by show aX a x.1=true;rw[he];exact h1 x hx,h2⟩
   ·next he=>
    refine List.pairwise_cons.2 ⟨fun x hx=>?_,sa h2⟩
    rcases lU hx with rfl|hx
    ·exact jm hl he
    ·exact h1 x hx
theorem qn {a:ID}:∀{M:List IE},(∀x,x∈M→aX a x.1=true)→aZ a M=none
 |[],_=>rfl
 |y::l,h=>by
  have h1:=h y (by simp)
  rw[aZ,if_neg (fun e=>bV y.1 (by rw[e]at h1;exact h1)),qn fun x hx=>h x (List.mem_cons_of_mem _ hx)]
theorem jn {a:ID}{e:EN}:∀{M:List IE},upM M→(fB a e M).length=if (aZ a M).isSome=true then M.length else M.length+1
 |[],_=>rfl
 |y::l,h=>by
  obtain⟨h1,h2⟩:=List.pairwise_cons.1 h
  rw[fB]
  split
  ·next hl=>
   have hn:aZ a (y::l)=none:=qn fun x hx=>by
    rcases List.mem_cons.1 hx with rfl|hx
    ·exact hl
    ·exact cp hl (h1 x hx)
   rw[hn];rfl
  ·next hl=>
   split
   ·next he=>rw[aZ,if_pos he];rfl
   ·next he=>
    rw[aZ,if_neg he,List.length_cons,jn h2]
    split<;>simp
theorem iL {a b:ID}{e:EN}:∀{M:List IE},upM M→aZ b (fB a e M)=if b=a then some e else aZ b M
 |[],_=>by rw[fB,aZ];simp[aZ]
 |y::l,h=>by
  obtain⟨h1,h2⟩:=List.pairwise_cons.1 h
  rw[fB]
  split
  ·next hl=>rw[aZ]
  ·next hl=>
   split
   ·next he=>
    rw[aZ,aZ,←he]
    by_cases hb:b=a
    ·rw[if_pos hb,if_pos hb]
    ·rw[if_neg hb,if_neg hb,if_neg hb]
   ·next he=>
    rw[aZ,aZ,iL h2]
    by_cases hb:b=y.1
    ·rw[if_pos hb,if_pos hb,if_neg (fun e=>he (e.symm.trans hb))]
    ·rw[if_neg hb,if_neg hb]
theorem oe {a:ID}(ha:bg a=true):∀(M:List IE),(∀x,x∈M→bg x.1=true)→aZ (bL a) (M.map fun x=>(bL x.1,x.2))=aZ a M
 |[],_=>rfl
 |y::l,h=>by
  rw[List.map_cons,aZ,aZ,oe ha l fun x hx=>h x (List.mem_cons_of_mem _ hx)]
  by_cases hb:a=y.1
  ·rw[if_pos hb,if_pos (by rw[hb])]
  ·rw[if_neg hb,if_neg fun e=>hb (sE ha (h y (by simp)) e)]
theorem sK {p:PT}{n:Int}{M:List IE}(h:isM p n M)(a:ID):oO p a=aZ a M:=by
 unfold oO
 by_cases ha:bg a=true
 ·rw[if_pos ha,nZ 8 0 (bL a) p h.wf (by simp) (by have:=lb ha;simp;omega),h.el,oe ha M h.may]
 ·rw[if_neg ha,gb fun x hx e=>ha (by rw[e];exact h.may x hx)]
theorem zQ {p:PT}{n:Int}{M:List IE}(h:isM p n M){a:ID}(ha:bg a=true)(e:EN):isM (PT.put 8 (bL a) e p) (if (oO p a).isSome=true then n else n+1) (fB a e M):=by
 refine⟨vu 8 _ e p h.wf,?_,?_,fun x hx=>?_,sa h.up⟩
 ·rw[nY 8 0 (bL a) e p h.wf (by simp) (by have:=lb ha;simp;omega),h.el,pT ha M h.may]
 ·rw[jn h.up,sK h,h.len]
  split<;>simp
 ·rcases lU hx with rfl|hx
  ·exact ha
  ·exact h.may x hx
def eQ (M:List IE):ID:=match M.getLast? with
 |some x=>x.1
 |none=>⟨0,0⟩
theorem yc {p:PT}{n:Int}{M:List IE}(h:isM p n M):kH p=eQ M:=by
 unfold eQ
 cases hx:M.getLast? with
 |none=>
  have:M=[]:=List.getLast?_eq_none_iff.1 hx
  subst this
  exact l9 h.el
 |some x=>
  have h1:(elems 8 0 p).getLast?=some (bL x.1,x.2):=by rw[h.el,List.getLast?_map,hx];rfl
  rw[l8 h1]
  exact pM (h.may x (List.mem_of_getLast? hx))
abbrev ieA (x:IE):List AV:=[idv x.1,env x.2]
theorem AF {p:PT}{n:Int}{M:List IE}(h:isM p n M):(elems 8 0 p).map keA=M.map ieA:=by
 rw[h.el,List.map_map]
 refine List.map_congr_left fun x hx=>?_
 show [idv (pN (bL x.1)),env x.2]=_
 rw[pM (h.may x hx)]
end Go.Proofs.E
end
section
open Go Go.Gv
attribute [local irreducible] Go.Gv.WJ Go.Gv.OpJ Go.Gv.QJ Go.Gv.Spl Go.Gv.Req Go.Gv.IdxP Go.Gv.RegP Go.Gv.FinP Go.Gv.CellP Go.Gv.CellsP Go.Gv.ArrP Go.Gv.ArrsP Go.Gv.DropP Go.Gv.ByteP Go.Gv.StoreP
set_option maxRecDepth 100000
namespace Go.Proofs.E
structure EL where
 id:ID
 ch:Int
 dead:Bool
 deriving DecidableEq
abbrev elv (e:EL):AV:=.agg [iv e.id.c,iv e.id.s,cv' e.ch,bv e.dead]
inductive TR where
 |nil
 |node (l:TR) (e:EL) (r:TR)
namespace TR
def one (e:EL):Nat:=match e.dead with|true=>0|false=>1
def size:TR→Nat
 |.nil=>0
 |.node l _ r=>l.size+1+r.size
def live:TR→Nat
 |.nil=>0
 |.node l e r=>l.live+one e+r.live
def deep:TR→Nat
 |.nil=>0
 |.node l _ r=>Nat.max l.deep r.deep+1
def els:TR→List EL
 |.nil=>[]
 |.node l e r=>l.els++e::r.els
def d:TR→D
 |.nil=>.v (.pointer none)
 |.node l e r=>.ptr [l.d,r.d,.v (.int .i64 e.id.c),.v (.int .i64 e.id.s),.v (.int .i32 e.ch),.v (.bool e.dead),
  .v (.int .i64 ((l.size+1+r.size:Nat):Int)),.v (.int .i64 ((l.live+one e+r.live:Nat):Int)),.v (.int .i64 ((Nat.max l.deep r.deep+1:Nat):Int))]
def left:TR→TR
 |.nil=>.nil
 |.node l _ _=>l
def right:TR→TR
 |.nil=>.nil
 |.node _ _ r=>r
def wt (t:TR):Nat:=t.size+1
def turnL (l:TR)(e:EL):TR→TR
 |.nil=>.node l e .nil
 |.node rl re rr=>match Nat.blt rl.wt (2*rr.wt)with
  |true=>.node (.node l e rl) re rr
  |false=>match rl with
   |.nil=>.node l e (.node .nil re rr)
   |.node ml me mr=>.node (.node l e ml) me (.node mr re rr)
def turnR (l:TR)(e:EL)(r:TR):TR:=match l with
 |.nil=>.node .nil e r
 |.node ll le lr=>match Nat.blt lr.wt (2*ll.wt)with
  |true=>.node ll le (.node lr e r)
  |false=>match lr with
   |.nil=>.node (.node ll le .nil) e r
   |.node ml me mr=>.node (.node ll le ml) me (.node mr e r)
def bal (l:TR)(e:EL)(r:TR):TR:=match Nat.blt (3*l.wt) r.wt with
 |true=>turnL l e r
 |false=>match Nat.blt (3*r.wt) l.wt with
  |true=>turnR l e r
  |false=>.node l e r
def ins:Nat→EL→TR→TR
 |_,e,.nil=>.node .nil e .nil
 |i,e,.node l x r=>match Nat.ble i l.size with
  |true=>bal (ins i e l) x r
  |false=>bal l x (ins (i-l.size-1) e r)
def set:Nat→EL→TR→TR
 |_,_,.nil=>.nil
 |i,e,.node l x r=>match Nat.blt i l.size with
  |true=>.node (set i e l) x r
  |false=>match Nat.blt l.size i with
   |true=>.node l x (set (i-l.size-1) e r)
   |false=>.node l e r
theorem els_len:∀t:TR,t.els.length=t.size
 |.nil=>rfl
 |.node l e r=>by rw[els,size,List.length_append,List.length_cons,els_len l,els_len r];omega
theorem ul (l:TR)(e:EL)(r:TR):(turnL l e r).els=l.els++e::r.els:=by
 cases r with
 |nil=>rfl
 |node rl re rr=>
  simp only[turnL]
  split
  ·simp[els]
  ·cases rl<;>simp[els]
theorem uk (l:TR)(e:EL)(r:TR):(turnR l e r).els=l.els++e::r.els:=by
 cases l with
 |nil=>rfl
 |node ll le lr=>
  simp only[turnR]
  split
  ·simp[els]
  ·cases lr<;>simp[els]
theorem sQ (l:TR)(e:EL)(r:TR):(bal l e r).els=l.els++e::r.els:=by
 unfold bal
 split
 ·exact ul l e r
 ·split
  ·exact uk l e r
  ·rfl
theorem els_ins:∀(i:Nat)(e:EL)(t:TR),i≤t.size→(ins i e t).els=t.els.take i++e::t.els.drop i
 |i,e,.nil,h=>by
  have:i=0:=by simpa[size]using h
  subst this;rfl
 |i,e,.node l x r,h=>by
  have hl:=els_len l
  simp only[size]at h
  simp only[ins]
  split
  ·next hb=>
   have hi:=Nat.le_of_ble_eq_true hb
   rw[sQ,els_ins i e l hi,els,List.take_append_of_le_length (by omega),List.drop_append_of_le_length (by omega)]
   simp
  ·next hb=>
   have hi:l.size<i:=by
    rcases Nat.lt_or_ge l.size i with h|h
    ·exact h
    ·rw[Nat.ble_eq_true_of_le h]at hb;cases hb
   rw[sQ,els_ins (i-l.size-1) e r (by omega),els]
   obtain⟨k,rfl⟩:∃k,i=l.els.length+(k+1):=⟨i-l.size-1,by omega⟩
   rw[List.take_length_add_append,List.drop_length_add_append,List.take_succ_cons,List.drop_succ_cons,show l.els.length+(k+1)-l.size-1=k by omega]
   simp
theorem els_set:∀(i:Nat)(e:EL)(t:TR),i<t.size→(set i e t).els=t.els.set i e
 |i,e,.nil,h=>by simp[size]at h
 |i,e,.node l x r,h=>by
  have hl:=els_len l
  simp only[size]at h
  simp only[set]
  split
  ·next hb=>
   have hi:i<l.size:=by simpa[Nat.blt_eq]using hb
   rw[els,els_set i e l hi,els,List.set_append_left _ _ (by omega)]
  ·next hb=>
   have hi:¬i<l.size:=fun h=>by rw[show Nat.blt i l.size=true by simpa[Nat.blt_eq]using h]at hb;cases hb
   split
   ·next hb2=>
    have hi2:l.size<i:=by simpa[Nat.blt_eq]using hb2
    rw[els,els_set _ e r (by omega),els,List.set_append_right _ _ (by omega),hl]
    obtain⟨k,rfl⟩:∃k,i=l.size+(k+1):=⟨i-l.size-1,by omega⟩
    rw[show l.size+(k+1)-l.size-1=k by omega,show l.size+(k+1)-l.size=k+1 by omega,List.set_cons_succ]
   ·next hb2=>
    have hi2:¬l.size<i:=fun h=>by rw[show Nat.blt l.size i=true by simpa[Nat.blt_eq]using h]at hb2;cases hb2
    have:i=l.size:=by omega
    subst this
    rw[els,els,List.set_append_right _ _ (by omega),hl,Nat.sub_self,List.set_cons_zero]
theorem live_eq:∀t:TR,t.live=(t.els.filter fun e=>!e.dead).length
 |.nil=>rfl
 |.node l e r=>by
  rw[live,els,List.filter_append,List.length_append,←live_eq l,List.filter_cons,one]
  cases e.dead with
  |true=>simp[live_eq r]
  |false=>simp[live_eq r];omega
theorem live_le (t:TR):t.live≤t.size:=by rw[live_eq,←els_len];exact List.length_filter_le _ _
theorem deep_le:∀t:TR,t.deep≤t.size
 |.nil=>Nat.le_refl _
 |.node l e r=>by
  have h1:=deep_le l
  have h2:=deep_le r
  have:Nat.max l.deep r.deep≤l.size+r.size:=Nat.max_le.2 ⟨by omega,by omega⟩
  simp only[deep,size];omega
end TR
theorem cE (t:TR):Cv 235 [.d t.d] (iv t.size):=by
 cases t with
 |nil=>
  refine ab Tryz.f235 Tryz.func235 rfl rfl fun w H B g0=>?_
  (repeat (first|refine Spl.t rfl ?_|refine Spl.f rfl ?_))
  exact FinP.open rfl rfl
 |node l e r=>
  refine ab Tryz.f235 Tryz.func235 rfl rfl fun w H B g0=>?_
  (repeat (first|refine Spl.t rfl ?_|refine Spl.f rfl ?_))
  exact FinP.open rfl rfl
theorem l6 (t:TR):Cv 263 [.d t.d] (iv t.live):=by
 cases t with
 |nil=>
  refine ab Tryz.f263 Tryz.func263 rfl rfl fun w H B g0=>?_
  (repeat (first|refine Spl.t rfl ?_|refine Spl.f rfl ?_))
  exact FinP.open rfl rfl
 |node l e r=>
  refine ab Tryz.f263 Tryz.func263 rfl rfl fun w H B g0=>?_
  (repeat (first|refine Spl.t rfl ?_|refine Spl.f rfl ?_))
  exact FinP.open rfl rfl
theorem wB (t:TR):Cv 314 [.d t.d] (iv t.deep):=by
 cases t with
 |nil=>
  refine ab Tryz.f314 Tryz.func314 rfl rfl fun w H B g0=>?_
  (repeat (first|refine Spl.t rfl ?_|refine Spl.f rfl ?_))
  exact FinP.open rfl rfl
 |node l e r=>
  refine ab Tryz.f314 Tryz.func314 rfl rfl fun w H B g0=>?_
  (repeat (first|refine Spl.t rfl ?_|refine Spl.f rfl ?_))
  exact FinP.open rfl rfl
theorem sy (e:EL):Cv 265 [elv e] (iv (TR.one e)):=by
 obtain⟨a,c,b⟩:=e
 cases b with
 |true=>
  refine ab Tryz.f265 Tryz.func265 rfl rfl fun w H B g0=>?_
  (repeat (first|refine Spl.t rfl ?_|refine Spl.f rfl ?_))
  exact FinP.open rfl rfl
 |false=>
  refine ab Tryz.f265 Tryz.func265 rfl rfl fun w H B g0=>?_
  (repeat (first|refine Spl.t rfl ?_|refine Spl.f rfl ?_))
  exact FinP.open rfl rfl
theorem dy (t:TR)(h:t.size≤1000000):Cv 315 [.d t.d] (iv t.wt):=by
 refine ab Tryz.f315 Tryz.func315 rfl rfl fun w H B g0=>?_
 refine aa (cE t) (fun _ _=>rfl) rfl rfl rfl ?_
 (repeat (first|refine Spl.t rfl ?_|refine Spl.f rfl ?_))
 exact FinP.open rfl (congrArg iv (am _ (by omega) (by omega)))
end Go.Proofs.E
end
section
open Go Go.Gv
set_option maxRecDepth 100000
namespace Go.Proofs.E
def jt (o:OP):List OP→List OP
 |[]=>[o]
 |k::r=>if aX o.i k.i=true then k::jt o r else o::k::r
def eS (a:ID):List OP→List OP→List OP
 |[],ks=>ks
 |o::l,ks=>if o.a=a then eS a l (jt o ks)else eS a l ks
def kids (I:List OP)(a:ID):List OP:=eS a I []
def fol:Nat→List OP→ID→List OP
 |0,_,_=>[]
 |n+1,I,a=>(kids I a).flatMap fun k=>k::fol n I k.i
def gE (o:OP):List OP→List OP
 |[]=>[o]
 |x::r=>if aX o.i x.i=true then x::gE o r else o::x::r
def ew (o:OP):List OP→List OP
 |[]=>[]
 |x::r=>if x.i=o.a then x::gE o r else x::ew o r
def rC (o:OP)(L:List OP):List OP:=if o.a=⟨0,0⟩then gE o L else ew o L
structure okI (I:List OP):Prop where
 cl:∀o,o∈I→o.a.c<o.i.c∧o.i.c≤1048576
 nd:I.Pairwise fun x y=>x.i≠y.i
theorem wF {a b:ID}(h:a.c<b.c):aX a b=true:=by unfold aX;simp[h]
theorem okI.lt {I:List OP}(h:okI I):∀o,o∈I→aX o.a o.i=true:=fun o ho=>wF (h.cl o ho).1
theorem nM (a:ID)(J:List OP):∀(I ks:List OP),eS a (I++J) ks=eS a J (eS a I ks)
 |[],_=>rfl
 |o::I,ks=>by
  rw[List.cons_append,eS,eS]
  split<;>exact nM a J I _
theorem gW (I:List OP)(o:OP)(a:ID):kids (I++[o]) a=if o.a=a then jt o (kids I a)else kids I a:=by
 unfold kids;rw[nM];rfl
theorem gB {o x:OP}:∀{ks:List OP},x∈jt o ks↔x=o∨x∈ks
 |[]=>by simp[jt]
 |k::r=>by
  rw[jt]
  split
  ·rw[List.mem_cons,gB,List.mem_cons]
   exact⟨fun h=>by rcases h with h|h|h<;>simp[h],fun h=>by rcases h with h|h|h<;>simp[h]⟩
  ·simp
theorem ka {a:ID}{x:OP}:∀{I ks:List OP},x∈eS a I ks↔(x∈I∧x.a=a)∨x∈ks
 |[],ks=>by simp[eS]
 |o::I,ks=>by
  rw[eS]
  split
  ·next h=>
   rw[ka,gB,List.mem_cons]
   constructor
   ·rintro(⟨h1,h2⟩|rfl|h1)
    ·exact .inl ⟨.inr h1,h2⟩
    ·exact .inl ⟨.inl rfl,h⟩
    ·exact .inr h1
   ·rintro(⟨rfl|h1,h2⟩|h1)
    ·exact .inr (.inl rfl)
    ·exact .inl ⟨h1,h2⟩
    ·exact .inr (.inr h1)
  ·next h=>
   rw[ka,List.mem_cons]
   constructor
   ·rintro(⟨h1,h2⟩|h1)
    ·exact .inl ⟨.inr h1,h2⟩
    ·exact .inr h1
   ·rintro(⟨rfl|h1,h2⟩|h1)
    ·exact absurd h2 h
    ·exact .inl ⟨h1,h2⟩
    ·exact .inr h1
theorem bU {I:List OP}{a:ID}{x:OP}:x∈kids I a↔x∈I∧x.a=a:=by unfold kids;rw[ka];simp
def nq (ks:List OP):Prop:=ks.Pairwise fun x y=>aX y.i x.i=true
theorem n5 {o:OP}:∀{ks:List OP},(∀k,k∈ks→k.i≠o.i)→nq ks→nq (jt o ks)
 |[],_,_=>by simp[jt,nq]
 |k::r,hn,h=>by
  obtain⟨h1,h2⟩:=List.pairwise_cons.1 h
  rw[jt]
  split
  ·next hl=>
   refine List.pairwise_cons.2 ⟨fun y hy=>?_,n5 (fun k hk=>hn k (List.mem_cons_of_mem _ hk)) h2⟩
   rcases gB.1 hy with rfl|hy
   ·exact hl
   ·exact h1 y hy
  ·next hl=>
   have hk:=jm hl (fun e=>hn k (by simp) e.symm)
   refine List.pairwise_cons.2 ⟨fun y hy=>?_,h⟩
   rcases List.mem_cons.1 hy with rfl|hy
   ·exact hk
   ·exact cp (h1 y hy) hk
theorem iG {a:ID}:∀{I ks:List OP},I.Pairwise (fun x y=>x.i≠y.i)→(∀x k,x∈I→k∈ks→x.i≠k.i)→nq ks→nq (eS a I ks)
 |[],ks,_,_,h=>h
 |o::I,ks,hp,hd,h=>by
  obtain⟨p1,p2⟩:=List.pairwise_cons.1 hp
  rw[eS]
  split
  ·refine iG p2 (fun x k hx hk=>?_) (n5 (fun k hk e=>hd o k (by simp) hk e.symm) h)
   rcases gB.1 hk with rfl|hk
   ·exact fun e=>p1 x hx e.symm
   ·exact hd x k (List.mem_cons_of_mem _ hx) hk
  ·exact iG p2 (fun x k hx hk=>hd x k (List.mem_cons_of_mem _ hx) hk) h
theorem kg {I:List OP}(h:okI I)(a:ID):nq (kids I a):=iG h.nd (fun _ _ _ h=>by simp at h) List.Pairwise.nil
theorem gU:∀{n:Nat}{I:List OP}{a:ID}{x:OP},x∈fol (n+1) I a↔∃k,k∈kids I a∧(x=k∨x∈fol n I k.i):=by
 intro n I a x
 rw[fol,List.mem_flatMap]
 simp only[List.mem_cons]
theorem fd:∀{n:Nat}{I:List OP}{a:ID}{x:OP},okI I→x∈fol n I a→aX a x.i=true∧x∈I
 |0,_,_,_,_,h=>by simp[fol]at h
 |n+1,I,a,x,hI,h=>by
  obtain⟨k,hk,h⟩:=gU.1 h
  obtain⟨h1,h2⟩:=bU.1 hk
  have h3:=hI.lt k h1
  rw[h2]at h3
  rcases h with rfl|h
  ·exact⟨h3,h1⟩
  ·obtain⟨h4,h5⟩:=fd hI h
   exact⟨cp h3 h4,h5⟩
theorem fW:∀{n:Nat}{I:List OP}{a:ID}{x:OP},x∈fol n I a→x.a=a∨∃y,y∈fol n I a∧x.a=y.i
 |0,_,_,_,h=>by simp[fol]at h
 |n+1,I,a,x,h=>by
  obtain⟨k,hk,h⟩:=gU.1 h
  rcases h with rfl|h
  ·exact .inl (bU.1 hk).2
  ·rcases fW h with h1|⟨y,hy,h1⟩
   ·exact .inr ⟨k,gU.2 ⟨k,hk,.inl rfl⟩,h1⟩
   ·exact .inr ⟨y,gU.2 ⟨k,hk,.inr hy⟩,h1⟩
theorem oK {I:List OP}(h:okI I){x y:OP}(hx:x∈I)(hy:y∈I)(e:x.i=y.i):x=y:=by
 have:=h.nd
 clear h
 induction I with
 |nil=>simp at hx
 |cons z I ih=>
  obtain⟨p1,p2⟩:=List.pairwise_cons.1 this
  rcases List.mem_cons.1 hx with h1|h1
  ·rcases List.mem_cons.1 hy with h2|h2
   ·rw[h1,h2]
   ·rw[h1]at e;exact absurd e (p1 y h2)
  ·rcases List.mem_cons.1 hy with h2|h2
   ·rw[h2]at e;exact absurd e.symm (p1 x h1)
   ·exact ih h1 h2 p2
theorem uh {I:List OP}(hI:okI I){b:ID}{k1 k2:OP}(h1:k1∈kids I b)(h2:k2∈kids I b)(hne:k1≠k2){n m:Nat}:
 ∀(j:Nat)(x:OP),(x=k1∨x∈fol n I k1.i)→(x=k2∨x∈fol m I k2.i)→(I.filter fun y=>aX y.i x.i).length=j→False:=by
 intro j
 induction j using Nat.strongRecOn with
 |_ j ih=>
  intro x hx1 hx2 hj
  obtain⟨a1,a2⟩:=bU.1 h1
  obtain⟨b1,b2⟩:=bU.1 h2
  have base:∀{k k':OP}{n:Nat},k∈I→k.a=b→k'∈I→k'.a=b→k∈fol n I k'.i→False:=fun{k k' n} g1 g2 g3 g4 h=>by
   have hb:=hI.lt k' g3
   rw[g4]at hb
   rcases fW h with e|⟨y,hy,e⟩
   ·rw[g2]at e;rw[←e]at hb;exact bV _ hb
   ·rw[g2]at e
    have:=cp hb (fd hI hy).1
    rw[←e]at this;exact bV _ this
  rcases hx1 with rfl|hx1<;>rcases hx2 with rfl|hx2
  ·exact hne rfl
  ·exact base a1 a2 b1 b2 hx2
  ·exact base b1 b2 a1 a2 hx1
  ·have g1:∃y,(y=k1∨y∈fol n I k1.i)∧x.a=y.i∧y∈I:=by
    rcases fW hx1 with e|⟨y,hy,e⟩
    ·exact⟨k1,.inl rfl,e,a1⟩
    ·exact⟨y,.inr hy,e,(fd hI hy).2⟩
   have g2:∃y,(y=k2∨y∈fol m I k2.i)∧x.a=y.i∧y∈I:=by
    rcases fW hx2 with e|⟨y,hy,e⟩
    ·exact⟨k2,.inl rfl,e,b1⟩
    ·exact⟨y,.inr hy,e,(fd hI hy).2⟩
   obtain⟨y,y1,y2,y3⟩:=g1
   obtain⟨z,z1,z2,z3⟩:=g2
   obtain rfl:=oK hI y3 z3 (y2.symm.trans z2)
   have hlt:=hI.lt x (fd hI hx1).2
   rw[y2]at hlt
   refine ih _ ?_ y y1 z1 rfl
   rw[←hj]
   have sub:∀(l:List OP),y∈l→(l.filter fun u=>aX u.i y.i).length<(l.filter fun u=>aX u.i x.i).length:=by
    intro l
    have le:∀l:List OP,(l.filter fun u=>aX u.i y.i).length≤(l.filter fun u=>aX u.i x.i).length:=fun l=>by
     induction l with
     |nil=>exact Nat.le_refl _
     |cons u l ih2=>
      rw[List.filter_cons,List.filter_cons]
      by_cases hu:aX u.i y.i=true
      ·rw[if_pos hu,if_pos (cp hu hlt)];simp only[List.length_cons];omega
      ·rw[if_neg hu];split
       ·simp only[List.length_cons];omega
       ·exact ih2
    induction l with
    |nil=>intro h;simp at h
    |cons u l ih2=>
     intro h
     rw[List.filter_cons,List.filter_cons]
     rcases List.mem_cons.1 h with rfl|h
     ·rw[if_neg (bV _),if_pos hlt]
      have:=le l;simp only[List.length_cons];omega
     ·have:=ih2 h
      by_cases hu:aX u.i y.i=true
      ·rw[if_pos hu,if_pos (cp hu hlt)];simp only[List.length_cons];omega
      ·rw[if_neg hu];split
       ·simp only[List.length_cons];omega
       ·exact this
   exact sub I y3
theorem sJ (o:OP):∀(T Z:List OP),(∀x,x∈T→aX o.i x.i=true)→gE o (T++Z)=T++gE o Z
 |[],_,_=>rfl
 |x::T,Z,h=>by
  rw[List.cons_append,gE,if_pos (h x (by simp)),sJ o T Z fun y hy=>h y (List.mem_cons_of_mem _ hy)];rfl
def dQ (Y:List OP)(a:ID):Prop:=∀y r,Y=y::r→aX y.i a=true
theorem nR {o:OP}{Y:List OP}(h:dQ Y o.i):gE o Y=o::Y:=by
 cases Y with
 |nil=>rfl
 |cons y r=>
  rw[gE,if_neg]
  intro e
  exact bV _ (cp e (h y r rfl))
theorem nQ {I:List OP}(hI:okI I){n:Nat}{o:OP}:∀{ks Y:List OP},(∀k,k∈ks→k∈I)→(∀k,k∈ks→k.i≠o.i)→dQ Y o.i→
 gE o ((ks.flatMap fun k=>k::fol n I k.i)++Y)=((jt o ks).flatMap fun k=>if k=o then[o]else k::fol n I k.i)++Y
 |[],Y,_,_,hY=>by simpa[jt]using nR hY
 |k::r,Y,hk,hn,hY=>by
  have hko:k≠o:=fun e=>hn k (by simp) (by rw[e])
  rw[jt]
  split
  ·next hl=>
   rw[List.flatMap_cons,List.flatMap_cons,if_neg hko,List.append_assoc,sJ,nQ hI (fun x hx=>hk x (List.mem_cons_of_mem _ hx)) (fun x hx=>hn x (List.mem_cons_of_mem _ hx)) hY,List.append_assoc]
   intro x hx
   rcases List.mem_cons.1 hx with rfl|hx
   ·exact hl
   ·exact cp hl (fd hI hx).1
  ·next hl=>
   have hlt:=jm hl (fun e=>hn k (by simp) e.symm)
   have same:∀l:List OP,(∀x,x∈l→x.i≠o.i)→(l.flatMap fun k=>if k=o then[o]else k::fol n I k.i)=l.flatMap fun k=>k::fol n I k.i:=fun l=>by
    induction l with
    |nil=>intro _;rfl
    |cons x l ih=>
     intro h
     rw[List.flatMap_cons,List.flatMap_cons,ih fun y hy=>h y (List.mem_cons_of_mem _ hy),if_neg (fun e=>h x (by simp) (by rw[e]))]
   have hh:dQ (((k::r).flatMap fun k=>k::fol n I k.i)++Y) o.i:=by
    intro y r' e
    rw[List.flatMap_cons,List.cons_append,List.cons_append]at e
    obtain⟨rfl,_⟩:=List.cons.inj e
    exact hlt
   have e1:((o::k::r).flatMap fun k=>if k=o then[o]else k::fol n I k.i)=o::((k::r).flatMap fun k=>if k=o then[o]else k::fol n I k.i):=by
    rw[List.flatMap_cons (x:=o),if_pos rfl];rfl
   rw[nR hh,e1,same _ hn];rfl
theorem nP {o:OP}:∀(T Z:List OP),(∀x,x∈T→x.i≠o.a)→ew o (T++Z)=T++ew o Z
 |[],_,_=>rfl
 |x::T,Z,h=>by
  rw[List.cons_append,ew,if_neg (h x (by simp)),nP T Z fun y hy=>h y (List.mem_cons_of_mem _ hy)];rfl
structure newI (I:List OP)(o:OP):Prop where
 cl:o.a.c<o.i.c∧o.i.c≤1048576
 id:∀x,x∈I→x.i≠o.i
 an:∀x,x∈I→x.a≠o.i
theorem newI.lt {I:List OP}{o:OP}(h:newI I o):aX o.a o.i=true:=wF h.cl.1
theorem vH {I:List OP}(hI:okI I){o:OP}(h:newI I o):okI (I++[o]):=
 ⟨fun x hx=>by
  rcases List.mem_append.1 hx with hx|hx
  ·exact hI.cl x hx
  ·rw[List.mem_singleton]at hx;subst hx;exact h.cl,
  List.pairwise_append.2 ⟨hI.nd,by simp,fun x hx y hy=>by rw[List.mem_singleton]at hy;subst hy;exact h.id x hx⟩⟩
theorem vY {I:List OP}{o:OP}(h:newI I o):kids (I++[o]) o.i=[]:=by
 rw[gW,if_neg (fun e=>bV _ (by have:=h.lt;rw[e]at this;exact this))]
 exact List.eq_nil_iff_forall_not_mem.2 fun x hx=>h.an x (bU.1 hx).1 (bU.1 hx).2
theorem yq {I:List OP}{o:OP}(h:newI I o)(n:Nat):fol n (I++[o]) o.i=[]:=by
 cases n with
 |zero=>rfl
 |succ n=>rw[fol,vY h];rfl
theorem jz {I:List OP}{o:OP}:∀(n:Nat)(b:ID),o.a≠b→(∀x,x∈fol n I b→x.i≠o.a)→fol n (I++[o]) b=fol n I b
 |0,_,_,_=>rfl
 |n+1,b,hb,hx=>by
  rw[fol,fol,gW,if_neg hb]
  have:∀ks:List OP,(∀k,k∈ks→k∈kids I b)→(ks.flatMap fun k=>k::fol n (I++[o]) k.i)=ks.flatMap fun k=>k::fol n I k.i:=fun ks=>by
   induction ks with
   |nil=>intro _;rfl
   |cons k r ih=>
    intro h
    have hk:=h k (by simp)
    rw[List.flatMap_cons,List.flatMap_cons,ih fun x hx=>h x (List.mem_cons_of_mem _ hx),
     jz n k.i (fun e=>hx k (gU.2 ⟨k,hk,.inl rfl⟩) e.symm) (fun x hx'=>hx x (gU.2 ⟨k,hk,.inr hx'⟩))]
  exact this _ fun _ h=>h
theorem wi {I:List OP}(hI:okI I){o:OP}(h:newI I o){n:Nat}{Y:List OP}(hY:dQ Y o.i):fol (n+1) (I++[o]) o.a++Y=gE o (fol (n+1) I o.a++Y):=by
 rw[fol,fol,nQ hI (fun k hk=>(bU.1 hk).1) (fun k hk=>h.id k (bU.1 hk).1) hY,gW,if_pos rfl]
 congr 1
 have hkin:∀k,k∈jt o (kids I o.a)→k=o∨(k∈I∧k.a=o.a):=fun k hk=>by
  rcases gB.1 hk with h|h
  ·exact .inl h
  ·exact .inr (bU.1 h)
 generalize jt o (kids I o.a)=ks at hkin
 induction ks with
 |nil=>rfl
 |cons k r ih=>
  rw[List.flatMap_cons,List.flatMap_cons,ih fun x hx=>hkin x (List.mem_cons_of_mem _ hx)]
  congr 1
  rcases hkin k (by simp)with rfl|⟨h1,h2⟩
  ·rw[if_pos rfl,yq h]
  ·rw[if_neg (fun e=>h.id k h1 (by rw[e])),jz n k.i (fun e=>?_) (fun x hx e=>?_)]
   ·have:=hI.lt k h1;rw[h2,e]at this;exact bV _ this
   ·have a1:=hI.lt k h1
    rw[h2]at a1
    have a2:=cp a1 (fd hI hx).1
    rw[e]at a2;exact bV _ a2
theorem nT {Y:List OP}{a b:ID}(h:dQ Y a)(k:aX a b=true):dQ Y b:=fun y r e=>cp (h y r e) k
def cZ (n:Nat)(I ks:List OP):List OP:=ks.flatMap fun k=>k::fol n I k.i
theorem t7 {n:Nat}{I ks:List OP}{x:OP}:x∈cZ n I ks↔∃k,k∈ks∧(x=k∨x∈fol n I k.i):=by
 unfold cZ;rw[List.mem_flatMap];simp only[List.mem_cons]
theorem cH (n:Nat)(I:List OP)(k:OP)(r:List OP):cZ n I (k::r)=k::(fol n I k.i++cZ n I r):=by simp[cZ]
theorem mz {I:List OP}{o:OP}(n:Nat):∀ks:List OP,(∀x,x∈cZ n I ks→x.i≠o.a)→cZ n (I++[o]) ks=cZ n I ks
 |[],_=>rfl
 |k::r,h=>by
  rw[cH]at h
  rw[cH,cH,mz n r fun x hx=>h x (by simp[hx]),jz n k.i (fun e=>h k (by simp) e.symm) fun x hx=>h x (by simp[hx])]
theorem pW {n:Nat}{I:List OP}{k:OP}{r Y:List OP}(hd:nq (k::r))(hY:dQ Y k.i):dQ (cZ n I r++Y) k.i:=by
 cases r with
 |nil=>exact hY
 |cons k' r=>
  intro y r' e
  rw[cH,List.cons_append]at e
  obtain⟨rfl,_⟩:=List.cons.inj e
  exact(List.pairwise_cons.1 hd).1 k' (by simp)
theorem wg {I:List OP}(hI:okI I){o:OP}(h:newI I o):∀(n:Nat)(b:ID)(Y:List OP),dQ Y b→1048576<(n:Int)+b.c→(∃x,x∈fol n I b∧x.i=o.a)→fol n (I++[o]) b++Y=ew o (fol n I b++Y)
 |0,_,_,_,_,⟨x,hx,_⟩=>by simp[fol]at hx
 |n+1,b,Y,hY,hn,hx=>by
  have hab:o.a≠b:=by
   obtain⟨x,hx,e⟩:=hx
   intro e2
   have:=(fd hI hx).1
   rw[e,e2]at this;exact bV _ this
  have key:∀ks:List OP,(∀k,k∈ks→k∈kids I b)→nq ks→(∃x,x∈cZ n I ks∧x.i=o.a)→cZ n (I++[o]) ks++Y=ew o (cZ n I ks++Y):=by
   intro ks
   induction ks with
   |nil=>rintro _ _ ⟨x,hx,_⟩;simp[cZ]at hx
   |cons k r ih=>
    intro hk hd hx
    obtain⟨d1,d2⟩:=List.pairwise_cons.1 hd
    have hkb:=hk k (by simp)
    obtain⟨k1,k2⟩:=bU.1 hkb
    have hkc:=hI.cl k k1
    rw[k2]at hkc
    have apart:∀x y,(x=k∨x∈fol n I k.i)→y∈cZ n I r→x.i=o.a→y.i=o.a→False:=fun x y hx hy ex ey=>by
     obtain⟨k',hk',hy⟩:=t7.1 hy
     have hk'b:=hk k' (List.mem_cons_of_mem _ hk')
     have hxI:x∈I:=by
      rcases hx with rfl|hx
      ·exact k1
      ·exact(fd hI hx).2
     have hyI:y∈I:=by
      rcases hy with rfl|hy
      ·exact(bU.1 hk'b).1
      ·exact(fd hI hy).2
     obtain rfl:=oK hI hxI hyI (ex.trans ey.symm)
     exact uh hI hkb hk'b (fun e=>by subst e;exact bV _ (d1 k hk')) _ x hx hy rfl
    have hYk:dQ Y k.i:=nT hY (wF hkc.1)
    have hYr:dQ (cZ n I r++Y) k.i:=pW hd hYk
    have gr:(∃x,(x=k∨x∈fol n I k.i)∧x.i=o.a)→cZ n (I++[o]) r=cZ n I r:=fun⟨x,hx,ex⟩=>mz n r fun y hy ey=>apart x y hx hy ex ey
    rw[cH,cH,List.cons_append,List.cons_append,List.append_assoc,List.append_assoc]
    by_cases e1:k.i=o.a
    ·rw[gr ⟨k,.inl rfl,e1⟩,ew,if_pos e1,e1]
     obtain⟨m,rfl⟩:∃m,n=m+1:=by
      have:=h.cl
      rw[←e1]at this
      exact⟨n-1,by omega⟩
     have hYo:dQ (cZ (m+1) I r++Y) o.i:=nT hYr (by rw[e1];exact h.lt)
     rw[wi hI h hYo]
    ·rw[ew,if_neg e1]
     congr 1
     by_cases e2:∃x,x∈fol n I k.i∧x.i=o.a
     ·obtain⟨x,hx,ex⟩:=e2
      rw[gr ⟨x,.inr hx,ex⟩]
      exact wg hI h n k.i _ hYr (by omega) ⟨x,hx,ex⟩
     ·have hno:∀x,x∈fol n I k.i→x.i≠o.a:=fun x hx e=>e2 ⟨x,hx,e⟩
      rw[jz n k.i (fun e=>e1 e.symm) hno,nP _ _ hno]
      congr 1
      refine ih (fun x hx=>hk x (List.mem_cons_of_mem _ hx)) d2 ?_
      obtain⟨x,hx,ex⟩:=hx
      rw[cH]at hx
      rcases List.mem_cons.1 hx with rfl|hx
      ·exact absurd ex e1
      ·rcases List.mem_append.1 hx with hx|hx
       ·exact absurd ex (hno x hx)
       ·exact⟨x,hx,ex⟩
  have:=key (kids I b) (fun _ h=>h) (kg hI b) (by rw[fol]at hx;exact hx)
  rw[fol,fol,gW,if_neg hab]
  exact this
def cc (I:List OP):List OP:=fol 1048577 I ⟨0,0⟩
inductive Tk:List OP→Prop where
 |nil:Tk []
 |snoc {I:List OP} {o:OP} (h:Tk I) (hc:o.a.c<o.i.c∧o.i.c≤1048576) (h0:0≤o.a.c) (hn:∀x,x∈I→x.i≠o.i) (ha:o.a=⟨0,0⟩∨∃x,x∈I∧x.i=o.a):Tk (I++[o])
theorem lV {o x:OP}:∀{L:List OP},x∈gE o L↔x=o∨x∈L
 |[]=>by simp[gE]
 |y::r=>by
  rw[gE]
  split
  ·rw[List.mem_cons,lV,List.mem_cons]
   exact⟨fun h=>by rcases h with h|h|h<;>simp[h],fun h=>by rcases h with h|h|h<;>simp[h]⟩
  ·simp
theorem nH {o x:OP}:∀{L:List OP},(∃y,y∈L∧y.i=o.a)→(x∈ew o L↔x=o∨x∈L)
 |[],h=>by obtain⟨y,hy,_⟩:=h;simp at hy
 |y::r,h=>by
  rw[ew]
  split
  ·rw[List.mem_cons,lV,List.mem_cons]
   exact⟨fun h=>by rcases h with h|h|h<;>simp[h],fun h=>by rcases h with h|h|h<;>simp[h]⟩
  ·next hne=>
   have:∃y,y∈r∧y.i=o.a:=by
    obtain⟨z,hz,e⟩:=h
    rcases List.mem_cons.1 hz with rfl|hz
    ·exact absurd e hne
    ·exact⟨z,hz,e⟩
   rw[List.mem_cons,nH this,List.mem_cons]
   exact⟨fun h=>by rcases h with h|h|h<;>simp[h],fun h=>by rcases h with h|h|h<;>simp[h]⟩
theorem l7 (o:OP):∀L:List OP,(gE o L).length=L.length+1
 |[]=>rfl
 |y::r=>by
  rw[gE]
  split
  ·rw[List.length_cons,l7 o r,List.length_cons]
  ·rfl
theorem nL (o:OP):∀L:List OP,(∃y,y∈L∧y.i=o.a)→(ew o L).length=L.length+1
 |[],h=>by obtain⟨y,hy,_⟩:=h;simp at hy
 |y::r,h=>by
  rw[ew]
  split
  ·rw[List.length_cons,l7 o r,List.length_cons]
  ·next hne=>
   have:∃y,y∈r∧y.i=o.a:=by
    obtain⟨z,hz,e⟩:=h
    rcases List.mem_cons.1 hz with rfl|hz
    ·exact absurd e hne
    ·exact⟨z,hz,e⟩
   rw[List.length_cons,nL o r this,List.length_cons]
structure TkI (I:List OP):Prop where
 ok:okI I
 an:∀x,x∈I→x.a=⟨0,0⟩∨∃y,y∈I∧y.i=x.a
 c0:∀x,x∈I→0<x.i.c
 mem:∀x,x∈cc I↔x∈I
 len:(cc I).length=I.length
theorem vS {I:List OP}{o:OP}(h:TkI I)(hc:o.a.c<o.i.c∧o.i.c≤1048576)(h0:0≤o.a.c)(hn:∀x,x∈I→x.i≠o.i):newI I o:=
 ⟨hc,hn,fun x hx e=>by
  rcases h.an x hx with h1|⟨y,hy,h1⟩
  ·rw[h1]at e
   have:=congrArg ID.c e
   simp only at this;omega
  ·exact hn y hy (h1.trans e)⟩
theorem kd {I:List OP}{o:OP}(h:TkI I)(hc:o.a.c<o.i.c∧o.i.c≤1048576)(h0:0≤o.a.c)(hn:∀x,x∈I→x.i≠o.i)(ha:o.a=⟨0,0⟩∨∃x,x∈I∧x.i=o.a):cc (I++[o])=rC o (cc I):=by
 have hnew:=vS h hc h0 hn
 unfold rC
 split
 ·next e=>
  have:=wi h.ok hnew (n:=1048576) (Y:=[]) (fun y r e=>by cases e)
  rw[e,List.append_nil,List.append_nil]at this
  exact this
 ·next e=>
  rcases ha with ha|⟨x,hx,ha⟩
  ·exact absurd ha e
  ·have:=wg h.ok hnew 1048577 ⟨0,0⟩ [] (fun y r e=>by cases e) (by simp) ⟨x,(h.mem x).2 hx,ha⟩
   rw[List.append_nil,List.append_nil]at this
   exact this
theorem Tk.is:∀{I:List OP},Tk I→TkI I:=by
 intro I h
 induction h with
 |nil=>exact⟨⟨fun _ h=>by simp at h,List.Pairwise.nil⟩,fun _ h=>by simp at h,fun _ h=>by simp at h,fun x=>by show x∈fol (1048576+1) [] _↔_;rw[fol];simp[kids,eS],rfl⟩
 |@snoc I o h hc h0 hn ha ih=>
  have hnew:=vS ih hc h0 hn
  have hr:=kd ih hc h0 hn ha
  have hm:∀x,x∈cc (I++[o])↔x=o∨x∈cc I:=fun x=>by
   rw[hr];unfold rC
   split
   ·exact lV
   ·next e=>
    rcases ha with ha|⟨y,hy,ha⟩
    ·exact absurd ha e
    ·exact nH ⟨y,(ih.mem y).2 hy,ha⟩
  refine⟨vH ih.ok hnew,fun x hx=>?_,fun x hx=>?_,fun x=>?_,?_⟩
  ·rcases List.mem_append.1 hx with hx|hx
   ·rcases ih.an x hx with h1|⟨y,hy,h1⟩
    ·exact .inl h1
    ·exact .inr ⟨y,by simp[hy],h1⟩
   ·rw[List.mem_singleton]at hx;subst hx
    rcases ha with ha|⟨y,hy,ha⟩
    ·exact .inl ha
    ·exact .inr ⟨y,by simp[hy],ha⟩
  ·rcases List.mem_append.1 hx with hx|hx
   ·exact ih.c0 x hx
   ·rw[List.mem_singleton]at hx;subst hx;omega
  ·rw[hm,ih.mem];simp[or_comm]
  ·rw[hr,List.length_append,List.length_singleton,←ih.len];unfold rC
   split
   ·exact l7 _ _
   ·next e=>
    rcases ha with ha|⟨y,hy,ha⟩
    ·exact absurd ha e
    ·exact nL _ _ ⟨y,(ih.mem y).2 hy,ha⟩
end Go.Proofs.E
end
