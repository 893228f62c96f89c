/- Laws that the claim's text stands on: part M5 of them. -/
import Derived.Test.YtaojepfldokjdaaGreatDoorM1
import Derived.Test.YtaojepfldokjdaaGreatDoorM2
import Derived.Test.YtaojepfldokjdaaGreatDoorM3
import Derived.Test.YtaojepfldokjdaaGreatDoorM4
import Derived.Test.YtaojepfldokjdaaGreatDoorDShelf
import Derived.KernelRfl
import Derived.Test.YtaojepfldokjdaaGreatDoorChecked
import Derived.WalkKit
import Derived.Laws.Bits64b
import Derived.Lib.Index
import Derived.Lib.IndexMore
import Derived.Lib.Split
import Derived.Lib.Strings
set_option linter.unusedVariables false
set_option linter.unusedSimpArgs false
section
open Go Go.Gv
attribute [local irreducible] Go.Gv.WJ Go.Gv.OpJ Go.Gv.QJ Go.Gv.Spl Go.Gv.Req Go.Gv.IdxP Go.Gv.RegP Go.Gv.FinP Go.Gv.CellP Go.Gv.CellsP Go.Gv.ArrP Go.Gv.ArrsP Go.Gv.DropP Go.Gv.ByteP Go.Gv.StoreP
set_option maxRecDepth 100000
namespace Go.Proofs.E
abbrev iv (n:Int):AV:=.d (.v (.int .i64 n))
abbrev bv (b:Bool):AV:=.d (.v (.bool b))
abbrev sv (l:List UInt8):AV:=.d (.v (.string ⟨⟨l⟩⟩))
structure ID where
 c:Int
 s:Int
 deriving DecidableEq
abbrev idv (a:ID):AV:=.agg [iv a.c,iv a.s]
def u9:List Int:=[0,1,56,2,57,49,28,3,61,58,42,50,38,29,17,4,62,47,59,36,45,43,51,22,53,39,33,30,24,18,12,5,63,55,48,27,60,41,37,16,46,35,44,21,52,32,23,11,54,26,40,15,34,20,31,10,25,14,19,9,13,8,7,6]
theorem Es:Tryz.prog.globalNamed "internal/strconv.uint64pow10"=some 3:=by kernel_rfl
theorem gTz:Tryz.prog.globalNamed "math/bits.deBruijn64tab"=some 5:=by kernel_rfl
def wz:List (String×IntKind×List Int):=[("internal/strconv.uint64pow10",.u64,Lib.pow10Tab),("math/bits.deBruijn64tab",.u8,u9)]
def FC:Amb:=DM Tryz.prog (Nat.max 3 5+1) wz (fun n hn i hi=>by
 simp only[wz,List.mem_cons,List.not_mem_nil,or_false]at hn
 rcases hn with rfl|rfl
 ·have:=Es.symm.trans hi
  cases this;decide
 ·have:=gTz.symm.trans hi
  cases this;decide)
def tab:Amb:=⟨fun w=>FC.p w∧∃m,w.cell? ⟨0,0,none⟩=some (.int .i64 m),Nat.max (Nat.max 3 5+1) (0+1),fun{w w'} h hk=>⟨FC.st h.1 (fun k hk'=>hk k (Nat.lt_of_lt_of_le hk' (Nat.le_max_left _ _))),by
 obtain⟨m,hm⟩:=h.2
 refine⟨m,?_⟩
 have:=hk 0 (Nat.lt_of_lt_of_le (Nat.lt_succ_self _) (Nat.le_max_right _ _))
 simp only[World.cell?]at hm ⊢
 rw[this];exact hm⟩⟩
theorem u7 {w:World}(h:tab.p w):Lib.TabIs Tryz.prog w "internal/strconv.uint64pow10" .u64 Lib.pow10Tab:=h.1 _ (.head _)
theorem DK {w:World}(h:tab.p w):Lib.TabIs Tryz.prog w "math/bits.deBruijn64tab" .u8 u9:=h.1 _ (.tail _ (.head _))
theorem rK {P:Program}{w:World}{n:String}{k:IntKind}{zs:List Int}{g:Nat}(hg:P.globalNamed n=some g)(h:Lib.TabIs P w n k zs):g<w.heap.size:=by
 obtain⟨i,hi,hm⟩:=Option.bind_eq_some_iff.1 (show World.var? P w n=some _ from h)
 obtain rfl:=Option.some.inj (hg.symm.trans hi)
 split at hm
 ·next h1=>exact(Array.getElem?_eq_some_iff.1 h1).1
 ·cases hm
theorem DL {w:World}(h1:Lib.TabIs Tryz.prog w "internal/strconv.uint64pow10" .u64 Lib.pow10Tab)(h2:Lib.TabIs Tryz.prog w "math/bits.deBruijn64tab" .u8 u9)(h3:∃m,w.cell? ⟨0,0,none⟩=some (.int .i64 m)):tab.p w∧tab.g≤w.heap.size:=by
 have a1:=rK Es h1
 have a2:=rK gTz h2
 have a3:=cr h3.choose_spec
 refine⟨⟨fun n hn=>?_,h3⟩,?_⟩
 ·simp only[wz,List.mem_cons,List.not_mem_nil,or_false]at hn
  rcases hn with rfl|rfl
  ·exact h1
  ·exact h2
 ·exact Nat.max_le.2 ⟨Nat.succ_le_of_lt (Nat.max_lt.2 ⟨a1,a2⟩),a3⟩
abbrev Cv (f:FuncId)(avs:List AV)(r:AV):Prop:=Ct tab Tryz.prog f avs [] (fun q _=>q=r)
theorem ao {a b:Int}(h:a=b):some (iv a)=some (iv b):=by rw[h]
theorem kp {a b:List UInt8}(h:a=b):some (sv a)=some (sv b):=by rw[h]
theorem mK {a b:Bool}(h:a=b):some (bv a)=some (bv b):=by rw[h]
theorem ah (x:Int)(h:-9223372036854775808≤x)(h':x≤9223372036854775807):IntKind.i64.wrap x=x:=by
 simp only[IntKind.wrap,IntKind.signed,IntKind.bits];simp;omega
def bp (a:ID):Bool:=decide (1≤a.c∧a.c≤1048576∧1≤a.s∧a.s≤1000)
def bf (a b:ID):Bool:=decide (a.c<b.c∨a.c=b.c∧a.s<b.s)
def bO (a:ID):Bool:=decide (a.c=0∧a.s=0)
def bN (a:ID):Int:=if bp a=true then 0 else 2
theorem Fj (a:ID):Cv 105 [idv a] (idv a):=by
 refine ab Tryz.f105 Tryz.func105 rfl rfl fun w H B g0=>?_
 exact FinP.open rfl rfl
theorem fb (a:ID):Cv 224 [idv a] (iv (bN a)):=by
 refine ab Tryz.f224 Tryz.func224 rfl rfl fun w H B g0=>?_
 (repeat' (first|refine Spl.t rfl ?_|refine Spl.f rfl ?_|refine Spl.of (fun h=>?_) (fun h=>?_)))
 all_goals refine FinP.open rfl (congrArg iv ?_)
 all_goals unfold bN bp
 all_goals simp_all
 all_goals omega
theorem tE (a:ID):Cv 179 [idv a] (bv (bp a)):=by
 refine ab Tryz.f179 Tryz.func179 rfl rfl fun w H B g0=>?_
 (repeat' (first|refine Spl.t rfl ?_|refine Spl.f rfl ?_|refine Spl.of (fun h=>?_) (fun h=>?_)))
 all_goals refine FinP.open rfl (congrArg bv ?_)
 all_goals unfold bp
 all_goals simp_all
 all_goals omega
theorem rm (a b:ID):Cv 272 [idv a,idv b] (bv (bf a b)):=by
 refine ab Tryz.f272 Tryz.func272 rfl rfl fun w H B g0=>?_
 (repeat' (first|refine Spl.t rfl ?_|refine Spl.f rfl ?_|refine Spl.of (fun h=>?_) (fun h=>?_)))
 all_goals refine FinP.open rfl (congrArg bv ?_)
 all_goals unfold bf
 all_goals simp_all
 all_goals omega
theorem CJ (a b:ID):Cv 254 [idv a,idv b] (bv (bf a b)):=by
 refine ab Tryz.f254 Tryz.func254 rfl rfl fun w H B g0=>?_
 (repeat' (first|refine Spl.t rfl ?_|refine Spl.f rfl ?_|refine Spl.of (fun h=>?_) (fun h=>?_)))
 all_goals refine FinP.open rfl (congrArg bv ?_)
 all_goals unfold bf
 all_goals simp_all
 all_goals omega
theorem pb (a:ID):Cv 202 [idv a] (bv (bO a)):=by
 refine ab Tryz.f202 Tryz.func202 rfl rfl fun w H B g0=>?_
 refine aR (Dz (r:=bO a) rfl rfl rfl rfl rfl (by show Tryz.prog.stoodInHeld 54=false;kernel_rfl) (by show Tryz.prog.eqGuardType Tryz.prog.depth 54=false;kernel_rfl) rfl (by simp[oD,veq,bO];rfl)) rfl ?_
 exact FinP.open rfl rfl
theorem mH (n:Int)(h0:-9223372036854775808≤n)(h1:n≤9223372036854775807):Cv 251 [iv n,iv 10] (sv (Lib.itoa n)):=
 cd [.int .i64 n,.int .i64 10] rfl fun w hw=>(Tryz.strconv_FormatInt_10 n h0 h1 w (u7 hw)).mono fun _ _ ⟨he,_,_,hg⟩=>⟨he,by rw[hg];exact iU (Lib.below_grow _ _ (Nat.le_refl _) _ _)⟩
theorem AU (n:Int)(h0:-9223372036854775808≤n)(h1:n≤9223372036854775807):Cv 252 [iv n] (sv (Lib.itoa n)):=
 cd [.int .i64 n] rfl fun w hw=>(Tryz.strconv_Itoa n h0 h1 w (u7 hw)).mono fun _ _ ⟨he,_,_,hg⟩=>⟨he,by rw[hg];exact iU (Lib.below_grow _ _ (Nat.le_refl _) _ _)⟩
def cf (a:ID):List UInt8:=if bO a=true then[45]else if bp a=true then Lib.itoa a.c++[46]++Lib.itoa a.s else[63]
theorem gv (n k:Nat)(h:n<10^k)(hk:0<k):(Lib.decDigits n).length≤k:=by
 induction k generalizing n with
 |zero=>omega
 |succ k ih=>
  rw[Lib.decDigits]
  split
  ·simp
  ·by_cases h0:k=0
   ·subst h0;simp at h;omega
   ·have:=ih (n/10) (by rw[Nat.pow_succ]at h;omega) (by omega)
    simp;omega
theorem eA (n:Int)(h0:0≤n)(h1:n≤1048576):(Lib.itoa n).length≤10:=by
 unfold Lib.itoa
 rw[if_neg (by omega)]
 exact gv _ 10 (by omega) (by omega)
theorem bj {a:ID}(h:bp a=true):1≤a.c∧a.c≤1048576∧1≤a.s∧a.s≤1000:=of_decide_eq_true h
theorem fe (a:ID):(cf a).length≤21:=by
 unfold cf
 split
 ·simp
 ·split
  ·next h=>
   obtain⟨h1,h2,h3,h4⟩:=bj h
   have:=eA a.c (by omega) (by omega)
   have:=eA a.s (by omega) (by omega)
   simp;omega
  ·simp
theorem gZ (a:ID):Cv 212 [idv a] (sv (cf a)):=by
 refine ab Tryz.f212 Tryz.func212 rfl rfl fun w H B g0=>?_
 refine aa (pb a) (fun _ _=>rfl) rfl rfl rfl ?_
 refine Spl.of (fun h1=>?_) (fun h1=>?_)
 ·exact FinP.open rfl (by rw[cf,if_pos h1];rfl)
 refine aa (fb a) (fun _ _=>rfl) rfl rfl rfl ?_
 refine Spl.of (fun h2=>?_) (fun h2=>?_)
 ·refine FinP.open rfl ?_
  have:¬bp a=true:=fun e=>by simp[bN,e]at h2
  rw[cf,if_neg (by rw[h1];decide),if_neg this];rfl
 have hm:bp a=true:=by
  cases e:bp a with
  |true=>rfl
  |false=>simp[bN,e]at h2
 obtain⟨a1,a2,a3,a4⟩:=bj hm
 have l1:=eA a.c (by omega) (by omega)
 have l2:=eA a.s (by omega) (by omega)
 refine RegP.of rfl (by decide+kernel) ?_
 refine QuietP.of (QJ.call (mH a.c (by omega) (by omega)) (fun _ _=>rfl) rfl rfl) ?_
 refine Req.of (by simp;omega) ?_
 refine QuietP.of (QJ.call (AU a.s (by omega) (by omega)) (fun _ _=>rfl) rfl rfl) ?_
 refine Req.of (by simp;omega) ?_
 exact FinP.open rfl (by rw[cf,if_neg (by rw[h1];decide),if_pos hm];rfl)
end Go.Proofs.E
namespace Go.Proofs.E
theorem ql (x:Int)(h:0≤x)(h':x<256):IntKind.u8.wrap x=x:=by
 simp only[IntKind.wrap,IntKind.signed,IntKind.bits];simp;omega
def dig (m:Nat):UInt8:=UInt8.ofNat (48+m % 10)
theorem A0 (n:Nat)(hn:n≤1000000000000000000):Cv 180 [iv n] (sv (Lib.decDigits n)):=by
 refine ab Tryz.f180 Tryz.func180 rfl rfl fun w H B g0=>?_
 refine jl (V:=Nat×List UInt8) (fun v=>[(0,iv v.1),(3,sv v.2)]) (fun _=>[]) (fun v=>2*v.1+(if v.2=[]then 1 else 0))
  (fun v=>v.1≤n∧v.2.length+v.1≤1000000000000000000+100∧((v.2=[]∧v.1=n)∨(v.2≠[]∧((0<v.1∧Lib.decDigits v.1++v.2=Lib.decDigits n)∨(v.1=0∧v.2=Lib.decDigits n))))) (n,[]) ⟨by simp,by simp;omega,.inl ⟨rfl,rfl⟩⟩ (by repeat' (first|exact trivial|exact rfl|refine And.intro ?_ ?_)) (by repeat' (first|exact trivial|exact rfl|refine And.intro ?_ ?_)) ?_
 rintro⟨m,acc⟩ ⟨hm,hl,hI⟩
 simp only at hm hl hI
 have hrem:(m:Int).tmod 10=((m % 10:Nat):Int):=by
  rw[Int.tmod_eq_emod_of_nonneg (by omega)];omega
 have hadd:IntKind.i64.wrap (48+((m % 10:Nat):Int))=((48+m % 10:Nat):Int):=by rw[ah _ (by omega) (by omega)];omega
 have hu8:IntKind.u8.wrap ((48+m % 10:Nat):Int)=((48+m % 10:Nat):Int):=ql _ (by omega) (by omega)
 have hquo:IntKind.i64.wrap ((m:Int).tdiv 10)=((m/10:Nat):Int):=by rw[Int.tdiv_eq_ediv_of_nonneg (by omega),ah _ (by omega) (by omega)];omega
 have step:(0<m∨acc=[])→(m/10≤n∧(dig m::acc).length+m/10≤1000000000000000000+100∧((dig m::acc=[]∧m/10=n)∨(dig m::acc≠[]∧((0<m/10∧Lib.decDigits (m/10)++(dig m::acc)=Lib.decDigits n)∨(m/10=0∧dig m::acc=Lib.decDigits n)))))∧
  2*(m/10)+(if dig m::acc=[]then 1 else 0)<2*m+(if acc=[]then 1 else 0):=by
  intro hc
  have hd:Lib.decDigits m=if m<10 then[dig m]else Lib.decDigits (m/10)++[dig m]:=by
   rw[Lib.decDigits]
   split
   ·next h=>rw[dig,Nat.mod_eq_of_lt h]
   ·rfl
  have hall:Lib.decDigits m++acc=Lib.decDigits n:=by
   rcases hI with⟨rfl,rfl⟩|⟨hne,⟨_,h⟩|⟨h0,_⟩⟩
   ·simp
   ·exact h
   ·rcases hc with h|h
    ·omega
    ·exact absurd h hne
  refine⟨⟨by omega,?_,.inr ⟨by simp,?_⟩⟩,?_⟩
  ·simp only[List.length_cons]
   rcases hI with⟨rfl,rfl⟩|⟨hne,_⟩
   ·simp;omega
   ·rcases hc with h|h
    ·omega
    ·exact absurd h hne
  ·by_cases h10:m<10
   ·right
    rw[hd,if_pos h10]at hall
    exact⟨by omega,by simpa using hall⟩
   ·left
    rw[hd,if_neg h10]at hall
    exact⟨by omega,by simpa using hall⟩
  ·simp only[List.cons_ne_nil,if_false]
   split<;>rcases hc with h|h<;>first|omega|(exact absurd h (by assumption))
 have hstr:cZ [IntKind.u8.wrap (IntKind.i64.wrap (48+(m:Int).tmod 10))]=⟨⟨[dig m]⟩⟩:=by rw[hrem,hadd,hu8];rfl
 have hstr':(List.map (fun n:Int=>UInt8.ofNat n.toNat) [IntKind.u8.wrap (IntKind.i64.wrap (48+(m:Int).tmod 10))])++acc=dig m::acc:=by rw[hrem,hadd,hu8];rfl
 refine Spl.of (fun h=>?_) (fun h=>?_)
 ·have hpos:0<m:=by have:=of_decide_eq_true h;omega
  obtain⟨s1,s2⟩:=step (.inl hpos)
  ((repeat (first|refine Spl.t rfl ?_|refine Spl.f rfl ?_));refine Req.of (by decide) ?_;refine aR (br (ns:=[IntKind.u8.wrap (IntKind.i64.wrap (48+(m:Int).tmod 10))]) rfl rfl rfl rfl rfl rfl) rfl ?_;refine Req.of (by simp;omega) ?_;refine Req.of (by decide) ?_;exact⟨(m/10,dig m::acc),s1,s2,⟨ao hquo,kp hstr',trivial⟩,(by repeat' (first|exact trivial|exact rfl|refine And.intro ?_ ?_)),(by repeat' (first|exact trivial|exact rfl|refine And.intro ?_ ?_))⟩)
 ·have h0:m=0:=by have:=of_decide_eq_false h;omega
  (repeat (first|refine Spl.t rfl ?_|refine Spl.f rfl ?_))
  refine Spl.of (fun h'=>?_) (fun h'=>?_)
  ·have hacc:acc=[]:=of_decide_eq_true h'
   obtain⟨s1,s2⟩:=step (.inr hacc)
   ((repeat (first|refine Spl.t rfl ?_|refine Spl.f rfl ?_));refine Req.of (by decide) ?_;refine aR (br (ns:=[IntKind.u8.wrap (IntKind.i64.wrap (48+(m:Int).tmod 10))]) rfl rfl rfl rfl rfl rfl) rfl ?_;refine Req.of (by simp;omega) ?_;refine Req.of (by decide) ?_;exact⟨(m/10,dig m::acc),s1,s2,⟨ao hquo,kp hstr',trivial⟩,(by repeat' (first|exact trivial|exact rfl|refine And.intro ?_ ?_)),(by repeat' (first|exact trivial|exact rfl|refine And.intro ?_ ?_))⟩)
  ·have hacc:acc≠[]:=of_decide_eq_false h'
   refine FinP.open rfl ?_
   rcases hI with⟨rfl,_⟩|⟨_,⟨h1,_⟩|⟨_,h1⟩⟩
   ·exact absurd rfl hacc
   ·omega
   ·show sv acc=_
    rw[h1]
theorem zj (n:Int)(h:0≤n):Lib.itoa n=Lib.decDigits n.toNat:=by rw[Lib.itoa,if_neg (by omega)]
theorem fo (n:Int)(h:0≤n)(hn:n≤1000000000000000000):Cv 180 [iv n] (sv (Lib.itoa n)):=by
 have:=A0 n.toNat (by omega)
 rw[←zj n h,Int.toNat_of_nonneg h]at this
 exact this
theorem m8 (a:ID):Cv 141 [idv a] (sv (cf a)):=by
 refine ab Tryz.f141 Tryz.func141 rfl rfl fun w H B g0=>?_
 have none:bO a=true→cf a=[45]:=fun h=>if_pos h
 refine Spl.of (fun h=>?_) (fun h=>?_)
 ·(repeat (first|refine Spl.t rfl ?_|refine Spl.f rfl ?_))
  refine Spl.of (fun h'=>?_) (fun h'=>?_)
  ·have hn:bO a=true:=decide_eq_true ⟨of_decide_eq_true h,of_decide_eq_true h'⟩
   exact FinP.open rfl (by rw[cf,if_pos hn];rfl)
  ·have hn:¬bO a=true:=fun e=>of_decide_eq_false h' (of_decide_eq_true e).2
   (refine aa (tE a) (fun _ _=>rfl) rfl rfl rfl ?_;refine Spl.of (fun h2=>?_) (fun h2=>?_);(refine FinP.open rfl ?_;have:¬bp a=true:=(by simpa using h2);rw[cf,if_neg hn,if_neg this];rfl);(have hm:bp a=true:=(by simpa using h2);obtain⟨a1,a2,a3,a4⟩:=bj hm;have l1:=eA a.c (by omega) (by omega);have l2:=eA a.s (by omega) (by omega);refine RegP.of rfl (by decide+kernel) ?_;refine QuietP.of (QJ.call (fo a.c (by omega) (by omega)) (fun _ _=>rfl) rfl rfl) ?_;refine Req.of (by simp;omega) ?_;refine QuietP.of (QJ.call (fo a.s (by omega) (by omega)) (fun _ _=>rfl) rfl rfl) ?_;refine Req.of (by simp;omega) ?_;exact FinP.open rfl (by rw[cf,if_neg hn,if_pos hm];rfl)))
 ·have hn:¬bO a=true:=fun e=>of_decide_eq_false h (of_decide_eq_true e).1
  (repeat (first|refine Spl.t rfl ?_|refine Spl.f rfl ?_))
  (refine aa (tE a) (fun _ _=>rfl) rfl rfl rfl ?_;refine Spl.of (fun h2=>?_) (fun h2=>?_);(refine FinP.open rfl ?_;have:¬bp a=true:=(by simpa using h2);rw[cf,if_neg hn,if_neg this];rfl);(have hm:bp a=true:=(by simpa using h2);obtain⟨a1,a2,a3,a4⟩:=bj hm;have l1:=eA a.c (by omega) (by omega);have l2:=eA a.s (by omega) (by omega);refine RegP.of rfl (by decide+kernel) ?_;refine QuietP.of (QJ.call (fo a.c (by omega) (by omega)) (fun _ _=>rfl) rfl rfl) ?_;refine Req.of (by simp;omega) ?_;refine QuietP.of (QJ.call (fo a.s (by omega) (by omega)) (fun _ _=>rfl) rfl rfl) ?_;refine Req.of (by simp;omega) ?_;exact FinP.open rfl (by rw[cf,if_neg hn,if_pos hm];rfl)))
theorem nb:Cv 248 [] (bv true):=by
 refine ab Tryz.f248 Tryz.func248 rfl rfl fun w H B g0=>?_
 refine aa (rm ⟨3,2⟩ ⟨4,1⟩) (fun _ _=>rfl) rfl rfl rfl ?_
 (repeat (first|refine Spl.t rfl ?_|refine Spl.f rfl ?_))
 refine aa (rm ⟨3,2⟩ ⟨3,1⟩) (fun _ _=>rfl) rfl rfl rfl ?_
 (repeat (first|refine Spl.t rfl ?_|refine Spl.f rfl ?_))
 refine aa (gZ ⟨3,2⟩) (fun _ _=>rfl) rfl rfl rfl ?_
 (repeat (first|refine Spl.t rfl ?_|refine Spl.f rfl ?_))
 refine FinP.open rfl (congrArg bv ?_)
 decide+kernel
end Go.Proofs.E
namespace Go.Proofs.E
abbrev cv (n:Int):AV:=.d (.v (.int .i32 n))
structure OP where
 k:Int
 i:ID
 a:ID
 ch:Int
 deriving DecidableEq
abbrev opv (o:OP):AV:=.agg [iv o.k,iv o.i.c,iv o.i.s,iv o.a.c,iv o.a.s,cv o.ch]
abbrev Di (n:Int):List D:=[.v (.int .i64 n)]
def dX:List Int→Int
 |[]=>0
 |e::r=>if e=0 then dX r else e
theorem il (es:List Int)(hl:es.length≤1000000000000000000):Cv 186 [.full 1 (es.map Di)] (iv (dX es)):=by
 refine ab Tryz.f186 Tryz.func186 rfl rfl fun w H B g0=>?_
 refine jl (V:=Nat) (fun v=>[(7,iv v)]) (fun _=>[]) (fun v=>es.length-v) (fun v=>v≤es.length∧dX es=dX (es.drop v)) 0 ⟨by omega,rfl⟩ (by repeat' (first|exact trivial|exact rfl|refine And.intro ?_ ?_)) (by repeat' (first|exact trivial|exact rfl|refine And.intro ?_ ?_)) ?_
 rintro i ⟨hi,hI⟩
 refine Spl.of (fun h=>?_) (fun h=>?_)
 ·have hlt:i<es.length:=by have:=of_decide_eq_true h;simp at this;omega
  (repeat (first|refine Spl.t rfl ?_|refine Spl.f rfl ?_))
  refine IdxP.of (Di es[i]) (by omega) (by simp[hlt]) ?_
  have hd:dX (es.drop i)=if es[i]=0 then dX (es.drop (i+1))else es[i]:=by rw[List.drop_eq_getElem_cons hlt];rfl
  refine Spl.of (fun h=>?_) (fun h=>?_)
  ·refine FinP.open rfl (congrArg iv ?_)
   rw[hI,hd,if_neg (by simpa using h)]
  ·(repeat (first|refine Spl.t rfl ?_|refine Spl.f rfl ?_))
   refine⟨i+1,⟨by omega,by rw[hI,hd,if_pos (by simpa using h)]⟩,by omega,⟨ao ?_,trivial⟩,(by repeat' (first|exact trivial|exact rfl|refine And.intro ?_ ?_)),(by repeat' (first|exact trivial|exact rfl|refine And.intro ?_ ?_))⟩
   exact ah _ (by omega) (by omega)
 ·have hge:i=es.length:=by have:=of_decide_eq_false h;simp at this;omega
  (repeat (first|refine Spl.t rfl ?_|refine Spl.f rfl ?_))
  refine FinP.open rfl (congrArg iv ?_)
  rw[hI,hge,List.drop_length];rfl
theorem jQ (b:Bool)(e:Int):Cv 187 [bv b,iv e] (iv (if b=true then e else 0)):=by
 refine ab Tryz.f187 Tryz.func187 rfl rfl fun w H B g0=>?_
 refine Spl.of (fun h=>?_) (fun h=>?_)
 ·exact FinP.open rfl (congrArg iv (by rw[if_pos h]))
 ·exact FinP.open rfl (congrArg iv (by rw[if_neg (by rw[h];decide)]))
def iI (n:Int):Bool:=decide (0≤n∧n<55296∨57343<n∧n≤1114111)
theorem v6 (n:Int):Cv 225 [cv n] (bv (iI n)):=by
 refine ab Tryz.f225 Tryz.func225 rfl rfl fun w H B g0=>?_
 (repeat' (first|refine Spl.t rfl ?_|refine Spl.f rfl ?_|refine Spl.of (fun h=>?_) (fun h=>?_)))
 all_goals refine FinP.open rfl (congrArg bv ?_)
 all_goals unfold iI
 all_goals simp_all
 all_goals omega
theorem Gk (o:OP):Cv 104 [opv o] (opv o):=by
 refine ab Tryz.f104 Tryz.func104 rfl rfl fun w H B g0=>?_
 refine RegP.of rfl (by decide+kernel) ?_
 refine QuietP.of (QJ.call (Fj o.i) (fun _ _=>rfl) rfl rfl) ?_
 refine QuietP.of (QJ.call (Fj o.a) (fun _ _=>rfl) rfl rfl) ?_
 exact FinP.open rfl rfl
def aL (o:OP):Int:=
 if o.k≠0∧o.k≠1 then 1
 else if o.k=1∧(bO o.a=false∨o.ch≠0)then 1
 else if bp o.i=false∨bO o.a=false∧bp o.a=false then 2
 else if bO o.a=false∧o.i.c≤o.a.c then 3
 else if o.k=0∧(o.ch<32∨o.ch>1114111∨55296≤o.ch∧o.ch≤57343)then 1
 else 0
def jG (o:OP):Int:=if bO o.a=true then 0 else dX [bN o.a,if decide (o.i.c≤o.a.c)=true then 3 else 0]
def s5 (o:OP):Prop:=o.ch<32∨o.ch>1114111∨55296≤o.ch∧o.ch≤57343
instance (o:OP):Decidable (s5 o):=by unfold s5;infer_instance
theorem BR {o:OP}(k0:o.k=0){A:Int}(hA:jG o=A)(v:Int)(hv:v=if s5 o then 1 else 0):dX [bN o.i,A,v]=aL o:=by
 subst hA
 unfold aL
 rw[if_neg (by omega),if_neg (by omega)]
 unfold jG bN
 have hb:(o.k=0∧(o.ch<32∨o.ch>1114111∨55296≤o.ch∧o.ch≤57343))=s5 o:=by unfold s5;simp[k0]
 simp only[hb]
 subst hv
 by_cases e1:bp o.i=true<;>by_cases e2:bp o.a=true<;>cases e3:bO o.a<;>by_cases e4:o.i.c≤o.a.c<;>by_cases e5:s5 o<;>simp[dX,e1,e2,e3,e4,e5]
theorem FU {o:OP}(h:¬o.ch<32):(if (!iI o.ch)=true then(1:Int)else 0)=if s5 o then 1 else 0:=by
 unfold iI s5
 by_cases e:0≤o.ch∧o.ch<55296∨57343<o.ch∧o.ch≤1114111
 ·rw[decide_eq_true e];exact(if_neg (by decide)).trans (if_neg (by omega)).symm
 ·rw[decide_eq_false e];exact(if_pos (by decide)).trans (if_pos (by omega)).symm
set_option maxHeartbeats 2000000 in
theorem g7 (o:OP):Cv 188 [opv o] (iv (aL o)):=by
 refine ab Tryz.f188 Tryz.func188 rfl rfl fun w H B g0=>?_
 refine Spl.of (fun h1=>?_) (fun h1=>?_)
 ·have k1:o.k=1:=of_decide_eq_true h1
  refine RegP.of rfl (by decide+kernel) ?_
  refine QuietP.of (QJ.call (pb o.a) (fun _ _=>rfl) rfl rfl) ?_
  refine Spl.of (fun h2=>?_) (fun h2=>?_)
  ·have n1:bO o.a=false:=by simpa using h2
   (repeat (first|refine Spl.t rfl ?_|refine Spl.f rfl ?_))
   refine QuietP.of (QJ.call (jQ true 1) (fun _ _=>rfl) rfl rfl) ?_
   refine QuietP.of (QJ.call (fb o.i) (fun _ _=>rfl) rfl rfl) ?_
   refine QuietP.of (QJ.call (il [if true=true then 1 else 0,bN o.i] (by simp)) (fun _ _=>rfl) rfl rfl) ?_
   refine FinP.open rfl (congrArg iv ?_)
   unfold aL
   simp[dX,k1,n1]
  ·have n1:bO o.a=true:=by simpa using h2
   (repeat (first|refine Spl.t rfl ?_|refine Spl.f rfl ?_))
   refine QuietP.of (QJ.call (jQ (!decide (o.ch=0)) 1) (fun _ _=>rfl) rfl rfl) ?_
   refine QuietP.of (QJ.call (fb o.i) (fun _ _=>rfl) rfl rfl) ?_
   refine QuietP.of (QJ.call (il [if (!decide (o.ch=0))=true then 1 else 0,bN o.i] (by simp)) (fun _ _=>rfl) rfl rfl) ?_
   refine FinP.open rfl (congrArg iv ?_)
   unfold aL bN
   simp only[dX,k1,n1]
   by_cases e1:o.ch=0<;>by_cases e2:bp o.i=true<;>simp[e1,e2]
 have k1:o.k≠1:=of_decide_eq_false h1
 (repeat (first|refine Spl.t rfl ?_|refine Spl.f rfl ?_))
 refine Spl.of (fun h2=>?_) (fun h2=>?_)
 ·have k0:o.k=0:=of_decide_eq_true h2
  (repeat (first|refine Spl.t rfl ?_|refine Spl.f rfl ?_))
  refine aa (pb o.a) (fun _ _=>rfl) rfl rfl rfl ?_
  refine Spl.of (fun h3=>?_) (fun h3=>?_)
  ·have n1:bO o.a=false:=by simpa using h3
   refine RegP.of rfl (by decide+kernel) ?_
   refine QuietP.of (QJ.call (fb o.a) (fun _ _=>rfl) rfl rfl) ?_
   refine QuietP.of (QJ.call (jQ (decide (o.i.c≤o.a.c)) 3) (fun _ _=>rfl) rfl rfl) ?_
   refine QuietP.of (QJ.call (il [bN o.a,if decide (o.i.c≤o.a.c)=true then 3 else 0] (by simp)) (fun _ _=>rfl) rfl rfl) ?_
   have hA:jG o=dX [bN o.a,if decide (o.i.c≤o.a.c)=true then 3 else 0]:=by unfold jG;rw[if_neg (by rw[n1];decide)]
   generalize dX [bN o.a,if decide (o.i.c≤o.a.c)=true then 3 else 0]=A at hA ⊢
   (refine RegP.of rfl (by decide+kernel) ?_;refine QuietP.of (QJ.call (fb o.i) (fun _ _=>rfl) rfl rfl) ?_;refine Spl.of (fun h4=>?_) (fun h4=>?_))
   ·((repeat (first|refine Spl.t rfl ?_|refine Spl.f rfl ?_));refine QuietP.of (QJ.call (jQ true 1) (fun _ _=>rfl) rfl rfl) ?_;refine QuietP.of (QJ.call (il [bN o.i,A,if true=true then 1 else 0] (by simp)) (fun _ _=>rfl) rfl rfl) ?_;refine FinP.open rfl (congrArg iv ?_))
    exact BR k0 hA _ (by rw[if_pos rfl];exact(if_pos (.inl (of_decide_eq_true h4))).symm)
   ·((repeat (first|refine Spl.t rfl ?_|refine Spl.f rfl ?_));refine QuietP.of (QJ.call (v6 o.ch) (fun _ _=>rfl) rfl rfl) ?_;(repeat (first|refine Spl.t rfl ?_|refine Spl.f rfl ?_));refine QuietP.of (QJ.call (jQ (!iI o.ch) 1) (fun _ _=>rfl) rfl rfl) ?_;refine QuietP.of (QJ.call (il [bN o.i,A,if (!iI o.ch)=true then 1 else 0] (by simp)) (fun _ _=>rfl) rfl rfl) ?_;refine FinP.open rfl (congrArg iv ?_))
    exact BR k0 hA _ (FU (of_decide_eq_false h4))
  ·have n1:bO o.a=true:=by simpa using h3
   (repeat (first|refine Spl.t rfl ?_|refine Spl.f rfl ?_))
   have hA:jG o=0:=by unfold jG;rw[if_pos n1]
   (refine RegP.of rfl (by decide+kernel) ?_;refine QuietP.of (QJ.call (fb o.i) (fun _ _=>rfl) rfl rfl) ?_;refine Spl.of (fun h4=>?_) (fun h4=>?_))
   ·((repeat (first|refine Spl.t rfl ?_|refine Spl.f rfl ?_));refine QuietP.of (QJ.call (jQ true 1) (fun _ _=>rfl) rfl rfl) ?_;refine QuietP.of (QJ.call (il [bN o.i,0,if true=true then 1 else 0] (by simp)) (fun _ _=>rfl) rfl rfl) ?_;refine FinP.open rfl (congrArg iv ?_))
    exact BR k0 hA _ (by rw[if_pos rfl];exact(if_pos (.inl (of_decide_eq_true h4))).symm)
   ·((repeat (first|refine Spl.t rfl ?_|refine Spl.f rfl ?_));refine QuietP.of (QJ.call (v6 o.ch) (fun _ _=>rfl) rfl rfl) ?_;(repeat (first|refine Spl.t rfl ?_|refine Spl.f rfl ?_));refine QuietP.of (QJ.call (jQ (!iI o.ch) 1) (fun _ _=>rfl) rfl rfl) ?_;refine QuietP.of (QJ.call (il [bN o.i,0,if (!iI o.ch)=true then 1 else 0] (by simp)) (fun _ _=>rfl) rfl rfl) ?_;refine FinP.open rfl (congrArg iv ?_))
    exact BR k0 hA _ (FU (of_decide_eq_false h4))
 ·(repeat (first|refine Spl.t rfl ?_|refine Spl.f rfl ?_))
  refine FinP.open rfl (congrArg iv ?_)
  unfold aL
  rw[if_pos ⟨by simpa using h2,k1⟩]
end Go.Proofs.E
end
section
open Go Go.Gv Go.RowKit
attribute [local irreducible] Go.Gv.WJ Go.Gv.OpJ Go.Gv.QJ Go.Gv.Spl Go.Gv.Req Go.Gv.IdxP Go.Gv.RegP Go.Gv.FinP Go.Gv.CellP Go.Gv.CellsP Go.Gv.ArrP Go.Gv.ArrsP Go.Gv.DropP Go.Gv.ByteP Go.Gv.StoreP
set_option maxRecDepth 100000
namespace Go.Proofs.E
theorem DI:IntKind.u64.wrap (bits BinOp.and IntKind.u64 16 (IntKind.u64.wrap (-16))*285870213051353865)/288230376151711744=15:=by decide+kernel
theorem tL (w:World)(h:w.cell? ⟨5,15,none⟩=some (.int .u8 4)):Calls Tryz.prog 313 #[.int .u64 16] w fun e w'=>e=.returned (.int .i64 4)∧w'=w:=by
 go_enter Tryz.func313,Tryz.ntmps313
 go_wp2_with (simp only[DI])
 go_ret
 exact⟨rfl,rfl⟩
abbrev tK (n:Int):AV:=.d (.v (.int .u64 n))
abbrev u8v (n:Int):AV:=.d (.v (.int .u8 n))
theorem yp {w:World}(h:tab.p w):w.cell? ⟨5,15,none⟩=some (.int .u8 4):=by
 have:=DK h
 unfold Lib.TabIs World.var? at this
 rw[gTz]at this
 simp only[Option.bind_some]at this
 unfold World.cell?
 split at this
 ·next cs t z hh=>
  simp only[Option.some.injEq]at this
  subst this
  rw[hh]
  rfl
 ·cases this
theorem E6:Cv 313 [tK 16] (iv 4):=
 cd [.int .u64 16] rfl fun w hw=>(tL w (yp hw)).mono fun _ _ ⟨he,hw⟩=>⟨he,by rw[hw];exact Keeps.refl _ _⟩
theorem GK:Cv 308 [tK 16] (iv 4):=by
 refine ab Tryz.f308 Tryz.func308 rfl rfl fun w H B g0=>?_
 (repeat (first|refine Spl.t rfl ?_|refine Spl.f rfl ?_))
 refine aa E6 (fun _ _=>rfl) rfl rfl rfl ?_
 exact FinP.open rfl rfl
theorem Fh:Cv 307 [iv 16] (bv true):=by
 refine ab Tryz.f307 Tryz.func307 rfl rfl fun w H B g0=>?_
 exact FinP.open rfl (congrArg bv (by decide+kernel))
def hx (n:Nat):UInt8:=if n<10 then UInt8.ofNat (48+n)else UInt8.ofNat (87+n)
def gR (n:Nat):List UInt8:=if n<16 then[hx n]else gR (n/16)++[hx (n % 16)]
def fG (acc:List UInt8):List AV:=(List.replicate (65-acc.length) (0:UInt8)++acc).map fun b=>u8v b.toNat
theorem yv {a b:Int}(h:a=b):some (tK a)=some (tK b):=by rw[h]
theorem F9 (m:Nat)(h:m<16^16):IntKind.u64.wrap ((BitVec.ofInt 64 (m:Int) &&& BitVec.ofInt 64 (IntKind.u64.wrap (IntKind.u64.wrap 16-1))).toNat:Int)=((m % 16:Nat):Int):=by
 have e1:IntKind.u64.wrap (IntKind.u64.wrap 16-1)=((15:Nat):Int):=by decide
 rw[e1]
 have e2:(BitVec.ofInt 64 (m:Int)).toNat=m:=by simp;omega
 have e3:(BitVec.ofInt 64 ((15:Nat):Int)).toNat=15:=by decide
 rw[BitVec.toNat_and,e2,e3,show(15:Nat)=2^4-1 from rfl,Nat.and_two_pow_sub_one_eq_mod,IntKind.wrap_u64]
 omega
def F2:List UInt8:=[48,49,50,51,52,53,54,55,56,57,97,98,99,100,101,102,103,104,105,106,107,108,109,110,111,112,113,114,115,116,117,118,119,120,121,122]
theorem vU:∀i:Fin 16,F2[i.val]?=some (hx i.val):=by decide
theorem oO (acc:List UInt8)(h:acc.length≤65):(fG acc).length=65:=by simp[fG];omega
theorem mc (acc:List UInt8)(d:UInt8)(h:acc.length<65):bI (fG acc) (65-acc.length-1) [u8v d.toNat]=fG (d::acc):=by
 unfold fG
 simp only[bI,List.length_cons]
 rw[show 65-acc.length=(65-(acc.length+1))+1 by omega,List.replicate_succ']
 simp only[Nat.add_sub_cancel]
 rw[List.map_append,List.map_append,List.map_append,List.append_assoc,List.set_append_right _ _ (by simp)]
 simp
theorem ru (N:Nat)(hN:N<16^16):Cv 294 [.d (.v (.slice none 0 0)),tK N,iv 16,bv false,bv false] (.tup [.d (.v (.slice none 0 0)),sv (gR N)]):=by
 refine ab Tryz.f294 Tryz.func294 rfl rfl fun w H B g0=>?_
 (repeat (first|refine Spl.t rfl ?_|refine Spl.f rfl ?_))
 refine aa Fh (fun _ _=>rfl) rfl rfl rfl ?_
 (repeat (first|refine Spl.t rfl ?_|refine Spl.f rfl ?_))
 refine aa GK (fun _ _=>rfl) rfl rfl rfl ?_
 refine jl (V:=Nat×List UInt8) (fun v=>[(1,tK v.1),(13,iv ((65-v.2.length:Nat):Int))]) (fun v=>[(12,.cells (fG v.2))]) (fun v=>v.1)
  (fun v=>∃k,v.1<16^k∧0<k∧k+v.2.length=16∧gR v.1++v.2=gR N) (N,[]) ⟨16,hN,by omega,rfl,by simp⟩ (by repeat' (first|exact trivial|exact rfl|refine And.intro ?_ ?_)) (by repeat' (first|exact trivial|exact rfl|refine And.intro ?_ ?_)) ?_
 rintro⟨m,acc⟩ ⟨k,hm,hk,hl,hI⟩
 have hmm:m<16^16:=Nat.lt_of_lt_of_le hm (Nat.pow_le_pow_right (by omega) (by simp only at hl;omega))
 have hi:IntKind.i64.wrap (((65-acc.length:Nat):Int)-1)=((65-acc.length-1:Nat):Int):=by simp only at hl;rw[ah _ (by omega) (by omega)];omega
 have h16:=F9 m hmm
 simp only at hm hl hI
 have hD:gR m=if m<16 then[hx m]else gR (m/16)++[hx (m % 16)]:=by rw[gR]
 refine Spl.of (fun h=>?_) (fun h=>?_)
 ·have hge:16≤m:=by have:=of_decide_eq_true h;rw[show IntKind.u64.wrap 16=16 by decide]at this;simp only at this;omega
  have hk2:2≤k:=by
   rcases Nat.lt_or_ge k 2 with h2|h2
   ·obtain rfl:k=1:=by omega
    simp at hm;omega
   ·exact h2
  (repeat (first|refine Spl.t rfl ?_|refine Spl.f rfl ?_))
  refine ByteP.of (hx (m % 16)) (Int.le_trans (show(0:Int)≤((m % 16:Nat):Int)by omega) (Int.le_of_eq h16.symm)) ((congrArg (fun z:Int=>F2[z.toNat]?) h16).trans (vU ⟨m % 16,by omega⟩)) ?_
  refine Req.of (by rw[hi];omega) ?_
  refine Req.of (by
   rw[oO acc (by omega),hi]
   show 0+_*1+1≤65;omega) ?_
  refine Req.of (by decide) ?_
  refine⟨(m/16,hx (m % 16)::acc),⟨k-1,?_,by omega,by simp;omega,?_⟩,by simp only;omega,⟨yv ?_,ao ?_,trivial⟩,(by repeat' (first|exact trivial|exact rfl|refine And.intro ?_ ?_)),⟨?_,trivial⟩⟩
  ·simp only
   rw[Nat.div_lt_iff_lt_mul (by decide)]
   have:16^k=16^(k-1)*16:=by rw[←Nat.pow_succ];congr 1;omega
   omega
  ·rw[hD,if_neg (by omega)]at hI
   simpa using hI
  ·show Int.fdiv (m:Int) (2^min (IntKind.u64.wrap 4).toNat IntKind.u64.bits)=_
   rw[show(2:Int)^min (IntKind.u64.wrap 4).toNat IntKind.u64.bits=16 by decide,Int.fdiv_eq_ediv_of_nonneg _ (by decide)]
   simp
  ·exact hi.trans (by simp;omega)
  ·show some (Ent.cells (bI (fG acc) (0+(IntKind.i64.wrap (((65-acc.length:Nat):Int)-1)).toNat*1) [u8v (hx (m % 16)).toNat]))=some (Ent.cells (fG (hx (m % 16)::acc)))
   rw[hi,show 0+((65-acc.length-1:Nat):Int).toNat*1=65-acc.length-1 by omega,mc acc _ (by omega)]
 ·have hlt:m<16:=by have:=of_decide_eq_false h;rw[show IntKind.u64.wrap 16=16 by decide]at this;simp only at this;omega
  rw[hD,if_pos hlt]at hI
  (repeat (first|refine Spl.t rfl ?_|refine Spl.f rfl ?_))
  refine ByteP.of (hx m) (by simp only;omega) (vU ⟨m,hlt⟩) ?_
  refine Req.of (by simp only;rw[hi];omega) ?_
  refine Req.of (by
   simp only
   rw[oO acc (by omega),hi]
   show 0+_*1+1≤65;omega) ?_
  (repeat (first|refine Spl.t rfl ?_|refine Spl.f rfl ?_))
  refine OpJ.shift (SJ.pub 12 (e:=.cells (fG (hx m::acc))) (p:=.c ((List.replicate (65-(acc.length+1)) (0:UInt8)++(hx m::acc)).map bD)) ?_ ?_) ?_
  ·show some (Ent.cells (bI (fG acc) (0+(IntKind.i64.wrap (((65-acc.length:Nat):Int)-1)).toNat*1) [u8v (hx m).toNat]))=_
   rw[hi,show 0+((65-acc.length-1:Nat):Int).toNat*1=65-acc.length-1 by omega,mc acc _ (by omega)]
  ·unfold kB fG
   simp only
   rw[show(fun b:UInt8=>u8v (b.toNat:Int))=fun b=>AV.d (bD b)from rfl,sU]
   rfl
  refine aR (AA (xs:=(hx m::acc).map fun b=>[bD b]) rfl rfl rfl rfl rfl (by rw[hi];omega) (by rw[hi];omega) (by decide) (by show List.length _=65*1;simp;omega) (by decide) ?_) rfl ?_
  ·show List.drop (IntKind.i64.wrap (((65-acc.length:Nat):Int)-1)).toNat (List.take (65:Int).toNat (ir 1 65 (List.map bD (List.replicate (65-(acc.length+1)) 0++hx m::acc))))=_
   have hlen:(List.map bD (List.replicate (65-(acc.length+1)) 0++hx m::acc)).length=65:=by simp;omega
   have:=oN (List.map bD (List.replicate (65-(acc.length+1)) 0++hx m::acc))
   rw[hlen]at this
   rw[this,hi,List.take_of_length_le (by rw[List.length_map,hlen];decide),List.map_map,List.map_append,show((65-acc.length-1:Nat):Int).toNat=65-(acc.length+1)by omega,List.drop_append_of_le_length (by simp),List.drop_of_length_le (by simp)]
   rfl
  refine aR (br (ns:=(hx m::acc).map fun b=>(b.toNat:Int)) rfl rfl (mB _) rfl rfl rfl) rfl ?_
  refine FinP.open rfl ?_
  show AV.tup [_,AV.d (D.v (Value.string (cZ _)))]=_
  rw[wD,←hI]
  rfl
theorem pc (N:Nat)(hN:N<16^15):Cv 276 [iv N,iv 16] (sv (gR N)):=by
 refine ab Tryz.f276 Tryz.func276 rfl rfl fun w H B g0=>?_
 (repeat (first|refine Spl.t rfl ?_|refine Spl.f rfl ?_))
 have hb:Cv 294 [.d (.v (.slice none 0 0)),tK (IntKind.u64.wrap (N:Int)),iv 16,bv (decide ((N:Int)<0)),bv false] (.tup [.d (.v (.slice none 0 0)),sv (gR N)]):=by
  rw[show IntKind.u64.wrap (N:Int)=N by rw[IntKind.wrap_u64];omega,show decide ((N:Int)<0)=false from decide_eq_false (by omega)]
  exact ru N (by omega)
 refine aa hb (fun _ _=>rfl) rfl rfl rfl ?_
 exact FinP.open rfl rfl
theorem po (N:Nat)(hN:N<16^15):Cv 251 [iv N,iv 16] (sv (gR N)):=by
 refine ab Tryz.f251 Tryz.func251 rfl rfl fun w H B g0=>?_
 refine aa (pc N hN) (fun _ _=>rfl) rfl rfl rfl ?_
 exact FinP.open rfl rfl
end Go.Proofs.E
end
section
open Go Go.Gv
attribute [local irreducible] Go.Gv.WJ Go.Gv.OpJ Go.Gv.QJ Go.Gv.Spl Go.Gv.Req Go.Gv.IdxP Go.Gv.RegP Go.Gv.FinP Go.Gv.CellP Go.Gv.CellsP Go.Gv.ArrP Go.Gv.ArrsP Go.Gv.DropP Go.Gv.ByteP Go.Gv.StoreP
set_option maxRecDepth 100000
namespace Go.Proofs.E
set_option maxHeartbeats 4000000 in
theorem l9 (o:OP):Cv 156 [opv o] (iv (aL o)):=by
 refine ab Tryz.f156 Tryz.func156 rfl rfl fun w H B g0=>?_
 (repeat' (first|refine Spl.t rfl ?_|refine Spl.f rfl ?_|refine Spl.of (fun h=>?_) (fun h=>?_)|refine aa (tE o.i) (fun _ _=>rfl) rfl rfl rfl ?_|refine aa (tE o.a) (fun _ _=>rfl) rfl rfl rfl ?_|refine aR (Dz (r:=bO o.a) rfl rfl rfl rfl rfl (by show Tryz.prog.stoodInHeld 108=false;kernel_rfl) (by show Tryz.prog.eqGuardType Tryz.prog.depth 108=false;kernel_rfl) rfl (by simp[oD,veq,bO];rfl)) rfl ?_))
 all_goals refine FinP.open rfl (congrArg iv ?_)
 all_goals unfold aL
 all_goals (first|(simp_all;done)|(simp_all;omega))
end Go.Proofs.E
namespace Go.Proofs.E
def ko (o:OP):List UInt8:=if aL o≠0 then[63]else if o.k=1 then 45::cf o.i else 43::(cf o.i++32::(cf o.a++32::gR o.ch.toNat))
theorem p8 {o:OP}(h:aL o=0)(h1:o.k≠1):32≤o.ch∧o.ch≤1114111:=by
 unfold aL at h
 split at h
 ·cases h
 ·split at h
  ·cases h
  ·split at h
   ·cases h
   ·split at h
    ·cases h
    ·split at h
     ·cases h
     ·omega
theorem sD (n k:Nat)(h:n<16^k)(hk:0<k):(gR n).length≤k:=by
 induction k generalizing n with
 |zero=>omega
 |succ k ih=>
  rw[gR]
  split
  ·simp
  ·by_cases h0:k=0
   ·subst h0;simp at h;omega
   ·have:=ih (n/16) (by rw[Nat.pow_succ]at h;omega) (by omega)
    simp;omega
theorem pr (x:Int)(h:0≤x)(h':x≤1114111):IntKind.i64.wrap x=(x.toNat:Int):=by rw[ah x (by omega) (by omega)];omega
theorem l6 (o:OP):Cv 208 [opv o] (sv (ko o)):=by
 refine ab Tryz.f208 Tryz.func208 rfl rfl fun w H B g0=>?_
 refine aa (g7 o) (fun _ _=>rfl) rfl rfl rfl ?_
 refine Spl.of (fun h1=>?_) (fun h1=>?_)
 ·exact FinP.open rfl (congrArg sv (by rw[ko,if_pos (by simpa using h1)]))
 have c0:aL o=0:=by simpa using h1
 (repeat (first|refine Spl.t rfl ?_|refine Spl.f rfl ?_))
 refine Spl.of (fun h2=>?_) (fun h2=>?_)
 ·have k1:o.k=1:=by simpa using h2
  (repeat (first|refine Spl.t rfl ?_|refine Spl.f rfl ?_))
  refine aa (gZ o.i) (fun _ _=>rfl) rfl rfl rfl ?_
  have l1:=fe o.i
  refine Req.of (by simp;omega) ?_
  exact FinP.open rfl (congrArg sv (by rw[ko,if_neg (by omega),if_pos k1];rfl))
 have k1:o.k≠1:=by simpa using h2
 obtain⟨b1,b2⟩:=p8 c0 k1
 have l1:=fe o.i
 have l2:=fe o.a
 have l3:=sD o.ch.toNat 15 (by omega) (by omega)
 refine RegP.of rfl (by decide+kernel) ?_
 refine QuietP.of (QJ.call (gZ o.i) (fun _ _=>rfl) rfl rfl) ?_
 refine Req.of (by simp;omega) ?_
 refine Req.of (by simp;omega) ?_
 refine QuietP.of (QJ.call (gZ o.a) (fun _ _=>rfl) rfl rfl) ?_
 refine Req.of (by simp;omega) ?_
 refine Req.of (by simp;omega) ?_
 have hf:=po o.ch.toNat (by omega)
 rw[←pr o.ch (by omega) b2]at hf
 refine QuietP.of (QJ.call hf (fun _ _=>rfl) rfl rfl) ?_
 refine Req.of (by simp;omega) ?_
 exact FinP.open rfl (congrArg sv (by rw[ko,if_neg (by omega),if_neg k1];simp))
theorem zK (n:Nat)(h:n<16):Cv 153 [iv n] (u8v (hx n).toNat):=by
 refine ab Tryz.f153 Tryz.func153 rfl rfl fun w H B g0=>?_
 refine Spl.of (fun h1=>?_) (fun h1=>?_)
 ·refine FinP.open rfl (congrArg u8v ?_)
  have:n<10:=by have:=of_decide_eq_true h1;omega
  unfold hx
  rw[if_pos this,ah _ (by omega) (by omega),ql _ (by omega) (by omega)]
  simp;omega
 ·refine FinP.open rfl (congrArg u8v ?_)
  have:¬n<10:=by have:=of_decide_eq_false h1;omega
  unfold hx
  rw[if_neg this,ah _ (by omega) (by omega),ql _ (by omega) (by omega)]
  simp;omega
theorem v8 (o:OP):Cv 135 [opv o] (sv (ko o)):=by
 refine ab Tryz.f135 Tryz.func135 rfl rfl fun w H B g0=>?_
 refine aa (l9 o) (fun _ _=>rfl) rfl rfl rfl ?_
 refine Spl.of (fun h1=>?_) (fun h1=>?_)
 ·exact FinP.open rfl (congrArg sv (by rw[ko,if_pos (by simpa using h1)]))
 have c0:aL o=0:=by simpa using h1
 (repeat (first|refine Spl.t rfl ?_|refine Spl.f rfl ?_))
 refine Spl.of (fun h2=>?_) (fun h2=>?_)
 ·have k1:o.k=1:=by simpa using h2
  (repeat (first|refine Spl.t rfl ?_|refine Spl.f rfl ?_))
  refine aa (m8 o.i) (fun _ _=>rfl) rfl rfl rfl ?_
  have l1:=fe o.i
  refine Req.of (by simp;omega) ?_
  exact FinP.open rfl (congrArg sv (by rw[ko,if_neg (by omega),if_pos k1];rfl))
 have k1:o.k≠1:=by simpa using h2
 obtain⟨b1,b2⟩:=p8 c0 k1
 have l1:=fe o.i
 have l2:=fe o.a
 have l3:=sD o.ch.toNat 15 (by omega) (by omega)
 have hw:IntKind.i64.wrap o.ch=((o.ch.toNat:Nat):Int):=pr o.ch (by omega) b2
 (repeat (first|refine Spl.t rfl ?_|refine Spl.f rfl ?_))
 refine jl (V:=Nat×List UInt8) (fun v=>[(4,iv v.1),(3,sv v.2)]) (fun _=>[(1,.cells [iv o.k,iv o.i.c,iv o.i.s,iv o.a.c,iv o.a.s,cv o.ch])]) (fun v=>v.1)
  (fun v=>v.1≤1114111∧v.2.length+v.1≤2000000∧((0<v.1∧gR v.1++v.2=gR o.ch.toNat)∨(v.1=0∧v.2=gR o.ch.toNat))) (o.ch.toNat,[]) ⟨by simp only;omega,by simp only[List.length_nil];omega,.inl ⟨by simp only;omega,by simp⟩⟩ ⟨ao hw,rfl,trivial⟩ (by repeat' (first|exact trivial|exact rfl|refine And.intro ?_ ?_)) ?_
 rintro⟨m,acc⟩ ⟨hm,hl,hI⟩
 simp only at hm hl hI
 refine Spl.of (fun h=>?_) (fun h=>?_)
 ·have hpos:0<m:=by have:=of_decide_eq_true h;omega
  have hrem:(m:Int).tmod 16=((m % 16:Nat):Int):=by rw[Int.tmod_eq_emod_of_nonneg (by omega)];omega
  have hquo:IntKind.i64.wrap ((m:Int).tdiv 16)=((m/16:Nat):Int):=by rw[Int.tdiv_eq_ediv_of_nonneg (by omega),ah _ (by omega) (by omega)];omega
  have hd:=zK (m % 16) (by omega)
  rw[←hrem]at hd
  (repeat (first|refine Spl.t rfl ?_|refine Spl.f rfl ?_))
  refine Req.of (by decide) ?_
  refine aa hd (fun _ _=>rfl) rfl rfl rfl ?_
  refine aR (br (ns:=[((hx (m % 16)).toNat:Int)]) rfl rfl rfl rfl rfl rfl) rfl ?_
  refine Req.of (by simp;omega) ?_
  refine Req.of (by decide) ?_
  have hD:gR m=if m<16 then[hx m]else gR (m/16)++[hx (m % 16)]:=by rw[gR]
  refine⟨(m/16,hx (m % 16)::acc),⟨by simp only;omega,by simp;omega,?_⟩,by simp only;omega,⟨ao hquo,kp ?_,trivial⟩,(by repeat' (first|exact trivial|exact rfl|refine And.intro ?_ ?_)),(by repeat' (first|exact trivial|exact rfl|refine And.intro ?_ ?_))⟩
  ·simp only
   rcases hI with⟨_,h1⟩|⟨h0,_⟩
   ·by_cases h16:m<16
    ·right
     rw[hD,if_pos h16]at h1
     exact⟨by omega,by rw[Nat.mod_eq_of_lt h16];simpa using h1⟩
    ·left
     rw[hD,if_neg h16]at h1
     exact⟨by omega,by simpa using h1⟩
   ·omega
  ·show List.map (fun n:Int=>UInt8.ofNat n.toNat) [((hx (m % 16)).toNat:Int)]++acc=_
   simp
 have hacc:acc=gR o.ch.toNat:=by
  have h0:=of_decide_eq_false h
  rcases hI with⟨hp,_⟩|⟨_,h1⟩
  ·omega
  ·exact h1
 subst hacc
 (repeat (first|refine Spl.t rfl ?_|refine Spl.f rfl ?_))
 refine RegP.of rfl (by decide+kernel) ?_
 refine QuietP.of (QJ.call (m8 o.i) (fun _ _=>rfl) rfl rfl) ?_
 refine Req.of (by simp;omega) ?_
 refine Req.of (by simp;omega) ?_
 refine QuietP.of (QJ.call (m8 o.a) (fun _ _=>rfl) rfl rfl) ?_
 refine Req.of (by simp;omega) ?_
 refine Req.of (by simp;omega) ?_
 refine Req.of (by simp;omega) ?_
 exact FinP.open rfl (congrArg sv (by rw[ko,if_neg (by omega),if_neg k1];simp))
theorem Ba:Cv 275 [] (bv true):=by
 refine ab Tryz.f275 Tryz.func275 rfl rfl fun w H B g0=>?_
 refine aa nb (fun _ _=>rfl) rfl rfl rfl ?_
 (repeat (first|refine Spl.t rfl ?_|refine Spl.f rfl ?_))
 refine aa (g7 ⟨0,⟨2,1⟩,⟨1,3⟩,97⟩) (fun _ _=>rfl) rfl rfl rfl ?_
 (repeat (first|refine Spl.t rfl ?_|refine Spl.f rfl ?_))
 refine aa (l6 ⟨0,⟨2,1⟩,⟨1,3⟩,97⟩) (fun _ _=>rfl) rfl rfl rfl ?_
 (repeat (first|refine Spl.t rfl ?_|refine Spl.f rfl ?_))
 refine FinP.open rfl (congrArg bv ?_)
 decide+kernel
end Go.Proofs.E
namespace Go.Proofs.E
def val (l:List UInt8):Nat:=l.foldl (fun a b=>10*a+(b.toNat-48)) 0
end Go.Proofs.E
namespace Go.Proofs.E
theorem eqI (a b:ID):eqT Tryz.prog 3 54 [.int .i64 a.c,.int .i64 a.s] [.int .i64 b.c,.int .i64 b.s]=some (decide (a=b)):=by
 show some (decide (a.c=b.c)&&(decide (a.s=b.s)&&true))=_
 cases a;cases b;simp
theorem oE:j7 Tryz.prog 3 54=true:=by kernel_rfl
theorem sK:Tryz.prog.eqGuardType Tryz.prog.depth 54=false:=by kernel_rfl
end Go.Proofs.E
namespace Go.Proofs.E
end Go.Proofs.E
namespace Go.Proofs.E
end Go.Proofs.E
namespace Go.Proofs.E
theorem dk {o:OP}(h:aL o=0):bp o.i=true∧((o.k=1∧bO o.a=true∧o.ch=0)∨(o.k=0∧(bO o.a=true∨bp o.a=true)∧32≤o.ch∧o.ch≤1114111)):=by
 unfold aL at h
 split at h
 ·cases h
 ·next h1=>
  split at h
  ·cases h
  ·next h2=>
   split at h
   ·cases h
   ·next h3=>
    split at h
    ·cases h
    ·next h4=>
     split at h
     ·cases h
     ·next h5=>
      have m1:bp o.i=true:=by
       cases e:bp o.i with
       |true=>rfl
       |false=>exact absurd (.inl e) h3
      have m2:bO o.a=true∨bp o.a=true:=by
       cases e:bO o.a with
       |true=>exact .inl rfl
       |false=>
        cases e':bp o.a with
        |true=>exact .inr rfl
        |false=>exact absurd (.inr ⟨e,e'⟩) h3
      refine⟨m1,?_⟩
      by_cases k1:o.k=1
      ·left
       refine⟨k1,?_,?_⟩
       ·cases e:bO o.a with
        |true=>rfl
        |false=>exact absurd ⟨k1,.inl e⟩ h2
       ·by_cases e:o.ch=0
        ·exact e
        ·exact absurd ⟨k1,.inr e⟩ h2
      ·right
       have k0:o.k=0:=by omega
       exact⟨k0,m2,by omega,by omega⟩
theorem vm {a:ID}(h:bO a=true):a=⟨0,0⟩:=by
 have:=of_decide_eq_true h
 cases a;simp_all
theorem eqO (o p:OP):eqT Tryz.prog 4 56 [.int .i64 o.k,.int .i64 o.i.c,.int .i64 o.i.s,.int .i64 o.a.c,.int .i64 o.a.s,.int .i32 o.ch] [.int .i64 p.k,.int .i64 p.i.c,.int .i64 p.i.s,.int .i64 p.a.c,.int .i64 p.a.s,.int .i32 p.ch]=some (decide (o=p)):=by
 show some (decide (o.k=p.k)&&((decide (o.i.c=p.i.c)&&(decide (o.i.s=p.i.s)&&true))&&((decide (o.a.c=p.a.c)&&(decide (o.a.s=p.a.s)&&true))&&(decide (o.ch=p.ch)&&true))))=_
 obtain⟨a,⟨b,c⟩,⟨d,e⟩,f⟩:=o
 obtain⟨a',⟨b',c'⟩,⟨d',e'⟩,f'⟩:=p
 simp[Bool.and_assoc,and_assoc]
theorem Ex:j7 Tryz.prog 4 56=true:=by kernel_rfl
theorem F1:Tryz.prog.eqGuardType Tryz.prog.depth 56=false:=by kernel_rfl
end Go.Proofs.E
namespace Go.Proofs.E
abbrev uv (n:Nat):AV:=.d (.v (.int .u64 n))
abbrev cv' (n:Int):AV:=.d (.v (.int .i32 n))
structure EN where
 a:ID
 ch:Int
 dead:Bool
 deriving DecidableEq
abbrev enD (e:EN):List D:=[.v (.int .i64 e.a.c),.v (.int .i64 e.a.s),.v (.int .i32 e.ch),.v (.bool e.dead)]
abbrev env (e:EN):AV:=.agg [iv e.a.c,iv e.a.s,cv' e.ch,bv e.dead]
def bW (a:ID):Nat:=a.c.toNat*1024+a.s.toNat
def uH (k n:Nat):Nat:=k/16^(7-n) % 16
def sk (k:Nat):ID:=⟨(k/1024:Nat),(k % 1024:Nat)⟩
theorem wrap_u64 (x:Int)(h:0≤x)(h':x<18446744073709551616):IntKind.u64.wrap x=x:=by
 simp only[IntKind.wrap,IntKind.signed,IntKind.bits];simp;omega
theorem qX (n:Nat)(h:n<2^64):BitVec.ofInt 64 (n:Int)=BitVec.ofNat 64 n:=by
 apply BitVec.eq_of_toNat_eq
 simp[BitVec.toNat_ofInt]
theorem FL (a b i:Nat)(h:b<2^i)(h2:a*2^i+b<2^64):(BitVec.ofInt 64 ((a*2^i:Nat):Int) ||| BitVec.ofInt 64 (b:Int)).toNat=a*2^i+b:=by
 rw[qX _ (by omega),qX _ (by omega)]
 rw[BitVec.toNat_or,BitVec.toNat_ofNat,BitVec.toNat_ofNat,Nat.mod_eq_of_lt (by omega),Nat.mod_eq_of_lt (by omega),Nat.mul_comm,←Nat.two_pow_add_eq_or_of_lt h]
theorem EP (a i:Nat)(h:a<2^64)(hi:2^i≤2^64):(BitVec.ofInt 64 (a:Int) &&& BitVec.ofInt 64 ((2^i-1:Nat):Int)).toNat=a % 2^i:=by
 rw[qX _ h,qX _ (by have:=Nat.two_pow_pos i;omega)]
 rw[BitVec.toNat_and,BitVec.toNat_ofNat,BitVec.toNat_ofNat,Nat.mod_eq_of_lt h,Nat.mod_eq_of_lt (by have:=Nat.two_pow_pos i;omega),Nat.and_two_pow_sub_one_eq_mod]
theorem mS {a:ID}(h:bp a=true):bW a<2^31:=by
 obtain⟨a1,a2,a3,a4⟩:=bj h
 unfold bW;omega
theorem Dd (a m:Nat)(hm:m<64)(h:a*2^m<2^64):rP .u64 (a:Int) (m:Int)=((a*2^m:Nat):Int):=by
 unfold rP
 have e:min ((m:Nat):Int).toNat IntKind.u64.bits=m:=by
  show min ((m:Nat):Int).toNat 64=m
  simp;omega
 rw[e]
 have e2:(a:Int)*2^m=((a*2^m:Nat):Int):=by simp
 rw[e2,wrap_u64 _ (by omega) (by omega)]
theorem FK (a b i:Nat)(h:b<2^i)(h2:a*2^i+b<2^64):orI .u64 ((a*2^i:Nat):Int) (b:Int)=((a*2^i+b:Nat):Int):=by
 unfold orI
 have:=FL a b i h h2
 rw[show(BitVec.ofInt IntKind.u64.bits ((a*2^i:Nat):Int) ||| BitVec.ofInt IntKind.u64.bits (b:Int)).toNat=a*2^i+b from this,wrap_u64 _ (by omega) (by omega)]
theorem Dv (a i:Nat)(h:a<2^64)(hi:2^i≤2^64):oW .u64 (a:Int) ((2^i-1:Nat):Int)=((a % 2^i:Nat):Int):=by
 unfold oW
 have:=EP a i h hi
 have hl:a % 2^i<2^i:=Nat.mod_lt _ (Nat.two_pow_pos i)
 rw[show(BitVec.ofInt IntKind.u64.bits (a:Int) &&& BitVec.ofInt IntKind.u64.bits ((2^i-1:Nat):Int)).toNat=a % 2^i from this,wrap_u64 _ (by omega) (by omega)]
theorem Dc (k m:Nat)(hm:m<64):jL .u64 (k:Int) (m:Int)=((k/2^m:Nat):Int):=by
 unfold jL
 have e:min ((m:Nat):Int).toNat IntKind.u64.bits=m:=by
  show min ((m:Nat):Int).toNat 64=m
  simp;omega
 rw[e,Int.fdiv_eq_ediv_of_nonneg _ (Int.pow_nonneg (by decide))]
 simp
theorem Ei {c s:Int}(h1:0≤c)(h2:c≤1048576)(h3:0≤s)(h4:s≤1000):orI .u64 (rP .u64 (IntKind.u64.wrap c) ((10:Nat):Int)) (IntKind.u64.wrap s)=((c.toNat*1024+s.toNat:Nat):Int):=by
 have e1:IntKind.u64.wrap c=((c.toNat:Nat):Int):=by rw[wrap_u64 c h1 (by omega)];omega
 have e2:IntKind.u64.wrap s=((s.toNat:Nat):Int):=by rw[wrap_u64 s h3 (by omega)];omega
 rw[e1,e2,Dd _ _ (by decide) (by omega),FK _ _ _ (by omega) (by omega)]
theorem zi (a:ID)(h:bp a=true):Cv 298 [idv a] (uv (bW a)):=by
 obtain⟨a1,a2,a3,a4⟩:=bj h
 refine ab Tryz.f298 Tryz.func298 rfl rfl fun w H B g0=>?_
 refine Req.of (by decide) ?_
 exact FinP.open rfl (congrArg (fun z:Int=>AV.d (.v (.int .u64 z))) (Ei (by omega) a2 (by omega) a4))
theorem D5 (m:Nat):2^(4*m)=16^m:=by rw[Nat.pow_mul]
theorem zJ (k n:Nat)(hk:k<2^63)(hn:n<8):IntKind.i64.wrap (oW .u64 (jL .u64 (k:Int) (IntKind.i64.wrap (4*IntKind.i64.wrap (7-(n:Int))))) ((2^4-1:Nat):Int))=((uH k n:Nat):Int):=by
 have e:IntKind.i64.wrap (4*IntKind.i64.wrap (7-(n:Int)))=((4*(7-n):Nat):Int):=by
  rw[ah (7-(n:Int)) (by omega) (by omega),ah _ (by omega) (by omega)];omega
 have h1:=Nat.div_le_self k (2^(4*(7-n)))
 rw[e,Dc k _ (by omega),Dv _ 4 (by omega) (by decide),D5]
 unfold uH
 rw[ah _ (by omega) (by omega)]
theorem vV (k n:Nat)(hk:k<2^63)(hn:n<8):Cv 297 [uv k,iv n] (iv (uH k n)):=by
 refine ab Tryz.f297 Tryz.func297 rfl rfl fun w H B g0=>?_
 refine Req.of (by rw[ah (7-(n:Int)) (by omega) (by omega),ah _ (by omega) (by omega)];omega) ?_
 exact FinP.open rfl (congrArg iv (zJ k n hk hn))
theorem GH {a b c d:Int}(h:a=c)(k:b=d):AV.agg [iv a,iv b]=AV.agg [iv c,iv d]:=by rw[h,k]
theorem vp (k:Nat)(hk:k<2^63):Cv 264 [uv k] (idv (sk k)):=by
 have e1:IntKind.i64.wrap (jL .u64 (k:Int) ((10:Nat):Int))=((k/1024:Nat):Int):=by
  rw[Dc k 10 (by decide)];exact ah _ (by omega) (by omega)
 have e2:IntKind.i64.wrap (oW .u64 (k:Int) ((2^10-1:Nat):Int))=((k % 1024:Nat):Int):=by
  rw[Dv k 10 (by omega) (by decide)];exact ah _ (by omega) (by omega)
 refine ab Tryz.f264 Tryz.func264 rfl rfl fun w H B g0=>?_
 refine Req.of (by decide) ?_
 exact FinP.open rfl (GH e1 e2)
end Go.Proofs.E
namespace Go.Proofs.E
inductive PT where
 |nil
 |node (ks:List PT) (e:Option EN)
abbrev nilD:D:=.v (.pointer none)
abbrev eD:Option EN→D
 |none=>nilD
 |some e=>.ptr (enD e)
mutual
def PT.d:PT→D
 |.nil=>nilD
 |.node ks e=>.ptr (PT.ds ks++[eD e])
def PT.ds:List PT→List D
 |[]=>[]
 |k::ks=>k.d::PT.ds ks
end
theorem uG:∀(ks:List PT),PT.ds ks=ks.map PT.d
 |[]=>rfl
 |k::ks=>by rw[PT.ds,List.map_cons,uG ks]
theorem ui (ks:List PT)(e:Option EN):(PT.node ks e).d=.ptr (ks.map PT.d++[eD e]):=by rw[PT.d,uG]
def iQ:List PT:=[.nil,.nil,.nil,.nil,.nil,.nil,.nil,.nil,.nil,.nil,.nil,.nil,.nil,.nil,.nil,.nil]
def PT.kids:PT→List PT
 |.nil=>iQ
 |.node ks _=>ks
def PT.ent:PT→Option EN
 |.nil=>none
 |.node _ e=>e
def PT.isNil:PT→Bool
 |.nil=>true
 |_=>false
def dg (k r:Nat):Nat:=k/16^r % 16
def PT.put:Nat→Nat→EN→PT→PT
 |0,_,e,p=>.node p.kids (some e)
 |r+1,k,e,p=>.node (p.kids.set (dg k r) (PT.put r k e (p.kids.getD (dg k r) .nil))) p.ent
def PT.get:Nat→Nat→PT→Option EN
 |_,_,.nil=>none
 |0,_,.node _ e=>e
 |r+1,k,.node ks _=>PT.get r k (ks.getD (dg k r) .nil)
def PT.wf:Nat→PT→Prop
 |0,p=>p=.nil∨∃e,p=.node iQ (some e)
 |r+1,p=>p=.nil∨∃ks,p=.node ks none∧ks.length=16∧(∀q,q∈ks→PT.wf r q)∧∃q,q∈ks∧q.isNil=false
theorem lu:∀r,PT.wf r .nil
 |0=>.inl rfl
 |_+1=>.inl rfl
theorem nY {r:Nat}{p:PT}(h:PT.wf r p):p.kids.length=16:=by
 cases r with
 |zero=>rcases h with rfl|⟨e,rfl⟩<;>rfl
 |succ r=>
  rcases h with rfl|⟨ks,rfl,h1,_⟩
  ·rfl
  ·exact h1
theorem qN {r:Nat}{p:PT}(h:PT.wf (r+1) p):∀q,q∈p.kids→PT.wf r q:=by
 rcases h with rfl|⟨ks,rfl,_,h2,_⟩
 ·intro q hq
  have:q=.nil:=by simp[PT.kids,iQ]at hq;exact hq
  rw[this];exact lu r
 ·exact h2
theorem DZ (r k:Nat)(e:EN)(p:PT):(PT.put r k e p).isNil=false:=by cases r<;>rfl
theorem sS (k r:Nat):dg k r<16:=Nat.mod_lt _ (by decide)
theorem yP:∀(r k:Nat)(e:EN)(p:PT),PT.wf r p→PT.wf r (PT.put r k e p)
 |0,k,e,p,h=>.inr ⟨e,by rcases h with rfl|⟨e',rfl⟩<;>rfl⟩
 |r+1,k,e,p,h=>by
  have hl:=nY h
  have hw:=qN h
  refine .inr ⟨p.kids.set (dg k r) (PT.put r k e (p.kids.getD (dg k r) .nil)),?_,by rw[List.length_set];exact hl,fun q hq=>?_,?_⟩
  ·rw[PT.put]
   congr 1
   rcases h with rfl|⟨ks,rfl,_⟩<;>rfl
  ·rcases List.mem_or_eq_of_mem_set hq with h1|h1
   ·exact hw q h1
   ·rw[h1]
    refine yP r k e _ ?_
    rw[List.getD_eq_getElem?_getD]
    cases hx:p.kids[dg k r]? with
    |none=>exact lu r
    |some q=>exact hw q (List.mem_of_getElem? hx)
  ·have hx:(p.kids.set (dg k r) (PT.put r k e (p.kids.getD (dg k r) .nil)))[dg k r]?=some (PT.put r k e (p.kids.getD (dg k r) .nil)):=by
    rw[List.getElem?_set,if_pos rfl,if_pos (by rw[hl];exact sS k r)]
   exact⟨PT.put r k e (p.kids.getD (dg k r) .nil),List.mem_of_getElem? hx,DZ r k e _⟩
theorem Dk {α:Type}{l:List α}(h:l.length=16):∃a0 a1 a2 a3 a4 a5 a6 a7 a8 a9 a10 a11 a12 a13 a14 a15,l=[a0,a1,a2,a3,a4,a5,a6,a7,a8,a9,a10,a11,a12,a13,a14,a15]:=by
 match l,h with
 |[a0,a1,a2,a3,a4,a5,a6,a7,a8,a9,a10,a11,a12,a13,a14,a15],_=>exact⟨_,_,_,_,_,_,_,_,_,_,_,_,_,_,_,_,rfl⟩
theorem vW:∀(l:List D),fO (l.map AV.d)=some l
 |[]=>rfl
 |x::l=>by simp[fO,vW l,dOf]
theorem Ce {k r:Nat}(hr:r+1≤8):uH k (8-(r+1))=dg k r:=by
 unfold uH dg
 rw[show 7-(8-(r+1))=r by omega]
abbrev cellsP (ks:List PT)(e:Option EN):List AV:=ks.map (fun q=>AV.d q.d)++[.d (eD e)]
theorem cells_get {ks:List PT}{e:Option EN}{m:Nat}{q:PT}(h:ks[m]?=some q):(cellsP ks e)[0+0+(m:Int).toNat*1]?=some (.d q.d):=by
 have hm:=(List.getElem?_eq_some_iff.1 h).1
 have e1:0+0+(m:Int).toNat*1=m:=by simp
 rw[e1,List.getElem?_append_left (by simpa using hm)];simp[h]
theorem p9 {ks:List PT}{e:Option EN}{m:Nat}(q:PT)(h:m<ks.length):kB (.cells (bI (cellsP ks e) (0+0+(m:Int).toNat*1) [.d q.d]))=some (.c ((ks.set m q).map PT.d++[eD e])):=by
 have e1:0+0+(m:Int).toNat*1=m:=by simp
 have e2:bI (cellsP ks e) m [.d q.d]=((ks.set m q).map PT.d++[eD e]).map AV.d:=by
  show(cellsP ks e).set m (.d q.d)=_
  rw[List.set_append_left _ _ (by simpa using h),List.map_append,List.map_map,List.map_set]
  rfl
 rw[e1,e2]
 simp only[kB,vW]
theorem lH (m:Nat):iQ.getD m .nil=.nil:=by
 rw[List.getD_eq_getElem?_getD]
 cases h:iQ[m]? with
 |none=>rfl
 |some q=>have:=List.mem_of_getElem? h;simp[iQ]at this;exact this
theorem y0 {m:Nat}(h:m<16):iQ[m]?=some .nil:=by
 cases h2:iQ[m]? with
 |none=>rw[List.getElem?_eq_none_iff]at h2;simp[iQ]at h2;omega
 |some q=>have:=List.mem_of_getElem? h2;simp[iQ]at this;rw[this]
set_option maxHeartbeats 4000000 in
theorem Dg:∀(r k:Nat)(e:EN)(p:PT),r≤8→k<2^63→PT.wf r p→Cv 300 [.d p.d,uv k,iv ((8-r:Nat):Int),env e] (.d (PT.put r k e p).d)
 |0,k,e,p,hr,hk,hw=>by
  rcases hw with rfl|⟨e',rfl⟩
  ·refine ab Tryz.f300 Tryz.func300 rfl rfl fun w H B g0=>?_
   (repeat (first|refine Spl.t rfl ?_|refine Spl.f rfl ?_))
   exact FinP.pub 7 rfl rfl (FinP.pub 12 rfl rfl (FinP.open rfl rfl))
  ·refine ab Tryz.f300 Tryz.func300 rfl rfl fun w H B g0=>?_
   (repeat (first|refine Spl.t rfl ?_|refine Spl.f rfl ?_))
   exact FinP.pub 7 rfl rfl (FinP.pub 12 rfl rfl (FinP.open rfl rfl))
 |r+1,k,e,p,hr,hk,hw=>by
  have hd:=vV k (8-(r+1)) hk (by omega)
  rw[Ce hr]at hd
  have ih:=fun q (hq:PT.wf r q)=>Dg r k e q (by omega) hk hq
  have hlt:=sS k r
  have e8:¬((8-(r+1):Nat):Int)=8:=by omega
  have e9:IntKind.i64.wrap (((8-(r+1):Nat):Int)+1)=((8-r:Nat):Int):=by rw[ah _ (by omega) (by omega)];omega
  rcases hw with rfl|⟨ks,rfl,hl,hws,_⟩
  ·refine ab Tryz.f300 Tryz.func300 rfl rfl fun w H B g0=>?_
   (repeat (first|refine Spl.t rfl ?_|refine Spl.f rfl ?_))
   refine Spl.f (decide_eq_false e8) ?_
   refine aa hd (fun _ _=>rfl) rfl rfl rfl ?_
   refine RegP.mixE 0 16 [] rfl (by decide+kernel) ?_
   refine Req.of ⟨by omega,by omega⟩ ?_
   refine CellP.of (.d PT.nil.d) (cells_get (ks:=iQ) (e:=none) (y0 hlt)) ?_
   refine QuietP.of (QJ.call (ih .nil (lu r)) (fun _ _=>rfl) (by rw[←e9];rfl) rfl) ?_
   refine Req.of ⟨by omega,by omega⟩ ?_
   refine Req.of (show 0+0+((dg k r:Nat):Int).toNat*1+1≤17 by simp;omega) ?_
   refine FinP.pub 12 rfl (p9 (ks:=iQ) (e:=none) (PT.put r k e .nil) hlt) (FinP.open rfl ?_)
   rw[PT.put,show PT.nil.kids=iQ from rfl,lH,ui];rfl
  ·have hlk:dg k r<ks.length:=by omega
   obtain⟨q,hq⟩:∃q,ks[dg k r]?=some q:=⟨ks[dg k r],by simp[hlk]⟩
   have hqw:=hws q (List.mem_of_getElem? hq)
   have hput:PT.put (r+1) k e (.node ks none)=.node (ks.set (dg k r) (PT.put r k e q)) none:=by
    rw[PT.put,show(PT.node ks none).kids=ks from rfl,List.getD_eq_getElem?_getD,hq];rfl
   rw[hput,ui,ui]
   obtain⟨a0,a1,a2,a3,a4,a5,a6,a7,a8,a9,a10,a11,a12,a13,a14,a15,rfl⟩:=Dk hl
   refine ab Tryz.f300 Tryz.func300 rfl rfl fun w H B g0=>?_
   (repeat (first|refine Spl.t rfl ?_|refine Spl.f rfl ?_))
   refine Spl.f (decide_eq_false e8) ?_
   refine aa hd (fun _ _=>rfl) rfl rfl rfl ?_
   refine RegP.mixE 0 16 [] rfl (by decide+kernel) ?_
   refine Req.of ⟨by omega,by omega⟩ ?_
   refine CellP.of (.d q.d) (cells_get (ks:=[a0,a1,a2,a3,a4,a5,a6,a7,a8,a9,a10,a11,a12,a13,a14,a15]) (e:=none) hq) ?_
   refine QuietP.of (QJ.call (ih q hqw) (fun _ _=>rfl) (by rw[←e9];rfl) rfl) ?_
   refine Req.of ⟨by omega,by omega⟩ ?_
   refine Req.of (show 0+0+((dg k r:Nat):Int).toNat*1+1≤17 by simp;omega) ?_
   refine FinP.pub 12 rfl (p9 (ks:=[a0,a1,a2,a3,a4,a5,a6,a7,a8,a9,a10,a11,a12,a13,a14,a15]) (e:=none) (PT.put r k e q) hlt) (FinP.open rfl ?_)
   rfl
end Go.Proofs.E
namespace Go.Proofs.E
abbrev nQ (p:PT)(n:Int):AV:=.agg [.d p.d,iv n]
def EN.zero:EN:=⟨⟨0,0⟩,0,false⟩
def qS (p:PT)(a:ID):Option EN:=if bp a=true then PT.get 8 (bW a) p else none
abbrev Eo:Option EN→AV
 |some e=>.tup [env e,bv true]
 |none=>.tup [env EN.zero,bv false]
def GB (k:Nat)(p:PT):Nat→PT
 |0=>p
 |i+1=>(GB k p i).kids.getD (dg k (7-i)) .nil
theorem nI {ks:List PT}{e:Option EN}{m:Nat}{q:PT}(h:ks[m]?=some q):(PT.ds ks++[eD e]).drop (m*1)=q.d::(ks.map PT.d++[eD e]).drop (m+1):=by
 have hm:=(List.getElem?_eq_some_iff.1 h).1
 rw[uG,Nat.mul_one,List.drop_eq_getElem_cons (by simp;omega)]
 congr 1
 rw[List.getElem_append_left (by simpa using hm),List.getElem_map]
 congr 1
 exact(List.getElem?_eq_some_iff.1 h).2
theorem AY (p:PT)(n:Int)(a:ID)(hw:PT.wf 8 p):Cv 284 [nQ p n,idv a] (Eo (qS p a)):=by
 refine ab Tryz.f284 Tryz.func284 rfl rfl fun w H B g0=>?_
 refine aa (fb a) (fun _ _=>rfl) rfl rfl rfl ?_
 refine Spl.of (fun h=>?_) (fun h=>?_)
 ·have hm:¬bp a=true:=fun y=>by simp[bN,y]at h
  rw[qS,if_neg hm]
  exact FinP.open rfl rfl
 ·have hm:bp a=true:=by
   cases y:bp a with
   |true=>rfl
   |false=>simp[bN,y]at h
  rw[qS,if_pos hm]
  (repeat (first|refine Spl.t rfl ?_|refine Spl.f rfl ?_))
  refine ax (V:=Nat×PT) (fun v=>[(7,iv v.1),(6,.d v.2.d)]) (fun _=>[]) [] (fun v=>8-v.1) (fun v=>v.1≤8∧PT.wf (8-v.1) v.2∧PT.get (8-v.1) (bW a) v.2=PT.get 8 (bW a) p) (0,p) ⟨by omega,hw,rfl⟩ (by repeat' (first|exact trivial|exact rfl|refine And.intro ?_ ?_)) (by repeat' (first|exact trivial|exact rfl|refine And.intro ?_ ?_)) ?_
  rintro⟨i,q⟩ ⟨hi,hq,hg⟩
  simp only at hi hq hg
  refine Spl.of (fun h1=>?_) (fun h1=>?_)
  ·have hlt:i<8:=by have:=of_decide_eq_true h1;simp only at this;omega
   obtain⟨r,hr⟩:∃r,8-i=r+1:=⟨7-i,by omega⟩
   rw[hr]at hq hg
   rcases hq with rfl|⟨ks,rfl,hl,hws,_⟩
   ·have hn:PT.get 8 (bW a) p=none:=by rw[←hg];cases r<;>rfl
    rw[hn]
    (repeat (first|refine Spl.t rfl ?_|refine Spl.f rfl ?_))
    exact FinP.open rfl rfl
   ·have hd:=vV (bW a) i (by have:=mS hm;omega) hlt
    have e1:uH (bW a) i=dg (bW a) r:=by unfold uH dg;rw[show 7-i=r by omega]
    rw[e1]at hd
    have hlt2:=sS (bW a) r
    obtain⟨q',hq'⟩:∃q',ks[dg (bW a) r]?=some q':=⟨ks[dg (bW a) r]'(by omega),by simp⟩
    have e2:8-(i+1)=r:=by omega
    have hg':PT.get r (bW a) q'=PT.get 8 (bW a) p:=by
     rw[←hg,PT.get,List.getD_eq_getElem?_getD,hq'];rfl
    (repeat (first|refine Spl.t rfl ?_|refine Spl.f rfl ?_))
    refine RegP.of rfl (by decide+kernel) ?_
    refine QuietP.of (QJ.call (zi a hm) (fun _ _=>rfl) rfl rfl) ?_
    refine QuietP.of (QJ.call hd (fun _ _=>rfl) rfl rfl) ?_
    refine Req.of ⟨by omega,by omega⟩ ?_
    refine DropP.of _ (nI hq') (Nat.succ_le_succ (Nat.zero_le _)) ?_
    (repeat (first|refine Spl.t rfl ?_|refine Spl.f rfl ?_))
    exact⟨(i+1,q'),⟨by simp only;omega,by simp only[e2];exact hws q' (List.mem_of_getElem? hq'),by simp only[e2];exact hg'⟩,by simp only;omega,⟨ao (ah _ (by omega) (by omega)),rfl,trivial⟩,(by repeat' (first|exact trivial|exact rfl|refine And.intro ?_ ?_)),(by repeat' (first|exact trivial|exact rfl|refine And.intro ?_ ?_)),(by repeat' (first|exact trivial|exact rfl|refine And.intro ?_ ?_))⟩
  ·have he:i=8:=by have:=of_decide_eq_false h1;simp only at this;omega
   subst he
   rcases hq with rfl|⟨e,rfl⟩
   ·have hn:PT.get 8 (bW a) p=none:=by rw[←hg];rfl
    rw[hn]
    (repeat (first|refine Spl.t rfl ?_|refine Spl.f rfl ?_))
    exact FinP.open rfl rfl
   ·have hn:PT.get 8 (bW a) p=some e:=by rw[←hg];rfl
    rw[hn]
    (repeat (first|refine Spl.t rfl ?_|refine Spl.f rfl ?_))
    exact FinP.open rfl rfl
theorem Ff (p:PT)(n:Int)(a:ID)(e:EN)(hw:PT.wf 8 p)(h0:0≤n)(h1:n≤1000000):Cv 286 [nQ p n,idv a,env e]
 (if bp a=true then .tup [nQ (PT.put 8 (bW a) e p) (if (qS p a).isSome=true then n else n+1),bv true]else .tup [nQ p n,bv false]):=by
 have hg:=AY p n a hw
 refine ab Tryz.f286 Tryz.func286 rfl rfl fun w H B g0=>?_
 refine aa (fb a) (fun _ _=>rfl) rfl rfl rfl ?_
 refine Spl.of (fun h=>?_) (fun h=>?_)
 ·have hm:¬bp a=true:=fun y=>by simp[bN,y]at h
  rw[if_neg hm]
  (repeat (first|refine Spl.t rfl ?_|refine Spl.f rfl ?_))
  exact FinP.open rfl rfl
 ·have hm:bp a=true:=by
   cases y:bp a with
   |true=>rfl
   |false=>simp[bN,y]at h
  have hp:=Dg 8 (bW a) e p (Nat.le_refl _) (by have:=mS hm;omega) hw
  rw[if_pos hm]
  (repeat (first|refine Spl.t rfl ?_|refine Spl.f rfl ?_))
  cases hgm:qS p a with
  |some e'=>
   rw[hgm]at hg
   refine aa hg (fun _ _=>rfl) rfl rfl rfl ?_
   (repeat (first|refine Spl.t rfl ?_|refine Spl.f rfl ?_))
   refine RegP.of rfl (by decide+kernel) ?_
   refine QuietP.of (QJ.call (zi a hm) (fun _ _=>rfl) rfl rfl) ?_
   refine QuietP.of (QJ.call hp (fun _ _=>rfl) rfl rfl) ?_
   (repeat (first|refine Spl.t rfl ?_|refine Spl.f rfl ?_))
   exact FinP.open rfl rfl
  |none=>
   rw[hgm]at hg
   refine aa hg (fun _ _=>rfl) rfl rfl rfl ?_
   (repeat (first|refine Spl.t rfl ?_|refine Spl.f rfl ?_))
   refine RegP.of rfl (by decide+kernel) ?_
   refine QuietP.of (QJ.call (zi a hm) (fun _ _=>rfl) rfl rfl) ?_
   refine QuietP.of (QJ.call hp (fun _ _=>rfl) rfl rfl) ?_
   (repeat (first|refine Spl.t rfl ?_|refine Spl.f rfl ?_))
   refine FinP.open rfl ?_
   show AV.tup [.agg [_,iv (IntKind.i64.wrap (n+1))],_]=_
   rw[ah _ (by omega) (by omega)];rfl
end Go.Proofs.E
end
section
open Go Go.Gv
namespace Go.Proofs.E
abbrev KE:=Nat×EN
def elems:Nat→Nat→PT→List KE
 |0,k,p=>match p.ent with|some e=>[(k,e)]|none=>[]
 |r+1,k,p=>(List.range 16).flatMap fun d=>elems r (16*k+d) (p.kids.getD d .nil)
def kS (x:Nat)(e:EN):List KE→List KE
 |[]=>[(x,e)]
 |y::l=>if x<y.1 then(x,e)::y::l else if x=y.1 then(x,e)::l else y::kS x e l
theorem fj:∀(r k:Nat),elems r k .nil=[]
 |0,k=>rfl
 |r+1,k=>by
  rw[elems]
  refine List.flatMap_eq_nil_iff.2 fun d _=>?_
  rw[show PT.nil.kids=iQ from rfl,lH,fj r]
theorem gT:∀(r k:Nat)(p:PT)(x:KE),x∈elems r k p→k*16^r≤x.1∧x.1<(k+1)*16^r
 |0,k,p,x,h=>by
  rw[elems]at h
  split at h
  ·simp at h;subst h;simp
  ·simp at h
 |r+1,k,p,x,h=>by
  rw[elems,List.mem_flatMap]at h
  obtain⟨d,hd,hx⟩:=h
  have hd:=List.mem_range.1 hd
  obtain⟨h1,h2⟩:=gT r _ _ x hx
  have e1:k*16^(r+1)=(16*k)*16^r:=by rw[Nat.pow_succ];rw[Nat.mul_comm (16^r),←Nat.mul_assoc,Nat.mul_comm k]
  have e2:(k+1)*16^(r+1)=(16*k+16)*16^r:=by rw[Nat.pow_succ,Nat.mul_comm (16^r),←Nat.mul_assoc];congr 1;omega
  rw[e1,e2]
  refine⟨Nat.le_trans (Nat.mul_le_mul_right _ (by omega)) h1,Nat.lt_of_lt_of_le h2 (Nat.mul_le_mul_right _ (by omega))⟩
theorem n6 {x:Nat}{e:EN}:∀{A B:List KE},(∀y,y∈A→y.1<x)→kS x e (A++B)=A++kS x e B
 |[],B,_=>rfl
 |a::A,B,h=>by
  have h1:=h a (by simp)
  rw[List.cons_append,kS,if_neg (by omega),if_neg (by omega),n6 fun y hy=>h y (List.mem_cons_of_mem _ hy)];rfl
theorem pO {x:Nat}{e:EN}:∀{A B:List KE},(∀y,y∈B→x<y.1)→kS x e (A++B)=kS x e A++B
 |[],[],_=>rfl
 |[],b::B,h=>by
  have h1:=h b (by simp)
  show kS x e (b::B)=[(x,e)]++(b::B)
  rw[kS,if_pos h1];rfl
 |a::A,B,h=>by
  rw[List.cons_append,kS,kS]
  split
  ·rfl
  ·split
   ·rfl
   ·rw[pO h];rfl
theorem rX {d:Nat}(h:d<16):List.range 16=List.range d++d::List.range' (d+1) (15-d):=by
 rw[List.range_eq_range',List.range_eq_range',show(16:Nat)=d+(16-d)by omega,←List.range'_append_1 (s:=0) (m:=d) (n:=16-d),Nat.zero_add,show 16-d=(15-d)+1 by omega,List.range'_succ]
theorem sG {α:Type}(l:List α)(i j:Nat)(x y:α):(l.set i x).getD j y=if i=j∧i<l.length then x else l.getD j y:=by
 rw[List.getD_eq_getElem?_getD,List.getElem?_set,List.getD_eq_getElem?_getD]
 by_cases h:i=j
 ·subst h
  by_cases h2:i<l.length
  ·simp[h2]
  ·rw[if_pos rfl,if_neg h2,if_neg (fun x=>h2 x.2),List.getElem?_eq_none (by omega)]
 ·rw[if_neg h,if_neg (fun x=>h x.1)]
theorem pY:∀(r k x:Nat)(e:EN)(p:PT),PT.wf r p→k*16^r≤x→x<(k+1)*16^r→elems r k (PT.put r x e p)=kS x e (elems r k p)
 |0,k,x,e,p,hw,h1,h2=>by
  have hx:x=k:=by simp at h1 h2;omega
  subst hx
  rcases hw with rfl|⟨e',rfl⟩
  ·rfl
  ·simp[elems,PT.put,PT.ent,kS]
 |r+1,k,x,e,p,hw,h1,h2=>by
  have hl:=nY hw
  have hws:=qN hw
  have hd:=sS x r
  have e1:k*16^(r+1)=(16*k)*16^r:=by rw[Nat.pow_succ,Nat.mul_comm (16^r),←Nat.mul_assoc,Nat.mul_comm k]
  have e2:(k+1)*16^(r+1)=(16*k+16)*16^r:=by rw[Nat.pow_succ,Nat.mul_comm (16^r),←Nat.mul_assoc];congr 1;omega
  rw[e1]at h1
  rw[e2]at h2
  have hp:0<16^r:=Nat.pow_pos (by decide)
  have hq:x/16^r=16*k+dg x r:=by
   have a1:16*k≤x/16^r:=(Nat.le_div_iff_mul_le hp).2 h1
   have a2:x/16^r<16*k+16:=(Nat.div_lt_iff_lt_mul hp).2 h2
   unfold dg;omega
  have hlo:(16*k+dg x r)*16^r≤x:=by rw[←hq];exact Nat.div_mul_le_self _ _
  have hhi:x<(16*k+dg x r+1)*16^r:=by rw[←hq];exact Nat.lt_mul_of_div_lt (by omega) hp
  have hkid:PT.wf r (p.kids.getD (dg x r) .nil):=by
   rw[List.getD_eq_getElem?_getD]
   cases hx:p.kids[dg x r]? with
   |none=>exact lu r
   |some q=>exact hws q (List.mem_of_getElem? hx)
  have ih:=pY r (16*k+dg x r) x e _ hkid hlo hhi
  rw[PT.put,elems,elems,rX hd]
  simp only[List.flatMap_append,List.flatMap_cons]
  rw[show(PT.node (p.kids.set (dg x r) (PT.put r x e (p.kids.getD (dg x r) PT.nil))) p.ent).kids=p.kids.set (dg x r) (PT.put r x e (p.kids.getD (dg x r) PT.nil))from rfl]
  have same:∀l:List Nat,(∀d,d∈l→d≠dg x r)→(l.flatMap fun d=>elems r (16*k+d) ((p.kids.set (dg x r) (PT.put r x e (p.kids.getD (dg x r) PT.nil))).getD d .nil))=l.flatMap fun d=>elems r (16*k+d) (p.kids.getD d .nil):=fun l hl'=>by
   induction l with
   |nil=>rfl
   |cons a l ih2=>
    rw[List.flatMap_cons,List.flatMap_cons,ih2 fun d hd=>hl' d (List.mem_cons_of_mem _ hd),sG,if_neg (fun h=>hl' a (by simp) h.1.symm)]
  rw[same _ fun d hd=>by have:=List.mem_range.1 hd;omega,same _ fun d hd=>by have:=List.mem_range'_1.1 hd;omega,sG,if_pos ⟨rfl,by omega⟩,ih]
  rw[n6 fun y hy=>?_,pO fun y hy=>?_]
  ·rw[List.mem_flatMap]at hy
   obtain⟨d,hd',hy⟩:=hy
   have hd':=List.mem_range'_1.1 hd'
   have:=(gT r _ _ y hy).1
   exact Nat.lt_of_lt_of_le hhi (Nat.le_trans (Nat.mul_le_mul_right _ (by omega)) this)
  ·rw[List.mem_flatMap]at hy
   obtain⟨d,hd',hy⟩:=hy
   have hd':=List.mem_range.1 hd'
   have:=(gT r _ _ y hy).2
   exact Nat.lt_of_lt_of_le this (Nat.le_trans (Nat.mul_le_mul_right _ (by omega)) hlo)
end Go.Proofs.E
end
section
open Go Go.Gv
attribute [local irreducible] Go.Gv.WJ Go.Gv.OpJ Go.Gv.QJ Go.Gv.Spl Go.Gv.Req Go.Gv.IdxP Go.Gv.RegP Go.Gv.FinP Go.Gv.CellP Go.Gv.CellsP Go.Gv.ArrP Go.Gv.ArrsP Go.Gv.DropP Go.Gv.ByteP Go.Gv.StoreP
set_option maxRecDepth 100000
namespace Go.Proofs.E
theorem lW {κ α:Type}[DecidableEq κ](n:κ):∀(A B:List (κ×α)),aO n (A++B)=(aO n A).or (aO n B)
 |[],B=>by simp[aO]
 |p::A,B=>by
  simp only[List.cons_append,aO]
  split
  ·simp
  ·exact lW n A B
theorem iz {κ α:Type}[DecidableEq κ]{n:κ}:∀{m:List (κ×α)},(∀p,p∈m→n≠p.1)→aO n m=none
 |[],_=>rfl
 |p::m,h=>by rw[aO,if_neg (h p (by simp)),iz fun q hq=>h q (List.mem_cons_of_mem _ hq)]
theorem pZ:∀(r k x:Nat)(p:PT),PT.wf r p→k*16^r≤x→x<(k+1)*16^r→PT.get r x p=aO x (elems r k p)
 |0,k,x,p,hw,h1,h2=>by
  have hx:x=k:=by simp at h1 h2;omega
  subst hx
  rcases hw with rfl|⟨e',rfl⟩
  ·rfl
  ·simp[elems,PT.get,PT.ent,aO]
 |r+1,k,x,p,hw,h1,h2=>by
  have hl:=nY hw
  have hws:=qN hw
  have hd:=sS x r
  have e1:k*16^(r+1)=(16*k)*16^r:=by rw[Nat.pow_succ,Nat.mul_comm (16^r),←Nat.mul_assoc,Nat.mul_comm k]
  have e2:(k+1)*16^(r+1)=(16*k+16)*16^r:=by rw[Nat.pow_succ,Nat.mul_comm (16^r),←Nat.mul_assoc];congr 1;omega
  rw[e1]at h1
  rw[e2]at h2
  have hp:0<16^r:=Nat.pow_pos (by decide)
  have hq:x/16^r=16*k+dg x r:=by
   have a1:16*k≤x/16^r:=(Nat.le_div_iff_mul_le hp).2 h1
   have a2:x/16^r<16*k+16:=(Nat.div_lt_iff_lt_mul hp).2 h2
   unfold dg;omega
  have hlo:(16*k+dg x r)*16^r≤x:=by rw[←hq];exact Nat.div_mul_le_self _ _
  have hhi:x<(16*k+dg x r+1)*16^r:=by rw[←hq];exact Nat.lt_mul_of_div_lt (by omega) hp
  have hkid:PT.wf r (p.kids.getD (dg x r) .nil):=by
   rw[List.getD_eq_getElem?_getD]
   cases hx:p.kids[dg x r]? with
   |none=>exact lu r
   |some q=>exact hws q (List.mem_of_getElem? hx)
  have ih:=pZ r (16*k+dg x r) x _ hkid hlo hhi
  have hget:PT.get (r+1) x p=PT.get r x (p.kids.getD (dg x r) .nil):=by
   cases p with
   |nil=>rw[show PT.nil.kids=iQ from rfl,lH];cases r<;>rfl
   |node ks e=>rfl
  have hA:aO x ((List.range (dg x r)).flatMap fun d=>elems r (16*k+d) (p.kids.getD d .nil))=none:=iz fun y hy=>by
   rw[List.mem_flatMap]at hy
   obtain⟨d,hd',hy⟩:=hy
   have hd':=List.mem_range.1 hd'
   have h3:=(gT r _ _ y hy).2
   have h4:=Nat.mul_le_mul_right (16^r) (show 16*k+d+1≤16*k+dg x r by omega)
   omega
  have hC:aO x ((List.range' (dg x r+1) (15-dg x r)).flatMap fun d=>elems r (16*k+d) (p.kids.getD d .nil))=none:=iz fun y hy=>by
   rw[List.mem_flatMap]at hy
   obtain⟨d,hd',hy⟩:=hy
   have hd':=List.mem_range'_1.1 hd'
   have h3:=(gT r _ _ y hy).1
   have h4:=Nat.le_trans (Nat.mul_le_mul_right (16^r) (show 16*k+dg x r+1≤16*k+d by omega)) h3
   omega
  rw[hget,ih,elems,rX hd]
  simp only[List.flatMap_append,List.flatMap_cons]
  rw[lW,lW,hA,hC,Option.none_or,Option.or_none]
def dQ (r k:Nat)(ks:List PT)(d:Nat):List KE:=(List.range' d (16-d)).flatMap fun d=>elems r (16*k+d) (ks.getD d .nil)
theorem pC (r k:Nat)(ks:List PT)(e:Option EN):elems (r+1) k (.node ks e)=dQ r k ks 0:=by
 rw[elems,dQ,List.range_eq_range'];rfl
theorem jW (r k:Nat)(ks:List PT){d:Nat}(h:d<16):dQ r k ks d=elems r (16*k+d) (ks.getD d .nil)++dQ r k ks (d+1):=by
 rw[dQ,dQ,show 16-d=(16-(d+1))+1 by omega,List.range'_succ,List.flatMap_cons]
theorem wK (r k:Nat)(ks:List PT):dQ r k ks 16=[]:=rfl
abbrev keA (x:KE):List AV:=[idv (sk x.1),env x.2]
theorem FF {k:Nat}(h:k<2^58){d:Nat}(hd:d<16):orI .u64 (rP .u64 (k:Int) ((4:Nat):Int)) (IntKind.u64.wrap (d:Int))=((16*k+d:Nat):Int):=by
 rw[wrap_u64 _ (by omega) (by omega),Dd _ _ (by decide) (by omega),FK _ _ _ (by omega) (by omega)]
 congr 1;omega
theorem j9 {pin:List Nat}{ρ:Res}{s:ρ.S}{b:Bool}:eZ pin (bv b) [(0,.res ρ s)]:=by
 refine⟨fun j hj=>(by cases hj),fun i e hi j hj=>?_⟩
 rw[ae]at hi
 by_cases h:i=0
 ·rw[if_pos h]at hi;cases hi;cases hj
 ·rw[if_neg h]at hi;cases hi
set_option maxHeartbeats 2000000 in
theorem yi:∀(r k:Nat)(p:PT),r≤8→PT.wf r p→p.isNil=false→(k+1)*16^r≤2^58→∀(ρ:Res),ρ.P=Tryz.prog→ρ.Λ=tab→∀s,Gv.Can ρ s ((elems r k p).map keA)→
 Ct tab Tryz.prog 303 [.d p.d,uv k,.d (.v ρ.fv)] [(0,.res ρ s)] (fun q σ'=>∃b s',Feeds ρ s ((elems r k p).map keA) b s'∧q=bv b∧σ'=[(0,.res ρ s')])
 |0,k,p,hr8,hw,hn,hk,ρ,hP,hΛ,s,hc=>by
  rcases hw with rfl|⟨e,rfl⟩
  ·cases hn
  ·have hc0:Gv.Can ρ s [keA (k,e)]:=hc
   show Ct tab _ _ _ _ (fun q σ'=>∃b s',Feeds ρ s [keA (k,e)] b s'∧q=bv b∧σ'=[(0,.res ρ s')])
   refine ab Tryz.f303 Tryz.func303 rfl rfl fun w H B g0=>?_
   (repeat (first|refine Spl.t rfl ?_|refine Spl.f rfl ?_))
   refine RegP.mixE 0 9 [] rfl (by decide+kernel) ?_
   refine QuietP.of (QJ.call (vp k (by omega)) (fun _ _=>rfl) rfl rfl) ?_
   refine mF (j:=0) (ρ:=ρ) (st:=s) (avs:=keA (k,e)) hP hΛ rfl rfl rfl rfl rfl rfl hc0.1 fun b s' hs=>?_
   refine FinP.of [(0,.res ρ s')] (Wk.cons rfl (Wk.nil _)) ?_ ⟨b,s',?_,rfl,rfl⟩
   ·exact j9
   ·cases b with
    |true=>exact .go hs (.nil _)
    |false=>exact .stop hs
 |r+1,k,p,hr8,hw,hn,hk,ρ,hP,hΛ,s,hc=>by
  have hk58:k<2^58:=Nat.lt_of_lt_of_le (Nat.lt_succ_self k) (Nat.le_trans (Nat.le_mul_of_pos_right (k+1) (Nat.pow_pos (by decide))) hk)
  rcases hw with rfl|⟨ks,rfl,hl,hws,_⟩
  ·cases hn
  ·rw[pC]at hc ⊢
   obtain⟨a0,a1,a2,a3,a4,a5,a6,a7,a8,a9,a10,a11,a12,a13,a14,a15,hks⟩:=Dk hl
   have hd:(PT.node ks none).d=.ptr [a0.d,a1.d,a2.d,a3.d,a4.d,a5.d,a6.d,a7.d,a8.d,a9.d,a10.d,a11.d,a12.d,a13.d,a14.d,a15.d,nilD]:=by rw[hks];rfl
   have hget:∀(d:Nat)(q:PT),ks[d]?=some q→[AV.d a0.d,AV.d a1.d,AV.d a2.d,AV.d a3.d,AV.d a4.d,AV.d a5.d,AV.d a6.d,AV.d a7.d,AV.d a8.d,AV.d a9.d,AV.d a10.d,AV.d a11.d,AV.d a12.d,AV.d a13.d,AV.d a14.d,AV.d a15.d][d]?=some (AV.d q.d):=fun d q h=>by
    have:[AV.d a0.d,AV.d a1.d,AV.d a2.d,AV.d a3.d,AV.d a4.d,AV.d a5.d,AV.d a6.d,AV.d a7.d,AV.d a8.d,AV.d a9.d,AV.d a10.d,AV.d a11.d,AV.d a12.d,AV.d a13.d,AV.d a14.d,AV.d a15.d]=ks.map fun q=>AV.d q.d:=by rw[hks];rfl
    rw[this,List.getElem?_map,h];rfl
   rw[hd]
   refine ab Tryz.f303 Tryz.func303 rfl rfl fun w H B g0=>?_
   (repeat (first|refine Spl.t rfl ?_|refine Spl.f rfl ?_))
   refine ax (V:=Nat×ρ.S) (fun v=>[(28,iv v.1)]) (fun v=>[(0,.res ρ v.2)]) [0] (fun v=>16-v.1) (fun v=>v.1≤16∧Gv.Can ρ v.2 ((dQ r k ks v.1).map keA)∧∀b s',Feeds ρ v.2 ((dQ r k ks v.1).map keA) b s'→Feeds ρ s ((dQ r k ks 0).map keA) b s') (0,s) ⟨by simp,hc,fun _ _ h=>h⟩ (by repeat' (first|exact trivial|exact rfl|refine And.intro ?_ ?_)) (by repeat' (first|exact trivial|exact rfl|refine And.intro ?_ ?_)) ?_
   rintro⟨d,s1⟩ ⟨hd16,hcan,hfe⟩
   simp only at hd16 hcan hfe
   refine Spl.of (fun h1=>?_) (fun h1=>?_)
   ·have hlt:d<16:=by have:=of_decide_eq_true h1;simp only at this;omega
    obtain⟨q,hq⟩:∃q,ks[d]?=some q:=⟨ks[d]'(by omega),by simp⟩
    have hgd:ks.getD d .nil=q:=by rw[List.getD_eq_getElem?_getD,hq];rfl
    rw[jW r k ks hlt,hgd,List.map_append]at hcan hfe
    have hcan:=Can.app hcan
    (repeat (first|refine Spl.t rfl ?_|refine Spl.f rfl ?_))
    refine Req.of ⟨by omega,by omega⟩ ?_
    refine CellP.of (.d q.d) (show([AV.d a0.d,AV.d a1.d,AV.d a2.d,AV.d a3.d,AV.d a4.d,AV.d a5.d,AV.d a6.d,AV.d a7.d,AV.d a8.d,AV.d a9.d,AV.d a10.d,AV.d a11.d,AV.d a12.d,AV.d a13.d,AV.d a14.d,AV.d a15.d])[d*1]?=some (AV.d q.d)from(by rw[Nat.mul_one];exact hget d q hq)) ?_
    have hstep:∀b s',Feeds ρ s1 ((elems r (16*k+d) q).map keA) b s'→(b=true→Gv.Can ρ s' ((dQ r k ks (d+1)).map keA)∧∀b' s'',Feeds ρ s' ((dQ r k ks (d+1)).map keA) b' s''→Feeds ρ s ((dQ r k ks 0).map keA) b' s'')∧(b=false→Feeds ρ s ((dQ r k ks 0).map keA) false s'):=fun b s' hf=>
     ⟨fun hb=>by subst hb;exact⟨hcan.2 s' hf,fun b' s'' h=>hfe b' s'' (hf.app h)⟩,fun hb=>by subst hb;exact hfe false s' (hf.cut _)⟩
    cases q with
    |nil=>
     have h2:=(hstep true s1 (by rw[fj];exact .nil _)).1 rfl
     (repeat (first|refine Spl.t rfl ?_|refine Spl.f rfl ?_))
     exact⟨(d+1,s1),⟨by simp only;omega,h2.1,h2.2⟩,by simp only;omega,⟨ao (ah _ (by omega) (by omega)),trivial⟩,(by repeat' (first|exact trivial|exact rfl|refine And.intro ?_ ?_)),⟨rfl,trivial⟩,(by repeat' (first|exact trivial|exact rfl|refine And.intro ?_ ?_))⟩
    |node ks' e'=>
     have hb2:(16*k+d+1)*16^r≤2^58:=by
      refine Nat.le_trans (Nat.mul_le_mul_right (16^r) (show 16*k+d+1≤(k+1)*16 by omega)) ?_
      rw[Nat.mul_assoc,Nat.mul_comm 16,←Nat.pow_succ];exact hk
     have hwk:=yi r (16*k+d) (.node ks' e') (by omega) (hws _ (List.mem_of_getElem? hq)) rfl hb2 ρ hP hΛ s1 hcan.1
     rw[show uv (16*k+d)=AV.d (.v (.int .u64 (orI .u64 (rP .u64 (k:Int) ((4:Nat):Int)) (IntKind.u64.wrap (d:Int)))))from by rw[FF hk58 hlt]]at hwk
     (repeat (first|refine Spl.t rfl ?_|refine Spl.f rfl ?_))
     refine Req.of (by decide) ?_
     (repeat (first|refine Spl.t rfl ?_|refine Spl.f rfl ?_))
     refine OpJ.call hwk (fun _ _=>rfl) rfl rfl (Wk.cons rfl (Wk.nil _)) ?_
     rintro qv σ' ⟨b,s',hf,rfl,rfl⟩
     refine⟨rfl,?_⟩
     have h2:=hstep b s' hf
     cases b with
     |true=>
      have h3:=h2.1 rfl
      (repeat (first|refine Spl.t rfl ?_|refine Spl.f rfl ?_))
      exact⟨(d+1,s'),⟨by simp only;omega,h3.1,h3.2⟩,by simp only;omega,⟨ao (ah _ (by omega) (by omega)),trivial⟩,(by repeat' (first|exact trivial|exact rfl|refine And.intro ?_ ?_)),⟨rfl,trivial⟩,(by repeat' (first|exact trivial|exact rfl|refine And.intro ?_ ?_))⟩
     |false=>
      (repeat (first|refine Spl.t rfl ?_|refine Spl.f rfl ?_))
      exact FinP.of [(0,.res ρ s')] (Wk.cons rfl (Wk.nil _)) j9 ⟨false,s',h2.2 rfl,rfl,rfl⟩
   ·have he:d=16:=by have:=of_decide_eq_false h1;simp only at this;omega
    subst he
    (repeat (first|refine Spl.t rfl ?_|refine Spl.f rfl ?_))
    exact FinP.of [(0,.res ρ s1)] (Wk.cons rfl (Wk.nil _)) j9 ⟨true,s1,hfe true s1 (by rw[wK];exact .nil _),rfl,rfl⟩
theorem mA {pin:List Nat}{ρ:Res}{s:ρ.S}{r:AV}(h:r.open=true):eZ pin r [(0,.res ρ s)]:=by
 refine⟨fun j hj=>(by rw[gS h]at hj;cases hj),fun i e hi j hj=>?_⟩
 rw[ae]at hi
 by_cases h:i=0
 ·rw[if_pos h]at hi;cases hi;cases hj
 ·rw[if_neg h]at hi;cases hi
attribute [local irreducible] elems
abbrev Ed (p:PT)(n:Int):D:=.ptr [p.d,.v (.int .i64 n)]
abbrev GG (p:PT)(n:Int):AV:=.d (.fn 302 [Ed p n])
theorem By {γ:Ids}{H:HF}{f:FuncId}{cs:List AV}{ds:List D}{u:Value}(h:fO cs=some ds)(r:Rep γ H (.fnp f cs) u):Rep γ H (.d (.fn f ds)) u:=by
 cases r with
 |fnp _ _ us hl hr=>
  obtain⟨h1,h2⟩:=fE h
  refine .d _ _ (.fn f ds us (by rw[hl,h1]) fun j x v hx hv=>?_)
  obtain⟨a,ha,hd⟩:=h2 j x hx
  exact fk hd (hr j a v ha hv)
theorem Be (p:PT)(n:Int):Cv 290 [nQ p n] (GG p n):=by
 refine ab Tryz.f290 Tryz.func290 rfl rfl fun w H B g0=>?_
 exact FinP.pub 1 rfl rfl (FinP.view (fun _ _ _=>By rfl) (FinP.open rfl rfl))
theorem xG (p:PT)(n:Int)(hw:PT.wf 8 p):AW tab Tryz.prog 302 [.d (Ed p n)] ((elems 8 0 p).map keA):=by
 intro ρ hP hΛ s hc
 cases p with
 |nil=>
  have he:elems 8 0 PT.nil=[]:=fj 8 0
  rw[he]at hc ⊢
  refine ab Tryz.f302 Tryz.func302 rfl rfl fun w H B g0=>?_
  (repeat (first|refine Spl.t rfl ?_|refine Spl.f rfl ?_))
  exact FinP.of [(0,.res ρ s)] (Wk.cons rfl (Wk.nil _)) (mA rfl) ⟨true,s,.nil _,rfl⟩
 |node ks e=>
  have hwk:=yi 8 0 (.node ks e) (Nat.le_refl _) hw rfl (by decide) ρ hP hΛ s hc
  refine ab Tryz.f302 Tryz.func302 rfl rfl fun w H B g0=>?_
  (repeat (first|refine Spl.t rfl ?_|refine Spl.f rfl ?_))
  refine OpJ.call hwk (fun _ _=>rfl) rfl rfl (Wk.cons rfl (Wk.nil _)) ?_
  rintro qv σ' ⟨b,s',hf,rfl,rfl⟩
  refine⟨rfl,?_⟩
  exact FinP.of [(0,.res ρ s')] (Wk.cons rfl (Wk.nil _)) (mA rfl) ⟨b,s',hf,rfl⟩
end Go.Proofs.E
namespace Go.Proofs.E
theorem sM:∀(r k:Nat)(p:PT),PT.wf r p→p.isNil=false→elems r k p≠[]
 |0,k,p,hw,hn=>by
  rcases hw with rfl|⟨e,rfl⟩
  ·cases hn
  ·simp[elems,PT.ent]
 |r+1,k,p,hw,hn=>by
  rcases hw with rfl|⟨ks,rfl,hl,hws,q,hq,hqn⟩
  ·cases hn
  ·intro h
   rw[elems,List.flatMap_eq_nil_iff]at h
   obtain⟨d,hd⟩:=List.getElem?_of_mem hq
   have hlt:d<16:=by rw[←hl];exact(List.getElem?_eq_some_iff.1 hd).1
   have:=h d (List.mem_range.2 hlt)
   rw[show(PT.node ks none).kids=ks from rfl,List.getD_eq_getElem?_getD,hd]at this
   exact sM r _ q (hws q hq) hqn this
theorem wJ {r k:Nat}{ks:List PT}{d:Nat}(h:∀j,d≤j→j<16→ks.getD j .nil=.nil):dQ r k ks d=[]:=by
 rw[dQ,List.flatMap_eq_nil_iff]
 intro j hj
 have hj:=List.mem_range'_1.1 hj
 rw[h j hj.1 (by omega),fj]
theorem nx (r k:Nat)(ks:List PT):∀d,d≤16→∃A,dQ r k ks 0=A++dQ r k ks d
 |0,_=>⟨[],rfl⟩
 |d+1,h=>by
  obtain⟨A,hA⟩:=nx r k ks d (by omega)
  exact⟨A++elems r (16*k+d) (ks.getD d .nil),by rw[hA,jW r k ks (by omega),List.append_assoc]⟩
theorem zd {r k:Nat}{ks:List PT}{d:Nat}{q:PT}(hq:ks[d]?=some q)(hd:d<16)(hw:PT.wf r q)(hn:q.isNil=false)(h:∀j,d<j→j<16→ks.getD j .nil=.nil):
 (elems (r+1) k (.node ks none)).getLast?=(elems r (16*k+d) q).getLast?:=by
 obtain⟨A,hA⟩:=nx r k ks d (by omega)
 rw[pC,hA,jW r k ks hd,wJ (d:=d+1) (fun j h1 h2=>h j (by omega) h2),List.append_nil,List.getD_eq_getElem?_getD,hq,Option.getD_some]
 rw[List.getLast?_append]
 have:=sM r (16*k+d) q hw hn
 cases hx:(elems r (16*k+d) q).getLast? with
 |none=>exact absurd (List.getLast?_eq_none_iff.1 hx) this
 |some x=>rfl
def mi (p:PT):ID:=match(elems 8 0 p).getLast? with
 |some x=>sk x.1
 |none=>⟨0,0⟩
theorem nW {p:PT}{x:KE}(h:(elems 8 0 p).getLast?=some x):mi p=sk x.1:=by unfold mi;rw[h]
theorem nX {p:PT}(h:elems 8 0 p=[]):mi p=⟨0,0⟩:=by unfold mi;rw[h];rfl
theorem uE (k:Nat)(e:EN):elems 0 k (.node iQ (some e))=[(k,e)]:=rfl
attribute [local irreducible] elems
set_option maxHeartbeats 2000000 in
theorem C2 (p:PT)(n:Int)(hw:PT.wf 8 p):Cv 236 [nQ p n] (idv (mi p)):=by
 cases p with
 |nil=>
  have:mi .nil=⟨0,0⟩:=nX (fj 8 0)
  rw[this]
  refine ab Tryz.f236 Tryz.func236 rfl rfl fun w H B g0=>?_
  (repeat (first|refine Spl.t rfl ?_|refine Spl.f rfl ?_))
  exact FinP.open rfl rfl
 |node ks0 e0=>
  refine ab Tryz.f236 Tryz.func236 rfl rfl fun w H B g0=>?_
  (repeat (first|refine Spl.t rfl ?_|refine Spl.f rfl ?_))
  refine ax (V:=Nat×PT×Nat) (fun v=>[(12,iv v.1),(3,.d v.2.1.d),(4,uv v.2.2)]) (fun _=>[]) [] (fun v=>8-v.1) (fun v=>v.1≤8∧PT.wf (8-v.1) v.2.1∧v.2.1.isNil=false∧v.2.2<16^v.1∧(elems (8-v.1) v.2.2 v.2.1).getLast?=(elems 8 0 (.node ks0 e0)).getLast?) (0,.node ks0 e0,0) ⟨Nat.zero_le _,hw,rfl,(show(0:Nat)<16^0 by decide),rfl⟩ (by repeat' (first|exact trivial|exact rfl|refine And.intro ?_ ?_)) (by repeat' (first|exact trivial|exact rfl|refine And.intro ?_ ?_)) ?_
  rintro⟨i,q,k⟩ ⟨hi,hq,hqn,hk,hla⟩
  simp only at hi hq hqn hk hla
  refine Spl.of (fun h1=>?_) (fun h1=>?_)
  ·have hlt:i<8:=by have:=of_decide_eq_true h1;simp only at this;omega
   obtain⟨r,hr⟩:∃r,8-i=r+1:=⟨7-i,by omega⟩
   have e2:8-(i+1)=r:=by omega
   rw[hr]at hq hla
   rcases hq with rfl|⟨ks,rfl,hl,hws,hex⟩
   ·cases hqn
   ·have hk58:k<2^58:=Nat.lt_of_lt_of_le hk (Nat.le_trans (Nat.pow_le_pow_right (by decide) (show i≤8 by omega)) (by decide))
    (repeat (first|refine Spl.t rfl ?_|refine Spl.f rfl ?_))
    refine ax (V:=Nat) (fun d=>[(5,iv d)]) (fun _=>[]) [] (fun d=>d) (fun d=>d<16∧∀j,d<j→j<16→ks.getD j .nil=.nil) 15 ⟨by decide,fun j h1 h2=>by omega⟩ (by repeat' (first|exact trivial|exact rfl|refine And.intro ?_ ?_)) (by repeat' (first|exact trivial|exact rfl|refine And.intro ?_ ?_)) ?_
    intro d ⟨hd,hnil⟩
    obtain⟨q',hq'⟩:∃q',ks[d]?=some q':=⟨ks[d]'(by omega),by simp⟩
    have hgd:ks.getD d .nil=q':=by rw[List.getD_eq_getElem?_getD,hq'];rfl
    refine Req.of ⟨by omega,by omega⟩ ?_
    refine DropP.of _ (nI hq') (Nat.succ_le_succ (Nat.zero_le _)) ?_
    cases q' with
    |nil=>
     have hd0:d≠0:=fun e=>by
      subst e
      obtain⟨q,hq,hqn⟩:=hex
      obtain⟨j,hj⟩:=List.getElem?_of_mem hq
      have hj16:j<16:=by rw[←hl];exact(List.getElem?_eq_some_iff.1 hj).1
      have:ks.getD j .nil=.nil:=by
       by_cases h0:j=0
       ·subst h0;exact hgd
       ·exact hnil j (by omega) hj16
      rw[List.getD_eq_getElem?_getD,hj]at this
      simp only[Option.getD_some]at this
      subst this;cases hqn
     (repeat (first|refine Spl.t rfl ?_|refine Spl.f rfl ?_))
     exact⟨d-1,⟨by omega,fun j h1 h2=>by
      by_cases h:j=d
      ·subst h;exact hgd
      ·exact hnil j (by omega) h2⟩,by omega,⟨ao (by rw[ah _ (by omega) (by omega)];omega),trivial⟩,(by repeat' (first|exact trivial|exact rfl|refine And.intro ?_ ?_)),(by repeat' (first|exact trivial|exact rfl|refine And.intro ?_ ?_)),(by repeat' (first|exact trivial|exact rfl|refine And.intro ?_ ?_))⟩
    |node ks' e'=>
     have hwq:=hws _ (List.mem_of_getElem? hq')
     have hs:=FF hk58 hd
     (repeat (first|refine Spl.t rfl ?_|refine Spl.f rfl ?_))
     refine Req.of ⟨by omega,by omega⟩ ?_
     refine DropP.of _ (nI hq') (Nat.succ_le_succ (Nat.zero_le _)) ?_
     refine Req.of (by decide) ?_
     refine⟨(i+1,.node ks' e',16*k+d),⟨by simp only;omega,by simp only[e2];exact hwq,rfl,?_,?_⟩,by simp only;omega,⟨ao (ah _ (by omega) (by omega)),rfl,congrArg (fun z:Int=>some (AV.d (.v (.int .u64 z)))) hs,trivial⟩,(by repeat' (first|exact trivial|exact rfl|refine And.intro ?_ ?_)),(by repeat' (first|exact trivial|exact rfl|refine And.intro ?_ ?_)),(by repeat' (first|exact trivial|exact rfl|refine And.intro ?_ ?_))⟩
     ·simp only;rw[Nat.pow_succ];omega
     ·simp only[e2];rw[←hla];exact(zd hq' hd hwq rfl hnil).symm
  ·have he:i=8:=by have:=of_decide_eq_false h1;simp only at this;omega
   subst he
   rcases hq with rfl|⟨e,rfl⟩
   ·cases hqn
   ·have hl:mi (.node ks0 e0)=sk k:=by
     have h0:elems (8-8) k (.node iQ (some e))=[(k,e)]:=uE k e
     rw[h0]at hla
     exact nW hla.symm
    rw[hl]
    (repeat (first|refine Spl.t rfl ?_|refine Spl.f rfl ?_))
    refine aa (vp k (Nat.lt_of_lt_of_le hk (by decide))) (fun _ _=>rfl) rfl rfl rfl ?_
    exact FinP.open rfl rfl
end Go.Proofs.E
end
section
open Go Go.Gv
set_option maxRecDepth 100000
namespace Go.Proofs.E
abbrev IE:=ID×EN
def gQ (a:ID)(e:EN):List IE→List IE
 |[]=>[(a,e)]
 |y::l=>if bf a y.1=true then(a,e)::y::l else if a=y.1 then(a,e)::l else y::gQ a e l
def upM (M:List IE):Prop:=M.Pairwise fun x y=>bf x.1 y.1=true
structure isM (p:PT)(n:Int)(M:List IE):Prop where
 wf:PT.wf 8 p
 el:elems 8 0 p=M.map fun x=>(bW x.1,x.2)
 len:n=M.length
 may:∀x,x∈M→bp x.1=true
 up:upM M
theorem zh {a b:ID}(ha:bp a=true)(hb:bp b=true):bW a<bW b↔bf a b=true:=by
 obtain⟨a1,a2,a3,a4⟩:=bj ha
 obtain⟨b1,b2,b3,b4⟩:=bj hb
 unfold bW bf
 simp only[decide_eq_true_eq]
 omega
theorem vu {a b:ID}(ha:bp a=true)(hb:bp b=true)(h:bW a=bW b):a=b:=by
 obtain⟨a1,a2,a3,a4⟩:=bj ha
 obtain⟨b1,b2,b3,b4⟩:=bj hb
 unfold bW at h
 cases a;cases b
 simp only[ID.mk.injEq]at*
 omega
theorem sj {a:ID}(ha:bp a=true):sk (bW a)=a:=by
 obtain⟨a1,a2,a3,a4⟩:=bj ha
 unfold sk bW
 cases a
 simp only[ID.mk.injEq]at*
 omega
theorem qP:isM .nil 0 []:=⟨lu 8,fj 8 0,rfl,fun _ h=>by simp at h,List.Pairwise.nil⟩
theorem sB {a:ID}{e:EN}(ha:bp a=true):∀(M:List IE),(∀x,x∈M→bp x.1=true)→kS (bW a) e (M.map fun x=>(bW x.1,x.2))=(gQ a e M).map fun x=>(bW x.1,x.2)
 |[],_=>rfl
 |y::l,h=>by
  have hy:=h y (by simp)
  rw[List.map_cons,kS,gQ]
  by_cases h1:bf a y.1=true
  ·rw[if_pos h1,if_pos ((zh ha hy).2 h1)];rfl
  ·rw[if_neg h1,if_neg (fun x=>h1 ((zh ha hy).1 x))]
   by_cases h2:a=y.1
   ·rw[if_pos h2,if_pos (by rw[h2])];rfl
   ·rw[if_neg h2,if_neg (fun x=>h2 (vu ha hy x)),sB ha l fun x hx=>h x (List.mem_cons_of_mem _ hx)];rfl
theorem nN {a:ID}{e:EN}{x:IE}:∀{M:List IE},x∈gQ a e M→x=(a,e)∨x∈M
 |[],h=>by simp[gQ]at h;exact .inl h
 |y::l,h=>by
  rw[gQ]at h
  split at h
  ·rcases List.mem_cons.1 h with h|h
   ·exact .inl h
   ·exact .inr h
  ·split at h
   ·rcases List.mem_cons.1 h with h|h
    ·exact .inl h
    ·exact .inr (List.mem_cons_of_mem _ h)
   ·rcases List.mem_cons.1 h with h|h
    ·exact .inr (by rw[h];simp)
    ·rcases nN h with h|h
     ·exact .inl h
     ·exact .inr (List.mem_cons_of_mem _ h)
theorem kL {a b:ID}(h1:¬bf a b=true)(h2:a≠b):bf b a=true:=by
 unfold bf at*
 simp only[decide_eq_true_eq]at*
 have:¬(a.c=b.c∧a.s=b.s):=fun⟨x,y⟩=>h2 (by cases a;cases b;simp_all)
 omega
theorem dp {a b c:ID}(h1:bf a b=true)(h2:bf b c=true):bf a c=true:=by
 unfold bf at*
 simp only[decide_eq_true_eq]at*
 omega
theorem cB (a:ID):¬bf a a=true:=by unfold bf;simp
theorem u5 {a:ID}{e:EN}:∀{M:List IE},upM M→upM (gQ a e M)
 |[],_=>List.pairwise_singleton _ _
 |y::l,h=>by
  obtain⟨h1,h2⟩:=List.pairwise_cons.1 h
  rw[gQ]
  split
  ·next hl=>
   refine List.pairwise_cons.2 ⟨fun x hx=>?_,h⟩
   rcases List.mem_cons.1 hx with rfl|hx
   ·exact hl
   ·exact dp hl (h1 x hx)
  ·next hl=>
   split
   ·next he=>exact List.pairwise_cons.2 ⟨fun x hx=>by show bf a x.1=true;rw[he];exact h1 x hx,h2⟩
   ·next he=>
    refine List.pairwise_cons.2 ⟨fun x hx=>?_,u5 h2⟩
    rcases nN hx with rfl|hx
    ·exact kL hl he
    ·exact h1 x hx
theorem s8 {a:ID}:∀{M:List IE},(∀x,x∈M→bf a x.1=true)→aO a M=none
 |[],_=>rfl
 |y::l,h=>by
  have h1:=h y (by simp)
  rw[aO,if_neg (fun e=>cB y.1 (by rw[e]at h1;exact h1)),s8 fun x hx=>h x (List.mem_cons_of_mem _ hx)]
theorem kM {a:ID}{e:EN}:∀{M:List IE},upM M→(gQ a e M).length=if (aO a M).isSome=true then M.length else M.length+1
 |[],_=>rfl
 |y::l,h=>by
  obtain⟨h1,h2⟩:=List.pairwise_cons.1 h
  rw[gQ]
  split
  ·next hl=>
   have hn:aO a (y::l)=none:=s8 fun x hx=>by
    rcases List.mem_cons.1 hx with rfl|hx
    ·exact hl
    ·exact dp hl (h1 x hx)
   rw[hn];rfl
  ·next hl=>
   split
   ·next he=>rw[aO,if_pos he];rfl
   ·next he=>
    rw[aO,if_neg he,List.length_cons,kM h2]
    split<;>simp
theorem kb {a b:ID}{e:EN}:∀{M:List IE},upM M→aO b (gQ a e M)=if b=a then some e else aO b M
 |[],_=>by rw[gQ,aO];simp[aO]
 |y::l,h=>by
  obtain⟨h1,h2⟩:=List.pairwise_cons.1 h
  rw[gQ]
  split
  ·next hl=>rw[aO]
  ·next hl=>
   split
   ·next he=>
    rw[aO,aO,←he]
    by_cases hb:b=a
    ·rw[if_pos hb,if_pos hb]
    ·rw[if_neg hb,if_neg hb,if_neg hb]
   ·next he=>
    rw[aO,aO,kb h2]
    by_cases hb:b=y.1
    ·rw[if_pos hb,if_pos hb,if_neg (fun e=>he (e.symm.trans hb))]
    ·rw[if_neg hb,if_neg hb]
theorem qd {a:ID}(ha:bp a=true):∀(M:List IE),(∀x,x∈M→bp x.1=true)→aO (bW a) (M.map fun x=>(bW x.1,x.2))=aO a M
 |[],_=>rfl
 |y::l,h=>by
  rw[List.map_cons,aO,aO,qd ha l fun x hx=>h x (List.mem_cons_of_mem _ hx)]
  by_cases hb:a=y.1
  ·rw[if_pos hb,if_pos (by rw[hb])]
  ·rw[if_neg hb,if_neg fun e=>hb (vu ha (h y (by simp)) e)]
theorem vE {p:PT}{n:Int}{M:List IE}(h:isM p n M)(a:ID):qS p a=aO a M:=by
 unfold qS
 by_cases ha:bp a=true
 ·rw[if_pos ha,pZ 8 0 (bW a) p h.wf (by simp) (by have:=mS ha;simp;omega),h.el,qd ha M h.may]
 ·rw[if_neg ha,iz fun x hx e=>ha (by rw[e];exact h.may x hx)]
theorem D4 {p:PT}{n:Int}{M:List IE}(h:isM p n M){a:ID}(ha:bp a=true)(e:EN):isM (PT.put 8 (bW a) e p) (if (qS p a).isSome=true then n else n+1) (gQ a e M):=by
 refine⟨yP 8 _ e p h.wf,?_,?_,fun x hx=>?_,u5 h.up⟩
 ·rw[pY 8 0 (bW a) e p h.wf (by simp) (by have:=mS ha;simp;omega),h.el,sB ha M h.may]
 ·rw[kM h.up,vE h,h.len]
  split<;>simp
 ·rcases nN hx with rfl|hx
  ·exact ha
  ·exact h.may x hx
def fX (M:List IE):ID:=match M.getLast? with
 |some x=>x.1
 |none=>⟨0,0⟩
theorem BP {p:PT}{n:Int}{M:List IE}(h:isM p n M):mi p=fX M:=by
 unfold fX
 cases hx:M.getLast? with
 |none=>
  have:M=[]:=List.getLast?_eq_none_iff.1 hx
  subst this
  exact nX h.el
 |some x=>
  have h1:(elems 8 0 p).getLast?=some (bW x.1,x.2):=by rw[h.el,List.getLast?_map,hx];rfl
  rw[nW h1]
  exact sj (h.may x (List.mem_of_getLast? hx))
abbrev ieA (x:IE):List AV:=[idv x.1,env x.2]
theorem ER {p:PT}{n:Int}{M:List IE}(h:isM p n M):(elems 8 0 p).map keA=M.map ieA:=by
 rw[h.el,List.map_map]
 refine List.map_congr_left fun x hx=>?_
 show [idv (sk (bW x.1)),env x.2]=_
 rw[sj (h.may x hx)]
end Go.Proofs.E
end
section
open Go Go.Gv
attribute [local irreducible] Go.Gv.WJ Go.Gv.OpJ Go.Gv.QJ Go.Gv.Spl Go.Gv.Req Go.Gv.IdxP Go.Gv.RegP Go.Gv.FinP Go.Gv.CellP Go.Gv.CellsP Go.Gv.ArrP Go.Gv.ArrsP Go.Gv.DropP Go.Gv.ByteP Go.Gv.StoreP
set_option maxRecDepth 100000
namespace Go.Proofs.E
structure EL where
 id:ID
 ch:Int
 dead:Bool
 deriving DecidableEq
abbrev elD (e:EL):List D:=[.v (.int .i64 e.id.c),.v (.int .i64 e.id.s),.v (.int .i32 e.ch),.v (.bool e.dead)]
abbrev elv (e:EL):AV:=.agg [iv e.id.c,iv e.id.s,cv' e.ch,bv e.dead]
inductive TR where
 |nil
 |node (l:TR) (e:EL) (r:TR)
namespace TR
def one (e:EL):Nat:=match e.dead with|true=>0|false=>1
def size:TR→Nat
 |.nil=>0
 |.node l _ r=>l.size+1+r.size
def live:TR→Nat
 |.nil=>0
 |.node l e r=>l.live+one e+r.live
def deep:TR→Nat
 |.nil=>0
 |.node l _ r=>Nat.max l.deep r.deep+1
def els:TR→List EL
 |.nil=>[]
 |.node l e r=>l.els++e::r.els
def d:TR→D
 |.nil=>.v (.pointer none)
 |.node l e r=>.ptr [l.d,r.d,.v (.int .i64 e.id.c),.v (.int .i64 e.id.s),.v (.int .i32 e.ch),.v (.bool e.dead),
  .v (.int .i64 ((l.size+1+r.size:Nat):Int)),.v (.int .i64 ((l.live+one e+r.live:Nat):Int)),.v (.int .i64 ((Nat.max l.deep r.deep+1:Nat):Int))]
def left:TR→TR
 |.nil=>.nil
 |.node l _ _=>l
def right:TR→TR
 |.nil=>.nil
 |.node _ _ r=>r
def wt (t:TR):Nat:=t.size+1
def turnL (l:TR)(e:EL):TR→TR
 |.nil=>.node l e .nil
 |.node rl re rr=>match Nat.blt rl.wt (2*rr.wt)with
  |true=>.node (.node l e rl) re rr
  |false=>match rl with
   |.nil=>.node l e (.node .nil re rr)
   |.node ml me mr=>.node (.node l e ml) me (.node mr re rr)
def turnR (l:TR)(e:EL)(r:TR):TR:=match l with
 |.nil=>.node .nil e r
 |.node ll le lr=>match Nat.blt lr.wt (2*ll.wt)with
  |true=>.node ll le (.node lr e r)
  |false=>match lr with
   |.nil=>.node (.node ll le .nil) e r
   |.node ml me mr=>.node (.node ll le ml) me (.node mr e r)
def bal (l:TR)(e:EL)(r:TR):TR:=match Nat.blt (3*l.wt) r.wt with
 |true=>turnL l e r
 |false=>match Nat.blt (3*r.wt) l.wt with
  |true=>turnR l e r
  |false=>.node l e r
def ins:Nat→EL→TR→TR
 |_,e,.nil=>.node .nil e .nil
 |i,e,.node l x r=>match Nat.ble i l.size with
  |true=>bal (ins i e l) x r
  |false=>bal l x (ins (i-l.size-1) e r)
def set:Nat→EL→TR→TR
 |_,_,.nil=>.nil
 |i,e,.node l x r=>match Nat.blt i l.size with
  |true=>.node (set i e l) x r
  |false=>match Nat.blt l.size i with
   |true=>.node l x (set (i-l.size-1) e r)
   |false=>.node l e r
theorem els_len:∀t:TR,t.els.length=t.size
 |.nil=>rfl
 |.node l e r=>by rw[els,size,List.length_append,List.length_cons,els_len l,els_len r];omega
theorem xp (l:TR)(e:EL)(r:TR):(turnL l e r).els=l.els++e::r.els:=by
 cases r with
 |nil=>rfl
 |node rl re rr=>
  simp only[turnL]
  split
  ·simp[els]
  ·cases rl<;>simp[els]
theorem xo (l:TR)(e:EL)(r:TR):(turnR l e r).els=l.els++e::r.els:=by
 cases l with
 |nil=>rfl
 |node ll le lr=>
  simp only[turnR]
  split
  ·simp[els]
  ·cases lr<;>simp[els]
theorem vP (l:TR)(e:EL)(r:TR):(bal l e r).els=l.els++e::r.els:=by
 unfold bal
 split
 ·exact xp l e r
 ·split
  ·exact xo l e r
  ·rfl
theorem els_ins:∀(i:Nat)(e:EL)(t:TR),i≤t.size→(ins i e t).els=t.els.take i++e::t.els.drop i
 |i,e,.nil,h=>by
  have:i=0:=by simpa[size]using h
  subst this;rfl
 |i,e,.node l x r,h=>by
  have hl:=els_len l
  simp only[size]at h
  simp only[ins]
  split
  ·next hb=>
   have hi:=Nat.le_of_ble_eq_true hb
   rw[vP,els_ins i e l hi,els,List.take_append_of_le_length (by omega),List.drop_append_of_le_length (by omega)]
   simp
  ·next hb=>
   have hi:l.size<i:=by
    rcases Nat.lt_or_ge l.size i with h|h
    ·exact h
    ·rw[Nat.ble_eq_true_of_le h]at hb;cases hb
   rw[vP,els_ins (i-l.size-1) e r (by omega),els]
   obtain⟨k,rfl⟩:∃k,i=l.els.length+(k+1):=⟨i-l.size-1,by omega⟩
   rw[List.take_length_add_append,List.drop_length_add_append,List.take_succ_cons,List.drop_succ_cons,show l.els.length+(k+1)-l.size-1=k by omega]
   simp
theorem els_set:∀(i:Nat)(e:EL)(t:TR),i<t.size→(set i e t).els=t.els.set i e
 |i,e,.nil,h=>by simp[size]at h
 |i,e,.node l x r,h=>by
  have hl:=els_len l
  simp only[size]at h
  simp only[set]
  split
  ·next hb=>
   have hi:i<l.size:=by simpa[Nat.blt_eq]using hb
   rw[els,els_set i e l hi,els,List.set_append_left _ _ (by omega)]
  ·next hb=>
   have hi:¬i<l.size:=fun h=>by rw[show Nat.blt i l.size=true by simpa[Nat.blt_eq]using h]at hb;cases hb
   split
   ·next hb2=>
    have hi2:l.size<i:=by simpa[Nat.blt_eq]using hb2
    rw[els,els_set _ e r (by omega),els,List.set_append_right _ _ (by omega),hl]
    obtain⟨k,rfl⟩:∃k,i=l.size+(k+1):=⟨i-l.size-1,by omega⟩
    rw[show l.size+(k+1)-l.size-1=k by omega,show l.size+(k+1)-l.size=k+1 by omega,List.set_cons_succ]
   ·next hb2=>
    have hi2:¬l.size<i:=fun h=>by rw[show Nat.blt l.size i=true by simpa[Nat.blt_eq]using h]at hb2;cases hb2
    have:i=l.size:=by omega
    subst this
    rw[els,els,List.set_append_right _ _ (by omega),hl,Nat.sub_self,List.set_cons_zero]
theorem live_eq:∀t:TR,t.live=(t.els.filter fun e=>!e.dead).length
 |.nil=>rfl
 |.node l e r=>by
  rw[live,els,List.filter_append,List.length_append,←live_eq l,List.filter_cons,one]
  cases e.dead with
  |true=>simp[live_eq r]
  |false=>simp[live_eq r];omega
theorem live_le (t:TR):t.live≤t.size:=by rw[live_eq,←els_len];exact List.length_filter_le _ _
theorem deep_le:∀t:TR,t.deep≤t.size
 |.nil=>Nat.le_refl _
 |.node l e r=>by
  have h1:=deep_le l
  have h2:=deep_le r
  have:Nat.max l.deep r.deep≤l.size+r.size:=Nat.max_le.2 ⟨by omega,by omega⟩
  simp only[deep,size];omega
end TR
theorem dr (t:TR):Cv 235 [.d t.d] (iv t.size):=by
 cases t with
 |nil=>
  refine ab Tryz.f235 Tryz.func235 rfl rfl fun w H B g0=>?_
  (repeat (first|refine Spl.t rfl ?_|refine Spl.f rfl ?_))
  exact FinP.open rfl rfl
 |node l e r=>
  refine ab Tryz.f235 Tryz.func235 rfl rfl fun w H B g0=>?_
  (repeat (first|refine Spl.t rfl ?_|refine Spl.f rfl ?_))
  exact FinP.open rfl rfl
theorem nU (t:TR):Cv 263 [.d t.d] (iv t.live):=by
 cases t with
 |nil=>
  refine ab Tryz.f263 Tryz.func263 rfl rfl fun w H B g0=>?_
  (repeat (first|refine Spl.t rfl ?_|refine Spl.f rfl ?_))
  exact FinP.open rfl rfl
 |node l e r=>
  refine ab Tryz.f263 Tryz.func263 rfl rfl fun w H B g0=>?_
  (repeat (first|refine Spl.t rfl ?_|refine Spl.f rfl ?_))
  exact FinP.open rfl rfl
theorem zL (t:TR):Cv 314 [.d t.d] (iv t.deep):=by
 cases t with
 |nil=>
  refine ab Tryz.f314 Tryz.func314 rfl rfl fun w H B g0=>?_
  (repeat (first|refine Spl.t rfl ?_|refine Spl.f rfl ?_))
  exact FinP.open rfl rfl
 |node l e r=>
  refine ab Tryz.f314 Tryz.func314 rfl rfl fun w H B g0=>?_
  (repeat (first|refine Spl.t rfl ?_|refine Spl.f rfl ?_))
  exact FinP.open rfl rfl
theorem vj (e:EL):Cv 265 [elv e] (iv (TR.one e)):=by
 obtain⟨a,c,b⟩:=e
 cases b with
 |true=>
  refine ab Tryz.f265 Tryz.func265 rfl rfl fun w H B g0=>?_
  (repeat (first|refine Spl.t rfl ?_|refine Spl.f rfl ?_))
  exact FinP.open rfl rfl
 |false=>
  refine ab Tryz.f265 Tryz.func265 rfl rfl fun w H B g0=>?_
  (repeat (first|refine Spl.t rfl ?_|refine Spl.f rfl ?_))
  exact FinP.open rfl rfl
theorem eh (t:TR)(h:t.size≤1000000):Cv 315 [.d t.d] (iv t.wt):=by
 refine ab Tryz.f315 Tryz.func315 rfl rfl fun w H B g0=>?_
 refine aa (dr t) (fun _ _=>rfl) rfl rfl rfl ?_
 (repeat (first|refine Spl.t rfl ?_|refine Spl.f rfl ?_))
 exact FinP.open rfl (congrArg iv (ah _ (by omega) (by omega)))
end Go.Proofs.E
end
section
open Go Go.Gv
set_option maxRecDepth 100000
namespace Go.Proofs.E
def gq (o:OP):List OP→List OP
 |[]=>[o]
 |k::r=>if bf o.i k.i=true then k::gq o r else o::k::r
def eu (a:ID):List OP→List OP→List OP
 |[],ks=>ks
 |o::l,ks=>if o.a=a then eu a l (gq o ks)else eu a l ks
def kids (I:List OP)(a:ID):List OP:=eu a I []
def fol:Nat→List OP→ID→List OP
 |0,_,_=>[]
 |n+1,I,a=>(kids I a).flatMap fun k=>k::fol n I k.i
def iV (o:OP):List OP→List OP
 |[]=>[o]
 |x::r=>if bf o.i x.i=true then x::iV o r else o::x::r
def fC (o:OP):List OP→List OP
 |[]=>[]
 |x::r=>if x.i=o.a then x::iV o r else x::fC o r
def ur (o:OP)(L:List OP):List OP:=if o.a=⟨0,0⟩then iV o L else fC o L
structure okI (I:List OP):Prop where
 cl:∀o,o∈I→o.a.c<o.i.c∧o.i.c≤1048576
 nd:I.Pairwise fun x y=>x.i≠y.i
theorem zP {a b:ID}(h:a.c<b.c):bf a b=true:=by unfold bf;simp[h]
theorem okI.lt {I:List OP}(h:okI I):∀o,o∈I→bf o.a o.i=true:=fun o ho=>zP (h.cl o ho).1
theorem pL (a:ID)(J:List OP):∀(I ks:List OP),eu a (I++J) ks=eu a J (eu a I ks)
 |[],_=>rfl
 |o::I,ks=>by
  rw[List.cons_append,eu,eu]
  split<;>exact pL a J I _
theorem gO (I:List OP)(o:OP)(a:ID):kids (I++[o]) a=if o.a=a then gq o (kids I a)else kids I a:=by
 unfold kids;rw[pL];rfl
theorem iT {o x:OP}:∀{ks:List OP},x∈gq o ks↔x=o∨x∈ks
 |[]=>by simp[gq]
 |k::r=>by
  rw[gq]
  split
  ·rw[List.mem_cons,iT,List.mem_cons]
   exact⟨fun h=>by rcases h with h|h|h<;>simp[h],fun h=>by rcases h with h|h|h<;>simp[h]⟩
  ·simp
theorem lK {a:ID}{x:OP}:∀{I ks:List OP},x∈eu a I ks↔(x∈I∧x.a=a)∨x∈ks
 |[],ks=>by simp[eu]
 |o::I,ks=>by
  rw[eu]
  split
  ·next h=>
   rw[lK,iT,List.mem_cons]
   constructor
   ·rintro(⟨h1,h2⟩|rfl|h1)
    ·exact .inl ⟨.inr h1,h2⟩
    ·exact .inl ⟨.inl rfl,h⟩
    ·exact .inr h1
   ·rintro(⟨rfl|h1,h2⟩|h1)
    ·exact .inr (.inl rfl)
    ·exact .inl ⟨h1,h2⟩
    ·exact .inr (.inr h1)
  ·next h=>
   rw[lK,List.mem_cons]
   constructor
   ·rintro(⟨h1,h2⟩|h1)
    ·exact .inl ⟨.inr h1,h2⟩
    ·exact .inr h1
   ·rintro(⟨rfl|h1,h2⟩|h1)
    ·exact absurd h2 h
    ·exact .inl ⟨h1,h2⟩
    ·exact .inr h1
theorem cj {I:List OP}{a:ID}{x:OP}:x∈kids I a↔x∈I∧x.a=a:=by unfold kids;rw[lK];simp
def sT (ks:List OP):Prop:=ks.Pairwise fun x y=>bf y.i x.i=true
theorem p5 {o:OP}:∀{ks:List OP},(∀k,k∈ks→k.i≠o.i)→sT ks→sT (gq o ks)
 |[],_,_=>by simp[gq,sT]
 |k::r,hn,h=>by
  obtain⟨h1,h2⟩:=List.pairwise_cons.1 h
  rw[gq]
  split
  ·next hl=>
   refine List.pairwise_cons.2 ⟨fun y hy=>?_,p5 (fun k hk=>hn k (List.mem_cons_of_mem _ hk)) h2⟩
   rcases iT.1 hy with rfl|hy
   ·exact hl
   ·exact h1 y hy
  ·next hl=>
   have hk:=kL hl (fun e=>hn k (by simp) e.symm)
   refine List.pairwise_cons.2 ⟨fun y hy=>?_,h⟩
   rcases List.mem_cons.1 hy with rfl|hy
   ·exact hk
   ·exact dp (h1 y hy) hk
theorem j8 {a:ID}:∀{I ks:List OP},I.Pairwise (fun x y=>x.i≠y.i)→(∀x k,x∈I→k∈ks→x.i≠k.i)→sT ks→sT (eu a I ks)
 |[],ks,_,_,h=>h
 |o::I,ks,hp,hd,h=>by
  obtain⟨p1,p2⟩:=List.pairwise_cons.1 hp
  rw[eu]
  split
  ·refine j8 p2 (fun x k hx hk=>?_) (p5 (fun k hk e=>hd o k (by simp) hk e.symm) h)
   rcases iT.1 hk with rfl|hk
   ·exact fun e=>p1 x hx e.symm
   ·exact hd x k (List.mem_cons_of_mem _ hx) hk
  ·exact j8 p2 (fun x k hx hk=>hd x k (List.mem_cons_of_mem _ hx) hk) h
theorem xu {I:List OP}(h:okI I)(a:ID):sT (kids I a):=j8 h.nd (fun _ _ _ h=>by simp at h) List.Pairwise.nil
theorem jx:∀{n:Nat}{I:List OP}{a:ID}{x:OP},x∈fol (n+1) I a↔∃k,k∈kids I a∧(x=k∨x∈fol n I k.i):=by
 intro n I a x
 rw[fol,List.mem_flatMap]
 simp only[List.mem_cons]
theorem gr:∀{n:Nat}{I:List OP}{a:ID}{x:OP},okI I→x∈fol n I a→bf a x.i=true∧x∈I
 |0,_,_,_,_,h=>by simp[fol]at h
 |n+1,I,a,x,hI,h=>by
  obtain⟨k,hk,h⟩:=jx.1 h
  obtain⟨h1,h2⟩:=cj.1 hk
  have h3:=hI.lt k h1
  rw[h2]at h3
  rcases h with rfl|h
  ·exact⟨h3,h1⟩
  ·obtain⟨h4,h5⟩:=gr hI h
   exact⟨dp h3 h4,h5⟩
theorem ik:∀{n:Nat}{I:List OP}{a:ID}{x:OP},x∈fol n I a→x.a=a∨∃y,y∈fol n I a∧x.a=y.i
 |0,_,_,_,h=>by simp[fol]at h
 |n+1,I,a,x,h=>by
  obtain⟨k,hk,h⟩:=jx.1 h
  rcases h with rfl|h
  ·exact .inl (cj.1 hk).2
  ·rcases ik h with h1|⟨y,hy,h1⟩
   ·exact .inr ⟨k,jx.2 ⟨k,hk,.inl rfl⟩,h1⟩
   ·exact .inr ⟨y,jx.2 ⟨k,hk,.inr hy⟩,h1⟩
theorem qK {I:List OP}(h:okI I){x y:OP}(hx:x∈I)(hy:y∈I)(e:x.i=y.i):x=y:=by
 have:=h.nd
 clear h
 induction I with
 |nil=>simp at hx
 |cons z I ih=>
  obtain⟨p1,p2⟩:=List.pairwise_cons.1 this
  rcases List.mem_cons.1 hx with h1|h1
  ·rcases List.mem_cons.1 hy with h2|h2
   ·rw[h1,h2]
   ·rw[h1]at e;exact absurd e (p1 y h2)
  ·rcases List.mem_cons.1 hy with h2|h2
   ·rw[h2]at e;exact absurd e.symm (p1 x h1)
   ·exact ih h1 h2 p2
theorem xk {I:List OP}(hI:okI I){b:ID}{k1 k2:OP}(h1:k1∈kids I b)(h2:k2∈kids I b)(hne:k1≠k2){n m:Nat}:
 ∀(j:Nat)(x:OP),(x=k1∨x∈fol n I k1.i)→(x=k2∨x∈fol m I k2.i)→(I.filter fun y=>bf y.i x.i).length=j→False:=by
 intro j
 induction j using Nat.strongRecOn with
 |_ j ih=>
  intro x hx1 hx2 hj
  obtain⟨a1,a2⟩:=cj.1 h1
  obtain⟨b1,b2⟩:=cj.1 h2
  have base:∀{k k':OP}{n:Nat},k∈I→k.a=b→k'∈I→k'.a=b→k∈fol n I k'.i→False:=fun{k k' n} g1 g2 g3 g4 h=>by
   have hb:=hI.lt k' g3
   rw[g4]at hb
   rcases ik h with e|⟨y,hy,e⟩
   ·rw[g2]at e;rw[←e]at hb;exact cB _ hb
   ·rw[g2]at e
    have:=dp hb (gr hI hy).1
    rw[←e]at this;exact cB _ this
  rcases hx1 with rfl|hx1<;>rcases hx2 with rfl|hx2
  ·exact hne rfl
  ·exact base a1 a2 b1 b2 hx2
  ·exact base b1 b2 a1 a2 hx1
  ·have g1:∃y,(y=k1∨y∈fol n I k1.i)∧x.a=y.i∧y∈I:=by
    rcases ik hx1 with e|⟨y,hy,e⟩
    ·exact⟨k1,.inl rfl,e,a1⟩
    ·exact⟨y,.inr hy,e,(gr hI hy).2⟩
   have g2:∃y,(y=k2∨y∈fol m I k2.i)∧x.a=y.i∧y∈I:=by
    rcases ik hx2 with e|⟨y,hy,e⟩
    ·exact⟨k2,.inl rfl,e,b1⟩
    ·exact⟨y,.inr hy,e,(gr hI hy).2⟩
   obtain⟨y,y1,y2,y3⟩:=g1
   obtain⟨z,z1,z2,z3⟩:=g2
   obtain rfl:=qK hI y3 z3 (y2.symm.trans z2)
   have hlt:=hI.lt x (gr hI hx1).2
   rw[y2]at hlt
   refine ih _ ?_ y y1 z1 rfl
   rw[←hj]
   have sub:∀(l:List OP),y∈l→(l.filter fun u=>bf u.i y.i).length<(l.filter fun u=>bf u.i x.i).length:=by
    intro l
    have le:∀l:List OP,(l.filter fun u=>bf u.i y.i).length≤(l.filter fun u=>bf u.i x.i).length:=fun l=>by
     induction l with
     |nil=>exact Nat.le_refl _
     |cons u l ih2=>
      rw[List.filter_cons,List.filter_cons]
      by_cases hu:bf u.i y.i=true
      ·rw[if_pos hu,if_pos (dp hu hlt)];simp only[List.length_cons];omega
      ·rw[if_neg hu];split
       ·simp only[List.length_cons];omega
       ·exact ih2
    induction l with
    |nil=>intro h;simp at h
    |cons u l ih2=>
     intro h
     rw[List.filter_cons,List.filter_cons]
     rcases List.mem_cons.1 h with rfl|h
     ·rw[if_neg (cB _),if_pos hlt]
      have:=le l;simp only[List.length_cons];omega
     ·have:=ih2 h
      by_cases hu:bf u.i y.i=true
      ·rw[if_pos hu,if_pos (dp hu hlt)];simp only[List.length_cons];omega
      ·rw[if_neg hu];split
       ·simp only[List.length_cons];omega
       ·exact this
   exact sub I y3
theorem vD (o:OP):∀(T Z:List OP),(∀x,x∈T→bf o.i x.i=true)→iV o (T++Z)=T++iV o Z
 |[],_,_=>rfl
 |x::T,Z,h=>by
  rw[List.cons_append,iV,if_pos (h x (by simp)),vD o T Z fun y hy=>h y (List.mem_cons_of_mem _ hy)];rfl
def eN (Y:List OP)(a:ID):Prop:=∀y r,Y=y::r→bf y.i a=true
theorem pR {o:OP}{Y:List OP}(h:eN Y o.i):iV o Y=o::Y:=by
 cases Y with
 |nil=>rfl
 |cons y r=>
  rw[iV,if_neg]
  intro e
  exact cB _ (dp e (h y r rfl))
theorem pQ {I:List OP}(hI:okI I){n:Nat}{o:OP}:∀{ks Y:List OP},(∀k,k∈ks→k∈I)→(∀k,k∈ks→k.i≠o.i)→eN Y o.i→
 iV o ((ks.flatMap fun k=>k::fol n I k.i)++Y)=((gq o ks).flatMap fun k=>if k=o then[o]else k::fol n I k.i)++Y
 |[],Y,_,_,hY=>by simpa[gq]using pR hY
 |k::r,Y,hk,hn,hY=>by
  have hko:k≠o:=fun e=>hn k (by simp) (by rw[e])
  rw[gq]
  split
  ·next hl=>
   rw[List.flatMap_cons,List.flatMap_cons,if_neg hko,List.append_assoc,vD,pQ hI (fun x hx=>hk x (List.mem_cons_of_mem _ hx)) (fun x hx=>hn x (List.mem_cons_of_mem _ hx)) hY,List.append_assoc]
   intro x hx
   rcases List.mem_cons.1 hx with rfl|hx
   ·exact hl
   ·exact dp hl (gr hI hx).1
  ·next hl=>
   have hlt:=kL hl (fun e=>hn k (by simp) e.symm)
   have same:∀l:List OP,(∀x,x∈l→x.i≠o.i)→(l.flatMap fun k=>if k=o then[o]else k::fol n I k.i)=l.flatMap fun k=>k::fol n I k.i:=fun l=>by
    induction l with
    |nil=>intro _;rfl
    |cons x l ih=>
     intro h
     rw[List.flatMap_cons,List.flatMap_cons,ih fun y hy=>h y (List.mem_cons_of_mem _ hy),if_neg (fun e=>h x (by simp) (by rw[e]))]
   have hh:eN (((k::r).flatMap fun k=>k::fol n I k.i)++Y) o.i:=by
    intro y r' e
    rw[List.flatMap_cons,List.cons_append,List.cons_append]at e
    obtain⟨rfl,_⟩:=List.cons.inj e
    exact hlt
   have e1:((o::k::r).flatMap fun k=>if k=o then[o]else k::fol n I k.i)=o::((k::r).flatMap fun k=>if k=o then[o]else k::fol n I k.i):=by
    rw[List.flatMap_cons (x:=o),if_pos rfl];rfl
   rw[pR hh,e1,same _ hn];rfl
theorem pP {o:OP}:∀(T Z:List OP),(∀x,x∈T→x.i≠o.a)→fC o (T++Z)=T++fC o Z
 |[],_,_=>rfl
 |x::T,Z,h=>by
  rw[List.cons_append,fC,if_neg (h x (by simp)),pP T Z fun y hy=>h y (List.mem_cons_of_mem _ hy)];rfl
structure newI (I:List OP)(o:OP):Prop where
 cl:o.a.c<o.i.c∧o.i.c≤1048576
 id:∀x,x∈I→x.i≠o.i
 an:∀x,x∈I→x.a≠o.i
theorem newI.lt {I:List OP}{o:OP}(h:newI I o):bf o.a o.i=true:=zP h.cl.1
theorem yX {I:List OP}(hI:okI I){o:OP}(h:newI I o):okI (I++[o]):=
 ⟨fun x hx=>by
  rcases List.mem_append.1 hx with hx|hx
  ·exact hI.cl x hx
  ·rw[List.mem_singleton]at hx;subst hx;exact h.cl,
  List.pairwise_append.2 ⟨hI.nd,by simp,fun x hx y hy=>by rw[List.mem_singleton]at hy;subst hy;exact h.id x hx⟩⟩
theorem zg {I:List OP}{o:OP}(h:newI I o):kids (I++[o]) o.i=[]:=by
 rw[gO,if_neg (fun e=>cB _ (by have:=h.lt;rw[e]at this;exact this))]
 exact List.eq_nil_iff_forall_not_mem.2 fun x hx=>h.an x (cj.1 hx).1 (cj.1 hx).2
theorem B5 {I:List OP}{o:OP}(h:newI I o)(n:Nat):fol n (I++[o]) o.i=[]:=by
 cases n with
 |zero=>rfl
 |succ n=>rw[fol,zg h];rfl
theorem kT {I:List OP}{o:OP}:∀(n:Nat)(b:ID),o.a≠b→(∀x,x∈fol n I b→x.i≠o.a)→fol n (I++[o]) b=fol n I b
 |0,_,_,_=>rfl
 |n+1,b,hb,hx=>by
  rw[fol,fol,gO,if_neg hb]
  have:∀ks:List OP,(∀k,k∈ks→k∈kids I b)→(ks.flatMap fun k=>k::fol n (I++[o]) k.i)=ks.flatMap fun k=>k::fol n I k.i:=fun ks=>by
   induction ks with
   |nil=>intro _;rfl
   |cons k r ih=>
    intro h
    have hk:=h k (by simp)
    rw[List.flatMap_cons,List.flatMap_cons,ih fun x hx=>h x (List.mem_cons_of_mem _ hx),
     kT n k.i (fun e=>hx k (jx.2 ⟨k,hk,.inl rfl⟩) e.symm) (fun x hx'=>hx x (jx.2 ⟨k,hk,.inr hx'⟩))]
  exact this _ fun _ h=>h
theorem zv {I:List OP}(hI:okI I){o:OP}(h:newI I o){n:Nat}{Y:List OP}(hY:eN Y o.i):fol (n+1) (I++[o]) o.a++Y=iV o (fol (n+1) I o.a++Y):=by
 rw[fol,fol,pQ hI (fun k hk=>(cj.1 hk).1) (fun k hk=>h.id k (cj.1 hk).1) hY,gO,if_pos rfl]
 congr 1
 have hkin:∀k,k∈gq o (kids I o.a)→k=o∨(k∈I∧k.a=o.a):=fun k hk=>by
  rcases iT.1 hk with h|h
  ·exact .inl h
  ·exact .inr (cj.1 h)
 generalize gq o (kids I o.a)=ks at hkin
 induction ks with
 |nil=>rfl
 |cons k r ih=>
  rw[List.flatMap_cons,List.flatMap_cons,ih fun x hx=>hkin x (List.mem_cons_of_mem _ hx)]
  congr 1
  rcases hkin k (by simp)with rfl|⟨h1,h2⟩
  ·rw[if_pos rfl,B5 h]
  ·rw[if_neg (fun e=>h.id k h1 (by rw[e])),kT n k.i (fun e=>?_) (fun x hx e=>?_)]
   ·have:=hI.lt k h1;rw[h2,e]at this;exact cB _ this
   ·have a1:=hI.lt k h1
    rw[h2]at a1
    have a2:=dp a1 (gr hI hx).1
    rw[e]at a2;exact cB _ a2
theorem pT {Y:List OP}{a b:ID}(h:eN Y a)(k:bf a b=true):eN Y b:=fun y r e=>dp (h y r e) k
def dT (n:Nat)(I ks:List OP):List OP:=ks.flatMap fun k=>k::fol n I k.i
theorem w6 {n:Nat}{I ks:List OP}{x:OP}:x∈dT n I ks↔∃k,k∈ks∧(x=k∨x∈fol n I k.i):=by
 unfold dT;rw[List.mem_flatMap];simp only[List.mem_cons]
theorem dw (n:Nat)(I:List OP)(k:OP)(r:List OP):dT n I (k::r)=k::(fol n I k.i++dT n I r):=by simp[dT]
theorem ov {I:List OP}{o:OP}(n:Nat):∀ks:List OP,(∀x,x∈dT n I ks→x.i≠o.a)→dT n (I++[o]) ks=dT n I ks
 |[],_=>rfl
 |k::r,h=>by
  rw[dw]at h
  rw[dw,dw,ov n r fun x hx=>h x (by simp[hx]),kT n k.i (fun e=>h k (by simp) e.symm) fun x hx=>h x (by simp[hx])]
theorem sE {n:Nat}{I:List OP}{k:OP}{r Y:List OP}(hd:sT (k::r))(hY:eN Y k.i):eN (dT n I r++Y) k.i:=by
 cases r with
 |nil=>exact hY
 |cons k' r=>
  intro y r' e
  rw[dw,List.cons_append]at e
  obtain⟨rfl,_⟩:=List.cons.inj e
  exact(List.pairwise_cons.1 hd).1 k' (by simp)
theorem zu {I:List OP}(hI:okI I){o:OP}(h:newI I o):∀(n:Nat)(b:ID)(Y:List OP),eN Y b→1048576<(n:Int)+b.c→(∃x,x∈fol n I b∧x.i=o.a)→fol n (I++[o]) b++Y=fC o (fol n I b++Y)
 |0,_,_,_,_,⟨x,hx,_⟩=>by simp[fol]at hx
 |n+1,b,Y,hY,hn,hx=>by
  have hab:o.a≠b:=by
   obtain⟨x,hx,e⟩:=hx
   intro e2
   have:=(gr hI hx).1
   rw[e,e2]at this;exact cB _ this
  have key:∀ks:List OP,(∀k,k∈ks→k∈kids I b)→sT ks→(∃x,x∈dT n I ks∧x.i=o.a)→dT n (I++[o]) ks++Y=fC o (dT n I ks++Y):=by
   intro ks
   induction ks with
   |nil=>rintro _ _ ⟨x,hx,_⟩;simp[dT]at hx
   |cons k r ih=>
    intro hk hd hx
    obtain⟨d1,d2⟩:=List.pairwise_cons.1 hd
    have hkb:=hk k (by simp)
    obtain⟨k1,k2⟩:=cj.1 hkb
    have hkc:=hI.cl k k1
    rw[k2]at hkc
    have apart:∀x y,(x=k∨x∈fol n I k.i)→y∈dT n I r→x.i=o.a→y.i=o.a→False:=fun x y hx hy ex ey=>by
     obtain⟨k',hk',hy⟩:=w6.1 hy
     have hk'b:=hk k' (List.mem_cons_of_mem _ hk')
     have hxI:x∈I:=by
      rcases hx with rfl|hx
      ·exact k1
      ·exact(gr hI hx).2
     have hyI:y∈I:=by
      rcases hy with rfl|hy
      ·exact(cj.1 hk'b).1
      ·exact(gr hI hy).2
     obtain rfl:=qK hI hxI hyI (ex.trans ey.symm)
     exact xk hI hkb hk'b (fun e=>by subst e;exact cB _ (d1 k hk')) _ x hx hy rfl
    have hYk:eN Y k.i:=pT hY (zP hkc.1)
    have hYr:eN (dT n I r++Y) k.i:=sE hd hYk
    have sameR:(∃x,(x=k∨x∈fol n I k.i)∧x.i=o.a)→dT n (I++[o]) r=dT n I r:=fun⟨x,hx,ex⟩=>ov n r fun y hy ey=>apart x y hx hy ex ey
    rw[dw,dw,List.cons_append,List.cons_append,List.append_assoc,List.append_assoc]
    by_cases e1:k.i=o.a
    ·rw[sameR ⟨k,.inl rfl,e1⟩,fC,if_pos e1,e1]
     obtain⟨m,rfl⟩:∃m,n=m+1:=by
      have:=h.cl
      rw[←e1]at this
      exact⟨n-1,by omega⟩
     have hYo:eN (dT (m+1) I r++Y) o.i:=pT hYr (by rw[e1];exact h.lt)
     rw[zv hI h hYo]
    ·rw[fC,if_neg e1]
     congr 1
     by_cases e2:∃x,x∈fol n I k.i∧x.i=o.a
     ·obtain⟨x,hx,ex⟩:=e2
      rw[sameR ⟨x,.inr hx,ex⟩]
      exact zu hI h n k.i _ hYr (by omega) ⟨x,hx,ex⟩
     ·have hno:∀x,x∈fol n I k.i→x.i≠o.a:=fun x hx e=>e2 ⟨x,hx,e⟩
      rw[kT n k.i (fun e=>e1 e.symm) hno,pP _ _ hno]
      congr 1
      refine ih (fun x hx=>hk x (List.mem_cons_of_mem _ hx)) d2 ?_
      obtain⟨x,hx,ex⟩:=hx
      rw[dw]at hx
      rcases List.mem_cons.1 hx with rfl|hx
      ·exact absurd ex e1
      ·rcases List.mem_append.1 hx with hx|hx
       ·exact absurd ex (hno x hx)
       ·exact⟨x,hx,ex⟩
  have:=key (kids I b) (fun _ h=>h) (xu hI b) (by rw[fol]at hx;exact hx)
  rw[fol,fol,gO,if_neg hab]
  exact this
def db (I:List OP):List OP:=fol 1048577 I ⟨0,0⟩
inductive Tk:List OP→Prop where
 |nil:Tk []
 |snoc {I:List OP} {o:OP} (h:Tk I) (hc:o.a.c<o.i.c∧o.i.c≤1048576) (h0:0≤o.a.c) (hn:∀x,x∈I→x.i≠o.i) (ha:o.a=⟨0,0⟩∨∃x,x∈I∧x.i=o.a):Tk (I++[o])
theorem nO {o x:OP}:∀{L:List OP},x∈iV o L↔x=o∨x∈L
 |[]=>by simp[iV]
 |y::r=>by
  rw[iV]
  split
  ·rw[List.mem_cons,nO,List.mem_cons]
   exact⟨fun h=>by rcases h with h|h|h<;>simp[h],fun h=>by rcases h with h|h|h<;>simp[h]⟩
  ·simp
theorem pF {o x:OP}:∀{L:List OP},(∃y,y∈L∧y.i=o.a)→(x∈fC o L↔x=o∨x∈L)
 |[],h=>by obtain⟨y,hy,_⟩:=h;simp at hy
 |y::r,h=>by
  rw[fC]
  split
  ·rw[List.mem_cons,nO,List.mem_cons]
   exact⟨fun h=>by rcases h with h|h|h<;>simp[h],fun h=>by rcases h with h|h|h<;>simp[h]⟩
  ·next hne=>
   have:∃y,y∈r∧y.i=o.a:=by
    obtain⟨z,hz,e⟩:=h
    rcases List.mem_cons.1 hz with rfl|hz
    ·exact absurd e hne
    ·exact⟨z,hz,e⟩
   rw[List.mem_cons,pF this,List.mem_cons]
   exact⟨fun h=>by rcases h with h|h|h<;>simp[h],fun h=>by rcases h with h|h|h<;>simp[h]⟩
theorem nV (o:OP):∀L:List OP,(iV o L).length=L.length+1
 |[]=>rfl
 |y::r=>by
  rw[iV]
  split
  ·rw[List.length_cons,nV o r,List.length_cons]
  ·rfl
theorem pJ (o:OP):∀L:List OP,(∃y,y∈L∧y.i=o.a)→(fC o L).length=L.length+1
 |[],h=>by obtain⟨y,hy,_⟩:=h;simp at hy
 |y::r,h=>by
  rw[fC]
  split
  ·rw[List.length_cons,nV o r,List.length_cons]
  ·next hne=>
   have:∃y,y∈r∧y.i=o.a:=by
    obtain⟨z,hz,e⟩:=h
    rcases List.mem_cons.1 hz with rfl|hz
    ·exact absurd e hne
    ·exact⟨z,hz,e⟩
   rw[List.length_cons,pJ o r this,List.length_cons]
structure TkI (I:List OP):Prop where
 ok:okI I
 an:∀x,x∈I→x.a=⟨0,0⟩∨∃y,y∈I∧y.i=x.a
 c0:∀x,x∈I→0<x.i.c
 mem:∀x,x∈db I↔x∈I
 len:(db I).length=I.length
theorem y6 {I:List OP}{o:OP}(h:TkI I)(hc:o.a.c<o.i.c∧o.i.c≤1048576)(h0:0≤o.a.c)(hn:∀x,x∈I→x.i≠o.i):newI I o:=
 ⟨hc,hn,fun x hx e=>by
  rcases h.an x hx with h1|⟨y,hy,h1⟩
  ·rw[h1]at e
   have:=congrArg ID.c e
   simp only at this;omega
  ·exact hn y hy (h1.trans e)⟩
theorem lR {I:List OP}{o:OP}(h:TkI I)(hc:o.a.c<o.i.c∧o.i.c≤1048576)(h0:0≤o.a.c)(hn:∀x,x∈I→x.i≠o.i)(ha:o.a=⟨0,0⟩∨∃x,x∈I∧x.i=o.a):db (I++[o])=ur o (db I):=by
 have hnew:=y6 h hc h0 hn
 unfold ur
 split
 ·next e=>
  have:=zv h.ok hnew (n:=1048576) (Y:=[]) (fun y r e=>by cases e)
  rw[e,List.append_nil,List.append_nil]at this
  exact this
 ·next e=>
  rcases ha with ha|⟨x,hx,ha⟩
  ·exact absurd ha e
  ·have:=zu h.ok hnew 1048577 ⟨0,0⟩ [] (fun y r e=>by cases e) (by simp) ⟨x,(h.mem x).2 hx,ha⟩
   rw[List.append_nil,List.append_nil]at this
   exact this
theorem Tk.is:∀{I:List OP},Tk I→TkI I:=by
 intro I h
 induction h with
 |nil=>exact⟨⟨fun _ h=>by simp at h,List.Pairwise.nil⟩,fun _ h=>by simp at h,fun _ h=>by simp at h,fun x=>by show x∈fol (1048576+1) [] _↔_;rw[fol];simp[kids,eu],rfl⟩
 |@snoc I o h hc h0 hn ha ih=>
  have hnew:=y6 ih hc h0 hn
  have hr:=lR ih hc h0 hn ha
  have hm:∀x,x∈db (I++[o])↔x=o∨x∈db I:=fun x=>by
   rw[hr];unfold ur
   split
   ·exact nO
   ·next e=>
    rcases ha with ha|⟨y,hy,ha⟩
    ·exact absurd ha e
    ·exact pF ⟨y,(ih.mem y).2 hy,ha⟩
  refine⟨yX ih.ok hnew,fun x hx=>?_,fun x hx=>?_,fun x=>?_,?_⟩
  ·rcases List.mem_append.1 hx with hx|hx
   ·rcases ih.an x hx with h1|⟨y,hy,h1⟩
    ·exact .inl h1
    ·exact .inr ⟨y,by simp[hy],h1⟩
   ·rw[List.mem_singleton]at hx;subst hx
    rcases ha with ha|⟨y,hy,ha⟩
    ·exact .inl ha
    ·exact .inr ⟨y,by simp[hy],ha⟩
  ·rcases List.mem_append.1 hx with hx|hx
   ·exact ih.c0 x hx
   ·rw[List.mem_singleton]at hx;subst hx;omega
  ·rw[hm,ih.mem];simp[or_comm]
  ·rw[hr,List.length_append,List.length_singleton,←ih.len];unfold ur
   split
   ·exact nV _ _
   ·next e=>
    rcases ha with ha|⟨y,hy,ha⟩
    ·exact absurd ha e
    ·exact pJ _ _ ⟨y,(ih.mem y).2 hy,ha⟩
end Go.Proofs.E
end
section
open Go Go.Gv
set_option maxRecDepth 100000
namespace Go.Proofs.E
def aZ (l:List OP):List OP:=l.filter fun o=>decide (o.k=0)
def az (k:Int)(a:ID):List OP→Option OP
 |[]=>none
 |o::r=>if o.k=k∧o.i=a then some o else az k a r
def cp (l:List OP)(a:ID):Bool:=(az 1 a l).isSome
def aw (l:List OP)(o:OP):Int:=
 if aL o≠0 then aL o
 else if o.k=1 then(if (az 0 o.i l).isSome=true then(if cp l o.i=true then 4 else 0)else 6)
 else if az 0 o.i l=some o then 4
 else if (az 0 o.i l).isSome=true then 5
 else if o.a≠⟨0,0⟩∧(az 0 o.a l).isSome=false then 6
 else if 4096≤(aZ l).length then 7 else 0
def elO (l:List OP)(o:OP):EL:=⟨o.i,o.ch,cp l o.i⟩
def aj (l:List OP):List EL:=(db (aZ l)).map (elO l)
def dG (l:List OP)(a:ID):Option EN:=(az 0 a l).map fun x=>⟨x.a,x.ch,cp l a⟩
theorem dZ (k:Int)(a:ID)(r:List OP):∀l:List OP,az k a (l++r)=(az k a l).or (az k a r)
 |[]=>rfl
 |o::l=>by
  rw[List.cons_append,az,az]
  split
  ·rfl
  ·exact dZ k a r l
theorem bM {k:Int}{a:ID}{x:OP}:∀{l:List OP},az k a l=some x→x∈l∧x.k=k∧x.i=a
 |[],h=>by cases h
 |o::l,h=>by
  rw[az]at h
  split at h
  ·next hc=>cases h;exact⟨by simp,hc⟩
  ·obtain⟨h1,h2⟩:=bM h
   exact⟨List.mem_cons_of_mem _ h1,h2⟩
theorem dY {k:Int}{a:ID}:∀{l:List OP},az k a l=none→∀x,x∈l→x.k=k→x.i≠a
 |[],_,x,hx,_=>by simp at hx
 |o::l,h,x,hx,hk=>by
  rw[az]at h
  split at h
  ·cases h
  ·next hc=>
   rcases List.mem_cons.1 hx with rfl|hx
   ·exact fun e=>hc ⟨hk,e⟩
   ·exact dY h x hx hk
theorem bC {l:List OP}{x:OP}:x∈aZ l↔x∈l∧x.k=0:=by unfold aZ;rw[List.mem_filter];simp
theorem b7 {l:List OP}{o:OP}(h:o.k=0):aZ (l++[o])=aZ l++[o]:=by unfold aZ;rw[List.filter_append];simp[h]
theorem cJ {l:List OP}{o:OP}(h:o.k≠0):aZ (l++[o])=aZ l:=by unfold aZ;rw[List.filter_append];simp[h]
theorem jg {l:List OP}{o:OP}(h:o.k=0)(a:ID):cp (l++[o]) a=cp l a:=by
 unfold cp;rw[dZ]
 have:az 1 a [o]=none:=by rw[az,if_neg (by rintro⟨h1,_⟩;omega)];rfl
 rw[this,Option.or_none]
theorem jf {l:List OP}{o:OP}(h:o.k=1)(a:ID):cp (l++[o]) a=(cp l a||decide (o.i=a)):=by
 unfold cp;rw[dZ]
 by_cases e:o.i=a
 ·have:az 1 a [o]=some o:=by rw[az,if_pos ⟨h,e⟩]
  rw[this,decide_eq_true e];cases az 1 a l<;>rfl
 ·have:az 1 a [o]=none:=by rw[az,if_neg (fun h=>e h.2)];rfl
  rw[this,decide_eq_false e,Option.or_none,Bool.or_false]
theorem iu {o:OP}(h:aL o=0)(hk:o.k=0):o.a=⟨0,0⟩∨(bp o.a=true∧o.a.c<o.i.c):=by
 unfold aL at h
 split at h
 ·cases h
 ·split at h
  ·cases h
  ·split at h
   ·cases h
   ·next h3=>
    split at h
    ·cases h
    ·next h4=>
     cases e:bO o.a with
     |true=>exact .inl (vm e)
     |false=>
      right
      refine⟨?_,?_⟩
      ·cases e':bp o.a with
       |true=>rfl
       |false=>exact absurd (.inr ⟨e,e'⟩) h3
      ·have:¬o.i.c≤o.a.c:=fun h=>h4 ⟨e,h⟩
       omega
inductive Dn:List OP→Prop where
 |nil:Dn []
 |snoc {l:List OP} {o:OP} (h:Dn l) (hw:aw l o=0):Dn (l++[o])
theorem cE {l:List OP}{o:OP}(h:aw l o=0):aL o=0∧((o.k=1∧(az 0 o.i l).isSome=true∧cp l o.i=false)∨
 (o.k=0∧az 0 o.i l=none∧(o.a=⟨0,0⟩∨(az 0 o.a l).isSome=true)∧(aZ l).length<4096)):=by
 unfold aw at h
 by_cases h0:aL o=0
 ·refine⟨h0,?_⟩
  rw[if_neg (fun e=>e h0)]at h
  by_cases h1:o.k=1
  ·rw[if_pos h1]at h
   left
   refine⟨h1,?_⟩
   split at h
   ·next h2=>
    split at h
    ·cases h
    ·next h3=>exact⟨h2,by simpa using h3⟩
   ·cases h
  ·rw[if_neg h1]at h
   right
   have hk:o.k=0:=by rcases(dk h0).2 with h|h;exact absurd h.1 h1;exact h.1
   split at h
   ·cases h
   ·split at h
    ·cases h
    ·next h3=>
     split at h
     ·cases h
     ·next h4=>
      split at h
      ·cases h
      ·next h5=>
       refine⟨hk,by simpa using h3,?_,by omega⟩
       by_cases ha:o.a=⟨0,0⟩
       ·exact .inl ha
       ·right
        cases hf:(az 0 o.a l).isSome with
        |true=>rfl
        |false=>exact absurd ⟨ha,hf⟩ h4
 ·rw[if_pos h0]at h
  exact absurd h h0
structure DnI (l:List OP):Prop where
 tk:Tk (aZ l)
 dels:∀o,o∈l→o.k=1→(az 0 o.i l).isSome=true
 ok:∀o,o∈l→aL o=0
 len:(aZ l).length≤4096
theorem Dn.is:∀{l:List OP},Dn l→DnI l:=by
 intro l h
 induction h with
 |nil=>exact⟨Tk.nil,fun _ h=>by simp at h,fun _ h=>by simp at h,by simp[aZ]⟩
 |@snoc l o h hw ih=>
  obtain⟨hc,hk⟩:=cE hw
  have hd:∀x,x∈l++[o]→x.k=1→(az 0 x.i (l++[o])).isSome=true:=fun x hx hx1=>by
   rw[dZ]
   rcases List.mem_append.1 hx with hx|hx
   ·have:=ih.dels x hx hx1
    cases hf:az 0 x.i l with
    |none=>rw[hf]at this;cases this
    |some y=>rfl
   ·rw[List.mem_singleton]at hx;subst hx
    rcases hk with⟨_,h2,_⟩|⟨h2,_⟩
    ·cases hf:az 0 x.i l with
     |none=>rw[hf]at h2;cases h2
     |some y=>rfl
    ·omega
  have hok:∀x,x∈l++[o]→aL x=0:=fun x hx=>by
   rcases List.mem_append.1 hx with hx|hx
   ·exact ih.ok x hx
   ·rw[List.mem_singleton]at hx;subst hx;exact hc
  rcases hk with⟨h1,h2,h3⟩|⟨h1,h2,h3,h4⟩
  ·refine⟨?_,hd,hok,?_⟩
   ·rw[cJ (by omega)];exact ih.tk
   ·rw[cJ (by omega)];exact ih.len
  ·have hm:=bj (dk hc).1
   refine⟨?_,hd,hok,?_⟩
   ·rw[b7 h1]
    refine Tk.snoc ih.tk ?_ ?_ (fun x hx=>?_) ?_
    ·rcases iu hc h1 with e|⟨_,e⟩
     ·rw[e];simp only;omega
     ·omega
    ·rcases iu hc h1 with e|⟨e,_⟩
     ·rw[e];decide
     ·have:=bj e;omega
    ·obtain⟨hx1,hx2⟩:=bC.1 hx
     exact dY h2 x hx1 hx2
    ·rcases h3 with h3|h3
     ·exact .inl h3
     ·right
      cases hf:az 0 o.a l with
      |none=>rw[hf]at h3;cases h3
      |some y=>
       obtain⟨y1,y2,y3⟩:=bM hf
       exact⟨y,bC.2 ⟨y1,y2⟩,y3⟩
   ·rw[b7 h1,List.length_append,List.length_singleton];omega
def dP (o:OP):List OP→Nat
 |[]=>0
 |x::r=>if bf o.i x.i=true then dP o r+1 else 0
def kE (o:OP):List OP→Nat
 |[]=>0
 |x::r=>if x.i=o.a then dP o r+1 else kE o r+1
def yR (o:OP)(L:List OP):Nat:=if o.a=⟨0,0⟩then dP o L else kE o L
theorem ju (o:OP):∀L:List OP,dP o L≤L.length
 |[]=>Nat.le_refl _
 |x::r=>by
  rw[dP];split
  ·have:=ju o r;simp only[List.length_cons];omega
  ·omega
theorem nE (o:OP):∀L:List OP,(∃y,y∈L∧y.i=o.a)→kE o L≤L.length
 |[],h=>by obtain⟨y,hy,_⟩:=h;simp at hy
 |x::r,h=>by
  rw[kE];split
  ·have:=ju o r;simp only[List.length_cons];omega
  ·next hne=>
   have:∃y,y∈r∧y.i=o.a:=by
    obtain⟨z,hz,e⟩:=h
    rcases List.mem_cons.1 hz with rfl|hz
    ·exact absurd e hne
    ·exact⟨z,hz,e⟩
   have:=nE o r this;simp only[List.length_cons];omega
theorem mV (o:OP):∀L:List OP,iV o L=L.take (dP o L)++o::L.drop (dP o L)
 |[]=>rfl
 |x::r=>by
  rw[iV,dP];split
  ·rw[List.take_succ_cons,List.drop_succ_cons,mV o r];rfl
  ·rfl
theorem n7 (o:OP):∀L:List OP,(∃y,y∈L∧y.i=o.a)→fC o L=L.take (kE o L)++o::L.drop (kE o L)
 |[],h=>by obtain⟨y,hy,_⟩:=h;simp at hy
 |x::r,h=>by
  rw[fC,kE];split
  ·rw[List.take_succ_cons,List.drop_succ_cons,mV o r];rfl
  ·next hne=>
   have:∃y,y∈r∧y.i=o.a:=by
    obtain⟨z,hz,e⟩:=h
    rcases List.mem_cons.1 hz with rfl|hz
    ·exact absurd e hne
    ·exact⟨z,hz,e⟩
   rw[List.take_succ_cons,List.drop_succ_cons,n7 o r this];rfl
def ay (a:ID):List EL→Int
 |[]=>-1
 |e::r=>if e.id=a then 0 else(if ay a r<0 then-1 else ay a r+1)
theorem fV {a:ID}:∀{L:List EL},(∀e,e∈L→e.id≠a)→ay a L=-1
 |[],_=>rfl
 |e::r,h=>by
  rw[ay,if_neg (h e (by simp)),fV fun x hx=>h x (List.mem_cons_of_mem _ hx)];rfl
theorem jw {a:ID}:∀{L:List EL}{n:Nat}{e:EL},L[n]?=some e→e.id=a→(∀j x,j<n→L[j]?=some x→x.id≠a)→ay a L=n
 |[],n,e,h,_,_=>by simp at h
 |x::r,0,e,h,he,_=>by
  simp at h;subst h
  rw[ay,if_pos he];rfl
 |x::r,n+1,e,h,he,hn=>by
  rw[ay,if_neg (hn 0 x (by omega) rfl),jw (n:=n) (by simpa using h) he fun j y hj hy=>hn (j+1) y (by omega) (by simpa using hy),if_neg (by omega)]
  simp
theorem lE (a:ID):∀L:List EL,ay a L<L.length
 |[]=>by simp[ay]
 |e::r=>by
  rw[ay,List.length_cons]
  have:=lE a r
  split
  ·omega
  ·split<;>omega
theorem lF (a:ID):∀L:List EL,-1≤ay a L
 |[]=>by simp[ay]
 |e::r=>by
  rw[ay]
  have:=lF a r
  split
  ·omega
  ·split<;>omega
theorem j4 {a:ID}:∀{L:List EL},0≤ay a L→∃e,L[(ay a L).toNat]?=some e∧e.id=a∧∀j x,j<(ay a L).toNat→L[j]?=some x→x.id≠a
 |[],h=>by simp[ay]at h
 |e::r,h=>by
  rw[ay]at h ⊢
  split at h
  ·next he=>rw[if_pos he];exact⟨e,rfl,he,fun j x hj=>by simp at hj⟩
  ·next he=>
   split at h
   ·omega
   ·next h2=>
    rw[if_neg he,if_neg h2]
    obtain⟨x,h3,h4,h5⟩:=j4 (a:=a) (L:=r) (by omega)
    have e1:(ay a r+1).toNat=(ay a r).toNat+1:=by omega
    refine⟨x,by rw[e1,List.getElem?_cons_succ];exact h3,h4,fun j y hj hy=>?_⟩
    rw[e1]at hj
    cases j with
    |zero=>simp at hy;subst hy;exact he
    |succ j=>exact h5 j y (by omega) (by simpa using hy)
theorem r8 {a:ID}{L:List EL}{e:EL}(he:e∈L)(hi:e.id=a):0≤ay a L:=by
 induction L with
 |nil=>simp at he
 |cons x r ih=>
  rw[ay]
  split
  ·omega
  ·next hne=>
   rcases List.mem_cons.1 he with rfl|he
   ·exact absurd hi hne
   ·have:=ih he;rw[if_neg (by omega)];omega
theorem B6:∀{I:List OP},Tk I→(db I).Pairwise fun x y=>x.i≠y.i:=by
 intro I h
 induction h with
 |nil=>exact List.Pairwise.nil
 |@snoc I o h hc h0 hn ha ih=>
  rw[lR h.is hc h0 hn ha]
  have hm:=h.is.mem
  have key:∀p,p≤(db I).length→((db I).take p++o::(db I).drop p).Pairwise fun x y=>x.i≠y.i:=fun p hp=>by
   have hsp:=List.take_append_drop p (db I)
   rw[←hsp]at ih
   obtain⟨i1,i2,i3⟩:=List.pairwise_append.1 ih
   refine List.pairwise_append.2 ⟨i1,List.pairwise_cons.2 ⟨fun y hy=>?_,i2⟩,fun x hx y hy=>?_⟩
   ·exact fun e=>hn y ((hm y).1 (List.mem_of_mem_drop hy)) e.symm
   ·rcases List.mem_cons.1 hy with rfl|hy
    ·exact hn x ((hm x).1 (List.mem_of_mem_take hx))
    ·exact i3 x hx y hy
  unfold ur
  split
  ·rw[mV];exact key _ (ju _ _)
  ·next e=>
   have hex:∃y,y∈db I∧y.i=o.a:=by
    rcases ha with ha|⟨y,hy,ha⟩
    ·exact absurd ha e
    ·exact⟨y,(hm y).2 hy,ha⟩
   rw[n7 o _ hex];exact key _ (nE _ _ hex)
theorem qr {l:List OP}(h:Dn l):(aj l).Pairwise fun x y=>x.id≠y.id:=by
 unfold aj
 rw[List.pairwise_map]
 exact(B6 h.is.tk).imp fun h=>h
theorem jq {l:List OP}(h:Dn l):(aj l).length=(aZ l).length:=by unfold aj;rw[List.length_map,h.is.tk.is.len]
theorem jp {l:List OP}(h:Dn l){e:EL}:e∈aj l↔∃o,o∈aZ l∧e=elO l o:=by
 unfold aj
 rw[List.mem_map]
 exact⟨fun⟨o,h1,h2⟩=>⟨o,(h.is.tk.is.mem o).1 h1,h2.symm⟩,fun⟨o,h1,h2⟩=>⟨o,(h.is.tk.is.mem o).2 h1,h2.symm⟩⟩
theorem mq {l:List OP}(h:Dn l){x:OP}(hx:x∈aZ l):az 0 x.i l=some x:=by
 cases hf:az 0 x.i l with
 |none=>exact absurd rfl (dY hf x (bC.1 hx).1 (bC.1 hx).2)
 |some y=>
  obtain⟨y1,y2,y3⟩:=bM hf
  rw[qK h.is.tk.is.ok (bC.2 ⟨y1,y2⟩) hx y3]
theorem jv {l:List OP}(h:Dn l)(a:ID):decide (0≤ay a (aj l))=(az 0 a l).isSome:=by
 cases hf:az 0 a l with
 |none=>
  rw[fV]
  ·rfl
  ·intro e he
   obtain⟨o,ho,rfl⟩:=(jp h).1 he
   exact dY hf o (bC.1 ho).1 (bC.1 ho).2
 |some x=>
  obtain⟨x1,x2,x3⟩:=bM hf
  rw[decide_eq_true (r8 ((jp h).2 ⟨x,bC.2 ⟨x1,x2⟩,rfl⟩) x3)];rfl
theorem yO {L:List EL}(h:L.Pairwise fun x y=>x.id≠y.id){i j:Nat}{x y:EL}(hi:L[i]?=some x)(hj:L[j]?=some y)(e:x.id=y.id):i=j:=by
 have hi':=(List.getElem?_eq_some_iff.1 hi)
 have hj':=(List.getElem?_eq_some_iff.1 hj)
 obtain⟨hi1,hi2⟩:=hi'
 obtain⟨hj1,hj2⟩:=hj'
 rcases Nat.lt_trichotomy i j with hlt|heq|hgt
 ·have:=List.pairwise_iff_getElem.1 h i j hi1 hj1 hlt
  rw[hi2,hj2]at this;exact absurd e this
 ·exact heq
 ·have:=List.pairwise_iff_getElem.1 h j i hj1 hi1 hgt
  rw[hi2,hj2]at this;exact absurd e.symm this
theorem j3 {L:List EL}(h:L.Pairwise fun x y=>x.id≠y.id){n:Nat}{e:EL}(he:L[n]?=some e):ay e.id L=n:=
 jw he rfl fun j x hj hx e2=>by have:=yO h hx he e2;omega
def dh (l:List OP)(o:OP):Nat:=yR o (db (aZ l))
theorem kC {l:List OP}(h:Dn l){o:OP}(hw:aw l o=0)(hk:o.k=0):dh l o≤(aj l).length:=by
 obtain⟨hc,h1⟩:=cE hw
 rcases h1 with⟨h1,_⟩|⟨_,_,ha,_⟩
 ·omega
 unfold dh yR aj
 rw[List.length_map]
 split
 ·exact ju _ _
 ·next e=>
  rcases ha with ha|ha
  ·exact absurd ha e
  ·cases hf:az 0 o.a l with
   |none=>rw[hf]at ha;cases ha
   |some y=>
    obtain⟨y1,y2,y3⟩:=bM hf
    exact nE _ _ ⟨y,(h.is.tk.is.mem y).2 (bC.2 ⟨y1,y2⟩),y3⟩
theorem qs {l:List OP}(h:Dn l){o:OP}(hw:aw l o=0)(hk:o.k=0):aj (l++[o])=(aj l).take (dh l o)++⟨o.i,o.ch,false⟩::(aj l).drop (dh l o):=by
 obtain⟨hc,h1⟩:=cE hw
 rcases h1 with⟨h1,_⟩|⟨_,hnew,ha,_⟩
 ·omega
 have hm:=bj (dk hc).1
 have hcl:o.a.c<o.i.c∧o.i.c≤1048576:=by
  rcases iu hc hk with e|⟨_,e⟩
  ·rw[e];simp only;omega
  ·omega
 have h0:0≤o.a.c:=by
  rcases iu hc hk with e|⟨e,_⟩
  ·rw[e];decide
  ·have:=bj e;omega
 have hn:∀x,x∈aZ l→x.i≠o.i:=fun x hx=>dY hnew x (bC.1 hx).1 (bC.1 hx).2
 have ha':o.a=⟨0,0⟩∨∃x,x∈aZ l∧x.i=o.a:=by
  rcases ha with ha|ha
  ·exact .inl ha
  ·right
   cases hf:az 0 o.a l with
   |none=>rw[hf]at ha;cases ha
   |some y=>
    obtain⟨y1,y2,y3⟩:=bM hf
    exact⟨y,bC.2 ⟨y1,y2⟩,y3⟩
 have hd:cp (l++[o]) o.i=false:=by
  rw[jg hk]
  unfold cp
  cases hf:az 1 o.i l with
  |none=>rfl
  |some y=>
   obtain⟨y1,y2,y3⟩:=bM hf
   have:=h.is.dels y y1 y2
   rw[y3,hnew]at this;cases this
 have hel:∀x,elO (l++[o]) x=elO l x:=fun x=>by unfold elO;rw[jg hk]
 have hel':elO (l++[o])=elO l:=funext hel
 have heo:elO l o=⟨o.i,o.ch,false⟩:=by rw[←hel];unfold elO;rw[hd]
 unfold aj
 rw[b7 hk,lR h.is.tk.is hcl h0 hn ha',hel']
 have:ur o (db (aZ l))=(db (aZ l)).take (dh l o)++o::(db (aZ l)).drop (dh l o):=by
  unfold ur dh yR
  split
  ·exact mV _ _
  ·next e=>
   rcases ha' with ha|⟨x,hx,ha⟩
   ·exact absurd ha e
   ·exact n7 _ _ ⟨x,(h.is.tk.is.mem x).2 hx,ha⟩
 rw[this,List.map_append,List.map_cons,heo,List.map_take,List.map_drop]
theorem wV {l:List OP}(h:Dn l){o:OP}(hw:aw l o=0)(hk:o.k=0):ay o.i (aj (l++[o]))=dh l o:=by
 have hnd:=qr (Dn.snoc h hw)
 have hle:=kC h hw hk
 have:=j3 hnd (n:=dh l o) (e:=⟨o.i,o.ch,false⟩) (by
  rw[qs h hw hk,List.getElem?_append_right (by rw[List.length_take];omega),List.length_take,Nat.min_eq_left hle,Nat.sub_self];rfl)
 exact this
theorem mN {l:List OP}(h:Dn l){o:OP}(hw:aw l o=0)(hk:o.k=1):∃n ch,ay o.i (aj l)=(n:Nat)∧(aj l)[n]?=some ⟨o.i,ch,false⟩∧dG l o.i=some ⟨((az 0 o.i l).map (·.a)).getD ⟨0,0⟩,ch,false⟩∧
 aj (l++[o])=(aj l).set n ⟨o.i,ch,true⟩∧ay o.i (aj (l++[o]))=(n:Nat):=by
 obtain⟨hc,h1⟩:=cE hw
 obtain⟨hs,hd⟩:(az 0 o.i l).isSome=true∧cp l o.i=false:=by
  rcases h1 with⟨_,h⟩|⟨h1,_⟩
  ·exact h
  ·omega
 cases hf:az 0 o.i l with
 |none=>rw[hf]at hs;cases hs
 |some x=>
  obtain⟨x1,x2,x3⟩:=bM hf
  have hx:=bC.2 ⟨x1,x2⟩
  have hmem:elO l x∈aj l:=(jp h).2 ⟨x,hx,rfl⟩
  obtain⟨n,hn⟩:=List.getElem?_of_mem hmem
  have hpl:=j3 (qr h) hn
  have hex:elO l x=⟨o.i,x.ch,false⟩:=by unfold elO;rw[x3,hd]
  rw[hex]at hn hpl
  have hrow:aj (l++[o])=(aj l).set n ⟨o.i,x.ch,true⟩:=by
   apply List.ext_getElem?
   intro j
   rw[List.getElem?_set]
   have e1:aj (l++[o])=(db (aZ l)).map (elO (l++[o])):=by unfold aj;rw[cJ (by omega)]
   rw[e1,List.getElem?_map]
   have e2:(aj l)[j]?=((db (aZ l))[j]?).map (elO l):=by unfold aj;rw[List.getElem?_map]
   have hlen:n<(aj l).length:=(List.getElem?_eq_some_iff.1 hn).1
   by_cases hj:n=j
   ·subst hj
    rw[if_pos rfl,if_pos hlen]
    rw[hn]at e2
    cases hz:(db (aZ l))[n]? with
    |none=>rw[hz]at e2;cases e2
    |some z=>
     rw[hz]at e2
     simp only[Option.map_some,Option.some.injEq]at e2
     have z1:o.i=z.i:=congrArg EL.id e2
     have z2:x.ch=z.ch:=congrArg EL.ch e2
     simp only[Option.map_some,elO]
     rw[jf hk,←z1,←z2];simp
   ·rw[if_neg hj,e2]
    cases hz:(db (aZ l))[j]? with
    |none=>rfl
    |some z=>
     simp only[Option.map_some,elO]
     rw[jf hk]
     have:¬o.i=z.i:=fun e=>by
      rw[hz]at e2
      exact hj (yO (qr h) hn e2 e)
     rw[decide_eq_false this,Bool.or_false]
  refine⟨n,x.ch,hpl,hn,?_,hrow,?_⟩
  ·unfold dG;rw[hf];simp[hd]
  ·have hlen:n<(aj l).length:=(List.getElem?_eq_some_iff.1 hn).1
   exact j3 (qr (Dn.snoc h hw)) (n:=n) (e:=⟨o.i,x.ch,true⟩) (by rw[hrow,List.getElem?_set,if_pos rfl,if_pos hlen])
theorem Cb {l:List OP}(h:Dn l){o:OP}(hw:aw l o=0)(hk:o.k=0)(a:ID):dG (l++[o]) a=if a=o.i then some ⟨o.a,o.ch,false⟩else dG l a:=by
 obtain⟨hc,h1⟩:=cE hw
 rcases h1 with⟨h1,_⟩|⟨_,hnew,ha,_⟩
 ·omega
 unfold dG
 rw[dZ,jg hk]
 by_cases e:a=o.i
 ·subst e
  have hd:cp l o.i=false:=by
   unfold cp
   cases hf:az 1 o.i l with
   |none=>rfl
   |some y=>
    obtain⟨y1,y2,y3⟩:=bM hf
    have:=h.is.dels y y1 y2
    rw[y3,hnew]at this;cases this
  rw[if_pos rfl,hnew,hd,az,if_pos ⟨hk,rfl⟩];rfl
 ·rw[if_neg e]
  have:az 0 a [o]=none:=by rw[az,if_neg (fun h=>e h.2.symm)];rfl
  rw[this,Option.or_none]
theorem Cc {l:List OP}{o:OP}(hk:o.k=1)(a:ID):dG (l++[o]) a=if a=o.i then(dG l a).map (fun x=>⟨x.a,x.ch,true⟩)else dG l a:=by
 unfold dG
 have:az 0 a [o]=none:=by rw[az,if_neg (by rintro⟨h,_⟩;omega)];rfl
 rw[dZ,this,Option.or_none,jf hk]
 by_cases e:a=o.i
 ·subst e;simp[Function.comp_def]
 ·rw[if_neg e,decide_eq_false (fun h=>e h.symm),Bool.or_false]
end Go.Proofs.E
end
section
namespace Go.Proofs.E
theorem bJ {α:Type}{l:List α}{i:Nat}{x:α}(h:l[i]?=some x):l.take (i+1)=l.take i++[x]:=by
 rw[List.take_add_one,h];rfl
open Go Go.Gv
theorem gD {i k n m:Nat}(h:n=m):some (AV.arr i k n)=some (AV.arr i k m):=by rw[h]
theorem gC {k:Nat}{xs ys:List (List D)}(h:xs=ys):some (Ent.arr k xs)=some (Ent.arr k ys):=by rw[h]
theorem DH {n:Int}(h:(Lit.int .u8 n).wf=true):0≤n∧n≤255:=by
 simp[Lit.wf,IntKind.min,IntKind.max,IntKind.signed,IntKind.bits]at h
 omega
theorem BV {n:Int}(h:(Lit.int .i64 n).wf=true):-9223372036854775808≤n∧n≤9223372036854775807:=by
 simp[Lit.wf,IntKind.min,IntKind.max,IntKind.signed,IntKind.bits]at h
 omega
end Go.Proofs.E
end
section
open Go Go.Gv
attribute [local irreducible] Go.Gv.WJ Go.Gv.OpJ Go.Gv.QJ Go.Gv.Spl Go.Gv.Req Go.Gv.IdxP Go.Gv.RegP Go.Gv.FinP Go.Gv.CellP Go.Gv.CellsP Go.Gv.ArrP Go.Gv.ArrsP Go.Gv.DropP Go.Gv.ByteP Go.Gv.StoreP
set_option maxRecDepth 100000
namespace Go.Proofs.E
theorem eqR (a b:ID):eqT Tryz.prog 3 108 [.int .i64 a.c,.int .i64 a.s] [.int .i64 b.c,.int .i64 b.s]=some (decide (a=b)):=by
 show some (decide (a.c=b.c)&&(decide (a.s=b.s)&&true))=_
 cases a;cases b;simp
theorem jb:j7 Tryz.prog 3 108=true:=by kernel_rfl
theorem mv:Tryz.prog.eqGuardType Tryz.prog.depth 108=false:=by kernel_rfl
abbrev putT (a:ID)(i:Nat)(st:List IE×Bool):T:=[(8,iv i),(7,bv st.2),(6,.arr 6 6 st.1.length)]
end Go.Proofs.E
namespace Go.Proofs.E
attribute [local irreducible] elems
def w4 (p:PT)(n:Int)(a:ID):Int:=if (qS p a).isSome=true then n else n+1
theorem mU {p:PT}{n:Int}{M:List IE}(h:isM p n M){a:ID}(ha:bp a=true)(e:EN):isM (PT.put 8 (bW a) e p) (w4 p n a) (gQ a e M):=D4 h ha e
theorem m9 {p:PT}{n:Int}{M:List IE}(h:isM p n M)(hl:M.length≤1000000)(a:ID)(e:EN)(ha:bp a=true):Cv 286 [nQ p n,idv a,env e] (.tup [nQ (PT.put 8 (bW a) e p) (w4 p n a),bv true]):=by
 have:=Ff p n a e h.wf (by rw[h.len];omega) (by rw[h.len];omega)
 rw[if_pos ha]at this
 exact this
theorem C3 {p:PT}{n:Int}{M:List IE}(h:isM p n M)(a:ID):Cv 284 [nQ p n,idv a] (Eo (aO a M)):=by
 have:=AY p n a h.wf
 rw[vE h]at this;exact this
theorem tF {p:PT}{n:Int}{M:List IE}(h:isM p n M):Cv 236 [nQ p n] (idv (fX M)):=by
 have:=C2 p n h.wf
 rw[BP h]at this;exact this
theorem El {p:PT}{n:Int}{M:List IE}(h:isM p n M):AW tab Tryz.prog 302 [.d (Ed p n)] (M.map ieA):=by
 have:=xG p n h.wf
 rw[ER h]at this;exact this
def qm (M:List IE):List UInt8:=M.foldl (fun s x=>s++(cf x.1++(Utf8.encode x.2.ch).data.toList)) []
theorem wv (M:List IE)(x:IE):qm (M++[x])=qm M++(cf x.1++(Utf8.encode x.2.ch).data.toList):=by simp[qm]
theorem Bb:Cv 274 [] (bv true):=by
 have h1:=mU qP (a:=⟨2,1⟩) rfl ⟨⟨0,0⟩,98,false⟩
 have h2:=mU h1 (a:=⟨1,3⟩) rfl ⟨⟨0,0⟩,97,false⟩
 have p1:=m9 qP (by simp) ⟨2,1⟩ ⟨⟨0,0⟩,98,false⟩ rfl
 have p2:=m9 h1 (by simp[gQ]) ⟨1,3⟩ ⟨⟨0,0⟩,97,false⟩ rfl
 have it:=El h2
 have la:=tF h2
 obtain⟨M,hM⟩:∃M,M=gQ ⟨1,3⟩ ⟨⟨0,0⟩,97,false⟩ (gQ ⟨2,1⟩ ⟨⟨0,0⟩,98,false⟩ []):=⟨_,rfl⟩
 rw[←hM]at it la h2
 generalize PT.put 8 (bW ⟨2,1⟩) ⟨⟨0,0⟩,98,false⟩ PT.nil=q1 at*
 generalize w4 PT.nil 0 ⟨2,1⟩=n1 at*
 generalize PT.put 8 (bW ⟨1,3⟩) ⟨⟨0,0⟩,97,false⟩ q1=q2 at*
 generalize w4 q1 n1 ⟨1,3⟩=n2 at*
 refine ab Tryz.f274 Tryz.func274 rfl rfl fun w H B g0=>?_
 refine aa p1 (fun _ _=>rfl) rfl rfl rfl ?_
 (repeat (first|refine Spl.t rfl ?_|refine Spl.f rfl ?_))
 refine aa p2 (fun _ _=>rfl) rfl rfl rfl ?_
 (repeat (first|refine Spl.t rfl ?_|refine Spl.f rfl ?_))
 refine aa (Be q2 n2) (fun _ _=>rfl) rfl rfl rfl ?_
 (repeat (first|refine Spl.t rfl ?_|refine Spl.f rfl ?_))
 refine aa (Be q2 n2) (fun _ _=>rfl) rfl rfl rfl ?_
 (repeat (first|refine Spl.t rfl ?_|refine Spl.f rfl ?_))
 have ht:(qm M).length≤100:=by rw[hM];decide+kernel
 refine lY ieA M (V:=List UInt8) (fun v=>[(4,.cells [sv v])]) [4] (fun pre v=>v=qm pre) (fun _ _ _=>False) [] it rfl rfl (.fn _ _) rfl (fun _ _=>rfl) rfl rfl (fun _=>rfl) (by repeat' (first|exact trivial|exact rfl|refine And.intro ?_ ?_)) rfl ?_ ?_ ?_
 ·intro l pre x post v hL hI w0 H0 B0 g1
  intro w0 H0 B0 g1
  have hlen:(qm pre).length+(cf x.1++(Utf8.encode x.2.ch).data.toList).length≤100:=by
   rw[hL,qm,List.foldl_append,List.foldl_cons]at ht
   have hgrow:∀(P:List IE)(s:List UInt8),s.length≤(P.foldl (fun s x=>s++(cf x.1++(Utf8.encode x.2.ch).data.toList)) s).length:=fun P=>by
    induction P with
    |nil=>intro s;exact Nat.le_refl _
    |cons y P ih=>intro s;exact Nat.le_trans (by simp) (ih _)
   have:=Nat.le_trans (hgrow post _) ht
   rw[List.length_append]at this
   exact this
  rw[List.length_append]at hlen
  refine RegP.of rfl (by decide+kernel) ?_
  refine QuietP.of (QJ.call (gZ x.1) (fun _ _=>rfl) rfl rfl) ?_
  refine Req.of (by show(cf x.1).length+(Utf8.encode x.2.ch).data.toList.length≤_;omega) ?_
  refine Req.of (by subst hI;show(qm pre).length+(cf x.1++(Utf8.encode x.2.ch).data.toList).length≤_;rw[List.length_append];omega) ?_
  exact⟨qm (pre++[x]),rfl,⟨congrArg (fun l=>some (Ent.cells [sv l])) (by rw[wv,hI]),(by repeat' (first|exact trivial|exact rfl|refine And.intro ?_ ?_))⟩⟩
 ·intro v hI
  subst hI
  refine aa nb (fun _ _=>rfl) rfl rfl rfl ?_
  (repeat (first|refine Spl.t rfl ?_|refine Spl.f rfl ?_))
  refine Spl.t (by rw[hM];decide+kernel) ?_
  (repeat (first|refine Spl.t rfl ?_|refine Spl.f rfl ?_))
  refine aa la (fun _ _=>rfl) rfl rfl rfl ?_
  (repeat (first|refine Spl.t rfl ?_|refine Spl.f rfl ?_))
  refine aR (O.eqT 3 rfl rfl rfl rfl rfl oE sK (eqI (fX M) ⟨2,1⟩)) rfl ?_
  (repeat (first|refine Spl.t rfl ?_|refine Spl.f rfl ?_))
  exact FinP.open rfl (congrArg bv (by rw[hM];decide+kernel))
 ·intro c p v h
  exact h.elim
theorem qc {M:List IE}(h:upM M){x:IE}(hx:x∈M):aO x.1 M=some x.2:=by
 induction M with
 |nil=>simp at hx
 |cons y l ih=>
  obtain⟨h1,h2⟩:=List.pairwise_cons.1 h
  rw[aO]
  rcases List.mem_cons.1 hx with rfl|hx
  ·rw[if_pos rfl]
  ·rw[if_neg (fun e=>cB y.1 (by have:=h1 x hx;rw[e]at this;exact this)),ih h2 hx]
end Go.Proofs.E
end
