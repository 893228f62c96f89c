/- Laws that the claim's text stands on: part M6 of them. -/
import Derived.Test.YtaojepfldokjdaaGreatDoorM1
import Derived.Test.YtaojepfldokjdaaGreatDoorM2
import Derived.Test.YtaojepfldokjdaaGreatDoorM3
import Derived.Test.YtaojepfldokjdaaGreatDoorM4
import Derived.Test.YtaojepfldokjdaaGreatDoorDShelf
import Derived.Test.YtaojepfldokjdaaGreatDoorM5
import Derived.Lib.RuneBytes
set_option linter.unusedVariables false
set_option linter.unusedSimpArgs false
section
open Go Go.Gv
attribute [local irreducible] Go.Gv.WJ Go.Gv.OpJ Go.Gv.QJ Go.Gv.Spl Go.Gv.Req Go.Gv.IdxP Go.Gv.RegP Go.Gv.FinP Go.Gv.CellP Go.Gv.CellsP Go.Gv.ArrP Go.Gv.ArrsP Go.Gv.DropP Go.Gv.ByteP Go.Gv.StoreP
set_option maxRecDepth 100000
namespace Go.Proofs.E
theorem BM (a b:Nat):(if (b:Int)>(a:Int)then(b:Int)else(a:Int))=((Nat.max a b:Nat):Int):=by
 have:Nat.max a b=max a b:=rfl
 rw[this]
 split<;>omega
theorem dv (l r:TR)(e:EL)(hl:l.size+r.size≤1000000):Cv 310 [.d l.d,elv e,.d r.d] (.d (TR.node l e r).d):=by
 have h1:=l.live_le
 have h2:=r.live_le
 have h3:=l.deep_le
 have h4:=r.deep_le
 have h5:TR.one e≤1:=by unfold TR.one;split<;>omega
 have h6:Nat.max l.deep r.deep≤l.size+r.size:=Nat.max_le.2 ⟨by omega,by omega⟩
 have e1:IntKind.i64.wrap (IntKind.i64.wrap ((l.size:Int)+1)+(r.size:Int))=((l.size+1+r.size:Nat):Int):=by
  rw[ah (_+1) (by omega) (by omega),ah _ (by omega) (by omega)];omega
 have e2:IntKind.i64.wrap (IntKind.i64.wrap ((l.live:Int)+(TR.one e:Int))+(r.live:Int))=((l.live+TR.one e+r.live:Nat):Int):=by
  rw[ah (_+(TR.one e:Int)) (by omega) (by omega),ah _ (by omega) (by omega)];omega
 have e3:IntKind.i64.wrap ((if (r.deep:Int)>(l.deep:Int)then(r.deep:Int)else(l.deep:Int))+1)=((Nat.max l.deep r.deep+1:Nat):Int):=by
  rw[BM,ah _ (by omega) (by omega)];omega
 refine ab Tryz.f310 Tryz.func310 rfl rfl fun w H B g0=>?_
 refine RegP.mixE 0 25 [] rfl (by decide+kernel) ?_
 refine QuietP.of (QJ.call (dr l) (fun _ _=>rfl) rfl rfl) ?_
 refine QuietP.of (QJ.call (dr r) (fun _ _=>rfl) rfl rfl) ?_
 refine QuietP.of (QJ.call (nU l) (fun _ _=>rfl) rfl rfl) ?_
 refine QuietP.of (QJ.call (vj e) (fun _ _=>rfl) rfl rfl) ?_
 refine QuietP.of (QJ.call (nU r) (fun _ _=>rfl) rfl rfl) ?_
 refine QuietP.of (QJ.call (zL l) (fun _ _=>rfl) rfl rfl) ?_
 refine QuietP.of (QJ.call (zL r) (fun _ _=>rfl) rfl rfl) ?_
 (repeat' (refine And.intro ?_ ?_))
 refine FinP.pub 31 rfl rfl (FinP.open rfl ?_)
 rw[TR.d,←e1,←e2,←e3];rfl
theorem jD (a b:Nat):decide ((a:Int)<(b:Int))=Nat.blt a b:=by
 by_cases h:a<b
 ·rw[decide_eq_true (by omega)];exact(Nat.blt_eq.mpr h).symm
 ·rw[decide_eq_false (by omega)]
  cases hb:Nat.blt a b with
  |false=>rfl
  |true=>exact absurd (Nat.blt_eq.mp hb) h
theorem Cl (a b:Nat):decide ((a:Int)≤(b:Int))=Nat.ble a b:=by
 by_cases h:a≤b
 ·rw[decide_eq_true (by omega),Nat.ble_eq_true_of_le h]
 ·rw[decide_eq_false (by omega)]
  cases hb:Nat.ble a b with
  |false=>rfl
  |true=>exact absurd (Nat.le_of_ble_eq_true hb) h
theorem dl {a b:Nat}(h:Nat.blt a b=true):a<b:=Nat.blt_eq.mp h
theorem dF {a b:Nat}(h:Nat.blt a b=false):b≤a:=by
 rcases Nat.lt_or_ge a b with h1|h1
 ·rw[Nat.blt_eq.mpr h1]at h;cases h
 ·exact h1
theorem qb {a b:Nat}(h:Nat.ble a b=false):b<a:=by
 rcases Nat.lt_or_ge b a with h1|h1
 ·exact h1
 ·rw[Nat.ble_eq_true_of_le h1]at h;cases h
theorem dbl (n:Nat)(h:n≤1000000):IntKind.i64.wrap (2*(n:Int))=((2*n:Nat):Int):=by rw[ah _ (by omega) (by omega)];omega
theorem tri (n:Nat)(h:n≤1000000):IntKind.i64.wrap (3*(n:Int))=((3*n:Nat):Int):=by rw[ah _ (by omega) (by omega)];omega
theorem Bk (l r:TR)(e:EL)(hl:l.size+r.size≤900000)(hr:0<r.size):Cv 316 [.d l.d,elv e,.d r.d] (.d (TR.turnL l e r).d):=by
 cases r with
 |nil=>simp[TR.size]at hr
 |node rl re rr=>
  simp only[TR.size]at hl
  refine ab Tryz.f316 Tryz.func316 rfl rfl fun w H B g0=>?_
  refine RegP.of rfl (by decide+kernel) ?_
  refine QuietP.of (QJ.call (eh rl (by omega)) (fun _ _=>rfl) rfl rfl) ?_
  refine QuietP.of (QJ.call (eh rr (by omega)) (fun _ _=>rfl) rfl rfl) ?_
  have hc:decide ((rl.wt:Int)<IntKind.i64.wrap (2*(rr.wt:Int)))=Nat.blt rl.wt (2*rr.wt):=by rw[dbl _ (by unfold TR.wt;omega),jD]
  refine Spl.of (fun h=>?_) (fun h=>?_)
  ·have h:=hc.symm.trans h
   have ht:TR.turnL l e (.node rl re rr)=.node (.node l e rl) re rr:=by simp only[TR.turnL,h]
   rw[ht]
   (repeat (first|refine Spl.t rfl ?_|refine Spl.f rfl ?_))
   refine RegP.of rfl (by decide+kernel) ?_
   refine QuietP.of (QJ.call (dv l rl e (by omega)) (fun _ _=>rfl) rfl rfl) ?_
   refine QuietP.of (QJ.call (dv (.node l e rl) rr re (by simp only[TR.size];omega)) (fun _ _=>rfl) rfl rfl) ?_
   exact FinP.open rfl rfl
  ·have h:=hc.symm.trans h
   have h2:=dF h
   cases rl with
   |nil=>unfold TR.wt at h2;simp only[TR.size]at h2;omega
   |node ml me mr=>
    have ht:TR.turnL l e (.node (.node ml me mr) re rr)=.node (.node l e ml) me (.node mr re rr):=by simp only[TR.turnL,h]
    simp only[TR.size]at hl
    rw[ht]
    (repeat (first|refine Spl.t rfl ?_|refine Spl.f rfl ?_))
    refine RegP.of rfl (by decide+kernel) ?_
    refine QuietP.of (QJ.call (dv l ml e (by omega)) (fun _ _=>rfl) rfl rfl) ?_
    refine QuietP.of (QJ.call (dv mr rr re (by omega)) (fun _ _=>rfl) rfl rfl) ?_
    refine QuietP.of (QJ.call (dv (.node l e ml) (.node mr re rr) me (by simp only[TR.size];omega)) (fun _ _=>rfl) rfl rfl) ?_
    exact FinP.open rfl rfl
theorem Bj (l r:TR)(e:EL)(hl:l.size+r.size≤900000)(hr:0<l.size):Cv 317 [.d l.d,elv e,.d r.d] (.d (TR.turnR l e r).d):=by
 cases l with
 |nil=>simp[TR.size]at hr
 |node ll le lr=>
  simp only[TR.size]at hl
  refine ab Tryz.f317 Tryz.func317 rfl rfl fun w H B g0=>?_
  refine RegP.of rfl (by decide+kernel) ?_
  refine QuietP.of (QJ.call (eh lr (by omega)) (fun _ _=>rfl) rfl rfl) ?_
  refine QuietP.of (QJ.call (eh ll (by omega)) (fun _ _=>rfl) rfl rfl) ?_
  have hc:decide ((lr.wt:Int)<IntKind.i64.wrap (2*(ll.wt:Int)))=Nat.blt lr.wt (2*ll.wt):=by rw[dbl _ (by unfold TR.wt;omega),jD]
  refine Spl.of (fun h=>?_) (fun h=>?_)
  ·have h:=hc.symm.trans h
   have ht:TR.turnR (.node ll le lr) e r=.node ll le (.node lr e r):=by simp only[TR.turnR,h]
   rw[ht]
   (repeat (first|refine Spl.t rfl ?_|refine Spl.f rfl ?_))
   refine RegP.of rfl (by decide+kernel) ?_
   refine QuietP.of (QJ.call (dv lr r e (by omega)) (fun _ _=>rfl) rfl rfl) ?_
   refine QuietP.of (QJ.call (dv ll (.node lr e r) le (by simp only[TR.size];omega)) (fun _ _=>rfl) rfl rfl) ?_
   exact FinP.open rfl rfl
  ·have h:=hc.symm.trans h
   have h2:=dF h
   cases lr with
   |nil=>unfold TR.wt at h2;simp only[TR.size]at h2;omega
   |node ml me mr=>
    have ht:TR.turnR (.node ll le (.node ml me mr)) e r=.node (.node ll le ml) me (.node mr e r):=by simp only[TR.turnR,h]
    simp only[TR.size]at hl
    rw[ht]
    (repeat (first|refine Spl.t rfl ?_|refine Spl.f rfl ?_))
    refine RegP.of rfl (by decide+kernel) ?_
    refine QuietP.of (QJ.call (dv ll ml le (by omega)) (fun _ _=>rfl) rfl rfl) ?_
    refine QuietP.of (QJ.call (dv mr r e (by omega)) (fun _ _=>rfl) rfl rfl) ?_
    refine QuietP.of (QJ.call (dv (.node ll le ml) (.node mr e r) me (by simp only[TR.size];omega)) (fun _ _=>rfl) rfl rfl) ?_
    exact FinP.open rfl rfl
theorem Dt (l r:TR)(e:EL)(hl:l.size+r.size≤900000):Cv 311 [.d l.d,elv e,.d r.d] (.d (TR.bal l e r).d):=by
 have c1:decide ((r.wt:Int)>IntKind.i64.wrap (3*(l.wt:Int)))=Nat.blt (3*l.wt) r.wt:=by rw[tri _ (by unfold TR.wt;omega)];exact jD _ _
 have c2:decide ((l.wt:Int)>IntKind.i64.wrap (3*(r.wt:Int)))=Nat.blt (3*r.wt) l.wt:=by rw[tri _ (by unfold TR.wt;omega)];exact jD _ _
 refine ab Tryz.f311 Tryz.func311 rfl rfl fun w H B g0=>?_
 refine aa (eh r (by omega)) (fun _ _=>rfl) rfl rfl rfl ?_
 refine aa (eh l (by omega)) (fun _ _=>rfl) rfl rfl rfl ?_
 refine Spl.of (fun h=>?_) (fun h=>?_)
 ·have h:=c1.symm.trans h
  have h2:=dl h
  rw[TR.bal,h]
  refine aa (Bk l r e hl (by unfold TR.wt at h2;omega)) (fun _ _=>rfl) rfl rfl rfl ?_
  exact FinP.open rfl rfl
 ·have h:=c1.symm.trans h
  refine aa (eh l (by omega)) (fun _ _=>rfl) rfl rfl rfl ?_
  refine aa (eh r (by omega)) (fun _ _=>rfl) rfl rfl rfl ?_
  refine Spl.of (fun h3=>?_) (fun h3=>?_)
  ·have h3:=c2.symm.trans h3
   have h2:=dl h3
   rw[TR.bal,h,h3]
   refine aa (Bj l r e hl (by unfold TR.wt at h2;omega)) (fun _ _=>rfl) rfl rfl rfl ?_
   exact FinP.open rfl rfl
  ·have h3:=c2.symm.trans h3
   rw[TR.bal,h,h3]
   refine aa (dv l r e (by omega)) (fun _ _=>rfl) rfl rfl rfl ?_
   exact FinP.open rfl rfl
theorem kr (i:Nat)(e:EL)(t:TR)(h:i≤t.size):(TR.ins i e t).size=t.size+1:=by
 rw[←TR.els_len,TR.els_ins i e t h,List.length_append,List.length_cons,List.length_take,List.length_drop,TR.els_len];omega
theorem kq (i:Nat)(e:EL)(t:TR)(h:i<t.size):(TR.set i e t).size=t.size:=by
 rw[←TR.els_len,TR.els_set i e t h,List.length_set,TR.els_len]
theorem zl:∀(t:TR)(i:Nat)(e:EL),t.size≤800000→i≤t.size→Cv 301 [.d t.d,iv i,elv e] (.d (TR.ins i e t).d)
 |.nil,i,e,_,_=>by
  refine ab Tryz.f301 Tryz.func301 rfl rfl fun w H B g0=>?_
  (repeat (first|refine Spl.t rfl ?_|refine Spl.f rfl ?_))
  refine aa (dv .nil .nil e (by simp[TR.size])) (fun _ _=>rfl) rfl rfl rfl ?_
  exact FinP.open rfl rfl
 |.node l x r,i,e,hs,hi=>by
  simp only[TR.size]at hs hi
  have c1:decide ((i:Int)≤(l.size:Int))=Nat.ble i l.size:=Cl _ _
  refine ab Tryz.f301 Tryz.func301 rfl rfl fun w H B g0=>?_
  (repeat (first|refine Spl.t rfl ?_|refine Spl.f rfl ?_))
  refine aa (dr l) (fun _ _=>rfl) rfl rfl rfl ?_
  refine Spl.of (fun h=>?_) (fun h=>?_)
  ·have h:=c1.symm.trans h
   have h1:=Nat.le_of_ble_eq_true h
   have hz:=kr i e l h1
   have ht:TR.ins i e (.node l x r)=TR.bal (TR.ins i e l) x r:=by rw[TR.ins,h]
   rw[ht]
   (repeat (first|refine Spl.t rfl ?_|refine Spl.f rfl ?_))
   refine RegP.of rfl (by decide+kernel) ?_
   refine QuietP.of (QJ.call (zl l i e (by omega) h1) (fun _ _=>rfl) rfl rfl) ?_
   refine QuietP.of (QJ.call (Dt (TR.ins i e l) r x (by omega)) (fun _ _=>rfl) rfl rfl) ?_
   exact FinP.open rfl rfl
  ·have h:=c1.symm.trans h
   have h1:=qb h
   have hz:=kr (i-l.size-1) e r (by omega)
   have ht:TR.ins i e (.node l x r)=TR.bal l x (TR.ins (i-l.size-1) e r):=by rw[TR.ins,h]
   have e1:IntKind.i64.wrap (IntKind.i64.wrap ((i:Int)-(l.size:Int))-1)=((i-l.size-1:Nat):Int):=by
    rw[ah ((i:Int)-(l.size:Int)) (by omega) (by omega),ah _ (by omega) (by omega)];omega
   rw[ht]
   (repeat (first|refine Spl.t rfl ?_|refine Spl.f rfl ?_))
   refine RegP.of rfl (by decide+kernel) ?_
   refine QuietP.of (QJ.call (dr l) (fun _ _=>rfl) rfl rfl) ?_
   refine QuietP.of (QJ.call (zl r (i-l.size-1) e (by omega) (by omega)) (fun _ _=>rfl) (by rw[←e1];rfl) rfl) ?_
   refine QuietP.of (QJ.call (Dt l (TR.ins (i-l.size-1) e r) x (by omega)) (fun _ _=>rfl) rfl rfl) ?_
   exact FinP.open rfl rfl
theorem yA:∀(t:TR)(i:Nat)(e:EL),t.size≤800000→i<t.size→Cv 299 [.d t.d,iv i,elv e] (.d (TR.set i e t).d)
 |.nil,i,e,_,hi=>by simp[TR.size]at hi
 |.node l x r,i,e,hs,hi=>by
  simp only[TR.size]at hs hi
  have c1:decide ((i:Int)<(l.size:Int))=Nat.blt i l.size:=jD _ _
  have c2:decide ((i:Int)>(l.size:Int))=Nat.blt l.size i:=jD _ _
  refine ab Tryz.f299 Tryz.func299 rfl rfl fun w H B g0=>?_
  (repeat (first|refine Spl.t rfl ?_|refine Spl.f rfl ?_))
  refine aa (dr l) (fun _ _=>rfl) rfl rfl rfl ?_
  refine Spl.of (fun h=>?_) (fun h=>?_)
  ·have h:=c1.symm.trans h
   have h1:=dl h
   have hz:=kq i e l h1
   have ht:TR.set i e (.node l x r)=.node (TR.set i e l) x r:=by rw[TR.set,h]
   rw[ht]
   (repeat (first|refine Spl.t rfl ?_|refine Spl.f rfl ?_))
   refine RegP.of rfl (by decide+kernel) ?_
   refine QuietP.of (QJ.call (yA l i e (by omega) h1) (fun _ _=>rfl) rfl rfl) ?_
   refine QuietP.of (QJ.call (dv (TR.set i e l) r x (by omega)) (fun _ _=>rfl) rfl rfl) ?_
   exact FinP.open rfl rfl
  ·have h:=c1.symm.trans h
   have h1:=dF h
   refine Spl.of (fun h3=>?_) (fun h3=>?_)
   ·have h3:=c2.symm.trans h3
    have h4:=dl h3
    have hz:=kq (i-l.size-1) e r (by omega)
    have ht:TR.set i e (.node l x r)=.node l x (TR.set (i-l.size-1) e r):=by rw[TR.set,h,h3]
    have e1:IntKind.i64.wrap (IntKind.i64.wrap ((i:Int)-(l.size:Int))-1)=((i-l.size-1:Nat):Int):=by
     rw[ah ((i:Int)-(l.size:Int)) (by omega) (by omega),ah _ (by omega) (by omega)];omega
    rw[ht]
    (repeat (first|refine Spl.t rfl ?_|refine Spl.f rfl ?_))
    refine RegP.of rfl (by decide+kernel) ?_
    refine QuietP.of (QJ.call (yA r (i-l.size-1) e (by omega) (by omega)) (fun _ _=>rfl) (by rw[←e1];rfl) rfl) ?_
    refine QuietP.of (QJ.call (dv l (TR.set (i-l.size-1) e r) x (by omega)) (fun _ _=>rfl) rfl rfl) ?_
    exact FinP.open rfl rfl
   ·have h3:=c2.symm.trans h3
    have ht:TR.set i e (.node l x r)=.node l e r:=by rw[TR.set,h,h3]
    rw[ht]
    (repeat (first|refine Spl.t rfl ?_|refine Spl.f rfl ?_))
    refine RegP.of rfl (by decide+kernel) ?_
    refine QuietP.of (QJ.call (dv l r e (by omega)) (fun _ _=>rfl) rfl rfl) ?_
    exact FinP.open rfl rfl
end Go.Proofs.E
namespace Go.Proofs.E
abbrev tv (t:TR):AV:=.agg [.d t.d]
theorem kd (t:TR):Cv 198 [tv t] (iv t.size):=by
 refine ab Tryz.f198 Tryz.func198 rfl rfl fun w H B g0=>?_
 refine aa (dr t) (fun _ _=>rfl) rfl rfl rfl ?_
 exact FinP.open rfl rfl
theorem tj (t:TR):Cv 234 [tv t] (iv t.live):=by
 refine ab Tryz.f234 Tryz.func234 rfl rfl fun w H B g0=>?_
 refine aa (nU t) (fun _ _=>rfl) rfl rfl rfl ?_
 exact FinP.open rfl rfl
def hasT (t:TR)(i:Int):Bool:=decide (0≤i∧i<t.size)
theorem Do (t:TR)(i:Int):Cv 266 [tv t,iv i] (bv (hasT t i)):=by
 refine ab Tryz.f266 Tryz.func266 rfl rfl fun w H B g0=>?_
 refine Spl.of (fun h=>?_) (fun h=>?_)
 ·have h0:0≤i:=of_decide_eq_true h
  (repeat (first|refine Spl.t rfl ?_|refine Spl.f rfl ?_))
  refine aa (kd t) (fun _ _=>rfl) rfl rfl rfl ?_
  (repeat (first|refine Spl.t rfl ?_|refine Spl.f rfl ?_))
  refine FinP.open rfl (congrArg bv ?_)
  unfold hasT
  exact decide_eq_decide.2 ⟨fun h=>⟨h0,h⟩,fun h=>h.2⟩
 ·have h0:¬0≤i:=of_decide_eq_false h
  (repeat (first|refine Spl.t rfl ?_|refine Spl.f rfl ?_))
  refine FinP.open rfl (congrArg bv ?_)
  unfold hasT
  exact(decide_eq_false fun h=>h0 h.1).symm
def j5 (t:TR)(i:Int)(e:EL):TR:=if 0≤i∧i≤t.size then TR.ins i.toNat e t else t
def vC (t:TR)(i:Int):Bool:=decide (0≤i∧i≤t.size)
theorem lp (t:TR)(i:Int)(e:EL)(hs:t.size≤800000):Cv 289 [tv t,iv i,elv e] (.tup [tv (j5 t i e),bv (vC t i)]):=by
 refine ab Tryz.f289 Tryz.func289 rfl rfl fun w H B g0=>?_
 refine Spl.of (fun h=>?_) (fun h=>?_)
 ·have h0:i<0:=of_decide_eq_true h
  (repeat (first|refine Spl.t rfl ?_|refine Spl.f rfl ?_))
  refine FinP.open rfl ?_
  rw[j5,if_neg (by omega),vC,decide_eq_false (by omega)];rfl
 ·have h0:¬i<0:=of_decide_eq_false h
  (repeat (first|refine Spl.t rfl ?_|refine Spl.f rfl ?_))
  refine aa (kd t) (fun _ _=>rfl) rfl rfl rfl ?_
  (repeat (first|refine Spl.t rfl ?_|refine Spl.f rfl ?_))
  refine Spl.of (fun h1=>?_) (fun h1=>?_)
  ·have h1:i>(t.size:Int):=of_decide_eq_true h1
   (repeat (first|refine Spl.t rfl ?_|refine Spl.f rfl ?_))
   refine FinP.open rfl ?_
   rw[j5,if_neg (by omega),vC,decide_eq_false (by omega)];rfl
  ·have h1:¬i>(t.size:Int):=of_decide_eq_false h1
   obtain⟨k,rfl⟩:=Int.eq_ofNat_of_zero_le (show 0≤i by omega)
   (repeat (first|refine Spl.t rfl ?_|refine Spl.f rfl ?_))
   refine aa (zl t k e hs (by omega)) (fun _ _=>rfl) rfl rfl rfl ?_
   (repeat (first|refine Spl.t rfl ?_|refine Spl.f rfl ?_))
   refine FinP.open rfl ?_
   rw[j5,if_pos (by omega),vC,decide_eq_true (by omega)];rfl
def rS (t:TR)(i:Int)(e:EL):TR:=if hasT t i=true then TR.set i.toNat e t else t
theorem oj {t:TR}{i:Int}(h:hasT t i=true):0≤i∧i<t.size:=of_decide_eq_true h
theorem zn {t:TR}{i:Int}(h:hasT t i=false):¬(0≤i∧i<t.size):=of_decide_eq_false h
theorem Gc (t:TR)(i:Int)(e:EL)(hs:t.size≤800000):Cv 285 [tv t,iv i,elv e] (.tup [tv (rS t i e),bv (hasT t i)]):=by
 refine ab Tryz.f285 Tryz.func285 rfl rfl fun w H B g0=>?_
 refine aa (Do t i) (fun _ _=>rfl) rfl rfl rfl ?_
 refine Spl.of (fun h=>?_) (fun h=>?_)
 ·have h0:hasT t i=false:=by simpa using h
  (repeat (first|refine Spl.t rfl ?_|refine Spl.f rfl ?_))
  refine FinP.open rfl ?_
  rw[rS,if_neg (by rw[h0];decide),h0];rfl
 ·have h0:hasT t i=true:=by simpa using h
  obtain⟨h1,h2⟩:=oj h0
  obtain⟨k,rfl⟩:=Int.eq_ofNat_of_zero_le h1
  (repeat (first|refine Spl.t rfl ?_|refine Spl.f rfl ?_))
  refine aa (yA t k e hs (by omega)) (fun _ _=>rfl) rfl rfl rfl ?_
  (repeat (first|refine Spl.t rfl ?_|refine Spl.f rfl ?_))
  refine FinP.open rfl ?_
  rw[rS,if_pos h0,h0];rfl
def EL0:EL:=⟨⟨0,0⟩,0,false⟩
def atT (t:TR)(i:Int):Option EL:=if 0≤i then t.els[i.toNat]? else none
def atv:Option EL→AV
 |some e=>.tup [elv e,bv true]
 |none=>.tup [elv EL0,bv false]
theorem C7 (t:TR)(i:Int)(hs:t.size≤800000):Cv 239 [tv t,iv i] (atv (atT t i)):=by
 refine ab Tryz.f239 Tryz.func239 rfl rfl fun w H B g0=>?_
 refine aa (Do t i) (fun _ _=>rfl) rfl rfl rfl ?_
 refine Spl.of (fun h=>?_) (fun h=>?_)
 ·have h0:hasT t i=false:=by simpa using h
  have h1:=zn h0
  (repeat (first|refine Spl.t rfl ?_|refine Spl.f rfl ?_))
  refine FinP.open rfl ?_
  have:atT t i=none:=by
   unfold atT
   split
   ·rw[List.getElem?_eq_none (by rw[TR.els_len];omega)]
   ·rfl
  rw[this];rfl
 ·have h0:hasT t i=true:=by simpa using h
  obtain⟨h1,h2⟩:=oj h0
  obtain⟨k,rfl⟩:=Int.eq_ofNat_of_zero_le h1
  (repeat (first|refine Spl.t rfl ?_|refine Spl.f rfl ?_))
  refine ax (V:=TR×Nat) (fun v=>[(6,.d v.1.d),(1,iv v.2)]) (fun _=>[]) [] (fun v=>v.1.size) (fun v=>v.2<v.1.size∧v.1.size≤800000∧v.1.els[v.2]?=t.els[k]?) (t,k) ⟨by simp only;omega,hs,rfl⟩ (by repeat' (first|exact trivial|exact rfl|refine And.intro ?_ ?_)) (by repeat' (first|exact trivial|exact rfl|refine And.intro ?_ ?_)) ?_
  rintro⟨n,j⟩ ⟨hj,hn,he⟩
  simp only at hj hn he
  cases n with
  |nil=>simp[TR.size]at hj
  |node l x r=>
   have hll:=TR.els_len l
   simp only[TR.size]at hj hn
   refine aa (dr l) (fun _ _=>rfl) rfl rfl rfl ?_
   refine Spl.of (fun h3=>?_) (fun h3=>?_)
   ·have h3:¬(j:Int)=(l.size:Int):=by simpa using h3
    (repeat (first|refine Spl.t rfl ?_|refine Spl.f rfl ?_))
    refine aa (dr l) (fun _ _=>rfl) rfl rfl rfl ?_
    refine Spl.of (fun h4=>?_) (fun h4=>?_)
    ·have h4:(j:Int)<(l.size:Int):=of_decide_eq_true h4
     (repeat (first|refine Spl.t rfl ?_|refine Spl.f rfl ?_))
     refine⟨(l,j),⟨by simp only;omega,by simp only;omega,?_⟩,by simp only[TR.size];omega,(by repeat' (first|exact trivial|exact rfl|refine And.intro ?_ ?_)),(by repeat' (first|exact trivial|exact rfl|refine And.intro ?_ ?_)),(by repeat' (first|exact trivial|exact rfl|refine And.intro ?_ ?_)),(by repeat' (first|exact trivial|exact rfl|refine And.intro ?_ ?_))⟩
     rw[←he,TR.els,List.getElem?_append_left (by omega)]
    ·have h4:¬(j:Int)<(l.size:Int):=of_decide_eq_false h4
     have e1:IntKind.i64.wrap (IntKind.i64.wrap ((j:Int)-(l.size:Int))-1)=((j-l.size-1:Nat):Int):=by
      rw[ah ((j:Int)-(l.size:Int)) (by omega) (by omega),ah _ (by omega) (by omega)];omega
     (repeat (first|refine Spl.t rfl ?_|refine Spl.f rfl ?_))
     refine RegP.of rfl (by decide+kernel) ?_
     refine QuietP.of (QJ.call (dr l) (fun _ _=>rfl) rfl rfl) ?_
     refine⟨(r,j-l.size-1),⟨by simp only;omega,by simp only;omega,?_⟩,by simp only[TR.size];omega,⟨rfl,ao e1,trivial⟩,(by repeat' (first|exact trivial|exact rfl|refine And.intro ?_ ?_)),(by repeat' (first|exact trivial|exact rfl|refine And.intro ?_ ?_)),(by repeat' (first|exact trivial|exact rfl|refine And.intro ?_ ?_))⟩
     rw[←he,TR.els,List.getElem?_append_right (by omega),hll]
     obtain⟨m,hm⟩:∃m,j=l.size+(m+1):=⟨j-l.size-1,by omega⟩
     subst hm
     rw[show l.size+(m+1)-l.size-1=m by omega,show l.size+(m+1)-l.size=m+1 by omega,List.getElem?_cons_succ]
   ·have h3:(j:Int)=(l.size:Int):=by simpa using h3
    have h4:j=l.size:=by omega
    subst h4
    have:atT t ((k:Nat):Int)=some x:=by
     unfold atT
     rw[if_pos (by omega),Int.toNat_natCast,←he,TR.els,List.getElem?_append_right (by omega),hll,Nat.sub_self];rfl
    rw[this]
    (repeat (first|refine Spl.t rfl ?_|refine Spl.f rfl ?_))
    exact FinP.open rfl rfl
def bx (L:List EL)(i:Int):Nat:=((L.take i.toNat).filter fun e=>!e.dead).length
theorem wQ (A B:List EL)(i:Int)(h:i≤A.length):bx (A++B) i=bx A i:=by
 unfold bx;rw[List.take_append_of_le_length (by omega)]
theorem tX (A:List EL)(x:EL)(B:List EL)(i:Int)(h:(A.length:Int)<i):bx (A++x::B) i=(A.filter fun e=>!e.dead).length+TR.one x+bx B (i-A.length-1):=by
 unfold bx
 obtain⟨m,rfl⟩:=Int.eq_ofNat_of_zero_le (show 0≤i-A.length-1 by omega) |>.imp fun m hm=>show i=((A.length+(m+1):Nat):Int)by omega
 rw[Int.toNat_natCast,List.take_length_add_append,List.take_succ_cons,List.filter_append,List.length_append,List.filter_cons,show(((A.length+(m+1):Nat):Int)-A.length-1).toNat=m by omega,TR.one]
 cases x.dead with
 |true=>simp
 |false=>simp;omega
theorem uS (t:TR)(i:Int)(hs:t.size≤800000)(h0:-9223372036854775808≤i)(h1:i≤9223372036854775807):Cv 246 [tv t,iv i] (iv (bx t.els i)):=by
 refine ab Tryz.f246 Tryz.func246 rfl rfl fun w H B g0=>?_
 refine ax (V:=TR×Int×Nat) (fun v=>[(6,.d v.1.d),(1,iv v.2.1),(5,iv v.2.2)]) (fun _=>[]) [] (fun v=>v.1.size) (fun v=>v.1.size≤800000∧-9223372036854775808≤v.2.1∧v.2.1≤9223372036854775807∧v.2.2+v.1.live≤t.size∧v.2.2+bx v.1.els v.2.1=bx t.els i) (t,i,0) ⟨hs,h0,h1,by simp only[Nat.zero_add];exact t.live_le,by simp⟩ (by repeat' (first|exact trivial|exact rfl|refine And.intro ?_ ?_)) (by repeat' (first|exact trivial|exact rfl|refine And.intro ?_ ?_)) ?_
 rintro⟨n,j,m⟩ ⟨hn,hj0,hj1,hm,he⟩
 simp only at hn hj0 hj1 hm he
 cases n with
 |nil=>
  (repeat (first|refine Spl.t rfl ?_|refine Spl.f rfl ?_))
  refine FinP.open rfl (congrArg iv ?_)
  rw[←he];simp[bx,TR.els]
 |node l x r=>
  have hll:=TR.els_len l
  simp only[TR.size]at hn
  simp only[TR.live]at hm
  have hlv:=l.live_eq
  (repeat (first|refine Spl.t rfl ?_|refine Spl.f rfl ?_))
  refine aa (dr l) (fun _ _=>rfl) rfl rfl rfl ?_
  refine Spl.of (fun h2=>?_) (fun h2=>?_)
  ·have h2:j≤(l.size:Int):=of_decide_eq_true h2
   (repeat (first|refine Spl.t rfl ?_|refine Spl.f rfl ?_))
   refine⟨(l,j,m),⟨by simp only;omega,hj0,hj1,by simp only;omega,?_⟩,by simp only[TR.size];omega,(by repeat' (first|exact trivial|exact rfl|refine And.intro ?_ ?_)),(by repeat' (first|exact trivial|exact rfl|refine And.intro ?_ ?_)),(by repeat' (first|exact trivial|exact rfl|refine And.intro ?_ ?_)),(by repeat' (first|exact trivial|exact rfl|refine And.intro ?_ ?_))⟩
   rw[←he,TR.els,wQ _ _ _ (by omega)]
  ·have h2:¬j≤(l.size:Int):=of_decide_eq_false h2
   (repeat (first|refine Spl.t rfl ?_|refine Spl.f rfl ?_))
   refine RegP.of rfl (by decide+kernel) ?_
   refine QuietP.of (QJ.call (nU l) (fun _ _=>rfl) rfl rfl) ?_
   refine QuietP.of (QJ.call (vj x) (fun _ _=>rfl) rfl rfl) ?_
   have e1:IntKind.i64.wrap (IntKind.i64.wrap (j-(l.size:Int))-1)=j-(l.size:Int)-1:=by
    rw[ah (j-(l.size:Int)) (by omega) (by omega),ah _ (by omega) (by omega)]
   have e2:IntKind.i64.wrap ((m:Int)+IntKind.i64.wrap ((l.live:Int)+(TR.one x:Int)))=((m+(l.live+TR.one x):Nat):Int):=by
    rw[ah ((l.live:Int)+(TR.one x:Int)) (by omega) (by omega),ah _ (by omega) (by omega)];omega
   refine⟨(r,j-(l.size:Int)-1,m+(l.live+TR.one x)),⟨by simp only;omega,by simp only;omega,by simp only;omega,by simp only;omega,?_⟩,by simp only[TR.size];omega,⟨rfl,ao e1,ao e2,trivial⟩,(by repeat' (first|exact trivial|exact rfl|refine And.intro ?_ ?_)),(by repeat' (first|exact trivial|exact rfl|refine And.intro ?_ ?_)),(by repeat' (first|exact trivial|exact rfl|refine And.intro ?_ ?_))⟩
   simp only
   rw[←he,TR.els,tX _ _ _ _ (by omega),←hlv,hll];omega
def cw:Nat→List EL→Nat
 |_,[]=>0
 |k,e::r=>if e.dead=true then cw k r+1 else if k=0 then 0 else cw (k-1) r+1
def aW (L:List EL):Nat:=(L.filter fun e=>!e.dead).length
theorem gN (e:EL)(L:List EL):aW (e::L)=TR.one e+aW L:=by
 unfold aW TR.one;rw[List.filter_cons]
 cases e.dead with
 |true=>simp
 |false=>simp;omega
theorem iP (e:EL):TR.one e=if e.dead=true then 0 else 1:=by unfold TR.one;cases e.dead<;>rfl
theorem nv:∀(A B:List EL)(k:Nat),k<aW A→cw k (A++B)=cw k A
 |[],B,k,h=>by simp[aW]at h
 |e::A,B,k,h=>by
  rw[gN,iP]at h
  rw[List.cons_append,cw,cw]
  by_cases hd:e.dead=true
  ·rw[if_pos hd]at h;rw[if_pos hd,if_pos hd,nv A B k (by omega)]
  ·rw[if_neg hd]at h;rw[if_neg hd,if_neg hd]
   by_cases hk:k=0
   ·rw[if_pos hk,if_pos hk]
   ·rw[if_neg hk,if_neg hk,nv A B (k-1) (by omega)]
theorem jo:∀(A B:List EL)(k:Nat),aW A≤k→cw k (A++B)=A.length+cw (k-aW A) B
 |[],B,k,h=>by simp[aW]
 |e::A,B,k,h=>by
  rw[gN,iP]at h
  rw[gN,iP,List.cons_append,cw,List.length_cons]
  by_cases hd:e.dead=true
  ·rw[if_pos hd]at h
   rw[if_pos hd,if_pos hd,jo A B k (by omega),Nat.zero_add];omega
  ·rw[if_neg hd]at h
   rw[if_neg hd,if_neg hd,if_neg (by omega),jo A B (k-1) (by omega),show k-1-aW A=k-(1+aW A)by omega];omega
theorem ly:∀(L:List EL)(k:Nat),k<aW L→cw k L<L.length
 |[],k,h=>by simp[aW]at h
 |e::L,k,h=>by
  rw[gN,iP]at h
  rw[cw,List.length_cons]
  by_cases hd:e.dead=true
  ·rw[if_pos hd]at h;rw[if_pos hd];have:=ly L k (by omega);omega
  ·rw[if_neg hd]at h;rw[if_neg hd]
   split
   ·omega
   ·have:=ly L (k-1) (by omega);omega
theorem nT (t:TR):t.live=aW t.els:=t.live_eq
def tS (t:TR)(k:Int):Nat:=if 0≤k∧k<t.live then cw k.toNat t.els else t.size
def pA (t:TR)(k:Int):Bool:=decide (0≤k∧k<t.live)
theorem tn (t:TR)(k:Int)(hs:t.size≤800000):Cv 238 [tv t,iv k] (.tup [iv (tS t k),bv (pA t k)]):=by
 refine ab Tryz.f238 Tryz.func238 rfl rfl fun w H B g0=>?_
 refine Spl.of (fun h=>?_) (fun h=>?_)
 ·have h0:k<0:=of_decide_eq_true h
  (repeat (first|refine Spl.t rfl ?_|refine Spl.f rfl ?_))
  refine aa (kd t) (fun _ _=>rfl) rfl rfl rfl ?_
  refine FinP.open rfl ?_
  rw[tS,if_neg (by omega),pA,decide_eq_false (by omega)];rfl
 ·have h0:¬k<0:=of_decide_eq_false h
  (repeat (first|refine Spl.t rfl ?_|refine Spl.f rfl ?_))
  refine aa (tj t) (fun _ _=>rfl) rfl rfl rfl ?_
  (repeat (first|refine Spl.t rfl ?_|refine Spl.f rfl ?_))
  refine Spl.of (fun h1=>?_) (fun h1=>?_)
  ·have h1:(t.live:Int)≤k:=of_decide_eq_true h1
   (repeat (first|refine Spl.t rfl ?_|refine Spl.f rfl ?_))
   refine aa (kd t) (fun _ _=>rfl) rfl rfl rfl ?_
   refine FinP.open rfl ?_
   rw[tS,if_neg (by omega),pA,decide_eq_false (by omega)];rfl
  ·have h1:¬(t.live:Int)≤k:=of_decide_eq_false h1
   obtain⟨k,rfl⟩:=Int.eq_ofNat_of_zero_le (show 0≤k by omega)
   (repeat (first|refine Spl.t rfl ?_|refine Spl.f rfl ?_))
   refine ax (V:=TR×Nat×Nat) (fun v=>[(7,.d v.1.d),(1,iv v.2.1),(6,iv v.2.2)]) (fun _=>[]) [] (fun v=>v.1.size) (fun v=>v.1.size≤800000∧v.2.1<v.1.live∧v.2.2+v.1.size≤t.size∧v.2.2+cw v.2.1 v.1.els=cw k t.els) (t,k,0) ⟨hs,by simp only;omega,by simp,by simp⟩ (by repeat' (first|exact trivial|exact rfl|refine And.intro ?_ ?_)) (by repeat' (first|exact trivial|exact rfl|refine And.intro ?_ ?_)) ?_
   rintro⟨n,j,m⟩ ⟨hn,hj,hm,he⟩
   simp only at hn hj hm he
   cases n with
   |nil=>simp[TR.live]at hj
   |node l x r=>
    have hll:=TR.els_len l
    have hlv:=nT l
    have hle:=l.live_le
    have hre:=r.live_le
    have hone:TR.one x≤1:=by rw[iP];split<;>omega
    simp only[TR.size]at hn hm
    simp only[TR.live]at hj
    rw[TR.els]at he
    have hfin:j=l.live→x.dead=false→tS t (k:Int)=m+l.size:=fun h1 h2=>by
     rw[tS,if_pos (by omega),Int.toNat_natCast,←he,jo _ _ _ (by omega),cw,if_neg (by rw[h2];decide),if_pos (by omega),hll];rfl
    have hok:pA t (k:Int)=true:=by rw[pA,decide_eq_true (by omega)]
    have hgo:l.live<j∨j=l.live∧x.dead=true→TR.one x+l.live≤j∧j-(l.live+TR.one x)<r.live∧m+l.size+1+cw (j-(l.live+TR.one x)) r.els=cw k t.els:=fun h=>by
     rw[←he,jo _ _ _ (by omega),cw,hll]
     rw[iP]at hj ⊢
     by_cases hd:x.dead=true
     ·rw[if_pos hd]at hj
      rw[if_pos hd,if_pos hd,show j-aW l.els=j-(l.live+0)by omega]
      exact⟨by omega,by omega,by omega⟩
     ·rw[if_neg hd]at hj
      have hlt:l.live<j:=by
       rcases h with h|⟨_,h⟩
       ·exact h
       ·exact absurd h hd
      rw[if_neg hd,if_neg hd,if_neg (by omega),show j-aW l.els-1=j-(l.live+1)by omega]
      exact⟨by omega,by omega,by omega⟩
    have e2:IntKind.i64.wrap ((m:Int)+IntKind.i64.wrap ((l.size:Int)+1))=((m+l.size+1:Nat):Int):=by
     rw[ah ((l.size:Int)+1) (by omega) (by omega),ah _ (by omega) (by omega)];omega
    have e3:TR.one x+l.live≤j→IntKind.i64.wrap ((j:Int)-IntKind.i64.wrap ((l.live:Int)+(TR.one x:Int)))=((j-(l.live+TR.one x):Nat):Int):=fun h=>by
     rw[ah ((l.live:Int)+(TR.one x:Int)) (by omega) (by omega),ah _ (by omega) (by omega)];omega
    (repeat (first|refine Spl.t rfl ?_|refine Spl.f rfl ?_))
    refine aa (nU l) (fun _ _=>rfl) rfl rfl rfl ?_
    refine Spl.of (fun h2=>?_) (fun h2=>?_)
    ·have h2:(j:Int)<(l.live:Int):=of_decide_eq_true h2
     (repeat (first|refine Spl.t rfl ?_|refine Spl.f rfl ?_))
     refine⟨(l,j,m),⟨by simp only;omega,by simp only;omega,by simp only;omega,?_⟩,by simp only[TR.size];omega,(by repeat' (first|exact trivial|exact rfl|refine And.intro ?_ ?_)),(by repeat' (first|exact trivial|exact rfl|refine And.intro ?_ ?_)),(by repeat' (first|exact trivial|exact rfl|refine And.intro ?_ ?_)),(by repeat' (first|exact trivial|exact rfl|refine And.intro ?_ ?_))⟩
     simp only
     rw[←he,nv _ _ _ (by omega)]
    ·have h2:¬(j:Int)<(l.live:Int):=of_decide_eq_false h2
     refine Spl.of (fun h3=>?_) (fun h3=>?_)
     ·have h3:(j:Int)=(l.live:Int):=of_decide_eq_true h3
      obtain⟨xi,xc,xd⟩:=x
      cases xd with
      |false=>
       (repeat (first|refine Spl.t rfl ?_|refine Spl.f rfl ?_))
       refine aa (dr l) (fun _ _=>rfl) rfl rfl rfl ?_
       refine FinP.open rfl ?_
       rw[hok,hfin (by omega) rfl,←show IntKind.i64.wrap ((m:Int)+(l.size:Int))=((m+l.size:Nat):Int)by rw[ah _ (by omega) (by omega)];omega]
       rfl
      |true=>
       obtain⟨g1,g0,g2⟩:=hgo (.inr ⟨by omega,rfl⟩)
       (repeat (first|refine Spl.t rfl ?_|refine Spl.f rfl ?_))
       refine aa (dr l) (fun _ _=>rfl) rfl rfl rfl ?_
       refine aa (vj ⟨xi,xc,true⟩) (fun _ _=>rfl) rfl rfl rfl ?_
       refine⟨(r,j-(l.live+TR.one ⟨xi,xc,true⟩),m+l.size+1),⟨by simp only;omega,g0,by simp only;omega,g2⟩,by simp only[TR.size];omega,⟨rfl,ao (e3 g1),ao e2,trivial⟩,(by repeat' (first|exact trivial|exact rfl|refine And.intro ?_ ?_)),(by repeat' (first|exact trivial|exact rfl|refine And.intro ?_ ?_)),(by repeat' (first|exact trivial|exact rfl|refine And.intro ?_ ?_))⟩
     ·have h3:¬(j:Int)=(l.live:Int):=of_decide_eq_false h3
      obtain⟨g1,g0,g2⟩:=hgo (.inl (by omega))
      (repeat (first|refine Spl.t rfl ?_|refine Spl.f rfl ?_))
      refine aa (dr l) (fun _ _=>rfl) rfl rfl rfl ?_
      refine aa (vj x) (fun _ _=>rfl) rfl rfl rfl ?_
      refine⟨(r,j-(l.live+TR.one x),m+l.size+1),⟨by simp only;omega,g0,by simp only;omega,g2⟩,by simp only[TR.size];omega,⟨rfl,ao (e3 g1),ao e2,trivial⟩,(by repeat' (first|exact trivial|exact rfl|refine And.intro ?_ ?_)),(by repeat' (first|exact trivial|exact rfl|refine And.intro ?_ ?_)),(by repeat' (first|exact trivial|exact rfl|refine And.intro ?_ ?_))⟩
end Go.Proofs.E
namespace Go.Proofs.E
abbrev Du (n:Int):List D:=[.v (.int .u8 n)]
theorem nc (x:Int)(h:0≤x)(h':x<4294967296):IntKind.u32.wrap x=x:=by
 simp only[IntKind.wrap,IntKind.signed,IntKind.bits];simp;omega
theorem pq (x:Int)(h:-2147483648≤x)(h':x<0):IntKind.u32.wrap x=x+4294967296:=by
 simp only[IntKind.wrap,IntKind.signed,IntKind.bits];simp;omega
theorem fp (x:Int):IntKind.u8.wrap x=x % 256:=by
 simp only[IntKind.wrap,IntKind.signed,IntKind.bits];simp
theorem FO:∀k:Fin 32,orI .u8 192 (k.val:Int)=192+k.val:=by decide
theorem FN:∀k:Fin 16,orI .u8 224 (k.val:Int)=224+k.val:=by decide
theorem FM:∀k:Fin 8,orI .u8 240 (k.val:Int)=240+k.val:=by decide
theorem FP:∀k:Fin 64,orI .u8 128 (k.val:Int)=128+k.val:=by decide
theorem F8:∀k:Fin 256,oW .u8 (k.val:Int) 63=((k.val % 64:Nat):Int):=by decide+kernel
theorem vb (r:Int)(k:Nat)(h0:0≤r)(hk:k<32):jL .i32 r ((k:Nat):Int)=r/2^k:=by
 unfold jL
 have e:min ((k:Nat):Int).toNat IntKind.i32.bits=k:=by
  show min ((k:Nat):Int).toNat 32=k
  simp;omega
 rw[e,Int.fdiv_eq_ediv_of_nonneg _ (Int.pow_nonneg (by decide))]
theorem Eh (b:Int)(m:Nat)(r:Int)(k:Nat)(hor:∀j:Fin m,orI .u8 b (j.val:Int)=b+j.val)(h0:0≤r)(hr:r≤2147483647)(hk:k<32)(hm:m≤256)(h:r/2^k<m):orI .u8 b (IntKind.u8.wrap (jL .i32 r ((k:Nat):Int)))=b+r/2^k:=by
 have h1:0≤r/2^k:=Int.ediv_nonneg h0 (Int.pow_nonneg (by decide))
 rw[vb r k h0 hk,fp,Int.emod_eq_of_lt h1 (by omega)]
 have:=hor ⟨(r/2^k).toNat,by omega⟩
 simp only at this
 rw[Int.toNat_of_nonneg h1]at this
 exact this
theorem Da (r:Int)(h0:0≤r):orI .u8 128 (oW .u8 (IntKind.u8.wrap r) 63)=128+r % 64:=by
 have h1:=F8 ⟨(r % 256).toNat,by omega⟩
 simp only at h1
 rw[Int.toNat_of_nonneg (by omega)]at h1
 rw[fp,h1]
 have h2:=FP ⟨(r % 256).toNat % 64,by omega⟩
 simp only at h2
 rw[h2];omega
theorem C9 (r:Int)(k:Nat)(h0:0≤r)(hr:r≤2147483647)(hk:k<32):orI .u8 128 (oW .u8 (IntKind.u8.wrap (jL .i32 r ((k:Nat):Int))) 63)=128+r/2^k % 64:=by
 have h1:0≤r/2^k:=Int.ediv_nonneg h0 (Int.pow_nonneg (by decide))
 have h2:r/2^k≤r:=Int.ediv_le_self _ h0
 rw[vb r k h0 hk,Da _ h1]
abbrev jV (xs:List Int):Ent:=.arrT 5 1 (xs.map Du)
theorem fx (xs ys:List Int):Ent.arrT 5 1 (xs.map Du++ys.map Du)=jV (xs++ys):=by rw[jV,List.map_append]
theorem ul {xs:List Int}{n:Nat}(h:xs.length=n):(xs.map Du).length=n:=by rw[List.length_map];exact h
theorem z5 (n:Nat)(xs:List Int)(r:Int)(hr0:-2147483648≤r)(hr1:r≤2147483647)(hn:xs.length=n)(hl:n≤900000000)(hna:¬(0≤r∧r≤127)):
 Ct tab Tryz.prog 262 [.arr 1000 1 n,cv' r] [(1000,jV xs)] (fun q σ'=>q=.arr 1000 1 (n+(Lib.encodeRuneZ r).length)∧σ'=[(1000,jV (xs++Lib.encodeRuneZ r))]):=by
 have hu:IntKind.u32.wrap r=if r<0 then r+4294967296 else r:=by
  split
  ·exact pq r hr0 (by assumption)
  ·exact nc r (by omega) (by omega)
 have a2:0≤r→orI .u8 128 (oW .u8 (IntKind.u8.wrap r) 63)=128+r % 64:=Da r
 have a6:0≤r→orI .u8 128 (oW .u8 (IntKind.u8.wrap (jL .i32 r 6)) 63)=128+r/64 % 64:=fun h=>C9 r 6 h hr1 (by decide)
 have a12:0≤r→orI .u8 128 (oW .u8 (IntKind.u8.wrap (jL .i32 r 12)) 63)=128+r/4096 % 64:=fun h=>C9 r 12 h hr1 (by decide)
 have three:((2048≤r∧r<55296)∨(57343<r∧r≤65535))→orI .u8 224 (IntKind.u8.wrap (jL .i32 r 12))=224+r/4096:=fun h=>Eh 224 16 r 12 FN (by omega) hr1 (by decide) (by decide) (by omega)
 have bad:r<0∨(55296≤r∧r≤57343)∨1114111<r→Lib.encodeRuneZ r=[239,191,189]:=Lib.encodeRuneZ_bad
 refine ab Tryz.f262 Tryz.func262 rfl rfl fun w H B g0=>?_
 refine Spl.of (fun h=>?_) (fun h=>?_)
 ·have h:=of_decide_eq_true h
  rw[hu]at h
  have hr:128≤r∧r≤2047:=by split at h<;>omega
  have e:=Lib.encodeRuneZ_two hr.1 hr.2
  have a1:orI .u8 192 (IntKind.u8.wrap (jL .i32 r 6))=192+r/64:=Eh 192 32 r 6 FO (by omega) hr1 (by decide) (by decide) (by omega)
  have a2:=a2 (by omega)
  (repeat (first|refine Spl.t rfl ?_|refine Spl.f rfl ?_))
  refine Req.of (by decide) ?_
  (refine kg rfl rfl rfl rfl rfl rfl rfl rfl (ul hn) (show n+2≤1000000000 by omega) ?_)
  (refine bg [(1000,jV (xs++Lib.encodeRuneZ r))] (Wk.cons ?_ (Wk.nil _)) rfl ⟨?_,rfl⟩)
  ·rw[e];show some (Ent.arrT _ 1 (xs.map Du++[Du _,Du _]))=_;rw[a1,a2];exact congrArg some (fx xs [_,_])
  ·rw[e];rfl
 ·have h:=of_decide_eq_false h
  rw[hu]at h
  refine Spl.of (fun h2=>?_) (fun h2=>?_)
  ·have h2o:=h2
   have h2:=of_decide_eq_true h2
   rw[hu]at h2
   (repeat (first|refine Spl.t rfl ?_|refine Spl.f rfl ?_))
   refine Spl.t h2o ?_
   have hr:(2048≤r∧r<55296)∨(57343<r∧r≤65535):=by split at h<;>split at h2<;>omega
   (have e:=Lib.encodeRuneZ_three hr;have a1:=three hr;have a2:=a2 (by omega);have a6:=a6 (by omega);(repeat (first|refine Spl.t rfl ?_|refine Spl.f rfl ?_));refine Req.of (by decide) ?_;refine Req.of (by decide) ?_;(refine kg rfl rfl rfl rfl rfl rfl rfl rfl (ul hn) (show n+3≤1000000000 by omega) ?_);(refine bg [(1000,jV (xs++Lib.encodeRuneZ r))] (Wk.cons ?_ (Wk.nil _)) rfl ⟨?_,rfl⟩);(rw[e];show some (Ent.arrT _ 1 (xs.map Du++[Du _,Du _,Du _]))=_;rw[a1,a2,a6];exact congrArg some (fx xs [_,_,_]));(rw[e];rfl))
  ·have h2:=of_decide_eq_false h2
   rw[hu]at h2
   refine Spl.of (fun h3=>?_) (fun h3=>?_)
   ·have h3:=of_decide_eq_true h3
    rw[hu]at h3
    (repeat (first|refine Spl.t rfl ?_|refine Spl.f rfl ?_))
    refine Spl.of (fun h4=>?_) (fun h4=>?_)
    ·have h4:=of_decide_eq_true h4
     rw[hu]at h4
     have hr:(2048≤r∧r<55296)∨(57343<r∧r≤65535):=by split at h<;>split at h2<;>split at h3<;>split at h4<;>omega
     (have e:=Lib.encodeRuneZ_three hr;have a1:=three hr;have a2:=a2 (by omega);have a6:=a6 (by omega);(repeat (first|refine Spl.t rfl ?_|refine Spl.f rfl ?_));refine Req.of (by decide) ?_;refine Req.of (by decide) ?_;(refine kg rfl rfl rfl rfl rfl rfl rfl rfl (ul hn) (show n+3≤1000000000 by omega) ?_);(refine bg [(1000,jV (xs++Lib.encodeRuneZ r))] (Wk.cons ?_ (Wk.nil _)) rfl ⟨?_,rfl⟩);(rw[e];show some (Ent.arrT _ 1 (xs.map Du++[Du _,Du _,Du _]))=_;rw[a1,a2,a6];exact congrArg some (fx xs [_,_,_]));(rw[e];rfl))
    ·have h4:=of_decide_eq_false h4
     rw[hu]at h4
     refine Spl.of (fun h5=>?_) (fun h5=>?_)
     ·have h5:=of_decide_eq_true h5
      rw[hu]at h5
      (repeat (first|refine Spl.t rfl ?_|refine Spl.f rfl ?_))
      refine Spl.of (fun h6=>?_) (fun h6=>?_)
      ·have h6:=of_decide_eq_true h6
       rw[hu]at h6
       have hr:65536≤r∧r≤1114111:=by split at h5<;>split at h6<;>omega
       have e:=Lib.encodeRuneZ_four hr.1 hr.2
       have a1:orI .u8 240 (IntKind.u8.wrap (jL .i32 r 18))=240+r/262144:=Eh 240 8 r 18 FM (by omega) hr1 (by decide) (by decide) (by omega)
       have a2:=a2 (by omega)
       have a6:=a6 (by omega)
       have a12:=a12 (by omega)
       (repeat (first|refine Spl.t rfl ?_|refine Spl.f rfl ?_))
       refine Req.of (by decide) ?_
       refine Req.of (by decide) ?_
       refine Req.of (by decide) ?_
       (refine kg rfl rfl rfl rfl rfl rfl rfl rfl (ul hn) (show n+4≤1000000000 by omega) ?_)
       (refine bg [(1000,jV (xs++Lib.encodeRuneZ r))] (Wk.cons ?_ (Wk.nil _)) rfl ⟨?_,rfl⟩)
       ·rw[e];show some (Ent.arrT _ 1 (xs.map Du++[Du _,Du _,Du _,Du _]))=_;rw[a1,a2,a6,a12];exact congrArg some (fx xs [_,_,_,_])
       ·rw[e];rfl
      ·have h6:=of_decide_eq_false h6
       rw[hu]at h6
       (have e:=bad (by omega);(repeat (first|refine Spl.t rfl ?_|refine Spl.f rfl ?_));(refine kg rfl rfl rfl rfl rfl rfl rfl rfl (ul hn) (show n+3≤1000000000 by omega) ?_);(refine bg [(1000,jV (xs++Lib.encodeRuneZ r))] (Wk.cons ?_ (Wk.nil _)) rfl ⟨?_,rfl⟩);(rw[e];show some (Ent.arrT _ 1 (xs.map Du++[Du _,Du _,Du _]))=_;exact congrArg some (fx xs [_,_,_]));(rw[e];rfl))
     ·have h5:=of_decide_eq_false h5
      rw[hu]at h5
      exfalso;split at h5<;>split at h4<;>omega
   ·have h3:=of_decide_eq_false h3
    rw[hu]at h3
    (repeat (first|refine Spl.t rfl ?_|refine Spl.f rfl ?_))
    have hs:55296≤r∧r≤57343:=by split at h2<;>split at h3<;>omega
    refine Spl.f (decide_eq_false (by rw[hu];split<;>omega)) ?_
    (have e:=bad (by omega);(repeat (first|refine Spl.t rfl ?_|refine Spl.f rfl ?_));(refine kg rfl rfl rfl rfl rfl rfl rfl rfl (ul hn) (show n+3≤1000000000 by omega) ?_);(refine bg [(1000,jV (xs++Lib.encodeRuneZ r))] (Wk.cons ?_ (Wk.nil _)) rfl ⟨?_,rfl⟩);(rw[e];show some (Ent.arrT _ 1 (xs.map Du++[Du _,Du _,Du _]))=_;exact congrArg some (fx xs [_,_,_]));(rw[e];rfl))
theorem s7 (n:Nat)(xs:List Int)(r:Int)(hr0:-2147483648≤r)(hr1:r≤2147483647)(hn:xs.length=n)(hl:n≤900000000):
 Ct tab Tryz.prog 233 [.arr 1000 1 n,cv' r] [(1000,jV xs)] (fun q σ'=>q=.arr 1000 1 (n+(Lib.encodeRuneZ r).length)∧σ'=[(1000,jV (xs++Lib.encodeRuneZ r))]):=by
 refine ab Tryz.f233 Tryz.func233 rfl rfl fun w H B g0=>?_
 refine Spl.of (fun h=>?_) (fun h=>?_)
 ·have h:=of_decide_eq_true h
  have hr:0≤r∧r≤127:=by
   by_cases h2:r<0
   ·rw[pq r hr0 h2]at h;omega
   ·rw[nc r (by omega) (by omega)]at h;omega
  have e:=Lib.encodeRuneZ_one hr.1 hr.2
  have a1:IntKind.u8.wrap r=r:=by rw[fp,Int.emod_eq_of_lt hr.1 (by omega)]
  (repeat (first|refine Spl.t rfl ?_|refine Spl.f rfl ?_))
  (refine kg rfl rfl rfl rfl rfl rfl rfl rfl (ul hn) (show n+1≤1000000000 by omega) ?_)
  (refine bg [(1000,jV (xs++Lib.encodeRuneZ r))] (Wk.cons ?_ (Wk.nil _)) rfl ⟨?_,rfl⟩)
  ·rw[e];show some (Ent.arrT _ 1 (xs.map Du++[Du _]))=_;rw[a1];exact congrArg some (fx xs [_])
  ·rw[e];rfl
 ·have h:=of_decide_eq_false h
  have hr:¬(0≤r∧r≤127):=fun h2=>by rw[nc r (by omega) (by omega)]at h;omega
  (repeat (first|refine Spl.t rfl ?_|refine Spl.f rfl ?_))
  refine OpJ.callD [1000] (z5 n xs r hr0 hr1 hn hl hr) (fun _ _=>rfl) rfl rfl (Wk.cons rfl (Wk.nil _)) ?_
  rintro q σ' ⟨rfl,rfl⟩
  refine⟨rfl,?_⟩
  exact bg [(1000,jV (xs++Lib.encodeRuneZ r))] (Wk.cons rfl (Wk.nil _)) rfl ⟨rfl,rfl⟩
abbrev Cm:Sg:=[(3,.cellsT 319 [.d (.v (.pointer none)),.d (.v (.slice none 0 0))])]
abbrev F4:Sg:=[(3,.cells [.box 3 0,.d (.v (.slice none 0 0))])]
abbrev pl (xs:List Int):Sg:=[(3,.cells [.box 3 0,.arr 1000 1 xs.length]),(1000,jV xs)]
theorem Ci:Ct tab Tryz.prog 232 [.box 3 0] Cm (fun q σ'=>q=.tup []∧σ'=F4):=by
 refine ab Tryz.f232 Tryz.func232 rfl rfl fun w H B g0=>?_
 refine aR (pa rfl rfl rfl rfl rfl) rfl ?_
 (repeat (first|refine Spl.t rfl ?_|refine Spl.f rfl ?_))
 refine aR (uW rfl rfl rfl rfl rfl (show(2:Nat)≠0 by decide) (show 0<2 by decide)) rfl ?_
 refine aR (uX rfl rfl rfl rfl rfl rfl) rfl ?_
 refine aR (rj rfl rfl rfl rfl rfl (by show liesAt Tryz.prog Tryz.prog.depth 319 (2/Tryz.prog.cellsOf 319) 0 319 1=true;kernel_rfl)) rfl ?_
 refine OpJ.shift (xO 3 rfl) (d6 ?_)
 exact bg F4 (Wk.cons rfl (Wk.nil _)) rfl ⟨rfl,rfl⟩
theorem Ch (xs:List Int):Ct tab Tryz.prog 232 [.box 3 0] (pl xs) (fun q σ'=>q=.tup []∧σ'=pl xs):=by
 refine ab Tryz.f232 Tryz.func232 rfl rfl fun w H B g0=>?_
 (repeat (first|refine Spl.t rfl ?_|refine Spl.f rfl ?_))
 refine aR (AD rfl rfl rfl rfl) rfl ?_
 (repeat (first|refine Spl.t rfl ?_|refine Spl.f rfl ?_))
 exact bg (pl xs) (Wk.cons rfl (Wk.cons rfl (Wk.nil _))) rfl ⟨rfl,rfl⟩
end Go.Proofs.E
namespace Go.Proofs.E
theorem wl (r:Int)(n:Nat)(hn:n≤900000000):AV.tup [iv (Lib.encodeRuneZ r).length,.d (.v .nilIface)]=AV.tup [iv (IntKind.i64.wrap (((n+(Lib.encodeRuneZ r).length:Nat):Int)-(n:Int))),.d (.v .nilIface)]:=by
 have h:=Lib.encodeRuneZ_length r
 rw[ah _ (by omega) (by omega),show((n+(Lib.encodeRuneZ r).length:Nat):Int)-(n:Int)=((Lib.encodeRuneZ r).length:Int)by omega]
theorem Br (r:Int)(hr0:-2147483648≤r)(hr1:r≤2147483647):Ct tab Tryz.prog 192 [.box 3 0,cv' r] Cm (fun q σ'=>q=.tup [iv (Lib.encodeRuneZ r).length,.d (.v .nilIface)]∧σ'=pl (Lib.encodeRuneZ r)):=by
 refine aD Tryz.f192 Tryz.func192 rfl rfl fun w H B g0=>?_
 (try refine WJ.cut ?_)
 (first|refine Sq.go ?_|refine af (Sq.go ?_)|skip)
 (try refine WJ.cut ?_)
 refine OpJ.call Ci (fun _ _=>rfl) rfl rfl (Wk.cons rfl (Wk.nil _)) ?_
 rintro q σ' ⟨rfl,rfl⟩
 refine⟨rfl,?_⟩
 (first|refine Sq.go ?_|refine af (Sq.go ?_)|skip)
 (try refine WJ.cut ?_)
 (first|refine Sq.go ?_|refine af (Sq.go ?_)|skip)
 (try refine WJ.cut ?_)
 refine OpJ.shift (uQ 1000 18 1 5 rfl rfl) ?_
 refine OpJ.callD [1000] (s7 0 [] r hr0 hr1 rfl (by decide)) (fun _ _=>rfl) rfl rfl (Wk.cons rfl (Wk.nil _)) ?_
 rintro q σ' ⟨rfl,rfl⟩
 refine⟨rfl,?_⟩
 (first|refine Sq.go ?_|refine af (Sq.go ?_)|skip)
 (try refine aq _ _ _ _ ?_)
 refine bg (pl (Lib.encodeRuneZ r)) (Wk.cons ?_ (Wk.cons rfl (Wk.nil _))) rfl ⟨?_,rfl⟩
 ·rw[Nat.zero_add];rfl
 ·have e:=wl r 0 (by decide)
  rw[Nat.zero_add]at e ⊢
  rw[e];rfl
theorem Bq (xs:List Int)(r:Int)(hr0:-2147483648≤r)(hr1:r≤2147483647)(hl:xs.length≤900000000):Ct tab Tryz.prog 192 [.box 3 0,cv' r] (pl xs) (fun q σ'=>q=.tup [iv (Lib.encodeRuneZ r).length,.d (.v .nilIface)]∧σ'=pl (xs++Lib.encodeRuneZ r)):=by
 refine aD Tryz.f192 Tryz.func192 rfl rfl fun w H B g0=>?_
 (try refine WJ.cut ?_)
 (first|refine Sq.go ?_|refine af (Sq.go ?_)|skip)
 (try refine WJ.cut ?_)
 refine OpJ.call (Ch xs) (fun _ _=>rfl) rfl rfl (Wk.cons rfl (Wk.cons rfl (Wk.nil _))) ?_
 rintro q σ' ⟨rfl,rfl⟩
 refine⟨rfl,?_⟩
 (first|refine Sq.go ?_|refine af (Sq.go ?_)|skip)
 (try refine WJ.cut ?_)
 (first|refine Sq.go ?_|refine af (Sq.go ?_)|skip)
 (try refine WJ.cut ?_)
 refine OpJ.callD [1000] (s7 xs.length xs r hr0 hr1 rfl hl) (fun _ _=>rfl) rfl rfl (Wk.cons rfl (Wk.nil _)) ?_
 rintro q σ' ⟨rfl,rfl⟩
 refine⟨rfl,?_⟩
 (first|refine Sq.go ?_|refine af (Sq.go ?_)|skip)
 (try refine aq _ _ _ _ ?_)
 refine bg (pl (xs++Lib.encodeRuneZ r)) (Wk.cons ?_ (Wk.cons rfl (Wk.nil _))) rfl ⟨?_,rfl⟩
 ·rw[List.length_append];rfl
 ·rw[wl r xs.length hl];rfl
def byt (xs:List Int):List UInt8:=xs.map fun n=>UInt8.ofNat n.toNat
theorem oT:∀xs:List Int,dM (xs.map Du)=some xs
 |[]=>rfl
 |x::xs=>by rw[List.map_cons,dM,oT xs]
theorem DT:Ct tab Tryz.prog 193 [.box 3 0] Cm (fun q σ'=>q=sv []∧σ'=[]):=by
 refine ab Tryz.f193 Tryz.func193 rfl rfl fun w H B g0=>?_
 refine RegP.mixE 0 10 [] rfl (by decide+kernel) ?_
 refine QuietP.of (pa rfl rfl rfl rfl rfl) ?_
 refine QuietP.of (o9 rfl) ?_
 refine QuietP.of (pa rfl rfl rfl rfl rfl) ?_
 (repeat' (refine And.intro ?_ ?_))
 refine aR (o8 rfl rfl) rfl ?_
 exact FinP.open rfl ⟨rfl,rfl⟩
theorem DS (xs:List Int)(h0:0<xs.length)(hl:xs.length≤900000000)(hb:∀k,k∈xs→0≤k∧k<256):Ct tab Tryz.prog 193 [.box 3 0] (pl xs) (fun q σ'=>q=sv (byt xs)∧σ'=[]):=by
 refine ab Tryz.f193 Tryz.func193 rfl rfl fun w H B g0=>?_
 refine RegP.mixE 0 10 [] rfl (by decide+kernel) ?_
 refine QuietP.of (tz rfl h0) ?_
 (repeat' (refine And.intro ?_ ?_))
 refine tw rfl rfl rfl (oT xs) hb (by rw[List.length_map]) h0 (by omega) rfl rfl rfl ?_
 exact FinP.open rfl ⟨rfl,rfl⟩
def ez:Nat→List EL→List (Nat×EL)
 |_,[]=>[]
 |n,e::r=>(n,e)::ez (n+1) r
theorem sA:∀(A B:List EL)(n:Nat),ez n (A++B)=ez n A++ez (n+A.length) B
 |[],B,n=>by simp[ez]
 |e::A,B,n=>by
  rw[List.cons_append,ez,sA A B (n+1),ez,List.length_cons,List.cons_append,show n+1+A.length=n+(A.length+1)by omega]
theorem kQ:∀(A:List EL)(n i:Nat),(ez n A)[i]?=(A[i]?).map fun e=>(n+i,e)
 |[],_,i=>by simp[ez]
 |e::A,n,0=>by simp[ez]
 |e::A,n,i+1=>by rw[ez,List.getElem?_cons_succ,List.getElem?_cons_succ,kQ A (n+1) i];congr 1;funext e;congr 1;omega
abbrev itA (x:Nat×EL):List AV:=[iv x.1,elv x.2]
theorem eC {pin:List Nat}{ρ:Res}{s:ρ.S}{r:AV}(h:r.open=true):eZ pin r [(0,.res ρ s)]:=by
 refine⟨fun j hj=>(by rw[gS h]at hj;cases hj),fun i e hi j hj=>?_⟩
 rw[ae]at hi
 by_cases h:i=0
 ·rw[if_pos h]at hi;cases hi;cases hj
 ·rw[if_neg h]at hi;cases hi
theorem qn:∀(t:TR)(n:Nat),n+t.size≤900000→∀(ρ:Res),ρ.P=Tryz.prog→ρ.Λ=tab→∀s,Gv.Can ρ s ((ez n t.els).map itA)→
 Ct tab Tryz.prog 231 [.d t.d,iv n,.d (.v ρ.fv)] [(0,.res ρ s)] (fun q σ'=>∃b s',Feeds ρ s ((ez n t.els).map itA) b s'∧q=bv b∧σ'=[(0,.res ρ s')])
 |.nil,n,hn,ρ,hP,hΛ,s,hc=>by
  refine ab Tryz.f231 Tryz.func231 rfl rfl fun w H B g0=>?_
  (repeat (first|refine Spl.t rfl ?_|refine Spl.f rfl ?_))
  exact FinP.of [(0,.res ρ s)] (Wk.cons rfl (Wk.nil _)) (eC rfl) ⟨true,s,.nil _,rfl,rfl⟩
 |.node l x r,n,hn,ρ,hP,hΛ,s,hc=>by
  simp only[TR.size]at hn
  have hl:=TR.els_len l
  rw[TR.els,sA,ez,hl,List.map_append,List.map_cons]at hc ⊢
  have hc1:=Gv.Can.app hc
  have ihl:=qn l n (by omega) ρ hP hΛ s hc1.1
  have e1:IntKind.i64.wrap ((n:Int)+(l.size:Int))=((n+l.size:Nat):Int):=by rw[ah _ (by omega) (by omega)];omega
  have e2:IntKind.i64.wrap (IntKind.i64.wrap ((n:Int)+(l.size:Int))+1)=((n+l.size+1:Nat):Int):=by rw[e1,ah _ (by omega) (by omega)];omega
  refine aD Tryz.f231 Tryz.func231 rfl rfl fun w H B g0=>?_
  (try refine WJ.cut ?_)
  (first|refine Sq.go ?_|refine af (Sq.go ?_)|skip)
  (try refine WJ.cut ?_)
  (repeat (first|refine Spl.t rfl ?_|refine Spl.f rfl ?_))
  (first|refine Sq.go ?_|refine af (Sq.go ?_)|skip)
  (try refine WJ.cut ?_)
  refine aa (dr l) (fun _ _=>rfl) rfl rfl rfl ?_
  (first|refine Sq.go ?_|refine af (Sq.go ?_)|skip)
  (try refine WJ.cut ?_)
  refine OpJ.call ihl (fun _ _=>rfl) rfl rfl (Wk.cons rfl (Wk.nil _)) ?_
  rintro qv σ' ⟨b,s1,hf,rfl,rfl⟩
  refine⟨rfl,?_⟩
  cases b with
  |false=>
   (repeat (first|refine Spl.t rfl ?_|refine Spl.f rfl ?_))
   (first|refine Sq.go ?_|refine af (Sq.go ?_)|skip)
   (try refine aq _ _ _ _ ?_)
   exact FinP.of [(0,.res ρ s1)] (Wk.cons rfl (Wk.nil _)) (eC rfl) ⟨false,s1,hf.cut _,rfl,rfl⟩
  |true=>
   have hc2:=hc1.2 s1 hf
   (repeat (first|refine Spl.t rfl ?_|refine Spl.f rfl ?_))
   refine mF (j:=0) (ρ:=ρ) (st:=s1) (avs:=itA (n+l.size,x)) hP hΛ rfl rfl (by show _=some [iv ((n+l.size:Nat):Int),elv x];rw[←e1];rfl) rfl rfl rfl hc2.1 fun b s2 hs=>?_
   cases b with
   |false=>
    (repeat (first|refine Spl.t rfl ?_|refine Spl.f rfl ?_))
    (first|refine Sq.go ?_|refine af (Sq.go ?_)|skip)
    (try refine aq _ _ _ _ ?_)
    exact FinP.of [(0,.res ρ s2)] (Wk.cons rfl (Wk.nil _)) (eC rfl) ⟨false,s2,hf.app (.stop hs),rfl,rfl⟩
   |true=>
    have ihr:=qn r (n+l.size+1) (by omega) ρ hP hΛ s2 (hc2.2 s2 hs)
    (repeat (first|refine Spl.t rfl ?_|refine Spl.f rfl ?_))
    refine OpJ.call ihr (fun _ _=>rfl) rfl (by rw[←e2];rfl) (Wk.cons rfl (Wk.nil _)) ?_
    rintro qv σ' ⟨b,s3,hf3,rfl,rfl⟩
    refine⟨rfl,?_⟩
    (repeat (first|refine Spl.t rfl ?_|refine Spl.f rfl ?_))
    (first|refine Sq.go ?_|refine af (Sq.go ?_)|skip)
    (try refine aq _ _ _ _ ?_)
    exact FinP.of [(0,.res ρ s3)] (Wk.cons rfl (Wk.nil _)) (eC rfl) ⟨b,s3,hf.app (.go hs hf3),rfl,rfl⟩
abbrev C8 (t:TR):D:=.ptr [t.d]
abbrev FB (t:TR):AV:=.d (.fn 230 [C8 t])
theorem Bw {γ:Ids}{H:HF}{f:FuncId}{cs:List AV}{ds:List D}{u:Value}(h:fO cs=some ds)(r:Rep γ H (.fnp f cs) u):Rep γ H (.d (.fn f ds)) u:=by
 cases r with
 |fnp _ _ us hl hr=>
  obtain⟨h1,h2⟩:=fE h
  refine .d _ _ (.fn f ds us (by rw[hl,h1]) fun j x v hx hv=>?_)
  obtain⟨a,ha,hd⟩:=h2 j x hx
  exact fk hd (hr j a v ha hv)
theorem Ai (t:TR):Cv 191 [tv t] (FB t):=by
 refine ab Tryz.f191 Tryz.func191 rfl rfl fun w H B g0=>?_
 exact FinP.pub 1 rfl rfl (FinP.view (fun _ _ _=>Bw rfl) (FinP.open rfl rfl))
theorem pv (t:TR)(hs:t.size≤800000):AW tab Tryz.prog 230 [.d (C8 t)] ((ez 0 t.els).map itA):=by
 intro ρ hP hΛ s hc
 have hwk:=qn t 0 (by omega) ρ hP hΛ s hc
 refine ab Tryz.f230 Tryz.func230 rfl rfl fun w H B g0=>?_
 (repeat (first|refine Spl.t rfl ?_|refine Spl.f rfl ?_))
 refine OpJ.call hwk (fun _ _=>rfl) rfl rfl (Wk.cons rfl (Wk.nil _)) ?_
 rintro qv σ' ⟨b,s',hf,rfl,rfl⟩
 refine⟨rfl,?_⟩
 exact FinP.of [(0,.res ρ s')] (Wk.cons rfl (Wk.nil _)) (eC rfl) ⟨b,s',hf,rfl⟩
def cO:List EL→List Int
 |[]=>[]
 |e::r=>if e.dead=true then cO r else Lib.encodeRuneZ e.ch++cO r
theorem ni:∀(A B:List EL),cO (A++B)=cO A++cO B
 |[],_=>rfl
 |e::A,B=>by
  rw[List.cons_append,cO,cO,ni A B]
  split
  ·rfl
  ·rw[List.append_assoc]
theorem km:∀A:List EL,(cO A).length≤4*A.length
 |[]=>Nat.le_refl _
 |e::A=>by
  rw[cO,List.length_cons]
  have:=km A
  split
  ·omega
  ·have h:=Lib.encodeRuneZ_length e.ch
   rw[List.length_append];omega
theorem lv:∀(A:List EL)(k:Int),k∈cO A→0≤k∧k<256
 |[],k,h=>by simp[cO]at h
 |e::A,k,h=>by
  rw[cO]at h
  split at h
  ·exact lv A k h
  ·rcases List.mem_append.1 h with h|h
   ·exact Lib.encodeRuneZ_byte e.ch k h
   ·exact lv A k h
def okE (e:EL):Prop:=-2147483648≤e.ch∧e.ch≤2147483647
def GC:List Int→Sg
 |[]=>Cm
 |x::xs=>pl (x::xs)
theorem uO (t:TR)(hs:t.size≤800000)(hok:∀e,e∈t.els→okE e):Cv 152 [tv t] (sv (byt (cO t.els))):=by
 have it:=pv t hs
 have hlen:=TR.els_len t
 refine aD Tryz.f152 Tryz.func152 rfl rfl fun w H B g0=>?_
 (try refine WJ.cut ?_)
 (first|refine Sq.go ?_|refine af (Sq.go ?_)|skip)
 (try refine WJ.cut ?_)
 refine AO rfl rfl rfl rfl rfl ?_
 (first|refine Sq.go ?_|refine af (Sq.go ?_)|skip)
 (try refine WJ.cut ?_)
 refine aa (Ai t) (fun _ _=>rfl) rfl rfl rfl ?_
 refine lY itA (ez 0 t.els) (V:=List Int) GC [3,1000] (fun pre v=>v=cO (pre.map fun x=>x.2)) (fun _ _ _=>False) [] it rfl rfl (.fn _ _) rfl (fun _ _=>rfl) rfl rfl (fun _=>rfl) (by repeat' (first|exact trivial|exact rfl|refine And.intro ?_ ?_)) rfl ?_ ?_ ?_
 ·intro l pre x post v hL hI w0 H0 B0 g1
  have hpl:(pre.map fun x=>x.2)++x.2::post.map (fun x=>x.2)=t.els:=by
   have:(ez 0 t.els).map (fun x=>x.2)=t.els:=by
    have:∀(A:List EL)(n:Nat),(ez n A).map (fun x=>x.2)=A:=fun A=>by
     induction A with
     |nil=>intro n;rfl
     |cons e A ih=>intro n;rw[ez,List.map_cons,ih]
    exact this _ _
   rw[hL,List.map_append,List.map_cons]at this
   exact this
  have hx:=hok x.2 (by rw[←hpl];simp)
  have hv:v.length≤900000000:=by
   have h1:=km (pre.map fun x=>x.2)
   have h2:=congrArg List.length hpl
   rw[List.length_append]at h2
   rw[hI];omega
  have hnext:cO ((pre++[x]).map fun x=>x.2)=v++(if x.2.dead=true then[]else Lib.encodeRuneZ x.2.ch):=by
   rw[List.map_append,ni,←hI]
   simp only[List.map_cons,List.map_nil,cO]
   split<;>simp
  have henc:=Lib.encodeRuneZ_length x.2.ch
  obtain⟨n,⟨xi,xc,xd⟩⟩:=x
  cases v with
  |nil=>
   intro w0 H0 B0 g1
   cases xd with
   |true=>
    (repeat (first|refine Spl.t rfl ?_|refine Spl.f rfl ?_))
    exact⟨[],hnext.symm,(by repeat' (first|exact trivial|exact rfl|refine And.intro ?_ ?_))⟩
   |false=>
    (repeat (first|refine Spl.t rfl ?_|refine Spl.f rfl ?_))
    refine OpJ.call (Br xc hx.1 hx.2) (fun _ _=>rfl) rfl rfl (Wk.cons rfl (Wk.nil _)) ?_
    rintro q σ' ⟨rfl,rfl⟩
    refine⟨rfl,?_⟩
    (repeat (first|refine Spl.t rfl ?_|refine Spl.f rfl ?_))
    obtain⟨y,ys,e⟩:∃y ys,Lib.encodeRuneZ xc=y::ys:=by
     cases h:Lib.encodeRuneZ xc with
     |nil=>rw[h]at henc;simp at henc
     |cons y ys=>exact⟨y,ys,rfl⟩
    refine⟨y::ys,?_,?_⟩
    ·exact e.symm.trans hnext.symm
    ·rw[e];exact(by repeat' (first|exact trivial|exact rfl|refine And.intro ?_ ?_))
  |cons y ys=>
   intro w0 H0 B0 g1
   cases xd with
   |true=>
    (repeat (first|refine Spl.t rfl ?_|refine Spl.f rfl ?_))
    exact⟨y::ys,(hnext.trans (List.append_nil _)).symm,(by repeat' (first|exact trivial|exact rfl|refine And.intro ?_ ?_))⟩
   |false=>
    (repeat (first|refine Spl.t rfl ?_|refine Spl.f rfl ?_))
    refine OpJ.call (Bq (y::ys) xc hx.1 hx.2 hv) (fun _ _=>rfl) rfl rfl (Wk.cons rfl (Wk.cons rfl (Wk.nil _))) ?_
    rintro q σ' ⟨rfl,rfl⟩
    refine⟨rfl,?_⟩
    (repeat (first|refine Spl.t rfl ?_|refine Spl.f rfl ?_))
    exact⟨y::(ys++Lib.encodeRuneZ xc),hnext.symm,(by repeat' (first|exact trivial|exact rfl|refine And.intro ?_ ?_))⟩
 ·intro v hI
  have hall:(ez 0 t.els).map (fun x=>x.2)=t.els:=by
   have:∀(A:List EL)(n:Nat),(ez n A).map (fun x=>x.2)=A:=fun A=>by
    induction A with
    |nil=>intro n;rfl
    |cons e A ih=>intro n;rw[ez,List.map_cons,ih]
   exact this _ _
  rw[hall]at hI
  rw[←hI]
  cases v with
  |nil=>
   (first|refine Sq.go ?_|refine af (Sq.go ?_)|skip)
   (try refine aq _ _ _ _ ?_)
   refine OpJ.call DT (fun _ _=>rfl) rfl rfl (Wk.cons rfl (Wk.nil _)) ?_
   rintro q σ' ⟨rfl,rfl⟩
   refine⟨rfl,?_⟩
   exact FinP.open rfl rfl
  |cons y ys=>
   have h1:=km t.els
   have h2:=lv t.els
   rw[←hI]at h1 h2
   (first|refine Sq.go ?_|refine af (Sq.go ?_)|skip)
   (try refine aq _ _ _ _ ?_)
   refine OpJ.call (DS (y::ys) (by simp) (by omega) h2) (fun _ _=>rfl) rfl rfl (Wk.cons rfl (Wk.cons rfl (Wk.nil _))) ?_
   rintro q σ' ⟨rfl,rfl⟩
   refine⟨rfl,?_⟩
   exact FinP.open rfl rfl
 ·intro c p v h
  exact h.elim
end Go.Proofs.E
namespace Go.Proofs.E
def GI:ByteArray:=⟨#[97,98,99]⟩
def trs:Nat→TR
 |0=>.nil
 |1=>j5 .nil 0 ⟨⟨1,1⟩,97,false⟩
 |2=>j5 (j5 .nil 0 ⟨⟨1,1⟩,97,false⟩) 1 ⟨⟨2,1⟩,98,true⟩
 |_=>j5 (j5 (j5 .nil 0 ⟨⟨1,1⟩,97,false⟩) 1 ⟨⟨2,1⟩,98,true⟩) 2 ⟨⟨3,1⟩,99,false⟩
theorem Bc:Cv 273 [] (bv true):=by
 have i0:=lp (trs 0) 0 ⟨⟨1,1⟩,97,false⟩ (by decide)
 have i1:=lp (trs 1) 1 ⟨⟨2,1⟩,98,true⟩ (by decide)
 have i2:=lp (trs 2) 2 ⟨⟨3,1⟩,99,false⟩ (by decide)
 have se:=tn (trs 3) 1 (by decide)
 have ra:=uS (trs 3) 2 (by decide) (by decide) (by decide)
 have tx:=uO (trs 3) (by decide) (by unfold okE;decide+kernel)
 refine aD Tryz.f273 Tryz.func273 rfl rfl fun w H B g0=>?_
 (try refine WJ.cut ?_)
 (first|refine Sq.go ?_|refine af (Sq.go ?_)|skip)
 (try refine WJ.cut ?_)
 (first|refine Sq.go ?_|refine af (Sq.go ?_)|skip)
 (try refine WJ.cut ?_)
 refine AB rfl rfl rfl rfl ?_
 refine ax (V:=Nat) (fun _=>[]) (fun v=>[(1,.cells [.d (trs v).d]),(6,.obj (.stringIter GI v))]) [1,6] (fun v=>3-v) (fun v=>v≤3) 0 (by decide) (by repeat' (first|exact trivial|exact rfl|refine And.intro ?_ ?_)) (by repeat' (first|exact trivial|exact rfl|refine And.intro ?_ ?_)) ?_
 intro v hv
 obtain rfl|rfl|rfl|rfl:v=0∨v=1∨v=2∨v=3:=by omega
 ·refine ri rfl rfl (by decide) rfl ?_
  (repeat (first|refine Spl.t rfl ?_|refine Spl.f rfl ?_))
  refine aa i0 (fun _ _=>rfl) rfl rfl rfl ?_
  (repeat (first|refine Spl.t rfl ?_|refine Spl.f rfl ?_))
  exact⟨1,by decide,by decide,(by repeat' (first|exact trivial|exact rfl|refine And.intro ?_ ?_)),(by repeat' (first|exact trivial|exact rfl|refine And.intro ?_ ?_)),(by repeat' (first|exact trivial|exact rfl|refine And.intro ?_ ?_)),(by repeat' (first|exact trivial|exact rfl|refine And.intro ?_ ?_))⟩
 ·refine ri rfl rfl (by decide) rfl ?_
  (repeat (first|refine Spl.t rfl ?_|refine Spl.f rfl ?_))
  refine aa i1 (fun _ _=>rfl) rfl rfl rfl ?_
  (repeat (first|refine Spl.t rfl ?_|refine Spl.f rfl ?_))
  exact⟨2,by decide,by decide,(by repeat' (first|exact trivial|exact rfl|refine And.intro ?_ ?_)),(by repeat' (first|exact trivial|exact rfl|refine And.intro ?_ ?_)),(by repeat' (first|exact trivial|exact rfl|refine And.intro ?_ ?_)),(by repeat' (first|exact trivial|exact rfl|refine And.intro ?_ ?_))⟩
 ·refine ri rfl rfl (by decide) rfl ?_
  (repeat (first|refine Spl.t rfl ?_|refine Spl.f rfl ?_))
  refine aa i2 (fun _ _=>rfl) rfl rfl rfl ?_
  (repeat (first|refine Spl.t rfl ?_|refine Spl.f rfl ?_))
  exact⟨3,by decide,by decide,(by repeat' (first|exact trivial|exact rfl|refine And.intro ?_ ?_)),(by repeat' (first|exact trivial|exact rfl|refine And.intro ?_ ?_)),(by repeat' (first|exact trivial|exact rfl|refine And.intro ?_ ?_)),(by repeat' (first|exact trivial|exact rfl|refine And.intro ?_ ?_))⟩
 ·refine CX rfl rfl (by decide) rfl ?_
  (repeat (first|refine Spl.t rfl ?_|refine Spl.f rfl ?_))
  (first|refine Sq.go ?_|refine af (Sq.go ?_)|skip)
  (try refine WJ.cut ?_)
  refine aa se (fun _ _=>rfl) rfl rfl rfl ?_
  (first|refine Sq.go ?_|refine af (Sq.go ?_)|skip)
  (try refine WJ.cut ?_)
  refine aa nb (fun _ _=>rfl) rfl rfl rfl ?_
  (repeat (first|refine Spl.t rfl ?_|refine Spl.f rfl ?_))
  refine aa ra (fun _ _=>rfl) rfl rfl rfl ?_
  (repeat (first|refine Spl.t rfl ?_|refine Spl.f rfl ?_))
  refine aa tx (fun _ _=>rfl) rfl rfl rfl ?_
  (repeat (first|refine Spl.t rfl ?_|refine Spl.f rfl ?_))
  (first|refine Sq.go ?_|refine af (Sq.go ?_)|skip)
  (try refine aq _ _ _ _ ?_)
  refine FinP.open rfl (congrArg bv ?_)
  decide+kernel
end Go.Proofs.E
namespace Go.Proofs.E
end Go.Proofs.E
namespace Go.Proofs.E
namespace TR
def okb:TR→Prop
 |.nil=>True
 |.node l _ r=>l.okb∧r.okb∧r.wt≤3*l.wt∧l.wt≤3*r.wt
theorem wt_pos (t:TR):0<t.wt:=by unfold wt;omega
theorem qk:TR.nil.wt=1:=rfl
theorem cc (l:TR)(e:EL)(r:TR):(TR.node l e r).wt=l.wt+r.wt:=by unfold wt;rw[size];omega
theorem wY {l r:TR}(e:EL)(hl:l.okb)(hr:r.okb)(h:r.wt=3*l.wt+1):(turnL l e r).okb:=by
 cases r with
 |nil=>rw[qk]at h;have:=l.wt_pos;omega
 |node rl re rr=>
  obtain⟨h1,h2,h3,h4⟩:=hr
  rw[cc]at h
  have p0:=l.wt_pos
  simp only[turnL]
  split
  ·next hb=>
   have hb:=dl hb
   exact⟨⟨hl,h1,by omega,by omega⟩,h2,by rw[cc];omega,by rw[cc];omega⟩
  ·next hb=>
   have hb:=dF hb
   cases rl with
   |nil=>rw[qk]at hb;have:=rr.wt_pos;omega
   |node ml me mr=>
    obtain⟨m1,m2,m3,m4⟩:=h1
    rw[cc]at h3 h4 hb h
    exact⟨⟨hl,m1,by omega,by omega⟩,⟨m2,h2,by omega,by omega⟩,by rw[cc,cc];omega,by rw[cc,cc];omega⟩
theorem wX {l r:TR}(e:EL)(hl:l.okb)(hr:r.okb)(h:l.wt=3*r.wt+1):(turnR l e r).okb:=by
 cases l with
 |nil=>rw[qk]at h;have:=r.wt_pos;omega
 |node ll le lr=>
  obtain⟨h1,h2,h3,h4⟩:=hl
  rw[cc]at h
  have p0:=r.wt_pos
  simp only[turnR]
  split
  ·next hb=>
   have hb:=dl hb
   exact⟨h1,⟨h2,hr,by omega,by omega⟩,by rw[cc];omega,by rw[cc];omega⟩
  ·next hb=>
   have hb:=dF hb
   cases lr with
   |nil=>rw[qk]at hb;have:=ll.wt_pos;omega
   |node ml me mr=>
    obtain⟨m1,m2,m3,m4⟩:=h2
    rw[cc]at h3 h4 hb h
    exact⟨⟨h1,m1,by omega,by omega⟩,⟨m2,hr,by omega,by omega⟩,by rw[cc,cc];omega,by rw[cc,cc];omega⟩
theorem vk {l r:TR}(e:EL)(hl:l.okb)(hr:r.okb)(h1:r.wt≤3*l.wt+1)(h2:l.wt≤3*r.wt+1):(bal l e r).okb:=by
 unfold bal
 split
 ·next hb=>exact wY e hl hr (by have:=dl hb;omega)
 ·next hb=>
  split
  ·next hb2=>exact wX e hl hr (by have:=dl hb2;omega)
  ·next hb2=>exact⟨hl,hr,dF hb,dF hb2⟩
theorem okb_ins:∀(i:Nat)(e:EL)(t:TR),i≤t.size→t.okb→(ins i e t).okb
 |i,e,.nil,_,_=>⟨trivial,trivial,by decide,by decide⟩
 |i,e,.node l x r,hi,h=>by
  obtain⟨h1,h2,h3,h4⟩:=h
  simp only[size]at hi
  simp only[ins]
  split
  ·next hb=>
   have hb:=Nat.le_of_ble_eq_true hb
   have hz:=kr i e l hb
   have hw:(ins i e l).wt=l.wt+1:=by unfold wt;omega
   exact vk x (okb_ins i e l hb h1) h2 (by omega) (by omega)
  ·next hb=>
   have hb:=qb hb
   have hz:=kr (i-l.size-1) e r (by omega)
   have hw:(ins (i-l.size-1) e r).wt=r.wt+1:=by unfold wt;omega
   exact vk x h1 (okb_ins _ e r (by omega) h2) (by omega) (by omega)
theorem okb_set:∀(i:Nat)(e:EL)(t:TR),i<t.size→t.okb→(set i e t).okb
 |i,e,.nil,hi,_=>by simp[size]at hi
 |i,e,.node l x r,hi,h=>by
  obtain⟨h1,h2,h3,h4⟩:=h
  simp only[size]at hi
  simp only[set]
  split
  ·next hb=>
   have hb:=dl hb
   have hz:=kq i e l hb
   have hw:(set i e l).wt=l.wt:=by unfold wt;omega
   exact⟨okb_set i e l hb h1,h2,by omega,by omega⟩
  ·next hb=>
   have hb:=dF hb
   split
   ·next hb2=>
    have hb2:=dl hb2
    have hz:=kq (i-l.size-1) e r (by omega)
    have hw:(set (i-l.size-1) e r).wt=r.wt:=by unfold wt;omega
    exact⟨h1,okb_set _ e r (by omega) h2,by omega,by omega⟩
   ·exact⟨h1,h2,h3,h4⟩
end TR
theorem yW {t:TR}(i:Int)(e:EL)(h:t.okb):(j5 t i e).okb:=by
 unfold j5
 split
 ·next hi=>exact TR.okb_ins _ _ _ (by omega) h
 ·exact h
theorem yV {t:TR}(i:Int)(e:EL)(h:t.okb):(rS t i e).okb:=by
 unfold rS
 split
 ·next hi=>
  obtain⟨h1,h2⟩:=oj hi
  exact TR.okb_set _ _ _ (by omega) h
 ·exact h
end Go.Proofs.E
namespace Go.Proofs.E
attribute [local irreducible] elems
structure SS where
 t:TR
 p:PT
 n:Int
abbrev stv (s:SS):AV:=.agg [.d s.t.d,.d s.p.d,iv s.n]
structure isS (s:SS)(l:List OP):Prop where
 dn:Dn l
 els:s.t.els=aj l
 bal:s.t.okb
 mp:∃M,isM s.p s.n M∧(∀a,aO a M=dG l a)∧M.length=(aZ l).length
theorem isS.size {s:SS}{l:List OP}(h:isS s l):s.t.size=(aZ l).length:=by rw[←TR.els_len,h.els,jq h.dn]
theorem isS.small {s:SS}{l:List OP}(h:isS s l):s.t.size≤4096:=by rw[h.size];exact h.dn.is.len
theorem rt {s:SS}{l:List OP}(h:isS s l)(a:ID):Cv 284 [nQ s.p s.n,idv a] (Eo (dG l a)):=by
 obtain⟨M,h1,h2,_⟩:=h.mp
 rw[←h2]
 exact C3 h1 a
theorem zG {l:List OP}{a:ID}:(dG l a).isSome=(az 0 a l).isSome:=by unfold dG;rw[Option.isSome_map]
theorem DA {s:SS}{l:List OP}(h:isS s l)(a:ID):Cv 269 [stv s,idv a] (bv (az 0 a l).isSome):=by
 have hg:=rt h a
 rw[←zG]
 cases he:dG l a with
 |none=>
  rw[he]at hg
  refine ab Tryz.f269 Tryz.func269 rfl rfl fun w H B g0=>?_
  refine aa hg (fun _ _=>rfl) rfl rfl rfl ?_
  (repeat (first|refine Spl.t rfl ?_|refine Spl.f rfl ?_))
  exact FinP.open rfl rfl
 |some e=>
  rw[he]at hg
  refine ab Tryz.f269 Tryz.func269 rfl rfl fun w H B g0=>?_
  refine aa hg (fun _ _=>rfl) rfl rfl rfl ?_
  (repeat (first|refine Spl.t rfl ?_|refine Spl.f rfl ?_))
  exact FinP.open rfl rfl
theorem uh {l:List OP}(h:Dn l):∀e,e∈aj l→okE e:=fun e he=>by
 obtain⟨o,ho,rfl⟩:=(jp h).1 he
 obtain⟨h1,h2⟩:=bC.1 ho
 rcases(dk (h.is.ok o h1)).2 with⟨h3,_⟩|⟨_,_,h4,h5⟩
 ·omega
 ·unfold okE elO;simp only;omega
theorem u2 {s:SS}{l:List OP}(h:isS s l)(a:ID):Cv 245 [stv s,idv a] (.tup [iv (ay a (aj l)),bv (decide (0≤ay a (aj l)))]):=by
 have hs:=h.small
 have it:=pv s.t (by omega)
 rw[h.els]at it
 refine aD Tryz.f245 Tryz.func245 rfl rfl fun w H B g0=>?_
 (try refine WJ.cut ?_)
 (first|refine Sq.go ?_|refine af (Sq.go ?_)|skip)
 (try refine WJ.cut ?_)
 refine aa (DA h a) (fun _ _=>rfl) rfl rfl rfl ?_
 refine Spl.of (fun h1=>?_) (fun h1=>?_)
 ·have h1:(az 0 a l).isSome=false:=by simpa using h1
  have h2:=jv h.dn a
  rw[h1]at h2
  have h3:ay a (aj l)=-1:=by
   have:=of_decide_eq_false h2
   have:=lF a (aj l)
   omega
  (repeat (first|refine Spl.t rfl ?_|refine Spl.f rfl ?_))
  refine .out (by simp) ?_
  refine FinP.open rfl ?_
  rw[h3];rfl
 ·have h1:(az 0 a l).isSome=true:=by simpa using h1
  have h2:=jv h.dn a
  rw[h1]at h2
  have h3:=of_decide_eq_true h2
  (repeat (first|refine Spl.t rfl ?_|refine Spl.f rfl ?_))
  (first|refine Sq.go ?_|refine af (Sq.go ?_)|skip)
  (try refine WJ.cut ?_)
  refine aa (Ai s.t) (fun _ _=>rfl) rfl rfl rfl ?_
  refine lY itA (ez 0 (aj l)) (V:=Int×Bool) (fun v=>[(4,.cells [iv v.1]),(5,.cells [bv v.2])]) [4,5] (fun pre v=>v=(0,false)∧∀x,x∈pre→x.2.id≠a) (fun c _ v=>c=.ret∧v=(ay a (aj l),true)) (0,false) it rfl rfl (.fn _ _) rfl (fun _ _=>rfl) rfl rfl (fun _=>rfl) (by repeat' (first|exact trivial|exact rfl|refine And.intro ?_ ?_)) ⟨rfl,by simp⟩ ?_ ?_ ?_
  ·intro l0 pre x post v hL hI w0 H0 B0 g1
   obtain⟨rfl,hI⟩:=hI
   intro w0 H0 B0 g1
   have hget:(ez 0 (aj l))[pre.length]?=some x:=by rw[hL];simp
   rw[kQ]at hget
   obtain⟨e,he⟩:∃e,(aj l)[pre.length]?=some e:=by
    cases hz:(aj l)[pre.length]? with
    |none=>rw[hz]at hget;cases hget
    |some e=>exact⟨e,rfl⟩
   rw[he]at hget
   have hxe:x=(pre.length,e):=by simpa using hget.symm
   have hpre:∀j y,j<pre.length→(aj l)[j]?=some y→y.id≠a:=fun j y hj hy=>by
    have h5:(ez 0 (aj l))[j]?=some (j,y):=by rw[kQ,hy];simp
    rw[hL,List.getElem?_append_left hj]at h5
    exact hI _ (List.mem_of_getElem? h5)
   subst hxe
   refine aR (O.eqT 3 rfl rfl rfl rfl rfl oE sK (eqI e.id a)) rfl ?_
   refine Spl.of (fun h4=>?_) (fun h4=>?_)
   ·have h4:e.id=a:=of_decide_eq_true h4
    have hp:=jw he h4 hpre
    (repeat (first|refine Spl.t rfl ?_|refine Spl.f rfl ?_))
    exact⟨(ay a (aj l),true),⟨rfl,rfl⟩,⟨congrArg (fun z:Int=>some (Ent.cells [iv z])) hp.symm,(by repeat' (first|exact trivial|exact rfl|refine And.intro ?_ ?_))⟩⟩
   ·have h4:¬e.id=a:=of_decide_eq_false h4
    (repeat (first|refine Spl.t rfl ?_|refine Spl.f rfl ?_))
    exact⟨(0,false),⟨rfl,fun y hy=>by rcases List.mem_append.1 hy with hy|hy;exact hI y hy;rw[List.mem_singleton.1 hy];exact h4⟩,(by repeat' (first|exact trivial|exact rfl|refine And.intro ?_ ?_))⟩
  ·rintro v ⟨rfl,hI⟩
   exfalso
   obtain⟨e,h4,h5,_⟩:=j4 h3
   have h6:(ez 0 (aj l))[(ay a (aj l)).toNat]?=some (0+(ay a (aj l)).toNat,e):=by rw[kQ,h4];rfl
   exact hI _ (List.mem_of_getElem? h6) h5
  ·rintro c p v ⟨rfl,rfl⟩
   refine .out (by simp) ?_
   refine FinP.open rfl ?_
   rw[decide_eq_true h3];rfl
theorem m5 {s:SS}{l:List OP}(h:isS s l)(k:Nat):atT s.t (k:Int)=(aj l)[k]?:=by
 unfold atT;rw[if_pos (by omega),Int.toNat_natCast,h.els]
theorem mg (f:OP→EL)(hf:∀x,(f x).id=x.i)(o:OP):∀L:List OP,0≤ay o.a (L.map f)→kE o L=(ay o.a (L.map f)).toNat+1+dP o (L.drop ((ay o.a (L.map f)).toNat+1))
 |[],h=>by simp[ay]at h
 |x::r,h=>by
  rw[List.map_cons,ay]at h ⊢
  rw[kE]
  by_cases e:x.i=o.a
  ·rw[if_pos e,if_pos (by rw[hf];exact e)];simp;omega
  ·rw[if_neg e,if_neg (by rw[hf];exact e)]
   rw[if_neg (by rw[hf];exact e)]at h
   by_cases e2:ay o.a (r.map f)<0
   ·rw[if_pos e2]at h;omega
   ·rw[if_neg e2,mg f hf o r (by omega),show(ay o.a (r.map f)+1).toNat=(ay o.a (r.map f)).toNat+1 by omega,List.drop_succ_cons];omega
theorem ud {l:List OP}(h:Dn l):ay ⟨0,0⟩ (aj l)=-1:=fV fun e he e2=>by
 obtain⟨o,ho,rfl⟩:=(jp h).1 he
 have:=h.is.tk.is.c0 o ho
 have e3:o.i=⟨0,0⟩:=e2
 rw[e3]at this;simp at this
theorem BG {s:SS}{l:List OP}(h:isS s l){o:OP}(hw:aw l o=0)(hk:o.k=0):Cv 288 [stv s,opv o] (iv (dh l o)):=by
 have hs:=h.small
 have hle:=kC h.dn hw hk
 have hlen:=jq h.dn
 have hll:=h.dn.is.len
 obtain⟨hc,h1⟩:=cE hw
 obtain⟨hnew,ha⟩:az 0 o.i l=none∧(o.a=⟨0,0⟩∨(az 0 o.a l).isSome=true):=by
  rcases h1 with⟨h1,_⟩|⟨_,h2,h3,_⟩
  ·omega
  ·exact⟨h2,h3⟩
 have start:(ay o.a (aj l)<0→o.a=⟨0,0⟩∧0+dP o (db (aZ l))=dh l o)∧(0≤ay o.a (aj l)→(ay o.a (aj l)).toNat+1+dP o ((db (aZ l)).drop ((ay o.a (aj l)).toNat+1))=dh l o):=by
  refine⟨fun hlt=>?_,fun hge=>?_⟩
  ·have:o.a=⟨0,0⟩:=by
    rcases ha with ha|ha
    ·exact ha
    ·rw[←jv h.dn]at ha
     have:=of_decide_eq_true ha;omega
   refine⟨this,?_⟩
   unfold dh yR;rw[if_pos this,Nat.zero_add]
  ·have:o.a≠⟨0,0⟩:=fun e=>by rw[e,ud h.dn]at hge;omega
   unfold dh yR;rw[if_neg this]
   exact(mg (elO l) (fun _=>rfl) o _ hge).symm
 have hlp:=lE o.a (aj l)
 have hgp:=lF o.a (aj l)
 have stopN:∀k:Nat,k≤(aj l).length→k+dP o ((db (aZ l)).drop k)=dh l o→(aj l)[k]?=none→(k:Int)=dh l o:=fun k hkl hpos hr=>by
  have hkeq:k=(aj l).length:=by have:=List.getElem?_eq_none_iff.1 hr;omega
  rw[←hpos,List.drop_eq_nil_of_le (by rw[h.dn.is.tk.is.len];omega)];rfl
 have stepN:∀(k:Nat)(e:EL),k+dP o ((db (aZ l)).drop k)=dh l o→(aj l)[k]?=some e→(bf e.id o.i=true→(k:Int)=dh l o)∧(bf e.id o.i=false→k+1≤(aj l).length∧k+1+dP o ((db (aZ l)).drop (k+1))=dh l o):=fun k e hpos hr=>by
  obtain⟨x,hx,hxe⟩:∃x,(db (aZ l))[k]?=some x∧elO l x=e:=by
   unfold aj at hr
   rw[List.getElem?_map]at hr
   cases hz:(db (aZ l))[k]? with
   |none=>rw[hz]at hr;cases hr
   |some x=>rw[hz]at hr;exact⟨x,rfl,Option.some.inj hr⟩
  have hxi:e.id=x.i:=by rw[←hxe];rfl
  have hd:(db (aZ l)).drop k=x::(db (aZ l)).drop (k+1):=by
   have hlt:=(List.getElem?_eq_some_iff.1 hx).1
   rw[List.drop_eq_getElem_cons hlt];congr 1;exact(List.getElem?_eq_some_iff.1 hx).2
  have hklt:k<(aj l).length:=(List.getElem?_eq_some_iff.1 hr).1
  have hxl:=bC.1 ((h.dn.is.tk.is.mem x).1 (List.mem_of_getElem? hx))
  have hne:x.i≠o.i:=dY hnew x hxl.1 hxl.2
  rw[hd,dP]at hpos
  refine⟨fun h5=>?_,fun h5=>?_⟩
  ·have hn:¬bf o.i x.i=true:=fun h6=>cB _ (dp h6 (hxi▸h5))
   rw[if_neg hn]at hpos;omega
  ·have hn:bf o.i x.i=true:=kL (by rw[←hxi,h5];decide) hne
   rw[if_pos hn]at hpos
   exact⟨by omega,by omega⟩
 refine aD Tryz.f288 Tryz.func288 rfl rfl fun w H B g0=>?_
 (try refine WJ.cut ?_)
 (first|refine Sq.go ?_|refine af (Sq.go ?_)|skip)
 (try refine WJ.cut ?_)
 (first|refine Sq.go ?_|refine af (Sq.go ?_)|skip)
 (try refine WJ.cut ?_)
 refine aa (u2 h o.a) (fun _ _=>rfl) rfl rfl rfl ?_
 (first|refine Sq.go ?_|refine af (Sq.go ?_)|skip)
 (try refine WJ.cut ?_)
 refine Spl.of (fun h1=>?_) (fun h1=>?_)
 ·have h1:=of_decide_eq_true h1
  have hK0:=start.2 h1
  have e1:IntKind.i64.wrap (ay o.a (aj l)+1)=(((ay o.a (aj l)).toNat+1:Nat):Int):=by rw[ah _ (by omega) (by omega)];omega
  (repeat (first|refine Spl.t rfl ?_|refine Spl.f rfl ?_))
  (first|refine Sq.go ?_|refine af (Sq.go ?_)|skip)
  (try refine aq _ _ _ _ ?_)
  refine ax (V:=Nat) (fun k=>[(5,iv k)]) (fun _=>[]) [] (fun k=>(aj l).length+1-k) (fun k=>k≤(aj l).length∧k+dP o ((db (aZ l)).drop k)=dh l o) ((ay o.a (aj l)).toNat+1) ⟨by omega,hK0⟩ ⟨ao e1,trivial⟩ (by repeat' (first|exact trivial|exact rfl|refine And.intro ?_ ?_)) ?_
  (rintro k ⟨hkl,hpos⟩;obtain⟨r,hr⟩:∃r,atT s.t ((k:Nat):Int)=r:=⟨_,rfl⟩;have hat:=C7 s.t (k:Int) (by omega);rw[hr]at hat;rw[m5 h]at hr;rcases r with _|e;(have hfin:=stopN k hkl hpos hr;refine aa hat (fun _ _=>rfl) rfl rfl rfl ?_;(repeat (first|refine Spl.t rfl ?_|refine Spl.f rfl ?_));exact FinP.open rfl (congrArg iv hfin));(obtain⟨s1,s2⟩:=stepN k e hpos hr;refine aa hat (fun _ _=>rfl) rfl rfl rfl ?_;(repeat (first|refine Spl.t rfl ?_|refine Spl.f rfl ?_));refine aa (rm e.id o.i) (fun _ _=>rfl) rfl rfl rfl ?_;(repeat (first|refine Spl.t rfl ?_|refine Spl.f rfl ?_));refine Spl.of (fun h5=>?_) (fun h5=>?_);(have hfin:=s1 h5;(repeat (first|refine Spl.t rfl ?_|refine Spl.f rfl ?_));exact FinP.open rfl (congrArg iv hfin));(obtain⟨s3,s4⟩:=s2 h5;(repeat (first|refine Spl.t rfl ?_|refine Spl.f rfl ?_));exact⟨k+1,⟨s3,s4⟩,by omega,⟨ao (ah _ (by omega) (by omega)),trivial⟩,(by repeat' (first|exact trivial|exact rfl|refine And.intro ?_ ?_)),(by repeat' (first|exact trivial|exact rfl|refine And.intro ?_ ?_)),(by repeat' (first|exact trivial|exact rfl|refine And.intro ?_ ?_))⟩)))
 ·have h1:=of_decide_eq_false h1
  have hK0:=(start.1 (by omega)).2
  (repeat (first|refine Spl.t rfl ?_|refine Spl.f rfl ?_))
  (first|refine Sq.go ?_|refine af (Sq.go ?_)|skip)
  (try refine aq _ _ _ _ ?_)
  refine ax (V:=Nat) (fun k=>[(5,iv k)]) (fun _=>[]) [] (fun k=>(aj l).length+1-k) (fun k=>k≤(aj l).length∧k+dP o ((db (aZ l)).drop k)=dh l o) 0 ⟨by omega,hK0⟩ (by repeat' (first|exact trivial|exact rfl|refine And.intro ?_ ?_)) (by repeat' (first|exact trivial|exact rfl|refine And.intro ?_ ?_)) ?_
  (rintro k ⟨hkl,hpos⟩;obtain⟨r,hr⟩:∃r,atT s.t ((k:Nat):Int)=r:=⟨_,rfl⟩;have hat:=C7 s.t (k:Int) (by omega);rw[hr]at hat;rw[m5 h]at hr;rcases r with _|e;(have hfin:=stopN k hkl hpos hr;refine aa hat (fun _ _=>rfl) rfl rfl rfl ?_;(repeat (first|refine Spl.t rfl ?_|refine Spl.f rfl ?_));exact FinP.open rfl (congrArg iv hfin));(obtain⟨s1,s2⟩:=stepN k e hpos hr;refine aa hat (fun _ _=>rfl) rfl rfl rfl ?_;(repeat (first|refine Spl.t rfl ?_|refine Spl.f rfl ?_));refine aa (rm e.id o.i) (fun _ _=>rfl) rfl rfl rfl ?_;(repeat (first|refine Spl.t rfl ?_|refine Spl.f rfl ?_));refine Spl.of (fun h5=>?_) (fun h5=>?_);(have hfin:=s1 h5;(repeat (first|refine Spl.t rfl ?_|refine Spl.f rfl ?_));exact FinP.open rfl (congrArg iv hfin));(obtain⟨s3,s4⟩:=s2 h5;(repeat (first|refine Spl.t rfl ?_|refine Spl.f rfl ?_));exact⟨k+1,⟨s3,s4⟩,by omega,⟨ao (ah _ (by omega) (by omega)),trivial⟩,(by repeat' (first|exact trivial|exact rfl|refine And.intro ?_ ?_)),(by repeat' (first|exact trivial|exact rfl|refine And.intro ?_ ?_)),(by repeat' (first|exact trivial|exact rfl|refine And.intro ?_ ?_))⟩)))
end Go.Proofs.E
namespace Go.Proofs.E
attribute [local irreducible] elems
theorem FW {x o:OP}(h1:x.k=o.k)(h2:x.i=o.i)(h3:x.a=o.a)(h4:x.ch=o.ch):x=o:=by
 obtain⟨a,b,c,d⟩:=x
 obtain⟨a',b',c',d'⟩:=o
 simp_all
theorem rB {s:SS}{l:List OP}(h:isS s l){o:OP}(hc:aL o=0)(hk:o.k=0):Cv 287 [stv s,opv o] (iv (aw l o)):=by
 have hg:=rt h o.i
 have hw:aw l o=if az 0 o.i l=some o then 4 else if (az 0 o.i l).isSome=true then 5 else if o.a≠⟨0,0⟩∧(az 0 o.a l).isSome=false then 6 else if 4096≤(aZ l).length then 7 else 0:=by
  unfold aw;rw[if_neg (fun e=>e hc),if_neg (by omega)]
 have hn:bO o.a=decide (o.a=⟨0,0⟩):=by
  unfold bO
  obtain⟨a,b⟩:=o.a
  exact decide_eq_decide.2 ⟨fun h=>by simp only at h;rw[h.1,h.2],fun h=>by cases h;simp⟩
 cases hf:az 0 o.i l with
 |some x=>
  obtain⟨x1,x2,x3⟩:=bM hf
  have he:dG l o.i=some ⟨x.a,x.ch,cp l o.i⟩:=by unfold dG;rw[hf];rfl
  rw[he]at hg
  rw[hf]at hw
  refine ab Tryz.f287 Tryz.func287 rfl rfl fun w H B g0=>?_
  refine aa hg (fun _ _=>rfl) rfl rfl rfl ?_
  (repeat (first|refine Spl.t rfl ?_|refine Spl.f rfl ?_))
  refine aR (O.eqT 3 rfl rfl rfl rfl rfl oE sK (eqI x.a o.a)) rfl ?_
  refine Spl.of (fun h1=>?_) (fun h1=>?_)
  ·have h1:=of_decide_eq_true h1
   (repeat (first|refine Spl.t rfl ?_|refine Spl.f rfl ?_))
   refine Spl.of (fun h2=>?_) (fun h2=>?_)
   ·have h2:=of_decide_eq_true h2
    (repeat (first|refine Spl.t rfl ?_|refine Spl.f rfl ?_))
    refine FinP.open rfl (congrArg iv ?_)
    rw[hw,if_pos (by rw[FW (x2.trans hk.symm) x3 h1 h2])]
   ·have h2:=of_decide_eq_false h2
    (repeat (first|refine Spl.t rfl ?_|refine Spl.f rfl ?_))
    refine FinP.open rfl (congrArg iv ?_)
    rw[hw,if_neg (fun e=>h2 (by rw[Option.some.inj e]))];simp
  ·have h1:=of_decide_eq_false h1
   (repeat (first|refine Spl.t rfl ?_|refine Spl.f rfl ?_))
   refine FinP.open rfl (congrArg iv ?_)
   rw[hw,if_neg (fun e=>h1 (by rw[Option.some.inj e]))];simp
 |none=>
  have he:dG l o.i=none:=by unfold dG;rw[hf];rfl
  rw[he]at hg
  rw[hf,if_neg (by simp),if_neg (by simp)]at hw
  have hlen:((s.t.size:Nat):Int)=((aZ l).length:Int):=by rw[h.size]
  refine ab Tryz.f287 Tryz.func287 rfl rfl fun w H B g0=>?_
  refine aa hg (fun _ _=>rfl) rfl rfl rfl ?_
  (repeat (first|refine Spl.t rfl ?_|refine Spl.f rfl ?_))
  refine aa (pb o.a) (fun _ _=>rfl) rfl rfl rfl ?_
  (repeat (first|refine Spl.t rfl ?_|refine Spl.f rfl ?_))
  rw[hn]
  refine Spl.of (fun h3=>?_) (fun h3=>?_)
  ·have h3:o.a≠⟨0,0⟩:=by simpa using h3
   (repeat (first|refine Spl.t rfl ?_|refine Spl.f rfl ?_))
   refine aa (DA h o.a) (fun _ _=>rfl) rfl rfl rfl ?_
   (repeat (first|refine Spl.t rfl ?_|refine Spl.f rfl ?_))
   refine Spl.of (fun h4=>?_) (fun h4=>?_)
   ·have h4:(az 0 o.a l).isSome=false:=by simpa using h4
    (repeat (first|refine Spl.t rfl ?_|refine Spl.f rfl ?_))
    refine FinP.open rfl (congrArg iv ?_)
    rw[hw,if_pos ⟨h3,h4⟩]
   ·have h4:(az 0 o.a l).isSome=true:=by simpa using h4
    have hno:¬(o.a≠⟨0,0⟩∧(az 0 o.a l).isSome=false):=fun e=>by rw[h4]at e;cases e.2
    ((repeat (first|refine Spl.t rfl ?_|refine Spl.f rfl ?_));refine aa (kd s.t) (fun _ _=>rfl) rfl rfl rfl ?_;refine Spl.of (fun h5=>?_) (fun h5=>?_);(have h5:=of_decide_eq_true h5;(repeat (first|refine Spl.t rfl ?_|refine Spl.f rfl ?_));refine FinP.open rfl (congrArg iv ?_);rw[hw,if_neg hno,if_pos (by omega)]);(have h5:=of_decide_eq_false h5;(repeat (first|refine Spl.t rfl ?_|refine Spl.f rfl ?_));refine FinP.open rfl (congrArg iv ?_);rw[hw,if_neg hno,if_neg (by omega)]))
  ·have h3:o.a=⟨0,0⟩:=by simpa using h3
   have hno:¬(o.a≠⟨0,0⟩∧(az 0 o.a l).isSome=false):=fun e=>e.1 h3
   ((repeat (first|refine Spl.t rfl ?_|refine Spl.f rfl ?_));refine aa (kd s.t) (fun _ _=>rfl) rfl rfl rfl ?_;refine Spl.of (fun h5=>?_) (fun h5=>?_);(have h5:=of_decide_eq_true h5;(repeat (first|refine Spl.t rfl ?_|refine Spl.f rfl ?_));refine FinP.open rfl (congrArg iv ?_);rw[hw,if_neg hno,if_pos (by omega)]);(have h5:=of_decide_eq_false h5;(repeat (first|refine Spl.t rfl ?_|refine Spl.f rfl ?_));refine FinP.open rfl (congrArg iv ?_);rw[hw,if_neg hno,if_neg (by omega)]))
def En (s:SS)(l:List OP)(o:OP):SS:=⟨j5 s.t (dh l o) ⟨o.i,o.ch,false⟩,PT.put 8 (bW o.i) ⟨o.a,o.ch,false⟩ s.p,w4 s.p s.n o.i⟩
theorem BT {s:SS}{l:List OP}(h:isS s l){o:OP}(hw:aw l o=0)(hk:o.k=0):isS (En s l o) (l++[o]):=by
 have hle:=kC h.dn hw hk
 obtain⟨hc,h1⟩:=cE hw
 have hnew:az 0 o.i l=none:=by
  rcases h1 with⟨h1,_⟩|⟨_,h2,_⟩
  ·omega
  ·exact h2
 have hm:=(dk hc).1
 refine⟨.snoc h.dn hw,?_,yW _ _ h.bal,?_⟩
 ·have hsz:dh l o≤s.t.size:=by rw[←TR.els_len,h.els];exact hle
  show(j5 s.t ((dh l o:Nat):Int) ⟨o.i,o.ch,false⟩).els=_
  rw[j5,if_pos ⟨by omega,by omega⟩,Int.toNat_natCast,TR.els_ins _ _ _ hsz,h.els,qs h.dn hw hk]
 ·obtain⟨M,m1,m2,m3⟩:=h.mp
  refine⟨gQ o.i ⟨o.a,o.ch,false⟩ M,mU m1 hm _,fun a=>?_,?_⟩
  ·rw[kb m1.up,Cb h.dn hw hk,m2]
  ·rw[kM m1.up,m2,show dG l o.i=none by unfold dG;rw[hnew];rfl,b7 hk,List.length_append,m3];simp
theorem zk {s:SS}{l:List OP}(h:isS s l){o:OP}(hw:aw l o=0)(hk:o.k=0):Cv 268 [stv s,opv o] (.tup [stv (En s l o),iv (dh l o),iv 0]):=by
 obtain⟨hc,h1⟩:=cE hw
 have hm:=(dk hc).1
 have hwi:=rB h hc hk
 rw[hw]at hwi
 obtain⟨M,m1,m2,m3⟩:=h.mp
 have hll:=h.dn.is.len
 have hle:=kC h.dn hw hk
 have hi:=lp s.t (dh l o) ⟨o.i,o.ch,false⟩ (by have:=h.small;omega)
 have hp:=m9 m1 (by omega) o.i ⟨o.a,o.ch,false⟩ hm
 refine aD Tryz.f268 Tryz.func268 rfl rfl fun w H B g0=>?_
 (try refine WJ.cut ?_)
 (first|refine Sq.go ?_|refine af (Sq.go ?_)|skip)
 (try refine WJ.cut ?_)
 refine aa hwi (fun _ _=>rfl) rfl rfl rfl ?_
 (first|refine Sq.go ?_|refine af (Sq.go ?_)|skip)
 (try refine WJ.cut ?_)
 (repeat (first|refine Spl.t rfl ?_|refine Spl.f rfl ?_))
 (first|refine Sq.go ?_|refine af (Sq.go ?_)|skip)
 (try refine WJ.cut ?_)
 refine aa (BG h hw hk) (fun _ _=>rfl) rfl rfl rfl ?_
 (first|refine Sq.go ?_|refine af (Sq.go ?_)|skip)
 (try refine WJ.cut ?_)
 refine aa hi (fun _ _=>rfl) rfl rfl rfl ?_
 (first|refine Sq.go ?_|refine af (Sq.go ?_)|skip)
 (try refine WJ.cut ?_)
 refine aa hp (fun _ _=>rfl) rfl rfl rfl ?_
 (first|refine Sq.go ?_|refine af (Sq.go ?_)|skip)
 (try refine aq _ _ _ _ ?_)
 exact FinP.open rfl rfl
theorem uq {s:SS}{l:List OP}(h:isS s l){o:OP}(hc:aL o=0)(hw:aw l o≠0)(hk:o.k=0):Cv 268 [stv s,opv o] (.tup [stv s,iv (-1),iv (aw l o)]):=by
 have hwi:=rB h hc hk
 refine aD Tryz.f268 Tryz.func268 rfl rfl fun w H B g0=>?_
 (try refine WJ.cut ?_)
 (first|refine Sq.go ?_|refine af (Sq.go ?_)|skip)
 (try refine WJ.cut ?_)
 refine aa hwi (fun _ _=>rfl) rfl rfl rfl ?_
 (first|refine Sq.go ?_|refine af (Sq.go ?_)|skip)
 (try refine WJ.cut ?_)
 refine Spl.t (by simpa using hw) ?_
 (repeat (first|refine Spl.t rfl ?_|refine Spl.f rfl ?_))
 refine .out (by simp) ?_
 exact FinP.open rfl rfl
def kZ (l:List OP)(o:OP):EN:=(dG l o.i).getD EN.zero
def EA (s:SS)(l:List OP)(o:OP):SS:=⟨rS s.t (ay o.i (aj l)) ⟨o.i,(kZ l o).ch,true⟩,PT.put 8 (bW o.i) ⟨(kZ l o).a,(kZ l o).ch,true⟩ s.p,w4 s.p s.n o.i⟩
theorem Cg {s:SS}{l:List OP}(h:isS s l){o:OP}(hw:aw l o=0)(hk:o.k=1):isS (EA s l o) (l++[o]):=by
 obtain⟨hc,h1⟩:=cE hw
 have hm:=(dk hc).1
 obtain⟨n,ch,d1,d2,d3,d4,d5⟩:=mN h.dn hw hk
 have hde:kZ l o=⟨((az 0 o.i l).map (·.a)).getD ⟨0,0⟩,ch,false⟩:=by unfold kZ;rw[d3];rfl
 refine⟨.snoc h.dn hw,?_,yV _ _ h.bal,?_⟩
 ·have hlt:n<s.t.size:=by rw[←TR.els_len,h.els];exact(List.getElem?_eq_some_iff.1 d2).1
  show(rS s.t (ay o.i (aj l)) ⟨o.i,(kZ l o).ch,true⟩).els=_
  rw[d1,rS,if_pos (show hasT s.t (n:Int)=true from decide_eq_true ⟨by omega,by omega⟩),Int.toNat_natCast,TR.els_set _ _ _ hlt,h.els,d4,hde]
 ·obtain⟨M,m1,m2,m3⟩:=h.mp
  refine⟨gQ o.i ⟨(kZ l o).a,(kZ l o).ch,true⟩ M,mU m1 hm _,fun a=>?_,?_⟩
  ·rw[kb m1.up,Cc hk,m2]
   by_cases e:a=o.i
   ·rw[if_pos e,if_pos e,e,d3,hde];rfl
   ·rw[if_neg e,if_neg e]
  ·rw[kM m1.up,m2,d3,cJ (by omega),m3];rfl
theorem yG {s:SS}{l:List OP}(h:isS s l){o:OP}(hw:aw l o=0)(hk:o.k=1):Cv 267 [stv s,opv o] (.tup [stv (EA s l o),iv (ay o.i (aj l)),iv 0]):=by
 obtain⟨hc,h1⟩:=cE hw
 have hm:=(dk hc).1
 obtain⟨n,ch,d1,d2,d3,d4,d5⟩:=mN h.dn hw hk
 have hg:=rt h o.i
 have hde:kZ l o=⟨((az 0 o.i l).map (·.a)).getD ⟨0,0⟩,ch,false⟩:=by unfold kZ;rw[d3];rfl
 rw[d3,←hde]at hg
 obtain⟨M,m1,m2,m3⟩:=h.mp
 have hll:=h.dn.is.len
 have hi:=Gc s.t (ay o.i (aj l)) ⟨o.i,(kZ l o).ch,true⟩ (by have:=h.small;omega)
 have hp:=m9 m1 (by omega) o.i ⟨(kZ l o).a,(kZ l o).ch,true⟩ hm
 have hdd:(kZ l o).dead=false:=by rw[hde]
 have hf:=u2 h o.i
 refine aD Tryz.f267 Tryz.func267 rfl rfl fun w H B g0=>?_
 (try refine WJ.cut ?_)
 (first|refine Sq.go ?_|refine af (Sq.go ?_)|skip)
 (try refine WJ.cut ?_)
 refine aa hg (fun _ _=>rfl) rfl rfl rfl ?_
 (first|refine Sq.go ?_|refine af (Sq.go ?_)|skip)
 (try refine WJ.cut ?_)
 (repeat (first|refine Spl.t rfl ?_|refine Spl.f rfl ?_))
 refine Spl.f hdd ?_
 (first|refine Sq.go ?_|refine af (Sq.go ?_)|skip)
 (try refine WJ.cut ?_)
 refine aa hf (fun _ _=>rfl) rfl rfl rfl ?_
 (first|refine Sq.go ?_|refine af (Sq.go ?_)|skip)
 (try refine WJ.cut ?_)
 (first|refine Sq.go ?_|refine af (Sq.go ?_)|skip)
 (try refine WJ.cut ?_)
 refine aa hi (fun _ _=>rfl) rfl rfl rfl ?_
 (first|refine Sq.go ?_|refine af (Sq.go ?_)|skip)
 (try refine WJ.cut ?_)
 refine aa hp (fun _ _=>rfl) rfl rfl rfl ?_
 (first|refine Sq.go ?_|refine af (Sq.go ?_)|skip)
 (try refine aq _ _ _ _ ?_)
 exact FinP.open rfl rfl
theorem tW {s:SS}{l:List OP}(h:isS s l){o:OP}(hc:aL o=0)(hw:aw l o≠0)(hk:o.k=1):Cv 267 [stv s,opv o] (.tup [stv s,iv (-1),iv (aw l o)]):=by
 have hg:=rt h o.i
 have hwe:aw l o=if (az 0 o.i l).isSome=true then(if cp l o.i=true then 4 else 0)else 6:=by
  unfold aw;rw[if_neg (fun e=>e hc),if_pos hk]
 rw[hwe]at hw
 rw[hwe]
 cases hf:az 0 o.i l with
 |none=>
  have he:dG l o.i=none:=by unfold dG;rw[hf];rfl
  rw[he]at hg
  refine ab Tryz.f267 Tryz.func267 rfl rfl fun w H B g0=>?_
  refine aa hg (fun _ _=>rfl) rfl rfl rfl ?_
  (repeat (first|refine Spl.t rfl ?_|refine Spl.f rfl ?_))
  exact FinP.open rfl rfl
 |some x=>
  have he:dG l o.i=some ⟨x.a,x.ch,cp l o.i⟩:=by unfold dG;rw[hf];rfl
  rw[he]at hg
  rw[hf,if_pos (show(some x).isSome=true from rfl)]at hw
  have hd:cp l o.i=true:=by
   cases hd:cp l o.i with
   |true=>rfl
   |false=>rw[hd]at hw;exact absurd rfl hw
  rw[if_pos (show(some x).isSome=true from rfl),if_pos hd]
  refine ab Tryz.f267 Tryz.func267 rfl rfl fun w H B g0=>?_
  refine aa hg (fun _ _=>rfl) rfl rfl rfl ?_
  (repeat (first|refine Spl.t rfl ?_|refine Spl.f rfl ?_))
  refine Spl.t hd ?_
  (repeat (first|refine Spl.t rfl ?_|refine Spl.f rfl ?_))
  exact FinP.open rfl rfl
def fP (s:SS)(l:List OP)(o:OP):SS:=if aw l o=0 then(if o.k=1 then EA s l o else En s l o)else s
def ld (l:List OP)(o:OP):List OP:=if aw l o=0 then l++[o]else l
def atO (l:List OP)(o:OP):Int:=if aw l o=0 then ay o.i (aj (l++[o]))else-1
theorem fa {s:SS}{l:List OP}(h:isS s l)(o:OP):isS (fP s l o) (ld l o):=by
 unfold fP ld
 split
 ·next hw=>
  split
  ·next hk=>exact Cg h hw hk
  ·next hk=>
   have:o.k=0:=by rcases(dk (cE hw).1).2 with h|h;exact absurd h.1 hk;exact h.1
   exact BT h hw this
 ·exact h
theorem lq {s:SS}{l:List OP}(h:isS s l)(o:OP):Cv 241 [stv s,opv o] (.tup [stv (fP s l o),iv (atO l o),iv (aw l o)]):=by
 by_cases hc:aL o=0
 ·have hkk:=(dk hc).2
  have hck:=g7 o
  rw[hc]at hck
  by_cases hk:o.k=1
  ·have key:Cv 267 [stv s,opv o] (.tup [stv (fP s l o),iv (atO l o),iv (aw l o)]):=by
    unfold fP atO
    by_cases hw:aw l o=0
    ·obtain⟨n,ch,d1,d2,d3,d4,d5⟩:=mN h.dn hw hk
     have:=yG h hw hk
     rw[if_pos hw,if_pos hk,if_pos hw,hw,d5,←d1];exact this
    ·rw[if_neg hw,if_neg hw];exact tW h hc hw hk
   refine ab Tryz.f241 Tryz.func241 rfl rfl fun w H B g0=>?_
   refine aa hck (fun _ _=>rfl) rfl rfl rfl ?_
   (repeat (first|refine Spl.t rfl ?_|refine Spl.f rfl ?_))
   refine Spl.t (by rw[hk];rfl) ?_
   refine aa key (fun _ _=>rfl) rfl rfl rfl ?_
   (repeat (first|refine Spl.t rfl ?_|refine Spl.f rfl ?_))
   exact FinP.open rfl rfl
  ·have hk0:o.k=0:=by rcases hkk with h|h;exact absurd h.1 hk;exact h.1
   have key:Cv 268 [stv s,opv o] (.tup [stv (fP s l o),iv (atO l o),iv (aw l o)]):=by
    unfold fP atO
    by_cases hw:aw l o=0
    ·have:=zk h hw hk0
     rw[if_pos hw,if_neg hk,if_pos hw,hw,wV h.dn hw hk0];exact this
    ·rw[if_neg hw,if_neg hw];exact uq h hc hw hk0
   refine ab Tryz.f241 Tryz.func241 rfl rfl fun w H B g0=>?_
   refine aa hck (fun _ _=>rfl) rfl rfl rfl ?_
   (repeat (first|refine Spl.t rfl ?_|refine Spl.f rfl ?_))
   refine Spl.f (by rw[hk0];rfl) ?_
   (repeat (first|refine Spl.t rfl ?_|refine Spl.f rfl ?_))
   refine aa key (fun _ _=>rfl) rfl rfl rfl ?_
   (repeat (first|refine Spl.t rfl ?_|refine Spl.f rfl ?_))
   exact FinP.open rfl rfl
 ·have hw:aw l o=aL o:=by unfold aw;rw[if_pos hc]
  have hw0:¬aw l o=0:=by rw[hw];exact hc
  unfold fP atO
  rw[if_neg hw0,if_neg hw0,hw]
  refine ab Tryz.f241 Tryz.func241 rfl rfl fun w H B g0=>?_
  refine aa (g7 o) (fun _ _=>rfl) rfl rfl rfl ?_
  refine Spl.t (by simpa using hc) ?_
  (repeat (first|refine Spl.t rfl ?_|refine Spl.f rfl ?_))
  exact FinP.open rfl rfl
theorem mT:isS ⟨.nil,.nil,0⟩ []:=⟨.nil,rfl,trivial,[],qP,fun _=>rfl,rfl⟩
end Go.Proofs.E
namespace Go.Proofs.E
attribute [local irreducible] elems
abbrev opD (o:OP):List D:=[.v (.int .i64 o.k),.v (.int .i64 o.i.c),.v (.int .i64 o.i.s),.v (.int .i64 o.a.c),.v (.int .i64 o.a.s),.v (.int .i32 o.ch)]
def aw6:List OP:=[⟨0,⟨1,1⟩,⟨0,0⟩,97⟩,⟨0,⟨2,1⟩,⟨1,1⟩,98⟩,⟨0,⟨2,2⟩,⟨1,1⟩,99⟩]
theorem Gt:∃s,isS s aw6∧∃s1 s2,isS s1 [⟨0,⟨1,1⟩,⟨0,0⟩,97⟩]∧isS s2 [⟨0,⟨1,1⟩,⟨0,0⟩,97⟩,⟨0,⟨2,1⟩,⟨1,1⟩,98⟩]∧
 Cv 241 [stv ⟨.nil,.nil,0⟩,opv ⟨0,⟨1,1⟩,⟨0,0⟩,97⟩] (.tup [stv s1,iv 0,iv 0])∧
 Cv 241 [stv s1,opv ⟨0,⟨2,1⟩,⟨1,1⟩,98⟩] (.tup [stv s2,iv 1,iv 0])∧
 Cv 241 [stv s2,opv ⟨0,⟨2,2⟩,⟨1,1⟩,99⟩] (.tup [stv s,iv 1,iv 0]):=by
 have h1:=fa mT ⟨0,⟨1,1⟩,⟨0,0⟩,97⟩
 have a1:=lq mT ⟨0,⟨1,1⟩,⟨0,0⟩,97⟩
 rw[show ld [] ⟨0,⟨1,1⟩,⟨0,0⟩,97⟩=[⟨0,⟨1,1⟩,⟨0,0⟩,97⟩]by decide+kernel]at h1
 rw[show atO [] ⟨0,⟨1,1⟩,⟨0,0⟩,97⟩=0 by decide+kernel,show aw [] ⟨0,⟨1,1⟩,⟨0,0⟩,97⟩=0 by decide+kernel]at a1
 have h2:=fa h1 ⟨0,⟨2,1⟩,⟨1,1⟩,98⟩
 have a2:=lq h1 ⟨0,⟨2,1⟩,⟨1,1⟩,98⟩
 rw[show ld [⟨0,⟨1,1⟩,⟨0,0⟩,97⟩] ⟨0,⟨2,1⟩,⟨1,1⟩,98⟩=[⟨0,⟨1,1⟩,⟨0,0⟩,97⟩,⟨0,⟨2,1⟩,⟨1,1⟩,98⟩]by decide+kernel]at h2
 rw[show atO [⟨0,⟨1,1⟩,⟨0,0⟩,97⟩] ⟨0,⟨2,1⟩,⟨1,1⟩,98⟩=1 by decide+kernel,show aw [⟨0,⟨1,1⟩,⟨0,0⟩,97⟩] ⟨0,⟨2,1⟩,⟨1,1⟩,98⟩=0 by decide+kernel]at a2
 have h3:=fa h2 ⟨0,⟨2,2⟩,⟨1,1⟩,99⟩
 have a3:=lq h2 ⟨0,⟨2,2⟩,⟨1,1⟩,99⟩
 rw[show ld [⟨0,⟨1,1⟩,⟨0,0⟩,97⟩,⟨0,⟨2,1⟩,⟨1,1⟩,98⟩] ⟨0,⟨2,2⟩,⟨1,1⟩,99⟩=aw6 by decide+kernel]at h3
 rw[show atO [⟨0,⟨1,1⟩,⟨0,0⟩,97⟩,⟨0,⟨2,1⟩,⟨1,1⟩,98⟩] ⟨0,⟨2,2⟩,⟨1,1⟩,99⟩=1 by decide+kernel,show aw [⟨0,⟨1,1⟩,⟨0,0⟩,97⟩,⟨0,⟨2,1⟩,⟨1,1⟩,98⟩] ⟨0,⟨2,2⟩,⟨1,1⟩,99⟩=0 by decide+kernel]at a3
 exact⟨_,h3,_,_,h1,h2,a1,a2,a3⟩
theorem CA {s:SS}{l:List OP}(h:isS s l):Cv 152 [tv s.t] (sv (byt (cO (aj l)))):=by
 have:=uO s.t (by have:=h.small;omega) (by rw[h.els];exact uh h.dn)
 rw[h.els]at this;exact this
theorem A9:Cv 249 [] (bv true):=by
 obtain⟨s3,h3,s1,s2,h1,h2,a1,a2,a3⟩:=Gt
 have tx:=CA h3
 have he:byt (cO (aj aw6))=[97,99,98]:=by decide+kernel
 rw[he]at tx
 refine aD Tryz.f249 Tryz.func249 rfl rfl fun w H B g0=>?_
 (try refine WJ.cut ?_)
 (first|refine Sq.go ?_|refine af (Sq.go ?_)|skip)
 (try refine WJ.cut ?_)
 (first|refine Sq.go ?_|refine af (Sq.go ?_)|skip)
 (try refine WJ.cut ?_)
 refine ax (V:=Nat) (fun v=>[(14,iv v)]) (fun v=>[(1,.cells (match v with|0=>[.d TR.nil.d,.d PT.nil.d,iv 0]|1=>[.d s1.t.d,.d s1.p.d,iv s1.n]|2=>[.d s2.t.d,.d s2.p.d,iv s2.n]|_=>[.d s3.t.d,.d s3.p.d,iv s3.n]))]) [1] (fun v=>3-v) (fun v=>v≤3) 0 (by decide) (by repeat' (first|exact trivial|exact rfl|refine And.intro ?_ ?_)) (by repeat' (first|exact trivial|exact rfl|refine And.intro ?_ ?_)) ?_
 intro v hv
 obtain rfl|rfl|rfl|rfl:v=0∨v=1∨v=2∨v=3:=by omega
 ·(repeat (first|refine Spl.t rfl ?_|refine Spl.f rfl ?_))
  refine IdxP.of _ (by decide) rfl ?_
  refine aa a1 (fun _ _=>rfl) rfl rfl rfl ?_
  (repeat (first|refine Spl.t rfl ?_|refine Spl.f rfl ?_))
  exact⟨1,by decide,by decide,(by repeat' (first|exact trivial|exact rfl|refine And.intro ?_ ?_)),(by repeat' (first|exact trivial|exact rfl|refine And.intro ?_ ?_)),(by repeat' (first|exact trivial|exact rfl|refine And.intro ?_ ?_)),(by repeat' (first|exact trivial|exact rfl|refine And.intro ?_ ?_))⟩
 ·(repeat (first|refine Spl.t rfl ?_|refine Spl.f rfl ?_))
  refine IdxP.of _ (by decide) rfl ?_
  refine aa a2 (fun _ _=>rfl) rfl rfl rfl ?_
  (repeat (first|refine Spl.t rfl ?_|refine Spl.f rfl ?_))
  exact⟨2,by decide,by decide,(by repeat' (first|exact trivial|exact rfl|refine And.intro ?_ ?_)),(by repeat' (first|exact trivial|exact rfl|refine And.intro ?_ ?_)),(by repeat' (first|exact trivial|exact rfl|refine And.intro ?_ ?_)),(by repeat' (first|exact trivial|exact rfl|refine And.intro ?_ ?_))⟩
 ·(repeat (first|refine Spl.t rfl ?_|refine Spl.f rfl ?_))
  refine IdxP.of _ (by decide) rfl ?_
  refine aa a3 (fun _ _=>rfl) rfl rfl rfl ?_
  (repeat (first|refine Spl.t rfl ?_|refine Spl.f rfl ?_))
  exact⟨3,by decide,by decide,(by repeat' (first|exact trivial|exact rfl|refine And.intro ?_ ?_)),(by repeat' (first|exact trivial|exact rfl|refine And.intro ?_ ?_)),(by repeat' (first|exact trivial|exact rfl|refine And.intro ?_ ?_)),(by repeat' (first|exact trivial|exact rfl|refine And.intro ?_ ?_))⟩
 ·(repeat (first|refine Spl.t rfl ?_|refine Spl.f rfl ?_))
  (first|refine Sq.go ?_|refine af (Sq.go ?_)|skip)
  (try refine WJ.cut ?_)
  refine aa Bc (fun _ _=>rfl) rfl rfl rfl ?_
  (repeat (first|refine Spl.t rfl ?_|refine Spl.f rfl ?_))
  refine aa Bb (fun _ _=>rfl) rfl rfl rfl ?_
  (repeat (first|refine Spl.t rfl ?_|refine Spl.f rfl ?_))
  refine aa Ba (fun _ _=>rfl) rfl rfl rfl ?_
  (repeat (first|refine Spl.t rfl ?_|refine Spl.f rfl ?_))
  refine aa tx (fun _ _=>rfl) rfl rfl rfl ?_
  (repeat (first|refine Spl.t rfl ?_|refine Spl.f rfl ?_))
  (first|refine Sq.go ?_|refine af (Sq.go ?_)|skip)
  (try refine aq _ _ _ _ ?_)
  exact FinP.open rfl rfl
end Go.Proofs.E
namespace Go.Proofs.E
theorem w32 (x:Int)(h:-2147483648≤x)(h':x≤2147483647):IntKind.i32.wrap x=x:=by
 simp only[IntKind.wrap,IntKind.signed,IntKind.bits];simp;omega
theorem bq (b u m:Int)(hb:0≤b)(hu:0≤u)(hu2:u≤1114111)(hm:0<m)(h:b+u/m<256):IntKind.u8.wrap (IntKind.i32.wrap (b+IntKind.i32.wrap (u.tdiv m)))=b+u/m:=by
 have h1:0≤u/m:=Int.ediv_nonneg hu (by omega)
 rw[Int.tdiv_eq_ediv_of_nonneg hu,w32 (u/m) (by omega) (by omega),w32 _ (by omega) (by omega),fp,Int.emod_eq_of_lt (by omega) h]
theorem bm (u:Int)(hu:0≤u)(hu2:u≤1114111):IntKind.u8.wrap (IntKind.i32.wrap (128+u.tmod 64))=128+u % 64:=by
 rw[Int.tmod_eq_emod_of_nonneg hu,w32 _ (by omega) (by omega),fp,Int.emod_eq_of_lt (by omega) (by omega)]
theorem bqm (u m:Int)(hu:0≤u)(hu2:u≤1114111)(hm:0<m):IntKind.u8.wrap (IntKind.i32.wrap (128+(IntKind.i32.wrap (u.tdiv m)).tmod 64))=128+u/m % 64:=by
 have h1:0≤u/m:=Int.ediv_nonneg hu (by omega)
 have h2:u/m≤u:=Int.ediv_le_self _ hu
 rw[Int.tdiv_eq_ediv_of_nonneg hu,w32 (u/m) (by omega) (by omega),bm _ h1 (by omega)]
theorem Fx (v:Int)(h0:-2147483648≤v)(h1:v≤2147483647):Cv 196 [cv' v] (sv (byt (Lib.encodeRuneZ v))):=by
 by_cases hok:0≤v∧v≤1114111∧¬(55296≤v∧v≤57343)
 ·obtain⟨hU0,hU1,hUs⟩:=hok
  have hUe:Lib.encodeRuneZ v=Lib.encodeRuneZ v:=rfl
  refine ab Tryz.f196 Tryz.func196 rfl rfl fun w H B g0=>?_
  refine Spl.f (decide_eq_false (by omega)) ?_
  (repeat (first|refine Spl.t rfl ?_|refine Spl.f rfl ?_))
  refine Spl.f (decide_eq_false (by omega)) ?_
  (repeat (first|refine Spl.t rfl ?_|refine Spl.f rfl ?_))
  refine Spl.of (fun g=>?_) (fun g=>?_)
  ·have g:=of_decide_eq_true g
   (repeat (first|refine Spl.t rfl ?_|refine Spl.f rfl ?_))
   refine Spl.f (decide_eq_false (by omega)) ?_
   (repeat (first|refine Spl.t rfl ?_|refine Spl.f rfl ?_))
   (have q1:=bq 192 v 64;have q2:=bq 224 v 4096;have q3:=bq 240 v 262144;have m0:=bm v hU0 hU1;have m1:=bqm v 64 hU0 hU1 (by decide);have m2:=bqm v 4096 hU0 hU1 (by decide);refine Spl.of (fun g1=>?_) (fun g1=>?_);(have g1:=of_decide_eq_true g1;(repeat (first|refine Spl.t rfl ?_|refine Spl.f rfl ?_));refine aR (br (ns:=[IntKind.u8.wrap v]) rfl rfl rfl rfl rfl rfl) rfl ?_;refine FinP.open rfl ?_;show AV.d (.v (.string (cZ [IntKind.u8.wrap v])))=_;rw[hUe,Lib.encodeRuneZ_one hU0 (by omega),fp,Int.emod_eq_of_lt hU0 (by omega)];rfl);(have g1:=of_decide_eq_false g1;(repeat (first|refine Spl.t rfl ?_|refine Spl.f rfl ?_));refine Spl.of (fun g2=>?_) (fun g2=>?_);(have g2:=of_decide_eq_true g2;(repeat (first|refine Spl.t rfl ?_|refine Spl.f rfl ?_));refine Req.of (by decide) ?_;refine Req.of (by decide) ?_;refine aR (br (ns:=[IntKind.u8.wrap (IntKind.i32.wrap (192+IntKind.i32.wrap (v.tdiv 64))),IntKind.u8.wrap (IntKind.i32.wrap (128+v.tmod 64))]) rfl rfl rfl rfl rfl rfl) rfl ?_;refine FinP.open rfl ?_;show AV.d (.v (.string (cZ [_,_])))=_;rw[hUe,Lib.encodeRuneZ_two (by omega) (by omega),q1 (by omega) hU0 hU1 (by decide) (by omega),m0];rfl);(have g2:=of_decide_eq_false g2;(repeat (first|refine Spl.t rfl ?_|refine Spl.f rfl ?_));refine Spl.of (fun g3=>?_) (fun g3=>?_);(have g3:=of_decide_eq_true g3;(repeat (first|refine Spl.t rfl ?_|refine Spl.f rfl ?_));refine Req.of (by decide) ?_;refine Req.of (by decide) ?_;refine Req.of (by decide) ?_;refine Req.of (by decide) ?_;refine aR (br (ns:=[IntKind.u8.wrap (IntKind.i32.wrap (224+IntKind.i32.wrap (v.tdiv 4096))),IntKind.u8.wrap (IntKind.i32.wrap (128+(IntKind.i32.wrap (v.tdiv 64)).tmod 64)),IntKind.u8.wrap (IntKind.i32.wrap (128+v.tmod 64))]) rfl rfl rfl rfl rfl rfl) rfl ?_;refine FinP.open rfl ?_;show AV.d (.v (.string (cZ [_,_,_])))=_;rw[hUe,Lib.encodeRuneZ_three (by omega),q2 (by omega) hU0 hU1 (by decide) (by omega),m0,m1];rfl);(have g3:=of_decide_eq_false g3;(repeat (first|refine Spl.t rfl ?_|refine Spl.f rfl ?_));refine Req.of (by decide) ?_;refine Req.of (by decide) ?_;refine Req.of (by decide) ?_;refine Req.of (by decide) ?_;refine Req.of (by decide) ?_;refine Req.of (by decide) ?_;refine aR (br (ns:=[IntKind.u8.wrap (IntKind.i32.wrap (240+IntKind.i32.wrap (v.tdiv 262144))),IntKind.u8.wrap (IntKind.i32.wrap (128+(IntKind.i32.wrap (v.tdiv 4096)).tmod 64)),IntKind.u8.wrap (IntKind.i32.wrap (128+(IntKind.i32.wrap (v.tdiv 64)).tmod 64)),IntKind.u8.wrap (IntKind.i32.wrap (128+v.tmod 64))]) rfl rfl rfl rfl rfl rfl) rfl ?_;refine FinP.open rfl ?_;show AV.d (.v (.string (cZ [_,_,_,_])))=_;rw[hUe,Lib.encodeRuneZ_four (by omega) (by omega),q3 (by omega) hU0 hU1 (by decide) (by omega),m0,m1,m2];rfl))))
  ·(repeat (first|refine Spl.t rfl ?_|refine Spl.f rfl ?_))
   (have q1:=bq 192 v 64;have q2:=bq 224 v 4096;have q3:=bq 240 v 262144;have m0:=bm v hU0 hU1;have m1:=bqm v 64 hU0 hU1 (by decide);have m2:=bqm v 4096 hU0 hU1 (by decide);refine Spl.of (fun g1=>?_) (fun g1=>?_);(have g1:=of_decide_eq_true g1;(repeat (first|refine Spl.t rfl ?_|refine Spl.f rfl ?_));refine aR (br (ns:=[IntKind.u8.wrap v]) rfl rfl rfl rfl rfl rfl) rfl ?_;refine FinP.open rfl ?_;show AV.d (.v (.string (cZ [IntKind.u8.wrap v])))=_;rw[hUe,Lib.encodeRuneZ_one hU0 (by omega),fp,Int.emod_eq_of_lt hU0 (by omega)];rfl);(have g1:=of_decide_eq_false g1;(repeat (first|refine Spl.t rfl ?_|refine Spl.f rfl ?_));refine Spl.of (fun g2=>?_) (fun g2=>?_);(have g2:=of_decide_eq_true g2;(repeat (first|refine Spl.t rfl ?_|refine Spl.f rfl ?_));refine Req.of (by decide) ?_;refine Req.of (by decide) ?_;refine aR (br (ns:=[IntKind.u8.wrap (IntKind.i32.wrap (192+IntKind.i32.wrap (v.tdiv 64))),IntKind.u8.wrap (IntKind.i32.wrap (128+v.tmod 64))]) rfl rfl rfl rfl rfl rfl) rfl ?_;refine FinP.open rfl ?_;show AV.d (.v (.string (cZ [_,_])))=_;rw[hUe,Lib.encodeRuneZ_two (by omega) (by omega),q1 (by omega) hU0 hU1 (by decide) (by omega),m0];rfl);(have g2:=of_decide_eq_false g2;(repeat (first|refine Spl.t rfl ?_|refine Spl.f rfl ?_));refine Spl.of (fun g3=>?_) (fun g3=>?_);(have g3:=of_decide_eq_true g3;(repeat (first|refine Spl.t rfl ?_|refine Spl.f rfl ?_));refine Req.of (by decide) ?_;refine Req.of (by decide) ?_;refine Req.of (by decide) ?_;refine Req.of (by decide) ?_;refine aR (br (ns:=[IntKind.u8.wrap (IntKind.i32.wrap (224+IntKind.i32.wrap (v.tdiv 4096))),IntKind.u8.wrap (IntKind.i32.wrap (128+(IntKind.i32.wrap (v.tdiv 64)).tmod 64)),IntKind.u8.wrap (IntKind.i32.wrap (128+v.tmod 64))]) rfl rfl rfl rfl rfl rfl) rfl ?_;refine FinP.open rfl ?_;show AV.d (.v (.string (cZ [_,_,_])))=_;rw[hUe,Lib.encodeRuneZ_three (by omega),q2 (by omega) hU0 hU1 (by decide) (by omega),m0,m1];rfl);(have g3:=of_decide_eq_false g3;(repeat (first|refine Spl.t rfl ?_|refine Spl.f rfl ?_));refine Req.of (by decide) ?_;refine Req.of (by decide) ?_;refine Req.of (by decide) ?_;refine Req.of (by decide) ?_;refine Req.of (by decide) ?_;refine Req.of (by decide) ?_;refine aR (br (ns:=[IntKind.u8.wrap (IntKind.i32.wrap (240+IntKind.i32.wrap (v.tdiv 262144))),IntKind.u8.wrap (IntKind.i32.wrap (128+(IntKind.i32.wrap (v.tdiv 4096)).tmod 64)),IntKind.u8.wrap (IntKind.i32.wrap (128+(IntKind.i32.wrap (v.tdiv 64)).tmod 64)),IntKind.u8.wrap (IntKind.i32.wrap (128+v.tmod 64))]) rfl rfl rfl rfl rfl rfl) rfl ?_;refine FinP.open rfl ?_;show AV.d (.v (.string (cZ [_,_,_,_])))=_;rw[hUe,Lib.encodeRuneZ_four (by omega) (by omega),q3 (by omega) hU0 hU1 (by decide) (by omega),m0,m1,m2];rfl))))
 ·refine ab Tryz.f196 Tryz.func196 rfl rfl fun w H B g0=>?_
  refine Spl.of (fun g=>?_) (fun g=>?_)
  ·(repeat (first|refine Spl.t rfl ?_|refine Spl.f rfl ?_))
   ((repeat (first|refine Spl.t rfl ?_|refine Spl.f rfl ?_));refine Req.of (by decide) ?_;refine Req.of (by decide) ?_;refine Req.of (by decide) ?_;refine Req.of (by decide) ?_;refine aR (br (ns:=[239,191,189]) rfl rfl rfl rfl rfl rfl) rfl ?_;refine FinP.open rfl ?_;show AV.d (.v (.string (cZ [239,191,189])))=_;rw[Lib.encodeRuneZ_bad (by omega)];rfl)
  ·have g:=of_decide_eq_false g
   (repeat (first|refine Spl.t rfl ?_|refine Spl.f rfl ?_))
   refine Spl.of (fun g4=>?_) (fun g4=>?_)
   ·(repeat (first|refine Spl.t rfl ?_|refine Spl.f rfl ?_))
    ((repeat (first|refine Spl.t rfl ?_|refine Spl.f rfl ?_));refine Req.of (by decide) ?_;refine Req.of (by decide) ?_;refine Req.of (by decide) ?_;refine Req.of (by decide) ?_;refine aR (br (ns:=[239,191,189]) rfl rfl rfl rfl rfl rfl) rfl ?_;refine FinP.open rfl ?_;show AV.d (.v (.string (cZ [239,191,189])))=_;rw[Lib.encodeRuneZ_bad (by omega)];rfl)
   ·have g4:=of_decide_eq_false g4
    (repeat (first|refine Spl.t rfl ?_|refine Spl.f rfl ?_))
    refine Spl.t (decide_eq_true (by omega)) ?_
    (repeat (first|refine Spl.t rfl ?_|refine Spl.f rfl ?_))
    refine Spl.t (decide_eq_true (by omega)) ?_
    (repeat (first|refine Spl.t rfl ?_|refine Spl.f rfl ?_))
    ((repeat (first|refine Spl.t rfl ?_|refine Spl.f rfl ?_));refine Req.of (by decide) ?_;refine Req.of (by decide) ?_;refine Req.of (by decide) ?_;refine Req.of (by decide) ?_;refine aR (br (ns:=[239,191,189]) rfl rfl rfl rfl rfl rfl) rfl ?_;refine FinP.open rfl ?_;show AV.d (.v (.string (cZ [239,191,189])))=_;rw[Lib.encodeRuneZ_bad (by omega)];rfl)
theorem wP {L:List EL}{i:Nat}{e:EL}(h:L[i]?=some e):bx L ((i+1:Nat):Int)=bx L (i:Int)+TR.one e:=by
 unfold bx
 rw[Int.toNat_natCast,Int.toNat_natCast,bJ h,List.filter_append,List.length_append,List.filter_cons,iP]
 cases e.dead<;>simp
theorem BC (L:List EL)(i:Int):bx L i≤L.length:=by
 unfold bx
 exact Nat.le_trans (List.length_filter_le _ _) (by rw[List.length_take];omega)
theorem jK (L:List EL)(i:Int)(hL:L.length≤1000000):Cv 139 [.d (.sl 4 (L.map elD)),iv i] (iv (bx L i)):=by
 have fin:∀k:Nat,k≤L.length→¬((k:Int)<L.length∧(k:Int)<i)→(k=0∨(k:Int)≤i)→(bx L (k:Int):Int)=(bx L i:Int):=fun k hk hn hi=>by
  have:bx L (k:Int)=bx L i:=by
   unfold bx
   rw[Int.toNat_natCast]
   by_cases h:k=L.length
   ·rw[h,List.take_length,List.take_of_length_le (by omega)]
   ·have:i.toNat=k:=by omega
    rw[this]
  rw[this]
 refine ab Tryz.f139 Tryz.func139 rfl rfl fun w H B g0=>?_
 refine ax (V:=Nat) (fun k=>[(6,iv k),(5,iv (bx L (k:Int)))]) (fun _=>[]) [] (fun k=>L.length-k) (fun k=>k≤L.length∧(k=0∨(k:Int)≤i)) 0 ⟨by omega,.inl rfl⟩ ⟨rfl,ao (by simp[bx]),trivial⟩ (by repeat' (first|exact trivial|exact rfl|refine And.intro ?_ ?_)) ?_
 rintro k ⟨hk,hki⟩
 have hr:=BC L (k:Int)
 refine Spl.of (fun h1=>?_) (fun h1=>?_)
 ·have hlt:k<L.length:=by have:=of_decide_eq_true h1;simp at this;omega
  have hx:L[k]?=some L[k]:=by simp
  (repeat (first|refine Spl.t rfl ?_|refine Spl.f rfl ?_))
  refine Spl.of (fun h2=>?_) (fun h2=>?_)
  ·have h2:=of_decide_eq_true h2
   have hsn:=wP hx
   rw[iP]at hsn
   (repeat (first|refine Spl.t rfl ?_|refine Spl.f rfl ?_))
   refine IdxP.of (elD L[k]) (by omega) (by simp[hx]) ?_
   refine Spl.of (fun h3=>?_) (fun h3=>?_)
   ·have h3:L[k].dead=false:=by simpa using h3
    rw[if_neg (by rw[h3];decide)]at hsn
    (repeat (first|refine Spl.t rfl ?_|refine Spl.f rfl ?_))
    exact⟨k+1,⟨by omega,.inr (by omega)⟩,by omega,⟨ao (ah _ (by omega) (by omega)),ao (by rw[ah _ (by omega) (by omega),hsn];omega),trivial⟩,(by repeat' (first|exact trivial|exact rfl|refine And.intro ?_ ?_)),(by repeat' (first|exact trivial|exact rfl|refine And.intro ?_ ?_)),(by repeat' (first|exact trivial|exact rfl|refine And.intro ?_ ?_))⟩
   ·have h3:L[k].dead=true:=by simpa using h3
    rw[if_pos h3]at hsn
    (repeat (first|refine Spl.t rfl ?_|refine Spl.f rfl ?_))
    exact⟨k+1,⟨by omega,.inr (by omega)⟩,by omega,⟨ao (ah _ (by omega) (by omega)),ao (by rw[hsn];rfl),trivial⟩,(by repeat' (first|exact trivial|exact rfl|refine And.intro ?_ ?_)),(by repeat' (first|exact trivial|exact rfl|refine And.intro ?_ ?_)),(by repeat' (first|exact trivial|exact rfl|refine And.intro ?_ ?_))⟩
  ·have h2:=of_decide_eq_false h2
   (repeat (first|refine Spl.t rfl ?_|refine Spl.f rfl ?_))
   exact FinP.open rfl (congrArg iv (fin k hk (by omega) hki))
 ·have h1:=of_decide_eq_false h1
  simp at h1
  (repeat (first|refine Spl.t rfl ?_|refine Spl.f rfl ?_))
  exact FinP.open rfl (congrArg iv (fin k hk (by omega) hki))
theorem An (L:List EL)(hL:L.length≤1000000)(hok:∀e,e∈L→okE e):Cv 158 [.d (.sl 4 (L.map elD))] (sv (byt (cO L))):=by
 have hb:∀a b:List Int,byt (a++b)=byt a++byt b:=fun a b=>by unfold byt;rw[List.map_append]
 refine ab Tryz.f158 Tryz.func158 rfl rfl fun w H B g0=>?_
 refine ax (V:=Nat) (fun k=>[(4,iv k),(3,sv (byt (cO (L.take k))))]) (fun _=>[]) [] (fun k=>L.length-k) (fun k=>k≤L.length) 0 (by omega) ⟨rfl,rfl,trivial⟩ (by repeat' (first|exact trivial|exact rfl|refine And.intro ?_ ?_)) ?_
 intro k hk
 refine Spl.of (fun h1=>?_) (fun h1=>?_)
 ·have hlt:k<L.length:=by have:=of_decide_eq_true h1;simp at this;omega
  have hx:L[k]?=some L[k]:=by simp
  have hlen:(byt (cO (L.take k))).length≤4*L.length:=by
   unfold byt
   rw[List.length_map]
   have:=km (L.take k)
   rw[List.length_take]at this
   omega
  have henc:=Lib.encodeRuneZ_length L[k].ch
  have hsn:cO (L.take (k+1))=cO (L.take k)++(if L[k].dead=true then[]else Lib.encodeRuneZ L[k].ch):=by
   rw[bJ hx,ni]
   congr 1
   rw[cO]
   split<;>simp[cO]
  (repeat (first|refine Spl.t rfl ?_|refine Spl.f rfl ?_))
  refine IdxP.of (elD L[k]) (by omega) (by simp[hx]) ?_
  refine Spl.of (fun h3=>?_) (fun h3=>?_)
  ·have h3:L[k].dead=false:=by simpa using h3
   rw[if_neg (by rw[h3];decide)]at hsn
   obtain⟨o1,o2⟩:=hok L[k] (List.getElem_mem hlt)
   (repeat (first|refine Spl.t rfl ?_|refine Spl.f rfl ?_))
   refine IdxP.of (elD L[k]) (by omega) (by simp[hx]) ?_
   refine aa (Fx L[k].ch o1 o2) (fun _ _=>rfl) rfl rfl rfl ?_
   refine Req.of (by show(byt (cO (L.take k))).length+(byt (Lib.encodeRuneZ L[k].ch)).length≤_;have:(byt (Lib.encodeRuneZ L[k].ch)).length≤4:=(by unfold byt;rw[List.length_map];omega);omega) ?_
   exact⟨k+1,by omega,by omega,⟨ao (ah _ (by omega) (by omega)),kp (by rw[hsn,hb]),trivial⟩,(by repeat' (first|exact trivial|exact rfl|refine And.intro ?_ ?_)),(by repeat' (first|exact trivial|exact rfl|refine And.intro ?_ ?_)),(by repeat' (first|exact trivial|exact rfl|refine And.intro ?_ ?_))⟩
  ·have h3:L[k].dead=true:=by simpa using h3
   rw[if_pos h3,List.append_nil]at hsn
   (repeat (first|refine Spl.t rfl ?_|refine Spl.f rfl ?_))
   exact⟨k+1,by omega,by omega,⟨ao (ah _ (by omega) (by omega)),kp (by rw[hsn]),trivial⟩,(by repeat' (first|exact trivial|exact rfl|refine And.intro ?_ ?_)),(by repeat' (first|exact trivial|exact rfl|refine And.intro ?_ ?_)),(by repeat' (first|exact trivial|exact rfl|refine And.intro ?_ ?_))⟩
 ·have h1:=of_decide_eq_false h1
  simp at h1
  (repeat (first|refine Spl.t rfl ?_|refine Spl.f rfl ?_))
  exact FinP.open rfl (by rw[List.take_of_length_le (by omega)];rfl)
end Go.Proofs.E
namespace Go.Proofs.E
theorem ny (L:List EL):bx L (L.length:Int)=aW L:=by unfold bx aW;rw[Int.toNat_natCast,List.take_length]
end Go.Proofs.E
namespace Go.Proofs.E
def dS (k:Int)(a:ID):List OP→Int
 |[]=>-1
 |o::r=>if o.k=k∧o.i=a then 0 else(if dS k a r<0 then-1 else dS k a r+1)
theorem sF {k:Int}{a:ID}:∀{l:List OP}{n:Nat}{o:OP},l[n]?=some o→o.k=k∧o.i=a→(∀j x,j<n→l[j]?=some x→¬(x.k=k∧x.i=a))→dS k a l=n∧az k a l=some o
 |[],n,o,h,_,_=>by simp at h
 |x::r,0,o,h,ho,_=>by
  simp at h;subst h
  rw[dS,if_pos ho,az,if_pos ho];exact⟨rfl,rfl⟩
 |x::r,n+1,o,h,ho,hn=>by
  have h0:=hn 0 x (by omega) rfl
  obtain⟨h1,h2⟩:=sF (l:=r) (n:=n) (by simpa using h) ho fun j y hj hy=>hn (j+1) y (by omega) (by simpa using hy)
  rw[dS,if_neg h0,az,if_neg h0,h1,if_neg (by omega),h2]
  exact⟨by simp,rfl⟩
theorem j6 {k:Int}{a:ID}:∀{l:List OP},(∀(j:Nat)(x:OP),l[j]?=some x→¬(x.k=k∧x.i=a))→dS k a l=-1∧az k a l=none
 |[],_=>⟨rfl,rfl⟩
 |x::r,hn=>by
  have h0:=hn 0 x rfl
  obtain⟨h1,h2⟩:=j6 (l:=r) fun j y hy=>hn (j+1) y (by simpa using hy)
  rw[dS,if_neg h0,az,if_neg h0,h1,h2];exact⟨rfl,rfl⟩
theorem iX (k:Int)(a:ID)(l:List OP):(dS k a l=-1∧az k a l=none)∨∃(n:Nat)(o:OP),dS k a l=n∧l[n]?=some o∧az k a l=some o:=by
 by_cases h:∃(n:Nat)(o:OP),l[n]?=some o∧(o.k=k∧o.i=a)
 ·right
  obtain⟨n,o,h1,h2⟩:=h
  induction l generalizing n with
  |nil=>simp at h1
  |cons x r ih=>
   by_cases hx:x.k=k∧x.i=a
   ·exact⟨0,x,by rw[dS,if_pos hx];rfl,rfl,by rw[az,if_pos hx]⟩
   ·cases n with
    |zero=>simp at h1;subst h1;exact absurd h2 hx
    |succ n=>
     obtain⟨m,y,h3,h4,h5⟩:=ih n (by simpa using h1)
     exact⟨m+1,y,by rw[dS,if_neg hx,h3,if_neg (by omega)];simp,by simpa using h4,by rw[az,if_neg hx,h5]⟩
 ·left
  exact j6 fun j x hj hx=>h ⟨j,x,hj,hx⟩
theorem rg (l:List OP)(k:Int)(a:ID)(hl:l.length≤1000000):Cv 217 [.d (.sl 6 (l.map opD)),iv k,idv a] (iv (dS k a l)):=by
 refine ab Tryz.f217 Tryz.func217 rfl rfl fun w H B g0=>?_
 refine ax (V:=Nat) (fun i=>[(7,iv i)]) (fun _=>[]) [] (fun i=>l.length-i) (fun i=>i≤l.length∧∀(j:Nat)(y:OP),j<i→l[j]?=some y→¬(y.k=k∧y.i=a)) 0 ⟨by omega,fun j y h=>by omega⟩ (by repeat' (first|exact trivial|exact rfl|refine And.intro ?_ ?_)) (by repeat' (first|exact trivial|exact rfl|refine And.intro ?_ ?_)) ?_
 intro i ⟨hi,hne⟩
 refine Spl.of (fun h1=>?_) (fun h1=>?_)
 ·have hlt:i<l.length:=by have:=of_decide_eq_true h1;simp at this;omega
  have hx:l[i]?=some l[i]:=by simp
  have next:¬(l[i].k=k∧l[i].i=a)→∀(j:Nat)(y:OP),j<i+1→l[j]?=some y→¬(y.k=k∧y.i=a):=fun hn j y hj hy=>by
   by_cases h:j=i
   ·subst h;rw[hx]at hy;cases hy;exact hn
   ·exact hne j y (by omega) hy
  (repeat (first|refine Spl.t rfl ?_|refine Spl.f rfl ?_))
  refine RegP.of rfl (by decide+kernel) ?_
  refine IdxP.of (opD l[i]) (by omega) (by simp[hx]) ?_
  refine Spl.of (fun h2=>?_) (fun h2=>?_)
  ·have h2:l[i].k=k:=of_decide_eq_true h2
   (repeat (first|refine Spl.t rfl ?_|refine Spl.f rfl ?_))
   refine IdxP.of (opD l[i]) (by omega) (by simp[hx]) ?_
   (repeat (first|refine Spl.t rfl ?_|refine Spl.f rfl ?_))
   refine QuietP.of (O.eqT 3 rfl rfl rfl rfl rfl jb mv (eqR l[i].i a)) ?_
   (repeat (first|refine Spl.t rfl ?_|refine Spl.f rfl ?_))
   refine Spl.of (fun h3=>?_) (fun h3=>?_)
   ·have h3:l[i].i=a:=of_decide_eq_true h3
    (repeat (first|refine Spl.t rfl ?_|refine Spl.f rfl ?_))
    refine FinP.open rfl (congrArg iv ?_)
    exact(sF hx ⟨h2,h3⟩ hne).1.symm
   ·have h3:¬l[i].i=a:=of_decide_eq_false h3
    (repeat (first|refine Spl.t rfl ?_|refine Spl.f rfl ?_))
    exact⟨i+1,⟨by omega,next fun e=>h3 e.2⟩,by omega,⟨ao (ah _ (by omega) (by omega)),trivial⟩,(by repeat' (first|exact trivial|exact rfl|refine And.intro ?_ ?_)),(by repeat' (first|exact trivial|exact rfl|refine And.intro ?_ ?_)),(by repeat' (first|exact trivial|exact rfl|refine And.intro ?_ ?_))⟩
  ·have h2:¬l[i].k=k:=of_decide_eq_false h2
   (repeat (first|refine Spl.t rfl ?_|refine Spl.f rfl ?_))
   exact⟨i+1,⟨by omega,next fun e=>h2 e.1⟩,by omega,⟨ao (ah _ (by omega) (by omega)),trivial⟩,(by repeat' (first|exact trivial|exact rfl|refine And.intro ?_ ?_)),(by repeat' (first|exact trivial|exact rfl|refine And.intro ?_ ?_)),(by repeat' (first|exact trivial|exact rfl|refine And.intro ?_ ?_))⟩
 ·have h1:=of_decide_eq_false h1
  simp at h1
  (repeat (first|refine Spl.t rfl ?_|refine Spl.f rfl ?_))
  refine FinP.open rfl (congrArg iv ?_)
  exact(j6 fun j x hj=>hne j x (by have:=(List.getElem?_eq_some_iff.1 hj).1;omega) hj).1.symm
theorem tq (L:List EL)(a:ID)(hL:L.length≤1000000):Cv 181 [.d (.sl 4 (L.map elD)),idv a] (iv (ay a L)):=by
 refine ab Tryz.f181 Tryz.func181 rfl rfl fun w H B g0=>?_
 refine ax (V:=Nat) (fun i=>[(5,iv i)]) (fun _=>[]) [] (fun i=>L.length-i) (fun i=>i≤L.length∧∀(j:Nat)(y:EL),j<i→L[j]?=some y→y.id≠a) 0 ⟨by omega,fun j y h=>by omega⟩ (by repeat' (first|exact trivial|exact rfl|refine And.intro ?_ ?_)) (by repeat' (first|exact trivial|exact rfl|refine And.intro ?_ ?_)) ?_
 intro i ⟨hi,hne⟩
 refine Spl.of (fun h1=>?_) (fun h1=>?_)
 ·have hlt:i<L.length:=by have:=of_decide_eq_true h1;simp at this;omega
  have hx:L[i]?=some L[i]:=by simp
  (repeat (first|refine Spl.t rfl ?_|refine Spl.f rfl ?_))
  refine RegP.of rfl (by decide+kernel) ?_
  refine IdxP.of (elD L[i]) (by omega) (by simp[hx]) ?_
  refine QuietP.of (O.eqT 3 rfl rfl rfl rfl rfl jb mv (eqR L[i].id a)) ?_
  refine Spl.of (fun h2=>?_) (fun h2=>?_)
  ·have he:L[i].id=a:=of_decide_eq_true h2
   (repeat (first|refine Spl.t rfl ?_|refine Spl.f rfl ?_))
   refine FinP.open rfl (congrArg iv ?_)
   exact(jw hx he hne).symm
  ·have he:¬L[i].id=a:=of_decide_eq_false h2
   (repeat (first|refine Spl.t rfl ?_|refine Spl.f rfl ?_))
   exact⟨i+1,⟨by omega,fun j y hj hy=>by
    by_cases h:j=i
    ·subst h;rw[hx]at hy;cases hy;exact he
    ·exact hne j y (by omega) hy⟩,by omega,⟨ao (ah _ (by omega) (by omega)),trivial⟩,(by repeat' (first|exact trivial|exact rfl|refine And.intro ?_ ?_)),(by repeat' (first|exact trivial|exact rfl|refine And.intro ?_ ?_)),(by repeat' (first|exact trivial|exact rfl|refine And.intro ?_ ?_))⟩
 ·have h1:=of_decide_eq_false h1
  simp at h1
  (repeat (first|refine Spl.t rfl ?_|refine Spl.f rfl ?_))
  refine FinP.open rfl (congrArg iv ?_)
  exact(fV fun e he=>by obtain⟨j,hj⟩:=List.getElem?_of_mem he;exact hne j e (by have:=(List.getElem?_eq_some_iff.1 hj).1;omega) hj).symm
end Go.Proofs.E
namespace Go.Proofs.E
theorem FY (o p:OP):eqT Tryz.prog 4 110 [.int .i64 o.k,.int .i64 o.i.c,.int .i64 o.i.s,.int .i64 o.a.c,.int .i64 o.a.s,.int .i32 o.ch] [.int .i64 p.k,.int .i64 p.i.c,.int .i64 p.i.s,.int .i64 p.a.c,.int .i64 p.a.s,.int .i32 p.ch]=some (decide (o=p)):=by
 show some (decide (o.k=p.k)&&((decide (o.i.c=p.i.c)&&(decide (o.i.s=p.i.s)&&true))&&((decide (o.a.c=p.a.c)&&(decide (o.a.s=p.a.s)&&true))&&(decide (o.ch=p.ch)&&true))))=_
 obtain⟨a,⟨b,c⟩,⟨d,e⟩,f⟩:=o
 obtain⟨a',⟨b',c'⟩,⟨d',e'⟩,f'⟩:=p
 simp[Bool.and_assoc,and_assoc]
theorem vJ:j7 Tryz.prog 4 110=true:=by kernel_rfl
theorem zE:Tryz.prog.eqGuardType Tryz.prog.depth 110=false:=by kernel_rfl
theorem pN {l:List OP}{i:Nat}{x:OP}(h:l[i]?=some x):(aZ (l.take (i+1))).length=(aZ (l.take i)).length+(if x.k=0 then 1 else 0):=by
 rw[bJ h]
 by_cases hk:x.k=0
 ·rw[b7 hk,if_pos hk,List.length_append];rfl
 ·rw[cJ hk,if_neg hk];rfl
theorem kR (l:List OP):(aZ l).length≤l.length:=List.length_filter_le _ _
theorem o7 (l:List OP)(o:OP)(hl:l.length≤1000000):Cv 172 [.d (.sl 6 (l.map opD)),opv o] (iv (aw l o)):=by
 have h00:=rg l 0 o.i hl
 have h1i:=rg l 1 o.i hl
 have h0a:=rg l 0 o.a hl
 have isN:∀(k:Int)(a:ID),decide (dS k a l<0)=!(az k a l).isSome:=fun k a=>by
  rcases iX k a l with⟨e1,e2⟩|⟨n,x,e1,_,e2⟩
  ·rw[e1,e2];rfl
  ·rw[e1,e2,decide_eq_false (by omega)];rfl
 have isG:∀(k:Int)(a:ID),decide (dS k a l≥0)=(az k a l).isSome:=fun k a=>by
  rcases iX k a l with⟨e1,e2⟩|⟨n,x,e1,_,e2⟩
  ·rw[e1,e2];rfl
  ·rw[e1,e2,decide_eq_true (by omega)];rfl
 refine aD Tryz.f172 Tryz.func172 rfl rfl fun w H B g0=>?_
 (try refine WJ.cut ?_)
 (first|refine Sq.go ?_|refine af (Sq.go ?_)|skip)
 (try refine WJ.cut ?_)
 refine aa (l9 o) (fun _ _=>rfl) rfl rfl rfl ?_
 (first|refine Sq.go ?_|refine af (Sq.go ?_)|skip)
 (try refine WJ.cut ?_)
 refine Spl.of (fun h1=>?_) (fun h1=>?_)
 ·have h1:aL o≠0:=by simpa using h1
  (repeat (first|refine Spl.t rfl ?_|refine Spl.f rfl ?_))
  refine .out (by simp) ?_
  refine FinP.open rfl (congrArg iv ?_)
  unfold aw;rw[if_pos h1]
 have h1:aL o=0:=by simpa using h1
 (first|refine Sq.go ?_|refine af (Sq.go ?_)|skip)
 (try refine WJ.cut ?_)
 refine aa h00 (fun _ _=>rfl) rfl rfl rfl ?_
 (first|refine Sq.go ?_|refine af (Sq.go ?_)|skip)
 (try refine WJ.cut ?_)
 refine Spl.of (fun h2=>?_) (fun h2=>?_)
 ·have h2:o.k=1:=of_decide_eq_true h2
  have hw:aw l o=if (az 0 o.i l).isSome=true then(if cp l o.i=true then 4 else 0)else 6:=by unfold aw;rw[if_neg (fun e=>e h1),if_pos h2]
  (repeat (first|refine Spl.t rfl ?_|refine Spl.f rfl ?_))
  refine Spl.of (fun h3=>?_) (fun h3=>?_)
  ·rw[isN]at h3
   have h3:(az 0 o.i l).isSome=false:=by simpa using h3
   (repeat (first|refine Spl.t rfl ?_|refine Spl.f rfl ?_))
   refine .out (by simp) ?_
   refine FinP.open rfl (congrArg iv ?_)
   rw[hw,h3];rfl
  ·rw[isN]at h3
   have h3:(az 0 o.i l).isSome=true:=by simpa using h3
   rw[if_pos h3]at hw
   (repeat (first|refine Spl.t rfl ?_|refine Spl.f rfl ?_))
   refine aa h1i (fun _ _=>rfl) rfl rfl rfl ?_
   (repeat (first|refine Spl.t rfl ?_|refine Spl.f rfl ?_))
   refine Spl.of (fun h4=>?_) (fun h4=>?_)
   ·rw[isG]at h4
    (repeat (first|refine Spl.t rfl ?_|refine Spl.f rfl ?_))
    refine .out (by simp) ?_
    refine FinP.open rfl (congrArg iv ?_)
    rw[hw,if_pos (show cp l o.i=true from h4)]
   ·rw[isG]at h4
    (repeat (first|refine Spl.t rfl ?_|refine Spl.f rfl ?_))
    refine .out (by simp) ?_
    refine FinP.open rfl (congrArg iv ?_)
    rw[hw,if_neg (show¬cp l o.i=true by unfold cp;rw[h4];decide)]
 have h2:¬o.k=1:=of_decide_eq_false h2
 have hw:aw l o=if az 0 o.i l=some o then 4 else if (az 0 o.i l).isSome=true then 5 else if o.a≠⟨0,0⟩∧(az 0 o.a l).isSome=false then 6 else if 4096≤(aZ l).length then 7 else 0:=by
  unfold aw;rw[if_neg (fun e=>e h1),if_neg h2]
 (first|refine Sq.go ?_|refine af (Sq.go ?_)|skip)
 (try refine WJ.cut ?_)
 refine RegP.of rfl (by decide+kernel) ?_
 refine Spl.of (fun h3=>?_) (fun h3=>?_)
 ·
  have h3':0≤dS 0 o.i l:=of_decide_eq_true h3
  obtain⟨n,x,e1,e2,e3⟩:∃(n:Nat)(x:OP),dS 0 o.i l=n∧l[n]?=some x∧az 0 o.i l=some x:=by
   rcases iX 0 o.i l with⟨e1,_⟩|h
   ·omega
   ·exact h
  have hlt:=(List.getElem?_eq_some_iff.1 e2).1
  rw[e3]at hw
  (repeat (first|refine Spl.t rfl ?_|refine Spl.f rfl ?_))
  refine IdxP.of (opD x) (by rw[e1];simp;try omega) (by rw[e1];simp[e2]) ?_
  (repeat (first|refine Spl.t rfl ?_|refine Spl.f rfl ?_))
  refine QuietP.of (O.eqT 4 rfl rfl rfl rfl rfl vJ zE (FY x o)) ?_
  refine Spl.of (fun h4=>?_) (fun h4=>?_)
  ·have h4:x=o:=of_decide_eq_true h4
   (repeat (first|refine Spl.t rfl ?_|refine Spl.f rfl ?_))
   refine .out (by simp) ?_
   refine FinP.open rfl (congrArg iv ?_)
   rw[hw,if_pos (by rw[h4])]
  ·have h4:¬x=o:=of_decide_eq_false h4
   (repeat (first|refine Spl.t rfl ?_|refine Spl.f rfl ?_))
   (first|refine Sq.go ?_|refine af (Sq.go ?_)|skip)
   (try refine WJ.cut ?_)
   refine Spl.t h3 ?_
   (repeat (first|refine Spl.t rfl ?_|refine Spl.f rfl ?_))
   refine .out (by simp) ?_
   refine FinP.open rfl (congrArg iv ?_)
   rw[hw,if_neg (fun e=>h4 (Option.some.inj e))];simp
 ·have h3':¬0≤dS 0 o.i l:=of_decide_eq_false h3
  have e3:az 0 o.i l=none:=by
   rcases iX 0 o.i l with⟨_,e2⟩|⟨n,x,e1,_⟩
   ·exact e2
   ·omega
  rw[e3,if_neg (by simp),if_neg (by simp)]at hw
  (repeat (first|refine Spl.t rfl ?_|refine Spl.f rfl ?_))
  (first|refine Sq.go ?_|refine af (Sq.go ?_)|skip)
  (try refine WJ.cut ?_)
  refine Spl.f h3 ?_
  (first|refine Sq.go ?_|refine af (Sq.go ?_)|skip)
  (try refine WJ.cut ?_)
  refine aR (we 3 rfl rfl rfl rfl rfl jb mv (eqR o.a ⟨0,0⟩)) rfl ?_
  refine Spl.of (fun h4=>?_) (fun h4=>?_)
  ·have h4:o.a≠⟨0,0⟩:=by simpa using h4
   (repeat (first|refine Spl.t rfl ?_|refine Spl.f rfl ?_))
   refine aa h0a (fun _ _=>rfl) rfl rfl rfl ?_
   (repeat (first|refine Spl.t rfl ?_|refine Spl.f rfl ?_))
   refine Spl.of (fun h5=>?_) (fun h5=>?_)
   ·rw[isN]at h5
    have h5:(az 0 o.a l).isSome=false:=by simpa using h5
    (repeat (first|refine Spl.t rfl ?_|refine Spl.f rfl ?_))
    refine .out (by simp) ?_
    refine FinP.open rfl (congrArg iv ?_)
    rw[hw,if_pos ⟨h4,h5⟩]
   ·rw[isN]at h5
    have h5:(az 0 o.a l).isSome=true:=by simpa using h5
    have hno:¬(o.a≠⟨0,0⟩∧(az 0 o.a l).isSome=false):=fun e=>by rw[h5]at e;cases e.2
    (repeat (first|refine Spl.t rfl ?_|refine Spl.f rfl ?_))
    ((first|refine Sq.go ?_|refine af (Sq.go ?_)|skip);(try refine WJ.cut ?_);(first|refine Sq.go ?_|refine af (Sq.go ?_)|skip);(try refine WJ.cut ?_);refine ax (V:=Nat) (fun i=>[(8,iv i),(7,iv ((aZ (l.take i)).length:Nat))]) (fun _=>[]) [] (fun i=>l.length-i) (fun i=>i≤l.length) 0 (by omega) ⟨rfl,rfl,trivial⟩ (by repeat' (first|exact trivial|exact rfl|refine And.intro ?_ ?_)) ?_;intro i hi;have hci:=kR (l.take i);have htl:=List.length_take (i:=i) (l:=l);(refine Spl.of (fun g1=>?_) (fun g1=>?_);(have hlt:i<l.length:=(by have:=of_decide_eq_true g1;simp at this;omega);have hx:l[i]?=some l[i]:=(by simp);have hsn:=pN hx;(repeat (first|refine Spl.t rfl ?_|refine Spl.f rfl ?_));refine IdxP.of (opD l[i]) (by omega) (by simp[hx]) ?_;refine Spl.of (fun g2=>?_) (fun g2=>?_);(have g2:l[i].k=0:=of_decide_eq_true g2;rw[if_pos g2]at hsn;(repeat (first|refine Spl.t rfl ?_|refine Spl.f rfl ?_));exact⟨i+1,by omega,by omega,⟨ao (ah _ (by omega) (by omega)),ao (by rw[ah _ (by omega) (by omega),hsn];omega),trivial⟩,(by repeat' (first|exact trivial|exact rfl|refine And.intro ?_ ?_)),(by repeat' (first|exact trivial|exact rfl|refine And.intro ?_ ?_)),(by repeat' (first|exact trivial|exact rfl|refine And.intro ?_ ?_))⟩);(have g2:¬l[i].k=0:=of_decide_eq_false g2;rw[if_neg g2]at hsn;(repeat (first|refine Spl.t rfl ?_|refine Spl.f rfl ?_));exact⟨i+1,by omega,by omega,⟨ao (ah _ (by omega) (by omega)),ao (by rw[hsn];rfl),trivial⟩,(by repeat' (first|exact trivial|exact rfl|refine And.intro ?_ ?_)),(by repeat' (first|exact trivial|exact rfl|refine And.intro ?_ ?_)),(by repeat' (first|exact trivial|exact rfl|refine And.intro ?_ ?_))⟩));(have g1:=of_decide_eq_false g1;simp at g1;have hall:l.take i=l:=List.take_of_length_le (by omega);rw[hall];(repeat (first|refine Spl.t rfl ?_|refine Spl.f rfl ?_));(first|refine Sq.go ?_|refine af (Sq.go ?_)|skip);(try refine WJ.cut ?_);refine Spl.of (fun g3=>?_) (fun g3=>?_);(have g3:=of_decide_eq_true g3;(repeat (first|refine Spl.t rfl ?_|refine Spl.f rfl ?_));refine .out (by simp) ?_;refine FinP.open rfl (congrArg iv ?_);rw[hw,if_neg hno,if_pos (by omega)]);(have g3:=of_decide_eq_false g3;(first|refine Sq.go ?_|refine af (Sq.go ?_)|skip);(try refine aq _ _ _ _ ?_);refine FinP.open rfl (congrArg iv ?_);rw[hw,if_neg hno,if_neg (by omega)]))))
  ·have h4:o.a=⟨0,0⟩:=by simpa using h4
   have hno:¬(o.a≠⟨0,0⟩∧(az 0 o.a l).isSome=false):=fun e=>e.1 h4
   (repeat (first|refine Spl.t rfl ?_|refine Spl.f rfl ?_))
   ((first|refine Sq.go ?_|refine af (Sq.go ?_)|skip);(try refine WJ.cut ?_);(first|refine Sq.go ?_|refine af (Sq.go ?_)|skip);(try refine WJ.cut ?_);refine ax (V:=Nat) (fun i=>[(8,iv i),(7,iv ((aZ (l.take i)).length:Nat))]) (fun _=>[]) [] (fun i=>l.length-i) (fun i=>i≤l.length) 0 (by omega) ⟨rfl,rfl,trivial⟩ (by repeat' (first|exact trivial|exact rfl|refine And.intro ?_ ?_)) ?_;intro i hi;have hci:=kR (l.take i);have htl:=List.length_take (i:=i) (l:=l);(refine Spl.of (fun g1=>?_) (fun g1=>?_);(have hlt:i<l.length:=(by have:=of_decide_eq_true g1;simp at this;omega);have hx:l[i]?=some l[i]:=(by simp);have hsn:=pN hx;(repeat (first|refine Spl.t rfl ?_|refine Spl.f rfl ?_));refine IdxP.of (opD l[i]) (by omega) (by simp[hx]) ?_;refine Spl.of (fun g2=>?_) (fun g2=>?_);(have g2:l[i].k=0:=of_decide_eq_true g2;rw[if_pos g2]at hsn;(repeat (first|refine Spl.t rfl ?_|refine Spl.f rfl ?_));exact⟨i+1,by omega,by omega,⟨ao (ah _ (by omega) (by omega)),ao (by rw[ah _ (by omega) (by omega),hsn];omega),trivial⟩,(by repeat' (first|exact trivial|exact rfl|refine And.intro ?_ ?_)),(by repeat' (first|exact trivial|exact rfl|refine And.intro ?_ ?_)),(by repeat' (first|exact trivial|exact rfl|refine And.intro ?_ ?_))⟩);(have g2:¬l[i].k=0:=of_decide_eq_false g2;rw[if_neg g2]at hsn;(repeat (first|refine Spl.t rfl ?_|refine Spl.f rfl ?_));exact⟨i+1,by omega,by omega,⟨ao (ah _ (by omega) (by omega)),ao (by rw[hsn];rfl),trivial⟩,(by repeat' (first|exact trivial|exact rfl|refine And.intro ?_ ?_)),(by repeat' (first|exact trivial|exact rfl|refine And.intro ?_ ?_)),(by repeat' (first|exact trivial|exact rfl|refine And.intro ?_ ?_))⟩));(have g1:=of_decide_eq_false g1;simp at g1;have hall:l.take i=l:=List.take_of_length_le (by omega);rw[hall];(repeat (first|refine Spl.t rfl ?_|refine Spl.f rfl ?_));(first|refine Sq.go ?_|refine af (Sq.go ?_)|skip);(try refine WJ.cut ?_);refine Spl.of (fun g3=>?_) (fun g3=>?_);(have g3:=of_decide_eq_true g3;(repeat (first|refine Spl.t rfl ?_|refine Spl.f rfl ?_));refine .out (by simp) ?_;refine FinP.open rfl (congrArg iv ?_);rw[hw,if_neg hno,if_pos (by omega)]);(have g3:=of_decide_eq_false g3;(first|refine Sq.go ?_|refine af (Sq.go ?_)|skip);(try refine aq _ _ _ _ ?_);refine FinP.open rfl (congrArg iv ?_);rw[hw,if_neg hno,if_neg (by omega)]))))
end Go.Proofs.E
end
section
namespace Go.Gv
open Go.RowKit
theorem xI (A:Addr):A.add 0=A:=by simp[Addr.add]
section cut
variable {X:Cx} {d:Option Nat} {ty:TypeId} {pos:String} {aft:Array Edge} {g:Option (Nat×Bool)} {t:T} {σ:Sg} {K:T→Sg→Prop}
theorem tD {st e:TypeId}{x ho:Operand}{i k n:Nat}{kk:IntKind}{m:Int}(hx:ge t x=some (.arr i k n))(hho:ge t ho=some (.d (.v (.int kk m))))(hu:X.P.underlying st=some (.slice e))(hs:fu X.P e=some k)(h0:0≤m)(h1:m≤(n:Int)):
 QJ X ⟨d,.slice st x none (some ho) none,ty,pos,aft,g⟩ t σ (.suf i k 0 m.toNat):=
 QJ.value (by simp) (fun γ H ac w so sm=>by
  have hr:=so x (by simp[Op.operands]) _ hx
  generalize hq:ac.eval x=q at hr
  cases hr with
  |arr _ _ _ A hn hA=>
   have hb:=fJ (P:=X.P) (w:=w) (γ:=γ) (H:=H) (a:=ac) (isS:=true) (lo:=none) (hi:=some ho) (len:=n) (cap:=(γ i).n) (t:=t) (l:=0) (h:=m) rfl (by simp[hiV,hho]) (by omega) h0 h1 hn (fun y hy v hv=>so y (by
    rcases hy with hy|hy
    ·cases hy
    ·cases hy;simp[Op.operands]) v hv)
   refine⟨.slice A m.toNat (γ i).n,?_,.suf i k 0 m.toNat A (by omega) (fun h=>by rw[hA h,Nat.zero_mul])⟩
   simp only[Option.map_none,Option.map_some]at hb
   simp only[execOp,hq,Instr.sliceAt,Instr.slice,Sem.run_bind,run_underlying hu,Result.andThen_ok,Option.map_none,Option.map_some,hb,aK hs,Sem.run_pure]
   simp only[Int.toNat_zero,Nat.zero_mul,Nat.sub_zero]
   have:(A.map fun x=>x.add 0)=A:=by cases A<;>simp[xI]
   simp[this])
theorem tC {st e:TypeId}{x lo:Operand}{i k n:Nat}{kk:IntKind}{m:Int}(hx:ge t x=some (.arr i k n))(hlo:ge t lo=some (.d (.v (.int kk m))))(hu:X.P.underlying st=some (.slice e))(hs:fu X.P e=some k)(h0:0≤m)(h1:m≤(n:Int)):
 QJ X ⟨d,.slice st x (some lo) none none,ty,pos,aft,g⟩ t σ (.suf i k m.toNat (n-m.toNat)):=
 QJ.value (by simp) (fun γ H ac w so sm=>by
  have hr:=so x (by simp[Op.operands]) _ hx
  generalize hq:ac.eval x=q at hr
  cases hr with
  |arr _ _ _ A hn hA=>
   have hb:=fJ (P:=X.P) (w:=w) (γ:=γ) (H:=H) (a:=ac) (isS:=true) (lo:=some lo) (hi:=none) (len:=n) (cap:=(γ i).n) (t:=t) (l:=m) (h:=n) (by simp[loV,hlo]) rfl h0 h1 (by omega) hn (fun y hy v hv=>so y (by
    rcases hy with hy|hy
    ·cases hy;simp[Op.operands]
    ·cases hy) v hv)
   refine⟨.slice (if (γ i).n=m.toNat then A else A.map (·.add (m.toNat*k))) (n-m.toNat) ((γ i).n-m.toNat),?_,.suf i k m.toNat (n-m.toNat) _ (by omega) (fun h=>?_)⟩
   ·simp only[Option.map_none,Option.map_some]at hb
    simp only[execOp,hq,Instr.sliceAt,Instr.slice,Sem.run_bind,run_underlying hu,Result.andThen_ok,Option.map_none,Option.map_some,hb,aK hs,Sem.run_pure]
    simp
   ·rw[if_neg (by omega),hA (by omega)]
    simp only[Option.map_some,Addr.add]
    split
    ·next e=>rw[e]
    ·simp)
structure Flat (X:Cx)(H:HF)(w:World)(u:Value)(k:Nat)(ys:List (List D))(vs:List Value):Prop where
 fc:∀w':World,w'.heap=w.heap→(Builtin.firstCells k ys.length u).run X.P w'=.ok vs.toArray w'
 ln:∀w':World,(Builtin.lenOf u).run X.P w'=.ok ys.length w'
 vl:vs.length=ys.length*k
 yk:∀cs,cs∈ys→cs.length=k
 rp:∀(j l:Nat)(cs:List D)(a:D)(u:Value),ys[j]?=some cs→cs[l]?=some a→vs[j*k+l]?=some u→RepD H a u
def FlatQ (X:Cx)(t:T)(σ:Sg)(y:Operand)(k:Nat)(ys:List (List D)):Prop:=∀γ H (a:Act) w,(∀v,ge t y=some v→Rep γ H v (a.eval y))→Mem X.w0 X.H0 X.B γ H σ w→∃vs,Flat X H w (a.eval y) k ys vs
theorem FlatQ.suf {y:Operand}{i k l n:Nat}{xs:List (List D)}(hy:ge t y=some (.suf i k l n))(hi:look i σ=some (.arr k xs))(hl:l+n≤xs.length):FlatQ X t σ y k ((xs.drop l).take n):=by
 intro γ H a w so sm
 have hr:=so _ hy
 generalize hq:a.eval y=q at hr
 cases hr with
 |suf _ _ _ _ A hn hA=>
 obtain⟨hle,hxk,hreal⟩:=sm.ent i _ hi
 have hlen:((xs.drop l).take n).length=n:=by simp;omega
 have hget:∀j cs,((xs.drop l).take n)[j]?=some cs→xs[l+j]?=some cs∧j<n:=fun j cs hj=>by
  rw[List.getElem?_take]at hj
  split at hj
  ·rw[List.getElem?_drop]at hj;exact⟨hj,by assumption⟩
  ·cases hj
 by_cases h0:n=0
 ·subst h0
  refine⟨[],fun w' _=>?_,fun w'=>?_,by simp,fun cs hcs=>by simp at hcs,fun j l' cs a' u h=>by simp at h⟩
  ·rw[hlen];cases A<;>simp[Builtin.firstCells,loadCells,loadCellsFrom]
  ·rw[hlen];exact dI
 ·have hA':=hA (by omega)
  subst hA'
  obtain⟨tt,us,h3,h4,h5⟩:=hreal (by omega)
  have hfit:l*k+n*k≤us.length:=by rw[h4,←Nat.add_mul];exact Nat.mul_le_mul_right _ hn
  refine⟨(us.drop (l*k)).take (n*k),fun w' hw'=>?_,fun w'=>?_,?_,fun cs hcs=>hxk cs (List.mem_of_mem_drop (List.mem_of_mem_take hcs)),fun j l' cs a' u hj hl' hu=>?_⟩
  ·rw[hlen]
   have:=du (P:=X.P) (w:=w') (b:=(γ i).b) (vs:=fun p=>us.getD (l*k+p) undef) (n*k) (l*k) 0 #[] (fun p hp=>by
    have h6:w'.heap[(γ i).b]?=some (.cells us.toArray tt (0,0)):=by rw[hw'];exact h3
    rw[aU h6]
    simp[List.getElem?_eq_getElem (show l*k+p<us.length by omega)])
   simp only[Builtin.firstCells,loadCells]
   rw[this]
   congr 1
   apply Array.toList_inj.1
   simp only[List.nil_append,List.append_toArray,List.toList_toArray,Array.toList_append]
   apply List.ext_getElem?
   intro p
   simp only[List.getElem?_map,List.getElem?_take,List.getElem?_drop]
   by_cases hp:p<n*k
   ·rw[if_pos hp,List.getElem?_range' (by omega)]
    simp[List.getElem?_eq_getElem (show l*k+p<us.length by omega)]
   ·rw[if_neg hp,List.getElem?_eq_none (by simp;omega)];rfl
  ·rw[hlen];exact dI
  ·rw[List.length_take,List.length_drop,hlen];omega
  ·obtain⟨h6,h7⟩:=hget j cs hj
   rw[List.getElem?_take]at hu
   split at hu
   ·rw[List.getElem?_drop]at hu
    refine h5 (l+j) l' cs a' u h6 hl' ?_
    rw[Nat.add_mul,Nat.add_assoc];exact hu
   ·cases hu
theorem FlatQ.data {y:Operand}{k:Nat}{ys:List (List D)}{av:AV}(hy:ge t y=some av)(hel:elems av=some (k,ys)):FlatQ X t σ y k ys:=by
 intro γ H a w so sm
 have hry:=dy (so _ hy) hel
 obtain⟨hyk,hylen⟩:=cF hry
 obtain⟨B,cy,vs,hqy,hfc,hvl,hvone,hvrep⟩:=dW (P:=X.P) hry
 refine⟨vs,fun w' hw'=>hfc w' fun b o v h=>?_,fun w'=>by rw[hqy];exact dI,hvl,hyk,hvrep⟩
 have:=sm.hok.c b o v h
 simp only[World.cell?,hw']at this ⊢;exact this
theorem uV {x y:Operand}{st xt el:TypeId}{k bytes:Nat}{z:Value}{xs ys:List (List D)}{av0:AV}(hx:ge t x=some av0)(hfu:FullIs av0 k xs)(hy:FlatQ X t σ y k ys)
 (hu:X.P.underlying st=some (.slice el))(hxu:X.P.underlying xt=some (.slice el))(hz:∀w,(sizeOf el).run X.P w=.ok k w)(hzv:∀w,(zeroValue el).run X.P w=.ok z w)(hzl:z.cells.size=k)
 (hb:∀w,((fun i:TypeInfo=>i.bytes) <$>typeInfo el).run X.P w=.ok bytes w)(hb0:bytes≠0)(hbytes:(3*(xs.length+ys.length)+4096)*bytes≤281474976710656)
 (hm:xs.length+ys.length≤9223372036854775807):
 QJ X ⟨d,.call {callee:=.builtin .append,args:=#[x,y],argTypes:=#[st,xt]},ty,pos,aft,g⟩ t σ (.d (.sl k (xs++ys))):=by
 intro γ H a w hl so sm next Q' hk
 obtain⟨A,hq,hrx⟩:=hfu.rep (so x (by simp[Op.operands,Call.operands]) _ hx)
 obtain⟨hxk,_⟩:=cF hrx
 obtain⟨vs,hfv⟩:=hy γ H a w (fun v hv=>so y (by simp[Op.operands,Call.operands]) v hv) sm
 obtain⟨Bx,cx,us,hqx,hfx,hul,huone,hurep⟩:=dW (P:=X.P) hrx
 have hexec:∀r:Result Value,(Builtin.append_ #[st,xt] ty #[.slice A xs.length xs.length,a.eval y]).run X.P w=r→(execOp a.eval ⟨d,.call {callee:=.builtin .append,args:=#[x,y],argTypes:=#[st,xt]},ty,pos,aft,g⟩).run X.P w=
  r.andThen fun v w=>.ok (.value v) w:=fun r h=>by
  simp only[execOp,resolve,invoke,builtin,List.map_toArray,List.map_cons,List.map_nil,Sem.run_bind,Sem.run_pure,Result.andThen_ok,hq,h]
 by_cases hroom:xs.length+ys.length≤xs.length
 ·have hy0:ys=[]:=List.length_eq_zero_iff.1 (by omega)
  subst hy0
  have hrun:=eF (P:=X.P) (w:=w) (ty:=ty) (A:=A) (n:=xs.length) (c:=xs.length) hu hxu hz hfv.ln (hfv.fc w rfl) (Nat.le_refl _)
  have hv0:vs=[]:=List.length_eq_zero_iff.1 (by rw[hfv.vl];simp)
  subst hv0
  have hrun':(Builtin.append_ #[st,xt] ty #[.slice A xs.length xs.length,a.eval y]).run X.P w=.ok (.slice A xs.length xs.length) w:=by
   rw[hrun];cases A<;>simp[storeCells]
  rw[aG (by simp),hexec _ hrun',Result.andThen_ok,Oper.uponIn_value]
  refine hk _ γ [] H w (sm.refl γ) (.d _ _ ?_)
  rw[List.append_nil]
  rw[hq]at hrx;exact hrx
 ·have hus:∀w':World,w'.heap=w.heap→(Builtin.firstCells k xs.length (.slice A xs.length xs.length)).run X.P w'=.ok us.toArray w':=fun w' hw'=>by
   rw[←hq]
   exact hfx w' fun b o v h=>by
    have:=sm.hok.c b o v h
    simp only[World.cell?,hw']at this ⊢;exact this
  obtain⟨cap,hcap,hrun⟩:=eG (P:=X.P) (w:=w) (ty:=ty) (A:=A) (n:=xs.length) (c:=xs.length) (us:=us) (vs:=vs) hu hxu hz hzv hb hfv.ln hfv.fc hus (by omega) hbytes hb0
  rw[aG (by simp),hexec _ hrun,Result.andThen_ok,Oper.uponIn_value]
  have hzc:(Builtin.zeroCells z.cells (cap-(xs.length+ys.length))).toList.length=(cap-(xs.length+ys.length))*k:=by
   simp[Builtin.zeroCells,hzl]
  have hm0:=sm.drew.new 0 (.arr k (xs++ys)) (.cells (us++vs++(Builtin.zeroCells z.cells (cap-(xs.length+ys.length))).toList).toArray el) cap
   ⟨by rw[ap,List.length_append];exact hcap,fun cs hcs=>by rcases List.mem_append.1 hcs with h|h;exact hxk cs h;exact hfv.yk cs h,fun _=>by
    rw[ap]
    refine⟨el,_,World.alloc_heap_new _ _,?_,?_⟩
    ·rw[List.length_append,List.length_append,hzc,hul,hfv.vl,←Nat.add_mul,←Nat.add_mul]
     congr 1
     show xs.length+ys.length+(cap-(xs.length+ys.length))=cap
     omega
    ·have hvl:=hfv.vl
     refine fL hxk hfv.yk hurep hfv.rp (fun p hp=>?_) (fun p hp=>?_)
     ·rw[List.append_assoc,List.getElem?_append_left (by omega)]
     ·rw[List.append_assoc,List.getElem?_append_right (by omega),hul,show xs.length*k+p-xs.length*k=p from by omega,List.getElem?_append_left (by omega)]⟩ (fun _ _ h=>by cases h)
  have hm':Mem w H (fun _=>False) (upd γ 0 ⟨w.heap.size,cap,fun _=>False⟩) H [(0,.arr k (xs++ys))] (w.drew.alloc (.cells (us++vs++(Builtin.zeroCells z.cells (cap-(xs.length+ys.length))).toList).toArray el)):=
   ⟨⟨hm0.keep.os,hm0.keep.tape,hm0.keep.output,hm0.keep.size,hm0.keep.block⟩,hm0.hle,⟨hm0.hnew.c,hm0.hnew.m⟩,hm0.hok,hm0.ent,hm0.free,hm0.fresh,hm0.apart⟩
  have hl0:look 0 ([(0,Ent.arr k (xs++ys))]:Sg)=some (.arr k (xs++ys)):=by rw[ae,if_pos rfl]
  obtain⟨H',ok,hk2⟩:=hm'.pub hl0 rfl
  have hj:=hm'.join (σr:=[]) hk2 (fun b hb=>⟨0,_,hl0,rfl,hb⟩) (Wk.nil _) (fun i e h=>by cases h) (fun i e h=>by cases h)
  refine hk _ _ _ H' _ hj (.d _ _ ?_)
  have h3:=ok (xs.length+ys.length) (some ⟨w.heap.size,0,none⟩) (by simp) (by rw[ap];exact hcap) (fun _=>by rw[ap]) hm
  rw[List.take_of_length_le (by simp),ap]at h3
  exact h3
theorem iA {x y:Operand}{st xt:TypeId}{k:Nat}{xs ys:List (List D)}{av0:AV}(hx:ge t x=some av0)(hfu:FullIs av0 k xs)(hy:FlatQ X t σ y k ys)(hI:eP X.P st xt=some k)(hb:xs.length+ys.length≤1000000000):
 QJ X ⟨d,.call {callee:=.builtin .append,args:=#[x,y],argTypes:=#[st,xt]},ty,pos,aft,g⟩ t σ (.d (.sl k (xs++ys))):=by
 obtain⟨el,z,bytes,h1,h2,h3,h4,h5,h6,h7,h8⟩:=fD hI
 exact uV hx hfu hy h1 h2 h3 h4 h5 h6 h7 (gW hb h8) (by omega)
theorem qg (j:Nat){i k n:Nat}(hj:look j t=some (.suf i k 0 n)):SJ X t σ ((j,.arr i k n)::t) σ:=
 SJ.view j hj fun γ H u r=>by
  cases r with
  |suf _ _ _ _ A hn hA=>
   rw[Nat.sub_zero]
   exact .arr i k n A (by omega) (fun h=>by rw[hA h,Nat.zero_mul])
theorem v9 (i m:Nat){k:Nat}{xs:List (List D)}(hi:look i σ=some (.arr k xs)):SJ X t σ t ((i,.arr k (xs.take m))::σ):=fun γ H a w s=>by
 have g:∀j f,look j ((i,Ent.arr k (xs.take m))::σ)=some f→∀b,blk γ j f b→∃f',look j σ=some f'∧blk γ j f' b:=fun j f hj b hb=>by
  rw[ae]at hj
  split at hj
  ·next e=>subst e;cases hj;exact⟨_,hi,hb⟩
  ·exact⟨f,hj,hb⟩
 refine⟨γ,H,s.lam,s.round,let⟨ms,h1,h2⟩:=s.defers;⟨ms,h1,h2.1,fun b hb=>⟨(h2.2 b hb).1,(h2.2 b hb).2.1,fun⟨j,f,hj,hbb⟩=>(h2.2 b hb).2.2 (let⟨f',h3,h4⟩:=g j f hj b hbb;⟨j,f',h3,h4⟩)⟩⟩,s.size,s.pinned,s.tmp,
  s.mem.keep,s.mem.hle,s.mem.hnew,s.mem.hok,fun j f hj=>?_,fun j f hj b hb=>let⟨f',h3,h4⟩:=g j f hj b hb;s.mem.free j f' h3 b h4,fun j f hj b hb=>let⟨f',h3,h4⟩:=g j f hj b hb;s.mem.fresh j f' h3 b h4,
  fun j f k f2 b hj hk hb hb'=>let⟨f',h3,h4⟩:=g j f hj b hb;let⟨f2',h5,h6⟩:=g k f2 hk b hb';s.mem.apart j f' k f2' b h3 h5 h4 h6⟩
 rw[ae]at hj
 split at hj
 ·next e=>
  subst e;cases hj
  obtain⟨h1,h2,h3⟩:=s.mem.ent j _ hi
  refine⟨Nat.le_trans (by rw[List.length_take];omega) h1,fun cs hcs=>h2 cs (List.mem_of_mem_take hcs),fun hc=>?_⟩
  obtain⟨tt,us,h4,h5,h6⟩:=h3 hc
  refine⟨tt,us,h4,h5,fun j l cs a u hj hl hu=>?_⟩
  rw[List.getElem?_take]at hj
  split at hj
  ·exact h6 j l cs a u hj hl hu
  ·cases hj
 ·exact s.mem.ent j f hj
end cut
end Go.Gv
namespace Go.Gv
open Go.RowKit
def HF.cut (H:HF)(b:Nat):HF:=⟨fun c o=>if c=b then none else H.c c o,fun c=>if c=b then none else H.m c⟩
inductive Rd (i k n:Nat)(xs:List (List D)):List AV→List AV→Prop where
 |nil:Rd i k n xs [] []
 |same (a:AV) {l m:List AV} (h:a.open=true) (r:Rd i k n xs l m):Rd i k n xs (a::l) (a::m)
 |row {l m:List AV} (r:Rd i k n xs l m):Rd i k n xs (.arr i k n::l) (.d (.sl k xs)::m)
theorem Rd.get {i k n:Nat}{xs:List (List D)}{l m:List AV}(h:Rd i k n xs l m):l.length=m.length∧∀(j:Nat)(b:AV),m[j]?=some b→∃a,l[j]?=some a∧((a=b∧a.open=true)∨(a=.arr i k n∧b=.d (.sl k xs))):=by
 induction h with
 |nil=>exact⟨rfl,fun j b h=>by simp at h⟩
 |same a ho _ ih=>
  refine⟨by simp[ih.1],fun j b hb=>?_⟩
  cases j with
  |zero=>simp at hb;exact⟨a,rfl,.inl ⟨hb,ho⟩⟩
  |succ j=>exact ih.2 j b (by simpa using hb)
 |row _ ih=>
  refine⟨by simp[ih.1],fun j b hb=>?_⟩
  cases j with
  |zero=>simp at hb;exact⟨_,rfl,.inr ⟨rfl,hb.symm⟩⟩
  |succ j=>exact ih.2 j b (by simpa using hb)
end Go.Gv
namespace Go.Gv
open Go.RowKit
section nilsl
variable {X:Cx} {d:Option Nat} {ty:TypeId} {pos:String} {aft:Array Edge} {g:Option (Nat×Bool)} {t:T} {σ:Sg} {K:T→Sg→Prop}
theorem uB {P:Program}{tt e:TypeId}{w:World}(n:Nat){A:Option Addr}{a b:Nat}(hu:P.underlying tt=some (.slice e)):(Op.equalIn (n+1) tt (.slice A a b) (.slice none 0 0)).run P w=.ok A.isNone w:=by cases A<;>simp[Op.equalIn,underlying,hu]
theorem na {x y:Operand}{ot yt e:TypeId}{k:Nat}{xs:List (List D)}(hx:ge t x=some (.d (.sl k xs)))(hy:ge t y=some (.d (.v (.slice none 0 0))))(hu:X.P.underlying ot=some (.slice e))(hN:dOk d X.N=true)
 (kk:∀b:Bool,(b=true→xs=[])→K (putT d (.d (.v (.bool b))) t) σ):OpJ X ⟨d,.binOp .eql ot x y yt,ty,pos,aft,g⟩ t σ K:=by
 intro γ H a w s next Q' hk
 have hr:=eS (aT s.tmp hx)
 have e2:=aV (aT s.tmp hy)
 generalize hq:a.eval x=q at hr
 cases hr with
 |sl _ _ A c b o us hkk hn hc hA hH hrr=>
 have hexec:(execOp a.eval ⟨d,.binOp .eql ot x y yt,ty,pos,aft,g⟩).run X.P w=.ok (.value (.bool A.isNone)) w:=by
  have h9:(Op.equal ot (.slice A xs.length c) (.slice none 0 0)).run X.P w=.ok A.isNone w:=cK.trans (uB 9999 hu)
  simp[execOp,hq,e2,eqGuard,binOp,h9]
 rw[aG (by simp),hexec,Oper.uponIn_value]
 refine hk γ H _ _ _ w (s.calm (d:=d) (V:=.d (.v (.bool A.isNone))) (s.mem.refl γ) hN (.d _ _ (.v _ rfl))) (kk _ fun hb=>?_)
 rcases Nat.eq_zero_or_pos xs.length with h|h
 ·exact List.length_eq_zero_iff.1 h
 ·rw[hA h]at hb;cases hb
end nilsl
theorem Ct.view {Λ:Amb}{P:Program}{f:FuncId}{avs bvs:List AV}{σ:Sg}{Q:AV→Sg→Prop}(h:Ct Λ P f avs σ Q)(hl:bvs.length=avs.length)
 (hv:∀(j:Nat)(a b:AV),avs[j]?=some a→bvs[j]?=some b→∀γ H u,Rep γ H b u→Rep γ H a u):Ct Λ P f bvs σ Q:=
 fun ro γ H w vs h1 h2 h3 h4=>h ro γ H w vs h1 h2 (h3.trans hl) fun j a u ha hu=>by
  have hj:j<bvs.length:=by rw[hl];exact(List.getElem?_eq_some_iff.1 ha).1
  exact hv j a bvs[j] ha (by simp[hj]) γ H u (h4 j bvs[j] u (by simp[hj]) hu)
end Go.Gv
namespace Go.Gv
open Go.RowKit
section birth
variable {X:Cx} {d:Option Nat} {ty:TypeId} {pos:String} {aft:Array Edge} {g:Option (Nat×Bool)} {t:T} {σ:Sg}
theorem B.appendF {i:Nat}{x y:Operand}{st xt el:TypeId}{k bytes:Nat}{z:Value}{xs ys:List (List D)}{av0:AV}(hx:ge t x=some av0)(hfu:FullIs av0 k xs)(hy:FlatQ X t σ y k ys)
 (hu:X.P.underlying st=some (.slice el))(hxu:X.P.underlying xt=some (.slice el))(hz:∀w,(sizeOf el).run X.P w=.ok k w)(hzv:∀w,(zeroValue el).run X.P w=.ok z w)(hzl:z.cells.size=k)
 (hb:∀w,((fun i:TypeInfo=>i.bytes) <$>typeInfo el).run X.P w=.ok bytes w)(hb0:bytes≠0)(hbytes:(3*(xs.length+ys.length)+4096)*bytes≤281474976710656)(hne:ys≠[]∨xs=[]):
 BirthJ X ⟨d,.call {callee:=.builtin .append,args:=#[x,y],argTypes:=#[st,xt]},ty,pos,aft,g⟩ t σ i (.arr i k (xs.length+ys.length)) (.arr k (xs++ys)):=by
 intro γ H a w so sm
 obtain⟨A,hq,hrx⟩:=hfu.rep (so x (by simp[Op.operands,Call.operands]) _ hx)
 obtain⟨hxk,_⟩:=cF hrx
 obtain⟨vs,hfv⟩:=hy γ H a w (fun v hv=>so y (by simp[Op.operands,Call.operands]) v hv) sm
 obtain⟨Bx,cx,us,hqx,hfx,hul,huone,hurep⟩:=dW (P:=X.P) hrx
 have hexec:∀(v:Value)(w':World),(Builtin.append_ #[st,xt] ty #[.slice A xs.length xs.length,a.eval y]).run X.P w=.ok v w'→((⟨d,.call {callee:=.builtin .append,args:=#[x,y],argTypes:=#[st,xt]},ty,pos,aft,g⟩:Oper).semAt X.ro a.eval).run X.P w=.ok (.value v) w':=fun v w' h=>by
  rw[aG (by simp)]
  simp only[execOp,resolve,invoke,builtin,List.map_toArray,List.map_cons,List.map_nil,Sem.run_bind,Sem.run_pure,Result.andThen_ok,hq,h]
 by_cases hroom:xs.length+ys.length≤xs.length
 ·have hy0:ys=[]:=List.length_eq_zero_iff.1 (by omega)
  have hx0:xs=[]:=by rcases hne with h|h;exact absurd hy0 h;exact h
  subst hx0;subst hy0
  have hrun:=eF (P:=X.P) (w:=w) (ty:=ty) (A:=A) (n:=0) (c:=0) hu hxu hz hfv.ln (hfv.fc w rfl) (Nat.le_refl _)
  have hv0:vs=[]:=List.length_eq_zero_iff.1 (by rw[hfv.vl];simp)
  subst hv0
  have hrun':(Builtin.append_ #[st,xt] ty #[.slice A ([]:List (List D)).length ([]:List (List D)).length,a.eval y]).run X.P w=.ok (.slice A 0 0) w:=by
   simp only[List.length_nil]at hrun ⊢
   rw[hrun];cases A<;>simp[storeCells]
  refine⟨_,0,w,hexec _ _ hrun',nP sm.hok γ i k,?_⟩
  have:=Rep.arr (γ:=upd γ i ⟨w.heap.size,0,fun _=>False⟩) (H:=H) i k 0 A
  rw[ap]at this
  exact this (Nat.zero_le _) (fun h=>by simp at h)
 ·have hus:∀w':World,w'.heap=w.heap→(Builtin.firstCells k xs.length (.slice A xs.length xs.length)).run X.P w'=.ok us.toArray w':=fun w' hw'=>by
   rw[←hq]
   exact hfx w' fun b o v h=>by
    have:=sm.hok.c b o v h
    simp only[World.cell?,hw']at this ⊢;exact this
  obtain⟨cap,hcap,hrun⟩:=eG (P:=X.P) (w:=w) (ty:=ty) (A:=A) (n:=xs.length) (c:=xs.length) (us:=us) (vs:=vs) hu hxu hz hzv hb hfv.ln hfv.fc hus (by omega) hbytes hb0
  have hzc:(Builtin.zeroCells z.cells (cap-(xs.length+ys.length))).toList.length=(cap-(xs.length+ys.length))*k:=by
   simp[Builtin.zeroCells,hzl]
  have hm0:=sm.drew.new i (.arr k (xs++ys)) (.cells (us++vs++(Builtin.zeroCells z.cells (cap-(xs.length+ys.length))).toList).toArray el) cap
   ⟨by rw[ap,List.length_append];exact hcap,fun cs hcs=>by rcases List.mem_append.1 hcs with h|h;exact hxk cs h;exact hfv.yk cs h,fun _=>by
    rw[ap]
    refine⟨el,_,World.alloc_heap_new _ _,?_,?_⟩
    ·rw[List.length_append,List.length_append,hzc,hul,hfv.vl,←Nat.add_mul,←Nat.add_mul]
     congr 1
     show xs.length+ys.length+(cap-(xs.length+ys.length))=cap
     omega
    ·have hvl:=hfv.vl
     refine fL hxk hfv.yk hurep hfv.rp (fun p hp=>?_) (fun p hp=>?_)
     ·rw[List.append_assoc,List.getElem?_append_left (by omega)]
     ·rw[List.append_assoc,List.getElem?_append_right (by omega),hul,show xs.length*k+p-xs.length*k=p from by omega,List.getElem?_append_left (by omega)]⟩ (fun _ _ h=>by cases h)
  have hm':Mem w H (fun _=>False) (upd γ i ⟨w.heap.size,cap,fun _=>False⟩) H [(i,.arr k (xs++ys))] (w.drew.alloc (.cells (us++vs++(Builtin.zeroCells z.cells (cap-(xs.length+ys.length))).toList).toArray el)):=
   ⟨⟨hm0.keep.os,hm0.keep.tape,hm0.keep.output,hm0.keep.size,hm0.keep.block⟩,hm0.hle,⟨hm0.hnew.c,hm0.hnew.m⟩,hm0.hok,hm0.ent,hm0.free,hm0.fresh,hm0.apart⟩
  refine⟨_,cap,_,hexec _ _ hrun,hm',?_⟩
  have:=Rep.arr (γ:=upd γ i ⟨w.heap.size,cap,fun _=>False⟩) (H:=H) i k (xs.length+ys.length) (some ⟨w.heap.size,0,none⟩)
  rw[ap]at this
  exact this hcap (fun _=>rfl)
theorem B.appF {i:Nat}{x y:Operand}{st xt:TypeId}{k:Nat}{xs ys:List (List D)}{av0:AV}(hx:ge t x=some av0)(hfu:FullIs av0 k xs)(hy:FlatQ X t σ y k ys)(hI:eP X.P st xt=some k)(hb:xs.length+ys.length≤1000000000)(hne:ys≠[]∨xs=[]):
 BirthJ X ⟨d,.call {callee:=.builtin .append,args:=#[x,y],argTypes:=#[st,xt]},ty,pos,aft,g⟩ t σ i (.arr i k (xs.length+ys.length)) (.arr k (xs++ys)):=by
 obtain⟨el,z,bytes,h1,h2,h3,h4,h5,h6,h7,h8⟩:=fD hI
 exact B.appendF hx hfu hy h1 h2 h3 h4 h5 h6 h7 (gW hb h8) hne
end birth
end Go.Gv
end
