/- Laws that the claim's text stands on: part M9 of them. -/
import Derived.Test.YtaojepfldokjdaaGreatDoorM1
import Derived.Test.YtaojepfldokjdaaGreatDoorM2
import Derived.Test.YtaojepfldokjdaaGreatDoorM3
import Derived.Test.YtaojepfldokjdaaGreatDoorM4
import Derived.Test.YtaojepfldokjdaaGreatDoorDShelf
import Derived.Test.YtaojepfldokjdaaGreatDoorM5
import Derived.Test.YtaojepfldokjdaaGreatDoorM6
import Derived.Test.YtaojepfldokjdaaGreatDoorM7
import Derived.Test.YtaojepfldokjdaaGreatDoorM8
import Derived.Shelf.SlMaps.Clone
set_option linter.unusedVariables false
set_option linter.unusedSimpArgs false
section
open Go Go.Gv
attribute [local irreducible] Go.Gv.WJ Go.Gv.OpJ Go.Gv.QJ Go.Gv.Spl Go.Gv.Req Go.Gv.IdxP Go.Gv.RegP Go.Gv.FinP Go.Gv.CellP Go.Gv.CellsP Go.Gv.ArrP Go.Gv.ArrsP Go.Gv.DropP Go.Gv.ByteP Go.Gv.StoreP
set_option maxRecDepth 100000
namespace Go.Proofs.E
attribute [local irreducible] PutP LookP
abbrev sW (l:List TA):AV:=if kc l=true then .tup [.d (.sl 1 ((iL l).cs.map clD)),bv true]else .tup [.d (.v (.slice none 0 0)),bv false]
theorem cW (l:List (List Int))(c:List Int):l.map clD++[clD c]=(l++[c]).map clD:=by simp
theorem DJ {s:CS}{i:Nat}(h:i<s.th.length):(s.th.map clv)[i]?=some (clv (s.th.getD i [])):=by
 rw[List.getElem?_map,List.getElem?_eq_getElem h,List.getD_eq_getElem?_getD,List.getElem?_eq_getElem h];rfl
abbrev SC0 (th:List (List Int))(sg:List (Int×List Int))(cs:List (List Int)):Sg:=[(4,.cells (th.map clv)),(10,.mp false (sg.map fun p=>eM.val p.1) (sg.map fun p=>clD p.2)),(6,.arr 1 (cs.map clD))]
theorem Eg {α:Type}{l:List α}(h:l.length=16):∃a0 a1 a2 a3 a4 a5 a6 a7 a8 a9 a10 a11 a12 a13 a14 a15,l=[a0,a1,a2,a3,a4,a5,a6,a7,a8,a9,a10,a11,a12,a13,a14,a15]:=by
 match l,h with
 |[a0,a1,a2,a3,a4,a5,a6,a7,a8,a9,a10,a11,a12,a13,a14,a15],_=>exact⟨_,_,_,_,_,_,_,_,_,_,_,_,_,_,_,_,rfl⟩
theorem Bo (th:List (List Int))(i:Nat)(c:List Int):bI (th.map clv) (0+i*1) [clv c]=(th.set i c).map clv:=by rw[Nat.mul_one,Nat.zero_add,List.map_set];rfl
theorem yz (th:List (List Int))(i:Nat)(c:List Int):List.map (Go.Gv.drop 6) (bI (th.map clv) (0+i*1) [clv c])=(th.set i c).map clv:=by rw[Bo,List.map_map];rfl
theorem rq (d:List Int)(hd:d.length≤1000000):Cv 129 [.d (.v (.slice none 0 0)),clv d] (clv (da [] d)):=by
 refine Ct.view (lm [] d (by decide) hd) rfl fun j a b ha hb γ H u r=>?_
 match j,ha,hb with
 |0,ha,hb=>cases ha;cases hb;exact ar 1 r
 |1,ha,hb=>cases ha;cases hb;exact r
set_option maxHeartbeats 2000000 in
theorem zO (l:List TA)(hl:l.length≤1000):Cv 62 [.d (.sl 3 (l.map taD))] (sW l):=by
 refine ab Tryz.f62 Tryz.func62 rfl rfl fun w H B g0=>?_
 refine WJ.shift (fm 6 6 1 rfl rfl) ?_
 refine WJ.shift (aH 4 0 rfl rfl fun _ _ _ h=>ar 1 h) ?_
 refine WJ.shift (aH 4 1 rfl rfl fun _ _ _ h=>ar 1 h) ?_
 refine WJ.shift (aH 4 2 rfl rfl fun _ _ _ h=>ar 1 h) ?_
 refine WJ.shift (aH 4 3 rfl rfl fun _ _ _ h=>ar 1 h) ?_
 refine WJ.shift (aH 4 4 rfl rfl fun _ _ _ h=>ar 1 h) ?_
 refine WJ.shift (aH 4 5 rfl rfl fun _ _ _ h=>ar 1 h) ?_
 refine WJ.shift (aH 4 6 rfl rfl fun _ _ _ h=>ar 1 h) ?_
 refine WJ.shift (aH 4 7 rfl rfl fun _ _ _ h=>ar 1 h) ?_
 refine WJ.shift (aH 4 8 rfl rfl fun _ _ _ h=>ar 1 h) ?_
 refine WJ.shift (aH 4 9 rfl rfl fun _ _ _ h=>ar 1 h) ?_
 refine WJ.shift (aH 4 10 rfl rfl fun _ _ _ h=>ar 1 h) ?_
 refine WJ.shift (aH 4 11 rfl rfl fun _ _ _ h=>ar 1 h) ?_
 refine WJ.shift (aH 4 12 rfl rfl fun _ _ _ h=>ar 1 h) ?_
 refine WJ.shift (aH 4 13 rfl rfl fun _ _ _ h=>ar 1 h) ?_
 refine WJ.shift (aH 4 14 rfl rfl fun _ _ _ h=>ar 1 h) ?_
 refine WJ.shift (aH 4 15 rfl rfl fun _ _ _ h=>ar 1 h) ?_
 refine WJ.shift (SJ.wk (t':=[(4,.box 4 0),(0,.d (.sl 3 (l.map taD))),(5,.mp 10),(6,.arr 6 1 0),(11,.d (.sl 3 (l.map taD))),(12,iv (l.map taD).length),(13,iv 0)]) (σ':=[(4,.cells ((List.replicate 16 ([]:List Int)).map clv)),(10,.mp false [] []),(6,.arr 1 [])]) (Wk.cons rfl (Wk.cons rfl (Wk.cons rfl (Wk.cons rfl (Wk.cons rfl (Wk.cons rfl (Wk.cons rfl (Wk.nil _)))))))) (Wk.cons rfl (Wk.cons rfl (Wk.cons rfl (Wk.nil _))))) ?_
 refine ax (V:=Nat) (fun i=>[(13,iv i),(6,.arr 6 1 i)]) (fun i=>SC0 (iL (l.take i)).th (iL (l.take i)).sg (iL (l.take i)).cs) [4,10,6] (fun i=>l.length-i) (fun i=>i≤l.length∧∀a,a∈l.take i→dt a=true) 0 ⟨Nat.zero_le _,fun _ h=>by simp at h⟩ (by repeat' (first|exact trivial|exact rfl|refine And.intro ?_ ?_)) (by rw[List.take_zero];exact(by repeat' (first|exact trivial|exact rfl|refine And.intro ?_ ?_))) ?_
 rintro i ⟨hi,hall⟩
 obtain⟨th,sg,hI⟩:=Ds hl i hi hall
 have hrl:=rT (l.take i)
 rw[List.length_take,Nat.min_eq_left hi]at hrl
 refine Spl.of (fun h1=>?_) (fun h1=>?_)
 ·have hlt:i<l.length:=by have:=of_decide_eq_true h1;simp at this;omega
  have hx:=jz hlt
  have hy:=Er hlt
  have hsn:=jR hy
  have hno:=fun h=>EQ hy h
  have hst:=pB (l.take i) (l.getD i AC0)
  rw[←hsn]at hst
  have hall':dt (l.getD i AC0)=true→∀a,a∈l.take (i+1)→dt a=true:=fun h a ha=>by
   rw[hsn]at ha
   rcases List.mem_append.1 ha with h1|h1
   ·exact hall a h1
   ·rw[List.mem_singleton.1 h1];exact h
  generalize l.getD i AC0=a at hx hy hsn hno hst hall'
  generalize iL (l.take i)=s at hrl hst hI ⊢
  obtain⟨x0,x1,x2,x3,x4,x5,x6,x7,x8,x9,x10,x11,x12,x13,x14,x15,hth⟩:=Eg hI.n16
  rw[hth]
  (repeat (first|refine Spl.t rfl ?_|refine Spl.f rfl ?_))
  refine IdxP.of (taD a) (by omega) (by rw[Int.toNat_natCast];exact hx) ?_
  refine aa (C0 a) (fun _ _=>rfl) rfl rfl rfl ?_
  (repeat (first|refine Spl.t rfl ?_|refine Spl.f rfl ?_))
  refine Spl.of (fun h2=>?_) (fun h2=>?_)
  ·have h2:dt a=false:=by simpa using h2
   (repeat (first|refine Spl.t rfl ?_|refine Spl.f rfl ?_))
   refine FinP.open rfl ?_
   show AV.tup _=sW l
   rw[sW,hno h2,if_neg (by simp)];rfl
  ·have h2:dt a=true:=by simpa using h2
   obtain⟨t0,t1,_,_⟩:=(gK a).1 h2
   have hall':=hall' h2
   have n16:=hI.n16
   have hcell:([x0,x1,x2,x3,x4,x5,x6,x7,x8,x9,x10,x11,x12,x13,x14,x15].map clv)[0+a.t.toNat*1]?=some (clv (s.c0 a)):=by rw[←hth,Nat.mul_one,Nat.zero_add];exact DJ (s:=s) (i:=a.t.toNat) (by omega)
   have hset:List.map (Go.Gv.drop 6) (bI ([x0,x1,x2,x3,x4,x5,x6,x7,x8,x9,x10,x11,x12,x13,x14,x15].map clv) (0+a.t.toNat*1) [clv (s.c a)])=(s.step a).th.map clv:=by rw[←hth];exact yz s.th a.t.toNat (s.c a)
   have hl1:=hI.c1_len a
   have hl0:(s.c0 a).length≤16:=hI.lt _
   have hlg:=hI.ls a.loc
   have hlc:=hI.c_len h2
   have hT:Cv 130 [clv (s.c1 a),iv a.t] (clv (s.c a)):=Ag (s.c1 a) a.t (by omega) t0 t1
   have hJ:=lm (s.g a.loc) (s.c a) (by omega) (by omega)
   have hJ1:=lm (s.c0 a) (s.g a.loc) (by omega) (by omega)
   (repeat (first|refine Spl.t rfl ?_|refine Spl.f rfl ?_))
   refine Req.of ?_ ?_
   ·exact⟨t0,t1⟩
   refine CellP.of (clv (s.c0 a)) hcell ?_
   (repeat (first|refine Spl.t rfl ?_|refine Spl.f rfl ?_))
   refine Spl.of (fun h3=>?_) (fun h3=>?_)
   ·have h3:=of_decide_eq_true h3
    have hc1:s.c1 a=da (s.c0 a) (s.g a.loc):=if_pos h3
    (repeat (first|refine Spl.t rfl ?_|refine Spl.f rfl ?_))
    refine LookP.by eM s.sg (fun x hx=>?_) (fun hx=>?_)
    ·have hgx:s.g a.loc=x:=by unfold CS.g;rw[hx];rfl
     rw[hgx]at hc1 hJ1
     refine aa hJ1 (fun _ _=>rfl) rfl rfl rfl ?_
     rw[hc1]at hT
     refine aa hT (fun _ _=>rfl) rfl rfl rfl ?_
     (repeat (first|refine Spl.t rfl ?_|refine Spl.f rfl ?_))
     refine Spl.of (fun h4=>?_) (fun h4=>?_)
     ·have h4:=of_decide_eq_true h4
      have hsg:(s.step a).sg=ea a.loc (da (s.g a.loc) (s.c a)) s.sg:=if_pos h4
      (repeat (first|refine Spl.t rfl ?_|refine Spl.f rfl ?_))
      refine RegP.mixE 0 9 [] rfl (by decide+kernel) ?_
      refine LookP.by eM s.sg (fun x hx=>?_) (fun hx=>?_)
      ·have hgx:s.g a.loc=x:=by unfold CS.g;rw[hx];rfl
       rw[hgx]at hJ hsg
       refine QuietP.of (QJ.call hJ (fun _ _=>rfl) rfl rfl) ?_
       (repeat' (refine And.intro ?_ ?_))
       (repeat (first|refine Spl.t rfl ?_|refine Spl.f rfl ?_))
       all_goals first|exact trivial|skip
       refine PutP.by eM s.sg (da x (s.c a)) (e:=clD) ?_
       (repeat (first|refine Spl.t rfl ?_|refine Spl.f rfl ?_))
       refine Req.of ?_ ?_
       ·exact⟨t0,t1⟩
       refine Req.of ?_ ?_
       ·show 0+a.t.toNat*1+1≤16
        omega
       (repeat (first|refine Spl.t rfl ?_|refine Spl.f rfl ?_))
       refine Req.of ⟨by rw[List.length_map];exact hrl,?_⟩ ?_
       ·show i+1≤1000000000;omega
       refine⟨i+1,⟨by omega,hall'⟩,by omega,⟨ao (ah _ (by omega) (by omega)),rfl,trivial⟩,(by repeat' (first|exact trivial|exact rfl|refine And.intro ?_ ?_)),?_,(by repeat' (first|exact trivial|exact rfl|refine And.intro ?_ ?_))⟩
       refine⟨?_,?_,?_,trivial⟩
       ·rw[hst];exact congrArg (fun x=>some (Ent.cells x)) hset
       ·rw[hst];rw[hsg];rfl
       ·rw[hst];exact congrArg (fun x=>some (Ent.arr 1 x)) (cW s.cs (s.c a))
      ·have hgx:s.g a.loc=[]:=by unfold CS.g;rw[hx];rfl
       have hJ:=rq (s.c a) (by omega)
       rw[hgx]at hsg
       refine QuietP.of (QJ.call hJ (fun _ _=>rfl) rfl rfl) ?_
       (repeat' (refine And.intro ?_ ?_))
       (repeat (first|refine Spl.t rfl ?_|refine Spl.f rfl ?_))
       all_goals first|exact trivial|skip
       refine PutP.by eM s.sg (da [] (s.c a)) (e:=clD) ?_
       (repeat (first|refine Spl.t rfl ?_|refine Spl.f rfl ?_))
       refine Req.of ?_ ?_
       ·exact⟨t0,t1⟩
       refine Req.of ?_ ?_
       ·show 0+a.t.toNat*1+1≤16
        omega
       (repeat (first|refine Spl.t rfl ?_|refine Spl.f rfl ?_))
       refine Req.of ⟨by rw[List.length_map];exact hrl,?_⟩ ?_
       ·show i+1≤1000000000;omega
       refine⟨i+1,⟨by omega,hall'⟩,by omega,⟨ao (ah _ (by omega) (by omega)),rfl,trivial⟩,(by repeat' (first|exact trivial|exact rfl|refine And.intro ?_ ?_)),?_,(by repeat' (first|exact trivial|exact rfl|refine And.intro ?_ ?_))⟩
       refine⟨?_,?_,?_,trivial⟩
       ·rw[hst];exact congrArg (fun x=>some (Ent.cells x)) hset
       ·rw[hst];rw[hsg];rfl
       ·rw[hst];exact congrArg (fun x=>some (Ent.arr 1 x)) (cW s.cs (s.c a))
     ·have h4:=of_decide_eq_false h4
      have hsg:(s.step a).sg=s.sg:=if_neg h4
      (repeat (first|refine Spl.t rfl ?_|refine Spl.f rfl ?_))
      refine Req.of ?_ ?_
      ·exact⟨t0,t1⟩
      refine Req.of ?_ ?_
      ·show 0+a.t.toNat*1+1≤16
       omega
      (repeat (first|refine Spl.t rfl ?_|refine Spl.f rfl ?_))
      refine Req.of ⟨by rw[List.length_map];exact hrl,?_⟩ ?_
      ·show i+1≤1000000000;omega
      refine⟨i+1,⟨by omega,hall'⟩,by omega,⟨ao (ah _ (by omega) (by omega)),rfl,trivial⟩,(by repeat' (first|exact trivial|exact rfl|refine And.intro ?_ ?_)),?_,(by repeat' (first|exact trivial|exact rfl|refine And.intro ?_ ?_))⟩
      refine⟨?_,?_,?_,trivial⟩
      ·rw[hst];exact congrArg (fun x=>some (Ent.cells x)) hset
      ·rw[hst];rw[hsg];rfl
      ·rw[hst];exact congrArg (fun x=>some (Ent.arr 1 x)) (cW s.cs (s.c a))
    ·have hgx:s.g a.loc=[]:=by unfold CS.g;rw[hx];rfl
     rw[hgx]at hc1 hJ1
     refine OpJ.shift (SJ.nilD 31 1 rfl) ?_
     refine aa hJ1 (fun _ _=>rfl) rfl rfl rfl ?_
     rw[hc1]at hT
     refine aa hT (fun _ _=>rfl) rfl rfl rfl ?_
     (repeat (first|refine Spl.t rfl ?_|refine Spl.f rfl ?_))
     refine Spl.of (fun h4=>?_) (fun h4=>?_)
     ·have h4:=of_decide_eq_true h4
      have hsg:(s.step a).sg=ea a.loc (da (s.g a.loc) (s.c a)) s.sg:=if_pos h4
      (repeat (first|refine Spl.t rfl ?_|refine Spl.f rfl ?_))
      refine RegP.mixE 0 9 [] rfl (by decide+kernel) ?_
      refine LookP.by eM s.sg (fun x hx=>?_) (fun hx=>?_)
      ·have hgx:s.g a.loc=x:=by unfold CS.g;rw[hx];rfl
       rw[hgx]at hJ hsg
       refine QuietP.of (QJ.call hJ (fun _ _=>rfl) rfl rfl) ?_
       (repeat' (refine And.intro ?_ ?_))
       (repeat (first|refine Spl.t rfl ?_|refine Spl.f rfl ?_))
       all_goals first|exact trivial|skip
       refine PutP.by eM s.sg (da x (s.c a)) (e:=clD) ?_
       (repeat (first|refine Spl.t rfl ?_|refine Spl.f rfl ?_))
       refine Req.of ?_ ?_
       ·exact⟨t0,t1⟩
       refine Req.of ?_ ?_
       ·show 0+a.t.toNat*1+1≤16
        omega
       (repeat (first|refine Spl.t rfl ?_|refine Spl.f rfl ?_))
       refine Req.of ⟨by rw[List.length_map];exact hrl,?_⟩ ?_
       ·show i+1≤1000000000;omega
       refine⟨i+1,⟨by omega,hall'⟩,by omega,⟨ao (ah _ (by omega) (by omega)),rfl,trivial⟩,(by repeat' (first|exact trivial|exact rfl|refine And.intro ?_ ?_)),?_,(by repeat' (first|exact trivial|exact rfl|refine And.intro ?_ ?_))⟩
       refine⟨?_,?_,?_,trivial⟩
       ·rw[hst];exact congrArg (fun x=>some (Ent.cells x)) hset
       ·rw[hst];rw[hsg];rfl
       ·rw[hst];exact congrArg (fun x=>some (Ent.arr 1 x)) (cW s.cs (s.c a))
      ·have hgx:s.g a.loc=[]:=by unfold CS.g;rw[hx];rfl
       have hJ:=rq (s.c a) (by omega)
       rw[hgx]at hsg
       refine QuietP.of (QJ.call hJ (fun _ _=>rfl) rfl rfl) ?_
       (repeat' (refine And.intro ?_ ?_))
       (repeat (first|refine Spl.t rfl ?_|refine Spl.f rfl ?_))
       all_goals first|exact trivial|skip
       refine PutP.by eM s.sg (da [] (s.c a)) (e:=clD) ?_
       (repeat (first|refine Spl.t rfl ?_|refine Spl.f rfl ?_))
       refine Req.of ?_ ?_
       ·exact⟨t0,t1⟩
       refine Req.of ?_ ?_
       ·show 0+a.t.toNat*1+1≤16
        omega
       (repeat (first|refine Spl.t rfl ?_|refine Spl.f rfl ?_))
       refine Req.of ⟨by rw[List.length_map];exact hrl,?_⟩ ?_
       ·show i+1≤1000000000;omega
       refine⟨i+1,⟨by omega,hall'⟩,by omega,⟨ao (ah _ (by omega) (by omega)),rfl,trivial⟩,(by repeat' (first|exact trivial|exact rfl|refine And.intro ?_ ?_)),?_,(by repeat' (first|exact trivial|exact rfl|refine And.intro ?_ ?_))⟩
       refine⟨?_,?_,?_,trivial⟩
       ·rw[hst];exact congrArg (fun x=>some (Ent.cells x)) hset
       ·rw[hst];rw[hsg];rfl
       ·rw[hst];exact congrArg (fun x=>some (Ent.arr 1 x)) (cW s.cs (s.c a))
     ·have h4:=of_decide_eq_false h4
      have hsg:(s.step a).sg=s.sg:=if_neg h4
      (repeat (first|refine Spl.t rfl ?_|refine Spl.f rfl ?_))
      refine Req.of ?_ ?_
      ·exact⟨t0,t1⟩
      refine Req.of ?_ ?_
      ·show 0+a.t.toNat*1+1≤16
       omega
      (repeat (first|refine Spl.t rfl ?_|refine Spl.f rfl ?_))
      refine Req.of ⟨by rw[List.length_map];exact hrl,?_⟩ ?_
      ·show i+1≤1000000000;omega
      refine⟨i+1,⟨by omega,hall'⟩,by omega,⟨ao (ah _ (by omega) (by omega)),rfl,trivial⟩,(by repeat' (first|exact trivial|exact rfl|refine And.intro ?_ ?_)),?_,(by repeat' (first|exact trivial|exact rfl|refine And.intro ?_ ?_))⟩
      refine⟨?_,?_,?_,trivial⟩
      ·rw[hst];exact congrArg (fun x=>some (Ent.cells x)) hset
      ·rw[hst];rw[hsg];rfl
      ·rw[hst];exact congrArg (fun x=>some (Ent.arr 1 x)) (cW s.cs (s.c a))
   ·have h3:=of_decide_eq_false h3
    have hc1:s.c1 a=s.c0 a:=if_neg h3
    rw[hc1]at hT
    refine aa hT (fun _ _=>rfl) rfl rfl rfl ?_
    (repeat (first|refine Spl.t rfl ?_|refine Spl.f rfl ?_))
    refine Spl.of (fun h4=>?_) (fun h4=>?_)
    ·have h4:=of_decide_eq_true h4
     have hsg:(s.step a).sg=ea a.loc (da (s.g a.loc) (s.c a)) s.sg:=if_pos h4
     (repeat (first|refine Spl.t rfl ?_|refine Spl.f rfl ?_))
     refine RegP.mixE 0 9 [] rfl (by decide+kernel) ?_
     refine LookP.by eM s.sg (fun x hx=>?_) (fun hx=>?_)
     ·have hgx:s.g a.loc=x:=by unfold CS.g;rw[hx];rfl
      rw[hgx]at hJ hsg
      refine QuietP.of (QJ.call hJ (fun _ _=>rfl) rfl rfl) ?_
      (repeat' (refine And.intro ?_ ?_))
      (repeat (first|refine Spl.t rfl ?_|refine Spl.f rfl ?_))
      all_goals first|exact trivial|skip
      refine PutP.by eM s.sg (da x (s.c a)) (e:=clD) ?_
      (repeat (first|refine Spl.t rfl ?_|refine Spl.f rfl ?_))
      refine Req.of ?_ ?_
      ·exact⟨t0,t1⟩
      refine Req.of ?_ ?_
      ·show 0+a.t.toNat*1+1≤16
       omega
      (repeat (first|refine Spl.t rfl ?_|refine Spl.f rfl ?_))
      refine Req.of ⟨by rw[List.length_map];exact hrl,?_⟩ ?_
      ·show i+1≤1000000000;omega
      refine⟨i+1,⟨by omega,hall'⟩,by omega,⟨ao (ah _ (by omega) (by omega)),rfl,trivial⟩,(by repeat' (first|exact trivial|exact rfl|refine And.intro ?_ ?_)),?_,(by repeat' (first|exact trivial|exact rfl|refine And.intro ?_ ?_))⟩
      refine⟨?_,?_,?_,trivial⟩
      ·rw[hst];exact congrArg (fun x=>some (Ent.cells x)) hset
      ·rw[hst];rw[hsg];rfl
      ·rw[hst];exact congrArg (fun x=>some (Ent.arr 1 x)) (cW s.cs (s.c a))
     ·have hgx:s.g a.loc=[]:=by unfold CS.g;rw[hx];rfl
      have hJ:=rq (s.c a) (by omega)
      rw[hgx]at hsg
      refine QuietP.of (QJ.call hJ (fun _ _=>rfl) rfl rfl) ?_
      (repeat' (refine And.intro ?_ ?_))
      (repeat (first|refine Spl.t rfl ?_|refine Spl.f rfl ?_))
      all_goals first|exact trivial|skip
      refine PutP.by eM s.sg (da [] (s.c a)) (e:=clD) ?_
      (repeat (first|refine Spl.t rfl ?_|refine Spl.f rfl ?_))
      refine Req.of ?_ ?_
      ·exact⟨t0,t1⟩
      refine Req.of ?_ ?_
      ·show 0+a.t.toNat*1+1≤16
       omega
      (repeat (first|refine Spl.t rfl ?_|refine Spl.f rfl ?_))
      refine Req.of ⟨by rw[List.length_map];exact hrl,?_⟩ ?_
      ·show i+1≤1000000000;omega
      refine⟨i+1,⟨by omega,hall'⟩,by omega,⟨ao (ah _ (by omega) (by omega)),rfl,trivial⟩,(by repeat' (first|exact trivial|exact rfl|refine And.intro ?_ ?_)),?_,(by repeat' (first|exact trivial|exact rfl|refine And.intro ?_ ?_))⟩
      refine⟨?_,?_,?_,trivial⟩
      ·rw[hst];exact congrArg (fun x=>some (Ent.cells x)) hset
      ·rw[hst];rw[hsg];rfl
      ·rw[hst];exact congrArg (fun x=>some (Ent.arr 1 x)) (cW s.cs (s.c a))
    ·have h4:=of_decide_eq_false h4
     have hsg:(s.step a).sg=s.sg:=if_neg h4
     (repeat (first|refine Spl.t rfl ?_|refine Spl.f rfl ?_))
     refine Req.of ?_ ?_
     ·exact⟨t0,t1⟩
     refine Req.of ?_ ?_
     ·show 0+a.t.toNat*1+1≤16
      omega
     (repeat (first|refine Spl.t rfl ?_|refine Spl.f rfl ?_))
     refine Req.of ⟨by rw[List.length_map];exact hrl,?_⟩ ?_
     ·show i+1≤1000000000;omega
     refine⟨i+1,⟨by omega,hall'⟩,by omega,⟨ao (ah _ (by omega) (by omega)),rfl,trivial⟩,(by repeat' (first|exact trivial|exact rfl|refine And.intro ?_ ?_)),?_,(by repeat' (first|exact trivial|exact rfl|refine And.intro ?_ ?_))⟩
     refine⟨?_,?_,?_,trivial⟩
     ·rw[hst];exact congrArg (fun x=>some (Ent.cells x)) hset
     ·rw[hst];rw[hsg];rfl
     ·rw[hst];exact congrArg (fun x=>some (Ent.arr 1 x)) (cW s.cs (s.c a))
 ·have h1:=of_decide_eq_false h1
  simp at h1
  obtain rfl:i=l.length:=by omega
  rw[List.take_length]at hall hrl ⊢
  (repeat (first|refine Spl.t rfl ?_|refine Spl.f rfl ?_))
  refine gl 6 0 rfl rfl ?_ ?_ ?_
  ·rw[List.length_map,hrl];exact Nat.le_refl _
  ·omega
  refine FinP.open rfl ?_
  rw[sW,if_pos ((uL l).2 hall),List.take_of_length_le (by rw[List.length_map,hrl];exact Nat.le_refl _)]
  rfl
end Go.Proofs.E
namespace Go.Proofs.E
theorem BO (l:List TA):((l.map taD).length:Int)=(l.length:Nat):=by rw[List.length_map]
def inP (l:List TA)(loc:Int)(j:Nat):Bool:=dN (l.getD j AC0)&&decide ((l.getD j AC0).loc=loc)
def eJ (l:List TA)(k:Nat)(loc:Int):List Nat:=(List.range k).filter (inP l loc)
theorem lX (l:List TA)(k:Nat)(loc:Int):eJ l (k+1) loc=eJ l k loc++(if inP l loc k=true then[k]else[]):=by
 unfold eJ
 rw[List.range_succ,List.filter_append]
 congr 1
 by_cases h:inP l loc k=true
 ·rw[if_pos h];simp[h]
 ·rw[if_neg h];simp[h]
theorem kH {l:List TA}{k j:Nat}{loc:Int}:j∈eJ l k loc↔j<k∧inP l loc j=true:=by
 unfold eJ;rw[List.mem_filter,List.mem_range]
theorem Cy (l:List TA)(k:Nat)(loc:Int):(eJ l k loc).Pairwise (·<·):=List.Pairwise.filter _ List.pairwise_lt_range
theorem qz {l:List TA}{i k:Nat}(h:dR l i k=true):inP l (l.getD k AC0).loc i=true∧dN (l.getD k AC0)=true:=by
 unfold dR iq at h
 rw[Bool.and_eq_true,Bool.and_eq_true,Bool.and_eq_true,Bool.and_eq_true]at h
 obtain⟨⟨⟨⟨h1,h2⟩,h3⟩,_⟩,_⟩:=h
 exact⟨by unfold inP;rw[h1,h3];rfl,h2⟩
theorem BE {l:List TA}{k:Nat}(h:dN (l.getD k AC0)=false)(i:Nat):dR l i k=false:=by
 cases e:dR l i k with
 |false=>rfl
 |true=>rw[(qz e).2]at h;cases h
theorem BF {l:List TA}{i k:Nat}(h:inP l (l.getD k AC0).loc i=true)(h2:dN (l.getD k AC0)=true):dR l i k=((wrA (l.getD k AC0)||wrA (l.getD i AC0))&&!uM l i k):=by
 unfold inP at h
 rw[Bool.and_eq_true]at h
 unfold dR iq
 rw[h.1,h.2,h2,Bool.or_comm];rfl
theorem uz {l:List TA}{k:Nat}(h:∀p i:Nat,(eJ l k (l.getD k AC0).loc)[p]?=some i→dR l i k=false):eO l k k=none:=
 (gc l k k).2 fun i hi=>by
  cases e:dR l i k with
  |false=>rfl
  |true=>
   obtain⟨p,hp,e2⟩:=List.getElem_of_mem (kH.2 ⟨hi,(qz e).1⟩)
   rw[←e,h p i (by rw[List.getElem?_eq_getElem hp,e2])]
theorem uy {l:List TA}{k q i:Nat}(hq:(eJ l k (l.getD k AC0).loc)[q]?=some i)(hr:dR l i k=true)(h:∀p j:Nat,p<q→(eJ l k (l.getD k AC0).loc)[p]?=some j→dR l j k=false):eO l k k=some i:=by
 have hik:=(kH.1 (List.mem_of_getElem? hq)).1
 refine mo (fun j hj=>?_) hr k hik
 cases e:dR l j k with
 |false=>rfl
 |true=>
  obtain⟨p,hp,e2⟩:=List.getElem_of_mem (kH.2 ⟨(by omega:j<k),(qz e).1⟩)
  have hp2:(eJ l k (l.getD k AC0).loc)[p]?=some j:=by rw[List.getElem?_eq_getElem hp,e2]
  have hpq:p<q:=by
   rcases Nat.lt_or_ge p q with h|h
   ·exact h
   ·exfalso
    obtain⟨hq1,hq2⟩:=List.getElem?_eq_some_iff.1 hq
    by_cases e3:q=p
    ·subst e3;rw[e2]at hq2;omega
    ·have:=List.pairwise_iff_getElem.1 (Cy l k (l.getD k AC0).loc) q p hq1 hp (by omega)
     rw[e2,hq2]at this;omega
  rw[←e,h p j hpq hp2]
def dn (j:Nat):List D:=[.v (.int .i64 (j:Nat))]
def MInv (l:List TA)(k:Nat)(R:List (Int×RW)):Prop:=∀loc,match aO loc R with
 |some r=>r.xs=(eJ l k loc).map dn
 |none=>eJ l k loc=[]
theorem MInv.nil (l:List TA):MInv l 0 []:=fun _=>rfl
theorem MInv.skip {l:List TA}{k:Nat}{R:List (Int×RW)}(h:MInv l k R)(ha:dN (l.getD k AC0)=false):MInv l (k+1) R:=fun loc=>by
 have e:eJ l (k+1) loc=eJ l k loc:=by
  rw[lX,if_neg (by unfold inP;rw[ha];simp),List.append_nil]
 rw[e];exact h loc
theorem MInv.put {l:List TA}{k:Nat}{R:List (Int×RW)}(h:MInv l k R){a:TA}(hk:l.getD k AC0=a)(ha:dN a=true){r:RW}(hr:r.xs=(eJ l (k+1) a.loc).map dn):MInv l (k+1) (ea a.loc r R):=fun loc=>by
 rw[fM]
 by_cases e:loc=a.loc
 ·rw[if_pos e];subst e;exact hr
 ·rw[if_neg e]
  have e2:eJ l (k+1) loc=eJ l k loc:=by
   rw[lX,if_neg (by unfold inP;rw[hk];simp;exact fun _ h=>e h.symm),List.append_nil]
  rw[e2];exact h loc
theorem z8 {l:List TA}{k:Nat}{a:TA}(hk:l.getD k AC0=a)(ha:dN a=true):(eJ l (k+1) a.loc).map dn=(eJ l k a.loc).map dn++[dn k]:=by
 rw[lX,if_pos (by unfold inP;rw[hk,ha];simp),List.map_append];rfl
theorem z9 (l:List TA)(k:Nat)(loc:Int):(eJ l k loc).length≤k:=by
 have:=List.length_filter_le (inP l loc) (List.range k)
 rw[List.length_range]at this
 exact this
end Go.Proofs.E
namespace Go.Proofs.E
attribute [local irreducible] elems
structure QE where
 tk:Int
 slot:Int
 c:CALL
structure ST where
 h:Int
 q:List QE
 sealed:Bool
structure BD where
 st:List ST
 room:Int
 tk:Int
 up:Bool
 site:Int
 v:VS
 cl:Bool
 sl:Option (List (Int×RS))
 gone:Bool
 tr:List TA
abbrev qeD (e:QE):List D:=[.v (.int .i64 e.tk),.v (.int .i64 e.slot),.v (.int .i64 e.c.k),.v (.int .i64 e.c.at_),.v (.int .i32 e.c.ch),.v (.int .i64 e.c.o.k),.v (.int .i64 e.c.o.i.c),.v (.int .i64 e.c.o.i.s),.v (.int .i64 e.c.o.a.c),.v (.int .i64 e.c.o.a.s),.v (.int .i32 e.c.o.ch),.v (.int .i64 e.c.a.c),.v (.int .i64 e.c.a.s)]
abbrev stD (x:ST):List D:=[.v (.int .i64 x.h),.sl 13 (x.q.map qeD),.v (.bool x.sealed)]
abbrev FD (x:ST):AV:=.agg [iv x.h,.d (.sl 13 (x.q.map qeD)),bv x.sealed]
abbrev rsD (x:RS):List D:=[.v (.int .i64 x.e),.v (.int .i64 x.n),.v (.string ⟨⟨x.t⟩⟩)]
def slD:Option (List (Int×RS))→D
 |none=>.v (.map none)
 |some m=>.mp true (m.map fun p=>eM.val p.1) (m.map fun p=>rsD p.2)
abbrev zW (b:BD)(stx slx trx:AV):List AV:=[stx,iv b.room,iv b.tk,bv b.up,iv b.site,.d b.v.s.t.d,.d b.v.s.p.d,iv b.v.s.n,.d (.sl 6 (b.v.R.map opD)),iv (b.v.l.length:Nat),iv (bh b.v.l).n,cx (bh b.v.l).a (bh b.v.l).b,cx (bh b.v.l).c (bh b.v.l).d,bv b.cl,slx,bv b.gone,trx]
abbrev bcs (b:BD):List AV:=zW b (.d (.sl 3 (b.st.map stD))) (.d (slD b.sl)) (.d (.sl 3 (b.tr.map taD)))
abbrev bdv (b:BD):AV:=.agg (bcs b)
theorem jm (b:BD)(s:Int):Cv 58 [bdv b,iv s] (bv (decide (0≤s)&&decide (s<(b.st.length:Nat)))):=by
 have hln:((b.st.map stD).length:Int)=(b.st.length:Nat):=by rw[List.length_map]
 rw[←hln]
 refine ab Tryz.f58 Tryz.func58 rfl rfl fun w H B g0=>?_
 refine Spl.of (fun h1=>?_) (fun h1=>?_)
 ·(repeat (first|refine Spl.t rfl ?_|refine Spl.f rfl ?_))
  exact FinP.open rfl (congrArg bv (by rw[h1];rfl))
 ·(repeat (first|refine Spl.t rfl ?_|refine Spl.f rfl ?_))
  exact FinP.open rfl (congrArg bv (by rw[h1];rfl))
theorem bH {l:List ST}{s:Nat}{x:ST}(h:l[s]?=some x):(l.map stD)[s]?=some (stD x):=by rw[List.getElem?_map,h];rfl
def sC (b:BD)(s:Int):Int:=if 0≤s then(match b.st[s.toNat]? with
 |some x=>x.h
 |none=>-1)else-1
theorem tG (b:BD)(s:Int):Cv 12 [bdv b,iv s] (iv (sC b s)):=by
 have hh:=jm b s
 refine ab Tryz.f12 Tryz.func12 rfl rfl fun w H B g0=>?_
 refine aa hh (fun _ _=>rfl) rfl rfl rfl ?_
 (repeat (first|refine Spl.t rfl ?_|refine Spl.f rfl ?_))
 refine Spl.of (fun h1=>?_) (fun h1=>?_)
 ·(repeat (first|refine Spl.t rfl ?_|refine Spl.f rfl ?_))
  refine FinP.open rfl (congrArg iv ?_)
  unfold sC
  by_cases h0:0≤s
  ·rw[if_pos h0]
   simp[h0]at h1
   rw[List.getElem?_eq_none (by omega)]
  ·rw[if_neg h0]
 ·simp at h1
  obtain⟨x,hx⟩:∃x,b.st[s.toNat]?=some x:=⟨_,List.getElem?_eq_getElem (by omega)⟩
  (repeat (first|refine Spl.t rfl ?_|refine Spl.f rfl ?_))
  refine IdxP.of (stD x) h1.1 (bH hx) ?_
  refine FinP.open rfl (congrArg iv ?_)
  unfold sC
  rw[if_pos h1.1,hx]
theorem xN (b:BD):Cv 24 [bdv b] (iv (b.st.length:Nat)):=by
 refine ab Tryz.f24 Tryz.func24 rfl rfl fun w H B g0=>?_
 refine FinP.open rfl (congrArg iv ?_)
 rw[List.length_map]
theorem A5 (l:List TA)(hl:l.length≤1000000):Cv 65 [.d (.sl 3 (l.map taD))] (.d (.sl 3 (l.map taD))):=by
 refine ab Tryz.f65 Tryz.func65 rfl rfl fun w H B g0=>?_
 refine na rfl rfl rfl rfl fun b hb=>?_
 cases b with
 |true=>
  have h0:=hb rfl
  (repeat (first|refine Spl.t rfl ?_|refine Spl.f rfl ?_))
  rw[h0]
  exact FinP.view (fun _ _ _ h=>ar 3 h) (FinP.open rfl rfl)
 |false=>
  (repeat (first|refine Spl.t rfl ?_|refine Spl.f rfl ?_))
  refine aR (iA rfl (.full _ _) (FlatQ.data rfl rfl) rfl (by show 0+_≤_;rw[List.length_map];omega)) rfl ?_
  exact FinP.open rfl rfl
theorem Cz (b:BD)(hl:b.tr.length≤1000000):Cv 23 [bdv b] (.d (.sl 3 (b.tr.map taD))):=by
 refine ab Tryz.f23 Tryz.func23 rfl rfl fun w H B g0=>?_
 refine aa (A5 b.tr hl) (fun _ _=>rfl) rfl rfl rfl ?_
 exact FinP.open rfl rfl
abbrev dD (p:Int×Int):List D:=[.v (.int .i64 p.1),.v (.int .i64 p.2)]
def bG (t:Int)(ds:List (Int×Int)):List TA:=ds.map fun p=>⟨t,p.1,p.2⟩
def BD.did (b:BD)(t:Int)(ds:List (Int×Int)):BD:={b with tr:=b.tr++bG t ds}
def trC (b:BD)(t:Int)(ds:List (Int×Int)):Nat→AV
 |0=>.full 3 (b.tr.map taD)
 |j+1=>.arr 34 3 (b.tr.length+(j+1))
def trS (b:BD)(t:Int)(ds:List (Int×Int)):Nat→Sg
 |0=>[]
 |j+1=>[(34,.arr 3 ((b.tr++bG t (ds.take (j+1))).map taD))]
theorem FA (l:List TA):List.drop (Int.toNat 0) (List.take ((l.map taD).length:Int).toNat (l.map taD))=l.map taD:=by
 rw[Int.toNat_natCast,List.take_length];rfl
theorem eB (b:BD)(t:Int)(ds:List (Int×Int))(hd:ds.length≤1000)(h0:0<ds.length)(hl:b.tr.length≤1000000):Cv 60 [bdv b,iv t,.full 2 (ds.map dD)] (bdv (b.did t ds)):=by
 refine aD Tryz.f60 Tryz.func60 rfl rfl fun w H B g0=>?_
 (try refine WJ.cut ?_)
 (first|refine Sq.go ?_|refine af (Sq.go ?_)|skip)
 (try refine WJ.cut ?_)
 (first|refine Sq.go ?_|refine af (Sq.go ?_)|skip)
 (try refine WJ.cut ?_)
 refine Req.of ⟨Int.le_refl _,by omega,Int.le_refl _,rfl⟩ ?_
 (first|refine Sq.go ?_|refine af (Sq.go ?_)|skip)
 (try refine WJ.cut ?_)
 (first|refine Sq.go ?_|refine af (Sq.go ?_)|skip)
 (try refine WJ.cut ?_)
 refine ax (V:=Nat) (fun j=>[(21,iv j)]) (fun j=>(3,.cells (zW b (.d (.sl 3 (b.st.map stD))) (.d (slD b.sl)) (trC b t ds j)))::trS b t ds j) [3,34] (fun j=>ds.length-j) (fun j=>j≤ds.length) 0 (Nat.zero_le _) (by repeat' (first|exact trivial|exact rfl|refine And.intro ?_ ?_)) ⟨congrArg (fun x=>some (Ent.cells (zW b (.d (.sl 3 (b.st.map stD))) (.d (slD b.sl)) (.full 3 x)))) (FA b.tr),trivial⟩ ?_
 intro j hj
 refine Spl.of (fun h1=>?_) (fun h1=>?_)
 ·have hlt:j<ds.length:=by have:=of_decide_eq_true h1;simp at this;omega
  obtain⟨p,hp⟩:∃p,ds[j]?=some p:=⟨_,List.getElem?_eq_getElem hlt⟩
  have hsn:=bJ hp
  have hrow:(b.tr++bG t (ds.take j)).map taD++[taD ⟨t,p.1,p.2⟩]=(b.tr++bG t (ds.take (j+1))).map taD:=by
   rw[hsn];simp[bG]
  have hget:(ds.map dD)[j]?=some (dD p):=by rw[List.getElem?_map,hp];rfl
  cases j with
  |zero=>
   (repeat (first|refine Spl.t rfl ?_|refine Spl.f rfl ?_))
   refine IdxP.of (dD p) (by omega) (by rw[Int.toNat_natCast];exact hget) ?_
   refine O.appF rfl rfl (.full _ _) rfl rfl rfl rfl (by show _+1≤_;rw[List.length_map];omega) (.inl (List.cons_ne_nil _ _)) ?_
   (repeat (first|refine Spl.t rfl ?_|refine Spl.f rfl ?_))
   refine⟨1,by omega,by omega,⟨ao (ah _ (by omega) (by omega)),trivial⟩,(by repeat' (first|exact trivial|exact rfl|refine And.intro ?_ ?_)),⟨?_,?_,trivial⟩,(by repeat' (first|exact trivial|exact rfl|refine And.intro ?_ ?_))⟩
   ·exact congrArg (fun n=>some (Ent.cells (zW b (.d (.sl 3 (b.st.map stD))) (.d (slD b.sl)) (.arr 34 3 n)))) (by show(b.tr.map taD).length+1=_;rw[List.length_map])
   ·refine congrArg (fun x=>some (Ent.arr 3 x)) ?_
    rw[←hrow]
    simp[bG];rfl
  |succ j=>
   (repeat (first|refine Spl.t rfl ?_|refine Spl.f rfl ?_))
   refine IdxP.of (dD p) (by omega) (by rw[Int.toNat_natCast];exact hget) ?_
   refine Req.of ⟨?_,?_⟩ ?_
   ·simp[bG];omega
   ·show b.tr.length+(j+1)+1≤1000000000;omega
   refine⟨j+1+1,by omega,by omega,⟨ao (ah _ (by omega) (by omega)),trivial⟩,(by repeat' (first|exact trivial|exact rfl|refine And.intro ?_ ?_)),⟨rfl,congrArg (fun x=>some (Ent.arr 3 x)) hrow,trivial⟩,(by repeat' (first|exact trivial|exact rfl|refine And.intro ?_ ?_))⟩
 ·have h1:=of_decide_eq_false h1
  simp at h1
  obtain rfl:j=ds.length:=by omega
  obtain⟨n,hn⟩:∃n,ds.length=n+1:=⟨ds.length-1,by omega⟩
  rw[hn]
  have e:((b.tr++bG t (ds.take (n+1))).map taD).take (b.tr.length+(n+1))=(b.tr++bG t ds).map taD:=by
   rw[←hn,List.take_length,List.take_of_length_le (by simp[bG])]
  (repeat (first|refine Spl.t rfl ?_|refine Spl.f rfl ?_))
  (first|refine Sq.go ?_|refine af (Sq.go ?_)|skip)
  refine WJ.shift (b8 34 3 16 (k:=3) (n:=b.tr.length+(n+1)) (xs:=(b.tr++bG t (ds.take (n+1))).map taD) rfl rfl rfl (by rw[←hn,List.take_length];simp[bG]) (by omega)) ?_
  rw[e]
  (try refine aq _ _ _ _ ?_)
  (repeat (first|refine Spl.t rfl ?_|refine Spl.f rfl ?_))
  exact FinP.open rfl rfl
end Go.Proofs.E
namespace Go.Proofs.E
attribute [local irreducible] elems
theorem A1 (l:List ST)(hl:l.length≤1000000)(h0:0<l.length):Ct tab Tryz.prog 126 [.d (.sl 3 (l.map stD))] [] (fun q σ'=>q=.arr 7 3 l.length∧σ'=[(7,.arr 3 (l.map stD))]):=by
 refine ab Tryz.f126 Tryz.func126 rfl rfl fun w H B g0=>?_
 refine na rfl rfl rfl rfl fun b hb=>?_
 cases b with
 |true=>
  have h1:=congrArg List.length (hb rfl)
  rw[List.length_map]at h1;rw[h1]at h0;exact absurd h0 (by decide)
 |false=>
  (repeat (first|refine Spl.t rfl ?_|refine Spl.f rfl ?_))
  refine O.appF rfl rfl (.full _ _) rfl rfl rfl rfl (by show 0+_≤_;rw[List.length_map];omega) (.inr rfl) ?_
  (repeat (first|refine Spl.t rfl ?_|refine Spl.f rfl ?_))
  refine bg [(7,.arr 3 (l.map stD))] (Wk.cons rfl (Wk.nil _)) rfl ⟨?_,rfl⟩
  show AV.arr 7 3 (0+_)=_
  rw[List.length_map,Nat.zero_add]
def BD.setS (b:BD)(s:Nat)(x:ST):BD:={b with st:=b.st.set s x}
theorem ng (b:BD)(s:Nat)(x:ST)(hs:s<b.st.length)(hl:b.st.length≤8):Cv 59 [bdv b,iv s,FD x] (bdv (b.setS s x)):=by
 obtain⟨y,hy⟩:∃y,b.st[s]?=some y:=⟨_,List.getElem?_eq_getElem hs⟩
 refine aD Tryz.f59 Tryz.func59 rfl rfl fun w H B g0=>?_
 (try refine WJ.cut ?_)
 (first|refine Sq.go ?_|refine af (Sq.go ?_)|skip)
 (try refine WJ.cut ?_)
 refine OpJ.call (A1 b.st (by omega) (by omega)) (fun _ _=>rfl) rfl rfl (Wk.nil _) ?_
 rintro q σ' ⟨rfl,rfl⟩
 refine⟨rfl,?_⟩
 (repeat (first|refine Spl.t rfl ?_|refine Spl.f rfl ?_))
 (first|refine Sq.go ?_|refine af (Sq.go ?_)|skip)
 (try refine WJ.cut ?_)
 refine Req.of ⟨by omega,by omega⟩ ?_
 refine StoreP.of s 0 (stD y) (by show(s:Int).toNat*3=_;omega) (bH hy) (Nat.le_of_ble_eq_true rfl) rfl ?_
 (first|refine Sq.go ?_|refine af (Sq.go ?_)|skip)
 refine WJ.shift (b8 7 3 0 (k:=3) (n:=b.st.length) (xs:=(b.st.map stD).set s (bI (stD y) 0 (stD x))) rfl rfl rfl (by simp) (by omega)) ?_
 have e:((b.st.map stD).set s (bI (stD y) 0 (stD x))).take b.st.length=(b.st.set s x).map stD:=by
  rw[List.take_of_length_le (by simp),List.map_set];rfl
 rw[e]
 (try refine aq _ _ _ _ ?_)
 (repeat (first|refine Spl.t rfl ?_|refine Spl.f rfl ?_))
 exact FinP.open rfl rfl
theorem iB (c s:Int)(h0:0≤s)(h1:s≤100000)(h2:0≤c)(h3:c≤100000):IntKind.i64.wrap (c+s)=c+s:=ah _ (by omega) (by omega)
theorem oh {b:BD}{s:Nat}{x:ST}(hx:b.st[s]?=some x):(decide (0≤(s:Int))&&decide ((s:Int)<(b.st.length:Nat)))=true:=by
 have:=(List.getElem?_eq_some_iff.1 hx).1
 rw[decide_eq_true (by omega:0≤(s:Int)),decide_eq_true (by omega:(s:Int)<(b.st.length:Nat))];rfl
theorem u1 (b:BD)(t:Int)(s:Nat){x:ST}(hx:b.st[s]?=some x)(hl:b.st.length≤8)(ht:b.tr.length≤1000000):
 Cv 13 [bdv b,iv t,iv s] (if x.h=-1 then .tup [bdv ((b.setS s {x with h:=t}).did t [(2,1000+(s:Int))]),bv true]else .tup [bdv b,bv false]):=by
 have hh:=jm b s
 rw[oh hx]at hh
 have hs:=(List.getElem?_eq_some_iff.1 hx).1
 have hw:=iB 1000 s (by omega) (by omega) (by omega) (by omega)
 have hwi:=ng b s {x with h:=t} hs hl
 have hdi:=eB (b.setS s {x with h:=t}) t [(2,IntKind.i64.wrap (1000+(s:Int)))] (Nat.le_of_ble_eq_true rfl) (Nat.succ_pos _) ht
 refine ab Tryz.f13 Tryz.func13 rfl rfl fun w H B g0=>?_
 refine aa hh (fun _ _=>rfl) rfl rfl rfl ?_
 (repeat (first|refine Spl.t rfl ?_|refine Spl.f rfl ?_))
 refine IdxP.of (stD x) (by omega) (by rw[Int.toNat_natCast];exact bH hx) ?_
 (repeat (first|refine Spl.t rfl ?_|refine Spl.f rfl ?_))
 refine Spl.of (fun h1=>?_) (fun h1=>?_)
 ·have h1:¬x.h=-1:=by simpa using h1
  rw[if_neg h1]
  (repeat (first|refine Spl.t rfl ?_|refine Spl.f rfl ?_))
  exact FinP.open rfl rfl
 ·have h1:x.h=-1:=by simpa using h1
  rw[if_pos h1]
  (repeat (first|refine Spl.t rfl ?_|refine Spl.f rfl ?_))
  refine IdxP.of (stD x) (by omega) (by rw[Int.toNat_natCast];exact bH hx) ?_
  (repeat (first|refine Spl.t rfl ?_|refine Spl.f rfl ?_))
  refine aa hwi (fun _ _=>rfl) rfl rfl rfl ?_
  (repeat (first|refine Spl.t rfl ?_|refine Spl.f rfl ?_))
  refine aa hdi (fun _ _=>rfl) rfl rfl rfl ?_
  (repeat (first|refine Spl.t rfl ?_|refine Spl.f rfl ?_))
  refine FinP.open rfl ?_
  (rw[hw];first|done|rfl)
theorem Af (b:BD)(t:Int)(s:Nat){x:ST}(hx:b.st[s]?=some x)(hl:b.st.length≤8)(ht:b.tr.length≤1000000):
 Cv 14 [bdv b,iv t,iv s] (bdv ((b.setS s {x with h:=-1}).did t [(3,1000+(s:Int))])):=by
 have hh:=jm b s
 rw[oh hx]at hh
 have hs:=(List.getElem?_eq_some_iff.1 hx).1
 have hw:=iB 1000 s (by omega) (by omega) (by omega) (by omega)
 have hwi:=ng b s {x with h:=-1} hs hl
 have hdi:=eB (b.setS s {x with h:=-1}) t [(3,IntKind.i64.wrap (1000+(s:Int)))] (Nat.le_of_ble_eq_true rfl) (Nat.succ_pos _) ht
 refine ab Tryz.f14 Tryz.func14 rfl rfl fun w H B g0=>?_
 refine aa hh (fun _ _=>rfl) rfl rfl rfl ?_
 (repeat (first|refine Spl.t rfl ?_|refine Spl.f rfl ?_))
 refine IdxP.of (stD x) (by omega) (by rw[Int.toNat_natCast];exact bH hx) ?_
 (repeat (first|refine Spl.t rfl ?_|refine Spl.f rfl ?_))
 refine aa hwi (fun _ _=>rfl) rfl rfl rfl ?_
 (repeat (first|refine Spl.t rfl ?_|refine Spl.f rfl ?_))
 refine aa hdi (fun _ _=>rfl) rfl rfl rfl ?_
 (repeat (first|refine Spl.t rfl ?_|refine Spl.f rfl ?_))
 refine FinP.open rfl ?_
 (rw[hw];first|done|rfl)
theorem E8 (b:BD)(t:Int)(s:Nat){x:ST}(hx:b.st[s]?=some x)(hl:b.st.length≤8)(ht:b.tr.length≤1000000):
 Cv 17 [bdv b,iv t,iv s] (bdv ((b.setS s {x with sealed:=true}).did t [(1,(s:Int))])):=by
 have hh:=jm b s
 rw[oh hx]at hh
 have hs:=(List.getElem?_eq_some_iff.1 hx).1
 have hwi:=ng b s {x with sealed:=true} hs hl
 have hdi:=eB (b.setS s {x with sealed:=true}) t [(1,(s:Int))] (Nat.le_of_ble_eq_true rfl) (Nat.succ_pos _) ht
 refine ab Tryz.f17 Tryz.func17 rfl rfl fun w H B g0=>?_
 refine aa hh (fun _ _=>rfl) rfl rfl rfl ?_
 (repeat (first|refine Spl.t rfl ?_|refine Spl.f rfl ?_))
 refine IdxP.of (stD x) (by omega) (by rw[Int.toNat_natCast];exact bH hx) ?_
 (repeat (first|refine Spl.t rfl ?_|refine Spl.f rfl ?_))
 refine aa hwi (fun _ _=>rfl) rfl rfl rfl ?_
 (repeat (first|refine Spl.t rfl ?_|refine Spl.f rfl ?_))
 refine aa hdi (fun _ _=>rfl) rfl rfl rfl ?_
 (repeat (first|refine Spl.t rfl ?_|refine Spl.f rfl ?_))
 exact FinP.open rfl rfl
theorem C5 (b:BD)(t:Int)(s:Nat){x:ST}(hx:b.st[s]?=some x)(ht:b.tr.length≤1000000):
 Cv 18 [bdv b,iv t,iv s] (.tup [bdv (b.did t [(0,(s:Int))]),bv (x.sealed&&decide (x.q.length=0))]):=by
 have hh:=jm b s
 rw[oh hx]at hh
 have hdi:=eB b t [(0,(s:Int))] (Nat.le_of_ble_eq_true rfl) (Nat.succ_pos _) ht
 have hq:decide (((x.q.map qeD).length:Int)=0)=decide (x.q.length=0):=decide_eq_decide.2 (by rw[List.length_map];omega)
 rw[←hq]
 refine ab Tryz.f18 Tryz.func18 rfl rfl fun w H B g0=>?_
 refine aa hh (fun _ _=>rfl) rfl rfl rfl ?_
 (repeat (first|refine Spl.t rfl ?_|refine Spl.f rfl ?_))
 refine IdxP.of (stD x) (by omega) (by rw[Int.toNat_natCast];exact bH hx) ?_
 (repeat (first|refine Spl.t rfl ?_|refine Spl.f rfl ?_))
 refine RegP.mixE 0 16 [6] rfl (by decide+kernel) ?_
 refine QuietP.of (QJ.call hdi (fun _ _=>rfl) rfl rfl) ?_
 (repeat (first|refine Spl.t rfl ?_|refine Spl.f rfl ?_))
 refine Spl.of (fun h1=>?_) (fun h1=>?_)
 ·(repeat (first|refine Spl.t rfl ?_|refine Spl.f rfl ?_))
  refine FinP.open rfl ?_
  rw[h1];rfl
 ·(repeat (first|refine Spl.t rfl ?_|refine Spl.f rfl ?_))
  refine FinP.open rfl ?_
  rw[h1];rfl
end Go.Proofs.E
namespace Go.Proofs.E
attribute [local irreducible] elems
abbrev rY (e:QE):AV:=.agg [iv e.tk,iv e.slot,iv e.c.k,iv e.c.at_,cv' e.c.ch,iv e.c.o.k,iv e.c.o.i.c,iv e.c.o.i.s,iv e.c.o.a.c,iv e.c.o.a.s,cv' e.c.o.ch,iv e.c.a.c,iv e.c.a.s]
def Gq:CALL:=⟨0,0,0,OP0,⟨0,0⟩⟩
def QE0:QE:=⟨0,0,Gq⟩
theorem FJ (l:List QE)(e:QE):List.drop (Int.toNat 0) (List.take ((l.map qeD).length:Int).toNat (l.map qeD))++[qeD e]=(l++[e]).map qeD:=by
 rw[Int.toNat_natCast,List.take_length,List.map_append];rfl
set_option maxHeartbeats 4000000 in
theorem Fg (b:BD)(t:Int)(s:Nat)(k:Int)(c:CALL){x:ST}(hx:b.st[s]?=some x)(hl:b.st.length≤8)(ht:b.tr.length≤900000)(hq:x.q.length≤1000000)(hk0:0≤b.tk)(hk1:b.tk≤1000000):
 Cv 15 [bdv b,iv t,iv s,iv k,iG c] (if x.sealed=true then .tup [bdv (b.did t [(0,(s:Int))]),iv 9]else if b.room≤x.q.length then .tup [bdv (b.did t [(0,(s:Int))]),iv 8]else
  .tup [bdv (({b.did t [(0,(s:Int))]with tk:=b.tk+1}.setS s {x with q:=x.q++[QE.mk b.tk k c]}).did t [(2,2000),(3,2000),(1,(s:Int))]),iv 0]):=by
 have hh:=jm b s
 rw[oh hx]at hh
 have hs:=(List.getElem?_eq_some_iff.1 hx).1
 have hd1:=eB b t [(0,(s:Int))] (Nat.le_of_ble_eq_true rfl) (Nat.succ_pos _) (by omega)
 have hw:IntKind.i64.wrap (b.tk+1)=b.tk+1:=ah _ (by omega) (by omega)
 have hwi:Cv 59 [bdv {b.did t [(0,(s:Int))]with tk:=IntKind.i64.wrap (b.tk+1)},iv s,.agg [iv x.h,.d (.sl 13 (List.drop (Int.toNat 0) (List.take ((x.q.map qeD).length:Int).toNat (x.q.map qeD))++[qeD (QE.mk b.tk k c)])),bv x.sealed]] (bdv ({b.did t [(0,(s:Int))]with tk:=IntKind.i64.wrap (b.tk+1)}.setS s {x with q:=x.q++[QE.mk b.tk k c]})):=by
  rw[FJ]
  exact ng {b.did t [(0,(s:Int))]with tk:=IntKind.i64.wrap (b.tk+1)} s {x with q:=x.q++[QE.mk b.tk k c]} hs hl
 have hd2:=eB ({b.did t [(0,(s:Int))]with tk:=IntKind.i64.wrap (b.tk+1)}.setS s {x with q:=x.q++[QE.mk b.tk k c]}) t [(2,2000),(3,2000),(1,(s:Int))] (Nat.le_of_ble_eq_true rfl) (Nat.succ_pos _) (by show(b.tr++bG t [(0,(s:Int))]).length≤_;simp[bG];omega)
 have hql:((x.q.map qeD).length:Int)=(x.q.length:Nat):=by rw[List.length_map]
 refine ab Tryz.f15 Tryz.func15 rfl rfl fun w H B g0=>?_
 refine aa hh (fun _ _=>rfl) rfl rfl rfl ?_
 (repeat (first|refine Spl.t rfl ?_|refine Spl.f rfl ?_))
 refine aa hd1 (fun _ _=>rfl) rfl rfl rfl ?_
 (repeat (first|refine Spl.t rfl ?_|refine Spl.f rfl ?_))
 refine IdxP.of (stD x) (by omega) (by rw[Int.toNat_natCast];exact bH hx) ?_
 (repeat (first|refine Spl.t rfl ?_|refine Spl.f rfl ?_))
 refine Spl.of (fun h1=>?_) (fun h1=>?_)
 ·rw[if_pos h1]
  (repeat (first|refine Spl.t rfl ?_|refine Spl.f rfl ?_))
  exact FinP.open rfl rfl
 rw[h1,if_neg (by simp)]
 (repeat (first|refine Spl.t rfl ?_|refine Spl.f rfl ?_))
 refine Spl.of (fun h2=>?_) (fun h2=>?_)
 ·have h2:b.room≤((x.q.map qeD).length:Int):=of_decide_eq_true h2
  rw[if_pos (by omega)]
  (repeat (first|refine Spl.t rfl ?_|refine Spl.f rfl ?_))
  exact FinP.open rfl rfl
 have h2:¬b.room≤((x.q.map qeD).length:Int):=of_decide_eq_false h2
 rw[if_neg (by omega)]
 (repeat (first|refine Spl.t rfl ?_|refine Spl.f rfl ?_))
 refine RegP.mixE 0 13 [] rfl (by decide+kernel) ?_
 refine Req.of ?_ ?_
 ·exact⟨Int.le_refl _,by omega,Int.le_refl _,rfl⟩
 refine QuietP.of (iA rfl (.full _ _) (FlatQ.data rfl rfl) rfl (by show _+1≤_;rw[List.length_drop,List.length_take,List.length_map];omega)) ?_
 (repeat (first|refine Spl.t rfl ?_|refine Spl.f rfl ?_))
 rw[h1]at hwi hd2
 refine aa hwi (fun _ _=>rfl) rfl rfl rfl ?_
 (repeat (first|refine Spl.t rfl ?_|refine Spl.f rfl ?_))
 refine aa hd2 (fun _ _=>rfl) rfl rfl rfl ?_
 (repeat (first|refine Spl.t rfl ?_|refine Spl.f rfl ?_))
 refine FinP.open rfl ?_
 (rw[hw];first|done|rfl)
def qG (x:ST)(tk:Int):Option (QE×List QE):=match x.q with
 |[]=>none
 |e::r=>if e.tk=tk then some (e,r)else none
set_option maxHeartbeats 4000000 in
theorem Gh (b:BD)(t:Int)(s:Nat)(tk:Int){x:ST}(hx:b.st[s]?=some x)(hl:b.st.length≤8)(ht:b.tr.length≤900000)(hq:x.q.length≤1000000):
 Cv 16 [bdv b,iv t,iv s,iv tk] (match qG x tk with
  |none=>.tup [bdv (b.did t [(0,(s:Int))]),rY QE0,bv false]
  |some (e,r)=>.tup [bdv (((b.did t [(0,(s:Int))]).setS s {x with q:=r}).did t [(1,(s:Int))]),rY e,bv true]):=by
 have hh:=jm b s
 rw[oh hx]at hh
 have hs:=(List.getElem?_eq_some_iff.1 hx).1
 have hd1:=eB b t [(0,(s:Int))] (Nat.le_of_ble_eq_true rfl) (Nat.succ_pos _) (by omega)
 obtain⟨xh,xq,xs⟩:=x
 unfold qG
 simp only at hq ⊢
 cases xq with
 |nil=>
  simp only
  refine ab Tryz.f16 Tryz.func16 rfl rfl fun w H B g0=>?_
  refine aa hh (fun _ _=>rfl) rfl rfl rfl ?_
  (repeat (first|refine Spl.t rfl ?_|refine Spl.f rfl ?_))
  refine aa hd1 (fun _ _=>rfl) rfl rfl rfl ?_
  (repeat (first|refine Spl.t rfl ?_|refine Spl.f rfl ?_))
  refine IdxP.of (stD ⟨xh,[],xs⟩) (by omega) (by rw[Int.toNat_natCast];exact bH hx) ?_
  (repeat (first|refine Spl.t rfl ?_|refine Spl.f rfl ?_))
  exact FinP.open rfl rfl
 |cons e r=>
  simp only
  have hraw:List.drop (Int.toNat 1) (List.take ((((e::r).map qeD).length:Nat):Int).toNat ((e::r).map qeD))=r.map qeD:=by
   rw[Int.toNat_natCast,List.take_length];rfl
  have hwi:Cv 59 [bdv (b.did t [(0,(s:Int))]),iv s,.agg [iv xh,.d (.sl 13 (List.drop (Int.toNat 1) (List.take ((((e::r).map qeD).length:Nat):Int).toNat ((e::r).map qeD)))),bv xs]] (bdv ((b.did t [(0,(s:Int))]).setS s ⟨xh,r,xs⟩)):=by
   rw[hraw]
   exact ng (b.did t [(0,(s:Int))]) s ⟨xh,r,xs⟩ hs hl
  have hd2:=eB ((b.did t [(0,(s:Int))]).setS s ⟨xh,r,xs⟩) t [(1,(s:Int))] (Nat.le_of_ble_eq_true rfl) (Nat.succ_pos _) (by show(b.tr++bG t [(0,(s:Int))]).length≤_;simp[bG];omega)
  refine ab Tryz.f16 Tryz.func16 rfl rfl fun w H B g0=>?_
  refine aa hh (fun _ _=>rfl) rfl rfl rfl ?_
  (repeat (first|refine Spl.t rfl ?_|refine Spl.f rfl ?_))
  refine aa hd1 (fun _ _=>rfl) rfl rfl rfl ?_
  (repeat (first|refine Spl.t rfl ?_|refine Spl.f rfl ?_))
  refine IdxP.of (stD ⟨xh,e::r,xs⟩) (by omega) (by rw[Int.toNat_natCast];exact bH hx) ?_
  (repeat (first|refine Spl.t rfl ?_|refine Spl.f rfl ?_))
  refine IdxP.of (qeD e) (by omega) rfl ?_
  (repeat (first|refine Spl.t rfl ?_|refine Spl.f rfl ?_))
  refine Spl.of (fun h1=>?_) (fun h1=>?_)
  ·have h1:¬e.tk=tk:=by simpa using h1
   rw[if_neg h1]
   (repeat (first|refine Spl.t rfl ?_|refine Spl.f rfl ?_))
   exact FinP.open rfl rfl
  ·have h1:e.tk=tk:=by simpa using h1
   rw[if_pos h1]
   (repeat (first|refine Spl.t rfl ?_|refine Spl.f rfl ?_))
   refine IdxP.of (qeD e) (by omega) rfl ?_
   (repeat (first|refine Spl.t rfl ?_|refine Spl.f rfl ?_))
   refine Req.of ⟨by omega,by simp;omega,Int.le_refl _⟩ ?_
   (repeat (first|refine Spl.t rfl ?_|refine Spl.f rfl ?_))
   refine RegP.mixE 0 13 [8,9] rfl (by decide+kernel) ?_
   refine QuietP.of (QJ.call hwi (fun _ _=>rfl) rfl rfl) ?_
   refine QuietP.of (QJ.call hd2 (fun _ _=>rfl) rfl rfl) ?_
   (repeat (first|refine Spl.t rfl ?_|refine Spl.f rfl ?_))
   exact FinP.open rfl rfl
end Go.Proofs.E
namespace Go.Proofs.E
attribute [local irreducible] elems
def yw:Go.Shelf.Ren:=⟨fun|5=>61|7=>127|n=>n,fun|23=>42|20=>20|4=>4|25=>3|3=>73|n=>n,fun|n=>n⟩
theorem FE:Go.Proofs.SlLaysW.n5 Tryz.prog yw:={
 mixed:=by kernel_rfl
 f5:=⟨Tryz.f61.name,by kernel_rfl,Tryz.func61.trans (congrArg some (by kernel_rfl))⟩
 f7:=Tryz.func127.trans (congrArg some (by kernel_rfl))
 t4:=Tryz.underlying4
 a4:=Tryz.isAgg4
 z4:=Tryz.sizeOf4
 v4:=Tryz.zeroValue4
 t20:=Tryz.underlying20
 a20:=Tryz.isAgg20
 z20:=Tryz.sizeOf20
 v20:=Tryz.zeroValue20
 t23:=Tryz.underlying42
 a23:=Tryz.isAgg42
 z23:=Tryz.sizeOf42
 v23:=Tryz.zeroValue42}
open Go.Proofs in
theorem A3 (ag:Bool)(ks:List Value)(vs:List (List D)):Ct tab Tryz.prog 61 [.d (.mp ag ks vs)] [] (fun q σ'=>q=.mp 908∧σ'=[(908,.mp ag ks vs)]):=by
 intro ro γ H w us hΛ hm hlen hr
 obtain⟨u,rfl⟩:∃u,us=[u]:=by
  match us,hlen with
  |[u],_=>exact⟨u,rfl⟩
 have hu:=hr 0 _ _ rfl rfl
 cases eS hu with
 |mp _ _ _ b es clock us hM hl hl2 hk huu hh=>
  have hb:=hm.hok.m _ _ _ hM
  have key:CallsIn (Fr none) 0 Tryz.prog 61 [Value.map (some b)].toArray w fun e w'=>∃v r σ' γ' H',e=.returned v∧(r=.mp 908∧σ'=[(908,.mp ag ks vs)])∧Rep γ' H' r v∧(∀i,Gv.look i σ'=none→γ i=γ' i)∧(∀i e,Gv.look i ([]:Sg)=some e→e.var=true→γ i=γ' i)∧Mem w H (blks γ []) γ' H' σ' w':=by
   refine callsIn_wide.2 ((AnyW.maps_Clone FE b es clock w hb).mono fun e w' ⟨he,hw⟩=>?_)
   subst hw
   have hn:=hm.new 908 (.mp ag ks vs) (.map es clock) 0 ⟨es,clock,us,by rw[ap];exact World.alloc_heap_new w _,⟨hl,hl2,hk,huu,hh⟩⟩ (fun _ _ h=>by cases h)
   refine⟨_,.mp 908,[(908,.mp ag ks vs)],upd γ 908 ⟨w.heap.size,0,fun _=>False⟩,H,he,⟨rfl,rfl⟩,?_,fun i hi=>?_,fun i e h=>by simp[Gv.look]at h,by rw[ji];exact hn⟩
   ·have:=Rep.mp (γ:=upd γ 908 ⟨w.heap.size,0,fun _=>False⟩) (H:=H) 908
    rw[ap]at this
    exact this
   ·rw[cN _ _ fun e=>by subst e;rw[ae,if_pos rfl]at hi;cases hi]
  cases ro with
  |none=>exact key
  |some l=>exact CallsIn.inRound l key
end Go.Proofs.E
namespace Go.Proofs.E
attribute [local irreducible] elems PutP LookP
theorem A2:Cv 61 [.d (.v (.map none))] (.d (.v (.map none))):=
 cd [.map none] rfl fun w _=>(Go.Proofs.AnyW.maps_Clone_nil FE w).mono fun e w' ⟨h1,h2⟩=>⟨h1,by subst h2;exact Keeps.refl _ _⟩
def BD.fill (b:BD)(k:Int)(x:RS):BD:={b with sl:=some (ea k x (b.sl.getD []))}
def BD.slot (b:BD)(k:Int):Option RS:=aO k (b.sl.getD [])
set_option maxHeartbeats 4000000 in
theorem Fv (b:BD)(t k:Int)(x:RS)(ht:b.tr.length≤900000)(hk0:0≤k)(hk1:k≤100000):Cv 19 [bdv b,iv t,iv k,rsv x] (bdv ((b.fill k x).did t [(1,100+k),(3,3000+k)])):=by
 have w1:=iB 100 k hk0 hk1 (by omega) (by omega)
 have w2:=iB 3000 k hk0 hk1 (by omega) (by omega)
 have hd:=eB (b.fill k x) t [(1,IntKind.i64.wrap (100+k)),(3,IntKind.i64.wrap (3000+k))] (Nat.le_of_ble_eq_true rfl) (Nat.succ_pos _) (by show b.tr.length≤_;omega)
 obtain⟨bst,broom,btk,bup,bsite,bv',bcl,bsl,bgone,btr⟩:=b
 cases bsl with
 |none=>
  refine aD Tryz.f19 Tryz.func19 rfl rfl fun w H B g0=>?_
  (try refine WJ.cut ?_)
  (first|refine Sq.go ?_|refine af (Sq.go ?_)|skip)
  (try refine WJ.cut ?_)
  refine aa A2 (fun _ _=>rfl) rfl rfl rfl ?_
  (first|refine Sq.go ?_|refine af (Sq.go ?_)|skip)
  (try refine WJ.cut ?_)
  (repeat (first|refine Spl.t rfl ?_|refine Spl.f rfl ?_))
  (first|refine Sq.go ?_|refine af (Sq.go ?_)|skip)
  (try refine WJ.cut ?_)
  refine PutP.by eM [] x (e:=rsD) ?_
  (first|refine Sq.go ?_|refine af (Sq.go ?_)|skip)
  refine WJ.shift (SJ.pub 16 rfl rfl) ?_
  (try refine aq _ _ _ _ ?_)
  (repeat (first|refine Spl.t rfl ?_|refine Spl.f rfl ?_))
  refine aa hd (fun _ _=>rfl) rfl rfl rfl ?_
  (repeat (first|refine Spl.t rfl ?_|refine Spl.f rfl ?_))
  refine FinP.open rfl ?_
  (rw[w1,w2];first|done|rfl)
 |some m=>
  refine aD Tryz.f19 Tryz.func19 rfl rfl fun w H B g0=>?_
  (try refine WJ.cut ?_)
  (first|refine Sq.go ?_|refine af (Sq.go ?_)|skip)
  (try refine WJ.cut ?_)
  refine OpJ.call (A3 true (m.map fun p=>eM.val p.1) (m.map fun p=>rsD p.2)) (fun _ _=>rfl) rfl rfl (Wk.nil _) ?_
  rintro q σ' ⟨rfl,rfl⟩
  refine⟨rfl,?_⟩
  (repeat (first|refine Spl.t rfl ?_|refine Spl.f rfl ?_))
  (first|refine Sq.go ?_|refine af (Sq.go ?_)|skip)
  (try refine WJ.cut ?_)
  (repeat (first|refine Spl.t rfl ?_|refine Spl.f rfl ?_))
  (first|refine Sq.go ?_|refine af (Sq.go ?_)|skip)
  (try refine WJ.cut ?_)
  refine PutP.by eM m x (e:=rsD) ?_
  (first|refine Sq.go ?_|refine af (Sq.go ?_)|skip)
  refine WJ.shift (SJ.pub 908 rfl rfl) ?_
  (try refine aq _ _ _ _ ?_)
  (repeat (first|refine Spl.t rfl ?_|refine Spl.f rfl ?_))
  refine aa hd (fun _ _=>rfl) rfl rfl rfl ?_
  (repeat (first|refine Spl.t rfl ?_|refine Spl.f rfl ?_))
  refine FinP.open rfl ?_
  (rw[w1,w2];first|done|rfl)
end Go.Proofs.E
end
section
namespace Go.Gv
open Go.RowKit
theorem za (f:Nat→Option AV):∀n,∃t:T,(∀x,look x t=if x<n then f x else none)∧∀q,q∈t→f q.1=some q.2
 |0=>⟨[],fun x=>by rw[if_neg (Nat.not_lt_zero x)];rfl,fun q h=>by simp at h⟩
 |n+1=>by
  obtain⟨t,ht,hq⟩:=za f n
  cases hf:f n with
  |none=>
   refine⟨t,fun x=>?_,hq⟩
   rw[ht]
   by_cases e:x=n
   ·subst e;rw[if_neg (Nat.lt_irrefl x),if_pos (by omega),hf]
   ·by_cases h:x<n
    ·rw[if_pos h,if_pos (by omega)]
    ·rw[if_neg h,if_neg (by omega)]
  |some v=>
   refine⟨(n,v)::t,fun x=>?_,fun q h=>?_⟩
   ·rw[ae]
    by_cases e:x=n
    ·subst e;rw[if_pos rfl,if_pos (by omega),hf]
    ·rw[if_neg e,ht]
     by_cases h:x<n
     ·rw[if_pos h,if_pos (by omega)]
     ·rw[if_neg h,if_neg (by omega)]
   ·rcases List.mem_cons.1 h with rfl|h
    ·exact hf
    ·exact hq q h
def Gn (X:Cx)(o:Oper)(t:T)(σ:Sg)(d lost:Nat)(fr:AV→Bool){P:Type}(ve:P→AV)(σ':P→Sg):Prop:=
 o.guard=none∧o.dst=some d∧∀t':T,(∀x,x∈o.op.operands→∀v,ge t x=some v→ge t' x=some v)→(∀q,q∈t'→fr q.2=true)→
  OpJ X o t' σ (fun t2 σ2=>∃p,Wk (σ' p) σ2∧look d t2=some (ve p)∧∀x b,x≠d→x≠lost→look x t'=some b→look x t2=some b)
def nl {P:Type}(all:Array Oper)(V:Nat→AV)(t0:T)(m1 d lost:Nat)(ve:P→AV)(g:Option P)(S:Nat→Bool)(x:Nat):Option AV:=
 match g with
 |none=>aN all V t0 S m1 x
 |some p=>if x=d then some (ve p)else if x=lost then none else aN all V t0 S m1 x
def sgG {P:Type}(σ:Sg)(σ':P→Sg)(g:Option P):Sg:=match g with
 |none=>σ
 |some p=>σ' p
theorem xB {X:Cx}{all:Array Oper}{m1:Nat}{t0:T}{σ σq:Sg}{V:Nat→AV}{P:Type}{ve:P→AV}{σ':P→Sg}{oe:Oper}{d lost:Nat}{fr:AV→Bool}{Q':Exit→Act→World→Prop}
 (hlN:lost<X.N)(hc:CalmR all (m1+1))(hm:m1+1≤all.size)(hoe:all[m1]?=some oe)
 (hstep:∀i o,i<m1→all[i]?=some o→OStep X all o (aM all V t0 i) σq (V i)∧dOk o.dst X.N=true)
 (hfar:∀i o,i<m1→all[i]?=some o→cb oe i=true∨(aB all o d=false∧aB all o lost=false))
 (hq:Wk σq σ)(hq':∀p,Wk σq (σ' p))(hfr:∀i,i<m1→fr (V i)=true)(hft:∀x b,look x t0=some b→fr b=true)(heff:Gn X oe (aM all V t0 m1) σ d lost fr ve σ')
 (hend:∀p γ H a w listed,St X γ H ((d,ve p)::(lost,.junk)::aM all V t0 m1) (σ' p) a w→listed.size=all.size→(∀j,j<all.size→listed.getD j false=decide (j<m1+1))→wpAnyIn (Fr X.ro) 0 X.P .any all Q' (all.size-(m1+1)) listed a w):
 ∀(fuel:Nat)(listed:Array Bool)(γ:Ids)(H:HF)(a:Act)(w:World),listed.size=all.size→
  (∀j,m1+1≤j→listed.getD j false=false)→(∀i o,listed.getD i false=true→all[i]?=some o→∀e,e∈o.after→Region.binds .any e=true→listed.getD e.on false=true)→
  ((List.range (m1+1)).filter fun j=>!listed.getD j false).length+(all.size-(m1+1))=fuel→
  (∃g:Option P,listed.getD m1 false=g.isSome∧mE γ H (nl all V t0 m1 d lost ve g (fun j=>listed.getD j false)) a.tmps∧St X γ H [] (sgG σ σ' g) a w)→
  wpAnyIn (Fr X.ro) 0 X.P .any all Q' fuel listed a w:=by
 obtain⟨hge,hde,heff⟩:=heff
 have fin:∀(listed:Array Bool)(γ:Ids)(H:HF)(a:Act)(w:World),(∀j,j<m1+1→listed.getD j false=true)→listed.size=all.size→(∀j,m1+1≤j→listed.getD j false=false)→
  (∃g:Option P,listed.getD m1 false=g.isSome∧mE γ H (nl all V t0 m1 d lost ve g (fun j=>listed.getD j false)) a.tmps∧St X γ H [] (sgG σ σ' g) a w)→wpAnyIn (Fr X.ro) 0 X.P .any all Q' (all.size-(m1+1)) listed a w:=by
  rintro listed γ H a w hall hs htail ⟨g,hg,htab,sst⟩
  rw[hall m1 (by omega)]at hg
  cases g with
  |none=>cases hg
  |some p=>
   refine hend p γ H a w listed (dm sst fun x b hx=>?_) hs (fun j hj=>?_)
   ·by_cases hxd:x=d
    ·subst hxd
     rw[ae,if_pos rfl]at hx
     exact htab x b (by simp only[nl,if_true];exact hx)
    ·rw[ae,if_neg hxd,ae]at hx
     by_cases hxl:x=lost
     ·subst hxl
      rw[if_pos rfl]at hx
      cases hx
      have hlt:x<a.tmps.size:=by have:=sst.size;omega
      exact⟨a.tmps[x],by simp[hlt],.junk _⟩
     ·rw[if_neg hxl,bu]at hx
      refine htab x b ?_
      simp only[nl,if_neg hxd,if_neg hxl]
      rw[←hx]
      simp only[aN]
      rw[aA m1 (fun j hj _=>hall j (by omega))]
   ·by_cases hj':j<m1+1
    ·rw[hall j hj'];simp[hj']
    ·rw[htail j (by omega)];simp;omega
 intro fuel
 induction fuel with
 |zero=>
  intro listed γ H a w hs htail hclosed hcount hst
  have hall:∀j,j<m1+1→listed.getD j false=true:=fun j hj=>by
   have h0:((List.range (m1+1)).filter fun j=>!listed.getD j false)=[]:=List.length_eq_zero_iff.1 (by omega)
   have:=List.filter_eq_nil_iff.1 h0 j (List.mem_range.2 hj)
   simpa using this
  have:=fin listed γ H a w hall hs htail hst
  rw[show all.size-(m1+1)=0 from by omega]at this;exact this
 |succ fuel ih=>
  intro listed γ H a w hs htail hclosed hcount hst
  by_cases hall:∀j,j<m1+1→listed.getD j false=true
  ·have h0:((List.range (m1+1)).filter fun j=>!listed.getD j false)=[]:=List.filter_eq_nil_iff.2 fun j hj=>by simp only[hall j (List.mem_range.1 hj)];simp
   rw[h0]at hcount
   simp only[List.length_nil,Nat.zero_add]at hcount
   have:=fin listed γ H a w hall hs htail hst
   rw[hcount]at this
   exact this
  ·obtain⟨g,hg,htab,sst⟩:=hst
   refine⟨fun hn=>?_,fun i hi=>?_⟩
   ·
    exfalso
    have hex:∃j,j<m1+1∧listed.getD j false=false:=by
     refine Classical.byContradiction fun hno=>hall fun j hj=>?_
     cases hx:listed.getD j false with
     |true=>rfl
     |false=>exact absurd ⟨j,hj,hx⟩ hno
    have hmin:∃j,j<m1+1∧listed.getD j false=false∧∀i,i<j→listed.getD i false=true:=by
     obtain⟨j,hj⟩:=hex
     induction j using Nat.strongRecOn with
     |_ j ihj=>
      by_cases hlow:∀i,i<j→listed.getD i false=true
      ·exact⟨j,hj.1,hj.2,hlow⟩
      ·have:∃i,i<j∧listed.getD i false=false:=by
        refine Classical.byContradiction fun hno=>hlow fun i hi=>?_
        cases hx:listed.getD i false with
        |true=>rfl
        |false=>exact absurd ⟨i,hi,hx⟩ hno
       obtain⟨i,hi,hx⟩:=this
       exact ihj i hi ⟨by omega,hx⟩
    obtain⟨j,hj,hjl,hlow⟩:=hmin
    have hjn:j<all.size:=by omega
    have hmem':j∈Region.ready .any all listed:=by
     rw[mem_ready]
     refine⟨?_,all[j],by simp[hjn],fun e he hb=>hlow _ (hc.back j all[j] (by simp[hjn]) e he hb)⟩
     rw[Array.getD_eq_getD_getElem?]at hjl ⊢
     rw[Array.getElem?_eq_getElem (by omega)]at hjl ⊢
     simpa using hjl
    rw[hn]at hmem';cases hmem'
   ·obtain⟨h1,o,ho,h2⟩:=dz hi
    obtain⟨hil,hif⟩:=jA h1
    have hin:i<all.size:=(Array.getElem?_eq_some_iff.1 ho).1
    have him:i<m1+1:=by
     refine Classical.byContradiction fun hge=>hall fun j hj=>?_
     exact iy hclosed (hc.tail i o ho (by omega) j hj) ho h2
    have hwr:∀x,aB all o x=true→∀j,j<m1+1→aY all j=some x→listed.getD j false=decide (j<i):=by
     intro x hx j hj hd'
     cases hp:all[j]? with
     |none=>simp[aY,hp]at hd'
     |some p=>
      simp only[aY,hp,Option.bind_some]at hd'
      by_cases hji:j<i
      ·rcases hc.names i o (by omega) ho j p hji hp with h3|⟨h3,_⟩
       ·rw[bb h3 h2];simp[hji]
       ·rw[h3 x hd']at hx;cases hx
      ·by_cases e:j=i
       ·subst e;rw[hif];simp
       ·rcases hc.names j p (by omega) hp i o (by omega) ho with h3|⟨_,h3⟩
        ·cases hlj:listed.getD j false with
         |false=>simp;omega
         |true=>
          have:=bb h3 (hclosed j p hlj hp)
          rw[hif]at this;cases this
        ·rw[h3 x hd']at hx;cases hx
    have htab_i:∀x,aB all o x=true→aN all V t0 (fun j=>listed.getD j false) m1 x=look x (aM all V t0 i):=by
     intro x hx
     rw[bu]
     simp only[aN]
     rw[aA m1 (fun j hj hd'=>hwr x hx j (by omega) hd'),cV m1 (by omega)]
    have hleft:((List.range (m1+1)).filter fun j=>!(listed.setIfInBounds i true).getD j false).length+(all.size-(m1+1))=fuel:=by
     have hf:((List.range (m1+1)).filter fun j=>!listed.getD j false).length=((List.range (m1+1)).filter fun j=>!(listed.setIfInBounds i true).getD j false).length+1:=by
      have h5:∀(l:List Nat),l.Nodup→i∈l→(l.filter fun j=>!listed.getD j false).length=(l.filter fun j=>!(listed.setIfInBounds i true).getD j false).length+1:=by
       intro l
       induction l with
       |nil=>intro _ h;cases h
       |cons b l ihl=>
        intro hnd hmem'
        rw[List.nodup_cons]at hnd
        by_cases e:i=b
        ·subst e
         have h6:(listed.setIfInBounds i true).getD i false=true:=by
          rw[Array.getD_eq_getD_getElem?];simp[hil]
         have h7:(l.filter fun j=>!listed.getD j false)=(l.filter fun j=>!(listed.setIfInBounds i true).getD j false):=by
          refine List.filter_congr fun j hj=>?_
          have hne:i≠j:=fun e=>hnd.1 (e▸hj)
          rw[getD_set_ne false hne]
         simp only[List.filter_cons,hif,h6,Bool.not_false,Bool.not_true,if_true,h7,List.length_cons,Bool.false_eq_true,if_false]
        ·have h6:=getD_set_ne (listed:=listed) false e
         have h7:=ihl hnd.2 (by rcases List.mem_cons.1 hmem' with h|h;exact absurd h e;exact h)
         simp only[List.filter_cons,h6]
         split<;>simp only[List.length_cons,h7]
      exact h5 _ List.nodup_range (List.mem_range.2 him)
     omega
    have hclosed':∀j p,(listed.setIfInBounds i true).getD j false=true→all[j]?=some p→∀e,e∈p.after→Region.binds .any e=true→(listed.setIfInBounds i true).getD e.on false=true:=fun j p hj hp e he hb=>by
     by_cases e':i=j
     ·subst e'
      rw[ho]at hp;simp only[Option.some.injEq]at hp;subst hp
      exact getD_set_true (h2 e he hb)
     ·rw[getD_set_ne false e']at hj
      exact getD_set_true (hclosed j p hj hp e he hb)
    have htail':∀j,m1+1≤j→(listed.setIfInBounds i true).getD j false=false:=fun j hj=>by
     rw[getD_set_ne false (by omega)];exact htail j hj
    by_cases hie:i=m1
    ·
     subst hie
     rw[hoe]at ho;simp only[Option.some.injEq]at ho;subst ho
     have hg0:g=none:=by
      rw[hif]at hg
      cases g with
      |none=>rfl
      |some p=>cases hg
     subst hg0
     have hw:Region.wanted oe (yielded all a.tmps)=true:=by simp[Region.wanted,hge]
     unfold wpOpIn
     simp only[hoe]
     rw[if_pos hw]
     refine⟨fun _ _=>trivial,?_⟩
     obtain⟨tc,htc0,htq⟩:=za (fun x=>aN all V t0 (fun j=>listed.getD j false) i x) a.tmps.size
     have htc:∀x,look x tc=aN all V t0 (fun j=>listed.getD j false) i x:=fun x=>by
      rw[htc0]
      split
      ·rfl
      ·next hx=>
       cases hv:aN all V t0 (fun j=>listed.getD j false) i x with
       |none=>rfl
       |some b=>
        obtain⟨u,hu,_⟩:=htab x b hv
        exact absurd (Array.getElem?_eq_some_iff.1 hu).1 hx
     have hsc:St X γ H tc σ a w:=dm sst (fun x b hx=>htab x b (by show aN all V t0 _ i x=some b;rw[←htc];exact hx))
     have key:=heff tc (fun x hx v hv=>by
      cases x with
      |tmp y=>
       have hy:aB all oe y=true:=by
        simp only[aB,Bool.or_eq_true]
        exact .inl (.inr (List.any_eq_true.2 ⟨_,Array.mem_toList_iff.2 hx,by simp[hasT]⟩))
       show look y tc=some v
       rw[htc,htab_i y hy];exact hv
      |const c=>exact hv
      |func f=>exact hv
      |global g=>exact hv) (fun q hqm=>by
      have h5:=htq q hqm
      simp only[aN]at h5
      split at h5
      ·next j hj=>
       have:=(fA _ _ hj).1
       rw[←Option.some.inj h5]
       exact hfr j this
      ·exact hft _ _ h5)
     refine key γ H a w hsc _ _ ?_
     rintro γ' H' t' σ2 a' w' s' ⟨p,h4,h5,h6⟩
     refine ih _ γ' H' a' w' (by simpa using hs) htail' hclosed' hleft ⟨some p,?_,fun x b hx=>?_,s'.wk (Wk.nil _) h4⟩
     ·rw[Array.getD_eq_getD_getElem?];simp[hil]
     ·simp only[nl]at hx
      by_cases hxd:x=d
      ·rw[if_pos hxd]at hx
       subst hxd
       exact s'.tmp x b (by rw[←hx];exact h5)
      ·rw[if_neg hxd]at hx
       by_cases hxl:x=lost
       ·rw[if_pos hxl]at hx;cases hx
       ·rw[if_neg hxl]at hx
        refine s'.tmp x b (h6 x b hxd hxl ?_)
        rw[htc,←hx]
        simp only[aN]
        rw[aA i fun j hj hd'=>?_]
        exact(getD_set_ne false (by omega:i≠j)).symm
    ·
     have him1:i<m1:=by omega
     obtain⟨hos,hdok⟩:=hstep i o him1 ho
     have hfar':∀p,g=some p→aB all o d=false∧aB all o lost=false:=fun p hp=>by
      rcases hfar i o him1 ho with h3|h3
      ·rw[hp]at hg
       have:=bb h3 (hclosed m1 oe hg hoe)
       rw[hif]at this;cases this
      ·exact h3
     have htabg:∀x,aB all o x=true→∀S:Nat→Bool,nl all V t0 m1 d lost ve g S x=aN all V t0 S m1 x:=fun x hx S=>by
      cases hgg:g with
      |none=>rfl
      |some p=>
       obtain⟨n1,n2⟩:=hfar' p hgg
       simp only[nl]
       rw[if_neg (fun e=>by subst e;rw[n1]at hx;cases hx),if_neg (fun e=>by subst e;rw[n2]at hx;cases hx)]
     have hopnd:∀x,x∈o.op.operands→∀v,ge (aM all V t0 i) x=some v→Rep γ H v (a.eval x):=by
      intro x hx v hv
      cases x with
      |tmp y=>
       have hy:aB all o y=true:=by
        simp only[aB,Bool.or_eq_true]
        exact .inl (.inr (List.any_eq_true.2 ⟨_,Array.mem_toList_iff.2 hx,by simp[hasT]⟩))
       obtain⟨u,hu,hr⟩:=htab y v (by rw[htabg y hy,htab_i y hy];exact hv)
       simp only[Act.eval,Array.getD_eq_getD_getElem?,hu,Option.getD_some]
       exact hr
      |const c=>simp only[ge,Option.some.injEq]at hv;subst hv;exact bQ γ H c
      |func f=>simp only[ge,Option.some.injEq]at hv;subst hv;exact .d _ _ (.fn f [] [] rfl (fun j a u h1=>by simp at h1))
      |global g=>simp[ge]at hv
     have hnext:∀v γ' σ2 H' w',Mem w H (fun _=>False) γ' H' σ2 w'→Rep γ H' (V i) v→wpAnyIn (Fr X.ro) 0 X.P .any all Q' fuel (listed.setIfInBounds i true) (a.put o.dst v) w':=by
      intro v γ' σ2 H' w' hm' hr
      have sst':St X γ H' [] (sgG σ σ' g) (a.put o.dst v) w':=(sst.calm (d:=o.dst) hm' hdok hr).wk (Wk.nil _) (Wk.refl _)
      refine ih _ γ H' _ w' (by simpa using hs) htail' hclosed' hleft ⟨g,?_,?_,sst'⟩
      ·rw[getD_set_ne false hie];exact hg
      ·
       intro x b hx
       by_cases hxd:o.dst=some x
       ·have hnx:aB all o x=true:=by simp[aB,hxd]
        have hlw:aN all V t0 (fun j=>(listed.setIfInBounds i true).getD j false) m1 x=some (V i):=by
         simp only[aN]
         have:bB all (fun j=>(listed.setIfInBounds i true).getD j false) x m1=bB all (fun j=>decide (j<i+1)) x m1:=by
          refine aA m1 fun j hj hd'=>?_
          by_cases e:i=j
          ·subst e;rw[Array.getD_eq_getD_getElem?];simp[hil]
          ·show(listed.setIfInBounds i true).getD j false=_
           rw[getD_set_ne false e,hwr x hnx j (by omega) hd']
           simp;omega
         rw[this,cV m1 (by omega)]
         have hda:aY all i=some x:=by simp[aY,ho,hxd]
         simp[bB,hda]
        rw[htabg x hnx,hlw]at hx
        simp only[Option.some.injEq]at hx
        subst hx
        have hlt:x<a.tmps.size:=by have:=sst.size;rw[hxd]at hdok;simp only[dOk,Nat.blt_eq]at hdok;omega
        exact⟨v,by rw[hxd];simp[Act.put,hlt],hr⟩
       ·have hlw:nl all V t0 m1 d lost ve g (fun j=>(listed.setIfInBounds i true).getD j false) x=nl all V t0 m1 d lost ve g (fun j=>listed.getD j false) x:=by
         have h7:aN all V t0 (fun j=>(listed.setIfInBounds i true).getD j false) m1 x=aN all V t0 (fun j=>listed.getD j false) m1 x:=by
          simp only[aN]
          rw[aA m1 fun j hj hd'=>?_]
          have e:i≠j:=fun e=>by subst e;simp[aY,ho]at hd';exact hxd hd'
          exact getD_set_ne false e
         unfold nl
         rw[h7]
        rw[hlw]at hx
        obtain⟨u,hu,hr'⟩:=htab x b hx
        refine⟨u,?_,hr'.mono hm'.hle⟩
        cases hod:o.dst with
        |none=>simpa[Act.put,hod]using hu
        |some d=>
         have hne:d≠x:=fun e=>hxd (by rw[hod,e])
         simp only[Act.put]
         rw[Array.getElem?_setIfInBounds,if_neg hne];exact hu
     have hmemσ:Mem X.w0 X.H0 X.B γ H σq w:=sst.mem.wk (by
      cases g with
      |none=>exact hq
      |some p=>exact hq' p)
     have hguard:∀j b' d b,o.guard=some (j,b')→((all[j]?).bind (·.dst))=some d→look d (aM all V t0 i)=some (.d (.v (.bool b)))→yielded all a.tmps j=some b:=by
      intro j b' d b hg hd' hl
      have hnd:aB all o d=true:=by simp[aB,hg,hd']
      obtain⟨u,hu,hr⟩:=htab d _ (by rw[htabg d hnd,htab_i d hnd];exact hl)
      have:=aV hr
      subst this
      simp[yielded,hd',hu]
     have hguardU:∀j b' d,o.guard=some (j,b')→((all[j]?).bind (·.dst))=some d→look d (aM all V t0 i)=some (.tup [])→yielded all a.tmps j=none:=by
      intro j b' d hg hd' hl
      have hnd:aB all o d=true:=by simp[aB,hg,hd']
      obtain⟨u,hu,hr⟩:=htab d _ (by rw[htabg d hnd,htab_i d hnd];exact hl)
      have:=cP hr
      subst this
      simp[yielded,hd',hu,undef]
     unfold wpOpIn
     simp only[ho]
     rcases hos with⟨hg,hq⟩|⟨j,b,d,hg,hd',hl,hq⟩|⟨j,b,b',d,hg,hd',hl,hne,hV⟩|⟨j,b,d,hg,hd',hl,hV⟩
     ·have hw:Region.wanted o (yielded all a.tmps)=true:=by simp[Region.wanted,hg]
      rw[if_pos hw]
      exact⟨fun _ _=>trivial,hq γ H a w sst.lam hopnd hmemσ _ _ hnext⟩
     ·have hw:Region.wanted o (yielded all a.tmps)=true:=by simp[Region.wanted,hg,hguard j b d b hg hd' hl]
      rw[if_pos hw]
      exact⟨fun _ _=>trivial,hq γ H a w sst.lam hopnd hmemσ _ _ hnext⟩
     ·have hw:Region.wanted o (yielded all a.tmps)=false:=by simp[Region.wanted,hg,hguard j b d b' hg hd' hl,hne]
      simp only[hw,Bool.false_eq_true,if_false]
      exact⟨fun _ _=>trivial,hnext undef γ [] H w (sst.mem.refl γ) (by rw[hV];exact cC)⟩
     ·have hw:Region.wanted o (yielded all a.tmps)=false:=by simp[Region.wanted,hg,hguardU j b d hg hd' hl]
      simp only[hw,Bool.false_eq_true,if_false]
      exact⟨fun _ _=>trivial,hnext undef γ [] H w (sst.mem.refl γ) (by rw[hV];exact cC)⟩
def CQ (X:Cx)(all:Array Oper)(σ:Sg)(Q:T→Prop):List Oper→T→Prop
 |[],t=>Q t
 |o::al,t=>∃V,OStep X all o t σ V∧dOk o.dst X.N=true∧CQ X all σ Q al (putT o.dst V t)
theorem CQ.table {X:Cx}{all:Array Oper}{σ:Sg}{Q:T→Prop}:∀(al:List Oper)(k:Nat)(t:T),(∀j,j<al.length→all[k+j]?=al[j]?)→CQ X all σ Q al t→
 ∃V:Nat→AV,(∀j o,j<al.length→all[k+j]?=some o→OStep X all o (aC all V t k j) σ (V (k+j))∧dOk o.dst X.N=true)∧Q (aC all V t k al.length)
 |[],k,t,_,h=>⟨fun _=>.junk,fun j o hj=>by simp at hj,h⟩
 |p::al,k,t,ha,⟨V0,h1,h2,h4⟩=>by
  have hk:all[k]?=some p:=by simpa using ha 0 (by simp)
  have hdk:aY all k=p.dst:=by simp[aY,hk]
  have ha':∀j,j<al.length→all[k+1+j]?=al[j]?:=fun j hj=>by have:=ha (j+1) (by simp;omega);rw[show k+1+j=k+(j+1)from by omega];simpa using this
  have hne:∀j,k+(j+1)≠k:=fun j=>by omega
  have hadd:∀j,k+(j+1)=k+1+j:=fun j=>by omega
  obtain⟨V',i1,i3⟩:=CQ.table al (k+1) _ ha' h4
  have hV:∀j,aC all (fun i=>if i=k then V0 else V' i) t k (j+1)=aC all V' (putT p.dst V0 t) (k+1) j:=fun j=>by
   rw[ct,hdk]
   simp only[if_true]
   exact cg j fun i h7 h8=>if_neg (by omega)
  refine⟨fun i=>if i=k then V0 else V' i,?_,by rw[List.length_cons,hV];exact i3⟩
  intro j o hj ho
  cases j with
  |zero=>
   rw[Nat.add_zero,hk]at ho
   simp only[Option.some.injEq]at ho
   subst ho
   simp only[Nat.add_zero,if_true,aC]
   exact⟨h1,h2⟩
  |succ j=>
   rw[hV]
   simp only[if_neg (hne j)]
   have:=i1 j o (by simpa using hj) (by rw[←hadd j];exact ho)
   rw[hadd j];exact this
def Db (X:Cx)(o:Oper)(t:T)(σ:Sg)(K:T→Prop):Prop:=
 qw X o t σ (fun V=>match dOk o.dst X.N with|true=>K (putT o.dst V t)|false=>False) (QuietP X o t σ (fun V=>match dOk o.dst X.N with|true=>K (putT o.dst V t)|false=>False) fun _ _ _=>False)
def vQ (X:Cx)(σ:Sg)(Q:T→Prop):List Oper→T→Prop
 |[],t=>Q t
 |o::al,t=>match o.guard with
  |none=>Db X o t σ fun t=>vQ X σ Q al t
  |some _=>False
theorem rG {X:Cx}{all:Array Oper}{σ:Sg}{Q:T→Prop}:∀(al:List Oper)(t:T),vQ X σ Q al t→CQ X all σ Q al t
 |[],_,h=>h
 |o::al,t,h=>by
  unfold vQ at h
  split at h
  ·next hg=>
   have fin:∀V,QJ X o t σ V→(match dOk o.dst X.N with|true=>vQ X σ Q al (putT o.dst V t)|false=>False)→CQ X all σ Q (o::al) t:=fun V hq hk=>by
    split at hk
    ·next hb=>exact⟨V,.inl ⟨hg,hq⟩,hb,rG al _ hk⟩
    ·exact hk.elim
   unfold Db at h
   rcases iN h with⟨V,hq,hk⟩|h
   ·exact fin V hq hk
   ·cases h with
    |of hq hk=>exact fin _ hq hk
    |born hb hk=>exact hk.elim
  ·exact h.elim
def EffP (X:Cx)(o:Oper)(t:T)(σ:Sg)(d lost:Nat)(fr:AV→Bool)(σq:Sg)(K:T→Sg→Prop):Prop:=
 t.all (fun q=>fr q.2)=true∧∃(P:Type)(ve:P→AV)(σ':P→Sg),Gn X o t σ d lost fr ve σ'∧(∀p,Wk σq (σ' p))∧∀p,K ((d,ve p)::(lost,.junk)::t) (σ' p)
def Dq (all:Array Oper)(m1 d lost:Nat):Bool:=match all[m1]? with
 |some oe=>(List.range m1).all fun i=>cb oe i||(match all[i]? with
  |some o=>!aB all o d&&!aB all o lost
  |none=>true)
 |none=>false
theorem pw (all:Array Oper)(V:Nat→AV)(t0:T):∀m i,i<m→(∃d,aY all i=some d)→∃q,q∈aM all V t0 m∧q.2=V i
 |m+1,i,hi,⟨d,hd⟩=>by
  by_cases e:i=m
  ·subst e
   exact⟨(d,V i),by simp[aM,hd,putT],rfl⟩
  ·obtain⟨q,h1,h2⟩:=pw all V t0 m i (by omega) ⟨d,hd⟩
   refine⟨q,?_,h2⟩
   simp only[aM]
   cases aY all m with
   |none=>exact h1
   |some d=>exact List.mem_cons_of_mem _ h1
theorem nq (all:Array Oper)(V:Nat→AV)(t0:T):∀m q,q∈t0→q∈aM all V t0 m
 |0,_,h=>h
 |m+1,q,h=>by
  have:=nq all V t0 m q h
  simp only[aM]
  cases aY all m with
  |none=>exact this
  |some d=>exact List.mem_cons_of_mem _ this
theorem qh {X:Cx}{id:Nat}{ops:Array Oper}{t:T}{σ:Sg}{Q:T→Sg→Prop}(m1 d lost:Nat)(ks:List Nat)(fr:AV→Bool){oe:Oper}(hm:X.P.follows .mixedOrders=true)(hoe:ops[m1]?=some oe)
 (hc:(oR ops (m1+1)&&Nat.ble (m1+1) ops.size&&Dq ops m1 d lost&&(ops.toList.take m1).all (fun o=>o.dst.isSome))=true)(hlN:Nat.blt lost X.N=true)
 (h:vQ X (dJ ks σ) (fun t=>EffP X oe t σ d lost fr (dJ ks σ) fun t σ=>vO X ops Q (ops.size-(m1+1)) (fT (m1+1) (dc (ops.size-(m1+1)))) t σ) (ops.toList.take m1) t):RegP X id ops t σ Q:=by
 intro Q' hQ
 simp only[Bool.and_eq_true,Nat.ble_eq]at hc
 simp only[Nat.blt_eq]at hlN
 obtain⟨⟨⟨hc1,hle⟩,hfo⟩,hds⟩:=hc
 have hlen:(ops.toList.take m1).length=m1:=by simp;omega
 obtain⟨V,g1,g2⟩:=CQ.table (all:=ops) (ops.toList.take m1) 0 t (fun j hj=>by rw[hlen]at hj;rw[Nat.zero_add,List.getElem?_take,if_pos hj];simp) (rG _ _ h)
 simp only[hlen,Nat.zero_add]at g1 g2
 rw[bl]at g2
 obtain⟨hfr,P,ve,σ',heff,hw',hk⟩:=g2
 rw[List.all_eq_true]at hfr hds
 intro γ H a w s
 refine wpIn_region_any hm ?_
 have s':St X γ H t σ a {w with drawn:=w.drawn+1}:=⟨s.lam,s.round,s.defers,s.size,s.pinned,s.tmp,s.mem.drew⟩
 have hall:∀j,(Array.replicate ops.size false).getD j false=false:=fun j=>by
  rw[Array.getD_eq_getD_getElem?,Array.getElem?_replicate];split<;>rfl
 refine xB (P:=P) hlN (oQ hc1) hle hoe (V:=V) (σ:=σ) (σq:=dJ ks σ) (ve:=ve) (σ':=σ') (d:=d) (lost:=lost) (fr:=fr) (t0:=t) (fun i o hi ho=>by
  have:=g1 i o hi ho
  rw[bl]at this
  exact this) (fun i o hi ho=>?_) (iW ks σ).1 hw' (fun i hi=>?_) (fun x b hx=>?_) heff (fun p γ H a w lst st hls hlst=>?_) ops.size _ γ H a _ (by simp) (fun j _=>hall j) (fun i o hi=>by rw[hall i]at hi;cases hi) ?_ ⟨none,hall m1,fun x b hx=>?_,s'.wk (Wk.nil _) (Wk.refl _)⟩
 ·unfold Dq at hfo
  rw[hoe]at hfo
  have:=List.all_eq_true.1 hfo i (List.mem_range.2 hi)
  rw[ho]at this
  simp only[Bool.or_eq_true,Bool.and_eq_true,Bool.not_eq_true']at this
  exact this
 ·have hi':i<ops.size:=by omega
  have ho:(ops.toList.take m1)[i]?=some ops[i]:=by rw[List.getElem?_take,if_pos hi];simp[hi']
  have hd:=hds _ (List.mem_of_getElem? ho)
  obtain⟨x,hx⟩:=Option.isSome_iff_exists.1 hd
  obtain⟨q,h5,h6⟩:=pw ops V t m1 i hi ⟨x,by simp[aY,hi',hx]⟩
  rw[←h6];exact hfr q h5
 ·exact hfr _ (nq ops V t m1 _ (cI hx))
 ·have e:lst=(fT (m1+1) (dc (ops.size-(m1+1)))).toArray:=by
   rw[iJ,fi]
   apply Array.ext
   ·simp[hls];omega
   ·intro j h1 h2
    have hj:=hlst j (by omega)
    rw[Array.getD_eq_getD_getElem?,Array.getElem?_eq_getElem h1,Option.getD_some]at hj
    rw[hj,List.getElem_toArray,List.getElem_append]
    split
    ·next h3=>simp at h3;simp[h3]
    ·next h3=>simp at h3;simp;omega
  rw[e]
  exact gz (Q:=Q) (Q':=pn X Q') (fun γ H t σ a w s q=>⟨γ,H,t,σ,s,hQ t σ q⟩) (ops.size-(m1+1)) _ _ _ (hk p) γ H a w st
 ·have:((List.range (m1+1)).filter fun j=>!(Array.replicate ops.size false).getD j false)=List.range (m1+1):=List.filter_eq_self.2 fun j _=>by rw[hall j];rfl
  rw[this,List.length_range];omega
 ·have:bB ops (fun j=>(Array.replicate ops.size false).getD j false) x m1=none:=by
   have h0:∀k,bB ops (fun _=>false) x k=none:=fun k=>by
    induction k with
    |zero=>rfl
    |succ k ih=>simp[bB,ih]
   rw[aA (S':=fun _=>false) m1 (fun j _ _=>hall j)];exact h0 m1
  simp only[nl,aN,this]at hx
  exact s.tmp x b hx
theorem qW {i:Nat}{a:AV}(h:aP i a=false):drop i a=a:=by unfold drop;rw[h]
theorem sR {i:Nat}{e:Ent}(h:aJ i e=false):je i e=e:=by
 have hcs:∀cs:List AV,cs.any (aP i)=false→cs.map (drop i)=cs:=fun cs h=>by
  have:∀a,a∈cs→drop i a=a:=fun a ha=>qW (by have:=List.any_eq_false.1 h a ha;simpa using this)
  exact(List.map_congr_left this).trans (List.map_id _)
 cases e with
 |cells cs=>exact congrArg Ent.cells (hcs cs h)
 |cellsT t cs=>exact congrArg (Ent.cellsT t) (hcs cs h)
 |_=>rfl
theorem ii {i x:Nat}{t:T}:look x (bY i t)=(look x t).map (drop i):=gM
theorem jH {i j:Nat}{t:T}(h:t.all (fun q=>!aP j q.2)=true):(bY i t).all (fun q=>!aP j q.2)=true:=by
 rw[List.all_eq_true]at h ⊢
 intro q hq
 obtain⟨z,hz,rfl⟩:=List.mem_map.1 hq
 simp only
 unfold drop
 split
 ·rfl
 ·exact h z hz
abbrev frI (id i:Nat)(a:AV):Bool:=!aP id a&&!aP i a
section app
variable {X:Cx} {ty:TypeId} {pos:String} {aft:Array Edge} {t:T} {σ:Sg} {K:T→Sg→Prop}
theorem u4 {i:Nat}{e:Ent}:Wk (dJ [i] σ) ((i,e)::al [(i,.gone)] σ):=fun j f hj=>by
 obtain⟨h1,h2⟩:=iW [i] σ
 have hne:j≠i:=fun e=>by
  subst e
  rw[h2 j (by simp[inN])]at hj;cases hj
 rw[ae,if_neg hne,be,ae,if_neg hne]
 exact h1 j f hj
theorem iY {i:Nat}{t:T}{σ:Sg}{pin:List Nat}(h1:t.all (fun q=>!aP i q.2)=true)(h2:am i [] σ pin=true):am i t σ pin=true:=by
 unfold am at h2 ⊢
 rw[h1]
 simpa using h2
theorem EffP.rowApp (i id:Nat){p q d:Nat}{st xt:TypeId}{k:Nat}{r:RW}{l1 l2:List RW}{av:AV}{ys:List (List D)}(hfr:t.all (fun z=>frI id i z.2)=true)(hx:look p t=some (.d (.v r.sl)))(hi:look i σ=some (.res (bi X.P X.Λ k) (l1++r::l2)))
 (hy:look q t=some av)(hpq:Nat.beq q p=false)(hpd:Nat.beq p d=false)(hel:elems av=some (k,ys))(hI:eP X.P st xt=some k)(hb:r.xs.length+ys.length≤1000000000)(h0:0<r.xs.length+ys.length)
 (hσ:am id [] σ X.pin=true)(hσi:am i [] (al [(i,.gone)] σ) X.pin=true)(hN:dOk (some d) X.N=true)
 (h1:am id [] (al [(id,.gone)] ((id,.arr k (r.xs++ys))::bF id ((id,.arr k r.xs)::(i,.res (bi X.P X.Λ k) (l1++l2))::al [(i,.gone)] σ))) X.pin=true)
 (h2:am i [] (al [(i,.gone)] ((id,.arr k (r.xs++ys))::bF id ((id,.arr k r.xs)::(i,.res (bi X.P X.Λ k) (l1++l2))::al [(i,.gone)] σ))) X.pin=true)
 (kk:∀b c,K ((d,.d (.v (RW.sl ⟨b,c,r.xs++ys⟩)))::(p,.junk)::t) ((i,.res (bi X.P X.Λ k) (l1++⟨b,c,r.xs++ys⟩::l2))::al [(i,.gone)] σ)):
 EffP X ⟨some d,.call {callee:=.builtin .append,args:=#[.tmp p,.tmp q],argTypes:=#[st,xt]},ty,pos,aft,none⟩ t σ d p (frI id i) (dJ [i] σ) K:=by
 have hne:i≠id:=fun e=>by
  subst e
  exact(aS hσ hi).1 rfl
 have hnb:Nat.beq i id=false:=by
  cases h:Nat.beq i id with
  |false=>rfl
  |true=>exact absurd (Nat.eq_of_beq_eq_true h) hne
 have hqp:q≠p:=Nat.ne_of_beq_eq_false hpq
 have hpd':p≠d:=Nat.ne_of_beq_eq_false hpd
 refine⟨hfr,Nat×Nat,fun bc=>.d (.v (RW.sl ⟨bc.1,bc.2,r.xs++ys⟩)),fun bc=>(i,.res (bi X.P X.Λ k) (l1++⟨bc.1,bc.2,r.xs++ys⟩::l2))::al [(i,.gone)] σ,⟨rfl,rfl,fun t' hop hq=>?_⟩,fun _=>u4,fun bc=>kk bc.1 bc.2⟩
 have hid:t'.all (fun z=>!aP id z.2)=true:=List.all_eq_true.2 fun z hz=>by have:=hq z hz;simp only[frI,Bool.and_eq_true]at this;exact this.1
 have hii:t'.all (fun z=>!aP i z.2)=true:=List.all_eq_true.2 fun z hz=>by have:=hq z hz;simp only[frI,Bool.and_eq_true]at this;exact this.2
 have hx':look p t'=some (.d (.v r.sl)):=hop (.tmp p) (by simp[Op.operands,Call.operands]) _ hx
 have hy':look q t'=some av:=hop (.tmp q) (by simp[Op.operands,Call.operands]) _ hy
 refine OpJ.rowApp i id hx' hi (by show look q _=some av;rw[ae,if_neg hqp];exact hy') hel hI hb h0 (iY hid hσ) (iY hii hσi) hN h1 (iY (jH ?_) h2) fun b c=>⟨(b,c),fun j e hj=>?_,by rw[ae,if_pos rfl],fun x v hxd hxl hv=>?_⟩
 ·show List.all (_::bY id _) _=true
  rw[List.all_cons,jH (by rw[List.all_cons,hii];simp[aP,cm,bX,hnb])]
  simp[aP,cm,bX,hnb]
 ·simp only at hj
  rw[ae]at hj ⊢
  split at hj
  ·next e1=>rw[if_pos e1];exact hj
  ·next e1=>
   rw[if_neg e1]
   rw[be]at hj
   split at hj
   ·cases hj
   ·have h3:=aS hσ hj
    have l2r:∀τ:Sg,look j (al [(i,.gone),(id,.gone)] τ)=look j τ:=fun τ=>by rw[be,ae,if_neg e1,ae,if_neg h3.1];rfl
    have l1r:∀τ:Sg,look j (al [(i,.gone)] τ)=look j τ:=fun τ=>by rw[be,ae,if_neg e1];rfl
    rw[l2r,ae,if_neg h3.1,bF,cA,ae,if_neg h3.1,ae,if_neg e1,l1r,hj]
    exact congrArg some (sR h3.2)
 ·rw[ae,if_neg hxd,ii]
  show(look x ((d,_)::bY id _)).map _=_
  rw[ae,if_neg hxd,ii,ae,if_neg hxl,hv]
  have h5:=List.all_eq_true.1 hid _ (cI hv)
  simp only[Bool.not_eq_true']at h5
  simp[qW h5]
theorem EffP.rowNew (i id:Nat){p q d:Nat}{st xt:TypeId}{k:Nat}{l1:List RW}{av:AV}{ys:List (List D)}(hfr:t.all (fun z=>frI id i z.2)=true)(hx:look p t=some (.d (.v (.slice none 0 0))))(hi:look i σ=some (.res (bi X.P X.Λ k) l1))
 (hy:look q t=some av)(hpq:Nat.beq q p=false)(hpd:Nat.beq p d=false)(hel:elems av=some (k,ys))(hI:eP X.P st xt=some k)(hb:0+ys.length≤1000000000)(h0:0<0+ys.length)
 (hσ:am id [] σ X.pin=true)(hN:dOk (some d) X.N=true)
 (h1:am id [] (al [(id,.gone)] ((id,.arr k ([]++ys))::bF id ((id,.arr k [])::σ))) X.pin=true)
 (h2:am i [] (al [(i,.gone)] ((id,.arr k ([]++ys))::bF id ((id,.arr k [])::σ))) X.pin=true)
 (kk:∀b c,K ((d,.d (.v (RW.sl ⟨b,c,[]++ys⟩)))::(p,.junk)::t) ((i,.res (bi X.P X.Λ k) (l1++[⟨b,c,[]++ys⟩]))::al [(i,.gone)] σ)):
 EffP X ⟨some d,.call {callee:=.builtin .append,args:=#[.tmp p,.tmp q],argTypes:=#[st,xt]},ty,pos,aft,none⟩ t σ d p (frI id i) (dJ [i] σ) K:=by
 have hne:i≠id:=fun e=>by
  subst e
  exact(aS hσ hi).1 rfl
 have hnb:Nat.beq i id=false:=by
  cases h:Nat.beq i id with
  |false=>rfl
  |true=>exact absurd (Nat.eq_of_beq_eq_true h) hne
 have hqp:q≠p:=Nat.ne_of_beq_eq_false hpq
 have hpd':p≠d:=Nat.ne_of_beq_eq_false hpd
 refine⟨hfr,Nat×Nat,fun bc=>.d (.v (RW.sl ⟨bc.1,bc.2,[]++ys⟩)),fun bc=>(i,.res (bi X.P X.Λ k) (l1++[⟨bc.1,bc.2,[]++ys⟩]))::al [(i,.gone)] σ,⟨rfl,rfl,fun t' hop hq=>?_⟩,fun _=>u4,fun bc=>kk bc.1 bc.2⟩
 have hid:t'.all (fun z=>!aP id z.2)=true:=List.all_eq_true.2 fun z hz=>by have:=hq z hz;simp only[frI,Bool.and_eq_true]at this;exact this.1
 have hii:t'.all (fun z=>!aP i z.2)=true:=List.all_eq_true.2 fun z hz=>by have:=hq z hz;simp only[frI,Bool.and_eq_true]at this;exact this.2
 have hx':look p t'=some (.d (.v (.slice none 0 0))):=hop (.tmp p) (by simp[Op.operands,Call.operands]) _ hx
 have hy':look q t'=some av:=hop (.tmp q) (by simp[Op.operands,Call.operands]) _ hy
 refine OpJ.rowNew i id hx' hi (by show look q _=some av;rw[ae,if_neg hqp];exact hy') hel hI hb h0 (iY hid hσ) hN h1 (iY (jH ?_) h2) fun b c=>⟨(b,c),fun j e hj=>?_,by rw[ae,if_pos rfl],fun x v hxd hxl hv=>?_⟩
 ·show List.all (_::bY id _) _=true
  rw[List.all_cons,jH (by rw[List.all_cons,hii];simp[aP,cm,bX,hnb])]
  simp[aP,cm,bX,hnb]
 ·simp only at hj
  rw[ae]at hj ⊢
  split at hj
  ·next e1=>rw[if_pos e1];exact hj
  ·next e1=>
   rw[if_neg e1]
   rw[be]at hj
   split at hj
   ·cases hj
   ·have h3:=aS hσ hj
    have l2r:∀τ:Sg,look j (al [(i,.gone),(id,.gone)] τ)=look j τ:=fun τ=>by rw[be,ae,if_neg e1,ae,if_neg h3.1];rfl
    rw[l2r,ae,if_neg h3.1,bF,cA,ae,if_neg h3.1,hj]
    exact congrArg some (sR h3.2)
 ·rw[ae,if_neg hxd,ii]
  show(look x ((d,_)::bY id _)).map _=_
  rw[ae,if_neg hxd,ii,ae,if_neg hxl,hv]
  have h5:=List.all_eq_true.1 hid _ (cI hv)
  simp only[Bool.not_eq_true']at h5
  simp[qW h5]
end app
section
variable {X:Cx} {t:T} {σ:Sg} {K:T→Sg→Prop} {o:Oper}
theorem OpJ.rowIn (i id x:Nat){k n:Nat}{xs:List (List D)}{l1:List RW}(hi:look i σ=some (.res (bi X.P X.Λ k) l1))(hid:look id σ=some (.arr k xs))(hx:look x t=some (.arr id k n))(hn:xs.length=n)(h0:0<n)
 (hf:am id [] (al [(id,.gone)] σ) X.pin=true)(hfi:am i (bY id t) (al [(i,.gone)] σ) X.pin=true)
 (kk:∀b c,OpJ X o ((x,.d (.v (RW.sl ⟨b,c,xs⟩)))::bY id t) ((i,.res (bi X.P X.Λ k) (l1++[⟨b,c,xs⟩]))::al [(i,.gone),(id,.gone)] σ) K):OpJ X o t σ K:=fun γ H a w s=>by
 obtain⟨γ',b,c,s'⟩:=s.rowIn i id x (l1:=l1) (l2:=[]) (by rw[List.append_nil];exact hi) hid hx hn h0 hf hfi
 exact kk b c γ' H a w s'
end
end Go.Gv
end
section
open Go Go.Gv
attribute [local irreducible] Go.Gv.WJ Go.Gv.OpJ Go.Gv.QJ Go.Gv.Spl Go.Gv.Req Go.Gv.IdxP Go.Gv.RegP Go.Gv.FinP Go.Gv.CellP Go.Gv.CellsP Go.Gv.ArrP Go.Gv.ArrsP Go.Gv.DropP Go.Gv.ByteP Go.Gv.StoreP
set_option maxRecDepth 100000
namespace Go.Proofs.E
attribute [local irreducible] PutP LookP
noncomputable abbrev S9 (R:List (Int×RW)):Sg:=[(19,.mp false (R.map fun p=>eM.val p.1) (R.map fun p=>[D.v p.2.sl])),(900,.res (bi Tryz.prog tab 1) (R.map (·.2)))]
theorem zx {l:List TA}{k i:Nat}(hm:kc l=true)(h:dL l k=none)(hi:eO l k k=some i)(hk:k<l.length):io l=.tup [iv (i:Nat),iv (k:Nat),iv 13]:=by
 unfold io
 rw[if_pos hm,kV h hi _ hk]
theorem yu {α:Type}{l:List α}{j:Nat}{a:α}(h:l[j]?=some a):l=l.take j++a::l.drop (j+1):=by
 obtain⟨h1,h2⟩:=List.getElem?_eq_some_iff.1 h
 rw[←h2,←List.drop_eq_getElem_cons h1,List.take_append_drop]
theorem Ec {R:List (Int×RW)}{j:Nat}{loc:Int}{r:RW}(h:R[j]?=some (loc,r)):R.map (·.2)=(R.take j).map (·.2)++r::(R.drop (j+1)).map (·.2):=by
 have:=congrArg (List.map (·.2)) (yu h)
 rw[List.map_append,List.map_cons]at this
 exact this
theorem Co {R:List (Int×RW)}{j:Nat}{loc:Int}{r x:RW}(h:R[j]?=some (loc,r))(hn:∀(i:Nat)(p:Int×RW),i<j→R[i]?=some p→loc≠p.1):(ea loc x R).map (·.2)=(R.take j).map (·.2)++x::(R.drop (j+1)).map (·.2):=by
 have h1:=(List.getElem?_eq_some_iff.1 h).1
 rw[m7 h hn,List.set_eq_take_append_cons_drop,if_pos h1,List.map_append,List.map_cons]
theorem zZ {R:List (Int×RW)}{loc:Int}{x:RW}(h:aO loc R=none):(ea loc x R).map (·.2)=R.map (·.2)++[x]:=by
 rw[m6 (eH h),List.map_append];rfl
set_option maxHeartbeats 2000000 in
theorem wj (l:List TA)(hl:l.length≤1000):Cv 22 [.d (.sl 3 (l.map taD))] (io l):=by
 have hc:=zO l hl
 unfold sW at hc
 have hla:=BO l
 cases hm:kc l with
 |false=>
  rw[hm,if_neg (by simp)]at hc
  refine ab Tryz.f22 Tryz.func22 rfl rfl fun w H B g0=>?_
  refine aa hc (fun _ _=>rfl) rfl rfl rfl ?_
  (repeat (first|refine Spl.t rfl ?_|refine Spl.f rfl ?_))
  refine FinP.open rfl ?_
  unfold io
  rw[hm,if_neg (by simp)];rfl
 |true=>
  rw[hm,if_pos rfl]at hc
  have ha:=fun i k h1 h2=>xH l (iL l).cs i k h1 (by omega) h2 (rT l)
  have hd:∀i k:Nat,(decide (i<k)&&decide (bP ((iL l).cs.getD i []) (l.getD i AC0).t≤bP ((iL l).cs.getD k []) (l.getD i AC0).t))=uM l i k:=fun _ _=>rfl
  refine ab Tryz.f22 Tryz.func22 rfl rfl fun w H B g0=>?_
  refine aa hc (fun _ _=>rfl) rfl rfl rfl ?_
  (repeat (first|refine Spl.t rfl ?_|refine Spl.f rfl ?_))
  generalize hcs:(iL l).cs=cs at ha hd ⊢
  refine WJ.shift (uR 900 1 rfl) ?_
  refine ax (V:=Nat×List (Int×RW)) (fun v=>[(22,iv v.1)]) (fun v=>S9 v.2) [19,900] (fun v=>l.length-v.1) (fun v=>v.1≤l.length∧dL l v.1=none∧MInv l v.1 v.2) (0,[]) ⟨Nat.zero_le _,rfl,MInv.nil l⟩ (by repeat' (first|exact trivial|exact rfl|refine And.intro ?_ ?_)) (by repeat' (first|exact trivial|exact rfl|refine And.intro ?_ ?_)) ?_
  rintro⟨k,R⟩ ⟨hk,hf,hR⟩
  simp only at hk hf hR
  refine Spl.of (fun h1=>?_) (fun h1=>?_)
  ·have hlt:k<l.length:=by have:=of_decide_eq_true h1;simp at this;omega
   have hx:=jz hlt
   have hfi:=fun i (hi:eO l k k=some i)=>zx hm hf hi hlt
   have hfn:eO l k k=none→dL l (k+1)=none:=fun h=>by
    unfold dL
    rw[hf]
    simp only
    rw[h]
   have hrn:=fun h=>uz (l:=l) (k:=k) h
   have hrs:=fun q i h1 h2 h3=>uy (l:=l) (k:=k) (q:=q) (i:=i) h1 h2 h3
   have hno:=BE (l:=l) (k:=k)
   have his:=fun i=>BF (l:=l) (k:=k) (i:=i)
   have hput:=fun r=>MInv.put hR (a:=l.getD k AC0) rfl (r:=r)
   have hskip:=hR.skip
   have happ:=z8 (l:=l) (k:=k) (a:=l.getD k AC0) rfl
   generalize l.getD k AC0=a at hx hrn hrs hno his hput hskip happ
   (repeat (first|refine Spl.t rfl ?_|refine Spl.f rfl ?_))
   refine IdxP.of (taD a) (by omega) (by rw[Int.toNat_natCast];exact hx) ?_
   refine aa (Aa a) (fun _ _=>rfl) rfl rfl rfl ?_
   (repeat (first|refine Spl.t rfl ?_|refine Spl.f rfl ?_))
   refine Spl.of (fun h2=>?_) (fun h2=>?_)
   ·have h2:dN a=false:=by simpa using h2
    (repeat (first|refine Spl.t rfl ?_|refine Spl.f rfl ?_))
    exact⟨(k+1,R),⟨by simp only;omega,hfn ((gc l k k).2 fun i _=>hno h2 i),hskip h2⟩,by simp only;omega,⟨ao (ah _ (by omega) (by omega)),trivial⟩,(by repeat' (first|exact trivial|exact rfl|refine And.intro ?_ ?_)),(by repeat' (first|exact trivial|exact rfl|refine And.intro ?_ ?_)),(by repeat' (first|exact trivial|exact rfl|refine And.intro ?_ ?_))⟩
   ·have h2:dN a=true:=by simpa using h2
    (repeat (first|refine Spl.t rfl ?_|refine Spl.f rfl ?_))
    have hloc:=hR a.loc
    refine LookP.by eM R (e:=fun r=>[D.v r.sl]) (fun r hr=>?_) (fun hr=>?_)
    ·rw[hr]at hloc
     simp only at hloc
     obtain⟨jr,hjr,hjn⟩:=eI hr
     have hmem:r∈R.map (·.2):=List.mem_map.2 ⟨_,List.mem_of_getElem? hjr,rfl⟩
     have hll:r.xs.length=(eJ l k a.loc).length:=by rw[hloc,List.length_map]
     have hal:=z9 l k a.loc
     (repeat (first|refine Spl.t rfl ?_|refine Spl.f rfl ?_))
     refine ax (V:=Nat) (fun j=>[(35,iv j)]) (fun _=>[]) [] (fun j=>r.xs.length-j) (fun j=>j≤r.xs.length∧∀p i:Nat,p<j→(eJ l k a.loc)[p]?=some i→dR l i k=false) 0 ⟨Nat.zero_le _,fun _ _ h=>by omega⟩ (by repeat' (first|exact trivial|exact rfl|refine And.intro ?_ ?_)) (by repeat' (first|exact trivial|exact rfl|refine And.intro ?_ ?_)) ?_
     rintro j ⟨hj,hall⟩
     refine Spl.of (fun h3=>?_) (fun h3=>?_)
     ·have hjl:j<r.xs.length:=by have:=of_decide_eq_true h3;omega
      have hq:(eJ l k a.loc)[j]?=some ((eJ l k a.loc)[j]'(by omega)):=List.getElem?_eq_getElem _
      generalize(eJ l k a.loc)[j]'(by omega)=i at hq
      have hxs:r.xs[j]?=some (dn i):=by rw[hloc,List.getElem?_map,hq];rfl
      obtain⟨hik,hin⟩:=kH.1 (List.mem_of_getElem? hq)
      have hrace:=his i hin h2
      have hai:=ha i k (by omega) hlt
      rw[hd]at hai
      have hxi:=jz (by omega:i<l.length)
      have hrs:=fun h=>hfi i (hrs j i hq h hall)
      have hall':dR l i k=false→∀p i:Nat,p<j+1→(eJ l k a.loc)[p]?=some i→dR l i k=false:=fun h p i' hp hi'=>by
       by_cases e:p=j
       ·subst e;rw[hq]at hi';cases hi';exact h
       ·exact hall p i' (by omega) hi'
      generalize l.getD i AC0=c at hrace hxi
      (repeat (first|refine Spl.t rfl ?_|refine Spl.f rfl ?_))
      refine aR (Fk (b:=r.b) (n:=r.xs.length) (c:=r.c) rfl rfl rfl rfl (by omega) (by omega)) rfl ?_
      refine aR (CY (i:=900) (r:=r) (v:=.v (.int .i64 (i:Nat))) rfl rfl hmem rfl (by show r.xs[(j:Int).toNat*1]?=_;rw[Int.toNat_natCast,Nat.mul_one];exact hxs) rfl) rfl ?_
      refine Spl.of (fun h4=>?_) (fun h4=>?_)
      ·have h4:wrA a=true:=h4
       rw[h4,Bool.true_or,Bool.true_and]at hrace
       (repeat (first|refine Spl.t rfl ?_|refine Spl.f rfl ?_))
       refine aa hai (fun _ _=>rfl) rfl rfl rfl ?_
       (repeat (first|refine Spl.t rfl ?_|refine Spl.f rfl ?_))
       refine Spl.of (fun h5=>?_) (fun h5=>?_)
       ·(repeat (first|refine Spl.t rfl ?_|refine Spl.f rfl ?_))
        exact FinP.open rfl (hrs (hrace.trans h5)).symm
       ·(repeat (first|refine Spl.t rfl ?_|refine Spl.f rfl ?_))
        exact⟨j+1,⟨by omega,hall' (hrace.trans h5)⟩,by omega,⟨ao (ah _ (by omega) (by omega)),trivial⟩,(by repeat' (first|exact trivial|exact rfl|refine And.intro ?_ ?_)),(by repeat' (first|exact trivial|exact rfl|refine And.intro ?_ ?_)),(by repeat' (first|exact trivial|exact rfl|refine And.intro ?_ ?_))⟩
      ·have h4:wrA a=false:=h4
       rw[h4,Bool.false_or]at hrace
       (repeat (first|refine Spl.t rfl ?_|refine Spl.f rfl ?_))
       refine IdxP.of (taD c) (by omega) (by rw[Int.toNat_natCast];exact hxi) ?_
       (repeat (first|refine Spl.t rfl ?_|refine Spl.f rfl ?_))
       refine Spl.of (fun h5=>?_) (fun h5=>?_)
       ·have h5:wrA c=true:=h5
        rw[h5,Bool.true_and]at hrace
        (repeat (first|refine Spl.t rfl ?_|refine Spl.f rfl ?_))
        refine aa hai (fun _ _=>rfl) rfl rfl rfl ?_
        (repeat (first|refine Spl.t rfl ?_|refine Spl.f rfl ?_))
        refine Spl.of (fun h5=>?_) (fun h5=>?_)
        ·(repeat (first|refine Spl.t rfl ?_|refine Spl.f rfl ?_))
         exact FinP.open rfl (hrs (hrace.trans h5)).symm
        ·(repeat (first|refine Spl.t rfl ?_|refine Spl.f rfl ?_))
         exact⟨j+1,⟨by omega,hall' (hrace.trans h5)⟩,by omega,⟨ao (ah _ (by omega) (by omega)),trivial⟩,(by repeat' (first|exact trivial|exact rfl|refine And.intro ?_ ?_)),(by repeat' (first|exact trivial|exact rfl|refine And.intro ?_ ?_)),(by repeat' (first|exact trivial|exact rfl|refine And.intro ?_ ?_))⟩
       ·have h5:wrA c=false:=h5
        rw[h5,Bool.false_and]at hrace
        (repeat (first|refine Spl.t rfl ?_|refine Spl.f rfl ?_))
        exact⟨j+1,⟨by omega,hall' hrace⟩,by omega,⟨ao (ah _ (by omega) (by omega)),trivial⟩,(by repeat' (first|exact trivial|exact rfl|refine And.intro ?_ ?_)),(by repeat' (first|exact trivial|exact rfl|refine And.intro ?_ ?_)),(by repeat' (first|exact trivial|exact rfl|refine And.intro ?_ ?_))⟩
     ·have h3:=of_decide_eq_false h3
      have hfn:=hfn (hrn fun p i hp=>hall p i (by have:=(List.getElem?_eq_some_iff.1 hp).1;omega) hp)
      (repeat (first|refine Spl.t rfl ?_|refine Spl.f rfl ?_))
      refine qh 9 70 67 [900] (frI 901 900) rfl rfl (by decide+kernel) rfl ?_
      refine LookP.by eM R (e:=fun r=>[D.v r.sl]) (fun r2 hr2=>?_) (fun hr2=>?_)
      ·rw[hr]at hr2;cases hr2
       refine EffP.rowApp 900 901 (r:=r) (l1:=(R.take jr).map (·.2)) (l2:=(R.drop (jr+1)).map (·.2)) rfl rfl (congrArg (fun s=>some (Ent.res (bi Tryz.prog tab 1) s)) (Ec hjr)) rfl rfl rfl rfl rfl (by show r.xs.length+1≤_;omega) (by show 0<r.xs.length+1;omega) rfl rfl rfl rfl rfl ?_
       intro b c
       (repeat (first|refine Spl.t rfl ?_|refine Spl.f rfl ?_))
       refine PutP.by eM R (⟨b,c,r.xs++[dn k]⟩:RW) (e:=fun r=>[D.v r.sl]) ?_
       (repeat (first|refine Spl.t rfl ?_|refine Spl.f rfl ?_))
       refine⟨(k+1,ea a.loc ⟨b,c,r.xs++[dn k]⟩ R),⟨by simp only;omega,hfn,hput _ h2 ?_⟩,by simp only;omega,⟨ao (ah _ (by omega) (by omega)),trivial⟩,(by repeat' (first|exact trivial|exact rfl|refine And.intro ?_ ?_)),⟨rfl,?_,trivial⟩,(by repeat' (first|exact trivial|exact rfl|refine And.intro ?_ ?_))⟩
       ·rw[happ h2,←hloc]
       ·exact congrArg (fun s=>some (Ent.res (bi Tryz.prog tab 1) s)) (Co hjr hjn).symm
      ·rw[hr]at hr2;cases hr2
    ·rw[hr]at hloc
     simp only at hloc
     (repeat (first|refine Spl.t rfl ?_|refine Spl.f rfl ?_))
     refine ax (V:=Nat) (fun j=>[(35,iv j)]) (fun _=>[]) [] (fun j=>0-j) (fun j=>j=0) 0 rfl (by repeat' (first|exact trivial|exact rfl|refine And.intro ?_ ?_)) (by repeat' (first|exact trivial|exact rfl|refine And.intro ?_ ?_)) ?_
     rintro j rfl
     (repeat (first|refine Spl.t rfl ?_|refine Spl.f rfl ?_))
     have hfn:=hfn (hrn fun p i hp=>by rw[hloc]at hp;simp at hp)
     (repeat (first|refine Spl.t rfl ?_|refine Spl.f rfl ?_))
     refine qh 9 70 67 [900] (frI 901 900) rfl rfl (by decide+kernel) rfl ?_
     refine LookP.by eM R (e:=fun r=>[D.v r.sl]) (fun r2 hr2=>?_) (fun hr2=>?_)
     ·rw[hr]at hr2;cases hr2
     ·refine EffP.rowNew 900 901 (l1:=R.map (·.2)) rfl rfl rfl rfl rfl rfl rfl rfl (by show 0+1≤1000000000;omega) (by show 0<0+1;omega) rfl rfl rfl rfl ?_
      intro b c
      (repeat (first|refine Spl.t rfl ?_|refine Spl.f rfl ?_))
      refine PutP.by eM R (⟨b,c,[dn k]⟩:RW) (e:=fun r=>[D.v r.sl]) ?_
      (repeat (first|refine Spl.t rfl ?_|refine Spl.f rfl ?_))
      refine⟨(k+1,ea a.loc ⟨b,c,[dn k]⟩ R),⟨by simp only;omega,hfn,hput _ h2 ?_⟩,by simp only;omega,⟨ao (ah _ (by omega) (by omega)),trivial⟩,(by repeat' (first|exact trivial|exact rfl|refine And.intro ?_ ?_)),⟨rfl,?_,trivial⟩,(by repeat' (first|exact trivial|exact rfl|refine And.intro ?_ ?_))⟩
      ·rw[happ h2,hloc];rfl
      ·exact congrArg (fun s=>some (Ent.res (bi Tryz.prog tab 1) s)) (zZ hr).symm
  ·have h1:=of_decide_eq_false h1
   simp at h1
   (repeat (first|refine Spl.t rfl ?_|refine Spl.f rfl ?_))
   refine FinP.open rfl ?_
   obtain rfl:k=l.length:=by omega
   unfold io
   rw[if_pos hm,hf];rfl
end Go.Proofs.E
namespace Go.Proofs.E
open Classical in
noncomputable def hbB (l:List TA)(i k:Nat):Bool:=decide (HB l i k)
end Go.Proofs.E
namespace Go.Proofs.E
end Go.Proofs.E
namespace Go.Proofs.E
end Go.Proofs.E
namespace Go.Proofs.E
def aw1:List TA:=[⟨0,1,0⟩,⟨1,0,0⟩]
def aw2:List TA:=[⟨0,1,0⟩,⟨0,3,5⟩,⟨1,2,5⟩,⟨1,0,0⟩]
theorem F6:io aw1=.tup [iv 0,iv 1,iv 13]:=by
 unfold io
 rw[if_pos (by decide+kernel),show dL aw1 aw1.length=some (0,1)from by decide+kernel];rfl
theorem F5:io aw2=.tup [iv (-1),iv (-1),iv 0]:=by
 unfold io
 rw[if_pos (by decide+kernel),show dL aw2 aw2.length=none from by decide+kernel]
theorem yb:Cv 57 [] (bv true):=by
 have h1:=wj aw1 (by decide)
 have h2:=wj aw2 (by decide)
 rw[F6]at h1
 rw[F5]at h2
 refine ab Tryz.f57 Tryz.func57 rfl rfl fun w H B g0=>?_
 refine OpJ.shift (fN 10 rfl) ?_
 refine aa h1 (fun _ _=>rfl) rfl rfl rfl ?_
 (repeat (first|refine Spl.t rfl ?_|refine Spl.f rfl ?_))
 refine OpJ.shift (fN 20 rfl) ?_
 refine aa h2 (fun _ _=>rfl) rfl rfl rfl ?_
 (repeat (first|refine Spl.t rfl ?_|refine Spl.f rfl ?_))
 refine aa yc (fun _ _=>rfl) rfl rfl rfl ?_
 (repeat (first|refine Spl.t rfl ?_|refine Spl.f rfl ?_))
 exact FinP.open rfl rfl
end Go.Proofs.E
namespace Go.Proofs.E
attribute [local irreducible] elems LookP PutP
def RS0:RS:=⟨0,0,[]⟩
set_option maxHeartbeats 4000000 in
theorem AZ (b:BD)(t k:Int)(ht:b.tr.length≤900000)(hk0:0≤k)(hk1:k≤100000):Cv 20 [bdv b,iv t,iv k] (.tup [bdv (b.did t [(2,3000+k)]),bv (b.slot k).isSome]):=by
 have w2:=iB 3000 k hk0 hk1 (by omega) (by omega)
 have hd:=eB b t [(2,IntKind.i64.wrap (3000+k))] (Nat.le_of_ble_eq_true rfl) (Nat.succ_pos _) (by omega)
 obtain⟨bst,broom,btk,bup,bsite,bv',bcl,bsl,bgone,btr⟩:=b
 cases bsl with
 |none=>
  refine ab Tryz.f20 Tryz.func20 rfl rfl fun w H B g0=>?_
  refine LookP.by eM ([]:List (Int×RS)) (e:=rsD) (fun x hx=>nomatch hx) (fun hx=>?_)
  (repeat (first|refine Spl.t rfl ?_|refine Spl.f rfl ?_))
  refine aa hd (fun _ _=>rfl) rfl rfl rfl ?_
  (repeat (first|refine Spl.t rfl ?_|refine Spl.f rfl ?_))
  refine FinP.open rfl ?_
  (rw[w2];first|done|rfl)
 |some m=>
  have hs:BD.slot ⟨bst,broom,btk,bup,bsite,bv',bcl,some m,bgone,btr⟩ k=aO k m:=rfl
  rw[hs]
  refine ab Tryz.f20 Tryz.func20 rfl rfl fun w H B g0=>?_
  refine LookP.by eM m (e:=rsD) (fun x hx=>?_) (fun hx=>?_)
  ·rw[hx]
   (repeat (first|refine Spl.t rfl ?_|refine Spl.f rfl ?_))
   refine aa hd (fun _ _=>rfl) rfl rfl rfl ?_
   (repeat (first|refine Spl.t rfl ?_|refine Spl.f rfl ?_))
   refine FinP.open rfl ?_
   (rw[w2];first|done|rfl)
  ·rw[hx]
   (repeat (first|refine Spl.t rfl ?_|refine Spl.f rfl ?_))
   refine aa hd (fun _ _=>rfl) rfl rfl rfl ?_
   (repeat (first|refine Spl.t rfl ?_|refine Spl.f rfl ?_))
   refine FinP.open rfl ?_
   (rw[w2];first|done|rfl)
set_option maxHeartbeats 4000000 in
theorem C4 (b:BD)(t k:Int)(ht:b.tr.length≤900000)(hk0:0≤k)(hk1:k≤100000):Cv 21 [bdv b,iv t,iv k] (.tup [bdv (b.did t [(0,100+k)]),rsv ((b.slot k).getD RS0)]):=by
 have w2:=iB 100 k hk0 hk1 (by omega) (by omega)
 have hd:=eB b t [(0,IntKind.i64.wrap (100+k))] (Nat.le_of_ble_eq_true rfl) (Nat.succ_pos _) (by omega)
 obtain⟨bst,broom,btk,bup,bsite,bv',bcl,bsl,bgone,btr⟩:=b
 cases bsl with
 |none=>
  refine ab Tryz.f21 Tryz.func21 rfl rfl fun w H B g0=>?_
  refine RegP.mixE 0 13 [6,7] rfl (by decide+kernel) ?_
  refine QuietP.of (QJ.call hd (fun _ _=>rfl) rfl rfl) ?_
  refine LookP.by eM ([]:List (Int×RS)) (e:=rsD) (fun x hx=>nomatch hx) (fun hx=>?_)
  (repeat (first|refine Spl.t rfl ?_|refine Spl.f rfl ?_))
  refine FinP.open rfl ?_
  (rw[w2];first|done|rfl)
 |some m=>
  have hs:BD.slot ⟨bst,broom,btk,bup,bsite,bv',bcl,some m,bgone,btr⟩ k=aO k m:=rfl
  rw[hs]
  refine ab Tryz.f21 Tryz.func21 rfl rfl fun w H B g0=>?_
  refine RegP.mixE 0 13 [6,7] rfl (by decide+kernel) ?_
  refine QuietP.of (QJ.call hd (fun _ _=>rfl) rfl rfl) ?_
  refine LookP.by eM m (e:=rsD) (fun x hx=>?_) (fun hx=>?_)
  ·rw[hx]
   (repeat (first|refine Spl.t rfl ?_|refine Spl.f rfl ?_))
   refine FinP.open rfl ?_
   (rw[w2];first|done|rfl)
  ·rw[hx]
   (repeat (first|refine Spl.t rfl ?_|refine Spl.f rfl ?_))
   refine FinP.open rfl ?_
   (rw[w2];first|done|rfl)
def nM (site:Int)(n:Nat)(room:Int):BD:=⟨List.replicate n ⟨-1,[],false⟩,room,0,false,site,vA0,false,none,false,[]⟩
end Go.Proofs.E
namespace Go.Proofs.E
attribute [local irreducible] elems LookP PutP
abbrev sh:AV:=.d (.v (.slice none 0 0))
abbrev nilP:AV:=.d (.v (.pointer none))
abbrev bdZ:AV:=.agg [sh,iv 0,iv 0,bv false,iv 0,nilP,nilP,iv 0,sh,iv 0,iv 0,cx 0 0,cx 0 0,bv false,.d (.v (.map none)),bv false,sh]
def qZ (site stripes room:Int):Prop:=site<1∨site>1000∨stripes<1∨stripes>8∨room<1∨room>16
theorem C6 (site stripes room:Int)(h:qZ site stripes room):Cv 9 [iv site,iv stripes,iv room] (.tup [bdZ,iv 2]):=by
 have hn:=AR site
 refine ab Tryz.f9 Tryz.func9 rfl rfl fun w H B g0=>?_
 refine aa hn (fun _ _=>rfl) rfl rfl rfl ?_
 (repeat (first|refine Spl.t rfl ?_|refine Spl.f rfl ?_))
 by_cases hs:site<1∨site>1000
 ·rw[if_pos hs,if_pos hs]
  (repeat (first|refine Spl.t rfl ?_|refine Spl.f rfl ?_))
  exact FinP.open rfl rfl
 ·rw[if_neg hs,if_neg hs]
  (repeat (first|refine Spl.t rfl ?_|refine Spl.f rfl ?_))
  refine Spl.of (fun h1=>?_) (fun h1=>?_)
  ·(repeat (first|refine Spl.t rfl ?_|refine Spl.f rfl ?_))
   exact FinP.open rfl rfl
  (repeat (first|refine Spl.t rfl ?_|refine Spl.f rfl ?_))
  refine Spl.of (fun h2=>?_) (fun h2=>?_)
  ·(repeat (first|refine Spl.t rfl ?_|refine Spl.f rfl ?_))
   exact FinP.open rfl rfl
  (repeat (first|refine Spl.t rfl ?_|refine Spl.f rfl ?_))
  refine Spl.of (fun h3=>?_) (fun h3=>?_)
  ·(repeat (first|refine Spl.t rfl ?_|refine Spl.f rfl ?_))
   exact FinP.open rfl rfl
  (repeat (first|refine Spl.t rfl ?_|refine Spl.f rfl ?_))
  refine Spl.of (fun h4=>?_) (fun h4=>?_)
  ·(repeat (first|refine Spl.t rfl ?_|refine Spl.f rfl ?_))
   exact FinP.open rfl rfl
  exfalso
  have h1:=of_decide_eq_false h1
  have h2:=of_decide_eq_false h2
  have h3:=of_decide_eq_false h3
  have h4:=of_decide_eq_false h4
  unfold qZ at h
  omega
theorem Bm {γ:Ids}{H:HF}{k:Nat}{xs ys:List (List D)}{u:Value}(hl:ys.length=xs.length)(hk:∀cs,cs∈ys→cs.length=k)
 (hv:∀(j i:Nat)(cs:List D)(a:D),ys[j]?=some cs→cs[i]?=some a→∃cs0 a0,xs[j]?=some cs0∧cs0[i]?=some a0∧∀v,RepD H a0 v→RepD H a v)(r:Rep γ H (.d (.sl k xs)) u):Rep γ H (.d (.sl k ys)) u:=by
 cases eS r with
 |sl _ _ A c b o us _ hn hc hA hH h=>
  rw[←hl]at hn hc hA hH ⊢
  refine .d _ _ (.sl k ys A c b o us hk hn hc hA hH fun j i cs a h1 h2=>?_)
  obtain⟨cs0,a0,h3,h4,h5⟩:=hv j i cs a h1 h2
  exact h5 _ (h j i cs0 a0 h3 h4)
abbrev mJ:List D:=[.v (.int .i64 (-1)),.v (.slice none 0 0),.v (.bool false)]
theorem rV {γ:Ids}{H:HF}(n:Nat){u:Value}(r:Rep γ H (.d (.sl 3 (List.replicate n mJ))) u):Rep γ H (.d (.sl 3 ((List.replicate n (⟨-1,[],false⟩:ST)).map stD))) u:=by
 refine Bm (by simp) (fun cs hcs=>?_) (fun j i cs a h1 h2=>?_) r
 ·obtain⟨x,_,rfl⟩:=List.mem_map.1 hcs;rfl
 ·rw[List.map_replicate,List.getElem?_replicate]at h1
  split at h1
  ·next hj=>
   cases h1
   match i,h2 with
   |0,h2=>cases h2;exact⟨mJ,_,by rw[List.getElem?_replicate,if_pos hj],rfl,fun _ h=>h⟩
   |1,h2=>
    cases h2
    refine⟨mJ,_,by rw[List.getElem?_replicate,if_pos hj],rfl,fun v h=>?_⟩
    exact eS (ar (γ:=γ) 13 (.d _ _ h))
   |2,h2=>cases h2;exact⟨mJ,_,by rw[List.getElem?_replicate,if_pos hj],rfl,fun _ h=>h⟩
  ·cases h1
abbrev nbC (site room:Int)(a z:AV):List AV:=zW ⟨[],room,0,false,site,vA0,false,none,false,[]⟩ a (.d (.v (.map none))) z
set_option maxHeartbeats 4000000 in
theorem A6 (site room:Int)(n:Nat)(h:¬qZ site n room):Cv 9 [iv site,iv n,iv room] (.tup [bdv (nM site n room),iv 0]):=by
 have hn:=AR site
 unfold qZ at h
 rw[if_neg (by omega),if_neg (by omega)]at hn
 refine aD Tryz.f9 Tryz.func9 rfl rfl fun w H B g0=>?_
 (try refine WJ.cut ?_)
 (first|refine Sq.go ?_|refine af (Sq.go ?_)|skip)
 (try refine WJ.cut ?_)
 refine aa hn (fun _ _=>rfl) rfl rfl rfl ?_
 (first|refine Sq.go ?_|refine af (Sq.go ?_)|skip)
 (try refine WJ.cut ?_)
 (repeat (first|refine Spl.t rfl ?_|refine Spl.f rfl ?_))
 refine Spl.f (decide_eq_false (by omega)) ?_
 (repeat (first|refine Spl.t rfl ?_|refine Spl.f rfl ?_))
 refine Spl.f (decide_eq_false (by omega)) ?_
 (repeat (first|refine Spl.t rfl ?_|refine Spl.f rfl ?_))
 refine Spl.f (decide_eq_false (by omega)) ?_
 (repeat (first|refine Spl.t rfl ?_|refine Spl.f rfl ?_))
 refine Spl.f (decide_eq_false (by omega)) ?_
 (repeat (first|refine Spl.t rfl ?_|refine Spl.f rfl ?_))
 (first|refine Sq.go ?_|refine af (Sq.go ?_)|skip)
 (try refine WJ.cut ?_)
 (repeat (first|refine Spl.t rfl ?_|refine Spl.f rfl ?_))
 (first|refine Sq.go ?_|refine af (Sq.go ?_)|skip)
 (try refine WJ.cut ?_)
 (first|refine Sq.go ?_|refine af (Sq.go ?_)|skip)
 (try refine WJ.cut ?_)
 (first|refine Sq.go ?_|refine af (Sq.go ?_)|skip)
 (try refine WJ.cut ?_)
 refine WJ.shift (ke 945 10 0 3 rfl rfl rfl) ?_
 refine ax (V:=Nat) (fun i=>[(39,iv i)]) (fun i=>[(10,.cells (nbC site room (.arr 945 3 i) sh)),(945,.arr 3 (List.replicate i mJ))]) [10,945] (fun i=>n-i) (fun i=>i≤n) 0 (Nat.zero_le _) (by repeat' (first|exact trivial|exact rfl|refine And.intro ?_ ?_)) (by repeat' (first|exact trivial|exact rfl|refine And.intro ?_ ?_)) ?_
 intro i hi
 refine Spl.of (fun h1=>?_) (fun h1=>?_)
 ·have hlt:i<n:=by have:=of_decide_eq_true h1;omega
  (repeat (first|refine Spl.t rfl ?_|refine Spl.f rfl ?_))
  refine Req.of ⟨by simp,?_⟩ ?_
  ·show i+1≤1000000000;omega
  refine⟨i+1,by omega,by omega,⟨ao (ah _ (by omega) (by omega)),trivial⟩,(by repeat' (first|exact trivial|exact rfl|refine And.intro ?_ ?_)),⟨rfl,?_,trivial⟩,(by repeat' (first|exact trivial|exact rfl|refine And.intro ?_ ?_))⟩
  refine congrArg (fun x=>some (Ent.arr 3 x)) ?_
  rw[List.replicate_succ'];rfl
 ·have h1:=of_decide_eq_false h1
  obtain rfl:i=n:=by omega
  (repeat (first|refine Spl.t rfl ?_|refine Spl.f rfl ?_))
  (first|refine Sq.go ?_|refine af (Sq.go ?_)|skip)
  refine WJ.shift (b8 945 10 0 (k:=3) (n:=i) (xs:=List.replicate i mJ) rfl rfl rfl (by simp) (by omega)) ?_
  have e:(List.replicate i mJ).take i=List.replicate i mJ:=List.take_of_length_le (by simp)
  rw[e]
  refine WJ.shift (aH 10 0 rfl rfl fun _ _ _ h=>rV i h) ?_
  refine WJ.shift (aH 10 16 rfl rfl fun _ _ _ h=>ar 3 h) ?_
  (try refine aq _ _ _ _ ?_)
  (repeat (first|refine Spl.t rfl ?_|refine Spl.f rfl ?_))
  exact FinP.open rfl rfl
theorem BL (k:Int)(t s sl:Int)(c:CALL)(tk ot stripes:Int):Cv 11 [.agg [.d (.v (.int .u8 k)),iv t,iv s,iv sl,iv c.k,iv c.at_,cv' c.ch,iv c.o.k,iv c.o.i.c,iv c.o.i.s,iv c.o.a.c,iv c.o.a.s,cv' c.o.ch,iv c.a.c,iv c.a.s,iv tk,iv ot],iv stripes] (bv (decide (0≤t)&&(decide (t≤15)&&(decide (0≤s)&&(decide (s<stripes)&&(decide (0≤sl)&&decide (sl≤800))))))):=by
 refine ab Tryz.f11 Tryz.func11 rfl rfl fun w H B g0=>?_
 refine Spl.of (fun h1=>?_) (fun h1=>?_)
 ·(repeat (first|refine Spl.t rfl ?_|refine Spl.f rfl ?_))
  refine Spl.of (fun h2=>?_) (fun h2=>?_)
  ·(repeat (first|refine Spl.t rfl ?_|refine Spl.f rfl ?_))
   refine Spl.of (fun h3=>?_) (fun h3=>?_)
   ·(repeat (first|refine Spl.t rfl ?_|refine Spl.f rfl ?_))
    refine Spl.of (fun h4=>?_) (fun h4=>?_)
    ·(repeat (first|refine Spl.t rfl ?_|refine Spl.f rfl ?_))
     refine Spl.of (fun h5=>?_) (fun h5=>?_)
     ·(repeat (first|refine Spl.t rfl ?_|refine Spl.f rfl ?_))
      exact FinP.open rfl (congrArg bv (by rw[h1,h2,h3,h4,h5];rfl))
     ·(repeat (first|refine Spl.t rfl ?_|refine Spl.f rfl ?_))
      exact FinP.open rfl (congrArg bv (by rw[h1,h2,h3,h4,h5];rfl))
    ·(repeat (first|refine Spl.t rfl ?_|refine Spl.f rfl ?_))
     exact FinP.open rfl (congrArg bv (by rw[h1,h2,h3,h4];rfl))
   ·(repeat (first|refine Spl.t rfl ?_|refine Spl.f rfl ?_))
    exact FinP.open rfl (congrArg bv (by rw[h1,h2,h3];rfl))
  ·(repeat (first|refine Spl.t rfl ?_|refine Spl.f rfl ?_))
   exact FinP.open rfl (congrArg bv (by rw[h1,h2];rfl))
 ·(repeat (first|refine Spl.t rfl ?_|refine Spl.f rfl ?_))
  exact FinP.open rfl (congrArg bv (by rw[h1];rfl))
def bA1:BD:=((nM 1 1 1).setS 0 ⟨0,[],false⟩).did 0 [(2,1000)]
set_option maxHeartbeats 4000000 in
theorem cD:Cv 10 [] (bv true):=by
 have hn:=A6 1 1 1 (by unfold qZ;omega)
 have h1:=u1 (nM 1 1 1) 0 0 (x:=⟨-1,[],false⟩) rfl (by decide) (by decide)
 rw[if_pos rfl]at h1
 have h2:=u1 bA1 1 0 (x:=⟨0,[],false⟩) rfl (by decide) (by decide)
 rw[if_neg (by decide)]at h2
 have h3:=tG bA1 0
 refine ab Tryz.f10 Tryz.func10 rfl rfl fun w H B g0=>?_
 refine aa hn (fun _ _=>rfl) rfl rfl rfl ?_
 (repeat (first|refine Spl.t rfl ?_|refine Spl.f rfl ?_))
 refine aa h1 (fun _ _=>rfl) rfl rfl rfl ?_
 (repeat (first|refine Spl.t rfl ?_|refine Spl.f rfl ?_))
 refine aa h2 (fun _ _=>rfl) rfl rfl rfl ?_
 (repeat (first|refine Spl.t rfl ?_|refine Spl.f rfl ?_))
 refine aa yd (fun _ _=>rfl) rfl rfl rfl ?_
 (repeat (first|refine Spl.t rfl ?_|refine Spl.f rfl ?_))
 refine aa yb (fun _ _=>rfl) rfl rfl rfl ?_
 (repeat (first|refine Spl.t rfl ?_|refine Spl.f rfl ?_))
 refine aa h3 (fun _ _=>rfl) rfl rfl rfl ?_
 (repeat (first|refine Spl.t rfl ?_|refine Spl.f rfl ?_))
 exact FinP.open rfl rfl
end Go.Proofs.E
namespace Go.Proofs.E
def mD (p:Int)(a:TA):Bool:=dN a&&decide (a.loc=p)
def rD (p:Int)(a:TA):Bool:=wrA a&&decide (a.loc=p)
def pg (f:Nat→Int)(s:Nat)(v:Int):Nat→Int:=fun j=>if j=s then v else f j
def wu (f:Int→Bool)(k:Int):Int→Bool:=fun j=>if j=k then true else f j
structure TInv (n:Nat)(tr:List TA)(hold:Nat→Int)(slot:Int→Bool):Prop where
 may:∀a,a∈tr→dt a=true
 rf:RF tr
 lf:∀s,s<n→hold s=-1→KS tr (1000+(s:Int)) (mD s)
 lk:∀s,s<n→0≤hold s→KN tr (hold s) (mD s)
 st:∀k,0≤k→k≤800→slot k=true→KS tr (3000+k) (rD (100+k))
 sf:∀k,0≤k→k≤800→slot k=false→∀a,a∈tr→dN a=true→a.loc≠100+k
theorem TInv.nil (n:Nat)(hold:Nat→Int):TInv n [] hold (fun _=>false):=
 ⟨fun _ h=>by simp at h,RF.nil,fun _ _ _=>KS.none fun _ h=>by simp at h,fun _ _ _=>KN.none fun _ h=>by simp at h,fun _ _ _ h=>by simp at h,fun _ _ _ _ _ h=>by simp at h⟩
theorem kI {tr:List TA}(h:∀a,a∈tr→dt a=true){a:TA}(ha:dt a=true):∀b,b∈tr++[a]→dt b=true:=fun b hb=>by
 rcases List.mem_append.1 hb with h1|h1
 ·exact h b h1
 ·rw[List.mem_singleton.1 h1];exact ha
theorem sr {t k:Int}(ht:0≤t∧t≤15)(h0:0≤k)(h1:k≤3)(loc:Int):dt ⟨t,k,loc⟩=true:=(gK _).2 ⟨ht.1,by show t<16;omega,h0,h1⟩
theorem lg {a:TA}(h:dN a=false)(p:Int):mD p a=false:=by unfold mD;rw[h];rfl
theorem u3 {a:TA}(h:dN a=false)(p:Int):rD p a=false:=by
 unfold dN at h
 rw[Bool.or_eq_false_iff]at h
 unfold rD wrA;rw[h.2];rfl
theorem jI {a:TA}{p:Int}(h:a.loc≠p):mD p a=false:=by unfold mD;rw[decide_eq_false h,Bool.and_false]
theorem rC {a:TA}{p:Int}(h:a.loc≠p):rD p a=false:=by unfold rD;rw[decide_eq_false h,Bool.and_false]
theorem mL {tr:List TA}{p:Int}(h:∀a,a∈tr→dN a=true→a.loc≠p){a:TA}(ha:dN a=true→a.loc≠p):∀b,b∈tr++[a]→dN b=true→b.loc≠p:=fun b hb=>by
 rcases List.mem_append.1 hb with h1|h1
 ·exact h b h1
 ·rw[List.mem_singleton.1 h1];exact ha
theorem TInv.sync {n:Nat}{tr:List TA}{hold:Nat→Int}{slot:Int→Bool}(h:TInv n tr hold slot){a:TA}(ha:dt a=true)(hn:dN a=false):TInv n (tr++[a]) hold slot:=
 ⟨kI h.may ha,h.rf.no hn,fun s hs he=>(h.lf s hs he).snoc a (lg hn _),fun s hs he=>(h.lk s hs he).snoc a (fun e=>by rw[lg hn]at e;cases e),
  fun k k0 k1 he=>(h.st k k0 k1 he).snoc a (u3 hn _),fun k k0 k1 he=>mL (h.sf k k0 k1 he) (fun e=>by rw[hn]at e;cases e)⟩
theorem TInv.lock {n:Nat}{tr:List TA}{hold:Nat→Int}{slot:Int→Bool}(h:TInv n tr hold slot){t:Int}{s:Nat}(ht:0≤t∧t≤15)(hs:s<n)(he:hold s=-1):TInv n (tr++[⟨t,2,1000+(s:Int)⟩]) (pg hold s t) slot:=by
 have ha:dt ⟨t,2,1000+(s:Int)⟩=true:=sr ht (by decide) (by decide) _
 have hn:dN ⟨t,2,1000+(s:Int)⟩=false:=rfl
 have h2:=h.sync ha hn
 refine⟨h2.may,h2.rf,fun s' hs' he'=>?_,fun s' hs' he'=>?_,h2.st,h2.sf⟩
 ·unfold pg at he'
  split at he'
  ·omega
  ·exact h2.lf s' hs' he'
 ·unfold pg at he' ⊢
  by_cases e:s'=s
  ·subst e
   rw[if_pos rfl]
   exact Fp (a:=⟨t,2,1000+(s':Int)⟩) (h.lf s' hs he) rfl
  ·rw[if_neg e]at he' ⊢
   exact h2.lk s' hs' he'
theorem TInv.unlock {n:Nat}{tr:List TA}{hold:Nat→Int}{slot:Int→Bool}(h:TInv n tr hold slot){t:Int}{s:Nat}(ht:0≤t∧t≤15)(hs:s<n)(he:hold s=t):TInv n (tr++[⟨t,3,1000+(s:Int)⟩]) (pg hold s (-1)) slot:=by
 have ha:dt ⟨t,3,1000+(s:Int)⟩=true:=sr ht (by decide) (by decide) _
 have hn:dN ⟨t,3,1000+(s:Int)⟩=false:=rfl
 have h2:=h.sync ha hn
 refine⟨h2.may,h2.rf,fun s' hs' he'=>?_,fun s' hs' he'=>?_,h2.st,h2.sf⟩
 ·unfold pg at he'
  by_cases e:s'=s
  ·subst e
   have:=h.lk s' hs (by omega)
   rw[he]at this
   exact AT (a:=⟨t,3,1000+(s':Int)⟩) this rfl
  ·rw[if_neg e]at he'
   exact h2.lf s' hs' he'
 ·unfold pg at he' ⊢
  by_cases e:s'=s
  ·rw[if_pos e]at he';omega
  ·rw[if_neg e]at he' ⊢
   exact h2.lk s' hs' he'
theorem p6 {a b:TA}(h:iq b a=true):dN b=true∧dN a=true∧b.loc=a.loc∧(wrA b||wrA a)=true:=by
 unfold iq at h
 rw[Bool.and_eq_true,Bool.and_eq_true,Bool.and_eq_true,decide_eq_true_iff]at h
 exact⟨h.1.1.1,h.1.1.2,h.1.2,h.2⟩
theorem TInv.acc {n:Nat}{tr:List TA}{hold:Nat→Int}{slot:Int→Bool}(h:TInv n tr hold slot)(hn8:n≤8){t k:Int}{s:Nat}(ht:0≤t∧t≤15)(hk:k=0∨k=1)(hs:s<n)(he:hold s=t):TInv n (tr++[⟨t,k,(s:Int)⟩]) hold slot:=by
 have ha:dt ⟨t,k,(s:Int)⟩=true:=sr ht (by omega) (by omega) _
 have hkn:=h.lk s hs (by omega)
 rw[he]at hkn
 refine⟨kI h.may ha,RF.acc (φ:=mD s) h.rf hkn fun b hc=>?_,fun s' hs' he'=>?_,fun s' hs' he'=>?_,fun j j0 j1 hj=>?_,fun j j0 j1 hj=>?_⟩
 ·obtain⟨c1,_,c3,_⟩:=p6 hc
  have c3:b.loc=(s:Int):=c3
  unfold mD;rw[c1,decide_eq_true c3];rfl
 ·exact(h.lf s' hs' he').snoc _ (jI (by show(s:Int)≠s';intro e;have:s=s':=by omega
                                        subst this;omega))
 ·refine(h.lk s' hs' he').snoc _ fun e=>?_
  by_cases e2:s'=s
  ·subst e2;exact he.symm
  ·rw[jI (by show(s:Int)≠s';omega)]at e;cases e
 ·exact(h.st j j0 j1 hj).snoc _ (rC (by show(s:Int)≠100+j;omega))
 ·exact mL (h.sf j j0 j1 hj) fun _=>by show(s:Int)≠100+j;omega
theorem TInv.fill {n:Nat}{tr:List TA}{hold:Nat→Int}{slot:Int→Bool}(h:TInv n tr hold slot)(hn8:n≤8){t k:Int}(ht:0≤t∧t≤15)(k0:0≤k)(k1:k≤800)(he:slot k=false):TInv n (tr++[⟨t,1,100+k⟩]++[⟨t,3,3000+k⟩]) hold (wu slot k):=by
 have ha:dt ⟨t,1,100+k⟩=true:=sr ht (by decide) (by decide) _
 have hb:dt ⟨t,3,3000+k⟩=true:=sr ht (by decide) (by decide) _
 have hno:=h.sf k k0 k1 he
 have hw:KN (tr++[⟨t,1,100+k⟩]) t (rD (100+k)):=KN.snoc (KN.none fun b hb=>by
  cases e:rD (100+k) b with
  |false=>rfl
  |true=>
   unfold rD at e
   rw[Bool.and_eq_true,decide_eq_true_iff]at e
   exact absurd e.2 (hno b hb (by unfold dN;unfold wrA at e;rw[e.1];simp))) _ fun _=>rfl
 have rf1:RF (tr++[⟨t,1,100+k⟩]):=h.rf.snoc _ fun i b hi hc=>by
  obtain⟨c1,_,c3,_⟩:=p6 hc
  exact absurd c3 (hno b (List.mem_of_getElem? hi) c1)
 refine⟨kI (kI h.may ha) hb,rf1.no rfl,fun s hs e=>?_,fun s hs e=>?_,fun j j0 j1 hj=>?_,fun j j0 j1 hj=>?_⟩
 ·exact((h.lf s hs e).snoc _ (jI (by show 100+k≠(s:Int);omega))).snoc _ (lg rfl _)
 ·exact((h.lk s hs e).snoc _ fun x=>by rw[jI (by show 100+k≠(s:Int);omega)]at x;cases x).snoc _ fun x=>by rw[lg rfl]at x;cases x
 ·by_cases e:j=k
  ·subst e
   exact AT (a:=⟨t,3,3000+j⟩) hw rfl
  ·unfold wu at hj
   rw[if_neg e]at hj
   exact((h.st j j0 j1 hj).snoc _ (rC (by show 100+k≠100+j;omega))).snoc _ (u3 rfl _)
 ·unfold wu at hj
  split at hj
  ·cases hj
  ·next e=>exact mL (mL (h.sf j j0 j1 hj) fun _=>by show 100+k≠100+j;omega) fun x=>by cases x
end Go.Proofs.E
namespace Go.Proofs.E
attribute [local irreducible] elems LookP PutP
structure BA where
 k:Int
 t:Int
 s:Int
 sl:Int
 c:CALL
 tk:Int
 ot:Int
abbrev baD (a:BA):List D:=[.v (.int .u8 a.k),.v (.int .i64 a.t),.v (.int .i64 a.s),.v (.int .i64 a.sl),.v (.int .i64 a.c.k),.v (.int .i64 a.c.at_),.v (.int .i32 a.c.ch),.v (.int .i64 a.c.o.k),.v (.int .i64 a.c.o.i.c),.v (.int .i64 a.c.o.i.s),.v (.int .i64 a.c.o.a.c),.v (.int .i64 a.c.o.a.s),.v (.int .i32 a.c.o.ch),.v (.int .i64 a.c.a.c),.v (.int .i64 a.c.a.s),.v (.int .i64 a.tk),.v (.int .i64 a.ot)]
def f8 (b:BD)(s:Nat):Int:=match b.st[s]? with
 |some x=>x.h
 |none=>-1
def gE (b:BD)(k:Int):Bool:=(b.slot k).isSome
structure BI (n i:Nat)(b:BD)(F:List (Int×Int)):Prop where
 ln:b.st.length=n
 n8:n≤8
 ti:TInv n b.tr (f8 b) (gE b)
 tl:b.tr.length≤10*i
 t0:0≤b.tk
 t1:b.tk≤i
 q:∀(s:Nat)(x:ST),b.st[s]?=some x→x.q.length≤i
 f:∀k,aO k F=if gE b k=true then some 1 else none
theorem BI.up {n i:Nat}{b:BD}{F:List (Int×Int)}(h:BI n i b F):BI n (i+1) b F:=
 ⟨h.ln,h.n8,h.ti,by have:=h.tl;omega,h.t0,by have:=h.t1;omega,fun s x hx=>by have:=h.q s x hx;omega,h.f⟩
theorem wq {f:Nat→Int}{s:Nat}{v:Int}(h:f s=v):pg f s v=f:=funext fun j=>by
 unfold pg
 split
 ·next e=>rw[e,h]
 ·rfl
theorem oc {b:BD}{s:Nat}{x:ST}(hx:b.st[s]?=some x)(y:ST):f8 (b.setS s y)=pg (f8 b) s y.h:=funext fun j=>by
 have hs:=(List.getElem?_eq_some_iff.1 hx).1
 show(match(b.st.set s y)[j]? with|some x=>x.h|none=>-1)=_
 unfold pg
 rw[List.getElem?_set]
 by_cases e:s=j
 ·subst e;rw[if_pos rfl,if_pos hs,if_pos rfl]
 ·rw[if_neg e,if_neg fun h=>e h.symm];rfl
theorem f6 {b:BD}{s:Nat}{x:ST}(hx:b.st[s]?=some x):f8 b s=x.h:=by unfold f8;rw[hx]
theorem zm {b:BD}{s:Nat}{x:ST}(hx:b.st[s]?=some x):sC b s=x.h:=by unfold sC;rw[if_pos (by omega),Int.toNat_natCast,hx]
theorem rR {b:BD}{s m:Nat}{y:ST}(h:∀(s:Nat)(x:ST),b.st[s]?=some x→x.q.length≤m)(hy:y.q.length≤m):∀(j:Nat)(x:ST),(b.st.set s y)[j]?=some x→x.q.length≤m:=fun j x hx=>by
 rw[List.getElem?_set]at hx
 split at hx
 ·split at hx
  ·cases hx;exact hy
  ·cases hx
 ·exact h j x hx
theorem BI.same {n i:Nat}{b:BD}{F:List (Int×Int)}(h:BI n i b F){b':BD}(h1:b'.st.length=n)(h2:TInv n b'.tr (f8 b') (gE b))(h3:b'.tr.length≤b.tr.length+10)(h4:0≤b'.tk∧b'.tk≤b.tk+1)(h5:∀(s:Nat)(x:ST),b'.st[s]?=some x→x.q.length≤i+1)(h6:b'.sl=b.sl):BI n (i+1) b' F:=by
 have e:gE b'=gE b:=funext fun k=>by unfold gE BD.slot;rw[h6]
 have a1:=h.tl
 have a2:=h.t1
 exact⟨h1,h.n8,by rw[e];exact h2,by omega,h4.1,by omega,h5,by rw[e];exact h.f⟩
theorem BI.lock {n i:Nat}{b:BD}{F:List (Int×Int)}(h:BI n i b F){t:Int}{s:Nat}{x:ST}(ht:0≤t∧t≤15)(hx:b.st[s]?=some x)(hs:s<n)(he:x.h=-1):BI n (i+1) ((b.setS s {x with h:=t}).did t [(2,1000+(s:Int))]) F:=
 h.same (by show(b.st.set s _).length=n;rw[List.length_set];exact h.ln) (by
  have e:=oc hx {x with h:=t}
  show TInv n (b.tr++[⟨t,2,1000+(s:Int)⟩]) (f8 (b.setS s {x with h:=t})) _
  rw[e]
  exact h.ti.lock ht hs ((f6 hx).trans he)) (by show(b.tr++[_]).length≤_;simp) ⟨h.t0,by show b.tk≤_;omega⟩
  (rR (fun s x hx=>by have:=h.q s x hx;omega) (by show x.q.length≤_;have:=h.q s x hx;omega)) rfl
theorem BI.unlock {n i:Nat}{b:BD}{F:List (Int×Int)}(h:BI n i b F){t:Int}{s:Nat}{x:ST}(ht:0≤t∧t≤15)(hx:b.st[s]?=some x)(hs:s<n)(he:x.h=t):BI n (i+1) ((b.setS s {x with h:=-1}).did t [(3,1000+(s:Int))]) F:=
 h.same (by show(b.st.set s _).length=n;rw[List.length_set];exact h.ln) (by
  have e:=oc hx {x with h:=-1}
  show TInv n (b.tr++[⟨t,3,1000+(s:Int)⟩]) (f8 (b.setS s {x with h:=-1})) _
  rw[e]
  exact h.ti.unlock ht hs ((f6 hx).trans he)) (by show(b.tr++[_]).length≤_;simp) ⟨h.t0,by show b.tk≤_;omega⟩
  (rR (fun s x hx=>by have:=h.q s x hx;omega) (by show x.q.length≤_;have:=h.q s x hx;omega)) rfl
theorem lO {b:BD}{s:Nat}{x:ST}(hx:b.st[s]?=some x){y:ST}(hy:y.h=x.h):f8 (b.setS s y)=f8 b:=by
 rw[oc hx,wq ((f6 hx).trans hy.symm)]
theorem BI.seal {n i:Nat}{b:BD}{F:List (Int×Int)}(h:BI n i b F){t:Int}{s:Nat}{x:ST}(ht:0≤t∧t≤15)(hx:b.st[s]?=some x)(hs:s<n)(he:x.h=t):BI n (i+1) ((b.setS s {x with sealed:=true}).did t [(1,(s:Int))]) F:=
 h.same (by show(b.st.set s _).length=n;rw[List.length_set];exact h.ln) (by
  have e:=lO hx (y:={x with sealed:=true}) rfl
  show TInv n (b.tr++[⟨t,1,(s:Int)⟩]) (f8 (b.setS s {x with sealed:=true})) _
  rw[e]
  exact h.ti.acc h.n8 ht (.inr rfl) hs ((f6 hx).trans he)) (by show(b.tr++[_]).length≤_;simp) ⟨h.t0,by show b.tk≤_;omega⟩
  (rR (fun s x hx=>by have:=h.q s x hx;omega) (by show x.q.length≤_;have:=h.q s x hx;omega)) rfl
theorem BI.pop {n i:Nat}{b:BD}{F:List (Int×Int)}(h:BI n i b F){t tk:Int}{s:Nat}{x:ST}{e:QE}{r:List QE}(ht:0≤t∧t≤15)(hx:b.st[s]?=some x)(hs:s<n)(he:x.h=t)(hp:qG x tk=some (e,r)):BI n (i+1) (((b.did t [(0,(s:Int))]).setS s {x with q:=r}).did t [(1,(s:Int))]) F:=by
 have hr:r.length≤i:=by
  have:=h.q s x hx
  unfold qG at hp
  split at hp
  ·cases hp
  ·next hq=>
   split at hp
   ·cases hp;rw[hq]at this;simp at this;omega
   ·cases hp
 refine h.same (by show(b.st.set s _).length=n;rw[List.length_set];exact h.ln) (by
  have e:=lO (b:=b) hx (y:={x with q:=r}) rfl
  show TInv n ((b.tr++[⟨t,0,(s:Int)⟩])++[⟨t,1,(s:Int)⟩]) (f8 (b.setS s {x with q:=r})) _
  rw[e]
  exact(h.ti.acc h.n8 ht (.inl rfl) hs ((f6 hx).trans he)).acc h.n8 ht (.inr rfl) hs ((f6 hx).trans he)) (by show((b.tr++[_])++[_]).length≤_;simp) ⟨h.t0,by show b.tk≤_;omega⟩
  (rR (fun s x hx=>by have:=h.q s x hx;omega) (by show r.length≤_;omega)) rfl
theorem BI.push {n i:Nat}{b:BD}{F:List (Int×Int)}(h:BI n i b F){t k:Int}{c:CALL}{s:Nat}{x:ST}(ht:0≤t∧t≤15)(hx:b.st[s]?=some x)(hs:s<n)(he:x.h=t):
 BI n (i+1) (({b.did t [(0,(s:Int))]with tk:=b.tk+1}.setS s {x with q:=x.q++[QE.mk b.tk k c]}).did t [(2,2000),(3,2000),(1,(s:Int))]) F:=by
 have hr:=h.q s x hx
 have t0:=h.t0
 refine h.same (by show(b.st.set s _).length=n;rw[List.length_set];exact h.ln) (by
  have e:=lO (b:=b) hx (y:={x with q:=x.q++[QE.mk b.tk k c]}) rfl
  show TInv n ((b.tr++[⟨t,0,(s:Int)⟩])++[⟨t,2,2000⟩,⟨t,3,2000⟩,⟨t,1,(s:Int)⟩]) (f8 (b.setS s {x with q:=x.q++[QE.mk b.tk k c]})) _
  rw[e,show([⟨t,2,2000⟩,⟨t,3,2000⟩,⟨t,1,(s:Int)⟩]:List TA)=[⟨t,2,2000⟩]++([⟨t,3,2000⟩]++[⟨t,1,(s:Int)⟩])from rfl,←List.append_assoc,←List.append_assoc]
  exact((((h.ti.acc h.n8 ht (.inl rfl) hs ((f6 hx).trans he)).sync (sr ht (by decide) (by decide) _) rfl).sync (sr ht (by decide) (by decide) _) rfl).acc h.n8 ht (.inr rfl) hs ((f6 hx).trans he))) (by show((b.tr++[_])++[_,_,_]).length≤_;simp) ⟨by show 0≤b.tk+1;omega,by show b.tk+1≤_;omega⟩
  (rR (fun s x hx=>by have:=h.q s x hx;omega) (by show(x.q++[_]).length≤_;simp;omega)) rfl
theorem wG (b:BD)(k:Int)(x:RS):gE (b.fill k x)=wu (gE b) k:=funext fun j=>by
 unfold gE BD.slot BD.fill wu
 simp only[Option.getD_some]
 rw[fM]
 split<;>rfl
theorem BI.fill {n i:Nat}{b:BD}{F:List (Int×Int)}(h:BI n i b F){t k:Int}(x:RS)(ht:0≤t∧t≤15)(k0:0≤k)(k1:k≤800)(he:gE b k=false):BI n (i+1) ((b.fill k x).did t [(1,100+k),(3,3000+k)]) (ea k 1 F):=by
 have a1:=h.tl
 have a2:=h.t1
 have e:=wG b k x
 refine⟨h.ln,h.n8,?_,by show(b.tr++[_,_]).length≤_;simp;omega,h.t0,by show b.tk≤_;omega,fun s x hx=>by have:=h.q s x hx;omega,fun j=>?_⟩
 ·show TInv n (b.tr++[⟨t,1,100+k⟩,⟨t,3,3000+k⟩]) (f8 b) (gE (b.fill k x))
  rw[e,show([⟨t,1,100+k⟩,⟨t,3,3000+k⟩]:List TA)=[⟨t,1,100+k⟩]++[⟨t,3,3000+k⟩]from rfl,←List.append_assoc]
  exact h.ti.fill h.n8 ht k0 k1 he
 ·show aO j (ea k 1 F)=if gE (b.fill k x) j=true then some 1 else none
  rw[fM,e]
  unfold wu
  by_cases hj:j=k
  ·rw[if_pos hj,if_pos hj];rfl
  ·rw[if_neg hj,if_neg hj];exact h.f j
theorem BI.sync {n i:Nat}{b:BD}{F:List (Int×Int)}(h:BI n i b F){t loc:Int}(ht:0≤t∧t≤15):BI n (i+1) (b.did t [(2,loc)]) F:=
 h.same h.ln (h.ti.sync (a:=⟨t,2,loc⟩) (sr ht (by decide) (by decide) _) rfl) (by show(b.tr++[_]).length≤_;simp) ⟨h.t0,by show b.tk≤_;omega⟩ (fun s x hx=>by have:=h.q s x hx;omega) rfl
theorem BI.new {n:Nat}(h:n≤8):BI n 0 (nM 1 n 16) []:=by
 have e:gE (nM 1 n 16)=fun _=>false:=funext fun k=>rfl
 refine⟨by simp[nM],h,by rw[e];exact TInv.nil n _,Nat.zero_le _,Int.le_refl _,Int.le_refl _,fun s x hx=>?_,fun k=>by rw[e];rfl⟩
 have:=List.mem_of_getElem? hx
 rw[List.eq_of_mem_replicate this];exact Nat.zero_le _
end Go.Proofs.E
namespace Go.Proofs.E
attribute [local irreducible] elems LookP PutP
end Go.Proofs.E
end
section
open Go Go.Gv
attribute [local irreducible] Go.Gv.WJ Go.Gv.OpJ Go.Gv.QJ Go.Gv.Spl Go.Gv.Req Go.Gv.IdxP Go.Gv.RegP Go.Gv.FinP Go.Gv.CellP Go.Gv.CellsP Go.Gv.ArrP Go.Gv.ArrsP Go.Gv.DropP Go.Gv.ByteP Go.Gv.StoreP
namespace Go.Proofs.E
end Go.Proofs.E
end
section
open Go Go.Gv
attribute [local irreducible] Go.Gv.WJ Go.Gv.OpJ Go.Gv.QJ Go.Gv.Spl Go.Gv.Req Go.Gv.IdxP Go.Gv.RegP Go.Gv.FinP Go.Gv.CellP Go.Gv.CellsP Go.Gv.ArrP Go.Gv.ArrsP Go.Gv.DropP Go.Gv.ByteP Go.Gv.StoreP
set_option maxRecDepth 100000
namespace Go.Proofs.E
attribute [local irreducible] elems LookP PutP
theorem GJ (b:BD)(t:Int)(ht:b.tr.length≤900000):Cv 69 [bdv b,iv t] (.tup [bdv (b.did t [(2,2001)]),bv b.up]):=by
 have hd:=eB b t [(2,2001)] (Nat.le_of_ble_eq_true rfl) (Nat.succ_pos _) (by omega)
 refine ab Tryz.f69 Tryz.func69 rfl rfl fun w H B g0=>?_
 refine RegP.mixE 0 9 [4] rfl (by decide+kernel) ?_
 refine QuietP.of (QJ.call hd (fun _ _=>rfl) rfl rfl) ?_
 (repeat (first|refine Spl.t rfl ?_|refine Spl.f rfl ?_))
 exact FinP.open rfl rfl
theorem Fu (b:BD)(t:Int)(ht:b.tr.length≤900000):Cv 88 [bdv b,iv t] (.tup [bdv (b.did t [(2,2003)]),bv b.gone]):=by
 have hd:=eB b t [(2,2003)] (Nat.le_of_ble_eq_true rfl) (Nat.succ_pos _) (by omega)
 refine ab Tryz.f88 Tryz.func88 rfl rfl fun w H B g0=>?_
 refine RegP.mixE 0 9 [4] rfl (by decide+kernel) ?_
 refine QuietP.of (QJ.call hd (fun _ _=>rfl) rfl rfl) ?_
 (repeat (first|refine Spl.t rfl ?_|refine Spl.f rfl ?_))
 exact FinP.open rfl rfl
theorem AS (b:BD)(t:Int)(ht:b.tr.length≤900000):Cv 78 [bdv b,iv t] (.tup [bdv (b.did t [(2,2002)]),rpv b.site b.v.s b.v.l b.v.R b.cl]):=by
 have hd:=eB b t [(2,2002)] (Nat.le_of_ble_eq_true rfl) (Nat.succ_pos _) (by omega)
 refine ab Tryz.f78 Tryz.func78 rfl rfl fun w H B g0=>?_
 refine RegP.mixE 0 9 [4,5] rfl (by decide+kernel) ?_
 refine QuietP.of (QJ.call hd (fun _ _=>rfl) rfl rfl) ?_
 (repeat (first|refine Spl.t rfl ?_|refine Spl.f rfl ?_))
 exact FinP.open rfl rfl
theorem CC (b:BD)(t:Int)(ht:b.tr.length≤900000):Cv 71 [bdv b,iv t] (.tup [bdv ({b with up:=true}.did t [(2,2001),(3,2001)]),bv (!b.up)]):=by
 have hd:=eB {b with up:=true} t [(2,2001),(3,2001)] (Nat.le_of_ble_eq_true rfl) (Nat.succ_pos _) (by show b.tr.length≤_;omega)
 refine ab Tryz.f71 Tryz.func71 rfl rfl fun w H B g0=>?_
 refine aa hd (fun _ _=>rfl) rfl rfl rfl ?_
 (repeat (first|refine Spl.t rfl ?_|refine Spl.f rfl ?_))
 exact FinP.open rfl rfl
theorem C1 (b:BD)(t:Int)(ht:b.tr.length≤900000):Cv 33 [bdv b,iv t] (bdv ({b with gone:=true}.did t [(3,2003)])):=by
 have hd:=eB {b with gone:=true} t [(3,2003)] (Nat.le_of_ble_eq_true rfl) (Nat.succ_pos _) (by show b.tr.length≤_;omega)
 refine ab Tryz.f33 Tryz.func33 rfl rfl fun w H B g0=>?_
 refine aa hd (fun _ _=>rfl) rfl rfl rfl ?_
 (repeat (first|refine Spl.t rfl ?_|refine Spl.f rfl ?_))
 exact FinP.open rfl rfl
theorem xW (b:BD)(t site:Int)(v:VS)(cl:Bool)(ht:b.tr.length≤900000):Cv 82 [bdv b,iv t,rpv site v.s v.l v.R cl] (bdv ({b with site:=site,v:=v,cl:=cl}.did t [(3,2002)])):=by
 have hd:=eB {b with site:=site,v:=v,cl:=cl} t [(3,2002)] (Nat.le_of_ble_eq_true rfl) (Nat.succ_pos _) (by show b.tr.length≤_;omega)
 refine ab Tryz.f82 Tryz.func82 rfl rfl fun w H B g0=>?_
 refine aa hd (fun _ _=>rfl) rfl rfl rfl ?_
 (repeat (first|refine Spl.t rfl ?_|refine Spl.f rfl ?_))
 exact FinP.open rfl rfl
theorem A4 (l:List QE)(hl:l.length≤1000000):Cv 132 [.d (.sl 13 (l.map qeD))] (.d (.sl 13 (l.map qeD))):=by
 refine ab Tryz.f132 Tryz.func132 rfl rfl fun w H B g0=>?_
 refine na rfl rfl rfl rfl fun b hb=>?_
 cases b with
 |true=>
  have h0:=hb rfl
  (repeat (first|refine Spl.t rfl ?_|refine Spl.f rfl ?_))
  rw[h0]
  exact FinP.view (fun _ _ _ h=>ar 13 h) (FinP.open rfl rfl)
 |false=>
  (repeat (first|refine Spl.t rfl ?_|refine Spl.f rfl ?_))
  refine aR (iA rfl (.full _ _) (FlatQ.data rfl rfl) rfl (by show 0+_≤_;rw[List.length_map];omega)) rfl ?_
  exact FinP.open rfl rfl
theorem CM (b:BD)(s:Nat){x:ST}(hx:b.st[s]?=some x)(hq:x.q.length≤1000000):Cv 67 [bdv b,iv s] (.d (.sl 13 (x.q.map qeD))):=by
 have hh:=jm b s
 rw[oh hx]at hh
 refine ab Tryz.f67 Tryz.func67 rfl rfl fun w H B g0=>?_
 refine aa hh (fun _ _=>rfl) rfl rfl rfl ?_
 (repeat (first|refine Spl.t rfl ?_|refine Spl.f rfl ?_))
 refine IdxP.of (stD x) (by omega) (by rw[Int.toNat_natCast];exact bH hx) ?_
 (repeat (first|refine Spl.t rfl ?_|refine Spl.f rfl ?_))
 refine aa (A4 x.q hq) (fun _ _=>rfl) rfl rfl rfl ?_
 (repeat (first|refine Spl.t rfl ?_|refine Spl.f rfl ?_))
 exact FinP.open rfl rfl
set_option maxHeartbeats 4000000 in
theorem vN (e:QE):Cv 68 [rY e] (rY e):=by
 have hc:=rh e.c
 refine ab Tryz.f68 Tryz.func68 rfl rfl fun w H B g0=>?_
 refine RegP.mixE 0 8 [] rfl (by decide+kernel) ?_
 refine QuietP.of (QJ.call hc (fun _ _=>rfl) rfl rfl) ?_
 (repeat (first|refine Spl.t rfl ?_|refine Spl.f rfl ?_))
 exact FinP.open rfl rfl
end Go.Proofs.E
namespace Go.Proofs.E
attribute [local irreducible] elems LookP PutP
abbrev sxD (p:Int×RS):List D:=[.v (.int .i64 p.1),.v (.int .i64 p.2.e),.v (.int .i64 p.2.n),.v (.string ⟨⟨p.2.t⟩⟩)]
abbrev rbC (b:BD)(stx slx trx:AV):List AV:=[stx,iv b.room,iv b.tk,bv b.up,bv b.gone,iv b.site,.d (.sl 6 (b.v.l.map opD)),.d (.sl 6 (b.v.R.map opD)),bv b.cl,slx,trx]
abbrev FH (b:BD):List AV:=rbC b (.d (.sl 3 (b.st.map stD))) (.d (.sl 4 ((b.sl.getD []).map sxD))) (.d (.sl 3 (b.tr.map taD)))
abbrev rbv (b:BD):AV:=.agg (FH b)
theorem b9 (b:BD)(t k loc:Int)(hl:b.tr.length≤1000000):Cv 107 [rbv b,iv t,iv k,iv loc] (rbv (b.did t [(k,loc)])):=by
 have e:([]++b.tr.map taD++[taD ⟨t,k,loc⟩]).take (0+(b.tr.map taD).length+1)=(b.tr++bG t [(k,loc)]).map taD:=by
  rw[List.take_of_length_le (by simp)];simp[bG]
 refine aD Tryz.f107 Tryz.func107 rfl rfl fun w H B g0=>?_
 (try refine WJ.cut ?_)
 (first|refine Sq.go ?_|refine af (Sq.go ?_)|skip)
 (try refine WJ.cut ?_)
 refine O.appF rfl rfl (.full _ _) rfl rfl rfl rfl (by show 0+_≤_;rw[List.length_map];omega) (.inr rfl) ?_
 (repeat (first|refine Spl.t rfl ?_|refine Spl.f rfl ?_))
 refine Req.of ⟨by show([]++b.tr.map taD).length=0+_;simp,?_⟩ ?_
 ·show 0+(b.tr.map taD).length+1≤1000000000;rw[List.length_map];omega
 (first|refine Sq.go ?_|refine af (Sq.go ?_)|skip)
 refine WJ.shift (b8 12 4 10 (k:=3) (n:=0+(b.tr.map taD).length+1) (xs:=[]++b.tr.map taD++[taD ⟨t,k,loc⟩]) rfl rfl rfl (by simp) (by rw[List.length_map];omega)) ?_
 rw[e]
 (try refine aq _ _ _ _ ?_)
 (repeat (first|refine Spl.t rfl ?_|refine Spl.f rfl ?_))
 exact FinP.open rfl rfl
theorem o5 (b:BD)(s:Nat)(x:ST)(hs:s<b.st.length)(hl:b.st.length≤1000):Cv 108 [rbv b,iv s,FD x] (rbv (b.setS s x)):=by
 obtain⟨y,hy⟩:∃y,b.st[s]?=some y:=⟨_,List.getElem?_eq_getElem hs⟩
 have e:(([]++b.st.map stD).set s (bI (stD y) 0 (stD x))).take (0+(b.st.map stD).length)=(b.st.set s x).map stD:=by
  rw[List.take_of_length_le (by simp),List.nil_append,List.map_set];rfl
 refine aD Tryz.f108 Tryz.func108 rfl rfl fun w H B g0=>?_
 (try refine WJ.cut ?_)
 (first|refine Sq.go ?_|refine af (Sq.go ?_)|skip)
 (try refine WJ.cut ?_)
 refine O.appF rfl rfl (.full _ _) rfl rfl rfl rfl (by show 0+_≤_;rw[List.length_map];omega) (.inr rfl) ?_
 (first|refine Sq.go ?_|refine af (Sq.go ?_)|skip)
 (try refine WJ.cut ?_)
 refine Req.of ⟨by omega,by show(s:Int)<((0+(b.st.map stD).length:Nat):Int);rw[List.length_map];omega⟩ ?_
 refine StoreP.of s 0 (stD y) (by show(s:Int).toNat*3=s*3+0;omega) (by show([]++b.st.map stD)[s]?=_;rw[List.nil_append];exact bH hy) (Nat.le_of_ble_eq_true rfl) rfl ?_
 (first|refine Sq.go ?_|refine af (Sq.go ?_)|skip)
 (try refine WJ.cut ?_)
 (first|refine Sq.go ?_|refine af (Sq.go ?_)|skip)
 refine WJ.shift (b8 11 3 0 (k:=3) (n:=0+(b.st.map stD).length) (xs:=([]++b.st.map stD).set s (bI (stD y) 0 (stD x))) rfl rfl rfl (by simp) (by rw[List.length_map];omega)) ?_
 rw[e]
 (try refine aq _ _ _ _ ?_)
 (repeat (first|refine Spl.t rfl ?_|refine Spl.f rfl ?_))
 exact FinP.open rfl rfl
theorem Gf (b:BD)(t:Int)(ht:b.tr.length≤900000):Cv 70 [rbv b,iv t] (.tup [rbv (b.did t [(2,2001)]),bv b.up]):=by
 have hd:=b9 b t 2 2001 (by omega)
 refine ab Tryz.f70 Tryz.func70 rfl rfl fun w H B g0=>?_
 refine RegP.mixE 0 7 [4] rfl (by decide+kernel) ?_
 refine QuietP.of (QJ.call hd (fun _ _=>rfl) rfl rfl) ?_
 (repeat (first|refine Spl.t rfl ?_|refine Spl.f rfl ?_))
 exact FinP.open rfl rfl
theorem CK (b:BD)(t:Int)(ht:b.tr.length≤900000):Cv 89 [rbv b,iv t] (.tup [rbv (b.did t [(2,2003)]),bv b.gone]):=by
 have hd:=b9 b t 2 2003 (by omega)
 refine ab Tryz.f89 Tryz.func89 rfl rfl fun w H B g0=>?_
 refine RegP.mixE 0 7 [4] rfl (by decide+kernel) ?_
 refine QuietP.of (QJ.call hd (fun _ _=>rfl) rfl rfl) ?_
 (repeat (first|refine Spl.t rfl ?_|refine Spl.f rfl ?_))
 exact FinP.open rfl rfl
theorem wd (b:BD)(t:Int)(ht:b.tr.length≤900000):Cv 79 [rbv b,iv t] (.tup [rbv (b.did t [(2,2002)]),rmw b.site b.v.l b.v.R b.cl]):=by
 have hd:=b9 b t 2 2002 (by omega)
 refine ab Tryz.f79 Tryz.func79 rfl rfl fun w H B g0=>?_
 refine RegP.mixE 0 7 [4,5] rfl (by decide+kernel) ?_
 refine QuietP.of (QJ.call hd (fun _ _=>rfl) rfl rfl) ?_
 (repeat (first|refine Spl.t rfl ?_|refine Spl.f rfl ?_))
 exact FinP.open rfl rfl
theorem Cf (b:BD)(t:Int)(p q:Int×Int):(b.did t [p]).did t [q]=b.did t [p,q]:=by
 unfold BD.did;simp[bG]
theorem Ap (b:BD)(t:Int)(ht:b.tr.length≤900000):Cv 72 [rbv b,iv t] (.tup [rbv ({b with up:=true}.did t [(2,2001),(3,2001)]),bv (!b.up)]):=by
 have h1:=b9 {b with up:=true} t 2 2001 (by show b.tr.length≤_;omega)
 have h2:=b9 ({b with up:=true}.did t [(2,2001)]) t 3 2001 (by show(b.tr++bG t _).length≤_;simp[bG];omega)
 rw[←Cf]
 refine ab Tryz.f72 Tryz.func72 rfl rfl fun w H B g0=>?_
 refine aa h1 (fun _ _=>rfl) rfl rfl rfl ?_
 (repeat (first|refine Spl.t rfl ?_|refine Spl.f rfl ?_))
 refine aa h2 (fun _ _=>rfl) rfl rfl rfl ?_
 (repeat (first|refine Spl.t rfl ?_|refine Spl.f rfl ?_))
 exact FinP.open rfl rfl
theorem Ar (b:BD)(t:Int)(ht:b.tr.length≤900000):Cv 40 [rbv b,iv t] (rbv ({b with gone:=true}.did t [(3,2003)])):=by
 have hd:=b9 {b with gone:=true} t 3 2003 (by show b.tr.length≤_;omega)
 refine ab Tryz.f40 Tryz.func40 rfl rfl fun w H B g0=>?_
 refine aa hd (fun _ _=>rfl) rfl rfl rfl ?_
 (repeat (first|refine Spl.t rfl ?_|refine Spl.f rfl ?_))
 exact FinP.open rfl rfl
theorem uT (b:BD)(t site:Int)(v:VS)(cl:Bool)(ht:b.tr.length≤900000):Cv 83 [rbv b,iv t,rmw site v.l v.R cl] (rbv ({b with site:=site,v:=v,cl:=cl}.did t [(3,2002)])):=by
 have hd:=b9 {b with site:=site,v:=v,cl:=cl} t 3 2002 (by show b.tr.length≤_;omega)
 refine ab Tryz.f83 Tryz.func83 rfl rfl fun w H B g0=>?_
 refine aa hd (fun _ _=>rfl) rfl rfl rfl ?_
 (repeat (first|refine Spl.t rfl ?_|refine Spl.f rfl ?_))
 exact FinP.open rfl rfl
set_option maxHeartbeats 4000000 in
theorem CI (b:BD)(t:Int)(s:Nat){x:ST}(hx:b.st[s]?=some x)(hl:b.st.length≤8)(ht:b.tr.length≤900000):
 Cv 73 [rbv b,iv t,iv s] (if 0≤x.h then .tup [rbv b,bv false]else .tup [rbv ((b.setS s {x with h:=t}).did t [(2,1000+(s:Int))]),bv true]):=by
 have hs:=(List.getElem?_eq_some_iff.1 hx).1
 have hw:=iB 1000 s (by omega) (by omega) (by omega) (by omega)
 have hwi:=o5 b s {x with h:=t} hs (by omega)
 have hdi:=b9 (b.setS s {x with h:=t}) t 2 (IntKind.i64.wrap (1000+(s:Int))) (by show b.tr.length≤_;omega)
 refine ab Tryz.f73 Tryz.func73 rfl rfl fun w H B g0=>?_
 refine IdxP.of (stD x) (by omega) (by rw[Int.toNat_natCast];exact bH hx) ?_
 (repeat (first|refine Spl.t rfl ?_|refine Spl.f rfl ?_))
 refine Spl.of (fun h1=>?_) (fun h1=>?_)
 ·rw[if_pos (of_decide_eq_true h1)]
  (repeat (first|refine Spl.t rfl ?_|refine Spl.f rfl ?_))
  exact FinP.open rfl rfl
 ·rw[if_neg (of_decide_eq_false h1)]
  (repeat (first|refine Spl.t rfl ?_|refine Spl.f rfl ?_))
  refine aa hwi (fun _ _=>rfl) rfl rfl rfl ?_
  (repeat (first|refine Spl.t rfl ?_|refine Spl.f rfl ?_))
  refine aa hdi (fun _ _=>rfl) rfl rfl rfl ?_
  (repeat (first|refine Spl.t rfl ?_|refine Spl.f rfl ?_))
  refine FinP.open rfl ?_
  (rw[hw];first|done|rfl)
theorem xQ (b:BD)(t:Int)(s:Nat){x:ST}(hx:b.st[s]?=some x)(hl:b.st.length≤8)(ht:b.tr.length≤900000):
 Cv 74 [rbv b,iv t,iv s] (rbv ((b.setS s {x with h:=-1}).did t [(3,1000+(s:Int))])):=by
 have hs:=(List.getElem?_eq_some_iff.1 hx).1
 have hw:=iB 1000 s (by omega) (by omega) (by omega) (by omega)
 have hwi:=o5 b s {x with h:=-1} hs (by omega)
 have hdi:=b9 (b.setS s {x with h:=-1}) t 3 (IntKind.i64.wrap (1000+(s:Int))) (by show b.tr.length≤_;omega)
 refine ab Tryz.f74 Tryz.func74 rfl rfl fun w H B g0=>?_
 refine IdxP.of (stD x) (by omega) (by rw[Int.toNat_natCast];exact bH hx) ?_
 (repeat (first|refine Spl.t rfl ?_|refine Spl.f rfl ?_))
 refine aa hwi (fun _ _=>rfl) rfl rfl rfl ?_
 (repeat (first|refine Spl.t rfl ?_|refine Spl.f rfl ?_))
 refine aa hdi (fun _ _=>rfl) rfl rfl rfl ?_
 (repeat (first|refine Spl.t rfl ?_|refine Spl.f rfl ?_))
 refine FinP.open rfl ?_
 (rw[hw];first|done|rfl)
theorem CD (b:BD)(t:Int)(s:Nat){x:ST}(hx:b.st[s]?=some x)(hl:b.st.length≤8)(ht:b.tr.length≤900000):
 Cv 76 [rbv b,iv t,iv s] (rbv ((b.setS s {x with sealed:=true}).did t [(1,(s:Int))])):=by
 have hs:=(List.getElem?_eq_some_iff.1 hx).1
 have hwi:=o5 b s {x with sealed:=true} hs (by omega)
 have hdi:=b9 (b.setS s {x with sealed:=true}) t 1 s (by show b.tr.length≤_;omega)
 refine ab Tryz.f76 Tryz.func76 rfl rfl fun w H B g0=>?_
 refine IdxP.of (stD x) (by omega) (by rw[Int.toNat_natCast];exact bH hx) ?_
 (repeat (first|refine Spl.t rfl ?_|refine Spl.f rfl ?_))
 refine aa hwi (fun _ _=>rfl) rfl rfl rfl ?_
 (repeat (first|refine Spl.t rfl ?_|refine Spl.f rfl ?_))
 refine aa hdi (fun _ _=>rfl) rfl rfl rfl ?_
 (repeat (first|refine Spl.t rfl ?_|refine Spl.f rfl ?_))
 exact FinP.open rfl rfl
set_option maxHeartbeats 4000000 in
theorem At (b:BD)(t:Int)(s:Nat){x:ST}(hx:b.st[s]?=some x)(ht:b.tr.length≤900000):
 Cv 77 [rbv b,iv t,iv s] (.tup [rbv (b.did t [(0,(s:Int))]),bv (x.sealed&&decide (x.q.length=0))]):=by
 have hdi:=b9 b t 0 s (by omega)
 have hq:decide (((x.q.map qeD).length:Int)=0)=decide (x.q.length=0):=decide_eq_decide.2 (by rw[List.length_map];omega)
 rw[←hq]
 refine ab Tryz.f77 Tryz.func77 rfl rfl fun w H B g0=>?_
 refine RegP.mixE 0 22 [6] rfl (by decide+kernel) ?_
 refine QuietP.of (QJ.call hdi (fun _ _=>rfl) rfl rfl) ?_
 refine IdxP.of (stD x) (by omega) (by rw[Int.toNat_natCast];exact bH hx) ?_
 refine Spl.of (fun h1=>?_) (fun h1=>?_)
 ·(repeat (first|refine Spl.t rfl ?_|refine Spl.f rfl ?_))
  refine IdxP.of (stD x) (by omega) (by rw[Int.toNat_natCast];exact bH hx) ?_
  (repeat (first|refine Spl.t rfl ?_|refine Spl.f rfl ?_))
  refine FinP.open rfl ?_
  rw[h1];rfl
 ·(repeat (first|refine Spl.t rfl ?_|refine Spl.f rfl ?_))
  refine FinP.open rfl ?_
  rw[h1];rfl
end Go.Proofs.E
namespace Go.Proofs.E
attribute [local irreducible] elems LookP PutP
set_option maxHeartbeats 4000000 in
theorem Fa (b:BD)(t:Int)(s:Nat)(tk:Int){x:ST}(hx:b.st[s]?=some x)(hl:b.st.length≤8)(ht:b.tr.length≤800000)(hq:x.q.length≤1000000):
 Cv 39 [rbv b,iv t,iv s,iv tk] (match qG x tk with
  |none=>.tup [rbv (b.did t [(0,(s:Int))]),rY QE0,bv false]
  |some (e,r)=>.tup [rbv (((b.did t [(0,(s:Int))]).setS s {x with q:=r}).did t [(1,(s:Int))]),rY e,bv true]):=by
 have hs:=(List.getElem?_eq_some_iff.1 hx).1
 have hd1:=b9 b t 0 s (by omega)
 obtain⟨xh,xq,xs⟩:=x
 unfold qG
 simp only at hq ⊢
 cases xq with
 |nil=>
  simp only
  refine ab Tryz.f39 Tryz.func39 rfl rfl fun w H B g0=>?_
  refine aa hd1 (fun _ _=>rfl) rfl rfl rfl ?_
  (repeat (first|refine Spl.t rfl ?_|refine Spl.f rfl ?_))
  refine IdxP.of (stD ⟨xh,[],xs⟩) (by omega) (by rw[Int.toNat_natCast];exact bH hx) ?_
  (repeat (first|refine Spl.t rfl ?_|refine Spl.f rfl ?_))
  exact FinP.open rfl rfl
 |cons e r=>
  simp only
  have hraw:List.drop (Int.toNat 1) (List.take ((((e::r).map qeD).length:Nat):Int).toNat ((e::r).map qeD))=r.map qeD:=by
   rw[Int.toNat_natCast,List.take_length];rfl
  have hwi:Cv 108 [rbv (b.did t [(0,(s:Int))]),iv s,.agg [iv xh,.d (.sl 13 (List.drop (Int.toNat 1) (List.take ((((e::r).map qeD).length:Nat):Int).toNat ((e::r).map qeD)))),bv xs]] (rbv ((b.did t [(0,(s:Int))]).setS s ⟨xh,r,xs⟩)):=by
   rw[hraw]
   exact o5 (b.did t [(0,(s:Int))]) s ⟨xh,r,xs⟩ hs (by show b.st.length≤_;omega)
  have hd2:=b9 ((b.did t [(0,(s:Int))]).setS s ⟨xh,r,xs⟩) t 1 s (by show(b.tr++bG t [(0,(s:Int))]).length≤_;simp[bG];omega)
  refine ab Tryz.f39 Tryz.func39 rfl rfl fun w H B g0=>?_
  refine aa hd1 (fun _ _=>rfl) rfl rfl rfl ?_
  (repeat (first|refine Spl.t rfl ?_|refine Spl.f rfl ?_))
  refine IdxP.of (stD ⟨xh,e::r,xs⟩) (by omega) (by rw[Int.toNat_natCast];exact bH hx) ?_
  (repeat (first|refine Spl.t rfl ?_|refine Spl.f rfl ?_))
  refine IdxP.of (qeD e) (by omega) rfl ?_
  (repeat (first|refine Spl.t rfl ?_|refine Spl.f rfl ?_))
  refine Spl.of (fun h1=>?_) (fun h1=>?_)
  ·have h1:¬e.tk=tk:=by simpa using h1
   rw[if_neg h1]
   (repeat (first|refine Spl.t rfl ?_|refine Spl.f rfl ?_))
   exact FinP.open rfl rfl
  ·have h1:e.tk=tk:=by simpa using h1
   rw[if_pos h1]
   (repeat (first|refine Spl.t rfl ?_|refine Spl.f rfl ?_))
   refine IdxP.of (qeD e) (by omega) rfl ?_
   (repeat (first|refine Spl.t rfl ?_|refine Spl.f rfl ?_))
   refine Req.of ⟨by omega,by simp;omega,Int.le_refl _⟩ ?_
   (repeat (first|refine Spl.t rfl ?_|refine Spl.f rfl ?_))
   refine RegP.mixE 0 11 [8,9] rfl (by decide+kernel) ?_
   refine QuietP.of (QJ.call hwi (fun _ _=>rfl) rfl rfl) ?_
   refine QuietP.of (QJ.call hd2 (fun _ _=>rfl) rfl rfl) ?_
   (repeat (first|refine Spl.t rfl ?_|refine Spl.f rfl ?_))
   exact FinP.open rfl rfl
def kW (k:Int):List (Int×RS)→Int
 |[]=>-1
 |p::r=>if p.1=k then 0 else if kW k r<0 then-1 else kW k r+1
theorem ja {k:Int}:∀{m:List (Int×RS)}{j:Nat}{x:RS},m[j]?=some (k,x)→(∀(i:Nat)(p:Int×RS),i<j→m[i]?=some p→k≠p.1)→kW k m=j
 |p::r,0,x,h,_=>by
  cases h
  unfold kW;rw[if_pos rfl];rfl
 |p::r,j+1,x,h,hn=>by
  have h0:=hn 0 p (by omega) rfl
  have ih:=ja (m:=r) (j:=j) (x:=x) h fun i q hi hq=>hn (i+1) q (by omega) hq
  unfold kW
  rw[if_neg fun e=>h0 e.symm,ih,if_neg (by omega)];omega
theorem iZ {k:Int}:∀{m:List (Int×RS)},(∀p,p∈m→k≠p.1)→kW k m=-1
 |[],_=>rfl
 |p::r,h=>by
  have ih:=iZ (m:=r) fun q hq=>h q (List.mem_cons_of_mem _ hq)
  unfold kW
  rw[if_neg fun e=>h p List.mem_cons_self e.symm,ih];rfl
theorem oC (b:BD)(k:Int)(hn:(b.sl.getD []).length≤1000000):Cv 106 [rbv b,iv k] (iv (kW k (b.sl.getD []))):=by
 generalize hm:b.sl.getD []=m at hn
 have hml:((m.map sxD).length:Int)=(m.length:Nat):=by rw[List.length_map]
 have hb:rbv b=.agg (rbC b (.d (.sl 3 (b.st.map stD))) (.d (.sl 4 (m.map sxD))) (.d (.sl 3 (b.tr.map taD)))):=by rw[←hm]
 rw[hb]
 refine ab Tryz.f106 Tryz.func106 rfl rfl fun w H B g0=>?_
 refine ax (V:=Nat) (fun i=>[(5,iv i)]) (fun _=>[]) [] (fun i=>m.length-i) (fun i=>i≤m.length∧∀(j:Nat)(p:Int×RS),j<i→m[j]?=some p→k≠p.1) 0 ⟨Nat.zero_le _,fun _ _ h=>by omega⟩ (by repeat' (first|exact trivial|exact rfl|refine And.intro ?_ ?_)) (by repeat' (first|exact trivial|exact rfl|refine And.intro ?_ ?_)) ?_
 rintro i ⟨hi,hall⟩
 refine Spl.of (fun h1=>?_) (fun h1=>?_)
 ·have hlt:i<m.length:=by have:=of_decide_eq_true h1;simp at this;omega
  obtain⟨p,hp⟩:∃p,m[i]?=some p:=⟨_,List.getElem?_eq_getElem hlt⟩
  (repeat (first|refine Spl.t rfl ?_|refine Spl.f rfl ?_))
  refine IdxP.of (sxD p) (by omega) (by rw[Int.toNat_natCast,List.getElem?_map,hp];rfl) ?_
  (repeat (first|refine Spl.t rfl ?_|refine Spl.f rfl ?_))
  refine Spl.of (fun h2=>?_) (fun h2=>?_)
  ·have h2:p.1=k:=of_decide_eq_true h2
   obtain⟨pk,px⟩:=p
   simp only at h2
   subst h2
   (repeat (first|refine Spl.t rfl ?_|refine Spl.f rfl ?_))
   exact FinP.open rfl (congrArg iv (ja hp hall).symm)
  ·have h2:¬p.1=k:=of_decide_eq_false h2
   (repeat (first|refine Spl.t rfl ?_|refine Spl.f rfl ?_))
   refine⟨i+1,⟨by omega,fun j q hj hq=>?_⟩,by omega,⟨ao (ah _ (by omega) (by omega)),trivial⟩,(by repeat' (first|exact trivial|exact rfl|refine And.intro ?_ ?_)),(by repeat' (first|exact trivial|exact rfl|refine And.intro ?_ ?_)),(by repeat' (first|exact trivial|exact rfl|refine And.intro ?_ ?_))⟩
   by_cases e:j=i
   ·subst e;rw[hp]at hq;cases hq;exact fun e=>h2 e.symm
   ·exact hall j q (by omega) hq
 ·have h1:=of_decide_eq_false h1
  simp at h1
  (repeat (first|refine Spl.t rfl ?_|refine Spl.f rfl ?_))
  refine FinP.open rfl (congrArg iv (iZ fun p hp=>?_).symm)
  obtain⟨j,hj,rfl⟩:=List.getElem_of_mem hp
  exact hall j _ (by omega) (List.getElem?_eq_getElem hj)
end Go.Proofs.E
end
