/- Laws that the claim's text stands on: part M7 of them. -/
import Derived.Test.YtaojepfldokjdaaGreatDoorM1
import Derived.Test.YtaojepfldokjdaaGreatDoorM2
import Derived.Test.YtaojepfldokjdaaGreatDoorM3
import Derived.Test.YtaojepfldokjdaaGreatDoorM4
import Derived.Test.YtaojepfldokjdaaGreatDoorDShelf
import Derived.Test.YtaojepfldokjdaaGreatDoorM5
import Derived.Test.YtaojepfldokjdaaGreatDoorM6
import Derived.CallsIn
set_option linter.unusedVariables false
set_option linter.unusedSimpArgs false
section
open Go Go.Gv
attribute [local irreducible] Go.Gv.WJ Go.Gv.OpJ Go.Gv.QJ Go.Gv.Spl Go.Gv.Req Go.Gv.IdxP Go.Gv.RegP Go.Gv.FinP Go.Gv.CellP Go.Gv.CellsP Go.Gv.ArrP Go.Gv.ArrsP Go.Gv.DropP Go.Gv.ByteP Go.Gv.StoreP
set_option maxRecDepth 100000
namespace Go.Proofs.E
theorem qR (o:OP):∀ks:List OP,gq o ks=ks.take (dP o ks)++o::ks.drop (dP o ks)
 |[]=>rfl
 |k::r=>by
  rw[gq,dP]
  split
  ·rw[List.take_succ_cons,List.drop_succ_cons,qR o r];rfl
  ·rfl
theorem xe {l:List OP}{i:Nat}{x:OP}(h:l[i]?=some x)(a:ID):kids (aZ (l.take (i+1))) a=if x.k=0∧x.a=a then gq x (kids (aZ (l.take i)) a)else kids (aZ (l.take i)) a:=by
 rw[bJ h]
 by_cases hk:x.k=0
 ·rw[b7 hk,gO]
  by_cases ha:x.a=a
  ·rw[if_pos ha,if_pos ⟨hk,ha⟩]
  ·rw[if_neg ha,if_neg (fun e=>ha e.2)]
 ·rw[cJ hk,if_neg (fun e=>hk e.1)]
theorem xf (I:List OP)(a:ID):(kids I a).length≤I.length:=by
 have:∀(J ks:List OP),(eu a J ks).length≤J.length+ks.length:=fun J=>by
  induction J with
  |nil=>intro ks;simp[eu]
  |cons o J ih=>
   intro ks
   rw[eu,List.length_cons]
   have hins:∀ks:List OP,(gq o ks).length=ks.length+1:=fun ks=>by
    rw[qR,List.length_append,List.length_cons,List.length_take,List.length_drop]
    have:=ju o ks;omega
   split
   ·have:=ih (gq o ks);rw[hins]at this;omega
   ·have:=ih ks;omega
 unfold kids;simpa using this I []
theorem qQ (x:OP)(ks:List OP)(m:Nat)(h:m=dP x ks):(ks.map opD).take m++([opD x]++((ks.map opD).drop ((m:Int).toNat)).take (ks.length-((m:Int).toNat)))=(gq x ks).map opD:=by
 rw[qR,←h,Int.toNat_natCast,List.map_append,List.map_cons,List.map_take,List.map_drop,List.take_of_length_le (l:=List.drop m _) (by rw[List.length_drop,List.length_map];exact Nat.le_refl _)];rfl
theorem vA (x:OP)(ks:List OP)(m:Nat)(hm:m≤ks.length)(h:m=dP x ks):((m:Int).toNat)+([opD x]++((ks.map opD).drop ((m:Int).toNat)).take (ks.length-((m:Int).toNat))).length=(gq x ks).length:=by
 have h2:=congrArg List.length (qQ x ks m h)
 rw[List.length_append,List.length_map,List.length_take,List.length_map]at h2
 rw[←h2,Int.toNat_natCast];omega
theorem xl (F:ID→List OP)(ks:List OP)(j:Nat){k:OP}(h:ks[j]?=some k):(ks.take (j+1)).flatMap (fun k=>k::F k.i)=(ks.take j).flatMap (fun k=>k::F k.i)++(k::F k.i):=by
 rw[bJ h,List.flatMap_append];simp
theorem kU (F:ID→List OP)(ks:List OP)(j:Nat):((ks.take j).flatMap (fun k=>k::F k.i)).length≤(ks.flatMap (fun k=>k::F k.i)).length:=by
 have:=congrArg (fun l:List OP=>(l.flatMap (fun k=>k::F k.i)).length) (List.take_append_drop j ks)
 simp only[List.flatMap_append,List.length_append]at this
 omega
theorem yD (f:OP→EL)(A:List OP)(k:OP)(B:List OP):((A.map f).map elD++[elD (f k)])++(B.map f).map elD=((A++(k::B)).map f).map elD:=by simp
theorem yC (f:OP→EL)(A:List OP)(k:OP)(B:List OP):((A.map f).length+1)+((B.map f).map elD).length=((A++(k::B)).map f).length:=by simp;omega
theorem mn (l:List OP)(hl:l.length≤1000000)(a:ID)(F:ID→List OP)(hF:((kids (aZ l) a).flatMap fun k=>k::F k.i).length≤1000000)
 (ih:∀k,k∈kids (aZ l) a→Cv 218 [.d (.sl 6 (l.map opD)),idv k.i] (.d (.sl 4 (((F k.i).map (elO l)).map elD)))):
 Cv 218 [.d (.sl 6 (l.map opD)),idv a] (.d (.sl 4 ((((kids (aZ l) a).flatMap fun k=>k::F k.i).map (elO l)).map elD))):=by
 refine aD Tryz.f218 Tryz.func218 rfl rfl fun w H B g0=>?_
 (try refine WJ.cut ?_)
 (first|refine Sq.go ?_|refine af (Sq.go ?_)|skip)
 (try refine WJ.cut ?_)
 (first|refine Sq.go ?_|refine af (Sq.go ?_)|skip)
 (try refine WJ.cut ?_)
 refine WJ.shift (fm 1000 5 6 rfl rfl) ?_
 refine ax (V:=Nat) (fun i=>[(6,iv i),(5,.arr 1000 6 (kids (aZ (l.take i)) a).length)]) (fun i=>[(1000,.arr 6 ((kids (aZ (l.take i)) a).map opD))]) [1000] (fun i=>l.length-i) (fun i=>i≤l.length) 0 (by omega) (by repeat' (first|exact trivial|exact rfl|refine And.intro ?_ ?_)) (by repeat' (first|exact trivial|exact rfl|refine And.intro ?_ ?_)) ?_
 intro i hi
 have hkl:=xf (aZ (l.take i)) a
 have hil:=kR (l.take i)
 have htl:=List.length_take (i:=i) (l:=l)
 refine Spl.of (fun h1=>?_) (fun h1=>?_)
 ·have hlt:i<l.length:=by have:=of_decide_eq_true h1;simp at this;omega
  have hx:l[i]?=some l[i]:=by simp
  have hk:=xe hx a
  generalize l[i]=x at hx hk
  generalize kids (aZ (l.take i)) a=ks at hk hkl
  (repeat (first|refine Spl.t rfl ?_|refine Spl.f rfl ?_))
  refine RegP.of rfl (by decide+kernel) ?_
  refine IdxP.of (opD x) (by omega) (by simp[hx]) ?_
  refine Spl.of (fun h2=>?_) (fun h2=>?_)
  ·have h2:x.k≠0:=by simpa using h2
   rw[if_neg (fun e=>h2 e.1)]at hk
   (repeat (first|refine Spl.t rfl ?_|refine Spl.f rfl ?_))
   exact⟨i+1,by omega,by omega,⟨ao (ah _ (by omega) (by omega)),gD (by rw[hk]),trivial⟩,(by repeat' (first|exact trivial|exact rfl|refine And.intro ?_ ?_)),⟨gC (by rw[hk]),trivial⟩,(by repeat' (first|exact trivial|exact rfl|refine And.intro ?_ ?_))⟩
  ·have h2:x.k=0:=by simpa using h2
   (repeat (first|refine Spl.t rfl ?_|refine Spl.f rfl ?_))
   refine IdxP.of (opD x) (by omega) (by simp[hx]) ?_
   (repeat (first|refine Spl.t rfl ?_|refine Spl.f rfl ?_))
   refine QuietP.of (we 3 rfl rfl rfl rfl rfl jb mv (eqR x.a a)) ?_
   (repeat (first|refine Spl.t rfl ?_|refine Spl.f rfl ?_))
   refine Spl.of (fun h3=>?_) (fun h3=>?_)
   ·have h3:x.a≠a:=by simpa using h3
    rw[if_neg (fun e=>h3 e.2)]at hk
    (repeat (first|refine Spl.t rfl ?_|refine Spl.f rfl ?_))
    exact⟨i+1,by omega,by omega,⟨ao (ah _ (by omega) (by omega)),gD (by rw[hk]),trivial⟩,(by repeat' (first|exact trivial|exact rfl|refine And.intro ?_ ?_)),⟨gC (by rw[hk]),trivial⟩,(by repeat' (first|exact trivial|exact rfl|refine And.intro ?_ ?_))⟩
   ·have h3:x.a=a:=by simpa using h3
    rw[if_pos ⟨h2,h3⟩]at hk
    have hp1:=ju x ks
    (repeat (first|refine Spl.t rfl ?_|refine Spl.f rfl ?_))
    refine ax (V:=Nat) (fun m=>[(7,iv m)]) (fun _=>[]) [] (fun m=>ks.length-m) (fun m=>m≤ks.length∧m+dP x (ks.drop m)=dP x ks) 0 ⟨by omega,by simp⟩ (by repeat' (first|exact trivial|exact rfl|refine And.intro ?_ ?_)) (by repeat' (first|exact trivial|exact rfl|refine And.intro ?_ ?_)) ?_
    have hsz:∀m:Nat,[opD x].length+(((ks.map opD).drop ((m:Int).toNat)).take (ks.length-((m:Int).toNat))).length≤1000000000:=fun m=>by
     rw[List.length_take,List.length_drop,List.length_map];simp only[List.length_singleton];omega
    rintro m ⟨hm,hmp⟩
    refine RegP.of rfl (by decide+kernel) ?_
    refine Spl.of (fun h4=>?_) (fun h4=>?_)
    ·have h4:m<ks.length:=by have:=of_decide_eq_true h4;omega
     have hy:ks[m]?=some ks[m]:=by simp
     (repeat (first|refine Spl.t rfl ?_|refine Spl.f rfl ?_))
     refine IdxP.of (opD x) (by omega) (by simp[hx]) ?_
     (repeat (first|refine Spl.t rfl ?_|refine Spl.f rfl ?_))
     refine Req.of ⟨by omega,by omega⟩ ?_
     (repeat (first|refine Spl.t rfl ?_|refine Spl.f rfl ?_))
     refine ArrsP.of m 1 (opD ks[m]) [.v (.int .i64 ks[m].i.c),.v (.int .i64 ks[m].i.s)] rfl (by simp[hy]) (show 1+2≤6 by decide) rfl ?_
     (repeat (first|refine Spl.t rfl ?_|refine Spl.f rfl ?_))
     refine QuietP.of (QJ.call (CJ x.i ks[m].i) (fun _ _=>rfl) rfl rfl) ?_
     rw[List.drop_eq_getElem_cons h4,dP]at hmp
     refine Spl.of (fun h5=>?_) (fun h5=>?_)
     ·rw[if_pos h5]at hmp
      (repeat (first|refine Spl.t rfl ?_|refine Spl.f rfl ?_))
      exact⟨m+1,⟨by omega,by omega⟩,by omega,⟨ao (ah _ (by omega) (by omega)),trivial⟩,(by repeat' (first|exact trivial|exact rfl|refine And.intro ?_ ?_)),(by repeat' (first|exact trivial|exact rfl|refine And.intro ?_ ?_)),(by repeat' (first|exact trivial|exact rfl|refine And.intro ?_ ?_))⟩
     ·rw[if_neg (by rw[h5];decide)]at hmp
      (repeat (first|refine Spl.t rfl ?_|refine Spl.f rfl ?_))
      have hmeq:m=dP x ks:=by omega
      have hsz:=hsz m
      (refine RegP.mixE 0 12 [] rfl (by decide+kernel) ?_;refine QuietP.of (tD rfl rfl rfl rfl (by omega) (by omega)) ?_;refine IdxP.of (opD x) (by omega) (by simp[hx]) ?_;refine QuietP.of (tC rfl rfl rfl rfl (by omega) (by omega)) ?_;refine QuietP.of (iA rfl (.full _ _) (FlatQ.suf rfl rfl (by rw[List.length_map];omega)) rfl hsz) ?_;(repeat' (refine And.intro ?_ ?_));refine OpJ.shift (qg 52 rfl) (OpJ.shift (v9 1000 m rfl) (d6 ?_));refine Req.of ⟨?_,?_⟩ ?_;(rw[List.length_take,List.length_map];omega);(rw[List.length_append,List.length_take,List.length_drop,List.length_map];show _+(1+_)≤_;omega);(repeat' (refine And.intro ?_ ?_));exact⟨i+1,by omega,by omega,⟨ao (ah _ (by omega) (by omega)),gD (by rw[hk];exact vA x ks m hm hmeq),trivial⟩,(by repeat' (first|exact trivial|exact rfl|refine And.intro ?_ ?_)),⟨gC (by rw[hk];exact qQ x ks m hmeq),trivial⟩,(by repeat' (first|exact trivial|exact rfl|refine And.intro ?_ ?_))⟩)
    ·have h4:¬m<ks.length:=by have:=of_decide_eq_false h4;omega
     rw[List.drop_eq_nil_of_le (by omega),dP]at hmp
     have hmeq:m=dP x ks:=by omega
     have hsz:=hsz m
     (repeat (first|refine Spl.t rfl ?_|refine Spl.f rfl ?_))
     (refine RegP.mixE 0 12 [] rfl (by decide+kernel) ?_;refine QuietP.of (tD rfl rfl rfl rfl (by omega) (by omega)) ?_;refine IdxP.of (opD x) (by omega) (by simp[hx]) ?_;refine QuietP.of (tC rfl rfl rfl rfl (by omega) (by omega)) ?_;refine QuietP.of (iA rfl (.full _ _) (FlatQ.suf rfl rfl (by rw[List.length_map];omega)) rfl hsz) ?_;(repeat' (refine And.intro ?_ ?_));refine OpJ.shift (qg 52 rfl) (OpJ.shift (v9 1000 m rfl) (d6 ?_));refine Req.of ⟨?_,?_⟩ ?_;(rw[List.length_take,List.length_map];omega);(rw[List.length_append,List.length_take,List.length_drop,List.length_map];show _+(1+_)≤_;omega);(repeat' (refine And.intro ?_ ?_));exact⟨i+1,by omega,by omega,⟨ao (ah _ (by omega) (by omega)),gD (by rw[hk];exact vA x ks m hm hmeq),trivial⟩,(by repeat' (first|exact trivial|exact rfl|refine And.intro ?_ ?_)),⟨gC (by rw[hk];exact qQ x ks m hmeq),trivial⟩,(by repeat' (first|exact trivial|exact rfl|refine And.intro ?_ ?_))⟩)
 ·have h1:=of_decide_eq_false h1
  simp at h1
  have hall:l.take i=l:=List.take_of_length_le (by omega)
  rw[hall]at hkl
  rw[hall]
  generalize kids (aZ l) a=ks at hF ih hkl
  have hll:=kR l
  (repeat (first|refine Spl.t rfl ?_|refine Spl.f rfl ?_))
  (first|refine Sq.go ?_|refine af (Sq.go ?_)|skip)
  (try refine WJ.cut ?_)
  (first|refine Sq.go ?_|refine af (Sq.go ?_)|skip)
  (try refine WJ.cut ?_)
  refine WJ.shift (fm 1001 8 4 rfl rfl) ?_
  refine ax (V:=Nat) (fun j=>[(9,iv j),(8,.arr 1001 4 (((ks.take j).flatMap fun k=>k::F k.i).map (elO l)).length)]) (fun j=>[(1001,.arr 4 ((((ks.take j).flatMap fun k=>k::F k.i).map (elO l)).map elD))]) [1001] (fun j=>ks.length-j) (fun j=>j≤ks.length) 0 (by omega) (by repeat' (first|exact trivial|exact rfl|refine And.intro ?_ ?_)) (by repeat' (first|exact trivial|exact rfl|refine And.intro ?_ ?_)) ?_
  intro j hj
  have hle:=kU F ks j
  have htj:=kU F ks (j+1)
  refine Spl.of (fun h2=>?_) (fun h2=>?_)
  ·have hlt:j<ks.length:=by have:=of_decide_eq_true h2;omega
   have hx:ks[j]?=some ks[j]:=by simp
   have hih:=ih ks[j] (List.getElem_mem hlt)
   have hsn:=xl F ks j hx
   generalize ks[j]=k at hx hih hsn
   rw[hsn,List.length_append,List.length_cons]at htj
   have hdead:decide (dS 1 k.i l≥0)=cp l k.i:=by
    unfold cp
    rcases iX 1 k.i l with⟨e1,e2⟩|⟨n,x,e1,_,e2⟩
    ·rw[e1,e2];rfl
    ·rw[e1,e2,decide_eq_true (by omega)];rfl
   (repeat (first|refine Spl.t rfl ?_|refine Spl.f rfl ?_))
   refine RegP.mixE 0 21 [] rfl (by decide+kernel) ?_
   refine Req.of ⟨by omega,by omega⟩ ?_
   (repeat (first|refine Spl.t rfl ?_|refine Spl.f rfl ?_))
   refine ArrsP.of j 1 (opD k) [.v (.int .i64 k.i.c),.v (.int .i64 k.i.s)] rfl (by simp[hx]) (show 1+2≤6 by decide) rfl ?_
   (repeat (first|refine Spl.t rfl ?_|refine Spl.f rfl ?_))
   refine Req.of ⟨by omega,by omega⟩ ?_
   (repeat (first|refine Spl.t rfl ?_|refine Spl.f rfl ?_))
   refine ArrP.of j 5 (opD k) (.v (.int .i32 k.ch)) rfl (by simp[hx]) rfl ?_
   (repeat (first|refine Spl.t rfl ?_|refine Spl.f rfl ?_))
   refine Req.of ⟨by omega,by omega⟩ ?_
   (repeat (first|refine Spl.t rfl ?_|refine Spl.f rfl ?_))
   refine ArrsP.of j 1 (opD k) [.v (.int .i64 k.i.c),.v (.int .i64 k.i.s)] rfl (by simp[hx]) (show 1+2≤6 by decide) rfl ?_
   (repeat (first|refine Spl.t rfl ?_|refine Spl.f rfl ?_))
   refine QuietP.of (QJ.call (rg l 1 k.i hl) (fun _ _=>rfl) rfl rfl) ?_
   (repeat' (refine And.intro ?_ ?_))
   refine Req.of ⟨by simp,?_⟩ ?_
   ·show _+1≤1000000000
    rw[List.length_map];omega
   (repeat' (refine And.intro ?_ ?_))
   (repeat (first|refine Spl.t rfl ?_|refine Spl.f rfl ?_))
   refine Req.of ⟨by omega,by omega⟩ ?_
   (repeat (first|refine Spl.t rfl ?_|refine Spl.f rfl ?_))
   refine ArrsP.of j 1 (opD k) [.v (.int .i64 k.i.c),.v (.int .i64 k.i.s)] rfl (by simp[hx]) (show 1+2≤6 by decide) rfl ?_
   (repeat (first|refine Spl.t rfl ?_|refine Spl.f rfl ?_))
   refine aa hih (fun _ _=>rfl) rfl rfl rfl ?_
   refine Req.of ⟨by simp;try rfl,?_⟩ ?_
   ·rw[List.length_map,List.length_map,List.length_map]
    show _+1+_≤1000000000
    omega
   refine⟨j+1,by omega,by omega,⟨ao (ah _ (by omega) (by omega)),gD ?_,trivial⟩,(by repeat' (first|exact trivial|exact rfl|refine And.intro ?_ ?_)),⟨gC ?_,trivial⟩,(by repeat' (first|exact trivial|exact rfl|refine And.intro ?_ ?_))⟩
   ·rw[hsn];exact yC (elO l) _ k _
   ·rw[hsn,hdead];exact yD (elO l) _ k _
  ·have h2:=of_decide_eq_false h2
   have hall2:ks.take j=ks:=List.take_of_length_le (by omega)
   rw[hall2]
   (repeat (first|refine Spl.t rfl ?_|refine Spl.f rfl ?_))
   (first|refine Sq.go ?_|refine af (Sq.go ?_)|skip)
   (try refine aq _ _ _ _ ?_)
   refine FinP.pubA 1001 rfl (by simp) (by rw[List.length_map];omega) (FinP.open rfl ?_)
   rw[List.take_of_length_le (by simp)]
end Go.Proofs.E
namespace Go.Proofs.E
attribute [local irreducible] elems
end Go.Proofs.E
namespace Go.Proofs.E
attribute [local irreducible] elems
theorem B4 {I:List OP}{n:Nat}{a:ID}{k:OP}(hk:k∈kids I a):(fol n I k.i).length≤(fol (n+1) I a).length:=by
 rw[fol]
 have:∀ks:List OP,k∈ks→(fol n I k.i).length≤(ks.flatMap fun k=>k::fol n I k.i).length:=fun ks=>by
  induction ks with
  |nil=>intro h;simp at h
  |cons x r ih=>
   intro h
   rw[List.flatMap_cons,List.length_append,List.length_cons]
   rcases List.mem_cons.1 h with rfl|h
   ·omega
   ·have:=ih h;omega
 exact this _ hk
theorem sI {l:List OP}(hd:Dn l)(hl:l.length≤1000000):∀(n:Nat)(a:ID),1048576<(n:Int)+a.c→(fol n (aZ l) a).length≤1000000→
 Cv 218 [.d (.sl 6 (l.map opD)),idv a] (.d (.sl 4 (((fol n (aZ l) a).map (elO l)).map elD)))
 |0,a,hn,_=>by
  have hk:kids (aZ l) a=[]:=List.eq_nil_iff_forall_not_mem.2 fun k hk=>by
   obtain⟨h1,h2⟩:=cj.1 hk
   have:=hd.is.tk.is.ok.cl k h1
   rw[h2]at this;omega
  have:=mn l hl a (fun _=>[]) (by rw[hk];simp) (fun k hk'=>by rw[hk]at hk';simp at hk')
  rw[hk]at this
  exact this
 |n+1,a,hn,hlen=>by
  rw[fol]at hlen ⊢
  refine mn l hl a (fun i=>fol n (aZ l) i) hlen fun k hk=>?_
  obtain⟨h1,h2⟩:=cj.1 hk
  have:=hd.is.tk.is.ok.cl k h1
  rw[h2]at this
  exact sI hd hl n k.i (by omega) (Nat.le_trans (B4 hk) (by rw[fol];exact hlen))
theorem Fo {l:List OP}(hd:Dn l)(hl:l.length≤1000000):Cv 177 [.d (.sl 6 (l.map opD))] (.d (.sl 4 ((aj l).map elD))):=by
 have hi:=kR l
 have hf:=sI hd hl 1048577 ⟨0,0⟩ (by decide) (by rw[show(fol 1048577 (aZ l) ⟨0,0⟩)=db (aZ l)from rfl,hd.is.tk.is.len];omega)
 refine ab Tryz.f177 Tryz.func177 rfl rfl fun w H B g0=>?_
 refine aa hf (fun _ _=>rfl) rfl rfl rfl ?_
 (repeat (first|refine Spl.t rfl ?_|refine Spl.f rfl ?_))
 exact FinP.open rfl rfl
end Go.Proofs.E
namespace Go.Proofs.E
attribute [local irreducible] elems
end Go.Proofs.E
namespace Go.Proofs.E
attribute [local irreducible] elems
abbrev rmv (R:List OP):AV:=.agg [.d (.sl 6 (R.map opD))]
def qV (R:List OP)(o:OP):Bool:=R.any fun x=>decide (x=o)
def d7 (R:List OP)(o:OP):Bool:=R.any fun x=>decide (x.k=0∧o.k=0∧x.i=o.i)
def fQ (R:List OP)(o:OP):Int:=if aL o≠0 then aL o else if qV R o=true then 4 else if d7 R o=true then 5 else if 16≤R.length then 7 else 0
def gx (R:List OP)(o:OP):List OP:=if fQ R o=0 then R++[o]else R
def bA (l:List OP):List OP→Int
 |[]=>-1
 |o::r=>if aw l o≠6 then 0 else(if bA l r<0 then-1 else bA l r+1)
def OP0:OP:=⟨0,⟨0,0⟩,⟨0,0⟩,0⟩
def eU (l R:List OP):List OP:=if bA l R<0 then R else R.take (bA l R).toNat++R.drop ((bA l R).toNat+1)
def gJ (l R:List OP):OP:=if bA l R<0 then OP0 else R.getD (bA l R).toNat OP0
def ei (R:List OP):Int:=R.foldl (fun n o=>if o.i.c>n then o.i.c else n) 0
theorem Fb (R:List OP):Cv 250 [rmv R] (iv R.length):=by
 refine ab Tryz.f250 Tryz.func250 rfl rfl fun w H B g0=>?_
 refine FinP.open rfl (congrArg iv ?_)
 rw[List.length_map]
theorem rI (R:List OP)(o:OP):ei (R++[o])=if o.i.c>ei R then o.i.c else ei R:=by unfold ei;rw[List.foldl_append];rfl
theorem Dw (R:List OP)(hR:R.length≤1000000):Cv 237 [rmv R] (iv (ei R)):=by
 refine ab Tryz.f237 Tryz.func237 rfl rfl fun w H B g0=>?_
 refine ax (V:=Nat) (fun i=>[(9,iv i),(3,iv (ei (R.take i)))]) (fun _=>[]) [] (fun i=>R.length-i) (fun i=>i≤R.length) 0 (by omega) (by repeat' (first|exact trivial|exact rfl|refine And.intro ?_ ?_)) (by repeat' (first|exact trivial|exact rfl|refine And.intro ?_ ?_)) ?_
 intro i hi
 refine Spl.of (fun h1=>?_) (fun h1=>?_)
 ·have hlt:i<R.length:=by have:=of_decide_eq_true h1;simp at this;omega
  have hx:R[i]?=some R[i]:=by simp
  have hsn:=bJ hx
  have htp:=rI (R.take i) R[i]
  rw[←hsn]at htp
  (repeat (first|refine Spl.t rfl ?_|refine Spl.f rfl ?_))
  refine IdxP.of (opD R[i]) (by omega) (by simp[hx]) ?_
  exact⟨i+1,by omega,by omega,⟨ao (ah _ (by omega) (by omega)),ao htp.symm,trivial⟩,(by repeat' (first|exact trivial|exact rfl|refine And.intro ?_ ?_)),(by repeat' (first|exact trivial|exact rfl|refine And.intro ?_ ?_)),(by repeat' (first|exact trivial|exact rfl|refine And.intro ?_ ?_))⟩
 ·have h1:=of_decide_eq_false h1
  simp at h1
  (repeat (first|refine Spl.t rfl ?_|refine Spl.f rfl ?_))
  exact FinP.open rfl (congrArg iv (by rw[List.take_of_length_le (by omega)]))
theorem E9 (R:List OP)(hR:R.length≤1000000):Cv 216 [.d (.sl 6 (R.map opD))] (iv (ei R)):=by
 refine ab Tryz.f216 Tryz.func216 rfl rfl fun w H B g0=>?_
 refine ax (V:=Nat) (fun i=>[(4,iv i),(3,iv (ei (R.take i)))]) (fun _=>[]) [] (fun i=>R.length-i) (fun i=>i≤R.length) 0 (by omega) (by repeat' (first|exact trivial|exact rfl|refine And.intro ?_ ?_)) (by repeat' (first|exact trivial|exact rfl|refine And.intro ?_ ?_)) ?_
 intro i hi
 refine Spl.of (fun h1=>?_) (fun h1=>?_)
 ·have hlt:i<R.length:=by have:=of_decide_eq_true h1;simp at this;omega
  have hx:R[i]?=some R[i]:=by simp
  have hsn:=bJ hx
  have htp:=rI (R.take i) R[i]
  rw[←hsn]at htp
  (repeat (first|refine Spl.t rfl ?_|refine Spl.f rfl ?_))
  refine IdxP.of (opD R[i]) (by omega) (by simp[hx]) ?_
  refine Spl.of (fun h2=>?_) (fun h2=>?_)
  ·have h2:=of_decide_eq_true h2
   rw[if_pos h2]at htp
   (repeat (first|refine Spl.t rfl ?_|refine Spl.f rfl ?_))
   refine IdxP.of (opD R[i]) (by omega) (by simp[hx]) ?_
   exact⟨i+1,by omega,by omega,⟨ao (ah _ (by omega) (by omega)),ao htp.symm,trivial⟩,(by repeat' (first|exact trivial|exact rfl|refine And.intro ?_ ?_)),(by repeat' (first|exact trivial|exact rfl|refine And.intro ?_ ?_)),(by repeat' (first|exact trivial|exact rfl|refine And.intro ?_ ?_))⟩
  ·have h2:=of_decide_eq_false h2
   rw[if_neg h2]at htp
   (repeat (first|refine Spl.t rfl ?_|refine Spl.f rfl ?_))
   exact⟨i+1,by omega,by omega,⟨ao (ah _ (by omega) (by omega)),ao htp.symm,trivial⟩,(by repeat' (first|exact trivial|exact rfl|refine And.intro ?_ ?_)),(by repeat' (first|exact trivial|exact rfl|refine And.intro ?_ ?_)),(by repeat' (first|exact trivial|exact rfl|refine And.intro ?_ ?_))⟩
 ·have h1:=of_decide_eq_false h1
  simp at h1
  (repeat (first|refine Spl.t rfl ?_|refine Spl.f rfl ?_))
  exact FinP.open rfl (congrArg iv (by rw[List.take_of_length_le (by omega)]))
theorem sN (R:List OP)(x o:OP):qV (R++[x]) o=(qV R o||decide (x=o)):=by unfold qV;rw[List.any_append];simp
theorem oM (R:List OP)(x o:OP):d7 (R++[x]) o=(d7 R o||decide (x.k=0∧o.k=0∧x.i=o.i)):=by unfold d7;rw[List.any_append];simp
theorem uJ {R:List OP}{o:OP}{i:Nat}(h:d7 (R.take i) o=true):d7 R o=true:=by
 unfold d7 at h ⊢
 obtain⟨x,hx,hd⟩:=List.any_eq_true.1 h
 exact List.any_eq_true.2 ⟨x,List.mem_of_mem_take hx,hd⟩
theorem zH {R:List OP}{o:OP}{i:Nat}(h:R[i]?=some o):qV R o=true:=List.any_eq_true.2 ⟨o,List.mem_of_getElem? h,by simp⟩
theorem wy (R:List OP)(o:OP):List.drop (Int.toNat 0) (List.take ((R.map opD).length:Int).toNat (R.map opD))++[opD o]=(R++[o]).map opD:=by
 rw[Int.toNat_natCast,List.take_length,List.map_append];rfl
theorem DE (R:List OP)(o:OP)(hR:R.length≤1000000):Cv 243 [rmv R,opv o] (.tup [rmv (gx R o),iv (fQ R o)]):=by
 refine aD Tryz.f243 Tryz.func243 rfl rfl fun w H B g0=>?_
 (try refine WJ.cut ?_)
 (first|refine Sq.go ?_|refine af (Sq.go ?_)|skip)
 (try refine WJ.cut ?_)
 refine aa (g7 o) (fun _ _=>rfl) rfl rfl rfl ?_
 (first|refine Sq.go ?_|refine af (Sq.go ?_)|skip)
 (try refine WJ.cut ?_)
 refine Spl.of (fun h1=>?_) (fun h1=>?_)
 ·have h1:aL o≠0:=by simpa using h1
  have hE:fQ R o=aL o:=by unfold fQ;rw[if_pos h1]
  (repeat (first|refine Spl.t rfl ?_|refine Spl.f rfl ?_))
  refine .out (by simp) ?_
  refine FinP.open rfl ?_
  unfold gx
  rw[hE,if_neg h1];rfl
 have h1:aL o=0:=by simpa using h1
 have hE:fQ R o=if qV R o=true then 4 else if d7 R o=true then 5 else if 16≤R.length then 7 else 0:=by unfold fQ;rw[if_neg (fun e=>e h1)]
 (first|refine Sq.go ?_|refine af (Sq.go ?_)|skip)
 (try refine WJ.cut ?_)
 (first|refine Sq.go ?_|refine af (Sq.go ?_)|skip)
 (try refine WJ.cut ?_)
 refine ax (V:=Nat) (fun i=>[(20,iv i),(7,bv (d7 (R.take i) o))]) (fun _=>[]) [] (fun i=>R.length-i) (fun i=>i≤R.length∧qV (R.take i) o=false) 0 ⟨by omega,rfl⟩ (by repeat' (first|exact trivial|exact rfl|refine And.intro ?_ ?_)) (by repeat' (first|exact trivial|exact rfl|refine And.intro ?_ ?_)) ?_
 rintro i ⟨hi,hdup⟩
 refine Spl.of (fun h2=>?_) (fun h2=>?_)
 ·have hlt:i<R.length:=by have:=of_decide_eq_true h2;simp at this;omega
  have hx:R[i]?=some R[i]:=by simp
  have hsn:=bJ hx
  have hds:=sN (R.take i) R[i] o
  have hcs:=oM (R.take i) R[i] o
  rw[←hsn]at hds hcs
  generalize R[i]=x at hx hds hcs
  (repeat (first|refine Spl.t rfl ?_|refine Spl.f rfl ?_))
  refine IdxP.of (opD x) (by omega) (by simp[hx]) ?_
  (repeat (first|refine Spl.t rfl ?_|refine Spl.f rfl ?_))
  refine aR (O.eqT 4 rfl rfl rfl rfl rfl Ex F1 (eqO x o)) rfl ?_
  refine Spl.of (fun h3=>?_) (fun h3=>?_)
  ·have h3:x=o:=of_decide_eq_true h3
   rw[h3]at hx
   have hd:=zH hx
   rw[if_pos hd]at hE
   (repeat (first|refine Spl.t rfl ?_|refine Spl.f rfl ?_))
   refine .out (by simp) ?_
   refine FinP.open rfl ?_
   unfold gx
   rw[hE];rfl
  ·have h3:¬x=o:=of_decide_eq_false h3
   rw[hdup,decide_eq_false h3]at hds
   refine Spl.of (fun h4=>?_) (fun h4=>?_)
   ·rw[h4,Bool.true_or]at hcs
    (repeat (first|refine Spl.t rfl ?_|refine Spl.f rfl ?_))
    exact⟨i+1,⟨by omega,hds⟩,by omega,⟨ao (ah _ (by omega) (by omega)),mK hcs.symm,trivial⟩,(by repeat' (first|exact trivial|exact rfl|refine And.intro ?_ ?_)),(by repeat' (first|exact trivial|exact rfl|refine And.intro ?_ ?_)),(by repeat' (first|exact trivial|exact rfl|refine And.intro ?_ ?_))⟩
   ·rw[h4,Bool.false_or]at hcs
    (repeat (first|refine Spl.t rfl ?_|refine Spl.f rfl ?_))
    refine Spl.of (fun h5=>?_) (fun h5=>?_)
    ·have h5:x.k=0:=of_decide_eq_true h5
     (repeat (first|refine Spl.t rfl ?_|refine Spl.f rfl ?_))
     refine Spl.of (fun h6=>?_) (fun h6=>?_)
     ·have h6:o.k=0:=of_decide_eq_true h6
      have e:decide (x.k=0∧o.k=0∧x.i=o.i)=decide (x.i=o.i):=decide_eq_decide.2 ⟨fun h=>h.2.2,fun h=>⟨h5,h6,h⟩⟩
      rw[e]at hcs
      (repeat (first|refine Spl.t rfl ?_|refine Spl.f rfl ?_))
      refine aR (O.eqT 3 rfl rfl rfl rfl rfl oE sK (eqI x.i o.i)) rfl ?_
      (repeat (first|refine Spl.t rfl ?_|refine Spl.f rfl ?_))
      exact⟨i+1,⟨by omega,hds⟩,by omega,⟨ao (ah _ (by omega) (by omega)),mK hcs.symm,trivial⟩,(by repeat' (first|exact trivial|exact rfl|refine And.intro ?_ ?_)),(by repeat' (first|exact trivial|exact rfl|refine And.intro ?_ ?_)),(by repeat' (first|exact trivial|exact rfl|refine And.intro ?_ ?_))⟩
     ·have h6:¬o.k=0:=of_decide_eq_false h6
      rw[decide_eq_false (fun h=>h6 h.2.1)]at hcs
      (repeat (first|refine Spl.t rfl ?_|refine Spl.f rfl ?_))
      exact⟨i+1,⟨by omega,hds⟩,by omega,⟨ao (ah _ (by omega) (by omega)),mK hcs.symm,trivial⟩,(by repeat' (first|exact trivial|exact rfl|refine And.intro ?_ ?_)),(by repeat' (first|exact trivial|exact rfl|refine And.intro ?_ ?_)),(by repeat' (first|exact trivial|exact rfl|refine And.intro ?_ ?_))⟩
    ·have h5:¬x.k=0:=of_decide_eq_false h5
     rw[decide_eq_false (fun h=>h5 h.1)]at hcs
     (repeat (first|refine Spl.t rfl ?_|refine Spl.f rfl ?_))
     exact⟨i+1,⟨by omega,hds⟩,by omega,⟨ao (ah _ (by omega) (by omega)),mK hcs.symm,trivial⟩,(by repeat' (first|exact trivial|exact rfl|refine And.intro ?_ ?_)),(by repeat' (first|exact trivial|exact rfl|refine And.intro ?_ ?_)),(by repeat' (first|exact trivial|exact rfl|refine And.intro ?_ ?_))⟩
 ·have h2:=of_decide_eq_false h2
  simp at h2
  have hall:R.take i=R:=List.take_of_length_le (by omega)
  rw[hall]at hdup ⊢
  rw[hdup,if_neg (by decide)]at hE
  (repeat (first|refine Spl.t rfl ?_|refine Spl.f rfl ?_))
  (first|refine Sq.go ?_|refine af (Sq.go ?_)|skip)
  (try refine WJ.cut ?_)
  (first|refine Sq.go ?_|refine af (Sq.go ?_)|skip)
  (try refine WJ.cut ?_)
  refine Spl.of (fun h3=>?_) (fun h3=>?_)
  ·rw[h3,if_pos rfl]at hE
   (repeat (first|refine Spl.t rfl ?_|refine Spl.f rfl ?_))
   refine .out (by simp) ?_
   refine FinP.open rfl ?_
   unfold gx
   rw[hE];rfl
  ·rw[h3,if_neg (by decide)]at hE
   (repeat (first|refine Spl.t rfl ?_|refine Spl.f rfl ?_))
   refine Spl.of (fun h4=>?_) (fun h4=>?_)
   ·have h4:=of_decide_eq_true h4
    simp at h4
    rw[if_pos (by omega)]at hE
    (repeat (first|refine Spl.t rfl ?_|refine Spl.f rfl ?_))
    refine .out (by simp) ?_
    refine FinP.open rfl ?_
    unfold gx
    rw[hE];rfl
   ·have h4:=of_decide_eq_false h4
    simp at h4
    rw[if_neg (by omega)]at hE
    (repeat (first|refine Spl.t rfl ?_|refine Spl.f rfl ?_))
    (first|refine Sq.go ?_|refine af (Sq.go ?_)|skip)
    (try refine aq _ _ _ _ ?_)
    refine RegP.mixE 0 9 [] rfl (by decide+kernel) ?_
    refine Req.of ⟨by omega,by omega,by omega,rfl⟩ ?_
    refine QuietP.of (iA rfl (.full _ _) (FlatQ.data rfl rfl) rfl (by show _+1≤_;rw[List.length_drop,List.length_take,List.length_map];omega)) ?_
    (repeat' (first|exact trivial|refine And.intro ?_ ?_))
    refine FinP.open rfl ?_
    unfold gx
    rw[hE,if_pos rfl,rmv,←wy R];rfl
theorem Fd (R:List OP)(o:OP)(hR:R.length≤1000000):Cv 173 [.d (.sl 6 (R.map opD)),opv o] (.tup [.d (.sl 6 ((gx R o).map opD)),iv (fQ R o)]):=by
 refine aD Tryz.f173 Tryz.func173 rfl rfl fun w H B g0=>?_
 (try refine WJ.cut ?_)
 (first|refine Sq.go ?_|refine af (Sq.go ?_)|skip)
 (try refine WJ.cut ?_)
 refine aa (l9 o) (fun _ _=>rfl) rfl rfl rfl ?_
 (first|refine Sq.go ?_|refine af (Sq.go ?_)|skip)
 (try refine WJ.cut ?_)
 refine Spl.of (fun h1=>?_) (fun h1=>?_)
 ·have h1:aL o≠0:=by simpa using h1
  have hE:fQ R o=aL o:=by unfold fQ;rw[if_pos h1]
  (repeat (first|refine Spl.t rfl ?_|refine Spl.f rfl ?_))
  refine .out (by simp) ?_
  refine FinP.open rfl ?_
  unfold gx
  rw[hE,if_neg h1];rfl
 have h1:aL o=0:=by simpa using h1
 have hE:fQ R o=if qV R o=true then 4 else if d7 R o=true then 5 else if 16≤R.length then 7 else 0:=by unfold fQ;rw[if_neg (fun e=>e h1)]
 (first|refine Sq.go ?_|refine af (Sq.go ?_)|skip)
 (try refine WJ.cut ?_)
 refine ax (V:=Nat) (fun i=>[(7,iv i)]) (fun _=>[]) [] (fun i=>R.length-i) (fun i=>i≤R.length∧qV (R.take i) o=false) 0 ⟨by omega,rfl⟩ (by repeat' (first|exact trivial|exact rfl|refine And.intro ?_ ?_)) (by repeat' (first|exact trivial|exact rfl|refine And.intro ?_ ?_)) ?_
 rintro i ⟨hi,hdup⟩
 refine Spl.of (fun h2=>?_) (fun h2=>?_)
 ·have hlt:i<R.length:=by have:=of_decide_eq_true h2;simp at this;omega
  have hx:R[i]?=some R[i]:=by simp
  have hsn:=bJ hx
  have hds:=sN (R.take i) R[i] o
  rw[←hsn]at hds
  generalize R[i]=x at hx hds
  (repeat (first|refine Spl.t rfl ?_|refine Spl.f rfl ?_))
  refine RegP.of rfl (by decide+kernel) ?_
  refine IdxP.of (opD x) (by omega) (by simp[hx]) ?_
  refine QuietP.of (O.eqT 4 rfl rfl rfl rfl rfl vJ zE (FY x o)) ?_
  refine Spl.of (fun h3=>?_) (fun h3=>?_)
  ·have h3:x=o:=of_decide_eq_true h3
   rw[h3]at hx
   have hd:=zH hx
   rw[if_pos hd]at hE
   (repeat (first|refine Spl.t rfl ?_|refine Spl.f rfl ?_))
   refine .out (by simp) ?_
   refine FinP.open rfl ?_
   unfold gx
   rw[hE];rfl
  ·have h3:¬x=o:=of_decide_eq_false h3
   rw[hdup,decide_eq_false h3]at hds
   (repeat (first|refine Spl.t rfl ?_|refine Spl.f rfl ?_))
   exact⟨i+1,⟨by omega,hds⟩,by omega,⟨ao (ah _ (by omega) (by omega)),trivial⟩,(by repeat' (first|exact trivial|exact rfl|refine And.intro ?_ ?_)),(by repeat' (first|exact trivial|exact rfl|refine And.intro ?_ ?_)),(by repeat' (first|exact trivial|exact rfl|refine And.intro ?_ ?_))⟩
 have h2:=of_decide_eq_false h2
 simp at h2
 have hall:R.take i=R:=List.take_of_length_le (by omega)
 rw[hall]at hdup
 rw[hdup,if_neg (by decide)]at hE
 clear hi
 (repeat (first|refine Spl.t rfl ?_|refine Spl.f rfl ?_))
 (first|refine Sq.go ?_|refine af (Sq.go ?_)|skip)
 (try refine WJ.cut ?_)
 refine ax (V:=Nat) (fun i=>[(8,iv i)]) (fun _=>[]) [] (fun i=>R.length-i) (fun i=>i≤R.length∧d7 (R.take i) o=false) 0 ⟨by omega,rfl⟩ (by repeat' (first|exact trivial|exact rfl|refine And.intro ?_ ?_)) (by repeat' (first|exact trivial|exact rfl|refine And.intro ?_ ?_)) ?_
 rintro j ⟨hj,hcl⟩
 refine Spl.of (fun h3=>?_) (fun h3=>?_)
 ·have hlt:j<R.length:=by have:=of_decide_eq_true h3;simp at this;omega
  have hx:R[j]?=some R[j]:=by simp
  have hsn:=bJ hx
  have hcs:=oM (R.take j) R[j] o
  rw[←hsn,hcl,Bool.false_or]at hcs
  generalize R[j]=x at hx hcs
  have no:decide (x.k=0∧o.k=0∧x.i=o.i)=false→d7 (R.take (j+1)) o=false:=fun e=>hcs.trans e
  (repeat (first|refine Spl.t rfl ?_|refine Spl.f rfl ?_))
  refine RegP.of rfl (by decide+kernel) ?_
  refine IdxP.of (opD x) (by omega) (by simp[hx]) ?_
  refine Spl.of (fun h5=>?_) (fun h5=>?_)
  ·have h5:x.k=0:=of_decide_eq_true h5
   (repeat (first|refine Spl.t rfl ?_|refine Spl.f rfl ?_))
   refine Spl.of (fun h6=>?_) (fun h6=>?_)
   ·have h6:o.k=0:=of_decide_eq_true h6
    have e:decide (x.k=0∧o.k=0∧x.i=o.i)=decide (x.i=o.i):=decide_eq_decide.2 ⟨fun h=>h.2.2,fun h=>⟨h5,h6,h⟩⟩
    rw[e]at hcs no
    (repeat (first|refine Spl.t rfl ?_|refine Spl.f rfl ?_))
    refine IdxP.of (opD x) (by omega) (by simp[hx]) ?_
    (repeat (first|refine Spl.t rfl ?_|refine Spl.f rfl ?_))
    refine QuietP.of (O.eqT 3 rfl rfl rfl rfl rfl jb mv (eqR x.i o.i)) ?_
    (repeat (first|refine Spl.t rfl ?_|refine Spl.f rfl ?_))
    refine Spl.of (fun h7=>?_) (fun h7=>?_)
    ·have hc:d7 R o=true:=uJ (hcs.trans h7)
     rw[if_pos hc]at hE
     (repeat (first|refine Spl.t rfl ?_|refine Spl.f rfl ?_))
     refine .out (by simp) ?_
     refine FinP.open rfl ?_
     unfold gx
     rw[hE];rfl
    ·have hn:=no h7
     (repeat (first|refine Spl.t rfl ?_|refine Spl.f rfl ?_))
     exact⟨j+1,⟨by omega,hn⟩,by omega,⟨ao (ah _ (by omega) (by omega)),trivial⟩,(by repeat' (first|exact trivial|exact rfl|refine And.intro ?_ ?_)),(by repeat' (first|exact trivial|exact rfl|refine And.intro ?_ ?_)),(by repeat' (first|exact trivial|exact rfl|refine And.intro ?_ ?_))⟩
   ·have h6:¬o.k=0:=of_decide_eq_false h6
    have hn:=no (decide_eq_false (fun h=>h6 h.2.1))
    (repeat (first|refine Spl.t rfl ?_|refine Spl.f rfl ?_))
    exact⟨j+1,⟨by omega,hn⟩,by omega,⟨ao (ah _ (by omega) (by omega)),trivial⟩,(by repeat' (first|exact trivial|exact rfl|refine And.intro ?_ ?_)),(by repeat' (first|exact trivial|exact rfl|refine And.intro ?_ ?_)),(by repeat' (first|exact trivial|exact rfl|refine And.intro ?_ ?_))⟩
  ·have h5:¬x.k=0:=of_decide_eq_false h5
   have hn:=no (decide_eq_false (fun h=>h5 h.1))
   (repeat (first|refine Spl.t rfl ?_|refine Spl.f rfl ?_))
   exact⟨j+1,⟨by omega,hn⟩,by omega,⟨ao (ah _ (by omega) (by omega)),trivial⟩,(by repeat' (first|exact trivial|exact rfl|refine And.intro ?_ ?_)),(by repeat' (first|exact trivial|exact rfl|refine And.intro ?_ ?_)),(by repeat' (first|exact trivial|exact rfl|refine And.intro ?_ ?_))⟩
 have h3:=of_decide_eq_false h3
 simp at h3
 have hall2:R.take j=R:=List.take_of_length_le (by omega)
 rw[hall2]at hcl
 rw[hcl,if_neg (by decide)]at hE
 (repeat (first|refine Spl.t rfl ?_|refine Spl.f rfl ?_))
 (first|refine Sq.go ?_|refine af (Sq.go ?_)|skip)
 (try refine WJ.cut ?_)
 refine Spl.of (fun h4=>?_) (fun h4=>?_)
 ·have h4:=of_decide_eq_true h4
  simp at h4
  rw[if_pos (by omega)]at hE
  (repeat (first|refine Spl.t rfl ?_|refine Spl.f rfl ?_))
  refine .out (by simp) ?_
  refine FinP.open rfl ?_
  unfold gx
  rw[hE];rfl
 ·have h4:=of_decide_eq_false h4
  simp at h4
  rw[if_neg (by omega)]at hE
  (repeat (first|refine Spl.t rfl ?_|refine Spl.f rfl ?_))
  (first|refine Sq.go ?_|refine af (Sq.go ?_)|skip)
  (try refine aq _ _ _ _ ?_)
  refine RegP.mixE 0 5 [] rfl (by decide+kernel) ?_
  refine QuietP.born (Go.Gv.B.appF (i:=62) rfl (.full _ _) (FlatQ.data rfl rfl) rfl (by show 0+_≤_;rw[List.length_map];omega) (.inr rfl)) ?_
  (repeat' (first|exact trivial|refine And.intro ?_ ?_))
  refine Req.of ⟨by rw[List.length_append],by rw[List.length_map];show 0+_+1≤_;omega⟩ ?_
  (repeat' (first|exact trivial|refine And.intro ?_ ?_))
  refine gl 62 0 rfl rfl (by rw[List.length_append];exact Nat.add_le_add_right (by rw[List.length_append];exact Nat.le_refl _) _) (by rw[List.length_map];show 0+_+1≤_;omega) (FinP.open rfl ?_)
  unfold gx
  rw[hE,if_pos rfl,List.take_of_length_le (by rw[List.length_append,List.length_append];exact Nat.le_refl _)]
  show AV.tup [.d (.sl 6 ([]++R.map opD++[opD o])),_]=_
  rw[List.nil_append,List.map_append];rfl
end Go.Proofs.E
namespace Go.Proofs.E
attribute [local irreducible] elems
theorem iR (l:List OP):∀(R:List OP),(∀x,x∈R→aw l x=6)→bA l R=-1
 |[],_=>rfl
 |o::r,h=>by
  have h1:=h o (List.mem_cons_self ..)
  have h2:=iR l r fun x hx=>h x (List.mem_cons_of_mem _ hx)
  rw[bA,if_neg (fun e=>e h1),h2];rfl
theorem lJ (l:List OP):∀(R:List OP)(i:Nat)(x:OP),R[i]?=some x→(∀y,y∈R.take i→aw l y=6)→aw l x≠6→bA l R=i
 |[],i,x,h,_,_=>by simp at h
 |o::r,0,x,h,_,hw=>by
  cases(Option.some.inj h)
  rw[bA,if_pos hw];rfl
 |o::r,i+1,x,h,hb,hw=>by
  have h1:=hb o (by simp)
  have h2:=lJ l r i x (by simpa using h) (fun y hy=>hb y (by simp[hy])) hw
  rw[bA,if_neg (fun e=>e h1),h2,if_neg (by omega)];omega
theorem lI (l:List OP):∀R:List OP,bA l R<R.length∧-1≤bA l R
 |[]=>by simp[bA]
 |o::r=>by
  have h:=lI l r
  rw[bA,List.length_cons]
  split
  ·omega
  ·split<;>omega
theorem nJ {l R:List OP}{i:Nat}(h:bA l R=i):eU l R=R.take i++R.drop (i+1):=by unfold eU;rw[h,if_neg (by omega),Int.toNat_natCast]
theorem nK {l R:List OP}{i:Nat}{x:OP}(h:bA l R=i)(hx:R[i]?=some x):gJ l R=x:=by unfold gJ;rw[h,if_neg (by omega),Int.toNat_natCast,List.getD_eq_getElem?_getD,hx];rfl
theorem rO {l R:List OP}{i:Nat}{x:OP}(hx:R[i]?=some x)(h:∀y,y∈R.take i→aw l y=6)(hw:aw l x=6):∀y,y∈R.take (i+1)→aw l y=6:=fun y hy=>by
 rw[bJ hx]at hy
 rcases List.mem_append.1 hy with h1|h1
 ·exact h y h1
 ·cases List.mem_singleton.1 h1;exact hw
theorem CG (l R:List OP)(hl:l.length≤1000000)(hR:R.length≤1000000):Cv 175 [.d (.sl 6 (R.map opD)),.d (.sl 6 (l.map opD))] (iv (bA l R)):=by
 refine ab Tryz.f175 Tryz.func175 rfl rfl fun w H B g0=>?_
 refine ax (V:=Nat) (fun i=>[(5,iv i)]) (fun _=>[]) [] (fun i=>R.length-i) (fun i=>i≤R.length∧∀x,x∈R.take i→aw l x=6) 0 ⟨by omega,fun x hx=>by simp at hx⟩ (by repeat' (first|exact trivial|exact rfl|refine And.intro ?_ ?_)) (by repeat' (first|exact trivial|exact rfl|refine And.intro ?_ ?_)) ?_
 rintro i ⟨hi,hb⟩
 refine Spl.of (fun h1=>?_) (fun h1=>?_)
 ·have hlt:i<R.length:=by have:=of_decide_eq_true h1;simp at this;omega
  have hx:R[i]?=some R[i]:=by simp
  generalize R[i]=x at hx
  have hrw:=o7 l x hl
  (repeat (first|refine Spl.t rfl ?_|refine Spl.f rfl ?_))
  refine IdxP.of (opD x) (by omega) (by simp[hx]) ?_
  refine aa hrw (fun _ _=>rfl) rfl rfl rfl ?_
  refine Spl.of (fun h2=>?_) (fun h2=>?_)
  ·have h2:aw l x≠6:=by simpa using h2
   (repeat (first|refine Spl.t rfl ?_|refine Spl.f rfl ?_))
   exact FinP.open rfl (congrArg iv (lJ l R i x hx hb h2).symm)
  ·have h2:aw l x=6:=by simpa using h2
   (repeat (first|refine Spl.t rfl ?_|refine Spl.f rfl ?_))
   exact⟨i+1,⟨by omega,rO hx hb h2⟩,by omega,⟨ao (ah _ (by omega) (by omega)),trivial⟩,(by repeat' (first|exact trivial|exact rfl|refine And.intro ?_ ?_)),(by repeat' (first|exact trivial|exact rfl|refine And.intro ?_ ?_)),(by repeat' (first|exact trivial|exact rfl|refine And.intro ?_ ?_))⟩
 ·have h1:=of_decide_eq_false h1
  simp at h1
  (repeat (first|refine Spl.t rfl ?_|refine Spl.f rfl ?_))
  rw[List.take_of_length_le (by omega)]at hb
  exact FinP.open rfl (congrArg iv (iR l R hb).symm)
theorem yg (R:List OP)(i:Nat)(k:Int)(hk:k=i+1):([]:List (List D))++List.drop (Int.toNat 0) (List.take ((i:Int)).toNat (R.map opD))++List.drop k.toNat (List.take ((R.map opD).length:Int).toNat (R.map opD))=(R.take i++R.drop (i+1)).map opD:=by
 subst hk
 rw[Int.toNat_natCast,Int.toNat_natCast,List.take_length,show((i:Int)+1).toNat=i+1 from by omega,List.nil_append,List.map_append,List.map_take,List.map_drop];rfl
theorem wx {α:Type}(A B C:List α):List.take (A.length+B.length+C.length) (A++B++C)=A++B++C:=List.take_of_length_le (by rw[List.length_append,List.length_append];exact Nat.le_refl _)
theorem zb {α:Type}(A B C:List α):A.length+B.length+C.length≤(A++B++C).length:=by rw[List.length_append,List.length_append];exact Nat.le_refl _
theorem tJ (R:List OP)(hR:R.length≤1000000)(i k:Int):0+(List.drop (Int.toNat 0) (List.take i.toNat (R.map opD))).length+(List.drop k.toNat (List.take ((R.map opD).length:Int).toNat (R.map opD))).length≤2000000:=by
 rw[List.length_drop,List.length_drop,List.length_take,List.length_take,List.length_map];omega
theorem xK (R:List OP)(i:Nat)(hR:R.length≤1000000)(hi:i<R.length):Cv 176 [.d (.sl 6 (R.map opD)),iv i] (.d (.sl 6 ((R.take i++R.drop (i+1)).map opD))):=by
 refine ab Tryz.f176 Tryz.func176 rfl rfl fun w H B g0=>?_
 refine RegP.mixE 0 9 [] rfl (by decide+kernel) ?_
 refine Req.of ⟨by omega,by omega,by rw[List.length_map];omega⟩ ?_
 refine QuietP.born (Go.Gv.B.appF (i:=9) rfl (.full _ _) (FlatQ.data rfl rfl) rfl (by show 0+_≤_;rw[List.length_drop,List.length_take,List.length_map];omega) (.inr rfl)) ?_
 (repeat' (first|exact trivial|refine And.intro ?_ ?_))
 have hwr:IntKind.i64.wrap ((i:Int)+1)=i+1:=ah _ (by omega) (by omega)
 refine Req.of ⟨by rw[hwr];omega,by rw[hwr,List.length_map];omega,by rw[List.length_map];omega⟩ ?_
 (repeat' (first|exact trivial|refine And.intro ?_ ?_))
 refine Req.of ⟨by rw[List.length_append],Nat.le_trans (tJ R hR i _) (by decide)⟩ ?_
 (repeat' (first|exact trivial|refine And.intro ?_ ?_))
 refine FinP.pubA 9 rfl (zb _ _ _) (Nat.le_trans (tJ R hR i _) (by decide)) (FinP.open rfl ?_)
 exact congrArg (fun r=>AV.d (.sl 6 r)) ((wx _ _ _).trans (yg R i _ hwr))
theorem AQ {s:SS}{l:List OP}(h:isS s l)(R:List OP)(hR:R.length≤1000000):Cv 244 [rmv R,stv s] (.tup [rmv (eU l R),opv (gJ l R),bv (decide (0≤bA l R))]):=by
 refine aD Tryz.f244 Tryz.func244 rfl rfl fun w H B g0=>?_
 (try refine WJ.cut ?_)
 (first|refine Sq.go ?_|refine af (Sq.go ?_)|skip)
 (try refine WJ.cut ?_)
 refine ax (V:=Nat) (fun i=>[(15,iv i)]) (fun _=>[]) [] (fun i=>R.length-i) (fun i=>i≤R.length∧∀x,x∈R.take i→aw l x=6) 0 ⟨by omega,fun x hx=>by simp at hx⟩ (by repeat' (first|exact trivial|exact rfl|refine And.intro ?_ ?_)) (by repeat' (first|exact trivial|exact rfl|refine And.intro ?_ ?_)) ?_
 rintro i ⟨hi,hb⟩
 refine Spl.of (fun h1=>?_) (fun h1=>?_)
 ·have hlt:i<R.length:=by have:=of_decide_eq_true h1;simp at this;omega
  have hx:R[i]?=some R[i]:=by simp
  generalize R[i]=x at hx
  have hap:=lq h x
  (repeat (first|refine Spl.t rfl ?_|refine Spl.f rfl ?_))
  refine IdxP.of (opD x) (by omega) (by simp[hx]) ?_
  (first|refine Sq.go ?_|refine af (Sq.go ?_)|skip)
  (try refine WJ.cut ?_)
  refine aa hap (fun _ _=>rfl) rfl rfl rfl ?_
  (first|refine Sq.go ?_|refine af (Sq.go ?_)|skip)
  (try refine WJ.cut ?_)
  refine Spl.of (fun h2=>?_) (fun h2=>?_)
  ·have h2:aw l x≠6:=by simpa using h2
   have hix:=lJ l R i x hx hb h2
   (repeat (first|refine Spl.t rfl ?_|refine Spl.f rfl ?_))
   refine qi 12 rfl (by decide+kernel) ?_
   refine Req.of ⟨by omega,by omega,by rw[List.length_map];omega,rfl⟩ ?_
   have hwr:IntKind.i64.wrap ((i:Int)+1)=i+1:=ah _ (by omega) (by omega)
   refine Req.of ⟨by rw[hwr];omega,by rw[hwr,List.length_map];omega,by rw[List.length_map];omega⟩ ?_
   refine QuietP.of (iA rfl (.full _ _) (FlatQ.data rfl rfl) rfl (Nat.le_trans (Nat.le_trans (Nat.add_le_add_right (Nat.le_add_left _ 0) _) (tJ R hR i _)) (by decide))) ?_
   (repeat' (first|exact trivial|refine And.intro ?_ ?_))
   all_goals (refine .out (by simp) ?_;refine FinP.open rfl ?_;rw[nJ hix,nK hix hx,hix,decide_eq_true (Int.natCast_nonneg i)])
   all_goals exact congrArg (fun r=>AV.tup [.agg [.d (.sl 6 r)],opv x,bv true]) (yg R i _ hwr)
  ·have h2:aw l x=6:=by simpa using h2
   (repeat (first|refine Spl.t rfl ?_|refine Spl.f rfl ?_))
   (first|refine Sq.go ?_|refine af (Sq.go ?_)|skip)
   (try refine WJ.cut ?_)
   exact⟨i+1,⟨by omega,rO hx hb h2⟩,by omega,⟨ao (ah _ (by omega) (by omega)),trivial⟩,(by repeat' (first|exact trivial|exact rfl|refine And.intro ?_ ?_)),(by repeat' (first|exact trivial|exact rfl|refine And.intro ?_ ?_)),(by repeat' (first|exact trivial|exact rfl|refine And.intro ?_ ?_))⟩
 ·have h1:=of_decide_eq_false h1
  simp at h1
  rw[List.take_of_length_le (by omega)]at hb
  have hix:=iR l R hb
  (repeat (first|refine Spl.t rfl ?_|refine Spl.f rfl ?_))
  (first|refine Sq.go ?_|refine af (Sq.go ?_)|skip)
  (try refine aq _ _ _ _ ?_)
  refine FinP.open rfl ?_
  unfold eU gJ
  rw[hix];rfl
end Go.Proofs.E
namespace Go.Proofs.E
attribute [local irreducible] elems
end Go.Proofs.E
end
section
namespace Go.Gv.Fl
open Ieee
set_option exponentiation.threshold 2000
def fl (z:Int):Nat:=double.write (.number (decide (z<0)) z.natAbs 0)
theorem log2_lt {n k:Nat}(h0:n≠0)(h:n<2^k):n.log2<k:=(Nat.log2_lt h0).2 h
theorem kK (n k:Nat)(h:n≠0):(n*2^k).log2=n.log2+k:=by
 induction k with
 |zero=>simp
 |succ k ih=>
  rw[Nat.pow_succ,←Nat.mul_assoc,Nat.mul_comm (n*2^k) 2,Nat.log2_two_mul (Nat.mul_ne_zero h (Nat.ne_of_gt (Nat.two_pow_pos k))),ih];omega
theorem Dl:double.leastPlace=-1074:=by decide
theorem binade:double.binade=2^52:=rfl
theorem sw:double.signWeight=2^63:=rfl
theorem inf:double.infRung=2047*2^52:=by decide
theorem iS (neg:Bool)(mag z:Nat)(place:Int)(hp:-1074≤place)(hz:0<z)(hz':z<2^53)(h:mag*2^(place+1074).toNat=z*2^1074):
 double.nearest neg mag place=double.word neg ((1022+z.log2)*2^52+z*2^(52-z.log2)):=by
 have hz0:z≠0:=by omega
 have hm0:mag≠0:=fun e=>by
  subst e;rw[Nat.zero_mul]at h
  have:=Nat.mul_pos hz (Nat.two_pow_pos 1074);omega
 have hl:z.log2≤52:=by have:=log2_lt hz0 hz';omega
 have hlog:mag.log2+(place+1074).toNat=z.log2+1074:=by
  rw[←kK mag _ hm0,h,kK z _ hz0]
 unfold Format.nearest
 rw[if_neg hm0]
 simp only[Dl]
 have hlast:max (place+(mag.log2:Int)-(double.fractionBits:Nat)) (-1074)=((z.log2:Nat):Int)-52:=by
  have:(double.fractionBits:Int)=52:=rfl
  omega
 rw[hlast]
 have hkept:Toward.even.cut neg (mag <<< (place-(((z.log2:Nat):Int)-52)).toNat) ((((z.log2:Nat):Int)-52)-place).toNat=z*2^(52-z.log2):=by
  by_cases hc:((z.log2:Nat):Int)-52≤place
  ·have e1:(((z.log2:Nat):Int)-52-place).toNat=0:=by omega
   rw[e1]
   have e2:mag <<< (place-(((z.log2:Nat):Int)-52)).toNat=z*2^(52-z.log2):=by
    rw[Nat.shiftLeft_eq]
    have:mag*2^(place-(((z.log2:Nat):Int)-52)).toNat*2^(1022+z.log2)=z*2^(52-z.log2)*2^(1022+z.log2):=by
     rw[Nat.mul_assoc,←Nat.pow_add,Nat.mul_assoc,←Nat.pow_add,show(place-(((z.log2:Nat):Int)-52)).toNat+(1022+z.log2)=(place+1074).toNat by omega,show 52-z.log2+(1022+z.log2)=1074 by omega]
     exact h
    exact Nat.eq_of_mul_eq_mul_right (Nat.two_pow_pos _) this
   rw[e2]
   unfold Toward.cut
   simp[Nat.mod_one]
  ·have e1:(place-(((z.log2:Nat):Int)-52)).toNat=0:=by omega
   rw[e1,Nat.shiftLeft_zero]
   generalize hd:(((z.log2:Nat):Int)-52-place).toNat=d
   have hmag:mag=z*2^(52-z.log2)*2^d:=by
    have:mag*2^(place+1074).toNat=z*2^(52-z.log2)*2^d*2^(place+1074).toNat:=by
     rw[Nat.mul_assoc,Nat.mul_assoc,←Nat.pow_add,←Nat.pow_add,show 52-z.log2+(d+(place+1074).toNat)=1074 by omega]
     exact h
    exact Nat.eq_of_mul_eq_mul_right (Nat.two_pow_pos _) this
   have hk:d≤mag.log2:=by
    rw[hmag,kK _ _ (Nat.mul_ne_zero hz0 (Nat.ne_of_gt (Nat.two_pow_pos _)))];omega
   unfold Toward.cut
   rw[Nat.min_eq_left (by omega),Nat.one_shiftLeft]
   have hr:mag % 2^d=0:=by rw[hmag];exact Nat.mul_mod_left _ _
   have hq:mag/2^d=z*2^(52-z.log2):=by rw[hmag];exact Nat.mul_div_cancel _ (Nat.two_pow_pos _)
   simp only[hr,hq]
   have:¬(2^d<2*0):=by omega
   have h2:(2^d==2*0)=false:=beq_eq_false_iff_ne.2 (Nat.ne_of_gt (Nat.two_pow_pos d))
   simp[h2]
 rw[hkept]
 have hb:z*2^(52-z.log2)<2^53:=by
  have:z<2^(z.log2+1):=Nat.lt_log2_self
  calc z*2^(52-z.log2)<2^(z.log2+1)*2^(52-z.log2):=(Nat.mul_lt_mul_right (Nat.two_pow_pos _)).2 this
   _=2^53:=by rw[←Nat.pow_add];congr 1;omega
 have e3:((((z.log2:Nat):Int)-52)- -1074).toNat=1022+z.log2:=by omega
 have hmin:min ((1022+z.log2)*2^52+z*2^(52-z.log2)) (2047*2^52)=(1022+z.log2)*2^52+z*2^(52-z.log2):=by
  have:(1022+z.log2)*2^52≤1074*2^52:=Nat.mul_le_mul_right _ (by omega)
  have hle:(1022+z.log2)*2^52+z*2^(52-z.log2)≤2047*2^52:=Nat.le_trans (Nat.add_le_add this (Nat.le_of_lt hb)) (by decide)
  exact Nat.min_eq_left hle
 rw[e3,inf,binade]
 exact congrArg (double.word neg) hmin
def Is (d:Datum)(z:Int):Prop:=∃s m i,d=.number s m i∧-104≤i∧i≤64∧(m:Int)*2^(i+1074).toNat*(if s then-1 else 1)=z*2^1074
theorem wO (neg:Bool)(L k:Nat)(hL:L≤1074)(hk:2^52≤k)(hk':k<2^53):double.read (double.word neg (L*2^52+k))=.number neg k (L-1074):=by
 have hr:L*2^52+k<2047*2^52:=by
  have:L*2^52≤1074*2^52:=Nat.mul_le_mul_right _ hL
  omega
 have hw:double.word neg (L*2^52+k)/2^63 % 2=neg.toNat∧double.word neg (L*2^52+k) % 2^63=L*2^52+k:=by
  unfold Format.word
  rw[sw]
  cases neg with
  |true=>simp only[if_true,Bool.toNat_true];omega
  |false=>simp only[Bool.false_eq_true,if_false,Bool.toNat_false];omega
 have e1:(L*2^52+k) % 2^52=k-2^52:=by omega
 have e2:(L*2^52+k)/2^52=L+1:=by omega
 have hneg:(neg.toNat==1)=neg:=by cases neg<;>rfl
 have n1:¬(L*2^52+k<2^52):=by omega
 have n2:2^52+(k-2^52)=k:=by omega
 have n3:(-1074:Int)+((L+1-1:Nat):Int)=(L:Int)-1074:=by omega
 simp only[Format.read,sw,hw.1,hw.2,Dl,binade,inf,n1,if_false,hr,if_true,e1,e2,hneg,n2,n3]
theorem Et (z:Nat)(h:0<z)(h':z<2^53)(neg:Bool):double.write (.number neg z 0)=double.word neg ((1022+z.log2)*2^52+z*2^(52-z.log2)):=
 iS neg z z 0 (by decide) h h' rfl
theorem nZ (z:Nat)(h:0<z)(h':z<2^53):z.log2≤52∧2^52≤z*2^(52-z.log2)∧z*2^(52-z.log2)<2^53:=by
 have hz0:z≠0:=by omega
 have hl:z.log2≤52:=by have:=log2_lt hz0 h';omega
 have h1:z<2^(z.log2+1):=Nat.lt_log2_self
 have h2:2^z.log2≤z:=Nat.log2_self_le hz0
 refine⟨hl,?_,?_⟩
 ·calc 2^52=2^z.log2*2^(52-z.log2):=by rw[←Nat.pow_add];congr 1;omega
   _≤_:=Nat.mul_le_mul_right _ h2
 ·calc z*2^(52-z.log2)<2^(z.log2+1)*2^(52-z.log2):=(Nat.mul_lt_mul_right (Nat.two_pow_pos _)).2 h1
   _=2^53:=by rw[←Nat.pow_add];congr 1;omega
theorem pp:fl 0=0:=by decide
theorem wN:double.read 0=.number false 0 (-1074):=by decide
theorem zw {z:Int}(h:z≠0)(h':z.natAbs<2^53):fl z=double.word (decide (z<0)) ((1022+z.natAbs.log2)*2^52+z.natAbs*2^(52-z.natAbs.log2)):=Et z.natAbs (by omega) h' _
theorem BB {z:Int}(h:z≠0)(h':z.natAbs<2^53):double.read (fl z)=.number (decide (z<0)) (z.natAbs*2^(52-z.natAbs.log2)) ((z.natAbs.log2:Int)-52):=by
 obtain⟨k1,k2,k3⟩:=nZ z.natAbs (by omega) h'
 rw[zw h h',wO _ _ _ (by omega) k2 k3]
 congr 1
 omega
def un (s:Bool)(m:Nat)(i:Int):Int:=Ieee.signed s m (i+1074).toNat
theorem dx (s:Bool)(m k:Nat):Ieee.signed s m k=(if s then-1 else 1)*((m:Int)*2^k):=by
 unfold Ieee.signed
 cases s<;>simp[Nat.shiftLeft_eq]
theorem hZ {a:Int}(h':a.natAbs<2^53):∃s m i,double.read (fl a)=.number s m i∧-1074≤i∧i≤0∧un s m i=a*2^1074∧s=decide (a<0)∧(a≠0→m=a.natAbs*2^(-i).toNat∧-52≤i)∧(a=0→m=0):=by
 by_cases h:a=0
 ·subst h
  refine⟨false,0,-1074,?_,by decide,by decide,?_,rfl,fun h=>absurd rfl h,fun _=>rfl⟩
  ·rw[pp,wN]
  ·rw[un,dx];simp
 ·obtain⟨k1,k2,k3⟩:=nZ a.natAbs (by omega) h'
  refine⟨_,_,_,BB h h',by omega,by omega,?_,rfl,fun _=>⟨?_,by omega⟩,fun e=>absurd e h⟩
  ·rw[un,dx]
   have e1:(((a.natAbs.log2:Nat):Int)-52+1074).toNat=1022+a.natAbs.log2:=by omega
   rw[e1]
   have e2:(((a.natAbs*2^(52-a.natAbs.log2):Nat):Int))*2^(1022+a.natAbs.log2)=(a.natAbs:Int)*2^1074:=by
    rw[Int.natCast_mul,Int.mul_assoc,Int.natCast_pow,show((2:Nat):Int)=2 from rfl,←Int.pow_add,show 52-a.natAbs.log2+(1022+a.natAbs.log2)=1074 by omega]
   rw[e2]
   by_cases hn:a<0
   ·rw[decide_eq_true hn,if_pos rfl,←Int.mul_assoc];congr 1;omega
   ·rw[decide_eq_false hn,if_neg (by decide),←Int.mul_assoc];congr 1;omega
  ·congr 2;omega
theorem rH (s:Bool)(m:Nat)(i base:Int)(h:base≤i)(hb:-1074≤base):Ieee.signed s m (i-base).toNat*2^(base+1074).toNat=un s m i:=by
 rw[un,dx,dx,Int.mul_assoc,Int.mul_assoc,←Int.pow_add,show(i-base).toNat+(base+1074).toNat=(i+1074).toNat by omega]
theorem r7 (k:Nat):(0:Int)<2^k:=Int.pow_pos (by decide)
theorem FG {t z:Int}{k:Nat}(hk:k≤1074)(h:t*2^k=z*2^1074):(t=0↔z=0)∧(t<0↔z<0)∧t.natAbs*2^k=z.natAbs*2^1074:=by
 have e:t=z*2^(1074-k):=by
  have:t*2^k=z*2^(1074-k)*2^k:=by rw[Int.mul_assoc,←Int.pow_add,show 1074-k+k=1074 by omega];exact h
  exact Int.eq_of_mul_eq_mul_right (Int.ne_of_gt (r7 k)) this
 have hp:=r7 (1074-k)
 refine⟨⟨fun h0=>?_,fun h0=>by rw[e,h0,Int.zero_mul]⟩,⟨fun h0=>?_,fun h0=>?_⟩,?_⟩
 ·rw[e]at h0
  rcases Int.mul_eq_zero.1 h0 with h1|h1
  ·exact h1
  ·omega
 ·refine Classical.byContradiction fun hn=>?_
  have:=Int.mul_nonneg (show(0:Int)≤z by omega) (Int.le_of_lt hp)
  omega
 ·rw[e];exact Int.mul_neg_of_neg_of_pos h0 hp
 ·rw[e,Int.natAbs_mul,Int.natAbs_pow,Nat.mul_assoc]
  rw[show(2:Int).natAbs=2 from rfl,←Nat.pow_add,show 1074-k+k=1074 by omega]
theorem va {s t:Bool}{m n:Nat}{i j a b:Int}(hi:-1074≤i)(hi':i≤0)(hj:-1074≤j)(hj':j≤0)(ha:un s m i=a*2^1074)(hb:un t n j=b*2^1074)(h:(a+b).natAbs<2^53)(h0:a+b=0→(s&&t)=false):
 ((Datum.number s m i).sum (.number t n j)).map double.write=some (fl (a+b)):=by
 simp only[Datum.sum,Option.map_some,Option.some.injEq]
 generalize hbase:min i j=base
 have hb1:-1074≤base:=by omega
 have hb2:base≤0:=by omega
 generalize htot:Ieee.signed s m (i-base).toNat+Ieee.signed t n (j-base).toNat=tot
 have e1:tot*2^(base+1074).toNat=(a+b)*2^1074:=by
  rw[←htot,Int.add_mul,rH s m i base (by omega) hb1,rH t n j base (by omega) hb1,ha,hb,Int.add_mul]
 obtain⟨z1,z2,z3⟩:=FG (by omega) e1
 by_cases hz:a+b=0
 ·rw[if_pos (z1.2 hz),z1.2 hz,h0 hz,hz,pp]
  show double.nearest false 0 base=0
  rw[Format.nearest,if_pos rfl];rfl
 ·rw[if_neg fun e=>hz (z1.1 e),zw hz h]
  have:decide (tot<0)=decide (a+b<0):=by simp[z2]
  rw[this]
  exact iS _ _ _ base hb1 (by omega) h z3
theorem EU {a b:Int}(ha:a.natAbs<2^53)(hb:b.natAbs<2^53)(h:(a+b).natAbs<2^53):double.add (fl a) (fl b)=some (fl (a+b)):=by
 obtain⟨s,m,i,h1,h2,h3,h4,h5,_,_⟩:=hZ ha
 obtain⟨t,n,j,k1,k2,k3,k4,k5,_,_⟩:=hZ hb
 unfold Format.add
 rw[h1,k1]
 refine va h2 h3 k2 k3 h4 k4 h fun e=>?_
 subst h5;subst k5
 by_cases x:a<0
 ·rw[decide_eq_false (show¬b<0 by omega),Bool.and_false]
 ·rw[decide_eq_false x,Bool.false_and]
theorem DG (s:Bool)(m:Nat)(i:Int):un (!s) m i=-un s m i:=by
 rw[un,un,dx,dx];cases s<;>simp
theorem DO {a b:Int}(ha:a.natAbs<2^53)(hb:b.natAbs<2^53)(h:(a-b).natAbs<2^53):double.sub (fl a) (fl b)=some (fl (a-b)):=by
 obtain⟨s,m,i,h1,h2,h3,h4,h5,_,_⟩:=hZ ha
 obtain⟨t,n,j,k1,k2,k3,k4,k5,_,_⟩:=hZ hb
 unfold Format.sub
 rw[h1,k1]
 have:=va (t:=!t) (n:=n) (j:=j) (b:=-b) h2 h3 k2 k3 h4 (by rw[DG,k4,Int.neg_mul]) (by rw[←Int.sub_eq_add_neg];exact h) fun e=>by
  subst h5;subst k5
  have:a=b:=by omega
  subst this
  cases decide (a<0)<;>rfl
 rw[←Int.sub_eq_add_neg]at this
 exact this
theorem Eb {a b:Int}(ha:a.natAbs<2^53)(hb:b.natAbs<2^53)(ha0:a≠0)(hb0:b≠0)(h:(a*b).natAbs<2^53):double.mul (fl a) (fl b)=some (fl (a*b)):=by
 obtain⟨s,m,i,h1,h2,h3,h4,h5,h6,_⟩:=hZ ha
 obtain⟨t,n,j,k1,k2,k3,k4,k5,k6,_⟩:=hZ hb
 obtain⟨m1,m2⟩:=h6 ha0
 obtain⟨n1,n2⟩:=k6 hb0
 unfold Format.mul
 rw[h1,k1]
 simp only[Datum.product,Option.map_some,Option.some.injEq]
 have hab:a*b≠0:=Int.mul_ne_zero ha0 hb0
 rw[zw hab h]
 have hs:(s^^t)=decide (a*b<0):=by
  subst h5;subst k5
  by_cases x:a<0<;>by_cases y:b<0
  ·have:=Int.mul_pos_of_neg_of_neg x y
   rw[decide_eq_true x,decide_eq_true y,decide_eq_false (by omega)];rfl
  ·have:=Int.mul_neg_of_neg_of_pos x (show 0<b by omega)
   rw[decide_eq_true x,decide_eq_false y,decide_eq_true this];rfl
  ·have:=Int.mul_neg_of_pos_of_neg (show 0<a by omega) y
   rw[decide_eq_false x,decide_eq_true y,decide_eq_true this];rfl
  ·have:=Int.mul_pos (show 0<a by omega) (show 0<b by omega)
   rw[decide_eq_false x,decide_eq_false y,decide_eq_false (by omega)];rfl
 rw[←hs]
 refine iS _ _ _ (i+j) (by omega) (Int.natAbs_pos.2 hab) h ?_
 rw[m1,n1,Int.natAbs_mul]
 rw[show a.natAbs*2^(-i).toNat*(b.natAbs*2^(-j).toNat)*2^(i+j+1074).toNat=a.natAbs*b.natAbs*(2^(-i).toNat*2^(-j).toNat*2^(i+j+1074).toNat)by ac_rfl,←Nat.pow_add,←Nat.pow_add,show(-i).toNat+(-j).toNat+(i+j+1074).toNat=1074 by omega]
theorem ym {a:Int}(ha:a.natAbs<2^53):(double.read (fl a)).toInt .zero=some a:=by
 obtain⟨s,m,i,h1,h2,h3,h4,h5,h6,h7⟩:=hZ ha
 rw[h1]
 unfold Datum.toInt Datum.integral
 simp only
 rw[show i.toNat=0 by omega,Nat.shiftLeft_zero]
 by_cases h:a=0
 ·rw[h7 h]
  subst h
  have:Toward.zero.cut s 0 (-i).toNat=0:=by unfold Toward.cut;simp
  rw[this,dx];simp
 ·obtain⟨m1,m2⟩:=h6 h
  have hz:a.natAbs≠0:=by omega
  have hc:Toward.zero.cut s m (-i).toNat=a.natAbs:=by
   unfold Toward.cut
   have hl:m.log2=a.natAbs.log2+(-i).toNat:=by rw[m1,kK _ _ hz]
   rw[Nat.min_eq_left (by omega),Nat.one_shiftLeft,m1]
   show a.natAbs*2^(-i).toNat/2^(-i).toNat+0=a.natAbs
   rw[Nat.mul_div_cancel _ (Nat.two_pow_pos _)];rfl
  rw[hc,dx,h5]
  congr 1
  by_cases hn:a<0
  ·rw[decide_eq_true hn,if_pos rfl];omega
  ·rw[decide_eq_false hn,if_neg (by decide)];omega
end Go.Gv.Fl
end
section
namespace Go.Gv
open Go.RowKit Fl
abbrev vf (a:Int):Value:=.float .f64 (fl a)
abbrev vc2 (a b:Int):Value:=.complex .f64 (fl a) (fl b)
abbrev fv (a:Int):AV:=.d (.v (vf a))
abbrev cx (a b:Int):AV:=.d (.v (vc2 a b))
def sm (z:Int):Prop:=z.natAbs<2^53
section
variable {P:Program}
theorem pX {op:BinOp}{tt:TypeId}{ox oy:Operand}{k k':FloatKind}{a b c d:Nat}{w:World}:(eqGuard op tt ox oy (.complex k a b) (.complex k' c d)).run P w=.ok () w:=by
 cases op<;>simp[eqGuard]
theorem zy {a b:Int}(ha:sm a)(hb:sm b)(h:sm (a+b)):FloatKind.f64.format.add (fl a) (fl b)=some (fl (a+b)):=EU ha hb h
theorem FX {a b:Int}(ha:sm a)(hb:sm b)(h:sm (a-b)):FloatKind.f64.format.sub (fl a) (fl b)=some (fl (a-b)):=DO ha hb h
theorem vH {a b:Int}(ha:sm a)(hb:sm b)(ha0:a≠0)(hb0:b≠0)(h:sm (a*b)):FloatKind.f64.format.mul (fl a) (fl b)=some (fl (a*b)):=Eb ha hb ha0 hb0 h
theorem B.cadd {tt:TypeId}{a b c d:Int}(h1:sm a)(h2:sm b)(h3:sm c)(h4:sm d)(h5:sm (a+c))(h6:sm (b+d)):ki P .add tt (vc2 a b) (vc2 c d) (vc2 (a+c) (b+d)):=
 ⟨rfl,fun ox oy w=>by simp[pX,binOp,Op.complexOp,Op.Complex.arith,Op.floatArith,zy h1 h3 h5,zy h2 h4 h6]⟩
theorem B.cmul {tt:TypeId}{a b c d:Int}(h1:sm a)(h2:sm b)(h3:sm c)(h4:sm d)(a0:a≠0)(b0:b≠0)(c0:c≠0)(d0:d≠0)(m1:sm (a*c))(m2:sm (b*d))(m3:sm (a*d))(m4:sm (b*c))(h5:sm (a*c-b*d))(h6:sm (a*d+b*c)):
 ki P .mul tt (vc2 a b) (vc2 c d) (vc2 (a*c-b*d) (a*d+b*c)):=
 ⟨rfl,fun ox oy w=>by
  simp[pX,binOp,Op.complexOp,Op.Complex.arith,Op.Complex.conv,Op.Complex.product,Op.Complex.add,Op.Complex.sub,Op.Complex.mul,Op.floatArith,vH h1 h3 a0 c0 m1,vH h2 h4 b0 d0 m2,vH h1 h4 a0 d0 m3,vH h2 h3 b0 c0 m4,FX m1 m2 h5,zy m3 m4 h6]⟩
theorem Cj {src dst:TypeId}{z:Int}{d:TypeDesc}(hs:P.underlying src=some d)(hd:P.underlying dst=some (.int .i64))(h:sm z)(w:World):(convert src dst (vf z)).run P w=.ok (.int .i64 z) w:=by
 have hz:-9223372036854775808≤z∧z≤9223372036854775807:=by unfold sm at h;omega
 have e:(FloatKind.f64.decode (fl z)).toInt .zero=some z:=ym h
 have hr:IntKind.i64.min≤z∧z≤IntKind.i64.max:=hz
 simp[convert,underlying,hs,hd,Conv.floatToInt,e,hr]
 intro hlt;omega
end
section
variable {X:Cx} {d:Option Nat} {ty:TypeId} {pos:String} {aft:Array Edge} {g:Option (Nat×Bool)} {t:T} {σ:Sg}
theorem O.complex {x y:Operand}{tys:Array TypeId}{a b:Int}(hx:ge t x=some (fv a))(hy:ge t y=some (fv b)):QJ X ⟨d,.call {callee:=.builtin .complex,args:=#[x,y],argTypes:=tys},ty,pos,aft,g⟩ t σ (cx a b):=
 AM hx hy (fun cs w=>rfl) rfl
theorem li {src dst:TypeId}{x:Operand}{z:Int}{de:TypeDesc}(hx:ge t x=some (fv z))(hs:X.P.underlying src=some de)(hd:X.P.underlying dst=some (.int .i64))(h:sm z):QJ X ⟨d,.convert src dst x,ty,pos,aft,g⟩ t σ (.d (.v (.int .i64 z))):=
 O.conv hx (Cj hs hd h) rfl
end
end Go.Gv
end
section
open Go Go.Gv Go.Gv.Fl
attribute [local irreducible] Go.Gv.WJ Go.Gv.OpJ Go.Gv.QJ Go.Gv.Spl Go.Gv.Req Go.Gv.IdxP Go.Gv.RegP Go.Gv.FinP Go.Gv.CellP Go.Gv.CellsP Go.Gv.ArrP Go.Gv.ArrsP Go.Gv.DropP Go.Gv.ByteP Go.Gv.StoreP
set_option maxRecDepth 100000
namespace Go.Proofs.E
structure TL where
 n:Int
 a:Int
 b:Int
 c:Int
 d:Int
abbrev tlv (t:TL):AV:=.agg [iv t.n,cx t.a t.b,cx t.c t.d]
def TL.ok (t:TL):Prop:=0≤t.n∧t.n≤4096∧t.a.natAbs≤t.n.toNat*1048576∧t.b.natAbs≤t.n.toNat*1000∧t.c.natAbs≤t.n.toNat*1099511627776∧t.d.natAbs≤t.n.toNat*2147483648
def TL.add (t u:TL):TL:=⟨t.n+u.n,t.a+u.a,t.b+u.b,t.c+u.c,t.d+u.d⟩
def TL.sub (t u:TL):TL:=⟨t.n-u.n,t.a-u.a,t.b-u.b,t.c-u.c,t.d-u.d⟩
def TL.one (x:ID):TL:=⟨1,x.c,x.s,x.c*x.c-x.s*x.s,x.c*x.s+x.s*x.c⟩
def TL.zero:TL:=⟨0,0,0,0,0⟩
theorem gY {t:TL}(h:t.ok):sm t.a∧sm t.b∧sm t.c∧sm t.d:=by
 obtain⟨h1,h2,h3,h4,h5,h6⟩:=h
 unfold sm
 refine⟨?_,?_,?_,?_⟩<;>omega
theorem qe {t u:TL}(h:t.ok)(k:u.ok)(hn:t.n+u.n≤4096):(t.add u).ok:=by
 obtain⟨h1,h2,h3,h4,h5,h6⟩:=h
 obtain⟨k1,k2,k3,k4,k5,k6⟩:=k
 unfold TL.ok TL.add
 simp only
 refine⟨?_,?_,?_,?_,?_,?_⟩<;>omega
theorem Gi (x:ID):Cv 270 [idv x] (cx x.c x.s):=by
 refine ab Tryz.f270 Tryz.func270 rfl rfl fun w H B g0=>?_
 refine aR (O.complex (a:=x.c) (b:=x.s) rfl rfl) rfl ?_
 exact FinP.open rfl rfl
theorem Gr (t u:TL)(h:t.ok)(k:u.ok):Cv 271 [tlv t,tlv u] (if t.n+u.n≤4096 then .tup [tlv (t.add u),iv 0]else .tup [tlv TL.zero,iv 7]):=by
 have hw:IntKind.i64.wrap (t.n+u.n)=t.n+u.n:=by obtain⟨_,_,_⟩:=h;obtain⟨_,_,_⟩:=k;exact ah _ (by omega) (by omega)
 obtain⟨a1,a2,a3,a4⟩:=gY h
 obtain⟨b1,b2,b3,b4⟩:=gY k
 refine ab Tryz.f271 Tryz.func271 rfl rfl fun w H B g0=>?_
 refine Spl.of (fun e=>?_) (fun e=>?_)
 ·have:¬t.n+u.n≤4096:=by have:=of_decide_eq_true e;rw[hw]at this;omega
  rw[if_neg this]
  exact FinP.open rfl rfl
 ·have hle:t.n+u.n≤4096:=by have:=of_decide_eq_false e;rw[hw]at this;omega
  obtain⟨c1,c2,c3,c4⟩:=gY (qe h k hle)
  rw[if_pos hle]
  (repeat (first|refine Spl.t rfl ?_|refine Spl.f rfl ?_))
  refine aR (wi rfl rfl (Gv.B.cadd a1 a2 b1 b2 c1 c2)) rfl ?_
  refine aR (wi rfl rfl (Gv.B.cadd a3 a4 b3 b4 c3 c4)) rfl ?_
  refine FinP.open rfl ?_
  show AV.tup [.agg [iv (IntKind.i64.wrap (t.n+u.n)),_,_],_]=_
  rw[hw];rfl
end Go.Proofs.E
namespace Go.Proofs.E
theorem mQ {a b m n:Int}(h1:1≤a)(h2:a≤m)(h3:1≤b)(h4:b≤n):1≤a*b∧a*b≤m*n:=
 ⟨by have:=Int.mul_le_mul h1 h3 (by omega) (by omega);simpa using this,Int.mul_le_mul h2 h4 (by omega) (by omega)⟩
theorem qJ {x:ID}(h:bp x=true):(1≤x.c*x.c∧x.c*x.c≤1099511627776)∧(1≤x.s*x.s∧x.s*x.s≤1000000)∧(1≤x.c*x.s∧x.c*x.s≤1048576000)∧(1≤x.s*x.c∧x.s*x.c≤1048576000):=by
 obtain⟨a1,a2,a3,a4⟩:=bj h
 exact⟨mQ a1 a2 a1 a2,mQ a3 a4 a3 a4,mQ a1 a2 a3 a4,mQ a3 a4 a1 a2⟩
theorem yU {x:ID}(h:bp x=true):(TL.one x).ok:=by
 obtain⟨a1,a2,a3,a4⟩:=bj h
 obtain⟨h1,h2,h3,h4⟩:=qJ h
 unfold TL.ok TL.one
 simp only
 refine⟨by omega,by omega,?_,?_,?_,?_⟩
 ·show x.c.natAbs≤1*1048576;omega
 ·show x.s.natAbs≤1*1000;omega
 ·show(x.c*x.c-x.s*x.s).natAbs≤1*1099511627776;omega
 ·show(x.c*x.s+x.s*x.c).natAbs≤1*2147483648;omega
theorem Aw (t:TL)(x:ID)(h:t.ok):Cv 247 [tlv t,idv x] (if bp x=true then(if t.n+(TL.one x).n≤4096 then .tup [tlv (t.add (TL.one x)),iv 0]else .tup [tlv TL.zero,iv 7])else .tup [tlv TL.zero,iv 2]):=by
 refine ab Tryz.f247 Tryz.func247 rfl rfl fun w H B g0=>?_
 refine aa (fb x) (fun _ _=>rfl) rfl rfl rfl ?_
 (repeat (first|refine Spl.t rfl ?_|refine Spl.f rfl ?_))
 refine Spl.of (fun e=>?_) (fun e=>?_)
 ·have hm:¬bp x=true:=fun y=>by simp[bN,y]at e
  rw[if_neg hm]
  refine FinP.open rfl ?_
  show AV.tup [_,iv (bN x)]=_
  rw[bN,if_neg hm];rfl
 ·have hm:bp x=true:=by
   cases y:bp x with
   |true=>rfl
   |false=>simp[bN,y]at e
  obtain⟨a1,a2,a3,a4⟩:=bj hm
  obtain⟨h1,h2,h3,h4⟩:=qJ hm
  rw[if_pos hm]
  (repeat (first|refine Spl.t rfl ?_|refine Spl.f rfl ?_))
  refine aa (Gi x) (fun _ _=>rfl) rfl rfl rfl ?_
  (repeat (first|refine Spl.t rfl ?_|refine Spl.f rfl ?_))
  refine aR (wi rfl rfl (Gv.B.cmul (by unfold sm;omega) (by unfold sm;omega) (by unfold sm;omega) (by unfold sm;omega) (by omega) (by omega) (by omega) (by omega) (by unfold sm;omega) (by unfold sm;omega) (by unfold sm;omega) (by unfold sm;omega) (by unfold sm;omega) (by unfold sm;omega))) rfl ?_
  have hc:=Gr t (TL.one x) h (yU hm)
  by_cases hn:t.n+(TL.one x).n≤4096
  ·rw[if_pos hn]at hc ⊢
   refine aa hc (fun _ _=>rfl) rfl rfl rfl ?_
   exact FinP.open rfl rfl
  ·rw[if_neg hn]at hc ⊢
   refine aa hc (fun _ _=>rfl) rfl rfl rfl ?_
   exact FinP.open rfl rfl
end Go.Proofs.E
namespace Go.Proofs.E
abbrev tR (x:List UInt8):List D:=[.v (.string ⟨⟨x⟩⟩)]
theorem DW {H:HF}{x u:Value}(r:RepD H (.v x) u):u=x:=by cases r;rfl
theorem Fq (xs:List (List UInt8))(sep:List UInt8)(h0:xs≠[])(h1:xs.length≤1000000)(h2:(Lib.join xs sep).length≤100000000):
 Cv 253 [.d (.sl 1 (xs.map tR)),sv sep] (sv (Lib.join xs sep)):=
 mI fun γ H w vs hΛ hok hl hr=>by
  obtain⟨v0,v1,rfl⟩:∃a b,vs=[a,b]:=by
   match vs,hl with
   |[a,b],_=>exact⟨a,b,rfl⟩
  have r0:=eS (hr 0 _ v0 rfl rfl)
  obtain rfl:=aV (hr 1 _ v1 rfl rfl)
  have hm:=Mem.start hok γ
  cases r0 with
  |sl _ _ A c b o us hk hn hc hA hH hrep=>
   have hlen:0<(xs.map tR).length:=by simp;exact List.length_pos_iff.2 h0
   obtain rfl:=hA hlen
   have hcell:∀(j:Nat)(x:ByteArray),(xs.map fun x=>(⟨⟨x⟩⟩:ByteArray))[j]?=some x→w.cell? ⟨b,o+j,none⟩=some (.string x):=fun j x hx=>by
    simp only[List.getElem?_map,Option.map_eq_some_iff]at hx
    obtain⟨l,hl,rfl⟩:=hx
    have hj:j<(xs.map tR).length:=by simp;exact(List.getElem?_eq_some_iff.1 hl).1
    have e1:=hok.c _ _ _ (hH j 0 hj (by decide))
    have e2:=DW (hrep j 0 (tR l) (.v (.string ⟨⟨l⟩⟩)) (by simp[hl]) rfl)
    rw[Nat.mul_one,Nat.add_zero,e2]at e1
    exact e1
   have hlt:b<w.heap.size:=cr (hok.c _ _ _ (hH 0 0 hlen (by decide)))
   have e0:(xs.map fun x=>(⟨⟨x⟩⟩:ByteArray)).length=(xs.map tR).length:=by simp
   have e3:(xs.map fun x=>(⟨⟨x⟩⟩:ByteArray)).map (fun x=>x.data.toList)=xs:=by simp[List.map_map,Function.comp_def]
   have key:=Tryz.strings_Join b o c (xs.map fun x=>⟨⟨x⟩⟩) ⟨⟨sep⟩⟩ w hcell hlt (by simp;omega) (by rw[e0];exact hn) (by rw[e3];exact Nat.le_trans h2 (by decide))
   rw[e3,e0]at key
   refine key.mono fun e w' ⟨he,hb⟩=>⟨_,H,he,.d _ _ (.v _ rfl),hm.quiet (iU hb)⟩
theorem jy (n:Int)(h:n.natAbs<10^18):(Lib.itoa n).length≤19:=by
 unfold Lib.itoa
 split
 ·simp only[List.length_cons]
  have:=gv n.natAbs 18 h (by decide)
  omega
 ·have:=gv n.toNat 18 (by omega) (by decide)
  omega
def jM (t:TL):List UInt8:=Lib.join [Lib.itoa t.n,Lib.itoa t.a,Lib.itoa t.b,Lib.itoa t.c,Lib.itoa t.d] [32]
def rL (t:TL):List (List UInt8):=[Lib.itoa t.n,Lib.itoa t.a,Lib.itoa t.b,Lib.itoa t.c,Lib.itoa t.d]
def T0T (t:TL)(i:Nat):T:=[(24,iv i),(3,match i with|0=>.full 1 [tR (Lib.itoa t.n)]|i+1=>.arr 33 1 (i+2))]
def S0T (t:TL)(i:Nat):Sg:=match i with|0=>[]|i+1=>[(33,.arr 1 (((rL t).take (i+2)).map tR))]
set_option profiler true in
set_option maxHeartbeats 2000000 in
theorem qf (t:TL)(h:t.ok):Cv 215 [tlv t] (sv (jM t)):=by
 obtain⟨a1,a2,a3,a4⟩:=gY h
 have hn:=h.1
 have hn':=h.2.1
 have itoa:∀z,sm z→Cv 251 [iv z,iv 10] (sv (Lib.itoa z)):=fun z hz=>mH z (by unfold sm at hz;omega) (by unfold sm at hz;omega)
 refine ab Tryz.f215 Tryz.func215 rfl rfl fun w H B g0=>?_
 refine aa (AU t.n (by omega) (by omega)) (fun _ _=>rfl) rfl rfl rfl ?_
 refine jl (V:=Nat) (T0T t) (S0T t) (fun i=>4-i) (fun i=>i≤4) 0 (by omega) (by repeat' (first|exact trivial|exact rfl|refine And.intro ?_ ?_)) (by repeat' (first|exact trivial|exact rfl|refine And.intro ?_ ?_)) ?_
 intro i hi
 refine Spl.of (fun h=>?_) (fun h=>?_)
 ·have hlt:i<4:=by have:=of_decide_eq_true h;change (i:Int)<4 at this;omega
  match i,hlt with
  |0,_=>
   (repeat (first|refine Spl.t rfl ?_|refine Spl.f rfl ?_))
   refine IdxP.of [.v (vf t.a)] (by decide) rfl ?_
   refine aR (li rfl rfl rfl a1) rfl ?_
   refine aa (itoa _ a1) (fun _ _=>rfl) rfl rfl rfl ?_
   refine O.appF (k:=1) rfl rfl (.full 1 _) rfl rfl rfl rfl (by show 1+1≤1000000000;decide) (.inl (List.cons_ne_nil _ _)) ?_
   exact⟨1,by decide,by decide,(by repeat' (first|exact trivial|exact rfl|refine And.intro ?_ ?_)),(by repeat' (first|exact trivial|exact rfl|refine And.intro ?_ ?_))⟩
  |1,_=>
   (repeat (first|refine Spl.t rfl ?_|refine Spl.f rfl ?_))
   refine IdxP.of [.v (vf t.b)] (by decide) rfl ?_
   refine aR (li rfl rfl rfl a2) rfl ?_
   refine aa (itoa _ a2) (fun _ _=>rfl) rfl rfl rfl ?_
   refine Req.of ⟨rfl,Nat.le_of_ble_eq_true rfl⟩ ?_
   exact⟨2,by decide,by decide,(by repeat' (first|exact trivial|exact rfl|refine And.intro ?_ ?_)),(by repeat' (first|exact trivial|exact rfl|refine And.intro ?_ ?_))⟩
  |2,_=>
   (repeat (first|refine Spl.t rfl ?_|refine Spl.f rfl ?_))
   refine IdxP.of [.v (vf t.c)] (by decide) rfl ?_
   refine aR (li rfl rfl rfl a3) rfl ?_
   refine aa (itoa _ a3) (fun _ _=>rfl) rfl rfl rfl ?_
   refine Req.of ⟨rfl,Nat.le_of_ble_eq_true rfl⟩ ?_
   exact⟨3,by decide,by decide,(by repeat' (first|exact trivial|exact rfl|refine And.intro ?_ ?_)),(by repeat' (first|exact trivial|exact rfl|refine And.intro ?_ ?_))⟩
  |3,_=>
   (repeat (first|refine Spl.t rfl ?_|refine Spl.f rfl ?_))
   refine IdxP.of [.v (vf t.d)] (by decide) rfl ?_
   refine aR (li rfl rfl rfl a4) rfl ?_
   refine aa (itoa _ a4) (fun _ _=>rfl) rfl rfl rfl ?_
   refine Req.of ⟨rfl,Nat.le_of_ble_eq_true rfl⟩ ?_
   exact⟨4,by decide,by decide,(by repeat' (first|exact trivial|exact rfl|refine And.intro ?_ ?_)),(by repeat' (first|exact trivial|exact rfl|refine And.intro ?_ ?_))⟩
 ·have he:i=4:=by have:=of_decide_eq_false h;change ¬(i:Int)<4 at this;omega
  subst he
  (repeat (first|refine Spl.t rfl ?_|refine Spl.f rfl ?_))
  refine OpJ.shift (SJ.pubA 33 35 rfl rfl (Nat.le_of_ble_eq_true rfl) (by decide)) ?_
  refine aa (Fq (rL t) [32] (by simp[rL]) (by simp[rL]) ?_) (fun _ _=>rfl) rfl rfl rfl ?_
  ·have b1:=jy t.n (by omega)
   have b2:=jy t.a (by unfold sm at a1;omega)
   have b3:=jy t.b (by unfold sm at a2;omega)
   have b4:=jy t.c (by unfold sm at a3;omega)
   have b5:=jy t.d (by unfold sm at a4;omega)
   simp[rL,Lib.join,List.intercalate,List.intersperse]
   omega
  exact FinP.open rfl rfl
end Go.Proofs.E
namespace Go.Proofs.E
theorem Bd:Cv 204 [] (bv true):=by
 have h0:TL.zero.ok:=by unfold TL.ok;decide
 have hp:=Aw TL.zero ⟨3,2⟩ h0
 rw[if_pos (by decide),if_pos (by decide)]at hp
 refine ab Tryz.f204 Tryz.func204 rfl rfl fun w H B g0=>?_
 refine aa hp (fun _ _=>rfl) rfl rfl rfl ?_
 refine aa nb (fun _ _=>rfl) rfl rfl rfl ?_
 (repeat (first|refine Spl.t rfl ?_|refine Spl.f rfl ?_))
 refine aa (qf _ (by unfold TL.ok;decide)) (fun _ _=>rfl) rfl rfl rfl ?_
 (repeat (first|refine Spl.t rfl ?_|refine Spl.f rfl ?_))
 refine FinP.open rfl (congrArg bv ?_)
 decide+kernel
def TL.mul (k:Int)(x:ID):TL:=⟨k,k*x.c,k*x.s,k*(x.c*x.c-x.s*x.s),k*(x.c*x.s+x.s*x.c)⟩
theorem TL.mul_one (x:ID):TL.mul 1 x=TL.one x:=by simp[TL.mul,TL.one]
theorem TL.back (t:TL)(x:ID):(t.sub (TL.one x)).add (TL.one x)=t:=by
 simp only[TL.sub,TL.add,TL.one]
 cases t
 simp
end Go.Proofs.E
namespace Go.Proofs.E
def TL.sum:List ID→TL
 |[]=>TL.zero
 |x::l=>(TL.sum l).add (TL.one x)
theorem TL.add_comm (t u:TL):t.add u=u.add t:=by
 simp only[TL.add,TL.mk.injEq];omega
theorem TL.add_assoc (t u v:TL):(t.add u).add v=t.add (u.add v):=by
 simp only[TL.add,TL.mk.injEq];omega
theorem TL.zero_add (t:TL):TL.zero.add t=t:=by cases t;simp[TL.zero,TL.add]
theorem oZ:∀(l m:List ID),TL.sum (l++m)=(TL.sum l).add (TL.sum m)
 |[],m=>by rw[List.nil_append,TL.sum,TL.zero_add]
 |x::l,m=>by
  rw[List.cons_append,TL.sum,TL.sum,oZ l m,TL.add_assoc,TL.add_comm (TL.sum m),←TL.add_assoc]
theorem uP (x:ID):TL.sum [x]=TL.one x:=by rw[TL.sum,TL.sum,TL.zero_add]
theorem tg (l:List ID)(x:ID):TL.sum (l++[x])=(TL.sum l).add (TL.one x):=by rw[oZ,uP]
theorem oY:∀(l:List ID),(TL.sum l).n=l.length
 |[]=>rfl
 |x::l=>by rw[TL.sum];show(TL.sum l).n+1=_;rw[oY l];simp
theorem TL.sum_ok:∀(l:List ID),(∀x,x∈l→bp x=true)→l.length≤4096→(TL.sum l).ok
 |[],_,_=>by unfold TL.ok;decide
 |x::l,h,hl=>by
  have h1:=TL.sum_ok l (fun y hy=>h y (List.mem_cons_of_mem _ hy)) (by simp at hl;omega)
  refine qe h1 (yU (h x (by simp))) ?_
  rw[oY];simp at hl;show(l.length:Int)+1≤4096;omega
theorem CR (t:TL)(x:ID)(h:t.ok)(hm:bp x=true)(hn:t.n+1≤4096):Cv 247 [tlv t,idv x] (.tup [tlv (t.add (TL.one x)),iv 0]):=by
 have:=Aw t x h
 rw[if_pos hm,if_pos (by show t.n+1≤4096;exact hn)]at this
 exact this
end Go.Proofs.E
end
section
open Go Go.Gv
attribute [local irreducible] Go.Gv.WJ Go.Gv.OpJ Go.Gv.QJ Go.Gv.Spl Go.Gv.Req Go.Gv.IdxP Go.Gv.RegP Go.Gv.FinP Go.Gv.CellP Go.Gv.CellsP Go.Gv.ArrP Go.Gv.ArrsP Go.Gv.DropP Go.Gv.ByteP Go.Gv.StoreP
set_option maxRecDepth 100000
namespace Go.Proofs.E
abbrev rtv (t:TL):AV:=.agg [iv t.n,iv t.a,iv t.b,iv t.c,iv t.d]
theorem fh (n:Int)(h:n.natAbs<10^18):(Lib.itoa n).length≤19:=jy n h
theorem gU (n:Int)(h:n.natAbs<10^18):Cv 219 [iv n] (sv (Lib.itoa n)):=by
 have hw:IntKind.i64.wrap (0-n)=-n:=(congrArg _ (Int.zero_sub n)).trans (ah _ (by omega) (by omega))
 refine ab Tryz.f219 Tryz.func219 rfl rfl fun w H B g0=>?_
 refine Spl.of (fun h1=>?_) (fun h1=>?_)
 ·have h1:n<0:=of_decide_eq_true h1
  have hd:=fo (-n) (by omega) (by omega)
  have hl:=fh (-n) (by omega)
  have e:Lib.itoa n=45::Lib.itoa (-n):=by
   unfold Lib.itoa
   rw[if_pos h1,if_neg (by omega),show n.natAbs=(-n).toNat from by omega]
  rw[e]
  rw[←hw]at hd
  (repeat (first|refine Spl.t rfl ?_|refine Spl.f rfl ?_))
  refine aa hd (fun _ _=>rfl) rfl rfl rfl ?_
  (repeat (first|refine Spl.t rfl ?_|refine Spl.f rfl ?_))
  rw[hw]
  refine Req.of (by simp;omega) ?_
  exact FinP.open rfl rfl
 ·have h1:¬n<0:=of_decide_eq_false h1
  have hd:=fo n (by omega) (by omega)
  (repeat (first|refine Spl.t rfl ?_|refine Spl.f rfl ?_))
  refine aa hd (fun _ _=>rfl) rfl rfl rfl ?_
  exact FinP.open rfl rfl
theorem Ao (t:TL)(h:t.ok):Cv 183 [rtv t] (sv (jM t)):=by
 obtain⟨a1,a2,a3,a4⟩:=gY h
 have hn:=h.1
 have hn':=h.2.1
 unfold sm at a1 a2 a3 a4
 have l0:=fh t.n (by omega)
 have l1:=fh t.a (by omega)
 have l2:=fh t.b (by omega)
 have l3:=fh t.c (by omega)
 have l4:=fh t.d (by omega)
 have e:jM t=Lib.itoa t.n++[32]++Lib.itoa t.a++[32]++Lib.itoa t.b++[32]++Lib.itoa t.c++[32]++Lib.itoa t.d:=by simp[jM,Lib.join,List.intercalate]
 rw[e]
 have d0:=gU t.n (by omega)
 have d1:=gU t.a (by omega)
 have d2:=gU t.b (by omega)
 have d3:=gU t.c (by omega)
 have d4:=gU t.d (by omega)
 clear e
 generalize Lib.itoa t.n=x0 at l0 d0 ⊢
 generalize Lib.itoa t.a=x1 at l1 d1 ⊢
 generalize Lib.itoa t.b=x2 at l2 d2 ⊢
 generalize Lib.itoa t.c=x3 at l3 d3 ⊢
 generalize Lib.itoa t.d=x4 at l4 d4 ⊢
 refine ab Tryz.f183 Tryz.func183 rfl rfl fun w H B g0=>?_
 refine RegP.of rfl (by decide+kernel) ?_
 refine QuietP.of (QJ.call d0 (fun _ _=>rfl) rfl rfl) ?_
 refine Req.of (by simp;omega) ?_
 refine QuietP.of (QJ.call d1 (fun _ _=>rfl) rfl rfl) ?_
 refine Req.of (by simp;omega) ?_
 refine Req.of (by simp;omega) ?_
 refine QuietP.of (QJ.call d2 (fun _ _=>rfl) rfl rfl) ?_
 refine Req.of (by simp;omega) ?_
 refine Req.of (by simp;omega) ?_
 refine QuietP.of (QJ.call d3 (fun _ _=>rfl) rfl rfl) ?_
 refine Req.of (by simp;omega) ?_
 refine Req.of (by simp;omega) ?_
 refine QuietP.of (QJ.call d4 (fun _ _=>rfl) rfl rfl) ?_
 refine Req.of (by simp;omega) ?_
 exact FinP.open rfl rfl
theorem CE (t:TL)(x:ID)(h:t.ok)(hm:bp x=true)(hn:t.n+1≤4096):Cv 182 [rtv t,idv x] (.tup [rtv (t.add (TL.one x)),iv 0]):=by
 obtain⟨a1,a2,a3,a4⟩:=bj hm
 obtain⟨h1,h2,h3,h4⟩:=qJ hm
 obtain⟨b1,b2,b3,b4⟩:=gY h
 unfold sm at b1 b2 b3 b4
 have hn0:=h.1
 refine ab Tryz.f182 Tryz.func182 rfl rfl fun w H B g0=>?_
 refine aa (tE x) (fun _ _=>rfl) rfl rfl rfl ?_
 (repeat (first|refine Spl.t rfl ?_|refine Spl.f rfl ?_))
 refine Spl.f (by rw[hm];rfl) ?_
 (repeat (first|refine Spl.t rfl ?_|refine Spl.f rfl ?_))
 refine Spl.f (decide_eq_false (by omega)) ?_
 (repeat (first|refine Spl.t rfl ?_|refine Spl.f rfl ?_))
 refine RegP.of rfl (by decide+kernel) ?_
 (repeat (first|refine Spl.t rfl ?_|refine Spl.f rfl ?_))
 refine FinP.open rfl ?_
 have hcc:IntKind.i64.wrap (x.c*x.c)=x.c*x.c:=ah _ (by omega) (by omega)
 have hss:IntKind.i64.wrap (x.s*x.s)=x.s*x.s:=ah _ (by omega) (by omega)
 have h2c:IntKind.i64.wrap (2*x.c)=2*x.c:=ah _ (by omega) (by omega)
 have e3:2*x.c*x.s=x.c*x.s+x.s*x.c:=by rw[Int.mul_comm x.s x.c,Int.mul_assoc];omega
 have hcs:IntKind.i64.wrap (2*x.c*x.s)=x.c*x.s+x.s*x.c:=by rw[e3];exact ah _ (by omega) (by omega)
 show AV.tup [.agg [iv (IntKind.i64.wrap (t.n+1)),iv (IntKind.i64.wrap (t.a+x.c)),iv (IntKind.i64.wrap (t.b+x.s)),iv (IntKind.i64.wrap (IntKind.i64.wrap (t.c+IntKind.i64.wrap (x.c*x.c))-IntKind.i64.wrap (x.s*x.s))),iv (IntKind.i64.wrap (t.d+IntKind.i64.wrap (IntKind.i64.wrap (2*x.c)*x.s)))],iv 0]=_
 rw[hcc,hss,h2c,hcs,ah (t.n+1) (by omega) (by omega),ah (t.a+x.c) (by omega) (by omega),ah (t.b+x.s) (by omega) (by omega),ah (t.c+x.c*x.c) (by omega) (by omega),ah (t.c+x.c*x.c-x.s*x.s) (by omega) (by omega),ah (t.d+_) (by omega) (by omega)]
 have e4:t.c+x.c*x.c-x.s*x.s=t.c+(x.c*x.c-x.s*x.s):=by omega
 rw[e4];rfl
end Go.Proofs.E
namespace Go.Proofs.E
attribute [local irreducible] elems
def dU (L:List EL):Nat:=(L.filter fun e=>e.dead).length
theorem Dn.rowlen:∀{l:List OP},Dn l→l.length=(aj l).length+dU (aj l):=by
 intro l h
 induction h with
 |nil=>rfl
 |@snoc l o h hw ih=>
  obtain⟨_,h1⟩:=cE hw
  rcases h1 with⟨hk,_⟩|⟨hk,_⟩
  ·obtain⟨n,ch,_,hg,_,hr,_⟩:=mN h hw hk
   have hn:=(List.getElem?_eq_some_iff.1 hg).1
   have e1:=(List.take_append_drop n (aj l)).symm
   have e2:(aj l).drop n=⟨o.i,ch,false⟩::(aj l).drop (n+1):=by
    rw[List.drop_eq_getElem_cons hn]
    rw[(List.getElem?_eq_some_iff.1 hg).2]
   have e3:(aj l).set n ⟨o.i,ch,true⟩=(aj l).take n++⟨o.i,ch,true⟩::(aj l).drop (n+1):=List.set_eq_take_append_cons_drop .. |>.trans (if_pos hn)
   have h2:dU (aj l)=dU ((aj l).take n)+dU ((aj l).drop (n+1)):=by
    conv=>lhs;rw[e1,e2]
    unfold dU
    rw[List.filter_append,List.length_append,List.filter_cons];simp
   have h3:dU ((aj l).set n ⟨o.i,ch,true⟩)=dU ((aj l).take n)+(dU ((aj l).drop (n+1))+1):=by
    rw[e3]
    unfold dU
    rw[List.filter_append,List.length_append,List.filter_cons];simp
   rw[hr,h3,List.length_set,List.length_append,ih,h2];simp;omega
  ·rw[qs h hw hk]
   have h2:dU (aj l)=dU ((aj l).take (dh l o))+dU ((aj l).drop (dh l o)):=by
    unfold dU
    rw[←List.length_append,←List.filter_append,List.take_append_drop]
   have h3:dU ((aj l).take (dh l o)++⟨o.i,o.ch,false⟩::(aj l).drop (dh l o))=dU ((aj l).take (dh l o))+dU ((aj l).drop (dh l o)):=by
    unfold dU
    rw[List.filter_append,List.length_append,List.filter_cons];simp
   have hp:=kC h hw hk
   rw[h3,←h2,List.length_append,ih];simp;omega
theorem Dn.len2 {l:List OP}(h:Dn l):l.length≤8192:=by
 have h1:=h.rowlen
 have h2:dU (aj l)≤(aj l).length:=List.length_filter_le _ _
 have h3:=jq h
 have h4:=h.is.len
 omega
theorem yl:∀(X:List OP)(n:Int),let m:=X.foldl (fun n o=>if o.i.c>n then o.i.c else n) n
 n≤m∧(∀x,x∈X→x.i.c≤m)∧(m=n∨∃x,x∈X∧m=x.i.c)
 |[],n=>⟨by simp,by simp,.inl rfl⟩
 |o::r,n=>by
  have h:=yl r (if o.i.c>n then o.i.c else n)
  simp only[List.foldl_cons]at h ⊢
  generalize List.foldl (fun n o=>if o.i.c>n then o.i.c else n) (if o.i.c>n then o.i.c else n) r=m at h ⊢
  obtain⟨h1,h2,h3⟩:=h
  refine⟨by split at h1<;>omega,fun x hx=>?_,?_⟩
  ·rcases List.mem_cons.1 hx with rfl|hx
   ·split at h1<;>omega
   ·exact h2 x hx
  ·rcases h3 with h3|⟨x,hx,h3⟩
   ·split at h3
    ·exact .inr ⟨o,by simp,h3⟩
    ·exact .inl h3
   ·exact .inr ⟨x,by simp[hx],h3⟩
theorem nj (X:List OP):0≤ei X:=(yl X 0).1
theorem tN {X:List OP}{x:OP}(h:x∈X):x.i.c≤ei X:=(yl X 0).2.1 x h
theorem tM (X:List OP):ei X=0∨∃x,x∈X∧ei X=x.i.c:=(yl X 0).2.2
theorem Bl (X:List OP)(n:Int)(h:0≤n):X.foldl (fun n o=>if o.i.c>n then o.i.c else n) n=if ei X≤n then n else ei X:=by
 obtain⟨a1,a2,a3⟩:=yl X n
 generalize X.foldl (fun n o=>if o.i.c>n then o.i.c else n) n=m at a1 a2 a3 ⊢
 have b3:=tM X
 have b0:=nj X
 rcases a3 with a3|⟨x,hx,a3⟩
 ·rcases b3 with b3|⟨y,hy,b3⟩
  ·split<;>omega
  ·have:=a2 y hy
   split<;>omega
 ·have:=tN hx
  rcases b3 with b3|⟨y,hy,b3⟩
  ·split<;>omega
  ·have:=a2 y hy
   split<;>omega
theorem d8 {o:OP}(h:aL o=0):bp o.i=true:=by
 unfold aL at h
 split at h
 ·cases h
 ·split at h
  ·cases h
  ·split at h
   ·cases h
   ·next h3=>
    cases e:bp o.i with
    |true=>rfl
    |false=>exact absurd (.inl e) h3
theorem qo {X:List OP}(h:∀o,o∈X→aL o=0):ei X≤1048576:=by
 rcases tM X with h1|⟨x,hx,h1⟩
 ·omega
 ·have:=(bj (d8 (h x hx))).2.1
  omega
theorem mP {l:List OP}(h:Dn l):∀o,o∈aZ l→aL o=0:=fun o ho=>h.is.ok o (bC.1 ho).1
theorem BQ:∀{M:List IE},upM M→∀x,x∈M→x.1=fX M∨bf x.1 (fX M)=true:=by
 intro M h x hx
 unfold fX
 cases hl:M.getLast? with
 |none=>rw[List.getLast?_eq_none_iff.1 hl]at hx;simp at hx
 |some y=>
  simp only
  obtain⟨r,hr⟩:=List.getLast?_eq_some_iff.1 hl
  subst hr
  rcases List.mem_append.1 hx with hx|hx
  ·exact .inr ((List.pairwise_append.1 h).2.2 x hx y (by simp))
  ·left;rw[List.mem_singleton.1 hx]
theorem zc {l:List OP}(h:Dn l){M:List IE}(hu:upM M)(ha:∀a,aO a M=dG l a):(fX M).c=ei (aZ l):=by
 have up:∀x,x∈M→x.1.c≤ei (aZ l):=fun x hx=>by
  have h1:=qc hu hx
  rw[ha]at h1
  unfold dG at h1
  cases hf:az 0 x.1 l with
  |none=>rw[hf]at h1;cases h1
  |some o=>
   obtain⟨h2,h3,h4⟩:=bM hf
   rw[←h4]
   exact tN (bC.2 ⟨h2,h3⟩)
 have dn:∀o,o∈aZ l→o.i.c≤(fX M).c:=fun o ho=>by
  have hf:=mq h ho
  have h1:=ha o.i
  unfold dG at h1
  rw[hf]at h1
  obtain⟨j,h2,_⟩:=eI h1
  have h3:=BQ hu _ (List.mem_of_getElem? h2)
  rcases h3 with h3|h3
  ·rw[←h3];exact Int.le_refl _
  ·unfold bf at h3
   simp only[Bool.or_eq_true,Bool.and_eq_true,decide_eq_true_eq]at h3
   omega
 have h0:=tM (aZ l)
 cases hl:M.getLast? with
 |none=>
  have e:fX M=⟨0,0⟩:=by unfold fX;rw[hl]
  have hM:M=[]:=List.getLast?_eq_none_iff.1 hl
  rw[e]
  rcases h0 with h0|⟨o,ho,h0⟩
  ·exact h0.symm
  ·have:=ha o.i
   rw[hM]at this
   unfold dG at this
   rw[mq h ho]at this;cases this
 |some y=>
  have e:fX M=y.1:=by unfold fX;rw[hl]
  have hy:y∈M:=List.mem_of_getLast? hl
  have h1:=up y hy
  rcases h0 with h0|⟨o,ho,h0⟩
  ·have h2:aO y.1 M=some y.2:=qc hu hy
   rw[ha]at h2
   unfold dG at h2
   cases hf:az 0 y.1 l with
   |none=>rw[hf]at h2;cases h2
   |some o=>
    obtain⟨h3,h4,h5⟩:=bM hf
    have h6:=(bj (d8 (h.is.ok o h3))).1
    have h7:=tN (bC.2 ⟨h3,h4⟩)
    rw[h0]at h7;omega
  ·have:=dn o ho
   rw[e]at this ⊢;omega
def bh (l:List OP):TL:=TL.sum ((aZ l).map fun o=>o.i)
abbrev vcs (s:SS)(l R:List OP):List AV:=[.d s.t.d,.d s.p.d,iv s.n,.d (.sl 6 (R.map opD)),iv (l.length:Nat),iv (bh l).n,cx (bh l).a (bh l).b,cx (bh l).c (bh l).d]
abbrev vv (s:SS)(l R:List OP):AV:=.agg (vcs s l R)
abbrev rvv (l R:List OP):AV:=.agg [.d (.sl 6 (l.map opD)),.d (.sl 6 (R.map opD))]
theorem sum_ok {l:List OP}(h:Dn l):(bh l).ok:=TL.sum_ok _ (fun x hx=>by
 obtain⟨o,ho,rfl⟩:=List.mem_map.1 hx
 exact d8 (mP h o ho)) (by rw[List.length_map];exact h.is.len)
theorem v7 {s:SS}{l:List OP}(h:isS s l)(R:List OP):Cv 116 [vv s l R] (sv (byt (cO (aj l)))):=by
 have ht:=uO s.t (by have:=h.small;omega) (by rw[h.els];exact uh h.dn)
 rw[h.els]at ht
 refine ab Tryz.f116 Tryz.func116 rfl rfl fun w H B g0=>?_
 refine aa ht (fun _ _=>rfl) rfl rfl rfl ?_
 exact FinP.open rfl rfl
theorem rb {s:SS}{l:List OP}(h:isS s l)(R:List OP):Cv 197 [vv s l R] (iv (aW (aj l))):=by
 have ht:=tj s.t
 rw[nT,h.els]at ht
 refine ab Tryz.f197 Tryz.func197 rfl rfl fun w H B g0=>?_
 refine aa ht (fun _ _=>rfl) rfl rfl rfl ?_
 exact FinP.open rfl rfl
theorem q9 (s:SS)(l R:List OP):Cv 206 [vv s l R] (iv (l.length:Nat)):=by
 refine ab Tryz.f206 Tryz.func206 rfl rfl fun w H B g0=>?_
 exact FinP.open rfl rfl
theorem Ae (s:SS)(l R:List OP):Cv 117 [vv s l R] (tlv (bh l)):=by
 refine ab Tryz.f117 Tryz.func117 rfl rfl fun w H B g0=>?_
 exact FinP.open rfl rfl
def cH (L:List EL)(k:Int):ID:=if 0≤k∧k<aW L then((L[cw k.toNat L]?).getD EL0).id else⟨0,0⟩
theorem oX {s:SS}{l:List OP}(h:isS s l)(R:List OP)(k:Int):Cv 200 [vv s l R,iv k] (.tup [idv (cH (aj l) k),bv (decide (0≤k∧k<aW (aj l)))]):=by
 have hs:=h.small
 have ht:=tn s.t k (by omega)
 unfold pA at ht
 have hlv:s.t.live=aW (aj l):=by rw[nT,h.els]
 rw[hlv]at ht
 by_cases hk:0≤k∧k<aW (aj l)
 ·have hlt:=ly (aj l) k.toNat (by omega)
  have e1:tS s.t k=cw k.toNat (aj l):=by unfold tS;rw[hlv,if_pos hk,h.els]
  rw[e1]at ht
  have hat:=C7 s.t (cw k.toNat (aj l):Nat) (by omega)
  have hx:(aj l)[cw k.toNat (aj l)]?=some (aj l)[cw k.toNat (aj l)]:=by simp
  rw[m5 h,hx]at hat
  have e2:cH (aj l) k=(aj l)[cw k.toNat (aj l)].id:=by unfold cH;rw[if_pos hk,hx];rfl
  rw[e2]
  rw[decide_eq_true hk]at ht ⊢
  generalize(aj l)[cw k.toNat (aj l)]=e at hat ⊢
  generalize cw k.toNat (aj l)=n at ht hat
  refine ab Tryz.f200 Tryz.func200 rfl rfl fun w H B g0=>?_
  refine aa ht (fun _ _=>rfl) rfl rfl rfl ?_
  (repeat (first|refine Spl.t rfl ?_|refine Spl.f rfl ?_))
  refine aa hat (fun _ _=>rfl) rfl rfl rfl ?_
  exact FinP.open rfl rfl
 ·rw[decide_eq_false hk]at ht ⊢
  have e2:cH (aj l) k=⟨0,0⟩:=by unfold cH;rw[if_neg hk]
  rw[e2]
  refine ab Tryz.f200 Tryz.func200 rfl rfl fun w H B g0=>?_
  refine aa ht (fun _ _=>rfl) rfl rfl rfl ?_
  (repeat (first|refine Spl.t rfl ?_|refine Spl.f rfl ?_))
  exact FinP.open rfl rfl
def jE (L:List EL)(a:ID):Int:=if 0≤ay a L then bx L (ay a L)else 0
theorem xM {s:SS}{l:List OP}(h:isS s l)(R:List OP)(a:ID):Cv 203 [vv s l R,idv a] (.tup [iv (jE (aj l) a),bv (decide (0≤ay a (aj l)))]):=by
 have hs:=h.small
 have hf:=u2 h a
 have hlt:=lE a (aj l)
 have hlen:(aj l).length≤4096:=by rw[jq h.dn];exact h.dn.is.len
 by_cases hp:0≤ay a (aj l)
 ·have hr:=uS s.t (ay a (aj l)) (by omega) (by omega) (by omega)
  rw[h.els]at hr
  have e:jE (aj l) a=bx (aj l) (ay a (aj l)):=by unfold jE;rw[if_pos hp]
  rw[decide_eq_true hp]at hf ⊢
  rw[e]
  refine ab Tryz.f203 Tryz.func203 rfl rfl fun w H B g0=>?_
  refine aa hf (fun _ _=>rfl) rfl rfl rfl ?_
  (repeat (first|refine Spl.t rfl ?_|refine Spl.f rfl ?_))
  refine aa hr (fun _ _=>rfl) rfl rfl rfl ?_
  exact FinP.open rfl rfl
 ·have e:jE (aj l) a=0:=by unfold jE;rw[if_neg hp]
  rw[decide_eq_false hp]at hf ⊢
  rw[e]
  refine ab Tryz.f203 Tryz.func203 rfl rfl fun w H B g0=>?_
  refine aa hf (fun _ _=>rfl) rfl rfl rfl ?_
  (repeat (first|refine Spl.t rfl ?_|refine Spl.f rfl ?_))
  exact FinP.open rfl rfl
end Go.Proofs.E
end
section
namespace Go.Gv
open Go.RowKit
section
variable {X:Cx} {ty:TypeId} {pos:String} {aft:Array Edge} {g:Option (Nat×Bool)} {t:T} {σ:Sg} {K:T→Sg→Prop}
theorem AP (i:Nat){d:Nat}{e:TypeId}{z:Value}(hz:dV X.P e=some z)(h1:cz (bo z)=true)(hf:am i t σ X.pin=true)
 (hc:(aE (bo z)).any (aP i)=false)(hN:dOk (some d) X.N=true)(k:K ((d,.box i 0)::t) ((i,.cells (aE (bo z)))::σ)):OpJ X ⟨some d,.alloc e,ty,pos,aft,g⟩ t σ K:=by
 intro γ H a w s next Q' hk
 obtain⟨us,hu,hl,hr⟩:=cQ (bQ γ H z) h1
 have hz:=fun w=>bL hz (w:=w)
 have hrun:(execOp a.eval ⟨some d,.alloc e,ty,pos,aft,g⟩).run X.P w=.ok (.value (.pointer (some ⟨w.heap.size,0,none⟩))) (w.alloc (.cells us.toArray e)):=by
  simp[execOp,Instr.alloc,newVar,newRow,hu,hz]
 rw[aG (by simp),hrun,Oper.uponIn_value]
 exact hk _ H _ _ _ _ (nL s hf hN hl hr hc) k
end
end Go.Gv
end
section
open Go Go.Gv
attribute [local irreducible] Go.Gv.WJ Go.Gv.OpJ Go.Gv.QJ Go.Gv.Spl Go.Gv.Req Go.Gv.IdxP Go.Gv.RegP Go.Gv.FinP Go.Gv.CellP Go.Gv.CellsP Go.Gv.ArrP Go.Gv.ArrsP Go.Gv.DropP Go.Gv.ByteP Go.Gv.StoreP
set_option maxRecDepth 100000
namespace Go.Proofs.E
attribute [local irreducible] elems
def fw:Int→List EL→Nat
 |_,[]=>0
 |n,e::L=>if e.dead=true then fw n L+1 else if n=0 then 0 else fw (IntKind.i64.wrap (n-1)) L+1
theorem mM:∀(L:List EL)(n:Nat),n≤9223372036854775807→fw n L=if n<aW L then cw n L else L.length
 |[],n,_=>by rw[fw,if_neg (by simp[aW])];rfl
 |e::L,n,hn=>by
  rw[fw,gN,cw]
  cases hd:e.dead with
  |true=>
   have h1:TR.one e=0:=by unfold TR.one;rw[hd]
   rw[if_pos rfl,if_pos rfl,mM L n hn,h1]
   by_cases h:n<aW L
   ·rw[if_pos h,if_pos (by omega)]
   ·rw[if_neg h,if_neg (by omega)];rfl
  |false=>
   have h1:TR.one e=1:=by unfold TR.one;rw[hd]
   simp only[Bool.false_eq_true,if_false]
   rw[h1]
   by_cases h0:n=0
   ·subst h0
    rw[if_pos (by rfl),if_pos (by omega),if_pos rfl]
   ·rw[if_neg (by omega),if_neg h0,ah _ (by omega) (by omega),show(n:Int)-1=((n-1:Nat):Int)by omega,mM L (n-1) (by omega)]
    by_cases h:n-1<aW L
    ·rw[if_pos h,if_pos (by omega)]
    ·rw[if_neg h,if_neg (by omega)];rfl
theorem qq:∀(L:List EL)(n:Int),fw n L≤L.length
 |[],n=>by rw[fw];exact Nat.zero_le _
 |e::L,n=>by
  rw[fw,List.length_cons]
  split
  ·have:=qq L n;omega
  ·split
   ·omega
   ·have:=qq L (IntKind.i64.wrap (n-1));omega
theorem qj (L:List EL)(k:Int)(hL:L.length≤1000000):Cv 178 [.d (.sl 4 (L.map elD)),iv k] (iv (fw k L)):=by
 refine ab Tryz.f178 Tryz.func178 rfl rfl fun w H B g0=>?_
 refine ax (V:=Nat×Int) (fun v=>[(5,iv v.1),(1,iv v.2)]) (fun _=>[]) [] (fun v=>L.length-v.1) (fun v=>v.1≤L.length∧fw k L=v.1+fw v.2 (L.drop v.1)) (0,k) ⟨by simp,by simp⟩ (by repeat' (first|exact trivial|exact rfl|refine And.intro ?_ ?_)) (by repeat' (first|exact trivial|exact rfl|refine And.intro ?_ ?_)) ?_
 rintro⟨i,n⟩ ⟨hi,he⟩
 simp only at hi he
 refine Spl.of (fun h1=>?_) (fun h1=>?_)
 ·have hlt:i<L.length:=by have:=of_decide_eq_true h1;simp at this;omega
  have hx:L[i]?=some L[i]:=by simp
  have hdr:L.drop i=L[i]::L.drop (i+1):=List.drop_eq_getElem_cons hlt
  rw[hdr,fw]at he
  generalize L[i]=e at hx he
  (repeat (first|refine Spl.t rfl ?_|refine Spl.f rfl ?_))
  refine IdxP.of (elD e) (by omega) (by simp[hx]) ?_
  refine Spl.of (fun h2=>?_) (fun h2=>?_)
  ·rw[if_pos h2]at he
   (repeat (first|refine Spl.t rfl ?_|refine Spl.f rfl ?_))
   exact⟨(i+1,n),⟨by simp only;omega,by simp only;omega⟩,by simp only;omega,⟨ao (ah _ (by omega) (by omega)),rfl,trivial⟩,(by repeat' (first|exact trivial|exact rfl|refine And.intro ?_ ?_)),(by repeat' (first|exact trivial|exact rfl|refine And.intro ?_ ?_)),(by repeat' (first|exact trivial|exact rfl|refine And.intro ?_ ?_))⟩
  ·have h2:¬e.dead=true:=by simpa using h2
   rw[if_neg h2]at he
   (repeat (first|refine Spl.t rfl ?_|refine Spl.f rfl ?_))
   refine Spl.of (fun h3=>?_) (fun h3=>?_)
   ·rw[if_pos (of_decide_eq_true h3)]at he
    (repeat (first|refine Spl.t rfl ?_|refine Spl.f rfl ?_))
    exact FinP.open rfl (congrArg iv (by rw[he];omega))
   ·rw[if_neg (of_decide_eq_false h3)]at he
    (repeat (first|refine Spl.t rfl ?_|refine Spl.f rfl ?_))
    exact⟨(i+1,IntKind.i64.wrap (n-1)),⟨by simp only;omega,by simp only;omega⟩,by simp only;omega,⟨ao (ah _ (by omega) (by omega)),rfl,trivial⟩,(by repeat' (first|exact trivial|exact rfl|refine And.intro ?_ ?_)),(by repeat' (first|exact trivial|exact rfl|refine And.intro ?_ ?_)),(by repeat' (first|exact trivial|exact rfl|refine And.intro ?_ ?_))⟩
 ·have h1:=of_decide_eq_false h1
  simp at h1
  (repeat (first|refine Spl.t rfl ?_|refine Spl.f rfl ?_))
  rw[List.drop_eq_nil_of_le (by omega),fw]at he
  exact FinP.open rfl (congrArg iv (by rw[he,List.length_map];omega))
theorem dO {l:List OP}(h:Dn l)(R:List OP):Cv 138 [rvv l R] (.d (.sl 4 ((aj l).map elD))):=by
 have hl:=h.len2
 refine ab Tryz.f138 Tryz.func138 rfl rfl fun w H B g0=>?_
 refine aa (Fo h (by omega)) (fun _ _=>rfl) rfl rfl rfl ?_
 exact FinP.open rfl rfl
theorem hU {l:List OP}(h:Dn l):(aj l).length≤4096:=by rw[jq h];exact h.is.len
theorem Am {l:List OP}(h:Dn l)(R:List OP):Cv 123 [rvv l R] (sv (byt (cO (aj l)))):=by
 have hl:=hU h
 refine ab Tryz.f123 Tryz.func123 rfl rfl fun w H B g0=>?_
 refine aa (dO h R) (fun _ _=>rfl) rfl rfl rfl ?_
 (repeat (first|refine Spl.t rfl ?_|refine Spl.f rfl ?_))
 refine aa (An (aj l) (by omega) (uh h)) (fun _ _=>rfl) rfl rfl rfl ?_
 exact FinP.open rfl rfl
theorem ts {l:List OP}(h:Dn l)(R:List OP)(k:Int)(h1:k≤9223372036854775807):Cv 171 [rvv l R,iv k] (idv (cH (aj l) k)):=by
 have hl:=hU h
 have hsel:=qj (aj l) k (by omega)
 have hle:=qq (aj l) k
 have hlt:=ly (aj l) k.toNat
 have hli:dO h R=dO h R:=rfl
 have hlist:=dO h R
 have hname:cH (aj l) k=if 0≤k∧k<aW (aj l)then(((aj l)[cw k.toNat (aj l)]?).getD EL0).id else⟨0,0⟩:=rfl
 have hrs:0≤k→fw k (aj l)=if k.toNat<aW (aj l)then cw k.toNat (aj l)else(aj l).length:=fun h0=>by
  have:=mM (aj l) k.toNat (by omega)
  rw[Int.toNat_of_nonneg h0]at this;exact this
 generalize aj l=L at hl hsel hle hlt hlist hname hrs ⊢
 generalize fw k L=m at hsel hle hrs
 rw[hname]
 refine ab Tryz.f171 Tryz.func171 rfl rfl fun w H B g0=>?_
 refine aa hlist (fun _ _=>rfl) rfl rfl rfl ?_
 (repeat (first|refine Spl.t rfl ?_|refine Spl.f rfl ?_))
 refine aa hsel (fun _ _=>rfl) rfl rfl rfl ?_
 (repeat (first|refine Spl.t rfl ?_|refine Spl.f rfl ?_))
 refine Spl.of (fun h2=>?_) (fun h2=>?_)
 ·have h2:k<0:=of_decide_eq_true h2
  rw[if_neg (by omega)]
  (repeat (first|refine Spl.t rfl ?_|refine Spl.f rfl ?_))
  exact FinP.open rfl rfl
 ·have h2:¬k<0:=of_decide_eq_false h2
  have hm:=hrs (by omega)
  (repeat (first|refine Spl.t rfl ?_|refine Spl.f rfl ?_))
  refine Spl.of (fun h3=>?_) (fun h3=>?_)
  ·have h3:=of_decide_eq_true h3
   simp at h3
   rw[if_neg (fun⟨_,h5⟩=>by rw[if_pos (by omega)]at hm;have:=hlt (by omega);omega)]
   (repeat (first|refine Spl.t rfl ?_|refine Spl.f rfl ?_))
   exact FinP.open rfl rfl
  ·have h3:=of_decide_eq_false h3
   simp at h3
   have h5:k.toNat<aW L:=by
    apply Classical.byContradiction
    intro h6
    rw[if_neg h6]at hm;omega
   rw[if_pos h5]at hm
   have h6:=hlt h5
   rw[←hm]at h6
   have hx:L[m]?=some L[m]:=by simp
   rw[if_pos (by omega),←hm,hx]
   generalize L[m]=e at hx
   (repeat (first|refine Spl.t rfl ?_|refine Spl.f rfl ?_))
   refine IdxP.of (elD e) (by omega) (by simp[hx]) ?_
   exact FinP.open rfl rfl
def oK (l R:List OP):Int:=(if ei R>ei (aZ l)then ei R else ei (aZ l))+1
theorem uN {s:SS}{l:List OP}(h:isS s l){R:List OP}(hR:R.length≤1000000)(hok:∀o,o∈R→aL o=0):Cv 199 [vv s l R] (iv (oK l R)):=by
 obtain⟨M,h1,h2,_⟩:=h.mp
 have hlast:=tF h1
 have hc:=zc h.dn h1.up h2
 have ht:=qo (mP h.dn)
 have htr:=qo hok
 have h0:=nj (aZ l)
 have h00:=nj R
 unfold oK
 rw[←hc]at ht h0 ⊢
 have htop:=Dw R hR
 generalize fX M=la at hlast ht h0 ⊢
 generalize ei R=tr at htop htr h00 ⊢
 refine ab Tryz.f199 Tryz.func199 rfl rfl fun w H B g0=>?_
 refine RegP.of rfl (by decide+kernel) ?_
 refine QuietP.of (QJ.call hlast (fun _ _=>rfl) rfl rfl) ?_
 refine QuietP.of (QJ.call htop (fun _ _=>rfl) rfl rfl) ?_
 exact FinP.open rfl (congrArg iv (ah _ (by split<;>omega) (by split<;>omega)))
theorem zM {l:List OP}{i:Nat}{x:OP}(h:l[i]?=some x)(n:Int):(aZ (l.take (i+1))).foldl (fun n o=>if o.i.c>n then o.i.c else n) n=if x.k=0∧x.i.c>(aZ (l.take i)).foldl (fun n o=>if o.i.c>n then o.i.c else n) n then x.i.c else(aZ (l.take i)).foldl (fun n o=>if o.i.c>n then o.i.c else n) n:=by
 rw[bJ h]
 by_cases hk:x.k=0
 ·rw[b7 hk,List.foldl_append]
  by_cases h2:x.i.c>(aZ (l.take i)).foldl (fun n o=>if o.i.c>n then o.i.c else n) n
  ·rw[if_pos ⟨hk,h2⟩];exact if_pos h2
  ·rw[if_neg (fun h=>h2 h.2)];exact if_neg h2
 ·rw[cJ hk,if_neg (fun h=>hk h.1)]
def uI (l R:List OP)(i:Nat):Int:=(aZ (l.take i)).foldl (fun n o=>if o.i.c>n then o.i.c else n) (ei R)
theorem uU {l R:List OP}(h:Dn l)(hR:R.length≤1000000)(hok:∀o,o∈R→aL o=0):Cv 170 [rvv l R] (iv (oK l R)):=by
 have hl:=h.len2
 have ht:=qo (mP h)
 have htr:=qo hok
 have h0:=nj (aZ l)
 have h00:=nj R
 have htop:=E9 R hR
 have hall:oK l R=IntKind.i64.wrap (uI l R l.length+1):=by
  unfold uI oK
  rw[List.take_length,Bl _ _ h00,ah _ (by split<;>omega) (by split<;>omega)]
  split<;>split<;>omega
 have hz:uI l R 0=ei R:=rfl
 rw[hall]
 refine ab Tryz.f170 Tryz.func170 rfl rfl fun w H B g0=>?_
 refine aa htop (fun _ _=>rfl) rfl rfl rfl ?_
 refine ax (V:=Nat) (fun i=>[(4,iv i),(3,iv (uI l R i))]) (fun _=>[]) [] (fun i=>l.length-i) (fun i=>i≤l.length) 0 (by omega) (by repeat' (first|exact trivial|exact rfl|refine And.intro ?_ ?_)) (by repeat' (first|exact trivial|exact rfl|refine And.intro ?_ ?_)) ?_
 intro i hi
 refine Spl.of (fun h1=>?_) (fun h1=>?_)
 ·have hlt:i<l.length:=by have:=of_decide_eq_true h1;simp at this;omega
  have hx:l[i]?=some l[i]:=by simp
  have hsn:uI l R (i+1)=if l[i].k=0∧l[i].i.c>uI l R i then l[i].i.c else uI l R i:=zM hx (ei R)
  generalize l[i]=x at hx hsn
  (repeat (first|refine Spl.t rfl ?_|refine Spl.f rfl ?_))
  refine IdxP.of (opD x) (by omega) (by simp[hx]) ?_
  refine Spl.of (fun h2=>?_) (fun h2=>?_)
  ·have h2:x.k=0:=of_decide_eq_true h2
   (repeat (first|refine Spl.t rfl ?_|refine Spl.f rfl ?_))
   refine IdxP.of (opD x) (by omega) (by simp[hx]) ?_
   (repeat (first|refine Spl.t rfl ?_|refine Spl.f rfl ?_))
   refine Spl.of (fun h3=>?_) (fun h3=>?_)
   ·have h3:=of_decide_eq_true h3
    rw[if_pos ⟨h2,h3⟩]at hsn
    (repeat (first|refine Spl.t rfl ?_|refine Spl.f rfl ?_))
    refine IdxP.of (opD x) (by omega) (by simp[hx]) ?_
    (repeat (first|refine Spl.t rfl ?_|refine Spl.f rfl ?_))
    exact⟨i+1,by omega,by omega,⟨ao (ah _ (by omega) (by omega)),ao hsn.symm,trivial⟩,(by repeat' (first|exact trivial|exact rfl|refine And.intro ?_ ?_)),(by repeat' (first|exact trivial|exact rfl|refine And.intro ?_ ?_)),(by repeat' (first|exact trivial|exact rfl|refine And.intro ?_ ?_))⟩
   ·have h3:=of_decide_eq_false h3
    rw[if_neg (fun h=>h3 h.2)]at hsn
    (repeat (first|refine Spl.t rfl ?_|refine Spl.f rfl ?_))
    exact⟨i+1,by omega,by omega,⟨ao (ah _ (by omega) (by omega)),ao hsn.symm,trivial⟩,(by repeat' (first|exact trivial|exact rfl|refine And.intro ?_ ?_)),(by repeat' (first|exact trivial|exact rfl|refine And.intro ?_ ?_)),(by repeat' (first|exact trivial|exact rfl|refine And.intro ?_ ?_))⟩
  ·have h2:=of_decide_eq_false h2
   rw[if_neg (fun h=>h2 h.1)]at hsn
   (repeat (first|refine Spl.t rfl ?_|refine Spl.f rfl ?_))
   exact⟨i+1,by omega,by omega,⟨ao (ah _ (by omega) (by omega)),ao hsn.symm,trivial⟩,(by repeat' (first|exact trivial|exact rfl|refine And.intro ?_ ?_)),(by repeat' (first|exact trivial|exact rfl|refine And.intro ?_ ?_)),(by repeat' (first|exact trivial|exact rfl|refine And.intro ?_ ?_))⟩
 ·have h1:=of_decide_eq_false h1
  simp at h1
  have:i=l.length:=by omega
  subst this
  (repeat (first|refine Spl.t rfl ?_|refine Spl.f rfl ?_))
  exact FinP.open rfl rfl
structure CH where
 seq:Int
 at_:Int
 id:ID
 ch:Int
 del:Bool
 deriving DecidableEq
abbrev chD (c:CH):List D:=[.v (.int .i64 c.seq),.v (.int .i64 c.at_),.v (.int .i64 c.id.c),.v (.int .i64 c.id.s),.v (.int .i32 c.ch),.v (.bool c.del)]
abbrev chv (c:CH):AV:=.agg [iv c.seq,iv c.at_,iv c.id.c,iv c.id.s,cv' c.ch,bv c.del]
def chO (l:List OP)(o:OP):CH:=⟨((l++[o]).length:Nat),bx (aj (l++[o])) (atO l o),o.i,((aj (l++[o]))[(atO l o).toNat]?.getD EL0).ch,decide (o.k=1)⟩
theorem zY {l:List OP}(h:Dn l){o:OP}(hw:aw l o=0):∃(n:Nat)(e:EL),atO l o=n∧ay o.i (aj (l++[o]))=n∧(aj (l++[o]))[n]?=some e∧e.id=o.i:=by
 have hd:Dn (l++[o]):=.snoc h hw
 have hp:0≤ay o.i (aj (l++[o])):=by
  have:=jv hd o.i
  have h2:(az 0 o.i (l++[o])).isSome=true:=by
   obtain⟨_,h1⟩:=cE hw
   rw[dZ]
   rcases h1 with⟨hk,h3,_⟩|⟨hk,_⟩
   ·obtain⟨x,hx⟩:=Option.isSome_iff_exists.1 h3
    rw[hx];rfl
   ·cases hf:az 0 o.i l with
    |some x=>rfl
    |none=>simp[az,hk]
  rw[h2]at this
  exact of_decide_eq_true this
 obtain⟨e,h1,h2,_⟩:=j4 hp
 have ha:atO l o=ay o.i (aj (l++[o])):=by unfold atO;rw[if_pos hw]
 exact⟨_,e,by rw[ha,Int.toNat_of_nonneg hp],by rw[Int.toNat_of_nonneg hp],h1,h2⟩
theorem nn {l:List OP}{o:OP}(h:o.k=0):bh (l++[o])=(bh l).add (TL.one o.i):=by unfold bh;rw[b7 h,List.map_append];exact tg _ _
theorem nm {l:List OP}{o:OP}(h:o.k≠0):bh (l++[o])=bh l:=by unfold bh;rw[cJ h]
theorem yq (l:List OP):(bh l).n=(aZ l).length:=by unfold bh;rw[oY,List.length_map]
end Go.Proofs.E
namespace Go.Proofs.E
attribute [local irreducible] elems
theorem E7 {s:SS}{l:List OP}(h:isS s l)(R:List OP){o:OP}(hw:aw l o=0):Cv 242 [vv s l R,opv o,stv (fP s l o),iv (atO l o)] (.tup [vv (fP s l o) (l++[o]) R,chv (chO l o)]):=by
 have hd:Dn (l++[o]):=.snoc h.dn hw
 have hs:=fa h o
 rw[show ld l o=l++[o]from if_pos hw]at hs
 have hsm:=hs.small
 obtain⟨n,e,hat,_,hget,hid⟩:=zY h.dn hw
 have hlen:=h.dn.len2
 have hoc:=(cE hw).1
 have hch:chO l o=⟨((l++[o]).length:Nat),bx (aj (l++[o])) (n:Nat),e.id,e.ch,decide (o.k=1)⟩:=by
  unfold chO
  rw[hat,Int.toNat_natCast,hget,hid];rfl
 have hatc:=C7 (fP s l o).t (n:Nat) (by omega)
 rw[m5 hs,hget]at hatc
 have hrk:=uS (fP s l o).t (n:Nat) (by omega) (by omega) (by have:=(List.getElem?_eq_some_iff.1 hget).1;have:=hU hd;omega)
 rw[hs.els]at hrk
 rw[hat,hch]
 have hwr:IntKind.i64.wrap ((l.length:Nat)+1)=((l++[o]).length:Nat):=by rw[ah _ (by omega) (by omega)];simp
 have hput:o.k=0→Cv 247 [tlv (bh l),idv o.i] (.tup [tlv (bh (l++[o])),iv 0]):=fun hk=>by
  rw[nn hk]
  refine CR (bh l) o.i (sum_ok h.dn) (d8 hoc) ?_
  have h1:=hd.is.len
  rw[b7 hk,List.length_append]at h1
  rw[yq];simp at h1;omega
 have hsame:o.k≠0→bh (l++[o])=bh l:=nm
 generalize fP s l o=s' at*
 generalize bx (aj (l++[o])) (n:Nat)=rk at*
 refine ab Tryz.f242 Tryz.func242 rfl rfl fun w H B g0=>?_
 refine aa hatc (fun _ _=>rfl) rfl rfl rfl ?_
 (repeat (first|refine Spl.t rfl ?_|refine Spl.f rfl ?_))
 refine Spl.of (fun h1=>?_) (fun h1=>?_)
 ·have h1:o.k=0:=of_decide_eq_true h1
  have hput:=hput h1
  rw[show vv s' (l++[o]) R=.agg [.d s'.t.d,.d s'.p.d,iv s'.n,.d (.sl 6 (R.map opD)),iv (IntKind.i64.wrap ((l.length:Nat)+1)),iv (bh (l++[o])).n,cx (bh (l++[o])).a (bh (l++[o])).b,cx (bh (l++[o])).c (bh (l++[o])).d]by rw[hwr],←hwr]
  generalize bh (l++[o])=T at hput
  (repeat (first|refine Spl.t rfl ?_|refine Spl.f rfl ?_))
  refine aa hput (fun _ _=>rfl) rfl rfl rfl ?_
  (repeat (first|refine Spl.t rfl ?_|refine Spl.f rfl ?_))
  refine RegP.mixE 0 17 [8,9] rfl (by decide+kernel) ?_
  refine QuietP.of (QJ.call hrk (fun _ _=>rfl) rfl rfl) ?_
  exact FinP.open rfl rfl
 ·have h1:=hsame (of_decide_eq_false h1)
  rw[show vv s' (l++[o]) R=.agg [.d s'.t.d,.d s'.p.d,iv s'.n,.d (.sl 6 (R.map opD)),iv (IntKind.i64.wrap ((l.length:Nat)+1)),iv (bh l).n,cx (bh l).a (bh l).b,cx (bh l).c (bh l).d]by rw[hwr,←h1],←hwr]
  (repeat (first|refine Spl.t rfl ?_|refine Spl.f rfl ?_))
  refine RegP.mixE 0 17 [8,9] rfl (by decide+kernel) ?_
  refine QuietP.of (QJ.call hrk (fun _ _=>rfl) rfl rfl) ?_
  exact FinP.open rfl rfl
theorem wb {l:List OP}(h:Dn l)(R:List OP){o:OP}(hw:aw l o=0):Cv 174 [rvv l R,opv o] (.tup [rvv (l++[o]) R,chv (chO l o)]):=by
 have hd:Dn (l++[o]):=.snoc h hw
 obtain⟨n,e,hat,hpl,hget,hid⟩:=zY h hw
 have hlen:=h.len2
 have hll:(l++[o]).length=l.length+1:=by simp
 have hli:=dO hd R
 have hle:=hU hd
 have hch:chO l o=⟨((l++[o]).length:Nat),bx (aj (l++[o])) (n:Nat),o.i,e.ch,decide (o.k=1)⟩:=by
  unfold chO
  rw[hat,Int.toNat_natCast,hget];rfl
 rw[hch]
 have hplc:=tq (aj (l++[o])) o.i (by omega)
 have hrk:=jK (aj (l++[o])) (n:Nat) (by omega)
 rw[hpl]at hplc
 generalize aj (l++[o])=L at*
 generalize bx L (n:Nat)=rk at*
 refine aD Tryz.f174 Tryz.func174 rfl rfl fun w H B g0=>?_
 (try refine WJ.cut ?_)
 (first|refine Sq.go ?_|refine af (Sq.go ?_)|skip)
 (try refine WJ.cut ?_)
 refine RegP.mixE 0 6 [] rfl (by decide+kernel) ?_
 refine QuietP.born (Go.Gv.B.appF (i:=11) rfl (.full _ _) (FlatQ.data rfl rfl) rfl (by show 0+_≤_;rw[List.length_map];omega) (.inr rfl)) ?_
 (repeat' (first|exact trivial|refine And.intro ?_ ?_))
 refine Req.of ⟨by rw[List.length_append],by rw[List.length_map];show 0+_+1≤_;omega⟩ ?_
 (repeat' (first|exact trivial|refine And.intro ?_ ?_))
 (first|refine Sq.go ?_|refine af (Sq.go ?_)|skip)
 have hrow:(([]++l.map opD++[opD o]:List (List D))).length=0+(l.map opD).length+1:=by simp
 refine WJ.shift (b8 11 2 0 (cs:=[.arr 11 6 (0+(l.map opD).length+1),.d (.sl 6 (R.map opD))]) (k:=6) (n:=0+(l.map opD).length+1) (xs:=[]++l.map opD++[opD o]) rfl rfl rfl (Nat.le_of_eq hrow.symm) (by rw[List.length_map];omega)) ?_
 rw[←hrow,List.take_length,show []++l.map opD++[opD o]=(l++[o]).map opD by simp]
 (try refine WJ.cut ?_)
 refine aa hli (fun _ _=>rfl) rfl rfl rfl ?_
 (first|refine Sq.go ?_|refine af (Sq.go ?_)|skip)
 (try refine WJ.cut ?_)
 refine aa hplc (fun _ _=>rfl) rfl rfl rfl ?_
 (first|refine Sq.go ?_|refine af (Sq.go ?_)|skip)
 (try refine aq _ _ _ _ ?_)
 refine RegP.mixE 0 20 [4,5] rfl (by decide+kernel) ?_
 refine QuietP.of (QJ.call hrk (fun _ _=>rfl) rfl rfl) ?_
 refine IdxP.of (elD e) (by omega) (by simp[hget]) ?_
 refine FinP.open rfl ?_
 have hlm:(l++[o]).length=((l++[o]).map opD).length:=(List.length_map _).symm
 rw[hlm];rfl
end Go.Proofs.E
namespace Go.Proofs.E
attribute [local irreducible] elems
def lG (out:List CH)(l:List OP)(o:OP):List CH:=if aw l o=0 then out++[chO l o]else out
theorem BH (out:List CH)(c:CH):out.map chD++[chD c]=(out++[c]).map chD:=by simp
theorem Gm {s:SS}{l:List OP}(h:isS s l)(R:List OP)(o:OP)(out:List CH)(hn:out.length≤900000):
 Ct tab Tryz.prog 240 [opv o,.box 2 0,.box 8 0] [(2,.cells (vcs s l R)),(8,.cells [.arr 1000 6 out.length]),(1000,.arr 6 (out.map chD))]
  (fun q σ'=>q=iv (aw l o)∧σ'=[(2,.cells (vcs (fP s l o) (ld l o) R)),(8,.cells [.arr 1000 6 (lG out l o).length]),(1000,.arr 6 ((lG out l o).map chD))]):=by
 have hap:=lq h o
 refine aD Tryz.f240 Tryz.func240 rfl rfl fun w H B g0=>?_
 (try refine WJ.cut ?_)
 (first|refine Sq.go ?_|refine af (Sq.go ?_)|skip)
 (try refine WJ.cut ?_)
 refine aa hap (fun _ _=>rfl) rfl rfl rfl ?_
 (first|refine Sq.go ?_|refine af (Sq.go ?_)|skip)
 (try refine WJ.cut ?_)
 refine Spl.of (fun h1=>?_) (fun h1=>?_)
 ·have h1:aw l o=0:=of_decide_eq_true h1
  have htk:=E7 h R h1
  have e1:ld l o=l++[o]:=if_pos h1
  have e2:lG out l o=out++[chO l o]:=if_pos h1
  rw[e1,e2]
  generalize fP s l o=s' at htk ⊢
  generalize chO l o=c at htk ⊢
  generalize l++[o]=l' at htk ⊢
  have hrow:=BH out c
  have hlc:(out++[c]).length=out.length+1:=by simp
  rw[hlc,←hrow]
  (repeat (first|refine Spl.t rfl ?_|refine Spl.f rfl ?_))
  refine aa htk (fun _ _=>rfl) rfl rfl rfl ?_
  refine AP 1008 rfl rfl rfl rfl rfl ?_
  (first|refine Sq.go ?_|refine af (Sq.go ?_)|skip)
  (try refine WJ.cut ?_)
  refine tp rfl ?_;(repeat' (refine And.intro ?_ ?_))
  all_goals refine Req.of ⟨by rw[List.length_map],by show _+1≤_;omega⟩ ?_
  all_goals (repeat' (first|exact trivial|refine And.intro ?_ ?_))
  all_goals ((first|refine Sq.go ?_|refine af (Sq.go ?_)|skip))
  all_goals ((try refine aq _ _ _ _ ?_))
  all_goals exact bg [(2,.cells (vcs s' l' R)),(8,.cells [.arr 1000 6 (out.length+1)]),(1000,.arr 6 (out.map chD++[chD c]))] (Wk.cons rfl (Wk.cons rfl (Wk.cons rfl (Wk.nil _)))) rfl ⟨rfl,rfl⟩
 ·have h1:¬aw l o=0:=of_decide_eq_false h1
  have e1:ld l o=l:=if_neg h1
  have e2:lG out l o=out:=if_neg h1
  have e3:fP s l o=s:=if_neg h1
  rw[e1,e2,e3]
  (repeat (first|refine Spl.t rfl ?_|refine Spl.f rfl ?_))
  (first|refine Sq.go ?_|refine af (Sq.go ?_)|skip)
  (try refine aq _ _ _ _ ?_)
  exact bg [(2,.cells (vcs s l R)),(8,.cells [.arr 1000 6 out.length]),(1000,.arr 6 (out.map chD))] (Wk.cons rfl (Wk.cons rfl (Wk.cons rfl (Wk.nil _)))) rfl ⟨rfl,rfl⟩
end Go.Proofs.E
namespace Go.Proofs.E
attribute [local irreducible] elems
structure VS where
 s:SS
 l:List OP
 R:List OP
 out:List CH
def VS.take (v:VS)(o:OP):VS:=⟨fP v.s v.l o,ld v.l o,v.R,lG v.out v.l o⟩
def VS.next (v:VS):VS:=VS.take ⟨v.s,v.l,eU v.l v.R,v.out⟩ (gJ v.l v.R)
def drn:Nat→VS→VS
 |0,v=>v
 |n+1,v=>if bA v.l v.R<0 then v else drn n v.next
def cG (v:VS)(o:OP):VS:=if aw v.l o=0 then drn v.R.length (VS.take ⟨v.s,v.l,v.R,[]⟩ o)else if aw v.l o=6 then⟨v.s,v.l,gx v.R o,[]⟩else⟨v.s,v.l,v.R,[]⟩
def cS (v:VS)(o:OP):Int:=if aw v.l o=6 then fQ v.R o else aw v.l o
theorem kG (out:List CH)(l:List OP)(o:OP):(lG out l o).length≤out.length+1:=by unfold lG;split<;>simp
theorem si {l R:List OP}(h:¬bA l R<0):(eU l R).length+1=R.length:=by
 have:=lI l R
 unfold eU
 rw[if_neg h];simp;omega
abbrev chs (out:List CH):D:=.sl 6 (out.map chD)
abbrev EB (v:VS):List AV:=vcs v.s v.l v.R
theorem o6 {s:SS}{l:List OP}(h:isS s l)(R:List OP)(out0:List CH)(o:OP)(hR:R.length≤100000):
 Cv 201 [vv s l R,opv o] (.tup [vv (cG ⟨s,l,R,out0⟩ o).s (cG ⟨s,l,R,out0⟩ o).l (cG ⟨s,l,R,out0⟩ o).R,.d (chs (cG ⟨s,l,R,out0⟩ o).out),iv (cS ⟨s,l,R,out0⟩ o)]):=by
 have hin:=Gm h R o [] (by simp)
 have hadd:=DE R o (by omega)
 refine aD Tryz.f201 Tryz.func201 rfl rfl fun w H B g0=>?_
 (try refine WJ.cut ?_)
 (first|refine Sq.go ?_|refine af (Sq.go ?_)|skip)
 (try refine WJ.cut ?_)
 (first|refine Sq.go ?_|refine af (Sq.go ?_)|skip)
 (try refine WJ.cut ?_)
 (first|refine Sq.go ?_|refine af (Sq.go ?_)|skip)
 refine WJ.shift (ke 1000 8 0 6 rfl rfl rfl) ?_
 (try refine WJ.cut ?_)
 (first|refine Sq.go ?_|refine af (Sq.go ?_)|skip)
 (try refine WJ.cut ?_)
 refine OpJ.callT rfl (FnIs.fnp _ _) hin (fun _ _=>rfl) rfl rfl (Wk.cons rfl (Wk.cons rfl (Wk.cons rfl (Wk.nil _)))) ?_
 rintro q σ' ⟨rfl,rfl⟩
 refine⟨rfl,?_⟩
 (first|refine Sq.go ?_|refine af (Sq.go ?_)|skip)
 (try refine WJ.cut ?_)
 refine Spl.of (fun h1=>?_) (fun h1=>?_)
 ·have h1:aw l o=0:=of_decide_eq_true h1
  have eR:cG ⟨s,l,R,out0⟩ o=drn R.length (VS.take ⟨s,l,R,[]⟩ o):=if_pos h1
  have eE:cS ⟨s,l,R,out0⟩ o=0:=by unfold cS;rw[h1];rfl
  have hs:=fa h o
  have ho:=kG [] l o
  rw[eR,eE]
  (repeat (first|refine Spl.t rfl ?_|refine Spl.f rfl ?_))
  (first|refine Sq.go ?_|refine af (Sq.go ?_)|skip)
  (try refine aq _ _ _ _ ?_)
  refine ax (V:=VS) (fun v=>[]) (fun v=>[(2,.cells (EB v)),(8,.cells [.arr 1000 6 v.out.length]),(1000,.arr 6 (v.out.map chD))]) [2,8,1000] (fun v=>v.R.length) (fun v=>isS v.s v.l∧v.out.length+v.R.length≤100001∧drn v.R.length v=drn R.length (VS.take ⟨s,l,R,[]⟩ o)) (VS.take ⟨s,l,R,[]⟩ o) ⟨hs,by simp only[VS.take];simp at ho;omega,rfl⟩ (by repeat' (first|exact trivial|exact rfl|refine And.intro ?_ ?_)) (by repeat' (first|exact trivial|exact rfl|refine And.intro ?_ ?_)) ?_
  rintro⟨s1,l1,R1,out1⟩ ⟨h2,h3,h4⟩
  simp only at h2 h3 h4
  have hnx:=AQ h2 R1 (by omega)
  have hin1:=Gm h2 (eU l1 R1) (gJ l1 R1) out1 (by omega)
  (repeat (first|refine Spl.t rfl ?_|refine Spl.f rfl ?_))
  refine aa hnx (fun _ _=>rfl) rfl rfl rfl ?_
  (repeat (first|refine Spl.t rfl ?_|refine Spl.f rfl ?_))
  refine Spl.of (fun h5=>?_) (fun h5=>?_)
  ·have h5:bA l1 R1<0:=by simpa using h5
   have e5:drn R1.length ⟨s1,l1,R1,out1⟩=⟨s1,l1,R1,out1⟩:=by
    cases R1.length with
    |zero=>rfl
    |succ n=>rw[drn,if_pos h5]
   rw[←h4,e5]
   have hpl:out1.length≤(out1.map chD).length:=by rw[List.length_map];exact Nat.le_refl _
   (repeat (first|refine Spl.t rfl ?_|refine Spl.f rfl ?_))
   refine RegP.mixE 0 5 [4] rfl (by decide+kernel) ?_
   refine gl 1000 1 rfl rfl hpl (by show out1.length≤_;omega) (FinP.open rfl ?_)
   exact congrArg (fun r=>AV.tup [vv s1 l1 R1,.d (.sl 6 r),iv 0]) (List.take_of_length_le (Nat.le_of_eq (List.length_map ..)))
  ·have h5:¬bA l1 R1<0:=by simpa using h5
   have hlt:=si h5
   have ho1:=kG out1 l1 (gJ l1 R1)
   have e5:drn (eU l1 R1).length (VS.next ⟨s1,l1,R1,out1⟩)=drn R.length (VS.take ⟨s,l,R,[]⟩ o):=by
    rw[←h4,←hlt,drn,if_neg h5]
   have hs1:=fa h2 (gJ l1 R1)
   (repeat (first|refine Spl.t rfl ?_|refine Spl.f rfl ?_))
   refine OpJ.callT rfl (FnIs.fnp _ _) hin1 (fun _ _=>rfl) rfl rfl (Wk.cons rfl (Wk.cons rfl (Wk.cons rfl (Wk.nil _)))) ?_
   rintro q σ' ⟨rfl,rfl⟩
   refine⟨rfl,?_⟩
   (repeat (first|refine Spl.t rfl ?_|refine Spl.f rfl ?_))
   exact⟨VS.next ⟨s1,l1,R1,out1⟩,⟨hs1,by simp only[VS.next,VS.take];omega,e5⟩,by simp only[VS.next,VS.take];omega,(by repeat' (first|exact trivial|exact rfl|refine And.intro ?_ ?_)),(by repeat' (first|exact trivial|exact rfl|refine And.intro ?_ ?_)),(by repeat' (first|exact trivial|exact rfl|refine And.intro ?_ ?_)),(by repeat' (first|exact trivial|exact rfl|refine And.intro ?_ ?_))⟩
 ·have h1:¬aw l o=0:=of_decide_eq_false h1
  have e1:ld l o=l:=if_neg h1
  have e2:lG [] l o=[]:=if_neg h1
  have e3:fP s l o=s:=if_neg h1
  rw[e1,e2,e3]
  (repeat (first|refine Spl.t rfl ?_|refine Spl.f rfl ?_))
  refine Spl.of (fun h2=>?_) (fun h2=>?_)
  ·have h2:aw l o=6:=of_decide_eq_true h2
   have eR:cG ⟨s,l,R,out0⟩ o=⟨s,l,gx R o,[]⟩:=(if_neg h1).trans (if_pos h2)
   have eE:cS ⟨s,l,R,out0⟩ o=fQ R o:=if_pos h2
   rw[eR,eE]
   (repeat (first|refine Spl.t rfl ?_|refine Spl.f rfl ?_))
   refine aa hadd (fun _ _=>rfl) rfl rfl rfl ?_
   (repeat (first|refine Spl.t rfl ?_|refine Spl.f rfl ?_))
   refine Spl.of (fun h3=>?_) (fun h3=>?_)
   ·have h3:¬fQ R o=0:=by simpa using h3
    have e4:gx R o=R:=if_neg h3
    rw[e4]
    (repeat (first|refine Spl.t rfl ?_|refine Spl.f rfl ?_))
    refine .out (by simp) ?_
    refine ai 1 rfl (fun _ _ _ h=>ar 6 h) ?_
    exact FinP.open rfl rfl
   ·have h3:fQ R o=0:=by simpa using h3
    rw[h3]
    (repeat (first|refine Spl.t rfl ?_|refine Spl.f rfl ?_))
    refine .out (by simp) ?_
    refine ai 1 rfl (fun _ _ _ h=>ar 6 h) ?_
    exact FinP.open rfl rfl
  ·have h2:¬aw l o=6:=of_decide_eq_false h2
   have eR:cG ⟨s,l,R,out0⟩ o=⟨s,l,R,[]⟩:=(if_neg h1).trans (if_neg h2)
   have eE:cS ⟨s,l,R,out0⟩ o=aw l o:=if_neg h2
   rw[eR,eE]
   (repeat (first|refine Spl.t rfl ?_|refine Spl.f rfl ?_))
   refine .out (by simp) ?_
   refine ai 1 rfl (fun _ _ _ h=>ar 6 h) ?_
   exact FinP.open rfl rfl
end Go.Proofs.E
namespace Go.Proofs.E
attribute [local irreducible] elems
def tO (c:CH):List CH→AV
 |[]=>.full 6 [chD c]
 |r::rs=>.arr 84 6 ((c::r::rs).length)
def sO (c:CH):List CH→Sg
 |[]=>[]
 |r::rs=>[(84,.arr 6 ((c::r::rs).map chD))]
theorem B3 {γ:Ids}{H:HF}{k:Nat}{xs:List (List D)}{u:Value}(r:Rep γ H (.full k xs) u):Rep γ H (.d (.sl k xs)) u:=by
 cases r with
 |full _ _ A h=>exact .d _ _ h
set_option maxHeartbeats 2000000 in
theorem l8 {s:SS}{l:List OP}(h:isS s l)(R:List OP)(out0:List CH)(o:OP)(hR:R.length≤100000):
 Cv 137 [rvv l R,opv o] (.tup [rvv (cG ⟨s,l,R,out0⟩ o).l (cG ⟨s,l,R,out0⟩ o).R,.d (chs (cG ⟨s,l,R,out0⟩ o).out),iv (cS ⟨s,l,R,out0⟩ o)]):=by
 have hl:=h.dn.len2
 have hadd:=Fd R o (by omega)
 have hwr:=o7 l o (by omega)
 refine ab Tryz.f137 Tryz.func137 rfl rfl fun w H B g0=>?_
 refine aa hwr (fun _ _=>rfl) rfl rfl rfl ?_
 (repeat (first|refine Spl.t rfl ?_|refine Spl.f rfl ?_))
 refine Spl.of (fun h2=>?_) (fun h2=>?_)
 ·have h2:aw l o=6:=of_decide_eq_true h2
  have h1:¬aw l o=0:=by omega
  have eR:cG ⟨s,l,R,out0⟩ o=⟨s,l,gx R o,[]⟩:=(if_neg h1).trans (if_pos h2)
  have eE:cS ⟨s,l,R,out0⟩ o=fQ R o:=if_pos h2
  rw[eR,eE]
  (repeat (first|refine Spl.t rfl ?_|refine Spl.f rfl ?_))
  refine aa hadd (fun _ _=>rfl) rfl rfl rfl ?_
  (repeat (first|refine Spl.t rfl ?_|refine Spl.f rfl ?_))
  refine Spl.of (fun h3=>?_) (fun h3=>?_)
  ·have h3:¬fQ R o=0:=by simpa using h3
   have e4:gx R o=R:=if_neg h3
   rw[e4]
   (repeat (first|refine Spl.t rfl ?_|refine Spl.f rfl ?_))
   refine ai 1 rfl (fun _ _ _ h=>ar 6 h) ?_
   exact FinP.open rfl rfl
  ·have h3:fQ R o=0:=by simpa using h3
   rw[h3]
   (repeat (first|refine Spl.t rfl ?_|refine Spl.f rfl ?_))
   refine ai 1 rfl (fun _ _ _ h=>ar 6 h) ?_
   exact FinP.open rfl rfl
 ·have h2:¬aw l o=6:=of_decide_eq_false h2
  have eE:cS ⟨s,l,R,out0⟩ o=aw l o:=if_neg h2
  rw[eE]
  (repeat (first|refine Spl.t rfl ?_|refine Spl.f rfl ?_))
  refine Spl.of (fun h1=>?_) (fun h1=>?_)
  ·have h1:¬aw l o=0:=by simpa using h1
   have eR:cG ⟨s,l,R,out0⟩ o=⟨s,l,R,[]⟩:=(if_neg h1).trans (if_neg h2)
   rw[eR]
   (repeat (first|refine Spl.t rfl ?_|refine Spl.f rfl ?_))
   refine ai 1 rfl (fun _ _ _ h=>ar 6 h) ?_
   exact FinP.open rfl rfl
  ·have h1:aw l o=0:=by simpa using h1
   have eR:cG ⟨s,l,R,out0⟩ o=drn R.length (VS.take ⟨s,l,R,[]⟩ o):=if_pos h1
   have htk:=wb h.dn R h1
   have hs:=fa h o
   have e1:ld l o=l++[o]:=if_pos h1
   have e2:lG [] l o=[chO l o]:=if_pos h1
   have eT:VS.take ⟨s,l,R,[]⟩ o=⟨fP s l o,l++[o],R,chO l o::[]⟩:=by unfold VS.take;rw[e1,e2]
   rw[eR,h1,eT]
   rw[e1]at hs
   generalize chO l o=c at htk ⊢
   generalize l++[o]=l0 at htk hs ⊢
   generalize fP s l o=s0 at hs ⊢
   (repeat (first|refine Spl.t rfl ?_|refine Spl.f rfl ?_))
   refine aa htk (fun _ _=>rfl) rfl rfl rfl ?_
   (repeat (first|refine Spl.t rfl ?_|refine Spl.f rfl ?_))
   refine ax (V:=VS×List CH) (fun v=>[(12,tO c v.2)]) (fun v=>(2,.cells [.d (.sl 6 (v.1.l.map opD)),.d (.sl 6 (v.1.R.map opD))])::sO c v.2) [2,84] (fun v=>v.1.R.length) (fun v=>isS v.1.s v.1.l∧v.1.out=c::v.2∧v.1.out.length+v.1.R.length≤100001∧drn v.1.R.length v.1=drn R.length ⟨s0,l0,R,[c]⟩) (⟨s0,l0,R,[c]⟩,[]) ⟨hs,rfl,by simp;omega,rfl⟩ (by repeat' (first|exact trivial|exact rfl|refine And.intro ?_ ?_)) (by repeat' (first|exact trivial|exact rfl|refine And.intro ?_ ?_)) ?_
   rintro⟨⟨s1,l1,R1,out1⟩,r1⟩ ⟨g1,g2,g3,g4⟩
   simp only at g1 g2 g3 g4
   subst g2
   have hl1:=g1.dn.len2
   have hnx:=CG l1 R1 (by omega) (by omega)
   have hlt':=lI l1 R1
   (repeat (first|refine Spl.t rfl ?_|refine Spl.f rfl ?_))
   refine aa hnx (fun _ _=>rfl) rfl rfl rfl ?_
   (repeat (first|refine Spl.t rfl ?_|refine Spl.f rfl ?_))
   refine Spl.of (fun h5=>?_) (fun h5=>?_)
   ·have h5:bA l1 R1<0:=of_decide_eq_true h5
    have e5:drn R1.length ⟨s1,l1,R1,c::r1⟩=⟨s1,l1,R1,c::r1⟩:=by
     cases R1.length with
     |zero=>rfl
     |succ n=>rw[drn,if_pos h5]
    rw[←g4,e5]
    cases r1 with
    |nil=>
     (repeat (first|refine Spl.t rfl ?_|refine Spl.f rfl ?_))
     refine ai 1 rfl (fun _ _ _ h=>B3 h) ?_
     exact FinP.open rfl rfl
    |cons r rs=>
     (repeat (first|refine Spl.t rfl ?_|refine Spl.f rfl ?_))
     refine gl 84 1 (k:=6) (n:=(c::r::rs).length) (xs:=(c::r::rs).map chD) rfl rfl (Nat.le_of_eq (List.length_map ..).symm) (by omega) (FinP.open rfl ?_)
     exact congrArg (fun x=>AV.tup [rvv l1 R1,.d (.sl 6 x),iv 0]) (List.take_of_length_le (Nat.le_of_eq (List.length_map ..)))
   ·have h5:¬bA l1 R1<0:=of_decide_eq_false h5
    obtain⟨n,e6⟩:∃n:Nat,bA l1 R1=n:=⟨(bA l1 R1).toNat,by omega⟩
    have hnl:n<R1.length:=by omega
    have hy:R1[n]?=some R1[n]:=by simp
    have hwo:=xK R1 n (by omega) hnl
    have hlt:=si h5
    have ho1:=kG (c::r1) l1 (gJ l1 R1)
    have e5:drn (eU l1 R1).length (VS.next ⟨s1,l1,R1,c::r1⟩)=drn R.length ⟨s0,l0,R,[c]⟩:=by
     rw[←g4,←hlt,drn,if_neg h5]
    have hs1:=fa g1 (gJ l1 R1)
    unfold VS.next VS.take at e5
    simp only at e5
    rw[nJ e6,nK e6 hy]at e5
    rw[nK e6 hy]at hs1 ho1
    rw[nJ e6]at hlt
    rw[e6]
    generalize R1[n]=y at hy e5 hs1 ho1
    generalize R1.take n++R1.drop (n+1)=Rw at hwo hlt e5
    have hwr1:=o7 l1 y (by omega)
    by_cases h7:aw l1 y=0
    ·have htk1:=wb g1.dn Rw h7
     have a1:ld l1 y=l1++[y]:=if_pos h7
     have a2:lG (c::r1) l1 y=c::(r1++[chO l1 y]):=if_pos h7
     rw[a1,a2]at e5
     rw[a1]at hs1
     rw[a2]at ho1
     generalize chO l1 y=d at htk1 e5 ho1
     generalize l1++[y]=l2 at htk1 hs1 e5
     generalize fP s1 l1 y=s2 at hs1 e5
     cases r1 with
     |nil=>
      ((repeat (first|refine Spl.t rfl ?_|refine Spl.f rfl ?_));refine IdxP.of (opD y) (by omega) (by simp[hy]) ?_;(repeat (first|refine Spl.t rfl ?_|refine Spl.f rfl ?_));refine aa hwo (fun _ _=>rfl) rfl rfl rfl ?_;(repeat (first|refine Spl.t rfl ?_|refine Spl.f rfl ?_));refine aa hwr1 (fun _ _=>rfl) rfl rfl rfl ?_;(repeat (first|refine Spl.t rfl ?_|refine Spl.f rfl ?_)))
      refine Spl.t (decide_eq_true h7) ?_
      (repeat (first|refine Spl.t rfl ?_|refine Spl.f rfl ?_))
      refine aa htk1 (fun _ _=>rfl) rfl rfl rfl ?_
      (repeat (first|refine Spl.t rfl ?_|refine Spl.f rfl ?_))
      refine O.appF (k:=6) rfl rfl (.full 6 _) rfl rfl rfl rfl (by show 1+1≤1000000000;decide) (.inl (List.cons_ne_nil _ _)) ?_
      (repeat (first|refine Spl.t rfl ?_|refine Spl.f rfl ?_))
      exact⟨(⟨s2,l2,Rw,[c,d]⟩,[d]),⟨hs1,rfl,by simp only at g3 ⊢;simp at g3 ⊢;omega,e5⟩,by simp only;omega,(by repeat' (first|exact trivial|exact rfl|refine And.intro ?_ ?_)),(by repeat' (first|exact trivial|exact rfl|refine And.intro ?_ ?_)),(by repeat' (first|exact trivial|exact rfl|refine And.intro ?_ ?_)),(by repeat' (first|exact trivial|exact rfl|refine And.intro ?_ ?_))⟩
     |cons r rs=>
      have hrow:(c::r::rs).map chD++[chD d]=(c::r::(rs++[d])).map chD:=by simp
      ((repeat (first|refine Spl.t rfl ?_|refine Spl.f rfl ?_));refine IdxP.of (opD y) (by omega) (by simp[hy]) ?_;(repeat (first|refine Spl.t rfl ?_|refine Spl.f rfl ?_));refine aa hwo (fun _ _=>rfl) rfl rfl rfl ?_;(repeat (first|refine Spl.t rfl ?_|refine Spl.f rfl ?_));refine aa hwr1 (fun _ _=>rfl) rfl rfl rfl ?_;(repeat (first|refine Spl.t rfl ?_|refine Spl.f rfl ?_)))
      refine Spl.t (decide_eq_true h7) ?_
      (repeat (first|refine Spl.t rfl ?_|refine Spl.f rfl ?_))
      refine aa htk1 (fun _ _=>rfl) rfl rfl rfl ?_
      (repeat (first|refine Spl.t rfl ?_|refine Spl.f rfl ?_))
      refine Req.of ⟨by rw[List.length_map],(show(c::r::rs).length+1≤1000000000 by simp at g3 ⊢;omega)⟩ ?_
      (repeat (first|refine Spl.t rfl ?_|refine Spl.f rfl ?_))
      exact⟨(⟨s2,l2,Rw,c::r::(rs++[d])⟩,r::(rs++[d])),⟨hs1,rfl,by simp only at g3 ⊢;simp at g3 ⊢;omega,e5⟩,by simp only;omega,⟨gD (by simp;rfl),trivial⟩,(by repeat' (first|exact trivial|exact rfl|refine And.intro ?_ ?_)),⟨rfl,gC hrow,trivial⟩,(by repeat' (first|exact trivial|exact rfl|refine And.intro ?_ ?_))⟩
    ·have a1:ld l1 y=l1:=if_neg h7
     have a2:lG (c::r1) l1 y=c::r1:=if_neg h7
     have a3:fP s1 l1 y=s1:=if_neg h7
     rw[a1,a2,a3]at e5
     cases r1 with
     |nil=>
      ((repeat (first|refine Spl.t rfl ?_|refine Spl.f rfl ?_));refine IdxP.of (opD y) (by omega) (by simp[hy]) ?_;(repeat (first|refine Spl.t rfl ?_|refine Spl.f rfl ?_));refine aa hwo (fun _ _=>rfl) rfl rfl rfl ?_;(repeat (first|refine Spl.t rfl ?_|refine Spl.f rfl ?_));refine aa hwr1 (fun _ _=>rfl) rfl rfl rfl ?_;(repeat (first|refine Spl.t rfl ?_|refine Spl.f rfl ?_)))
      refine Spl.f (decide_eq_false h7) ?_
      (repeat (first|refine Spl.t rfl ?_|refine Spl.f rfl ?_))
      exact⟨(⟨s1,l1,Rw,[c]⟩,[]),⟨g1,rfl,by simp only at g3 ⊢;omega,e5⟩,by simp only;omega,(by repeat' (first|exact trivial|exact rfl|refine And.intro ?_ ?_)),(by repeat' (first|exact trivial|exact rfl|refine And.intro ?_ ?_)),(by repeat' (first|exact trivial|exact rfl|refine And.intro ?_ ?_)),(by repeat' (first|exact trivial|exact rfl|refine And.intro ?_ ?_))⟩
     |cons r rs=>
      ((repeat (first|refine Spl.t rfl ?_|refine Spl.f rfl ?_));refine IdxP.of (opD y) (by omega) (by simp[hy]) ?_;(repeat (first|refine Spl.t rfl ?_|refine Spl.f rfl ?_));refine aa hwo (fun _ _=>rfl) rfl rfl rfl ?_;(repeat (first|refine Spl.t rfl ?_|refine Spl.f rfl ?_));refine aa hwr1 (fun _ _=>rfl) rfl rfl rfl ?_;(repeat (first|refine Spl.t rfl ?_|refine Spl.f rfl ?_)))
      refine Spl.f (decide_eq_false h7) ?_
      (repeat (first|refine Spl.t rfl ?_|refine Spl.f rfl ?_))
      exact⟨(⟨s1,l1,Rw,c::r::rs⟩,r::rs),⟨g1,rfl,by simp only at g3 ⊢;omega,e5⟩,by simp only;omega,(by repeat' (first|exact trivial|exact rfl|refine And.intro ?_ ?_)),(by repeat' (first|exact trivial|exact rfl|refine And.intro ?_ ?_)),(by repeat' (first|exact trivial|exact rfl|refine And.intro ?_ ?_)),(by repeat' (first|exact trivial|exact rfl|refine And.intro ?_ ?_))⟩
end Go.Proofs.E
namespace Go.Proofs.E
attribute [local irreducible] elems
def VS.same (v:VS):VS:=⟨v.s,v.l,v.R,[]⟩
def opI (v:VS)(site at_ ch:Int):OP:=⟨0,⟨oK v.l v.R,site⟩,cH (aj v.l) (at_-1),ch⟩
def opX (v:VS)(at_:Int):OP:=⟨1,cH (aj v.l) at_,⟨0,0⟩,0⟩
def doT (v:VS)(o:OP):VS×OP×Int:=if cS v o≠0 then(v.same,OP0,cS v o)else(cG v o,o,0)
def ca (v:VS)(site at_ ch:Int):VS×OP×Int:=
 if site<1∨site>1000∨at_<0∨at_>aW (aj v.l)then(v.same,OP0,2)
 else if ch<32∨ch>1114111∨55296≤ch∧ch≤57343 then(v.same,OP0,1)
 else if 4096≤(aj v.l).length∨oK v.l v.R>1048576 then(v.same,OP0,7)
 else doT v (opI v site at_ ch)
def dE (v:VS)(at_:Int):VS×OP×Int:=if 0≤at_∧at_<aW (aj v.l)then doT v (opX v at_)else(v.same,OP0,2)
def tV (p:VS×OP×Int):AV:=.tup [vv p.1.s p.1.l p.1.R,opv p.2.1,.d (chs p.1.out),iv p.2.2]
def Bt (p:VS×OP×Int):AV:=.tup [rvv p.1.l p.1.R,opv p.2.1,.d (chs p.1.out),iv p.2.2]
def prb (ch:Int):OP:=⟨0,⟨1,1⟩,⟨0,0⟩,ch⟩
theorem wU (ch:Int):aL (prb ch)=if ch<32∨ch>1114111∨55296≤ch∧ch≤57343 then 1 else 0:=by
 have h1:bp ⟨1,1⟩=true:=by decide
 have h2:bO ⟨0,0⟩=true:=by decide
 unfold aL prb
 simp only[h1,h2]
 simp
theorem lZ {s:SS}{l:List OP}(h:isS s l)(R:List OP)(hR:R.length≤100000)(at_:Int):
 Cv 161 [vv s l R,iv at_] (tV (dE ⟨s,l,R,[]⟩ at_)):=by
 have hn:=oX h R at_
 have hr:=o6 h R [] (opX ⟨s,l,R,[]⟩ at_) hR
 by_cases hk:0≤at_∧at_<aW (aj l)
 ·have eD:dE ⟨s,l,R,[]⟩ at_=doT ⟨s,l,R,[]⟩ (opX ⟨s,l,R,[]⟩ at_):=if_pos hk
  rw[eD]
  rw[decide_eq_true hk]at hn
  unfold opX at hr ⊢
  simp only at hr ⊢
  generalize cH (aj l) at_=a at hn hr ⊢
  have e1:cS ⟨s,l,R,[]⟩ ⟨1,a,⟨0,0⟩,0⟩≠0→doT ⟨s,l,R,[]⟩ ⟨1,a,⟨0,0⟩,0⟩=(⟨s,l,R,[]⟩,OP0,cS ⟨s,l,R,[]⟩ ⟨1,a,⟨0,0⟩,0⟩):=fun h=>if_pos h
  have e2:cS ⟨s,l,R,[]⟩ ⟨1,a,⟨0,0⟩,0⟩=0→doT ⟨s,l,R,[]⟩ ⟨1,a,⟨0,0⟩,0⟩=(cG ⟨s,l,R,[]⟩ ⟨1,a,⟨0,0⟩,0⟩,⟨1,a,⟨0,0⟩,0⟩,0):=fun h=>if_neg (fun e=>e h)
  generalize cS ⟨s,l,R,[]⟩ ⟨1,a,⟨0,0⟩,0⟩=e at hr e1 e2
  generalize cG ⟨s,l,R,[]⟩ ⟨1,a,⟨0,0⟩,0⟩=v' at hr e2
  generalize doT ⟨s,l,R,[]⟩ ⟨1,a,⟨0,0⟩,0⟩=p at e1 e2 ⊢
  refine ab Tryz.f161 Tryz.func161 rfl rfl fun w H B g0=>?_
  refine aa hn (fun _ _=>rfl) rfl rfl rfl ?_
  (repeat (first|refine Spl.t rfl ?_|refine Spl.f rfl ?_))
  refine aa hr (fun _ _=>rfl) rfl rfl rfl ?_
  (repeat (first|refine Spl.t rfl ?_|refine Spl.f rfl ?_))
  refine Spl.of (fun h1=>?_) (fun h1=>?_)
  ·have h1:e≠0:=by simpa using h1
   rw[e1 h1]
   (repeat (first|refine Spl.t rfl ?_|refine Spl.f rfl ?_))
   refine ai 2 rfl (fun _ _ _ h=>ar 6 h) ?_
   exact FinP.open rfl rfl
  ·have h1:e=0:=by simpa using h1
   rw[e2 h1]
   (repeat (first|refine Spl.t rfl ?_|refine Spl.f rfl ?_))
   refine RegP.mixE 0 7 [4,5] rfl (by decide+kernel) ?_
   exact FinP.open rfl rfl
 ·have eD:dE ⟨s,l,R,[]⟩ at_=(⟨s,l,R,[]⟩,OP0,2):=if_neg hk
  rw[eD]
  rw[decide_eq_false hk]at hn
  refine ab Tryz.f161 Tryz.func161 rfl rfl fun w H B g0=>?_
  refine aa hn (fun _ _=>rfl) rfl rfl rfl ?_
  (repeat (first|refine Spl.t rfl ?_|refine Spl.f rfl ?_))
  refine ai 2 rfl (fun _ _ _ h=>ar 6 h) ?_
  exact FinP.open rfl rfl
theorem vz {v:VS}{site at_ ch:Int}(h:site<1∨site>1000∨at_<0∨at_>aW (aj v.l)):ca v site at_ ch=(v.same,OP0,2):=if_pos h
theorem live_le (L:List EL):aW L≤L.length:=List.length_filter_le _ _
set_option maxHeartbeats 1000000 in
theorem jJ {s:SS}{l:List OP}(h:isS s l)(R:List OP)(hR:R.length≤100000)(hok:∀o,o∈R→aL o=0)(site at_ ch:Int):
 Cv 159 [vv s l R,iv site,iv at_,cv' ch] (tV (ca ⟨s,l,R,[]⟩ site at_ ch)):=by
 have hlen:=rb h R
 have hck:=g7 (prb ch)
 rw[wU]at hck
 have hct:=uN h (by omega) hok
 have hts:=kd s.t
 rw[h.size,←jq h.dn]at hts
 have hlr:=hU h.dn
 have hlv:=live_le (aj l)
 have n1:=fun h=>vz (v:=⟨s,l,R,[]⟩) (site:=site) (at_:=at_) (ch:=ch) h
 refine aD Tryz.f159 Tryz.func159 rfl rfl fun w H B g0=>?_
 (try refine WJ.cut ?_)
 (first|refine Sq.go ?_|refine af (Sq.go ?_)|skip)
 (try refine WJ.cut ?_)
 refine Spl.of (fun a1=>?_) (fun a1=>?_)
 ·rw[n1 (.inl (of_decide_eq_true a1))]
  ((repeat (first|refine Spl.t rfl ?_|refine Spl.f rfl ?_));refine .out (by simp) ?_;refine ai 2 rfl (fun _ _ _ h=>ar 6 h) ?_;exact FinP.open rfl rfl)
 have a1:=of_decide_eq_false a1
 (repeat (first|refine Spl.t rfl ?_|refine Spl.f rfl ?_))
 refine Spl.of (fun a2=>?_) (fun a2=>?_)
 ·rw[n1 (.inr (.inl (of_decide_eq_true a2)))]
  ((repeat (first|refine Spl.t rfl ?_|refine Spl.f rfl ?_));refine .out (by simp) ?_;refine ai 2 rfl (fun _ _ _ h=>ar 6 h) ?_;exact FinP.open rfl rfl)
 have a2:=of_decide_eq_false a2
 (repeat (first|refine Spl.t rfl ?_|refine Spl.f rfl ?_))
 refine Spl.of (fun a3=>?_) (fun a3=>?_)
 ·rw[n1 (.inr (.inr (.inl (of_decide_eq_true a3))))]
  ((repeat (first|refine Spl.t rfl ?_|refine Spl.f rfl ?_));refine .out (by simp) ?_;refine ai 2 rfl (fun _ _ _ h=>ar 6 h) ?_;exact FinP.open rfl rfl)
 have a3:=of_decide_eq_false a3
 (repeat (first|refine Spl.t rfl ?_|refine Spl.f rfl ?_))
 refine aa hlen (fun _ _=>rfl) rfl rfl rfl ?_
 (repeat (first|refine Spl.t rfl ?_|refine Spl.f rfl ?_))
 refine Spl.of (fun a4=>?_) (fun a4=>?_)
 ·rw[n1 (.inr (.inr (.inr (of_decide_eq_true a4))))]
  ((repeat (first|refine Spl.t rfl ?_|refine Spl.f rfl ?_));refine .out (by simp) ?_;refine ai 2 rfl (fun _ _ _ h=>ar 6 h) ?_;exact FinP.open rfl rfl)
 have a4:=of_decide_eq_false a4
 have g1:¬(site<1∨site>1000∨at_<0∨at_>aW (aj l)):=by omega
 (repeat (first|refine Spl.t rfl ?_|refine Spl.f rfl ?_))
 (first|refine Sq.go ?_|refine af (Sq.go ?_)|skip)
 (try refine WJ.cut ?_)
 (first|refine Sq.go ?_|refine af (Sq.go ?_)|skip)
 (try refine WJ.cut ?_)
 refine aa hck (fun _ _=>rfl) rfl rfl rfl ?_
 (repeat (first|refine Spl.t rfl ?_|refine Spl.f rfl ?_))
 by_cases c1:ch<32∨ch>1114111∨55296≤ch∧ch≤57343
 ·have e:ca ⟨s,l,R,[]⟩ site at_ ch=(⟨s,l,R,[]⟩,OP0,1):=(if_neg g1).trans (if_pos c1)
  rw[e]
  refine Spl.t (by rw[if_pos c1];rfl) ?_
  ((repeat (first|refine Spl.t rfl ?_|refine Spl.f rfl ?_));refine .out (by simp) ?_;refine ai 2 rfl (fun _ _ _ h=>ar 6 h) ?_;exact FinP.open rfl rfl)
 refine Spl.f (by rw[if_neg c1];rfl) ?_
 (repeat (first|refine Spl.t rfl ?_|refine Spl.f rfl ?_))
 refine aa hts (fun _ _=>rfl) rfl rfl rfl ?_
 (repeat (first|refine Spl.t rfl ?_|refine Spl.f rfl ?_))
 by_cases c2:4096≤(aj l).length
 ·have e:ca ⟨s,l,R,[]⟩ site at_ ch=(⟨s,l,R,[]⟩,OP0,7):=(if_neg g1).trans ((if_neg c1).trans (if_pos (.inl c2)))
  rw[e]
  refine Spl.t (decide_eq_true (by omega)) ?_
  ((repeat (first|refine Spl.t rfl ?_|refine Spl.f rfl ?_));refine .out (by simp) ?_;refine ai 2 rfl (fun _ _ _ h=>ar 6 h) ?_;exact FinP.open rfl rfl)
 refine Spl.f (decide_eq_false (by omega)) ?_
 (repeat (first|refine Spl.t rfl ?_|refine Spl.f rfl ?_))
 refine aa hct (fun _ _=>rfl) rfl rfl rfl ?_
 (repeat (first|refine Spl.t rfl ?_|refine Spl.f rfl ?_))
 refine Spl.of (fun c3=>?_) (fun c3=>?_)
 ·have e:ca ⟨s,l,R,[]⟩ site at_ ch=(⟨s,l,R,[]⟩,OP0,7):=(if_neg g1).trans ((if_neg c1).trans (if_pos (.inr (of_decide_eq_true c3))))
  rw[e]
  ((repeat (first|refine Spl.t rfl ?_|refine Spl.f rfl ?_));refine .out (by simp) ?_;refine ai 2 rfl (fun _ _ _ h=>ar 6 h) ?_;exact FinP.open rfl rfl)
 have c3:=of_decide_eq_false c3
 have e:ca ⟨s,l,R,[]⟩ site at_ ch=doT ⟨s,l,R,[]⟩ (opI ⟨s,l,R,[]⟩ site at_ ch):=(if_neg g1).trans ((if_neg c1).trans (if_neg (fun h=>by rcases h with h|h;exact c2 h;exact c3 h)))
 rw[e]
 have hw:IntKind.i64.wrap (at_-1)=at_-1:=ah _ (by omega) (by omega)
 have hn:=oX h R (IntKind.i64.wrap (at_-1))
 have hr:=o6 h R [] (opI ⟨s,l,R,[]⟩ site at_ ch) hR
 unfold opI at hr ⊢
 simp only at hr ⊢
 rw[←hw]at hr ⊢
 generalize cH (aj l) (IntKind.i64.wrap (at_-1))=a at hn hr ⊢
 generalize oK l R=c at hct hr ⊢
 have e1:cS ⟨s,l,R,[]⟩ ⟨0,⟨c,site⟩,a,ch⟩≠0→doT ⟨s,l,R,[]⟩ ⟨0,⟨c,site⟩,a,ch⟩=(⟨s,l,R,[]⟩,OP0,cS ⟨s,l,R,[]⟩ ⟨0,⟨c,site⟩,a,ch⟩):=fun h=>if_pos h
 have e2:cS ⟨s,l,R,[]⟩ ⟨0,⟨c,site⟩,a,ch⟩=0→doT ⟨s,l,R,[]⟩ ⟨0,⟨c,site⟩,a,ch⟩=(cG ⟨s,l,R,[]⟩ ⟨0,⟨c,site⟩,a,ch⟩,⟨0,⟨c,site⟩,a,ch⟩,0):=fun h=>if_neg (fun e=>e h)
 generalize cS ⟨s,l,R,[]⟩ ⟨0,⟨c,site⟩,a,ch⟩=er at hr e1 e2
 generalize cG ⟨s,l,R,[]⟩ ⟨0,⟨c,site⟩,a,ch⟩=v' at hr e2
 generalize doT ⟨s,l,R,[]⟩ ⟨0,⟨c,site⟩,a,ch⟩=p at e1 e2 ⊢
 (repeat (first|refine Spl.t rfl ?_|refine Spl.f rfl ?_))
 (first|refine Sq.go ?_|refine af (Sq.go ?_)|skip)
 (try refine WJ.cut ?_)
 refine aa hct (fun _ _=>rfl) rfl rfl rfl ?_
 (repeat (first|refine Spl.t rfl ?_|refine Spl.f rfl ?_))
 (first|refine Sq.go ?_|refine af (Sq.go ?_)|skip)
 (try refine WJ.cut ?_)
 refine aa hn (fun _ _=>rfl) rfl rfl rfl ?_
 (repeat (first|refine Spl.t rfl ?_|refine Spl.f rfl ?_))
 (first|refine Sq.go ?_|refine af (Sq.go ?_)|skip)
 (try refine WJ.cut ?_)
 refine aa hr (fun _ _=>rfl) rfl rfl rfl ?_
 (repeat (first|refine Spl.t rfl ?_|refine Spl.f rfl ?_))
 (first|refine Sq.go ?_|refine af (Sq.go ?_)|skip)
 (try refine WJ.cut ?_)
 refine Spl.of (fun h1=>?_) (fun h1=>?_)
 ·have h1:er≠0:=by simpa using h1
  rw[e1 h1]
  ((repeat (first|refine Spl.t rfl ?_|refine Spl.f rfl ?_));refine .out (by simp) ?_;refine ai 2 rfl (fun _ _ _ h=>ar 6 h) ?_;exact FinP.open rfl rfl)
 ·have h1:er=0:=by simpa using h1
  rw[e2 h1]
  (repeat (first|refine Spl.t rfl ?_|refine Spl.f rfl ?_))
  (first|refine Sq.go ?_|refine af (Sq.go ?_)|skip)
  (try refine aq _ _ _ _ ?_)
  refine RegP.mixE 0 7 [8,9] rfl (by decide+kernel) ?_
  exact FinP.open rfl rfl
end Go.Proofs.E
namespace Go.Proofs.E
attribute [local irreducible] elems
theorem pE {L:List EL}{k:Int}(h:¬(0≤k∧k<aW L)):cH L k=⟨0,0⟩:=if_neg h
theorem y7 {l:List OP}(h:Dn l){k:Int}(hk:0≤k∧k<aW (aj l)):bp (cH (aj l) k)=true:=by
 have hlt:=ly (aj l) k.toNat (by omega)
 have hx:(aj l)[cw k.toNat (aj l)]?=some (aj l)[cw k.toNat (aj l)]:=by simp
 have e2:cH (aj l) k=(aj l)[cw k.toNat (aj l)].id:=by unfold cH;rw[if_pos hk,hx];rfl
 rw[e2]
 obtain⟨o,ho,he⟩:=(jp h).1 (List.mem_of_getElem? hx)
 rw[he]
 exact d8 (mP h o ho)
set_option maxHeartbeats 1000000 in
theorem xT {s:SS}{l:List OP}(h:isS s l)(R:List OP)(hR:R.length≤100000)(at_:Int)(hat:at_≤9223372036854775807):
 Cv 136 [rvv l R,iv at_] (Bt (dE ⟨s,l,R,[]⟩ at_)):=by
 have hn:=ts h.dn R at_ hat
 have hr:=l8 h R [] (opX ⟨s,l,R,[]⟩ at_) hR
 by_cases hk:0≤at_∧at_<aW (aj l)
 ·have eD:dE ⟨s,l,R,[]⟩ at_=doT ⟨s,l,R,[]⟩ (opX ⟨s,l,R,[]⟩ at_):=if_pos hk
  have hm:=y7 h.dn hk
  rw[eD]
  unfold opX at hr ⊢
  simp only at hr ⊢
  generalize cH (aj l) at_=a at hn hr hm ⊢
  have hne:¬a=⟨0,0⟩:=fun e=>by rw[e]at hm;exact absurd hm (by decide)
  have e1:cS ⟨s,l,R,[]⟩ ⟨1,a,⟨0,0⟩,0⟩≠0→doT ⟨s,l,R,[]⟩ ⟨1,a,⟨0,0⟩,0⟩=(⟨s,l,R,[]⟩,OP0,cS ⟨s,l,R,[]⟩ ⟨1,a,⟨0,0⟩,0⟩):=fun h=>if_pos h
  have e2:cS ⟨s,l,R,[]⟩ ⟨1,a,⟨0,0⟩,0⟩=0→doT ⟨s,l,R,[]⟩ ⟨1,a,⟨0,0⟩,0⟩=(cG ⟨s,l,R,[]⟩ ⟨1,a,⟨0,0⟩,0⟩,⟨1,a,⟨0,0⟩,0⟩,0):=fun h=>if_neg (fun e=>e h)
  generalize cS ⟨s,l,R,[]⟩ ⟨1,a,⟨0,0⟩,0⟩=e at hr e1 e2
  generalize cG ⟨s,l,R,[]⟩ ⟨1,a,⟨0,0⟩,0⟩=v' at hr e2
  generalize doT ⟨s,l,R,[]⟩ ⟨1,a,⟨0,0⟩,0⟩=p at e1 e2 ⊢
  refine ab Tryz.f136 Tryz.func136 rfl rfl fun w H B g0=>?_
  refine aa hn (fun _ _=>rfl) rfl rfl rfl ?_
  (repeat (first|refine Spl.t rfl ?_|refine Spl.f rfl ?_))
  refine aR (O.eqT 3 rfl rfl rfl rfl rfl jb mv (eqR a ⟨0,0⟩)) rfl ?_
  refine Spl.f (decide_eq_false hne) ?_
  (repeat (first|refine Spl.t rfl ?_|refine Spl.f rfl ?_))
  refine aa hr (fun _ _=>rfl) rfl rfl rfl ?_
  (repeat (first|refine Spl.t rfl ?_|refine Spl.f rfl ?_))
  refine Spl.of (fun h1=>?_) (fun h1=>?_)
  ·have h1:e≠0:=by simpa using h1
   rw[e1 h1]
   (repeat (first|refine Spl.t rfl ?_|refine Spl.f rfl ?_))
   refine ai 2 rfl (fun _ _ _ h=>ar 6 h) ?_
   exact FinP.open rfl rfl
  ·have h1:e=0:=by simpa using h1
   rw[e2 h1]
   (repeat (first|refine Spl.t rfl ?_|refine Spl.f rfl ?_))
   refine RegP.mixE 0 7 [4,5] rfl (by decide+kernel) ?_
   exact FinP.open rfl rfl
 ·have eD:dE ⟨s,l,R,[]⟩ at_=(⟨s,l,R,[]⟩,OP0,2):=if_neg hk
  rw[eD]
  rw[pE hk]at hn
  refine ab Tryz.f136 Tryz.func136 rfl rfl fun w H B g0=>?_
  refine aa hn (fun _ _=>rfl) rfl rfl rfl ?_
  (repeat (first|refine Spl.t rfl ?_|refine Spl.f rfl ?_))
  refine aR (O.eqT 3 rfl rfl rfl rfl rfl jb mv (eqR ⟨0,0⟩ ⟨0,0⟩)) rfl ?_
  refine Spl.t (by simp) ?_
  (repeat (first|refine Spl.t rfl ?_|refine Spl.f rfl ?_))
  refine ai 2 rfl (fun _ _ _ h=>ar 6 h) ?_
  exact FinP.open rfl rfl
set_option maxHeartbeats 1000000 in
theorem xR {s:SS}{l:List OP}(h:isS s l)(R:List OP)(hR:R.length≤100000)(hok:∀o,o∈R→aL o=0)(site at_ ch:Int):
 Cv 134 [rvv l R,iv site,iv at_,cv' ch] (Bt (ca ⟨s,l,R,[]⟩ site at_ ch)):=by
 have hlist:=dO h.dn R
 have hlr:=hU h.dn
 have hrk:=jK (aj l) ((aj l).map elD).length (by omega)
 have hct:=uU h.dn (by omega) hok
 have hlv:=live_le (aj l)
 have hra:bx (aj l) (((aj l).map elD).length:Nat)=aW (aj l):=by rw[List.length_map];exact ny _
 rw[hra]at hrk
 have n1:=fun h=>vz (v:=⟨s,l,R,[]⟩) (site:=site) (at_:=at_) (ch:=ch) h
 refine aD Tryz.f134 Tryz.func134 rfl rfl fun w H B g0=>?_
 (try refine WJ.cut ?_)
 (first|refine Sq.go ?_|refine af (Sq.go ?_)|skip)
 (try refine WJ.cut ?_)
 refine aa hlist (fun _ _=>rfl) rfl rfl rfl ?_
 (first|refine Sq.go ?_|refine af (Sq.go ?_)|skip)
 (try refine WJ.cut ?_)
 refine Spl.of (fun a1=>?_) (fun a1=>?_)
 ·rw[n1 (.inl (of_decide_eq_true a1))]
  ((repeat (first|refine Spl.t rfl ?_|refine Spl.f rfl ?_));refine .out (by simp) ?_;refine ai 2 rfl (fun _ _ _ h=>ar 6 h) ?_;exact FinP.open rfl rfl)
 have a1:=of_decide_eq_false a1
 (repeat (first|refine Spl.t rfl ?_|refine Spl.f rfl ?_))
 refine Spl.of (fun a2=>?_) (fun a2=>?_)
 ·rw[n1 (.inr (.inl (of_decide_eq_true a2)))]
  ((repeat (first|refine Spl.t rfl ?_|refine Spl.f rfl ?_));refine .out (by simp) ?_;refine ai 2 rfl (fun _ _ _ h=>ar 6 h) ?_;exact FinP.open rfl rfl)
 have a2:=of_decide_eq_false a2
 (repeat (first|refine Spl.t rfl ?_|refine Spl.f rfl ?_))
 refine Spl.of (fun a3=>?_) (fun a3=>?_)
 ·rw[n1 (.inr (.inr (.inl (of_decide_eq_true a3))))]
  ((repeat (first|refine Spl.t rfl ?_|refine Spl.f rfl ?_));refine .out (by simp) ?_;refine ai 2 rfl (fun _ _ _ h=>ar 6 h) ?_;exact FinP.open rfl rfl)
 have a3:=of_decide_eq_false a3
 (repeat (first|refine Spl.t rfl ?_|refine Spl.f rfl ?_))
 refine aa hrk (fun _ _=>rfl) rfl rfl rfl ?_
 (repeat (first|refine Spl.t rfl ?_|refine Spl.f rfl ?_))
 refine Spl.of (fun a4=>?_) (fun a4=>?_)
 ·rw[n1 (.inr (.inr (.inr (of_decide_eq_true a4))))]
  ((repeat (first|refine Spl.t rfl ?_|refine Spl.f rfl ?_));refine .out (by simp) ?_;refine ai 2 rfl (fun _ _ _ h=>ar 6 h) ?_;exact FinP.open rfl rfl)
 have a4:=of_decide_eq_false a4
 have g1:¬(site<1∨site>1000∨at_<0∨at_>aW (aj l)):=by omega
 (repeat (first|refine Spl.t rfl ?_|refine Spl.f rfl ?_))
 (first|refine Sq.go ?_|refine af (Sq.go ?_)|skip)
 (try refine WJ.cut ?_)
 have n2:(ch<32∨ch>1114111∨55296≤ch∧ch≤57343)→ca ⟨s,l,R,[]⟩ site at_ ch=(⟨s,l,R,[]⟩,OP0,1):=fun c1=>(if_neg g1).trans (if_pos c1)
 refine Spl.of (fun c1=>?_) (fun c1=>?_)
 ·rw[n2 (.inl (of_decide_eq_true c1))]
  ((repeat (first|refine Spl.t rfl ?_|refine Spl.f rfl ?_));refine .out (by simp) ?_;refine ai 2 rfl (fun _ _ _ h=>ar 6 h) ?_;exact FinP.open rfl rfl)
 have c1:=of_decide_eq_false c1
 (repeat (first|refine Spl.t rfl ?_|refine Spl.f rfl ?_))
 refine Spl.of (fun c2=>?_) (fun c2=>?_)
 ·rw[n2 (.inr (.inl (of_decide_eq_true c2)))]
  ((repeat (first|refine Spl.t rfl ?_|refine Spl.f rfl ?_));refine .out (by simp) ?_;refine ai 2 rfl (fun _ _ _ h=>ar 6 h) ?_;exact FinP.open rfl rfl)
 have c2:=of_decide_eq_false c2
 (repeat (first|refine Spl.t rfl ?_|refine Spl.f rfl ?_))
 by_cases c3:55296≤ch∧ch≤57343
 ·rw[n2 (.inr (.inr c3))]
  refine Spl.t (decide_eq_true c3.1) ?_
  (repeat (first|refine Spl.t rfl ?_|refine Spl.f rfl ?_))
  refine Spl.t (decide_eq_true c3.2) ?_
  ((repeat (first|refine Spl.t rfl ?_|refine Spl.f rfl ?_));refine .out (by simp) ?_;refine ai 2 rfl (fun _ _ _ h=>ar 6 h) ?_;exact FinP.open rfl rfl)
 have g2:¬(ch<32∨ch>1114111∨55296≤ch∧ch≤57343):=by omega
 have n3:(4096≤(aj l).length∨oK l R>1048576)→ca ⟨s,l,R,[]⟩ site at_ ch=(⟨s,l,R,[]⟩,OP0,7):=fun c=>(if_neg g1).trans ((if_neg g2).trans (if_pos c))
 have n4:¬(4096≤(aj l).length∨oK l R>1048576)→ca ⟨s,l,R,[]⟩ site at_ ch=doT ⟨s,l,R,[]⟩ (opI ⟨s,l,R,[]⟩ site at_ ch):=fun c=>(if_neg g1).trans ((if_neg g2).trans (if_neg c))
 have hw:IntKind.i64.wrap (at_-1)=at_-1:=ah _ (by omega) (by omega)
 have hn:=ts h.dn R (IntKind.i64.wrap (at_-1)) (by omega)
 have hn0:¬at_>0→cH (aj l) (IntKind.i64.wrap (at_-1))=⟨0,0⟩:=fun h=>pE (by omega)
 have hr:=l8 h R [] (opI ⟨s,l,R,[]⟩ site at_ ch) hR
 unfold opI at hr n4
 simp only at hr n4
 rw[←hw]at hr n4
 generalize cH (aj l) (IntKind.i64.wrap (at_-1))=a at hn hr n4 hn0
 generalize oK l R=c at hct hr n3 n4
 have e1:cS ⟨s,l,R,[]⟩ ⟨0,⟨c,site⟩,a,ch⟩≠0→doT ⟨s,l,R,[]⟩ ⟨0,⟨c,site⟩,a,ch⟩=(⟨s,l,R,[]⟩,OP0,cS ⟨s,l,R,[]⟩ ⟨0,⟨c,site⟩,a,ch⟩):=fun h=>if_pos h
 have e2:cS ⟨s,l,R,[]⟩ ⟨0,⟨c,site⟩,a,ch⟩=0→doT ⟨s,l,R,[]⟩ ⟨0,⟨c,site⟩,a,ch⟩=(cG ⟨s,l,R,[]⟩ ⟨0,⟨c,site⟩,a,ch⟩,⟨0,⟨c,site⟩,a,ch⟩,0):=fun h=>if_neg (fun e=>e h)
 generalize cS ⟨s,l,R,[]⟩ ⟨0,⟨c,site⟩,a,ch⟩=er at hr e1 e2
 generalize cG ⟨s,l,R,[]⟩ ⟨0,⟨c,site⟩,a,ch⟩=v' at hr e2
 generalize doT ⟨s,l,R,[]⟩ ⟨0,⟨c,site⟩,a,ch⟩=p at e1 e2 n4
 by_cases c4:55296≤ch
 ·refine Spl.t (decide_eq_true c4) ?_
  (repeat (first|refine Spl.t rfl ?_|refine Spl.f rfl ?_))
  refine Spl.f (decide_eq_false (fun h=>c3 ⟨c4,h⟩)) ?_
  ((repeat (first|refine Spl.t rfl ?_|refine Spl.f rfl ?_));(first|refine Sq.go ?_|refine af (Sq.go ?_)|skip);(try refine WJ.cut ?_);refine Spl.of (fun c5=>?_) (fun c5=>?_);(have c5:=of_decide_eq_true c5;rw[List.length_map]at c5;rw[n3 (.inl (by omega))];((repeat (first|refine Spl.t rfl ?_|refine Spl.f rfl ?_));refine .out (by simp) ?_;refine ai 2 rfl (fun _ _ _ h=>ar 6 h) ?_;exact FinP.open rfl rfl));(have c5:=of_decide_eq_false c5;rw[List.length_map]at c5;(repeat (first|refine Spl.t rfl ?_|refine Spl.f rfl ?_));refine aa hct (fun _ _=>rfl) rfl rfl rfl ?_;(repeat (first|refine Spl.t rfl ?_|refine Spl.f rfl ?_));refine Spl.of (fun c6=>?_) (fun c6=>?_);(rw[n3 (.inr (of_decide_eq_true c6))];((repeat (first|refine Spl.t rfl ?_|refine Spl.f rfl ?_));refine .out (by simp) ?_;refine ai 2 rfl (fun _ _ _ h=>ar 6 h) ?_;exact FinP.open rfl rfl));(have c6:=of_decide_eq_false c6;rw[n4 (fun h=>by rcases h with h|h;(exact c5 (by omega));(exact c6 h))];(repeat (first|refine Spl.t rfl ?_|refine Spl.f rfl ?_));(first|refine Sq.go ?_|refine af (Sq.go ?_)|skip);(try refine WJ.cut ?_);refine aa hct (fun _ _=>rfl) rfl rfl rfl ?_;(repeat (first|refine Spl.t rfl ?_|refine Spl.f rfl ?_));(first|refine Sq.go ?_|refine af (Sq.go ?_)|skip);(try refine WJ.cut ?_);refine Spl.of (fun c7=>?_) (fun c7=>?_);((repeat (first|refine Spl.t rfl ?_|refine Spl.f rfl ?_));refine aa hn (fun _ _=>rfl) rfl rfl rfl ?_;((repeat (first|refine Spl.t rfl ?_|refine Spl.f rfl ?_));(first|refine Sq.go ?_|refine af (Sq.go ?_)|skip);(try refine WJ.cut ?_);refine aa hr (fun _ _=>rfl) rfl rfl rfl ?_;(repeat (first|refine Spl.t rfl ?_|refine Spl.f rfl ?_));(first|refine Sq.go ?_|refine af (Sq.go ?_)|skip);(try refine WJ.cut ?_);refine Spl.of (fun h1=>?_) (fun h1=>?_);(have h1:er≠0:=(by simpa using h1);rw[e1 h1];((repeat (first|refine Spl.t rfl ?_|refine Spl.f rfl ?_));refine .out (by simp) ?_;refine ai 2 rfl (fun _ _ _ h=>ar 6 h) ?_;exact FinP.open rfl rfl));(have h1:er=0:=(by simpa using h1);rw[e2 h1];(repeat (first|refine Spl.t rfl ?_|refine Spl.f rfl ?_));(first|refine Sq.go ?_|refine af (Sq.go ?_)|skip);(try refine aq _ _ _ _ ?_);refine RegP.mixE 0 7 [8,9] rfl (by decide+kernel) ?_;exact FinP.open rfl rfl)));(have c7:=hn0 (of_decide_eq_false c7);subst c7;((repeat (first|refine Spl.t rfl ?_|refine Spl.f rfl ?_));(first|refine Sq.go ?_|refine af (Sq.go ?_)|skip);(try refine WJ.cut ?_);refine aa hr (fun _ _=>rfl) rfl rfl rfl ?_;(repeat (first|refine Spl.t rfl ?_|refine Spl.f rfl ?_));(first|refine Sq.go ?_|refine af (Sq.go ?_)|skip);(try refine WJ.cut ?_);refine Spl.of (fun h1=>?_) (fun h1=>?_);(have h1:er≠0:=(by simpa using h1);rw[e1 h1];((repeat (first|refine Spl.t rfl ?_|refine Spl.f rfl ?_));refine .out (by simp) ?_;refine ai 2 rfl (fun _ _ _ h=>ar 6 h) ?_;exact FinP.open rfl rfl));(have h1:er=0:=(by simpa using h1);rw[e2 h1];(repeat (first|refine Spl.t rfl ?_|refine Spl.f rfl ?_));(first|refine Sq.go ?_|refine af (Sq.go ?_)|skip);(try refine aq _ _ _ _ ?_);refine RegP.mixE 0 7 [8,9] rfl (by decide+kernel) ?_;exact FinP.open rfl rfl))))))
 ·refine Spl.f (decide_eq_false c4) ?_
  ((repeat (first|refine Spl.t rfl ?_|refine Spl.f rfl ?_));(first|refine Sq.go ?_|refine af (Sq.go ?_)|skip);(try refine WJ.cut ?_);refine Spl.of (fun c5=>?_) (fun c5=>?_);(have c5:=of_decide_eq_true c5;rw[List.length_map]at c5;rw[n3 (.inl (by omega))];((repeat (first|refine Spl.t rfl ?_|refine Spl.f rfl ?_));refine .out (by simp) ?_;refine ai 2 rfl (fun _ _ _ h=>ar 6 h) ?_;exact FinP.open rfl rfl));(have c5:=of_decide_eq_false c5;rw[List.length_map]at c5;(repeat (first|refine Spl.t rfl ?_|refine Spl.f rfl ?_));refine aa hct (fun _ _=>rfl) rfl rfl rfl ?_;(repeat (first|refine Spl.t rfl ?_|refine Spl.f rfl ?_));refine Spl.of (fun c6=>?_) (fun c6=>?_);(rw[n3 (.inr (of_decide_eq_true c6))];((repeat (first|refine Spl.t rfl ?_|refine Spl.f rfl ?_));refine .out (by simp) ?_;refine ai 2 rfl (fun _ _ _ h=>ar 6 h) ?_;exact FinP.open rfl rfl));(have c6:=of_decide_eq_false c6;rw[n4 (fun h=>by rcases h with h|h;(exact c5 (by omega));(exact c6 h))];(repeat (first|refine Spl.t rfl ?_|refine Spl.f rfl ?_));(first|refine Sq.go ?_|refine af (Sq.go ?_)|skip);(try refine WJ.cut ?_);refine aa hct (fun _ _=>rfl) rfl rfl rfl ?_;(repeat (first|refine Spl.t rfl ?_|refine Spl.f rfl ?_));(first|refine Sq.go ?_|refine af (Sq.go ?_)|skip);(try refine WJ.cut ?_);refine Spl.of (fun c7=>?_) (fun c7=>?_);((repeat (first|refine Spl.t rfl ?_|refine Spl.f rfl ?_));refine aa hn (fun _ _=>rfl) rfl rfl rfl ?_;((repeat (first|refine Spl.t rfl ?_|refine Spl.f rfl ?_));(first|refine Sq.go ?_|refine af (Sq.go ?_)|skip);(try refine WJ.cut ?_);refine aa hr (fun _ _=>rfl) rfl rfl rfl ?_;(repeat (first|refine Spl.t rfl ?_|refine Spl.f rfl ?_));(first|refine Sq.go ?_|refine af (Sq.go ?_)|skip);(try refine WJ.cut ?_);refine Spl.of (fun h1=>?_) (fun h1=>?_);(have h1:er≠0:=(by simpa using h1);rw[e1 h1];((repeat (first|refine Spl.t rfl ?_|refine Spl.f rfl ?_));refine .out (by simp) ?_;refine ai 2 rfl (fun _ _ _ h=>ar 6 h) ?_;exact FinP.open rfl rfl));(have h1:er=0:=(by simpa using h1);rw[e2 h1];(repeat (first|refine Spl.t rfl ?_|refine Spl.f rfl ?_));(first|refine Sq.go ?_|refine af (Sq.go ?_)|skip);(try refine aq _ _ _ _ ?_);refine RegP.mixE 0 7 [8,9] rfl (by decide+kernel) ?_;exact FinP.open rfl rfl)));(have c7:=hn0 (of_decide_eq_false c7);subst c7;((repeat (first|refine Spl.t rfl ?_|refine Spl.f rfl ?_));(first|refine Sq.go ?_|refine af (Sq.go ?_)|skip);(try refine WJ.cut ?_);refine aa hr (fun _ _=>rfl) rfl rfl rfl ?_;(repeat (first|refine Spl.t rfl ?_|refine Spl.f rfl ?_));(first|refine Sq.go ?_|refine af (Sq.go ?_)|skip);(try refine WJ.cut ?_);refine Spl.of (fun h1=>?_) (fun h1=>?_);(have h1:er≠0:=(by simpa using h1);rw[e1 h1];((repeat (first|refine Spl.t rfl ?_|refine Spl.f rfl ?_));refine .out (by simp) ?_;refine ai 2 rfl (fun _ _ _ h=>ar 6 h) ?_;exact FinP.open rfl rfl));(have h1:er=0:=(by simpa using h1);rw[e2 h1];(repeat (first|refine Spl.t rfl ?_|refine Spl.f rfl ?_));(first|refine Sq.go ?_|refine af (Sq.go ?_)|skip);(try refine aq _ _ _ _ ?_);refine RegP.mixE 0 7 [8,9] rfl (by decide+kernel) ?_;exact FinP.open rfl rfl))))))
end Go.Proofs.E
namespace Go.Proofs.E
attribute [local irreducible] elems
theorem Fw:∀{a b:List OP},Dn (a++b)→Dn a:=by
 intro a b h
 generalize hl:a++b=l at h
 induction h generalizing a b with
 |nil=>rw[(List.append_eq_nil_iff.1 hl).1];exact .nil
 |@snoc l o h hw ih=>
  rcases List.eq_nil_or_concat b with hb|⟨c,x,hb⟩
  ·subst hb
   rw[List.append_nil]at hl
   rw[hl];exact .snoc h hw
  ·rw[hb,List.concat_eq_append,←List.append_assoc]at hl
   exact ih (List.append_inj' hl rfl).1
theorem wm {l:List OP}(h:Dn l)(i:Nat):Dn (l.take i):=Fw (b:=l.drop i) (by rw[List.take_append_drop];exact h)
theorem wA {l:List OP}(h:Dn l){i:Nat}{x:OP}(hx:l[i]?=some x):(x.k=0→bh (l.take (i+1))=(bh (l.take i)).add (TL.one x.i)∧(bh (l.take i)).n+1≤4096∧bp x.i=true)∧(x.k≠0→bh (l.take (i+1))=bh (l.take i)):=by
 have hsn:=bJ hx
 refine⟨fun hk=>?_,fun hk=>by rw[hsn,nm hk]⟩
 refine⟨by rw[hsn,nn hk],?_,d8 (h.is.ok x (List.mem_of_getElem? hx))⟩
 have:=(wm h (i+1)).is.len
 rw[hsn,b7 hk]at this
 rw[yq];simp at this;omega
end Go.Proofs.E
end
