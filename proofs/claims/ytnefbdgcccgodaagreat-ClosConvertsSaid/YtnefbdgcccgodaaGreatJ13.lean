/- Texts of ours, joined and written short by a program of ours. -/
import Derived.Test.YtnefbdgcccgodaaGreatJ12
set_option linter.unusedVariables false
set_option linter.unusedSimpArgs false
namespace Go.Gr
open Go.Abs Go.Proofs
section
variable (L:Lnk)
theorem ziE(x a:ByteArray)(b:Typ):∀(l:List ByteArray) (m:List Typ),l.length=m.length->zbL x (l++[a]) (m++[b])=zbL x l m++(if a=x then []else [(a,b)])
 |[],[],_=>by simp only[List.nil_append,zbL]
 |n::l,k::m,h=>by
  simp only[List.cons_append,zbL]
  rw[ziE x a b l m (by simpa using h)]
  split<;>simp
theorem zjS(x:ByteArray):∀(l:List ByteArray) (m:List Typ),(zbL x l m).length<=l.length
 |[],_=>by simp[zbL]
 |_::_,[]=>by simp[zbL]
 |n::l,k::m=>by
  have:=zjS x l m
  rw[zbL]
  split<;>simp<;>omega
theorem zt4:wfT (bT 5):=by
 refine(zaW _).2 ⟨rfl,fun x h=>(by cases h),.inr (.inl ⟨rfl,rfl,by decide,fun x h=>(by cases h)⟩)⟩
theorem zz5(n a b:Nod)(hk:n.kids=[a,b])(ia ib:Inf)(ha:PInf L a ia)(hb:PInf L b ib):PInf L n (zdw n ia ib):=fun env s k he hs=>by
 have hn:nsz n=nsz a+nsz b+1:=by rw[za6,hk];simp[nszs]
 have h1:=ha env s (2+8*nsz b+k) (he.less (by omega)) (hs.less (by omega))
 have h2:=znG (b:=8*nsz b+1+k) (bT 5) (zt4) n.line n.col (ia env s) (h1.1.less (by omega)) h1.2
 unfold zdw
 simp only
 generalize anyC (bT 5) n.line n.col (ia env s)=r at*
 by_cases q:r.1.2.kind≠5
 ·rw[if_pos q]
  exact⟨zbo (h2.1.less (by omega)) _ _ _,zbh⟩
 ·rw[if_neg q]
  have h3:=hb env r.2 k (he.less (by omega)) (h2.1.less (by omega))
  exact zgh h3.1 _ _ _
theorem zv0{t:Typ}(h:wfT t)(k:t.kind=5):t.names.length=t.kids.length:=by
 rcases((zaW t).1 h).2.2 with⟨_,q,_,_⟩|⟨_,q,_⟩|⟨q,_,_⟩|⟨q,_,_⟩<;>omega
abbrev fldT(n:Nod)(j:Nat):List (Nat × AV):=[(14,.c (.d (.int .i64 j))),(13,.c (.ptr 19 0)),(11,.c (.ptr 18 0)),(9,.c (.ptr 17 0)),(8,.c (.ptr 16 0)),(7,.c (.ptr 13 0)),(6,.c (.ptr 12 0)),(4,.c (.d (.rp n.enc 0))),(0,.c (.ptr 0 0))]
abbrev fldB(s:CS)(P:List Blk)(x y:Cor)(xt:Typ)(A:List (ByteArray × Typ)):List Blk:=[ckBx L s 2 14 4,tbB 256 s.tab.length 15,funA s.funs,.dead,diaA s.bad,.dead]++(P++[.box [.d (.int .i64 0),.d (.int .i64 0),.d (.str (bs [])),.d (.sl true 1 []),.d (.sl true 1 []),.d (.sl true 4 []),.d (.sl true 5 []),.d (.sl true 8 [])],.box [.d (.int .i64 0),.d (.str (bs [])),.d (.sl true 1 []),.d (.sl true 4 [])],sitA s.sites,tabA s.tab,.box (x.enc.map .d),.box (xt.enc.map .d),.box (y.enc.map .d),.box [.d (.int .i64 5),.d (.str (bs [])),.msl 1 20 0 A.length,.msl 4 21 0 A.length],strA (A.map (·.1)),arrT (A.map (·.2))])
theorem take_len{α:Type}(l:List α)(n:Nat)(h:l.length=n):List.take n l=l:=List.take_of_length_le (by omega)
set_option maxRecDepth 20000 in
set_option maxHeartbeats 4000000 in
theorem zv1(n a b:Nod)(hk:n.kids=[a,b])(ia ib:Inf)(ha:zbC L a ia)(hb:zbC L b ib):MInf L 84 n (zdw n ia ib):=fun env s k he hs=>by
 refine zr6 ⟨by simp,by simp,by simp,by simp,by simp,by simp,by simp[live]⟩ fun ts hts ok hbk c hN hp=>?_
 obtain⟨t,u,v,w,x,y,rfl⟩:=zaV hts
 have hn:nsz n=nsz a+nsz b+1:=by rw[za6,hk];simp[nszs]
 have hb0:=zaB 0
 have hb5:=zaB 5
 have m1:=ha.1 env s (2+8*nsz b+k) (he.less (by omega)) (hs.less (by omega))
 have p1:=ha.2 env s (2+8*nsz b+k) (he.less (by omega)) (hs.less (by omega))
 unfold zdw
 simp only
 generalize ia env s=r1 at*
 unfold zlg
 by_cases t0:r1.1.2.kind=0
 ·obtain⟨X,eX⟩:∃X,anyC (bT 5) n.line n.col r1=X:=⟨_,rfl⟩
  have p2:=znG (b:=8*nsz b+1+k) (bT 5) (zt4) n.line n.col r1 (p1.1.less (by omega)) p1.2
  rw[eX]at p2⊢
  have m2:=zeK L r1.1.1 r1.1.2 (bT 5) n r1.2 (by have:=p1.1.sites;omega)
  unfold anyC at eX
  rw[if_pos t0]at eX
  have eX1:(zaT r1.1.1 r1.1.2 (bT 5) n.line n.col r1.2).1=X.1.1:=by rw[<-eX]
  have eX2:(zaT r1.1.1 r1.1.2 (bT 5) n.line n.col r1.2).2=X.2:=by rw[<-eX]
  have eX3:X.1.2=bT 5:=by rw[<-eX]
  rw[eX1,eX2]at m2
  clear eX eX1 eX2
  have k5:¬X.1.2.kind≠5:=by rw[eX3];decide
  rw[if_neg k5]
  have m3:=hb.1 env X.2 k (he.less (by omega)) (p2.1.less (by omega))
  have p3:=hb.2 env X.2 k (he.less (by omega)) (p2.1.less (by omega))
  generalize ib env X.2=r3 at*
  rw[<-eX3]at hb5
  rw[<-eX3]at m2
  have k5:X.1.2.kind=5:=by rw[eX3];try rfl
  have hl:=zv0 p2.2 k5
  have hl2:=zbF p2.2
  simp[hk]
  refine zaa.mk [0,1,2,3,4,5] m1 (by simp) ?_
  simp[t0]
  refine zac.mk hb5 ?_
  simp
  refine zaa.mk [0,1,2,14,4,15] m2 (by simp) ?_
  simp[k5,hk]
  refine zaa.mk [0,1,2,19,4,15] m3 (by simp) ?_
  simp[hk]
  have e0:zbL n.text (X.1.2.names.take 0) (X.1.2.kids.take 0)=[]:=rfl
  refine W.loop zab hp (fun j:Nat=>j<=X.1.2.names.length) (fldT n) (fun j=>fldB L r3.2 [.pin t 0,.pin u 1,.pin v 2,.pin w 3,.pin x 4,.pin y 5] X.1.1 r3.1.1 X.1.2 ((n.text,r3.1.2)::zbL n.text (X.1.2.names.take j) (X.1.2.kids.take j))) (fun j=>X.1.2.names.length-j) 0 [0,1,2,3,4,5,6,7,8,9,10,11,12,13,20,21,16,17,22,26,24,25] (by simp) (by simp[encS,zbL]) fun j h1=>?_
  unfold lp_gc_field_0
  simp
  refine gd.mk (fun h=>?_) (fun h=>?_)
  ·have hj:j<X.1.2.names.length:=by simpa using h
   have hj2:j<X.1.2.kids.length:=by omega
   obtain⟨z,hz⟩:∃z,X.1.2.names[j]=z:=⟨_,rfl⟩
   obtain⟨q,hq⟩:∃q,X.1.2.kids[j]=q:=⟨_,rfl⟩
   have tk1:X.1.2.names.take (j+1)=X.1.2.names.take j++[z]:=by rw[List.take_succ_eq_append_getElem hj,hz]
   have tk2:X.1.2.kids.take (j+1)=X.1.2.kids.take j++[q]:=by rw[List.take_succ_eq_append_getElem hj2,hq]
   have rs:=ziE n.text z q (X.1.2.names.take j) (X.1.2.kids.take j) (by rw[List.length_take,List.length_take];omega)
   rw[<-tk1,<-tk2]at rs
   have rl:=zjS n.text (X.1.2.names.take j) (X.1.2.kids.take j)
   rw[List.length_take]at rl
   have hw:=wrap_i64 (n:=(j:Int)+1) (by omega) (by omega)
   simp[hj,hz]
   refine⟨by decide,?_⟩
   by_cases e:z=n.text
   ·rw[if_pos e,List.append_nil]at rs
    simp[e]
    refine Abs.Next.mk (j+1) [0,1,2,3,4,5,6,7,8,9,10,11,12,13,14,15,16,17,18,19,20,21] (by omega) (by omega) ?_
    simp only[fldB,rs]
    simp[hw]
   ·rw[if_neg e]at rs
    generalize hA:zbL n.text (X.1.2.names.take j) (X.1.2.kids.take j)=A at*
    simp[e,hj,hz,hj2,hq]
    refine⟨by omega,by decide,by omega,by decide,?_⟩
    refine Abs.Next.mk (j+1) [0,1,2,3,4,5,6,7,8,9,10,11,12,13,14,15,16,17,18,19,22,23] (by omega) (by omega) ?_
    simp[hw,rs]
    refine⟨?_,?_⟩
    ·rw[take_len _ _ (by simp[encS])];simp[encS]
    ·rw[take_len _ _ (by simp)]
  have hj:j=X.1.2.names.length:=by simp at h;omega
  subst hj
  rw[List.take_length,hl,List.take_length]
  generalize zbL n.text X.1.2.names X.1.2.kids=B at*
  have z1:List.take (B.length+1) (encS (n.text::List.map (fun x=>x.1) B))=encS (n.text::List.map (fun x=>x.1) B):=take_len _ _ (by simp[encS])
  have z2:List.take B.length (List.map (Typ.enc∘fun x=>x.2) B)=List.map (Typ.enc∘fun x=>x.2) B:=take_len _ _ (by simp)
  have m4:=zd5 L (.mk 5 (bs []) (((n.text,r3.1.2)::B).map (·.1)) (((n.text,r3.1.2)::B).map (·.2))) n r3.2
  generalize zbf (.mk 5 (bs []) (((n.text,r3.1.2)::B).map (·.1)) (((n.text,r3.1.2)::B).map (·.2))) n.line n.col r3.2=r4 at*
  simp[hk]
  refine fzK.mk [20,21] ?_
  simp[zak,z1,z2]
  refine zaa.mk [0,1,2,14,4,15] m4 (by simp[zan]) ?_
  simp
  refine⟨by decide,?_⟩
  exact EndM.mkE [0,1,2,9,4,11,14,15] [6,7,8,9,10,11] (by simp[cK,cN,cT,zaj,zan,fnT,zap,zaf,noC,encI,encS,AV.erds,AV.erd,D.erdL,D.erd,D.erdE,kid0,kid1])
 have eX:anyC (bT 5) n.line n.col r1=r1:=by unfold anyC;rw[if_neg t0]
 have p2:SOk L r1.2 (8*nsz b+1+k)/\wfT r1.1.2:=⟨p1.1.less (by omega),p1.2⟩
 rw[eX]
 by_cases k5:r1.1.2.kind=5
 rotate_left
 ·rw[if_pos k5]
  have m2:=zb5 L n 17 r1.2
  generalize zaL n.line n.col 17 r1.2=r2 at*
  simp[hk]
  refine zaa.mk [0,1,2,3,4,5] m1 (by simp) ?_
  simp[t0,k5]
  refine zaa.mk [0,1,2,14,4,15] m2 (by simp) ?_
  simp
  refine zac.mk hb0 ?_
  simp
  exact EndM.mkE [0,1,2,9,4,11,14,15] [6,7,8,9,10,11] (by simp[cK,cN,cT,zaj,zan,fnT,zap,zaf,noC,encI,encS,AV.erds,AV.erd,D.erdL,D.erd,D.erdE,kid0,kid1])
 rw[if_neg (fun z=>z k5)]
 obtain⟨X,hX⟩:∃X,X=r1:=⟨_,rfl⟩
 subst hX
 have m3:=hb.1 env X.2 k (he.less (by omega)) (p2.1.less (by omega))
 have p3:=hb.2 env X.2 k (he.less (by omega)) (p2.1.less (by omega))
 generalize ib env X.2=r3 at*
 have hl:=zv0 p2.2 k5
 have hl2:=zbF p2.2
 simp[hk]
 refine zaa.mk [0,1,2,3,4,5] m1 (by simp) ?_
 simp[t0,k5,hk]
 refine zaa.mk [0,1,2,14,4,15] m3 (by simp) ?_
 simp[hk]
 have e0:zbL n.text (X.1.2.names.take 0) (X.1.2.kids.take 0)=[]:=rfl
 refine W.loop zab hp (fun j:Nat=>j<=X.1.2.names.length) (fldT n) (fun j=>fldB L r3.2 [.pin t 0,.pin u 1,.pin v 2,.pin w 3,.pin x 4,.pin y 5] X.1.1 r3.1.1 X.1.2 ((n.text,r3.1.2)::zbL n.text (X.1.2.names.take j) (X.1.2.kids.take j))) (fun j=>X.1.2.names.length-j) 0 [0,1,2,3,4,5,6,7,8,9,10,11,12,13,18,19,16,17,20,24,22,23] (by simp) (by simp[encS,zbL]) fun j h1=>?_
 unfold lp_gc_field_0
 simp
 refine gd.mk (fun h=>?_) (fun h=>?_)
 ·have hj:j<X.1.2.names.length:=by simpa using h
  have hj2:j<X.1.2.kids.length:=by omega
  obtain⟨z,hz⟩:∃z,X.1.2.names[j]=z:=⟨_,rfl⟩
  obtain⟨q,hq⟩:∃q,X.1.2.kids[j]=q:=⟨_,rfl⟩
  have tk1:X.1.2.names.take (j+1)=X.1.2.names.take j++[z]:=by rw[List.take_succ_eq_append_getElem hj,hz]
  have tk2:X.1.2.kids.take (j+1)=X.1.2.kids.take j++[q]:=by rw[List.take_succ_eq_append_getElem hj2,hq]
  have rs:=ziE n.text z q (X.1.2.names.take j) (X.1.2.kids.take j) (by rw[List.length_take,List.length_take];omega)
  rw[<-tk1,<-tk2]at rs
  have rl:=zjS n.text (X.1.2.names.take j) (X.1.2.kids.take j)
  rw[List.length_take]at rl
  have hw:=wrap_i64 (n:=(j:Int)+1) (by omega) (by omega)
  simp[hj,hz]
  refine⟨by decide,?_⟩
  by_cases e:z=n.text
  ·rw[if_pos e,List.append_nil]at rs
   simp[e]
   refine Abs.Next.mk (j+1) [0,1,2,3,4,5,6,7,8,9,10,11,12,13,14,15,16,17,18,19,20,21] (by omega) (by omega) ?_
   simp only[fldB,rs]
   simp[hw]
  ·rw[if_neg e]at rs
   generalize hA:zbL n.text (X.1.2.names.take j) (X.1.2.kids.take j)=A at*
   simp[e,hj,hz,hj2,hq]
   refine⟨by omega,by decide,by omega,by decide,?_⟩
   refine Abs.Next.mk (j+1) [0,1,2,3,4,5,6,7,8,9,10,11,12,13,14,15,16,17,18,19,22,23] (by omega) (by omega) ?_
   simp[hw,rs]
   refine⟨?_,?_⟩
   ·rw[take_len _ _ (by simp[encS])];simp[encS]
   ·rw[take_len _ _ (by simp)]
 have hj:j=X.1.2.names.length:=by simp at h;omega
 subst hj
 rw[List.take_length,hl,List.take_length]
 generalize zbL n.text X.1.2.names X.1.2.kids=B at*
 have z1:List.take (B.length+1) (encS (n.text::List.map (fun x=>x.1) B))=encS (n.text::List.map (fun x=>x.1) B):=take_len _ _ (by simp[encS])
 have z2:List.take B.length (List.map (Typ.enc∘fun x=>x.2) B)=List.map (Typ.enc∘fun x=>x.2) B:=take_len _ _ (by simp)
 have m4:=zd5 L (.mk 5 (bs []) (((n.text,r3.1.2)::B).map (·.1)) (((n.text,r3.1.2)::B).map (·.2))) n r3.2
 generalize zbf (.mk 5 (bs []) (((n.text,r3.1.2)::B).map (·.1)) (((n.text,r3.1.2)::B).map (·.2))) n.line n.col r3.2=r4 at*
 simp[hk]
 refine fzK.mk [20,21] ?_
 simp[zak,z1,z2]
 refine zaa.mk [0,1,2,14,4,15] m4 (by simp[zan]) ?_
 simp
 refine⟨by decide,?_⟩
 exact EndM.mkE [0,1,2,9,4,11,14,15] [6,7,8,9,10,11] (by simp[cK,cN,cT,zaj,zan,fnT,zap,zaf,noC,encI,encS,AV.erds,AV.erd,D.erdL,D.erd,D.erdE,kid0,kid1])
end
end Go.Gr
namespace Go.Gr
open Go.Abs Go.Proofs
section
variable (L:Lnk)
def zfM(l:List ByteArray):Nat->Bool
 |0=>false
 |i+1=>zfM l i||(l.take i).any (fun m=>decide (some m=l[i]?))
def ze2(l:List ByteArray)(i j:Nat):Bool:=zfM l i||(l.take j).any (fun m=>decide (some m=l[i]?))
theorem zsJ(l:List ByteArray):∀i,i<=l.length->(zfM l i||dupS (l.take i) (l.drop i))=dupS [] l
 |0,_=>by simp[zfM]
 |i+1,h=>by
  have hi:i<l.length:=by omega
  rw[<-zsJ l i (by omega),List.drop_eq_getElem_cons hi,dupS,zfM,List.take_succ_eq_append_getElem hi]
  simp[Bool.or_assoc,hi]
theorem zvy(l:List ByteArray):zfM l l.length=dupS [] l:=by
 have:=zsJ l l.length (by omega)
 rw[List.drop_length]at this
 simpa[dupS]using this
def dupC(n:Nod)(s:CS)(q:Bool):CS:=if q=true then zaL n.line n.col 8 s else s
theorem zvz(n:Nod)(s:CS)(q:Bool):zaL n.line n.col 8 (dupC n s q)=dupC n s true:=by
 unfold dupC
 cases q with
 |false=>simp
 |true=>
  simp only[if_pos]
  unfold zaL
  by_cases h:s.e=0
  ·rw[if_pos h];try rfl
  ·rw[if_neg h,if_neg h]
theorem zsK{L:Lnk}{n:Nod}{s:CS}{b:Nat}(h:SOk L s b)(q:Bool):SOk L (dupC n s q) b:=by
 unfold dupC
 split
 ·exact zbo h _ _ _
 ·exact h
theorem zsL(n:Nod)(ks:Env->CS->(List Cor × List Typ) × CS)(env:Env)(s:CS):recC n ks env s=((.mk 8 0 (bs []) [] n.names [] [] (ks env (dupC n s (dupS [] n.names))).1.1,(zbf (.mk 5 (bs []) n.names (ks env (dupC n s (dupS [] n.names))).1.2) n.line n.col (ks env (dupC n s (dupS [] n.names))).2).1),(zbf (.mk 5 (bs []) n.names (ks env (dupC n s (dupS [] n.names))).1.2) n.line n.col (ks env (dupC n s (dupS [] n.names))).2).2):=rfl
theorem zqG:∀l:List Nod,l.length<=nszs l
 |[]=>by simp
 |n::l=>by
  have:=zqG l
  have:=za6 n
  rw[nszs,List.length_cons];omega
theorem zoI:∀(l:List Nod) (j:Nat),nszs (l.drop j)<=nszs l
 |[],j=>by simp
 |n::l,0=>by simp
 |n::l,j+1=>by
  have:=zoI l j
  rw[List.drop_succ_cons,nszs];omega
theorem zqH(env:Env):∀(l:List Nod),(∀x,x∈l->PInf L x (zao L x))->EOk env (nszs l)->∀(s:CS) (b:Nat),SOk L s (8*nszs l+b)->SOk L (zaN L l env s).2 b
 |[],_,_,s,b,h=>by rw[zaN];exact h.less (by omega)
 |n::l,hl,he,s,b,h=>by
  rw[nszs]at he h
  have h1:=hl n (by simp) env s (8*nszs l+b) (he.less (by omega)) (h.less (by omega))
  rw[zaN]
  exact zqH env l (fun x hx=>hl x (by simp[hx])) (he.less (by omega)) _ b h1.1
theorem zAC(n:Nod)(hks:∀x,x∈n.kids->PInf L x (zao L x)):PInf L n (recC n (zaN L n.kids)):=fun env s k he hs=>by
 rw[za6]at he hs
 have h1:=zqH L env n.kids hks (he.less (by omega)) (dupC n s (dupS [] n.names)) k (zsK (hs.less (by omega)) _)
 rw[zsL]
 exact zgh h1 _ _ _
abbrev arrC(l:List Cor):Blk:=.arr 8 ((l.map Cor.enc).map (·.map .d))
abbrev rcT0(n:Nod)(env:Env)(i:Nat):List (Nat × AV):=[(8,.c (.d (.int .i64 i))),(7,.c (.ptr 13 0)),(6,.c (.ptr 12 0)),(4,.c (.d (.rp n.enc 0))),(2,.c (.d (.sl false 5 (env.map encV)))),(0,.c (.ptr 0 0))]
abbrev rcB0(P:List Blk)(S:CS):List Blk:=ck6 L S++(P++[.box [.d (.int .i64 0),.d (.int .i64 0),.d (.str (bs [])),.d (.sl true 1 []),.d (.sl true 1 []),.d (.sl true 4 []),.d (.sl true 5 []),.d (.sl true 8 [])],.box [.d (.int .i64 0),.d (.str (bs [])),.d (.sl true 1 []),.d (.sl true 4 [])]])
abbrev rcT(n:Nod)(env:Env)(j:Nat):List (Nat × AV):=[(12,.c (.d (.int .i64 j))),(11,.c (.ptr 11 0)),(10,.c (.ptr 10 0)),(7,.c (.ptr 9 0)),(6,.c (.ptr 8 0)),(4,.c (.d (.rp n.enc 0))),(2,.c (.d (.sl false 5 (env.map encV)))),(0,.c (.ptr 0 0))]
abbrev rcB(n:Nod)(P:List Blk)(S:CS)(cs:List Cor)(ts:List Typ):List Blk:=[ckBx L S 2 12 3,tbB 256 S.tab.length 13,funA S.funs,diaA S.bad]++(P++[.box [.d (.int .i64 0),.d (.int .i64 0),.d (.str (bs [])),.d (.sl true 1 []),.d (.sl true 1 []),.d (.sl true 4 []),.d (.sl true 5 []),.d (.sl true 8 [])],.box [.d (.int .i64 0),.d (.str (bs [])),.d (.sl true 1 []),.d (.sl true 4 [])],.box [.d (.int .i64 8),.d (.int .i64 0),.d (.str (bs [])),.d (.sl true 1 []),.d (.sl false 1 (encS n.names)),.d (.sl true 4 []),.d (.sl true 5 []),.msl 8 14 0 cs.length],.box [.d (.int .i64 5),.d (.str (bs [])),.d (.sl false 1 (encS n.names)),.msl 4 15 0 ts.length],sitA S.sites,tabA S.tab,arrC cs,arrT ts])
set_option maxRecDepth 20000 in
set_option maxHeartbeats 4000000 in
theorem ztU(n:Nod)(hnm:n.names.length<=1000000)(hks:∀x,x∈n.kids->zbC L x (zao L x)):MInf L 82 n (recC n (zaN L n.kids)):=fun env s k he hs=>by
 refine zq7 ⟨by simp,by simp,by simp,by simp,by simp,by simp,by simp[live]⟩ fun ts hts ok hbk c hN hp=>?_
 obtain⟨t,u,v,w,x,y,rfl⟩:=zaV hts
 have hn:=za6 n
 rw[zsL]
 unfold zj3
 simp
 refine W.loop zab hp (fun i:Nat=>i<=n.names.length) (rcT0 n env) (fun i=>rcB0 L [.pin t 0,.pin u 1,.pin v 2,.pin w 3,.pin x 4,.pin y 5] (dupC n s (zfM n.names i))) (fun i=>n.names.length-i) 0 [0,1,2,3,4,5,6,7,8,9,10,11,12,13] (by simp) (by simp[zfM,dupC]) fun i h1=>?_
 unfold zhV
 simp
 refine gd.mk (fun h=>?_) (fun h=>?_)
 ·have hi:i<n.names.length:=by simpa using h
  obtain⟨z,hz⟩:∃z,n.names[i]=z:=⟨_,rfl⟩
  have hz2:n.names[i]?=some z:=by rw[List.getElem?_eq_getElem hi,hz]
  try simp
  refine W.loop zab hp (fun j:Nat=>j<=i) (fun j=>(9,.c (.d (.int .i64 j)))::rcT0 n env i) (fun j=>rcB0 L [.pin t 0,.pin u 1,.pin v 2,.pin w 3,.pin x 4,.pin y 5] (dupC n s (ze2 n.names i j))) (fun j=>i-j) 0 [0,1,2,3,4,5,6,7,8,9,10,11,12,13] (by simp) (by simp[ze2]) fun j h2=>?_
  unfold lp_gc_record_2
  simp
  refine gd.mk (fun h=>?_) (fun h=>?_)
  ·have hj:j<i:=by simpa using h
   have hj2:j<n.names.length:=by omega
   obtain⟨q,hq⟩:∃q,n.names[j]=q:=⟨_,rfl⟩
   have hw:=wrap_i64 (n:=(j:Int)+1) (by omega) (by omega)
   have m:=zb5 L n 8 (dupC n s (ze2 n.names i j))
   rw[zvz]at m
   have e:ze2 n.names i (j+1)=(ze2 n.names i j||decide (q=z)):=by
    unfold ze2
    rw[List.take_succ_eq_append_getElem hj2,hz2,hq]
    simp[Bool.or_assoc]
   by_cases c0:q=z
   ·have e2:ze2 n.names i (j+1)=true:=by rw[e];simp[c0]
    simp[hj2,hq,hz,hi,c0]
    refine⟨by decide,?_⟩
    refine zaa.mk [0,1,2,3,4,5] m (by simp) ?_
    simp
    refine Abs.Next.mk (j+1) [0,1,2,3,4,5,6,7,8,9,10,11,12,13] (by omega) (by omega) ?_
    simp[hw,e2]
   ·have e2:ze2 n.names i (j+1)=ze2 n.names i j:=by rw[e];simp[c0]
    simp[hj2,hq,hz,hi,c0]
    refine⟨by decide,?_⟩
    refine Abs.Next.mk (j+1) [0,1,2,3,4,5,6,7,8,9,10,11,12,13] (by omega) (by omega) ?_
    simp[hw,e2]
  ·have hj:j=i:=by simp at h;omega
   subst hj
   have hw:=wrap_i64 (n:=(j:Int)+1) (by omega) (by omega)
   have e:ze2 n.names j j=zfM n.names (j+1):=rfl
   simp
   refine Abs.Next.mk (j+1) [0,1,2,3,4,5,6,7,8,9,10,11,12,13] (by omega) (by omega) ?_
   simp[hw,e]
 have hi:i=n.names.length:=by simp at h;omega
 subst hi
 rw[zvy]
 have s1:=zsK (n:=n) (b:=8*nszs n.kids+k) (hs.less (by omega)) (dupS [] n.names)
 generalize dupC n s (dupS [] n.names)=s1' at*
 obtain⟨R,hR⟩:∃R,zaN L n.kids env s1'=R:=⟨_,rfl⟩
 rw[hR]
 have hkl:=zqG n.kids
 have hel:=he.len
 simp
 refine owK.mk [.c 14 7,.c 15 3] ?_
 simp
 refine W.loop zab hp (fun Y:Nat × CS × List Cor × List Typ=>Y.1<=n.kids.length/\SOk L Y.2.1 (8*nszs (n.kids.drop Y.1)+k)/\Y.2.2.1.length=Y.1/\Y.2.2.2.length=Y.1/\((Y.2.2.1++(zaN L (n.kids.drop Y.1) env Y.2.1).1.1,Y.2.2.2++(zaN L (n.kids.drop Y.1) env Y.2.1).1.2),(zaN L (n.kids.drop Y.1) env Y.2.1).2)=R) (fun Y=>rcT n env Y.1) (fun Y=>rcB L n [.pin t 0,.pin u 1,.pin v 2,.pin x 3] Y.2.1 Y.2.2.1 Y.2.2.2) (fun Y=>n.kids.length-Y.1) (0,s1',[],[]) [0,1,2,4,6,7,8,10,12,13,14,15,3,5,16,17] ⟨by simp,by simpa using s1,by simp,by simp,by simpa using hR⟩ (by simp) fun⟨j,S,cs,ts⟩ ⟨i1,i2,i3,i4,i5⟩=>?_
 unfold zhW
 simp only at i1 i2 i3 i4 i5
 simp
 refine gd.mk (fun h=>?_) (fun h=>?_)
 ·have hj:j<n.kids.length:=by simpa using h
  obtain⟨q,hq⟩:∃q,n.kids[j]=q:=⟨_,rfl⟩
  have hqm:q∈n.kids:=by rw[<-hq];exact List.getElem_mem hj
  have hd:=zoI n.kids j
  rw[List.drop_eq_getElem_cons hj,hq]at i2 i5 hd
  rw[zaN]at i5
  rw[nszs]at i2 hd
  have m:=(hks q hqm).1 env S (8*nszs (n.kids.drop (j+1))+k) (he.less (by omega)) (i2.less (by omega))
  have p:=(hks q hqm).2 env S (8*nszs (n.kids.drop (j+1))+k) (he.less (by omega)) (i2.less (by omega))
  simp only at i5
  generalize zao L q env S=r at*
  have hw:=wrap_i64 (n:=(j:Int)+1) (by omega) (by omega)
  simp[hj,hq]
  refine zaa.mk [0,1,2,12,3,13] m (by simp) ?_
  simp
  refine⟨by omega,by omega,?_⟩
  refine Abs.Next.mk (j+1,r.2,cs++[r.1.1],ts++[r.1.2]) [0,1,2,3,4,5,6,7,8,9,10,11,16,17,20,21] ⟨by simp only;omega,p.1,by simp;omega,by simp;omega,by simpa using i5⟩ (by simp only;omega) ?_
  simp[hw]
  refine⟨?_,?_⟩
  ·rw[take_len _ _ (by simp)]
  ·rw[take_len _ _ (by simp)]
 have hj:j=n.kids.length:=by simp at h;omega
 subst hj
 rw[List.drop_length,zaN]at i5
 simp only[List.append_nil]at i5
 subst i5
 simp only
 have m4:=zd5 L (.mk 5 (bs []) n.names ts) n S
 generalize zbf (.mk 5 (bs []) n.names ts) n.line n.col S=r4 at*
 simp
 refine fzK.mk [14,15] ?_
 have z1:=take_len (cs.map Cor.enc) cs.length (by simp)
 have z2:=take_len (ts.map Typ.enc) ts.length (by simp)
 simp[zak,z1,z2]
 refine zaa.mk [0,1,2,12,3,13] m4 (by simp[zan]) ?_
 simp
 refine⟨by decide,?_⟩
 exact EndM.mkE [0,1,2,8,3,9,12,13] [4,5,6,4,7,4] (by simp[z1,zht,zaj,zan,encI,AV.erds,AV.erd,D.erdL,D.erd,D.erdE,kid0,kid1])
end
end Go.Gr
namespace Go.Gr
open Go.Abs Go.Proofs
section
variable (L:Lnk)
theorem zlD{L:Lnk}(ln cl:Int):∀(ts l:List Typ) (s:CS) (b:Nat),SOk L s b->SOk L (zbX ln cl ts l s).2 b
 |[],_,_,_,h=>h
 |t::ts,l,s,b,h=>by
  rw[zbX]
  split
  ·exact h
  ·exact zlD ln cl ts _ _ b (za2 h t ln cl).1
theorem zjL(x:ByteArray):∀l:List Ent,(zbz l x).2=true->(zbz l x).1∈l
 |[],h=>by simp[zbz]at h
 |e::l,h=>by
  rw[zbz]at h⊢
  split at h
  ·rename_i q;rw[if_pos q];simp
  ·rename_i q;rw[if_neg q];exact List.mem_cons_of_mem _ (zjL x l h)
theorem zsE{env:Env}{b:Nat}(he:EOk env b)(k:Nat):wfT (env.getD k (bs [],noT)).2:=by
 rw[List.getD_eq_getElem?_getD]
 cases h:env[k]? with
 |none=>exact zbh
 |some v=>exact he.wf v (List.mem_of_getElem? h)
theorem zoD(ln cl:Int):∀(ts l:List Typ) (s:CS),(zbX ln cl ts l s).1.length<=l.length+ts.length
 |[],l,_=>by rw[zbX];simp
 | t::ts,l,s=>by
  rw[zbX]
  split
  ·simp only[List.length_cons];omega
  ·refine Nat.le_trans (zoD ln cl ts _ _) ?_
   simp only[List.length_append,List.length_cons,List.length_nil];omega
theorem zzO{L:Lnk}(hL:GoodL L)(i:Nat)(x:ByteArray)(h:(zbz (L.scopes.getD i []) x).2=true):EntOk L ⟨bs [],(zbz (L.scopes.getD i []) x).1.module,(zbz (L.scopes.getD i []) x).1.decl⟩:=by
 have hm:=zjL x _ h
 have:L.scopes.getD i []∈L.scopes:=by
  rw[List.getD_eq_getElem?_getD]at hm⊢
  cases q:L.scopes[i]? with
  |none=>rw[q]at hm;simp at hm
  |some sc=>exact List.mem_of_getElem? q
 have r:=hL.ents _ this _ hm
 exact⟨r.m0,r.m1,r.d0,r.d1⟩
theorem zy4(hL:GoodL L)(n:Nod)(hty:n.types.length<=1000000):PInf L n (zcG L n):=fun env s k he hs=>by
 have hs:=hs.less (c:=k) (by omega)
 have ent:=zzO hL s.module.toNat n.text
 unfold zcG
 simp only
 split
 ·exact⟨hs,zsE he _⟩
 rename_i c1
 split
 ·exact⟨zbo hs _ _ _,zbh⟩
 rename_i c2
 split
 ·exact⟨zbo hs _ _ _,zbh⟩
 rename_i c3
 have ent:=ent (by
  by_cases q:(zbz (L.scopes.getD s.module.toNat []) n.text).2=true
  ·exact q
  ·exact absurd ⟨by omega,by simpa using q⟩ c2)
 split
 ·exact⟨zbo hs _ _ _,zbh⟩
 split
 ·exact zmk hs _ _ _ _ ent (by simp)
 have h2:=zlD n.line n.col n.types [] s k hs
 have h3:=zoD n.line n.col n.types [] s
 split
 ·exact⟨h2,zbh⟩
 split
 ·exact⟨zbo h2 _ _ _,zbh⟩
 ·exact zmk h2 _ _ _ _ ent (by simp at h3;omega)
abbrev nmT(n:Nod)(j m:Nat):List (Nat × AV):=[(14,.c (.d (.int .i64 j))),(13,.c (.msl 4 17 0 m)),(12,.c (.ptr 16 0)),(11,.c (.ptr 15 0)),(9,.c (.ptr 14 0)),(7,.c (.ptr 13 0)),(6,.c (.ptr 12 0)),(4,.c (.d (.rp n.enc 0))),(0,.c (.ptr 0 0))]
abbrev nmB(P:List Blk)(e:Ent)(d:Dec)(S:CS)(ts:List Typ):List Blk:=ck6 L S++(P++[.box [.d (.int .i64 0),.d (.int .i64 0),.d (.str (bs [])),.d (.sl true 1 []),.d (.sl true 1 []),.d (.sl true 4 []),.d (.sl true 5 []),.d (.sl true 8 [])],.box [.d (.int .i64 0),.d (.str (bs [])),.d (.sl true 1 []),.d (.sl true 4 [])],.box (e.enc.map .d),.box [.d (.int .i64 0),.d (.int .i64 0),.d (.str (bs [])),.d (.sl true 1 []),.d (.sl true 1 []),.d (.sl true 4 []),.d (.sl true 5 []),.d (.sl true 8 [])],.box (d.enc.map .d),arrT ts])
set_option maxRecDepth 20000 in
set_option maxHeartbeats 4000000 in
theorem zvq(hL:GoodL L)(n:Nod)(hty:n.types.length<=1000000):MInf L 78 n (zcG L n):=fun env s k he hs=>by
 refine zr5 ⟨by simp,by simp,by simp,by simp,by simp,by simp,by simp[live]⟩ fun ts hts ok hbk c hN hp=>?_
 obtain⟨t,u,v,w,x,y,rfl⟩:=zaV hts
 have hb0:=zaB 0
 have hel:=he.len
 have hfi:=find_ok env (by omega) n.text
 have hfl:=zlQ env n.text
 obtain⟨sc,hsc⟩:∃sc,L.scopes.getD s.module.toNat []=sc:=⟨_,rfl⟩
 obtain⟨mn,hmn⟩:∃mn:Nat,s.module=mn:=⟨s.module.toNat,by have:=hs.m0;omega⟩
 have hml:mn<L.scopes.length:=by have:=hs.m1;have:=hL.scopes;omega
 have hsc2:L.scopes[mn]?=some sc:=by rw[hmn]at hsc;simp only[Int.toNat_natCast]at hsc;rw[<-hsc,List.getD_eq_getElem?_getD,List.getElem?_eq_getElem hml];try rfl
 have hfe:=zsV sc n.text
 have hem:=zjL n.text sc
 unfold zcG
 simp only
 rw[hsc]
 generalize zbz sc n.text=e at*
 generalize zbD env n.text=z at*
 have hse:∀q:e.2=true,EntOk L e.1:=fun q=>hL.ents sc (List.mem_of_getElem? hsc2) _ (hem q)
 unfold zlf
 simp[hmn,hsc2]
 refine zac.mk hfi ?_
 simp[hmn,hsc2]
 refine zac.mk hfe ?_
 have ge1:∀h,e.1.enc[1]'h=D.int .i64 e.1.module:=fun _=>rfl
 have ge2:∀h,e.1.enc[2]'h=D.int .i64 e.1.decl:=fun _=>rfl
 by_cases z0:0<=z
 ·obtain⟨zn,hzn⟩:∃zn:Nat,z=zn:=⟨z.toNat,by omega⟩
  have hzl:zn<env.length:=by omega
  obtain⟨v,hv⟩:∃v,env[zn]=v:=⟨_,rfl⟩
  have hv2:env.getD z.toNat (bs [],noT)=v:=by rw[hzn];simp only[Int.toNat_natCast];rw[List.getD_eq_getElem?_getD,List.getElem?_eq_getElem hzl,hv];try rfl
  by_cases k4:n.kind=4
  ·rw[if_pos ⟨z0,k4⟩,hv2]
   subst hzn
   simp[k4,hzl,hv]
   refine⟨by decide,by decide,?_⟩
   exact EndM.mkE [0,1,2,9,4,11,3,5] [6,7,8,9,10,11] (by simp[cK,cN,cT,zaj,zan,fnT,zap,zaf,noC,encI,encS,AV.erds,AV.erd,D.erdL,D.erd,D.erdE,kid0,kid1])
  ·rw[if_neg (fun q=>k4 q.2),if_neg (fun q=>by omega),if_pos z0]
   have m:=zb5 L n 18 s
   generalize zaL n.line n.col 18 s=s2 at*
   have z1:¬z<0:=by omega
   simp[k4,z0,z1]
   refine⟨by decide,?_⟩
   refine zaa.mk [0,1,2,3,4,5] m (by simp) ?_
   simp
   refine zac.mk hb0 ?_
   simp
   refine⟨by decide,?_⟩
   exact EndM.mkE [0,1,2,9,4,11,3,5] [6,7,8,9,10,11] (by simp[cK,cN,cT,zaj,zan,fnT,zap,zaf,noC,encI,encS,AV.erds,AV.erd,D.erdL,D.erd,D.erdE,kid0,kid1])
 have z1:z<0:=by omega
 rw[if_neg (fun q=>z0 q.1)]
 by_cases e2:e.2=true
 rotate_left
 ·rw[if_pos ⟨z1,by simpa using e2⟩]
  have m:=zb5 L n 10 s
  generalize zaL n.line n.col 10 s=s2 at*
  simp[z0,z1,e2]
  refine⟨by decide,?_⟩
  refine zaa.mk [0,1,2,3,4,5] m (by simp) ?_
  simp
  refine zac.mk hb0 ?_
  simp
  refine⟨by decide,?_⟩
  exact EndM.mkE [0,1,2,9,4,11,3,5] [6,7,8,9,10,11] (by simp[cK,cN,cT,zaj,zan,fnT,zap,zaf,noC,encI,encS,AV.erds,AV.erd,D.erdL,D.erd,D.erdE,kid0,kid1])
 rw[if_neg (fun q=>by simp[e2]at q),if_neg z0]
 have hen:=hse e2
 have hen2:EntOk L ⟨bs [],e.1.module,e.1.decl⟩:=⟨hen.m0,hen.m1,hen.d0,hen.d1⟩
 obtain⟨mn2,kn,M,e1,e3,g1,g2,hd⟩:=zfm hL hen2
 generalize hdd:decAt L e.1.module e.1.decl=d at*
 by_cases c9:decide (0<d.vars.length)=decide (n.kind=19)
 rotate_left
 ·rw[if_pos c9]
  have m:=zb5 L n 18 s
  generalize zaL n.line n.col 18 s=s2 at*
  simp[z0,z1,e2,ge1,ge2,e1,e3,g1,g2]
  refine⟨by decide,by decide,?_⟩
  by_cases c0:0<d.vars.length
  ·have c1:¬n.kind=19:=fun q=>c9 (by simp[c0,q])
   simp[c0,c1]
   refine zaa.mk [0,1,2,3,4,5] m (by simp) ?_
   simp
   refine zac.mk hb0 ?_
   simp
   refine⟨by decide,?_⟩
   exact EndM.mkE [0,1,2,9,4,11,3,5] [6,7,8,9,10,11] (by simp[cK,cN,cT,zaj,zan,fnT,zap,zaf,noC,encI,encS,AV.erds,AV.erd,D.erdL,D.erd,D.erdE,kid0,kid1])
  ·have c1:n.kind=19:=by
    by_cases q:n.kind=19
    ·exact q
    ·exact absurd (by simp[c0,q]) c9
   simp[c0,c1]
   refine zaa.mk [0,1,2,3,4,5] m (by simp) ?_
   simp
   refine zac.mk hb0 ?_
   simp
   refine⟨by decide,?_⟩
   exact EndM.mkE [0,1,2,9,4,11,3,5] [6,7,8,9,10,11] (by simp[cK,cN,cT,zaj,zan,fnT,zap,zaf,noC,encI,encS,AV.erds,AV.erd,D.erdL,D.erd,D.erdE,kid0,kid1])
 rw[if_neg (fun q=>q c9)]
 by_cases k4:n.kind=4
 ·rw[if_pos k4]
  have c0:¬0<d.vars.length:=fun q=>by simp[q,k4]at c9
  have m:=MCall.erd (args:=[.c (.ptr 0 0),.ag (n.enc.map .d),.ag (e.1.enc.map .d),.c (.d (.sl true 4 []))]) (zml L hL n e.1 hen2 [] (by simp) s hs.tab) (by simp[AV.erds,AV.erd,AC.erd,D.erd,D.erdL,D.erdE,Ent.enc])
  generalize zbg L n.line n.col e.1 [] s=r at*
  simp[z0,z1,e2,ge1,ge2,e1,e3,g1,g2]
  refine⟨by decide,by decide,?_⟩
  simp[c0,k4]
  refine zaa.mk [0,1,2,3,4,5] m (by simp) ?_
  simp
  exact EndM.mkE [0,1,2,9,4,11,17,18] [6,7,8,9,10,11] (by simp[cK,cN,cT,zaj,zan,fnT,zap,zaf,noC,encI,encS,AV.erds,AV.erd,D.erdL,D.erd,D.erdE,kid0,kid1])
 rw[if_neg k4]
 obtain⟨R,hR⟩:∃R,zbX n.line n.col n.types [] s=R:=⟨_,rfl⟩
 have pR:=zlD n.line n.col n.types [] s k (hs.less (by omega))
 rw[hR]at pR⊢
 simp[z0,z1,e2,ge1,ge2,e1,e3,g1,g2]
 refine⟨by decide,by decide,?_⟩
 have c9':(decide (0<d.vars.length) !=decide (n.kind=19))=false:=by rw[c9];simp
 refine gd.mk (fun h=>?_) (fun h=>?_)
 ·exfalso
  simp_all
 simp[k4]
 refine owK.mk [.t 13] ?_
 simp
 refine W.loop zab hp (fun Y:Nat × CS × List Typ=>Y.1<=n.types.length/\SOk L Y.2.1 k/\Y.2.2.length=Y.1/\zbX n.line n.col (n.types.drop Y.1) Y.2.2 Y.2.1=R) (fun Y=>nmT n Y.1 Y.2.2.length) (fun Y=>nmB L [.pin t 0,.pin u 1,.pin v 2,.pin w 3,.pin x 4,.pin y 5] e.1 d Y.2.1 Y.2.2) (fun Y=>n.types.length-Y.1) (0,s,[]) [0,1,2,3,4,5,6,7,8,9,10,11,12,13,14,15,16,17] ⟨by simp,hs.less (by omega),by simp,by simpa using hR⟩ (by simp) fun⟨j,S,ts⟩ ⟨i1,i2,i3,i4⟩=>?_
 unfold lp_gc_named_0
 simp only at i1 i2 i3 i4
 simp
 by_cases hj:j<n.types.length
 ·by_cases q0:S.e=0
  ·obtain⟨q,hq⟩:∃q,n.types[j]=q:=⟨_,rfl⟩
   rw[List.drop_eq_getElem_cons hj,hq,zbX,if_neg (fun z=>z q0)]at i4
   have m:=zct L q n.line n.col S i2.wth
   have p:=za2 i2 q n.line n.col
   generalize zas q n.line n.col S=r at*
   have hw:=wrap_i64 (n:=(j:Int)+1) (by omega) (by omega)
   simp[hj,q0,hq]
   refine zaa.mk [0,1,2,3,4,5] m (by simp) ?_
   simp
   refine⟨by decide,by omega,?_⟩
   refine Abs.Next.mk (j+1,r.2,ts++[r.1]) [0,1,2,3,4,5,6,7,8,9,10,11,12,13,14,15,16,19] ⟨by simp only;omega,p.1,by simp;omega,i4⟩ (by simp only;omega) ?_
   simp[hw]
   rw[take_len _ _ (by simp)]
  ·have i5:(ts,S)=R:=by rw[List.drop_eq_getElem_cons hj,zbX,if_pos q0]at i4;exact i4
   subst i5
   rw[if_pos q0]
   simp[hj,q0]
   refine zac.mk hb0 ?_
   simp
   refine⟨by decide,?_⟩
   exact EndM.mkE [0,1,2,9,4,11,3,5] [6,7,8,9,10,11] (by simp[cK,cN,cT,zaj,zan,fnT,zap,zaf,noC,encI,encS,AV.erds,AV.erd,D.erdL,D.erd,D.erdE,kid0,kid1])
 have hj2:j=n.types.length:=by omega
 rw[hj2,List.drop_length,zbX]at i4
 subst i4
 by_cases q0:S.e=0
 rotate_left
 ·rw[if_pos q0]
  simp[hj,q0]
  refine zac.mk hb0 ?_
  simp
  refine⟨by decide,?_⟩
  exact EndM.mkE [0,1,2,9,4,11,3,5] [6,7,8,9,10,11] (by simp[cK,cN,cT,zaj,zan,fnT,zap,zaf,noC,encI,encS,AV.erds,AV.erd,D.erdL,D.erd,D.erdE,kid0,kid1])
 rw[if_neg (fun z=>z q0)]
 have hbi:=zy7 d.vars ts (by omega)
 simp only
 generalize zkE d.vars ts=B at*
 have z3:=take_len (ts.map Typ.enc) ts.length (by simp)
 simp[hj,q0]
 refine fzK.mk [17] ?_
 simp[zak,z3]
 refine zac.mk hbi ?_
 by_cases b0:B=0
 rotate_left
 ·rw[if_pos b0]
  have m:=zb5 L n B S
  generalize zaL n.line n.col B S=s2 at*
  simp[b0]
  refine zaa.mk [0,1,2,3,4,5] m (by simp) ?_
  simp
  refine zac.mk hb0 ?_
  simp
  refine⟨by decide,?_⟩
  exact EndM.mkE [0,1,2,9,4,11,3,5] [6,7,8,9,10,11] (by simp[cK,cN,cT,zaj,zan,fnT,zap,zaf,noC,encI,encS,AV.erds,AV.erd,D.erdL,D.erd,D.erdE,kid0,kid1])
 rw[if_neg (fun z=>z b0)]
 have m:=zml L hL n e.1 hen2 ts (by omega) S i2.tab
 generalize zbg L n.line n.col e.1 ts S=r at*
 simp[b0,zak,z3]
 refine zaa.mk [0,1,2,3,4,5] m (by simp) ?_
 simp
 exact EndM.mkE [0,1,2,9,4,11,18,19] [6,7,8,9,10,11] (by simp[cK,cN,cT,zaj,zan,fnT,zap,zaf,noC,encI,encS,AV.erds,AV.erd,D.erdL,D.erd,D.erdE,kid0,kid1])
end
end Go.Gr
namespace Go.Gr
open Go.Abs Go.Proofs
section
variable (L:Lnk)
theorem put_env(v:ByteArray × Typ)(t:Typ):put ((encV v).map AC.d) 1 (t.enc.map AC.d)=(encV (v.1,t)).map AC.d:=by
 obtain⟨x,k⟩:=v
 cases k;cases t;rfl
theorem zxX{a b:Typ}(ha:wfT a)(hb:wfT b):wfT (zeu a b):=by
 unfold zeu
 split
 ·exact hb
 split
 ·exact ha
 split
 ·exact zbh
 split
 ·exact zbh
 split
 ·exact zhv _
 ·exact zbh
theorem zt9{t:Typ}(ht:wfT t)(tag:Int):wfT (zbI t tag).1/\wfT (zbI t tag).2:=by
 unfold zbI
 split
 ·exact⟨ht,ht⟩
 split
 ·split
  ·exact⟨ht,ht⟩
  ·rename_i q1 q2 q3
   refine⟨?_,ht⟩
   by_cases h:tag=4
   ·rw[h];exact zt4
   ·exact zbE _ (by omega) (by omega)
 split
 ·exact⟨ht,ht⟩
 split
 ·exact⟨ht,ht⟩
 rename_i q1 q2 q3 q4
 have p2:(partR (zaH t) tag).2=true:=by simpa using q3
 have k7:t.kind=7:=by simpa using q4
 have h1:wfT (partR (zaH t) tag).1.t:=(zfd ht q2 (zdf p2).1).1
 have hm:∀x,x∈(t.kids.filter fun k=>decide (zax k≠tag))->x∈t.kids:=fun x hx=>(List.mem_filter.1 hx).1
 have hl:(t.kids.filter fun k=>decide (zax k≠tag)).length<=t.kids.length:=List.length_filter_le _ _
 have h7:t.kids.length<=6/\∀x,x∈t.kids->1<=x.kind/\x.kind<=6:=by
  rcases((zaW t).1 ht).2.2 with⟨_,q,_,_⟩|⟨q,_⟩|⟨q,_,_⟩|⟨_,_,q,r⟩
  ·omega
  ·omega
  ·omega
  ·exact⟨q,r⟩
 generalize (t.kids.filter fun k=>decide (zax k≠tag))=F at*
 split
 ·rename_i r
  exact⟨h1,zcU ht (hm r (by simp))⟩
 ·exact⟨h1,(zaW _).2 ⟨rfl,fun x hx=>zcU ht (hm x hx),.inr (.inr (.inr ⟨rfl,rfl,by show F.length<=6;omega,fun x hx=>h7.2 x (hm x hx)⟩))⟩⟩
theorem EOk.set{env:Env}{b:Nat}(h:EOk env b)(k:Nat)(x:ByteArray){t:Typ}(ht:wfT t):EOk (env.set k (x,t)) b:=⟨by simpa using h.len,fun v hv=>by
 rcases List.mem_or_eq_of_mem_set hv with hv|hv
 ·exact h.wf v hv
 ·subst hv;exact ht⟩
theorem zm2{env:Env}{b:Nat}(h:EOk env b)(q:Nod):EOk (zaO q env).1 b/\EOk (zaO q env).2 b:=by
 unfold zaO
 split
 ·have hw:=zt9 (zsE h (zbD env (q.kids.getD 0 noN).text).toNat) q.n
  exact⟨h.set _ _ hw.1,h.set _ _ hw.2⟩
 ·exact⟨h,h⟩
theorem if_p(n q a b:Nod)(hk:n.kids=[q,a,b])(iq ia ib:Inf)(hq:PInf L q iq)(ha:PInf L a ia)(hb:PInf L b ib):PInf L n (ifC q a b iq ia ib):=fun env s k he hs=>by
 have hn:nsz n=nsz q+(nsz a+nsz b)+1:=by rw[za6,hk];simp[nszs]
 have h1:=hq env s (3+8*nsz a+8*nsz b+k) (he.less (by omega)) (hs.less (by omega))
 have hne:=zm2 he q
 unfold ifC
 simp only
 generalize iq env s=r1 at*
 have h2:=coerceC_ok (b:=2+8*nsz a+8*nsz b+k) (h1.1.less (by omega)) r1.1.1 r1.1.2 (bT 2) q.line q.col
 generalize zaA r1.1.1 r1.1.2 (bT 2) q.line q.col r1.2=r2 at*
 have h3:=ha (zaO q env).1 r2.2 (2+8*nsz b+k) (hne.1.less (by omega)) (h2.less (by omega))
 generalize ia (zaO q env).1 r2.2=r3 at*
 have h4:=hb (zaO q env).2 r3.2 (2+k) (hne.2.less (by omega)) (h3.1.less (by omega))
 generalize ib (zaO q env).2 r3.2=r4 at*
 have h5:=coerceC_ok (b:=1+k) (h4.1.less (by omega)) r3.1.1 r3.1.2 (zeu r3.1.2 r4.1.2) a.line a.col
 generalize zaA r3.1.1 r3.1.2 (zeu r3.1.2 r4.1.2) a.line a.col r4.2=r5 at*
 exact⟨coerceC_ok (h5.less (by omega)) _ _ _ _ _,zxX h3.2 h4.2⟩
set_option maxRecDepth 20000 in
set_option maxHeartbeats 4000000 in
theorem zua(n q a b:Nod)(hk:n.kids=[q,a,b])(hqk:q.kind=12->∃w,q.kids=[w])(iq ia ib:Inf)(hq:zbC L q iq)(ha:zbC L a ia)(hb:zbC L b ib):MInf L 85 n (ifC q a b iq ia ib):=fun env s k he hs=>by
 refine zq8 ⟨by simp,by simp,by simp,by simp,by simp,by simp,by simp[live]⟩ fun ts hts ok hbk c hN hp=>?_
 obtain⟨t,u,v,w,x,y,rfl⟩:=zaV hts
 have hn:nsz n=nsz q+(nsz a+nsz b)+1:=by rw[za6,hk];simp[nszs]
 have hel:=he.len
 have hb2:=zaB 2
 have m1:=hq.1 env s (3+8*nsz a+8*nsz b+k) (he.less (by omega)) (hs.less (by omega))
 have h1:=hq.2 env s (3+8*nsz a+8*nsz b+k) (he.less (by omega)) (hs.less (by omega))
 have hne:=zm2 he q
 unfold ifC
 simp only
 generalize iq env s=r1 at*
 have m2:=zbu L r1.1.1 r1.1.2 (bT 2) q r1.2 (by have:=h1.1.sites;omega)
 have h2:=coerceC_ok (b:=2+8*nsz a+8*nsz b+k) (h1.1.less (by omega)) r1.1.1 r1.1.2 (bT 2) q.line q.col
 generalize zaA r1.1.1 r1.1.2 (bT 2) q.line q.col r1.2=r2 at*
 obtain⟨ea,hea⟩:∃ea,(zaO q env).1=ea:=⟨_,rfl⟩
 obtain⟨eb,heb⟩:∃eb,(zaO q env).2=eb:=⟨_,rfl⟩
 rw[hea,heb]at hne⊢
 have m3:=ha.1 ea r2.2 (2+8*nsz b+k) (hne.1.less (by omega)) (h2.less (by omega))
 have h3:=ha.2 ea r2.2 (2+8*nsz b+k) (hne.1.less (by omega)) (h2.less (by omega))
 generalize ia ea r2.2=r3 at*
 have m4:=hb.1 eb r3.2 (2+k) (hne.2.less (by omega)) (h3.1.less (by omega))
 have h4:=hb.2 eb r3.2 (2+k) (hne.2.less (by omega)) (h3.1.less (by omega))
 generalize ib eb r3.2=r4 at*
 have hj:=zyI r3.1.2 r4.1.2
 generalize zeu r3.1.2 r4.1.2=J at*
 have m5:=zbu L r3.1.1 r3.1.2 J a r4.2 (by have:=h4.1.sites;omega)
 have h5:=coerceC_ok (b:=1+k) (h4.1.less (by omega)) r3.1.1 r3.1.2 J a.line a.col
 generalize zaA r3.1.1 r3.1.2 J a.line a.col r4.2=r5 at*
 have m6:=zbu L r4.1.1 r4.1.2 J b r5.2 (by have:=h5.sites;omega)
 generalize zaA r4.1.1 r4.1.2 J b.line b.col r5.2=r6 at*
 have zA:=take_len (ea.map encV) env.length
 have zB:=take_len (eb.map encV) env.length
 unfold mc_gc_branch
 simp[hk]
 refine zaa.mk [0,1,2,3,4,5] m1 (by simp) ?_
 simp
 refine zac.mk hb2 ?_
 simp
 refine zaa.mk [0,1,2,15,4,16] m2 (by simp) ?_
 simp
 refine⟨by decide,by omega,?_⟩
 by_cases c12:q.kind=12
 rotate_left
 ·have e:zaO q env=(env,env):=by unfold zaO;rw[if_neg (fun z=>c12 z.1)]
  rw[e]at hea heb
  simp only at hea heb
  subst hea
  subst heb
  have zA:=zA (by simp)
  have zB:=zA
  simp[c12]
  refine fzK.mk [20,21] ?_
  simp[zak,hk,zA,zB, -List.map_set]
  refine zaa.mk [0,1,2,19,4,16] m3 (by simp) ?_
  simp[zak,hk,zA,zB, -List.map_set]
  refine zaa.mk [0,1,2,22,4,23] m4 (by simp) ?_
  simp[hk]
  refine zac.mk hj ?_
  simp[hk]
  refine zaa.mk [0,1,2,26,4,27] m5 (by simp) ?_
  simp[hk]
  refine⟨by decide,?_⟩
  refine zaa.mk [0,1,2,31,4,27] m6 (by simp) ?_
  simp
  refine⟨by decide,by decide,?_⟩
  exact EndM.mkE [0,1,2,9,4,11,32,27] [6,7,8,9,10,11] (by simp[cK,cN,cT,zaj,zan,fnT,zap,zaf,noC,encI,encS,AV.erds,AV.erd,D.erdL,D.erd,D.erdE,kid0,kid1])
 obtain⟨w',hw'⟩:=hqk c12
 have g0:q.kids.getD 0 noN=w':=by rw[hw'];try rfl
 by_cases c4:w'.kind=4
 rotate_left
 ·have e:zaO q env=(env,env):=by unfold zaO;rw[g0,if_neg (fun z=>c4 z.2.1)]
  rw[e]at hea heb
  simp only at hea heb
  subst hea
  subst heb
  have zA:=zA (by simp)
  have zB:=zA
  simp[c12,hw',c4]
  refine fzK.mk [20,21] ?_
  simp[zak,hk,zA,zB, -List.map_set]
  refine zaa.mk [0,1,2,19,4,16] m3 (by simp) ?_
  simp[zak,hk,zA,zB, -List.map_set]
  refine zaa.mk [0,1,2,22,4,23] m4 (by simp) ?_
  simp[hk]
  refine zac.mk hj ?_
  simp[hk]
  refine zaa.mk [0,1,2,26,4,27] m5 (by simp) ?_
  simp[hk]
  refine⟨by decide,?_⟩
  refine zaa.mk [0,1,2,31,4,27] m6 (by simp) ?_
  simp
  refine⟨by decide,by decide,?_⟩
  exact EndM.mkE [0,1,2,9,4,11,32,27] [6,7,8,9,10,11] (by simp[cK,cN,cT,zaj,zan,fnT,zap,zaf,noC,encI,encS,AV.erds,AV.erd,D.erdL,D.erd,D.erdE,kid0,kid1])
 have hfi:=find_ok env (by omega) w'.text
 have hfl:=zlQ env w'.text
 have e:zaO q env=if 0<=zbD env w'.text then(env.set (zbD env w'.text).toNat ((env.getD (zbD env w'.text).toNat (bs [],noT)).1,(zbI (env.getD (zbD env w'.text).toNat (bs [],noT)).2 q.n).1),env.set (zbD env w'.text).toNat ((env.getD (zbD env w'.text).toNat (bs [],noT)).1,(zbI (env.getD (zbD env w'.text).toNat (bs [],noT)).2 q.n).2))else(env,env):=by
  unfold zaO
  rw[g0]
  by_cases z:0<=zbD env w'.text
  ·rw[if_pos ⟨c12,c4,z⟩,if_pos z]
  ·rw[if_neg (fun p=>z p.2.2),if_neg z]
 generalize zbD env w'.text=z at*
 by_cases z0:0<=z
 rotate_left
 ·rw[if_neg z0]at e
  rw[e]at hea heb
  simp only at hea heb
  subst hea
  subst heb
  have zA:=zA (by simp)
  have zB:=zA
  simp[c12,hw',c4]
  refine zac.mk hfi ?_
  simp[z0]
  refine fzK.mk [20,21] ?_
  simp[zak,hk,zA,zB, -List.map_set]
  refine zaa.mk [0,1,2,19,4,16] m3 (by simp) ?_
  simp[zak,hk,zA,zB, -List.map_set]
  refine zaa.mk [0,1,2,22,4,23] m4 (by simp) ?_
  simp[hk]
  refine zac.mk hj ?_
  simp[hk]
  refine zaa.mk [0,1,2,26,4,27] m5 (by simp) ?_
  simp[hk]
  refine⟨by decide,?_⟩
  refine zaa.mk [0,1,2,31,4,27] m6 (by simp) ?_
  simp
  refine⟨by decide,by decide,?_⟩
  exact EndM.mkE [0,1,2,9,4,11,32,27] [6,7,8,9,10,11] (by simp[cK,cN,cT,zaj,zan,fnT,zap,zaf,noC,encI,encS,AV.erds,AV.erd,D.erdL,D.erd,D.erdE,kid0,kid1])
 rw[if_pos z0]at e
 obtain⟨zn,hzn⟩:∃zn:Nat,z=zn:=⟨z.toNat,by omega⟩
 have hzl:zn<env.length:=by omega
 obtain⟨v',hv⟩:∃v',env[zn]=v':=⟨_,rfl⟩
 subst hzn
 have hv2:env.getD (zn:Int).toNat (bs [],noT)=v':=by simp only[Int.toNat_natCast];rw[List.getD_eq_getElem?_getD,List.getElem?_eq_getElem hzl,hv];try rfl
 rw[hv2]at e
 simp only[Int.toNat_natCast]at e
 have hnr:=zuL v'.2 q.n
 generalize zbI v'.2 q.n=N at*
 rw[e]at hea heb
 simp only at hea heb
 subst hea
 subst heb
 have zA:=zA (by simp)
 have zB:=zB (by simp)
 simp[c12,hw',c4]
 refine zac.mk hfi ?_
 simp[z0,hzl,hv]
 refine zac.mk hnr ?_
 simp[hzl,hv]
 refine⟨by decide,?_⟩
 have ps:∀t1:Typ,(List.map ((fun x=>List.map AC.d x)∘encV) env).set zn (put (List.map AC.d (encV v')) 1 (List.map AC.d t1.enc))=List.map ((fun x=>List.map AC.d x)∘encV) (env.set zn (v'.1,t1)):=fun t1=>by
  rw[put_env,List.map_set];try rfl
 simp only[ps]
 refine fzK.mk [20,21] ?_
 simp[zak,hk,zA,zB, -List.map_set]
 refine zaa.mk [0,1,2,19,4,16] m3 (by simp) ?_
 simp[zak,hk,zA,zB, -List.map_set]
 refine zaa.mk [0,1,2,24,4,25] m4 (by simp) ?_
 simp[hk]
 refine zac.mk hj ?_
 simp[hk]
 refine zaa.mk [0,1,2,28,4,29] m5 (by simp) ?_
 simp[hk]
 refine⟨by decide,?_⟩
 refine zaa.mk [0,1,2,33,4,29] m6 (by simp) ?_
 simp
 refine⟨by decide,by decide,?_⟩
 exact EndM.mkE [0,1,2,9,4,11,34,29] [6,7,8,9,10,11] (by simp[cK,cN,cT,zaj,zan,fnT,zap,zaf,noC,encI,encS,AV.erds,AV.erd,D.erdL,D.erd,D.erdE,kid0,kid1])
end
end Go.Gr
namespace Go.Gr
open Go.Abs Go.Proofs
def shN(k:Int)(ts:List Typ)(ns:List ByteArray)(ks:List Nod):Prop:=
 (k=0\/k=1\/k=2\/k=3\/k=18)\/((k=4\/k=19)/\ts.length<=1000000)\/(k=8/\ns.length<=1000000)\/(k=6/\ks.length=1/\1<=ts.length)\/(k=13/\ks.length=1/\1<=ts.length)\/(k=9/\ks.length=1)\/((k=12\/k=15\/k=16\/k=17)/\ks.length=1)\/(k=5/\ks.length=2)\/(k=7/\ks.length=2)\/(k=10/\ks.length=2)\/(k=14/\ks.length=2)\/(k=11/\ks.length=3)
mutual
def wfN:Nod->Prop
 |.mk k _ _ _ _ ts ns ks=>wfNs ks/\shN k ts ns ks
def wfNs:List Nod->Prop
 |[]=>True
 |n::l=>wfN n/\wfNs l
end
theorem zf2:∀l:List Nod,wfNs l↔∀x,x∈l->wfN x
 |[]=>by simp[wfNs]
 |n::l=>by simp[wfNs,zf2 l]
theorem zsd(n:Nod):wfN n↔(∀x,x∈n.kids->wfN x)/\shN n.kind n.types n.names n.kids:=by
 cases n;rw[wfN,zf2];try rfl
def stopC(j:Inf):Inf:=fun env s=>if s.e≠0 then((noC,noT),s)else j env s
section
variable (L:Lnk)
theorem zcT{n:Nod}{j:Inf}(h:PInf L n j):PInf L n (stopC j):=fun env s k he hs=>by
 unfold stopC
 split
 ·exact⟨hs.less (by omega),zbh⟩
 ·exact h env s k he hs
set_option maxRecDepth 20000 in
set_option maxHeartbeats 4000000 in
theorem zuy(n:Nod)(K:n.kind=4\/n.kind=19)(j:Inf)(h:MInf L 78 n j):MInf L 56 n (stopC j):=fun env s k he hs=>by
 refine zaX ⟨by simp,by simp,by simp,by simp,by simp,by simp,by simp[live]⟩ fun ts hts ok hbk c hN hp=>?_
 obtain⟨t,u,v,w,x,y,rfl⟩:=zaV hts
 have hb0:=zaB 0
 have m:=h env s k he hs
 unfold stopC
 by_cases q0:s.e=0
 rotate_left
 ·rw[if_pos q0]
  unfold mc_gc_Infer
  simp[q0]
  refine zac.mk hb0 ?_
  simp
  exact EndM.mkE [0,1,2,9,4,11,3,5] [6,7,8,9,10,11] (by simp[cK,cN,cT,zaj,zan,fnT,zap,zaf,noC,encI,encS,AV.erds,AV.erd,D.erdL,D.erd,D.erdE,kid0,kid1])
 rw[if_neg (fun z=>z q0)]
 generalize j env s=r at*
 unfold mc_gc_Infer
 rcases K with K|K
 ·simp[q0,K]
  refine zaa.mk [0,1,2,3,4,5] m (by simp) ?_
  simp
  exact EndM.mkE [0,1,2,9,4,11,14,15] [6,7,8,9,10,11] (by simp[cK,cN,cT,zaj,zan,fnT,zap,zaf,noC,encI,encS,AV.erds,AV.erd,D.erdL,D.erd,D.erdE,kid0,kid1])
 ·simp[q0,K]
  refine zaa.mk [0,1,2,3,4,5] m (by simp) ?_
  simp
  exact EndM.mkE [0,1,2,9,4,11,14,15] [6,7,8,9,10,11] (by simp[cK,cN,cT,zaj,zan,fnT,zap,zaf,noC,encI,encS,AV.erds,AV.erd,D.erdL,D.erd,D.erdE,kid0,kid1])
set_option maxRecDepth 20000 in
set_option maxHeartbeats 4000000 in
theorem zyx(n:Nod)(K:n.kind=5)(j:Inf)(h:MInf L 79 n j):MInf L 56 n (stopC j):=fun env s k he hs=>by
 refine zaX ⟨by simp,by simp,by simp,by simp,by simp,by simp,by simp[live]⟩ fun ts hts ok hbk c hN hp=>?_
 obtain⟨t,u,v,w,x,y,rfl⟩:=zaV hts
 have hb0:=zaB 0
 have m:=h env s k he hs
 unfold stopC
 by_cases q0:s.e=0
 rotate_left
 ·rw[if_pos q0]
  unfold mc_gc_Infer
  simp[q0]
  refine zac.mk hb0 ?_
  simp
  exact EndM.mkE [0,1,2,9,4,11,3,5] [6,7,8,9,10,11] (by simp[cK,cN,cT,zaj,zan,fnT,zap,zaf,noC,encI,encS,AV.erds,AV.erd,D.erdL,D.erd,D.erdE,kid0,kid1])
 rw[if_neg (fun z=>z q0)]
 generalize j env s=r at*
 unfold mc_gc_Infer
 skip
 ·simp[q0,K]
  refine zaa.mk [0,1,2,3,4,5] m (by simp) ?_
  simp
  exact EndM.mkE [0,1,2,9,4,11,14,15] [6,7,8,9,10,11] (by simp[cK,cN,cT,zaj,zan,fnT,zap,zaf,noC,encI,encS,AV.erds,AV.erd,D.erdL,D.erd,D.erdE,kid0,kid1])
set_option maxRecDepth 20000 in
set_option maxHeartbeats 4000000 in
theorem zzq(n:Nod)(K:n.kind=6)(j:Inf)(h:MInf L 80 n j):MInf L 56 n (stopC j):=fun env s k he hs=>by
 refine zaX ⟨by simp,by simp,by simp,by simp,by simp,by simp,by simp[live]⟩ fun ts hts ok hbk c hN hp=>?_
 obtain⟨t,u,v,w,x,y,rfl⟩:=zaV hts
 have hb0:=zaB 0
 have m:=h env s k he hs
 unfold stopC
 by_cases q0:s.e=0
 rotate_left
 ·rw[if_pos q0]
  unfold mc_gc_Infer
  simp[q0]
  refine zac.mk hb0 ?_
  simp
  exact EndM.mkE [0,1,2,9,4,11,3,5] [6,7,8,9,10,11] (by simp[cK,cN,cT,zaj,zan,fnT,zap,zaf,noC,encI,encS,AV.erds,AV.erd,D.erdL,D.erd,D.erdE,kid0,kid1])
 rw[if_neg (fun z=>z q0)]
 generalize j env s=r at*
 unfold mc_gc_Infer
 skip
 ·simp[q0,K]
  refine zaa.mk [0,1,2,3,4,5] m (by simp) ?_
  simp
  exact EndM.mkE [0,1,2,9,4,11,14,15] [6,7,8,9,10,11] (by simp[cK,cN,cT,zaj,zan,fnT,zap,zaf,noC,encI,encS,AV.erds,AV.erd,D.erdL,D.erd,D.erdE,kid0,kid1])
set_option maxRecDepth 20000 in
set_option maxHeartbeats 4000000 in
theorem zwr(n:Nod)(K:n.kind=7)(j:Inf)(h:MInf L 81 n j):MInf L 56 n (stopC j):=fun env s k he hs=>by
 refine zaX ⟨by simp,by simp,by simp,by simp,by simp,by simp,by simp[live]⟩ fun ts hts ok hbk c hN hp=>?_
 obtain⟨t,u,v,w,x,y,rfl⟩:=zaV hts
 have hb0:=zaB 0
 have m:=h env s k he hs
 unfold stopC
 by_cases q0:s.e=0
 rotate_left
 ·rw[if_pos q0]
  unfold mc_gc_Infer
  simp[q0]
  refine zac.mk hb0 ?_
  simp
  exact EndM.mkE [0,1,2,9,4,11,3,5] [6,7,8,9,10,11] (by simp[cK,cN,cT,zaj,zan,fnT,zap,zaf,noC,encI,encS,AV.erds,AV.erd,D.erdL,D.erd,D.erdE,kid0,kid1])
 rw[if_neg (fun z=>z q0)]
 generalize j env s=r at*
 unfold mc_gc_Infer
 skip
 ·simp[q0,K]
  refine zaa.mk [0,1,2,3,4,5] m (by simp) ?_
  simp
  exact EndM.mkE [0,1,2,9,4,11,14,15] [6,7,8,9,10,11] (by simp[cK,cN,cT,zaj,zan,fnT,zap,zaf,noC,encI,encS,AV.erds,AV.erd,D.erdL,D.erd,D.erdE,kid0,kid1])
set_option maxRecDepth 20000 in
set_option maxHeartbeats 4000000 in
theorem zs4(n:Nod)(K:n.kind=8)(j:Inf)(h:MInf L 82 n j):MInf L 56 n (stopC j):=fun env s k he hs=>by
 refine zaX ⟨by simp,by simp,by simp,by simp,by simp,by simp,by simp[live]⟩ fun ts hts ok hbk c hN hp=>?_
 obtain⟨t,u,v,w,x,y,rfl⟩:=zaV hts
 have hb0:=zaB 0
 have m:=h env s k he hs
 unfold stopC
 by_cases q0:s.e=0
 rotate_left
 ·rw[if_pos q0]
  unfold mc_gc_Infer
  simp[q0]
  refine zac.mk hb0 ?_
  simp
  exact EndM.mkE [0,1,2,9,4,11,3,5] [6,7,8,9,10,11] (by simp[cK,cN,cT,zaj,zan,fnT,zap,zaf,noC,encI,encS,AV.erds,AV.erd,D.erdL,D.erd,D.erdE,kid0,kid1])
 rw[if_neg (fun z=>z q0)]
 generalize j env s=r at*
 unfold mc_gc_Infer
 skip
 ·simp[q0,K]
  refine zaa.mk [0,1,2,3,4,5] m (by simp) ?_
  simp
  exact EndM.mkE [0,1,2,9,4,11,14,15] [6,7,8,9,10,11] (by simp[cK,cN,cT,zaj,zan,fnT,zap,zaf,noC,encI,encS,AV.erds,AV.erd,D.erdL,D.erd,D.erdE,kid0,kid1])
set_option maxRecDepth 20000 in
set_option maxHeartbeats 4000000 in
theorem zyy(n:Nod)(K:n.kind=9)(j:Inf)(h:MInf L 83 n j):MInf L 56 n (stopC j):=fun env s k he hs=>by
 refine zaX ⟨by simp,by simp,by simp,by simp,by simp,by simp,by simp[live]⟩ fun ts hts ok hbk c hN hp=>?_
 obtain⟨t,u,v,w,x,y,rfl⟩:=zaV hts
 have hb0:=zaB 0
 have m:=h env s k he hs
 unfold stopC
 by_cases q0:s.e=0
 rotate_left
 ·rw[if_pos q0]
  unfold mc_gc_Infer
  simp[q0]
  refine zac.mk hb0 ?_
  simp
  exact EndM.mkE [0,1,2,9,4,11,3,5] [6,7,8,9,10,11] (by simp[cK,cN,cT,zaj,zan,fnT,zap,zaf,noC,encI,encS,AV.erds,AV.erd,D.erdL,D.erd,D.erdE,kid0,kid1])
 rw[if_neg (fun z=>z q0)]
 generalize j env s=r at*
 unfold mc_gc_Infer
 skip
 ·simp[q0,K]
  refine zaa.mk [0,1,2,3,4,5] m (by simp) ?_
  simp
  exact EndM.mkE [0,1,2,9,4,11,14,15] [6,7,8,9,10,11] (by simp[cK,cN,cT,zaj,zan,fnT,zap,zaf,noC,encI,encS,AV.erds,AV.erd,D.erdL,D.erd,D.erdE,kid0,kid1])
set_option maxRecDepth 20000 in
set_option maxHeartbeats 4000000 in
theorem zuz(n:Nod)(K:n.kind=10)(j:Inf)(h:MInf L 84 n j):MInf L 56 n (stopC j):=fun env s k he hs=>by
 refine zaX ⟨by simp,by simp,by simp,by simp,by simp,by simp,by simp[live]⟩ fun ts hts ok hbk c hN hp=>?_
 obtain⟨t,u,v,w,x,y,rfl⟩:=zaV hts
 have hb0:=zaB 0
 have m:=h env s k he hs
 unfold stopC
 by_cases q0:s.e=0
 rotate_left
 ·rw[if_pos q0]
  unfold mc_gc_Infer
  simp[q0]
  refine zac.mk hb0 ?_
  simp
  exact EndM.mkE [0,1,2,9,4,11,3,5] [6,7,8,9,10,11] (by simp[cK,cN,cT,zaj,zan,fnT,zap,zaf,noC,encI,encS,AV.erds,AV.erd,D.erdL,D.erd,D.erdE,kid0,kid1])
 rw[if_neg (fun z=>z q0)]
 generalize j env s=r at*
 unfold mc_gc_Infer
 skip
 ·simp[q0,K]
  refine zaa.mk [0,1,2,3,4,5] m (by simp) ?_
  simp
  exact EndM.mkE [0,1,2,9,4,11,14,15] [6,7,8,9,10,11] (by simp[cK,cN,cT,zaj,zan,fnT,zap,zaf,noC,encI,encS,AV.erds,AV.erd,D.erdL,D.erd,D.erdE,kid0,kid1])
set_option maxRecDepth 20000 in
set_option maxHeartbeats 4000000 in
theorem zs5(n:Nod)(K:n.kind=11)(j:Inf)(h:MInf L 85 n j):MInf L 56 n (stopC j):=fun env s k he hs=>by
 refine zaX ⟨by simp,by simp,by simp,by simp,by simp,by simp,by simp[live]⟩ fun ts hts ok hbk c hN hp=>?_
 obtain⟨t,u,v,w,x,y,rfl⟩:=zaV hts
 have hb0:=zaB 0
 have m:=h env s k he hs
 unfold stopC
 by_cases q0:s.e=0
 rotate_left
 ·rw[if_pos q0]
  unfold mc_gc_Infer
  simp[q0]
  refine zac.mk hb0 ?_
  simp
  exact EndM.mkE [0,1,2,9,4,11,3,5] [6,7,8,9,10,11] (by simp[cK,cN,cT,zaj,zan,fnT,zap,zaf,noC,encI,encS,AV.erds,AV.erd,D.erdL,D.erd,D.erdE,kid0,kid1])
 rw[if_neg (fun z=>z q0)]
 generalize j env s=r at*
 unfold mc_gc_Infer
 skip
 ·simp[q0,K]
  refine zaa.mk [0,1,2,3,4,5] m (by simp) ?_
  simp
  exact EndM.mkE [0,1,2,9,4,11,14,15] [6,7,8,9,10,11] (by simp[cK,cN,cT,zaj,zan,fnT,zap,zaf,noC,encI,encS,AV.erds,AV.erd,D.erdL,D.erd,D.erdE,kid0,kid1])
set_option maxRecDepth 20000 in
set_option maxHeartbeats 4000000 in
theorem zzr(n:Nod)(K:n.kind=13)(j:Inf)(h:MInf L 86 n j):MInf L 56 n (stopC j):=fun env s k he hs=>by
 refine zaX ⟨by simp,by simp,by simp,by simp,by simp,by simp,by simp[live]⟩ fun ts hts ok hbk c hN hp=>?_
 obtain⟨t,u,v,w,x,y,rfl⟩:=zaV hts
 have hb0:=zaB 0
 have m:=h env s k he hs
 unfold stopC
 by_cases q0:s.e=0
 rotate_left
 ·rw[if_pos q0]
  unfold mc_gc_Infer
  simp[q0]
  refine zac.mk hb0 ?_
  simp
  exact EndM.mkE [0,1,2,9,4,11,3,5] [6,7,8,9,10,11] (by simp[cK,cN,cT,zaj,zan,fnT,zap,zaf,noC,encI,encS,AV.erds,AV.erd,D.erdL,D.erd,D.erdE,kid0,kid1])
 rw[if_neg (fun z=>z q0)]
 generalize j env s=r at*
 unfold mc_gc_Infer
 skip
 ·simp[q0,K]
  refine zaa.mk [0,1,2,3,4,5] m (by simp) ?_
  simp
  exact EndM.mkE [0,1,2,9,4,11,14,15] [6,7,8,9,10,11] (by simp[cK,cN,cT,zaj,zan,fnT,zap,zaf,noC,encI,encS,AV.erds,AV.erd,D.erdL,D.erd,D.erdE,kid0,kid1])
set_option maxRecDepth 20000 in
set_option maxHeartbeats 4000000 in
theorem zzs(n:Nod)(K:n.kind=14)(j:Inf)(h:MInf L 87 n j):MInf L 56 n (stopC j):=fun env s k he hs=>by
 refine zaX ⟨by simp,by simp,by simp,by simp,by simp,by simp,by simp[live]⟩ fun ts hts ok hbk c hN hp=>?_
 obtain⟨t,u,v,w,x,y,rfl⟩:=zaV hts
 have hb0:=zaB 0
 have m:=h env s k he hs
 unfold stopC
 by_cases q0:s.e=0
 rotate_left
 ·rw[if_pos q0]
  unfold mc_gc_Infer
  simp[q0]
  refine zac.mk hb0 ?_
  simp
  exact EndM.mkE [0,1,2,9,4,11,3,5] [6,7,8,9,10,11] (by simp[cK,cN,cT,zaj,zan,fnT,zap,zaf,noC,encI,encS,AV.erds,AV.erd,D.erdL,D.erd,D.erdE,kid0,kid1])
 rw[if_neg (fun z=>z q0)]
 generalize j env s=r at*
 unfold mc_gc_Infer
 skip
 ·simp[q0,K]
  refine zaa.mk [0,1,2,3,4,5] m (by simp) ?_
  simp
  exact EndM.mkE [0,1,2,9,4,11,14,15] [6,7,8,9,10,11] (by simp[cK,cN,cT,zaj,zan,fnT,zap,zaf,noC,encI,encS,AV.erds,AV.erd,D.erdL,D.erd,D.erdE,kid0,kid1])
set_option maxRecDepth 20000 in
set_option maxHeartbeats 4000000 in
theorem zyz(n:Nod)(K:n.kind=12\/n.kind=15\/n.kind=16\/n.kind=17)(j:Inf)(h:MInf L 88 n j):MInf L 56 n (stopC j):=fun env s k he hs=>by
 refine zaX ⟨by simp,by simp,by simp,by simp,by simp,by simp,by simp[live]⟩ fun ts hts ok hbk c hN hp=>?_
 obtain⟨t,u,v,w,x,y,rfl⟩:=zaV hts
 have hb0:=zaB 0
 have m:=h env s k he hs
 unfold stopC
 by_cases q0:s.e=0
 rotate_left
 ·rw[if_pos q0]
  unfold mc_gc_Infer
  simp[q0]
  refine zac.mk hb0 ?_
  simp
  exact EndM.mkE [0,1,2,9,4,11,3,5] [6,7,8,9,10,11] (by simp[cK,cN,cT,zaj,zan,fnT,zap,zaf,noC,encI,encS,AV.erds,AV.erd,D.erdL,D.erd,D.erdE,kid0,kid1])
 rw[if_neg (fun z=>z q0)]
 generalize j env s=r at*
 unfold mc_gc_Infer
 rcases K with K|K|K|K
 ·simp[q0,K]
  refine zaa.mk [0,1,2,3,4,5] m (by simp) ?_
  simp
  exact EndM.mkE [0,1,2,9,4,11,14,15] [6,7,8,9,10,11] (by simp[cK,cN,cT,zaj,zan,fnT,zap,zaf,noC,encI,encS,AV.erds,AV.erd,D.erdL,D.erd,D.erdE,kid0,kid1])
 ·simp[q0,K]
  refine zaa.mk [0,1,2,3,4,5] m (by simp) ?_
  simp
  exact EndM.mkE [0,1,2,9,4,11,14,15] [6,7,8,9,10,11] (by simp[cK,cN,cT,zaj,zan,fnT,zap,zaf,noC,encI,encS,AV.erds,AV.erd,D.erdL,D.erd,D.erdE,kid0,kid1])
 ·simp[q0,K]
  refine zaa.mk [0,1,2,3,4,5] m (by simp) ?_
  simp
  exact EndM.mkE [0,1,2,9,4,11,14,15] [6,7,8,9,10,11] (by simp[cK,cN,cT,zaj,zan,fnT,zap,zaf,noC,encI,encS,AV.erds,AV.erd,D.erdL,D.erd,D.erdE,kid0,kid1])
 ·simp[q0,K]
  refine zaa.mk [0,1,2,3,4,5] m (by simp) ?_
  simp
  exact EndM.mkE [0,1,2,9,4,11,14,15] [6,7,8,9,10,11] (by simp[cK,cN,cT,zaj,zan,fnT,zap,zaf,noC,encI,encS,AV.erds,AV.erd,D.erdL,D.erd,D.erdE,kid0,kid1])
set_option maxRecDepth 20000 in
set_option maxHeartbeats 4000000 in
theorem zyA(n:Nod)(K:n.kind=0):MInf L 56 n (stopC fun env s=>((cN 0 n.n,bT 3),s)):=fun env s k he hs=>by
 refine zaX ⟨by simp,by simp,by simp,by simp,by simp,by simp,by simp[live]⟩ fun ts hts ok hbk c hN hp=>?_
 obtain⟨t,u,v,w,x,y,rfl⟩:=zaV hts
 have hb0:=zaB 0
 have hbK:=zaB 3
 unfold stopC
 by_cases q0:s.e=0
 rotate_left
 ·rw[if_pos q0]
  unfold mc_gc_Infer
  simp[q0]
  refine zac.mk hb0 ?_
  simp
  exact EndM.mkE [0,1,2,9,4,11,3,5] [6,7,8,9,10,11] (by simp[cK,cN,cT,zaj,zan,fnT,zap,zaf,noC,encI,encS,AV.erds,AV.erd,D.erdL,D.erd,D.erdE,kid0,kid1])
 rw[if_neg (fun z=>z q0)]
 unfold mc_gc_Infer
 simp[q0,K]
 refine zac.mk hbK ?_
 simp
 refine⟨by decide,?_⟩
 exact EndM.mkE [0,1,2,9,4,11,3,5] [6,7,8,9,10,11] (by simp[cK,cN,cT,zaj,zan,fnT,zap,zaf,noC,encI,encS,AV.erds,AV.erd,D.erdL,D.erd,D.erdE,kid0,kid1])
set_option maxRecDepth 20000 in
set_option maxHeartbeats 4000000 in
theorem zyB(n:Nod)(K:n.kind=1):MInf L 56 n (stopC fun env s=>((cT 1 n.text [],bT 4),s)):=fun env s k he hs=>by
 refine zaX ⟨by simp,by simp,by simp,by simp,by simp,by simp,by simp[live]⟩ fun ts hts ok hbk c hN hp=>?_
 obtain⟨t,u,v,w,x,y,rfl⟩:=zaV hts
 have hb0:=zaB 0
 have hbK:=zaB 4
 unfold stopC
 by_cases q0:s.e=0
 rotate_left
 ·rw[if_pos q0]
  unfold mc_gc_Infer
  simp[q0]
  refine zac.mk hb0 ?_
  simp
  exact EndM.mkE [0,1,2,9,4,11,3,5] [6,7,8,9,10,11] (by simp[cK,cN,cT,zaj,zan,fnT,zap,zaf,noC,encI,encS,AV.erds,AV.erd,D.erdL,D.erd,D.erdE,kid0,kid1])
 rw[if_neg (fun z=>z q0)]
 unfold mc_gc_Infer
 simp[q0,K]
 refine zac.mk hbK ?_
 simp
 refine⟨by decide,?_⟩
 exact EndM.mkE [0,1,2,9,4,11,3,5] [6,7,8,9,10,11] (by simp[cK,cN,cT,zaj,zan,fnT,zap,zaf,noC,encI,encS,AV.erds,AV.erd,D.erdL,D.erd,D.erdE,kid0,kid1])
set_option maxRecDepth 20000 in
set_option maxHeartbeats 4000000 in
theorem zws(n:Nod)(K:n.kind=2):MInf L 56 n (stopC fun env s=>((cN 2 n.n,bT 2),s)):=fun env s k he hs=>by
 refine zaX ⟨by simp,by simp,by simp,by simp,by simp,by simp,by simp[live]⟩ fun ts hts ok hbk c hN hp=>?_
 obtain⟨t,u,v,w,x,y,rfl⟩:=zaV hts
 have hb0:=zaB 0
 have hbK:=zaB 2
 unfold stopC
 by_cases q0:s.e=0
 rotate_left
 ·rw[if_pos q0]
  unfold mc_gc_Infer
  simp[q0]
  refine zac.mk hb0 ?_
  simp
  exact EndM.mkE [0,1,2,9,4,11,3,5] [6,7,8,9,10,11] (by simp[cK,cN,cT,zaj,zan,fnT,zap,zaf,noC,encI,encS,AV.erds,AV.erd,D.erdL,D.erd,D.erdE,kid0,kid1])
 rw[if_neg (fun z=>z q0)]
 unfold mc_gc_Infer
 simp[q0,K]
 refine zac.mk hbK ?_
 simp
 refine⟨by decide,?_⟩
 exact EndM.mkE [0,1,2,9,4,11,3,5] [6,7,8,9,10,11] (by simp[cK,cN,cT,zaj,zan,fnT,zap,zaf,noC,encI,encS,AV.erds,AV.erd,D.erdL,D.erd,D.erdE,kid0,kid1])
set_option maxRecDepth 20000 in
set_option maxHeartbeats 4000000 in
theorem zyC(n:Nod)(K:n.kind=3):MInf L 56 n (stopC fun env s=>((cN 3 0,bT 1),s)):=fun env s k he hs=>by
 refine zaX ⟨by simp,by simp,by simp,by simp,by simp,by simp,by simp[live]⟩ fun ts hts ok hbk c hN hp=>?_
 obtain⟨t,u,v,w,x,y,rfl⟩:=zaV hts
 have hb0:=zaB 0
 have hbK:=zaB 1
 unfold stopC
 by_cases q0:s.e=0
 rotate_left
 ·rw[if_pos q0]
  unfold mc_gc_Infer
  simp[q0]
  refine zac.mk hb0 ?_
  simp
  exact EndM.mkE [0,1,2,9,4,11,3,5] [6,7,8,9,10,11] (by simp[cK,cN,cT,zaj,zan,fnT,zap,zaf,noC,encI,encS,AV.erds,AV.erd,D.erdL,D.erd,D.erdE,kid0,kid1])
 rw[if_neg (fun z=>z q0)]
 unfold mc_gc_Infer
 simp[q0,K]
 refine zac.mk hbK ?_
 simp
 exact EndM.mkE [0,1,2,9,4,11,3,5] [6,7,8,9,10,11] (by simp[cK,cN,cT,zaj,zan,fnT,zap,zaf,noC,encI,encS,AV.erds,AV.erd,D.erdL,D.erd,D.erdE,kid0,kid1])
set_option maxRecDepth 20000 in
set_option maxHeartbeats 4000000 in
theorem zwt(n:Nod)(K:n.kind=18):MInf L 56 n (stopC fun env s=>((cN 20 0,bT 3),s)):=fun env s k he hs=>by
 refine zaX ⟨by simp,by simp,by simp,by simp,by simp,by simp,by simp[live]⟩ fun ts hts ok hbk c hN hp=>?_
 obtain⟨t,u,v,w,x,y,rfl⟩:=zaV hts
 have hb0:=zaB 0
 have hbK:=zaB 3
 unfold stopC
 by_cases q0:s.e=0
 rotate_left
 ·rw[if_pos q0]
  unfold mc_gc_Infer
  simp[q0]
  refine zac.mk hb0 ?_
  simp
  exact EndM.mkE [0,1,2,9,4,11,3,5] [6,7,8,9,10,11] (by simp[cK,cN,cT,zaj,zan,fnT,zap,zaf,noC,encI,encS,AV.erds,AV.erd,D.erdL,D.erd,D.erdE,kid0,kid1])
 rw[if_neg (fun z=>z q0)]
 unfold mc_gc_Infer
 simp[q0,K]
 refine zac.mk hbK ?_
 simp
 exact EndM.mkE [0,1,2,9,4,11,3,5] [6,7,8,9,10,11] (by simp[cK,cN,cT,zaj,zan,fnT,zap,zaf,noC,encI,encS,AV.erds,AV.erd,D.erdL,D.erd,D.erdE,kid0,kid1])
theorem zja{n:Nod}{c:Env->CS->Cor}{b:Int}(h0:0<=b)(h4:b<=4):PInf L n (stopC fun env s=>((c env s,bT b),s)):=zcT L fun env s k he hs=>⟨hs.less (by omega),zbE b h0 h4⟩
theorem zf3{l:List Nod}(h:l.length=1):∃a,l=[a]:=by
 match l,h with
 |[a],_=>exact⟨a,rfl⟩
theorem zgB{l:List Nod}(h:l.length=2):∃a b,l=[a,b]:=by
 match l,h with
 |[a,b],_=>exact⟨a,b,rfl⟩
theorem zrt{l:List Nod}(h:l.length=3):∃a b c,l=[a,b,c]:=by
 match l,h with
 |[a,b,c],_=>exact⟨a,b,c,rfl⟩
def headC(n:Nod)(rest:Inf):Inf:=fun env s=>
 if n.kind=0 then((cN 0 n.n,bT 3),s)
 else if n.kind=1 then((cT 1 n.text [],bT 4),s)
 else if n.kind=2 then((cN 2 n.n,bT 2),s)
 else if n.kind=3 then((cN 3 0,bT 1),s)
 else if n.kind=18 then((cN 20 0,bT 3),s)
 else if n.kind=4\/n.kind=19 then zcG L n env s
 else if n.kind=8 then recC n (zaN L n.kids) env s
 else rest env s
def zgC(n a:Nod):Inf:=fun env s=>
 if n.kind=6 then fnC n a (zao L a) env s
 else if n.kind=9 then selC n (zao L a) env s
 else if n.kind=13 then asC n (zao L a) env s
 else oneC n a (zao L a) env s
def zgD(n a b:Nod):Inf:=fun env s=>
 if n.kind=5 then letC n a (zao L a) (zao L b) env s
 else if n.kind=7 then zdv n b (zao L a) (zao L b) env s
 else if n.kind=10 then zdw n (zao L a) (zao L b) env s
 else opC n a b (zao L a) (zao L b) env s
theorem eq0(k:Int)(tx:ByteArray)(nn ln cl:Int)(ts:List Typ)(ns:List ByteArray):zao L (.mk k tx nn ln cl ts ns [])=stopC (headC L (.mk k tx nn ln cl ts ns []) fun env s=>((noC,noT),s)):=by with_unfolding_all rfl
theorem eq1(k:Int)(tx:ByteArray)(nn ln cl:Int)(ts:List Typ)(ns:List ByteArray)(a:Nod):zao L (.mk k tx nn ln cl ts ns [a])=stopC (headC L (.mk k tx nn ln cl ts ns [a]) (zgC L (.mk k tx nn ln cl ts ns [a]) a)):=by with_unfolding_all rfl
theorem eq2(k:Int)(tx:ByteArray)(nn ln cl:Int)(ts:List Typ)(ns:List ByteArray)(a b:Nod):zao L (.mk k tx nn ln cl ts ns [a,b])=stopC (headC L (.mk k tx nn ln cl ts ns [a,b]) (zgD L (.mk k tx nn ln cl ts ns [a,b]) a b)):=by with_unfolding_all rfl
theorem eq3(k:Int)(tx:ByteArray)(nn ln cl:Int)(ts:List Typ)(ns:List ByteArray)(a b c:Nod)(l:List Nod):zao L (.mk k tx nn ln cl ts ns (a::b::c::l))=stopC (headC L (.mk k tx nn ln cl ts ns (a::b::c::l)) (ifC a b c (zao L a) (zao L b) (zao L c))):=by with_unfolding_all rfl
theorem zcK(n:Nod)(j:Inf)(h:∀rest,headC L n rest=j):zao L n=stopC j:=by
 obtain⟨k,tx,nn,ln,cl,ts,ns,ks⟩:=n
 match ks,h with
 |[],h=>rw[eq0,h]
 |[a],h=>rw[eq1,h]
 |[a,b],h=>rw[eq2,h]
 |a::b::c::l,h=>rw[eq3,h]
theorem zuA(hL:GoodL L)(n:Nod)(hw:wfN n)(ih:∀x,x∈n.kids->zbC L x (zao L x)):zbC L n (zao L n):=by
 obtain⟨hws,hs⟩:=(zsd n).1 hw
 obtain⟨k,tx,nn,ln,cl,ts,ns,ks⟩:=n
 simp only[Nod.kind,Nod.kids,Nod.types,Nod.names]at hws hs ih
 have go:∀j:Inf,zao L (.mk k tx nn ln cl ts ns ks)=stopC j->MInf L 56 (.mk k tx nn ln cl ts ns ks) (stopC j)->PInf L (.mk k tx nn ln cl ts ns ks) (stopC j)->zbC L (.mk k tx nn ln cl ts ns ks) (zao L (.mk k tx nn ln cl ts ns ks)):=fun j e m p=>by rw[e];exact⟨m,p⟩
 rcases hs with(K|K|K|K|K)|⟨K,t1⟩|⟨K,t1⟩|⟨K,l1,t1⟩|⟨K,l1,t1⟩|⟨K,l1⟩|⟨K,l1⟩|⟨K,l1⟩|⟨K,l1⟩|⟨K,l1⟩|⟨K,l1⟩|⟨K,l1⟩
 ·exact go _ (zcK L _ _ fun rest=>by funext env s;simp[headC,Nod.kind,Nod.n,Nod.text,K]) (zyA L _ (by exact K)) (zja L (by omega) (by omega))
 ·exact go _ (zcK L _ _ fun rest=>by funext env s;simp[headC,Nod.kind,Nod.n,Nod.text,K]) (zyB L _ (by exact K)) (zja L (by omega) (by omega))
 ·exact go _ (zcK L _ _ fun rest=>by funext env s;simp[headC,Nod.kind,Nod.n,Nod.text,K]) (zws L _ (by exact K)) (zja L (by omega) (by omega))
 ·exact go _ (zcK L _ _ fun rest=>by funext env s;simp[headC,Nod.kind,Nod.n,Nod.text,K]) (zyC L _ (by exact K)) (zja L (by omega) (by omega))
 ·exact go _ (zcK L _ _ fun rest=>by funext env s;simp[headC,Nod.kind,Nod.n,Nod.text,K]) (zwt L _ (by exact K)) (zja L (by omega) (by omega))
 ·exact go (zcG L (.mk k tx nn ln cl ts ns ks)) (zcK L _ _ fun rest=>by funext env s;rcases K with K|K<;>simp[headC,Nod.kind,K]) (zuy L _ (by exact K) _ (zvq L hL _ (by exact t1))) (zcT L (zy4 L hL _ (by exact t1)))
 ·exact go (recC (.mk k tx nn ln cl ts ns ks) (zaN L ks)) (zcK L _ _ fun rest=>by funext env s;simp[headC,Nod.kind,Nod.kids,K]) (zs4 L _ (by exact K) _ (ztU L _ (by exact t1) (by exact ih))) (zcT L (zAC L _ fun x hx=>(ih x hx).2))
 ·obtain⟨a,rfl⟩:=zf3 l1
  have ia:=ih a (by simp)
  exact go (fnC (.mk k tx nn ln cl ts ns [a]) a (zao L a)) (by rw[eq1];funext env s;simp[stopC,headC,zgC,Nod.kind,K]) (zzq L _ (by exact K) _ (zz0 L _ a rfl (by exact t1) _ ia)) (zcT L (fn_p L _ a rfl _ ia.2))
 ·obtain⟨a,rfl⟩:=zf3 l1
  have ia:=ih a (by simp)
  exact go (asC (.mk k tx nn ln cl ts ns [a]) (zao L a)) (by rw[eq1];funext env s;simp[stopC,headC,zgC,Nod.kind,K]) (zzr L _ (by exact K) _ (zzN L _ a rfl (by exact t1) _ ia)) (zcT L (as_p L _ a rfl _ ia.2))
 ·obtain⟨a,rfl⟩:=zf3 l1
  have ia:=ih a (by simp)
  exact go (selC (.mk k tx nn ln cl ts ns [a]) (zao L a)) (by rw[eq1];funext env s;simp[stopC,headC,zgC,Nod.kind,K]) (zyy L _ (by exact K) _ (zze L _ a rfl _ ia)) (zcT L (zAH L _ a rfl _ ia.2))
 ·obtain⟨a,rfl⟩:=zf3 l1
  have ia:=ih a (by simp)
  exact go (oneC (.mk k tx nn ln cl ts ns [a]) a (zao L a)) (by rw[eq1];funext env s;rcases K with K|K|K|K<;>simp[stopC,headC,zgC,Nod.kind,K]) (zyz L _ (by exact K) _ (zy3 L _ a rfl _ ia)) (zcT L (zAx L _ a rfl _ ia.2))
 ·obtain⟨a,b,rfl⟩:=zgB l1
  have ia:=ih a (by simp)
  have ib:=ih b (by simp)
  exact go (letC (.mk k tx nn ln cl ts ns [a,b]) a (zao L a) (zao L b)) (by rw[eq2];funext env s;simp[stopC,headC,zgD,Nod.kind,K]) (zyx L _ (by exact K) _ (zzb L _ a b rfl _ _ ia ib)) (zcT L (zAG L _ a b rfl _ _ ia.2 ib.2))
 ·obtain⟨a,b,rfl⟩:=zgB l1
  have ia:=ih a (by simp)
  have ib:=ih b (by simp)
  exact go (zdv (.mk k tx nn ln cl ts ns [a,b]) b (zao L a) (zao L b)) (by rw[eq2];funext env s;simp[stopC,headC,zgD,Nod.kind,K]) (zwr L _ (by exact K) _ (zxU L _ a b rfl _ _ ia ib)) (zcT L (zz2 L _ a b rfl _ _ ia.2 ib.2))
 ·obtain⟨a,b,rfl⟩:=zgB l1
  have ia:=ih a (by simp)
  have ib:=ih b (by simp)
  exact go (zdw (.mk k tx nn ln cl ts ns [a,b]) (zao L a) (zao L b)) (by rw[eq2];funext env s;simp[stopC,headC,zgD,Nod.kind,K]) (zuz L _ (by exact K) _ (zv1 L _ a b rfl _ _ ia ib)) (zcT L (zz5 L _ a b rfl _ _ ia.2 ib.2))
 ·obtain⟨a,b,rfl⟩:=zgB l1
  have ia:=ih a (by simp)
  have ib:=ih b (by simp)
  exact go (opC (.mk k tx nn ln cl ts ns [a,b]) a b (zao L a) (zao L b)) (by rw[eq2];funext env s;simp[stopC,headC,zgD,Nod.kind,K]) (zzs L _ (by exact K) _ (zzt L _ a b rfl _ _ ia ib)) (zcT L (op_p L _ a b rfl _ _ ia.2 ib.2))
 ·obtain⟨q,a,b,rfl⟩:=zrt l1
  have iq:=ih q (by simp)
  have ia:=ih a (by simp)
  have ib:=ih b (by simp)
  have hq:q.kind=12->∃w,q.kids=[w]:=fun k12=>by
   have:=((zsd q).1 (hws q (by simp))).2
   unfold shN at this
   rw[k12]at this
   exact zf3 (by omega)
  exact go (ifC q a b (zao L q) (zao L a) (zao L b)) (by rw[eq3];funext env s;simp[stopC,headC,Nod.kind,K]) (zs5 L _ (by exact K) _ (zua L _ q a b rfl hq _ _ _ iq ia ib)) (zcT L (if_p L _ q a b rfl _ _ _ iq.2 ia.2 ib.2))
mutual
theorem zli(hL:GoodL L):∀n:Nod,wfN n->zbC L n (zao L n)
 |.mk k tx nn ln cl ts ns ks,hw=>zuA L hL _ hw (znU hL ks (by rw[wfN]at hw;exact hw.1))
theorem znU(hL:GoodL L):∀l:List Nod,wfNs l->∀x,x∈l->zbC L x (zao L x)
 |[],_,x,hx=>by cases hx
 |n::l,hw,x,hx=>by
  rw[wfNs]at hw
  rcases List.mem_cons.1 hx with e|hx
  ·rw[e];exact zli hL n hw.1
  ·exact znU hL l hw.2 x hx
end
end
end Go.Gr
