/- Of ours. -/
import Derived.Test.YtlfjlokfciejnaaGreatJ14
import Derived.Test.YtlfjlokfciejnaaGreatSrt
import Derived.Test.YtlfjlokfciejnaaGreatJ13
set_option maxRecDepth 20000
set_option maxHeartbeats 4000000
set_option linter.unusedVariables false
set_option linter.unusedSectionVars false
set_option linter.unusedSimpArgs false
set_option linter.defProp false
set_option linter.unnecessarySimpa false
open List renaming length->lN
open Bool renaming true->tT,false->oK
open Option renaming some->sS,none->nN
namespace Go.Gr
open Go.Abs Go.Proofs
@[simp] theorem gT.er_map(d:gT):d.enc.map D.er=d.enc:=by rw[gT.l_];try rfl
def uS:oW:=[0,0,0,0,0,0]
def zEF{ts:o6}{b c:A_}(h:lN ts=[b,c].length):∃t u,ts=[t,u]:=by
 match ts,h with
 |[t,u],_=>exact⟨t,u,rfl⟩
def Gj:q_ Pg 73 [] [] (.ag [.x_ 1 0 0 6,.d (.sl tT 2 []),.d (.sl tT 1 []),.d (.sl tT 5 []),.d (.sl tT 5 [])]) [.arr 1 ((encI uS).map (·.map .d))]:=by
 refine zE2 ⟨oC,oC,oC,oC,oC,by simp[encI,uS,live],by simp[encI,uS]⟩ λts _e ok hb c hN hp=>?_;obtain rfl:=EB _e;simp[NT];exact fK [1] [] (by simp[encI,uS])
def Cy(a b:sG):sG:=a++b.filter λn=> !a.any λm=>decide (m.1=n.1)
def je(c:gT):gT × gT:=match c.fn with
|f::g::_=>(f,g)
|_=>(r?,r?)
def rQ(f g:gT):sN:=if(ja f r?&&ja g r?)=tT then []else [f,g]
end Go.Gr
namespace Go.Gr
open Go.Abs Go.Proofs Go.RowKit
end Go.Gr
namespace Go.Gr
open Go.Abs Go.Proofs
def Gl:gT:=.mk [] [] [] [] []
def UU{l:oN}{k:fD}:k∈zaT l↔k∈l:=by
 unfold zaT;simp only[af,List.mem_mergeSort];constructor
 .rintro⟨x,⟨s,hs,rfl⟩,rfl⟩
  simpa using hs
 .intro h;exact⟨_,⟨k,h,rfl⟩,oC⟩
end Go.Gr
namespace Go.Gr
open Go.Abs
def W?(a b:fD):Prop:=a.data.toList<b.data.toList
instance ltBDec (a b:fD):Decidable (W? a b):=inferInstanceAs (Decidable (a.data.toList<b.data.toList))
def Kw:∀(x y:List UInt8),Op.bytesLess x y=decide (x<y)
|[],[]=>by simp[Op.bytesLess]
|_::_,[]=>by simp[Op.bytesLess]
|[],_::_=>by simp[Op.bytesLess]
| a::x,b::y=>by
 rw[Op.bytesLess,Kw x y];by_cases h1:a<b
 .simp[h1,eO]
 .by_cases h2:b<a
  .have:¬a=b:=λe=>by rw[e]at h2;exact UInt8.lt_irrefl _ h2
   simp[h1,h2,this,eO]
  .have:a=b:=UInt8.le_antisymm (UInt8.not_lt.1 h2) (UInt8.not_lt.1 h1);simp[this,eO,UInt8.lt_irrefl]
def EH(a:fD):¬W? a a:=List.lt_irrefl _
def Cz{a b c:fD}(h:W? a b)(k:W? b c):W? a c:=List.lt_trans h k
def Nt{a b:fD}(h:a≠b):W? a b\/W? b a:=by
 by_cases h1:W? a b
 .exact .inl h1
 .by_cases h2:W? b a
  .exact .inr h2
  .have:a.data.toList=b.data.toList:=List.le_antisymm h2 h1;exact absurd (Go.WideShapes.bytes_inj this) h
def zEI(a b:fD):(!EG b a)=decide (W? a b):=by
 unfold EG W?;rw[Kw];by_cases h:a=b
 .subst h;simp[List.lt_irrefl]
 .have h':¬b=a:=λe=>h e.symm;rcases Nt h with q|q
  .have:¬W? b a:=λe=>EH _ (Cz q e);unfold W? at q this;simp[h',q,this]
  .have:¬W? a b:=λe=>EH _ (Cz q e);unfold W? at q this;simp[h',q,this]
def zsP:∀{l:List fD},zH l=tT↔l.Pairwise W?
|[]=>by simp[zH]
|[a]=>by simp[zH]
| a::b::l=>by
 rw[zH,zEI,aG,aI,zsP (l:=b::l)];constructor
 .rintro⟨h1,h2⟩
  refine List.Pairwise.cons (λc hc=>?_) h2;cases aM.1 hc with
  |inl e=>rw[e];exact h1
  |inr e=>exact Cz h1 (List.rel_of_pairwise_cons h2 e)
 .intro h;exact⟨List.rel_of_pairwise_cons h oC,h.of_cons⟩
def Gm{l:oN}(h:l.Pairwise W?):l.Nodup:=h.imp λh e=>by rw[e]at h;exact EH _ h
def zEJ{l k:oN}(h1:l.Pairwise W?)(h2:k.Pairwise W?)(h:∀x,x∈l↔x∈k):l=k:=
 List.Perm.eq_of_pairwise (le:=W?) (λa b _ _ p q=>absurd (Cz p q) (EH _)) h1 h2 ((List.perm_ext_iff_of_nodup (Gm h1) (Gm h2)).2 h)
def UV{l:oN}(hn:l.Nodup):(zaT l).Pairwise W?:=by
 have tr:∀a b c:o9,decide (a<=b)=tT->decide (b<=c)=tT->decide (a<=c)=tT:=λa b c h1 h2=>by simp only[aI]at*;exact List.le_trans h1 h2
 have to:∀a b:o9,(decide (a<=b)||decide (b<=a))=tT:=λa b=>by simp only[cz,aI];exact List.le_total a b
 have h1:=List.pairwise_mergeSort tr to (l.map λs=>s.data.toList);have h2:((l.map λs=>s.data.toList).mergeSort λx y=>decide (x<=y)).Nodup:=by
  refine(List.mergeSort_perm _ _).nodup_iff.2 ?_;refine List.pairwise_map.2 (hn.imp λh e=>h (Go.WideShapes.bytes_inj e))
 unfold zaT;rw[List.pairwise_map];refine(h1.and h2).imp λ{a b} ⟨p,q⟩=>?_;simp only[aI]at p;unfold W?;simp only;rcases Nt (a:=⟨a.toArray⟩) (b:=⟨b.toArray⟩) (λe=>q (by simpa using dM (λx:fD=>x.data.toList) e))with r|r
 .exact r
 .exact absurd r p
mutual
def Iu:∀(a b:gT),ja a b=tT↔a=b
|.mk t n s f g,.mk t' n' s' f' g'=>by
 simp only[ja,aG,aI,gT.mk.injEq];rw[UW f f',UW g g']
def UW:∀(a b:List gT),AQ a b=tT↔a=b
|[],[]=>by simp[AQ]
|[],_::_=>by simp[AQ]
|_::_,[]=>by simp[AQ]
|a::l,b::k=>by
 simp only[AQ,aG,eQ];rw[Iu a b,UW l k]
end
def Ky{a b:gT}:ja a b=oK↔a≠b:=by
 rw[<-aT,Iu]
def UX(a:gT):ja a a=tT:=(Iu a a).2 rfl
def zCk(l:sG):yZ [] l=tT↔(∀x,x∈l->x.2≠0)/\(l.map (·.1)).Nodup:=by
 have key:∀(l:sG) (seen:oN),yZ seen l=tT↔(∀x,x∈l->x.2≠0/\x.1∉seen)/\(l.map (·.1)).Nodup:=by
  intro l
  induction l with
  |nil=>intro seen;simp[yZ]
  | cons x l ih=>
   intro seen;have hm:(!(seen.any λy=>decide (y=x.1)))=tT↔x.1∉seen:=by
    simp;exact⟨λh hx=>h _ hx rfl,λh y hy e=>h (e▸hy)⟩
   simp only[yZ,aG,aI];rw[ih,hm];simp only[List.map_cons,dY,aM,d9];constructor
   .rintro⟨h1,h2,h3,h4⟩
    refine⟨λy hy=>?_,λh=>?_,h4⟩
    .rcases hy with rfl|hy
     .exact⟨h1,h2⟩
     .exact⟨(h3 y hy).1,(h3 y hy).2.2⟩
    .let⟨y,hy,e⟩:=af.1 h;exact(h3 y hy).2.1 e
   .rintro⟨h1,h2,h3⟩
    refine⟨(h1 x (.inl rfl)).1,(h1 x (.inl rfl)).2,λy hy=>⟨(h1 y (.inr hy)).1,λe=>h2 ?_,(h1 y (.inr hy)).2⟩,h3⟩;exact af.2 ⟨y,hy,e⟩
 rw[key];simp
structure May (d:gT):Prop where
 tags:lN d.tags=6
 len:lN d.a_=lN d.fields
 fn:d.fn=[]\/∃f g,d.fn=[f,g]/\i? f=tT/\i? g=tT/\¬(f=r?/\g=r?)
 t4:m? d 4≠0->d.a_=[]
 t5:m? d 5≠0->d.fn=[]
 i_:(∀x,x∈d.i_->x.2≠0)/\(d.i_.map (·.1)).Nodup
 a_:d.a_.Pairwise W?
 fields:∀x,x∈d.fields->i? x=tT/\x≠r?
def zI(d:gT):i? d=tT↔May d:=by
 rw[zA8];unfold rq;simp only[aG,aI];rw[zCk,zsP,ai];constructor
 .rintro⟨⟨⟨h1,h2,h3⟩,h4,h5,h6⟩,h7,h8⟩
  refine⟨h1,h2,?_,λh=>?_,λh=>?_,h5,h6,λx hx=>?_⟩
  .rcases h3 with h3|h3
   .exact .inl (aW.1 h3)
   .let⟨x,y,hxy⟩:∃x y,d.fn=[x,y]:=by
     match d.fn,h3 with
     |[x,y],_=>exact⟨x,y,rfl⟩
    rw[hxy,Ir]at h8;simp only[aG,bB,Bool.and_eq_false_iff,Ky]at h8;exact .inr ⟨x,y,hxy,h8.1,h8.2.1,λ⟨e1,e2⟩=>h8.2.2.elim (λq=>q e1) (λq=>q e2)⟩
  .apply aW.1;omega
  .apply aW.1;omega
  .have:=h7 x hx;simp only[aG,bB,Ky]at this;exact this
 .rintro⟨h1,h2,h3,h4,h5,h6,h7,h8⟩
  refine⟨⟨⟨h1,h2,?_⟩,?_,h6,h7⟩,λx hx=>?_,?_⟩
  .rcases h3 with h3|⟨f,g,h3,_⟩<;>rw[h3]<;>simp
  .rintro(⟨q,r⟩|⟨q,r⟩)
   .rw[h4 q]at r;simp at r
   .rw[h5 q]at r;simp at r
  .simp only[aG,bB,Ky];exact h8 x hx
  .rcases h3 with h3|⟨f,g,h3,q1,q2,q3⟩
   .rw[h3];try rfl
   .rw[h3,Ir];simp only[aG,bB,Bool.and_eq_false_iff,Ky];refine⟨q1,q2,?_⟩;by_cases e:f=r?
    .exact .inr λe'=>q3 ⟨e,e'⟩
    .exact .inl e
instance memBDec (k:fD) (l:List fD):Decidable (k∈l):=decidable_of_iff (l.any (λx=>decide (x=k))=tT) oC
def Bz:List fD->List gT->fD->gT
|n::ns,f::fs,k=>if k=n then f else Bz ns fs k
|_,_,_=>r?
def ru(c:gT)(k:fD):gT:=Bz c.a_ c.fields k
def Nu:∀{ns:List fD} {fs:List gT} {k:fD},k∉ns->Bz ns fs k=r?
|[],fs,k,h=>by simp[Bz]
|n::ns,[],k,h=>by simp[Bz]
|n::ns,f::fs,k,h=>by
 simp only[aM,d9]at h;rw[Bz,aB h.1,Nu h.2]
def Nv:∀{ns:List fD} {fs:List gT} {k:fD},lN ns=lN fs->k∈ns->Bz ns fs k∈fs
| n::ns,f::fs,k,e,h=>by
 rw[Bz];split
 .simp
 next q=>
  have:=Nv (ns:=ns) (fs:=fs) (k:=k) (uM e) ((aM.1 h).resolve_left q);simp[this]
|_::_,[],_,e,_=>by simp at e
def Gn:i? r?=tT:=by decide
def May.r?:May r?:=(zI _).1 Gn
def May.field{c:gT}(h:May c)(k:fD):i? (ru c k)=tT:=by
 unfold ru;by_cases q:k∈c.a_
 .exact(h.fields _ (Nv h.len q)).1
 .rw[Nu q];exact Gn
def May.pair{c:gT}(h:May c):i? (je c).1=tT/\i? (je c).2=tT:=by
 unfold je;rcases h.fn with e|⟨f,g,e,h1,h2,_⟩<;>rw[e]
 .exact⟨Gn,Gn⟩
 .exact⟨h1,h2⟩
def pu(a b:oW):oW:=List.zipWith (λx y=>if x=0 then y else x) a b
def y5(a b:gT):sG:=if m? a 4=0 then Cy a.i_ b.i_ else a.i_
def BA(a b:gT):oN:=zaT (a.a_++b.a_.filter λk=> !decide (k∈a.a_))
def busy(l:List (fD × gT)):List (fD × gT):=l.filter λx=> !ja x.2 r?
def yB(v:gT->gT->gT)(a b:gT):List (fD × gT):=busy ((BA a b).map λk=>(k,v (ru a k) (ru b k)))
def kI(v:gT->gT->gT)(a b:gT):gT:=
.mk (pu a.tags b.tags) (y5 a b) (if(pu a.tags b.tags).getD 4 0=0 then(yB v a b).map (·.1)else []) (if(pu a.tags b.tags).getD 4 0=0 then(yB v a b).map (·.2)else [])
 (if(pu a.tags b.tags).getD 5 0=0 then rQ (v (je b).1 (je a).1) (v (je a).2 (je b).2)else [])
def uT:Nat->gT->gT->gT
|0,_,_=>r?
|n+1,a,b=>kI (uT n) a b
def UY{a b:oW}(ha:lN a=6)(hb:lN b=6):(pu a b).length=6:=by simp[pu,ha,hb]
def zEK{a b:gT}{k:fD}:k∈BA a b↔k∈a.a_\/k∈b.a_:=by
 unfold BA;rw[UU];simp only[aL,bP,bB,bQ];by_cases h:k∈a.a_<;>simp[h]
def zzy{a b:gT}(ha:a.a_.Nodup)(hb:b.a_.Nodup):(a.a_++b.a_.filter λk=> !decide (k∈a.a_)).Nodup:=by
 refine bK.2 ⟨ha,hb.filter _,λx hx y hy e=>?_⟩;simp only[bP,bB,bQ]at hy;exact hy.2 (e▸hx)
def zzz{a b:gT}(ha:May a)(hb:May b):(BA a b).Pairwise W?:=UV (zzy (Gm ha.a_) (Gm hb.a_))
section
variable {v:gT->gT->gT} {a b:gT}
def zzA{a b:sG}(ha:(a.map (·.1)).Nodup)(hb:(b.map (·.1)).Nodup):((Cy a b).map (·.1)).Nodup:=by
 unfold Cy;rw[List.map_append];refine bK.2 ⟨ha,?_,λx hx y hy e=>?_⟩
 .exact List.Sublist.nodup (List.filter_sublist.map _) hb
 .obtain⟨z,hz,rfl⟩:=af.1 hy;simp only[bP,bB,eZ,aI]at hz;obtain⟨u,hu,rfl⟩:=af.1 hx;exact hz.2 u hu e
theorem zHe(ha:May a)(hb:May b)(hv:∀x y,i? x=tT->i? y=tT->i? (v x y)=tT):May (kI v a b) where
 tags:=UY ha.tags hb.tags
 len:=by
  unfold kI;simp only[gT.a_,gT.fields];split<;>simp
 fn :=by
  unfold kI;simp only[gT.fn];split
  .unfold rQ;split
   .exact .inl rfl
   next q=>
    simp only[aG,Iu]at q;exact .inr ⟨_,_,rfl,hv _ _ hb.pair.1 ha.pair.1,hv _ _ ha.pair.2 hb.pair.2,q⟩
  .exact .inl rfl
 t4:=λh=>by
  have ht:m? (kI v a b) 4=(pu a.tags b.tags).getD 4 0:=rfl;rw[ht]at h;unfold kI;simp only[gT.a_,h,if_false]
 t5:=λh=>by
  have ht:m? (kI v a b) 5=(pu a.tags b.tags).getD 5 0:=rfl;rw[ht]at h;unfold kI;simp only[gT.fn,h,if_false]
 i_:=by
  show(∀x,x∈y5 a b->x.2≠0)/\((y5 a b).map (·.1)).Nodup;unfold y5;split
  .refine⟨λx hx=>?_,zzA ha.i_.2 hb.i_.2⟩;unfold Cy at hx;simp only[aL,bP]at hx;exact hx.elim (ha.i_.1 x) (λh=>hb.i_.1 x h.1)
  .exact ha.i_
 a_:=by
  unfold kI;simp only[gT.a_];split
  .unfold yB busy;apply List.Pairwise.sublist (List.filter_sublist.map _);rw[dP];have:((λx:fD × gT=>x.1)∘λk=>(k,v (ru a k) (ru b k)))=id:=rfl;rw[this,List.map_id];exact zzz ha hb
  .exact List.Pairwise.nil
 fields:=by
  unfold kI;simp only[gT.fields];split
  .intro x hx;unfold yB busy at hx;simp only[af,bP,bB,Ky]at hx;obtain⟨y,⟨⟨k,_,rfl⟩,h2⟩,rfl⟩:=hx;exact⟨hv _ _ (ha.field k) (hb.field k),h2⟩
  .intro x hx;cases hx
end
def tV:Nat->gT->Prop
|0,c=>c=r?
|n+1,c=>(∀x,x∈c.fields->tV n x)/\∀x,x∈c.fn->tV n x
def Nw:∀n,tV n r?
|0=>rfl
|n+1=>⟨(λx hx=>by cases hx),(λx hx=>by cases hx)⟩
def Iw{n:Nat}{c:gT}(h:tV (n+1) c)(hl:lN c.a_=lN c.fields)(k:fD):tV n (ru c k):=by
 unfold ru;by_cases q:k∈c.a_
 .exact h.1 _ (Nv hl q)
 .rw[Nu q];exact Nw n
def BB{n:Nat}{c:gT}(h:tV (n+1) c):tV n (je c).1/\tV n (je c).2:=by
 unfold je;split
 next f g l e=>
  exact⟨h.2 f (by rw[e];simp),h.2 g (by rw[e];simp)⟩
 .exact⟨Nw n,Nw n⟩
def UZ:∀n,uT n r? r?=r?
|0=>rfl
|n+1=>by
 have ih:=UZ n;simp[uT,kI,pu,y5,Cy,yB,busy,BA,zaT,je,r?,gT.tags,gT.i_,gT.a_,gT.fields,gT.fn,m?,rQ]at ih⊢;rw[ih];simp[UX]
def zx8:∀(n:Nat) (a b:gT),i? a=tT->i? b=tT->i? (uT n a b)=tT
|0,_,_,_,_=>Gn
|n+1,a,b,ha,hb=>(zI _).2 (zHe ((zI _).1 ha) ((zI _).1 hb) (zx8 n))
def Ny:∀(n:Nat) {a b:gT},i? a=tT->i? b=tT->tV n a->tV n b->tV n (uT n a b)
|0,_,_,_,_,_,_=>rfl
| n +1,a,b,ma,mb,ha,hb=>by
 have Ma:=(zI _).1 ma;have Mb:=(zI _).1 mb;refine⟨λx hx=>?_,λx hx=>?_⟩
 .unfold uT kI at hx;simp only[gT.fields]at hx;split at hx
  .unfold yB busy at hx;simp only[af,bP]at hx;obtain⟨y,⟨⟨k,_,rfl⟩,h2⟩,rfl⟩:=hx;exact Ny n (Ma.field k) (Mb.field k) (Iw ha Ma.len k) (Iw hb Mb.len k)
  .cases hx
 .unfold uT kI at hx;simp only[gT.fn]at hx;split at hx
  .unfold rQ at hx;split at hx
   .cases hx
   .simp only[aM,List.not_mem_nil,df]at hx;rcases hx with rfl|rfl
    .exact Ny n Mb.pair.1 Ma.pair.1 (BB hb).1 (BB ha).1
    .exact Ny n Ma.pair.2 Mb.pair.2 (BB ha).2 (BB hb).2
  .cases hx
section
variable {a b c:gT}
end
def zEL(i:Nat):m? r? i=0:=by
 unfold m? r?;simp only[gT.tags,aH]
 match i with
 |0|1|2|3|4|5=>rfl
 |i+6=>simp
end Go.Gr
namespace Go.Gr
open Go.Abs Go.Proofs List
def zHo(s:fD):h_ Pg 168 [.one (.str s)] (.one (.bool oK)):=by
 refine zkP oC λo c' hN hp=>?_;simp[zfi]
def zEX(s:fD):h_ Pg 192 [.one (.str s)] (.one (.bool oK)):=by
 refine znN oC λo c' hN hp=>?_;simp[zgA]
def lsB(s u:fD):Bool:=Op.bytesLess s.data.toList u.data.toList
def zJn(s u:fD):h_ Pg 167 [.one (.str s),.one (.str u)] (.one (.bool (lsB s u))):=by
 refine zpA oC λo c' hN hp=>?_;simp[zhz];apply gQ (zEX _);simp[lsB,Kw]
def BC(l:List fD)(x:fD)(lo hi:Nat):Nat:=
 if h:lo<hi then
  if lsB (l.getD ((lo+hi)/2) (bs [])) x then BC l x ((lo+hi)/2+1) hi else BC l x lo ((lo+hi)/2)
 else lo
termination_by hi-lo
def qw(l:oN)(x:fD):Nat:=BC l x 0 (lN l)
def Nz(l:oN)(x:fD):Bool:=match l[qw l x]? with
|some y=>decide (y=x)
|none=>oK
def zCq(l:oN)(x:fD)(fl:Bool)(hl:lN l<=1073741824):h_ Pg 121 [.one (.sl fl 1 (encS l)),.one (.str x)] (.a? [.one (.int .i64 (qw l x)),.one (.bool (Nz l x))]):=by
 refine zeK oC λo c hN hp=>?_;unfold zcA;have e0:(encS l).length=lN l:=by simp[encS]
 simp[e0];refine fM gm hp (λy:Nat × Nat=>y.1<=y.2/\y.2<=lN l/\BC l x y.1 y.2=qw l x) (λy=>[(7,.c (.d (.int .i64 y.1))),(8,.c (.d (.int .i64 y.2))),(6,.c (.d (.int .i64 (lN l)))),(0,.c (.d (.sl fl 1 (encS l)))),(1,.c (.d (.str x)))]) (λ_=>[]) (λy=>y.2-y.1) (0,lN l) [] ⟨oC,oC,rfl⟩ oC λ⟨lo,hi⟩ ⟨q1,q2,q3⟩=>?_;simp only at q1 q2 q3;unfold zck;simp;apply gM<;>intro g
 .simp at g;have w1:IntKind.i64.wrap ((lo:Int)+hi)=((lo+hi:Nat):Int):=by rw[wI];omega
  have w2:IntKind.u64.wrap ((lo+hi:Nat):Int)=((lo+hi:Nat):Int):=LZ (by simp[IntKind.min,IntKind.bits,IntKind.signed];omega) (by simp[IntKind.max,IntKind.bits,IntKind.signed];omega);have w3:(((lo+hi:Nat):Int)).fdiv (2^min 1 IntKind.u64.bits)=(((lo+hi)/2:Nat):Int):=by
   rw[show(2:Int)^min 1 IntKind.u64.bits=2 from rfl,Int.fdiv_eq_ediv_of_nonneg _ oM];omega
  have w4:IntKind.i64.wrap (((lo+hi)/2:Nat):Int)=(((lo+hi)/2:Nat):Int):=wI;have hm:(lo+hi)/2<lN l:=oM;rw[w1,w2,w3];rw[aC (by constructor<;>simp[IntKind.min,IntKind.max,IntKind.bits,IntKind.signed]<;>omega)];simp only;rw[w4];refine jV ?_;rw[bC];simp only[aA hm,Option.map_some];refine gQ (zJn _ _) ?_;have eg:l.getD ((lo+hi)/2) (bs [])=l[(lo+hi)/2]:=by rw[aH,aA hm];try rfl
  have w5:IntKind.i64.wrap ((((lo+hi)/2:Nat):Int)+1)=(((lo+hi)/2+1:Nat):Int):=by rw[wI];omega
  rw[BC,dif_pos g,eg]at q3;cases hb:lsB l[(lo+hi)/2] x with
  |true=>
   rw[hb,aC rfl]at q3;simp only[DV.av];simp;exact fE ((lo+hi)/2+1,hi) [] ⟨qM,q2,q3⟩ qM (by have h5:=w5;simp at h5⊢;omega)
  |false=>
   rw[hb,aB oC]at q3;simp only[DV.av];simp;exact fE (lo,(lo+hi)/2) [] ⟨qM,qM,q3⟩ qM oC
 .simp at g;have hlo:lo=qw l x:=by
   rw[BC,dif_neg oM]at q3;exact q3
  apply gM<;>intro h
  .simp at h;simp only[aA h,Option.map_some];simp;apply gM<;>intro h2
   .simp at h2;refine gQ (zHo _) ?_;simp only[DV.av];simp;exact⟨oM,by simp[Nz,<-hlo,aA h,h2]⟩
   .simp at h2;exact⟨oM,by simp[Nz,<-hlo,aA h,h2]⟩
  .simp at h;have hn:l[lo]?=nN:=aR h;exact⟨oM,by simp[Nz,<-hlo,hn]⟩
def zEY(ns:oN):h_ Pg 120 [.one (.sl oK 1 (encS ns))] (.one (.fn (.func 166) [.rp [.sl oK 1 (encS ns)] 0])):=by
 refine zgz oC λo c hN hp=>?_;simp[zde]
variable {b:Nat}{G:iT}{ns:List fD}{V:VF}{vs:List Int}{free:Int}
def OA:Prop:=∀ns:oN,lN ns<=1073741824->h_ Pg 119 [.one (.fn (.func 166) [.rp [.sl oK 1 (encS ns)] 0])] (.one (.sl oK 1 (encS (zaT ns))))
def zIo{k:Nat}{ns:oN}(h:GG G b):GG (uR G k ns).1 (b+1):=by
 unfold uR;have hf:=h.few;split
 .exact h.mono oM
 .exact⟨h.tree,by simp[h.ks],by simp;omega,h.pr⟩
def zwi{ns:oN}(h:GG G b)(hb:b+lN ns<=1000000000):GG (xY G ns).1 (b+lN ns+1):=by
 have hf:=h.few;let⟨o1,o2,o3⟩:=zwq ns G.T 0 h.tree h.tree.ne oM;exact zIo ⟨o1,h.ks,qM,h.pr⟩
def zJN(l:oN)(x:fD):∀(n lo hi:Nat),hi-lo<=n->lo<=hi->BC l x lo hi<=hi:=by
 intro n
 induction n with
 |zero=>intro lo hi h1 h2;rw[BC,dif_neg oM];omega
 | succ n ih=>
  intro lo hi h1 h2;rw[BC];split
  .split
   .exact ih _ _ oM oM
   .exact aX (ih _ _ oM oM) oM
  .omega
def U0(l:oN)(x:fD):qw l x<=lN l:=zJN l x _ 0 _ (aJ _) oM
def U1{N:Nat}:∀{l:List n_} {i:Nat} (h:i<lN l),iZ l N->nK l[i] N
|k::l,0,h,w=>by rw[iZ]at w;exact w.1
|k::l,i+1,h,w=>by
 rw[iZ]at w;have h':i<lN l:=uM h;exact U1 h' w.2
def U2:∀{l:List n_} {i:Nat} (h:i<lN l),kr (l.take (i+1))=kr (l.take i)+wt l[i]/\kr (l.take i)+wt l[i]<=kr l
|k::l,0,h=>by simp[kr]
|k::l,i+1,h=>by
 have:=U2 (l:=l) (i:=i) (uM h);simp only[take_succ_cons,kr,getElem_cons_succ];omega
def AR(V:VF)(vs:List Int)(free:Int)(s:List fD):List n_->List fD->o?->Option o?
|[],_,P=>sS P
|k::ks,ns,P=>(V k vs (free+qw s (ns.headD (bs []))) (free+lN s) P).bind λP1=>AR V vs free s ks ns.tail P1
def Gp(x:n_)(to free:Int)(P:o?):Option o?:=iY {P with G:=(xY P.G (zaT x.a_)).1} ⟨18,to,(xY P.G (zaT x.a_)).2,free⟩
def BD(V:VF)(x:n_)(vs:oW)(to free:Int)(P:o?):Option o?:=(AR V vs free (zaT x.a_) x.b_ x.a_ P).bind λP1=>Gp x to free P1
set_option maxHeartbeats 8000000 in
def zIp(hS:OA)(V:VF)(x:n_)(k8:x.d_=8)(hk:lN x.b_<=lN x.a_)(H:∀k,k∈x.b_->Bv V k)(vs:oW)(to free:Int)(P:o?)(b:Nat)(w:iZ x.b_ (lN vs))
  (hto:0<=to) (_X:to<=1000000000) (hfr:0<=free) (hfr2:free+wt x<=1000000000) (hG:GG P.G b) (hb2:b+wt x<=1000000000) (hv1:0<lN vs) (hv2:lN vs+wt x<=1000000000):
  xZ 76 x vs to free P (BD V x vs to free P):=by
 let⟨Q,hQ⟩:=oJ (BD V x vs to free P);rw[hQ];have hw:=Kr x;have hw8:w8 x=lN x.a_:=aC k8;have hsl:(zaT x.a_).length=lN x.a_:=by simp[zaT]
 refine znk (Bu x vs to free P Q 59 oM) λts _e ok hb c hN hp=>?_;obtain⟨t0,t1,t2,t3,t4,t5,t6,t7,t8,t9,t10,t11,t12,t13,t14,rfl⟩:=Kq _e;simp[zgD];apply gQ (zEY _);simp;apply gQ (hS _ oM);simp;refine fM gm hp (λY:Nat × o?=>Y.1<=lN x.b_/\GG Y.2.G (b+kr (x.b_.take Y.1))/\(AR V vs free (zaT x.a_) (x.b_.drop Y.1) (x.a_.drop Y.1) Y.2).bind (λP1=>Gp x to free P1)=Q) (λY=>[(22,.c (.d (.int .i64 Y.1))),(21,.c (.d (.int .i64 (lN x.b_)))),(20,.c (.d (.sl oK 8 (x.b_.map n_.enc)))),(10,.c (.d (.sl oK 1 (encS (zaT x.a_))))),(6,.c (.d (.rp x.enc 0))),(0,.c (.ptr 0 0)),(2,.c (.x_ 1 14 0 (lN vs))),(3,.c (.d (.int .i64 to))),(4,.c (.d (.int .i64 free)))]) (λY=>Iq Y.2 vs++[.G_ t0 0,.G_ t2 2,.G_ t7 7,.G_ t8 8,.G_ t9 9,.G_ t10 10,.G_ t11 11,.G_ t13 13,.G_ t14 14]) (λY=>lN x.b_-Y.1) (0,P) [0,1,2,3,4,5,6,7,8,9,10,11,12,13,14,15,17,22,23,24,25,26,28,29] ⟨oC,by simpa[kr]using hG,by simpa[BD]using hQ⟩ oC λ⟨i,P1⟩ ⟨i1,i3,i2⟩=>?_;unfold zfP;simp only at i1 i2 i3;simp;apply gM<;>intro q
 .have hi':i<lN x.b_:=uM q;have hn':i<lN x.a_:=oM;let⟨wq1,wq2⟩:=U2 hi';rw[aF hi',aF hn',AR]at i2;simp only[headD_cons,tail_cons]at i2;have hle:=U0 (zaT x.a_) x.a_[i];have cV:=H _ (aO hi') vs (free+qw (zaT x.a_) x.a_[i]) (free+(zaT x.a_).length) P1 (b+kr (x.b_.take i)) (U1 hi' w) oM oM oM oM i3 oM hv1 oM;simp[hi',hn',encS];apply gQ (zCq (zaT x.a_) x.a_[i] oK oM);simp;rw[wI,wI];refine lg qR cV.1 oC (λP2 h2=>⟨oC,?_⟩) (λh2=>⟨oC,?_⟩);rotate_left
  .rw[h2]at i2;simp at i2;subst i2;simp;exact gK qO qN oC
  rw[h2]at i2;simp only[Option.bind_some]at i2;have g2:=(cV.2 _ h2).gg;simp;refine fE (i+1,P2) [0,25,2,26,27,28,29,7,8,9,10,11,30,13,14,15,16,17,18,19,20,21,22,23] ⟨Nat.succ_le_of_lt hi',by simp only;rw[wq1,<-Nat.add_assoc];exact g2,uM i2⟩ qM ?_;simp;exact wI
 .have hi':i=lN x.b_:=oI q;subst hi';rw[aS]at i2;rw[bJ]at i3;simp only[AR,Option.bind_some,Gp]at i2;have hf:=zwi (ns:=zaT x.a_) i3 oM;have cf:=zJB P1.G (zaT x.a_) i3.tree (by have:=i3.few;omega) i3.ks (by have:=i3.few;omega);apply gN qV cf;simp;refine lg [0,1,2,24,25,26,27,7,8,9,10,11,28,13] (tQ {P1 with G:=(xY P1.G (zaT x.a_)).1} ⟨18,to,(xY P1.G (zaT x.a_)).2,free⟩) oC (λP3 h3=>⟨oC,?_⟩) (λh3=>⟨oC,?_⟩);rotate_left
  .rw[h3]at i2;subst i2;simp;exact gK qO qN oC
  rw[h3]at i2;subst i2;let⟨g3,r3⟩:=nJ h3;simp;exact fK [0,101,2,103,104,105,106,7,8,9,10,11,112,13,14,29,24,25,26,27,28] [15,100,16,100,100,100,100,17,18,19,20,21,100,22,23] (by simp[g3,r3])
def zpE{s:List fD}(hfr:0<=free)(hv1:0<lN vs):∀{ks:List n_} {ns:List fD} {P R:o?} {b:Nat},(∀k,k∈ks->Bv V k)->iZ ks (lN vs)->free+lN s+kr ks<=1000000000->GG P.G b->b+kr ks<=1000000000->lN vs+kr ks<=1000000000->AR V vs free s ks ns P=sS R->Grown P R (b+kr ks)
|[],ns,P,R,b,H,w,h1,hG,h2,h3,e=>by cases e;exact⟨aJ _,hG⟩
| k::ks,ns,P,R,b,H,w,h1,hG,h2,h3,e=>by
 rw[iZ]at w;rw[kr]at h1 h2 h3⊢;unfold AR at e;have hle:=U0 s (ns.headD (bs []));have c:=(H k (mem_cons_self ..)) vs (free+qw s (ns.headD (bs []))) (free+lN s) P b w.1 oM oM oM oM hG oM hv1 oM;cases h:V k vs (free+qw s (ns.headD (bs []))) (free+lN s) P with
 |none=>rw[h]at e;cases e
 |some P1=>
  rw[h]at e;simp only[Option.bind_some]at e;have g:=c.2 _ h;have r:=zpE hfr hv1 (λk hk=>H k (eT _ hk)) w.2 oM g.gg oM oM e;exact⟨aX g.len r.len,r.gg.mono oM⟩
def zvN{x:n_}{vs:oW}{to:Int}{P R:o?}(k8:x.d_=8)(H:∀k,k∈x.b_->Bv V k)(w:iZ x.b_ (lN vs))(hfr:0<=free)(hfr2:free+wt x<=1000000000)(hG:GG P.G b)(hb2:b+wt x<=1000000000)(hv1:0<lN vs)(hv2:lN vs+wt x<=1000000000)(e:BD V x vs to free P=sS R):Grown P R (b+wt x):=by
 have hw:=Kr x;have hw8:w8 x=lN x.a_:=aC k8;have hsl:(zaT x.a_).length=lN x.a_:=by simp[zaT]
 unfold BD at e;cases h:AR V vs free (zaT x.a_) x.b_ x.a_ P with
 |none=>rw[h]at e;cases e
 |some P1=>
  rw[h]at e;simp only[Option.bind_some,Gp]at e;have g:=zpE hfr hv1 H w oM hG oM oM h;have l2:=FC e;have g2:=(nJ e).1;have hf:=zwi (ns:=zaT x.a_) g.gg oM;have q:=g.len;exact⟨by simp only at l2;omega,by rw[g2];exact hf.mono oM⟩
variable {P R:o?}{to:Int}
set_option maxHeartbeats 8000000 in
def zGA(vs:oW)(h:0<lN vs)(hl:lN vs<=1000000000):q_ Pg 74 [.c (.x_ 1 0 0 (lN vs))] [vA vs] (.c (.x_ 1 1 0 (lN vs))) [vA vs,vA vs]:=by
 refine zf8 ⟨oC,oC,oC,oC,oC,by simp[live],by simp[live]⟩ λts _e ok hb c hN hp=>?_;obtain⟨t0,rfl⟩:=lK _e;simp[zdd];refine⟨h,oM,?_⟩;apply fT [];simp[p9];exact fK [0,2] [1] (by simp[Nq])
def lh(V:VF)(vs:List Int)(to free:Int):List n_->Nat->o?->Option o?
|[],_,P=>sS P
|k::ks,i,P=>(V k vs (if i=0 then to else free) (free+i) P).bind λP1=>lh V vs to free ks (i+1) P1
def x8(V:VF)(x:n_)(vs:oW)(to free:Int)(P:o?):Option o?:=
(V (x.b_.getD 0 noC) vs free (free+1) P).bind λP1=>V (x.b_.getD 1 noC) (vs++[free]) to (free+1) P1
def x9(V:VF)(x:n_)(vs:oW)(to free:Int)(P:o?):Option o?:=
(V (x.b_.getD 0 noC) vs free (free+1) P).bind λP1=>(V (x.b_.getD 1 noC) vs to (free+1) P1).bind λP2=>iY {P2 with G:=(iR P2.G x.text).1} ⟨20,to,free,(iR P2.G x.text).2⟩
def wG(V:VF)(x:n_)(vs:oW)(to free:Int)(P:o?):Option o?:=(mZ P to).bind λP0=>
 if x.d_=18 then x8 V x vs to free P0
 else if x.d_=11 then Cx V x vs to free P0
 else if x.d_=8 then BD V x vs to free P0
 else if x.d_=23 then Bw x vs to free P0
 else if x.d_=10 then x9 V x vs to free P0
 else(lh V vs to free x.b_ 0 P0).bind λP1=>jA x vs to free P1
def OB(x:n_)(N:Nat):nK x N=if x.d_=18 then Gg x.b_ N else if x.d_=11 then Gh x.b_ N else if x.d_=8 then lN x.b_<=lN x.a_/\iZ x.b_ N else if x.d_=23 then(∀i,i∈x.ints->0<=i/\i<N)else if x.d_=10 then Gi x.b_ N
  else lN x.b_<=2/\iZ x.b_ N/\(x.d_=4->0<=x.n/\x.n<N)/\(x.d_=22->0<lN x.cos):=by
 cases x;rw[nK];try rfl
def zJ9(c:n_):0<wt c:=by rw[Kr];omega
def zIO(n:Int)(h:GG G b):GG (kF G n).1 (b+1):=by
 unfold kF;have hf:=h.few;split
 .exact h.mono oM
 .exact⟨h.tree,h.ks,by simp;omega,h.pr⟩
def U3(n:fD)(h:GG G b):GG (iR G n).1 (b+1):=by
 unfold iR;have hf:=h.few;split
 .exact h.mono oM
 .exact⟨h.tree,h.ks,by simp;omega,h.pr⟩
def w9{P1:o?}{x:Ins}(h:iY P1 x=sS R)(e:P1.code=P.code)(hG:GG P1.G b):Grown P R b:=by
 have l:=FC h;have g:=(nJ h).1;exact⟨by rw[l,e];omega,by rw[g];exact hG⟩
def xc{α:Type}{c:Prop} [Decidable c]{A B:Option α}{R:α}(h:(if c then A else B)=sS R):A=sS R\/B=sS R:=by
 split at h
 .exact .inl h
 .exact .inr h
def zBH{x:n_}{vs:oW}(h:jA x vs to free P=sS R)(hG:GG P.G b):Grown P R (b+1):=by
 have hf:=hG.few;have hm:GG P.G (b+1):=hG.mono oM;unfold jA at h;rcases xc h with h|h
 .exact w9 h rfl (zIO _ hG)
 rcases xc h with h|h
 .exact w9 h rfl (U3 _ hG)
 rcases xc h with h|h
 .exact w9 h rfl hm
 rcases xc h with h|h
 .exact w9 h rfl hm
 rcases xc h with h|h
 .exact w9 h rfl hm
 rcases xc h with h|h
 .exact w9 h rfl hm
 rcases xc h with h|h
 .exact w9 h rfl hm
 rcases xc h with h|h
 .exact w9 h rfl (U3 _ hG)
 rcases xc h with h|h
 .exact w9 h rfl hm
 rcases xc h with h|h
 .exact w9 h rfl hm
 rcases xc h with h|h
 .exact w9 h rfl hm
 rcases xc h with h|h
 .exact w9 h rfl hm
 rcases xc h with h|h
 .exact w9 h rfl hm
 rcases xc h with h|h
 .exact w9 h rfl hm
 rcases xc h with h|h
 .exact w9 h rfl hm
 rcases xc h with h|h
 .exact w9 h rfl hm
 rcases xc h with h|h
 .exact w9 h rfl ⟨hG.tree,hG.ks,by simp;omega,hG.pr⟩
 cases h;exact⟨aJ _,hm⟩
def zr7{V:VF}(hto:0<=to)(_X:to<=1000000000)(hfr:0<=free)(hv1:0<lN vs):∀{ks:List n_} {i:Nat} {P R:o?} {b:Nat},(∀k,k∈ks->Bv V k)->iZ ks (lN vs)->free+i+kr ks<=1000000000->GG P.G b->b+kr ks<=1000000000->lN vs+kr ks<=1000000000->lh V vs to free ks i P=sS R->Grown P R (b+kr ks)
|[],i,P,R,b,H,w,h1,hG,h2,h3,e=>by cases e;exact⟨aJ _,hG⟩
| k::ks,i,P,R,b,H,w,h1,hG,h2,h3,e=>by
 rw[iZ]at w;rw[kr]at h1 h2 h3⊢;unfold lh at e;have hp:=zJ9 k;have c:=(H k (mem_cons_self ..)) vs (if i=0 then to else free) (free+i) P b w.1 (by split<;>omega) (by split<;>omega) oM oM hG oM hv1 oM;cases h:V k vs (if i=0 then to else free) (free+i) P with
 |none=>rw[h]at e;cases e
 |some P1=>
  rw[h]at e;simp only[Option.bind_some]at e;have g:=c.2 _ h;have r:=zr7 hto _X hfr hv1 (λk hk=>H k (eT _ hk)) w.2 oM g.gg oM oM e;exact⟨aX g.len r.len,r.gg.mono oM⟩
set_option maxHeartbeats 8000000 in
def zGB(hS:OA)(V:VF)(x:n_)(H:∀k,k∈x.b_->Bv V k):Bv (wG V) x:=by
 intro vs to free P b w hto _X hfr hfr2 hG hb2 hv1 hv2;have hw:=Kr x;let⟨Q,hQ⟩:=oJ (wG V x vs to free P);rw[hQ];have _f:=hQ;unfold wG at _f
 replace _f:=_f.symm
 refine⟨?_,?_⟩
 .refine zn5 (Bu x vs to free P Q 129 oM) λts _e ok hb c hN hp=>?_;obtain⟨t0,t1,t2,t3,t4,t5,t6,t7,t8,t9,t10,t11,t12,t13,t14,rfl⟩:=Kq _e;unfold zhC;simp;refine lg qP (Gf P to hto oM) oC (λP0 h0=>⟨oC,?_⟩) (λh0=>⟨oC,?_⟩);rotate_left
  .rw[h0]at _f;simp at _f;subst _f;simp;exact gK qO qN oC
  rw[h0]at _f;simp only[Option.bind_some]at _f;let⟨g0,r0⟩:=Ip h0;rw[<-g0]at hG;have _B:=OB x (lN vs)▸w;simp;apply gM<;>intro q
  .have k18:x.d_=18:=uM q;rw[aC k18]at _f _B
   match hk:x.b_,_B with
   |[k0,k1],_B=>
   rw[Gg]at _B;have hww:kr x.b_=wt k0+(wt k1+0):=by rw[hk];simp[kr]
   unfold x8 at _f;rw[hk]at _f;simp only[dE,dI]at _f;have c0:=H k0 (by rw[hk];simp) vs free (free+1) P0 b _B.1 oM oM oM oM hG oM hv1 oM;simp[hk];rw[wI];refine lg qR c0.1 oC (λP1 h1=>⟨oC,?_⟩) (λh1=>⟨oC,?_⟩);rotate_left
   .rw[h1]at _f;simp at _f;subst _f;simp;exact gK qO qN oC
   rw[h1]at _f;simp only[Option.bind_some]at _f;have g1:=(c0.2 _ h1).gg;have c1:=H k1 (by rw[hk];simp) (vs++[free]) to (free+1) P1 (b+wt k0) (uM _B.2) hto _X oM oM g1 oM oC (by simp;omega);simp[hk];refine gN [14] (zGA vs hv1 oM) ?_;simp;refine jV ?_;rw[wI];refine FB [0,30,2,31,32,33,34,7,8,9,10,11,35,13,37] c1.1 (by simp[Nq,UG]) (λP2 h2=>⟨oC,?_⟩) (λh2=>⟨oC,?_⟩)
   .rw[h2]at _f;subst _f;simp;refine⟨by rfl,?_⟩;exact fJ [0,101,2,103,104,105,106,7,8,9,10,11,112,13,14,38,39,40,41,42,43] qN
   .rw[h2]at _f;subst _f;simp;refine⟨by rfl,by rfl,?_⟩;exact gK qO qN oC
  have k18:¬x.d_=18:=uM q;rw[aB k18]at _f _B;apply gM<;>intro q
  .have k11:x.d_=11:=uM q;rw[aC k11]at _f _B
   match hk:x.b_,_B with
   |[k0,k1,k2],_B=>
   rw[Gh]at _B;have hB:=zuB V x k0 k1 k2 hk (H k0 (by rw[hk];simp)) (H k1 (by rw[hk];simp)) (H k2 (by rw[hk];simp)) vs to free P0 b _B.1 _B.2.1 _B.2.2 hto _X hfr hfr2 hG hb2 hv1 hv2;refine lg qR hB.1 oC (λP1 h1=>⟨oC,?_⟩) (λh1=>⟨oC,?_⟩)
   .rw[h1]at _f;subst _f;simp;exact fJ qZ qN
   .rw[h1]at _f;subst _f;simp;exact gK qO qN oC
  have k11:¬x.d_=11:=uM q;rw[aB k11]at _f _B;apply gM<;>intro q
  .have k8:x.d_=8:=uM q;rw[aC k8]at _f _B;have hB:=zIp hS V x k8 _B.1 H vs to free P0 b _B.2 hto _X hfr hfr2 hG hb2 hv1 hv2;refine lg qR hB oC (λP1 h1=>⟨oC,?_⟩) (λh1=>⟨oC,?_⟩)
   .rw[h1]at _f;subst _f;simp;exact fJ qZ qN
   .rw[h1]at _f;subst _f;simp;exact gK qO qN oC
  have k8:¬x.d_=8:=uM q;rw[aB k8]at _f _B;apply gM<;>intro q
  .have k23:x.d_=23:=uM q;rw[aC k23]at _f _B;have hw23:UJ x=lN x.ints:=aC k23;have hB:=zIw x vs to free P0 _B hfr oM;refine lg qR hB oC (λP1 h1=>⟨oC,?_⟩) (λh1=>⟨oC,?_⟩)
   .rw[h1]at _f;subst _f;simp;exact fJ qZ qN
   .rw[h1]at _f;subst _f;simp;exact gK qO qN oC
  have k23:¬x.d_=23:=uM q;rw[aB k23]at _f _B;apply gM<;>intro q
  .have k10:x.d_=10:=uM q;rw[aC k10]at _f _B
   match hk:x.b_,_B with
   |[k0,k1],_B=>
   rw[Gi]at _B;have hww:kr x.b_=wt k0+(wt k1+0):=by rw[hk];simp[kr]
   unfold x9 at _f;rw[hk]at _f;simp only[dE,dI]at _f;have c0:=H k0 (by rw[hk];simp) vs free (free+1) P0 b _B.1 oM oM oM oM hG oM hv1 oM;simp[hk];rw[wI];refine lg qR c0.1 oC (λP1 h1=>⟨oC,?_⟩) (λh1=>⟨oC,?_⟩);rotate_left
   .rw[h1]at _f;simp at _f;subst _f;simp;exact gK qO qN oC
   rw[h1]at _f;simp only[Option.bind_some]at _f;have g1:=(c0.2 _ h1).gg;have c1:=H k1 (by rw[hk];simp) vs to (free+1) P1 (b+wt k0) _B.2 hto _X oM oM g1 oM hv1 oM;simp[hk];rw[wI];refine lg [0,30,2,31,32,33,34,7,8,9,10,11,35,13,14] c1.1 oC (λP2 h2=>⟨oC,?_⟩) (λh2=>⟨oC,?_⟩);rotate_left
   .rw[h2]at _f;simp at _f;subst _f;simp;exact gK qO qN oC
   rw[h2]at _f;simp only[Option.bind_some]at _f;have g2:=(c1.2 _ h2).gg;have f2:=g2.few;simp;refine gN [2,37,38,39,40,7,8,9,10,11,41,13] (UH P2.G x.text oM) ?_;simp;refine FB [0,36,2,42,43,44,45,7,8,9,10,11,46,13] (tQ {P2 with G:=(iR P2.G x.text).1} ⟨20,to,free,(iR P2.G x.text).2⟩) oC (λR hR=>⟨oC,?_⟩) (λhR=>⟨oC,?_⟩)
   .rw[hR]at _f;subst _f;simp;refine⟨by rfl,?_⟩;have eg:=nJ hR;exact fK [0,101,2,103,104,105,106,7,8,9,10,11,112,13,14,47,42,43,44,45,46] qN (by simp[eg.1,eg.2])
   .rw[hR]at _f;subst _f;simp;refine⟨by rfl,by rfl,?_⟩;exact gK qO qN oC
  have k10:¬x.d_=10:=uM q;rw[aB k10]at _f _B;let⟨z1,z2,z3,z4⟩:=_B;refine fM gm hp (λY:Nat × o?=>Y.1<=lN x.b_/\GG Y.2.G (b+kr (x.b_.take Y.1))/\Q=(lh V vs to free (x.b_.drop Y.1) Y.1 Y.2).bind λP1=>jA x vs to free P1) (λY=>[(24,.c (.d (.int .i64 Y.1))),(23,.c (.d (.int .i64 (lN x.b_)))),(22,.c (.d (.sl oK 8 (x.b_.map n_.enc)))),(10,.c (.ptr 15 0)),(6,.c (.d (.rp x.enc 0))),(0,.c (.ptr 0 0)),(2,.c (.x_ 1 14 0 (lN vs))),(3,.c (.d (.int .i64 to))),(4,.c (.d (.int .i64 free)))]) (λY=>Iq Y.2 vs++[.box [.d (.int .i64 to),.d (.int .i64 free)],.G_ t0 0,.G_ t2 2,.G_ t7 7,.G_ t8 8,.G_ t9 9,.G_ t10 10,.G_ t11 11,.G_ t13 13,.G_ t14 14]) (λY=>lN x.b_-Y.1) (0,P0) [0,1,2,3,4,5,6,7,8,9,10,11,12,13,14,30,15,17,22,23,24,25,26,28,29] ⟨oC,by simpa[kr]using hG,uM _f⟩ oC λ⟨i,P1⟩ ⟨i1,i3,i2⟩=>?_;unfold zgb;simp only at i1 i2 i3;clear _f;simp;apply gM<;>intro q
  .have hi':i<lN x.b_:=uM q;let⟨wq1,wq2⟩:=U2 hi';rw[aF hi',lh]at i2;have cV:=H _ (aO hi') vs (if i=0 then to else free) (free+i) P1 (b+kr (x.b_.take i)) (U1 hi' z2) (by split<;>omega) (by split<;>omega) oM oM i3 oM hv1 oM;obtain rfl|rfl:i=0\/i=1:=oM
   .simp only[aC,Int.natCast_zero,Int.add_zero]at cV i2;simp[hi'];rw[wI];refine FB qR cV.1 oC (λP2 h2=>⟨oC,?_⟩) (λh2=>⟨oC,?_⟩)
    .rw[h2]at i2;simp only[Option.bind_some]at i2;have g2:=(cV.2 _ h2).gg;simp;refine⟨by rfl,?_⟩;refine fE (0+1,P2) [0,26,2,27,28,29,30,7,8,9,10,11,31,13,14,15,16,17,18,19,20,21,22,23,24] ⟨Nat.succ_le_of_lt hi',by simp only;rw[wq1,<-Nat.add_assoc];exact g2,i2⟩ qM ?_;simp;first|done|exact wI
    .rw[h2]at i2;subst i2;simp;refine⟨by rfl,by rfl,?_⟩;exact gK qO qN oC
   .simp only[Nat.one_ne_zero,if_false,Int.natCast_one]at cV i2;simp[hi'];rw[wI];refine FB qR cV.1 oC (λP2 h2=>⟨oC,?_⟩) (λh2=>⟨oC,?_⟩)
    .rw[h2]at i2;simp only[Option.bind_some]at i2;have g2:=(cV.2 _ h2).gg;simp;refine⟨by rfl,?_⟩;refine fE (1+1,P2) [0,26,2,27,28,29,30,7,8,9,10,11,31,13,14,15,16,17,18,19,20,21,22,23,24] ⟨Nat.succ_le_of_lt hi',by simp only;rw[wq1,<-Nat.add_assoc];exact g2,i2⟩ qM ?_;simp;first|done|exact wI
    .rw[h2]at i2;subst i2;simp;refine⟨by rfl,by rfl,?_⟩;exact gK qO qN oC
  .have hi':i=lN x.b_:=oI q;subst hi';rw[aS]at i2;rw[bJ]at i3;simp only[lh,Option.bind_some]at i2;have hs:=zEH x vs to free P1 ⟨z3,z4⟩ (i3.mono oM);refine lg qR hs oC (λP2 h2=>⟨oC,?_⟩) (λh2=>⟨oC,?_⟩)
   .rw[h2]at i2;subst i2;simp;exact fJ [0,101,2,103,104,105,106,7,8,9,10,11,112,13,14,25,26,27,28,29,30] [16,100,17,100,100,100,100,18,19,20,21,22,100,23,24]
   .rw[h2]at i2;subst i2;simp;exact gK qO qN oC
 .intro R hR;rw[hR]at _f;cases h0:mZ P to with
  |none=>rw[h0]at _f;cases _f
  | some P0=>
   rw[h0]at _f;simp only[Option.bind_some]at _f;let⟨g0,r0⟩:=Ip h0;rw[<-g0]at hG;have _B:=OB x (lN vs)▸w
   suffices hs:Grown P0 R (b+wt x)from⟨r0▸hs.len,hs.gg⟩
   by_cases k18:x.d_=18
   .rw[aC k18]at _f _B
    match hk:x.b_,_B with
    |[k0,k1],_B=>
    rw[Gg]at _B;have hww:kr x.b_=wt k0+(wt k1+0):=by rw[hk];simp[kr]
    unfold x8 at _f;rw[hk]at _f;simp only[dE,dI]at _f;have c0:=H k0 (by rw[hk];simp) vs free (free+1) P0 b _B.1 oM oM oM oM hG oM hv1 oM;cases h1:V k0 vs free (free+1) P0 with
    |none=>rw[h1]at _f;cases _f
    |some P1=>
     rw[h1]at _f;simp only[Option.bind_some]at _f;have g1:=c0.2 _ h1;have c1:=H k1 (by rw[hk];simp) (vs++[free]) to (free+1) P1 (b+wt k0) (uM _B.2) hto _X oM oM g1.gg oM oC (by simp;omega);have g2:=c1.2 _ _f.symm;exact⟨aX g1.len g2.len,g2.gg.mono oM⟩
   rw[aB k18]at _f _B;by_cases k11:x.d_=11
   .rw[aC k11]at _f _B
    match hk:x.b_,_B with
    |[k0,k1,k2],_B=>
    rw[Gh]at _B;exact(zuB V x k0 k1 k2 hk (H k0 (by rw[hk];simp)) (H k1 (by rw[hk];simp)) (H k2 (by rw[hk];simp)) vs to free P0 b _B.1 _B.2.1 _B.2.2 hto _X hfr hfr2 hG hb2 hv1 hv2).2 _ _f.symm
   rw[aB k11]at _f _B;by_cases k8:x.d_=8
   .rw[aC k8]at _f _B;exact zvN k8 H _B.2 hfr hfr2 hG hb2 hv1 hv2 _f.symm
   rw[aB k8]at _f _B;by_cases k23:x.d_=23
   .rw[aC k23]at _f _B;have g:=zy5 _f.symm hG;exact⟨g.len,g.gg.mono oM⟩
   rw[aB k23]at _f _B;by_cases k10:x.d_=10
   .rw[aC k10]at _f _B
    match hk:x.b_,_B with
    |[k0,k1],_B=>
    rw[Gi]at _B;have hww:kr x.b_=wt k0+(wt k1+0):=by rw[hk];simp[kr]
    unfold x9 at _f;rw[hk]at _f;simp only[dE,dI]at _f;have c0:=H k0 (by rw[hk];simp) vs free (free+1) P0 b _B.1 oM oM oM oM hG oM hv1 oM;cases h1:V k0 vs free (free+1) P0 with
    |none=>rw[h1]at _f;cases _f
    | some P1=>
     rw[h1]at _f;simp only[Option.bind_some]at _f;have g1:=c0.2 _ h1;have c1:=H k1 (by rw[hk];simp) vs to (free+1) P1 (b+wt k0) _B.2 hto _X oM oM g1.gg oM hv1 oM;cases h2:V k1 vs to (free+1) P1 with
     |none=>rw[h2]at _f;cases _f
     |some P2=>
      rw[h2]at _f;simp only[Option.bind_some]at _f;have g2:=c1.2 _ h2;have g3:=w9 (P:=P2) _f.symm rfl (U3 x.text g2.gg);exact⟨aX g1.len (aX g2.len g3.len),g3.gg.mono oM⟩
   rw[aB k10]at _f _B;let⟨z1,z2,z3,z4⟩:=_B;cases h1:lh V vs to free x.b_ 0 P0 with
   |none=>rw[h1]at _f;cases _f
   |some P1=>
    rw[h1]at _f;simp only[Option.bind_some]at _f;have g1:=zr7 hto _X hfr hv1 H z2 oM hG oM oM h1;have g2:=zBH _f.symm g1.gg;exact⟨aX g1.len g2.len,g2.gg.mono oM⟩
def qx:Nat->VF
|0=>λ_ _ _ _ _=>nN
|n+1=>wG (qx n)
def U4(hS:OA):∀(n:Nat) (c:n_),Q_ c<=n->Bv (qx n) c
|0,c,h=>by rw[lc]at h;omega
|n+1,c,h=>zGB hS (qx n) c λk hk=>U4 hS n k (by have:=Br hk;rw[lc]at h;omega)
@[simp] theorem B?.get1(f:B?)(h:1<lN f.enc):f.enc[1]=.int .i64 f.k_:=rfl
@[simp] theorem B?.cut(f:B?):cut f.enc 2 8=f.body.enc:=by
 have e:take 8 f.body.enc=f.body.enc:=aD oC;simp[B?.enc,Go.Abs.cut,e]
def wH:Nat->Int->o?->Option o?
|0,_,P=>sS P
|n+1,i,P=>(mZ P i).bind λP1=>wH n (i+1) P1
def wJ:Nat->Int->List Int
|0,_=>[]
|n+1,i=>i::wJ n (i+1)
def uU(V:VF)(f:B?)(G:iT):Option iT:=(wH (f.k_.toNat+1) 0 ⟨0,[],G⟩).bind λP1=>
 (V f.body (wJ (f.k_.toNat+1) 0) (f.k_+1) (f.k_+2) P1).bind λP2=>(iY P2 ⟨23,f.k_+1,0,0⟩).bind λP3=>
  sS {P3.G with procs:=P3.G.procs++[⟨f.k_,P3.p_,P3.code⟩]}
def zyp:∀(n:Nat) (i:Int),wJ (n+1) i=wJ n i++[i+n]
|0,i=>by simp[wJ]
|n+1,i=>by
 rw[wJ,zyp n (i+1),wJ];simp;omega
@[simp] theorem zAU:∀(n:Nat) (i:Int),(wJ n i).length=n
|0,i=>rfl
|n+1,i=>by simp[wJ,zAU n]
def zZ.arr1{S:St}{K:St->Prop}{g:Tag K}{d s:Nat}{ds:o5}(h3:S.m d=.arr s (ds.map (·.map .d)))
  (F:∀(Z:oZ) (m:Hp),(∀k,Abs.look Z k=(Abs.look S.t k).fz d s ds)->(∀i,m i=if i=d then .dead else(S.m i).fz d s ds)->K ⟨Z,m,S.n⟩):zZ S K g:=by
 apply fQ [d];simp only[D5,DZ,h3,CV];exact F _ _ (λk=>by rw[iE]) (λi=>rfl)
abbrev gBp(G:iT):oV:=[vI G 12 13 14 15 16 6 7 8 9,.dead,.dead,.dead,.dead,.dead,iM G,sM G,.box [.x_ 2 17 0 (lN G.T),.map 11],hM G,.dead,Cw G,iA G,sA G,hA G,oA G,pA G,rA G]
abbrev zE8:oV:=[.dead,.dead,.dead,.dead,.dead,.dead,.dead,.dead,.dead,.dead,.dead,.dead]
def U5(f:B?)(G:iT)(Q:Option iT):lX [.c (.ptr 0 0),.ag (f.enc.map .d)] 61 (EC G) (match ED Q (.a? [])with|.ret v=>v|.pan _=>.a? []) (xB Q gBp zE8):=by
 cases Q with
 |none=>exact⟨oC,oC,oC,oC,oC,oC,by simp[live]⟩
 |some R=>exact⟨oC,oC,oC,oC,oC,oC,by simp[live]⟩
set_option maxHeartbeats 8000000 in
def zzH(V:VF)(f:B?)(H:Bv V f.body)(G:iT)(b:Nat)(hc:0<=f.k_)(hc2:f.k_+wt f.body<=900000000)(w:nK f.body (f.k_.toNat+1))(hG:GG G b)(hb2:b+wt f.body<=1000000000)(hpr:lN G.procs<=1000000):
  jM Pg 26 [.c (.ptr 0 0),.ag (f.enc.map .d)] (EC G) (ED (uU V f G) (.a? [])) (xB (uU V f G) gBp zE8):=by
 let⟨Q,hQ⟩:=oJ (uU V f G);rw[hQ];refine zlT (U5 f G Q) λts _e ok hb c hN hp=>?_;obtain⟨t0,t1,t2,t3,t4,t5,t6,t7,t8,t9,t10,t11,rfl⟩:=Ez _e;unfold zgc;simp;let⟨m,hm⟩:∃m:Nat,f.k_=m:=⟨f.k_.toNat,oM⟩
 have _f:=hQ;unfold uU at _f;rw[hm]at _f w hc2;rw[bC]at _f w;refine fT [.t 5,.c 24 2] ?_;simp[p9];rw[hm,wI];refine fM gm hp (λY:Nat × o?=>Y.1<=m+1/\Y.2.G=G/\Q=(wH (m+1-Y.1) Y.1 Y.2).bind λP1=>(V f.body (wJ (m+1) 0) (m+1) (m+2) P1).bind λP2=>(iY P2 ⟨23,m+1,0,0⟩).bind λP3=>sS {P3.G with procs:=P3.G.procs++[⟨m,P3.p_,P3.code⟩]}) (λY=>[(14,.c (.d (.int .i64 Y.1))),(13,.c (.d (.int .i64 ((m:Int)+1)))),(5,.c (.x_ 1 14 0 Y.1)),(4,.c (.ptr 0 0)),(3,.c (.d (.rp f.enc 0))),(0,.c (.ptr 2 0))]) (λY=>Iq Y.2 (wJ Y.1 0)++[.G_ t0 2,.G_ t1 3,.G_ t2 4,.G_ t3 5,.G_ t4 6,.G_ t5 7,.G_ t6 8,.G_ t7 9,.G_ t8 10,.G_ t9 11,.G_ t10 12,.G_ t11 13]) (λY=>m+1-Y.1) (0,⟨0,[],G⟩) [24,26,0,1,2,3,4,5,6,7,8,9,10,11,25,12,13,14,15,16,17,18,19,20,21,22,23] ⟨oC,rfl,uM _f.symm⟩ (by simp[wJ,encI]) λ⟨i,P1⟩ ⟨i1,i3,i2⟩=>?_;unfold zfk;simp only at i1 i2 i3;clear _f;simp;apply gM<;>intro q
 .have hi':i<m+1:=oI q;rw[show m+1-i=(m-i)+1 by omega,wH]at i2;refine lg qP (Gf P1 i oM oM) oC (λP2 h2=>⟨oC,?_⟩) (λh2=>⟨oC,?_⟩);rotate_left
  .rw[h2]at i2;simp at i2;subst i2;simp;exact gK q9 [15,16,17,18,19,20,21,22,23,24,25,26] oC
  rw[h2]at i2;simp only[Option.bind_some]at i2;let⟨g2,r2⟩:=Ip h2;simp;refine jV ?_;have e:=Nq (wJ i 0);rw[zAU]at e;refine fE (i+1,P2) [0,1,2,3,4,5,6,7,8,9,10,11,12,13,27,15,16,17,18,19,20,21,22,23,24,25,26] ⟨Nat.succ_le_of_lt hi',g2.trans i3,by simp only;rw[show m+1-(i+1)=m-i by omega];exact i2⟩ qM ?_;simp[zyp,UG,e];exact wI
 .have hi':i=m+1:=oI q;subst hi';rw[Nat.sub_self]at i2;simp only[wH,Option.bind_some]at i2;have cV:=H (wJ (m+1) 0) (m+1) (m+2) P1 b (uM w) oM oM oM oM (by rw[i3];exact hG) hb2 oC (by simp;omega);simp;rw[hm,wI,wI];have e2:(m:Int)+1+1=m+2:=oM;rw[e2];refine lg qR cV.1 oC (λP2 h2=>⟨oC,?_⟩) (λh2=>⟨oC,?_⟩);rotate_left
  .rw[h2]at i2;simp at i2;subst i2;simp;exact gK q9 [15,16,17,18,19,20,21,22,23,24,25,26] oC
  rw[h2]at i2;simp only[Option.bind_some]at i2;simp;refine lg [0,27,2,28,29,30,31,7,8,9,10,11,32,13] (tQ P2 ⟨23,m+1,0,0⟩) oC (λP3 h3=>⟨oC,?_⟩) (λh3=>⟨oC,?_⟩);rotate_left
  .rw[h3]at i2;simp at i2;subst i2;simp;exact gK q9 [15,16,17,18,19,20,21,22,23,24,25,26] oC
  rw[h3]at i2;simp only[Option.bind_some]at i2;let⟨g3,r3⟩:=nJ h3;subst i2;simp;refine zZ.arr1 (d:=33) (s:=4) (ds:=P3.code.map Ins.enc) oC λZ mm hZ hmm=>?_;have em:mm=r_ [.box [.ptr 2 0,.d (.int .i64 P3.p_),.d (.sl oK 4 (P3.code.map Ins.enc))],.dead,vI P3.G 28 29 30 31 7 8 9 10 11,.dead,.dead,.dead,.dead,pA P3.G,iM P3.G,sM P3.G,tB P3.G 32 13,hM P3.G,.dead,Cw P3.G,vA (wJ (m+1) 0),.G_ t0 2,.G_ t1 3,.G_ t2 4,.G_ t3 5,.G_ t4 6,.G_ t5 7,.G_ t6 8,.G_ t7 9,.G_ t8 10,.G_ t9 11,.G_ t10 12,.G_ t11 13,.dead,iA P3.G,sA P3.G,hA P3.G,oA P3.G,rA P3.G,.dead,.box [.ptr 0 0],.box [.d (.int .i64 P2.code.length)]]:=funext λi=>by
   rw[hmm]
   match i with
   |0=>simp;exact aD oC
   |1=>simp
   |2=>simp
   |3=>simp
   |4=>simp
   |5=>simp
   |6=>simp
   |7=>simp
   |8=>simp
   |9=>simp
   |10=>simp
   |11=>simp
   |12=>simp
   |13=>simp
   |14=>simp
   |15=>simp
   |16=>simp
   |17=>simp
   |18=>simp
   |19=>simp
   |20=>simp
   |21=>simp
   |22=>simp
   |23=>simp
   |24=>simp
   |25=>simp
   |26=>simp
   |27=>simp
   |28=>simp
   |29=>simp
   |30=>simp
   |31=>simp
   |32=>simp
   |33=>simp
   |34=>simp
   |35=>simp
   |i+36=>simp[r_]
  subst em;have y0:Abs.look Z 0=.c (.ptr 2 0):=by rw[hZ];simp
  have y3:Abs.look Z 3=.c (.d (.rp f.enc 0)):=by rw[hZ];simp
  have y4:Abs.look Z 4=.c (.ptr 0 0):=by rw[hZ];simp
  clear hZ hmm;simp[y0,y3,y4];have pr:P3.G.procs.length<=1000000:=by rw[g3];exact(cV.2 _ h2).gg.pr
  have ep:take P3.G.procs.length (List.map ((λx=>List.map AC.d x)∘jv.enc) P3.G.procs)=List.map ((λx=>List.map AC.d x)∘jv.enc) P3.G.procs:=aD oC;refine⟨oM,by rfl,?_⟩;exact fK [2,101,102,103,104,105,8,9,10,11,110,13,28,29,30,31,36,32] [15,100,100,100,100,100,21,22,23,24,100,26] (by simp[ep,jv.enc,hm])
variable {b:Prop}{hi hi' r:Int}{x:Ins}{l:List fD}{j i s:Nat}{Q:Nat->Ins->Prop}
def zFn{l:oN}(h:l.Pairwise W?)(hij:i<j)(hj:j<lN l):W? (l[i]' oM) l[j]:=dL.1 h i j oM hj hij
def U6(h:l.Pairwise W?)(hj:j<lN l):∀(n lo hi:Nat),hi-lo<=n->lo<=j->j<=hi->hi<=lN l->BC l l[j] lo hi=j
|0,lo,hi,hn,h1,h2,h3=>by rw[BC,dif_neg oM];omega
| n+1,lo,hi,hn,h1,h2,h3=>by
 rw[BC];split
 next q=>
  have hm:(lo+hi)/2<lN l:=oM;have e:l.getD ((lo+hi)/2) (bs [])=l[(lo+hi)/2]:=by rw[aH,aA hm];try rfl
  rw[e];unfold lsB;rw[Kw];split
  next g=>
   have g':W? l[(lo+hi)/2] l[j]:=of_decide_eq_true g;refine U6 h hj n _ _ oM ?_ h2 h3;rcases Nat.lt_trichotomy ((lo+hi)/2) j with c|c|c
   .exact c
   .subst c;exact absurd g' (EH _)
   .exact absurd (Cz g' (zFn h c hm)) (EH _)
  next g=>
   refine U6 h hj n _ _ oM h1 ?_ oM;rcases aY ((lo+hi)/2) j with c|c
   .exact absurd (show decide (l[(lo+hi)/2].data.toList<l[j].data.toList)=tT from bS (zFn h c hj)) g
   .exact c
 .omega
def zJD{l:oN}(h:l.Pairwise W?)(hj:j<lN l):qw l l[j]=j:=U6 h hj _ 0 _ (aJ _) oM oM (aJ _)
structure TN (T:List TE):Prop where
 ne:0<lN T
 zero:mH T 0=[]
 up:∀k e,T[k]?=sS e->0<k->e.1<k/\e.2.2=mH T e.1++[e.2.1]
def zyP{x:fD}:∀{l:List TE} {i k:Nat},Ay s x l i=sS k->i<=k/\∃e,l[k-i]?=sS e/\e.1=s/\e.2.1=x
|[],i,k,h=>by simp[Ay]at h
| e::l,i,k,h=>by
 unfold Ay at h;split at h
 next q=>
  cases h;exact⟨aJ _,e,oC,q⟩
 .let⟨h1,e',h2,h3⟩:=zyP h;refine⟨oM,e',?_,h3⟩;rw[show k-i=(k-(i+1))+1 by omega];simpa using h2
structure TX (T U:List TE):Prop where
 len:lN T<=lN U
 old:∀j,j<lN T->mH U j=mH T j
def TX.refl(T:List TE):TX T T:=⟨aJ _,λ_ _=>rfl⟩
def TX.trans{A B C:List TE}(h:TX A B)(k:TX B C):TX A C:=⟨aX h.len k.len,λj hj=>(k.old j (cB hj h.len)).trans (h.old j hj)⟩
def zJE{T:List TE}(h:TN T)(hs:s<lN T){x:fD}(hx:¬x∈mH T s):TN (jS T s x).1/\TX T (jS T s x).1/\(jS T s x).2<(jS T s x).1.length/\mH (jS T s x).1 (jS T s x).2=mH T s++[x]:=by
 unfold jS;rw[aB (λe=>hx (Ko.1 e))];split
 next k hk=>
  let⟨h1,e,h2,h3,h4⟩:=zyP hk;have h2:T[k]?=sS e:=by
   rw[bE]at h2;rw[<-h2];congr 1;omega
  have _k:k<lN T:=by
   rcases aY k (lN T) with g|g
   .exact g
   .rw[aR g]at h2;cases h2
  refine⟨h,TX.refl T,_k,?_⟩;have:=(h.up k e h2 oM).2;unfold mH;rw[h2];simp only;rw[this,h3,h4];try rfl
 .have e0:∀j,j<lN T->mH (T++[(s,x,mH T s++[x])]) j=mH T j:=λj hj=>zqs hj;refine⟨⟨oC,by rw[e0 0 h.ne];exact h.zero,λk e hk h0=>?_⟩,⟨oC,e0⟩,oC,by simp[mH]⟩;rcases aY k (lN T) with g|g
  .rw[aj g]at hk;let⟨u1,u2⟩:=h.up k e hk h0;exact⟨u1,by rw[e0 _ oM];exact u2⟩
  .rw[ay g]at hk;have:k-lN T=0:=by
    rcases Nat.eq_zero_or_pos (k-lN T)with c|c
    .exact c
    .rw[aR (by simp;omega)]at hk;cases hk
   rw[this]at hk;simp only[getElem?_cons_zero,aU]at hk;subst hk;exact⟨qM,by simp only;rw[e0 _ hs]⟩
def zFo:∀{ns:List fD} {T:List TE} {s:Nat},TN T->s<lN T->(mH T s++ns).Nodup->TN (pq T s ns).1/\TX T (pq T s ns).1/\(pq T s ns).2<(pq T s ns).1.length/\mH (pq T s ns).1 (pq T s ns).2=mH T s++ns
|[],T,s,h,hs,hn=>⟨h,TX.refl T,hs,by simp[pq]⟩
|x::l,T,s,h,hs,hn=>by
 have hx:¬x∈mH T s:=λe=>(bK.1 hn).2.2 x e x oC rfl;let⟨a1,a2,a3,a4⟩:=zJE h hs hx;let⟨b1,b2,b3,b4⟩:=zFo (ns:=l) a1 a3 (by rw[a4];simpa using hn);rw[pq];exact⟨b1,a2.trans b2,b3,by rw[b4,a4];simp⟩
structure GI (G:iT):Prop where
 tn:TN G.T
 len:lN G.ks=lN G.J_
 shp:∀j k:Nat,G.ks[j]?=sS k->k<lN G.T/\G.J_[j]?=sS (mH G.T k)
 rise:∀ns,ns∈G.J_->ns.Pairwise W?
 cos:∀d,d∈G.cos->i? d=tT
structure Ext (G R:iT):Prop where
 ints:lN G.ints<=lN R.ints
 L?:lN G.L?<=lN R.L?
 cos:lN G.cos<=lN R.cos
 shp:∀(j:Nat) ns,G.J_[j]?=sS ns->R.J_[j]?=sS ns
 procs:R.procs=G.procs
def Ext.refl(G:iT):Ext G G:=⟨aJ _,aJ _,aJ _,λ_ _ h=>h,rfl⟩
def Ext.trans{A B C:iT}(h:Ext A B)(k:Ext B C):Ext A C:=⟨aX h.ints k.ints,aX h.L? k.L?,aX h.cos k.cos,λj ns q=>k.shp j ns (h.shp j ns q),k.procs.trans h.procs⟩
def zA4{α:Type} [DecidableEq α]{x:α}:∀{l:List α} {i k:Nat},mX x l i=sS k->i<=k/\l[k-i]?=sS x
|[],i,k,h=>by simp[mX]at h
| y::l,i,k,h=>by
 unfold mX at h;split at h
 .rename_i q;cases h;simp[q]
 .let⟨h1,h2⟩:=zA4 h;refine jV ?_;rw[show k-i=(k-(i+1))+1 by omega];simpa using h2
def zHK(G:iT)(n:Int):Ext G (kF G n).1/\(kF G n).2<(kF G n).1.ints.length/\(GI G->GI (kF G n).1):=by
 unfold kF;split
 next k hk=>
  have:=UF hk;exact⟨Ext.refl G,qM,id⟩
 .exact⟨⟨oC,aJ _,aJ _,λ_ _ h=>h,rfl⟩,oC,λh=>⟨h.tn,h.len,h.shp,h.rise,h.cos⟩⟩
def zyQ(G:iT)(n:fD):Ext G (iR G n).1/\(iR G n).2<(iR G n).1.L?.length/\(GI G->GI (iR G n).1):=by
 unfold iR;split
 next k hk=>
  have:=UF hk;exact⟨Ext.refl G,qM,id⟩
 .exact⟨⟨aJ _,oC,aJ _,λ_ _ h=>h,rfl⟩,oC,λh=>⟨h.tn,h.len,h.shp,h.rise,h.cos⟩⟩
def zJF(G:iT){d:gT}(hd:i? d=tT):Ext G {G with cos:=G.cos++[d]}/\(GI G->GI {G with cos:=G.cos++[d]}):=
⟨⟨aJ _,aJ _,oC,λ_ _ h=>h,rfl⟩,λh=>⟨h.tn,h.len,h.shp,h.rise,λc hc=>by
 rcases aL.1 hc with q|q
 .exact h.cos c q
 .rw[aK]at q;rw[q];exact hd⟩⟩
def zFp(h:GI G){ns:oN}(hn:ns.Pairwise W?):Ext G (xY G ns).1/\(xY G ns).1.J_[(xY G ns).2]?=sS ns/\GI (xY G ns).1:=by
 let⟨o1,o2,o3,o4⟩:=zFo (ns:=ns) h.tn h.tn.ne (by rw[h.tn.zero];simpa using Gm hn);rw[h.tn.zero,nil_append]at o4;have hs:∀j k,G.ks[j]?=sS k->k<(pq G.T 0 ns).1.length/\G.J_[j]?=sS (mH (pq G.T 0 ns).1 k):=λj k hk=>by
  let⟨a,b⟩:=h.shp j k hk;exact⟨cB a o2.len,by rw[o2.old k a];exact b⟩
 unfold xY uR;simp only;split
 next j hj=>
  let⟨p1,p2⟩:=zA4 hj;simp only[dW]at p2;refine⟨⟨aJ _,aJ _,aJ _,λ_ _ h=>h,rfl⟩,?_,⟨o1,h.len,hs,h.rise,h.cos⟩⟩;simp only;rw[(hs _ _ p2).2,o4]
 .refine⟨⟨aJ _,aJ _,aJ _,λj m q=>?_,rfl⟩,?_,⟨o1,by simp[h.len],λj k hk=>?_,λm hm=>?_,h.cos⟩⟩
  .have hj:j<lN G.J_:=by
    rcases aY j (lN G.J_) with g|g
    .exact g
    .rw[aR g]at q;cases q
   simp only;rw[aj hj];exact q
  .simp only;rw[h.len,ay (aJ _)];simp
  .simp only at hk⊢;rcases aY j (lN G.ks) with g|g
   .rw[aj g]at hk;rw[aj (by rw[<-h.len];exact g)];exact hs j k hk
   .rw[ay g]at hk;have e:j=lN G.ks:=by
     rcases Nat.eq_zero_or_pos (j-lN G.ks)with c|c
     .omega
     .rw[aR (by simp;omega)]at hk;cases hk
    subst e;simp only[Nat.sub_self,getElem?_cons_zero,aU]at hk;subst hk;rw[h.len,ay (aJ _)];exact⟨o3,by simp[o4]⟩
  .rcases aL.1 hm with q|q
   .exact h.rise m q
   .rw[aK]at q;rw[q];exact hn
structure ry (all:List B?) (b:Prop) (hi:Int) (G:iT) (p_:Int) (len i:Nat) (x:Ins):Prop where
 op:0<=x.op/\x.op<33/\x.op≠23
 a:x.op≠24->0<=x.a/\x.a<p_
 rb:(x.op<11\/x.op=15\/x.op=19\/x.op=20\/x.op=21\/x.op=22\/26<=x.op/\x.op<=31)->0<=x.b/\x.b<p_
 rc:(x.op<11\/x.op=22\/x.op=27\/x.op=28)->0<=x.c/\x.c<p_
 k11:x.op=11->0<=x.b/\x.b<lN G.ints
 k12:x.op=12->0<=x.b/\x.b<lN G.L?
 k13:x.op=13->0<=x.b/\x.b<2
 k16:x.op=16->0<=x.b/\∃f,all[x.b.toNat]?=sS f/\f.k_=0
 k17:x.op=17->0<=x.b/\0<=x.c/\∃f,all[x.b.toNat]?=sS f/\(x.c+f.k_<=p_\/x.c+f.k_<=hi)
 k18:x.op=18->0<=x.b/\0<=x.c/\∃ns,G.J_[x.b.toNat]?=sS ns/\(x.c+lN ns<=p_\/x.c+lN ns<=hi)
 kc:x.op=19\/x.op=20->0<=x.c/\x.c<lN G.L?
 k21:x.op=21->b/\0<=x.c/\x.c<lN G.cos
 k26:x.op=26->0<=x.c/\x.c<6
 kj:x.op=24\/x.op=25->(i:Int)<x.b/\x.b<=len
def ry.mono{all:og}{G':iT}{p_ regs':Int}{len len':Nat}(h:ry all b hi G p_ len i x)(e:Ext G G')(hr:p_<=regs')(hl:len<=len')(hh:hi<=hi'\/hi<=regs'):ry all b hi' G' regs' len' i x where
 op:=h.op
 a:=λq=>by have:=h.a q;omega
 rb:=λq=>by have:=h.rb q;omega
 rc:=λq=>by have:=h.rc q;omega
 k11:=λq=>by have:=h.k11 q;have:=e.ints;omega
 k12:=λq=>by have:=h.k12 q;have:=e.L?;omega
 k13:=h.k13
 k16:=h.k16
 k17:=λq=>by
  let⟨h1,h2,f,h3,h4⟩:=h.k17 q;exact⟨h1,h2,f,h3,oM⟩
 k18:=λq=>by
  let⟨h1,h2,ns,h3,h4⟩:=h.k18 q;exact⟨h1,h2,ns,e.shp _ _ h3,oM⟩
 kc:=λq=>by have:=h.kc q;have:=e.L?;omega
 k21:=λq=>by
  let⟨h1,h2,h3⟩:=h.k21 q;have:=e.cos;exact⟨h1,h2,oM⟩
 k26:=h.k26
 kj:=λq=>by have:=h.kj q;omega
def mg(Q:Nat->Ins->Prop):Nat->List Ins->Prop
|_,[]=>True
|i,x::l=>Q i x/\mg Q (i+1) l
def OC:∀{l r:List Ins} {i:Nat},mg Q i (l++r)↔mg Q i l/\mg Q (i+lN l) r
|[],r,i=>by simp[mg]
|x::l,r,i=>by
 simp only[cons_append,mg,OC (l:=l),length_cons,and_assoc];rw[show i+1+lN l=i+(lN l+1) by omega]
def mg.imp{R:Nat->Ins->Prop}(H:∀i x,Q i x->R i x):∀{l:List Ins} {i:Nat},mg Q i l->mg R i l
|[],_,_=>trivial
|x::l,i,h=>⟨H _ _ h.1,mg.imp H h.2⟩
def U7(n:Int):∀(A:List Ins) (x:Ins) (B:List Ins),wF n (A++x::B) (lN A)=A++pJ x n::B
|[],x,B=>rfl
|a::A,x,B=>by simp[wF,U7 n A x B]
structure jL (all:List B?) (b:Prop) (hi:Int) (P R:o?):Prop where
 p_:P.p_<=R.p_
 top:P.p_<=256->R.p_<=256
 few:lN P.code<=65536->lN R.code<=65536
 ext:Ext P.G R.G
 inv:GI R.G
 code:∃xs,R.code=P.code++xs/\mg (ry all b hi R.G R.p_ (lN R.code)) (lN P.code) xs
def jL.refl{all:og}(h:GI P.G):jL all b hi P P:=⟨Int.le_refl _,id,id,Ext.refl _,h,[],oC,trivial⟩
def jL.len{all:og}(h:jL all b hi P R):lN P.code<=lN R.code:=by
 let⟨xs,e,_⟩:=h.code;rw[e];simp
def jL.low{all:og}(h:jL all b hi P R)(hh:hi<=hi'\/hi<=R.p_):jL all b hi' P R:=
⟨h.p_,h.top,h.few,h.ext,h.inv,by
 let⟨xs,e,q⟩:=h.code
 exact⟨xs,e,q.imp λi x w=>w.mono (Ext.refl _) (Int.le_refl _) (aJ _) hh⟩⟩
def jL.trans{all:og}{Q:o?}(h:jL all b hi P Q)(k:jL all b hi Q R):jL all b hi P R:=by
 have hl:=k.len;refine⟨Int.le_trans h.p_ k.p_,λq=>k.top (h.top q),λq=>k.few (h.few q),h.ext.trans k.ext,k.inv,?_⟩;let⟨xs,e1,q1⟩:=h.code;let⟨ys,e2,q2⟩:=k.code;refine⟨xs++ys,by rw[e2,e1];simp,OC.2 ⟨q1.imp λi x w=>w.mono k.ext k.p_ hl (.inl (Int.le_refl _)),?_⟩⟩;rw[e1,aV]at q2;exact q2
theorem zA5(a b:Int):zR tT a b=if b>a then b else a:=rfl
def zA6(h:mZ P r=sS R):R.G=P.G/\R.code=P.code/\P.p_<=R.p_/\r<R.p_/\R.p_<=256:=by
 have g:=Ip h;unfold mZ at h;split at h
 .cases h
 next q=>
  cases h;refine⟨g.1,g.2,?_⟩;simp only[mY,zA5]at q⊢;split at q<;>(split<;>omega)
def jL.use{all:og}(h:mZ P r=sS R)(hG:GI P.G):jL all b hi P R/\r<R.p_:=by
 let⟨g1,g2,g3,g4,g5⟩:=zA6 h;exact⟨⟨g3,λ_=>g5,λq=>by rw[g2];exact q,by rw[g1];exact Ext.refl _,by rw[g1];exact hG,[],by rw[g2];simp,trivial⟩,g4⟩
def OD(h:iY P x=sS R):R.G=P.G/\R.p_=P.p_/\R.code=P.code++[x]/\lN P.code<65536:=by
 unfold iY at h;split at h
 .cases h
 .cases h;exact⟨rfl,rfl,rfl,oM⟩
def jL.emit{all:og}(h:iY {P with G:=G} x=sS R)(e:Ext P.G G)(hG:GI G)(w:ry all b hi G P.p_ (lN P.code+1) (lN P.code) x):jL all b hi P R:=by
 let⟨g1,g2,g3,g4⟩:=OD h;simp only at g1 g2 g3 g4;refine⟨by rw[g2];exact Int.le_refl _,λq=>by rw[g2];exact q,λ_=>by rw[g3];simp;omega,by rw[g1];exact e,by rw[g1];exact hG,[x],g3,?_⟩;rw[g1,g2,g3];simp only[mg,and_true,aV,length_cons,length_nil];exact w
def jL.emit0{all:og}(h:iY P x=sS R)(hG:GI P.G)(w:ry all b hi P.G P.p_ (lN P.code+1) (lN P.code) x):jL all b hi P R:=
 jL.emit (G:=P.G) h (Ext.refl _) hG w
variable {p:Int}{x k0 k1:n_}
section
variable (all:List B?) (b:Prop)
def BF(k n:Int)(is:oW)(ns:oN)(cs:sN)(q:Nat):Prop:=
((k=0\/k=1\/k=3\/k=4\/k=20)/\q=0)\/(k=2/\q=0/\(n=0\/n=1))\/(k=6/\q=0/\0<=n/\∃f,all[n.toNat]?=sS f/\f.k_=0)\/((k=9\/k=16\/k=17\/k=19)/\q=1)\/(k=12/\q=1/\0<=n/\n<6)\/((k=7\/k=10\/k=14\/k=15\/k=18)/\q=2)\/(k=13/\q=2/\0<=n/\n<11)\/(k=11/\q=3)\/(k=8/\lN ns=q/\ns.Nodup)\/(k=22/\q=1/\b/\∃d,cs=[d]/\i? d=tT)\/(k=23/\q=0/\0<=n/\∃f,all[n.toNat]?=sS f/\f.k_=lN is)
mutual
def okF:n_->Prop
|.mk k n _ is ns _ cs ks=>BF all b k n is ns cs (lN ks)/\jb ks
def jb:List n_->Prop
|[]=>True
|c::l=>okF c/\jb l
end
end
section
variable {all:List B?} {b:Prop}
def okF_eq(c:n_):okF all b c=(BF all b c.d_ c.n c.ints c.a_ c.cos (lN c.b_)/\jb all b c.b_):=by cases c;rw[okF];try rfl
def OE:∀{l:List n_} {c:n_},jb all b l->c∈l->okF all b c
|x::l,c,h,hc=>by
 rw[jb]at h;rcases aM.1 hc with rfl|q
 .exact h.1
 .exact OE h.2 q
variable (all b)
def zJ(V:VF)(c:n_):Prop:=∀(hi:Int) (vs:oW) (to free:Int) (P R:o?),okF all b c->nK c (lN vs)->(∀v,v∈vs->0<=v/\v<P.p_)->0<=to->0<=free->free<=hi->GI P.G->V c vs to free P=sS R->jL all b hi P R/\to<R.p_
variable {all b}
def FF{vs:oW}{q:Int}(h:∀v,v∈vs->0<=v/\v<p)(k:p<=q):∀v,v∈vs->0<=v/\v<q:=λv hv=>by have:=h v hv;omega
def zDL{vs:oW}(h:∀v,v∈vs->0<=v/\v<p){n:Int}(h0:0<=n)(h1:n<lN vs):0<=vs.getD n.toNat 0/\vs.getD n.toNat 0<p:=by
 have hj:n.toNat<lN vs:=oM;rw[aH,aA hj];exact h _ (aO hj)
def rR{α β:Type}{A:Option α}{f:α->Option β}{R:β}(h:A.bind f=sS R):∃a,A=sS a/\f a=sS R:=by
 cases A with
 |none=>cases h
 |some a=>exact⟨a,rfl,h⟩
def zwZ(H0:zJ all b V k0)(H1:zJ all b V k1){vs vs1:oW}{to0 free0 to1 free1:Int}{Q:o?}(o0:okF all b k0)(o1:okF all b k1)(w0:nK k0 (lN vs))(w1:nK k1 (lN vs1))
  (hv:∀v,v∈vs->0<=v/\v<P.p_) (hv1:∀v,v∈vs1->v∈vs\/v=to0) (h1:0<=to0) (h2:0<=free0) (h3:free0<=hi\/free0<=to0+1) (h4:0<=to1) (h5:0<=free1) (h6:free1<=hi\/free1<=to0+1) (hG:GI P.G) (e0:V k0 vs to0 free0 P=sS Q) (e1:V k1 vs1 to1 free1 Q=sS R):jL all b hi P R/\to0<R.p_/\to1<R.p_:=by
 let⟨s0,r0⟩:=H0 (if hi<=to0+1 then to0+1 else hi) vs to0 free0 P Q o0 w0 hv h1 h2 (by split<;>omega) hG e0;let⟨s1,r1⟩:=H1 (if hi<=to0+1 then to0+1 else hi) vs1 to1 free1 Q R o1 w1 (λv hq=>by
  rcases hv1 v hq with q|q
  .have:=hv v q;have:=s0.p_;omega
  .subst q;omega) h4 h5 (by split<;>omega) s0.inv e1
 have hr:=s1.p_;exact⟨(s0.trans s1).low (by split<;>omega),oM,r1⟩
def zGj(hk:x.b_=[k0,k1])(H0:zJ all b V k0)(H1:zJ all b V k1){vs:oW}(o0:okF all b k0)(o1:okF all b k1)(w0:nK k0 (lN vs))(w1:nK k1 (lN vs+1))
  (hv:∀v,v∈vs->0<=v/\v<P.p_) (h1:0<=to) (h2:0<=free) (h3:free<=hi) (hG:GI P.G) (e:x8 V x vs to free P=sS R):jL all b hi P R/\to<R.p_:=by
 unfold x8 at e;rw[hk]at e;let⟨Q,e0,e1⟩:=rR e;have:=zwZ H0 H1 (hi:=hi) (vs1:=vs++[free]) o0 o1 w0 (uM w1) hv (λv q=>uM q) h2 oM (.inr (Int.le_refl _)) h1 oM (.inr (Int.le_refl _)) hG e0 e1;exact⟨this.1,this.2.2⟩
def zGk(hk:x.b_=[k0,k1])(H0:zJ all b V k0)(H1:zJ all b V k1){vs:oW}(o0:okF all b k0)(o1:okF all b k1)(w0:nK k0 (lN vs))(w1:nK k1 (lN vs))
  (hv:∀v,v∈vs->0<=v/\v<P.p_) (h1:0<=to) (h2:0<=free) (h3:free<=hi) (hG:GI P.G) (e:x9 V x vs to free P=sS R):jL all b hi P R/\to<R.p_:=by
 unfold x9 at e;rw[hk]at e;let⟨Q,e0,e⟩:=rR e;let⟨S,e1,e⟩:=rR e;let⟨s,r0,r1⟩:=zwZ H0 H1 (hi:=hi) (vs1:=vs) o0 o1 w0 w1 hv (λv q=>.inl q) h2 oM (.inr (Int.le_refl _)) h1 oM (.inr (Int.le_refl _)) hG e0 e1;let⟨x1,x2,x3⟩:=zyQ S.G x.text;have:=jL.emit (all:=all) (b:=b) (hi:=hi) e x1 (x3 s.inv) ⟨oC,λ_=>by simp only;omega,λ_=>by simp only;omega,oC,oC,oC,oC,oC,oC,oC,λ_=>by simp only;omega,oC,oC,oC⟩;exact⟨s.trans this,by have:=this.p_;omega⟩
def zzd{k2:n_}(hk:x.b_=[k0,k1,k2])(H0:zJ all b V k0)(H1:zJ all b V k1)(H2:zJ all b V k2){vs:oW}(o0:okF all b k0)(o1:okF all b k1)(o2:okF all b k2)(w0:nK k0 (lN vs))(w1:nK k1 (lN vs))(w2:nK k2 (lN vs))
  (hv:∀v,v∈vs->0<=v/\v<P.p_) (h1:0<=to) (h2:0<=free) (h3:free<=hi) (hG:GI P.G) (e:Cx V x vs to free P=sS R):jL all b hi P R/\to<R.p_:=by
 unfold Cx at e;rw[hk]at e;simp only[dE,dI]at e;let⟨P1,e1,e⟩:=rR e;let⟨P2,e2,e⟩:=rR e;let⟨P3,e3,e⟩:=rR e;let⟨P4,e4,e⟩:=rR e;let⟨P6,e6,e⟩:=rR e;cases e;let⟨s1,r1⟩:=H0 hi vs to free P P1 o0 w0 hv h1 h2 h3 hG e1;let⟨g1,g2,g3,g4⟩:=OD e2;let⟨s3,r3⟩:=H1 hi vs to free P2 P3 o1 w1 (by rw[g2];exact FF hv s1.p_) h1 h2 h3 (by rw[g1];exact s1.inv) e3;let⟨f1,f2,f3,f4⟩:=OD e4;have hs:=s3.p_;let⟨s6,r6⟩:=H2 hi vs to free (kN P4 P1.code.length) P6 o2 w2 (by rw[EE,f2];exact FF hv (by have:=s1.p_;omega)) h1 h2 h3 (by rw[FD,f1];exact s3.inv) e6;have hs6:=s6.p_;rw[EE,f2]at hs6;have x6:=s6.ext;rw[FD,f1]at x6;have x3:=s3.ext;rw[g1]at x3;let⟨A,c1,q1⟩:=s1.code;let⟨B,c3,q3⟩:=s3.code;let⟨C,c6,q6⟩:=s6.code;have l1:P1.code.length=lN P.code+lN A:=by rw[c1];simp
 have l3:P3.code.length=P1.code.length+1+lN B:=by rw[c3,g3];simp;omega
 have p4:(kN P4 P1.code.length).code=P1.code++⟨25,to,P4.code.length,0⟩::(B++[⟨24,0,0,0⟩]):=by
  have:P4.code=P1.code++⟨25,to,0,0⟩::(B++[⟨24,0,0,0⟩]):=by rw[f3,c3,g3];simp
  simp only[kN];rw[this,U7];try rfl
 have l4:P4.code.length=P3.code.length+1:=by rw[f3];simp
 have p6:P6.code=(P1.code++⟨25,to,P4.code.length,0⟩::B)++⟨24,0,0,0⟩::C:=by rw[c6,p4];simp
 have l6:P6.code.length=P4.code.length+lN C:=by rw[p6];simp;omega
 have pr:(kN P6 P3.code.length).code=P.code++(A++⟨25,to,P4.code.length,0⟩::(B++⟨24,0,P6.code.length,0⟩::C)):=by
  simp only[kN];have:P3.code.length=(P1.code++⟨25,to,P4.code.length,0⟩::B).length:=by rw[l3];simp;omega
  rw[this]
  conv=>lhs;rw[p6]
  rw[U7,c1];simp[pJ,p6];omega
 refine⟨⟨by rw[EE];have:=s1.p_;omega,λq=>?_,λq=>?_,?_,by rw[FD];exact s6.inv,_,pr,?_⟩,by rw[EE];exact r6⟩
 .rw[EE];apply s6.top;rw[EE,f2];apply s3.top;rw[g2];exact s1.top q
 .rw[FE];apply s6.few;rw[FE];omega
 .rw[FD];exact(s1.ext.trans x3).trans x6
 .rw[FD,EE,FE,OC];refine⟨q1.imp λi y w=>w.mono (x3.trans x6) oM oM (.inl (Int.le_refl _)),?_⟩;rw[mg,OC,mg];refine⟨⟨oC,λ_=>by simp only;omega,oC,oC,oC,oC,oC,oC,oC,oC,oC,oC,oC,λ_=>by simp only;omega⟩,?_,⟨oC,oC,oC,oC,oC,oC,oC,oC,oC,oC,oC,oC,oC,λ_=>by simp only;omega⟩,?_⟩
  .rw[g3]at q3;simp only[aV,length_cons,length_nil]at q3;rw[<-l1];exact q3.imp λi y w=>w.mono x6 oM oM (.inl (Int.le_refl _))
  .have:lN P.code+lN A+1+lN B+1=(kN P4 P1.code.length).code.length:=by rw[p4];simp;omega
   rw[this];exact q6
def zDM{vs:oW}(hf:∃f,all[x.n.toNat]?=sS f/\f.k_=lN x.ints)(h0:0<=x.n)(hw:∀i,i∈x.ints->0<=i/\i<lN vs)(hv:∀v,v∈vs->0<=v/\v<P.p_)(h1:0<=to)(ht:to<P.p_)(h2:0<=free)(h3:free<=hi)(hG:GI P.G)(e:Bw x vs to free P=sS R):jL all b hi P R/\to<R.p_:=by
 have key:∀(l:oW) (i:Nat) (P Q:o?),(∀v,v∈l->0<=v/\v<lN vs)->(∀v,v∈vs->0<=v/\v<P.p_)->GI P.G->nW vs free l i P=sS Q->jL all b hi P Q/\(l≠[]->free+i+lN l<=Q.p_):=by
  intro l
  induction l with
  |nil=>intro i P Q _ _ hG e;cases e;exact⟨jL.refl hG,λh=>absurd rfl h⟩
  | cons v l ih=>
   intro i P Q hl hv hG e;unfold nW at e;let⟨P1,e1,e⟩:=rR e;let⟨P2,e2,e⟩:=rR e;let⟨s1,r1⟩:=jL.use (all:=all) (b:=b) (hi:=hi) e1 hG;have hq:=hl v oC;have hg:=zDL (FF hv s1.p_) hq.1 hq.2;have s2:=jL.emit0 (all:=all) (b:=b) (hi:=hi) e2 s1.inv ⟨oC,λ_=>by simp only;omega,λ_=>by simp only;omega,oC,oC,oC,oC,oC,oC,oC,oC,oC,oC,oC⟩;have e':nW vs free l ((i+1:Nat):Int) P2=sS Q:=uM e;let⟨s3,r3⟩:=ih (i+1) P2 Q (λu hu=>hl u (by simp[hu])) (FF hv (Int.le_trans s1.p_ s2.p_)) s2.inv e';refine⟨(s1.trans s2).trans s3,λ_=>?_⟩;have:=s2.p_;have:=s3.p_;by_cases c:l=[]
   .subst c;simp;omega
   .have:=r3 c;simp at this⊢;omega
 unfold Bw at e;let⟨Q,e1,e⟩:=rR e;let⟨s1,r1⟩:=key x.ints 0 P Q hw hv hG (uM e1);let⟨f,f1,f2⟩:=hf;have hr:=s1.p_;have s2:=jL.emit0 (all:=all) (b:=b) (hi:=hi) e s1.inv ⟨oC,λ_=>by simp only;omega,oC,oC,oC,oC,oC,oC,λ_=>⟨h0,h2,f,f1,by
  simp only;rw[f2];by_cases c:x.ints=[]
  .rw[c];simp;omega
  .have:=r1 c;simp at this;omega⟩,oC,oC,oC,oC,oC⟩
 exact⟨s1.trans s2,by have:=s2.p_;omega⟩
def zze(H:∀k,k∈x.b_->zJ all b V k){vs:oW}(ho:jb all b x.b_)(hl:lN x.a_=lN x.b_)(hn:x.a_.Nodup)(hw:iZ x.b_ (lN vs))
  (hv:∀v,v∈vs->0<=v/\v<P.p_) (h1:0<=to) (ht:to<P.p_) (h2:0<=free) (h3:free<=hi) (hG:GI P.G) (e:BD V x vs to free P=sS R):jL all b hi P R/\to<R.p_:=by
 have hs:=UV hn;let⟨s,hs'⟩:=oJ (zaT x.a_);have hsl:lN s=lN x.a_:=by rw[<-hs'];simp[zaT]
 have key:∀(ks:o8) (ns:oN) (P Q:o?),lN ks=lN ns->(∀k,k∈ks->zJ all b V k)->jb all b ks->iZ ks (lN vs)->(∀v,v∈vs->0<=v/\v<P.p_)->GI P.G->AR V vs free s ks ns P=sS Q->jL all b (if hi<=free+lN s then free+lN s else hi) P Q/\∀y,y∈ns->free+qw s y<Q.p_:=by
  intro ks
  induction ks with
  |nil=>
   intro ns P Q hq _ _ _ _ hG e;cases ns with
   |nil=>cases e;exact⟨jL.refl hG,λy hy=>by cases hy⟩
   |cons _ _=>simp at hq
  | cons k ks ih=>
   intro ns P Q hq hH ho hw hv hG e;cases ns with
   |nil=>simp at hq
   |cons y ns=>
    rw[jb]at ho;rw[iZ]at hw;unfold AR at e;simp only[headD_cons,tail_cons]at e;let⟨P1,e1,e⟩:=rR e;let⟨s1,r1⟩:=hH k oC (if hi<=free+lN s then free+lN s else hi) vs _ _ P P1 ho.1 hw.1 hv oM oM (by split<;>omega) hG e1;let⟨s2,r2⟩:=ih ns P1 Q (uM hq) (λc hc=>hH c (by simp[hc])) ho.2 hw.2 (FF hv s1.p_) s1.inv e;refine⟨s1.trans s2,λz hz=>?_⟩;rcases aM.1 hz with c|c
    .subst c;have:=s2.p_;omega
    .exact r2 z c
 unfold BD at e;rw[hs']at e hs;let⟨Q,e1,e⟩:=rR e;let⟨s1,r1⟩:=key x.b_ x.a_ P Q hl.symm H ho hw hv hG e1;have hr:=s1.p_;have hfl:free+lN s<=Q.p_\/lN s=0:=by
  by_cases c:lN s=0
  .exact .inr c
  .refine .inl ?_;have hj:lN s-1<lN s:=oM;have hm:s[lN s-1]∈x.a_:=by
    rw[<-UU,hs'];exact aO hj
   have:=r1 _ hm;rw[zJD hs hj]at this;omega
 unfold Gp at e;rw[hs']at e;let⟨x1,x2,x3⟩:=zFp s1.inv hs;have s2:=jL.emit (all:=all) (b:=b) (hi:=if hi<=free+lN s then free+lN s else hi) e x1 x3 ⟨oC,λ_=>by simp only;omega,oC,oC,oC,oC,oC,oC,oC,λ_=>⟨qM,h2,s,uM x2,.inr (by simp only;split<;>omega)⟩,oC,oC,oC,oC⟩;have:=s2.p_;exact⟨(s1.trans s2).low (by split<;>omega),oM⟩
def zDN{vs:oW}(hs:BF all b x.d_ x.n x.ints x.a_ x.cos (lN x.b_))(h18:x.d_≠18)(h11:x.d_≠11)(h8:x.d_≠8)(h23:x.d_≠23)(h10:x.d_≠10)(hn:x.d_=4->0<=x.n/\x.n<lN vs)
  (hv:∀v,v∈vs->0<=v/\v<P.p_) (h1:0<=to) (ht:to<P.p_) (h2:0<=free) (hf:lN x.b_=2->free<P.p_) (hG:GI P.G) (e:jA x vs to free P=sS R):jL all b hi P R/\to<R.p_:=by
 suffices h:jL all b hi P R from⟨h,by have:=h.p_;omega⟩
 unfold jA at e;have hni:=zHK P.G x.n;have hsi:=zyQ P.G x.text;rcases hs with⟨k|k|k|k|k,q⟩|⟨k,q,m⟩|⟨k,q,m,m2⟩|⟨k|k|k|k,q⟩|⟨k,q,m,m2⟩|⟨k|k|k|k|k,q⟩|⟨k,q,m,m2⟩|⟨k,q⟩|⟨k,q,m⟩|⟨k,q,m,d,hd,hm⟩|⟨k,q,m⟩
 all_goals (first|exact absurd k h18|exact absurd k h11|exact absurd k h8|exact absurd k h23|exact absurd k h10|skip)
 all_goals (simp only[k,reduceIte,Int.reduceEq]at e)
 .exact jL.emit e hni.1 (hni.2.2 hG) ⟨oC,λ_=>by simp only;omega,oC,oC,λ_=>by simp only;have:=hni.2.1;omega,oC,oC,oC,oC,oC,oC,oC,oC,oC⟩
 .exact jL.emit e hsi.1 (hsi.2.2 hG) ⟨oC,λ_=>by simp only;omega,oC,oC,oC,λ_=>by simp only;have:=hsi.2.1;omega,oC,oC,oC,oC,oC,oC,oC,oC⟩
 .exact jL.emit0 e hG ⟨oC,λ_=>by simp only;omega,oC,oC,oC,oC,oC,oC,oC,oC,oC,oC,oC,oC⟩
 .have hg:=zDL hv (hn k).1 (hn k).2;exact jL.emit0 e hG ⟨oC,λ_=>by simp only;omega,λ_=>by simp only;omega,oC,oC,oC,oC,oC,oC,oC,oC,oC,oC,oC⟩
 .exact jL.emit0 e hG ⟨oC,λ_=>by simp only;omega,oC,oC,oC,oC,oC,oC,oC,oC,oC,oC,oC,oC⟩
 .exact jL.emit0 e hG ⟨oC,λ_=>by simp only;omega,oC,oC,oC,oC,λ_=>by simp only;omega,oC,oC,oC,oC,oC,oC,oC⟩
 .exact jL.emit0 e hG ⟨oC,λ_=>by simp only;omega,oC,oC,oC,oC,oC,λ_=>⟨m,m2⟩,oC,oC,oC,oC,oC,oC⟩
 .exact jL.emit e hsi.1 (hsi.2.2 hG) ⟨oC,λ_=>by simp only;omega,λ_=>by simp only;omega,oC,oC,oC,oC,oC,oC,oC,λ_=>by simp only;have:=hsi.2.1;omega,oC,oC,oC⟩
 .exact jL.emit0 e hG ⟨oC,λ_=>by simp only;omega,λ_=>by simp only;omega,oC,oC,oC,oC,oC,oC,oC,oC,oC,oC,oC⟩
 .exact jL.emit0 e hG ⟨oC,λ_=>by simp only;omega,λ_=>by simp only;omega,oC,oC,oC,oC,oC,oC,oC,oC,oC,oC,oC⟩
 .exact jL.emit0 e hG ⟨oC,λ_=>by simp only;omega,λ_=>by simp only;omega,oC,oC,oC,oC,oC,oC,oC,oC,oC,oC,oC⟩
 .exact jL.emit0 e hG ⟨oC,λ_=>by simp only;omega,λ_=>by simp only;omega,oC,oC,oC,oC,oC,oC,oC,oC,oC,λ_=>⟨m,m2⟩,oC⟩
 .have:=hf q;exact jL.emit0 e hG ⟨oC,λ_=>by simp only;omega,λ_=>by simp only;omega,λ_=>by simp only;omega,oC,oC,oC,oC,oC,oC,oC,oC,oC,oC⟩
 .have:=hf q;exact jL.emit0 e hG ⟨oC,λ_=>by simp only;omega,λ_=>by simp only;omega,λ_=>by simp only;omega,oC,oC,oC,oC,oC,oC,oC,oC,oC,oC⟩
 .have:=hf q;exact jL.emit0 e hG ⟨oC,λ_=>by simp only;omega,λ_=>by simp only;omega,λ_=>by simp only;omega,oC,oC,oC,oC,oC,oC,oC,oC,oC,oC⟩
 .have:=hf q;exact jL.emit0 e hG ⟨qM,λ_=>by simp only;omega,λ_=>by simp only;omega,λ_=>by simp only;omega,λh=>by simp only at h;omega,λh=>by simp only at h;omega,λh=>by simp only at h;omega,λh=>by simp only at h;omega,λh=>by simp only at h;omega,λh=>by simp only at h;omega,λh=>by simp only at h;omega,λh=>by simp only at h;omega,λh=>by simp only at h;omega,λh=>by simp only at h;omega⟩
 .rw[hd]at e;let⟨c1,c2⟩:=zJF P.G hm;exact jL.emit e c1 (c2 hG) ⟨oC,λ_=>by simp only;omega,λ_=>by simp only;omega,oC,oC,oC,oC,oC,oC,oC,oC,λ_=>⟨m,by simp;omega⟩,oC,oC⟩
def zBC(V:VF)(x:n_)(H:∀k,k∈x.b_->zJ all b V k):zJ all b (wG V) x:=by
 intro hi vs to free P R ho w hv h1 h2 h3 hG e;rw[okF_eq]at ho;rw[OB]at w;unfold wG at e;let⟨P0,e0,e⟩:=rR e;let⟨s0,r0⟩:=jL.use (all:=all) (b:=b) (hi:=hi) e0 hG;have hv0:=FF hv s0.p_
 suffices h:jL all b hi P0 R/\to<R.p_ from⟨s0.trans h.1,h.2⟩
 by_cases k18:x.d_=18
 .rw[aC k18]at e w
  match hk:x.b_,w with
  |[k0,k1],w=>
   rw[Gg]at w;have ho2:=ho.2;rw[hk,jb,jb]at ho2;exact zGj hk (H k0 (by rw[hk];simp)) (H k1 (by rw[hk];simp)) ho2.1 ho2.2.1 w.1 w.2 hv0 h1 h2 h3 s0.inv e
 rw[aB k18]at e w;by_cases k11:x.d_=11
 .rw[aC k11]at e w
  match hk:x.b_,w with
  |[k0,k1,k2],w=>
   rw[Gh]at w;have ho2:=ho.2;rw[hk,jb,jb,jb]at ho2;exact zzd hk (H k0 (by rw[hk];simp)) (H k1 (by rw[hk];simp)) (H k2 (by rw[hk];simp)) ho2.1 ho2.2.1 ho2.2.2.1 w.1 w.2.1 w.2.2 hv0 h1 h2 h3 s0.inv e
 rw[aB k11]at e w;by_cases k8:x.d_=8
 .rw[aC k8]at e w;have hs:lN x.a_=lN x.b_/\x.a_.Nodup:=by
   have:=ho.1;unfold BF at this;rw[k8]at this;simpa using this
  exact zze H ho.2 hs.1 hs.2 w.2 hv0 h1 r0 h2 h3 s0.inv e
 rw[aB k8]at e w;by_cases k23:x.d_=23
 .rw[aC k23]at e w;have hs:0<=x.n/\∃f,all[x.n.toNat]?=sS f/\f.k_=lN x.ints:=by
   have:=ho.1;unfold BF at this;rw[k23]at this;simp at this;exact this.2
  exact zDM hs.2 hs.1 w hv0 h1 r0 h2 h3 s0.inv e
 rw[aB k23]at e w;by_cases k10:x.d_=10
 .rw[aC k10]at e w
  match hk:x.b_,w with
  |[k0,k1],w=>
   rw[Gi]at w;have ho2:=ho.2;rw[hk,jb,jb]at ho2;exact zGk hk (H k0 (by rw[hk];simp)) (H k1 (by rw[hk];simp)) ho2.1 ho2.2.1 w.1 w.2 hv0 h1 h2 h3 s0.inv e
 rw[aB k10]at e w;let⟨z1,z2,z3,z4⟩:=w;let⟨Q,e1,e⟩:=rR e;have ho2:=ho.2
 suffices h:jL all b hi P0 Q/\(lN x.b_=2->free<Q.p_) by
  have hr:=h.1.p_;have:=zDN (hi:=hi) ho.1 k18 k11 k8 k23 k10 z3 (FF hv0 hr) h1 oM h2 h.2 h.1.inv e;exact⟨h.1.trans this.1,this.2⟩
 match hk:x.b_,z1 with
 |[],_=>
  rw[hk]at e1;cases e1;exact⟨jL.refl s0.inv,λq=>by simp at q⟩
 |[k0],_=>
  rw[hk,jb]at ho2;rw[hk,iZ]at z2;rw[hk]at e1;unfold lh at e1;let⟨Q1,e1,e2⟩:=rR e1;cases e2;simp only[reduceIte,Int.natCast_zero,Int.add_zero]at e1;exact⟨(H k0 (by rw[hk];simp) hi vs to free P0 Q ho2.1 z2.1 hv0 h1 h2 h3 s0.inv (uM e1)).1,λq=>by simp at q⟩
 |[k0,k1],_=>
  rw[hk,jb,jb]at ho2;rw[hk,iZ,iZ]at z2;rw[hk]at e1;unfold lh at e1;let⟨Q1,e1,e2⟩:=rR e1;unfold lh at e2;let⟨Q2,e2,e3⟩:=rR e2;cases e3;let⟨s1,r1⟩:=H k0 (by rw[hk];simp) hi vs to free P0 Q1 ho2.1 z2.1 hv0 h1 h2 h3 s0.inv (uM e1);let⟨s2,r2⟩:=H k1 (by rw[hk];simp) (if hi<=free+1 then free+1 else hi) vs free (free+1) Q1 Q ho2.2.1 z2.2.1 (FF hv0 s1.p_) h2 oM (by split<;>omega) s1.inv (uM e2);exact⟨s1.trans (s2.low (by split<;>omega)),λ_=>r2⟩
 |_::_::_::_,z1=>exact absurd z1 oC
def zuJ:∀(n:Nat) (c:n_),Q_ c<=n->zJ all b (qx n) c
|0,c,h=>by rw[lc]at h;omega
|n+1,c,h=>zBC (qx n) c λk hk=>zuJ n k (by have:=Br hk;rw[lc]at h;omega)
end
mutual
def FH:n_->Prop
|.mk k _ _ is ns _ _ ks=>(k=23->lN is<=20)/\(k=8->lN ns=lN ks)/\lT ks
def lT:List n_->Prop
|[]=>True
|c::l=>FH c/\lT l
end
def zJW(c:n_):FH c=((c.d_=23->lN c.ints<=20)/\(c.d_=8->lN c.a_=lN c.b_)/\lT c.b_):=by cases c;rw[FH];try rfl
def zwF:∀{l:List n_} {c:n_},lT l->c∈l->FH c
|x::l,c,h,hc=>by
 rw[lT]at h;rcases aM.1 hc with rfl|q
 .exact h.1
 .exact zwF h.2 q
structure Fin (P R:o?) (s:Nat):Prop where
 p_:R.p_<=256
 len:lN R.code<=lN P.code+22*s
def U8{r:Int}(h:P.p_<=256)(hr:r<256):∃R,mZ P r=sS R/\R.p_<=256/\R.code=P.code:=by
 have h':¬256<(mY P r).p_:=by
  simp only[mY,zA5];split<;>omega
 refine⟨mY P r,by unfold mZ;rw[aB h'],oM,rfl⟩
def FI(x:Ins)(h:lN P.code<65536):∃R,iY P x=sS R/\R.p_=P.p_/\lN R.code=lN P.code+1:=
⟨Io P x,by unfold iY;rw[aB oM],rfl,by simp[Io]⟩
def Gq(V:VF)(c:n_):Prop:=∀(vs:oW) (to free:Int) (P:o?),FH c->nK c (lN vs)->P.p_<=256->to<256->0<=free->free+Q_ c+20<=257->lN P.code+22*Q_ c<=65536->∃R,V c vs to free P=sS R/\Fin P R (Q_ c)
def zF6(x:n_)(vs:oW)(to free:Int)(P:o?)(h:lN P.code<65536)(hr:P.p_<=256):∃R,jA x vs to free P=sS R/\R.p_<=256/\lN R.code<=lN P.code+1:=by
 have key:∀(Q:o?) (i:Ins),Q.code=P.code->Q.p_=P.p_->∃R,iY Q i=sS R/\R.p_<=256/\lN R.code<=lN P.code+1:=λQ i e1 e2=>by
  let⟨R,a,b,c⟩:=FI (P:=Q) i (by rw[e1];exact h);exact⟨R,a,by rw[b,e2];exact hr,by rw[c,e1];exact aJ _⟩
 have ite:∀(p:Prop) [Decidable p] (A B:Option o?),(∃R,A=sS R/\R.p_<=256/\lN R.code<=lN P.code+1)->(∃R,B=sS R/\R.p_<=256/\lN R.code<=lN P.code+1)->∃R,(if p then A else B)=sS R/\R.p_<=256/\lN R.code<=lN P.code+1:=λp _ A B h1 h2=>by split<;>assumption
 unfold jA;repeat (refine ite _ _ _ (key _ _ rfl rfl) ?_)
 exact⟨P,rfl,hr,oM⟩
def zDG(V:VF)(x:n_)(H:∀k,k∈x.b_->Gq V k):Gq (wG V) x:=by
 intro vs to free P hs w hr hto hf0 hf hc;rw[zJW]at hs;rw[OB]at w;have ez:=lc x;unfold wG;let⟨P0,e0,r0,c0⟩:=U8 hr hto;rw[e0];simp only[Option.bind_some];rw[<-c0]at hc
 suffices h:∃R,(if x.d_=18 then x8 V x vs to free P0
  else if x.d_=11 then Cx V x vs to free P0
  else if x.d_=8 then BD V x vs to free P0
  else if x.d_=23 then Bw x vs to free P0
  else if x.d_=10 then x9 V x vs to free P0
  else(lh V vs to free x.b_ 0 P0).bind λP1=>jA x vs to free P1)=sS R/\R.p_<=256/\lN R.code<=P0.code.length+22*Q_ x by
  let⟨R,a,b,c⟩:=h;exact⟨R,a,b,by rw[<-c0];exact c⟩
 by_cases k18:x.d_=18
 .rw[aC k18]at w⊢
  match hk:x.b_,w with
  |[k0,k1],w=>
   rw[Gg]at w;have hs2:=hs.2.2;rw[hk,lT,lT]at hs2;rw[hk,B_,B_,B_]at ez;unfold x8;rw[hk];simp only[dE,dI];let⟨R0,a0,b0⟩:=H k0 (by rw[hk];simp) vs free (free+1) P0 hs2.1 w.1 r0 oM oM oM oM;have:=b0.len;let⟨R1,a1,b1⟩:=H k1 (by rw[hk];simp) (vs++[free]) to (free+1) R0 hs2.2.1 (uM w.2) b0.p_ oM oM oM oM;have:=b1.len;exact⟨R1,by rw[a0];exact a1,b1.p_,oM⟩
 rw[aB k18]at w⊢;by_cases k11:x.d_=11
 .rw[aC k11]at w⊢
  match hk:x.b_,w with
  |[k0,k1,k2],w=>
   rw[Gh]at w;have hs2:=hs.2.2;rw[hk,lT,lT,lT]at hs2;rw[hk,B_,B_,B_,B_]at ez;unfold Cx;rw[hk];simp only[dE,dI];let⟨R0,a0,b0⟩:=H k0 (by rw[hk];simp) vs to free P0 hs2.1 w.1 r0 oM oM oM oM;have:=b0.len;let⟨P1,a1,b1,c1⟩:=FI (P:=R0) ⟨25,to,0,0⟩ oM;let⟨R2,a2,b2⟩:=H k1 (by rw[hk];simp) vs to free P1 hs2.2.1 w.2.1 (by rw[b1];exact b0.p_) oM oM oM oM;have:=b2.len;let⟨P3,a3,b3,c3⟩:=FI (P:=R2) ⟨24,0,0,0⟩ oM;let⟨R4,a4,b4⟩:=H k2 (by rw[hk];simp) vs to free (kN P3 R0.code.length) hs2.2.2.1 w.2.2 (by rw[EE,b3];exact b2.p_) oM oM oM (by rw[FE];omega);have:=b4.len;rw[FE]at this;refine⟨kN R4 R2.code.length,by rw[a0];simp only[Option.bind_some];rw[a1];simp only[Option.bind_some];rw[a2];simp only[Option.bind_some];rw[a3];simp only[Option.bind_some];rw[a4];rfl,by rw[EE];exact b4.p_,by rw[FE];omega⟩
 rw[aB k11]at w⊢;by_cases k8:x.d_=8
 .rw [aC k8]at w⊢;have _V:=hs.2.1 k8;have hle:∀y,qw (zaT x.a_) y<=lN x.b_:=λy=>by
   have:=U0 (zaT x.a_) y;rw[<-_V];simpa[zaT]using this
  have hsl:(zaT x.a_).length=lN x.b_:=by rw[<-_V];simp[zaT]
  have hlen:=Cv x.b_;have key:∀(ks:o8) (ns:oN) (P:o?),(∀k,k∈ks->k∈x.b_)->iZ ks (lN vs)->P.p_<=256->lN P.code+22*B_ ks<=65536->(∀k,k∈ks->Q_ k+lN x.b_<=Q_ x)->∃R,AR V vs free (zaT x.a_) ks ns P=sS R/\R.p_<=256/\lN R.code<=lN P.code+22*B_ ks:=by
   intro ks
   induction ks with
   |nil=>intro ns P _ _ hr _ _;exact⟨P,rfl,hr,oM⟩
   |cons k ks ih=>
    intro ns P hm hw hr hc hz;rw[iZ]at hw;rw[B_]at hc;have hzk:=hz k oC;have hb:=hle (ns.headD (bs []));let⟨R0,a0,b0⟩:=H k (hm k oC) vs (free+qw (zaT x.a_) (ns.headD (bs []))) (free+(zaT x.a_).length) P (zwF hs.2.2 (hm k oC)) hw.1 hr oM oM oM oM;have:=b0.len;let⟨R1,a1,b1,c1⟩:=ih ns.tail R0 (λc hc=>hm c (by simp[hc])) hw.2 b0.p_ oM (λc hc=>hz c (by simp[hc]));refine⟨R1,by unfold AR;rw[a0];exact a1,b1,by rw[B_];omega⟩
  have hz:∀k,k∈x.b_->Q_ k+lN x.b_<=Q_ x:=λk hk=>by
   have:∀(l:o8),k∈l->Q_ k+lN l<=1+B_ l:=λl=>by
    induction l with
    |nil=>intro h;cases h
    | cons c l ih=>
     intro h;rw[B_];have hlc:=Cv l;rcases aM.1 h with rfl|h
     .simp;omega
     .have:=ih h;have hcc:=lc c;simp;omega
   have:=this _ hk;omega
  let⟨R0,a0,b0,c0'⟩:=key x.b_ x.a_ P0 (λ_ h=>h) w.2 r0 oM hz;unfold BD;rw[a0];simp only[Option.bind_some,Gp];let⟨R1,a1,b1,c1⟩:=FI (P:={R0 with G:=(xY R0.G (zaT x.a_)).1}) ⟨18,to,(xY R0.G (zaT x.a_)).2,free⟩ qM;simp only at b1 c1;exact⟨R1,a1,oM,oM⟩
 rw[aB k8]at w⊢;by_cases k23:x.d_=23
 .rw[aC k23]at w⊢;have hi:=hs.1 k23;have key:∀(l:oW) (i:Nat) (P:o?),P.p_<=256->i+lN l<=20->lN P.code+lN l<=65536->∃R,nW vs free l i P=sS R/\R.p_<=256/\lN R.code<=lN P.code+lN l:=by
   intro l
   induction l with
   |nil=>intro i P hr _ _;exact⟨P,rfl,hr,oM⟩
   |cons v l ih=>
    intro i P hr hi hc;simp only[length_cons]at hi hc⊢;let⟨P1,e1,r1,c1⟩:=U8 (P:=P) (r:=free+i) hr oM;let⟨P2,e2,r2,c2⟩:=FI (P:=P1) ⟨15,free+i,vs.getD v.toNat 0,0⟩ (by rw[c1];omega);rw[c1]at c2;let⟨R,e3,r3,c3⟩:=ih (i+1) P2 oM oM oM;have e3':nW vs free l ((i:Int)+1) P2=sS R:=uM e3;refine⟨R,by unfold nW;rw[e1];simp only[Option.bind_some];rw[e2];exact e3',r3,oM⟩
  let⟨R0,a0,b0,c0'⟩:=key x.ints 0 P0 r0 oM oM;unfold Bw;have a0':nW vs free x.ints 0 P0=sS R0:=uM a0;rw[a0'];let⟨R1,a1,b1,c1⟩:=FI (P:=R0) ⟨17,to,x.n,free⟩ oM;exact⟨R1,a1,oM,oM⟩
 rw[aB k23]at w⊢;by_cases k10:x.d_=10
 .rw[aC k10]at w⊢
  match hk:x.b_,w with
  |[k0,k1],w=>
   rw[Gi]at w;have hs2:=hs.2.2;rw[hk,lT,lT]at hs2;rw[hk,B_,B_,B_]at ez;unfold x9;rw[hk];simp only[dE,dI];let⟨R0,a0,b0⟩:=H k0 (by rw[hk];simp) vs free (free+1) P0 hs2.1 w.1 r0 oM oM oM oM;have:=b0.len;let⟨R1,a1,b1⟩:=H k1 (by rw[hk];simp) vs to (free+1) R0 hs2.2.1 w.2 b0.p_ oM oM oM oM;have:=b1.len;let⟨R2,a2,b2,c2⟩:=FI (P:={R1 with G:=(iR R1.G x.text).1}) ⟨20,to,free,(iR R1.G x.text).2⟩ qM;simp only at b2 c2;have:=b1.p_;exact⟨R2,by rw[a0];simp only[Option.bind_some];rw[a1];exact a2,oM,oM⟩
 rw[aB k10]at w⊢;let⟨z1,z2,z3,z4⟩:=w
 suffices h:∃R,lh V vs to free x.b_ 0 P0=sS R/\R.p_<=256/\lN R.code+22<=P0.code.length+22*Q_ x by
  let⟨R0,a0,b0,c0'⟩:=h;let⟨R1,a1,b1,c1⟩:=zF6 x vs to free R0 oM b0;exact⟨R1,by rw[a0];exact a1,b1,oM⟩
 have hs2:=hs.2.2
 match hk:x.b_,z1 with
 |[],_=>exact⟨P0,rfl,r0,oM⟩
 |[k0],_=>
  rw[hk,iZ]at z2;rw[hk,lT]at hs2;rw[hk,B_,B_]at ez;let⟨R0,a0,b0⟩:=H k0 (by rw[hk];simp) vs to free P0 hs2.1 z2.1 r0 oM oM oM oM;have:=b0.len;exact⟨R0,by unfold lh;simp only[reduceIte,Int.natCast_zero,Int.add_zero];rw[a0];rfl,b0.p_,oM⟩
 |[k0,k1],_=>
  rw[hk,iZ,iZ]at z2;rw[hk,lT,lT]at hs2;rw[hk,B_,B_,B_]at ez;have q0:=lc k0;let⟨R0,a0,b0⟩:=H k0 (by rw[hk];simp) vs to free P0 hs2.1 z2.1 r0 oM oM oM oM;have:=b0.len;let⟨R1,a1,b1⟩:=H k1 (by rw[hk];simp) vs free (free+1) R0 hs2.2.1 z2.2.1 b0.p_ oM oM oM oM;have:=b1.len;refine⟨R1,?_,b1.p_,oM⟩;unfold lh;simp only[reduceIte,Int.natCast_zero,Int.add_zero];rw[a0];simp only[Option.bind_some];simp[lh];rw[a1];try rfl
 |_::_::_::_,z1=>exact absurd z1 oC
def zwG:∀(n:Nat) (c:n_),Q_ c<=n->Gq (qx n) c
|0,c,h=>by rw[lc]at h;omega
|n+1,c,h=>zDG (qx n) c λk hk=>zwG n k (by have:=Br hk;rw[lc]at h;omega)
variable {R:iT}
def ll:List B?->iT->Option iT
|[],G=>sS G
|f::l,G=>(uU (qx (Q_ f.body)) f G).bind (ll l)
def G0:iT:=⟨[],[],T0,[],[],[],[]⟩
def zFh:GI G0:=⟨⟨by simp[G0,T0],rfl,λk e hk h0=>by
 rcases k with _|k
 .omega
 .simp[G0,T0]at hk⟩,rfl,λj k h=>by simp[G0]at h,λns h=>by simp[G0]at h,λd h=>by simp[G0]at h⟩
section
variable {all:List B?} {b:Prop}
def ry.pr{hi:Int}{p_:Int}{len i:Nat}{x:Ins}(h:ry all b hi G p_ len i x)(q:List jv):ry all b hi {G with procs:=q} p_ len i x:=⟨h.op,h.a,h.rb,h.rc,h.k11,h.k12,h.k13,h.k16,h.k17,h.k18,h.kc,h.k21,h.k26,h.kj⟩
variable (all b)
structure rz (G:iT) (f:B?) (p:jv):Prop where
 k_:p.k_=f.k_
 p_:f.k_+1<p.p_
 top:p.p_<=256
 few:lN p.code<=65536
 code:∃xs,p.code=xs++[⟨23,f.k_+1,0,0⟩]/\mg (ry all b 0 G p.p_ (lN xs)) 0 xs
structure U9 (G R:iT) (f:B?):Prop where
 ext:Ext G {R with procs:=G.procs}
 inv:GI R
 prc:∃p,R.procs=G.procs++[p]/\rz all b R f p
variable {all b}
def Ua:∀{n:Nat} {i:Int} {P R:o?},wH n i P=sS R->R.G=P.G/\R.code=P.code/\P.p_<=R.p_/\(0<n->R.p_<=256/\i+n<=R.p_)
|0,i,P,R,e=>by cases e;exact⟨rfl,rfl,Int.le_refl _,λh=>absurd h oM⟩
| n+1,i,P,R,e=>by
 unfold wH at e;let⟨P1,e1,e2⟩:=rR e;let⟨a1,a2,a3,a4,a5⟩:=zA6 e1;let⟨b1,b2,b3,b4⟩:=Ua e2;refine⟨b1.trans a1,b2.trans a2,oM,λ_=>?_⟩;by_cases c:n=0
 .subst c;cases e2;exact⟨a5,by simp;omega⟩
 .let⟨c1,c2⟩:=b4 oM;exact⟨c1,by simp;omega⟩
def zAY:∀{n:Nat} {i v:Int},v∈wJ n i->i<=v/\v<i+n
|0,i,v,h=>by cases h
| n+1,i,v,h=>by
 rw[wJ]at h;rcases aM.1 h with rfl|h
 .constructor<;>simp<;>omega
 .have:=zAY h;simp at this⊢;omega
def zvu{f:B?}(ho:okF all b f.body)(hw:nK f.body (f.k_.toNat+1))(hc:0<=f.k_)(hG:GI G)(e:uU (qx (Q_ f.body)) f G=sS R):U9 all b G R f:=by
 unfold uU at e;let⟨P1,e1,e⟩:=rR e;let⟨P2,e2,e⟩:=rR e;let⟨P3,e3,e⟩:=rR e;cases e;let⟨a1,a2,a3,a4⟩:=Ua e1;let⟨a5,a6⟩:=a4 oM;simp only at a1 a2 a3;let⟨s,r⟩:=zuJ (all:=all) (b:=b) (Q_ f.body) f.body (aJ _) (f.k_+2) _ _ _ P1 P2 ho (uM hw) (λv hv=>by
  have:=zAY hv
  omega) oM oM (Int.le_refl _) (by rw[a1];exact hG) e2
 have s':=s.low (hi':=0) (.inr oM);let⟨g1,g2,g3,g4⟩:=OD e3;let⟨xs,c1,c2⟩:=s'.code;rw[a2]at c1 c2;simp only[nil_append,length_nil]at c1 c2;refine⟨?_,?_,⟨f.k_,P3.p_,P3.code⟩,by simp only;rw[g1,s.ext.procs,a1],rfl,by simp only;rw[g2];exact r,by simp only;rw[g2];exact s.top a5,by simp only;rw[g3];simp;omega,xs,by simp only;rw[g3,c1],?_⟩
 .have:=s.ext;rw[a1]at this;rw[g1];exact⟨this.ints,this.L?,this.cos,this.shp,rfl⟩
 .have:=s.inv;rw[g1];exact⟨this.tn,this.len,this.shp,this.rise,this.cos⟩
 .rw[g1,g2];rw[c1]at c2;exact c2.imp λi x h=>h.pr _
def rz.mono{f:B?}{p:jv}(h:rz all b G f p)(e:Ext G {R with procs:=G.procs}):rz all b R f p:=by
 let⟨xs,c1,c2⟩:=h.code;exact⟨h.k_,h.p_,h.top,h.few,xs,c1,c2.imp λi x q=>by
  have:=q.mono e (Int.le_refl _) (aJ _) (.inl (Int.le_refl _))
  exact this.pr R.procs⟩
def Ext.more{A B C:iT}(h:Ext A {B with procs:=A.procs})(k:Ext B {C with procs:=B.procs}):Ext A {C with procs:=A.procs}:=
⟨aX h.ints k.ints,aX h.L? k.L?,aX h.cos k.cos,λj ns q=>k.shp j ns (h.shp j ns q),rfl⟩
def nX(all:og)(b:Prop)(f:B?):Prop:=okF all b f.body/\nK f.body (f.k_.toNat+1)/\0<=f.k_
def zvv:∀{l:List B?} {G R:iT},(∀f,f∈l->nX all b f)->GI G->ll l G=sS R->Ext G {R with procs:=G.procs}/\GI R/\∃ps,R.procs=G.procs++ps/\lN ps=lN l/\∀(j:Nat) (f:B?) (p:jv),l[j]?=sS f->ps[j]?=sS p->rz all b R f p
|[],G,R,_,hG,e=>by
 cases e;exact⟨⟨aJ _,aJ _,aJ _,λ_ _ h=>h,rfl⟩,hG,[],oC,rfl,λj f p h=>by simp at h⟩
| f::l,G,R,H,hG,e=>by
 rw[ll]at e;let⟨G1,e1,e2⟩:=rR e;let⟨h1,h2,h3⟩:=H f oC;have s:=zvu h1 h2 h3 hG e1;let⟨x,i,ps,p1,p2,p3⟩:=zvv (λg hg=>H g (by simp[hg])) s.inv e2;let⟨p,q1,q2⟩:=s.prc;refine⟨s.ext.more x,i,p::ps,by rw[p1,q1];simp,by simp[p2],λj g r hg hr=>?_⟩;cases j with
 |zero=>
  simp only[getElem?_cons_zero,aU]at hg hr;subst hg;subst hr;exact q2.mono x
 |succ j=>exact p3 j g r (uM hg) (uM hr)
def zyz:∀(n:Nat) (i:Int) (P:o?),P.p_<=256->i+n<=256->∃R,wH n i P=sS R/\R.p_<=256/\R.code=P.code
|0,i,P,h,_=>⟨P,rfl,h,rfl⟩
|n+1,i,P,h,hi=>by
 let⟨P1,e1,r1,c1⟩:=U8 (P:=P) (r:=i) h (by simp at hi;omega);let⟨R,e2,r2,c2⟩:=zyz n (i+1) P1 r1 (by simp at hi;omega);exact⟨R,by unfold wH;rw[e1];exact e2,r2,c2.trans c1⟩
def zyA:∀{l:List B?} {G:iT},(∀f,f∈l->FH f.body/\nK f.body (f.k_.toNat+1)/\0<=f.k_/\f.k_<=20/\Q_ f.body<=200)->∃R,ll l G=sS R
|[],G,_=>⟨G,rfl⟩
|f::l,G,H=>by
 let⟨h1,h2,h3,h4,h5⟩:=H f oC;let⟨P1,e1,r1,c1⟩:=zyz (f.k_.toNat+1) 0 ⟨0,[],G⟩ oC oM;simp only at c1;let⟨P2,e2,b2⟩:=zwG (Q_ f.body) f.body (aJ _) (wJ (f.k_.toNat+1) 0) (f.k_+1) (f.k_+2) P1 h1 (uM h2) r1 oM oM oM (by rw[c1];simp;omega);have:=b2.len;rw[c1]at this;simp only[length_nil]at this;let⟨P3,e3,r3,c3⟩:=FI (P:=P2) ⟨23,f.k_+1,0,0⟩ oM;let⟨R,e4⟩:=zyA (l:=l) (G:={P3.G with procs:=P3.G.procs++[⟨f.k_,P3.p_,P3.code⟩]}) (λg hg=>H g (by simp[hg]));refine⟨R,?_⟩;rw[ll];unfold uU;rw[e1];simp only[Option.bind_some];rw[e2];simp only[Option.bind_some];rw[e3];exact e4
end
end Go.Gr
