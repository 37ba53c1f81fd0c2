/- Texts of ours, joined and written short by a program of ours. -/
import Derived.Test.YtnbgmeamdkggeaaGreatDoorJ14
import Derived.Test.YtnbgmeamdkggeaaGreatDoorJ06
set_option maxRecDepth 20000
set_option maxHeartbeats 4000000
set_option linter.unusedVariables false
set_option linter.unusedSectionVars false
set_option linter.unusedSimpArgs false
set_option linter.defProp false
set_option linter.unnecessarySimpa false
namespace Go.Gr
open Go.Abs Go.Proofs
def Zw:MC:=(λx(_:x=gC tt [(7,0)] [] [] (gB Tryz.f28))=>x) _ (by dsimp[Tryz.f28])
def zlA:WM Pg 28 8 Zw [.tmp 2]:=wM gD Tryz.func28 (by kernel_rfl)
def Zx:MC:=(λx(_:x=gC tt [(3,9),(11,13)] [(1,[0,0,0,4,0,16,60,127,255])] [] (gB Tryz.f56))=>x) _ (by dsimp[Tryz.f56])
def zow:WX Pg 56 14 Zx [.tmp 5]:=wX gD Tryz.func56 (by kernel_rfl)
def PE:List Nat:=[0,1,5]
def Zy:MC:=(λx(_:x=gC tt [(11,62)] [] [] (iL 0 (gB Tryz.f66)))=>x) _ (by dsimp[Tryz.f66])
def PG:List Nat:=[1,39,40,41]
def Zz:MC:=(λx(_:x=gC tt [(11,62)] [] [] (iL 2 (gB Tryz.f66)))=>x) _ (by dsimp[Tryz.f66])
def zmq:MC:=(λx(_:x=gC tt [(12,35)] [] [(0,Zy),(2,Zz)] (gB Tryz.f66))=>x) _ (by dsimp[Tryz.f66])
def zpN:WX Pg 66 53 zmq [.tmp 4]:=wX gD Tryz.func66 (by kernel_rfl)
def PI:MC:=(λx(_:x=gC tt [(11,64)] [(5,[0,0,2,6,14,0,32,96,224,510,1023,2047,4095])] [] (gB Tryz.f58))=>x) _ (by dsimp[Tryz.f58])
def znj:WX Pg 58 39 PI [.tmp 2]:=wX gD Tryz.func58 (by kernel_rfl)
def znk:MC:=(λx(_:x=gC tt [(3,45),(11,58)] [(11,[0,0,2,6,14,30,0,64,254,510,1022,2047,4095])] [] (gB Tryz.f29))=>x) _ (by dsimp[Tryz.f29])
def zqW:WX Pg 29 52 znk [.tmp 6]:=wX gD Tryz.func29 (by kernel_rfl)
def znL:MC:=(λx(_:x=gC tt [(11,59),(11,60),(11,27),(11,61),(11,62)] [(3,[0,1,0,4,15,31]),(5,[0,1,0,4,15,31,63]),(11,[0,1,3,7,0,16,48,112,0,256,768,1792,4095,0,16383,32767]),(14,[0,0,2,6,14,0,32,96,224,510,1023,2047,4095])] [] (gB Tryz.f30))=>x) _ (by dsimp[Tryz.f30])
def zsj:WX Pg 30 74 znL [.tmp 6]:=wX gD Tryz.func30 (by kernel_rfl)
def znM:MC:=(λx(_:x=gC tt [(11,64),(11,65),(11,66),(11,59),(11,67),(11,61),(11,68),(11,69)] [(8,[0,1,0,4,0,31,63])] [] (gB Tryz.f31))=>x) _ (by dsimp[Tryz.f31])
def zsk:WX Pg 31 53 znM [.tmp 8]:=wX gD Tryz.func31 (by kernel_rfl)
def PK:List Nat:=[0,2,4,8,73,74,75]
def zmr:MC:=(λx(_:x=gC tt [(11,13)] [(16,[0,0,2,0,14,30,0,0,0,448,1023])] [] (iL 1 (gB Tryz.f13)))=>x) _ (by dsimp[Tryz.f13])
def PL:List Nat:=[0,2,4,11,96,97,98]
def zms:MC:=(λx(_:x=gC tt [(11,13)] [] [] (iL 3 (gB Tryz.f13)))=>x) _ (by dsimp[Tryz.f13])
def znl:MC:=(λx(_:x=gC tt [(3,24),(11,13),(11,27),(3,64),(4,91),(11,29),(11,30),(11,31),(6,3)] [(10,[0,0,2,6,14,0,32,0,128,480,1023,2047]),(29,[0,0,0,4,12,31,63]),(30,[0,0,0,4,12,0,32,96,255,511])] [(1,zmr),(3,zms)] (gB Tryz.f13))=>x) _ (by dsimp[Tryz.f13])
def zqX:WX Pg 13 135 znl [.tmp 6]:=wX gD Tryz.func13 (by kernel_rfl)
def PM:List Nat:=[0,1,7,19,20,21]
def zmt:MC:=(λx(_:x=gC tt [(11,60)] [] [] (iL 0 (gB Tryz.f67)))=>x) _ (by dsimp[Tryz.f67])
def znm:MC:=(λx(_:x=gC tt [(3,18),(3,19),(4,34)] [] [(0,zmt)] (gB Tryz.f67))=>x) _ (by dsimp[Tryz.f67])
def zqY:WX Pg 67 38 znm [.tmp 6]:=wX gD Tryz.func67 (by kernel_rfl)
def PN:List Nat:=[7,8,38,39,40]
def zqx:MC:=(λx(_:x=gC tt [] [] [] (iL 1 (gB Tryz.f12)))=>x) _ (by dsimp[Tryz.f12])
def Cg:MC:=(λx(_:x=gC tt [(3,37),(3,38),(4,67),(6,1)] [] [(1,zqx)] (gB Tryz.f12))=>x) _ (by dsimp[Tryz.f12])
def EI:WT Pg 12 71 Cg [.tmp 2]:=wT gD Tryz.func12 (by kernel_rfl)
def PO:MC:=(λx(_:x=gC tt [] [] [] (gB Tryz.f22))=>x) _ (by dsimp[Tryz.f22])
def zqZ:WT Pg 22 12 PO [.tmp 2]:=wT gD Tryz.func22 (by kernel_rfl)
def zq0:MC:=(λx(_:x=gC tt [] [] [] (gB Tryz.f21))=>x) _ (by dsimp[Tryz.f21])
def zyE:WT Pg 21 5 zq0 [.tmp 2]:=wT gD Tryz.func21 (by kernel_rfl)
def EJ:List Nat:=[1,2,5,6,20,21,22]
def PP:MC:=(λx(_:x=gC tt [(11,64)] [(6,[0,1,3,7,0,16,63,127,255,255,511,2047])] [] (iL 0 (gB Tryz.f62)))=>x) _ (by dsimp[Tryz.f62])
def PQ:MC:=(λx(_:x=gC tt [(11,64)] [(10,[0,1,0,4,15,31,63]),(17,[0,1,3,7,0,16,48,112,240,0,512,2032,4095,8191,16383,32767]),(21,[0,1,3,7,0,16,48,112,240,0,512,2032,4095,8191,16383,32767])] [(0,PP)] (gB Tryz.f62))=>x) _ (by dsimp[Tryz.f62])
def zq1:WX Pg 62 100 PQ [.tmp 4]:=wX gD Tryz.func62 (by kernel_rfl)
def zCq(es:List D)(h1:∀e,e∈es->e.one=true)(hl:es.length<=1000000000):MCall Pg 28 [.c (.d (.sl false 1 (es.map λe=>[e])))] [] (.c (.msl 1 0 0 es.length)) [.arr 1 ((es.map λe=>[e]).map (·.map .d))]:=by
 refine zlA ⟨by simp,by simp,by simp,by simp,by simp,by simp[live],by simp[live]⟩ λts hts ok hb c hN hp=>?_;obtain rfl:=jY hts;unfold Zw;cases es with
 | nil=>
  simp;refine⟨eY [.t 2] ?_,eY [] ?_⟩
  ·simp;exact eH [0] []
  ·simp;exact eH [0] []
 |cons x l=>
  simp;refine⟨by simp at hl;omega,?_⟩;refine eY [] ?_;simp;exact eH [0] []
end Go.Gr
namespace Go.Gr
open Go.Abs Go.Proofs List
section
variable (X:jP) (G:kK) (ord:List di->List di) (t:Nat × Nat)
def o6(N:Nat):Prop:=∀(c:fw) (sc:List Val) (s:RS),sc.length+iQ c<=120006->jK c->kI 120006 s.ticks sc->used 120006 s+iQ c<=40000000->iG X G.funs ord N c sc s≠.bad->
 gP Pg 13 [.c (.ptr 0 0),.ag (c.enc.map .d),.c (.d (BF t sc))] (rC G t s) (sW (vC t) (iG X G.funs ord N c sc s)) (vH (rE G t) (iG X G.funs ord N c sc s))
end
section
variable {X:jP} {G:kK} {ord:List di->List di} {t:Nat × Nat} {N:Nat}
@[simp] theorem zH9(t:Nat × Nat)(sc:List Val):take sc.length (rM t sc)=rM t sc:=aH (by simp)
@[simp] theorem zHX(t:Nat × Nat)(sc:List Val):take sc.length (List.map (List.map AC.d) (rM t sc))=List.map (List.map AC.d) (rM t sc):=aH (by simp)
def o6.own(h:o6 X G ord t N)(c:fw)(sc:List Val)(s:RS)(h1:sc.length+iQ c<=120006)(h2:jK c)(h3:kI 120006 s.ticks sc)(h4:used 120006 s+iQ c<=40000000)(h5:iG X G.funs ord N c sc s≠.bad):
  gP Pg 13 [.c (.ptr 0 0),.ag (c.enc.map .d),.c (.msl 1 3 0 sc.length)] [ql G s 1,lA s,.pin t 0,Jk t sc] (sW (vC t) (iG X G.funs ord N c sc s)) (vH (rE G t) (iG X G.funs ord N c sc s)):=
 gP.fzLast (bs:=rB G t s) (h c sc s h1 h2 h3 h4 h5) (by simp) (by simp)
def o6.raw(h:o6 X G ord t N)(c:fw)(sc:List Val)(s:RS)(h1:sc.length+iQ c<=120006)(h2:jK c)(h3:kI 120006 s.ticks sc)(h4:used 120006 s+iQ c<=40000000)(h5:iG X G.funs ord N c sc s≠.bad):
 gP Pg 13 [.c (.d (lQ t)),.ag (c.enc.map .d),.c (.msl 1 3 0 sc.length)] [ql G s 1,lA s,.pin t 0,Jk t sc] (sW (vC t) (iG X G.funs ord N c sc s)) (vH (rE G t) (iG X G.funs ord N c sc s)):=
(gP.raw (k:=2) (b:=0) rfl).2 (h.own c sc s h1 h2 h3 h4 h5)
def Ch{ts:List (Nat × Nat)}{a b c:Blk}(q:ts.length=[a,b,c].length):∃a b c,ts=[a,b,c]:=by
 match ts,q with
 |[a,b,c],_=>exact⟨a,b,c,rfl⟩
def zzm(t:Nat × Nat)(sc:List Val)(hl:sc.length<=1000000000):MCall Pg 28 [.c (.d (BF t sc))] [] (.c (.msl 1 0 0 sc.length)) [Jk t sc]:=by
 have h:=zCq (sc.map (Val.enc t)) (λe he=>by obtain⟨v,_,rfl⟩:=bI.1 he;simp) (by simpa using hl);have e:(sc.map (Val.enc t)).map (λe=>[e])=rM t sc:=by rw[Gg,dK];try rfl
 rw[e]at h;simpa using h
def PR{T:Nat}{sc:List Val}{a:Val}(h:kI 120006 T sc)(ha:okV 120006 T a):kI 120006 T (sc++[a]):=(AL _).2 λx hx=>by
 rcases aU.1 hx with hx|hx
 ·exact(AL _).1 h x hx
 ·rw[aP.1 hx];exact ha
theorem zHe(hE:o6 X G ord t N)(b:fw)(sc:List Val)(a:Val)(s:RS)(h1:sc.length+1+iQ b<=120006)(h2:jK b)(h3:kI 120006 s.ticks sc)(ha:okV 120006 s.ticks a)(h4:used 120006 s+iQ b<=40000000)(h5:iG X G.funs ord N b (sc++[a]) s≠.bad):
  gP Pg 56 [vC t a,.c (.d (.rp [lQ t] 0)),.c (.d (.rp b.enc 0)),.c (.d (.rp [BF t sc] 0))] (rB G t s) (sW (vC t) (iG X G.funs ord N b (sc++[a]) s)) (vH (rA G t) (iG X G.funs ord N b (sc++[a]) s)):=by
 have hc:=hE.raw b (sc++[a]) s (by simp;omega) h2 (PR h3 ha) h4 h5;generalize iG X G.funs ord N b (sc++[a]) s=r at*
 refine zow ?_ λts hts ok hb c hN hp=>?_
 ·cases r with
  |bad=>exact absurd rfl h5
  |ok v s'=>exact⟨by simp,by simp,by simp,by simp,by simp,by simp[live],by simp[live]⟩
  |over w z s'=>exact⟨by simp,by simp,by simp,by simp,by simp,by simp[live],by simp[live]⟩
 obtain⟨t0,t1,t2,rfl⟩:=Ch hts;unfold Zx;have hr:(lQ t).one=true:=rfl;simp[hr];refine fO [] (zzm t sc (by omega)) ?_;simp;refine⟨by omega,?_⟩;refine Cf [0,1,2,7] hc h5 (by simp[PD]) (λv s' e=>⟨by simp,?_⟩) (λw z s' e=>⟨by simp,?_⟩)
 ·subst e;simp;refine⟨by rfl,?_⟩;exact eH [0,100,2,8] [3,4,5]
 ·subst e;simp;refine⟨by rfl,by rfl,?_⟩;simp;exact fK [0,100,2,8] [3,4,5] (by simp)
end
end Go.Gr
namespace Go.Gr
open Go.Abs Go.Proofs
section
variable {X:jP} {G:kK} {ord:List di->List di} {t:Nat × Nat} {N:Nat}
abbrev fnP(t:Nat × Nat)(b:fw)(sc:List Val):D:=.rp [.fn (.func 56) [.rp [lQ t] 0,.rp b.enc 0,.rp [BF t sc] 0],.sl true 5 []] 0
def zGE(hE:o6 X G ord t N)(b:fw)(sc:List Val)(a:Val)(s:RS)(h1:sc.length+1+iQ b<=120006)(h2:jK b)(h3:kI 120006 s.ticks sc)(ha:okV 120006 s.ticks a)(h4:used 120006 s+iQ b<=40000000)(h5:iG X G.funs ord N b (sc++[a]) s≠.bad):
  gP Pg 66 [.c (.d (fnP t b sc)),vC t a] (rB G t s) (sW (vC t) (iG X G.funs ord N b (sc++[a]) s)) (vH (rA G t) (iG X G.funs ord N b (sc++[a]) s)):=by
 have hc:=zHe hE b sc a s h1 h2 h3 ha h4 h5;generalize iG X G.funs ord N b (sc++[a]) s=r at*
 refine zpN ?_ λts hts ok hb c hN hp=>?_
 ·cases r with
  |bad=>exact absurd rfl h5
  |ok v s'=>exact⟨by simp,by simp,by simp,by simp,by simp,by simp[live],by simp[live]⟩
  |over w z s'=>exact⟨by simp,by simp,by simp,by simp,by simp,by simp[live],by simp[live]⟩
 obtain⟨t0,t1,t2,rfl⟩:=Ch hts;unfold zmq;simp;refine eQ gD hp PE [5] (λ_:Unit=>True) (λ_=>[.c (.d (.int .i64 (-1)))]) (λ_=>rB G t s++[.pin t0 0,.pin t1 1,.pin t2 2]) (λ_=>0) () [0,1,2,3,4,5] trivial (by simp[PE];decide) λ_ _=>?_;unfold Zy PE;simp;refine wh [0,1,2] hc h5 (by simp) (λv s' e=>⟨by simp,?_⟩) (λw z s' e=>⟨by simp,?_⟩)
 ·subst e;simp;refine eQ gD hp PG [] (λ_:Unit=>True) (λ_=>[]) (λ_=>rA G t s'++[.pin t0 0,.pin t1 1,.pin t2 2]) (λ_=>0) () [0,1,2,6,3,4,5] trivial (by simp[PG]) λ_ _=>?_;unfold Zz PG;simp;exact eH [0,100,2,3] [4,5,6]
 ·subst e;simp;exact fK [0,100,2,6] [3,4,5] (by simp)
end
abbrev Jl(t:Nat × Nat)(ns:List di)(vs:List Val):D:=.rp [.mp (ns.map .str) (mF t vs),.sl true 5 []] 0
def Gi(t:Nat × Nat)(x:di):∀(ns:List di) (vs:List Val) (i:Nat),ns.length=vs.length->(match lW ns vs x with
 |some w=>∃j,jS 1 (.str x) (pU (ns.map .str) (mF t vs)) i=some (some (j,vC t w))
 |none=>jS 1 (.str x) (pU (ns.map .str) (mF t vs)) i=some none)
|[],[],i,_=>rfl
| n::ns,v::vs,i,h=>by
 rw[lW];simp only[List.map_cons,mF,pU,jS,xO];by_cases q:n=x
 ·subst q;simp
 ·rw[aA q];have q':¬x=n:=λe=>q e.symm;simp only[q',decide_false];exact Gi t x ns vs (i+1) (by simpa using h)
section
variable {X:jP} {G:kK} {ord:List di->List di} {t:Nat × Nat} {N:Nat}
def zv1(ns:List di)(vs:List Val)(x:di)(w:Val)(hl:ns.length=vs.length)(hf:lW ns vs x=some w):gP Pg 60 [.c (.d (Jl t ns vs)),.c (.d (.str x))] [] (.ret (vC t w)) []:=by
 have hm:=Gi t x ns vs 0 hl;rw[hf]at hm;obtain⟨j,hm⟩:=hm;refine Zi ⟨by simp,by simp,by simp,by simp,by simp,by simp[live],by simp[live]⟩ λts hts ok hb c hN hp=>?_;obtain rfl:=jY hts;unfold Oy;simp[hm];refine eQ gD hp Ox [] (λ_:Unit=>True) (λ_=>[]) (λ_=>[]) (λ_=>0) () [] trivial (by simp[Ox]) λ_ _=>?_;unfold Zh Ox;simp;exact eH [] []
def zDE(ns:List di)(vs:List Val)(x:di)(hl:ns.length=vs.length)(hf:lW ns vs x=none):gP Pg 60 [.c (.d (Jl t ns vs)),.c (.d (.str x))] [] (.pan (rJ 5 0)) []:=by
 have hm:=Gi t x ns vs 0 hl;rw[hf]at hm;refine Zi ⟨by simp,by simp,by simp,by simp,by simp,by simp[live],by simp[live]⟩ λts hts ok hb c hN hp=>?_;obtain rfl:=jY hts;unfold Oy;simp[hm];refine fQ [] (BD 5 0) (by simp) (λv e=>by cases e) λpv e=>?_;cases e;simp;exact fK [] [] (by simp)
end
end Go.Gr
namespace Go.Gr
open Go.Abs Go.Proofs List
abbrev BG(t:Nat × Nat)(ns:List di)(vs:List Val):List (D × AV):=pU (ns.map .str) (mF t vs)
def PT(t:Nat × Nat):∀{ns:List di} {vs:List Val} {e:D × AV},e∈BG t ns vs->∃d:D,e.2=.c (.d d)/\d.one=true
|[],vs,e,h=>by cases vs<;>cases h
|n::ns,[],e,h=>by cases h
|n::ns,v::vs,e,h=>by
 simp only[BG,map_cons,mF,pU,aS]at h;rcases h with rfl|h
 ·exact⟨v.enc t,rfl,by simp⟩
 ·exact PT t h
@[simp] theorem zH4(t:Nat × Nat)(f:Nat->Nat)(ns:List di)(vs:List Val):(pU (ns.map .str) (mF t vs)).map (λe=>(e.1,AV.ren f e.2))=pU (ns.map .str) (mF t vs):=by
 refine(map_congr_left (g:=λe=>e) λe he=>?_).trans (map_id' _);obtain⟨d,h1,_⟩:=PT t (ns:=ns) (vs:=vs) he;obtain⟨k,v⟩:=e;simp only at h1;subst h1;simp
def Jm{t:Nat × Nat}{k:Nat}{ns:List di}{vs:List Val}(a:D)(b:AV)(h:(a,b)∈BG t ns vs):AV.lt k b=true:=by
 obtain⟨d,h1,_⟩:=PT t h;simp only at h1;subst h1;simp
def PU(t:Nat × Nat)(n:di)(v:Val):∀{ns:List di} {vs:List Val},ns.length=vs.length->BG t (ns++[n]) (vs++[v])=BG t ns vs++[(.str n,vC t v)]
|[],[],_=>rfl
|m::ns,w::vs,h=>by
 have:=PU t n v (ns:=ns) (vs:=vs) (by simpa using h);simp only[BG,cons_append,map_cons,mF,pU]at this⊢;rw[this]
theorem PV(t:Nat × Nat):∀{ns:List di} {vs:List Val},ns.length=vs.length->uM (pU (ns.map .str) (mF t vs))=some (ns.map .str,mF t vs)
|[],[],_=>rfl
|m::ns,w::vs,h=>by
 have:=PV t (ns:=ns) (vs:=vs) (by simpa using h);have hs:(D.str m).one=true:=rfl;simp only[map_cons,mF,pU,uM,hs,Val.enc_one,Bool.and_self,if_true,this,Option.map_some]
def zsl{x:di}:∀{ns:List di} {vs:List Val},x∉ns->lW ns vs x=none
|[],_,_=>by rw[lW];all_goals (intros;contradiction)
|n::ns,[],h=>by rw[lW];all_goals (intros;contradiction)
|n::ns,v::vs,h=>by
 simp only[aS,not_or]at h;rw[lW,aA (λe=>h.1 e.symm)];exact zsl h.2
def PW{x:di}:∀{ns:List di} {vs:List Val},ns.length=vs.length->x∈ns->∃w,lW ns vs x=some w
| n::ns,v::vs,hl,h=>by
 rw[lW];by_cases q:n=x
 ·exact⟨v,aB q⟩
 ·rw[aA q];exact PW (by simpa using hl) ((aS.1 h).resolve_left λe=>q e.symm)
def zws(t:Nat × Nat){x:di}{ns:List di}{vs:List Val}(hl:ns.length=vs.length)(h:x∉ns):jS 1 (.str x) (pU (ns.map .str) (mF t vs)) 0=some none:=by
 have:=Gi t x ns vs 0 hl;rw[zsl h]at this;exact this
section
variable {X:jP} {G:kK} {ord:List di->List di} {t:Nat × Nat} {N:Nat}
def wN(x:di)(l:List di):List di:=x::l.filter λn=>decide (n≠x)
def wV(x:di)(b:Val)(ns:List di)(vs:List Val)(l:List di):List Val:=b::(l.filter λn=>decide (n≠x)).map λn=>(lW ns vs n).getD .null
def PX(x:di)(b:Val)(ns:List di)(vs:List Val)(l:List di):(wN x l).length=(wV x b ns vs l).length:=by simp[wN,wV]
def zEx{x y:di}{l:List di}(h:y=x):wN x (l++[y])=wN x l:=by simp[wN,h]
def zEy{x y:di}{b:Val}{ns:List di}{vs:List Val}{l:List di}(h:y=x):wV x b ns vs (l++[y])=wV x b ns vs l:=by simp[wV,h]
def zEz{x y:di}{l:List di}(h:y≠x):wN x (l++[y])=wN x l++[y]:=by simp[wN,h]
def zEA{x y:di}{b w:Val}{ns:List di}{vs:List Val}{l:List di}(h:y≠x)(hw:lW ns vs y=some w):wV x b ns vs (l++[y])=wV x b ns vs l++[w]:=by simp[wV,h,hw]
def mp0(t:Nat × Nat)(x:di)(b:Val)(ns:List di)(vs:List Val):pU (List.map .str (wN x [])) (mF t (wV x b ns vs []))=[(.str x,vC t b)]:=by simp[wN,wV,mF,pU]
theorem zCI(ord:List di->List di)(x:di)(b:Val)(ns:List di)(vs:List Val):EE ord x b ns vs=.rcd (wN x (ord ns)) (wV x b ns vs (ord ns)):=rfl
theorem zFV(hX:ji X ord)(ns:List di)(vs:List Val)(x:di)(b:Val)(hn:ns.Nodup)(hl:ns.length=vs.length)(hb0:ns.length<=1000000000):gP Pg 67 [.c (.d (Jl t ns vs)),.c (.d (.str x)),vC t b] [] (.ret (vC t (EE ord x b ns vs))) []:=by
 obtain⟨o1,o2,o3⟩:=hX.ords ns hn;obtain⟨k1,k2⟩:=hX.keys t ns vs hn hl hb0;have hmp:(D.mp (ns.map .str) (mF t vs)).one=true:=rfl;refine zqY ⟨by simp,by simp,by simp,by simp,by simp,by simp[live],by simp[live]⟩ λts hts ok hb c hN hp=>?_;obtain rfl:=jY hts;unfold znm;simp;refine fO [] k1 ?_;simp;refine fO [1] k2 ?_;simp;refine eQ gD hp PM [21] (λi:Nat=>i<=(ord ns).length) (λi=>[.c (.d (.int .i64 i))]) (λi=>[.map (BG t (wN x ((ord ns).take i)) (wV x b ns vs ((ord ns).take i)))]) (λi=>(ord ns).length-i) 0 [0] (by simp) (by simp[PM,mp0]) λi hi=>?_;unfold zmt PM;simp;apply fM<;>intro q
 ·have hi':i<(ord ns).length:=by simpa using q
  have hm:(ord ns)[i]∈ns:=(o3 _).1 (ai hi');obtain⟨w,hw⟩:=PW hl hm;have htk:(ord ns).take (i+1)=(ord ns).take i++[(ord ns)[i]]:=by rw[take_add_one,aD hi'];try rfl
  simp[hi',encS];apply fM<;>intro q1
  ·have hne:(ord ns)[i]≠x:=by simpa using q1
   refine fQ [] (zv1 (t:=t) ns vs (ord ns)[i] w hl hw) (by simp) (λv e=>?_) (λpv e=>by cases e);cases e;have hno:(ord ns)[i]∉wN x ((ord ns).take i):=by
    intro z;rcases aS.1 z with z|z
    ·exact hne z
    ·have z:=(bP.1 z).1;have o4:((ord ns).take (i+1)).Nodup:=o1.sublist (take_sublist _ _);rw[htk,bz]at o4;exact o4.2.2 _ z _ (by simp) rfl
   have hf:=zws t (vs:=wV x b ns vs ((ord ns).take i)) (PX _ _ _ _ _) hno;simp[hf];refine dm (i+1) [0] hi' (by omega) ?_;rw[htk,zEz hne,zEA hne hw];simp[PU t _ _ (PX x b ns vs _)];exact⟨wI,Jm⟩
  ·have hne:(ord ns)[i]=x:=by simpa using q1
   refine dm (i+1) [0] hi' (by omega) ?_;rw[htk,zEx hne,zEy hne];simp;exact⟨wI,Jm⟩
 ·have hi':i=(ord ns).length:=by simp at q;omega
  subst hi';rw[dC];refine Ac.mkM [0] [] ?_;have h1:(D.mp (List.map D.str (wN x (ord ns))) (mF t (wV x b ns vs (ord ns)))).one=true:=rfl;simp[PV t (PX x b ns vs _),h1];rw[zCI];exact eO [] [] (by simp[Val.enc])
end
end Go.Gr
namespace Go.Gr
open Go.Abs Go.Proofs
def zF (t : Nat × Nat) (v : Val) : ∃ f : FuncId, (∀ (u : Value) (w : World), fe Pg (method (Pg.types.size + Made.depth) v.ty u "gradus/run.tag") w (f, u) w) /\ fu Pg f [AZ v.ag (v.cs t)] (.one (.int .i64 v.tag)) := by
 cases v with
 |null=>exact⟨300,λu w=>by unfold fe;kernel_rfl,zDT⟩
 |bool b=>exact⟨301,λu w=>by unfold fe;kernel_rfl,zCn b⟩
 |int n=>exact⟨302,λu w=>by unfold fe;kernel_rfl,zFu n⟩
 |str s=>exact⟨303,λu w=>by unfold fe;kernel_rfl,zFv s⟩
 |rcd ns vs=>exact⟨305,λu w=>by unfold fe;kernel_rfl,zFw _⟩
 |fn b sc=>exact⟨304,λu w=>by unfold fe;kernel_rfl,zGL _⟩
section
variable {X:jP} {G:kK} {ord:List di->List di} {t:Nat × Nat} {N:Nat}
def zDd(a b:Val)(h:a.tag≠b.tag):gP Pg 68 [vC t a,vC t b] [] (.ret (vC t (.bool false))) []:=by
 obtain⟨f,m1,p1⟩:=zF t a;obtain⟨g,m2,p2⟩:=zF t b;simp only[vC];rw[Val.enc_eq t a,Val.enc_eq t b];refine Jj ⟨by simp,by simp,by simp,by simp,by simp,by simp[live],by simp[live]⟩ λts hts ok hb c hN hp=>?_;obtain rfl:=jY hts;unfold Gc;simp;refine fV m1 p1 ?_;simp;refine fV m2 p2 ?_;simp[h];exact eO [] [] (by simp[Val.enc])
def zBz(a b:Val)(h:a.tag=b.tag)(h4:4<=a.tag):gP Pg 68 [vC t a,vC t b] [] (.pan (rJ 2 3)) []:=by
 obtain⟨f,m1,p1⟩:=zF t a;obtain⟨g,m2,p2⟩:=zF t b;simp only[vC];rw[Val.enc_eq t a,Val.enc_eq t b];refine Jj ⟨by simp,by simp,by simp,by simp,by simp,by simp[live],by simp[live]⟩ λts hts ok hb c hN hp=>?_;obtain rfl:=jY hts;unfold Gc;simp;refine fV m1 p1 ?_;simp;refine fV m2 p2 ?_;simp[h];refine fV m1 p1 ?_;simp[h4];refine fQ [] (BD 2 3) (by simp) (λv e=>by cases e) λpv e=>?_;cases e;simp;exact fK [] [] (by simp)
def zBA(u v:di):gP Pg 68 [vC t (.str u),vC t (.str v)] [] (.ret (vC t (.bool (decide (u=v))))) []:=by
 obtain⟨f,m1,p1⟩:=zF t (.str u);obtain⟨g,m2,p2⟩:=zF t (.str v);simp only[Val.ty,Val.ag,Val.cs,Val.tag]at m1 p1 m2 p2;simp only[vC,Val.enc];refine Jj ⟨by simp,by simp,by simp,by simp,by simp,by simp[live],by simp[live]⟩ λts hts ok hb c hN hp=>?_;obtain rfl:=jY hts;unfold Gc;simp;refine fV m1 p1 ?_;simp;refine fV m2 p2 ?_;simp;refine fV m1 p1 ?_;simp;refine fQ [] (EH v) (by simp) (λw e=>?_) (λpv e=>by cases e);cases e;simp;exact eH [] []
def PY(hX:ji X ord)(a b:Val)(h:a.tag=b.tag)(h4:a.tag<4)(hs:a.ty≠106)(oa:okV 120006 0 a)(ob:okV 120006 0 b):gP Pg 68 [vC t a,vC t b] [] (.ret (vC t (.bool (decide (X.told a=X.told b))))) []:=by
 obtain⟨f,m1,p1⟩:=zF t a;obtain⟨g,m2,p2⟩:=zF t b;have t1:=hX.told t 0 a (by omega) oa;have t2:=hX.told t 0 b (by omega) ob;simp only[vC];rw[Val.enc_eq t a]at t1⊢;rw[Val.enc_eq t b]at t2⊢;refine Jj ⟨by simp,by simp,by simp,by simp,by simp,by simp[live],by simp[live]⟩ λts hts ok hb c hN hp=>?_;obtain rfl:=jY hts;unfold Gc;simp;refine fV m1 p1 ?_;simp;refine fV m2 p2 ?_;simp[h];refine fV m1 p1 ?_;have h4':¬4<=a.tag:=by omega
 simp[h4',hs];refine fU t1 ?_;simp;refine fU t2 ?_;simp;exact eO [] [] (by simp[Val.enc])
def zEW(hX:ji X ord)(a b:Val)(s:RS):gP Pg 68 [vC t a,vC t b] [] (sW (vC t) (yE X a b s)) []:=by
 unfold yE;by_cases h:a.tag≠b.tag
 ·rw[aB h];exact zDd a b h
 have h:a.tag=b.tag:=by simpa using h
 rw[aA (λz=>z h)];by_cases h4:4<=a.tag
 ·rw[aB h4];exact zBz a b h h4
 rw[aA h4];cases a with
 |str u=>
  cases b with
  |str v=>exact zBA u v
  |_=>simp[Val.tag]at h
 |null=>exact PY hX .null b h (by omega) (by simp[Val.ty]) trivial (by cases b<;>first|trivial|simp[Val.tag]at h)
 |bool u=>exact PY hX (.bool u) b h (by omega) (by simp[Val.ty]) trivial (by cases b<;>first|trivial|simp[Val.tag]at h)
 |int u=>exact PY hX (.int u) b h (by omega) (by simp[Val.ty]) trivial (by cases b<;>first|trivial|simp[Val.tag]at h)
 |rcd ns vs=>simp[Val.tag]at h4
 |fn b sc=>simp[Val.tag]at h4
end
end Go.Gr
namespace Go.Gr
open Go.Abs Go.Proofs List
section
variable {X:jP} {G:kK} {ord:List di->List di} {t:Nat × Nat} {N:Nat}
theorem zBo(n:Int)(l:List Int):encI (n::l)=[.int .i64 n]::encI l:=rfl
def zvA(l:List di)(x:di):encS (l++[x])=encS l++[[.str x]]:=by simp[encS]
@[simp] theorem zH5(l:List di):take l.length (List.map (List.map AC.d) (encS l))=List.map (List.map AC.d) (encS l):=aH (by simp)
@[simp] theorem zH6(l:List Int):take l.length (encI l)=encI l:=aH (by simp[encI])
def Gj(X:jP)(s:RS):O Val:=match s.input with
|n::l=>.ok (.int n) {s with input:=l,lines:=s.lines++[Yr++X.show_ n]}
|[]=>.over 2 2 s
theorem zF6(hX:ji X ord)(s:RS)(hl:s.lines.length<=40000000):gP Pg 58 [.c (.ptr 0 0)] (rB G t s) (sW (vC t) (Gj X s)) (vH (rA G t) (Gj X s)):=by
 unfold Gj;cases hi:s.input with
 |nil=>
  simp only;refine znj ⟨by simp,by simp,by simp,by simp,by simp,by simp[live],by simp[live]⟩ λts hts ok hb c hN hp=>?_;obtain⟨t0,t1,t2,rfl⟩:=Ch hts;unfold PI;simp[hi,encI];refine fQ [] (BD 2 2) (by simp) (λv e=>by cases e) λpv e=>?_;cases e;simp;exact fK [0,100,2,1] [3,4,5] (by simp[hi,encI])
 |cons n l=>
  simp only;have hz:=hX.show_sz n;refine znj ⟨by simp,by simp,by simp,by simp,by simp,by simp[live],by simp[live]⟩ λts hts ok hb c hN hp=>?_;obtain⟨t0,t1,t2,rfl⟩:=Ch hts;unfold PI;have h0:¬((l.length:Int)+1=0):=by omega
  simp[hi,zBo,h0];refine fU (hX.show_ n) ?_;simp;have b5:(bs [114,101,97,100,32]).size=5:=rfl;refine⟨by(try rw[b5]);simp only[zao];omega,by omega,by rfl,?_⟩;exact eO [0,100,2,6] [3,4,5] (by simp[zvA,Val.enc])
def fu.ers{P:Program}{f:FuncId}{args args':List DV}{v:DV}(h:fu P f args' v)(e:DV.ers args=args'):fu P f args v:=by
 subst e;exact⟨h.1,λph w us hp hG hS r=>h.2 ph w us hp hG hS (ja.ers r)⟩
def fw.enc_ers(c:fw):c.enc.map D.er=c.enc:=by rw[c.enc_eq];try rfl
@[simp] theorem kJ.enc_len(f:kJ):f.enc.length=13:=by unfold kJ.enc;rw[fZ.enc_eq,fw.enc_eq];try rfl
@[simp] theorem kJ.cut_body(f:kJ):cut f.enc 5 8=f.body.enc:=by unfold kJ.enc;rw[fZ.enc_eq,fw.enc_eq];try rfl
theorem zBp(b:fw)(sc:List Val)(bs:List Blk)(h:bs[2]?=some (.pin t 0))(h1:(bs.all λb=>b.tag !=0)=true)(h2:(bs.all λb=>b.lv (live bs))=true):MCall Pg 26 [.c (.ptr 0 0),.ag (b.enc.map .d),.c (.d (BF t sc))] bs (vC t (.fn b sc)) bs:=by
 have k:(lQ t).one=true:=rfl;exact(MCall.raw (k:=2) (b:=0) h).1 (fu.m (Zm t b.enc (rM t sc)) (by simp[xP]) h1 h2)
theorem zAe(b:fw)(bs:List Blk)(h:bs[2]?=some (.pin t 0))(h1:(bs.all λb=>b.tag !=0)=true)(h2:(bs.all λb=>b.lv (live bs))=true):MCall Pg 26 [.c (.ptr 0 0),.ag (b.enc.map .d),.c (.d (.sl true 1 []))] bs (vC t (.fn b [])) bs:=by
 have k:(lQ t).one=true:=rfl;exact(MCall.raw (k:=2) (b:=0) h).1 (fu.m (fu.ers (args:=[.one (lQ t),.agg b.enc,.one (.sl true 1 [])]) (Zm t b.enc []) (by simp[DV.ers,DV.er,fw.enc_ers,lQ,D.er])) (by simp[xP]) h1 h2)
def zCZ{c:fw}(h:c.kind=20)(sc:List Val)(s:RS):oh X G.funs c sc s=Gj X s:=by
 unfold oh Gj;rw[h];simp only[show¬(20:Int)=0 by decide,show¬(20:Int)=1 by decide,show¬(20:Int)=2 by decide,show¬(20:Int)=4 by decide,show¬(20:Int)=6 by decide,if_false,if_true];cases s.input<;>rfl
set_option maxHeartbeats 8000000 in
def zF7(hX:ji X ord)(c:fw)(sc:List Val)(s:RS)(hl:s.lines.length<=40000000)(hn:(c.kind=4->0<=c.n)/\(c.kind=6->0<=c.n))(hr:oh X G.funs c sc s≠.bad):
  gP Pg 29 [.c (.ptr 0 0),.ag (c.enc.map .d),.c (.d (BF t sc))] (rB G t s) (sW (vC t) (oh X G.funs c sc s)) (vH (rA G t) (oh X G.funs c sc s)):=by
 obtain⟨r,hR⟩:∃r,oh X G.funs c sc s=r:=⟨_,rfl⟩
 rw[hR];have hR0:=hR;rw[hR]at hr;unfold oh at hR;refine zqW ?_ λts hts ok hb cx hN hp=>?_
 ·cases r with
  |bad=>exact absurd rfl hr
  |ok v s'=>exact⟨by simp,by simp,by simp,by simp,by simp,by simp[live],by simp[live]⟩
  |over w z s'=>exact⟨by simp,by simp,by simp,by simp,by simp,by simp[live],by simp[live]⟩
 obtain⟨t0,t1,t2,rfl⟩:=Ch hts;unfold znk;simp;apply fM<;>intro q
 ·have q:c.kind=0:=by simpa using q
  rw[aB q]at hR;subst hR;simp;exact eO [0,100,2,1] [3,4,5] (by simp[Val.enc])
 have q0:¬c.kind=0:=by simpa using q
 rw[aA q0]at hR;apply fM<;>intro q
 ·have q:c.kind=1:=by simpa using q
  rw[aB q]at hR;subst hR;simp;exact eO [0,100,2,1] [3,4,5] (by simp[Val.enc])
 have q1:¬c.kind=1:=by simpa using q
 rw[aA q1]at hR;apply fM<;>intro q
 ·have q:c.kind=2:=by simpa using q
  rw[aB q]at hR;subst hR;simp;exact eO [0,100,2,1] [3,4,5] (by simp[Val.enc])
 have q2:¬c.kind=2:=by simpa using q
 rw[aA q2]at hR;apply fM<;>intro q
 ·have q:c.kind=4:=by simpa using q
  rw[aB q]at hR;have h0:=hn.1 q;rw[Gg];cases e:sc[c.n.toNat]? with
  |none=>rw[e]at hR;exact absurd hR.symm hr
  |some v=>
   rw[e]at hR;subst hR;simp[e];refine⟨h0,?_⟩;exact eH [0,100,2,1] [3,4,5]
 have q4:¬c.kind=4:=by simpa using q
 rw[aA q4]at hR;apply fM<;>intro q
 ·have q:c.kind=6:=by simpa using q
  rw[aB q]at hR;have h0:=hn.2 q;cases e:G.funs[c.n.toNat]? with
  |none=>rw[e]at hR;exact absurd hR.symm hr
  |some f=>
   rw[e]at hR;subst hR;simp[e];refine⟨h0,?_⟩;refine fO [0,1,2] (zAe f.body (rB G t s) rfl (by simp) (by simp[live])) ?_;simp;refine⟨by rfl,?_⟩;exact eH [0,100,2,1] [3,4,5]
 have q6:¬c.kind=6:=by simpa using q
 rw[aA q6]at hR;apply fM<;>intro q
 ·have q:c.kind=20:=by simpa using q
  rw[zCZ q]at hR0;have h:=zF6 (G:=G) (t:=t) hX s hl;rw[hR0]at h;refine wh [0,1,2] h hr (by simp) (λv s' e=>⟨by simp,?_⟩) (λw z s' e=>⟨by simp,?_⟩)
  ·subst e;simp;exact eH [0,100,2,6] [3,4,5]
  ·subst e;simp;exact fK [0,100,2,6] [3,4,5] (by simp)
 have q20:¬c.kind=20:=by simpa using q
 rw[aA q20]at hR;subst hR;simp;exact eO [0,100,2,1] [3,4,5] (by simp[Val.enc])
end
end Go.Gr
namespace Go.Gr
open Go.Abs Go.Proofs
section
variable {X:jP} {G:kK} {ord:List di->List di} {t:Nat × Nat} {N:Nat}
def zE1(a b:Val)(h:a.ty≠106):gP Pg 69 [vC t a,vC t b] [] (.pan (rJ 5 0)) []:=by
 simp only[vC];rw[Val.enc_eq t a];refine Ji ⟨by simp,by simp,by simp,by simp,by simp,by simp[live],by simp[live]⟩ λts hts ok hb c hN hp=>?_;obtain rfl:=jY hts;unfold Gb;simp;refine fQ [] (Zq (t:=a.ty) (g:=a.ag) (cs:=a.cs t) h) (by simp) (λv e=>by cases e) λpv e=>?_;cases e;simp;exact fK [] [] (by simp)
def zE2(u:di)(b:Val)(h:b.ty≠106):gP Pg 69 [vC t (.str u),vC t b] [] (.pan (rJ 5 0)) []:=by
 simp only[vC];rw[Val.enc_eq t b];refine Ji ⟨by simp,by simp,by simp,by simp,by simp,by simp[live],by simp[live]⟩ λts hts ok hb c hN hp=>?_;obtain rfl:=jY hts;unfold Gb;simp;refine fQ [] (EH u) (by simp[Val.enc]) (λw e=>?_) (λpv e=>by cases e);cases e;simp;refine fQ [] (Zq (t:=b.ty) (g:=b.ag) (cs:=b.cs t) h) (by simp) (λv e=>by cases e) λpv e=>?_;cases e;simp;exact fK [] [] (by simp)
def zE3{T:Nat}(a b:Val)(oa:okV 120006 T a)(ob:okV 120006 T b)(s:RS):gP Pg 69 [vC t a,vC t b] [] (sW (vC t) (qJ a b s)) []:=by
 by_cases ha:a.ty=106
 ·cases a with
  | str u=>
   by_cases hb:b.ty=106
   ·cases b with
    |str v=>
     rw[okV]at oa ob;have h:=zHN u v (by omega);unfold qJ;by_cases q:4096<u.size+v.size
     ·simp only[aB q]at h⊢;exact h
     ·simp only[aA q]at h⊢;exact h
    |_=>exact absurd hb (by simp[Val.ty])
   ·have h:=zE2 (t:=t) u b hb;cases b with
    |str n=>exact absurd rfl hb
    |_=>exact h
  |_=>exact absurd ha (by simp[Val.ty])
 ·have h:=zE1 (t:=t) a b ha;cases a with
  |str n=>exact absurd rfl ha
  |_=>exact h
def zGf(v:Val)(h:v.tag<4):v.ty≠109/\v.ty≠108/\0<=v.tag:=by cases v<;>simp[Val.tag,Val.ty]at h⊢
def zE4(C:iJ)(v:Val)(h4:v.tag<4)(hn:C.needs=[])(hl:4<=C.tags.length)(s:RS):gP Pg 62 [.ag (C.enc.map .d),vC t v] [] (sW (vC t) (if C.tags.getD v.tag.toNat 0=0 then .ok v s else .over 1 (C.tags.getD v.tag.toNat 0) s)) []:=by
 obtain⟨f,m1,p1⟩:=zF t v;obtain⟨y1,y2,y3⟩:=zGf v h4;have hi:v.tag.toNat<C.tags.length:=by omega
 have eg:C.tags.getD v.tag.toNat 0=C.tags[v.tag.toNat]:=by simp[aF,hi]
 rw[eg];simp only[vC];rw[Val.enc_eq t v];by_cases q:C.tags[v.tag.toNat]=0
 ·rw[aB q];refine zq1 ⟨by simp,by simp,by simp,by simp,by simp,by simp[live],by simp[live]⟩ λts hts ok hb c hN hp=>?_;obtain rfl:=jY hts;unfold PQ;simp[y1,y2,hn,rV];refine eQ gD hp EJ [] (λ_:Unit=>True) (λ_=>[]) (λ_=>[]) (λ_=>0) () [] trivial (by simp[EJ]) λ_ _=>?_;unfold PP EJ;simp[y1,y2];refine fV m1 p1 ?_;simp[y1,y2,y3,hi,encI,q];refine⟨by rfl,?_⟩;exact eO [] [] (by simp[Val.enc_eq t v])
 ·rw[aA q];refine zq1 ⟨by simp,by simp,by simp,by simp,by simp,by simp[live],by simp[live]⟩ λts hts ok hb c hN hp=>?_;obtain rfl:=jY hts;unfold PQ;simp[y1,y2,hn,rV];refine eQ gD hp EJ [] (λ_:Unit=>True) (λ_=>[]) (λ_=>[]) (λ_=>0) () [] trivial (by simp[EJ]) λ_ _=>?_;unfold PP EJ;simp[y1,y2];refine fV m1 p1 ?_;simp[y1,y2,y3,hi,encI,q];refine⟨by rfl,?_⟩;refine fQ [] (BD 1 C.tags[v.tag.toNat]) (by simp) (λv e=>by cases e) λpv e=>?_;cases e;simp;exact fK [] [] (by simp)
end
section
variable {X:jP} {G:kK} {ord:List di->List di} {t:Nat × Nat} {N:Nat}
def zw6 (v : Val) {n : Nat} {K : AV -> List Nat -> List (Nat × Blk) -> Nat -> Prop} (k : K (.c (.d (.int .i64 v.tag))) [] [] n) : Ee Pg "gradus/run.tag" (vC t v) n K := by
 obtain⟨f,m,p⟩:=zF t v;simp only[vC];rw[Val.enc_eq];exact fV m p k
def zze{op:Int}{a b:Val}{s:RS}:(∀v s',o5 X op a b s=.ok v s'->s'=s)/\(∀w z s',o5 X op a b s=.over w z s'->s'=s):=by
 unfold o5 nZ;repeat' split
 all_goals exact⟨λv s' e=>(by cases e<;>rfl),λw z s' e=>(by cases e<;>rfl)⟩
set_option maxHeartbeats 8000000 in
theorem zG7(hX:ji X ord)(c:fw)(v:Val)(s:RS)(hl:s.lines.length<=40000000)(ht:s.ticks<=40000000)(ov:okV 120006 s.ticks v)(hn:c.kind=21->2<=c.types.length)(hr:lC X c v s≠.bad):
  gP Pg 30 [.c (.ptr 0 0),.ag (c.enc.map .d),vC t v] (rB G t s) (sW (vC t) (lC X c v s)) (vH (rA G t) (lC X c v s)):=by
 obtain⟨r,hR⟩:∃r,lC X c v s=r:=⟨_,rfl⟩
 rw[hR];rw[hR]at hr;unfold lC at hR;refine zsj ?_ λts hts ok hb cx hN hp=>?_
 ·cases r with
  |bad=>exact absurd rfl hr
  |ok v s'=>exact⟨by simp,by simp,by simp,by simp,by simp,by simp[live],by simp[live]⟩
  |over w z s'=>exact⟨by simp,by simp,by simp,by simp,by simp,by simp[live],by simp[live]⟩
 obtain⟨t0,t1,t2,rfl⟩:=Ch hts;unfold znL;simp;apply fM<;>intro q
 ·have q:c.kind=9:=by simpa using q
  rw[aB q]at hR;by_cases hv:v.ty=109
  ·cases v with
   | rcd ns vs=>
    rw[okV]at ov;cases e:lW ns vs c.text with
    |none=>
     simp only[e]at hR;subst hR;refine fT [] (Oz [.mp (ns.map .str) (mF t vs),.sl true 5 []]) (by simp[Val.enc]) (λw e=>?_) (λpv e=>by cases e);cases e;simp;refine fT [] (zDE (t:=t) ns vs c.text ov.2.1 e) (by simp) (λv e=>by cases e) λpv e=>?_;cases e;simp[nZ];refine⟨by rfl,by rfl,?_⟩;simp;exact fK [0,100,2,1] [3,4,5] (by simp)
    |some w=>
     simp only[e]at hR;subst hR;refine fT [] (Oz [.mp (ns.map .str) (mF t vs),.sl true 5 []]) (by simp[Val.enc]) (λw e=>?_) (λpv e=>by cases e);cases e;simp;refine fT [] (zv1 (t:=t) ns vs c.text w ov.2.1 e) (by simp) (λv e=>?_) (λpv e=>by cases e);cases e;simp;refine⟨by rfl,?_⟩;exact eH [0,100,2,1] [3,4,5]
   |_=>exact absurd hv (by simp[Val.ty])
  ·have hR:nZ s=r:=by
    rw[<-hR];cases v with
    |rcd ns vs=>exact absurd rfl hv
    |_=>rfl
   subst hR;refine fT [] (Zr (t:=v.ty) (g:=v.ag) (cs:=v.cs t) hv) (by simp[Val.enc_eq t v]) (λv e=>by cases e) λpv e=>?_;cases e;have tb:Nat.testBit 4 1=false:=rfl;simp[nZ,tb];refine⟨by rfl,by rfl,?_⟩;simp;exact fK [0,100,2,1] [3,4,5] (by simp)
 have q9:¬c.kind=9:=by simpa using q
 rw[aA q9]at hR;apply fM<;>intro q
 ·have q:c.kind=12:=by simpa using q
  rw[aB q]at hR;subst hR;refine zw6 v ?_;simp;refine⟨by rfl,?_⟩;exact eO [0,100,2,1] [3,4,5] (by simp[Val.enc])
 have q12:¬c.kind=12:=by simpa using q
 rw[aA q12]at hR;apply fM<;>intro q
 ·have q:c.kind=16:=by simpa using q
  rw[aB q]at hR;by_cases hv:v.ty=103
  ·cases v with
   |bool b=>
    simp only at hR;subst hR;refine fQ [] (Zo b) (by simp[Val.enc]) (λw e=>?_) (λpv e=>by cases e);cases e;simp;exact eO [0,100,2,1] [3,4,5] (by simp[Val.enc])
   |_=>exact absurd hv (by simp[Val.ty])
  ·have hR:nZ s=r:=by
    rw[<-hR];cases v with
    |bool b=>exact absurd rfl hv
    |_=>rfl
   subst hR;refine fQ [] (Zp (t:=v.ty) (g:=v.ag) (cs:=v.cs t) hv) (by simp[Val.enc_eq t v]) (λv e=>by cases e) λpv e=>?_;cases e;simp[nZ];exact fK [0,100,2,1] [3,4,5] (by simp)
 have q16:¬c.kind=16:=by simpa using q
 rw[aA q16]at hR;apply fM<;>intro q
 ·have q:c.kind=17:=by simpa using q
  rw[aB q]at hR;have h:=Zt hX t 1 (.int 0) v s;have h':=zze (X:=X) (op:=1) (a:=.int 0) (b:=v) (s:=s);rw[hR]at h h';rw[<-Gh r]at h;refine wh [] h hr (by simp[Val.enc]) (λu s' e=>⟨by simp,?_⟩) (λw z s' e=>⟨by simp,?_⟩)
  ·obtain rfl:=h'.1 u s' e;subst e;simp;exact eH [0,100,2,1] [3,4,5]
  ·obtain rfl:=h'.2 w z s' e;subst e;simp;exact fK [0,100,2,1] [3,4,5] (by simp)
 have q17:¬c.kind=17:=by simpa using q
 rw[aA q17]at hR;apply fM<;>intro q
 ·have q:c.kind=21:=by simpa using q
  rw[aB q]at hR;have h2:=hn q;obtain⟨A,B,l,hT⟩:∃A B l,c.types=A::B::l:=by
   match c.types,h2 with
   |A::B::l,_=>exact⟨A,B,l,rfl⟩
  rw[hT]at hR;simp only[List.getD_cons_zero,List.getD_cons_succ]at hR;by_cases h4:4<=v.tag
  ·rw[aB h4]at hR;exact absurd hR.symm hr
  rw[aA h4]at hR;cases e:X.cst A B (IntKind.i64.wrap (IntKind.i64.wrap (2*c.n)+2))with
  |none=>rw[e]at hR;exact absurd hR.symm hr
  | some tl=>
   rw[e]at hR;simp only at hR;obtain⟨C,c1,c2,c3,c4⟩:=hX.cst A B (IntKind.i64.wrap (IntKind.i64.wrap (2*c.n)+2)) tl e;have ha:=zE4 (t:=t) C v (by omega) c3 (by rw[c2];exact c4) s;rw[c2,hR]at ha;rw[<-Gh r]at ha;have h':(∀u s',r=.ok u s'->s'=s)/\(∀w z s',r=.over w z s'->s'=s):=by
    rw[<-hR];split
    ·exact⟨λv s' e=>(by cases e;rfl),λw z s' e=>(by cases e)⟩
    ·exact⟨λv s' e=>(by cases e),λw z s' e=>(by cases e;rfl)⟩
   simp[hT];refine fU c1 ?_;simp;refine Cf [] ha hr (by simp) (λu s' e=>⟨by simp,?_⟩) (λw z s' e=>⟨by simp,?_⟩)
   ·obtain rfl:=h'.1 u s' e;subst e;simp;refine⟨by rfl,?_⟩;exact eH [0,100,2,1] [3,4,5]
   ·obtain rfl:=h'.2 w z s' e;subst e;simp;refine⟨by rfl,by rfl,?_⟩;simp;exact fK [0,100,2,1] [3,4,5] (by simp)
 have q21:¬c.kind=21:=by simpa using q
 rw[aA q21]at hR;apply fM<;>intro q
 ·have q:c.kind=22:=by simpa using q
  rw[aB q]at hR;exact absurd hR.symm hr
 have q22:¬c.kind=22:=by simpa using q
 rw[aA q22]at hR;have hz:=hX.told_sz s.ticks v ht ov;subst hR;refine fU (hX.told t s.ticks v ht ov) ?_;simp;have b6:(bs [112,114,105,110,116,32]).size=6:=rfl;refine⟨by(try rw[b6]);simp only[zao];omega,by omega,by rfl,?_⟩;exact eO [0,100,2,6] [3,4,5] (by simp[zvA,Val.enc])
end
section
variable {X:jP} {G:kK} {ord:List di->List di} {t:Nat × Nat} {N:Nat}
def zGe{a b:Val}{s:RS}:(∀v s',yE X a b s=.ok v s'->s'=s)/\(∀w z s',yE X a b s=.over w z s'->s'=s):=by
 unfold yE;repeat' split
 all_goals exact⟨λv s' e=>(by cases e<;>rfl),λw z s' e=>(by cases e<;>rfl)⟩
def zEZ{a b:Val}{s:RS}:(∀v s',qJ a b s=.ok v s'->s'=s)/\(∀w z s',qJ a b s=.over w z s'->s'=s):=by
 unfold qJ nZ;repeat' split
 all_goals exact⟨λv s' e=>(by cases e<;>rfl),λw z s' e=>(by cases e<;>rfl)⟩
def zBB{s:RS}(h:¬s.fuel<=0):used 120006 {s with fuel:=s.fuel-1}+120007=used 120006 s:=by
 unfold used;obtain⟨m,hm⟩:∃m:Nat,s.fuel=(m:Int)+1:=⟨(s.fuel-1).toNat,by omega⟩
 have e1:(s.fuel-1).toNat=m:=by omega
 have e2:s.fuel.toNat=m+1:=by omega
 simp only[e1,e2,Nat.succ_mul];omega
set_option maxHeartbeats 8000000 in
theorem zHc(hX:ji X ord)(hE:o6 X G ord t N)(c:fw)(a b:Val)(s:RS)(hu:used 120006 s<=40000000)(oa:okV 120006 s.ticks a)(ob:okV 120006 s.ticks b)(hr:lw X ord (iG X G.funs ord N) c a b s≠.bad):
  gP Pg 31 [.c (.ptr 0 0),.ag (c.enc.map .d),vC t a,vC t b] (rB G t s) (sW (vC t) (lw X ord (iG X G.funs ord N) c a b s)) (vH (rA G t) (lw X ord (iG X G.funs ord N) c a b s)):=by
 obtain⟨r,hR⟩:∃r,lw X ord (iG X G.funs ord N) c a b s=r:=⟨_,rfl⟩
 rw[hR];rw[hR]at hr;unfold lw at hR;refine zsk ?_ λts hts ok hb cx hN hp=>?_
 ·cases r with
  |bad=>exact absurd rfl hr
  |ok v s'=>exact⟨by simp,by simp,by simp,by simp,by simp,by simp[live],by simp[live]⟩
  |over w z s'=>exact⟨by simp,by simp,by simp,by simp,by simp,by simp[live],by simp[live]⟩
 obtain⟨t0,t1,t2,rfl⟩:=Ch hts;unfold znM;simp;apply fM<;>intro q
 ·have q:c.kind=7:=by simpa using q
  rw[aB q]at hR;apply fM<;>intro q1
  ·have q1:s.fuel<=0:=by simpa using q1
   rw[aB q1]at hR;subst hR;refine fQ [] (BD 3 0) (by simp) (λv e=>by cases e) λpv e=>?_;cases e;simp;exact fK [0,100,2,1] [3,4,5] (by simp)
  have q1:¬s.fuel<=0:=by simpa using q1
  rw[aA q1]at hR;have hu2:=zBB q1;have hf:s.fuel<=1000:=by
   unfold used at hu;have:=Nat.mul_le_mul_left s.fuel.toNat (show 120006<=120006+1 by omega);omega
  rw[wI];by_cases hv:a.ty=108
  ·cases a with
   | fn body sc=>
    simp only at hR;rw[okV]at oa;refine fQ [] (zvm [.fn (.func 56) [.rp [lQ t] 0,.rp body.enc 0,.rp [BF t sc] 0],.sl true 5 []]) (by simp[Val.enc,Gf]) (λw e=>?_) (λpv e=>by cases e);cases e;simp;have hc:=zGE hE body sc b {s with fuel:=s.fuel-1} oa.1 oa.2.1 oa.2.2 ob (by omega) (by rw[hR];exact hr);rw[hR]at hc;refine wh [0,1,2] hc hr (by simp) (λu s' e=>⟨by simp,?_⟩) (λw z s' e=>⟨by simp,?_⟩)
    ·subst e;simp;exact eH [0,100,2,6] [3,4,5]
    ·subst e;simp;exact fK [0,100,2,6] [3,4,5] (by simp)
   |_=>exact absurd hv (by simp[Val.ty])
  ·have hR:nZ {s with fuel:=s.fuel-1}=r:=by
    rw[<-hR];cases a with
    |fn body sc=>exact absurd rfl hv
    |_=>rfl
   subst hR;refine fQ [] (zwm (t:=a.ty) (g:=a.ag) (cs:=a.cs t) hv) (by simp[Val.enc_eq t a]) (λv e=>by cases e) λpv e=>?_;cases e;simp[nZ];exact fK [0,100,2,1] [3,4,5] (by simp)
 have q7:¬c.kind=7:=by simpa using q
 rw[aA q7]at hR;apply fM<;>intro q
 ·have q:c.kind=10:=by simpa using q
  rw[aB q]at hR;by_cases hv:a.ty=109
  ·cases a with
   |rcd ns vs=>
    simp only at hR;rw[okV]at oa;subst hR;have hT:s.ticks<=40000000:=by unfold used at hu;omega
    refine fT [] (Oz [.mp (ns.map .str) (mF t vs),.sl true 5 []]) (by simp[Val.enc]) (λw e=>?_) (λpv e=>by cases e);cases e;simp;refine fT [] (zFV (t:=t) hX ns vs c.text b oa.1 oa.2.1 (by omega)) (by simp) (λv e=>?_) (λpv e=>by cases e);cases e;simp;refine⟨by rfl,?_⟩;exact eH [0,100,2,1] [3,4,5]
   |_=>exact absurd hv (by simp[Val.ty])
  ·have hR:nZ s=r:=by
    rw[<-hR];cases a with
    |rcd ns vs=>exact absurd rfl hv
    |_=>rfl
   subst hR;refine fT [] (Zr (t:=a.ty) (g:=a.ag) (cs:=a.cs t) hv) (by simp[Val.enc_eq t a]) (λv e=>by cases e) λpv e=>?_;cases e;have tb:Nat.testBit 4 1=false:=rfl;simp[nZ,tb];refine⟨by rfl,by rfl,?_⟩;simp;exact fK [0,100,2,1] [3,4,5] (by simp)
 have q10:¬c.kind=10:=by simpa using q
 rw[aA q10]at hR;apply fM<;>intro q
 ·have q:c.kind=13:=by simpa using q
  rw[aB q]at hR;have h:=Zt hX t c.n a b s;have h':=zze (X:=X) (op:=c.n) (a:=a) (b:=b) (s:=s);rw[hR]at h h';rw[<-Gh r]at h;refine wh [] h hr (by simp) (λu s' e=>⟨by simp,?_⟩) (λw z s' e=>⟨by simp,?_⟩)
  ·obtain rfl:=h'.1 u s' e;subst e;simp;exact eH [0,100,2,1] [3,4,5]
  ·obtain rfl:=h'.2 w z s' e;subst e;simp;exact fK [0,100,2,1] [3,4,5] (by simp)
 have q13:¬c.kind=13:=by simpa using q
 rw[aA q13]at hR;apply fM<;>intro q
 ·have q:c.kind=14:=by simpa using q
  rw[aB q]at hR;have h:=zEW (t:=t) hX a b s;have h':=zGe (X:=X) (a:=a) (b:=b) (s:=s);rw[hR]at h h';rw[<-Gh r]at h;refine wh [] h hr (by simp) (λu s' e=>⟨by simp,?_⟩) (λw z s' e=>⟨by simp,?_⟩)
  ·obtain rfl:=h'.1 u s' e;subst e;simp;exact eH [0,100,2,1] [3,4,5]
  ·obtain rfl:=h'.2 w z s' e;subst e;simp;exact fK [0,100,2,1] [3,4,5] (by simp)
 have q14:¬c.kind=14:=by simpa using q
 rw[aA q14]at hR;have h:=zE3 (t:=t) a b oa ob s;have h':=zEZ (a:=a) (b:=b) (s:=s);rw[hR]at h h';rw[<-Gh r]at h;refine wh [] h hr (by simp) (λu s' e=>⟨by simp,?_⟩) (λw z s' e=>⟨by simp,?_⟩)
 ·obtain rfl:=h'.1 u s' e;subst e;simp;exact eH [0,100,2,1] [3,4,5]
 ·obtain rfl:=h'.2 w z s' e;subst e;simp;exact fK [0,100,2,1] [3,4,5] (by simp)
end
end Go.Gr
namespace Go.Gr
open Go.Abs Go.Proofs List
section
variable {X:jP} {G:kK} {ord:List di->List di} {t:Nat × Nat} {N:Nat}
def zFh{ts:List (Nat × Nat)}{a b c d:Blk}(q:ts.length=[a,b,c,d].length):∃a b c d,ts=[a,b,c,d]:=by
 match ts,q with
 |[a,b,c,d],_=>exact⟨a,b,c,d,rfl⟩
def zxM:∀{l:List fw} {k:fw},k∈l->iQ k<=gu l
|c::l,k,h=>by
 rw[gu];rcases aS.1 h with rfl|h
 ·omega
 ·have:=zxM h;omega
def AQ(X:jP)(G:kK)(ord:List di->List di)(N:Nat)(c:fw)(sc:List Val)(vs:List Val)(s:RS):O Val:=match vs with
|[]=>oh X G.funs c sc s
|[a]=>lC X c a s
|a::b::_=>lw X ord (iG X G.funs ord N) c a b s
structure BH (X:jP) (G:kK) (ord:List di->List di) (t:Nat × Nat) (N:Nat) (k:fw) (sc:List Val) (s:RS):Prop where
 call:iG X G.funs ord N k sc s≠.bad->gP Pg 13 [.c (.ptr 0 0),.ag (k.enc.map .d),.c (.d (BF t sc))] (rC G t s) (sW (vC t) (iG X G.funs ord N k sc s)) (vH (rE G t) (iG X G.funs ord N k sc s))
 small:Small 120006 (iQ k) s (iG X G.funs ord N k sc s)
def o6.kid(hX:ji X ord)(hG:∀f,f∈G.funs->1+iQ f.body<=120006/\jK f.body)(hE:o6 X G ord t N){k:fw}{sc:List Val}{s:RS}(h1:sc.length+iQ k<=120006)(h2:jK k)(h3:kI 120006 s.ticks sc)(h4:used 120006 s+iQ k<=40000000):BH X G ord t N k sc s:=
⟨λh5=>hE k sc s h1 h2 h3 h4 h5,AO hX.ords hG N k sc s h1 h2 h3⟩
def zxN:∀l:List fw,l.length<=gu l
|[]=>aK _
|a::l=>by rw[gu,length_cons];have:=J9 a;have:=zxN l;omega
def zxO{f:fw->RS->O Val}{l:List fw}{s:RS}{v:Val}{vs:List Val}{F:List Val->RS->O Val}:((mX f l s).bind λws s=>.ok (v::ws) s).bind (λws s'=>F (vs++ws) s')=(mX f l s).bind λws s'=>F ((vs++[v])++ws) s':=by
 cases mX f l s<;>simp[O.bind]
def zAI{l:List di}(h:l.Nodup){i:Nat}(hi:i<l.length):l[i]∉l.take i/\l.take (i+1)=l.take i++[l[i]]:=by
 have htk:l.take (i+1)=l.take i++[l[i]]:=by rw[take_add_one,aD hi];try rfl
 refine⟨λz=>?_,htk⟩;have o4:(l.take (i+1)).Nodup:=h.sublist (take_sublist _ _);rw[htk,bz]at o4;exact o4.2.2 _ z _ (by simp) rfl
set_option maxHeartbeats 8000000 in
theorem zB9(hX:ji X ord)(hG:∀f,f∈G.funs->1+iQ f.body<=120006/\jK f.body)(hE:o6 X G ord t N):o6 X G ord t (N+1):=by
 intro c sc s h1 h2 h3 h4 hr;have hk:BC c.kids:=by cases c;rw[jK]at h2;exact h2.2.2.2.2.2.2
 have k8:c.kind=8->c.names.length=c.kids.length/\c.names.Nodup:=by cases c;rw[jK]at h2;exact h2.2.2.1
 have k5:c.kind=5->c.kids.length=1:=by cases c;rw[jK]at h2;exact h2.2.2.2.1
 have k18:c.kind=18->c.kids.length=2:=by cases c;rw[jK]at h2;exact h2.2.2.2.2.1
 have k11:c.kind=11->c.kids.length=3:=by cases c;rw[jK]at h2;exact h2.2.2.2.2.2.1
 have kn:(c.kind=4->0<=c.n)/\(c.kind=6->0<=c.n)/\(c.kind=21->2<=c.types.length):=by cases c;rw[jK]at h2;exact h2.1.2
 have ec:=G5 c;have ekl:=zxN c.kids;have hK:∀k,k∈c.kids->∀s':RS,s.ticks<=s'.ticks->used 120006 s'+iQ k<=40000000->BH X G ord t N k sc s':=λk hkk s' hs' hu=>by
  have:=zxM hkk;exact o6.kid hX hG hE (by omega) ((Jg _).1 hk k hkk) (yH hs' _ h3) hu
 obtain⟨r,hR⟩:∃r,iG X G.funs ord (N+1) c sc s=r:=⟨_,rfl⟩
 rw[hR]at hr⊢;rw[yG]at hR;refine zqX ?_ λts hts ok hb cx hN hp=>?_
 ·cases r with
  |bad=>exact absurd rfl hr
  |ok v s'=>exact⟨by simp,by simp,by simp,by simp,by simp,by simp[live],by simp[live]⟩
  |over w z s'=>exact⟨by simp,by simp,by simp,by simp,by simp,by simp[live],by simp[live]⟩
 obtain⟨t0,t1,t2,t3,rfl⟩:=zFh hts;unfold znl;simp;apply fM<;>intro q
 ·have q:c.kind=5:=by simpa using q
  rw[aB q]at hR;obtain⟨a,ha⟩:∃a,c.kids=[a]:=by
   have:=k5 q
   match c.kids,this with
   |[a],_=>exact⟨a,rfl⟩
  have e0:iT c 0=a:=by unfold iT;rw[ha];try rfl
  rw[e0]at hR;subst hR;simp[ha];refine fO [0,1,2,3] (zBp a sc (rC G t s) rfl (by simp) (by simp[live])) ?_;simp;exact eH [0,100,2,101,1] [4,5,6,7]
 have q5:¬c.kind=5:=by simpa using q
 rw[aA q5]at hR;apply fM<;>intro q
 ·have q:c.kind=11:=by simpa using q
  rw[aB q]at hR;obtain⟨x,a,b,ha⟩:∃x a b,c.kids=[x,a,b]:=by
   have:=k11 q
   match c.kids,this with
   |[x,a,b],_=>exact⟨x,a,b,rfl⟩
  have e0:iT c 0=x:=by unfold iT;rw[ha];try rfl
  have e1:iT c 1=a:=by unfold iT;rw[ha];try rfl
  have e2:iT c 2=b:=by unfold iT;rw[ha];try rfl
  have es:gu c.kids=iQ x+(iQ a+(iQ b+0)):=by rw[ha];simp[gu]
  rw[e0]at hR;have K0:=hK x (by rw[ha];simp) s (aK _) (by omega);obtain⟨r0,hr0⟩:∃r0,iG X G.funs ord N x sc s=r0:=⟨_,rfl⟩
  have c0:=K0.call;have s0:=K0.small;rw[hr0]at hR c0 s0;have nb:r0≠.bad:=λz=>by rw[z]at hR;exact hr hR.symm
  simp[ha];refine wh [0,1,2,3] (c0 nb) nb (by simp) (λv s1 e=>⟨by simp,?_⟩) (λw z s' e=>⟨by simp,?_⟩);rotate_left
  ·subst e;have hR:O.over w z s'=r:=hR;subst hR;simp;exact fK [0,100,2,101,8] [4,5,6,7] (by simp)
  subst e;obtain⟨u1,u2,u3⟩:=s0;by_cases hv:v.ty=103
  ·cases v with
   | bool bb=>
    simp;refine fQ [] (Zo bb) (by simp[Val.enc]) (λw e=>?_) (λpv e=>by cases e);cases e;cases bb with
    | true=>
     have hR:iG X G.funs ord N (iT c 1) sc s1=r:=hR;rw[e1]at hR;have K1:=hK a (by rw[ha];simp) s1 u2 (by omega);have c1:=K1.call;rw[hR]at c1;simp[ha];refine wh [0,8,2,3] (c1 hr) hr (by simp) (λv s1 e=>⟨by simp,?_⟩) (λw z s' e=>⟨by simp,?_⟩)
     ·subst e;simp;exact eH [0,100,2,101,9] [4,5,6,7]
     ·subst e;simp;exact fK [0,100,2,101,9] [4,5,6,7] (by simp)
    | false=>
     have hR:iG X G.funs ord N (iT c 2) sc s1=r:=hR;rw[e2]at hR;have K1:=hK b (by rw[ha];simp) s1 u2 (by omega);have c1:=K1.call;rw[hR]at c1;simp[ha];refine wh [0,8,2,3] (c1 hr) hr (by simp) (λv s1 e=>⟨by simp,?_⟩) (λw z s' e=>⟨by simp,?_⟩)
     ·subst e;simp;exact eH [0,100,2,101,9] [4,5,6,7]
     ·subst e;simp;exact fK [0,100,2,101,9] [4,5,6,7] (by simp)
   |_=>exact absurd hv (by simp[Val.ty])
  ·have hR:nZ s1=r:=by
    rw[<-hR];cases v with
    |bool b=>exact absurd rfl hv
    |_=>rfl
   subst hR;simp;refine fQ [] (Zp (t:=v.ty) (g:=v.ag) (cs:=v.cs t) hv) (by simp[Val.enc_eq t v]) (λv e=>by cases e) λpv e=>?_;cases e;simp[nZ];exact fK [0,100,2,101,8] [4,5,6,7] (by simp)
 have q11:¬c.kind=11:=by simpa using q
 rw[aA q11]at hR;apply fM<;>intro q
 ·have q:c.kind=18:=by simpa using q
  rw[aB q]at hR;obtain⟨a,b,ha⟩:∃a b,c.kids=[a,b]:=by
   have:=k18 q
   match c.kids,this with
   |[a,b],_=>exact⟨a,b,rfl⟩
  have e0:iT c 0=a:=by unfold iT;rw[ha];try rfl
  have e1:iT c 1=b:=by unfold iT;rw[ha];try rfl
  have es:gu c.kids=iQ a+(iQ b+0):=by rw[ha];simp[gu]
  have pa:=J9 a;rw[e0,e1]at hR;have K0:=hK a (by rw[ha];simp) s (aK _) (by omega);obtain⟨r0,hr0⟩:∃r0,iG X G.funs ord N a sc s=r0:=⟨_,rfl⟩
  have c0:=K0.call;have s0:=K0.small;rw[hr0]at hR c0 s0;have nb:r0≠.bad:=λz=>by rw[z]at hR;exact hr hR.symm
  simp[ha];refine wh [0,1,2,3] (c0 nb) nb (by simp) (λv s1 e=>⟨by simp,?_⟩) (λw z s' e=>⟨by simp,?_⟩);rotate_left
  ·subst e;have hR:O.over w z s'=r:=hR;subst hR;simp;exact fK [0,100,2,101,8] [4,5,6,7] (by simp)
  subst e;obtain⟨u1,u2,u3⟩:=s0;have hR:iG X G.funs ord N b (sc++[v]) s1=r:=hR;have hsb:jK b:=(Jg _).1 hk b (by rw[ha];simp);have c1:=hE.own b (sc++[v]) s1 (by simp;omega) hsb (PR (yH u2 _ h3) u3) (by omega);rw[hR]at c1;simp[ha];refine fO [] (zzm t sc (by omega)) ?_;simp;refine⟨by omega,?_⟩;refine Cf [0,8,2,10] (c1 hr) hr (by simp[PD]) (λv s' e=>⟨by simp,?_⟩) (λw z s' e=>⟨by simp,?_⟩)
  ·subst e;simp;refine⟨by rfl,?_⟩;exact eH [0,100,2,101,11] [4,5,6,7]
  ·subst e;simp;refine⟨by rfl,by rfl,?_⟩;simp;exact fK [0,100,2,101,11] [4,5,6,7] (by simp)
 have q18:¬c.kind=18:=by simpa using q
 rw[aA q18]at hR;apply fM<;>intro q
 ·have q:c.kind=8:=by simpa using q
  rw[aB q]at hR;obtain⟨n1,n2⟩:=k8 q
  refine eQ gD hp PK [8,75] (λY:Nat × List Val × RS=>Y.1<=c.kids.length/\Y.2.1.length=Y.1/\(mX (λk s=>iG X G.funs ord N k sc s) (c.kids.drop Y.1) Y.2.2).bind (λws s'=>.ok (.rcd c.names (Y.2.1++ws)) s')=r/\s.ticks<=Y.2.2.ticks/\used 120006 Y.2.2+gu (c.kids.drop Y.1)<=used 120006 s+gu c.kids)
   (λY=>[.c (.map 6),.c (.d (.int .i64 Y.1))]) (λY=>[ql G Y.2.2 1,lA Y.2.2,.pin t 0,.dead,.pin t0 0,.pin t2 2,.map (BG t (c.names.take Y.1) Y.2.1)]) (λY=>c.kids.length-Y.1) (0,[],s) [0,1,2,3,4,6,8] ⟨dO _,rfl,by simpa using hR,aK _,by simp⟩ (by simp[PK,pU,mF];exact Jm) λY hY=>?_
  obtain⟨i,vs,s1⟩:=Y;obtain⟨i1,i2,i3,i4,i5⟩:=hY;simp only at i1 i2 i3 i4 i5;unfold zmr PK;simp;apply fM<;>intro q
  ·have hi':i<c.kids.length:=by simpa using q
   have hn':i<c.names.length:=by omega
   have hll:(c.names.take i).length=vs.length:=by rw[bU];omega
   obtain⟨m1,m2⟩:=zAI n2 hn';have es:gu (c.kids.drop i)=iQ c.kids[i]+gu (c.kids.drop (i+1)):=by rw[aG hi',gu]
   rw[aG hi',mX]at i3;have K0:=hK c.kids[i] (ai hi') s1 i4 (by omega);obtain⟨r0,hr0⟩:∃r0,iG X G.funs ord N c.kids[i] sc s1=r0:=⟨_,rfl⟩
   have c0:=K0.call;have s0:=K0.small;rw[hr0]at c0 s0;simp only[hr0]at i3;have nb:r0≠.bad:=λz=>by rw[z]at i3;exact hr i3.symm
   simp[hi',hn',encS];refine Cf [0,1,2,3] (c0 nb) nb (by simp[encS]) (λv s2 e=>⟨by simp,?_⟩) (λw z s' e=>⟨by simp,?_⟩);rotate_left
   ·subst e;have i3:O.over w z s'=r:=i3;subst i3;have tb:Nat.testBit 1023 9=true:=rfl;simp[tb];refine⟨by rfl,by rfl,?_⟩;exact fK [0,100,2,101,8] [4,100,5,100] (by simp)
   subst e;obtain⟨u1,u2,u3⟩:=s0;have hf:=zws t (x:=c.names[i]) (vs:=vs) hll m1;have i3:((mX (λk s=>iG X G.funs ord N k sc s) (c.kids.drop (i+1)) s2).bind λws s=>.ok (v::ws) s).bind (λws s'=>.ok (.rcd c.names (vs++ws)) s')=r:=i3;rw[zxO (F:=λws s'=>.ok (.rcd c.names ws) s')]at i3;simp[hf];refine⟨by rfl,?_⟩;refine dm (i+1,vs++[v],s2) [0,8,2,3,4,5,6] ⟨hi',by simp[i2],i3,by simp only;omega,by simp only;omega⟩ (by simp only;omega) ?_;simp;refine⟨wI,?_,Jm⟩;rw[<-map_take,m2];exact(PU t _ _ hll).symm
  ·have hi':i=c.kids.length:=by simp at q;omega
   subst hi';rw[aQ,mX]at i3;have i3:O.ok (.rcd c.names (vs++[])) s1=r:=i3;rw[bQ]at i3;subst i3;have hll:c.names.length=vs.length:=by omega
   rw[aH (by omega)];refine Ac.mkM [6] [] ?_;have h1:(D.mp (List.map D.str c.names) (mF t vs)).one=true:=rfl;simp[PV t hll,h1];exact eO [0,100,2,101,1] [4,100,5,100] (by simp[Val.enc])
 have q8:¬c.kind=8:=by simpa using q
 rw[aA q8]at hR;refine eY [.t 11] ?_;simp
 refine eQ gD hp PL [11,98] (λY:Nat × List Val × RS=>Y.1<=c.kids.length/\Y.2.1.length=Y.1/\(mX (λk s=>iG X G.funs ord N k sc s) (c.kids.drop Y.1) Y.2.2).bind (λws s'=>AQ X G ord N c sc (Y.2.1++ws) s')=r/\s.ticks<=Y.2.2.ticks/\used 120006 Y.2.2+gu (c.kids.drop Y.1)<=used 120006 s+gu c.kids/\kI 120006 Y.2.2.ticks Y.2.1)
  (λY=>[.c (.msl 1 6 0 Y.2.1.length),.c (.d (.int .i64 Y.1))]) (λY=>[ql G Y.2.2 1,lA Y.2.2,.pin t 0,.dead,.pin t0 0,.pin t2 2,Jk t Y.2.1]) (λY=>c.kids.length-Y.1) (0,[],s) [0,1,2,3,4,6,8] ⟨dO _,rfl,by rw[<-hR];rfl,aK _,by simp,trivial⟩ (by simp[PL,rM]) λY hY=>?_
 obtain⟨i,vs,s1⟩:=Y;obtain⟨i1,i2,i3,i4,i5,i6⟩:=hY;simp only at i1 i2 i3 i4 i5 i6;unfold zms PL;simp;apply fM<;>intro q
 ·have hi':i<c.kids.length:=by simpa using q
  have es:gu (c.kids.drop i)=iQ c.kids[i]+gu (c.kids.drop (i+1)):=by rw[aG hi',gu]
  rw[aG hi',mX]at i3;have K0:=hK c.kids[i] (ai hi') s1 i4 (by omega);obtain⟨r0,hr0⟩:∃r0,iG X G.funs ord N c.kids[i] sc s1=r0:=⟨_,rfl⟩
  have c0:=K0.call;have s0:=K0.small;rw[hr0]at c0 s0;simp only[hr0]at i3;have nb:r0≠.bad:=λz=>by rw[z]at i3;exact hr i3.symm
  simp[hi'];refine wh [0,1,2,3] (c0 nb) nb (by simp) (λv s2 e=>⟨by simp,?_⟩) (λw z s' e=>⟨by simp,?_⟩);rotate_left
  ·subst e;have i3:O.over w z s'=r:=i3;subst i3;simp;exact fK [0,100,2,101,8] [4,100,5,100] (by simp)
  subst e;obtain⟨u1,u2,u3⟩:=s0;have i3:((mX (λk s=>iG X G.funs ord N k sc s) (c.kids.drop (i+1)) s2).bind λws s=>.ok (v::ws) s).bind (λws s'=>AQ X G ord N c sc (vs++ws) s')=r:=i3;rw[zxO (F:=λws s'=>AQ X G ord N c sc ws s')]at i3;simp;refine⟨by omega,?_⟩;refine dm (i+1,vs++[v],s2) [0,8,2,3,4,5,9] ⟨hi',by simp[i2],i3,by simp only;omega,by simp only;omega,PR (yH u2 _ i6) u3⟩ (by simp only;omega) ?_;simp[PD];exact wI
 ·have hi':i=c.kids.length:=by simp at q;omega
  subst hi';rw[aQ,mX]at i3;have i3:AQ X G ord N c sc (vs++[]) s1=r:=i3;rw[bQ]at i3;rw[aQ,gu]at i5;have hul:s1.lines.length<=40000000/\s1.ticks<=40000000:=by unfold used at i5 h4;omega
  match vs,i2,i3,i6 with
  | [],i2,i3,i6=>
   have i3:oh X G.funs c sc s1=r:=i3;have h:=zF7 (G:=G) (t:=t) hX c sc s1 hul.1 ⟨kn.1,kn.2.1⟩ (by rw[i3];exact hr);rw[i3]at h;simp;refine wh [0,1,2] h hr (by simp) (λv s' e=>⟨by simp,?_⟩) (λw z s' e=>⟨by simp,?_⟩)
   ·subst e;simp;exact eH [0,100,2,101,7] [4,100,5,100]
   ·subst e;simp;exact fK [0,100,2,101,7] [4,100,5,100] (by simp)
  | [a],i2,i3,i6=>
   have i3:lC X c a s1=r:=i3;rw[kI]at i6;have h:=zG7 (G:=G) (t:=t) hX c a s1 hul.1 hul.2 i6.1 kn.2.2 (by rw[i3];exact hr);rw[i3]at h;simp[rM];refine Cf [0,1,2] h hr (by simp) (λv s' e=>⟨by simp,?_⟩) (λw z s' e=>⟨by simp,?_⟩)
   ·subst e;simp;refine⟨by rfl,?_⟩;exact eH [0,100,2,101,7] [4,100,5,100]
   ·subst e;simp;refine⟨by rfl,by rfl,?_⟩;simp;exact fK [0,100,2,101,7] [4,100,5,100] (by simp)
  | a::b::l,i2,i3,i6=>
   have i3:lw X ord (iG X G.funs ord N) c a b s1=r:=i3;rw[kI,kI]at i6;have h:=zHc (G:=G) (t:=t) hX hE c a b s1 (by omega) i6.1 i6.2.1 (by rw[i3];exact hr);rw[i3]at h;have g0:¬((l.length:Int)+1+1=0):=by omega
   have g1:¬((l.length:Int)+1+1=1):=by omega
   simp[rM,g0,g1];refine⟨by omega,?_⟩;refine Cf [0,1,2] h hr (by simp) (λv s' e=>⟨by simp,?_⟩) (λw z s' e=>⟨by simp,?_⟩)
   ·subst e;simp;refine⟨by rfl,?_⟩;exact eH [0,100,2,101,7] [4,100,5,100]
   ·subst e;simp;refine⟨by rfl,by rfl,?_⟩;simp;exact fK [0,100,2,101,7] [4,100,5,100] (by simp)
def zzC(hX:ji X ord)(hG:∀f,f∈G.funs->1+iQ f.body<=120006/\jK f.body):∀N,o6 X G ord t N
|0=>λc sc s _ _ _ _ hr=>absurd (by rw[iG]) hr
|N+1=>zB9 hX hG (zzC hX hG N)
end
end Go.Gr
namespace Go.Gr
open Go.Abs Go.Proofs
def zjx:MC:=(λx(_:x=gC tt [(0,1)] [] [] (gB Tryz.f24))=>x) _ (by dsimp[Tryz.f24])
def zkn:WM Pg 24 4 zjx [.tmp 2]:=wM gD Tryz.func24 (by kernel_rfl)
end Go.Gr
