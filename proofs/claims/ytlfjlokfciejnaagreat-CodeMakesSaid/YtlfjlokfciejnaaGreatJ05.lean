/- Of ours. -/
import Derived.Test.YtlfjlokfciejnaaGreatJ04
import Derived.Carry
import Derived.ChangeArms
import Derived.SizedLaws
set_option maxRecDepth 20000
set_option maxHeartbeats 4000000
set_option linter.unusedVariables false
set_option linter.unusedSectionVars false
set_option linter.unusedSimpArgs false
set_option linter.defProp false
open List renaming length->lN
open Bool renaming true->tT,false->oK
open Option renaming some->sS,none->nN
namespace Go.Abs
variable {α:Type}
variable [jE]
def gd(b want:Bool)(A B:Prop):Prop:=(b=want->A)/\(b=(!want)->B)
@[simp↓] theorem zKY(A B:Prop):gd tT tT A B=A:=by simp[gd]
@[simp↓] theorem zNF(A B:Prop):gd oK oK A B=A:=by simp[gd]
@[simp↓] theorem zNG(A B:Prop):gd tT oK A B=B:=by simp[gd]
@[simp↓] theorem zKZ(A B:Prop):gd oK tT A B=B:=by simp[gd]
def gd.mk{b want:Bool}{A B:Prop}(h1:b=want->A)(h2:b=(!want)->B):gd b want A B:=⟨h1,h2⟩
structure Tag {α:Type} (a:α):Type where
 mk::
def MB(P:Program)(f:FuncId)(ds:sQ)(K:DV->Prop)(_:Tag K):Prop:=∃v,h_ P f ds v/\K v
def MB.mk{P:Program}{f:FuncId}{ds:sQ}{K:DV->Prop}{t:Tag K}{v:DV}(h:h_ P f ds v)(k:K v):MB P f ds K t:=⟨v,h,k⟩
def Pm(q:Value->Prop):Prop:=∀v,q v->Hl v
@[simp] theorem zL4:Pm Hl:=λ_ h=>h
def W(P:Program)(c:Ctx):MC->(Exit->St->Prop)->St->Prop
|.skip,Q,S=>Q .normal S
|.reg os,Q,S=>qc P os S (λS'=>Q .normal S')
|.regd _j os,Q,S=>lJ P os S [] (λS' _i=>zT _j _i=tT/\Q .normal S')
|.regx os,Q,S=>tu P os S (λS'=>Q .normal S') (λpv S'=>Q (.panic [{v:=pv,recovered:=oK}]) S')
|.regdx _j os,Q,S=>wP P _j 0 os S [] (λS' _i=>zT _j _i=tT/\Q .normal S') (λpv S' pj _i=>zT _j _i=tT/\Pd _j pj _i=tT/\Q (.panic [{v:=pv,recovered:=oK}]) S')
|.seq a b,Q,S=>W P c a (yE (W P c b Q) Q) S
|.cond (.t k) a b,Q,S=>match S.get k with
 |.c (.d (.bool t))=>gd t tT (W P c a Q (S.D? k tT)) (W P c b Q (S.D? k oK))
 |.c (.op q)=>Pm q/\W P c a Q S/\W P c b Q S
 |_=>False
|.cond (.k _) _ _,_,_=>False
|.cond (.a _) _ _,_,_=>False
|.block i b,Q,S=>W P c b (Af i Q) S
|.loop b,Q,S=>AW P c (.loop b) Q S
|.exit i,Q,S=>Q (.exit i) S
|.ret,Q,S=>Q .ret S
|.fzq a,Q,S=>∃lm l,yH S lm λS1=>xu S1 l λS'=>W P c a Q S'
|.owq a,Q,S=>∃l,p9 S l λS'=>W P c a Q S'
def W.aw{P:Program}{c:Ctx}(hm:P.follows .mixedOrders=tT):∀{mc:MC} {Q:Exit->St->Prop} {S:St},W P c mc Q S->AW P c mc Q S
|.skip,Q,S,h=>AW.skip h
|.reg os,Q,S,h=>AW.reg h
|.regd _j os,Q,S,h=>AW.regd hm h
|.regx os,Q,S,h=>AW.regx h
|.regdx _j os,Q,S,h=>AW.regdx hm h
| .seq a b,Q,S,h=>AW.seq ((show AW P c a (yE (W P c b Q) Q) S from W.aw hm h).mono (Q':=yE (AW P c b Q) Q) λe S' q=>by
  cases e with
  |normal=>exact W.aw hm q
  |_=>exact q)
| .cond (.t k) a b,Q,S,h=>by
 simp only[W]at h;split at h
 next t e=>
  refine AW.cond (x:=.t k) e (λht=>?_) (λht=>?_)
  .have h1:=W.aw hm (h.1 ht);intro code hc ac w r;rw[ht]at e;exact h1 code hc ac w (by rw[gF e];exact r)
  .have h1:=W.aw hm (h.2 (uM ht));intro code hc ac w r;rw[ht]at e;exact h1 code hc ac w (by rw[gF e];exact r)
 next q e=>
  exact AW.condU (x:=.t k) e h.1 (W.aw hm h.2.1) (W.aw hm h.2.2)
 .exact h.elim
|.cond (.k x) a b,Q,S,h=>False.elim h
|.cond (.a x) a b,Q,S,h=>False.elim h
|.block i b,Q,S,h=>AW.block (W.aw hm h)
|.loop b,Q,S,h=>h
|.exit i,Q,S,h=>AW.exit h
|.ret,Q,S,h=>AW.ret h
|.fzq a,Q,S,h=>by
 let⟨lm,l,h⟩:=h;have h2:=yH.mono lm h λS1 k=>(AW.fzq l (xu.mono l k λS' k=>W.aw hm k):AW P c (.fzq a) Q S1)
 exact AW.fmq lm h2
|.owq a,Q,S,h=>by
 let⟨l,h⟩:=h;exact AW.owq l (p9.mono l h λS' k=>W.aw hm k)
def zZ(S:St)(K:St->Prop)(_:Tag K):Prop:=∃lm l,yH S lm λS1=>xu S1 l K
def ME(S:St)(K:St->Prop)(_:Tag K):Prop:=∃l,p9 S l K
def ME.mk{S:St}{K:St->Prop}{g:Tag K}(l:List JU)(h:p9 S l K):ME S K g:=⟨l,h⟩
def zZ.mk{S:St}{K:St->Prop}{g:Tag K}(l:oO)(h:xu S l K):zZ S K g:=⟨[],l,h⟩
def zZ.mkM{S:St}{K:St->Prop}{g:Tag K}(lm l:oO)(h:yH S lm λS1=>xu S1 l K):zZ S K g:=⟨lm,l,h⟩
def w_(P:Program)(c:Ctx)(mc:MC)(Q:Exit->St->Prop)(_:Tag (mc,Q))(S:St):Prop:=W P c mc Q S
def mI(P:Program)(c:Ctx)(mc:MC)(Q:Exit->St->Prop)(_:Tag (mc,Q))(S:St):Prop:=AW P c (.loop mc) Q S
def rO(P:Program)(os:sH)(K:St->Prop)(_:Tag (os,K))(S:St):Prop:=qc P os S K
def rD(P:Program)(os:sH)(K:St->sK->Prop)(_:Tag (os,K))(S:St)(_i:sK):Prop:=lJ P os S _i K
def rX(P:Program)(os:sH)(K:St->Prop)(Kp:Value->St->Prop)(_:Tag (os,K,Kp))(S:St):Prop:=tu P os S K Kp
def eX(P:Program)(K:AV->oU->Nat->Prop)(Kp:Value->oU->Nat->Prop)(op:ni)(_:Tag (op,K,Kp))(get:Nat->AV)(m:Hp)(n:Nat):Prop:=F6 P get m n K Kp op
def MF(P:Program)(_j:oO)(k:Nat)(os:sH)(K:St->sK->Prop)(Kp:Value->St->Nat->sK->Prop)(_:Tag (os,K,Kp))(S:St)(_i:sK):Prop:=wP P _j k os S _i K Kp
def Wy(P:Program)(_j:oO)(pj k:Nat)(os:sH)(K:sK->Prop)(_:Tag (os,K))(S:St)(_i:sK):Prop:=BJ P _j pj k os S _i K
def eD(P:Program)(K:AV->oO->oU->Nat->Prop)(Kp:Value->oU->Nat->Prop)(op:ni)(_:Tag (op,K,Kp))(get:Nat->AV)(m:Hp)(n:Nat):Prop:=Pb P get m n K Kp op
def eV(P:Program)(K:AV->oO->oU->Nat->Prop)(op:ni)(_:Tag (op,K))(get:Nat->AV)(m:Hp)(n:Nat):Prop:=ev P get m n K op
def Next{Y:Type}(I:Y->Prop)(t:Y->oZ)(bs:Y->oV)(μ:Y->Nat)(x:Y)(_:Tag (I,t,bs,μ,x))(S:St):Prop:=∃x' l,I x'/\gy l S (t x') (bs x')/\μ x'<μ x
def Next.mk{Y:Type}{I:Y->Prop}{t:Y->oZ}{bs:Y->oV}{μ:Y->Nat}{x:Y}{g:Tag (I,t,bs,μ,x)}{S:St}(x':Y)(l:oO)(h1:I x')(h2:μ x'<μ x)(h3:gy l S (t x') (bs x')):Next I t bs μ x g S:=⟨x',l,h1,h3,h2⟩
def W.loop{P:Program}{c:Ctx}{Q:Exit->St->Prop}{S:St}{Y:Type}(hm:P.follows .mixedOrders=tT)(hp:c.pure){body:MC}{g:Tag (body,Q)}(I:Y->Prop)(t:Y->oZ)(bs:Y->oV)(μ:Y->Nat)(x0:Y)(l0:oO)(hI:I x0)(h0:gy l0 S (t x0) (bs x0))
  (round:∀x,I x->w_ P c body (yE (Next I t bs μ x ⟨⟩) Q) ⟨⟩ (hd (t x) (bs x))):mI P c body Q g S:=
 AW.loop hp I t bs μ hI h0 λx hx=>W.aw hm (round x hx)
section
variable {P:Program} {c:Ctx} {Q:Exit->St->Prop} {S:St}
def F9{mc:MC}(h:w_ P c mc Q ⟨⟩ S):W P c mc Q S:=h
@[simp] theorem zNn{g}:w_ P c .skip Q g S=Q .normal S:=oF
@[simp] theorem zNH(os:sH){g}:w_ P c (.reg os) Q g S=rO P os (λS'=>Q .normal S') ⟨⟩ S:=oF
@[simp] theorem zNo(_j:oO)(os:sH){g}:w_ P c (.regd _j os) Q g S=rD P os (λS' _i=>zT _j _i=tT/\Q .normal S') ⟨⟩ S []:=oF
@[simp] theorem zNp(os:sH){g}:w_ P c (.regx os) Q g S=rX P os (λS'=>Q .normal S') (λpv S'=>Q (.panic [{v:=pv,recovered:=oK}]) S') ⟨⟩ S:=oF
@[simp] theorem zMH(_j:oO)(os:sH){g}:w_ P c (.regdx _j os) Q g S=MF P _j 0 os (λS' _i=>zT _j _i=tT/\Q .normal S') (λpv S' pj _i=>zT _j _i=tT/\Pd _j pj _i=tT/\Q (.panic [{v:=pv,recovered:=oK}]) S') ⟨⟩ S []:=oF
@[simp] theorem zNI(a b:MC){g}:w_ P c (.seq a b) Q g S=w_ P c a (yE (w_ P c b Q ⟨⟩) Q) ⟨⟩ S:=oF
@[simp] theorem zNq(k:Nat)(a b:MC){g}:w_ P c (.cond (.t k) a b) Q g S=(match S.get k with
 |.c (.d (.bool t))=>gd t tT (w_ P c a Q ⟨⟩ (S.D? k tT)) (w_ P c b Q ⟨⟩ (S.D? k oK))
 |.c (.op q)=>Pm q/\w_ P c a Q ⟨⟩ S/\w_ P c b Q ⟨⟩ S
 |_=>False):=oF
@[simp] theorem zMI(i:Nat)(b:MC){g}:w_ P c (.block i b) Q g S=w_ P c b (Af i Q) ⟨⟩ S:=oF
@[simp] theorem zNr(b:MC){g}:w_ P c (.loop b) Q g S=mI P c b Q ⟨⟩ S:=oF
@[simp] theorem zNs(i:Nat){g}:w_ P c (.exit i) Q g S=Q (.exit i) S:=oF
@[simp] theorem zNJ(a:MC){g}:w_ P c (.fzq a) Q g S=zZ S (λS'=>w_ P c a Q ⟨⟩ S') ⟨⟩:=oF
@[simp] theorem zNK(a:MC){g}:w_ P c (.owq a) Q g S=ME S (λS'=>w_ P c a Q ⟨⟩ S') ⟨⟩:=oF
@[simp] theorem zNL{g}:w_ P c .ret Q g S=Q .ret S:=oF
@[simp] theorem zNt(K:St->Prop){g}:rO P [] K g S=K S:=oF
@[simp] theorem zMJ(d:Option Nat)(op:ni)(os:sH)(K:St->Prop){g}:rO P (⟨nN,d,op⟩::os) K g S=eV P (λv _ wr n=>rO P os K ⟨⟩ (S.put d v wr n)) op ⟨⟩ S.get S.m S.n:=oF
@[simp] theorem zMK(t:Nat)(want:Bool)(d:Option Nat)(op:ni)(os:sH)(K:St->Prop){g}:rO P (⟨sS (t,want),d,op⟩::os) K g S=(match S.get t with
  |.c (.d (.bool b))=>gd b want (rO P (⟨nN,d,op⟩::os) K ⟨⟩ (S.D? t want)) (rO P os K ⟨⟩ ((S.D? t (!want)).put d jm [] S.n))
  |.c (.d (.sc (.tuple _)))=>rO P os K ⟨⟩ (S.put d jm [] S.n)
  |_=>False):=oF
@[simp] theorem zML(_j:oO)(k:Nat)(_i:sK)(K:St->sK->Prop)(Kp:Value->St->Nat->sK->Prop){g}:MF P _j k [] K Kp g S _i=K S _i.reverse:=oF
@[simp] theorem zL5(_j:oO)(k:Nat)(d:Option Nat)(op:ni)(os:sH)(_i:sK)(K:St->sK->Prop)(Kp:Value->St->Nat->sK->Prop){g}:MF P _j k (⟨nN,d,op⟩::os) K Kp g S _i=eD P (λv rd wr n=>MF P _j (k+1) os K Kp ⟨⟩ (S.put d v wr n) ((rd,wr.map (·.1))::_i))
 (λpv wr n=>Wy P _j k (k+1) os (λ_i=>Kp pv ⟨[],jW S.m wr,n⟩ k _i) ⟨⟩ (S.put d jm [] S.n) (([],[])::_i)) op ⟨⟩ S.get S.m S.n:=oF
@[simp] theorem zMM(_j:oO)(pj k:Nat)(_i:sK)(K:sK->Prop){g}:Wy P _j pj k [] K g S _i=K _i.reverse:=oF
@[simp] theorem zNu(K:St->Prop)(Kp:Value->St->Prop){g}:rX P [] K Kp g S=K S:=oF
@[simp] theorem zMN(d:Option Nat)(op:ni)(os:sH)(K:St->Prop)(Kp:Value->St->Prop){g}:rX P (⟨nN,d,op⟩::os) K Kp g S=eX P (λv wr n=>rX P os K Kp ⟨⟩ (S.put d v wr n)) (λpv wr n=>Kp pv (S.put nN jm wr n)) op ⟨⟩ S.get S.m S.n:=oF
@[simp] theorem zNv(_i:sK)(K:St->sK->Prop){g}:rD P [] K g S _i=K S _i.reverse:=oF
@[simp] theorem zMO(d:Option Nat)(op:ni)(os:sH)(_i:sK)(K:St->sK->Prop){g}:rD P (⟨nN,d,op⟩::os) K g S _i=eV P (λv rd wr n=>rD P os K ⟨⟩ (S.put d v wr n) ((rd,wr.map (·.1))::_i)) op ⟨⟩ S.get S.m S.n:=oF
@[simp] theorem zMP(t:Nat)(want:Bool)(d:Option Nat)(op:ni)(os:sH)(_i:sK)(K:St->sK->Prop){g}:rD P (⟨sS (t,want),d,op⟩::os) K g S _i=(match S.get t with
  |.c (.d (.bool b))=>gd b want (rD P (⟨nN,d,op⟩::os) K ⟨⟩ (S.D? t want) _i) (rD P os K ⟨⟩ ((S.D? t (!want)).put d jm [] S.n) (([],[])::_i))
  |.c (.d (.sc (.tuple _)))=>rD P os K ⟨⟩ (S.put d jm [] S.n) (([],[])::_i)
  |_=>False):=oF
end
@[simp] theorem St.get_mk(t:oZ)(m:Hp)(n k:Nat):St.get ⟨t,m,n⟩ k=look t k:=oF
@[simp] theorem St.get_eta(t:oZ)(m:Hp)(n:Nat):St.get ⟨t,m,n⟩=look t:=oF
@[simp] theorem St.put_some(t:oZ)(m:Hp)(n d:Nat)(v:AV)(wr:oU)(n':Nat):St.put ⟨t,m,n⟩ (sS d) v wr n'=⟨(d,v)::t,jW m wr,n'⟩:=oF
@[simp] theorem St.put_none(t:oZ)(m:Hp)(n:Nat)(v:AV)(wr:oU)(n':Nat):St.put ⟨t,m,n⟩ nN v wr n'=⟨t,jW m wr,n'⟩:=oF
@[simp] theorem St.know_mk(t:oZ)(m:Hp)(n k:Nat)(b:Bool):St.D? ⟨t,m,n⟩ k b=⟨(k,.c (.d (.bool b)))::t,m,n⟩:=oF
@[simp] theorem look_nil(k:Nat):look [] k=.c (.d .any):=oF
@[simp] theorem Ee(j k:Nat)(v:AV)(t:oZ):look ((j,v)::t) k=if k=j then v else look t k:=oF
@[simp] theorem X_t(get:Nat->AV)(k:Nat):X get (.t k)=get k:=oF
@[simp] theorem X_a(get:Nat->AV)(xs:oQ):X get (.a xs)=.ag (xs.map .d):=oF
@[simp] theorem X_k(get:Nat->AV)(x:D):X get (.k x)=.c (.d x):=oF
@[simp] theorem zMQ(m:Hp):jW m []=m:=oF
@[simp] theorem zL6(m:Hp)(k:Nat)(v:A_)(l:oU):jW m ((k,v)::l)=jW (upd m k v) l:=oF
@[simp] theorem Ef(m:Hp)(k:Nat)(v:A_)(j:Nat):upd m k v j=if j=k then v else m j:=oF
@[simp↓] theorem zJ2(K:St->Prop) (Q:Exit->St->Prop) (S:St):yE K Q .normal S=K S:=oF
@[simp↓] theorem zKL(K:St->Prop) (Q:Exit->St->Prop) (ch) (S:St):yE K Q (.panic ch) S=Q (.panic ch) S:=oF
@[simp↓] theorem zJ3(i:Nat) (Q:Exit->St->Prop) (ch) (S:St):Af i Q (.panic ch) S=Q (.panic ch) S:=oF
@[simp↓] theorem zK0(K:St->Prop) (Q:Exit->St->Prop) (i:Nat) (S:St):yE K Q (.exit i) S=Q (.exit i) S:=oF
@[simp↓] theorem zLK(K:St->Prop) (Q:Exit->St->Prop) (S:St):yE K Q .ret S=Q .ret S:=oF
@[simp↓] theorem zJJ(i:Nat) (Q:Exit->St->Prop) (S:St):Af i Q .normal S=Q .normal S:=oF
@[simp↓] theorem zK1(i:Nat) (Q:Exit->St->Prop) (S:St):Af i Q .ret S=Q .ret S:=oF
@[simp↓] theorem zKM(i j:Nat) (Q:Exit->St->Prop) (S:St):Af i Q (.exit j) S=if j=i then Q .normal S else Q (.exit j) S:=oF
@[simp] theorem zL7:(undef:Value)=.tuple #[]:=rfl
attribute [simp] qd DV.av DV.avs DR E5 A? wo cellsD wu tq E9 jm Hd Hf Hg
attribute [simp] DV.er DV.ers z_
@[simp] theorem zLL(f:Nat->Nat):AC.b? f∘List.map AC.d=List.map AC.d:=by funext x;simp
@[simp] theorem zL8(n:Nat):AC.lts n∘List.map AC.d=λ_=>tT:=by funext x;simp
@[simp] theorem D.er_int(k:IntKind)(n:Int):(D.int k n).er=.int k n:=rfl
@[simp] theorem D.er_bool(b:Bool):(D.bool b).er=.bool b:=rfl
@[simp] theorem D.er_str(b:fD):(D.str b).er=.str b:=rfl
@[simp] theorem D.er_sl(x:Bool)(s:Nat)(es:o5):(D.sl x s es).er=.sl oK s es:=rfl
@[simp] theorem D.er_fn(f:Fn)(c:oQ):(D.fn f c).er=.fn f c:=rfl
@[simp] theorem D.er_rp(cs:oQ)(o:Nat):(D.rp cs o).er=.rp cs o:=rfl
@[simp] theorem D.er_sc(v:Value):(D.sc v).er=.sc v:=rfl
@[simp] theorem AC.one_d(d:D):(AC.d d).one=d.one:=rfl
@[simp] theorem AC.one_ptr(b o:Nat):(AC.ptr b o).one=tT:=rfl
@[simp] theorem AC.one_ept(s b i o:Nat):(AC.ept s b i o).one=tT:=rfl
@[simp] theorem AC.one_msl(s b o l:Nat):(AC.x_ s b o l).one=tT:=rfl
@[simp] theorem D.one_int(k:IntKind)(n:Int):(D.int k n).one=tT:=rfl
@[simp] theorem D.one_bool(b:Bool):(D.bool b).one=tT:=rfl
@[simp] theorem D.one_str(b:fD):(D.str b).one=tT:=rfl
@[simp] theorem D.one_sl(x:Bool)(s:Nat)(es:o5):(D.sl x s es).one=tT:=rfl
@[simp] theorem D.one_fn(f:Fn)(c:oQ):(D.fn f c).one=tT:=rfl
@[simp] theorem D.one_rp(cs:oQ)(o:Nat):(D.rp cs o).one=tT:=rfl
@[simp] theorem zMR(cs:List α)(n:Nat)(h:lN cs=n):cut cs 0 n=cs:=by simp[cut,h]
@[simp] theorem zMS(cs l:List α)(h:lN l=lN cs):put cs 0 l=l:=by simp[put,h]
@[simp] theorem zL9(c:α)(cs:List α)(o:Nat)(l:List α):put (c::cs) o l=if o=0/\lN l=(c::cs).length then l else z_ (c::cs) o l:=oF
def wrap_i64{n:Int}(h1: -9223372036854775808<=n)(h2:n<=9223372036854775807):IntKind.i64.wrap n=n:=LZ (by simpa[IntKind.min,IntKind.bits,IntKind.signed]using h1) (by simpa[IntKind.max,IntKind.bits,IntKind.signed]using h2)
def wI{n:Int}(h1: -9223372036854775808<=n:=by omega)(h2:n<=9223372036854775807:=by omega):IntKind.i64.wrap n=n:=wrap_i64 h1 h2
@[simp] theorem zMa(n:Nat):r_ [] n=.c?:=by simp[r_]
@[simp] theorem JV(b:A_)(bs:oV):r_ (b::bs) 0=b:=by simp[r_]
@[simp] theorem JW(b:A_)(bs:oV)(n:Nat):r_ (b::bs) (n+1)=r_ bs n:=by simp[r_]
@[simp] theorem zNM(t:oZ)(bs:oV):hd t bs=⟨t,r_ bs,lN bs⟩:=oF
attribute [simp] gy BK yF Z' AV.N_ AV.lt AC.N_ AC.lt AC.b? AC.lts AV.b? AV.lts A_.N_ A_.lt
attribute [simp] DT one? frzV wQ S? uk nA
def D6(ag:Bool)(sz:Nat)(cs:oQ)(off:Nat)(K:AV->Prop)(_:Tag K):Prop:=E8 ag sz cs off K
def z8(ag:Bool)(sz:Nat)(cs:o7)(off:Nat)(K:AV->Prop)(_:Tag K):Prop:=Ae ag sz cs off K
def wz(get:Nat->AV)(d:Nat)(K:Nat->Prop)(_:Tag K)(o:Option MX):Prop:=bnd get d K o
def MG(get:Nat->AV)(m:Hp)(s:Nat)(K:oh->oO->Prop)(_:Tag K)(y:MX):Prop:=qb get m s K y
def Pn(S:St)(K:AV->Prop)(_:Tag K)(r:MR):Prop:=zW S K r
def Eg(S:St)(rs:qC)(K:oo->Prop)(_:Tag K):Prop:=zX S rs K
@[simp] theorem zNN(sz:Nat)(cs:oQ)(off:Nat)(K:AV->Prop){g}:D6 tT sz cs off K g=(off+sz<=lN cs/\K (.ag ((cut cs off sz).map .d))):=oF
@[simp] theorem zNO(sz:Nat)(cs:oQ)(off:Nat)(K:AV->Prop){g}:D6 oK sz cs off K g=(match cs[off]? with|some c=>K (.c (.d c))|none=>False):=oF
@[simp] theorem zNP(sz:Nat)(cs:o7)(off:Nat)(K:AV->Prop){g}:z8 tT sz cs off K g=(off+sz<=lN cs/\K (.ag (cut cs off sz))):=oF
@[simp] theorem zNQ(sz:Nat)(cs:o7)(off:Nat)(K:AV->Prop){g}:z8 oK sz cs off K g=(match cs[off]? with|some c=>K (.c c)|none=>False):=oF
@[simp] theorem zMb(get:Nat->AV)(d:Nat)(K:Nat->Prop){g}:wz get d K g nN=K d:=oF
@[simp] theorem zMc(get:Nat->AV)(d:Nat)(K:Nat->Prop){g}(x:MX):wz get d K g (sS x)=(match X get x with|.c (.d (.int _ j))=>0<=j/\K j.toNat|_=>False):=oF
@[simp] theorem zMT(get:Nat->AV)(m:Hp)(s:Nat)(K:oh->oO->Prop){g}(y:MX):MG get m s K g y=(match X get y with
|.c (.d (.sl _ s' ys))=>s=s'/\K (ys.map (·.map .d)) []
|.c (.x_ s' b off len)=>match m b with
 |.arr s'' es=>s=s'/\s=s''/\off+len<=lN es/\K ((es.drop off).take len) [b]
 |_=>False
|_=>False):=oF
@[simp] theorem zMd(rs:qC)(v:DV)(S:St):BL rs v .ret S=Eg S rs (λvs=>(frzV S.m (one? vs)).map DV.er=sS v) ⟨⟩:=oF
@[simp] theorem zMe(S:St)(K:AV->Prop){g}(t:Nat):Pn S K g (.tmp t)=K (S.get t):=oF
@[simp] theorem zLM(S:St)(K:AV->Prop){g}(t:Nat)(ag:Bool)(sz:Nat):Pn S K g (.cell t ag sz)=(match S.get t with
 |.c (.d (.rp cs off))=>D6 ag sz cs off K ⟨⟩
 |.c (.ptr b off)=>match S.m b with
  |.box cs=>z8 ag sz cs off K ⟨⟩
  |_=>False
 |_=>False):=oF
@[simp] theorem zLN(S:St)(K:oo->Prop){g}:Eg S [] K g=K []:=oF
@[simp] theorem zK2(S:St)(r:MR)(rs:qC)(K:oo->Prop){g}:Eg S (r::rs) K g=Pn S (λv=>Eg S rs (λvs=>K (v::vs)) ⟨⟩) ⟨⟩ r:=oF
section
variable {P:Program} {get:Nat->AV} {m:Hp} {n:Nat} {K:AV->List Nat->List (Nat × A_)->Nat->Prop}
@[simp] theorem zNR(x:MX){g}:eV P K (.mv x) g get m n=K (X get x) [] [] n:=oF
@[simp] theorem zMU(c a b:MX){g}:eV P K (.pick c a b) g get m n=match X get c with
 |.c (.d (.bool t))=>gd t tT (K (X get a) [] [] n) (K (X get b) [] [] n)
 |_=>False:=oF
@[simp] theorem zMV(op:BinOp)(x:MX)(y:MX){g}:eV P K (.binI op x y) g get m n=(match X get x,X get y with
 |.c (.d (.int k a)),.c (.d (.int k' b))=>k=k'/\(match Hd op k a b with|some d=>K (.c (.d d)) [] [] n|none=>False)
 |_,_=>False):=oF
@[simp] theorem zMW(op:BinOp)(x:MX)(y:MX){g}:eV P K (.binS op x y) g get m n=(match X get x,X get y with
 |.c (.d (.str a)),.c (.d (.str b))=>(match Hf op a b with|some d=>K (.c (.d d)) [] [] n|none=>False)
 |_,_=>False):=oF
@[simp] theorem zNw(x:MX)(y:MX){g}:eV P K (.cat x y) g get m n=(match X get x,X get y with
 |.c (.d (.str a)),.c (.d (.str b))=>a.size+b.size<=zaf/\K (.c (.d (.str (a++b)))) [] [] n
 |_,_=>False):=oF
@[simp] theorem zMX(op:BinOp)(x:MX)(y:MX){g}:eV P K (.binB op x y) g get m n=(match X get x,X get y with
 |.c (.d (.bool a)),.c (.d (.bool b))=>(match Hg op a b with|some d=>K (.c (.d d)) [] [] n|none=>False)
 |_,_=>False):=oF
@[simp] theorem zNx(x:MX){g}:eV P K (.not x) g get m n=(match X get x with
 |.c (.d (.bool a))=>K (.c (.d (.bool (!a)))) [] [] n
 |_=>False):=oF
@[simp] theorem zMf(k:IntKind)(x:MX){g}:eV P K (.convI k x) g get m n=(match X get x with
 |.c (.d (.int _ a))=>K (.c (.d (.int k (k.wrap a)))) [] [] n
 |_=>False):=oF
@[simp] theorem zMY(x:MX){g}:eV P K (.boxP x) g get m n=(match cellsD (X get x)with
 |some ds=>K (.c (.d (.rp ds 0))) [] [] n
 |none=>False):=oF
@[simp] theorem zMZ(x:MX){g}:eV P K (.boxM x) g get m n=(match wo (X get x)with
 |some cs=>m n=.c?/\K (.c (.ptr n 0)) [] [(n,.box cs)] (n+1)
 |none=>False):=oF
@[simp] theorem zMg(z:oQ){g}:eV P K (.alloc z) g get m n=(m n=.c?/\K (.c (.ptr n 0)) [] [(n,.box (z.map .d))] (n+1)):=oF
@[simp] theorem zMh(z:oQ)(ps:sj){g}:eV P K (.build z ps) g get m n=(match DT get (z.map .d) ps with
 |some cs=>K (.ag cs) [] [] n
 |none=>False):=oF
@[simp] theorem zK3(s:Nat)(xs:su){g}:eV P K (.buildSl s xs) g get m n=(match wu get s xs with
 |some es=>K (.c (.d (.sl tT s es))) [] [] n
 |none=>False):=oF
@[simp] theorem zKN(s:Nat)(xs:su){g}:eV P K (.buildSlM s xs) g get m n=(match tq get s xs with
 |some es=>m n=.c?/\K (.c (.x_ s n 0 (lN xs))) [] [(n,.arr s es)] (n+1)
 |none=>False):=oF
@[simp] theorem zM0(ag:Bool)(sz:Nat)(x:MX){g}:eV P K (.load ag sz x) g get m n=(match X get x with
 |.c (.d (.rp cs off))=>D6 ag sz cs off (λv=>K v [] [] n) ⟨⟩
 |.c (.ptr b off)=>match m b with
  |.box cs=>z8 ag sz cs off (λv=>K v [b] [] n) ⟨⟩
  |_=>False
 |.c (.ept s b i off)=>match m b with
  |.arr s' es=>s=s'/\(match es[i]? with|some e=>z8 ag sz e off (λv=>K v [b] [] n) ⟨⟩|none=>False)
  |_=>False
 |.c (.d (.sc (.pointer (sS ⟨B,off,nN⟩))))=>match jE.row B with
  |some ds=>z8 ag sz (ds.map .d) off (λv=>K v [] [] n) ⟨⟩
  |none=>False
 |_=>False):=oF
@[simp] theorem zMi(sz:Nat)(a:MX)(v:MX){g}:eV P K (.store sz a v) g get m n=(match X get a,wo (X get v)with
 |.c (.ptr b off),sS l=>match m b with
  |.box cs=>lN l=sz/\off+sz<=lN cs/\K (.c (.d .any)) [] [(b,.box (put cs off l))] n
  |_=>False
 |.c (.ept s b i off),sS l=>match m b with
  |.arr s' es=>s=s'/\lN l=sz/\off+sz<=s/\(match es[i]? with|some e=>K (.c (.d .any)) [] [(b,.arr s (es.set i (put e off l)))] n|none=>False)
  |_=>False
 |_,_=>False):=oF
@[simp] theorem zMj(off:Nat)(x:MX){g}:eV P K (.faddr off x) g get m n=(match X get x with
 |.c (.ptr b o)=>K (.c (.ptr b (o+off))) [] [] n
 |.c (.ept s b i o)=>K (.c (.ept s b i (o+off))) [] [] n
 |.c (.d (.rp cs o))=>K (.c (.d (.rp cs (o+off)))) [] [] n
 |.c (.d (.sc (.pointer (sS ⟨B,o,nN⟩))))=>K (.c (.d (.sc (.pointer (sS ⟨B,o+off,nN⟩))))) [] [] n
 |_=>False):=oF
@[simp] theorem zLO(s:Nat)(x:MX)(i:MX){g}:eV P K (.iaddrS s x i) g get m n=(match X get x,X get i with
 |.c (.d (.sl _ s' es)),.c (.d (.int _ j))=>s=s'/\0<=j/\(match es[j.toNat]? with|some e=>K (.c (.d (.rp e 0))) [] [] n|none=>False)
 |.c (.x_ s' b off len),.c (.d (.int _ j))=>s=s'/\0<=j/\j<len/\K (.c (.ept s b (off+j.toNat) 0)) [] [] n
 |.c (.d (.sc (.slice (sS ⟨B,q,nN⟩) len _))),.c (.d (.int _ j))=>0<=j/\j<len/\K (.c (.d (.sc (.pointer (sS ⟨B,q+j.toNat*s,nN⟩))))) [] [] n
 |_,_=>False):=oF
@[simp] theorem zLP(len:Nat)(s:Nat)(x:MX)(i:MX){g}:eV P K (.iaddrA len s x i) g get m n=(match X get x,X get i with
 |.c (.ptr b o),.c (.d (.int _ j))=>0<=j/\j<len/\K (.c (.ptr b (o+j.toNat*s))) [] [] n
 |.c (.ept s' b i' o),.c (.d (.int _ j))=>0<=j/\j<len/\K (.c (.ept s' b i' (o+j.toNat*s))) [] [] n
 |.c (.d (.rp cs o)),.c (.d (.int _ j))=>0<=j/\j<len/\K (.c (.d (.rp cs (o+j.toNat*s)))) [] [] n
 |_,_=>False):=oF
@[simp] theorem zM1(x:MX)(i:MX){g}:eV P K (.idxS x i) g get m n=(match X get x,X get i with
 |.c (.d (.str t)),.c (.d (.int _ j))=>0<=j/\(match t.data.toList[j.toNat]? with|some b=>K (.c (.d (.int .u8 b.toNat))) [] [] n|none=>False)
 |_,_=>False):=oF
@[simp] theorem zNy(x:MX){g}:eV P K (.len x) g get m n=(match X get x with
 |.c (.d (.sl _ _ es))=>K (.c (.d (.int .i64 (lN es)))) [] [] n
 |.c (.x_ _ b off l)=>match m b with
  |.arr _ es=>off+l<=lN es/\K (.c (.d (.int .i64 l))) [b] [] n
  |_=>False
 |.c (.d (.sc (.slice (sS _) l _)))=>l<=zaf/\K (.c (.d (.int .i64 l))) [] [] n
 |_=>False):=oF
@[simp] theorem zM2(x:MX){g}:eV P K (.lenS x) g get m n=(match X get x with
 |.c (.d (.str t))=>K (.c (.d (.int .i64 t.size))) [] [] n
 |_=>False):=oF
@[simp] theorem zMk(x:MX){g}:eV P K (.nilck x) g get m n=(match X get x with
 |.c (.ptr b o)=>K (.c (.ptr b o)) [] [] n
 |.c (.ept s b i o)=>K (.c (.ept s b i o)) [] [] n
 |.c (.d (.rp cs o))=>K (.c (.d (.rp cs o))) [] [] n
 |.c (.d (.sc (.pointer (sS a))))=>K (.c (.d (.sc (.pointer (sS a))))) [] [] n
 |_=>False):=oF
@[simp] theorem zK4(x:MX)(i:Nat){g}:eV P K (.extract x i) g get m n=(match X get x with
 |.a? vs=>match vs[i]? with
  |some v=>K v [] [] n
  |none=>False
 |_=>False):=oF
@[simp] theorem zMl(s:Nat)(x:MX)(lo:Option MX)(hi:Option MX){g}:eV P K (.slice s x lo hi) g get m n=(match X get x with
 |.c (.d (.sl e s' es))=>s=s'/\wz get (lN es) (λh=>wz get 0 (λl=>l<=h/\h<=lN es/\K (.c (.d (.sl (e&&hi.isNone) s ((es.take h).drop l)))) [] [] n) ⟨⟩ lo) ⟨⟩ hi
 |.c (.x_ s' b off len)=>s=s'/\wz get len (λh=>wz get 0 (λl=>l<=h/\h<=len/\K (.c (.x_ s b (off+l) (h-l))) [] [] n) ⟨⟩ lo) ⟨⟩ hi
 |_=>False):=oF
@[simp] theorem zLQ(x:MX)(lo:Option MX)(hi:Option MX){g}:eV P K (.sliceS x lo hi) g get m n=(match X get x with
 |.c (.d (.str t))=>wz get t.size (λh=>wz get 0 (λl=>l<=h/\h<=t.size/\K (.c (.d (.str (t.extract l h)))) [] [] n) ⟨⟩ lo) ⟨⟩ hi
 |_=>False):=oF
@[simp] theorem zLR(s:Nat)(bytes:Nat)(x:MX)(y:MX){g}:eV P K (.append s bytes x y) g get m n=(match X get x with
 |.c (.x_ s' b off len)=>match m b with
  | .arr s'' es=>s=s'/\s=s''/\off=0/\len<=lN es/\m n=.c?/\MG get m s (λys rd=>(len+lN ys)*bytes<=70368744177664/\(rd=[]\/rd=[b]\/b∉rd)/\
    K (.c (.x_ s n 0 (len+lN ys))) rd [(b,.dead),(n,.arr s (es.take len++ys))] (n+1)) ⟨⟩ y
  |_=>False
 |.c (.d (.sl tT s' []))=>m n=.c?/\MG get m s (λys rd=>lN ys*bytes<=70368744177664/\K (.c (.x_ s n 0 (lN ys))) rd [(n,.arr s ys)] (n+1)) ⟨⟩ y
 |.c (.d (.sl tT s' (e::es)))=>s=s'/\m n=.c?/\MG get m s (λys rd=>(ys=[]->K (.c (.d (.sl tT s (e::es)))) rd [] (n+1))/\(ys≠[]->((e::es).length+lN ys)*bytes<=70368744177664/\K (.c (.x_ s n 0 ((e::es).length+lN ys))) rd [(n,.arr s ((e::es).map (·.map .d)++ys))] (n+1))) ⟨⟩ y
 |_=>False):=oF
@[simp] theorem zM3(f:FuncId)(k_:su){g}:eV P K (.mkfn f k_) g get m n=(match E9 get k_ with
 |some cs=>match A? cs with
  |some ds=>K (.c (.d (.fn (.func f) ds))) [] [] n
  |none=>K (.c (.fn (.func f) cs)) [] [] n
 |none=>False):=oF
@[simp] theorem zM4(f:FuncId)(xs:su){g}:eV P K (.call f xs) g get m n=(match E5 (xs.map (X get))with
 |some ds=>MB P f ds (λv=>K v.av [] [] n) ⟨⟩
 |none=>False):=oF
@[simp] theorem zM5(mx:Bool)(x y:MX){g}:eV P K (.minI mx x y) g get m n=(match X get x,X get y with
 |.c (.d (.int k a)),.c (.d (.int k' b))=>k=k'/\K (.c (.d (.int k (zR mx a b)))) [] [] n
 |_,_=>False):=oF
@[simp] theorem zLS(ne:Bool)(x:MX){g}:eV P K (.isNilP ne x) g get m n=(match X get x with
 |.c (.d (.sc (.pointer nN)))=>K (.c (.d (.bool !ne))) [] [] n
 |.c (.d (.rp _ _))=>K (.c (.d (.bool ne))) [] [] n
 |.c (.ptr _ _)=>K (.c (.d (.bool ne))) [] [] n
 |.c (.ept _ _ _ _)=>K (.c (.d (.bool ne))) [] [] n
 |_=>False):=oF
@[simp] theorem zMm(ne:Bool)(x:MX){g}:eV P K (.isNil ne x) g get m n=(match X get x with
 |.c (.d (.sl _ _ (_::_)))=>K (.c (.d (.bool ne))) [] [] n
 |.c (.d (.sl _ _ []))=>K (.c (.op Hl)) [] [] n
 |.c (.x_ _ _ _ len)=>0<len/\K (.c (.d (.bool ne))) [] [] n
 |_=>False):=oF
@[simp] theorem zMn{g}:eV P K (.mkmap) g get m n=(m n=.c?/\K (.c (.map n)) [] [(n,.map [])] (n+1)):=oF
@[simp] theorem zMo(kk:Nat)(ok ag:Bool)(z:oQ)(x k:MX){g}:eV P K (.mlook kk ok ag z x k) g get m n=(match X get x,tZ kk (X get k)with
 | .c (.map b),.c (.d d)=>match m b with
  |.map es=>match d? kk d es 0 with
   |some (sS (_,v))=>K (if ok then .a? [v,.c (.d (.bool tT))]else v) [b] [] n
   |some nN=>K (if ok then .a? [lI ag z,.c (.d (.bool oK))]else lI ag z) [b] [] n
   |none=>False
  |_=>False
 |.c (.d (.mp ks us)),.c (.d d)=>match d? kk d (pI ks us) 0 with
  |some (sS (_,v))=>K (if ok then .a? [v,.c (.d (.bool tT))]else v) [] [] n
  |some nN=>K (if ok then .a? [lI ag z,.c (.d (.bool oK))]else lI ag z) [] [] n
  |none=>False
 |.c (.d (.sc (.map nN))),.c (.d _)=>K (if ok then .a? [lI ag z,.c (.d (.bool oK))]else lI ag z) [] [] n
 |_,_=>False):=oF
@[simp] theorem zM6(kk:Nat)(x k v:MX){g}:eV P K (.mset kk x k v) g get m n=(match X get x,tZ kk (X get k)with
 | .c (.map b),.c (.d d)=>match m b with
  |.map es=>match d? kk d es 0 with
   |some (sS (i,_))=>K (.c (.d .any)) [] [(b,.map (es.set i (d,X get v)))] n
   |some nN=>K (.c (.d .any)) [] [(b,.map (es++[(d,X get v)]))] n
   |none=>False
  |_=>False
 |_,_=>False):=oF
@[simp] theorem zMp(z:oQ)(bytes:Nat)(x y:MX){g}:eV P K (.mkslM z bytes x y) g get m n=(match X get x,X get y with
 |.c (.d (.int .i64 j)),.c (.d (.int .i64 l))=>0<=j/\j<=l/\l*bytes<=70368744177664/\m n=.c?/\K (.c (.x_ (lN z) n 0 j.toNat)) [] [(n,.arr (lN z) ((List.replicate j.toNat z).map (·.map .d)))] (n+1)
 |_,_=>False):=oF
@[simp] theorem zM7(ne:Bool)(ks:oO)(x y:MX){g}:eV P K (.eqAg ne ks x y) g get m n=(match X get x,X get y with
 | .ag cs,.ag cs'=>match A? cs,A? cs' with
  |some a,sS b=>match CR ks a b with
   |some t=>K (.c (.d (.bool (t^^ne)))) [] [] n
   |none=>False
  |_,_=>False
 |_,_=>False):=oF
end
attribute [simp] d? vP lI CR
def ni.isX:ni->Bool
|.callX _ _=>tT
|.panicX _=>tT
|_=>oK
section
variable {P:Program} {get:Nat->AV} {m:Hp} {n:Nat} {K:AV->List (Nat × A_)->Nat->Prop} {Kp:Value->List (Nat × A_)->Nat->Prop}
@[simp] theorem zNS(op:ni){g}(h:op.isX=oK):eX P K Kp op g get m n=eV P (λv _ wr n=>K v wr n) op ⟨⟩ get m n:=by
 cases op<;>first|rfl|cases h
@[simp] theorem zNT(op:ni){K:AV->oO->oU->Nat->Prop}{g}(h:op.isX=oK):eD P K Kp op g get m n=eV P K op ⟨⟩ get m n:=by
 cases op<;>first|rfl|cases h
@[simp] theorem zM8(op:ni):op.isX=(match op with|.callX _ _=>tT|.panicX _=>tT|_=>oK):=by cases op<;>rfl
@[simp] theorem zMq(T:TypeId)(ag:Bool)(x:MX){K:AV->oO->oU->Nat->Prop}{g}:eV P K (.mkifc T ag x) g get m n=(match(generalizing:=false) ag,X get x with
 |true,.ag cs=>(match A? cs with
  |some ds=>K (.c (.d (.ifc T true ds))) [] [] n
  |none=>False)
 |false,.c (.d d)=>d.one=true/\K (.c (.d (.ifc T false [d]))) [] [] n
 |_,_=>False):=oF
@[simp] theorem zMr(x:MX){g}:eX P K Kp (.panicX x) g get m n=(match X get x with
 |.c (.d d)=>(match IG d with
  |some u=>Kp (.iface u.1 u.2) [] n
  |none=>False)
 |_=>False):=oF
end
attribute [simp] JQ IE IG
abbrev fE:=@Next.mk
abbrev fM:=@W.loop
abbrev fQ:=@zZ.mk
abbrev fT:=@ME.mk
abbrev gM:=@gd.mk
abbrev gQ:=@MB.mk
end Go.Abs
namespace Go.Abs
variable {h:PH}
instance:jE:=jE.triv
mutual
def nz(P:Program):Nat->TypeId->List D->Prop
|0,_,_=>False
|n+1,t,ds=>match P.underlying t with
 |some .bool=>∃b,ds=[.bool b]
 |some (.int k)=>∃i,ds=[.int k i]
 |some .string=>∃s,ds=[.str s]
 |some (.slice e)=>∃es,ds=[.sl oK (P.cellsOf e) es]/\∀x,x∈es->nz P n e x
 |some (.struct fs)=>BM P n (fs.toList.map (·.type)) ds
 |_=>False
def BM(P:Program):Nat->List TypeId->List D->Prop
|_,[],ds=>ds=[]
|n,t::ts,ds=>∃a b,ds=a++b/\nz P n t a/\BM P n ts b
end
def xA(P:Program)(tot:Nat):Nat->List Field->Bool
|o,[]=>o==tot
|o,f::r=>f.offset==o&&xA P tot (o+P.cellsOf f.type) r
def Fa(P:Program)(S:qD)(t:TypeId):Bool:=match P.underlying t with
|some .bool|some (.int _)|some .string=>tT
|some (.slice e)=>S.contains e&&decide (0<P.cellsOf e)&&decide (0<P.bytesOf e)
|some (.struct fs)=>xA P (P.cellsOf t) 0 fs.toList&&fs.toList.all λf=>S.contains f.type
|_=>oK
def RepE.of_get{s:Nat}:∀{es:List (List D)} {vs:List Value},(∀i e,es[i]?=sS e->lN e=s/\RepL h e (vs.drop (i*s)))->RepE h s es vs
|[],vs,_=>by simp[RepE]
|e::es,vs,H=>by
 simp only[RepE];have h0:=H 0 e rfl;refine⟨h0.1,uM h0.2,RepE.of_get λi e' he=>?_⟩;have:=H (i+1) e' (uM he);rw[bX,show s+i*s=(i+1)*s by rw[bF];omega];exact this
section
variable {H:Type} {enc:TypeId × Value->H} {P:Program} {w:World} {held:Bool}
def mapM_cells{B:Nat}{c:Array Value}{ty:TypeId}{fr:Nat × Nat}(hB:w.heap[B]?=sS (.cells c ty fr)):∀(n k o:Nat) (cs:List Value),((List.range' k n).mapM λi=>w.cell? ⟨B,o+i,nN⟩)=sS cs->cs=(c.toList.drop (o+k)).take n/\lN cs=n
|0,k,o,cs,h=>by simp at h;subst h;simp
| n+1,k,o,cs,h=>by
 rw[dQ,List.mapM_cons]at h;have hc:w.cell? ⟨B,o+k,nN⟩=c[o+k]?:=by simp[World.cell?,hB]
 rw[hc]at h;cases e:c[o+k]? with
 |none=>simp[e]at h
 | some v=>
  simp only[e,Option.pure_def,Option.bind_eq_bind,Option.bind_some,dR]at h;let⟨r,hr,_W⟩:=h;cases _W;let⟨h1,h2⟩:=mapM_cells hB n (k+1) o r hr;have hk:o+k<lN c.toList:=by
   rcases aY (o+k) c.size with h|h
   .simpa using h
   .rw[bI h]at e;cases e
  rw[aF hk];refine⟨?_,by simp[h2]⟩;rw[List.take_succ_cons,h1,show o+(k+1)=o+k+1 by omega];congr 1;have:=bM (xs:=c) (i:=o+k) (uM hk);rw[this]at e;simp at e;simp[e]
def Po{base:Nat}{a:Addr}{s:Nat}{cs:oP}(hs:0<s)(h:w.cells? base a s=sS cs):a.spot=nN/\cs=((hcells (λB=>w.heap[B]?) a.block).drop a.off).take s/\lN cs=s:=by
 unfold World.cells? at h;split at h
 .let⟨B,o,sp⟩:=a;have hsp:sp=nN:=by
   cases sp with
   |none=>rfl
   | some z=>
    exfalso;cases s with
    |zero=>cases hs
    | succ s=>
     rw[dD,dQ,List.mapM_cons]at h;have:w.cell? (Addr.add ⟨B,o,sS z⟩ 0)=nN:=by
      simp[World.cell?,Addr.add];cases w.heap[B]? with
      |none=>rfl
      |some ob=>cases ob<;>rfl
     rw[this]at h;simp at h
  subst hsp;refine⟨rfl,?_⟩;simp only[Z?]at h;simp only[hcells];cases e:w.heap[B]? with
  | none=>
   exfalso;cases s with
   |zero=>cases hs
   |succ s=>
    rw[dD,dQ,List.mapM_cons]at h;simp[World.cell?,e]at h
  | some ob=>
   cases ob with
   |cells c ty fr=>
    rw[dD]at h;have:=mapM_cells e s 0 o cs h;rw[Nat.add_zero]at this;exact this
   | _=>
    exfalso;cases s with
    |zero=>cases hs
    |succ s=>
     rw[dD,dQ,List.mapM_cons]at h;simp[World.cell?,e]at h
 .cases h
def RepL.of_take{ds:oQ}{vs:oP}{n:Nat}(r:RepL h ds (vs.take n)):RepL h ds vs:=by
 have:=RepL.mono (fU h) ds _ (vs.drop n) r;simpa using this
def Wz{e:TypeId}:∀{l:List (DataW H)} {d:DataW H},d∈l->∀n,n∈d.weights P e->n∈DataW.weightsAll P e l
|x::l,d,h,n,hn=>by
 simp only[DataW.weightsAll,aL];cases aM.1 h with
 |inl h=>subst h;exact Or.inl hn
 |inr h=>exact Or.inr (Wz h n hn)
def XA:reachBytes<=zaf:=by decide
def zCo{S:qD} (hS:∀t,t∈S->Fa P S t=tT):∀(fuel:Nat) (t:TypeId) (cs:oP) (d:DataW H) (ps:List MemPlace),t∈S->
  DataW.trod enc P w 0 (λ_=>tT) tT fuel t cs=sS (d,ps)->(∀n,n∈d.weights P t->n<=reachBytes)->
  ∃ds,nz P fuel t ds/\RepL (λB=>w.heap[B]?) ds cs/\lN ds=lN cs:=by
 intro fuel
 induction fuel with
 |zero=>intro t cs d ps _ h;simp[DataW.trod]at h
 |succ fuel ih=>
 intro t cs d ps ht h hw;have hg:=hS t ht;unfold Fa at hg;split at hg
 next hu=>
  obtain⟨b,rfl,_⟩:=DataW.trod_bool hu h;exact⟨[.bool b],by unfold nz;rw[hu];exact⟨b,rfl⟩,by simp[RepL,RepD,Value.one1],rfl⟩
 next k hu=>
  obtain⟨n,rfl,_,hwf⟩:=DataW.trod_int hu h;refine⟨[.int k n],by unfold nz;rw[hu];exact⟨n,rfl⟩,?_,rfl⟩;simp only[Lit.wf,aG,aI]at hwf;simp[RepL,RepD,Value.one1,hwf]
 next hu=>
  obtain⟨s,rfl,hx,_⟩:=DataW.trod_string hu h;refine⟨[.str s],by unfold nz;rw[hu];exact⟨s,rfl⟩,?_,rfl⟩;simp only[au]at hx;rw[hx.1]at hw;have h1:=hw (lN s.data.toList) (by unfold DataW.weights;exact aK.2 rfl);have e:s.size=lN s.data.toList:=(eY ..).symm;have h2:=XA;refine⟨⟨rfl,?_⟩,trivial⟩;unfold RepD;exact⟨rfl,e▸aX h1 h2⟩
 next e hu=>
  simp only[aG,aI,dX]at hg;let⟨⟨he,hc⟩,hb⟩:=hg;rcases DataW.trod_slice hu h with⟨rfl,_⟩|⟨a,len,cap,elems,rest,n,hn,rfl,hx,_,hlc,hcm,hlen,hel,hsp,_⟩
  .refine⟨[.sl oK (P.cellsOf e) []],by unfold nz;rw[hu];exact⟨[],rfl,oC⟩,?_,rfl⟩;refine⟨⟨rfl,?_⟩,trivial⟩;unfold RepD;exact⟨nN,0,rfl,aJ _,λh=>(by cases h),eF _,λ_=>⟨rfl,rfl⟩,λp hp=>(by cases hp),(by simp[RepE])⟩
  .simp only[Nat.add_right_cancel_iff]at hn;subst hn;simp only[au]at hx;have _B:∀x,x∈elems.map (·.1)->∀m,m∈x.weights P e->m<=reachBytes:=λx hx' m hm=>hw m (by
    rw[hx.1];simp only[DataW.weights,hu]
    exact List.mem_cons_of_mem _ (List.mem_append_left _ (Wz hx' m hm)))
   have _T:(lN elems+lN rest)*P.bytesOf e<=reachBytes:=hw _ (by rw[hx.1];simp only[DataW.weights,hu];simp);have hcap':lN elems+lN rest<=reachBytes:=aX (Nat.le_mul_of_pos_right _ hb) _T;have key:∀i,i<len->∃ds,nz P fuel e ds/\lN ds=P.cellsOf e/\a.spot=nN/\RepL (λB=>w.heap[B]?) ds ((hcells (λB=>w.heap[B]?) a.block).drop (a.off+i*P.cellsOf e)):=by
    intro i hi;have h1:=hel i hi;have hil:i<lN elems:=oM;rw[aA hil]at h1;let⟨cs',_W,htr⟩:=dR.1 h1;let⟨ds,s1,s2,s3⟩:=ih e cs' elems[i].1 elems[i].2 he htr (_B _ (List.mem_map_of_mem (aO hil)));let⟨g1,g2,g3⟩:=Po hc _W;have g4:(a.add (i*P.cellsOf e)).block=a.block:=by unfold Addr.add;split<;>rfl
    have g5:(a.add (i*P.cellsOf e)).off=a.off+i*P.cellsOf e:=by unfold Addr.add;split<;>simp_all
    rw[g4,g5]at g2;refine⟨ds,s1,oM,?_,RepL.of_take (g2▸s2)⟩
    -- the first element's reading says that the place is plain
    have h0:=hel 0 oM;rw[aA (show 0<lN elems by omega)]at h0;let⟨cs0,hcs0,_⟩:=dR.1 h0;have:=(Po hc hcs0).1;simpa[Addr.add]using this
   have hspot:0<cap->a.spot=nN:=by
    intro _T;rcases aY 0 len with hl|hl
    .let⟨_,_,_,h3,_⟩:=key 0 hl;exact h3
    .have hl0:len=0:=oM;have:=(hsp rfl).2 0 oM;rw[aA (show 0<lN rest by have:=(hsp rfl).1;omega)]at this;let⟨cs0,hcs0,_⟩:=dR.1 this;have:=(Po hc hcs0).1;simpa[Addr.add,hl0]using this
   have pick:∃es:o5,lN es=len/\∀i x,es[i]?=sS x->nz P fuel e x/\lN x=P.cellsOf e/\RepL (λB=>w.heap[B]?) x ((hcells (λB=>w.heap[B]?) a.block).drop (a.off+i*P.cellsOf e)):=by
    have:∀m,m<=len->∃es:o5,lN es=m/\∀i x,es[i]?=sS x->nz P fuel e x/\lN x=P.cellsOf e/\RepL (λB=>w.heap[B]?) x ((hcells (λB=>w.heap[B]?) a.block).drop (a.off+i*P.cellsOf e)):=by
     intro m
     induction m with
     |zero=>intro _;exact⟨[],rfl,oC⟩
     | succ m ihm=>
      intro hm;let⟨es,hes,_H⟩:=ihm oM;let⟨ds,d1,d2,d3,d4⟩:=key m oM;refine⟨es++[ds],by simp[hes],λi x hx=>?_⟩;rw[List.getElem?_append]at hx;split at hx
      .exact _H i x hx
      .have:i=m:=by
        rcases aY (i-lN es) 1 with h|h
        .omega
        .rw[aR (uM h)]at hx;cases hx
       subst this;simp[hes]at hx;subst hx;exact⟨d1,d2,d4⟩
    exact this len (aJ _)
   let⟨es,hes,_H⟩:=pick;refine⟨[.sl oK (P.cellsOf e) es],?_,?_,rfl⟩
   .unfold nz;rw[hu];refine⟨es,rfl,λx hx=>?_⟩;obtain⟨i,hi,rfl⟩:=bg hx;exact(_H i _ (aA hi)).1
   .have:=XA;simp only[RepL,RepD,Value.one1,and_true,true_and];refine⟨sS a,cap,by rw[hes],oM,oC,oM,oC,λp hp _T=>by cases hp;exact hspot _T,?_⟩;refine RepE.of_get λi x hx=>?_;let⟨_,h2,h3⟩:=_H i x hx;refine⟨h2,?_⟩;simp only[cellsAt];rw[bX];exact h3
 next fs hu=>
  simp only[aG,ai,dX]at hg;let⟨hlay,hmem⟩:=hg;let⟨xs,n,hn,hx,hl,hxl,hf⟩:=DataW.trod_struct hu h;simp only[Nat.add_right_cancel_iff]at hn;subst hn;simp only[au]at hx;have hw1:∀(i:Nat) (f:Field) y,fs[i]?=sS f->xs[i]?=sS y->∀m,m∈y.1.weights P f.type->m<=reachBytes:=λi f y hfi hyi m hm=>hw m (by
   rw[hx.1];simp only[DataW.weights,hu]
   exact DataW.weights_mem_each (j:=i) (t:=f.type) (d:=y.1) (by simp[hfi]) (by simp[hyi]) m hm)
  have key:∀(l:List Field) (k o:Nat),fs.toList.drop k=l->xA P (P.cellsOf t) o l=tT->o<=lN cs->∃ds,BM P fuel (l.map (·.type)) ds/\RepL (λB=>w.heap[B]?) ds (cs.drop o)/\lN ds=lN cs-o:=by
   intro l
   induction l with
   |nil=>
    intro k o _ hlay ho;simp only[xA,ae]at hlay;exact⟨[],by simp[BM],by simp[RepL],by simp;omega⟩
   | cons f l ihl=>
    intro k o hk hlay ho;simp only[xA,aG,ae]at hlay;have hkf:fs[k]?=sS f:=by
     have:(fs.toList.drop k)[0]?=sS f:=by rw[hk];rfl
     simpa using this
    have hfk:=hf k f hkf;have hks:k<lN xs:=by
     rw[hxl];rcases aY k fs.size with h|h
     .exact h
     .rw[bI h]at hkf;cases hkf
    rw[aA hks,hlay.1]at hfk;have hfm:f∈fs.toList:=List.mem_of_mem_drop (i:=k) (by rw[hk];simp);let⟨a,s1,s2,s3⟩:=ih f.type _ xs[k].1 xs[k].2 (hmem f hfm) hfk (hw1 k f xs[k] hkf (aA hks));have hle:∀(l:List Field) (o:Nat),xA P (P.cellsOf t) o l=tT->o<=P.cellsOf t:=by
     intro l
     induction l with
     |nil=>intro o h;simp[xA]at h;omega
     |cons f l ih=>intro o h;simp[xA]at h;have:=ih _ h.2;omega
    have ho2:=hle _ _ hlay.2;let⟨b,t1,t2,t3⟩:=ihl (k+1) (o+P.cellsOf f.type) (by rw[<-bX,hk];rfl) hlay.2 oM;have hal:lN a=P.cellsOf f.type:=by rw[s3];simp;omega
    refine⟨a++b,(by simp only[List.map_cons,BM];exact⟨a,b,rfl,s1,t1⟩),?_,by simp[hal,t3];omega⟩;have e:cs.drop o=(cs.drop o).take (P.cellsOf f.type)++cs.drop (o+P.cellsOf f.type):=by
     rw[<-bX,dA]
    rw[e];exact RepL.append s2 (by rw[s3]) t2
  let⟨ds,d1,d2,d3⟩:=key fs.toList 0 0 rfl hlay oM;exact⟨ds,by unfold nz;rw[hu];exact d1,uM d2,uM d3⟩
 .cases hg
def isAgg(P:Program)(t:TypeId):Bool:=match P.underlying t with
|some (.struct _)=>tT
|_=>oK
def xC(ag:Bool)(ds:oQ):DV:=match ag with
|true=>.agg ds
|false=>.one (ds.headD .any)
def IJ(P:Program):List TypeId->List DV->Prop
|[],vs=>vs=[]
|_::_,[]=>False
|t::ts,v::vs=>(∃n ds,nz P n t ds/\v=xC (isAgg P t) ds)/\IJ P ts vs
def zJj{S:qD}(hS:∀t,t∈S->Fa P S t=tT){base:Nat}{t:TypeId}{v:Value}{d:DataW H}{ps:List MemPlace}(ht:t∈S)(_R:Value.okWide P w .any base t v)
  (h:DataW.Trod enc P w 0 (λ_=>tT) tT t v d ps) (hw:∀n,n∈d.weights P t->n<=reachBytes):
  ∃n ds,nz P n t ds/\jJ (λB=>w.heap[B]?) (xC (isAgg P t) ds) v:=by
 let⟨fuel,h⟩:=h;let⟨ds,h1,h2,h3⟩:=zCo hS fuel t _ d ps ht h hw;refine⟨fuel,ds,h1,?_⟩;unfold isAgg;unfold Value.okWide at _R;have hg:=hS t ht;unfold Fa at hg;have one:∀u:Value,u=v->u.cells.toList=[u]->jJ (λB=>w.heap[B]?) (xC oK ds) v:=by
  intro u hu hc;subst hu;rw[hc]at h2 h3
  match ds,h3 with
  |[x],_=>simp only[xC,List.headD_cons,jJ];simp only[RepL]at h2;exact h2.1.2
 have cell:∀{td:TypeDesc},P.underlying t=sS td->Cell.okWide P w .any base t v->(∀fs,td≠.struct fs)->(∀n e,td≠.array n e)->v.cells.toList=[v]:=by
  intro td hu hc h1 h2;unfold Cell.okWide Cell.ok at hc;rw[hu]at hc;cases v<;>first|rfl|(exfalso;revert hc;cases td<;>simp)
 split at hg
 next hu=>
  rw[hu]at _R⊢;exact one v rfl (cell hu _R oC oC)
 next hu=>
  rw[hu]at _R⊢;exact one v rfl (cell hu _R oC oC)
 next hu=>
  rw[hu]at _R⊢;exact one v rfl (cell hu _R oC oC)
 next hu=>
  rw[hu]at _R⊢;exact one v rfl (cell hu _R oC oC)
 next hu=>
  rw[hu]at _R⊢;simp only at _R⊢;obtain⟨cs,rfl,_,_⟩:=_R;simp only[xC,jJ];refine⟨cs.toList,oC,?_,h2⟩;rw[h3];rfl
 .cases hg
def XB{S:List TypeId}(hS:∀t,t∈S->Fa P S t=tT){base:Nat}:∀{ts:List TypeId} {vs:List Value} {ds:List (DataW H)} {ps:List MemPlace},(∀t,t∈ts->t∈S)->
 (∀(j:Nat) t v,ts[j]?=sS t->vs[j]?=sS v->Value.okWide P w .any base t v)->DataW.TrodAll enc P w 0 (λ_=>tT) tT ts vs ds ps->(∀n,n∈DataW.weightsEach P ts ds->n<=reachBytes)->
 ∃dvs,IJ P ts dvs/\il (λB=>w.heap[B]?) dvs vs
|[],[],[],_,_,_,_,_=>⟨[],rfl,by simp[il]⟩
|t::ts,v::vs,d::ds,ps,ht,_R,h,hw=>by
 let⟨p,q,h1,h2,_⟩:=h;let⟨n,e,a1,a2⟩:=zJj hS (ht t oC) (_R 0 t v rfl rfl) h1 (λn hn=>hw n (by simp[DataW.weightsEach,hn]));let⟨dvs,b1,b2⟩:=XB hS (λu hu=>ht u (by simp[hu])) (λj u x hu hx=>_R (j+1) u x (uM hu) (uM hx)) h2 (λn hn=>hw n (by simp[DataW.weightsEach,hn]));exact⟨xC (isAgg P t) e::dvs,⟨⟨n,e,a1,rfl⟩,b1⟩,by simp only[il];exact⟨a2,b2⟩⟩
def XC(hl:laidOutB P=tT){W W':World}(hb:Go.RowKit.Below W.heap.size W W'):∀{ts:List TypeId} {vs:List Value} {ds:List (DataW H)} {ps:List MemPlace},(∀t,t∈ts->P.readableRec t=tT/\t<P.types.size)->
 DataW.TrodAll enc P W 0 (λ_=>tT) tT ts vs ds ps->(∀x,x∈ps->x.block<W.heap.size)->DataW.TrodAll enc P W' 0 (λb=>decide (b<W.heap.size)) tT ts vs ds ps
|[],[],[],_,_,h,_=>h
|t::ts,v::vs,d::ds,ps,hr,h,_k=>by
 obtain⟨p,q,h1,h2,rfl⟩:=h;have hrt:=hr t oC;exact⟨p,q,Go.RowKit.Below.trod hl hrt.1 hrt.2 h1 hb (λx hx=>_k x (by simp[hx])),XC hl hb (λu hu=>hr u (by simp[hu])) h2 (λx hx=>_k x (by simp[hx])),rfl⟩
end
def Fb{C:Checked}{os:Os}{f:FuncId}{fn:Func}{s:ChangeSpec}{conds:List PathCond}{S:qD}{rt:TypeId}{H:Type}{enc:TypeId × Value->H}
  (hG : C.prog.globalNamed "strings.asciiSpace" = nN) (own : ownKnob C.prog.godebug = nN) (started : os.Started) (noInit : C.prog.inits.idxOf? f = nN) (hfn : C.prog.funcs[f]? = sS fn) (hvars : s.vars = [])
  (hS:(S.all λt=>Fa C.prog S t&&C.prog.readableRec t&&decide (t<C.prog.types.size))=tT) (hp:(fn.params.toList.all λt=>S.contains t)=tT)
  (hres:fn.resultTypes=#[rt]) (hrt:C.prog.underlying rt=sS .bool) (hl:laidOutB C.prog=tT)
  (hspec:∀(ds:List (DataW H)),lN ds=fn.params.size->s.fn H ds={results:=[.lit (.bool tT)],args:=ds})
  (witness:∃(w:World) (tape:Tape) (i:Input),w.os=os/\(w.forCall tape i).Shaped C.prog/\i.vars=[]/\Input.okWide C.prog (w.forCall tape i) .any w.heap.size f i/\
   s.pre6 enc C.prog fn conds oK (w.forCall tape i).memory i.args/\({}:Assume).holds C.prog (lone (Frame.enter C.prog f i.args .normal) [] (w.forCall tape i)))
  (hc:∀dvs,IJ C.prog fn.params.toList dvs->h_ C.prog f dvs (.one (.bool tT))):
  ReturnsInHanded {} C os f .any (s.pre6 enc C.prog fn conds oK) (s.post enc C.prog fn oK tT oK oK):=by
 apply returnsInHanded_of_change_sized own started noInit hfn witness;intro W base args ds gs before _R hW _ hwt _;simp only[ai,aG,aI,dX]at hS hp;have hW':=hW;let⟨p,q,hA,hV,hpq,hfz,hnd⟩:=hW;rw[hvars]at hV;have hgs:gs=[]/\q=[]:=by
  cases gs with
  |nil=>exact⟨rfl,hV⟩
  |cons g gs=>exact hV.elim
 obtain⟨rfl,rfl⟩:=hgs;simp only[bi]at hpq;subst hpq;have hpv:s.plain.varTypes C.prog=[]:=by unfold ChangeSpec.plain DataSpec.varTypes;rw[hvars];rfl
 simp only[hpv,bi,ai,aI]at hwt;have hlen:∀{ts:qD} {vs:oP} {ds:List (DataW H)} {ps:List MemPlace},DataW.TrodAll enc C.prog W 0 (λ_=>tT) tT ts vs ds ps->lN ds=lN ts:=by
  intro ts
  induction ts with
  |nil=>intro vs ds ps h;cases vs<;>cases ds<;>first|rfl|exact h.elim
  |cons t ts ih=>
   intro vs ds ps h;cases vs<;>cases ds<;>first|exact h.elim|skip
   let⟨_,_,_,h2,_⟩:=h;simp[ih h2]
 let⟨dvs,d1,d2⟩:=XB (λt ht=>(hS t ht).1.1) hp (λj t v ht hv=>_R j t v (uM ht) (uM hv)) hA hwt;have hcall:=(hc dvs d1).2 (λB=>W.heap[B]?) W args.toList (λB o h=>h) (λg e=>by rw[hG]at e;cases e) trivial d2;refine(show Calls C.prog f args.toList.toArray W _ from hcall).mono λe W' he=>?_;obtain⟨vC,h',rfl,_,_,_,hsz,hold,⟨so,st,sp⟩,rv⟩:=he;simp only[jJ,RepD]at rv;subst rv;have hb:Go.RowKit.Below W.heap.size W W':=⟨so,st,sp,hsz,hold⟩
 have hsp:=hspec ds (uM (hlen hA));refine⟨_,rfl,ds,[],before,[],before,[],hW',?_,?_,?_,hb.frame _,λh=>by cases h⟩
 .rw[bi,hsp,hres];refine⟨[],[],⟨1,?_⟩,rfl,rfl⟩;unfold DataW.trod;rw[hrt];rfl
 .rw[bi,hsp];exact XC hl hb (λt ht=>⟨(hS t (hp t ht)).1.2,(hS t (hp t ht)).2⟩) hA (λx hx=>hW'.lt x hx)
 .rw[bi,hsp,hvars];rfl
section
variable {P:Program} {n:Nat} {t:TypeId} {ds:List D}
def zCp(hu:P.underlying t=sS .bool)(h:nz P n t ds):∃i,ds=[.bool i]:=by
 cases n with
 |zero=>exact(by unfold nz at h;exact h:False).elim
 |succ n=>unfold nz at h;rw[hu]at h;exact h
def XD(hu:P.underlying t=sS .string)(h:nz P n t ds):∃i,ds=[.str i]:=by
 cases n with
 |zero=>exact(by unfold nz at h;exact h:False).elim
 |succ n=>unfold nz at h;rw[hu]at h;exact h
def zyi{fs:Array Field}(hu:P.underlying t=sS (.struct fs))(h:nz P n t ds):∃m,n=m+1/\BM P m (fs.toList.map (·.type)) ds:=by
 cases n with
 |zero=>exact(by unfold nz at h;exact h:False).elim
 |succ n=>unfold nz at h;rw[hu]at h;exact⟨n,rfl,h⟩
def zEV(h:BM P n [] ds):ds=[]:=by unfold BM at h;exact h
def XE{ts:qD}(h:BM P n (t::ts) ds):∃a b,ds=a++b/\nz P n t a/\BM P n ts b:=by unfold BM at h;exact h
def zHk{α:Type}{enc:α->oQ}{es:o5}(h:∀x,x∈es->∃a,x=enc a):∃l:List α,es=l.map enc:=by
 induction es with
 |nil=>exact⟨[],rfl⟩
 |cons e es ih=>
  let⟨a,ha⟩:=h e oC;let⟨l,hl⟩:=ih (λx hx=>h x (by simp[hx]));exact⟨a::l,by simp[ha,hl]⟩
def zzD{e:TypeId}{s:Nat}{α:Type}{enc:α->oQ}(hu:P.underlying t=sS (.slice e))(hs:P.cellsOf e=s)(he:∀m,m<n->∀x,nz P m e x->∃a,x=enc a)(h:nz P n t ds):∃l:List α,ds=[.sl oK s (l.map enc)]:=by
 cases n with
 |zero=>exact(by unfold nz at h;exact h:False).elim
 |succ n=>
  unfold nz at h;rw[hu]at h;let⟨es,h1,h2⟩:=h;let⟨l,hl⟩:=zHk (enc:=enc) (λx hx=>he n oM x (h2 x hx));exact⟨l,by rw[h1,hs,hl]⟩
end
end Go.Abs
namespace Go.Abs
variable [jE]
def za:List Nat->List AV->List (Nat × AV)
|k::ks,v::vs=>(k,v)::za ks vs
|_,_=>[]
def Fe(S:St)(ks:List Nat):List Nat->List (Nat × AV)
|[]=>[]
|k::r=>if k∈ks then Fe S ks r else(k,S.get k)::Fe S ks r
attribute [simp] za Fe
def W.loopL{P:Program}{c:Ctx}{Q:Exit->St->Prop}{S:St}{Y:Type}(hm:P.follows .mixedOrders=tT)(hp:c.pure){body:MC}{g:Tag (body,Q)}(live ks:oO)(I:Y->Prop)(ch:Y->oo)(bs:Y->oV)(μ:Y->Nat)(x0:Y)(l0:oO)(hI:I x0)
  (h0:gy l0 S (za ks (ch x0)++Fe S ks live) (bs x0))
  (round:∀x,I x->w_ P c body (yE (Next I (λx=>za ks (ch x)++Fe S ks live) bs μ x ⟨⟩) Q) ⟨⟩ (hd (za ks (ch x)++Fe S ks live) (bs x))):mI P c body Q g S:=
 fM hm hp I (λx=>za ks (ch x)++Fe S ks live) bs μ x0 l0 hI h0 round
abbrev fO:=@W.loopL
end Go.Abs
namespace Go.Abs
variable {S:St}{l:List Nat}{i:Nat}{f: FuncId}{fn: Func}{code: Code}{mc: MC}{rs: List MR}{args: List AV}{_d: List A_}
variable [jE]
def nL:Nat->List AV->List (Nat × AV)
|_,[]=>[]
|i,v::vs=>(i,v)::nL (i+1) vs
def uA:Nat->List (Nat × Nat)->List A_
|_,[]=>[]
|i,t::ts=>.G_ t i::uA (i+1) ts
def AC.ok:AC->Prop
|.d x=>x.ok
|_=>True
def AC.okL:List AC->Prop
|[]=>True
|c::cs=>c.ok/\AC.okL cs
def AV.ok:AV->Prop
|.c x=>x.ok
|.ag cs=>AC.okL cs
|_=>True
def AV.okL:List AV->Prop
|[]=>True
|v::vs=>v.ok/\AV.okL vs
def AC.okE(s:Nat):List (List AC)->Prop
|[]=>True
|e::es=>(lN e=s/\AC.okL e)/\AC.okE s es
def A_.ok:A_->Prop
|.box cs=>AC.okL cs
|.arr s es=>lN es<=zaf/\AC.okE s es
|_=>True
section
variable {h:PH} {ρ:RM}
def m_.ok:∀{x:AC} {v:Value},m_ h ρ x v->x.ok
|.d x,v,r=>by simp only[m_]at r;exact RepD.ok _ _ r
|.ptr _ _,_,_=>trivial
|.ept _ _ _ _,_,_=>trivial
|.x_ _ _ _ _,_,_=>trivial
|.map _,_,_=>trivial
|.fn _ _,_,_=>trivial
|.op _,_,_=>trivial
def gY.ok:∀{cs:o7} {vs:oP},gY h ρ cs vs->AC.okL cs
|[],_,_=>trivial
|_::_,[],r=>by simp[gY]at r
|c::cs,v::vs,r=>by
 simp only[gY]at r;exact⟨r.1.2.ok,r.2.ok⟩
def g_.ok:∀{x:AV} {v:Value},g_ h ρ x v->x.ok
|.c x,v,r=>by simp only[g_]at r;exact m_.ok r
|.ag cs,v,r=>by
 simp only[g_]at r;let⟨vs,_,_,r⟩:=r;exact r.ok
|.a? _,_,_=>trivial
def iC.ok:∀{xs:oo} {vs:oP},iC h ρ xs vs->AV.okL xs
|[],_,_=>trivial
|_::_,[],r=>by simp[iC]at r
|x::xs,v::vs,r=>by
 simp only[iC]at r;exact⟨r.1.ok,r.2.ok⟩
def gp.ok{s:Nat}:∀{es:oh} {vs:oP},gp h ρ s es vs->AC.okE s es
|[],_,_=>trivial
|e::es,vs,r=>by
 simp only[gp]at r;exact⟨⟨r.1,r.2.1.ok⟩,r.2.2.ok⟩
def iw.ok{p:Nat × Nat}{blk:A_}{w:Heap}(r:iw h ρ p blk w):blk.ok:=by
 cases blk with
 |box cs=>let⟨vs,T,_,_,r⟩:=r;exact r.ok
 |arr s es=>
  rcases r with⟨_,rfl⟩|⟨vs,T,_,_,_,h4,r⟩
  .exact⟨oC,trivial⟩
  .exact⟨h4,r.ok⟩
 |_=>trivial
def iC.len:∀{xs:oo} {vs:oP},iC h ρ xs vs->lN vs=lN xs
|[],vs,r=>by simp only[iC]at r;subst r;rfl
|_::_,[],r=>by simp[iC]at r
|x::xs,v::vs,r=>by simp only[iC]at r;simp[r.2.len]
end
def mJ(S:St)(l:List Nat):List Nat->List A_->Prop
|[],[]=>True
|j::js,b::bs=>(b=.dead\/S.m j=b.N_ (Z' l))/\mJ S l js bs
|_,_=>False
def kV(S:St)(l:List Nat):List Nat->List Nat->List (Nat × Nat)->List A_->Prop
|_,_,[],_=>True
|j::js,q::qs,t::ts,b::bs=>(b=.dead\/S.m q=.G_ t j)/\kV S l js qs ts bs
|_,_,_,_=>False
def kD(v:AV)(_d:oV)(ts:o6)(vs:oo)(S:St):Prop:=
∃l qs:oO,l.Nodup/\(∀(h:PH) (ρ:RM) (vC:Value),g_ h ρ (one? vs) vC->g_ h ρ (v.N_ (Z' l)) vC)/\mJ S l l _d/\kV S l l qs ts _d
def kD.mk{v:AV}{_d:oV}{ts:o6}{vs:oo}{S:St}(l qs:oO)(h:l.Nodup/\one? vs=v.N_ (Z' l)/\mJ S l l _d/\kV S l l qs ts _d):kD v _d ts vs S:=⟨l,qs,h.1,(λ_ _ _ r=>h.2.1▸r),h.2.2⟩
def kD.mkD{v:AV}{_d:oV}{ts:o6}{vs:oo}{S:St}(l qs:oO)(h:l.Nodup/\one? vs=v.N_ (Z' l)/\mJ S l l _d/\kV S l l qs ts _d:=by simp):kD v _d ts vs S:=kD.mk l qs h
def vT(rs:qC)(v:AV)(_d:oV)(ts:o6):Exit->St->Prop
|.ret,S|.normal,S=>zX S rs λvs=>kD v _d ts vs S
|_,_=>False
def yI(rs:qC)(o:XO)(_d:oV)(ts:o6):Exit->St->Prop
|.ret,S|.normal,S=>match o with
 |.ret v=>zX S rs λvs=>kD v _d ts vs S
 |.pan _=>False
|.panic ch,S=>match o with
 |.pan pv=>ch=[{v:=pv,recovered:=oK}]/\∃l qs:oO,l.Nodup/\mJ S l l _d/\kV S l l qs ts _d
 |.ret _=>False
|_,_=>False
@[simp] theorem zMF(rs:qC)(v:AV)(_d:oV)(ts:o6)(S:St):vT rs v _d ts .ret S=Eg S rs (λvs=>kD v _d ts vs S) ⟨⟩:=oF
@[simp] theorem zKP(rs:qC)(v:AV)(_d:oV)(ts:o6)(S:St):vT rs v _d ts .normal S=Eg S rs (λvs=>kD v _d ts vs S) ⟨⟩:=oF
@[simp] theorem zMG(rs:qC)(o:XO)(_d:oV)(ts:o6)(S:St):yI rs o _d ts .ret S=(match o with
 |.ret v=>Eg S rs (λvs=>kD v _d ts vs S) ⟨⟩
 |.pan _=>False):=oF
@[simp] theorem zKQ(rs:qC)(o:XO)(_d:oV)(ts:o6)(S:St):yI rs o _d ts .normal S=(match o with
 |.ret v=>Eg S rs (λvs=>kD v _d ts vs S) ⟨⟩
 |.pan _=>False):=oF
def BN(pv:Value)(o:XO)(_d:oV)(ts:o6)(S:St):Prop:=match o with
 |.pan p=>pv=p/\∃l qs:oO,l.Nodup/\mJ S l l _d/\kV S l l qs ts _d
 |.ret _=>False
def BN.mk{pv:Value}{_d:oV}{ts:o6}{S:St}(l qs:oO)(h:l.Nodup/\mJ S l l _d/\kV S l l qs ts _d):BN pv (.pan pv) _d ts S:=⟨rfl,l,qs,h⟩
@[simp] theorem zLz(rs:qC)(o:XO)(_d:oV)(ts:o6)(pv:Value)(S:St):yI rs o _d ts (.panic [{v:=pv,recovered:=oK}]) S=BN pv o _d ts S:=by
 cases o<;>simp[yI,BN]
attribute [simp] nL uA mJ kV AC.lv AC.lvs AV.lv AV.lvs A_.lv AC.lvs_D S_ xq ng p8
def Pp:∀(i:Nat) (ts:List (Nat × Nat)),(uA i ts).length=lN ts
|_,[]=>rfl
|i,t::ts=>by simp[uA,Pp (i+1) ts]
def Pq:∀(i:Nat) (ts:List (Nat × Nat)) (j:Nat),(uA i ts)[j]?=(ts[j]?).map λt=>.G_ t (i+j)
|_,[],j=>by simp[uA]
|i,t::ts,0=>by simp[uA]
|i,t::ts,j+1=>by
 simp only[uA,List.getElem?_cons_succ];rw[Pq (i+1) ts j,show i+1+j=i+(j+1) by omega]
def XF{h:PH}{ρ:RM}:∀{ds:List AV} {us:List Value} (i:Nat),iC h ρ ds us->∀k,g_ h ρ (look (nL i ds) k) (if i<=k then us.getD (k-i) undef else undef)
|[],us,i,_,k=>by simp[nL,look,g_,m_,RepD]
|_::_,[],_,r,_=>by simp[iC]at r
| d::ds,u::us,i,r,k=>by
 simp only[iC]at r;simp only[nL,look];by_cases hk:k=i
 .subst hk;simp;exact r.1
 .rw[aB hk];have:=XF (i+1) r.2 k;by_cases hle:i<=k
  .rw[aC hle];rw[aC oM]at this;rw[show k-i=(k-(i+1))+1 from by omega];simpa using this
  .rw[aB hle];rw[aB oM]at this;exact this
def XG:∀{js:List Nat} {bs:List A_},mJ S l js bs->lN js=lN bs/\∀i,i<lN js->r_ bs i=.dead\/S.m (js.getD i 0)=(r_ bs i).N_ (Z' l)
|[],[],_=>⟨rfl,λi hi=>by simp at hi⟩
|[],_::_,h=>by simp[mJ]at h
|_::_,[],h=>by simp[mJ]at h
|j::js,b::bs,h=>by
 simp only[mJ]at h;let⟨h1,h2⟩:=XG h.2;refine⟨by simp[h1],λi hi=>?_⟩;cases i with
 |zero=>simpa[r_]using h.1
 |succ i=>simpa[r_]using h2 i (uM hi)
def XH:∀{js qs:List Nat} {ts:List (Nat × Nat)} {bs:List A_},kV S l js qs ts bs->∀i t,ts[i]?=sS t->r_ bs i=.dead\/∃q,S.m q=.G_ t (js.getD i 0)
|_,_,[],_,_,i,t,e=>by simp at e
|[],_,_::_,_,h,_,_,_=>by simp[kV]at h
|_::_,[],_::_,_,h,_,_,_=>by simp[kV]at h
|_::_,_::_,_::_,[],h,_,_,_=>by simp[kV]at h
|j::js,q::qs,t::ts,b::bs,h,0,t',e=>by
 simp only[kV]at h;simp at e;subst e;rcases h.1 with h|h
 .exact .inl (by simpa[r_]using h)
 .exact .inr ⟨q,uM h⟩
|j::js,q::qs,t::ts,b::bs,h,i+1,t',e=>by
 simp only[kV]at h;have:=XH h.2 i t' (uM e);simpa[r_]using this
def MH{bs:oV}(h:i<lN bs):bs[i]?=sS (r_ bs i):=by
 unfold r_;rw[aH,aA h];rfl
def wR{bs:oV}(h:lN bs<=i):r_ bs i=.c?:=by
 unfold r_;rw[aH,aR h];rfl
section
variable {P:Program}
def jM.of_walk{bs : List A_} {o : XO}  (hf : P.funcs[f]? = sS fn) (hb : fn.body = sS code) (hname : (fn.name != "runtime.NumGoroutine") = tT)
  (hc:w? P fn.ntmps mc code=tT) (hr:kJ P rs fn.results.toList=tT) (hn:lN args<=fn.ntmps) (hbs:∀i,i<lN bs->r_ bs i≠.c?) (hle:lN bs<=lN _d) (hnon:∀i,i<lN _d->r_ _d i≠.c?)
  (_w:∀i,lN bs<=i->i<lN _d->r_ _d i≠.dead) (hvl:∀v,o=.ret v->v.lv (live _d)=tT) (hbl:∀b,b∈_d->b.lv (live _d)=tT)
  (h:∀ts:o6,lN ts=lN bs->AV.okL args->(∀b,b∈bs->b.ok)->∀c:Ctx,c.N=fn.ntmps->c.pure->AW P c mc (yI rs o _d ts) ⟨nL 0 args,r_ (bs++uA 0 ts),lN bs+lN ts⟩):jM P f args bs o _d:=by
 have hcal:callee P f=tT:=by unfold callee;rw[hf];simp only[hb];simpa using hname
 suffices h0:∀(ph:PH) (ρ0:RM) (w:World) (us:oP),E_ ph ρ0 (r_ bs) w.heap->Ac P ph->jE.ok ph (jK ρ0 (r_ bs)) w->iC ph ρ0 args us->Calls P f us.toArray w λe w'=>∃(h':PH) (ρ':RM),(match o with
   |.ret v=>∃vC,e=.returned vC/\g_ h' ρ' v vC
   |.pan pv=>e=.panicked [{v:=pv,recovered:=oK}])/\tY ph ρ0 (r_ bs) w.heap h' ρ' (r_ _d) w'.heap/\E_ h' ρ' (r_ _d) w'.heap/\Same w w'/\∀i,i<lN bs->ρ' i=ρ0 i by
  cases o with
  |ret v=>
   refine⟨hcal,hle,hnon,hvl v rfl,hbl,λph ρ0 w us H0 hG hS ra=>(h0 ph ρ0 w us H0 hG hS ra).mono λe w' hh=>?_⟩;let⟨h',ρ',⟨vC,e1,rv⟩,a,b,c,d⟩:=hh;exact⟨vC,h',ρ',e1,a,b,c,rv,d⟩
  |pan pv=>
   refine⟨hcal,hle,hnon,hbl,λph ρ0 w us H0 hG hS ra=>(h0 ph ρ0 w us H0 hG hS ra).mono λe w' hh=>?_⟩;let⟨h',ρ',e1,a,b,c,d⟩:=hh;exact⟨h',ρ',e1,a,b,c,d⟩
 intro ph ρ0 w us H0 hG hS ra;have hlen:=ra.len;have some0:∀i,i<lN bs->∃p,ρ0 i=sS p:=λi hi=>by
  cases e:ρ0 i with
  |none=>exact absurd ((H0.dom i).2 e) (hbs i hi)
  |some p=>exact⟨p,rfl⟩
 have none0:∀i,lN bs<=i->ρ0 i=nN:=λi hi=>(H0.dom i).1 (wR hi);let ts:o6:=(List.range (lN bs)).map λi=>(ρ0 i).getD (0,0);have _e:lN ts=lN bs:=by simp[ts]
 have tsget:∀i,i<lN bs->∀p,ρ0 i=sS p->ts[i]?=sS p:=λi hi p hp=>by
  simp only[ts,List.getElem?_map,List.getElem?_range hi,Option.map_some,hp];rfl
 let ρ1:RM:=λb=>if b<lN bs then ρ0 b else if b<lN bs+lN bs then ρ0 (b-lN bs)else nN;have m1a:∀b,b<lN bs->r_ (bs++uA 0 ts) b=r_ bs b:=λb hb=>by
  unfold r_;rw[aH,aH,aj hb]
 have m1b:∀j,j<lN bs->∀p,ρ0 j=sS p->r_ (bs++uA 0 ts) (lN bs+j)=.G_ p j:=λj hj p hp=>by
  unfold r_;rw[aH,ay oM,cO,Pq,tsget j hj p hp];simp
 have m1c:∀b,lN bs+lN bs<=b->r_ (bs++uA 0 ts) b=.c?:=λb hb=>wR (by rw[aV,Pp,_e];exact hb);have rle:ρ0.le ρ1:=λb p hp=>by
  have:b<lN bs:=by
   rcases aY b (lN bs) with h|h
   .exact h
   .rw[none0 b h]at hp;cases hp
  show(if b<lN bs then _ else _)=_;rw[aC this];exact hp
 have r1:∀b p,ρ1 b=sS p->(b<lN bs/\ρ0 b=sS p)\/∃j,j<lN bs/\b=lN bs+j/\ρ0 j=sS p:=λb p hp=>by
  simp only[ρ1]at hp;split at hp
  .exact .inl ⟨by assumption,hp⟩
  .split at hp
   .exact .inr ⟨b-lN bs,oM,oM,hp⟩
   .cases hp
 have H1:E_ ph ρ1 (r_ (bs++uA 0 ts)) w.heap:=by
  refine⟨H0.pers,?_,?_,?_,?_⟩
  .intro b;by_cases h1:b<lN bs
   .rw[m1a b h1,H0.dom];show _↔(if b<lN bs then _ else _)=_;rw[aC h1]
   .by_cases h2:b<lN bs+lN bs
    .obtain⟨j,rfl⟩:∃j,b=lN bs+j:=⟨b-lN bs,oM⟩
     let⟨p,hp⟩:=some0 j oM;rw[m1b j oM p hp];show _↔(if _ then _ else if _ then ρ0 (lN bs+j-lN bs)else _)=_;rw[aB h1,aC h2,cO,hp];simp
    .rw[m1c b oM];show _↔(if _ then _ else if _ then _ else _)=_;rw[aB h1,aB h2];simp
  .intro b p hp;rcases r1 b p hp with⟨h1,h2⟩|⟨j,h1,rfl,h2⟩
   .rw[m1a b h1];exact iw.congr (fU ph) rle rfl (H0.own b p h2)
   .rw[m1b j h1 p h2];exact⟨rfl,rle _ _ h2⟩
  .intro b c p q hb hc' _I hrc he;rcases r1 b p hb with⟨h1,h2⟩|⟨j,h1,rfl,h2⟩
   .rcases r1 c q hc' with⟨h3,h4⟩|⟨k,h3,rfl,h4⟩
    .rw[m1a b h1]at _I;rw[m1a c h3]at hrc;exact H0.inj b c p q h2 h4 _I hrc he
    .rw[m1b k h3 q h4]at hrc;exact hrc.elim
   .rw[m1b j h1 p h2]at _I;exact _I.elim
  .intro b p hb _I;rcases r1 b p hb with⟨h1,h2⟩|⟨j,h1,rfl,h2⟩
   .rw[m1a b h1]at _I;exact H0.sep b p h2 _I
   .rw[m1b j h1 p h2]at _I;exact _I.elim
 let c:Ctx:=⟨ph,ρ0,r_ bs,w,fn.ntmps,[]⟩
 have hpure:c.pure:=trivial;have hblk:∀b,b∈bs->b.ok:=λb hb=>by
  obtain⟨i,hi,rfl⟩:=bg hb;let⟨p,hp⟩:=some0 i hi;have:=(H0.own i p hp).ok;rwa[show r_ bs i=bs[i] by unfold r_;rw[aH,aA hi];rfl]at this
 refine calls_of_wp hf hb (wp_mono (h ts _e ra.ok hblk c rfl hpure code hc _ w ?_) λe a' w' ⟨S',r',q⟩=>?_)
 .refine⟨hG,hS,rfl,?_,ph,ρ1,H1,⟨fU ph,λB _ _=>rfl,aJ _,λB _ _=>rfl,?_⟩,fZ w,λk=>?_⟩
  .simp[c];omega
  .intro b p hb _I;rcases r1 b p hb with⟨h1,h2⟩|⟨j,h1,rfl,h2⟩
   .have _I:Real (r_ (bs++uA 0 ts) b) p:=_I;rw[m1a b h1]at _I;exact .inr ⟨b,p,h2,_I,rfl⟩
   .have _I:Real (r_ (bs++uA 0 ts) (lN bs+j)) p:=_I;rw[m1b j h1 p h2]at _I;exact _I.elim
  .show g_ ph ρ1 (look (nL 0 args) k) _;have ra1:iC ph ρ1 args us:=iC.mono (fU ph) rle _ _ ra;have:=XF 0 ra1 k;simp only[eF,if_true,dW]at this;have e1:(us.toArray++Array.replicate (fn.ntmps-us.toArray.size) undef).getD k undef=us.getD k undef:=by
    rw[aZ,aH,Array.getElem?_append];split
    .simp
    next hh=>
     rw[aR (uM hh)];simp only[bZ];split<;>rfl
   rw[e1];exact this
 .let⟨ph',ρS,H,S0,e0,hg⟩:=r'.ex
  have core:∀l qs:oO,l.Nodup->mJ S' l l _d->kV S' l l qs ts _d->∃ρ2:RM,tY ph ρ0 (r_ bs) w.heap ph' ρ2 (r_ _d) w'.heap/\E_ ph' ρ2 (r_ _d) w'.heap/\(∀i,i<lN bs->ρ2 i=ρ0 i)/\
    ∀(v:AV) (vC:Value),v.lv (live _d)=tT->g_ ph' ρS (v.N_ (Z' l)) vC->g_ ph' ρ2 v vC:=by
   intro l qs lnd kf kp;let⟨kl,kf⟩:=XG kf
   -- which numbers are live
   have lv_:∀i,live _d i=tT↔i<lN _d/\r_ _d i≠.dead:=by
    intro i;unfold live;rcases aY i (lN _d) with hi|hi
    .rw[MH hi];have:=hnon i hi;cases e:r_ _d i<;>simp_all
    .rw[aR hi];simp;omega
   let ρ2:RM:=λi=>if i<lN bs then ρ0 i else if i<lN _d then ρS (Z' l i)else nN;have mS:∀i,live _d i=tT->S'.m (Z' l i)=(r_ _d i).N_ (Z' l):=λi hi=>by
    let⟨h1,h2⟩:=(lv_ i).1 hi;exact(kf i oM).resolve_left h2
   have rS:∀i,live _d i=tT->ρ2 i=ρS (Z' l i):=λi hi=>by
    let⟨h1,h2⟩:=(lv_ i).1 hi;show(if i<lN bs then _ else _)=_;by_cases hib:i<lN bs
    .rw[aC hib];let⟨p,hp⟩:=some0 i hib;let⟨q,hq⟩:=(XH kp i p (tsget i hib p hp)).resolve_left h2;cases e:ρS q with
     |none=>rw[(H.dom q).2 e]at hq;cases hq
     |some t=>
      have:=H.own q t e;rw[hq]at this;rw[hp];exact this.2.symm
    .rw[aB hib,aC h1]
   have mvH:∀b q,live _d b=tT->ρS (Z' l b)=sS q->ρ2 (id b)=sS q:=λb q hb hq=>by rw[<-rS b hb]at hq;exact hq
   have linj:∀i j,i<lN _d->j<lN _d->Z' l i=Z' l j->i=j:=by
    intro i j h1 h2 e;unfold Z' at e;rw[aH,aH,aA oM,aA oM]at e;simp only[Option.getD_some]at e;exact(List.getElem?_inj oM lnd).1 (by rw[aA oM,aA oM,e])
   have real_:∀b p,ρ2 b=sS p->Real (r_ _d b) p->live _d b=tT/\b<lN _d:=λb p hp hr=>by
    have hb:b<lN _d:=by
     rcases aY b (lN _d) with h|h
     .exact h
     .rw[wR h]at hr;exact hr.elim
    exact⟨(lv_ b).2 ⟨hb,λe=>by rw[e]at hr;exact hr⟩,hb⟩
   have H2:E_ ph' ρ2 (r_ _d) w'.heap:=by
    refine⟨H.pers,?_,?_,?_,?_⟩
    .intro b;by_cases h1:b<lN bs
     .let⟨p,hp⟩:=some0 b h1;show _↔(if b<lN bs then _ else _)=_;rw[aC h1,hp];simp[hnon b oM]
     .by_cases h2:b<lN _d
      .have hl:=(lv_ b).2 ⟨h2,_w b oM h2⟩;rw[rS b hl,<-H.dom,mS b hl];cases r_ _d b<;>simp[A_.N_]
      .rw[wR oM];show _↔(if _ then _ else if _ then _ else _)=_;rw[aB h1,aB h2];simp
    .intro b p hp;by_cases hd:r_ _d b=.dead
     .rw[hd];trivial
     .have hb:b<lN _d:=by
       rcases aY b (lN _d) with h|h
       .exact h
       .have h1:¬b<lN bs:=oM;simp only[ρ2]at hp;rw[aB h1,aB oM]at hp;cases hp
      have hl:=(lv_ b).2 ⟨hb,hd⟩;rw[rS b hl]at hp;have:=H.own _ p hp;rw[mS b hl]at this;have h3:=iw.mv (f2:=id) mvH (hbl _ (ah (MH hb))) this;rwa[A_.ren_id]at h3
    .intro b c' p q hb hc' _I hrc he;let⟨l1,b1⟩:=real_ b p hb _I;let⟨l2,b2⟩:=real_ c' q hc' hrc;rw[rS b l1]at hb;rw[rS c' l2]at hc';exact linj b c' b1 b2 (H.inj _ _ p q hb hc' (by rw[mS b l1];exact Real.N_.2 _I) (by rw[mS c' l2];exact Real.N_.2 hrc) he)
    .intro b p hb _I;let⟨l1,b1⟩:=real_ b p hb _I;rw[rS b l1]at hb;exact H.sep _ p hb (by rw[mS b l1];exact Real.N_.2 _I)
   refine⟨ρ2,⟨S0.hle,S0.hlow,S0.size,S0.frame,?_⟩,H2,?_,?_⟩
   .intro b p hb _I;let⟨l1,b1⟩:=real_ b p hb _I;rw[rS b l1]at hb;exact S0.own _ p hb (by rw[mS b l1];exact Real.N_.2 _I)
   .intro i hi;show(if i<lN bs then _ else _)=_;rw[aC hi]
   .intro v vC hvl _U;have:=g_.mv (f2:=id) mvH v _ hvl _U;rwa[AV.ren_id]at this
  have fin:∀v,o=.ret v->zX S' rs (λvs=>kD v _d ts vs S')->∃vC,(results fn a'.tmps).run P w'=.ok vC w'/\∃(h':PH) (ρ':RM),(∃vC',Ending.returned vC=.returned vC'/\g_ h' ρ' v vC')/\tY ph ρ0 (r_ bs) w.heap h' ρ' (r_ _d) w'.heap/\E_ h' ρ' (r_ _d) w'.heap/\Same w w'/\
    ∀i,i<lN bs->ρ' i=ρ0 i:=by
   intro v hv hk;let⟨vs,⟨l,qs,lnd,kv,kf,kp⟩,F⟩:=Lx hr hk;let⟨_F,g1,g2⟩:=F (a:=a') H hg;have hres:j_ P (results fn a'.tmps) w' (zY _F) w':=by
    unfold results;refine fG (a:=_F.toArray) (w':=w') ?_ ?_
    .rw[dK];exact g1.map (f:=List.toArray)
    .cases _F with
     |nil=>exact fF _
     |cons u _F=>
      cases _F with
      |nil=>exact fF _
      |cons u' _F=>exact fF _
   have _U:g_ ph' ρS (one? vs) (zY _F):=by
    cases vs with
    |nil=>
     simp only[iC]at g2;subst g2;simp only[one?,g_];exact⟨[],rfl,rfl⟩
    | cons x xs=>
     cases _F with
     |nil=>simp[iC]at g2
     | cons u _F=>
      cases xs with
      |nil=>
       simp only[iC]at g2;rw[g2.2];exact g2.1
      | cons y ys=>
       cases _F with
       |nil=>simp[iC]at g2
       |cons u' _F=>
        simp only[one?,g_];exact⟨_,rfl,g2⟩
   let⟨ρ2,a1,a2,a3,a4⟩:=core l qs lnd kf kp;exact⟨_,hres,ph',ρ2,⟨_,rfl,a4 v _ (hvl v hv) (kv _ _ _ _U)⟩,a1,a2,e0,a3⟩
  cases e with
  |normal=>
   refine⟨r'.defers,?_⟩;cases o with
   |ret v=>exact fin v rfl q
   |pan pv=>exact q.elim
  |ret=>
   refine⟨r'.defers,?_⟩;cases o with
   |ret v=>exact fin v rfl q
   |pan pv=>exact q.elim
  |exit _=>exact q.elim
  |goto _=>exact q.elim
  | panic ch=>
   refine⟨r'.defers,?_⟩;cases o with
   |ret v=>exact q.elim
   |pan pv=>
    let⟨e1,l,qs,lnd,kf,kp⟩:=q;let⟨ρ2,a1,a2,a3,a4⟩:=core l qs lnd kf kp;exact⟨ph',ρ2,by rw[e1],a1,a2,e0,a3⟩
  |outgrown=>exact q.elim
def q_.of_walk{bs : List A_} {v : AV}  (hf : P.funcs[f]? = sS fn) (hb : fn.body = sS code) (hname : (fn.name != "runtime.NumGoroutine") = tT)
  (hc:w? P fn.ntmps mc code=tT) (hr:kJ P rs fn.results.toList=tT) (hn:lN args<=fn.ntmps) (hbs:∀i,i<lN bs->r_ bs i≠.c?) (hle:lN bs<=lN _d) (hnon:∀i,i<lN _d->r_ _d i≠.c?)
  (_w:∀i,lN bs<=i->i<lN _d->r_ _d i≠.dead) (hvl:v.lv (live _d)=tT) (hbl:∀b,b∈_d->b.lv (live _d)=tT)
  (h:∀ts:o6,lN ts=lN bs->AV.okL args->(∀b,b∈bs->b.ok)->∀c:Ctx,c.N=fn.ntmps->c.pure->AW P c mc (vT rs v _d ts) ⟨nL 0 args,r_ (bs++uA 0 ts),lN bs+lN ts⟩):q_ P f args bs v _d:=
 jM.of_walk (o:=.ret v) hf hb hname hc hr hn hbs hle hnon _w (λv' e=>by cases e;exact hvl) hbl λts h1 h2 h3 c h4 h5=>(h ts h1 h2 h3 c h4 h5).mono λe S q=>by
  cases e<;>first|exact q|exact q.elim
end
abbrev fJ:=@kD.mkD
abbrev fK:=@kD.mk
abbrev gK:=@BN.mk
end Go.Abs
namespace Go.Abs
variable {f:FuncId}{o:XO}{fn: Func}{code: Code}{mc: MC}
variable [jE]
def CX(P:Program)(f:FuncId)(vs:oo)(m:Hp)(n:Nat)(K:AV->oO->oU->Nat->Prop)(_:Tag K):Prop:=Ad P f vs m n K
def CX.mk{P:Program}{f:FuncId}{vs:oo}{m:Hp}{n:Nat}{K:AV->oO->oU->Nat->Prop}{g:Tag K}(l:oO){args:oo}{bs:oV}{v:AV}{_d:oV}(h:q_ P f args bs v _d)
 (hs:l.Nodup/\(∀i,i∈l->i<n)/\vs=AV.b? (Z' l) args/\AV.lts (lN l) args=tT/\(∀b,b∈bs->b.lt (lN l)=tT)/\p8 m (Z' l) l bs/\xq m n (lN _d-lN bs))
 (k:K (v.N_ (Z' (l++S_ n (lN _d-lN bs)))) [] (ng (Z' (l++S_ n (lN _d-lN bs))) (l++S_ n (lN _d-lN bs)) _d) (n+(lN _d-lN bs))):CX P f vs m n K g:=
⟨l,args,bs,v,_d,h,hs.1,hs.2.1,hs.2.2.1,hs.2.2.2.1,hs.2.2.2.2.1,hs.2.2.2.2.2.1,hs.2.2.2.2.2.2,k⟩
def CX.mK{P:Program}{f:FuncId}{vs:oo}{m:Hp}{n:Nat}{K:AV->oO->oU->Nat->Prop}{g:Tag K}(l:oO){args:oo}{bs:oV}{v:AV}{_d:oV}(h:q_ P f args bs v _d)(k:K (v.N_ (Z' (l++S_ n (lN _d-lN bs)))) [] (ng (Z' (l++S_ n (lN _d-lN bs))) (l++S_ n (lN _d-lN bs)) _d) (n+(lN _d-lN bs)))
 (hs:l.Nodup/\(∀i,i∈l->i<n)/\vs=AV.b? (Z' l) args/\AV.lts (lN l) args=tT/\(∀b,b∈bs->b.lt (lN l)=tT)/\p8 m (Z' l) l bs/\xq m n (lN _d-lN bs):=by simp):CX P f vs m n K g:=CX.mk l h hs k
def IK(P:Program)(f:FuncId)(vs:oo)(m:Hp)(n:Nat)(K:AV->oU->Nat->Prop)(Kp:Value->oU->Nat->Prop)(_:Tag (K,Kp)):Prop:=Ad P f vs m n (λv _ wr n'=>K v wr n')\/JI P f vs m n Kp
def IK.mk{P:Program}{vs:oo}{m:Hp}{n:Nat}{K:AV->oU->Nat->Prop}{Kp:Value->oU->Nat->Prop}{g:Tag (K,Kp)}(l:oO){args:oo}{bs:oV}{_d:oV}(h:jM P f args bs o _d)
  (hs:l.Nodup/\(∀i,i∈l->i<n)/\vs=AV.b? (Z' l) args/\AV.lts (lN l) args=tT/\(∀b,b∈bs->b.lt (lN l)=tT)/\p8 m (Z' l) l bs/\xq m n (lN _d-lN bs))
  (k:∀v,o=.ret v->K (v.N_ (Z' (l++S_ n (lN _d-lN bs)))) (ng (Z' (l++S_ n (lN _d-lN bs))) (l++S_ n (lN _d-lN bs)) _d) (n+(lN _d-lN bs)))
  (kp:∀pv,o=.pan pv->Kp pv (ng (Z' (l++S_ n (lN _d-lN bs))) (l++S_ n (lN _d-lN bs)) _d) (n+(lN _d-lN bs))):IK P f vs m n K Kp g:=by
 cases o with
 |ret v=>exact .inl ⟨l,args,bs,v,_d,h,hs.1,hs.2.1,hs.2.2.1,hs.2.2.2.1,hs.2.2.2.2.1,hs.2.2.2.2.2.1,hs.2.2.2.2.2.2,k v rfl⟩
 |pan pv=>exact .inr ⟨l,args,bs,pv,_d,h,hs.1,hs.2.1,hs.2.2.1,hs.2.2.2.1,hs.2.2.2.2.1,hs.2.2.2.2.2.1,hs.2.2.2.2.2.2,kp pv rfl⟩
@[simp] theorem zLW{P:Program}{get:Nat->AV}{m:Hp}{n:Nat}{K:AV->oU->Nat->Prop}{Kp:Value->oU->Nat->Prop}(f:FuncId)(xs:su){g}:eX P K Kp (.callX f xs) g get m n=IK P f (xs.map (X get)) m n K Kp ⟨⟩:=oF
def IL(P:Program)(f:FuncId)(vs:oo)(m:Hp)(n:Nat)(K:AV->oO->oU->Nat->Prop)(Kp:Value->oU->Nat->Prop)(_:Tag (K,Kp)):Prop:=Ad P f vs m n K\/JI P f vs m n Kp
def IL.mk{P:Program}{vs:oo}{m:Hp}{n:Nat}{K:AV->oO->oU->Nat->Prop}{Kp:Value->oU->Nat->Prop}{g:Tag (K,Kp)}(l:oO){args:oo}{bs:oV}{_d:oV}(h:jM P f args bs o _d)
  (hs:l.Nodup/\(∀i,i∈l->i<n)/\vs=AV.b? (Z' l) args/\AV.lts (lN l) args=tT/\(∀b,b∈bs->b.lt (lN l)=tT)/\p8 m (Z' l) l bs/\xq m n (lN _d-lN bs))
  (k:∀v,o=.ret v->K (v.N_ (Z' (l++S_ n (lN _d-lN bs)))) [] (ng (Z' (l++S_ n (lN _d-lN bs))) (l++S_ n (lN _d-lN bs)) _d) (n+(lN _d-lN bs)))
  (kp:∀pv,o=.pan pv->Kp pv (ng (Z' (l++S_ n (lN _d-lN bs))) (l++S_ n (lN _d-lN bs)) _d) (n+(lN _d-lN bs))):IL P f vs m n K Kp g:=by
 cases o with
 |ret v=>exact .inl ⟨l,args,bs,v,_d,h,hs.1,hs.2.1,hs.2.2.1,hs.2.2.2.1,hs.2.2.2.2.1,hs.2.2.2.2.2.1,hs.2.2.2.2.2.2,k v rfl⟩
 |pan pv=>exact .inr ⟨l,args,bs,pv,_d,h,hs.1,hs.2.1,hs.2.2.1,hs.2.2.2.1,hs.2.2.2.2.1,hs.2.2.2.2.2.1,hs.2.2.2.2.2.2,kp pv rfl⟩
@[simp] theorem zLX{P:Program}{get:Nat->AV}{m:Hp}{n:Nat}{K:AV->oO->oU->Nat->Prop}{Kp:Value->oU->Nat->Prop}(f:FuncId)(xs:su){g}:eD P K Kp (.callX f xs) g get m n=IL P f (xs.map (X get)) m n K Kp ⟨⟩:=oF
section
variable {P:Program} {get:Nat->AV} {m:Hp} {n:Nat} {K:AV->List Nat->List (Nat × A_)->Nat->Prop}
@[simp] theorem zLY(f:FuncId)(xs:su){g}:eV P K (.callM f xs) g get m n=CX P f (xs.map (X get)) m n K ⟨⟩:=oF
@[simp] theorem zLH(x:MX)(xs:su){g}:eV P K (.calldM x xs) g get m n=(match X get x with
 |.c (.fn (.func f) k_)=>CX P f (xs.map (X get)++k_.map .c) m n K ⟨⟩
 |.c (.d (.fn (.func f) k_))=>CX P f (xs.map (X get)++k_.map λc=>.c (.d c)) m n K ⟨⟩
 |_=>False):=oF
end
def A_.tag:A_->Nat
|.c?=>0
|.dead=>1
|_=>2
attribute [simp] A_.tag
def lX(args:oo)(N:Nat)(bs:oV)(v:AV)(_d:oV):Prop:=
 lN args<=N/\(bs.all λb=>b.tag !=0)=tT/\lN bs<=lN _d/\(_d.all λb=>b.tag !=0)=tT/\((_d.drop (lN bs)).all λb=>b.tag==2)=tT/\v.lv (live _d)=tT/\(_d.all λb=>b.lv (live _d))=tT
def mD{args:oo}{N:Nat}{bs:oV}{v:AV}{_d:oV}(h:lX args N bs v _d:=by exact⟨oC,oC,oC,oC,oC,oC,oC⟩):lX args N bs v _d:=h
def kW{args:oo}{N:Nat}{bs:oV}{v:AV}{_d:oV}(h:lX args N bs v _d:=by exact⟨oC,oC,oC,oC,oC,oC,by simp[live]⟩):lX args N bs v _d:=h
def Eh{bs:oV}(h:(bs.all λb=>b.tag !=0)=tT)(i:Nat)(hi:i<lN bs):r_ bs i≠.c?:=by
 intro e;have:=ai.1 h _ (ah (MH hi));rw[e]at this;simp at this
def Ps{bs:oV}{k:Nat}(h:((bs.drop k).all λb=>b.tag==2)=tT)(i:Nat)(hk:k<=i)(hi:i<lN bs):r_ bs i≠.dead:=by
 intro e;have hm:r_ bs i∈bs.drop k:=by
  apply ah (i:=i-k);rw[bE,show k+(i-k)=i by omega];exact MH hi
 have:=ai.1 h _ hm;rw[e]at this;simp at this
def q_.of_walk'{P : Program} {f : FuncId}    {rs : List MR} {args : List AV} {bs : List A_} {v : AV} {_d : List A_} (hf : P.funcs[f]? = sS fn) (hb : fn.body = sS code) (hname : (fn.name != "runtime.NumGoroutine") = tT)
  (hc:w? P fn.ntmps mc code=tT) (hr:kJ P rs fn.results.toList=tT) (hm:P.follows .mixedOrders=tT) (hs:lX args fn.ntmps bs v _d)
  (h:∀ts:o6,lN ts=lN bs->AV.okL args->(∀b,b∈bs->b.ok)->∀c:Ctx,c.N=fn.ntmps->c.pure->w_ P c mc (vT rs v _d ts) ⟨⟩ ⟨nL 0 args,r_ (bs++uA 0 ts),lN bs+lN ts⟩):q_ P f args bs v _d:=
 q_.of_walk hf hb hname hc hr hs.1 (Eh hs.2.1) hs.2.2.1 (Eh hs.2.2.2.1) (Ps hs.2.2.2.2.1) hs.2.2.2.2.2.1 (λb hb=>ai.1 hs.2.2.2.2.2.2 b hb) λts h1 h2 h3 c h4 h5=>W.aw hm (F9 (h ts h1 h2 h3 c h4 h5))
def jM.of_walk'{P : Program} {f : FuncId}    {rs : List MR} {args : List AV} {bs : List A_} {o : XO} {_d : List A_} (hf : P.funcs[f]? = sS fn) (hb : fn.body = sS code) (hname : (fn.name != "runtime.NumGoroutine") = tT)
  (hc:w? P fn.ntmps mc code=tT) (hr:kJ P rs fn.results.toList=tT) (hm:P.follows .mixedOrders=tT) (hs:lX args fn.ntmps bs (match o with|.ret v=>v|.pan _=>.a? []) _d)
  (h:∀ts:o6,lN ts=lN bs->AV.okL args->(∀b,b∈bs->b.ok)->∀c:Ctx,c.N=fn.ntmps->c.pure->w_ P c mc (yI rs o _d ts) ⟨⟩ ⟨nL 0 args,r_ (bs++uA 0 ts),lN bs+lN ts⟩):jM P f args bs o _d:=
 jM.of_walk hf hb hname hc hr hs.1 (Eh hs.2.1) hs.2.2.1 (Eh hs.2.2.2.1) (Ps hs.2.2.2.2.1) (λv e=>by subst e;exact hs.2.2.2.2.2.1) (λb hb=>ai.1 hs.2.2.2.2.2.2 b hb) λts h1 h2 h3 c h4 h5=>W.aw hm (F9 (h ts h1 h2 h3 c h4 h5))
abbrev gN:=@CX.mK
abbrev gP:=@CX.mk
end Go.Abs
namespace Go.Abs
variable {P:Program}{f:FuncId}{args:List AV}{ds:List DV}
variable [jE]
def q_.frz{args:oo}{bs:oV}{ds:sQ}{d:D}(hp:@h_ jE.triv P f ds (.one d))(hd:∀(h h':PH) (v:Value),RepD h d v->RepD h' d v)(e:wQ (r_ bs) args=sS ds)
  (h1:∀i,i<lN bs->r_ bs i≠.c?) (h2:(bs.all λb=>b.lv (live bs))=tT):q_ P f args bs (.c (.d d)) bs:=by
 refine⟨hp.1,aJ _,h1,rfl,λb hb=>ai.1 h2 b hb,λh ρ w _o H hG hS r=>?_⟩;have k:=Lv (n:=0) H (λ_ _ _ _=>eF _) args ds _o e r;refine(hp.2 (vR h 0 w.heap) w _o (Lt H) (hG.mono (II H)) trivial k).mono λe w' hh=>?_;let⟨vC,h',e1,e2,e3,e4,e5,e6,e7,e8⟩:=hh;have hx:∀B,B<w.heap.size->w'.heap[B]?=w.heap[B]?:=e6;have hP:∀B o,h B=sS o->w'.heap[B]?=sS o:=λB o he=>by
  rw[e6 B (H.lt he)];exact H.pers B o he
 refine⟨vC,h,ρ,e1,⟨λ_ _ he=>he,λB hB _=>rfl,e5,λB hB _=>e6 B hB,λb p hp hr=>.inr ⟨b,p,hp,hr,rfl⟩⟩,H.grow (λ_ _ he=>he) hP (λB hB _=>⟨e6 B hB,rfl⟩),e7,?_,λ_ _=>rfl⟩;simp only[jJ]at e8;simp only[g_,m_];exact hd _ _ _ e8
def q_.frzI{args:oo}{bs:oV}{ds:sQ}{k:IntKind}{i:Int}(hp:@h_ jE.triv P f ds (.one (.int k i)))(e:wQ (r_ bs) args=sS ds)
  (h1:(bs.all λb=>b.tag !=0)=tT) (h2:(bs.all λb=>b.lv (live bs))=tT):q_ P f args bs (.c (.d (.int k i))) bs:=
 q_.frz hp (λh h' v r=>by simpa[RepD]using r) e (Eh h1) h2
end Go.Abs
namespace Go.Abs
variable [jE]
mutual
def D.K_:D->D
|.sl _ s es=>.sl oK s (D.O_ es)
|.any=>.any
|.int k n=>.int k n
|.bool b=>.bool b
|.str s=>.str s
|.sc v=>.sc v
|.rp cs o=>.rp (D.W_ cs) o
|.fn f c=>.fn f c
|.ifc t a c=>.ifc t a c
|.mp k v=>.mp k v
def D.W_:List D->List D
|[]=>[]
|d::ds=>d.K_::D.W_ ds
def D.O_:List (List D)->List (List D)
|[]=>[]
|e::es=>D.W_ e::D.O_ es
end
def D.erdL_length:∀ds:List D,(D.W_ ds).length=lN ds
|[]=>rfl
|d::ds=>by simp[D.W_,D.erdL_length ds]
def D.erdE_length:∀es:List (List D),(D.O_ es).length=lN es
|[]=>rfl
|d::ds=>by simp[D.O_,D.erdE_length ds]
mutual
def RepD.K_{h:PH}:∀(d:D) (v:Value),RepD h d v->RepD h d.K_ v
|.sl x s es,v,r=>by
 simp only[D.K_];simp only[RepD]at r⊢;let⟨a,cap,r1,r2,r3,r4,r5,r6,r7⟩:=r;refine⟨a,cap,by rw[r1,D.erdE_length],by rw[D.erdE_length];exact r2,(λh=>by cases h),by rw[D.erdE_length];exact r4,(λha=>⟨?_,(r5 ha).2⟩),r6,RepE.K_ s es _ r7⟩;rw[(r5 ha).1];rfl
|.any,v,r=>by simp only[D.K_];exact r
|.int k n,v,r=>by simp only[D.K_];exact r
|.bool b,v,r=>by simp only[D.K_];exact r
|.str s,v,r=>by simp only[D.K_];exact r
|.sc u,v,r=>by simp only[D.K_];exact r
|.rp cs o,v,r=>by
 simp only[D.K_];simp only[RepD]at r⊢;let⟨B,o',e1,e2⟩:=r;exact⟨B,o',e1,RepL.K_ _ _ e2⟩
|.fn f c,v,r=>by simp only[D.K_];exact r
|.ifc t a c,v,r=>by simp only[D.K_];exact r
|.mp a c,v,r=>by simp only[D.K_];exact r
def RepL.K_{h:PH}:∀(ds:List D) (vs:List Value),RepL h ds vs->RepL h (D.W_ ds) vs
|[],vs,r=>by simp[D.W_,RepL]
|_::_,[],r=>by simp[RepL]at r
|d::ds,v::vs,r=>by
 simp only[RepL]at r;simp only[D.W_,RepL];exact⟨⟨r.1.1,RepD.K_ d v r.1.2⟩,RepL.K_ ds vs r.2⟩
def RepE.K_{h:PH}(s:Nat):∀(es:List (List D)) (vs:List Value),RepE h s es vs->RepE h s (D.O_ es) vs
|[],vs,r=>by simp[D.O_,RepE]
|e::es,vs,r=>by
 simp only[RepE]at r;simp only[D.O_,RepE];exact⟨by rw[D.erdL_length];exact r.1,RepL.K_ e vs r.2.1,RepE.K_ s es _ r.2.2⟩
end
mutual
def DV.K_:DV->DV
|.one x=>.one x.K_
|.agg cs=>.agg (D.W_ cs)
|.a? vs=>.a? (DV.R_ vs)
def DV.R_:List DV->List DV
|[]=>[]
|v::vs=>v.K_::DV.R_ vs
end
mutual
def jJ.K_{h:PH}:∀{d:DV} {v:Value},jJ h d v->jJ h d.K_ v
|.one x,v,r=>by simp only[jJ,DV.K_]at r⊢;exact RepD.K_ _ _ r
|.agg cs,v,r=>by
 simp only[jJ,DV.K_]at r⊢;let⟨vs,r1,r2,r3⟩:=r;exact⟨vs,r1,by rw[r2,D.erdL_length],RepL.K_ _ _ r3⟩
|.a? xs,v,r=>by
 simp only[jJ,DV.K_]at r⊢;let⟨vs,r1,r2⟩:=r;exact⟨vs,r1,il.R_ r2⟩
def il.R_{h:PH}:∀{ds:List DV} {vs:List Value},il h ds vs->il h (DV.R_ ds) vs
|[],_,r=>by simpa[il,DV.R_]using r
|_::_,[],r=>by simp[il]at r
|d::ds,v::vs,r=>by
 simp only[il]at r;simp only[DV.R_,il];exact⟨jJ.K_ r.1,il.R_ r.2⟩
end
def h_.K_{P:Program}{f:FuncId}{args args':sQ}{v:DV}(h:h_ P f args' v)(e:DV.R_ args=args'):h_ P f args v:=by
 subst e;exact⟨h.1,λph w us hp hG hS r=>h.2 ph w us hp hG hS (il.R_ r)⟩
end Go.Abs
namespace Go.Abs
end Go.Abs
namespace Go.Abs
variable {h:PH}{ρ:RM}
variable [jE]
def AC.K_:AC->AC
|.d x=>.d x.K_
|c=>c
mutual
def AV.K_:AV->AV
|.c x=>.c x.K_
|.ag cs=>.ag (cs.map AC.K_)
|.a? vs=>.a? (AV.R_ vs)
def AV.R_:List AV->List AV
|[]=>[]
|v::vs=>AV.K_ v::AV.R_ vs
end
def m_.K_:∀{x:AC} {v:Value},m_ h ρ x v->m_ h ρ x.K_ v
|.d x,v,r=>by simp only[m_,AC.K_]at r⊢;exact RepD.K_ _ _ r
|.ptr _ _,_,r=>r
|.ept _ _ _ _,_,r=>r
|.x_ _ _ _ _,_,r=>r
|.map _,_,r=>r
|.fn _ _,_,r=>r
|.op _,_,r=>r
def gY.K_:∀{cs:List AC} {vs:List Value},gY h ρ cs vs->gY h ρ (cs.map AC.K_) vs
|[],vs,r=>by simp[gY]
|_::_,[],r=>by simp[gY]at r
|c::cs,v::vs,r=>by
 simp only[gY,List.map_cons]at r⊢;exact⟨⟨r.1.1,m_.K_ r.1.2⟩,gY.K_ r.2⟩
mutual
def g_.K_{h:PH}{ρ:RM}:∀{x:AV} {v:Value},g_ h ρ x v->g_ h ρ x.K_ v
|.c x,v,r=>by simp only[g_,AV.K_]at r⊢;exact m_.K_ r
|.ag cs,v,r=>by
 simp only[g_,AV.K_]at r⊢;let⟨vs,h1,h2,h3⟩:=r;exact⟨vs,h1,uM h2,gY.K_ h3⟩
|.a? xs,v,r=>by
 simp only[g_,AV.K_]at r⊢;let⟨vs,h1,h2⟩:=r;exact⟨vs,h1,iC.R_ h2⟩
def iC.R_{h:PH}{ρ:RM}:∀{xs:List AV} {vs:List Value},iC h ρ xs vs->iC h ρ (AV.R_ xs) vs
|[],vs,r=>by simpa[iC,AV.R_]using r
|_::_,[],r=>by simp[iC]at r
|x::xs,v::vs,r=>by
 simp only[iC,AV.R_]at r⊢;exact⟨g_.K_ r.1,iC.R_ r.2⟩
end
def kD.mkE{v:AV}{_d:oV}{ts:o6}{vs:oo}{S:St}(l qs:oO)(h:l.Nodup/\(one? vs).K_=v.N_ (Z' l)/\mJ S l l _d/\kV S l l qs ts _d):kD v _d ts vs S:=
⟨l,qs,h.1,(λ_ _ _ r=>h.2.1▸g_.K_ r),h.2.2⟩
abbrev fH:=@kD.mkE
end Go.Abs
namespace Go.Abs
variable {α:Type}{P:Program}{f:FuncId}{c:MC}{rs:List MR}{fn:Func}
def bs(l:oO):fD:=⟨(l.map UInt8.ofNat).toArray⟩
inductive TY where
|i (k:IntKind)|s|b|o (x:D) (n:Nat)|l (e:Nat)|r (z y:Nat) (f:List Nat)|a (z n e:Nat)|m (k e:Nat)
def gJ:List α->List α->List α
|[],r=>r
|x::l,r=>x::gJ l r
def MJ(x:α):List α->Nat->α
|[],_=>x
|y::_,0=>y
|_::l,n+1=>MJ x l n
def Pt(f:Nat->List D):List Nat->List D
|[]=>[]
|x::l=>gJ (f x) (Pt f l)
def wS:TY->Nat
|.r z _ _=>z
|.a z _ _=>z
|_=>1
def JX:TY->Bool
|.r _ _ _=>tT
|.a _ _ _=>tT
|_=>oK
def MK:TY->Nat
|.i .u8=>1
|.i _=>8
|.s=>16
|.b=>1
|.o _ n=>n
|.l _=>24
|.r _ y _=>y
|_=>8
section
variable (T:Nat->TY)
def XI:TY->Nat
|.l e=>wS (T e)
|_=>0
def Ff:Nat->List D->List D
|0,_=>[]
|n+1,l=>gJ l (Ff n l)
def gZ:Nat->TY->List D
|_,.i k=>[.int k 0]
|_,.s=>[.str (bs [])]
|_,.b=>[.bool oK]
|_,.o x _=>[x]
|_,.l e=>[.sl tT (wS (T e)) []]
|n+1,.r _ _ f=>Pt (λt=>gZ n (T t)) f
|n+1,.a _ k e=>Ff k (gZ n (T e))
|_,_=>[.sc (.map nN)]
def Pv:List UInt8->List Nat
|[]=>[]
|c::l=>c.toNat::Pv l
def gV(t:TY):Value->D
|.bool b=>.bool b
|.int k n=>.int k n
|.string ⟨⟨l⟩⟩=>.str (bs (Pv l))
|.pointer _=>.sc (.pointer nN)
|.nilFunc=>.sc .nilFunc
|.nilIface=>.sc .nilIface
|.map _=>.sc (.map nN)
|.slice _ _ _=>.sl tT (XI T t) []
|_=>.any
def gX(t:TY):Operand->MX
|.tmp k=>.t k
|.func f=>.k (.fn (.func f) [])
|.const (.agg _)=>.a (gZ T 9 t)
|.const v=>.k (gV T t v)
|_=>.k .any
def D7:List Operand->List Nat->List MX
|x::l,t::ts=>gX T (T t) x::D7 l ts
|x::l,[]=>gX T .s x::D7 l []
|[],_=>[]
def gO:Option Operand->Option MX
|none=>nN
|some x=>sS (gX T .s x)
def gH(k d:Nat):List (Nat × Nat)->Bool
|[]=>oK
|x::l=>match x.1==k,x.2==d with
 |true,tT=>tT
 |_,_=>gH k d l
def JY:TY->Nat
|.s=>1
|.b=>2
|.r _ _ _=>3
|_=>0
def JZ:Nat->List Nat->Nat × Nat
|0,t::_=>(0,t)
|n+1,t::l=>match JZ n l with|(o,u)=>(wS (T t)+o,u)
|_,[]=>(0,0)
def Pw:List Nat->List (Nat × Operand)->List (Nat × Nat × MX)
|_,[]=>[]
|f,(i,x)::l=>match JZ T i f with|(o,u)=>(o,wS (T u),gX T (T u) x)::Pw f l
def gEs(e:Nat):List (Nat × Operand)->List (Nat × Nat × MX)
|[]=>[]
|(i,x)::l=>(i*wS (T e),wS (T e),gX T (T e) x)::gEs e l
def J2(e:Nat):List (Nat × Operand)->List MX
|[]=>[]
|(_,x)::l=>gX T (T e) x::J2 e l
def Px:List Nat->List Nat
|[]=>[]
|t::l=>JY (T t)::Px l
def jF:ni:=.mv (.k .any)
def J3(op:BinOp)(x y:Operand):TY->ni
|.s=>match op with
 |.add=>.cat (gX T .s x) (gX T .s y)
 |_=>.binS op (gX T .s x) (gX T .s y)
|.b=>.binB op (gX T .s x) (gX T .s y)
|.i _=>match op with
 |.quo=>.divI op (gX T .s x) (gX T .s y)
 |.rem=>.divI op (gX T .s x) (gX T .s y)
 |_=>.binI op (gX T .s x) (gX T .s y)
|.r _ _ f=>.eqAg (match op with|.neq=>tT|_=>oK) (Px T f) (gX T .s x) (gX T .s y)
|.l _=>.isNil (match op with|.neq=>tT|_=>oK) (gX T .s x)
|.o _ _=>.isNilP (match op with|.neq=>tT|_=>oK) (gX T .s x)
|_=>jF
def XJ(E:o6) (d:Nat):Callee->List Operand->oO->ni
| .value (.func f),xs,ts=>match gH 8 f E,xs with
 |true,[x,y]=>jF
 | _,_=>match gH 10 d E,gH 11 f E with
  |false,oK=>(match gH 3 d E,gH 9 f E with
   |false,oK=>.call f (D7 T xs ts)
   |_,_=>.callM f (D7 T xs ts))
  |_,_=>.callX f (D7 T xs ts)
|.value f,xs,_=>match gH 2 d E with
 |true=>.calldM (gX T .s f) (D7 T xs [])
 |false=>jF
|.builtin .len,[x],[t]=>match T t with
 |.s=>.lenS (gX T .s x)
 |.m _ _=>jF
 |_=>.len (gX T .s x)
|.builtin .append,[x,y],[t,u]=>match T t with
 |.l e=>.append (wS (T e)) (MK (T e)) (gX T (.l e) x) (gX T (T u) y)
 |_=>jF
|.builtin .copy,[x,y],[t,_]=>match T t with
 |.l e=>.copy (wS (T e)) (gX T .s x) (gX T .s y)
 |_=>jF
|.builtin .delete,x::y::_,t::_=>match T t with
 |.m k _=>jF
 |_=>jF
|.builtin .min,[x,y],_=>.minI oK (gX T .s x) (gX T .s y)
|.builtin .max,[x,y],_=>.minI tT (gX T .s x) (gX T .s y)
|_,_,_=>jF
def Py(E:o6)(d ty:Nat):Go.Op->ni
|.move x=>.mv (gX T (T ty) x)
|.assign x=>.mv (gX T (T ty) x)
|.pick c a b=>.pick (gX T .s c) (gX T (T ty) a) (gX T (T ty) b)
|.alloc t=>.alloc (gZ T 9 (T t))
|.box t v=>match gH 0 d E with
 |true=>.boxM (gX T (T t) v)
 |false=>.boxP (gX T (T t) v)
|.build t ⟨ps⟩=>match T t with
 |.r z y f=>.build (gZ T 9 (.r z y f)) (Pw T f ps)
 |.a z n e=>.build (gZ T 9 (.a z n e)) (gEs T e ps)
 |_=>jF
|.buildSlice t _ ⟨ps⟩=>match T t,gH 1 d E with
 |.l e,tT=>.buildSlM (wS (T e)) (J2 T e ps)
 |.l e,oK=>.buildSl (wS (T e)) (J2 T e ps)
 |_,_=>jF
|.load t x=>.load (JX (T t)) (wS (T t)) (gX T .s x)
|.store t x v=>.store (wS (T t)) (gX T .s x) (gX T (T t) v)
|.nilCheck x=>.nilck (gX T .s x)
|.binOp op t x y _=>J3 T op x y (T t)
|.unOp op _ x=>match op with
 |.not=>.not (gX T .s x)
 |_=>.neg (gX T .s x)
|.convert _ t x=>match T t with
 |.i k=>.convI k (gX T .s x)
 |_=>jF
|.slice t x l h m=>match T t,m with
 |.s,_=>.sliceS (gX T .s x) (gO T l) (gO T h)
 |.l e,nN=>.slice (wS (T e)) (gX T (.l e) x) (gO T l) (gO T h)
 |.l e,sS _=>jF
 |_,_=>jF
|.fieldAddr t x i=>match T t with
 |.r _ _ f=>match JZ T i f with|(o,_)=>.faddr o (gX T .s x)
 |_=>jF
|.field t x i=>match T t with
 |.r _ _ f=>match JZ T i f with|(o,u)=>jF
 |_=>jF
|.indexAddr t x i=>match T t with
 |.a _ n e=>.iaddrA n (wS (T e)) (gX T .s x) (gX T .s i)
 |.l e=>.iaddrS (wS (T e)) (gX T .s x) (gX T .s i)
 |_=>jF
|.index t x i=>match T t with
 |.s=>.idxS (gX T .s x) (gX T .s i)
 |.a _ n e=>jF
 |_=>jF
|.makeFunc (.func g) _ ⟨xs⟩=>.mkfn g (D7 T xs [])
|.extract t i=>.extract (gX T .s t) i
|.call ⟨c,⟨xs⟩,⟨ts⟩⟩=>XJ T E d c xs ts
|.makeMap _ _=>.mkmap
|.mapUpdate t x k v=>match T t with
 |.m a e=>.mset (JY (T a)) (gX T .s x) (gX T .s k) (gX T (T e) v)
 |_=>jF
|.insert t x k v=>match T t with
 |.m a e=>.mset (JY (T a)) (gX T .s x) (gX T .s k) (gX T (T e) v)
 |_=>jF
|.lookup t x k ok=>match T t with
 |.m a e=>.mlook (JY (T a)) ok (JX (T e)) (gZ T 9 (T e)) (gX T .s x) (gX T .s k)
 |_=>jF
|.makeSlice t l c=>match T t,gH 1 d E with
 |.l e,tT=>.mkslM (gZ T 9 (T e)) (MK (T e)) (gX T .s l) (gX T .s c)
 |.l e,oK=>jF
 |_,_=>jF
|.makeInterface t x=>.mkifc t (JX (T t)) (gX T (T t) x)
|.panic x=>.panicX (gX T .s x)
|_=>jF
def ML:Nat->List Oper->Nat
|0,o::_=>o.dst.getD 0
|n+1,_::l=>ML n l
|_,[]=>0
def MM(E:List (Nat × Nat))(all:List Oper):List Oper->List MO
|[]=>[]
|⟨d,op,ty,_,_,g⟩::l=>⟨match g with|none=>nN|some (j,b)=>sS (ML j all,b),d,Py T E (d.getD 10000) ty op⟩::MM E all l
def D8(k:Nat)(E:List (Nat × Nat)):List Oper->Bool
|[]=>oK
|o::l=>match gH k (o.dst.getD 10000) E with
 |true=>tT
 |false=>D8 k E l
def MN:List MO->Bool
|[]=>oK
|⟨_,_,op⟩::l=>match op with
 |.callX _ _=>tT
 |.panicX _=>tT
 |_=>MN l
def XK(l:sH):MC:=match MN l with
|true=>.regx l
|false=>.reg l
def XL(b:oO)(l:sH):MC:=match MN l with
|true=>.regdx b l
|false=>.regd b l
def gW(x:Bool)(f:MC->MC)(c:MC):MC:=match x with
|true=>f c
|false=>c
def gL(x:α):List (Nat × α)->Nat->α
|[],_=>x
|(i,y)::l,k=>match i==k with
 |true=>y
 |false=>gL x l k
def gC(E:List (Nat × Nat))(B:List (Nat × List Nat))(L:List (Nat × MC)):Code->MC
|.skip=>.skip
|.block i (.loop _)=>gW (gH 6 i E) .owq (.block i (.loop (gL .skip L i)))
|.region i ⟨os⟩ d=>gW (D8 5 E os) .owq (gW (D8 4 E os) .fzq (match d with
 |true=>XL (gL [] B i) (MM T E os os)
 |false=>XK (MM T E os os)))
|.seq a b=>.seq (gC E B L a) (gC E B L b)
|.cond c a b=>.cond (gX T .s c) (gC E B L a) (gC E B L b)
|.block i b=>.block i (gC E B L b)
|.loop b=>.loop (gC E B L b)
|.exit i=>.exit i
|.ret=>gW (gH 7 1 E) .fzq (gW (gH 7 0 E) .owq .ret)
|_=>.skip
end
def D9(i:Nat):Code->Option Code
|.seq a b=>match D9 i a with
 |some c=>sS c
 |none=>D9 i b
|.cond _ a b=>match D9 i a with
 |some c=>sS c
 |none=>D9 i b
|.block k (.loop b)=>match k==i with
 |true=>sS b
 |false=>D9 i b
|.block _ b=>D9 i b
|.loop b=>D9 i b
|_=>nN
def Y_(i:Nat)(c:Code):Code:=match D9 i c with
|some b=>b
|none=>.skip
def gB(f:Func):Code:=match f.body with
|some c=>c
|none=>.skip
variable [jE]
def yJ(P : Program) (fn : Func) (N : Nat) (c : MC) (rs : List MR) : Bool := (decide (fn.ntmps = N) && (fn.name != "runtime.NumGoroutine")) && ((match fn.body with
|some b=>w? P N c b
|none=>oK)&&kJ P rs fn.results.toList)
abbrev WT(P:Program)(f:FuncId)(N:Nat)(c:MC)(rs:qC):Prop:=∀{args:sQ} {v:DV},lN args<=N->(DV.okL args->∀x:Ctx,x.N=N->x.pure->w_ P x c (BL rs v) ⟨⟩ ⟨qd 0 args,λ_=>.c?,0⟩)->h_ P f args v
abbrev WM(P:Program)(f:FuncId)(N:Nat)(c:MC)(rs:qC):Prop:=∀{args:oo} {bs:oV} {v:AV} {_d:oV},lX args N bs v _d->(∀ts:o6,lN ts=lN bs->AV.okL args->(∀b,b∈bs->b.ok)->∀x:Ctx,x.N=N->x.pure->w_ P x c (vT rs v _d ts) ⟨⟩ ⟨nL 0 args,r_ (bs++uA 0 ts),lN bs+lN ts⟩)->q_ P f args bs v _d
abbrev WX(P:Program)(f:FuncId)(N:Nat)(c:MC)(rs:qC):Prop:=∀{args:oo} {bs:oV} {o:XO} {_d:oV},lX args N bs (match o with|.ret v=>v|.pan _=>.a? []) _d->(∀ts:o6,lN ts=lN bs->AV.okL args->(∀b,b∈bs->b.ok)->∀x:Ctx,x.N=N->x.pure->w_ P x c (yI rs o _d ts) ⟨⟩ ⟨nL 0 args,r_ (bs++uA 0 ts),lN bs+lN ts⟩)->jM P f args bs o _d
def wX{N:Nat}{rs:qC}(hm:P.follows .mixedOrders=tT)(hf:P.funcs[f]?=sS fn)(h:yJ P fn N c rs=tT):WX P f N c rs:=by
 unfold yJ at h;simp only[aG,aI]at h;obtain⟨⟨e,hn⟩,hc,hr⟩:=h;subst e;cases hb:fn.body with
 |none=>rw[hb]at hc;cases hc
 |some b=>
  rw[hb]at hc;exactλhs k=>jM.of_walk' hf hb hn hc hr hm hs k
def wT{N:Nat}{rs:qC}(hm:P.follows .mixedOrders=tT)(hf:P.funcs[f]?=sS fn)(h:yJ P fn N c rs=tT):WT P f N c rs:=by
 unfold yJ at h;simp only[aG,aI]at h;obtain⟨⟨e,hn⟩,hc,hr⟩:=h;subst e;cases hb:fn.body with
 |none=>rw[hb]at hc;cases hc
 |some b=>
  rw[hb]at hc;exactλhl k=>h_.of_walk hf hb hn hc hr hl λo x e p=>W.aw hm (F9 (k o x e p))
def wM{N:Nat}{rs:qC}(hm:P.follows .mixedOrders=tT)(hf:P.funcs[f]?=sS fn)(h:yJ P fn N c rs=tT):WM P f N c rs:=by
 unfold yJ at h;simp only[aG,aI]at h;obtain⟨⟨e,hn⟩,hc,hr⟩:=h;subst e;cases hb:fn.body with
 |none=>rw[hb]at hc;cases hc
 |some b=>
  rw[hb]at hc;exactλhs k=>q_.of_walk' hf hb hn hc hr hm hs k
attribute [simp] gJ MJ Pt wS JX MK XI Ff gZ Pv gV gX D7 gO gH JY JZ Pw gEs J2 Px jF J3 XJ Py ML MM D8 MN XK XL gW gL gC D9 Y_ gB
end Go.Abs
