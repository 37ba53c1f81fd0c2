/- Texts of ours, joined and written short by a program of ours. -/
import Derived.Test.YtnbgmeamdkggeaaGreatDoorJ04
import Derived.Carry
import Derived.ChangeArms
import Derived.SizedLaws
set_option maxRecDepth 20000
set_option maxHeartbeats 4000000
set_option linter.unusedVariables false
set_option linter.unusedSectionVars false
set_option linter.unusedSimpArgs false
set_option linter.defProp false
set_option linter.unnecessarySimpa false
namespace Go.Abs
variable [jQ]
def gd(b want:Bool)(A B:Prop):Prop:=(b=want->A)/\(b=(!want)->B)
@[simp↓] theorem zid (A B:Prop):gd true true A B=A:=by simp[gd]
@[simp↓] theorem zie (A B:Prop):gd false false A B=A:=by simp[gd]
@[simp↓] theorem zif (A B:Prop):gd true false A B=B:=by simp[gd]
@[simp↓] theorem zih (A B:Prop):gd false true A B=B:=by simp[gd]
def gd.mk{b want:Bool}{A B:Prop}(h1:b=want->A)(h2:b=(!want)->B):gd b want A B:=⟨h1,h2⟩
structure Tag {α:Type} (a:α):Type where
 mk::
def IG(P:Program)(f:FuncId)(ds:List DV)(K:DV->Prop)(_:Tag K):Prop:=∃v,fu P f ds v/\K v
def IG.mk{P:Program}{f:FuncId}{ds:List DV}{K:DV->Prop}{t:Tag K}{v:DV}(h:fu P f ds v)(k:K v):IG P f ds K t:=⟨v,h,k⟩
def Kv(q:Value->Prop):Prop:=∀v,q v->DI v
@[simp] theorem zgO:Kv DI:=λ_ h=>h
def W(P:Program)(c:Ctx):MC->(Exit->St->Prop)->St->Prop
|.skip,Q,S=>Q .normal S
|.reg os,Q,S=>oP P os S (λS'=>Q .normal S')
|.regd bef os,Q,S=>lX P os S [] (λS' fps=>uY bef fps=true/\Q .normal S')
|.regx os,Q,S=>pg P os S (λS'=>Q .normal S') (λpv S'=>Q (.panic [{v:=pv,recovered:=false}]) S')
|.regdx bef os,Q,S=>rR P bef 0 os S [] (λS' fps=>uY bef fps=true/\Q .normal S') (λpv S' pj fps=>uY bef fps=true/\Hz bef pj fps=true/\Q (.panic [{v:=pv,recovered:=false}]) S')
|.seq a b,Q,S=>W P c a (vg (W P c b Q) Q) S
|.cond (.t k) a b,Q,S=>match S.get k with
 |.c (.d (.bool t))=>gd t true (W P c a Q (S.know k true)) (W P c b Q (S.know k false))
 |.c (.op q)=>Kv q/\W P c a Q S/\W P c b Q S
 |_=>False
|.cond (.k _) _ _,_,_=>False
|.cond (.a _) _ _,_,_=>False
|.block i b,Q,S=>W P c b (yU i Q) S
|.loop b,Q,S=>AW P c (.loop b) Q S
|.exit i,Q,S=>Q (.exit i) S
|.ret,Q,S=>Q .ret S
|.fzq a,Q,S=>∃lm l,u7 S lm λS1=>uN S1 l λS'=>W P c a Q S'
|.owq a,Q,S=>∃l,o7 S l λS'=>W P c a Q S'
def W.aw{P:Program}{c:Ctx}(hm:P.follows .mixedOrders=true):∀{mc:MC} {Q:Exit->St->Prop} {S:St},W P c mc Q S->AW P c mc Q S
|.skip,Q,S,h=>AW.skip h
|.reg os,Q,S,h=>AW.reg h
|.regd bef os,Q,S,h=>AW.regd hm h
|.regx os,Q,S,h=>AW.regx h
|.regdx bef os,Q,S,h=>AW.regdx hm h
| .seq a b,Q,S,h=>AW.seq ((show AW P c a (vg (W P c b Q) Q) S from W.aw hm h).mono (Q':=vg (AW P c b Q) Q) λe S' q=>by
  cases e with
  |normal=>exact W.aw hm q
  |_=>exact q)
| .cond (.t k) a b,Q,S,h=>by
 simp only[W]at h;split at h
 ·rename_i t e;refine AW.cond (x:=.t k) e (λht=>?_) (λht=>?_)
  ·have h1:=W.aw hm (h.1 ht);intro code hc ac w r;rw[ht]at e;exact h1 code hc ac w (by rw[fI e];exact r)
  ·have h1:=W.aw hm (h.2 (by simpa using ht));intro code hc ac w r;rw[ht]at e;exact h1 code hc ac w (by rw[fI e];exact r)
 ·rename_i q e;exact AW.condU (x:=.t k) e h.1 (W.aw hm h.2.1) (W.aw hm h.2.2)
 ·exact h.elim
|.cond (.k x) a b,Q,S,h=>False.elim h
|.cond (.a x) a b,Q,S,h=>False.elim h
|.block i b,Q,S,h=>AW.block (W.aw hm h)
|.loop b,Q,S,h=>h
|.exit i,Q,S,h=>AW.exit h
|.ret,Q,S,h=>AW.ret h
|.fzq a,Q,S,h=>by
 obtain⟨lm,l,h⟩:=h;have h2:=u7.mono lm h λS1 k=>(AW.fzq l (uN.mono l k λS' k=>W.aw hm k):AW P c (.fzq a) Q S1)
 exact AW.fmq lm h2
|.owq a,Q,S,h=>by
 obtain⟨l,h⟩:=h;exact AW.owq l (o7.mono l h λS' k=>W.aw hm k)
def Ac(S:St)(K:St->Prop)(_:Tag K):Prop:=∃lm l,u7 S lm λS1=>uN S1 l K
def II(S:St)(K:St->Prop)(_:Tag K):Prop:=∃l,o7 S l K
def II.mk{S:St}{K:St->Prop}{g:Tag K}(l:List D7)(h:o7 S l K):II S K g:=⟨l,h⟩
def Ac.mk{S:St}{K:St->Prop}{g:Tag K}(l:List Nat)(h:uN S l K):Ac S K g:=⟨[],l,h⟩
def Ac.mkM{S:St}{K:St->Prop}{g:Tag K}(lm l:List Nat)(h:u7 S lm λS1=>uN S1 l K):Ac S K g:=⟨lm,l,h⟩
def w_(P:Program)(c:Ctx)(mc:MC)(Q:Exit->St->Prop)(_:Tag (mc,Q))(S:St):Prop:=W P c mc Q S
def qO(P:Program)(c:Ctx)(mc:MC)(Q:Exit->St->Prop)(_:Tag (mc,Q))(S:St):Prop:=AW P c (.loop mc) Q S
def rO(P:Program)(os:List MO)(K:St->Prop)(_:Tag (os,K))(S:St):Prop:=oP P os S K
def rD(P:Program)(os:List MO)(K:St->List FP->Prop)(_:Tag (os,K))(S:St)(fps:List FP):Prop:=lX P os S fps K
def rX(P:Program)(os:List MO)(K:St->Prop)(Kp:Value->St->Prop)(_:Tag (os,K,Kp))(S:St):Prop:=pg P os S K Kp
def eX(P:Program)(K:AV->List (Nat × Blk)->Nat->Prop)(Kp:Value->List (Nat × Blk)->Nat->Prop)(op:mP)(_:Tag (op,K,Kp))(get:Nat->AV)(m:Hp)(n:Nat):Prop:=Aa P get m n K Kp op
def Ed(P:Program)(bef:List Nat)(k:Nat)(os:List MO)(K:St->List FP->Prop)(Kp:Value->St->Nat->List FP->Prop)(_:Tag (os,K,Kp))(S:St)(fps:List FP):Prop:=rR P bef k os S fps K Kp
def D8(P:Program)(bef:List Nat)(pj k:Nat)(os:List MO)(K:List FP->Prop)(_:Tag (os,K))(S:St)(fps:List FP):Prop:=uK P bef pj k os S fps K
def eD(P:Program)(K:AV->List Nat->List (Nat × Blk)->Nat->Prop)(Kp:Value->List (Nat × Blk)->Nat->Prop)(op:mP)(_:Tag (op,K,Kp))(get:Nat->AV)(m:Hp)(n:Nat):Prop:=Kk P get m n K Kp op
def eV(P:Program)(K:AV->List Nat->List (Nat × Blk)->Nat->Prop)(op:mP)(_:Tag (op,K))(get:Nat->AV)(m:Hp)(n:Nat):Prop:=ev P get m n K op
def Next{Y:Type}(I:Y->Prop)(t:Y->List (Nat × AV))(bs:Y->List Blk)(μ:Y->Nat)(x:Y)(_:Tag (I,t,bs,μ,x))(S:St):Prop:=∃x' l,I x'/\iU l S (t x') (bs x')/\μ x'<μ x
def Next.mk{Y:Type}{I:Y->Prop}{t:Y->List (Nat × AV)}{bs:Y->List Blk}{μ:Y->Nat}{x:Y}{g:Tag (I,t,bs,μ,x)}{S:St}(x':Y)(l:List Nat)(h1:I x')(h2:μ x'<μ x)(h3:iU l S (t x') (bs x')):Next I t bs μ x g S:=⟨x',l,h1,h3,h2⟩
def W.loop{P:Program}{c:Ctx}{Q:Exit->St->Prop}{S:St}{Y:Type}(hm:P.follows .mixedOrders=true)(hp:c.pure){body:MC}{g:Tag (body,Q)}(I:Y->Prop)(t:Y->List (Nat × AV))(bs:Y->List Blk)(μ:Y->Nat)(x0:Y)(l0:List Nat)(hI:I x0)(h0:iU l0 S (t x0) (bs x0))
  (round:∀x,I x->w_ P c body (vg (Next I t bs μ x ⟨⟩) Q) ⟨⟩ (hd (t x) (bs x))):qO P c body Q g S:=
 AW.loop hp I t bs μ hI h0 λx hx=>W.aw hm (round x hx)
section
variable {P:Program} {c:Ctx} {Q:Exit->St->Prop} {S:St}
def Ad{mc:MC}(h:w_ P c mc Q ⟨⟩ S):W P c mc Q S:=h
@[simp] theorem zhT{g}:w_ P c .skip Q g S=Q .normal S:=(aL _).trans rfl
@[simp] theorem zii(os:List MO){g}:w_ P c (.reg os) Q g S=rO P os (λS'=>Q .normal S') ⟨⟩ S:=(aL _).trans rfl
@[simp] theorem zhU(bef:List Nat)(os:List MO){g}:w_ P c (.regd bef os) Q g S=rD P os (λS' fps=>uY bef fps=true/\Q .normal S') ⟨⟩ S []:=(aL _).trans rfl
@[simp] theorem zhV(os:List MO){g}:w_ P c (.regx os) Q g S=rX P os (λS'=>Q .normal S') (λpv S'=>Q (.panic [{v:=pv,recovered:=false}]) S') ⟨⟩ S:=(aL _).trans rfl
@[simp] theorem zhj(bef:List Nat)(os:List MO){g}:w_ P c (.regdx bef os) Q g S=Ed P bef 0 os (λS' fps=>uY bef fps=true/\Q .normal S') (λpv S' pj fps=>uY bef fps=true/\Hz bef pj fps=true/\Q (.panic [{v:=pv,recovered:=false}]) S') ⟨⟩ S []:=(aL _).trans rfl
@[simp] theorem zij(a b:MC){g}:w_ P c (.seq a b) Q g S=w_ P c a (vg (w_ P c b Q ⟨⟩) Q) ⟨⟩ S:=(aL _).trans rfl
@[simp] theorem zhW(k:Nat)(a b:MC){g}:w_ P c (.cond (.t k) a b) Q g S=(match S.get k with
 |.c (.d (.bool t))=>gd t true (w_ P c a Q ⟨⟩ (S.know k true)) (w_ P c b Q ⟨⟩ (S.know k false))
 |.c (.op q)=>Kv q/\w_ P c a Q ⟨⟩ S/\w_ P c b Q ⟨⟩ S
 |_=>False):=(aL _).trans rfl
@[simp] theorem zhk(i:Nat)(b:MC){g}:w_ P c (.block i b) Q g S=w_ P c b (yU i Q) ⟨⟩ S:=(aL _).trans rfl
@[simp] theorem zhX(b:MC){g}:w_ P c (.loop b) Q g S=qO P c b Q ⟨⟩ S:=(aL _).trans rfl
@[simp] theorem zhY(i:Nat){g}:w_ P c (.exit i) Q g S=Q (.exit i) S:=(aL _).trans rfl
@[simp] theorem zik(a:MC){g}:w_ P c (.fzq a) Q g S=Ac S (λS'=>w_ P c a Q ⟨⟩ S') ⟨⟩:=(aL _).trans rfl
@[simp] theorem zil(a:MC){g}:w_ P c (.owq a) Q g S=II S (λS'=>w_ P c a Q ⟨⟩ S') ⟨⟩:=(aL _).trans rfl
@[simp] theorem zim{g}:w_ P c .ret Q g S=Q .ret S:=(aL _).trans rfl
@[simp] theorem zhZ(K:St->Prop){g}:rO P [] K g S=K S:=(aL _).trans rfl
@[simp] theorem zhl(d:Option Nat)(op:mP)(os:List MO)(K:St->Prop){g}:rO P (⟨none,d,op⟩::os) K g S=eV P (λv _ wr n=>rO P os K ⟨⟩ (S.put d v wr n)) op ⟨⟩ S.get S.m S.n:=(aL _).trans rfl
@[simp] theorem zhm(t:Nat)(want:Bool)(d:Option Nat)(op:mP)(os:List MO)(K:St->Prop){g}:rO P (⟨some (t,want),d,op⟩::os) K g S=(match S.get t with
  |.c (.d (.bool b))=>gd b want (rO P (⟨none,d,op⟩::os) K ⟨⟩ (S.know t want)) (rO P os K ⟨⟩ ((S.know t (!want)).put d kQ [] S.n))
  |.c (.d (.sc (.tuple _)))=>rO P os K ⟨⟩ (S.put d kQ [] S.n)
  |_=>False):=(aL _).trans rfl
@[simp] theorem zhn(bef:List Nat)(k:Nat)(fps:List FP)(K:St->List FP->Prop)(Kp:Value->St->Nat->List FP->Prop){g}:Ed P bef k [] K Kp g S fps=K S fps.reverse:=(aL _).trans rfl
@[simp] theorem zgP(bef:List Nat)(k:Nat)(d:Option Nat)(op:mP)(os:List MO)(fps:List FP)(K:St->List FP->Prop)(Kp:Value->St->Nat->List FP->Prop){g}:Ed P bef k (⟨none,d,op⟩::os) K Kp g S fps=eD P (λv rd wr n=>Ed P bef (k+1) os K Kp ⟨⟩ (S.put d v wr n) ((rd,wr.map (·.1))::fps))
 (λpv wr n=>D8 P bef k (k+1) os (λfps=>Kp pv ⟨[],jc S.m wr,n⟩ k fps) ⟨⟩ (S.put d kQ [] S.n) (([],[])::fps)) op ⟨⟩ S.get S.m S.n:=(aL _).trans rfl
@[simp] theorem zho(bef:List Nat)(pj k:Nat)(fps:List FP)(K:List FP->Prop){g}:D8 P bef pj k [] K g S fps=K fps.reverse:=(aL _).trans rfl
@[simp] theorem zhp(bef:List Nat)(pj k:Nat)(g:Option (Nat × Bool))(d:Option Nat)(op:mP)(os:List MO)(fps:List FP)(K:List FP->Prop){gg}(h:(bef.getD k 0).testBit pj=true):D8 P bef pj k (⟨g,d,op⟩::os) K gg S fps=D8 P bef pj (k+1) os K ⟨⟩ (S.put d kQ [] S.n) (([],[])::fps):=by
 show uK P bef pj k (⟨g,d,op⟩::os) S fps K=uK P bef pj (k+1) os (S.put d kQ [] S.n) (([],[])::fps) K;simp only[uK];rw[aB h]
@[simp] theorem zh0(bef:List Nat)(pj k:Nat)(d:Option Nat)(op:mP)(os:List MO)(fps:List FP)(K:List FP->Prop){gg}(h:(bef.getD k 0).testBit pj=false):D8 P bef pj k (⟨none,d,op⟩::os) K gg S fps=eV P (λv rd wr n=>D8 P bef pj (k+1) os K ⟨⟩ (S.put d v wr n) ((rd,wr.map (·.1))::fps)) op ⟨⟩ S.get S.m S.n:=by
 show uK P bef pj k (⟨none,d,op⟩::os) S fps K=_;simp only[uK];rw[aA (by rw[h];simp)];rfl
@[simp] theorem zh1(K:St->Prop)(Kp:Value->St->Prop){g}:rX P [] K Kp g S=K S:=(aL _).trans rfl
@[simp] theorem zhq(d:Option Nat)(op:mP)(os:List MO)(K:St->Prop)(Kp:Value->St->Prop){g}:rX P (⟨none,d,op⟩::os) K Kp g S=eX P (λv wr n=>rX P os K Kp ⟨⟩ (S.put d v wr n)) (λpv wr n=>Kp pv (S.put none kQ wr n)) op ⟨⟩ S.get S.m S.n:=(aL _).trans rfl
@[simp] theorem zh2(fps:List FP)(K:St->List FP->Prop){g}:rD P [] K g S fps=K S fps.reverse:=(aL _).trans rfl
@[simp] theorem zhr(d:Option Nat)(op:mP)(os:List MO)(fps:List FP)(K:St->List FP->Prop){g}:rD P (⟨none,d,op⟩::os) K g S fps=eV P (λv rd wr n=>rD P os K ⟨⟩ (S.put d v wr n) ((rd,wr.map (·.1))::fps)) op ⟨⟩ S.get S.m S.n:=(aL _).trans rfl
@[simp] theorem zhs(t:Nat)(want:Bool)(d:Option Nat)(op:mP)(os:List MO)(fps:List FP)(K:St->List FP->Prop){g}:rD P (⟨some (t,want),d,op⟩::os) K g S fps=(match S.get t with
  |.c (.d (.bool b))=>gd b want (rD P (⟨none,d,op⟩::os) K ⟨⟩ (S.know t want) fps) (rD P os K ⟨⟩ ((S.know t (!want)).put d kQ [] S.n) (([],[])::fps))
  |.c (.d (.sc (.tuple _)))=>rD P os K ⟨⟩ (S.put d kQ [] S.n) (([],[])::fps)
  |_=>False):=(aL _).trans rfl
end
@[simp] theorem St.get_mk(t:List (Nat × AV))(m:Hp)(n k:Nat):St.get ⟨t,m,n⟩ k=look t k:=(aL _).trans rfl
@[simp] theorem St.get_eta(t:List (Nat × AV))(m:Hp)(n:Nat):St.get ⟨t,m,n⟩=look t:=(aL _).trans rfl
@[simp] theorem St.put_some(t:List (Nat × AV))(m:Hp)(n d:Nat)(v:AV)(wr:List (Nat × Blk))(n':Nat):St.put ⟨t,m,n⟩ (some d) v wr n'=⟨(d,v)::t,jc m wr,n'⟩:=(aL _).trans rfl
@[simp] theorem St.put_none(t:List (Nat × AV))(m:Hp)(n:Nat)(v:AV)(wr:List (Nat × Blk))(n':Nat):St.put ⟨t,m,n⟩ none v wr n'=⟨t,jc m wr,n'⟩:=(aL _).trans rfl
@[simp] theorem St.know_mk(t:List (Nat × AV))(m:Hp)(n k:Nat)(b:Bool):St.know ⟨t,m,n⟩ k b=⟨(k,.c (.d (.bool b)))::t,m,n⟩:=(aL _).trans rfl
@[simp] theorem look_nil(k:Nat):look [] k=.c (.d .any):=(aL _).trans rfl
@[simp] theorem zgw(j k:Nat)(v:AV)(t:List (Nat × AV)):look ((j,v)::t) k=if k=j then v else look t k:=(aL _).trans rfl
@[simp] theorem X_t(get:Nat->AV)(k:Nat):X get (.t k)=get k:=(aL _).trans rfl
@[simp] theorem X_k(get:Nat->AV)(x:D):X get (.k x)=.c (.d x):=(aL _).trans rfl
@[simp] theorem zht(m:Hp):jc m []=m:=(aL _).trans rfl
@[simp] theorem zgQ(m:Hp)(k:Nat)(v:Blk)(l:List (Nat × Blk)):jc m ((k,v)::l)=jc (upd m k v) l:=(aL _).trans rfl
@[simp] theorem R8(m:Hp)(k:Nat)(v:Blk)(j:Nat):upd m k v j=if j=k then v else m j:=(aL _).trans rfl
@[simp↓] theorem zf6 (K:St->Prop) (Q:Exit->St->Prop) (S:St):vg K Q .normal S=K S:=(aL _).trans rfl
@[simp↓] theorem zgf (K:St->Prop) (Q:Exit->St->Prop) (ch) (S:St):vg K Q (.panic ch) S=Q (.panic ch) S:=(aL _).trans rfl
@[simp↓] theorem zf7 (i:Nat) (Q:Exit->St->Prop) (ch) (S:St):yU i Q (.panic ch) S=Q (.panic ch) S:=(aL _).trans rfl
@[simp↓] theorem zgl (K:St->Prop) (Q:Exit->St->Prop) (i:Nat) (S:St):vg K Q (.exit i) S=Q (.exit i) S:=(aL _).trans rfl
@[simp↓] theorem zgx (K:St->Prop) (Q:Exit->St->Prop) (S:St):vg K Q .ret S=Q .ret S:=(aL _).trans rfl
@[simp↓] theorem zf0 (i:Nat) (Q:Exit->St->Prop) (S:St):yU i Q .normal S=Q .normal S:=(aL _).trans rfl
@[simp↓] theorem zgm (i:Nat) (Q:Exit->St->Prop) (S:St):yU i Q .ret S=Q .ret S:=(aL _).trans rfl
@[simp↓] theorem zgg (i j:Nat) (Q:Exit->St->Prop) (S:St):yU i Q (.exit j) S=if j=i then Q .normal S else Q (.exit j) S:=(aL _).trans rfl
@[simp] theorem zgR:(undef:Value)=.tuple #[]:=rfl
attribute [simp] oQ DV.av DV.avs zI xP jC sZ cellsD si p9 zK kQ DC DD DF
attribute [simp] DV.er DV.ers splice
@[simp] theorem zgy(f:Nat->Nat):AC.rens f∘List.map AC.d=List.map AC.d:=by funext x;simp
@[simp] theorem zgS(n:Nat):AC.lts n∘List.map AC.d=λ_=>true:=by funext x;simp
@[simp] theorem D.er_int(k:IntKind)(n:Int):(D.int k n).er=.int k n:=rfl
@[simp] theorem D.er_bool(b:Bool):(D.bool b).er=.bool b:=rfl
@[simp] theorem D.er_str(b:di):(D.str b).er=.str b:=rfl
@[simp] theorem D.er_sl(x:Bool)(s:Nat)(es:List (List D)):(D.sl x s es).er=.sl false s es:=rfl
@[simp] theorem D.er_fn(f:Fn)(c:List D):(D.fn f c).er=.fn f c:=rfl
@[simp] theorem D.er_rp(cs:List D)(o:Nat):(D.rp cs o).er=.rp cs o:=rfl
@[simp] theorem D.er_sc(v:Value):(D.sc v).er=.sc v:=rfl
@[simp] theorem AC.one_d(d:D):(AC.d d).one=d.one:=rfl
@[simp] theorem AC.one_ptr(b o:Nat):(AC.ptr b o).one=true:=rfl
@[simp] theorem AC.one_ept(s b i o:Nat):(AC.ept s b i o).one=true:=rfl
@[simp] theorem AC.one_msl(s b o l:Nat):(AC.msl s b o l).one=true:=rfl
@[simp] theorem D.one_int(k:IntKind)(n:Int):(D.int k n).one=true:=rfl
@[simp] theorem D.one_bool(b:Bool):(D.bool b).one=true:=rfl
@[simp] theorem D.one_str(b:di):(D.str b).one=true:=rfl
@[simp] theorem D.one_sl(x:Bool)(s:Nat)(es:List (List D)):(D.sl x s es).one=true:=rfl
@[simp] theorem D.one_fn(f:Fn)(c:List D):(D.fn f c).one=true:=rfl
@[simp] theorem D.one_rp(cs:List D)(o:Nat):(D.rp cs o).one=true:=rfl
@[simp] theorem zhu{α:Type}(cs:List α)(n:Nat)(h:cs.length=n):cut cs 0 n=cs:=by simp[cut,h]
@[simp] theorem zhv{α:Type}(cs l:List α)(h:l.length=cs.length):put cs 0 l=l:=by simp[put,h]
@[simp] theorem zgT{α:Type}(c:α)(cs:List α)(o:Nat)(l:List α):put (c::cs) o l=if o=0/\l.length=(c::cs).length then l else splice (c::cs) o l:=(aL _).trans rfl
def wrap_i64{n:Int}(h1: -9223372036854775808<=n)(h2:n<=9223372036854775807):IntKind.i64.wrap n=n:=KD (by simpa[IntKind.min,IntKind.bits,IntKind.signed]using h1) (by simpa[IntKind.max,IntKind.bits,IntKind.signed]using h2)
def wI{n:Int}(h1: -9223372036854775808<=n:=by omega)(h2:n<=9223372036854775807:=by omega):IntKind.i64.wrap n=n:=wrap_i64 h1 h2
def Kw:IntKind.i64.min= -9223372036854775808:=by simp[IntKind.min,IntKind.bits,IntKind.signed]
def Ky:IntKind.i64.max=9223372036854775807:=by simp[IntKind.max,IntKind.bits,IntKind.signed]
@[simp] theorem zgU(n:Nat):hpOf [] n=.non:=by simp[hpOf]
@[simp] theorem zgz(b:Blk)(bs:List Blk):hpOf (b::bs) 0=b:=by simp[hpOf]
@[simp] theorem zgA(b:Blk)(bs:List Blk)(n:Nat):hpOf (b::bs) (n+1)=hpOf bs n:=by simp[hpOf]
@[simp] theorem zin(t:List (Nat × AV))(bs:List Blk):hd t bs=⟨t,hpOf bs,bs.length⟩:=(aL _).trans rfl
attribute [simp] iU xR uZ gm AV.ren AV.lt AC.ren AC.lt AC.rens AC.lts AV.rens AV.lts Blk.ren Blk.lt
attribute [simp] zJ one? frzV uL jH qV oo
def zP(ag:Bool)(sz:Nat)(cs:List D)(off:Nat)(K:AV->Prop)(_:Tag K):Prop:=A7 ag sz cs off K
def vw(ag:Bool)(sz:Nat)(cs:List AC)(off:Nat)(K:AV->Prop)(_:Tag K):Prop:=wu ag sz cs off K
def sw(get:Nat->AV)(d:Nat)(K:Nat->Prop)(_:Tag K)(o:Option MX):Prop:=bnd get d K o
def D9(get:Nat->AV)(m:Hp)(s:Nat)(K:List (List AC)->List Nat->Prop)(_:Tag K)(y:MX):Prop:=mH get m s K y
def Kz(S:St)(K:AV->Prop)(_:Tag K)(r:MR):Prop:=vk S K r
def Ae(S:St)(rs:List MR)(K:List AV->Prop)(_:Tag K):Prop:=vo S rs K
@[simp] theorem zio(sz:Nat)(cs:List D)(off:Nat)(K:AV->Prop){g}:zP true sz cs off K g=(off+sz<=cs.length/\K (.ag ((cut cs off sz).map .d))):=(aL _).trans rfl
@[simp] theorem ziq(sz:Nat)(cs:List D)(off:Nat)(K:AV->Prop){g}:zP false sz cs off K g=(match cs[off]? with|some c=>K (.c (.d c))|none=>False):=(aL _).trans rfl
@[simp] theorem zir(sz:Nat)(cs:List AC)(off:Nat)(K:AV->Prop){g}:vw true sz cs off K g=(off+sz<=cs.length/\K (.ag (cut cs off sz))):=(aL _).trans rfl
@[simp] theorem zis(sz:Nat)(cs:List AC)(off:Nat)(K:AV->Prop){g}:vw false sz cs off K g=(match cs[off]? with|some c=>K (.c c)|none=>False):=(aL _).trans rfl
@[simp] theorem zgV(get:Nat->AV)(d:Nat)(K:Nat->Prop){g}:sw get d K g none=K d:=(aL _).trans rfl
@[simp] theorem zgW(get:Nat->AV)(d:Nat)(K:Nat->Prop){g}(x:MX):sw get d K g (some x)=(match X get x with|.c (.d (.int _ j))=>0<=j/\K j.toNat|_=>False):=(aL _).trans rfl
@[simp] theorem zhy(get:Nat->AV)(m:Hp)(s:Nat)(K:List (List AC)->List Nat->Prop){g}(y:MX):D9 get m s K g y=(match X get y with
|.c (.d (.sl _ s' ys))=>s=s'/\K (ys.map (·.map .d)) []
|.c (.msl s' b off len)=>match m b with
 |.arr s'' es=>s=s'/\s=s''/\off+len<=es.length/\K ((es.drop off).take len) [b]
 |_=>False
|_=>False):=(aL _).trans rfl
@[simp] theorem zgX(rs:List MR)(v:DV)(S:St):zO rs v .ret S=Ae S rs (λvs=>(frzV S.m (one? vs)).map DV.er=some v) ⟨⟩:=(aL _).trans rfl
@[simp] theorem zgY(S:St)(K:AV->Prop){g}(t:Nat):Kz S K g (.tmp t)=K (S.get t):=(aL _).trans rfl
@[simp] theorem zgB(S:St)(K:AV->Prop){g}(t:Nat)(ag:Bool)(sz:Nat):Kz S K g (.cell t ag sz)=(match S.get t with
 |.c (.d (.rp cs off))=>zP ag sz cs off K ⟨⟩
 |.c (.ptr b off)=>match S.m b with
  |.box cs=>vw ag sz cs off K ⟨⟩
  |_=>False
 |_=>False):=(aL _).trans rfl
@[simp] theorem zgC(S:St)(K:List AV->Prop){g}:Ae S [] K g=K []:=(aL _).trans rfl
@[simp] theorem zgn(S:St)(r:MR)(rs:List MR)(K:List AV->Prop){g}:Ae S (r::rs) K g=Kz S (λv=>Ae S rs (λvs=>K (v::vs)) ⟨⟩) ⟨⟩ r:=(aL _).trans rfl
section
variable {P:Program} {get:Nat->AV} {m:Hp} {n:Nat} {K:AV->List Nat->List (Nat × Blk)->Nat->Prop}
@[simp] theorem zit(x:MX){g}:eV P K (.mv x) g get m n=K (X get x) [] [] n:=(aL _).trans rfl
@[simp] theorem zhz(c a b:MX){g}:eV P K (.pick c a b) g get m n=match X get c with
 |.c (.d (.bool t))=>gd t true (K (X get a) [] [] n) (K (X get b) [] [] n)
 |_=>False:=(aL _).trans rfl
@[simp] theorem zhA(op:BinOp)(x:MX)(y:MX){g}:eV P K (.binI op x y) g get m n=(match X get x,X get y with
 |.c (.d (.int k a)),.c (.d (.int k' b))=>k=k'/\(match DC op k a b with|some d=>K (.c (.d d)) [] [] n|none=>False)
 |_,_=>False):=(aL _).trans rfl
@[simp] theorem zhB(op:BinOp)(x:MX)(y:MX){g}:eV P K (.divI op x y) g get m n=(match X get x,X get y with
 |.c (.d (.int k a)),.c (.d (.int k' b))=>k=k'/\b≠0/\(match(generalizing:=false) op with|.quo=>K (.c (.d (.int k (k.wrap (a.tdiv b))))) [] [] n|.rem=>K (.c (.d (.int k (a.tmod b)))) [] [] n|_=>False)
 |_,_=>False):=(aL _).trans rfl
@[simp] theorem zh4(op:BinOp)(x:MX)(y:MX){g}:eV P K (.shI op x y) g get m n=(match X get x,X get y with
 |.c (.d (.int k a)),.c (.d (.int k' b))=>0<=b/\(match(generalizing:=false) op with|.shl=>K (.c (.d (.int k (k.wrap (a*2^min b.toNat k.bits))))) [] [] n|.shr=>K (.c (.d (.int k (a.fdiv (2^min b.toNat k.bits))))) [] [] n|_=>False)
 |_,_=>False):=(aL _).trans rfl
@[simp] theorem zhC(op:BinOp)(x:MX)(y:MX){g}:eV P K (.binS op x y) g get m n=(match X get x,X get y with
 |.c (.d (.str a)),.c (.d (.str b))=>(match DD op a b with|some d=>K (.c (.d d)) [] [] n|none=>False)
 |_,_=>False):=(aL _).trans rfl
@[simp] theorem zh5(x:MX)(y:MX){g}:eV P K (.cat x y) g get m n=(match X get x,X get y with
 |.c (.d (.str a)),.c (.d (.str b))=>a.size+b.size<=zao/\K (.c (.d (.str (a++b)))) [] [] n
 |_,_=>False):=(aL _).trans rfl
@[simp] theorem zhD(op:BinOp)(x:MX)(y:MX){g}:eV P K (.binB op x y) g get m n=(match X get x,X get y with
 |.c (.d (.bool a)),.c (.d (.bool b))=>(match DF op a b with|some d=>K (.c (.d d)) [] [] n|none=>False)
 |_,_=>False):=(aL _).trans rfl
@[simp] theorem zh6(x:MX){g}:eV P K (.not x) g get m n=(match X get x with
 |.c (.d (.bool a))=>K (.c (.d (.bool (!a)))) [] [] n
 |_=>False):=(aL _).trans rfl
@[simp] theorem zh7(x:MX){g}:eV P K (.neg x) g get m n=(match X get x with
 |.c (.d (.int k a))=>K (.c (.d (.int k (k.wrap (0-a))))) [] [] n
 |_=>False):=(aL _).trans rfl
@[simp] theorem zgZ(k:IntKind)(x:MX){g}:eV P K (.convI k x) g get m n=(match X get x with
 |.c (.d (.int _ a))=>K (.c (.d (.int k (k.wrap a)))) [] [] n
 |_=>False):=(aL _).trans rfl
@[simp] theorem zhE(x:MX){g}:eV P K (.boxP x) g get m n=(match cellsD (X get x)with
 |some ds=>K (.c (.d (.rp ds 0))) [] [] n
 |none=>False):=(aL _).trans rfl
@[simp] theorem zhF(x:MX){g}:eV P K (.boxM x) g get m n=(match sZ (X get x)with
 |some cs=>m n=.non/\K (.c (.ptr n 0)) [] [(n,.box cs)] (n+1)
 |none=>False):=(aL _).trans rfl
@[simp] theorem zg0(z:List D){g}:eV P K (.alloc z) g get m n=(m n=.non/\K (.c (.ptr n 0)) [] [(n,.box (z.map .d))] (n+1)):=(aL _).trans rfl
@[simp] theorem zg1(z:List D)(ps:List (Nat × Nat × MX)){g}:eV P K (.build z ps) g get m n=(match zJ get (z.map .d) ps with
 |some cs=>K (.ag cs) [] [] n
 |none=>False):=(aL _).trans rfl
@[simp] theorem zgo(s:Nat)(xs:List MX){g}:eV P K (.buildSl s xs) g get m n=(match si get s xs with
 |some es=>K (.c (.d (.sl true s es))) [] [] n
 |none=>False):=(aL _).trans rfl
@[simp] theorem zgh(s:Nat)(xs:List MX){g}:eV P K (.buildSlM s xs) g get m n=(match p9 get s xs with
 |some es=>m n=.non/\K (.c (.msl s n 0 xs.length)) [] [(n,.arr s es)] (n+1)
 |none=>False):=(aL _).trans rfl
@[simp] theorem zhG(ag:Bool)(sz:Nat)(x:MX){g}:eV P K (.load ag sz x) g get m n=(match X get x with
 |.c (.d (.rp cs off))=>zP ag sz cs off (λv=>K v [] [] n) ⟨⟩
 |.c (.ptr b off)=>match m b with
  |.box cs=>vw ag sz cs off (λv=>K v [b] [] n) ⟨⟩
  |_=>False
 |.c (.ept s b i off)=>match m b with
  |.arr s' es=>s=s'/\(match es[i]? with|some e=>vw ag sz e off (λv=>K v [b] [] n) ⟨⟩|none=>False)
  |_=>False
 |.c (.d (.sc (.pointer (some ⟨B,off,none⟩))))=>match jQ.row B with
  |some ds=>vw ag sz (ds.map .d) off (λv=>K v [] [] n) ⟨⟩
  |none=>False
 |_=>False):=(aL _).trans rfl
@[simp] theorem zg2(sz:Nat)(a:MX)(v:MX){g}:eV P K (.store sz a v) g get m n=(match X get a,sZ (X get v)with
 |.c (.ptr b off),some l=>match m b with
  |.box cs=>l.length=sz/\off+sz<=cs.length/\K (.c (.d .any)) [] [(b,.box (put cs off l))] n
  |_=>False
 |.c (.ept s b i off),some l=>match m b with
  |.arr s' es=>s=s'/\l.length=sz/\off+sz<=s/\(match es[i]? with|some e=>K (.c (.d .any)) [] [(b,.arr s (es.set i (put e off l)))] n|none=>False)
  |_=>False
 |_,_=>False):=(aL _).trans rfl
@[simp] theorem zg3(off:Nat)(x:MX){g}:eV P K (.faddr off x) g get m n=(match X get x with
 |.c (.ptr b o)=>K (.c (.ptr b (o+off))) [] [] n
 |.c (.ept s b i o)=>K (.c (.ept s b i (o+off))) [] [] n
 |.c (.d (.rp cs o))=>K (.c (.d (.rp cs (o+off)))) [] [] n
 |.c (.d (.sc (.pointer (some ⟨B,o,none⟩))))=>K (.c (.d (.sc (.pointer (some ⟨B,o+off,none⟩))))) [] [] n
 |_=>False):=(aL _).trans rfl
@[simp] theorem zgD(s:Nat)(x:MX)(i:MX){g}:eV P K (.iaddrS s x i) g get m n=(match X get x,X get i with
 |.c (.d (.sl _ s' es)),.c (.d (.int _ j))=>s=s'/\0<=j/\(match es[j.toNat]? with|some e=>K (.c (.d (.rp e 0))) [] [] n|none=>False)
 |.c (.msl s' b off len),.c (.d (.int _ j))=>s=s'/\0<=j/\j<len/\K (.c (.ept s b (off+j.toNat) 0)) [] [] n
 |.c (.d (.sc (.slice (some ⟨B,q,none⟩) len _))),.c (.d (.int _ j))=>0<=j/\j<len/\K (.c (.d (.sc (.pointer (some ⟨B,q+j.toNat*s,none⟩))))) [] [] n
 |_,_=>False):=(aL _).trans rfl
@[simp] theorem zgE(len:Nat)(s:Nat)(x:MX)(i:MX){g}:eV P K (.iaddrA len s x i) g get m n=(match X get x,X get i with
 |.c (.ptr b o),.c (.d (.int _ j))=>0<=j/\j<len/\K (.c (.ptr b (o+j.toNat*s))) [] [] n
 |.c (.ept s' b i' o),.c (.d (.int _ j))=>0<=j/\j<len/\K (.c (.ept s' b i' (o+j.toNat*s))) [] [] n
 |.c (.d (.rp cs o)),.c (.d (.int _ j))=>0<=j/\j<len/\K (.c (.d (.rp cs (o+j.toNat*s)))) [] [] n
 |_,_=>False):=(aL _).trans rfl
@[simp] theorem zhH(x:MX)(i:MX){g}:eV P K (.idxS x i) g get m n=(match X get x,X get i with
 |.c (.d (.str t)),.c (.d (.int _ j))=>0<=j/\(match t.data.toList[j.toNat]? with|some b=>K (.c (.d (.int .u8 b.toNat))) [] [] n|none=>False)
 |_,_=>False):=(aL _).trans rfl
@[simp] theorem zh8(x:MX){g}:eV P K (.len x) g get m n=(match X get x with
 |.c (.d (.sl _ _ es))=>K (.c (.d (.int .i64 es.length))) [] [] n
 |.c (.msl _ b off l)=>match m b with
  |.arr _ es=>off+l<=es.length/\K (.c (.d (.int .i64 l))) [b] [] n
  |_=>False
 |.c (.d (.sc (.slice (some _) l _)))=>l<=zao/\K (.c (.d (.int .i64 l))) [] [] n
 |_=>False):=(aL _).trans rfl
@[simp] theorem zhI(x:MX){g}:eV P K (.lenS x) g get m n=(match X get x with
 |.c (.d (.str t))=>K (.c (.d (.int .i64 t.size))) [] [] n
 |_=>False):=(aL _).trans rfl
@[simp] theorem zg4(x:MX){g}:eV P K (.nilck x) g get m n=(match X get x with
 |.c (.ptr b o)=>K (.c (.ptr b o)) [] [] n
 |.c (.ept s b i o)=>K (.c (.ept s b i o)) [] [] n
 |.c (.d (.rp cs o))=>K (.c (.d (.rp cs o))) [] [] n
 |.c (.d (.sc (.pointer (some a))))=>K (.c (.d (.sc (.pointer (some a))))) [] [] n
 |_=>False):=(aL _).trans rfl
@[simp] theorem zgp(x:MX)(i:Nat){g}:eV P K (.extract x i) g get m n=(match X get x with
 |.tup vs=>match vs[i]? with
  |some v=>K v [] [] n
  |none=>False
 |_=>False):=(aL _).trans rfl
@[simp] theorem zg5(s:Nat)(x:MX)(lo:Option MX)(hi:Option MX){g}:eV P K (.slice s x lo hi) g get m n=(match X get x with
 |.c (.d (.sl e s' es))=>s=s'/\sw get es.length (λh=>sw get 0 (λl=>l<=h/\h<=es.length/\K (.c (.d (.sl (e&&hi.isNone) s ((es.take h).drop l)))) [] [] n) ⟨⟩ lo) ⟨⟩ hi
 |.c (.msl s' b off len)=>s=s'/\sw get len (λh=>sw get 0 (λl=>l<=h/\h<=len/\K (.c (.msl s b (off+l) (h-l))) [] [] n) ⟨⟩ lo) ⟨⟩ hi
 |_=>False):=(aL _).trans rfl
@[simp] theorem zgF(x:MX)(lo:Option MX)(hi:Option MX){g}:eV P K (.sliceS x lo hi) g get m n=(match X get x with
 |.c (.d (.str t))=>sw get t.size (λh=>sw get 0 (λl=>l<=h/\h<=t.size/\K (.c (.d (.str (t.extract l h)))) [] [] n) ⟨⟩ lo) ⟨⟩ hi
 |_=>False):=(aL _).trans rfl
@[simp] theorem zgG(s:Nat)(bytes:Nat)(x:MX)(y:MX){g}:eV P K (.append s bytes x y) g get m n=(match X get x with
 |.c (.msl s' b off len)=>match m b with
  | .arr s'' es=>s=s'/\s=s''/\off=0/\len<=es.length/\m n=.non/\D9 get m s (λys rd=>(len+ys.length)*bytes<=70368744177664/\(rd=[]\/rd=[b]\/b∉rd)/\
    K (.c (.msl s n 0 (len+ys.length))) rd [(b,.dead),(n,.arr s (es.take len++ys))] (n+1)) ⟨⟩ y
  |_=>False
 |.c (.d (.sl true s' []))=>m n=.non/\D9 get m s (λys rd=>ys.length*bytes<=70368744177664/\K (.c (.msl s n 0 ys.length)) rd [(n,.arr s ys)] (n+1)) ⟨⟩ y
 |.c (.d (.sl true s' (e::es)))=>s=s'/\m n=.non/\D9 get m s (λys rd=>(ys=[]->K (.c (.d (.sl true s (e::es)))) rd [] (n+1))/\(ys≠[]->((e::es).length+ys.length)*bytes<=70368744177664/\K (.c (.msl s n 0 ((e::es).length+ys.length))) rd [(n,.arr s ((e::es).map (·.map .d)++ys))] (n+1))) ⟨⟩ y
 |_=>False):=(aL _).trans rfl
@[simp] theorem zhJ(f:FuncId)(caps:List MX){g}:eV P K (.mkfn f caps) g get m n=(match zK get caps with
 |some cs=>match jC cs with
  |some ds=>K (.c (.d (.fn (.func f) ds))) [] [] n
  |none=>K (.c (.fn (.func f) cs)) [] [] n
 |none=>False):=(aL _).trans rfl
@[simp] theorem zhK(f:FuncId)(xs:List MX){g}:eV P K (.call f xs) g get m n=(match xP (xs.map (X get))with
 |some ds=>IG P f ds (λv=>K v.av [] [] n) ⟨⟩
 |none=>False):=(aL _).trans rfl
@[simp] theorem zhL(s:Nat)(x y:MX){g}:eV P K (.copy s x y) g get m n=(match X get x with
 |.c (.msl s' b off len)=>match m b with
  |.arr s'' es=>s=s'/\s=s''/\off+len<=es.length/\D9 get m s (λys rd=>ys.length<=len/\K (.c (.d (.int .i64 ys.length))) rd [(b,.arr s (es.take off++ys++es.drop (off+ys.length)))] n) ⟨⟩ y
  |_=>False
 |_=>False):=(aL _).trans rfl
def xS(ys:List (List AC))(K:di->Prop)(_:Tag K):Prop:=∃l,ww ys=some l/\l.length<=zao/\K ⟨l.toArray⟩
def xS.mk{ys:List (List AC)}{K:di->Prop}{g:Tag K}(l:List UInt8)(h:ww ys=some l)(hl:l.length<=zao)(k:K ⟨l.toArray⟩):xS ys K g:=⟨l,h,hl,k⟩
@[simp] theorem zg6(x:MX){g}:eV P K (.toStr x) g get m n=D9 get m 1 (λys rd=>xS ys (λs=>K (.c (.d (.str s))) rd [] n) ⟨⟩) ⟨⟩ x:=(aL _).trans rfl
@[simp] theorem zg7(ne:Bool)(x:MX){g}:eV P K (.isNil ne x) g get m n=(match X get x with
 |.c (.d (.sl _ _ (_::_)))=>K (.c (.d (.bool ne))) [] [] n
 |.c (.d (.sl _ _ []))=>K (.c (.op DI)) [] [] n
 |.c (.d (.sc (.slice none _ _)))=>K (.c (.d (.bool !ne))) [] [] n
 |.c (.msl _ _ _ len)=>0<len/\K (.c (.d (.bool ne))) [] [] n
 |_=>False):=(aL _).trans rfl
@[simp] theorem zg8{g}:eV P K (.mkmap) g get m n=(m n=.non/\K (.c (.map n)) [] [(n,.map [])] (n+1)):=(aL _).trans rfl
@[simp] theorem zg9(kk:Nat)(ok ag:Bool)(z:List D)(x k:MX){g}:eV P K (.mlook kk ok ag z x k) g get m n=(match X get x,rP kk (X get k)with
 | .c (.map b),.c (.d d)=>match m b with
  |.map es=>match jS kk d es 0 with
   |some (some (_,v))=>K (if ok then .tup [v,.c (.d (.bool true))]else v) [b] [] n
   |some none=>K (if ok then .tup [je ag z,.c (.d (.bool false))]else je ag z) [b] [] n
   |none=>False
  |_=>False
 |.c (.d (.mp ks us)),.c (.d d)=>match jS kk d (pU ks us) 0 with
  |some (some (_,v))=>K (if ok then .tup [v,.c (.d (.bool true))]else v) [] [] n
  |some none=>K (if ok then .tup [je ag z,.c (.d (.bool false))]else je ag z) [] [] n
  |none=>False
 |.c (.d (.sc (.map none))),.c (.d _)=>K (if ok then .tup [je ag z,.c (.d (.bool false))]else je ag z) [] [] n
 |_,_=>False):=(aL _).trans rfl
@[simp] theorem zhM(kk:Nat)(x k v:MX){g}:eV P K (.mset kk x k v) g get m n=(match X get x,rP kk (X get k)with
 | .c (.map b),.c (.d d)=>match m b with
  |.map es=>match jS kk d es 0 with
   |some (some (i,_))=>K (.c (.d .any)) [] [(b,.map (es.set i (d,X get v)))] n
   |some none=>K (.c (.d .any)) [] [(b,.map (es++[(d,X get v)]))] n
   |none=>False
  |_=>False
 |_,_=>False):=(aL _).trans rfl
@[simp] theorem zha(z:List D)(bytes:Nat)(x y:MX){g}:eV P K (.mkslM z bytes x y) g get m n=(match X get x,X get y with
 |.c (.d (.int .i64 j)),.c (.d (.int .i64 l))=>0<=j/\j<=l/\l*bytes<=70368744177664/\m n=.non/\K (.c (.msl z.length n 0 j.toNat)) [] [(n,.arr z.length ((List.replicate j.toNat z).map (·.map .d)))] (n+1)
 |_,_=>False):=(aL _).trans rfl
end
attribute [simp] jS xO je zH
def mP.isX:mP->Bool
|.callX _ _=>true
|.calldX _ _=>true
|.panicX _=>true
|_=>false
section
variable {P:Program} {get:Nat->AV} {m:Hp} {n:Nat} {K:AV->List (Nat × Blk)->Nat->Prop} {Kp:Value->List (Nat × Blk)->Nat->Prop}
@[simp] theorem ziu(op:mP){g}(h:op.isX=false):eX P K Kp op g get m n=eV P (λv _ wr n=>K v wr n) op ⟨⟩ get m n:=by
 cases op<;>first|rfl|cases h
@[simp] theorem ziv(op:mP){K:AV->List Nat->List (Nat × Blk)->Nat->Prop}{g}(h:op.isX=false):eD P K Kp op g get m n=eV P K op ⟨⟩ get m n:=by
 cases op<;>first|rfl|cases h
@[simp] theorem zhN(op:mP):op.isX=(match op with|.callX _ _=>true|.calldX _ _=>true|.panicX _=>true|_=>false):=by cases op<;>rfl
@[simp] theorem zh9(T:TypeId)(ok ag:Bool)(z:List D)(x:MX){K:AV->List Nat->List (Nat × Blk)->Nat->Prop}{g}:eV P K (.tas T ok ag z x) g get m n=(match(generalizing:=false) X get x with
 |.c (.d (.ifc t g cs))=>(t≠T->ok=true)/\K (if t=T then(if ok then .tup [je g cs,.c (.d (.bool true))]else je g cs)else .tup [je ag z,.c (.d (.bool false))]) [] [] n
 |_=>False):=(aL _).trans rfl
def Ee(P:Program)(name:String)(x:AV)(n:Nat)(K:AV->List Nat->List (Nat × Blk)->Nat->Prop):Prop:=match x with
 |.c (.d (.ifc t g cs))=>∃f v,(∀(u:Value) (w:World),fe P (method (P.types.size+Made.depth) t u name) w (f,u) w)/\fu P f [AZ g cs] v/\K v.av [] [] n
 |_=>False
def Ee.mk{P:Program}{name:String}{t:TypeId}{g:Bool}{cs:List D}{n:Nat}{K:AV->List Nat->List (Nat × Blk)->Nat->Prop}{f:FuncId}{v:DV}(hm:∀(u:Value) (w:World),fe P (method (P.types.size+Made.depth) t u name) w (f,u) w)(hp:fu P f [AZ g cs] v)(k:K v.av [] [] n):Ee P name (.c (.d (.ifc t g cs))) n K:=⟨f,v,hm,hp,k⟩
@[simp] theorem zhO(name:String)(x:MX){K:AV->List Nat->List (Nat × Blk)->Nat->Prop}{g}:eV P K (.invk name x) g get m n=Ee P name (X get x) n K:=(aL _).trans rfl
@[simp] theorem zhb(T:TypeId)(ag:Bool)(x:MX){K:AV->List Nat->List (Nat × Blk)->Nat->Prop}{g}:eV P K (.mkifc T ag x) g get m n=(match(generalizing:=false) ag,X get x with
 |true,.ag cs=>(match jC cs with
  |some ds=>K (.c (.d (.ifc T true ds))) [] [] n
  |none=>False)
 |false,.c (.d d)=>d.one=true/\K (.c (.d (.ifc T false [d]))) [] [] n
 | false,.c (.ptr b off)=>(match m b with
  |.box cs=>match mQ m cs with
   |some (ds,l)=>b∉l/\K (.c (.d (.ifc T false [.rp ds off]))) [] ((l++[b]).map λj=>(j,.dead)) n
   |none=>False
  |_=>False)
 |_,_=>False):=(aL _).trans rfl
@[simp] theorem zhc(x:MX){g}:eX P K Kp (.panicX x) g get m n=(match X get x with
 |.c (.d d)=>(match Ba d with
  |some u=>Kp (.iface u.1 u.2) [] n
  |none=>False)
 |_=>False):=(aL _).trans rfl
end
attribute [simp] D5 BZ Ba
abbrev dm:=@Next.mk
abbrev eP:=@W.loop
abbrev eU:=@Ac.mk
abbrev eY:=@II.mk
abbrev fM:=@gd.mk
abbrev fU:=@IG.mk
abbrev fV:=@Ee.mk
end Go.Abs
namespace Go.Abs
instance:jQ:=jQ.triv
mutual
def nO(P:Program):Nat->TypeId->List D->Prop
|0,_,_=>False
|n+1,t,ds=>match P.underlying t with
 |some .bool=>∃b,ds=[.bool b]
 |some (.int k)=>∃i,ds=[.int k i]
 |some .string=>∃s,ds=[.str s]
 |some (.slice e)=>∃es,ds=[.sl false (P.cellsOf e) es]/\∀x,x∈es->nO P n e x
 |some (.struct fs)=>xU P n (fs.toList.map (·.type)) ds
 |_=>False
def xU(P:Program):Nat->List TypeId->List D->Prop
|_,[],ds=>ds=[]
|n,t::ts,ds=>∃a b,ds=a++b/\nO P n t a/\xU P n ts b
end
def tC(P:Program)(tot:Nat):Nat->List Field->Bool
|o,[]=>o==tot
|o,f::r=>f.offset==o&&tC P tot (o+P.cellsOf f.type) r
def Bc(P:Program)(S:List TypeId)(t:TypeId):Bool:=match P.underlying t with
|some .bool|some (.int _)|some .string=>true
|some (.slice e)=>S.contains e&&decide (0<P.cellsOf e)&&decide (0<P.bytesOf e)
|some (.struct fs)=>tC P (P.cellsOf t) 0 fs.toList&&fs.toList.all λf=>S.contains f.type
|_=>false
def RepE.of_get{h:PH}{s:Nat}:∀{es:List (List D)} {vs:List Value},(∀i e,es[i]?=some e->e.length=s/\RepL h e (vs.drop (i*s)))->RepE h s es vs
|[],vs,_=>by simp[RepE]
|e::es,vs,H=>by
 simp only[RepE];have h0:=H 0 e rfl;refine⟨h0.1,by simpa using h0.2,RepE.of_get λi e' he=>?_⟩;have:=H (i+1) e' (by simpa using he);rw[bO,show s+i*s=(i+1)*s by rw[bD];omega];exact this
section
variable {H:Type} {enc:TypeId × Value->H} {P:Program} {w:World} {held:Bool}
def mapM_cells{B:Nat}{c:Array Value}{ty:TypeId}{fr:Nat × Nat}(hB:w.heap[B]?=some (.cells c ty fr)):∀(n k o:Nat) (cs:List Value),((List.range' k n).mapM λi=>w.cell? ⟨B,o+i,none⟩)=some cs->cs=(c.toList.drop (o+k)).take n/\cs.length=n
|0,k,o,cs,h=>by simp at h;subst h;simp
| n+1,k,o,cs,h=>by
 rw[dA,List.mapM_cons]at h;have hc:w.cell? ⟨B,o+k,none⟩=c[o+k]?:=by simp[World.cell?,hB]
 rw[hc]at h;cases e:c[o+k]? with
 |none=>simp[e]at h
 | some v=>
  simp only[e,Option.pure_def,Option.bind_eq_bind,Option.bind_some,cz]at h;obtain⟨r,hr,hcs⟩:=h;cases hcs;obtain⟨h1,h2⟩:=mapM_cells hB n (k+1) o r hr;have hk:o+k<c.toList.length:=by
   rcases aX (o+k) c.size with h|h
   ·simpa using h
   ·rw[af h]at e;cases e
  rw[aG hk];refine⟨?_,by simp[h2]⟩;rw[List.take_succ_cons,h1,show o+(k+1)=o+k+1 by omega];congr 1;have:=bH (xs:=c) (i:=o+k) (by simpa using hk);rw[this]at e;simp at e;simp[e]
def LA{base:Nat}{a:Addr}{s:Nat}{cs:List Value}(hs:0<s)(h:w.cells? base a s=some cs):a.spot=none/\cs=((hcells (λB=>w.heap[B]?) a.block).drop a.off).take s/\cs.length=s:=by
 unfold World.cells? at h;split at h
 ·obtain⟨B,o,sp⟩:=a;have hsp:sp=none:=by
   cases sp with
   |none=>rfl
   | some z=>
    exfalso;cases s with
    |zero=>cases hs
    | succ s=>
     rw[bf,dA,List.mapM_cons]at h;have:w.cell? (Addr.add ⟨B,o,some z⟩ 0)=none:=by
      unfold World.cell? Addr.add;simp;cases w.heap[B]? with
      |none=>rfl
      |some ob=>cases ob<;>rfl
     rw[this]at h;simp at h
  subst hsp;refine⟨rfl,?_⟩;simp only[addr_add]at h;simp only[hcells];cases e:w.heap[B]? with
  | none=>
   exfalso;cases s with
   |zero=>cases hs
   |succ s=>
    rw[bf,dA,List.mapM_cons]at h;simp[World.cell?,e]at h
  | some ob=>
   cases ob with
   |cells c ty fr=>
    rw[bf]at h;have:=mapM_cells e s 0 o cs h;rw[Nat.add_zero]at this;exact this
   | _=>
    exfalso;cases s with
    |zero=>cases hs
    |succ s=>
     rw[bf,dA,List.mapM_cons]at h;simp[World.cell?,e]at h
 ·cases h
def RepL.of_take{h:PH}{ds:List D}{vs:List Value}{n:Nat}(r:RepL h ds (vs.take n)):RepL h ds vs:=by
 have:=fJ (eZ h) ds _ (vs.drop n) r;simpa using this
def R9{e:TypeId}:∀{l:List (DataW H)} {d:DataW H},d∈l->∀n,n∈d.weights P e->n∈DataW.weightsAll P e l
|x::l,d,h,n,hn=>by
 simp only[DataW.weightsAll,aU];cases aS.1 h with
 |inl h=>subst h;exact Or.inl hn
 |inr h=>exact Or.inr (R9 h n hn)
def Ra:reachBytes<=zao:=by decide
def zeF {S:List TypeId} (hS:∀t,t∈S->Bc P S t=true):∀(fuel:Nat) (t:TypeId) (cs:List Value) (d:DataW H) (ps:List MemPlace),t∈S->
  DataW.trod enc P w 0 (λ_=>true) true fuel t cs=some (d,ps)->(∀n,n∈d.weights P t->n<=reachBytes)->
  ∃ds,nO P fuel t ds/\RepL (λB=>w.heap[B]?) ds cs/\ds.length=cs.length:=by
 intro fuel
 induction fuel with
 |zero=>intro t cs d ps _ h;simp[DataW.trod]at h
 |succ fuel ih=>
 intro t cs d ps ht h hw;have hg:=hS t ht;unfold Bc at hg;split at hg
 ·rename_i hu;obtain⟨b,rfl,_⟩:=DataW.trod_bool hu h;exact⟨[.bool b],by unfold nO;rw[hu];exact⟨b,rfl⟩,by simp[RepL,RepD,Value.one1],rfl⟩
 ·rename_i k hu;obtain⟨n,rfl,_,hwf⟩:=DataW.trod_int hu h;refine⟨[.int k n],by unfold nO;rw[hu];exact⟨n,rfl⟩,?_,rfl⟩;simp only[Lit.wf,aC,aI]at hwf;simp[RepL,RepD,Value.one1,hwf]
 ·rename_i hu;obtain⟨s,rfl,hx,_⟩:=DataW.trod_string hu h;refine⟨[.str s],by unfold nO;rw[hu];exact⟨s,rfl⟩,?_,rfl⟩;simp only[ax]at hx;rw[hx.1]at hw;have h1:=hw s.data.toList.length (by unfold DataW.weights;exact aP.2 rfl);have e:s.size=s.data.toList.length:=(df ..).symm;have h2:=Ra;refine⟨⟨rfl,?_⟩,trivial⟩;unfold RepD;exact⟨rfl,e▸aj h1 h2⟩
 ·rename_i e hu;simp only[aC,aI,dJ]at hg;obtain⟨⟨he,hc⟩,hb⟩:=hg;rcases DataW.trod_slice hu h with⟨rfl,_⟩|⟨a,len,cap,elems,rest,n,hn,rfl,hx,_,hlc,hcm,hlen,hel,hsp,_⟩
  ·refine⟨[.sl false (P.cellsOf e) []],by unfold nO;rw[hu];exact⟨[],rfl,by simp⟩,?_,rfl⟩;refine⟨⟨rfl,?_⟩,trivial⟩;unfold RepD;exact⟨none,0,rfl,aK _,λh=>(by cases h),dO _,λ_=>⟨rfl,rfl⟩,λp hp=>(by cases hp),(by simp[RepE])⟩
  ·simp only[Nat.add_right_cancel_iff]at hn;subst hn;simp only[ax]at hx;have hw0:∀x,x∈elems.map (·.1)->∀m,m∈x.weights P e->m<=reachBytes:=λx hx' m hm=>hw m (by
    rw[hx.1];simp only[DataW.weights,hu]
    exact List.mem_cons_of_mem _ (List.mem_append_left _ (R9 hx' m hm)))
   have hcap:(elems.length+rest.length)*P.bytesOf e<=reachBytes:=hw _ (by rw[hx.1];simp only[DataW.weights,hu];simp);have hcap':elems.length+rest.length<=reachBytes:=aj (Nat.le_mul_of_pos_right _ hb) hcap;have key:∀i,i<len->∃ds,nO P fuel e ds/\ds.length=P.cellsOf e/\a.spot=none/\RepL (λB=>w.heap[B]?) ds ((hcells (λB=>w.heap[B]?) a.block).drop (a.off+i*P.cellsOf e)):=by
    intro i hi;have h1:=hel i hi;have hil:i<elems.length:=by omega
    rw[aD hil]at h1;obtain⟨cs',hcs,htr⟩:=cz.1 h1;obtain⟨ds,s1,s2,s3⟩:=ih e cs' elems[i].1 elems[i].2 he htr (hw0 _ (List.mem_map_of_mem (ai hil)));obtain⟨g1,g2,g3⟩:=LA hc hcs;have g4:(a.add (i*P.cellsOf e)).block=a.block:=by unfold Addr.add;split<;>rfl
    have g5:(a.add (i*P.cellsOf e)).off=a.off+i*P.cellsOf e:=by unfold Addr.add;split<;>simp_all
    rw[g4,g5]at g2;refine⟨ds,s1,by omega,?_,RepL.of_take (g2▸s2)⟩
    -- the first element's reading says that the place is plain
    have h0:=hel 0 (by omega);rw[aD (show 0<elems.length by omega)]at h0;obtain⟨cs0,hcs0,_⟩:=cz.1 h0;have:=(LA hc hcs0).1;simpa[Addr.add]using this
   have hspot:0<cap->a.spot=none:=by
    intro hcap;rcases aX 0 len with hl|hl
    ·obtain⟨_,_,_,h3,_⟩:=key 0 hl;exact h3
    ·have hl0:len=0:=by omega
     have:=(hsp rfl).2 0 (by omega);rw[aD (show 0<rest.length by have:=(hsp rfl).1;omega)]at this;obtain⟨cs0,hcs0,_⟩:=cz.1 this;have:=(LA hc hcs0).1;simpa[Addr.add,hl0]using this
   have pick:∃es:List (List D),es.length=len/\∀i x,es[i]?=some x->nO P fuel e x/\x.length=P.cellsOf e/\RepL (λB=>w.heap[B]?) x ((hcells (λB=>w.heap[B]?) a.block).drop (a.off+i*P.cellsOf e)):=by
    have:∀m,m<=len->∃es:List (List D),es.length=m/\∀i x,es[i]?=some x->nO P fuel e x/\x.length=P.cellsOf e/\RepL (λB=>w.heap[B]?) x ((hcells (λB=>w.heap[B]?) a.block).drop (a.off+i*P.cellsOf e)):=by
     intro m
     induction m with
     |zero=>intro _;exact⟨[],rfl,by simp⟩
     | succ m ihm=>
      intro hm;obtain⟨es,hes,hall⟩:=ihm (by omega);obtain⟨ds,d1,d2,d3,d4⟩:=key m (by omega);refine⟨es++[ds],by simp[hes],λi x hx=>?_⟩;rw[List.getElem?_append]at hx;split at hx
      ·exact hall i x hx
      ·have:i=m:=by
        rcases aX (i-es.length) 1 with h|h
        ·omega
        ·rw[aM (by simpa using h)]at hx;cases hx
       subst this;simp[hes]at hx;subst hx;exact⟨d1,d2,d4⟩
    exact this len (aK _)
   obtain⟨es,hes,hall⟩:=pick;refine⟨[.sl false (P.cellsOf e) es],?_,?_,rfl⟩
   ·unfold nO;rw[hu];refine⟨es,rfl,λx hx=>?_⟩;obtain⟨i,hi,rfl⟩:=dQ hx;exact(hall i _ (aD hi)).1
   ·have:=Ra;simp only[RepL,RepD,Value.one1,and_true,true_and];refine⟨some a,cap,by rw[hes],by omega,by simp,by omega,by simp,λp hp hcap=>by cases hp;exact hspot hcap,?_⟩;refine RepE.of_get λi x hx=>?_;obtain⟨_,h2,h3⟩:=hall i x hx;refine⟨h2,?_⟩;simp only[cellsAt];rw[bO];exact h3
 ·rename_i fs hu;simp only[aC,aZ,dJ]at hg;obtain⟨hlay,hmem⟩:=hg;obtain⟨xs,n,hn,hx,hl,hxl,hf⟩:=DataW.trod_struct hu h;simp only[Nat.add_right_cancel_iff]at hn;subst hn;simp only[ax]at hx;have hw1:∀(i:Nat) (f:Field) y,fs[i]?=some f->xs[i]?=some y->∀m,m∈y.1.weights P f.type->m<=reachBytes:=λi f y hfi hyi m hm=>hw m (by
   rw[hx.1];simp only[DataW.weights,hu]
   exact DataW.weights_mem_each (j:=i) (t:=f.type) (d:=y.1) (by simp[hfi]) (by simp[hyi]) m hm)
  have key:∀(l:List Field) (k o:Nat),fs.toList.drop k=l->tC P (P.cellsOf t) o l=true->o<=cs.length->∃ds,xU P fuel (l.map (·.type)) ds/\RepL (λB=>w.heap[B]?) ds (cs.drop o)/\ds.length=cs.length-o:=by
   intro l
   induction l with
   |nil=>
    intro k o _ hlay ho;simp only[tC,aV]at hlay;exact⟨[],by simp[xU],by simp[RepL],by simp;omega⟩
   | cons f l ihl=>
    intro k o hk hlay ho;simp only[tC,aC,aV]at hlay;have hkf:fs[k]?=some f:=by
     have:(fs.toList.drop k)[0]?=some f:=by rw[hk];rfl
     simpa using this
    have hfk:=hf k f hkf;have hks:k<xs.length:=by
     rw[hxl];rcases aX k fs.size with h|h
     ·exact h
     ·rw[af h]at hkf;cases hkf
    rw[aD hks,hlay.1]at hfk;have hfm:f∈fs.toList:=List.mem_of_mem_drop (i:=k) (by rw[hk];simp);obtain⟨a,s1,s2,s3⟩:=ih f.type _ xs[k].1 xs[k].2 (hmem f hfm) hfk (hw1 k f xs[k] hkf (aD hks));have hle:∀(l:List Field) (o:Nat),tC P (P.cellsOf t) o l=true->o<=P.cellsOf t:=by
     intro l
     induction l with
     |nil=>intro o h;simp[tC]at h;omega
     |cons f l ih=>intro o h;simp[tC]at h;have:=ih _ h.2;omega
    have ho2:=hle _ _ hlay.2;obtain⟨b,t1,t2,t3⟩:=ihl (k+1) (o+P.cellsOf f.type) (by rw[<-bO,hk];rfl) hlay.2 (by omega);have hal:a.length=P.cellsOf f.type:=by rw[s3];simp;omega
    refine⟨a++b,(by simp only[List.map_cons,xU];exact⟨a,b,rfl,s1,t1⟩),?_,by simp[hal,t3];omega⟩;have e:cs.drop o=(cs.drop o).take (P.cellsOf f.type)++cs.drop (o+P.cellsOf f.type):=by
     rw[<-bO,bW]
    rw[e];exact RepL.append s2 (by rw[s3]) t2
  obtain⟨ds,d1,d2,d3⟩:=key fs.toList 0 0 rfl hlay (by omega);exact⟨ds,by unfold nO;rw[hu];exact d1,by simpa using d2,by simpa using d3⟩
 ·cases hg
def isAgg(P:Program)(t:TypeId):Bool:=match P.underlying t with
|some (.struct _)=>true
|_=>false
def rU(ag:Bool)(ds:List D):DV:=match ag with
|true=>.agg ds
|false=>.one (ds.headD .any)
def Bd(P:Program):List TypeId->List DV->Prop
|[],vs=>vs=[]
|_::_,[]=>False
|t::ts,v::vs=>(∃n ds,nO P n t ds/\v=rU (isAgg P t) ds)/\Bd P ts vs
def zfX{S:List TypeId}(hS:∀t,t∈S->Bc P S t=true){base:Nat}{t:TypeId}{v:Value}{d:DataW H}{ps:List MemPlace}(ht:t∈S)(hval:Value.okWide P w .any base t v)
  (h:DataW.Trod enc P w 0 (λ_=>true) true t v d ps) (hw:∀n,n∈d.weights P t->n<=reachBytes):
  ∃n ds,nO P n t ds/\jZ (λB=>w.heap[B]?) (rU (isAgg P t) ds) v:=by
 obtain⟨fuel,h⟩:=h;obtain⟨ds,h1,h2,h3⟩:=zeF hS fuel t _ d ps ht h hw;refine⟨fuel,ds,h1,?_⟩;unfold isAgg;unfold Value.okWide at hval;have hg:=hS t ht;unfold Bc at hg;have one:∀u:Value,u=v->u.cells.toList=[u]->jZ (λB=>w.heap[B]?) (rU false ds) v:=by
  intro u hu hc;subst hu;rw[hc]at h2 h3
  match ds,h3 with
  |[x],_=>simp only[rU,List.headD_cons,jZ];simp only[RepL]at h2;exact h2.1.2
 have cell:∀{td:TypeDesc},P.underlying t=some td->Cell.okWide P w .any base t v->(∀fs,td≠.struct fs)->(∀n e,td≠.array n e)->v.cells.toList=[v]:=by
  intro td hu hc h1 h2;unfold Cell.okWide Cell.ok at hc;rw[hu]at hc;cases v<;>first|rfl|(exfalso;revert hc;cases td<;>simp)
 split at hg
 ·rename_i hu;rw[hu]at hval⊢;exact one v rfl (cell hu hval (by simp) (by simp))
 ·rename_i hu;rw[hu]at hval⊢;exact one v rfl (cell hu hval (by simp) (by simp))
 ·rename_i hu;rw[hu]at hval⊢;exact one v rfl (cell hu hval (by simp) (by simp))
 ·rename_i hu;rw[hu]at hval⊢;exact one v rfl (cell hu hval (by simp) (by simp))
 ·rename_i hu;rw[hu]at hval⊢;simp only at hval⊢;obtain⟨cs,rfl,_,_⟩:=hval;simp only[rU,jZ];refine⟨cs.toList,by simp,?_,h2⟩;rw[h3];rfl
 ·cases hg
def Rb{S:List TypeId}(hS:∀t,t∈S->Bc P S t=true){base:Nat}:∀{ts:List TypeId} {vs:List Value} {ds:List (DataW H)} {ps:List MemPlace},(∀t,t∈ts->t∈S)->
 (∀(j:Nat) t v,ts[j]?=some t->vs[j]?=some v->Value.okWide P w .any base t v)->DataW.TrodAll enc P w 0 (λ_=>true) true ts vs ds ps->(∀n,n∈DataW.weightsEach P ts ds->n<=reachBytes)->
 ∃dvs,Bd P ts dvs/\ja (λB=>w.heap[B]?) dvs vs
|[],[],[],_,_,_,_,_=>⟨[],rfl,by simp[ja]⟩
|t::ts,v::vs,d::ds,ps,ht,hval,h,hw=>by
 obtain⟨p,q,h1,h2,_⟩:=h;obtain⟨n,e,a1,a2⟩:=zfX hS (ht t (by simp)) (hval 0 t v rfl rfl) h1 (λn hn=>hw n (by simp[DataW.weightsEach,hn]));obtain⟨dvs,b1,b2⟩:=Rb hS (λu hu=>ht u (by simp[hu])) (λj u x hu hx=>hval (j+1) u x (by simpa using hu) (by simpa using hx)) h2 (λn hn=>hw n (by simp[DataW.weightsEach,hn]));exact⟨rU (isAgg P t) e::dvs,⟨⟨n,e,a1,rfl⟩,b1⟩,by simp only[ja];exact⟨a2,b2⟩⟩
def Rc(hl:laidOutB P=true){W W':World}(hb:Go.RowKit.Below W.heap.size W W'):∀{ts:List TypeId} {vs:List Value} {ds:List (DataW H)} {ps:List MemPlace},(∀t,t∈ts->P.readableRec t=true/\t<P.types.size)->
 DataW.TrodAll enc P W 0 (λ_=>true) true ts vs ds ps->(∀x,x∈ps->x.block<W.heap.size)->DataW.TrodAll enc P W' 0 (λb=>decide (b<W.heap.size)) true ts vs ds ps
|[],[],[],_,_,h,_=>h
|t::ts,v::vs,d::ds,ps,hr,h,hlt=>by
 obtain⟨p,q,h1,h2,rfl⟩:=h;have hrt:=hr t (by simp);exact⟨p,q,Go.RowKit.Below.trod hl hrt.1 hrt.2 h1 hb (λx hx=>hlt x (by simp[hx])),Rc hl hb (λu hu=>hr u (by simp[hu])) h2 (λx hx=>hlt x (by simp[hx])),rfl⟩
end
section
variable {P:Program} {n:Nat} {t:TypeId} {ds:List D}
def Re{k:IntKind}(hu:P.underlying t=some (.int k))(h:nO P n t ds):∃i,ds=[.int k i]:=by
 cases n with
 |zero=>exact(by unfold nO at h;exact h:False).elim
 |succ n=>unfold nO at h;rw[hu]at h;exact h
def Rf(hu:P.underlying t=some .string)(h:nO P n t ds):∃i,ds=[.str i]:=by
 cases n with
 |zero=>exact(by unfold nO at h;exact h:False).elim
 |succ n=>unfold nO at h;rw[hu]at h;exact h
def zgb{fs:Array Field}(hu:P.underlying t=some (.struct fs))(h:nO P n t ds):∃m,n=m+1/\xU P m (fs.toList.map (·.type)) ds:=by
 cases n with
 |zero=>exact(by unfold nO at h;exact h:False).elim
 |succ n=>unfold nO at h;rw[hu]at h;exact⟨n,rfl,h⟩
def zgJ(h:xU P n [] ds):ds=[]:=by unfold xU at h;exact h
def Rh{ts:List TypeId}(h:xU P n (t::ts) ds):∃a b,ds=a++b/\nO P n t a/\xU P n ts b:=by unfold xU at h;exact h
def zfx{α:Type}{enc:α->List D}{es:List (List D)}(h:∀x,x∈es->∃a,x=enc a):∃l:List α,es=l.map enc:=by
 induction es with
 |nil=>exact⟨[],rfl⟩
 |cons e es ih=>
  obtain⟨a,ha⟩:=h e (by simp);obtain⟨l,hl⟩:=ih (λx hx=>h x (by simp[hx]));exact⟨a::l,by simp[ha,hl]⟩
def Ri{e:TypeId}{s:Nat}{α:Type}{enc:α->List D}(hu:P.underlying t=some (.slice e))(hs:P.cellsOf e=s)(he:∀m,m<n->∀x,nO P m e x->∃a,x=enc a)(h:nO P n t ds):∃l:List α,ds=[.sl false s (l.map enc)]:=by
 cases n with
 |zero=>exact(by unfold nO at h;exact h:False).elim
 |succ n=>
  unfold nO at h;rw[hu]at h;obtain⟨es,h1,h2⟩:=h;obtain⟨l,hl⟩:=zfx (enc:=enc) (λx hx=>he n (by omega) x (h2 x hx));exact⟨l,by rw[h1,hs,hl]⟩
end
end Go.Abs
namespace Go.Abs
variable [jQ]
def vz:List Nat->List AV->List (Nat × AV)
|k::ks,v::vs=>(k,v)::vz ks vs
|_,_=>[]
def Be(S:St)(ks:List Nat):List Nat->List (Nat × AV)
|[]=>[]
|k::r=>if k∈ks then Be S ks r else(k,S.get k)::Be S ks r
attribute [simp] vz Be
def W.loopL{P:Program}{c:Ctx}{Q:Exit->St->Prop}{S:St}{Y:Type}(hm:P.follows .mixedOrders=true)(hp:c.pure){body:MC}{g:Tag (body,Q)}(live ks:List Nat)(I:Y->Prop)(ch:Y->List AV)(bs:Y->List Blk)(μ:Y->Nat)(x0:Y)(l0:List Nat)(hI:I x0)
  (h0:iU l0 S (vz ks (ch x0)++Be S ks live) (bs x0))
  (round:∀x,I x->w_ P c body (vg (Next I (λx=>vz ks (ch x)++Be S ks live) bs μ x ⟨⟩) Q) ⟨⟩ (hd (vz ks (ch x)++Be S ks live) (bs x))):qO P c body Q g S:=
 eP hm hp I (λx=>vz ks (ch x)++Be S ks live) bs μ x0 l0 hI h0 round
abbrev eQ:=@W.loopL
end Go.Abs
namespace Go.Abs
variable [jQ]
def nP:Nat->List AV->List (Nat × AV)
|_,[]=>[]
|i,v::vs=>(i,v)::nP (i+1) vs
def pq:Nat->List (Nat × Nat)->List Blk
|_,[]=>[]
|i,t::ts=>.pin t i::pq (i+1) ts
def AC.ok:AC->Prop
|.d x=>x.ok
|_=>True
def AC.okL:List AC->Prop
|[]=>True
|c::cs=>c.ok/\AC.okL cs
def AV.ok:AV->Prop
|.c x=>x.ok
|.ag cs=>AC.okL cs
|_=>True
def AV.okL:List AV->Prop
|[]=>True
|v::vs=>v.ok/\AV.okL vs
def AC.okE(s:Nat):List (List AC)->Prop
|[]=>True
|e::es=>(e.length=s/\AC.okL e)/\AC.okE s es
def Blk.ok:Blk->Prop
|.box cs=>AC.okL cs
|.arr s es=>es.length<=zao/\AC.okE s es
|_=>True
section
variable {h:PH} {ρ:RM}
def RepC.ok:∀{x:AC} {v:Value},RepC h ρ x v->x.ok
|.d x,v,r=>by simp only[RepC]at r;exact RepD.ok _ _ r
|.ptr _ _,_,_=>trivial
|.ept _ _ _ _,_,_=>trivial
|.msl _ _ _ _,_,_=>trivial
|.map _,_,_=>trivial
|.fn _ _,_,_=>trivial
|.op _,_,_=>trivial
def gK.ok:∀{cs:List AC} {vs:List Value},gK h ρ cs vs->AC.okL cs
|[],_,_=>trivial
|_::_,[],r=>by simp[gK]at r
|c::cs,v::vs,r=>by
 simp only[gK]at r;exact⟨r.1.2.ok,r.2.ok⟩
def RepV.ok:∀{x:AV} {v:Value},RepV h ρ x v->x.ok
|.c x,v,r=>by simp only[RepV]at r;exact RepC.ok r
|.ag cs,v,r=>by
 simp only[RepV]at r;obtain⟨vs,_,_,r⟩:=r;exact r.ok
|.tup _,_,_=>trivial
def zad.ok:∀{xs:List AV} {vs:List Value},zad h ρ xs vs->AV.okL xs
|[],_,_=>trivial
|_::_,[],r=>by simp[zad]at r
|x::xs,v::vs,r=>by
 simp only[zad]at r;exact⟨r.1.ok,r.2.ok⟩
def gp.ok{s:Nat}:∀{es:List (List AC)} {vs:List Value},gp h ρ s es vs->AC.okE s es
|[],_,_=>trivial
|e::es,vs,r=>by
 simp only[gp]at r;exact⟨⟨r.1,r.2.1.ok⟩,r.2.2.ok⟩
def zaj.ok{p:Nat × Nat}{blk:Blk}{w:Heap}(r:zaj h ρ p blk w):blk.ok:=by
 cases blk with
 |box cs=>obtain⟨vs,T,_,_,r⟩:=r;exact r.ok
 |arr s es=>
  rcases r with⟨_,rfl⟩|⟨vs,T,_,_,_,h4,r⟩
  ·exact⟨by simp,trivial⟩
  ·exact⟨h4,r.ok⟩
 |_=>trivial
def zad.len:∀{xs:List AV} {vs:List Value},zad h ρ xs vs->vs.length=xs.length
|[],vs,r=>by simp only[zad]at r;subst r;rfl
|_::_,[],r=>by simp[zad]at r
|x::xs,v::vs,r=>by simp only[zad]at r;simp[r.2.len]
end
def mY(S:St)(l:List Nat):List Nat->List Blk->Prop
|[],[]=>True
|j::js,b::bs=>(b=.dead\/S.m j=b.ren (gm l))/\mY S l js bs
|_,_=>False
def lN(S:St)(l:List Nat):List Nat->List Nat->List (Nat × Nat)->List Blk->Prop
|_,_,[],_=>True
|j::js,q::qs,t::ts,b::bs=>(b=.dead\/S.m q=.pin t j)/\lN S l js qs ts bs
|_,_,_,_=>False
def kw(v:AV)(bs':List Blk)(ts:List (Nat × Nat))(vs:List AV)(S:St):Prop:=
∃l qs:List Nat,l.Nodup/\(∀(h:PH) (ρ:RM) (vC:Value),RepV h ρ (one? vs) vC->RepV h ρ (v.ren (gm l)) vC)/\mY S l l bs'/\lN S l l qs ts bs'
def kw.mk{v:AV}{bs':List Blk}{ts:List (Nat × Nat)}{vs:List AV}{S:St}(l qs:List Nat)(h:l.Nodup/\one? vs=v.ren (gm l)/\mY S l l bs'/\lN S l l qs ts bs'):kw v bs' ts vs S:=⟨l,qs,h.1,(λ_ _ _ r=>h.2.1▸r),h.2.2⟩
def kw.mkD{v:AV}{bs':List Blk}{ts:List (Nat × Nat)}{vs:List AV}{S:St}(l qs:List Nat)(h:l.Nodup/\one? vs=v.ren (gm l)/\mY S l l bs'/\lN S l l qs ts bs':=by simp):kw v bs' ts vs S:=kw.mk l qs h
def xV(rs:List MR)(v:AV)(bs':List Blk)(ts:List (Nat × Nat)):Exit->St->Prop
|.ret,S|.normal,S=>vo S rs λvs=>kw v bs' ts vs S
|_,_=>False
def uf(rs:List MR)(o:XO)(bs':List Blk)(ts:List (Nat × Nat)):Exit->St->Prop
|.ret,S|.normal,S=>match o with
 |.ret v=>vo S rs λvs=>kw v bs' ts vs S
 |.pan _=>False
|.panic ch,S=>match o with
 |.pan pv=>ch=[{v:=pv,recovered:=false}]/\∃l qs:List Nat,l.Nodup/\mY S l l bs'/\lN S l l qs ts bs'
 |.ret _=>False
|_,_=>False
@[simp] theorem zhg(rs:List MR)(v:AV)(bs':List Blk)(ts:List (Nat × Nat))(S:St):xV rs v bs' ts .ret S=Ae S rs (λvs=>kw v bs' ts vs S) ⟨⟩:=(aL _).trans rfl
@[simp] theorem zgj(rs:List MR)(v:AV)(bs':List Blk)(ts:List (Nat × Nat))(S:St):xV rs v bs' ts .normal S=Ae S rs (λvs=>kw v bs' ts vs S) ⟨⟩:=(aL _).trans rfl
@[simp] theorem zhh(rs:List MR)(o:XO)(bs':List Blk)(ts:List (Nat × Nat))(S:St):uf rs o bs' ts .ret S=(match o with
 |.ret v=>Ae S rs (λvs=>kw v bs' ts vs S) ⟨⟩
 |.pan _=>False):=(aL _).trans rfl
@[simp] theorem zgk(rs:List MR)(o:XO)(bs':List Blk)(ts:List (Nat × Nat))(S:St):uf rs o bs' ts .normal S=(match o with
 |.ret v=>Ae S rs (λvs=>kw v bs' ts vs S) ⟨⟩
 |.pan _=>False):=(aL _).trans rfl
def xW(pv:Value)(o:XO)(bs':List Blk)(ts:List (Nat × Nat))(S:St):Prop:=match o with
 |.pan p=>pv=p/\∃l qs:List Nat,l.Nodup/\mY S l l bs'/\lN S l l qs ts bs'
 |.ret _=>False
def xW.mk{pv:Value}{bs':List Blk}{ts:List (Nat × Nat)}{S:St}(l qs:List Nat)(h:l.Nodup/\mY S l l bs'/\lN S l l qs ts bs'):xW pv (.pan pv) bs' ts S:=⟨rfl,l,qs,h⟩
@[simp] theorem zgu(rs:List MR)(o:XO)(bs':List Blk)(ts:List (Nat × Nat))(pv:Value)(S:St):uf rs o bs' ts (.panic [{v:=pv,recovered:=false}]) S=xW pv o bs' ts S:=by
 cases o<;>simp[uf,xW]
attribute [simp] nP pq mY lN AC.lv AC.lvs AV.lv AV.lvs Blk.lv AC.lvs_D gT uJ ni oN
def LB:∀(i:Nat) (ts:List (Nat × Nat)),(pq i ts).length=ts.length
|_,[]=>rfl
|i,t::ts=>by simp[pq,LB (i+1) ts]
def LC:∀(i:Nat) (ts:List (Nat × Nat)) (j:Nat),(pq i ts)[j]?=(ts[j]?).map λt=>.pin t (i+j)
|_,[],j=>by simp[pq]
|i,t::ts,0=>by simp[pq]
|i,t::ts,j+1=>by
 simp only[pq,List.getElem?_cons_succ];rw[LC (i+1) ts j,show i+1+j=i+(j+1) by omega]
def Rj{h:PH}{ρ:RM}:∀{ds:List AV} {us:List Value} (i:Nat),zad h ρ ds us->∀k,RepV h ρ (look (nP i ds) k) (if i<=k then us.getD (k-i) undef else undef)
|[],us,i,_,k=>by simp[nP,look,RepV,RepC,RepD]
|_::_,[],_,r,_=>by simp[zad]at r
| d::ds,u::us,i,r,k=>by
 simp only[zad]at r;simp only[nP,look];by_cases hk:k=i
 ·subst hk;simp;exact r.1
 ·rw[aA hk];have:=Rj (i+1) r.2 k;by_cases hle:i<=k
  ·rw[aB hle];rw[aB (by omega)]at this;rw[show k-i=(k-(i+1))+1 from by omega];simpa using this
  ·rw[aA hle];rw[aA (by omega)]at this;exact this
def Rk{S:St}{l:List Nat}:∀{js:List Nat} {bs:List Blk},mY S l js bs->js.length=bs.length/\∀i,i<js.length->hpOf bs i=.dead\/S.m (js.getD i 0)=(hpOf bs i).ren (gm l)
|[],[],_=>⟨rfl,λi hi=>by simp at hi⟩
|[],_::_,h=>by simp[mY]at h
|_::_,[],h=>by simp[mY]at h
|j::js,b::bs,h=>by
 simp only[mY]at h;obtain⟨h1,h2⟩:=Rk h.2;refine⟨by simp[h1],λi hi=>?_⟩;cases i with
 |zero=>simpa[hpOf]using h.1
 |succ i=>simpa[hpOf]using h2 i (by simpa using hi)
def Rl{S:St}{l:List Nat}:∀{js qs:List Nat} {ts:List (Nat × Nat)} {bs:List Blk},lN S l js qs ts bs->∀i t,ts[i]?=some t->hpOf bs i=.dead\/∃q,S.m q=.pin t (js.getD i 0)
|_,_,[],_,_,i,t,e=>by simp at e
|[],_,_::_,_,h,_,_,_=>by simp[lN]at h
|_::_,[],_::_,_,h,_,_,_=>by simp[lN]at h
|_::_,_::_,_::_,[],h,_,_,_=>by simp[lN]at h
|j::js,q::qs,t::ts,b::bs,h,0,t',e=>by
 simp only[lN]at h;simp at e;subst e;rcases h.1 with h|h
 ·exact .inl (by simpa[hpOf]using h)
 ·exact .inr ⟨q,by simpa using h⟩
|j::js,q::qs,t::ts,b::bs,h,i+1,t',e=>by
 simp only[lN]at h;have:=Rl h.2 i t' (by simpa using e);simpa[hpOf]using this
def IJ{bs:List Blk}{i:Nat}(h:i<bs.length):bs[i]?=some (hpOf bs i):=by
 unfold hpOf;rw[aF,aD h];rfl
def zQ{bs:List Blk}{i:Nat}(h:bs.length<=i):hpOf bs i=.non:=by
 unfold hpOf;rw[aF,aM h];rfl
section
variable {P:Program}
def gP.of_walk {f : FuncId} {fn : Func} {code : Code} {mc : MC} {rs : List MR} {args : List AV} {bs : List Blk} {o : XO} {bs' : List Blk} (hf : P.funcs[f]? = some fn) (hb : fn.body = some code) (hname : (fn.name != "runtime.NumGoroutine") = true)
  (hc:iH P fn.ntmps mc code=true) (hr:ku P rs fn.results.toList=true) (hn:args.length<=fn.ntmps) (hbs:∀i,i<bs.length->hpOf bs i≠.non) (hle:bs.length<=bs'.length) (hnon:∀i,i<bs'.length->hpOf bs' i≠.non)
  (hnew:∀i,bs.length<=i->i<bs'.length->hpOf bs' i≠.dead) (hvl:∀v,o=.ret v->v.lv (live bs')=true) (hbl:∀b,b∈bs'->b.lv (live bs')=true)
  (h:∀ts:List (Nat × Nat),ts.length=bs.length->AV.okL args->(∀b,b∈bs->b.ok)->∀c:Ctx,c.N=fn.ntmps->c.pure->AW P c mc (uf rs o bs' ts) ⟨nP 0 args,hpOf (bs++pq 0 ts),bs.length+ts.length⟩):gP P f args bs o bs':=by
 have hcal:callee P f=true:=by unfold callee;rw[hf];simp only[hb];simpa using hname
 suffices h0:∀(ph:PH) (ρ0:RM) (w:World) (us:List Value),HRel ph ρ0 (hpOf bs) w.heap->Gnd P ph->jQ.ok ph (jm ρ0 (hpOf bs)) w->zad ph ρ0 args us->Calls P f us.toArray w λe w'=>∃(h':PH) (ρ':RM),(match o with
   |.ret v=>∃vC,e=.returned vC/\RepV h' ρ' v vC
   |.pan pv=>e=.panicked [{v:=pv,recovered:=false}])/\ng ph ρ0 (hpOf bs) w.heap h' ρ' (hpOf bs') w'.heap/\HRel h' ρ' (hpOf bs') w'.heap/\Same w w'/\∀i,i<bs.length->ρ' i=ρ0 i by
  cases o with
  |ret v=>
   refine⟨hcal,hle,hnon,hvl v rfl,hbl,λph ρ0 w us H0 hG hS ra=>(h0 ph ρ0 w us H0 hG hS ra).mono λe w' hh=>?_⟩;obtain⟨h',ρ',⟨vC,e1,rv⟩,a,b,c,d⟩:=hh;exact⟨vC,h',ρ',e1,a,b,c,rv,d⟩
  |pan pv=>
   refine⟨hcal,hle,hnon,hbl,λph ρ0 w us H0 hG hS ra=>(h0 ph ρ0 w us H0 hG hS ra).mono λe w' hh=>?_⟩;obtain⟨h',ρ',e1,a,b,c,d⟩:=hh;exact⟨h',ρ',e1,a,b,c,d⟩
 intro ph ρ0 w us H0 hG hS ra;have hlen:=ra.len;have some0:∀i,i<bs.length->∃p,ρ0 i=some p:=λi hi=>by
  cases e:ρ0 i with
  |none=>exact absurd ((H0.dom i).2 e) (hbs i hi)
  |some p=>exact⟨p,rfl⟩
 have none0:∀i,bs.length<=i->ρ0 i=none:=λi hi=>(H0.dom i).1 (zQ hi);let ts:List (Nat × Nat):=(List.range bs.length).map λi=>(ρ0 i).getD (0,0);have hts:ts.length=bs.length:=by simp[ts]
 have tsget:∀i,i<bs.length->∀p,ρ0 i=some p->ts[i]?=some p:=λi hi p hp=>by
  simp only[ts,List.getElem?_map,List.getElem?_range hi,Option.map_some,hp];rfl
 let ρ1:RM:=λb=>if b<bs.length then ρ0 b else if b<bs.length+bs.length then ρ0 (b-bs.length)else none;have m1a:∀b,b<bs.length->hpOf (bs++pq 0 ts) b=hpOf bs b:=λb hb=>by
  unfold hpOf;rw[aF,aF,ay hb]
 have m1b:∀j,j<bs.length->∀p,ρ0 j=some p->hpOf (bs++pq 0 ts) (bs.length+j)=.pin p j:=λj hj p hp=>by
  unfold hpOf;rw[aF,bC (by omega),bX,LC,tsget j hj p hp];simp
 have m1c:∀b,bs.length+bs.length<=b->hpOf (bs++pq 0 ts) b=.non:=λb hb=>zQ (by rw[aR,LB,hts];exact hb);have rle:ρ0.le ρ1:=λb p hp=>by
  have:b<bs.length:=by
   rcases aX b bs.length with h|h
   ·exact h
   ·rw[none0 b h]at hp;cases hp
  show(if b<bs.length then _ else _)=_;rw[aB this];exact hp
 have r1:∀b p,ρ1 b=some p->(b<bs.length/\ρ0 b=some p)\/∃j,j<bs.length/\b=bs.length+j/\ρ0 j=some p:=λb p hp=>by
  simp only[ρ1]at hp;split at hp
  ·exact .inl ⟨by assumption,hp⟩
  ·split at hp
   ·exact .inr ⟨b-bs.length,by omega,by omega,hp⟩
   ·cases hp
 have H1:HRel ph ρ1 (hpOf (bs++pq 0 ts)) w.heap:=by
  refine⟨H0.pers,?_,?_,?_,?_⟩
  ·intro b;by_cases h1:b<bs.length
   ·rw[m1a b h1,H0.dom];show _↔(if b<bs.length then _ else _)=_;rw[aB h1]
   ·by_cases h2:b<bs.length+bs.length
    ·obtain⟨j,rfl⟩:∃j,b=bs.length+j:=⟨b-bs.length,by omega⟩
     obtain⟨p,hp⟩:=some0 j (by omega);rw[m1b j (by omega) p hp];show _↔(if _ then _ else if _ then ρ0 (bs.length+j-bs.length)else _)=_;rw[aA h1,aB h2,bX,hp];simp
    ·rw[m1c b (by omega)];show _↔(if _ then _ else if _ then _ else _)=_;rw[aA h1,aA h2];simp
  ·intro b p hp;rcases r1 b p hp with⟨h1,h2⟩|⟨j,h1,rfl,h2⟩
   ·rw[m1a b h1];exact zaj.congr (eZ ph) rle rfl (H0.own b p h2)
   ·rw[m1b j h1 p h2];exact⟨rfl,rle _ _ h2⟩
  ·intro b c p q hb hc' hrb hrc he;rcases r1 b p hb with⟨h1,h2⟩|⟨j,h1,rfl,h2⟩
   ·rcases r1 c q hc' with⟨h3,h4⟩|⟨k,h3,rfl,h4⟩
    ·rw[m1a b h1]at hrb;rw[m1a c h3]at hrc;exact H0.inj b c p q h2 h4 hrb hrc he
    ·rw[m1b k h3 q h4]at hrc;exact hrc.elim
   ·rw[m1b j h1 p h2]at hrb;exact hrb.elim
  ·intro b p hb hrb;rcases r1 b p hb with⟨h1,h2⟩|⟨j,h1,rfl,h2⟩
   ·rw[m1a b h1]at hrb;exact H0.sep b p h2 hrb
   ·rw[m1b j h1 p h2]at hrb;exact hrb.elim
 let c:Ctx:=⟨ph,ρ0,hpOf bs,w,fn.ntmps,[]⟩
 have hpure:c.pure:=trivial;have hblk:∀b,b∈bs->b.ok:=λb hb=>by
  obtain⟨i,hi,rfl⟩:=dQ hb;obtain⟨p,hp⟩:=some0 i hi;have:=(H0.own i p hp).ok;rwa[show hpOf bs i=bs[i] by unfold hpOf;rw[aF,aD hi];rfl]at this
 refine calls_of_wp hf hb (wp_mono (h ts hts ra.ok hblk c rfl hpure code hc _ w ?_) λe a' w' ⟨S',r',q⟩=>?_)
 ·refine⟨hG,hS,rfl,?_,ph,ρ1,H1,⟨eZ ph,λB _ _=>rfl,aK _,λB _ _=>rfl,?_⟩,fC w,λk=>?_⟩
  ·simp[c];omega
  ·intro b p hb hrb;rcases r1 b p hb with⟨h1,h2⟩|⟨j,h1,rfl,h2⟩
   ·have hrb:Real (hpOf (bs++pq 0 ts) b) p:=hrb;rw[m1a b h1]at hrb;exact .inr ⟨b,p,h2,hrb,rfl⟩
   ·have hrb:Real (hpOf (bs++pq 0 ts) (bs.length+j)) p:=hrb;rw[m1b j h1 p h2]at hrb;exact hrb.elim
  ·show RepV ph ρ1 (look (nP 0 args) k) _;have ra1:zad ph ρ1 args us:=zad.mono (eZ ph) rle _ _ ra;have:=Rj 0 ra1 k;simp only[dO,if_true,dP]at this;have e1:(us.toArray++Array.replicate (fn.ntmps-us.toArray.size) undef).getD k undef=us.getD k undef:=by
    rw[aT,aF,Array.getElem?_append];split
    ·simp
    ·rename_i hh;rw[aM (by simpa using hh)];simp only[bK];split<;>rfl
   rw[e1];exact this
 ·obtain⟨ph',ρS,H,S0,e0,hg⟩:=r'.ex
  have core:∀l qs:List Nat,l.Nodup->mY S' l l bs'->lN S' l l qs ts bs'->∃ρ2:RM,ng ph ρ0 (hpOf bs) w.heap ph' ρ2 (hpOf bs') w'.heap/\HRel ph' ρ2 (hpOf bs') w'.heap/\(∀i,i<bs.length->ρ2 i=ρ0 i)/\
    ∀(v:AV) (vC:Value),v.lv (live bs')=true->RepV ph' ρS (v.ren (gm l)) vC->RepV ph' ρ2 v vC:=by
   intro l qs lnd kf kp;obtain⟨kl,kf⟩:=Rk kf
   -- which numbers are live
   have lv_:∀i,live bs' i=true↔i<bs'.length/\hpOf bs' i≠.dead:=by
    intro i;unfold live;rcases aX i bs'.length with hi|hi
    ·rw[IJ hi];have:=hnon i hi;cases e:hpOf bs' i<;>simp_all
    ·rw[aM hi];simp;omega
   let ρ2:RM:=λi=>if i<bs.length then ρ0 i else if i<bs'.length then ρS (gm l i)else none;have mS:∀i,live bs' i=true->S'.m (gm l i)=(hpOf bs' i).ren (gm l):=λi hi=>by
    obtain⟨h1,h2⟩:=(lv_ i).1 hi;exact(kf i (by omega)).resolve_left h2
   have rS:∀i,live bs' i=true->ρ2 i=ρS (gm l i):=λi hi=>by
    obtain⟨h1,h2⟩:=(lv_ i).1 hi;show(if i<bs.length then _ else _)=_;by_cases hib:i<bs.length
    ·rw[aB hib];obtain⟨p,hp⟩:=some0 i hib;obtain⟨q,hq⟩:=(Rl kp i p (tsget i hib p hp)).resolve_left h2;cases e:ρS q with
     |none=>rw[(H.dom q).2 e]at hq;cases hq
     |some t=>
      have:=H.own q t e;rw[hq]at this;rw[hp];exact this.2.symm
    ·rw[aA hib,aB h1]
   have mvH:∀b q,live bs' b=true->ρS (gm l b)=some q->ρ2 (id b)=some q:=λb q hb hq=>by rw[<-rS b hb]at hq;exact hq
   have linj:∀i j,i<bs'.length->j<bs'.length->gm l i=gm l j->i=j:=by
    intro i j h1 h2 e;unfold gm at e;rw[aF,aF,aD (by omega),aD (by omega)]at e;simp only[Option.getD_some]at e;exact(List.getElem?_inj (by omega) lnd).1 (by rw[aD (by omega),aD (by omega),e])
   have real_:∀b p,ρ2 b=some p->Real (hpOf bs' b) p->live bs' b=true/\b<bs'.length:=λb p hp hr=>by
    have hb:b<bs'.length:=by
     rcases aX b bs'.length with h|h
     ·exact h
     ·rw[zQ h]at hr;exact hr.elim
    exact⟨(lv_ b).2 ⟨hb,λe=>by rw[e]at hr;exact hr⟩,hb⟩
   have H2:HRel ph' ρ2 (hpOf bs') w'.heap:=by
    refine⟨H.pers,?_,?_,?_,?_⟩
    ·intro b;by_cases h1:b<bs.length
     ·obtain⟨p,hp⟩:=some0 b h1;show _↔(if b<bs.length then _ else _)=_;rw[aB h1,hp];simp[hnon b (by omega)]
     ·by_cases h2:b<bs'.length
      ·have hl:=(lv_ b).2 ⟨h2,hnew b (by omega) h2⟩;rw[rS b hl,<-H.dom,mS b hl];cases hpOf bs' b<;>simp[Blk.ren]
      ·rw[zQ (by omega)];show _↔(if _ then _ else if _ then _ else _)=_;rw[aA h1,aA h2];simp
    ·intro b p hp;by_cases hd:hpOf bs' b=.dead
     ·rw[hd];trivial
     ·have hb:b<bs'.length:=by
       rcases aX b bs'.length with h|h
       ·exact h
       ·have h1:¬b<bs.length:=by omega
        simp only[ρ2]at hp;rw[aA h1,aA (by omega)]at hp;cases hp
      have hl:=(lv_ b).2 ⟨hb,hd⟩;rw[rS b hl]at hp;have:=H.own _ p hp;rw[mS b hl]at this;have h3:=zaj.mv (f2:=id) mvH (hbl _ (aW (IJ hb))) this;rwa[Blk.ren_id]at h3
    ·intro b c' p q hb hc' hrb hrc he;obtain⟨l1,b1⟩:=real_ b p hb hrb;obtain⟨l2,b2⟩:=real_ c' q hc' hrc;rw[rS b l1]at hb;rw[rS c' l2]at hc';exact linj b c' b1 b2 (H.inj _ _ p q hb hc' (by rw[mS b l1];exact Real.ren.2 hrb) (by rw[mS c' l2];exact Real.ren.2 hrc) he)
    ·intro b p hb hrb;obtain⟨l1,b1⟩:=real_ b p hb hrb;rw[rS b l1]at hb;exact H.sep _ p hb (by rw[mS b l1];exact Real.ren.2 hrb)
   refine⟨ρ2,⟨S0.hle,S0.hlow,S0.size,S0.frame,?_⟩,H2,?_,?_⟩
   ·intro b p hb hrb;obtain⟨l1,b1⟩:=real_ b p hb hrb;rw[rS b l1]at hb;exact S0.own _ p hb (by rw[mS b l1];exact Real.ren.2 hrb)
   ·intro i hi;show(if i<bs.length then _ else _)=_;rw[aB hi]
   ·intro v vC hvl hrep;have:=RepV.mv (f2:=id) mvH v _ hvl hrep;rwa[AV.ren_id]at this
  have fin:∀v,o=.ret v->vo S' rs (λvs=>kw v bs' ts vs S')->∃vC,(results fn a'.tmps).run P w'=.ok vC w'/\∃(h':PH) (ρ':RM),(∃vC',Ending.returned vC=.returned vC'/\RepV h' ρ' v vC')/\ng ph ρ0 (hpOf bs) w.heap h' ρ' (hpOf bs') w'.heap/\HRel h' ρ' (hpOf bs') w'.heap/\Same w w'/\
    ∀i,i<bs.length->ρ' i=ρ0 i:=by
   intro v hv hk;obtain⟨vs,⟨l,qs,lnd,kv,kf,kp⟩,F⟩:=IE hr hk;obtain⟨us',g1,g2⟩:=F (a:=a') H hg;have hres:fe P (results fn a'.tmps) w' (vv us') w':=by
    unfold results;refine dz (a:=us'.toArray) (w':=w') ?_ ?_
    ·rw[cO];exact g1.map (f:=List.toArray)
    ·cases us' with
     |nil=>exact dx _
     |cons u us'=>
      cases us' with
      |nil=>exact dx _
      |cons u' us'=>exact dx _
   have hrep:RepV ph' ρS (one? vs) (vv us'):=by
    cases vs with
    |nil=>
     simp only[zad]at g2;subst g2;simp only[one?,RepV];exact⟨[],rfl,rfl⟩
    | cons x xs=>
     cases us' with
     |nil=>simp[zad]at g2
     | cons u us'=>
      cases xs with
      |nil=>
       simp only[zad]at g2;rw[g2.2];exact g2.1
      | cons y ys=>
       cases us' with
       |nil=>simp[zad]at g2
       |cons u' us'=>
        simp only[one?,RepV];exact⟨_,rfl,g2⟩
   obtain⟨ρ2,a1,a2,a3,a4⟩:=core l qs lnd kf kp;exact⟨_,hres,ph',ρ2,⟨_,rfl,a4 v _ (hvl v hv) (kv _ _ _ hrep)⟩,a1,a2,e0,a3⟩
  cases e with
  |normal=>
   refine⟨r'.defers,?_⟩;cases o with
   |ret v=>exact fin v rfl q
   |pan pv=>exact q.elim
  |ret=>
   refine⟨r'.defers,?_⟩;cases o with
   |ret v=>exact fin v rfl q
   |pan pv=>exact q.elim
  |exit _=>exact q.elim
  |goto _=>exact q.elim
  | panic ch=>
   refine⟨r'.defers,?_⟩;cases o with
   |ret v=>exact q.elim
   |pan pv=>
    obtain⟨e1,l,qs,lnd,kf,kp⟩:=q;obtain⟨ρ2,a1,a2,a3,a4⟩:=core l qs lnd kf kp;exact⟨ph',ρ2,by rw[e1],a1,a2,e0,a3⟩
  |outgrown=>exact q.elim
def MCall.of_walk {f : FuncId} {fn : Func} {code : Code} {mc : MC} {rs : List MR} {args : List AV} {bs : List Blk} {v : AV} {bs' : List Blk} (hf : P.funcs[f]? = some fn) (hb : fn.body = some code) (hname : (fn.name != "runtime.NumGoroutine") = true)
  (hc:iH P fn.ntmps mc code=true) (hr:ku P rs fn.results.toList=true) (hn:args.length<=fn.ntmps) (hbs:∀i,i<bs.length->hpOf bs i≠.non) (hle:bs.length<=bs'.length) (hnon:∀i,i<bs'.length->hpOf bs' i≠.non)
  (hnew:∀i,bs.length<=i->i<bs'.length->hpOf bs' i≠.dead) (hvl:v.lv (live bs')=true) (hbl:∀b,b∈bs'->b.lv (live bs')=true)
  (h:∀ts:List (Nat × Nat),ts.length=bs.length->AV.okL args->(∀b,b∈bs->b.ok)->∀c:Ctx,c.N=fn.ntmps->c.pure->AW P c mc (xV rs v bs' ts) ⟨nP 0 args,hpOf (bs++pq 0 ts),bs.length+ts.length⟩):MCall P f args bs v bs':=
 gP.of_walk (o:=.ret v) hf hb hname hc hr hn hbs hle hnon hnew (λv' e=>by cases e;exact hvl) hbl λts h1 h2 h3 c h4 h5=>(h ts h1 h2 h3 c h4 h5).mono λe S q=>by
  cases e<;>first|exact q|exact q.elim
end
abbrev eH:=@kw.mkD
abbrev eO:=@kw.mk
abbrev fK:=@xW.mk
end Go.Abs
namespace Go.Abs
variable [jQ]
def Af(P:Program)(f:FuncId)(vs:List AV)(m:Hp)(n:Nat)(K:AV->List Nat->List (Nat × Blk)->Nat->Prop)(_:Tag K):Prop:=vX P f vs m n K
def Af.mk{P:Program}{f:FuncId}{vs:List AV}{m:Hp}{n:Nat}{K:AV->List Nat->List (Nat × Blk)->Nat->Prop}{g:Tag K}(l:List Nat){args:List AV}{bs:List Blk}{v:AV}{bs':List Blk}(h:MCall P f args bs v bs')
 (hs:l.Nodup/\(∀i,i∈l->i<n)/\vs=AV.rens (gm l) args/\AV.lts l.length args=true/\(∀b,b∈bs->b.lt l.length=true)/\oN m (gm l) l bs/\uJ m n (bs'.length-bs.length))
 (k:K (v.ren (gm (l++gT n (bs'.length-bs.length)))) [] (ni (gm (l++gT n (bs'.length-bs.length))) (l++gT n (bs'.length-bs.length)) bs') (n+(bs'.length-bs.length))):Af P f vs m n K g:=
⟨l,args,bs,v,bs',h,hs.1,hs.2.1,hs.2.2.1,hs.2.2.2.1,hs.2.2.2.2.1,hs.2.2.2.2.2.1,hs.2.2.2.2.2.2,k⟩
def Af.mK{P:Program}{f:FuncId}{vs:List AV}{m:Hp}{n:Nat}{K:AV->List Nat->List (Nat × Blk)->Nat->Prop}{g:Tag K}(l:List Nat){args:List AV}{bs:List Blk}{v:AV}{bs':List Blk}(h:MCall P f args bs v bs')(k:K (v.ren (gm (l++gT n (bs'.length-bs.length)))) [] (ni (gm (l++gT n (bs'.length-bs.length))) (l++gT n (bs'.length-bs.length)) bs') (n+(bs'.length-bs.length)))
 (hs:l.Nodup/\(∀i,i∈l->i<n)/\vs=AV.rens (gm l) args/\AV.lts l.length args=true/\(∀b,b∈bs->b.lt l.length=true)/\oN m (gm l) l bs/\uJ m n (bs'.length-bs.length):=by simp):Af P f vs m n K g:=Af.mk l h hs k
def Da(P:Program)(f:FuncId)(vs:List AV)(m:Hp)(n:Nat)(K:AV->List (Nat × Blk)->Nat->Prop)(Kp:Value->List (Nat × Blk)->Nat->Prop)(_:Tag (K,Kp)):Prop:=vX P f vs m n (λv _ wr n'=>K v wr n')\/BQ P f vs m n Kp
def Da.mk{P:Program}{f:FuncId}{vs:List AV}{m:Hp}{n:Nat}{K:AV->List (Nat × Blk)->Nat->Prop}{Kp:Value->List (Nat × Blk)->Nat->Prop}{g:Tag (K,Kp)}(l:List Nat){args:List AV}{bs:List Blk}{o:XO}{bs':List Blk}(h:gP P f args bs o bs')
  (hs:l.Nodup/\(∀i,i∈l->i<n)/\vs=AV.rens (gm l) args/\AV.lts l.length args=true/\(∀b,b∈bs->b.lt l.length=true)/\oN m (gm l) l bs/\uJ m n (bs'.length-bs.length))
  (k:∀v,o=.ret v->K (v.ren (gm (l++gT n (bs'.length-bs.length)))) (ni (gm (l++gT n (bs'.length-bs.length))) (l++gT n (bs'.length-bs.length)) bs') (n+(bs'.length-bs.length)))
  (kp:∀pv,o=.pan pv->Kp pv (ni (gm (l++gT n (bs'.length-bs.length))) (l++gT n (bs'.length-bs.length)) bs') (n+(bs'.length-bs.length))):Da P f vs m n K Kp g:=by
 cases o with
 |ret v=>exact .inl ⟨l,args,bs,v,bs',h,hs.1,hs.2.1,hs.2.2.1,hs.2.2.2.1,hs.2.2.2.2.1,hs.2.2.2.2.2.1,hs.2.2.2.2.2.2,k v rfl⟩
 |pan pv=>exact .inr ⟨l,args,bs,pv,bs',h,hs.1,hs.2.1,hs.2.2.1,hs.2.2.2.1,hs.2.2.2.2.1,hs.2.2.2.2.2.1,hs.2.2.2.2.2.2,kp pv rfl⟩
@[simp] theorem zgL{P:Program}{get:Nat->AV}{m:Hp}{n:Nat}{K:AV->List (Nat × Blk)->Nat->Prop}{Kp:Value->List (Nat × Blk)->Nat->Prop}(f:FuncId)(xs:List MX){g}:eX P K Kp (.callX f xs) g get m n=Da P f (xs.map (X get)) m n K Kp ⟨⟩:=(aL _).trans rfl
@[simp] theorem zgv{P:Program}{get:Nat->AV}{m:Hp}{n:Nat}{K:AV->List (Nat × Blk)->Nat->Prop}{Kp:Value->List (Nat × Blk)->Nat->Prop}(x:MX)(xs:List MX){g}:eX P K Kp (.calldX x xs) g get m n=(match(generalizing:=false) X get x with
 |.c (.d (.fn (.func f) caps))=>Da P f (xs.map (X get)++caps.map λc=>.c (.d c)) m n K Kp ⟨⟩
 |_=>False):=(aL _).trans rfl
def Ef(P:Program)(f:FuncId)(vs:List AV)(m:Hp)(n:Nat)(K:AV->List Nat->List (Nat × Blk)->Nat->Prop)(Kp:Value->List (Nat × Blk)->Nat->Prop)(_:Tag (K,Kp)):Prop:=vX P f vs m n K\/BQ P f vs m n Kp
def Ef.mk{P:Program}{f:FuncId}{vs:List AV}{m:Hp}{n:Nat}{K:AV->List Nat->List (Nat × Blk)->Nat->Prop}{Kp:Value->List (Nat × Blk)->Nat->Prop}{g:Tag (K,Kp)}(l:List Nat){args:List AV}{bs:List Blk}{o:XO}{bs':List Blk}(h:gP P f args bs o bs')
  (hs:l.Nodup/\(∀i,i∈l->i<n)/\vs=AV.rens (gm l) args/\AV.lts l.length args=true/\(∀b,b∈bs->b.lt l.length=true)/\oN m (gm l) l bs/\uJ m n (bs'.length-bs.length))
  (k:∀v,o=.ret v->K (v.ren (gm (l++gT n (bs'.length-bs.length)))) [] (ni (gm (l++gT n (bs'.length-bs.length))) (l++gT n (bs'.length-bs.length)) bs') (n+(bs'.length-bs.length)))
  (kp:∀pv,o=.pan pv->Kp pv (ni (gm (l++gT n (bs'.length-bs.length))) (l++gT n (bs'.length-bs.length)) bs') (n+(bs'.length-bs.length))):Ef P f vs m n K Kp g:=by
 cases o with
 |ret v=>exact .inl ⟨l,args,bs,v,bs',h,hs.1,hs.2.1,hs.2.2.1,hs.2.2.2.1,hs.2.2.2.2.1,hs.2.2.2.2.2.1,hs.2.2.2.2.2.2,k v rfl⟩
 |pan pv=>exact .inr ⟨l,args,bs,pv,bs',h,hs.1,hs.2.1,hs.2.2.1,hs.2.2.2.1,hs.2.2.2.2.1,hs.2.2.2.2.2.1,hs.2.2.2.2.2.2,kp pv rfl⟩
@[simp] theorem zgM{P:Program}{get:Nat->AV}{m:Hp}{n:Nat}{K:AV->List Nat->List (Nat × Blk)->Nat->Prop}{Kp:Value->List (Nat × Blk)->Nat->Prop}(f:FuncId)(xs:List MX){g}:eD P K Kp (.callX f xs) g get m n=Ef P f (xs.map (X get)) m n K Kp ⟨⟩:=(aL _).trans rfl
section
variable {P:Program} {get:Nat->AV} {m:Hp} {n:Nat} {K:AV->List Nat->List (Nat × Blk)->Nat->Prop}
@[simp] theorem zgN(f:FuncId)(xs:List MX){g}:eV P K (.callM f xs) g get m n=Af P f (xs.map (X get)) m n K ⟨⟩:=(aL _).trans rfl
end
def Blk.tag:Blk->Nat
|.non=>0
|.dead=>1
|_=>2
attribute [simp] Blk.tag
def oC(args:List AV)(N:Nat)(bs:List Blk)(v:AV)(bs':List Blk):Prop:=
 args.length<=N/\(bs.all λb=>b.tag !=0)=true/\bs.length<=bs'.length/\(bs'.all λb=>b.tag !=0)=true/\((bs'.drop bs.length).all λb=>b.tag==2)=true/\v.lv (live bs')=true/\(bs'.all λb=>b.lv (live bs'))=true
def mU{args:List AV}{N:Nat}{bs:List Blk}{v:AV}{bs':List Blk}(h:oC args N bs v bs':=by exact⟨by simp,by simp,by simp,by simp,by simp,by simp,by simp⟩):oC args N bs v bs':=h
def lY{args:List AV}{N:Nat}{bs:List Blk}{v:AV}{bs':List Blk}(h:oC args N bs v bs':=by exact⟨by simp,by simp,by simp,by simp,by simp,by simp,by simp[live]⟩):oC args N bs v bs':=h
def yV{bs:List Blk}(h:(bs.all λb=>b.tag !=0)=true)(i:Nat)(hi:i<bs.length):hpOf bs i≠.non:=by
 intro e;have:=aZ.1 h _ (aW (IJ hi));rw[e]at this;simp at this
def LD{bs:List Blk}{k:Nat}(h:((bs.drop k).all λb=>b.tag==2)=true)(i:Nat)(hk:k<=i)(hi:i<bs.length):hpOf bs i≠.dead:=by
 intro e;have hm:hpOf bs i∈bs.drop k:=by
  refine aW (i:=i-k) ?_;rw[bG,show k+(i-k)=i by omega];exact IJ hi
 have:=aZ.1 h _ hm;rw[e]at this;simp at this
def MCall.of_walk' {P : Program} {f : FuncId} {fn : Func} {code : Code} {mc : MC} {rs : List MR} {args : List AV} {bs : List Blk} {v : AV} {bs' : List Blk} (hf : P.funcs[f]? = some fn) (hb : fn.body = some code) (hname : (fn.name != "runtime.NumGoroutine") = true)
  (hc:iH P fn.ntmps mc code=true) (hr:ku P rs fn.results.toList=true) (hm:P.follows .mixedOrders=true) (hs:oC args fn.ntmps bs v bs')
  (h:∀ts:List (Nat × Nat),ts.length=bs.length->AV.okL args->(∀b,b∈bs->b.ok)->∀c:Ctx,c.N=fn.ntmps->c.pure->w_ P c mc (xV rs v bs' ts) ⟨⟩ ⟨nP 0 args,hpOf (bs++pq 0 ts),bs.length+ts.length⟩):MCall P f args bs v bs':=
 MCall.of_walk hf hb hname hc hr hs.1 (yV hs.2.1) hs.2.2.1 (yV hs.2.2.2.1) (LD hs.2.2.2.2.1) hs.2.2.2.2.2.1 (λb hb=>aZ.1 hs.2.2.2.2.2.2 b hb) λts h1 h2 h3 c h4 h5=>W.aw hm (Ad (h ts h1 h2 h3 c h4 h5))
def gP.of_walk' {P : Program} {f : FuncId} {fn : Func} {code : Code} {mc : MC} {rs : List MR} {args : List AV} {bs : List Blk} {o : XO} {bs' : List Blk} (hf : P.funcs[f]? = some fn) (hb : fn.body = some code) (hname : (fn.name != "runtime.NumGoroutine") = true)
  (hc:iH P fn.ntmps mc code=true) (hr:ku P rs fn.results.toList=true) (hm:P.follows .mixedOrders=true) (hs:oC args fn.ntmps bs (match o with|.ret v=>v|.pan _=>.tup []) bs')
  (h:∀ts:List (Nat × Nat),ts.length=bs.length->AV.okL args->(∀b,b∈bs->b.ok)->∀c:Ctx,c.N=fn.ntmps->c.pure->w_ P c mc (uf rs o bs' ts) ⟨⟩ ⟨nP 0 args,hpOf (bs++pq 0 ts),bs.length+ts.length⟩):gP P f args bs o bs':=
 gP.of_walk hf hb hname hc hr hs.1 (yV hs.2.1) hs.2.2.1 (yV hs.2.2.2.1) (LD hs.2.2.2.2.1) (λv e=>by subst e;exact hs.2.2.2.2.2.1) (λb hb=>aZ.1 hs.2.2.2.2.2.2 b hb) λts h1 h2 h3 c h4 h5=>W.aw hm (Ad (h ts h1 h2 h3 c h4 h5))
abbrev fO:=@Af.mK
abbrev fP:=@Af.mk
abbrev fQ:=@Da.mk
abbrev fT:=@Ef.mk
end Go.Abs
namespace Go.Abs
variable [jQ]
def MCall.frz{P:Program}{f:FuncId}{args:List AV}{bs:List Blk}{ds:List DV}{d:D}(hp:@fu jQ.triv P f ds (.one d))(hd:∀(h h':PH) (v:Value),RepD h d v->RepD h' d v)(e:uL (hpOf bs) args=some ds)
  (h1:∀i,i<bs.length->hpOf bs i≠.non) (h2:(bs.all λb=>b.lv (live bs))=true):MCall P f args bs (.c (.d d)) bs:=by
 refine⟨hp.1,aK _,h1,rfl,λb hb=>aZ.1 h2 b hb,λh ρ w argsC H hG hS r=>?_⟩;have k:=IC (n:=0) H (λ_ _ _ _=>dO _) args ds argsC e r;refine(hp.2 (rT h 0 w.heap) w argsC (IA H) (hG.mono (D6 H)) trivial k).mono λe w' hh=>?_;obtain⟨vC,h',e1,e2,e3,e4,e5,e6,e7,e8⟩:=hh;have hx:∀B,B<w.heap.size->w'.heap[B]?=w.heap[B]?:=e6;have hP:∀B o,h B=some o->w'.heap[B]?=some o:=λB o he=>by
  rw[e6 B (H.lt he)];exact H.pers B o he
 refine⟨vC,h,ρ,e1,⟨λ_ _ he=>he,λB hB _=>rfl,e5,λB hB _=>e6 B hB,λb p hp hr=>.inr ⟨b,p,hp,hr,rfl⟩⟩,H.grow (λ_ _ he=>he) hP (λB hB _=>⟨e6 B hB,rfl⟩),e7,?_,λ_ _=>rfl⟩;simp only[jZ]at e8;simp only[RepV,RepC];exact hd _ _ _ e8
def MCall.frzI{P:Program}{f:FuncId}{args:List AV}{bs:List Blk}{ds:List DV}{k:IntKind}{i:Int}(hp:@fu jQ.triv P f ds (.one (.int k i)))(e:uL (hpOf bs) args=some ds)
  (h1:(bs.all λb=>b.tag !=0)=true) (h2:(bs.all λb=>b.lv (live bs))=true):MCall P f args bs (.c (.d (.int k i))) bs:=
 MCall.frz hp (λh h' v r=>by simpa[RepD]using r) e (yV h1) h2
end Go.Abs
namespace Go.Abs
variable [jQ]
mutual
def D.erd:D->D
|.sl _ s es=>.sl false s (D.erdE es)
|.any=>.any
|.int k n=>.int k n
|.bool b=>.bool b
|.str s=>.str s
|.sc v=>.sc v
|.rp cs o=>.rp (D.erdL cs) o
|.fn f c=>.fn f c
|.ifc t a c=>.ifc t a c
|.mp k v=>.mp k v
def D.erdL:List D->List D
|[]=>[]
|d::ds=>d.erd::D.erdL ds
def D.erdE:List (List D)->List (List D)
|[]=>[]
|e::es=>D.erdL e::D.erdE es
end
def D.erdL_length:∀ds:List D,(D.erdL ds).length=ds.length
|[]=>rfl
|d::ds=>by simp[D.erdL,D.erdL_length ds]
def D.erdE_length:∀es:List (List D),(D.erdE es).length=es.length
|[]=>rfl
|d::ds=>by simp[D.erdE,D.erdE_length ds]
mutual
def RepD.erd{h:PH}:∀(d:D) (v:Value),RepD h d v->RepD h d.erd v
|.sl x s es,v,r=>by
 simp only[D.erd];simp only[RepD]at r⊢;obtain⟨a,cap,r1,r2,r3,r4,r5,r6,r7⟩:=r;refine⟨a,cap,by rw[r1,D.erdE_length],by rw[D.erdE_length];exact r2,(λh=>by cases h),by rw[D.erdE_length];exact r4,(λha=>⟨?_,(r5 ha).2⟩),r6,RepE.erd s es _ r7⟩;rw[(r5 ha).1];rfl
|.any,v,r=>by simp only[D.erd];exact r
|.int k n,v,r=>by simp only[D.erd];exact r
|.bool b,v,r=>by simp only[D.erd];exact r
|.str s,v,r=>by simp only[D.erd];exact r
|.sc u,v,r=>by simp only[D.erd];exact r
|.rp cs o,v,r=>by
 simp only[D.erd];simp only[RepD]at r⊢;obtain⟨B,o',e1,e2⟩:=r;exact⟨B,o',e1,RepL.erd _ _ e2⟩
|.fn f c,v,r=>by simp only[D.erd];exact r
|.ifc t a c,v,r=>by simp only[D.erd];exact r
|.mp a c,v,r=>by simp only[D.erd];exact r
def RepL.erd{h:PH}:∀(ds:List D) (vs:List Value),RepL h ds vs->RepL h (D.erdL ds) vs
|[],vs,r=>by simp[D.erdL,RepL]
|_::_,[],r=>by simp[RepL]at r
|d::ds,v::vs,r=>by
 simp only[RepL]at r;simp only[D.erdL,RepL];exact⟨⟨r.1.1,RepD.erd d v r.1.2⟩,RepL.erd ds vs r.2⟩
def RepE.erd{h:PH}(s:Nat):∀(es:List (List D)) (vs:List Value),RepE h s es vs->RepE h s (D.erdE es) vs
|[],vs,r=>by simp[D.erdE,RepE]
|e::es,vs,r=>by
 simp only[RepE]at r;simp only[D.erdE,RepE];exact⟨by rw[D.erdL_length];exact r.1,RepL.erd e vs r.2.1,RepE.erd s es _ r.2.2⟩
end
mutual
def DV.erd:DV->DV
|.one x=>.one x.erd
|.agg cs=>.agg (D.erdL cs)
|.tup vs=>.tup (DV.erds vs)
def DV.erds:List DV->List DV
|[]=>[]
|v::vs=>v.erd::DV.erds vs
end
mutual
def jZ.erd{h:PH}:∀{d:DV} {v:Value},jZ h d v->jZ h d.erd v
|.one x,v,r=>by simp only[jZ,DV.erd]at r⊢;exact RepD.erd _ _ r
|.agg cs,v,r=>by
 simp only[jZ,DV.erd]at r⊢;obtain⟨vs,r1,r2,r3⟩:=r;exact⟨vs,r1,by rw[r2,D.erdL_length],RepL.erd _ _ r3⟩
|.tup xs,v,r=>by
 simp only[jZ,DV.erd]at r⊢;obtain⟨vs,r1,r2⟩:=r;exact⟨vs,r1,ja.erds r2⟩
def ja.erds{h:PH}:∀{ds:List DV} {vs:List Value},ja h ds vs->ja h (DV.erds ds) vs
|[],_,r=>by simpa[ja,DV.erds]using r
|_::_,[],r=>by simp[ja]at r
|d::ds,v::vs,r=>by
 simp only[ja]at r;simp only[DV.erds,ja];exact⟨jZ.erd r.1,ja.erds r.2⟩
end
def fu.erd{P:Program}{f:FuncId}{args args':List DV}{v:DV}(h:fu P f args' v)(e:DV.erds args=args'):fu P f args v:=by
 subst e;exact⟨h.1,λph w us hp hG hS r=>h.2 ph w us hp hG hS (ja.erds r)⟩
def erdE_map{α:Type}(f:α->List D)(h:∀x,D.erdL (f x)=f x):∀l:List α,D.erdE (l.map f)=l.map f
|[]=>by simp[D.erdE]
|x::l=>by simp[D.erdE,h x,erdE_map f h l]
end Go.Abs
namespace Go.Abs
def law_liftedX{C:Checked}{os:Os}{f:FuncId}{fn:Func}{s:ChangeSpec}{conds:List PathCond}{S:List TypeId}{rt:TypeId}{H:Type}{enc:TypeId × Value->H}{X:World->Prop}(hX:∀(w w':World),w.heap=w'.heap->X w->X w')(hG:∀w:World,X w->Gnd C.prog λB=>w.heap[B]?)
  (own:ownKnob C.prog.godebug=none) (started:os.Started) (noInit:C.prog.inits.idxOf? f=none) (hfn:C.prog.funcs[f]?=some fn) (hvars:s.vars=[])
  (hS:(S.all λt=>Bc C.prog S t&&C.prog.readableRec t&&decide (t<C.prog.types.size))=true) (hp:(fn.params.toList.all λt=>S.contains t)=true)
  (hres:fn.resultTypes=#[rt]) (hrt:C.prog.underlying rt=some .bool) (hl:laidOutB C.prog=true)
  (hspec:∀(ds:List (DataW H)),ds.length=fn.params.size->s.fn H ds={results:=[.lit (.bool true)],args:=ds})
  (witness:∃(w:World) (tape:Tape) (i:Input),w.os=os/\(w.forCall tape i).Shaped C.prog/\i.vars=[]/\Input.okWide C.prog (w.forCall tape i) .any w.heap.size f i/\
   ((s.pre enc C.prog fn conds false (w.forCall tape i).memory i.args/\X (w.forCall tape i).memory)/\sizedMet enc C.prog fn (OpenSpec.ofChange s) false (w.forCall tape i).memory i.args)/\({}:Assume).holds C.prog (lone (Frame.enter C.prog f i.args .normal) [] (w.forCall tape i)))
  (hc:∀dvs,Bd C.prog fn.params.toList dvs->fu C.prog f dvs (.one (.bool true))):
  ReturnsInHanded {} C os f .any (λw args=>(s.pre enc C.prog fn conds false w args/\X w)/\sizedMet enc C.prog fn (OpenSpec.ofChange s) false w args) (s.post enc C.prog fn false true false false):=by
 refine returnsInHanded_of_change_and (X:=λw _=>X w) (λw w' _ hh h=>hX w w' hh h) own started noInit hfn witness ?_;intro W base args ds gs before hval hW _ hwt hXW _;simp only[aZ,aC,aI,dJ]at hS hp;have hW':=hW;obtain⟨p,q,hA,hV,hpq,hfz,hnd⟩:=hW;rw[hvars]at hV;have hgs:gs=[]/\q=[]:=by
  cases gs with
  |nil=>exact⟨rfl,hV⟩
  |cons g gs=>exact hV.elim
 obtain⟨rfl,rfl⟩:=hgs;simp only[bQ]at hpq;subst hpq;have hpv:s.plain.varTypes C.prog=[]:=by unfold ChangeSpec.plain DataSpec.varTypes;rw[hvars];rfl
 simp only[hpv,bQ,aZ,aI]at hwt;have hlen:∀{ts:List TypeId} {vs:List Value} {ds:List (DataW H)} {ps:List MemPlace},DataW.TrodAll enc C.prog W 0 (λ_=>true) true ts vs ds ps->ds.length=ts.length:=by
  intro ts
  induction ts with
  |nil=>intro vs ds ps h;cases vs<;>cases ds<;>first|rfl|exact h.elim
  |cons t ts ih=>
   intro vs ds ps h;cases vs<;>cases ds<;>first|exact h.elim|skip
   obtain⟨_,_,_,h2,_⟩:=h;simp[ih h2]
 obtain⟨dvs,d1,d2⟩:=Rb (λt ht=>(hS t ht).1.1) hp (λj t v ht hv=>hval j t v (by simpa using ht) (by simpa using hv)) hA hwt;have hcall:=(hc dvs d1).2 (λB=>W.heap[B]?) W args.toList (λB o h=>h) (hG W hXW) trivial d2;refine(show Calls C.prog f args.toList.toArray W _ from hcall).mono λe W' he=>?_;obtain⟨vC,h',rfl,_,_,_,hsz,hold,⟨so,st,sp⟩,rv⟩:=he;simp only[jZ,RepD]at rv;subst rv;have hb:Go.RowKit.Below W.heap.size W W':=⟨so,st,sp,hsz,hold⟩
 have hsp:=hspec ds (by simpa using hlen hA);refine⟨_,rfl,ds,[],before,[],before,[],hW',?_,?_,?_,hb.frame _,λh=>by cases h⟩
 ·rw[bQ,hsp,hres];refine⟨[],[],⟨1,?_⟩,rfl,rfl⟩;unfold DataW.trod;rw[hrt];rfl
 ·rw[bQ,hsp];exact Rc hl hb (λt ht=>⟨(hS t (hp t ht)).1.2,(hS t (hp t ht)).2⟩) hA (λx hx=>hW'.lt x hx)
 ·rw[bQ,hsp,hvars];rfl
variable [jQ]
def AC.erd:AC->AC
|.d x=>.d x.erd
|c=>c
mutual
def AV.erd:AV->AV
|.c x=>.c x.erd
|.ag cs=>.ag (cs.map AC.erd)
|.tup vs=>.tup (AV.erds vs)
def AV.erds:List AV->List AV
|[]=>[]
|v::vs=>AV.erd v::AV.erds vs
end
def RepC.erd{h:PH}{ρ:RM}:∀{x:AC} {v:Value},RepC h ρ x v->RepC h ρ x.erd v
|.d x,v,r=>by simp only[RepC,AC.erd]at r⊢;exact RepD.erd _ _ r
|.ptr _ _,_,r=>r
|.ept _ _ _ _,_,r=>r
|.msl _ _ _ _,_,r=>r
|.map _,_,r=>r
|.fn _ _,_,r=>r
|.op _,_,r=>r
def gK.erd{h:PH}{ρ:RM}:∀{cs:List AC} {vs:List Value},gK h ρ cs vs->gK h ρ (cs.map AC.erd) vs
|[],vs,r=>by simp[gK]
|_::_,[],r=>by simp[gK]at r
|c::cs,v::vs,r=>by
 simp only[gK,List.map_cons]at r⊢;exact⟨⟨r.1.1,RepC.erd r.1.2⟩,gK.erd r.2⟩
mutual
def RepV.erd{h:PH}{ρ:RM}:∀{x:AV} {v:Value},RepV h ρ x v->RepV h ρ x.erd v
|.c x,v,r=>by simp only[RepV,AV.erd]at r⊢;exact RepC.erd r
|.ag cs,v,r=>by
 simp only[RepV,AV.erd]at r⊢;obtain⟨vs,h1,h2,h3⟩:=r;exact⟨vs,h1,by simpa using h2,gK.erd h3⟩
|.tup xs,v,r=>by
 simp only[RepV,AV.erd]at r⊢;obtain⟨vs,h1,h2⟩:=r;exact⟨vs,h1,zad.erds h2⟩
def zad.erds{h:PH}{ρ:RM}:∀{xs:List AV} {vs:List Value},zad h ρ xs vs->zad h ρ (AV.erds xs) vs
|[],vs,r=>by simpa[zad,AV.erds]using r
|_::_,[],r=>by simp[zad]at r
|x::xs,v::vs,r=>by
 simp only[zad,AV.erds]at r⊢;exact⟨RepV.erd r.1,zad.erds r.2⟩
end
def kw.mkE{v:AV}{bs':List Blk}{ts:List (Nat × Nat)}{vs:List AV}{S:St}(l qs:List Nat)(h:l.Nodup/\(one? vs).erd=v.ren (gm l)/\mY S l l bs'/\lN S l l qs ts bs'):kw v bs' ts vs S:=
⟨l,qs,h.1,(λ_ _ _ r=>h.2.1▸RepV.erd r),h.2.2⟩
abbrev eF:=@kw.mkE
end Go.Abs
