/- Texts of ours, joined and written short by a program of ours. -/
import Derived.Test.YtnbgmeamdkggeaaGreatDoorJ13
import Derived.Test.YtnbgmeamdkggeaaGreatDoorJ10
import Derived.Test.YtnbgmeamdkggeaaGreatDoorJ06
set_option maxRecDepth 20000
set_option maxHeartbeats 4000000
set_option linter.unusedVariables false
set_option linter.unusedSectionVars false
set_option linter.unusedSimpArgs false
set_option linter.defProp false
set_option linter.unnecessarySimpa false
namespace Go.Gr
open Go.Abs Go.Proofs List
section
variable {X:jP} {P:List kJ} {ord:List di->List di} {K:Nat} {L:gq} {T:List jR}
theorem yG(N:Nat)(c:fw)(sc:List Val)(s:RS):iG X P ord (N+1) c sc s=
 if c.kind=5 then .ok (.fn (iT c 0) sc) s
 else if c.kind=11 then(iG X P ord N (iT c 0) sc s).bind λv s=>match v with
  |.bool b=>iG X P ord N (iT c (if b then 1 else 2)) sc s
  |_=>nZ s
 else if c.kind=18 then(iG X P ord N (iT c 0) sc s).bind λv s=>iG X P ord N (iT c 1) (sc++[v]) s
 else if c.kind=8 then(mX (λk s=>iG X P ord N k sc s) c.kids s).bind λvs s=>.ok (.rcd c.names vs) s
 else(mX (λk s=>iG X P ord N k sc s) c.kids s).bind λvs s=>match vs with
  |[]=>oh X P c sc s
  |[a]=>lC X c a s
  |a::b::_=>lw X ord (iG X P ord N) c a b s:=rfl
def jL.mk{c:fw}{env:Env}{t:fZ}(h:iQ c<=K->∀n,yF X P ord K L T n->∀sc,lL X P ord K n env sc->∀s:RS,s.fuel.toNat=(n:Nat)->∀N,n*(K+1)+gu c.kids<=N->kC X P ord K n t (iG X P ord (N+1) c sc s)):jL X P ord K L T c env t:=λhk n g sc he s hs N hN=>by
 have:=G5 c;obtain⟨M,rfl⟩:∃M,N=M+1:=⟨N-1,by omega⟩
 exact h hk n g sc he s hs M (by omega)
def jL.plain{c:fw}{env:Env}{t:fZ}(ts:List fZ)(h5:c.kind≠5)(h11:c.kind≠11)(h18:c.kind≠18)(h8:c.kind≠8)(hl:c.kids.length=ts.length)(hc:∀(k:Nat) x t,c.kids[k]?=some x->ts[k]?=some t->jL X P ord K L T x env t)
  (h:iQ c<=K->∀n,yF X P ord K L T n->∀sc,lL X P ord K n env sc->∀s:RS,s.fuel.toNat=(n:Nat)->∀N,n*(K+1)+gu c.kids<=N->∀vs:List Val,vs.length=ts.length->(∀(k:Nat) t,ts[k]?=some t->∃v,vs[k]?=some v/\VT (FN X P ord K n) t v)->kC X P ord K n t (match vs with
   |[]=>oh X P c sc s
   |[a]=>lC X c a s
   |a::b::_=>lw X ord (iG X P ord N) c a b s)):jL X P ord K L T c env t:=.mk λhk n g sc he s hs N hN=>by
 rw[yG,aA h5,aA h11,aA h18,aA h8];have:=G5 c;have r:=Ob c.kids env ts hl hc (by omega) n g sc he s hs N hN;unfold O.bind;revert r;cases mX (λk s=>iG X P ord N k sc s) c.kids s with
 |over h n s=>exact id
 |bad=>exact id
 |ok vs s1=>
  rintro⟨j,hj,hs1,hn,hv⟩
  have:=AF K hj;exact(h hk j (g.mono X P ord K L T hj) sc (he.mono X P ord K hj) s1 hs1 N (by omega) vs hn hv).mono X P ord K hj
def Ca{c:fw}{env:Env}{t:fZ}(h0:c.kids=[])(h5:c.kind≠5)(h11:c.kind≠11)(h18:c.kind≠18)(h8:c.kind≠8)(h:∀n,yF X P ord K L T n->∀sc,lL X P ord K n env sc->∀s:RS,s.fuel.toNat=(n:Nat)->kC X P ord K n t (oh X P c sc s)):jL X P ord K L T c env t:=by
 refine .plain [] h5 h11 h18 h8 (by rw[h0];rfl) (λk x t hx _=>by rw[h0]at hx;simp at hx) λhk n g sc he s hs N hN vs hv _=>?_;have:vs=[]:=aa.1 hv;subst this;exact h n g sc he s hs
def Yz(n:Int)(env:Env):jL X P ord K L T (cN 0 n) env (bT 3):=Ca rfl (by simp[cN,fw.kind]) (by simp[cN,fw.kind]) (by simp[cN,fw.kind]) (by simp[cN,fw.kind]) λm g sc he s hs=>by
 unfold oh;rw[aB (by simp[cK,cN,cT,fw.kind])];exact .ok X P ord K hs (vV 3 (by decide) rfl (by simp[Val.tag]))
def zFG(x:di)(env:Env):jL X P ord K L T (cT 1 x []) env (bT 4):=Ca rfl (by simp[cT,fw.kind]) (by simp[cT,fw.kind]) (by simp[cT,fw.kind]) (by simp[cT,fw.kind]) λm g sc he s hs=>by
 unfold oh;rw[aA (by simp[cT,fw.kind]),aB (by simp[cK,cN,cT,fw.kind])];exact .ok X P ord K hs (vV 4 (by decide) rfl (by simp[Val.tag]))
def Oc(n:Int)(env:Env):jL X P ord K L T (cN 2 n) env (bT 2):=Ca rfl (by simp[cN,fw.kind]) (by simp[cN,fw.kind]) (by simp[cN,fw.kind]) (by simp[cN,fw.kind]) λm g sc he s hs=>by
 unfold oh;rw[aA (by simp[cN,fw.kind]),aA (by simp[cN,fw.kind]),aB (by simp[cK,cN,cT,fw.kind])];exact .ok X P ord K hs (vV 2 (by decide) rfl (by simp[Val.tag]))
def zD4(env:Env):jL X P ord K L T (cN 3 0) env (bT 1):=Ca rfl (by simp[cN,fw.kind]) (by simp[cN,fw.kind]) (by simp[cN,fw.kind]) (by simp[cN,fw.kind]) λm g sc he s hs=>by
 unfold oh;rw[aA (by simp[cN,fw.kind]),aA (by simp[cN,fw.kind]),aA (by simp[cN,fw.kind]),aA (by simp[cN,fw.kind]),aA (by simp[cN,fw.kind]),aA (by simp[cN,fw.kind])];exact .ok X P ord K hs (vV 1 (by decide) rfl (by simp[Val.tag]))
def zD5(env:Env):jL X P ord K L T (cN 20 0) env (bT 3):=Ca rfl (by simp[cN,fw.kind]) (by simp[cN,fw.kind]) (by simp[cN,fw.kind]) (by simp[cN,fw.kind]) λm g sc he s hs=>by
 unfold oh;rw[aA (by simp[cN,fw.kind]),aA (by simp[cN,fw.kind]),aA (by simp[cN,fw.kind]),aA (by simp[cN,fw.kind]),aA (by simp[cN,fw.kind]),aB (by simp[cK,cN,cT,fw.kind])];split
 ·exact .ok X P ord K hs (vV 3 (by decide) rfl (by simp[Val.tag]))
 ·exact⟨by decide,by decide⟩
theorem zFH{env:Env}{k:Nat}{b:di × fZ}(hb:env[k]?=some b):jL X P ord K L T (cN 4 k) env b.2:=Ca rfl (by simp[cN,fw.kind]) (by simp[cN,fw.kind]) (by simp[cN,fw.kind]) (by simp[cN,fw.kind]) λm g sc he s hs=>by
 unfold oh;rw[aA (by simp[cN,fw.kind]),aA (by simp[cN,fw.kind]),aA (by simp[cN,fw.kind]),aB (by simp[cK,cN,cT,fw.kind])];obtain⟨v,h1,h2⟩:=he.2 k b hb;have e:(cN 4 (k:Int)).n.toNat=k:=rfl;rw[e,h1];exact .ok X P ord K hs h2
theorem zD6{env:Env}{i:Nat}{x:jR}(hx:T[i]?=some x):jL X P ord K L T (cN 6 i) env (AB L x):=Ca rfl (by simp[cN,fw.kind]) (by simp[cN,fw.kind]) (by simp[cN,fw.kind]) (by simp[cN,fw.kind]) λm g sc he s hs=>by
 unfold oh;rw[aA (by simp[cN,fw.kind]),aA (by simp[cN,fw.kind]),aA (by simp[cN,fw.kind]),aA (by simp[cN,fw.kind]),aB (by simp[cK,cN,cT,fw.kind])];obtain⟨f,h1,h2⟩:=g i x hx;have e:(cN 6 (i:Int)).n.toNat=i:=rfl;rw[e,h1];exact .ok X P ord K hs h2
def G7{c a:fw}{env:Env}{t u:fZ}(h0:c.kids=[a])(h5:c.kind≠5)(h11:c.kind≠11)(h18:c.kind≠18)(h8:c.kind≠8)(ha:jL X P ord K L T a env t)(h:∀n v,VT (FN X P ord K n) t v->∀s:RS,s.fuel.toNat=(n:Nat)->kC X P ord K n u (lC X c v s)):jL X P ord K L T c env u:=by
 refine .plain [t] h5 h11 h18 h8 (by rw[h0];rfl) (λk x t hx ht=>?_) λhk n g sc he s hs N hN vs hn hv=>?_
 ·rw[h0]at hx;cases k with
  |zero=>simp at hx ht;subst hx;subst ht;exact ha
  |succ k=>simp at hx
 ·obtain⟨v,rfl⟩:∃v,vs=[v]:=by
   match vs,hn with
   |[v],_=>exact⟨v,rfl⟩
  obtain⟨w,h1,h2⟩:=hv 0 t rfl;simp only[getElem?_cons_zero,aO]at h1;subst h1;exact h n v h2 s hs
def zFI{a:fw}{env:Env}(ha:jL X P ord K L T a env (bT 2)):jL X P ord K L T (cK 16 [a]) env (bT 2):=G7 rfl (by simp[cK,fw.kind]) (by simp[cK,fw.kind]) (by simp[cK,fw.kind]) (by simp[cK,fw.kind]) ha λn v hv s hs=>by
 obtain⟨b,rfl⟩:=Yt hv;unfold lC;rw[aA (by simp[cK,fw.kind]),aA (by simp[cK,fw.kind]),aB (by simp[cK,cN,cT,fw.kind])];exact .ok X P ord K hs (vV 2 (by decide) rfl (by simp[Val.tag]))
def ZA{n:Nat}{op:Int}{a b:Val}{s:RS}{r:fZ}(hr:(if 9<=op then bT 2 else bT 3)=r)(ha:VT (FN X P ord K n) (bT 3) a)(hb:VT (FN X P ord K n) (bT 3) b)(hs:s.fuel.toNat=(n:Nat)):kC X P ord K n r (o5 X op a b s):=by
 obtain⟨a,rfl⟩:=Yu ha;obtain⟨b,rfl⟩:=Yu hb;unfold o5;simp only;by_cases h:9<=op
 ·rw[aB h]at hr;subst hr;rw[aB h];split
  ·exact⟨by decide,by decide⟩
  ·exact .ok X P ord K hs (vV 2 (by decide) rfl (by simp[Val.tag]))
 ·rw[aA h]at hr;subst hr;rw[aA h];split
  ·exact⟨by decide,by decide⟩
  ·exact .ok X P ord K hs (vV 3 (by decide) rfl (by simp[Val.tag]))
def zFJ{a:fw}{env:Env}(ha:jL X P ord K L T a env (bT 3)):jL X P ord K L T (cK 17 [a]) env (bT 3):=G7 rfl (by simp[cK,fw.kind]) (by simp[cK,fw.kind]) (by simp[cK,fw.kind]) (by simp[cK,fw.kind]) ha λn v hv s hs=>by
 unfold lC;rw[aA (by simp[cK,fw.kind]),aA (by simp[cK,fw.kind]),aA (by simp[cK,fw.kind]),aB (by simp[cK,cN,cT,fw.kind])];exact ZA (op:=1) rfl (vV 3 (by decide) rfl (by simp[Val.tag])) hv hs
def zGQ{a:fw}{env:Env}{t:fZ}(m:Int)(ha:jL X P ord K L T a env t):jL X P ord K L T (.mk 12 m (bs []) [] [] [] [] [a]) env (bT 2):=G7 rfl (by simp[fw.kind]) (by simp[fw.kind]) (by simp[fw.kind]) (by simp[fw.kind]) ha λn v hv s hs=>by
 unfold lC;rw[aA (by simp[fw.kind]),aB (by simp[cK,cN,cT,fw.kind])];exact .ok X P ord K hs (vV 2 (by decide) rfl (by simp[Val.tag]))
def zCz{a:fw}{env:Env}{t:fZ}(ha:jL X P ord K L T a env t):jL X P ord K L T (cK 19 [a]) env (bT 1):=G7 rfl (by simp[cK,fw.kind]) (by simp[cK,fw.kind]) (by simp[cK,fw.kind]) (by simp[cK,fw.kind]) ha λn v hv s hs=>by
 unfold lC;rw[aA (by simp[cK,fw.kind]),aA (by simp[cK,fw.kind]),aA (by simp[cK,fw.kind]),aA (by simp[cK,fw.kind]),aA (by simp[cK,fw.kind]),aA (by simp[cK,fw.kind])];exact .ok X P ord K hs (vV 1 (by decide) rfl (by simp[Val.tag]))
theorem zFK{a:fw}{env:Env}{t k:fZ}{x:di}(ht:t.kind=5)(hf:oO t x=(k,true))(ha:jL X P ord K L T a env t):jL X P ord K L T (cT 9 x [a]) env k:=G7 rfl (by simp[cT,fw.kind]) (by simp[cT,fw.kind]) (by simp[cT,fw.kind]) (by simp[cT,fw.kind]) ha λn v hv s hs=>by
 obtain⟨ns,vs,rfl,w,hw⟩:=Yw hv ht;obtain⟨h1,h2⟩:=hw x k (GY hf);unfold lC;rw[aB (by simp[cK,cN,cT,fw.kind])];have e:(cT 9 x [a]).text=x:=rfl;simp only[e,h1];exact .ok X P ord K hs h2
def G8{c a b:fw}{env:Env}{t u r:fZ}(h0:c.kids=[a,b])(h5:c.kind≠5)(h11:c.kind≠11)(h18:c.kind≠18)(h8:c.kind≠8)(ha:jL X P ord K L T a env t)(hb:jL X P ord K L T b env u)
  (h:iQ c<=K->∀n v w,VT (FN X P ord K n) t v->VT (FN X P ord K n) u w->∀s:RS,s.fuel.toNat=(n:Nat)->∀N,n*(K+1)+gu c.kids<=N->kC X P ord K n r (lw X ord (iG X P ord N) c v w s)):jL X P ord K L T c env r:=by
 refine .plain [t,u] h5 h11 h18 h8 (by rw[h0];rfl) (λk x t' hx ht=>?_) λhk n g sc he s hs N hN vs hn hv=>?_
 ·rw[h0]at hx
  match k with
  |0=>simp at hx ht;subst hx;subst ht;exact ha
  |1=>simp at hx ht;subst hx;subst ht;exact hb
  |k+2=>simp at hx
 ·obtain⟨v,w,rfl⟩:∃v w,vs=[v,w]:=by
   match vs,hn with
   |[v,w],_=>exact⟨v,w,rfl⟩
  obtain⟨v',h1,h2⟩:=hv 0 t rfl;obtain⟨w',h3,h4⟩:=hv 1 u rfl;simp only[getElem?_cons_zero,getElem?_cons_succ,aO]at h1 h3;subst h1;subst h3;exact h hk n v w h2 h4 s hs N hN
def zD7{a b:fw}{env:Env}{t:fZ}(ht:t.kind=6)(ha:jL X P ord K L T a env t)(hb:jL X P ord K L T b env (jg t)):jL X P ord K L T (cK 7 [a,b]) env (jh t):=G8 rfl (by simp[cK,fw.kind]) (by simp[cK,fw.kind]) (by simp[cK,fw.kind]) (by simp[cK,fw.kind]) ha hb λhk n v w hv hw s hs N hN=>by
 unfold lw;rw[aB (by simp[cK,cN,cT,fw.kind])];split
 ·exact⟨by decide,by decide⟩
 rename_i hf;obtain⟨body,sc,rfl,hF⟩:=zHh hv ht;rw[GV]at hF;obtain⟨m,rfl⟩:∃m,n=m+1:=⟨n-1,by omega⟩
 simp only;have e1:(m+1)*(K+1)=m*(K+1)+(K+1):=Nat.succ_mul _ _;exact(hF.2 m (by omega) w (J6 X P ord K (by omega) hw) {s with fuel:=s.fuel-1} (by simp only;omega) N (by have:=hF.1;omega)).mono X P ord K (by omega)
def zFL{a b:fw}{env:Env}{op:Int}{r:fZ}(hr:(if 9<=op then bT 2 else bT 3)=r)(ha:jL X P ord K L T a env (bT 3))(hb:jL X P ord K L T b env (bT 3)):jL X P ord K L T (.mk 13 op (bs []) [] [] [] [] [a,b]) env r:=G8 rfl (by simp[fw.kind]) (by simp[fw.kind]) (by simp[fw.kind]) (by simp[fw.kind]) ha hb λhk n v w hv hw s hs N hN=>by
 unfold lw;rw[aA (by simp[fw.kind]),aA (by simp[fw.kind]),aB (by simp[cK,cN,cT,fw.kind])];exact ZA hr hv hw hs
def zGR{a b:fw}{env:Env}{t u:fZ}(ha:jL X P ord K L T a env t)(hb:jL X P ord K L T b env u):jL X P ord K L T (cK 14 [a,b]) env (bT 2):=G8 rfl (by simp[cK,fw.kind]) (by simp[cK,fw.kind]) (by simp[cK,fw.kind]) (by simp[cK,fw.kind]) ha hb λhk n v w hv hw s hs N hN=>by
 unfold lw;rw[aA (by simp[cK,fw.kind]),aA (by simp[cK,fw.kind]),aA (by simp[cK,fw.kind]),aB (by simp[cK,cN,cT,fw.kind])];have ok:∀b,kC X P ord K n (bT 2) (.ok (.bool b) s):=λb=>.ok X P ord K hs (vV 2 (by decide) rfl (by simp[Val.tag]));unfold yE;split
 ·exact ok _
 split
 ·exact⟨by decide,by decide⟩
 split
 ·exact ok _
 ·exact ok _
def zFM{a b:fw}{env:Env}(ha:jL X P ord K L T a env (bT 4))(hb:jL X P ord K L T b env (bT 4)):jL X P ord K L T (cK 15 [a,b]) env (bT 4):=G8 rfl (by simp[cK,fw.kind]) (by simp[cK,fw.kind]) (by simp[cK,fw.kind]) (by simp[cK,fw.kind]) ha hb λhk n v w hv hw s hs N hN=>by
 obtain⟨v,rfl⟩:=Yv hv;obtain⟨w,rfl⟩:=Yv hw;unfold lw;rw[aA (by simp[cK,fw.kind]),aA (by simp[cK,fw.kind]),aA (by simp[cK,fw.kind]),aA (by simp[cK,fw.kind])];unfold qJ;simp only;split
 ·exact⟨by decide,by decide⟩
 ·exact .ok X P ord K hs (vV 4 (by decide) rfl (by simp[Val.tag]))
theorem zFN{a b:fw}{env:Env}{t u:fZ}{x:di}(ha:jL X P ord K L T a env t)(hb:jL X P ord K L T b (env++[(x,t)]) u):jL X P ord K L T (cK 18 [a,b]) env u:=.mk λhk n g sc he s hs N hN=>by
 rw[yG,aA (by simp[cK,fw.kind]),aA (by simp[cK,fw.kind]),aB (by simp[cK,cN,cT,fw.kind])];have e:iQ (cK 18 [a,b])=1+(iQ a+(iQ b+0)):=by simp[cK,iQ,gu]
 have e2:gu (cK 18 [a,b]).kids=iQ a+(iQ b+0):=by simp[cK,fw.kids,gu]
 have k0:iT (cK 18 [a,b]) 0=a:=rfl;have k1:iT (cK 18 [a,b]) 1=b:=rfl;rw[k0,k1];refine .bind X P ord K (ha (by omega) n g sc he s hs N (by omega)) λj hj v hv s1 hs1=>?_;have:=AF K hj;exact hb (by omega) j (g.mono X P ord K L T hj) _ ((he.mono X P ord K hj).more X P ord K x hv) s1 hs1 N (by omega)
theorem zGS{a:fw}{env:Env}{t u:fZ}{x:di}(ha:jL X P ord K L T a (env++[(x,t)]) u):jL X P ord K L T (cK 5 [a]) env (jG t u):=.mk λhk n g sc he s hs N hN=>by
 rw[yG,aB (by simp[cK,cN,cT,fw.kind])];have e:iQ (cK 5 [a])=1+(iQ a+0):=by simp[cK,iQ,gu]
 refine .ok X P ord K hs (Yx rfl ?_);have k0:iT (cK 5 [a]) 0=a:=rfl;have t0:jg (jG t u)=t:=rfl;have t1:jh (jG t u)=u:=rfl;rw[k0,t0,t1,GV];exact⟨by omega,λm hm v hv s hs N hN=>ha (by omega) m (g.mono X P ord K L T (by omega)) _ ((he.mono X P ord K (by omega)).more X P ord K x hv) s hs N hN⟩
theorem Od{q a b:fw}{env:Env}{t:fZ}(hq:jL X P ord K L T q env (bT 2))
  (ha:iQ a<=K->∀n,yF X P ord K L T n->∀sc,lL X P ord K n env sc->∀s s0:RS,s.fuel.toNat=(n:Nat)->(∃m:Nat,∃M,s0.fuel.toNat=(m:Nat)/\m*(K+1)+iQ q<=M/\lL X P ord K m env sc/\iG X P ord M q sc s0=.ok (.bool true) s)->∀N,n*(K+1)+iQ a<=N->kC X P ord K n t (iG X P ord N a sc s))
  (hb:iQ b<=K->∀n,yF X P ord K L T n->∀sc,lL X P ord K n env sc->∀s s0:RS,s.fuel.toNat=(n:Nat)->(∃m:Nat,∃M,s0.fuel.toNat=(m:Nat)/\m*(K+1)+iQ q<=M/\lL X P ord K m env sc/\iG X P ord M q sc s0=.ok (.bool false) s)->∀N,n*(K+1)+iQ b<=N->kC X P ord K n t (iG X P ord N b sc s)):jL X P ord K L T (cK 11 [q,a,b]) env t:=.mk λhk n g sc he s hs N hN=>by
 rw[yG,aA (by simp[cK,fw.kind]),aB (by simp[cK,cN,cT,fw.kind])];have e:iQ (cK 11 [q,a,b])=1+(iQ q+(iQ a+(iQ b+0))):=by simp[cK,iQ,gu]
 have e2:gu (cK 11 [q,a,b]).kids=iQ q+(iQ a+(iQ b+0)):=by simp[cK,fw.kids,gu]
 have k0:iT (cK 11 [q,a,b]) 0=q:=rfl;have k1:iT (cK 11 [q,a,b]) 1=a:=rfl;have k2:iT (cK 11 [q,a,b]) 2=b:=rfl;rw[k0];have r:=hq (by omega) n g sc he s hs N (by omega);unfold O.bind;revert r;cases hr:iG X P ord N q sc s with
 |over h n s=>exact id
 |bad=>exact id
 | ok v s1=>
  rintro⟨j,hj,hs1,hv⟩
  have:=AF K hj;obtain⟨c,rfl⟩:=Yt hv;simp only;cases c with
  |true=>
   rw[aB rfl,k1];exact(ha (by omega) j (g.mono X P ord K L T hj) sc (he.mono X P ord K hj) s1 s hs1 ⟨n,N,hs,by omega,he,hr⟩ N (by omega)).mono X P ord K hj
  |false=>
   rw[aA (by decide),k2];exact(hb (by omega) j (g.mono X P ord K L T hj) sc (he.mono X P ord K hj) s1 s hs1 ⟨n,N,hs,by omega,he,hr⟩ N (by omega)).mono X P ord K hj
end
def G9{α β:Type}{a:α}{b:β}{x:α}{y:β}{l:List α}{r:List β}:(x,y)∈(a::l).zip (b::r)↔(x=a/\y=b)\/(x,y)∈l.zip r:=by simp
def ZB{α β:Type}{x:α}{y:β}:∀{l:List α} {r:List β} {l':List α} {r':List β},l.length=r.length->((x,y)∈(l++l').zip (r++r')↔(x,y)∈l.zip r\/(x,y)∈l'.zip r'):=by
 intro l r l' r' h;rw[zip_append h,aU]
def zwp{α β:Type}{x:α}{y:β}(k:Nat){l:List α}{r:List β}(h:l.length=r.length):(x,y)∈l.zip r↔(x,y)∈(l.take k).zip (r.take k)\/(x,y)∈(l.drop k).zip (r.drop k):=by
 conv=>lhs;rw[<-bW k l,<-bW k r]
 exact ZB (by simp[h])
def ZC:∀(ss:List di) (ts:List fZ) (ns:List di) (ks:List fZ),ns.length=ks.length->∀x k,(x,k)∈(jI ss ts ns ks).1.1.zip (jI ss ts ns ks).1.2->(x,k)∈ns.zip ks\/(x,k)∈ss.zip ts
|[],ts,ns,ks,h,x,k,hx=>by rw[jI]at hx;exact .inl hx;all_goals (intros;contradiction)
|s::ss,[],ns,ks,h,x,k,hx=>by rw[jI]at hx;exact .inl hx;all_goals (intros;contradiction)
| s::ss,t::ts,ns,ks,h,x,k,hx=>by
 rw[jI]at hx;split at hx
 ·exact .inl hx
 ·have:=ZC ss ts _ _ (by simp;omega) x k hx;rw[G9];rcases this with h1|h1
  ·rw[ZB (by simp[h]),G9]at h1;rw[zwp (jD s ns) h];rcases h1 with h1|h1|h1
   ·exact .inl (.inl h1)
   ·exact .inr (.inl h1)
   ·exact .inl (.inr h1)
  ·exact .inr (.inr h1)
def Oe:∀{l:List fZ},(∀t,t∈l->gI t=true)->(kD l).2=true->(kD l).1=l
|[],_,_=>rfl
| t::l,h,e=>by
 rw[kD]at e⊢;split at e
 ·rename_i q;rw[aB q,Oe (λx hx=>h x (by simp[hx])) e];have:=Dv.1 (h t (by simp));have f:=(Ao this.1).2.2.2;rw[<-f,this.2]
 ·cases e
def ZE{ns:List di}{ts:List fZ}(ht:∀t,t∈ts->gI t=true)(h:(kS (.mk 5 (bs []) ns ts)).2=0):(kS (.mk 5 (bs []) ns ts)).1.kind=5/\∀x k,(x,k)∈(kS (.mk 5 (bs []) ns ts)).1.names.zip (kS (.mk 5 (bs []) ns ts)).1.kids->(x,k)∈ns.zip ts:=by
 have f:=Ao h;rw[f.2.2.2];have g:=f.1;rw[ky,aB (by omega)]at g⊢;split at g
 ·rename_i q;rw[aB q,lc,aB rfl];rw[lc,aB rfl]at g;rw[Oe ht q]at g⊢;unfold xB at g⊢;split at g
  ·cases g
  ·rename_i z;rw[aA z];refine⟨rfl,λx k hx=>?_⟩;rcases ZC ns ts [] [] rfl x k hx with h1|h1
   ·simp at h1
   ·exact h1
 ·cases g
def ZF{a b:fZ}(ha:gI a=true)(hb:gI b=true)(h:(kS (jG a b)).2=0):(kS (jG a b)).1=jG a b:=by
 have f:=Ao h;rw[f.2.2.2];have g:=f.1;unfold jG at g⊢;rw[ky,aB (by omega)]at g⊢;split at g
 ·rename_i q;rw[aB q,lc,aA (by omega),aB rfl,Oe (λt ht=>by simp only[aS,dV,or_false]at ht;rcases ht with rfl|rfl<;>assumption) q]
 ·cases g
def ZG:∀{ns:List di} {vs:List Val} {i:Nat} {x:di} {v:Val},ns.Nodup->ns[i]?=some x->vs[i]?=some v->lW ns vs x=some v
|[],_,i,x,v,_,h,_=>by simp at h
|_::_,[],i,x,v,_,_,h=>by simp at h
|n::ns,w::vs,0,x,v,_,h,h2=>by
 simp only[getElem?_cons_zero,aO]at h h2;subst h;subst h2;simp[lW]
|n::ns,w::vs,i+1,x,v,hn,h,h2=>by
 simp only[getElem?_cons_succ]at h h2;rw[dL]at hn;have:n≠x:=λe=>hn.1 (by rw[e];exact aW h);rw[lW,aA this];exact ZG hn.2 h h2
def ZH(g:di->Val):∀{l:List di} {x:di},x∈l->lW l (l.map g) x=some (g x)
| n::l,x,h=>by
 rw[map_cons,lW];split
 ·rename_i e;rw[e]
 ·rename_i e;rcases aS.1 h with h|h
  ·exact absurd h.symm e
  ·exact ZH g h
def ZI:∀{ns:List di} {vs:List Val} {x:di} {v:Val},lW ns vs x=some v->x∈ns
|[],_,x,v,h=>by rw[lW]at h;cases h;all_goals (intros;contradiction)
|_::_,[],x,v,h=>by rw[lW]at h;cases h;all_goals (intros;contradiction)
|n::ns,w::vs,x,v,h=>by
 rw[lW]at h;split at h
 ·rename_i e;simp[e]
 ·exact mem_cons_of_mem _ (ZI h)
def Ja{x:di}:∀{ns:List di} {ks:List fZ} {y:di} {k:fZ},(y,k)∈oW x ns ks->y≠x/\(y,k)∈ns.zip ks
|[],ks,y,k,h=>by rw[oW]at h;cases h;all_goals (intros;contradiction)
|_::_,[],y,k,h=>by rw[oW]at h;cases h;all_goals (intros;contradiction)
| n::ns,t::ks,y,k,h=>by
 rw[oW]at h;split at h
 ·have:=Ja h;exact⟨this.1,by rw[G9];exact .inr this.2⟩
 ·rename_i e;rcases aS.1 h with h|h
  ·cases h;exact⟨e,by rw[G9];exact .inl ⟨rfl,rfl⟩⟩
  ·have:=Ja h;exact⟨this.1,by rw[G9];exact .inr this.2⟩
def ZJ{α β:Type}:∀l:List (α × β),(l.map (·.1)).zip (l.map (·.2))=l
|[]=>rfl
|a::l=>by simp[ZJ l]
section
variable {X:jP} {P:List kJ} {ord:List di->List di} {K:Nat} {L:gq} {T:List jR}
theorem zFE{l:List fw}{env:Env}{ts:List fZ}{ns:List di}{u:fZ}(hn:ns.Nodup)(hl:l.length=ts.length)(hln:ns.length=ts.length)(hc:∀(k:Nat) c t,l[k]?=some c->ts[k]?=some t->jL X P ord K L T c env t)(hu:u.kind=5)(hz:∀x k,(x,k)∈u.names.zip u.kids->(x,k)∈ns.zip ts):jL X P ord K L T (.mk 8 0 (bs []) [] ns [] [] l) env u:=.mk λhk n g sc he s hs N hN=>by
 rw[yG,aA (by simp[fw.kind]),aA (by simp[fw.kind]),aA (by simp[fw.kind]),aB (by simp[fw.kind])];have e:=G5 (.mk 8 0 (bs []) [] ns [] [] l);have r:=Ob l env ts hl hc (by simp only[fw.kids]at e;omega) n g sc he s hs N hN;unfold O.bind;have k0:(fw.mk 8 0 (bs []) [] ns [] [] l).kids=l:=rfl;rw[k0];revert r;cases mX (λk s=>iG X P ord N k sc s) l s with
 |over h n s=>exact id
 |bad=>exact id
 |ok vs s1=>
  rintro⟨j,hj,hs1,hvl,hv⟩
  refine⟨j,hj,hs1,Oa hu (λx=>(lW ns vs x).getD .null) λx k hx=>?_⟩;obtain⟨i,hi⟩:=List.mem_iff_getElem?.1 (hz x k hx);rw[getElem?_zip_eq_some]at hi;obtain⟨v,h1,h2⟩:=hv i k hi.2;have e:=ZG hn hi.1 h1;have c0:(fw.mk 8 0 (bs []) [] ns [] [] l).names=ns:=rfl;rw[c0,e];exact⟨rfl,h2⟩
theorem zD2(ho:∀l y,y∈l->y∈ord l){a b:fw}{env:Env}{t y u:fZ}{x:di}(ht:t.kind=5)(hu:u.kind=5)(hz:∀z k,(z,k)∈u.names.zip u.kids->(z,k)∈(x,y)::oW x t.names t.kids)(ha:jL X P ord K L T a env t)(hb:jL X P ord K L T b env y):jL X P ord K L T (cT 10 x [a,b]) env u:=G8 rfl (by simp[cT,fw.kind]) (by simp[cT,fw.kind]) (by simp[cT,fw.kind]) (by simp[cT,fw.kind]) ha hb λhk n v w hv hw s hs N hN=>by
 obtain⟨ns,vs,rfl,f,hf⟩:=Yw hv ht;unfold lw;rw[aA (by simp[cT,fw.kind]),aB (by simp[cT,fw.kind])];refine .ok X P ord K (show({s with ticks:=s.ticks+1}:RS).fuel.toNat=n from hs) ?_;have e:(cT 10 x [a,b]).text=x:=rfl;rw[e];unfold EE;refine Oa hu (λz=>if z=x then w else f z) λz k hx=>?_;rcases aS.1 (hz z k hx)with h|h
 ·cases h;rw[lW,aB rfl,aB rfl];exact⟨rfl,hw⟩
 ·obtain⟨h1,h2⟩:=Ja h;obtain⟨h3,h4⟩:=hf z k h2;rw[lW,aA (λe=>h1 e.symm),aA h1];have hm:z∈(ord ns).filter λn=>decide (n≠x):=bP.2 ⟨ho _ _ (ZI h3),by simp[h1]⟩;rw[ZH _ hm,h3];exact⟨rfl,h4⟩
theorem zHM{N:Nat}{k:Nat}{m:Int}{sc:List Val}{s s1:RS}{b:Bool}(h:iG X P ord N (.mk 12 m (bs []) [] [] [] [] [cN 4 k]) sc s=.ok (.bool b) s1):∃v,sc[k]?=some v/\b=decide (v.tag=m):=by
 match N with
 |0=>rw[iG]at h;cases h
 |1=>
  rw[yG,aA (by simp[fw.kind]),aA (by simp[fw.kind]),aA (by simp[fw.kind]),aA (by simp[fw.kind])]at h;simp only[fw.kids,mX,iG,O.bind]at h;cases h
 | N+2=>
  rw[yG,aA (by simp[fw.kind]),aA (by simp[fw.kind]),aA (by simp[fw.kind]),aA (by simp[fw.kind])]at h;have e1:iG X P ord (N+1) (cN 4 k) sc s=oh X P (cN 4 k) sc s:=by
   rw[yG,aA (by simp[cN,fw.kind]),aA (by simp[cN,fw.kind]),aA (by simp[cN,fw.kind]),aA (by simp[cN,fw.kind])];simp[cN,fw.kids,mX,O.bind]
  simp only[fw.kids,mX]at h;rw[e1]at h;unfold oh at h;rw[aA (by simp[cN,fw.kind]),aA (by simp[cN,fw.kind]),aA (by simp[cN,fw.kind]),aB (by simp[cN,fw.kind])]at h;have e:(cN 4 (k:Int)).n.toNat=k:=rfl;rw[e]at h;cases hv:sc[k]? with
  |none=>rw[hv]at h;simp[O.bind]at h
  |some v=>
   rw[hv]at h;simp only[O.bind]at h;unfold lC at h;rw[aA (by simp[fw.kind]),aB (by simp[fw.kind])]at h;simp only[O.ok.injEq,Val.bool.injEq,fw.n]at h;exact⟨v,rfl,h.1.symm⟩
def lL.narrow{n:Nat}{env:Env}{sc:List Val}(he:lL X P ord K n env sc){k:Nat}{b:di × fZ}{v:Val}(hb:env[k]?=some b)(hv:sc[k]?=some v){t:fZ}(ht:VT (FN X P ord K n) t v):lL X P ord K n (env.set k (b.1,t)) sc:=by
 refine⟨by simp[he.1],λi c hc=>?_⟩;rw[getElem?_set]at hc;split at hc
 ·rename_i e;subst e;split at hc
  ·simp only[aO]at hc;subst hc;exact⟨v,hv,ht⟩
  ·cases hc
 ·exact he.2 i c hc
end
structure sV (s s':CS):Prop where
 e:s'.e=0->s.e=0
 sites:s'.sites=[]->s.sites=[]
 tab:s.tab<+:s'.tab
def sV.refl(s:CS):sV s s:=⟨id,id,prefix_refl _⟩
def sV.trans{a b c:CS}(h:sV a b)(k:sV b c):sV a c:=⟨λe=>h.e (k.e e),λe=>h.sites (k.sites e),h.tab.trans k.tab⟩
def EF(a b e:Int)(s:CS):sV s (kL a b e s):=by
 unfold kL;split
 ·rename_i q;exact⟨λ_=>q,id,prefix_refl _⟩
 ·exact sV.refl s
section
variable (T:List jR)
def Rz(s:CS)(Q:Prop)(s':CS):Prop:=sV s s'/\(s'.e=0->s'.sites=[]->s'.tab<+:T->Q)
variable {T}
def Rz.ret{s:CS}{Q:Prop}(h:Q):Rz T s Q s:=⟨sV.refl s,λ_ _ _=>h⟩
def Rz.bind{s t u:CS}{Q R:Prop}(h:Rz T s Q t)(k:Rz T t R u):Rz T s (Q/\R) u:=
⟨h.1.trans k.1,λe a b=>⟨h.2 (k.1.e e) (k.1.sites a) (k.1.tab.trans b),k.2 e a b⟩⟩
def Rz.imp{s t:CS}{Q R:Prop}(h:Rz T s Q t)(f:Q->R):Rz T s R t:=⟨h.1,λe a b=>f (h.2 e a b)⟩
def Rz.fail{s:CS}{Q:Prop}{a b e:Int}(h:e≠0):Rz T s Q (kL a b e s):=⟨EF a b e s,λz=>absurd z (xL h)⟩
def Rz.cast{x:fw}{t u:fZ}{a b:Int}{s:CS}{Q:Prop}:Rz T s Q (lH x t u a b s).2:=by
 unfold lH;split
 ·rename_i q;exact⟨sV.refl s,λz=>absurd z q⟩
 ·rename_i q;exact⟨⟨λ_=>by simpa using q,λz=>by simp at z,prefix_refl _⟩,λ_ z=>by simp at z⟩
def Cb(t:fZ)(a b:Int)(s:CS):Rz T s (gI (iZ t a b s).1=true) (iZ t a b s).2:=by
 unfold iZ;simp only;split
 ·exact .fail (by decide)
 ·rename_i q;exact .ret (Yf (by simpa using q))
def Jb(t:fZ)(a b:Int)(s:CS):Rz T s ((nR t a b s).1=(kS t).1/\(kS t).2=0) (nR t a b s).2:=by
 unfold nR;simp only;split
 ·exact .fail (by decide)
 ·rename_i q;exact .ret (by simpa using q)
variable {X:jP} {P:List kJ} {ord:List di->List di} {K:Nat} {L:gq}
def BA(x:fw)(t u:fZ)(a b:Int)(env:Env)(s:CS):Rz T s (jL X P ord K L T x env t->jL X P ord K L T (jw x t u a b s).1 env u) (jw x t u a b s).2:=by
 unfold jw;split
 ·rename_i q;exact⟨sV.refl s,λz=>absurd z q⟩
 split
 ·rename_i q;exact .ret λh=>h.sub q
 split
 ·exact .cast
 ·exact .fail (by decide)
def ZK(u:fZ)(a b:Int)(env:Env)(x:(fw × fZ) × CS):Rz T x.2 (gI x.1.2=true/\jL X P ord K L T x.1.1 env x.1.2->gI (jV u a b x).1.2=true/\jL X P ord K L T (jV u a b x).1.1 env (jV u a b x).1.2) (jV u a b x).2:=by
 unfold jV;split
 ·exact .cast
 ·exact .ret id
variable (X P ord K L T)
def jB(i:Inf):Prop:=∀env s,Rz T s (mM env->gI (i env s).1.2=true/\jL X P ord K L T (i env s).1.1 env (i env s).1.2) (i env s).2
variable {X P ord K L T}
def zEH(env:Env):jL X P ord K L T noC env noT:=λhk n g sc he s hs N hN=>(Yz 0 env hk n g sc he s hs N hN).sub X P ord K λj v hv=>.any rfl
def Jc(a b:Int):∀(ts l:List fZ) (s:CS),sV s (pG a b ts l s).2
|[],l,s=>by rw[pG];exact sV.refl s
|t::ts,l,s=>by
 rw[pG];split
 ·exact sV.refl s
 ·exact(Cb (T:=[]) t a b s).1.trans (Jc a b ts _ _)
def zCT{a b:jR}(h:xw a b=true):a=b:=by
 unfold xw at h;rw[aC,aC,aI,aI]at h;have key:∀l r:List fZ,qB nA l r=true->l=r:=λl=>by
  induction l with
  |nil=>intro r h;cases r with
   |nil=>rfl
   |cons _ _=>rw[qB]at h;cases h;all_goals (intros;contradiction)
  | cons x l ih=>intro r h;cases r with
   |nil=>rw[qB]at h;cases h;all_goals (intros;contradiction)
   |cons y r=>
    rw[qB,aC]at h;rw[(Mi x y).1 h.1,ih r h.2]
 cases a;cases b;simp only at h;rw[h.1,h.2.1,key _ _ h.2.2]
def Og{α:Type}(q:α->Bool):∀(l:List α) (j:Nat),0<=fi q j l->∃i x,l[i]?=some x/\q x=true/\fi q j l=((j+i:Nat):Int)
|[],j,h=>by rw[fi]at h;omega
| a::l,j,h=>by
 rw[fi]at h⊢;split at h
 ·rename_i e;rw[aB e];exact⟨0,a,rfl,e,rfl⟩
 ·rename_i e;rw[aA e];obtain⟨i,x,h1,h2,h3⟩:=Og q l (j+1) h;exact⟨i+1,x,by simpa using h1,h2,by rw[h3];congr 1;omega⟩
def Ga(l:List jR)(x:jR):l<+:(jq 256 l x).2/\((jq 256 l x).1.2=0->∃i:Nat,(jq 256 l x).1.1=i/\(jq 256 l x).2[i]?=some x):=by
 unfold jq;split
 ·exact⟨prefix_refl _,λz=>absurd z (by simp)⟩
 split
 ·rename_i q;refine⟨prefix_refl _,λ_=>?_⟩;obtain⟨i,y,h1,h2,h3⟩:=Og _ _ _ q;exact⟨i,by simpa using h3,by rw[<-zCT h2];exact h1⟩
 split
 ·exact⟨prefix_refl _,λz=>absurd z (by simp)⟩
 ·exact⟨prefix_append _ _,λ_=>⟨l.length,rfl,by simp⟩⟩
def Jd{α:Type}{l r:List α}(h:l<+:r){i:Nat}{x:α}(hx:l[i]?=some x):r[i]?=some x:=by
 obtain⟨t,rfl⟩:=h;rw[ay (List.getElem?_eq_some_iff.1 hx).1];exact hx
def ZL(a b:Int)(e:iO)(l:List fZ)(env:Env)(s:CS):Rz T s (gI (p8 L a b e l s).1.2=true/\jL X P ord K L T (p8 L a b e l s).1.1 env (p8 L a b e l s).1.2) (p8 L a b e l s).2:=by
 unfold p8;split
 ·exact .fail (by decide)
 ·rename_i q;simp only;have h:=Ga s.tab ⟨e.module,e.decl,l⟩;generalize jq 256 s.tab ⟨e.module,e.decl,l⟩=r at*
  have k:sV s {s with tab:=r.2}:=⟨id,id,h.1⟩
  split
  ·rename_i q2;exact⟨k.trans (EF _ _ _ _),λz=>absurd z (xL q2)⟩
  ·rename_i q2;obtain⟨i,h1,h2⟩:=h.2 (by simpa using q2);refine⟨k,λ_ _ hG=>⟨?_,?_⟩⟩
   ·have q:(pF L e l).2=true:=by simpa using q
    unfold pF at q⊢;simp only[aC,aI]at q;exact Ay q.2.2
   ·rw[h1];exact zD6 (x:=⟨e.module,e.decl,l⟩) (Jd hG h2)
def ZM{env:Env}{x:di}(h:0<=nL env x):∃(k:Nat) (b:di × fZ),nL env x=k/\env[k]?=some b:=by
 unfold nL at h⊢;simp only at h⊢;split at h
 ·omega
 ·rename_i q;rw[aA q];obtain⟨i,y,h1,_,h3⟩:=Og _ _ _ (by omega:0<=fi (λb:di × fZ=>decide (b.1=x)) 0 env.reverse);have hl:=(List.getElem?_eq_some_iff.1 h1).1;rw[length_reverse]at hl;refine⟨env.length-1-i,env[env.length-1-i],by rw[h3];omega,?_⟩;rw[aD]
def zEI(n:fo):jB T X P ord K L (sS L n):=λenv s=>by
 unfold sS;simp only;split
 ·rename_i q;refine .ret λhe=>⟨he.get _,?_⟩
  obtain⟨k,b,h1,h2⟩:=ZM q.1;rw[h1];have:(env.getD (k:Int).toNat (bs [],noT)).2=b.2:=by
   rw[aF,show((k:Int).toNat)=k from rfl,h2];try rfl
  rw[this];exact zFH h2
 split
 ·exact .fail (by decide)
 split
 ·exact .fail (by decide)
 split
 ·exact .fail (by decide)
 split
 ·exact(ZL _ _ _ _ _ _).imp λh _=>h
 split
 ·rename_i q;exact⟨Jc _ _ _ _ _,λz=>absurd z q⟩
 split
 ·rename_i q;exact⟨(Jc _ _ _ _ _).trans (EF _ _ _ _),λz=>absurd z (xL q)⟩
 ·have h:=ZL (X:=X) (P:=P) (ord:=ord) (K:=K) (L:=L) (T:=T) n.line n.col (pY (L.scopes.getD s.module.toNat []) n.text).1 (pG n.line n.col n.types [] s).1 env (pG n.line n.col n.types [] s).2;exact⟨(Jc _ _ _ _ _).trans h.1,λe a b _=>h.2 e a b⟩
def zGY(n a:fo){ia ib:Inf}(ha:jB T X P ord K L ia)(hb:jB T X P ord K L ib):jB T X P ord K L (nS n a ia ib):=λenv s=>by
 unfold nS;simp only;have h1:=ha env s;generalize ia env s=x at*
 obtain⟨y,hy⟩:∃y,(if 0<n.types.length/\x.2.e=0 then(((jw x.1.1 x.1.2 (iZ (n.types.getD 0 noT) n.line n.col x.2).1 a.line a.col (iZ (n.types.getD 0 noT) n.line n.col x.2).2).1,(iZ (n.types.getD 0 noT) n.line n.col x.2).1),(jw x.1.1 x.1.2 (iZ (n.types.getD 0 noT) n.line n.col x.2).1 a.line a.col (iZ (n.types.getD 0 noT) n.line n.col x.2).2).2)else x)=y:=⟨_,rfl⟩
 have h2:Rz T x.2 (gI x.1.2=true/\jL X P ord K L T x.1.1 env x.1.2->gI y.1.2=true/\jL X P ord K L T y.1.1 env y.1.2) y.2:=by
  rw[<-hy];split
  ·exact((Cb _ _ _ _).bind (BA (X:=X) (P:=P) (ord:=ord) (K:=K) (L:=L) _ _ _ _ _ env _)).imp λh k=>⟨h.1,h.2 k.2⟩
  ·exact .ret id
 rw[hy];refine(h1.bind (h2.bind (hb (env++[(n.text,y.1.2)]) y.2))).imp λh he=>?_;have y1:=h.2.1 (h.1 he);have z1:=h.2.2 (he.more _ y1.1);exact⟨z1.1,zFN y1.2 z1.2⟩
def Oh(n a:fo){ia:Inf}(ha:jB T X P ord K L ia):jB T X P ord K L (ul n a ia):=λenv s=>by
 unfold ul;simp only;have h1:=Cb (T:=T) (n.types.getD 0 noT) n.line n.col s;generalize iZ (n.types.getD 0 noT) n.line n.col s=p at*
 obtain⟨q,hq⟩:∃q,(if 1<n.types.length/\p.2.e=0 then iZ (n.types.getD 1 noT) n.line n.col p.2 else(noT,p.2))=q:=⟨_,rfl⟩
 have h2:Rz T p.2 (gI q.1=true) q.2:=by
  rw[<-hq];split
  ·exact Cb _ _ _ _
  ·exact .ret xK
 rw[hq];have h3:=ha (env++[(n.text,p.1)]) q.2;generalize ia (env++[(n.text,p.1)]) q.2=x at*
 obtain⟨y,hy⟩:∃y,(if 1<n.types.length then(((jw x.1.1 x.1.2 q.1 a.line a.col x.2).1,q.1),(jw x.1.1 x.1.2 q.1 a.line a.col x.2).2)else x)=y:=⟨_,rfl⟩
 have h4:Rz T x.2 (gI x.1.2=true/\jL X P ord K L T x.1.1 (env++[(n.text,p.1)]) x.1.2->gI q.1=true->gI y.1.2=true/\jL X P ord K L T y.1.1 (env++[(n.text,p.1)]) y.1.2) y.2:=by
  rw[<-hy];split
  ·exact(BA (X:=X) (P:=P) (ord:=ord) (K:=K) (L:=L) _ _ _ _ _ _ _).imp λh k kq=>⟨kq,h k.2⟩
  ·exact .ret λk _=>k
 rw[hy];refine(((h1.bind h2).bind h3).bind (h4.bind (Jb _ _ _ _))).imp λh he=>?_;have y1:=h.2.1 (h.1.2 (he.more _ h.1.1.1)) h.1.1.2;have e:=ZF h.1.1.1 y1.1 h.2.2.2;rw[h.2.2.1,e];exact⟨by rw[<-e];exact Ay h.2.2.2,zGS y1.2⟩
def zF1(n b:fo){ia ib:Inf}(ha:jB T X P ord K L ia)(hb:jB T X P ord K L ib):jB T X P ord K L (um n b ia ib):=λenv s=>by
 unfold um;simp only;have h1:=(ha env s).bind (ZK (X:=X) (P:=P) (ord:=ord) (K:=K) (L:=L) (jG noT noT) n.line n.col env (ia env s));generalize jV (jG noT noT) n.line n.col (ia env s)=x at*
 split
 ·exact⟨h1.1.trans (EF _ _ _ _),λz=>absurd z (xL (by decide))⟩
 ·rename_i k6;refine(h1.bind ((hb env x.2).bind (BA (X:=X) (P:=P) (ord:=ord) (K:=K) (L:=L) _ _ _ _ _ env _))).imp λh he=>?_;have x1:=h.1.2 (h.1.1 he);have y1:=h.2.1 he;exact⟨OZ x1.1 1,zD7 (ae k6) x1.2 (h.2.2 y1.2)⟩
def zz0{t k:fZ}{x:di}(h:gI t=true)(hf:oO t x=(k,true)):t.kind=5:=by
 have:=(og t).1 (xy h);have hn:=GY hf;rcases this.2.2 with⟨_,_,e,_⟩|⟨e,_⟩|⟨_,e,_⟩|⟨_,e,_⟩
 ·rw[e]at hn;simp at hn
 ·exact e
 ·rw[e]at hn;simp at hn
 ·rw[e]at hn;simp at hn
def zGZ(n:fo){ia:Inf}(ha:jB T X P ord K L ia):jB T X P ord K L (nT n ia):=λenv s=>by
 unfold nT;simp only;have h1:=ha env s;generalize ia env s=x at*
 by_cases k0:x.1.2.kind=0
 ·rw[aB k0,aB (.inr k0)];exact⟨(h1.bind (Rz.cast (Q:=False))).1,λe a b=>((h1.bind (Rz.cast (Q:=False))).2 e a b).2.elim⟩
 ·rw[aA k0];split
  ·rename_i hf;have hf:(oO x.1.2 n.text).2=true:=hf.elim id λz=>absurd z k0;refine h1.imp λh he=>?_;have x1:=h he;have e:oO x.1.2 n.text=((oO x.1.2 n.text).1,true):=by rw[<-hf]
   exact⟨Yd x1.1 _,zFK (zz0 x1.1 e) e x1.2⟩
  ·exact⟨h1.1.trans (EF _ _ _ _),λz=>absurd z (xL (by decide))⟩
def zEJ{x:di}{t u:fZ}(ht:gI t=true)(hu:gI u=true):∀k,k∈((x,u)::oW x t.names t.kids).map (·.2)->gI k=true:=λk hk=>by
 obtain⟨⟨y,k'⟩,h1,rfl⟩:=bI.1 hk;rcases aS.1 h1 with h|h
 ·cases h;exact hu
 ·exact GR ht (of_mem_zip (Ja h).2).2
def zF2(ho:∀l y,y∈l->y∈ord l)(n:fo){ia ib:Inf}(ha:jB T X P ord K L ia)(hb:jB T X P ord K L ib):jB T X P ord K L (uo n ia ib):=λenv s=>by
 unfold uo;simp only;have h1:=(ha env s).bind (ZK (X:=X) (P:=P) (ord:=ord) (K:=K) (L:=L) (bT 5) n.line n.col env (ia env s));generalize jV (bT 5) n.line n.col (ia env s)=x at*
 split
 ·exact⟨h1.1.trans (EF _ _ _ _),λz=>absurd z (xL (by decide))⟩
 ·rename_i k5;refine(h1.bind ((hb env x.2).bind (Jb _ _ _ _))).imp λh he=>?_;have x1:=h.1.2 (h.1.1 he);have y1:=h.2.1 he;have m:=h.2.2;have r:=ZE (zEJ x1.1 y1.1) m.2;rw[m.1];refine⟨Ay m.2,zD2 ho (ae k5) r.1 (λz k hz=>?_) x1.2 y1.2⟩;have:=r.2 z k hz;rwa[ZJ]at this
end
section
variable {T:List jR} {X:jP} {P:List kJ} {ord:List di->List di} {K:Nat} {L:gq}
def Cc(q:fo)(iq:Inf):Prop:=q.kind=12->(q.kids.getD 0 mZ).kind=4->∀env s,s.e=0->0<=nL env (q.kids.getD 0 mZ).text->(iq env s).1=(.mk 12 q.n (bs []) [] [] [] [] [cN 4 (nL env (q.kids.getD 0 mZ).text)],bT 2)
def Oi(q a b:fo){iq ia ib:Inf}(hk:Cc q iq)(hq:jB T X P ord K L iq)(ha:jB T X P ord K L ia)(hb:jB T X P ord K L ib):jB T X P ord K L (uq q a b iq ia ib):=λenv s=>by
 unfold uq;simp only;have h1:=(hq env s).bind (BA (X:=X) (P:=P) (ord:=ord) (K:=K) (L:=L) (iq env s).1.1 (iq env s).1.2 (bT 2) q.line q.col env (iq env s).2);have kq:=hk;unfold Cc at kq;have b2s:lU (bT 2) (bT 2)=true:=by decide+kernel
 have c1:s.e=0->∀(e12:q.kind=12) (e4:(q.kids.getD 0 mZ).kind=4),0<=nL env (q.kids.getD 0 mZ).text->(jw (iq env s).1.1 (iq env s).1.2 (bT 2) q.line q.col (iq env s).2).1=.mk 12 q.n (bs []) [] [] [] [] [cN 4 (nL env (q.kids.getD 0 mZ).text)]:=λe0 e12 e4 e=>by
  have:=kq e12 e4 env s e0 e;rw[this];unfold jw;split
  ·rfl
  ·first|rfl|rw[aB (show lU _ _=true from b2s)]
 generalize jw (iq env s).1.1 (iq env s).1.2 (bT 2) q.line q.col (iq env s).2=x at*
 have h2:=ha (lF q env).1 x.2;generalize ia (lF q env).1 x.2=y at*
 have h3:=hb (lF q env).2 y.2;generalize ib (lF q env).2 y.2=z at*
 have h:=h1.bind (h2.bind (h3.bind ((BA (X:=X) (P:=P) (ord:=ord) (K:=K) (L:=L) y.1.1 y.1.2 (vR y.1.2 z.1.2) a.line a.col (lF q env).1 z.2).bind (BA (X:=X) (P:=P) (ord:=ord) (K:=K) (L:=L) z.1.1 z.1.2 (vR y.1.2 z.1.2) b.line b.col (lF q env).2 (jw y.1.1 y.1.2 (vR y.1.2 z.1.2) a.line a.col z.2).2))));refine⟨h.1,λe0 es et he=>?_⟩;have r:=h.2 e0 es et;have hs0:s.e=0:=h.1.e e0;have q1:=r.1.1 he;have hn:=O0 q he;have y1:=r.2.1 hn.1;have z1:=r.2.2.1 hn.2;have j:=Ye y1.1 z1.1;refine⟨j,?_⟩;have sq:=r.1.2 q1.2;have sy:=r.2.2.2.1 y1.2;have sz:=r.2.2.2.2 z1.2
 -- what is narrowed
 have key:∀(n:Nat) (sc:List Val) (s1 s0:RS) (c:Bool) (m M:Nat),lL X P ord K n env sc->iG X P ord M x.1 sc s0=.ok (.bool c) s1->lL X P ord K n (if c=true then(lF q env).1 else(lF q env).2) sc:=λn sc s1 s0 c m M hv hev=>by
  by_cases qn:q.kind=12/\(q.kids.getD 0 mZ).kind=4/\0<=nL env (q.kids.getD 0 mZ).text
  ·have e1:=c1 hs0 qn.1 qn.2.1 qn.2.2;obtain⟨k,b,k1,k2⟩:=ZM qn.2.2;rw[e1,k1]at hev;obtain⟨v,v1,v2⟩:=zHM hev;obtain⟨w,w1,w2⟩:=hv.2 k b k2;rw[v1]at w1;cases w1;have kk:(nL env (q.kids.getD 0 mZ).text).toNat=k:=by rw[k1];try rfl
   have gk:env.getD k (bs [],noT)=b:=by rw[aF,k2];try rfl
   have en:lF q env=(env.set k (b.1,(qy b.2 q.n).1),env.set k (b.1,(qy b.2 q.n).2)):=by
    unfold lF;rw[aB qn];simp only[kk,gk]
   rw[en];have nv:=zB0 q.n w2;cases c with
   |true=>exact hv.narrow k2 v1 (nv.1 (by simpa using v2.symm))
   |false=>exact hv.narrow k2 v1 (nv.2 (by simpa using v2.symm))
  ·have en:lF q env=(env,env):=by
    unfold lF;rw[aA qn]
   rw[en];cases c
   ·exact hv
   ·exact hv
 exact Od sq (λhk n g sc hv s1 s0 hs ⟨m,M,_,_,_,hev⟩ N hN=>sy hk n g sc (key n sc s1 s0 true m M hv hev) s1 hs N hN) (λhk n g sc hv s1 s0 hs ⟨m,M,_,_,_,hev⟩ N hN=>sz hk n g sc (key n sc s1 s0 false m M hv hev) s1 hs N hN)
def Oj(n:fo){ia:Inf}(ha:jB T X P ord K L ia):jB T X P ord K L (ut n ia):=λenv s=>by
 unfold ut;simp only;have h1:=ha env s;generalize ia env s=x at*
 split
 ·exact h1
 have h2:=h1.bind (Cb (T:=T) (n.types.getD 0 noT) n.line n.col x.2);generalize iZ (n.types.getD 0 noT) n.line n.col x.2=u at*
 split
 ·rename_i q;refine⟨h2.1,λe0 es et he=>?_⟩;have r:=h2.2 e0 es et;have q:lU x.1.2 u.1=true:=q.elim (λz=>absurd e0 z) id;exact⟨r.2,(r.1 he).2.sub q⟩
 rename_i q;have e0:u.2.e=0:=ae λz=>q (.inl z);by_cases k0:x.1.2.kind≠0
 ·rw[aB k0];have hc:Rz T u.2 False (lH x.1.1 x.1.2 noT n.line n.col u.2).2:=.cast;split
  ·exact⟨(h2.bind hc).1,λa b c=>((h2.bind hc).2 a b c).2.elim⟩
  try rw[aA k0]
  exact⟨(h2.bind hc).1,λa b c=>((h2.bind hc).2 a b c).2.elim⟩
 ·rw[aA k0];have k0:x.1.2.kind=0:=ae k0;split
  ·rename_i u0;refine h2.imp λr he=>⟨r.2,?_⟩
   exactλhk n g sc hv s hs N hN=>((r.1 he).2 hk n g sc hv s hs N hN).sub X P ord K λj v _=>.any u0
  ·try rw[aB k0]
   exact⟨(h2.bind (Rz.cast (Q:=False))).1,λa b c=>((h2.bind (Rz.cast (Q:=False))).2 a b c).2.elim⟩
def zC(n:fo){i:Inf}(hi:jB T X P ord K L i)(t:fZ)(env:Env)(s:CS):Rz T s (mM env->jL X P ord K L T (lg n i t env s).1 env t) (lg n i t env s).2:=by
 unfold lg;exact((hi env s).bind (BA (X:=X) (P:=P) (ord:=ord) (K:=K) (L:=L) _ _ _ _ _ env _)).imp λh he=>h.2 (h.1 he).2
def Ol(n a b:fo){ia ib:Inf}(ha:jB T X P ord K L ia)(hb:jB T X P ord K L ib):jB T X P ord K L (opC n a b ia ib):=λenv s=>by
 have b2:=pM 2 (by omega) (by omega);have b3:=pM 3 (by omega) (by omega);have b4:=pM 4 (by omega) (by omega);have imp:∀{α:Prop},(α->α):=id;unfold opC;simp only;split
 ·refine((zC a ha (bT 2) env s).bind (zC b hb (bT 2) env _)).imp λh he=>⟨b2,?_⟩
  exact Od (h.1 he) (λhk n g sc hv s1 s0 hs _ N hN=>Oc 1 env hk n g sc hv s1 hs N hN) (λhk n g sc hv s1 s0 hs _ N hN=>(h.2 he) hk n g sc hv s1 hs N hN)
 split
 ·refine((zC a ha (bT 2) env s).bind (zC b hb (bT 2) env _)).imp λh he=>⟨b2,?_⟩
  exact Od (h.1 he) (λhk n g sc hv s1 s0 hs _ N hN=>(h.2 he) hk n g sc hv s1 hs N hN) (λhk n g sc hv s1 s0 hs _ N hN=>Oc 0 env hk n g sc hv s1 hs N hN)
 split
 ·exact((ha env s).bind (hb env _)).imp λh he=>⟨b2,zGR (h.1 he).2 (h.2 he).2⟩
 split
 ·exact((zC a ha (bT 4) env s).bind (zC b hb (bT 4) env _)).imp λh he=>⟨b4,zFM (h.1 he) (h.2 he)⟩
 ·exact((zC a ha (bT 3) env s).bind (zC b hb (bT 3) env _)).imp λh he=>⟨by split<;>assumption,zFL rfl (h.1 he) (h.2 he)⟩
def zG4(n a:fo){ia:Inf}(ha:jB T X P ord K L ia):jB T X P ord K L (nC n a ia):=λenv s=>by
 have b1:=pM 1 (by omega) (by omega);have b2:=pM 2 (by omega) (by omega);have b3:=pM 3 (by omega) (by omega);unfold nC;split
 ·exact(zC a ha (bT 2) env s).imp λh he=>⟨b2,zFI (h he)⟩
 split
 ·exact(zC a ha (bT 3) env s).imp λh he=>⟨b3,zFJ (h he)⟩
 split
 ·exact(ha env s).imp λh he=>⟨b2,zGQ n.n (h he).2⟩
 ·exact(ha env s).imp λh he=>⟨b1,zCz (h he).2⟩
def ZN:∀(l:List fo),(∀x,x∈l->jB T X P ord K L (iE L x))->∀env s,Rz T s (mM env->(lM L l env s).1.1.length=(lM L l env s).1.2.length/\(∀t,t∈(lM L l env s).1.2->gI t=true)/\∀(k:Nat) c t,(lM L l env s).1.1[k]?=some c->(lM L l env s).1.2[k]?=some t->jL X P ord K L T c env t) (lM L l env s).2
|[],_,env,s=>by rw[lM];exact .ret λ_=>⟨rfl,λt h=>absurd h (by simp),λk c t h=>absurd h (by simp)⟩
| n::l,h,env,s=>by
 rw[lM];refine((h n (by simp) env s).bind (ZN l (λx hx=>h x (by simp[hx])) env _)).imp λr he=>?_;have r1:=r.1 he;have r2:=r.2 he;simp only;refine⟨by simp[r2.1],λt ht=>?_,λk c t hc ht=>?_⟩
 ·rcases aS.1 ht with rfl|ht
  ·exact r1.1
  ·exact r2.2.1 t ht
 ·cases k with
  |zero=>simp only[getElem?_cons_zero,aO]at hc ht;subst hc;subst ht;exact r1.2
  |succ k=>simp only[getElem?_cons_succ]at hc ht;exact r2.2.2 k c t hc ht
def zG5(n:fo)(h:∀x,x∈n.kids->jB T X P ord K L (iE L x)):jB T X P ord K L (oI n (lM L n.kids)):=λenv s=>by
 unfold oI;simp only;obtain⟨s1,e1⟩:∃s1,(if lI [] n.names=true then kL n.line n.col 8 s else s)=s1:=⟨_,rfl⟩
 have h1:Rz T s (n.names.Nodup) s1:=by
  rw[<-e1];split
  ·exact .fail (by decide)
  ·rename_i q;exact .ret (by simpa using O5 n.names [] (by simpa using q) (by simp))
 rw[e1];refine(h1.bind ((ZN n.kids h env s1).bind (Jb _ _ _ _))).imp λr he=>?_;have k:=r.2.1 he;have m:=r.2.2;have e:=Yk m.2;have nr:=ZE k.2.1 m.2;rw[m.1];exact⟨Ay m.2,zFE r.1 k.1 e k.2.2 nr.1 nr.2⟩
def Je{j:Inf}(h:jB T X P ord K L j):jB T X P ord K L (jl j):=λenv s=>by
 unfold jl;split
 ·rename_i q;exact⟨sV.refl s,λz=>absurd z q⟩
 ·exact h env s
def Jf(n:fo){rest:Inf}(hr:jB T X P ord K L rest)(h:∀x,x∈n.kids->jB T X P ord K L (iE L x)):jB T X P ord K L (nX L n rest):=λenv s=>by
 unfold nX;split
 ·exact .ret λ_=>⟨pM 3 (by omega) (by omega),Yz _ _⟩
 split
 ·exact .ret λ_=>⟨pM 4 (by omega) (by omega),zFG _ _⟩
 split
 ·exact .ret λ_=>⟨pM 2 (by omega) (by omega),Oc _ _⟩
 split
 ·exact .ret λ_=>⟨pM 1 (by omega) (by omega),zD4 _⟩
 split
 ·exact .ret λ_=>⟨pM 3 (by omega) (by omega),zD5 _⟩
 split
 ·exact zEI n env s
 split
 ·exact zG5 n h env s
 ·exact hr env s
theorem zG6(q:fo):Cc q (iE L q)\/q.kids.length≠1:=by
 obtain⟨k,tx,nn,ln,cl,ts,ns,ks⟩:=q
 match ks with
 |[]=>exact .inr (by simp[fo.kids])
 |a::b::l=>exact .inr (by simp[fo.kids])
 | [a]=>
  refine .inl λe12 e4 env s e0 hf=>?_;simp only[fo.kind]at e12;subst e12;have ka:((fo.mk 12 tx nn ln cl ts ns [a]).kids.getD 0 mZ)=a:=rfl;rw[ka]at e4 hf⊢;rw[yw];unfold jl;rw[aA (λz=>z e0)];unfold nX;simp only[fo.kind];unfold yu;simp only[fo.kind];unfold nC;simp only[fo.kind];have e:(iE L a env s).1.1=cN 4 (nL env a.text):=by
   have:iE L a env s=sS L a env s:=by
    have h:=Aq L a (sS L a) λrest=>by
     unfold nX;funext env s;rw[aA (by omega),aA (by omega),aA (by omega),aA (by omega),aA (by omega),aB (.inl e4)]
    rw[h];unfold jl;rw[aA (λz=>z e0)]
   rw[this];unfold sS;simp only;rw[aB ⟨hf,e4⟩]
  simp[e,fo.n]
def zC3(ho:∀l y,y∈l->y∈ord l)(n:fo)(hn:n.kind=12->n.kids.length=1)(hk:∀x,x∈n.kids->x.kind=12->x.kids.length=1)(h:∀x,x∈n.kids->jB T X P ord K L (iE L x)):jB T X P ord K L (iE L n):=by
 obtain⟨k,tx,nn,ln,cl,ts,ns,ks⟩:=n
 match ks,h,hk with
 |[],h,hk=>
  rw[Fv];exact Je (Jf (.mk k tx nn ln cl ts ns []) (λenv s=>.ret λ_=>⟨xK,zEH _⟩) h)
 |[a],h,hk=>
  have ha:=h a (by simp[fo.kids]);rw[yw];refine Je (Jf (.mk k tx nn ln cl ts ns [a]) (λenv s=>?_) h);unfold yu;split
  ·exact Oh _ _ ha env s
  split
  ·exact zGZ _ ha env s
  split
  ·exact Oj _ ha env s
  ·exact zG4 _ _ ha env s
 |[a,b],h,hk=>
  have ha:=h a (by simp[fo.kids]);have hb:=h b (by simp[fo.kids]);rw[zx];refine Je (Jf (.mk k tx nn ln cl ts ns [a,b]) (λenv s=>?_) h);unfold zw;split
  ·exact zGY _ _ ha hb env s
  split
  ·exact zF1 _ _ ha hb env s
  split
  ·exact zF2 ho _ ha hb env s
  ·exact Ol _ _ _ ha hb env s
 |a::b::c::l,h,hk=>
  rw[EA];refine Je (Jf (.mk k tx nn ln cl ts ns (a::b::c::l)) (Oi a b c (λe12=>?_) (h a (by simp[fo.kids])) (h b (by simp[fo.kids])) (h c (by simp[fo.kids]))) h);exact((zG6 (L:=L) a).resolve_right λz=>z (hk a (by simp[fo.kids]) e12)) e12
mutual
def sJ:fo->Prop
|.mk k _ _ _ _ _ _ ks=>(k=12->ks.length=1)/\AJ ks
def AJ:List fo->Prop
|[]=>True
|n::l=>sJ n/\AJ l
end
def ZO:∀l:List fo,AJ l↔∀x,x∈l->sJ x
|[]=>by simp[AJ]
|n::l=>by simp[AJ,ZO l]
def ZP{n:fo}(h:sJ n):n.kind=12->n.kids.length=1:=by cases n;rw[sJ]at h;exact h.1
mutual
def ZQ(ho:∀l y,y∈l->y∈ord l):∀n:fo,sJ n->jB T X P ord K L (iE L n)
|.mk k tx nn ln cl ts ns ks,h=>zC3 ho _ (ZP h) (λx hx=>ZP ((ZO ks).1 (by rw[sJ]at h;exact h.2) x hx)) (ZR ho ks (by rw[sJ]at h;exact h.2))
def ZR(ho:∀l y,y∈l->y∈ord l):∀l:List fo,AJ l->∀x,x∈l->jB T X P ord K L (iE L x)
|[],_,x,hx=>by cases hx
|n::l,h,x,hx=>by
 rw[AJ]at h;rcases aS.1 hx with e|e
 ·rw[e];exact ZQ ho n h.1
 ·exact ZR ho l h.2 x e
end
end
mutual
def ZT:∀n:fo,nH n->sJ n
|.mk k tx nn ln cl ts ns ks,h=>by
 rw[nH]at h;rw[sJ];refine⟨λe=>?_,ZU ks h.1⟩;subst e;have:=h.2;unfold ny at this;omega
def ZU:∀l:List fo,lu l->AJ l
|[],_=>trivial
|n::l,h=>by
 rw[lu]at h;rw[AJ];exact⟨ZT n h.1,ZU l h.2⟩
end
section
variable (T:List jR) (X:jP) (P:List kJ) (ord:List di->List di) (K:Nat) (L:gq)
def w9(f:kJ)(x:jR):Prop:=∃a b p,AB L x=jG a b/\jL X P ord K L T f.body [(p,a)] b/\(x.module=L.main.module/\x.decl=L.main.decl->uj (bT 1) a=true)
variable {T X P ord K L}
theorem zE0(ho:∀l y,y∈l->y∈ord l)(hG:kr L){x:jR}(hx:jX L ⟨bs [],x.module,x.decl⟩)(s:CS):
  s.tab<+:(kP L x s).tab/\((kP L x s).sites=[]->s.sites=[])/\(∃f,(kP L x s).funs=s.funs++[f]/\((kP L x s).bad=[]->s.bad=[]/\((kP L x s).sites=[]->(kP L x s).tab<+:T->w9 T X P ord K L f x))):=by
 have hd:=(EC hG hx).1;have f0:fb (rH L x s)=fb s:=rfl;have k0:(rH L x s).sites=s.sites/\(rH L x s).tab=s.tab/\(rH L x s).vars=(qD L x.module x.decl).vars.map (·.1)/\(rH L x s).wth=x.types:=⟨rfl,rfl,rfl,rfl⟩
 have es:AB L x=(kS (jG (oV ((qD L x.module x.decl).types.getD 0 noT) ((qD L x.module x.decl).vars.map (·.1)) x.types).1 (oV ((qD L x.module x.decl).types.getD 1 noT) ((qD L x.module x.decl).vars.map (·.1)) x.types).1)).1:=rfl;unfold w9;rw[es];clear es;unfold kP;unfold rH at f0 k0;simp only;generalize qD L x.module x.decl=d at*
 generalize ({s with module:=x.module,vars:=d.vars.map (·.1),wth:=x.types,e:=0}:CS)=s0 at*
 have f1:=Au (d.types.getD 0 noT) d.line d.col s0;have r1:=Cb (T:=T) (d.types.getD 0 noT) d.line d.col s0;have v1:(iZ (d.types.getD 0 noT) d.line d.col s0).2.vars=s0.vars/\(iZ (d.types.getD 0 noT) d.line d.col s0).2.wth=s0.wth/\(iZ (d.types.getD 0 noT) d.line d.col s0).1=(oV (d.types.getD 0 noT) s0.vars s0.wth).1:=by
  unfold iZ kL;simp only;repeat' split
  all_goals simp
 rw[k0.2.2.1,k0.2.2.2]at v1;rw[<-v1.2.2];generalize iZ (d.types.getD 0 noT) d.line d.col s0=a at*
 have f2:=Au (d.types.getD 1 noT) d.line d.col a.2;have r2:=Cb (T:=T) (d.types.getD 1 noT) d.line d.col a.2;have v2:(iZ (d.types.getD 1 noT) d.line d.col a.2).1=(oV (d.types.getD 1 noT) a.2.vars a.2.wth).1:=rfl;rw[v1.1,v1.2.1]at v2;rw[<-v2];generalize iZ (d.types.getD 1 noT) d.line d.col a.2=b at*
 obtain⟨U,hT⟩:∃U,(if b.2.e=0 then nR (jG a.1 b.1) d.line d.col b.2 else(jG a.1 b.1,b.2))=U:=⟨_,rfl⟩
 have p3:fb U.2=fb b.2/\Rz T b.2 ((kS (jG a.1 b.1)).2=0) U.2:=by
  rw[<-hT];split
  ·exact⟨Fy _ _ _ _,(Jb _ _ _ _).imp λh=>h.2⟩
  ·rename_i q;exact⟨rfl,sV.refl _,λz=>absurd z q⟩
 rw[hT];clear hT;obtain⟨S,hS⟩:∃S,(if x.module=L.main.module/\x.decl=L.main.decl/\uj (bT 1) a.1=false then kL d.line d.col 14 U.2 else U.2)=S:=⟨_,rfl⟩
 have p4:fb S=fb U.2/\Rz T U.2 (x.module=L.main.module/\x.decl=L.main.decl->uj (bT 1) a.1=true) S:=by
  rw[<-hS];split
  ·exact⟨JL _ _ _ _,.fail (by decide)⟩
  ·rename_i q;refine⟨rfl,.ret λh=>?_⟩;cases e:uj (bT 1) a.1 with
   |true=>rfl
   |false=>exact absurd ⟨h.1,h.2,e⟩ q
 rw[hS];clear hS;have f5:=Fz L d.body [(d.param,a.1)] S;have r5:=ZQ (T:=T) (X:=X) (P:=P) (ord:=ord) (K:=K) (L:=L) ho d.body (ZT _ hd.body) [(d.param,a.1)] S;generalize iE L d.body [(d.param,a.1)] S=y at*
 have f6:=JM y.1.1 y.1.2 b.1 d.body.line d.body.col y.2;have r6:=BA (T:=T) (X:=X) (P:=P) (ord:=ord) (K:=K) (L:=L) y.1.1 y.1.2 b.1 d.body.line d.body.col [(d.param,a.1)] y.2;generalize jw y.1.1 y.1.2 b.1 d.body.line d.body.col y.2=z at*
 have f:fb z.2=fb s:=by rw[f6,f5,p4.1,p3.1,f2,f1,f0]
 have g1:z.2.funs=s.funs:=bu (·.1) f;have g2:z.2.bad=s.bad:=bu (·.2.1) f;have r:=((r1.bind r2).bind (p3.2.bind p4.2)).bind (r5.bind r6);rw[<-k0.1,<-k0.2.1];generalize (if 0<x.types.length then ry x.types 0 (L.names.getD x.module.toNat (bs [])++bs [46]++d.name)++bs [93]else ry x.types 0 (L.names.getD x.module.toNat (bs [])++bs [46]++d.name))=nm;split
 ·exact⟨r.1.tab,r.1.sites,⟨nm,U.1,z.1⟩,by simp[g1],λh=>absurd h (by simp)⟩
 ·rename_i q;refine⟨r.1.tab,r.1.sites,⟨nm,U.1,z.1⟩,by simp[g1],λh=>⟨by rw[<-g2];exact h,λh1 h2=>?_⟩⟩;have k:=r.2 (by simpa using q) h1 h2;have he:mM [(d.param,a.1)]:=λv hv=>by rw[aP.1 hv];exact k.1.1.1
  exact⟨a.1,b.1,d.param,ZF k.1.1.1 k.1.1.2 k.1.2.1,k.2.2 (k.2.1 he).2,k.1.2.2⟩
def ZV(ho:∀l y,y∈l->y∈ord l)(hG:kr L):∀(n i:Nat) (s:CS),i+n<=257->vF L s i->
 s.tab<+:(kY L n i s).tab/\((kY L n i s).sites=[]->s.sites=[])/\((kY L n i s).bad=[]->s.bad=[]/\((kY L n i s).sites=[]->(kY L n i s).tab<+:T->s.funs.length=i->(∀(j:Nat) f x,s.funs[j]?=some f->T[j]?=some x->w9 T X P ord K L f x)->∀(j:Nat) f x,(kY L n i s).funs[j]?=some f->T[j]?=some x->w9 T X P ord K L f x))
|0,i,s,hi,h=>by
 rw[kY];exact⟨prefix_refl _,id,λe=>⟨e,λ_ _ _ h=>h⟩⟩
| n +1,i,s,hi,h=>by
 rw[kY];split
 ·rename_i q;have hgi:s.tab[i]?=some (s.tab.getD i ⟨0,0,[]⟩):=by rw[aF,aD q];try rfl
  have hm:s.tab.getD i ⟨0,0,[]⟩∈s.tab:=aW hgi;have h1:=h.ist _ hm;have k:=zE0 (T:=T) (X:=X) (P:=P) (ord:=ord) (K:=K) ho hG h1.1 s;have r:=ZV ho hG n (i+1) _ (by omega) (GA hG h1.1 h1.2 (by omega) h);obtain⟨k1,k2,f,k3,k4⟩:=k;refine⟨k1.trans r.1,λe=>k2 (r.2.1 e),λe=>?_⟩;have r2:=r.2.2 e;have k5:=k4 r2.1;refine⟨k5.1,λa b hl hf=>r2.2 a b (by rw[k3];simp[hl]) λj g x hg hx=>?_⟩;rw[k3]at hg;by_cases hj:j<s.funs.length
  ·rw[ay hj]at hg;exact hf j g x hg hx
  ·have e0:j=s.funs.length:=by
    have:=(List.getElem?_eq_some_iff.1 hg).1;simp at this;omega
   subst e0;simp at hg;subst hg;rw[hl]at hx;have:=Jd ((k1.trans r.1).trans b) hgi;rw[hx]at this;cases this;exact k5.2 (r.2.1 a) (r.1.trans b)
 ·exact⟨prefix_refl _,id,λe=>⟨e,λ_ _ _ h=>h⟩⟩
theorem zDf(hl:∀(i:Nat) x,T[i]?=some x->∃f,P[i]?=some f/\iQ f.body<=K/\w9 T X P ord K L f x):∀n,yF X P ord K L T n:=λn=>by
 induction n using Nat.strongRecOn with
 |ind n ih=>
  intro i x hx;obtain⟨f,h1,h2,a,b,p,e,hs,_⟩:=hl i x hx;refine⟨f,h1,?_⟩;rw[e];refine Yx rfl ?_;have t0:jg (jG a b)=a:=rfl;have t1:jh (jG a b)=b:=rfl;rw[t0,t1,GV];refine⟨h2,λm hm v hv s hs' N hN=>hs h2 m (ih m hm) _ ⟨rfl,λk c hc=>?_⟩ s hs' N hN⟩;cases k with
  |zero=>simp at hc;subst hc;exact⟨v,rfl,hv⟩
  |succ k=>simp at hc
end
def MnZ(L:gq):Prop:=0<=L.main.module/\0<=L.main.decl/\∃m d,L.mods[L.main.module.toNat]?=some m/\m.decs[L.main.decl.toNat]?=some d/\d.vars.length=0
def zCB{l:List (di × di)}(h:(qz l).2.length=0):(qD (qz l).1 (qz l).1.main.module (qz l).1.main.decl).vars.length=0:=by
 unfold qz at h⊢;simp only at h⊢;split at h
 ·simp only at h;omega
 rename_i q1;rw[aA q1];split at h
 ·simp only at h;omega
 rename_i q2;rw[aA q2];split at h
 ·simp only at h;omega
 rename_i q3;rw[aA q3];split at h
 ·simp at h
 rename_i q4;rw[aA q4];split at h
 ·simp at h
 rename_i q5;rw[aA q5];split at h
 ·simp at h
 rename_i q6;rw[aA q6];unfold qD;simp only;omega
def zA4{l:List (di × di)}(h:(qz l).2.length=0):MnZ (qz l).1:=by
 have hG:=Fx l h;have hv:=zCB h;generalize (qz l).1=L at*
 obtain⟨mn,kn,M,a1,a2,a3,a4,_⟩:=Dy hG.good hG.main;refine⟨by omega,by omega,M,_,by rw[a1];simpa using a3,by rw[a2];simpa using a4,?_⟩;exact hv
def BB(L:gq)(s:CS):Prop:=∃i:Nat,s.main=i/\s.tab[i]?=some ⟨L.main.module,L.main.decl,[]⟩
def Om(L:gq)(i:Nat):∀(l:List ik) (k:Nat) (s:CS),(qh L i l k s).2.length=0->(BB L s->BB L (qh L i l k s).1)/\((i:Int)=L.main.module->∀(j:Nat) (d:ik),l[j]?=some d->((k+j:Nat):Int)=L.main.decl->d.vars.length=0->BB L (qh L i l k s).1)
|[],k,s,h=>by rw[qh];exact⟨id,λ_ j d e=>by simp at e⟩
| d ::l,k,s,h=>by
 rw[qh]at h⊢;split at h
 ·rename_i q;rw[aB q];have ih:=Om L i l (k+1) s h;refine⟨ih.1,λhi j d' e hk hv=>?_⟩;cases j with
  |zero=>simp at e;subst e;omega
  |succ j=>exact ih.2 hi j d' (by simpa using e) (by omega) hv
 ·rename_i q;rw[aA q];simp only at h⊢;have ha:=Ga s.tab ⟨i,k,[]⟩;split at h
  ·simp at h
  ·rename_i q2;rw[aA q2];obtain⟨x,hx1,hx2⟩:=ha.2 (by simpa using q2);have ih:=Om L i l (k+1) _ h;refine⟨λhv=>ih.1 ?_,λhi j d' e hk hv=>?_⟩
   ·obtain⟨y,hy1,hy2⟩:=hv;unfold BB;simp only;split
    ·rename_i e;exact⟨x,hx1,by rw[<-e.1,<-e.2];exact hx2⟩
    ·exact⟨y,hy1,Jd ha.1 hy2⟩
   ·cases j with
    |zero=>
     refine ih.1 ?_;unfold BB;simp only;have e:(i:Int)=L.main.module/\(k:Int)=L.main.decl:=⟨hi,by simpa using hk⟩
     rw[aB e];exact⟨x,hx1,by rw[<-e.1,<-e.2];exact hx2⟩
    |succ j=>exact ih.2 hi j d' (by simpa using e) (by omega) hv
def ZW(L:gq):∀(l:List ig) (i:Nat) (s:CS),(lh L l i s).2.length=0->(BB L s->BB L (lh L l i s).1)/\(∀(j:Nat) (m:ig),l[j]?=some m->((i+j:Nat):Int)=L.main.module->∀(jd:Nat) (d:ik),m.decs[jd]?=some d->(jd:Int)=L.main.decl->d.vars.length=0->BB L (lh L l i s).1)
|[],i,s,h=>by rw[lh];exact⟨id,λj d e=>by simp at e⟩
| m::l,i,s,h=>by
 rw[lh]at h⊢;split at h
 ·omega
 ·rename_i q;rw[aA q];have hd:=Om L i m.decs 0 s (by omega);have ih:=ZW L l (i+1) _ h;refine⟨λhv=>ih.1 (hd.1 hv),λj m' e hi jd d e2 hk hv=>?_⟩;cases j with
  |zero=>
   simp at e;subst e;exact ih.1 (hd.2 (by simpa using hi) jd d e2 (by simpa using hk) hv)
  |succ j=>exact ih.2 j m' (by simpa using e) (by omega) jd d e2 hk hv
def ZX:O Val->Prop
|.ok _ _=>True
|.over h _ _=>h≠1/\h≠5
|.bad=>False
theorem zFP{F:fZ->fZ->fw->List Val->Prop}{a:fZ}(h:uj (bT 1) a=true):VT F a .null:=by
 by_cases a0:a.kind=0
 ·exact .any a0
 unfold uj at h;rw[aC,aC]at h;have hb:=h.2.2;unfold pE at hb;have hd:ko (bT 1)+ko a=(kE []+ko a)+1:=by
  rw[show bT 1=.mk 1 (bs []) [] []from rfl,ko];omega
 rw[hd,qP]at hb;have k1:(bT 1).kind=1:=rfl;rw[aA (by omega),aZ]at hb;have hp:kG (bT 1)=[⟨0,false,bT 1⟩]:=by
  unfold kG;rw[aA (by omega),aB (by omega)];try rfl
 have:=hb ⟨0,false,bT 1⟩ (by rw[hp];simp);simp only[aC]at this;exact .base (q:=(kT (kG a) 0).1) a0 (by show kT (kG a) 0=_;rw[<-this.1]) (by simp[Val.tag])
def zA5{l:List (di × di)}(h:(ll l).2=true)(hs:(ll l).1.sites=[])(X:jP)(ord:List di->List di)(ho:∀l y,y∈l->y∈ord l):
  0<=(ll l).1.main/\∃f,(ll l).1.funs[(ll l).1.main.toNat]?=some f/\∀s:RS,∀N,s.fuel.toNat*120006+120005<=N->ZX (iG X (ll l).1.funs ord N f.body [.null] s):=by
 have hgood:=YK l;unfold ll at h hs hgood⊢;split at h
 ·cases h
 rename_i q1;rw[aA q1]at hs hgood⊢;simp only at h hs hgood⊢;split at h
 ·cases h
 rename_i q2;rw[aA q2]at hs hgood⊢;have hG:=Fx l (by omega);have hse:=Yo l;have hM:=zA4 (l:=l) (by omega);generalize (qz l).1=L at*
 have h0:=JP L.mods 0 cs0 (by simp) (OM L);have hf0:(lh L L.mods 0 cs0).1.funs=[]:=by rw[GN];try rfl
 unfold yn at h hs hgood⊢;simp only at h hs hgood⊢;by_cases q3:0<(lh L L.mods 0 cs0).2.length
 ·rw[aB q3]at h;simp at h;rw[h]at q3;simp at q3
 rw[aA q3]at h hs hgood⊢;by_cases q4:0<(kY L 257 0 (lh L L.mods 0 cs0).1).bad.length
 ·rw[aB q4]at h;simp at h;rw[h]at q4;simp at q4
 rw[aA q4]at hs hgood⊢;simp only at hs hgood⊢;have hb:(kY L 257 0 (lh L L.mods 0 cs0).1).bad=[]:=aa.1 (by omega);have hk:=O6 (M:=(kY L 257 0 (lh L L.mods 0 cs0).1).sites.length) (G:=(kY L 257 0 (lh L L.mods 0 cs0).1).tab.length) hG hse 257 0 _ (by omega) h0;have hl:=hk.2.2 (by omega) (by rw[hf0];rfl);have hf:=OL hG 257 0 (lh L L.mods 0 cs0).1 (by omega) h0 (by rw[GN];intro f hf;cases hf);obtain⟨m1,m2,m,d,e1,e2,e3⟩:=hM;obtain⟨mi,v1,v2⟩:=(ZW L L.mods 0 cs0 (by omega)).2 _ m e1 (by omega) _ d e2 (by omega) e3;have z:=ZV (T:=(kY L 257 0 (lh L L.mods 0 cs0).1).tab) (X:=X) (P:=(kY L 257 0 (lh L L.mods 0 cs0).1).funs) (ord:=ord) (K:=120005) ho hG 257 0 _ (by omega) h0;have z3:=(z.2.2 hb).2 hs (prefix_refl _) (by rw[hf0];rfl) (λj f x hj=>by rw[hf0]at hj;simp at hj);have v2:=Jd z.1 v2;rw[hf.2.2];rw[v1];have hlt:=(List.getElem?_eq_some_iff.1 v2).1;generalize (kY L 257 0 (lh L L.mods 0 cs0).1).tab=T at*
 generalize (kY L 257 0 (lh L L.mods 0 cs0).1).funs=P at*
 have all:∀(i:Nat) x,T[i]?=some x->∃f,P[i]?=some f/\iQ f.body<=120005/\w9 T X P ord 120005 L f x:=λi x hx=>by
  have hi:=(List.getElem?_eq_some_iff.1 hx).1;have hp:P[i]?=some P[i]:=aD (by omega);exact⟨P[i],hp,(hgood.1 _ (aW hp)).1.2,z3 i _ x hp hx⟩
 obtain⟨f,p1,p2,a,b,p,e,hS,hm⟩:=all mi _ v2;refine⟨Int.natCast_nonneg _,f,p1,λs N hN=>?_⟩;have r:=hS p2 s.fuel.toNat (zDf all _) [.null] ⟨rfl,λk c hc=>by
  cases k with
  |zero=>simp at hc;subst hc;exact⟨_,rfl,zFP (hm ⟨rfl,rfl⟩)⟩
  |succ k=>simp at hc⟩ s rfl N (by omega)
 revert r;unfold kC ZX;cases iG X P ord N f.body [.null] s with
 |ok v s=>exactλ_=>trivial
 |over h n s=>exact id
 |bad=>exact id
end Go.Gr
namespace Go.Gr
open Go.Abs Go.Proofs
mutual
def jK:fw->Prop
|.mk k n tx is ns ts cs ks=>(tx.size<=70000/\(k=4->0<=n)/\(k=6->0<=n)/\(k=21->2<=ts.length))/\(∀x,x∈ns->x.size<=70000)/\(k=8->ns.length=ks.length/\ns.Nodup)/\(k=5->ks.length=1)/\(k=18->ks.length=2)/\(k=11->ks.length=3)/\BC ks
def BC:List fw->Prop
|[]=>True
|c::l=>jK c/\BC l
end
def Jg:∀l:List fw,BC l↔∀x,x∈l->jK x
|[]=>by simp[BC]
|n::l=>by simp[BC,Jg l]
mutual
def okV(K T:Nat):Val->Prop
|.null=>True
|.bool _=>True
|.int _=>True
|.str s=>s.size<=70000
|.rcd ns vs=>ns.Nodup/\ns.length=vs.length/\ns.length<=K+T/\(∀x,x∈ns->x.size<=70000)/\kI K T vs
|.fn b sc=>sc.length+1+iQ b<=K/\jK b/\kI K T sc
def kI(K T:Nat):List Val->Prop
|[]=>True
|v::l=>okV K T v/\kI K T l
end
def AL{K T:Nat}:∀l:List Val,kI K T l↔∀x,x∈l->okV K T x
|[]=>by simp[kI]
|n::l=>by simp[kI,AL l]
mutual
def Jh{K T U:Nat}(h:T<=U):∀v:Val,okV K T v->okV K U v
|.null,_=>trivial
|.bool _,_=>trivial
|.int _,_=>trivial
|.str s,k=>by rw[okV]at k⊢;exact k
|.rcd ns vs,k=>by rw[okV]at k⊢;exact⟨k.1,k.2.1,by omega,k.2.2.2.1,yH h vs k.2.2.2.2⟩
|.fn b sc,k=>by rw[okV]at k⊢;exact⟨k.1,k.2.1,yH h sc k.2.2⟩
def yH{K T U:Nat}(h:T<=U):∀l:List Val,kI K T l->kI K U l
|[],_=>trivial
|v::l,k=>by rw[kI]at k⊢;exact⟨Jh h v k.1,yH h l k.2⟩
end
def used(K:Nat)(s:RS):Nat:=s.lines.length+s.ticks+s.fuel.toNat*(K+1)
def Small(K c:Nat)(s:RS):O Val->Prop
|.ok v s'=>used K s'<=used K s+c/\s.ticks<=s'.ticks/\okV K s'.ticks v
|.over _ _ s'=>used K s'<=used K s+c
|.bad=>True
def qK(K c n:Nat)(s:RS):O (List Val)->Prop
|.ok vs s'=>used K s'<=used K s+c/\s.ticks<=s'.ticks/\kI K s'.ticks vs/\vs.length=n
|.over _ _ s'=>used K s'<=used K s+c
|.bad=>True
end Go.Gr
namespace Go.Gr
open Go.Abs Go.Proofs List
section
variable {X:jP} {P:List kJ} {ord:List di->List di} {K:Nat}
def ZY(f:fw->RS->O Val):∀(l:List fw) (s:RS),(∀c,c∈l->∀s':RS,s.ticks<=s'.ticks->Small K (iQ c) s' (f c s'))->qK K (gu l) l.length s (mX f l s)
|[],s,_=>by rw[mX];exact⟨by omega,aK _,trivial,rfl⟩
| c::l,s,h=>by
 rw[mX,gu];have h1:=h c (by simp) s (aK _);unfold O.bind;revert h1;cases f c s with
 |bad=>exactλ_=>trivial
 |over h n s'=>intro h1;unfold Small at h1;unfold qK;simp only;omega
 | ok v s1=>
  rintro⟨a1,a2,a3⟩
  simp only;have h2:=ZY f l s1 λc hc s' hs=>h c (by simp[hc]) s' (by omega);revert h2;cases mX f l s1 with
  |bad=>exactλ_=>trivial
  |over h n s'=>intro h2;unfold qK at h2⊢;simp only at h2⊢;omega
  |ok vs s2=>
   rintro⟨b1,b2,b3,b4⟩
   exact⟨by omega,by omega,⟨Jh b2 _ a3,b3⟩,by simp[b4]⟩
def vW{c:Nat}{s:RS}{v:Val}(h:okV K s.ticks v):Small K c s (.ok v s):=⟨by omega,aK _,h⟩
def ZZ{c:Nat}{op:Int}{a b:Val}{s:RS}:Small K c s (o5 X op a b s):=by
 unfold o5 nZ;repeat' split
 all_goals first|(unfold Small;simp only;omega)|exact vW trivial
def zDP{c:Nat}{a b:Val}{s:RS}:Small K c s (yE X a b s):=by
 unfold yE;repeat' split
 all_goals first|(unfold Small;simp only;omega)|exact vW trivial
def zCk{c:Nat}{a b:Val}{s:RS}:Small K c s (qJ a b s):=by
 unfold qJ nZ;repeat' split
 all_goals first|(unfold Small;simp only;omega)|(refine vW ?_;rename_i h;simp only[okV,aY];omega)
def Oo{T:Nat}:∀{ns:List di} {vs:List Val} {x:di} {v:Val},kI K T vs->lW ns vs x=some v->okV K T v
|[],_,x,v,_,h=>by rw[lW]at h;cases h;all_goals (intros;contradiction)
|_::_,[],x,v,_,h=>by rw[lW]at h;cases h;all_goals (intros;contradiction)
|n::ns,w::vs,x,v,hk,h=>by
 rw[kI]at hk;rw[lW]at h;split at h
 ·cases h;exact hk.1
 ·exact Oo hk.2 h
def Small.less{c c':Nat}{s:RS}{r:O Val}(h:c<=c')(hr:Small K c s r):Small K c' s r:=by
 unfold Small at hr⊢;cases r with
 |ok v s'=>exact⟨by omega,hr.2⟩
 |over h n s'=>simp only at hr⊢;omega
 |bad=>trivial
def Small.then{c1 c2:Nat}{s s1:RS}{r:O Val}(h1:used K s1<=used K s+c1)(h2:s.ticks<=s1.ticks)(hr:Small K c2 s1 r):Small K (c1+c2) s r:=by
 unfold Small at hr⊢;cases r with
 |ok v s'=>exact⟨by omega,by omega,hr.2.2⟩
 |over h n s'=>simp only at hr⊢;omega
 |bad=>trivial
def zAL(hP:∀f,f∈P->1+iQ f.body<=K/\jK f.body){c:fw}(hc:jK c){sc:List Val}{s:RS}(hv:kI K s.ticks sc):Small K 1 s (oh X P c sc s):=by
 have ht:c.text.size<=70000:=by cases c;rw[jK]at hc;exact hc.1.1
 unfold oh;split
 ·exact vW trivial
 split
 ·exact vW ht
 split
 ·exact vW trivial
 split
 ·split
  ·rename_i v e;exact vW ((AL sc).1 hv v (aW e))
  ·trivial
 split
 ·split
  ·rename_i f e;have:=hP f (aW e);exact vW ⟨by simp only[length_nil];omega,this.2,trivial⟩
  ·trivial
 split
 ·split
  ·refine⟨?_,aK _,trivial⟩;unfold used;simp only[aR,length_cons,length_nil];omega
  ·unfold Small;simp only;omega
 ·exact vW trivial
def zCl{c:fw}{v:Val}{s:RS}(hv:okV K s.ticks v):Small K 1 s (lC X c v s):=by
 unfold lC;split
 ·split
  ·rename_i ns vs;rw[okV]at hv;split
   ·rename_i w e;exact vW (Oo hv.2.2.2.2 e)
   ·unfold nZ Small;simp only;omega
  ·unfold nZ Small;simp only;omega
 split
 ·exact vW trivial
 split
 ·split
  ·exact vW trivial
  ·unfold nZ Small;simp only;omega
 split
 ·exact ZZ
 split
 ·split
  ·trivial
  split
  ·trivial
  split
  ·exact vW hv
  ·unfold Small;simp only;omega
 split
 ·trivial
 ·refine⟨?_,aK _,trivial⟩;unfold used;simp only[aR,length_cons,length_nil];omega
def zDQ(hord:∀l:List di,l.Nodup->(ord l).Nodup/\(ord l).length=l.length/\∀x,x∈ord l↔x∈l){T:Nat}{x:di}(hx:x.size<=70000){b:Val}(hb:okV K T b){ns:List di}{vs:List Val}(h:okV K T (.rcd ns vs)):okV K (T+1) (EE ord x b ns vs):=by
 rw[okV]at h;obtain⟨h1,h2,h3,h4,h5⟩:=h;obtain⟨o1,o2,o3⟩:=hord ns h1;have hfl:=length_filter_le (λn=>decide (n≠x)) (ord ns);unfold EE;rw[okV];refine⟨dL.2 ⟨λz=>by simpa using (bP.1 z).2,o1.filter _⟩,by simp,by simp only[length_cons];omega,λy hy=>?_,Jh (by omega) b hb,(AL _).2 λv hv=>?_⟩
 ·rcases aS.1 hy with rfl|hy
  ·exact hx
  ·exact h4 y ((o3 y).1 (bP.1 hy).1)
 ·obtain⟨n,_,rfl⟩:=bI.1 hv;cases e:lW ns vs n with
  |none=>trivial
  |some w=>exact Jh (by omega) w (Oo h5 e)
def AO (hord:∀l:List di,l.Nodup->(ord l).Nodup/\(ord l).length=l.length/\∀x,x∈ord l↔x∈l) (hP:∀f,f∈P->1+iQ f.body<=K/\jK f.body):∀(N:Nat) (c:fw) (sc:List Val) (s:RS),sc.length+iQ c<=K->jK c->kI K s.ticks sc->Small K (iQ c) s (iG X P ord N c sc s)
|0,c,sc,s,_,_,_=>by rw[iG];trivial
| N + 1,c,sc,s,hl,hc,hv=>by
 rw[yG];have e:=G5 c;have hk:BC c.kids:=by cases c;rw[jK]at hc;exact hc.2.2.2.2.2.2
 have h8:c.kind=8->c.names.length=c.kids.length/\c.names.Nodup:=by cases c;rw[jK]at hc;exact hc.2.2.1
 have h5:c.kind=5->c.kids.length=1:=by cases c;rw[jK]at hc;exact hc.2.2.2.1
 have h18:c.kind=18->c.kids.length=2:=by cases c;rw[jK]at hc;exact hc.2.2.2.2.1
 have h11:c.kind=11->c.kids.length=3:=by cases c;rw[jK]at hc;exact hc.2.2.2.2.2.1
 have hns:∀x,x∈c.names->x.size<=70000:=by cases c;rw[jK]at hc;exact hc.2.1
 have htx:c.text.size<=70000:=by cases c;rw[jK]at hc;exact hc.1.1
 have list:=ZY (K:=K) (λk s=>iG X P ord N k sc s) c.kids s λk hkk s' hs'=>by
  have:iQ k<=gu c.kids:=by
   have key:∀l:List fw,k∈l->iQ k<=gu l:=λl=>by
    induction l with
    |nil=>intro h;cases h
    |cons a l ih=>
     intro h;rw[gu];rcases aS.1 h with rfl|h
     ·omega
     ·have:=ih h;omega
   exact key _ hkk
  exact AO hord hP N k sc s' (by omega) ((Jg _).1 hk k hkk) (yH hs' _ hv)
 split
 ·rename_i k5;obtain⟨a,ha⟩:∃a,c.kids=[a]:=by
   have:=h5 k5
   match c.kids,this with
   |[a],_=>exact⟨a,rfl⟩
  have ka:iT c 0=a:=by unfold iT;rw[ha];try rfl
  rw[ha]at hk e;rw[ka];simp only[gu]at e;exact vW ⟨by omega,hk.1,hv⟩
 split
 ·rename_i k11;obtain⟨q,a,b,ha⟩:∃q a b,c.kids=[q,a,b]:=by
   have:=h11 k11
   match c.kids,this with
   |[q,a,b],_=>exact⟨q,a,b,rfl⟩
  have k0:iT c 0=q:=by unfold iT;rw[ha];try rfl
  have k1:iT c 1=a:=by unfold iT;rw[ha];try rfl
  have k2:iT c 2=b:=by unfold iT;rw[ha];try rfl
  rw[ha]at hk e;simp only[gu]at e;rw[k0];have h1:=AO hord hP N q sc s (by omega) hk.1 hv;unfold O.bind;revert h1;cases iG X P ord N q sc s with
  |bad=>exactλ_=>trivial
  |over h n s'=>intro h1;exact Small.less (by omega) h1
  | ok v s1=>
   rintro⟨a1,a2,a3⟩
   simp only;split
   ·rename_i t;cases t with
    |true=>rw[aB rfl,k1];exact Small.less (by omega) (Small.then a1 a2 (AO hord hP N a sc s1 (by omega) hk.2.1 (yH a2 _ hv)))
    |false=>rw[aA (by decide),k2];exact Small.less (by omega) (Small.then a1 a2 (AO hord hP N b sc s1 (by omega) hk.2.2.1 (yH a2 _ hv)))
   ·unfold nZ Small;simp only;omega
 split
 ·rename_i k18;obtain⟨a,b,ha⟩:∃a b,c.kids=[a,b]:=by
   have:=h18 k18
   match c.kids,this with
   |[a,b],_=>exact⟨a,b,rfl⟩
  have k0:iT c 0=a:=by unfold iT;rw[ha];try rfl
  have k1:iT c 1=b:=by unfold iT;rw[ha];try rfl
  rw[ha]at hk e;simp only[gu]at e;rw[k0,k1];have h1:=AO hord hP N a sc s (by omega) hk.1 hv;unfold O.bind;revert h1;cases iG X P ord N a sc s with
  |bad=>exactλ_=>trivial
  |over h n s'=>intro h1;exact Small.less (by omega) h1
  | ok v s1=>
   rintro⟨a1,a2,a3⟩
   simp only;have pb:=J9 a;exact Small.less (by omega) (Small.then a1 a2 (AO hord hP N b (sc++[v]) s1 (by simp;omega) hk.2.1 ((AL _).2 λx hx=>by
    rcases aU.1 hx with hx|hx
    ·exact(AL _).1 (yH a2 _ hv) x hx
    ·rw[aP.1 hx];exact a3)))
 split
 ·rename_i k8;unfold O.bind;revert list;cases mX (λk s=>iG X P ord N k sc s) c.kids s with
  |bad=>exactλ_=>trivial
  |over h n s'=>intro h1;unfold qK at h1;unfold Small;simp only at h1⊢;omega
  | ok vs s1=>
   rintro⟨a1,a2,a3,a4⟩
   have hn:=h8 k8;have hcn:c.kids.length<=gu c.kids:=by
    have key:∀l:List fw,l.length<=gu l:=λl=>by
     induction l with
     |nil=>exact aK _
     |cons a l ih=>rw[gu,length_cons];have:=J9 a;omega
    exact key _
   exact⟨by omega,a2,⟨hn.2,by omega,by omega,hns,a3⟩⟩
 ·unfold O.bind;revert list;cases mX (λk s=>iG X P ord N k sc s) c.kids s with
  |bad=>exactλ_=>trivial
  |over h n s'=>intro h1;unfold qK at h1;unfold Small;simp only at h1⊢;omega
  | ok vs s1=>
   rintro⟨a1,a2,a3,a4⟩
   simp only;refine Small.less (c:=gu c.kids+1) (by omega) (Small.then a1 a2 ?_);split
   ·exact zAL hP hc (yH a2 _ hv)
   ·exact zCl a3.1
   ·rename_i a b l;have va:=a3.1;have vb:=a3.2.1;unfold lw;split
    ·split
     ·unfold Small;simp only;omega
     ·rename_i hf;split
      ·rename_i body sc';rw[okV]at va;have r:=AO hord hP N body (sc'++[b]) {s1 with fuel:=s1.fuel-1} (by simp;omega) va.2.1 ((AL _).2 λx hx=>by
        rcases aU.1 hx with hx|hx
        ·exact(AL _).1 va.2.2 x hx
        ·rw[aP.1 hx];exact vb)
       have eu:used K {s1 with fuel:=s1.fuel-1}+(K+1)=used K s1:=by
        unfold used;obtain⟨m,hm⟩:∃m:Nat,s1.fuel=(m:Int)+1:=⟨(s1.fuel-1).toNat,by omega⟩
        have e1:(s1.fuel-1).toNat=m:=by omega
        have e2:s1.fuel.toNat=m+1:=by omega
        simp only[e1,e2,Nat.succ_mul];omega
       unfold Small at r⊢;revert r;cases iG X P ord N body (sc'++[b]) {s1 with fuel:=s1.fuel-1}with
       |bad=>exactλ_=>trivial
       |over h n s'=>intro r;simp only at r⊢;omega
       |ok v s'=>intro r;exact⟨by omega,r.2.1,r.2.2⟩
      ·unfold nZ Small used;simp only;have:(s1.fuel-1).toNat<=s1.fuel.toNat:=by omega
       have:=bL (K+1) this;omega
    split
    ·split
     ·refine⟨?_,by simp,zDQ hord htx vb va⟩;unfold used;simp only;omega
     ·unfold nZ Small;simp only;omega
    split
    ·exact ZZ
    split
    ·exact zDP
    ·exact zCk
end
end Go.Gr
namespace Go.Gr
open Go.Abs Go.Proofs
def Z0:MC:=(λx(_:x=gC tt [] [] [] (gB Tryz.f26))=>x) _ (by dsimp[Tryz.f26])
def zpZ:WT Pg 26 11 Z0 [.tmp 6]:=wT gD Tryz.func26 (by kernel_rfl)
def Z4:MC:=(λx(_:x=gC tt [(11,64)] [] [] (gB Tryz.f57))=>x) _ (by dsimp[Tryz.f57])
def zxL:WX Pg 57 5 Z4 []:=wX gD Tryz.func57 (by kernel_rfl)
def Z5:MC:=(λx(_:x=gC tt [] [] [] (gB Tryz.f64))=>x) _ (by dsimp[Tryz.f64])
def zyS:WX Pg 64 8 Z5 []:=wX gD Tryz.func64 (by kernel_rfl)
def Oq:MC:=(λx(_:x=gC tt [(11,57)] [] [] (gB Tryz.f27))=>x) _ (by dsimp[Tryz.f27])
def Z6:WX Pg 27 13 Oq [.tmp 2]:=wX gD Tryz.func27 (by kernel_rfl)
def Ot:MC:=(λx(_:x=gC tt [(11,57)] [] [] (gB Tryz.f105))=>x) _ (by dsimp[Tryz.f105])
def Z7:WX Pg 105 13 Ot [.tmp 2]:=wX gD Tryz.func105 (by kernel_rfl)
def Ou:MC:=(λx(_:x=gC tt [(11,57)] [] [] (gB Tryz.f109))=>x) _ (by dsimp[Tryz.f109])
def Z8:WX Pg 109 13 Ou [.tmp 2]:=wX gD Tryz.func109 (by kernel_rfl)
def Ov:MC:=(λx(_:x=gC tt [(11,57)] [] [] (gB Tryz.f59))=>x) _ (by dsimp[Tryz.f59])
def Z9:WX Pg 59 13 Ov [.tmp 2]:=wX gD Tryz.func59 (by kernel_rfl)
def Ow:MC:=(λx(_:x=gC tt [(11,57)] [] [] (gB Tryz.f65))=>x) _ (by dsimp[Tryz.f65])
def Za:WX Pg 65 13 Ow [.tmp 2]:=wX gD Tryz.func65 (by kernel_rfl)
def Zb:MC:=(λx(_:x=gC tt [] [] [] (gB Tryz.f300))=>x) _ (by dsimp[Tryz.f300])
def zvi:WT Pg 300 3 Zb [.tmp 2]:=wT gD Tryz.func300 (by kernel_rfl)
def Zc:MC:=(λx(_:x=gC tt [] [] [] (gB Tryz.f301))=>x) _ (by dsimp[Tryz.f301])
def zuz:WT Pg 301 3 Zc [.tmp 2]:=wT gD Tryz.func301 (by kernel_rfl)
def Zd:MC:=(λx(_:x=gC tt [] [] [] (gB Tryz.f302))=>x) _ (by dsimp[Tryz.f302])
def ztw:WT Pg 302 3 Zd [.tmp 2]:=wT gD Tryz.func302 (by kernel_rfl)
def Ze:MC:=(λx(_:x=gC tt [] [] [] (gB Tryz.f303))=>x) _ (by dsimp[Tryz.f303])
def zwl:WT Pg 303 3 Ze [.tmp 2]:=wT gD Tryz.func303 (by kernel_rfl)
def Zf:MC:=(λx(_:x=gC tt [] [] [] (gB Tryz.f304))=>x) _ (by dsimp[Tryz.f304])
def zrz:WT Pg 304 3 Zf [.tmp 2]:=wT gD Tryz.func304 (by kernel_rfl)
def Zg:MC:=(λx(_:x=gC tt [] [] [] (gB Tryz.f305))=>x) _ (by dsimp[Tryz.f305])
def ztx:WT Pg 305 3 Zg [.tmp 2]:=wT gD Tryz.func305 (by kernel_rfl)
def Gb:MC:=(λx(_:x=gC tt [(11,109),(11,64)] [] [] (gB Tryz.f69))=>x) _ (by dsimp[Tryz.f69])
def Ji:WX Pg 69 17 Gb [.tmp 4]:=wX gD Tryz.func69 (by kernel_rfl)
def Gc:MC:=(λx(_:x=gC tt [(11,64),(11,109)] [] [] (gB Tryz.f68))=>x) _ (by dsimp[Tryz.f68])
def Jj:WX Pg 68 36 Gc [.tmp 4]:=wX gD Tryz.func68 (by kernel_rfl)
def Ox:List Nat:=[1,5,25,26,27]
def Zh:MC:=(λx(_:x=gC tt [(11,62)] [] [] (iL 0 (gB Tryz.f60)))=>x) _ (by dsimp[Tryz.f60])
def Oy:MC:=(λx(_:x=gC tt [(11,64)] [] [(0,Zh)] (gB Tryz.f60))=>x) _ (by dsimp[Tryz.f60])
def Zi:WX Pg 60 46 Oy [.tmp 4]:=wX gD Tryz.func60 (by kernel_rfl)
def EG:MC:=(λx(_:x=gC tt [(11,105),(11,64)] [] [] (gB Tryz.f61))=>x) _ (by dsimp[Tryz.f61])
def Gd:WX Pg 61 28 EG [.tmp 6]:=wX gD Tryz.func61 (by kernel_rfl)
def Zj:MC:=(λx(_:x=gC tt [] [] [] (gB Tryz.f104))=>x) _ (by dsimp[Tryz.f104])
def zAD:WT Pg 104 84 Zj [.tmp 6,.tmp 7]:=wT gD Tryz.func104 (by kernel_rfl)
def Zk:MC:=(λx(_:x=gC tt [] [(6,[0,0,3,0,0,24,7,127,255])] [] (gB Tryz.f150))=>x) _ (by dsimp[Tryz.f150])
def zvj:WT Pg 150 20 Zk [.tmp 4,.tmp 5,.tmp 6]:=wT gD Tryz.func150 (by kernel_rfl)
def Zl:MC:=(λx(_:x=gC tt [] [] [] (gB Tryz.f151))=>x) _ (by dsimp[Tryz.f151])
def zAE:WT Pg 151 4 Zl [.tmp 2]:=wT gD Tryz.func151 (by kernel_rfl)
def jY{ts:List (Nat × Nat)}(h:ts.length=0):ts=[]:=aa.1 h
def rJ(h n:Int):Value:=.iface 55 (.agg #[.int .i64 h,.int .i64 n])
def BD(h n:Int):gP Pg 64 [.c (.d (.int .i64 h)),.c (.d (.int .i64 n))] [] (.pan (rJ h n)) []:=by
 refine zyS ⟨by simp,by simp,by simp,by simp,by simp,by simp[live],by simp[live]⟩ λts hts ok hb c hN hp=>?_;obtain rfl:=jY hts;unfold Z5;simp[Ba,BZ,D5];exact fK [] [] (by simp)
def zD(b:Bool):gP Pg 57 [.c (.d (.bool b))] [] (if b=true then .ret (.tup [])else .pan (rJ 5 0)) []:=by
 refine zxL ?_ λts hts ok hb c hN hp=>?_
 ·cases b<;>exact⟨by simp,by simp,by simp,by simp,by simp,by simp[live],by simp[live]⟩
 obtain rfl:=jY hts;unfold Z4;cases b with
 |true=>
  simp;exact eH [] []
 |false=>
  simp;refine fQ [] (BD 5 0) (by simp) (λv e=>by cases e) λpv e=>?_;cases e;simp;exact fK [] [] (by simp)
def Gf(t:Nat × Nat)(body:List D)(es:List (List D)):D:=.ifc 108 false [.rp [.fn (.func 56) [.rp [lQ t] 0,.rp body 0,.rp [.sl false 1 es] 0],.sl true 5 []] 0]
theorem Zm(t:Nat × Nat)(body:List D)(es:List (List D)):fu Pg 26 [.one (lQ t),.agg body,.one (.sl false 1 es)] (.one (Gf t body es).er):=by
 refine zpZ (by simp) λo c hN hp=>?_;unfold Z0;have h1:(lQ t).one=true:=rfl;simp[h1,Gf]
def zFu(n:Int):fu Pg 302 [.one (.int .i64 n)] (.one (.int .i64 2)):=by
 refine ztw (by simp) λo c hN hp=>?_;unfold Zd;simp
def zCn(b:Bool):fu Pg 301 [.one (.bool b)] (.one (.int .i64 1)):=by
 refine zuz (by simp) λo c hN hp=>?_;unfold Zc;simp
def zFv(s:di):fu Pg 303 [.one (.str s)] (.one (.int .i64 3)):=by
 refine zwl (by simp) λo c hN hp=>?_;unfold Ze;simp
def zGL(d:D):fu Pg 304 [.one d] (.one (.int .i64 5)):=by
 refine zrz (by simp) λo c hN hp=>?_;unfold Zf;simp
def zFw(d:D):fu Pg 305 [.one d] (.one (.int .i64 4)):=by
 refine ztx (by simp) λo c hN hp=>?_;unfold Zg;simp
def zDT:fu Pg 300 [.agg []] (.one (.int .i64 0)):=by
 refine zvi (by simp) λo c hN hp=>?_;unfold Zb;simp
def Ce(n:Int):gP Pg 105 [.c (.d (.ifc 104 false [.int .i64 n]))] [] (.ret (.c (.d (.int .i64 n)))) []:=by
 refine Z7 ⟨by simp,by simp,by simp,by simp,by simp,by simp[live],by simp[live]⟩ λts hts ok hb c hN hp=>?_;obtain rfl:=jY hts;unfold Ot;simp;refine fQ [] (zD true) (by simp) (λv e=>?_) (λpv e=>by cases e);cases e;simp;exact eH [] []
def Zn{t:TypeId}{g:Bool}{cs:List D}(h:t≠104):gP Pg 105 [.c (.d (.ifc t g cs))] [] (.pan (rJ 5 0)) []:=by
 refine Z7 ⟨by simp,by simp,by simp,by simp,by simp,by simp[live],by simp[live]⟩ λts hts ok hb c hN hp=>?_;obtain rfl:=jY hts;unfold Ot;simp[h];refine fQ [] (zD false) (by simp) (λv e=>by cases e) λpv e=>?_;cases e;simp;exact fK [] [] (by simp)
def Zo(b:Bool):gP Pg 27 [.c (.d (.ifc 103 false [.bool b]))] [] (.ret (.c (.d (.bool b)))) []:=by
 refine Z6 ⟨by simp,by simp,by simp,by simp,by simp,by simp[live],by simp[live]⟩ λts hts ok hb c hN hp=>?_;obtain rfl:=jY hts;unfold Oq;simp;refine fQ [] (zD true) (by simp) (λv e=>?_) (λpv e=>by cases e);cases e;simp;exact eH [] []
def Zp{t:TypeId}{g:Bool}{cs:List D}(h:t≠103):gP Pg 27 [.c (.d (.ifc t g cs))] [] (.pan (rJ 5 0)) []:=by
 refine Z6 ⟨by simp,by simp,by simp,by simp,by simp,by simp[live],by simp[live]⟩ λts hts ok hb c hN hp=>?_;obtain rfl:=jY hts;unfold Oq;simp[h];refine fQ [] (zD false) (by simp) (λv e=>by cases e) λpv e=>?_;cases e;simp;exact fK [] [] (by simp)
def EH(s:di):gP Pg 109 [.c (.d (.ifc 106 false [.str s]))] [] (.ret (.c (.d (.str s)))) []:=by
 refine Z8 ⟨by simp,by simp,by simp,by simp,by simp,by simp[live],by simp[live]⟩ λts hts ok hb c hN hp=>?_;obtain rfl:=jY hts;unfold Ou;simp;refine fQ [] (zD true) (by simp) (λv e=>?_) (λpv e=>by cases e);cases e;simp;exact eH [] []
def Zq{t:TypeId}{g:Bool}{cs:List D}(h:t≠106):gP Pg 109 [.c (.d (.ifc t g cs))] [] (.pan (rJ 5 0)) []:=by
 refine Z8 ⟨by simp,by simp,by simp,by simp,by simp,by simp[live],by simp[live]⟩ λts hts ok hb c hN hp=>?_;obtain rfl:=jY hts;unfold Ou;simp[h];refine fQ [] (zD false) (by simp) (λv e=>by cases e) λpv e=>?_;cases e;simp;exact fK [] [] (by simp)
def Oz(l:List D):gP Pg 59 [.c (.d (.ifc 109 false [.rp l 0]))] [] (.ret (.c (.d (.rp l 0)))) []:=by
 refine Z9 ⟨by simp,by simp,by simp,by simp,by simp,by simp[live],by simp[live]⟩ λts hts ok hb c hN hp=>?_;obtain rfl:=jY hts;unfold Ov;simp;refine fQ [] (zD true) (by simp) (λv e=>?_) (λpv e=>by cases e);cases e;simp;exact eH [] []
def Zr{t:TypeId}{g:Bool}{cs:List D}(h:t≠109):gP Pg 59 [.c (.d (.ifc t g cs))] [] (.pan (rJ 5 0)) []:=by
 refine Z9 ⟨by simp,by simp,by simp,by simp,by simp,by simp[live],by simp[live]⟩ λts hts ok hb c hN hp=>?_;obtain rfl:=jY hts;unfold Ov;simp[h];refine fQ [] (zD false) (by simp) (λv e=>by cases e) λpv e=>?_;cases e;simp;exact fK [] [] (by simp)
def zvm(l:List D):gP Pg 65 [.c (.d (.ifc 108 false [.rp l 0]))] [] (.ret (.c (.d (.rp l 0)))) []:=by
 refine Za ⟨by simp,by simp,by simp,by simp,by simp,by simp[live],by simp[live]⟩ λts hts ok hb c hN hp=>?_;obtain rfl:=jY hts;unfold Ow;simp;refine fQ [] (zD true) (by simp) (λv e=>?_) (λpv e=>by cases e);cases e;simp;exact eH [] []
def zwm{t:TypeId}{g:Bool}{cs:List D}(h:t≠108):gP Pg 65 [.c (.d (.ifc t g cs))] [] (.pan (rJ 5 0)) []:=by
 refine Za ⟨by simp,by simp,by simp,by simp,by simp,by simp[live],by simp[live]⟩ λts hts ok hb c hN hp=>?_;obtain rfl:=jY hts;unfold Ow;simp[h];refine fQ [] (zD false) (by simp) (λv e=>by cases e) λpv e=>?_;cases e;simp;exact fK [] [] (by simp)
def sK(s:di):D:=.ifc 106 false [.str s]
def zHN(u v:di)(hb:u.size+v.size<=1000000):gP Pg 69 [.c (.d (sK u)),.c (.d (sK v))] [] (if 4096<u.size+v.size then .pan (rJ 2 4)else .ret (.c (.d (sK (u++v))))) []:=by
 by_cases q:4096<u.size+v.size
 ·rw[aB q];refine Ji ⟨by simp,by simp,by simp,by simp,by simp,by simp[live],by simp[live]⟩ λts hts ok hb' c hN hp=>?_;obtain rfl:=jY hts;unfold Gb;simp;refine fQ [] (EH u) (by simp[sK]) (λw e=>?_) (λpv e=>by cases e);cases e;simp;refine fQ [] (EH v) (by simp[sK]) (λw e=>?_) (λpv e=>by cases e);cases e;simp;refine⟨by simp only[zao];omega,fM (λp=>?_) (λp=>?_)⟩
  ·refine fQ [] (BD 2 4) (by simp) (λv e=>by cases e) λpv e=>?_;cases e;simp;exact fK [] [] (by simp)
  ·simp at p;omega
 ·rw[aA q];refine Ji ⟨by simp,by simp,by simp,by simp,by simp,by simp[live,sK],by simp[live]⟩ λts hts ok hb' c hN hp=>?_;obtain rfl:=jY hts;unfold Gb;simp;refine fQ [] (EH u) (by simp[sK]) (λw e=>?_) (λpv e=>by cases e);cases e;simp;refine fQ [] (EH v) (by simp[sK]) (λw e=>?_) (λpv e=>by cases e);cases e;simp;refine⟨by simp only[zao];omega,fM (λp=>?_) (λp=>?_)⟩
  ·simp at p;omega
  ·exact eO [] [] (by simp[sK])
@[simp] theorem fw.get0(c:fw)(h:0<c.enc.length):c.enc[0]=.int .i64 c.kind:=by simp only[c.enc_eq];rfl
@[simp] theorem fw.get1(c:fw)(h:1<c.enc.length):c.enc[1]=.int .i64 c.n:=by simp only[c.enc_eq];rfl
@[simp] theorem fw.get2(c:fw)(h:2<c.enc.length):c.enc[2]=.str c.text:=by simp only[c.enc_eq];rfl
@[simp] theorem fw.get4(c:fw)(h:4<c.enc.length):c.enc[4]=.sl false 1 (encS c.names):=by simp only[c.enc_eq];rfl
@[simp] theorem fw.get5(c:fw)(h:5<c.enc.length):c.enc[5]=.sl false 4 (c.types.map fZ.enc):=by simp only[c.enc_eq];rfl
@[simp] theorem fw.get7(c:fw)(h:7<c.enc.length):c.enc[7]=.sl false 8 (c.kids.map fw.enc):=by simp only[c.enc_eq];rfl
mutual
def Val.enc(t:Nat × Nat):Val->D
|.null=>.ifc 71 true []
|.bool b=>.ifc 103 false [.bool b]
|.int n=>.ifc 104 false [.int .i64 n]
|.str s=>.ifc 106 false [.str s]
|.rcd ns vs=>.ifc 109 false [.rp [.mp (ns.map .str) (mF t vs),.sl true 5 []] 0]
|.fn b sc=>Gf t b.enc (rM t sc)
def mF(t:Nat × Nat):List Val->List D
|[]=>[]
|v::l=>v.enc t::mF t l
def rM(t:Nat × Nat):List Val->List (List D)
|[]=>[]
|v::l=>[v.enc t]::rM t l
end
def zB1(t:Nat × Nat):∀l:List Val,mF t l=l.map (Val.enc t)
|[]=>rfl
|v::l=>by rw[mF,zB1 t l];try rfl
def Gg(t:Nat × Nat):∀l:List Val,rM t l=l.map λv=>[v.enc t]
|[]=>rfl
|v::l=>by rw[rM,Gg t l];try rfl
@[simp] theorem zHP(t:Nat × Nat)(l:List Val):(rM t l).length=l.length:=by rw[Gg];simp
def PD(t:Nat × Nat)(l:List Val)(v:Val):rM t (l++[v])=rM t l++[[v.enc t]]:=by simp[Gg]
@[simp] theorem Val.enc_one(t:Nat × Nat)(v:Val):(v.enc t).one=true:=by cases v<;>rfl
abbrev BF(t:Nat × Nat)(sc:List Val):D:=.sl false 1 (rM t sc)
abbrev Jk(t:Nat × Nat)(sc:List Val):Blk:=.arr 1 ((rM t sc).map (·.map .d))
abbrev lA(s:RS):Blk:=.arr 1 ((encS s.lines).map (·.map .d))
abbrev ql(G:kK)(s:RS)(k:Nat):Blk:=.box [.d (.sl false 13 (G.funs.map kJ.enc)),.d (.int .i64 G.main),.d (.sl false 3 (G.sites.map Site.enc)),.d (.sl false 1 (encI s.input)),.d (.int .i64 s.fuel),.msl 1 k 0 s.lines.length]
abbrev rB(G:kK)(t:Nat × Nat)(s:RS):List Blk:=[ql G s 1,lA s,.pin t 0]
abbrev rA(G:kK)(t:Nat × Nat)(s:RS):List Blk:=[ql G s 3,.dead,.pin t 0,lA s]
abbrev rC(G:kK)(t:Nat × Nat)(s:RS):List Blk:=[ql G s 1,lA s,.pin t 0,.dead]
abbrev rE(G:kK)(t:Nat × Nat)(s:RS):List Blk:=[ql G s 4,.dead,.pin t 0,.dead,lA s]
def sW{α:Type}(V:α->AV):O α->XO
|.ok v _=>.ret (V v)
|.over h n _=>.pan (rJ h n)
|.bad=>.ret (.tup [])
def vH{α:Type}(B:RS->List Blk):O α->List Blk
|.ok _ s=>B s
|.over _ _ s=>B s
|.bad=>[]
@[simp] theorem zIg{α:Type}(V:α->AV)(v:α)(s:RS):sW V (.ok v s)=.ret (V v):=rfl
@[simp] theorem zH1{α:Type}(V:α->AV)(h n:Int)(s:RS):sW V (.over h n s)=.pan (rJ h n):=rfl
@[simp] theorem zIh{α:Type}(B:RS->List Blk)(v:α)(s:RS):vH B (.ok v s)=B s:=rfl
@[simp] theorem zH2{α:Type}(B:RS->List Blk)(h n:Int)(s:RS):vH B (.over h n s:O α)=B s:=rfl
@[simp] theorem Gh{α:Type}(r:O α):vH (λ_=>[]) r=[]:=by cases r<;>rfl
abbrev vC(t:Nat × Nat)(v:Val):AV:=.c (.d (v.enc t))
def wh{α:Type}{P:Program}{f:FuncId}{vs:List AV}{m:Hp}{n:Nat}{K:AV->List (Nat × Blk)->Nat->Prop}{Kp:Value->List (Nat × Blk)->Nat->Prop}{g:Tag (K,Kp)}(l:List Nat){args:List AV}{bs:List Blk}{r:O α}{B:RS->List Blk}{V:α->AV}(h:gP P f args bs (sW V r) (vH B r))(hr:r≠.bad)
  (hs:l.Nodup/\(∀i,i∈l->i<n)/\vs=AV.rens (gm l) args/\AV.lts l.length args=true/\(∀b,b∈bs->b.lt l.length=true)/\oN m (gm l) l bs)
  (k:∀v s,r=.ok v s->uJ m n ((B s).length-bs.length)/\K ((V v).ren (gm (l++gT n ((B s).length-bs.length)))) (ni (gm (l++gT n ((B s).length-bs.length))) (l++gT n ((B s).length-bs.length)) (B s)) (n+((B s).length-bs.length)))
  (kp:∀w z s,r=.over w z s->uJ m n ((B s).length-bs.length)/\Kp (rJ w z) (ni (gm (l++gT n ((B s).length-bs.length))) (l++gT n ((B s).length-bs.length)) (B s)) (n+((B s).length-bs.length))):Da P f vs m n K Kp g:=by
 obtain⟨a,b,c,d,e,f'⟩:=hs;cases r with
 |bad=>exact absurd rfl hr
 |ok v s=>
  obtain⟨z,k1⟩:=k v s rfl;refine fQ l h ⟨a,b,c,d,e,f',z⟩ (λv h=>?_) (λv h=>by cases h);cases h;exact k1
 |over w x s=>
  obtain⟨z,k1⟩:=kp w x s rfl;refine fQ l h ⟨a,b,c,d,e,f',z⟩ (λv h=>by cases h) (λv h=>?_);cases h;exact k1
def Cf{α:Type}{P:Program}{f:FuncId}{vs:List AV}{m:Hp}{n:Nat}{K:AV->List Nat->List (Nat × Blk)->Nat->Prop}{Kp:Value->List (Nat × Blk)->Nat->Prop}{g:Tag (K,Kp)}(l:List Nat){args:List AV}{bs:List Blk}{r:O α}{B:RS->List Blk}{V:α->AV}(h:gP P f args bs (sW V r) (vH B r))(hr:r≠.bad)
  (hs:l.Nodup/\(∀i,i∈l->i<n)/\vs=AV.rens (gm l) args/\AV.lts l.length args=true/\(∀b,b∈bs->b.lt l.length=true)/\oN m (gm l) l bs)
  (k:∀v s,r=.ok v s->uJ m n ((B s).length-bs.length)/\K ((V v).ren (gm (l++gT n ((B s).length-bs.length)))) [] (ni (gm (l++gT n ((B s).length-bs.length))) (l++gT n ((B s).length-bs.length)) (B s)) (n+((B s).length-bs.length)))
  (kp:∀w z s,r=.over w z s->uJ m n ((B s).length-bs.length)/\Kp (rJ w z) (ni (gm (l++gT n ((B s).length-bs.length))) (l++gT n ((B s).length-bs.length)) (B s)) (n+((B s).length-bs.length))):Ef P f vs m n K Kp g:=by
 obtain⟨a,b,c,d,e,f'⟩:=hs;cases r with
 |bad=>exact absurd rfl hr
 |ok v s=>
  obtain⟨z,k1⟩:=k v s rfl;refine fT l h ⟨a,b,c,d,e,f',z⟩ (λv h=>?_) (λv h=>by cases h);cases h;exact k1
 |over w x s=>
  obtain⟨z,k1⟩:=kp w x s rfl;refine fT l h ⟨a,b,c,d,e,f',z⟩ (λv h=>by cases h) (λv h=>?_);cases h;exact k1
def Val.ty:Val->Nat
|.null=>71|.bool _=>103|.int _=>104|.str _=>106|.rcd _ _=>109|.fn _ _=>108
def Val.ag:Val->Bool
|.null=>true|_=>false
def Val.cs(t:Nat × Nat):Val->List D
|.null=>[]
|.bool b=>[.bool b]
|.int n=>[.int .i64 n]
|.str s=>[.str s]
|.rcd ns vs=>[.rp [.mp (ns.map .str) (mF t vs),.sl true 5 []] 0]
|.fn b sc=>[.rp [.fn (.func 56) [.rp [lQ t] 0,.rp b.enc 0,.rp [.sl false 1 (rM t sc)] 0],.sl true 5 []] 0]
def Val.enc_eq(t:Nat × Nat)(v:Val):v.enc t=.ifc v.ty v.ag (v.cs t):=by cases v<;>rfl
structure ji (X:jP) (ord:List di->List di):Prop where
 bin:∀op a b:Int,fu Pg 104 [.one (.int .i64 op),.one (.int .i64 a),.one (.int .i64 b)] (.tup [.one (.int .i64 (X.bin op a b).1),.one (.int .i64 (X.bin op a b).2)])
 show_:∀n:Int,fu Pg 21 [.one (.int .i64 n)] (.one (.str (X.show_ n)))
 show_sz:∀n:Int,(X.show_ n).size<=1000
 told:∀(t:Nat × Nat) (T:Nat) (v:Val),T<=40000000->okV 120006 T v->fu Pg 12 [.one (v.enc t)] (.one (.str (X.told v)))
 told_sz:∀(T:Nat) (v:Val),T<=40000000->okV 120006 T v->(X.told v).size<=1000000000000000
 keys:∀(t:Nat × Nat) (ns:List di) (vs:List Val),ns.Nodup->ns.length=vs.length->ns.length<=1000000000->MCall Pg 24 [.c (.d (.mp (ns.map .str) (mF t vs)))] [] (.c (.fn (.func 52) [.ptr 0 0])) [.box [.d (.mp (ns.map .str) (mF t vs))]]/\
  MCall Pg 23 [.c (.fn (.func 52) [.ptr 0 0])] [.box [.d (.mp (ns.map .str) (mF t vs))]] (.c (.d (.sl false 1 (encS (ord ns))))) [.box [.d (.mp (ns.map .str) (mF t vs))]]
 cst:∀(a b:fZ) (n:Int) (l:List Int),X.cst a b n=some l->∃C:iJ,fu Pg 63 [.agg a.enc,.agg b.enc,.one (.int .i64 n)] (.agg C.enc)/\C.tags=l/\C.needs=[]/\4<=l.length
 cstr:∀(a b:fZ) (n:Int) (l:List Int),X.cst a b n=some l->∀x,x∈l->0<=x/\x<=1000000000
 ords:∀l:List di,l.Nodup->(ord l).Nodup/\(ord l).length=l.length/\∀x,x∈ord l↔x∈l
section
variable {X:jP} {ord:List di->List di} (hX:ji X ord)
include hX
def zGz(op m n:Int):gP Pg 61 [.c (.d (.int .i64 op)),.c (.d (.ifc 104 false [.int .i64 m])),.c (.d (.ifc 104 false [.int .i64 n]))] [] (if(X.bin op m n).2=23 then .pan (rJ 2 1)else .ret (.c (.d (if 9<=op then .ifc 103 false [.bool (decide ((X.bin op m n).1=1))]else .ifc 104 false [.int .i64 (X.bin op m n).1])))) []:=by
 by_cases q:(X.bin op m n).2=23
 ·rw[aB q];refine Gd ⟨by simp,by simp,by simp,by simp,by simp,by simp[live],by simp[live]⟩ λts hts ok hb c hN hp=>?_;obtain rfl:=jY hts;unfold EG;simp;refine fQ [] (Ce m) (by simp) (λw e=>?_) (λpv e=>by cases e);cases e;simp;refine fQ [] (Ce n) (by simp) (λw e=>?_) (λpv e=>by cases e);cases e;simp;refine fU (hX.bin op m n) ?_;simp[q];refine fQ [] (BD 2 1) (by simp) (λv e=>by cases e) λpv e=>?_;cases e;simp;exact fK [] [] (by simp)
 ·rw[aA q];by_cases q9:9<=op
  ·rw[aB q9];refine Gd ⟨by simp,by simp,by simp,by simp,by simp,by simp[live],by simp[live]⟩ λts hts ok hb c hN hp=>?_;obtain rfl:=jY hts;unfold EG;simp;refine fQ [] (Ce m) (by simp) (λw e=>?_) (λpv e=>by cases e);cases e;simp;refine fQ [] (Ce n) (by simp) (λw e=>?_) (λpv e=>by cases e);cases e;simp;refine fU (hX.bin op m n) ?_;simp[q,q9];exact eH [] []
  ·rw[aA q9];refine Gd ⟨by simp,by simp,by simp,by simp,by simp,by simp[live],by simp[live]⟩ λts hts ok hb c hN hp=>?_;obtain rfl:=jY hts;unfold EG;simp;refine fQ [] (Ce m) (by simp) (λw e=>?_) (λpv e=>by cases e);cases e;simp;refine fQ [] (Ce n) (by simp) (λw e=>?_) (λpv e=>by cases e);cases e;simp;refine fU (hX.bin op m n) ?_;simp[q,q9];exact eH [] []
omit hX
def zFo(t:Nat × Nat)(op:Int)(a b:Val)(h:a.ty≠104):gP Pg 61 [.c (.d (.int .i64 op)),vC t a,vC t b] [] (.pan (rJ 5 0)) []:=by
 simp only[vC];rw[Val.enc_eq t a,Val.enc_eq t b];refine Gd ⟨by simp,by simp,by simp,by simp,by simp,by simp[live],by simp[live]⟩ λts hts ok hb c hN hp=>?_;obtain rfl:=jY hts;unfold EG;simp;refine fQ [] (Zn (t:=a.ty) (g:=a.ag) (cs:=a.cs t) h) (by simp) (λv e=>by cases e) λpv e=>?_;cases e;simp;exact fK [] [] (by simp)
def zFp(t:Nat × Nat)(op m:Int)(b:Val)(h:b.ty≠104):gP Pg 61 [.c (.d (.int .i64 op)),vC t (.int m),vC t b] [] (.pan (rJ 5 0)) []:=by
 simp only[vC];rw[Val.enc_eq t (.int m),Val.enc_eq t b];refine Gd ⟨by simp,by simp,by simp,by simp,by simp,by simp[live],by simp[live]⟩ λts hts ok hb c hN hp=>?_;obtain rfl:=jY hts;unfold EG;simp;refine fQ [] (Ce m) (by simp[Val.ty,Val.ag,Val.cs]) (λw e=>?_) (λpv e=>by cases e);cases e;simp;refine fQ [] (Zn (t:=b.ty) (g:=b.ag) (cs:=b.cs t) h) (by simp) (λv e=>by cases e) λpv e=>?_;cases e;simp;exact fK [] [] (by simp)
include hX
def Zt(t:Nat × Nat)(op:Int)(a b:Val)(s:RS):gP Pg 61 [.c (.d (.int .i64 op)),vC t a,vC t b] [] (sW (vC t) (o5 X op a b s)) []:=by
 by_cases ha:a.ty=104
 ·cases a with
  | int m=>
   by_cases hb:b.ty=104
   ·cases b with
    | int n=>
     have h:=zGz hX op m n;unfold o5;by_cases q:(X.bin op m n).2=23
     ·simp only[aB q]at h⊢;exact h
     ·simp only[aA q]at h⊢;by_cases q9:9<=op
      ·simp only[aB q9]at h⊢;exact h
      ·simp only[aA q9]at h⊢;exact h
    |_=>exact absurd hb (by simp[Val.ty])
   ·have h:=zFp t op m b hb;cases b with
    |int n=>exact absurd rfl hb
    |_=>exact h
  |_=>exact absurd ha (by simp[Val.ty])
 ·have h:=zFo t op a b ha;cases a with
  |int n=>exact absurd rfl ha
  |_=>exact h
end
def uF(a b:Int):Int × Int × Int:=if b=0 then(0,0,23)else if b= -1 then(IntKind.i64.wrap (-a),0,0)else(IntKind.i64.wrap (a.tdiv b),a.tmod b,0)
def Zu(a b:Int):fu Pg 150 [.one (.int .i64 a),.one (.int .i64 b)] (.tup [.one (.int .i64 (uF a b).1),.one (.int .i64 (uF a b).2.1),.one (.int .i64 (uF a b).2.2)]):=by
 unfold uF;refine zvj (by simp) λo c hN hp=>?_;unfold Zk;simp;apply fM<;>intro q
 ·have q:b=0:=by simpa using q
  simp[q]
 ·have q:¬b=0:=by simpa using q
  apply fM<;>intro q1
  ·have q1:b= -1:=by simpa using q1
   simp[q1]
  ·have q1:¬b= -1:=by simpa using q1
   simp[q,q1];rfl
def Zv(b:Bool):fu Pg 151 [.one (.bool b)] (.one (.int .i64 (if b=true then 1 else 0))):=by
 refine zAE (by simp) λo c hN hp=>?_;unfold Zl;cases b<;>simp
def AP(op a b:Int):Int × Int:=
 if op=0 then(IntKind.i64.wrap (a+b),0)
 else if op=1 then(IntKind.i64.wrap (a-b),0)
 else if op=2 then(IntKind.i64.wrap (a*b),0)
 else if op=3 then((uF a b).1,(uF a b).2.2)
 else if op=4 then((uF a b).2.1,(uF a b).2.2)
 else if op=5 then(IntKind.i64.wrap (IntKind.u64.wrap (IntKind.u64.wrap a*2^min ((IntKind.u64.wrap b).tmod 64).toNat 64)),0)
 else if op=6 then(a.fdiv (2^min ((IntKind.u64.wrap b).tmod 64).toNat 64),0)
 else if op=7 then(IntKind.i64.wrap (BitVec.ofInt 64 a&&&BitVec.ofInt 64 b).toNat,0)
 else if op=8 then(IntKind.i64.wrap (BitVec.ofInt 64 a^^^BitVec.ofInt 64 b).toNat,0)
 else if op=9 then(if decide (a<b)=true then 1 else 0,0)
 else if op=10 then(if decide (a<=b)=true then 1 else 0,0)
 else(0,1)
def zGa(op a b:Int):fu Pg 104 [.one (.int .i64 op),.one (.int .i64 a),.one (.int .i64 b)] (.tup [.one (.int .i64 (AP op a b).1),.one (.int .i64 (AP op a b).2)]):=by
 have h64:0<=(IntKind.u64.wrap b).tmod 64:=dR 64 (by have:=(Cz .u64 b).1;exact this);refine zAD (by simp) λo c hN hp=>?_;unfold Zj;unfold AP;by_cases h0:op=0
 ·subst h0;simp
 by_cases h1:op=1
 ·subst h1;simp
 by_cases h2:op=2
 ·subst h2;simp
 by_cases h3:op=3
 ·subst h3;simp;refine fU (Zu a b) ?_;simp
 by_cases h4:op=4
 ·subst h4;simp;refine fU (Zu a b) ?_;simp
 by_cases h5:op=5
 ·subst h5;simp;exact⟨h64,rfl⟩
 by_cases h6:op=6
 ·subst h6;simp;exact⟨h64,rfl⟩
 by_cases h7:op=7
 ·subst h7;simp;rfl
 by_cases h8:op=8
 ·subst h8;simp;rfl
 by_cases h9:op=9
 ·subst h9;simp;refine fU (Zv _) ?_;simp
 by_cases h10:op=10
 ·subst h10;simp;refine fU (Zv _) ?_;simp
 simp[h0,h1,h2,h3,h4,h5,h6,h7,h8,h9,h10]
end Go.Gr
